/- absorber.out, and what hashes with it; absorber.frame; the reference's Frame; Hash, stream and Stream of the sponge; sponge.tag and sponge.Tag; mintvaultlaw1.SpongeTurns: the walk of the law; The reference's Hash and Stream; the law SpongeHashes; Arguments that were handed in, opened into the words of Mem; The reference's Tag; One-cell literals of any kind; owned slices and other blocks; Literals of n one-cell elements; loads and stores of structs by value; A log of the sponge, the reference's: NewLog, Say, Ask, Clone; store: plain. What an opening holds, record by record; store: plain. Where the records lie on the disk; append onto an owned slice, once more: what lay ahead of the new cells is kept, in the old block too; What a call knows of the blocks that are its own: one fact for all of them; A region that draws its order, under a condition S on the world that holds till the last operations begin: the head (reads, calls) in an order of the prover's choice, behind it the tail (a store, as a rule) in the text's order; A region that draws its order, as XTail's, where two operations of the head may come in either order (an allocation and a call); Slices of the call's own that lie apart: one fact for all of them; A store in memory: its five cells, its bytes, where its records lie; The tree, plain: what a path leads to, from its end (the document) and from its beginning (the program); The tree: node, leafHash, bytes.Equal, sized, lists, small; the reference's leaf, node, half, sized; SpongeLogs: what stays of many logs, step by step; mintvaultlaw8.lists, small: lists of strings as lists of bytes; bytes.Clone; lists of owned slices of bytes that lie apart; store: big, numberOf, frame; A region that draws its order, by a plan: operations that only yield values are taken ahead (w: in whatever world; t: under a condition S on the world, that holds till operation m is carried out), the others are carried out when nothing else can come (r, m), or in either order (b); store: write, put; An empty slice literal; store: put, Add; store: Add, Arm, Len, Disk, New. -/
import Derived.Test.YtdadnajbdnbbdaaMgStoreTrueProof1
import Derived.SliceStrings
import Derived.SizedLaws
import Derived.OpenShut
import Derived.ProofKit
import Derived.OrdersHeld
import Derived.StillTail
import Derived.Deep.MidRow
import Derived.Deep.RegionHeld3
import Derived.IntWalk
namespace Go.Proofs.Ytdadnajbdnbbdaa
open Go.RowKit Go.Mv Mvp
theorem squeeze_zero (S : List UInt64) : squeeze S 0 = [] := by unfold squeeze; rfl
theorem permN_zero (S : List UInt64) : permN S 0 = S := by unfold permN; rfl
/-- `v[:n:n]` of an owned slice is owned -/
theorem own_cut {w : World} {base : Nat} {T : TypeId} {a : Option Addr} {m c : Nat} {L : List Value} (h : Own w base T 1 (.slice a m c) m L) (n : Nat) (hn : n ≤ m) : Own w base T 1 (.slice a n n) n (L.take n) := by
  obtain ⟨hl, h | ⟨g, o, cap, B, hv, hb, hg, h1, h2, h3, h4⟩⟩ := h
  · obtain ⟨hv, hm⟩ := h
    cases hv
    have : n = 0 := by omega
    subst this
    exact ⟨by simp, .inl ⟨rfl, rfl⟩⟩
  · cases hv
    refine ⟨by rw [List.length_take]; omega, .inr ⟨g, o, n, B, rfl, hb, hg, Nat.le_refl _, by omega, by omega, ?_⟩⟩
    rw [← h4, List.take_take]
    congr 1
    omega
attribute [local irreducible] permS permP toB turnsK squeeze permN
theorem last_eq (k : Nat) (e : UInt8) (h : k < 136) : ((List.replicate 136 (0 : UInt8)).set k e).set 135 (bx (((List.replicate 136 (0 : UInt8)).set k e).getD 135 0) 0x80) = List.replicate k 0 ++ padL k e := by
  have h1 : (List.replicate 136 (0 : UInt8)).set k e = List.replicate k 0 ++ (e :: List.replicate (135 - k) 0) := by
    have : (List.replicate 136 (0 : UInt8)) = List.replicate k 0 ++ (0 :: List.replicate (135 - k) 0) := by
      rw [← List.replicate_succ, List.replicate_append_replicate]; congr 1; omega
    rw [this, List.set_append_right _ _ (by simp)]
    simp
  have h2 : (List.replicate k 0 ++ (e :: List.replicate (135 - k) 0)).getD 135 0 = (e :: List.replicate (135 - k) 0).getD (135 - k) 0 := by
    rw [List.getD_eq_getElem?_getD, List.getD_eq_getElem?_getD, List.getElem?_append_right (by simp; omega), List.length_replicate]
  rw [h1, h2, List.set_append_right _ _ (by simp; omega)]
  simp only [List.length_replicate, padL]
theorem pieces_lt (n j : Nat) : 136 * j < n ↔ j < pieces n := by unfold pieces; omega

set_option maxHeartbeats 2000000 in
set_option maxRecDepth 1000000 in
theorem out_any (g : Nat) (S : List UInt64) (k : Nat) (e : UInt8) (n : Nat) (w : World) (hS : S.length = 25) (hk : k < 136) (hn : n ≤ 20000) (hg : Has w g (abs (S, k)) 108) :
    Calls Try.prog 53 #[.pointer (some ⟨g, 0, none⟩), .int .u8 (e.toNat : Int), .int .i64 (n : Int)] w fun r w' => ∃ v, r = .returned v ∧ Own w' w.heap.size 5 1 v n (bs (outB (ended (S, k) e) n)) ∧ Fr (One g) w w' := by
  go_enter Try.func53, Try.ntmps53
  go_wp2_with (with_reducible refine wl_stop (o := ⟨_, .alloc 111, _, _, _, _⟩) ?_)
  refine wl_alloc rfl rfl zero_a136 (bs (List.replicate 136 0)) (by simp [Value.cells]) ?_
  intro w1 hl1 hf1 hz1
  have hg1 := hg.keep hf1 id
  have hgl := hg.lt
  have hfr1 : Fr (One g) w w1 := (Fr.refl (One g) w).same hf1
  have hb0 : w.heap.size ≤ w1.heap.size := hf1.size
  generalize hgl0 : w.heap.size = gl at *
  have HGL := Lib.hid hgl0; clear hgl0
  clear hf1 hz1 hg
  have hc25 : w1.cell? ⟨g, 25, none⟩ = some (.int .i64 (k : Int)) := hg1.cell (abs_at (S, k) hS)
  obtain ⟨vk, hck, hfk⟩ := hl1.ready (i := k) (by rw [length_bs]; simpa using hk)
  have hkI : (k : Int) < 136 := by omega
  go_wp2_with (with_reducible refine wl_stop (o := ⟨some 15, _, _, _, _, _⟩) ?_)
  have hl2 := hl1.set k (.int .u8 (e.toNat : Int))
  rw [bs_set] at hl2
  have hg2 := hg1.other (g' := gl) k none (.int .u8 (e.toNat : Int)) (by omega)
  have hfr2 : Fr (One g) w (w1.setCell ⟨gl, k, none⟩ (.int .u8 (e.toNat : Int))) := hfr1.setCell gl k none _ (fun h => by have := HGL.out; omega)
  have hsz2 : gl < (w1.setCell ⟨gl, k, none⟩ (.int .u8 (e.toNat : Int))).heap.size := hl2.lt
  generalize w1.setCell ⟨gl, k, none⟩ (.int .u8 (e.toNat : Int)) = w2 at *
  clear hl1 hg1 hfr1 hc25 hck hfk hb0
  have hc135 : w2.cell? ⟨gl, 135, none⟩ = some (.int .u8 ((((List.replicate 136 (0 : UInt8)).set k e).getD 135 0).toNat : Int)) := hl2.cell (bs_get _ _ (by simp))
  have hf135 : w2.frozen? ⟨gl, 135, none⟩ = false := hl2.free _ (by rw [length_bs]; simp)
  generalize hy : ((List.replicate 136 (0 : UInt8)).set k e).getD 135 0 = y at hc135
  have HY := Lib.hid hy; clear hy
  show wpList _ _ _ _ _ _
  go_wp2_with fail
  have hbx : bits BinOp.xor IntKind.u8 (y.toNat : Int) 128 = ((bx y 128).toNat : Int) := xor8_run y 128
  rw [hbx]
  have hl3 := hl2.set 135 (.int .u8 ((bx y 0x80).toNat : Int))
  rw [bs_set, ← HY.out, last_eq k e hk] at hl3
  rw [HY.out] at hl3
  have hg3 := hg2.other (g' := gl) 135 none (.int .u8 ((bx y 128).toNat : Int)) (by omega)
  have hfr3 : Fr (One g) w (w2.setCell ⟨gl, 135, none⟩ (.int .u8 ((bx y 128).toNat : Int))) := hfr2.setCell gl 135 none _ (fun h => by have := HGL.out; omega)
  generalize w2.setCell ⟨gl, 135, none⟩ (.int .u8 ((bx y 128).toNat : Int)) = w3 at *
  have hpl : (padL k e).length = 136 - k := padL_len k e hk
  have hne : g ≠ gl := by omega
  clear hl2 hg2 hfr2 hc135 hf135 hbx hsz2 HY
  have e1 : ∀ wx, (Instr.sliceAt 111 (.pointer (some ⟨gl, 0, none⟩)) none none none).run Try.prog wx = .ok (.slice (some ⟨gl, 0, none⟩) 136 136) wx := fun wx => run_sliceA_all wx Try.underlying111 size_u8 gl 0
  refine wp_region_still_tail 4 (by kernel_rfl) (by kernel_rfl) ?_
  simp only [List.take_succ_cons, List.take_zero, List.drop_succ_cons, List.drop_zero]
  repeat still_step
  refine wpStill_nil ?_
  show wpList _ _ _ _ _ w3.drew
  go_wp2_with fail
  have hrd : RdB w3.drew (some ⟨gl, 0, none⟩) 136 (List.replicate k 0 ++ padL k e) := by
    have := Rd.whole hl3.drew
    rwa [length_bs, List.length_append, List.length_replicate, hpl, show k + (136 - k) = 136 by omega] at this
  refine (xor_any g S [.int .i64 (k : Int)] 108 _ 136 _ _ _ hS (by omega) hg3.drew hrd (fun x hx (e : x.block = g) => by simp only [Option.some.injEq] at hx; subst hx; simp at e; omega)).mono ?_
  rintro e w4 ⟨rfl, hg4, hf4, hz4⟩
  have hxb : xorB S (List.replicate k 0 ++ padL k e) 136 = xorAt S k (padL k e) := by
    have := xorB_piece S k (padL k e) []
    rwa [List.append_nil, hpl, show k + (136 - k) = 136 by omega] at this
  rw [hxb, abs_def] at hg4
  have hfr4 : Fr (One g) w w4 := hfr3.drew.trans hf4 (fun _ _ t => t)
  have hend : ended (S, k) e = permS (xorAt S k (padL k e)) := by
    unfold ended
    rw [feed_full _ _ _ (by simp only [hpl]; omega) hk]
  have hxl : (xorAt S k (padL k e)).length = 25 := by rw [xorAt_len, hS]
  clear hl3 hg3 hfr3 e1 hrd hf4 hz4 hxb hpl
  generalize xorAt S k (padL k e) = X at *
  have HEND := Lib.hid hend; clear hend
  go_wp2_with fail
  refine (permute_abs g X k _ hxl hg4).mono ?_
  rintro e w5 ⟨rfl, hg5, hf5⟩
  have hfr5 : Fr (One g) w w5 := hfr4.trans hf5 (fun _ _ t => t)
  have hS5 : (permS X).length = 25 := by rw [permS_len, hxl]
  generalize permS X = S0 at *
  clear hg4 hfr4 hf5 hxl hS
  go_wp2_with fail
  go_loopw [8] (fun v wr => ∃ j, j ≤ pieces n ∧ Own wr w.heap.size 5 1 v (136 * j) (bs (squeeze S0 j)) ∧ Has wr g (abs (permN S0 j, k)) 108 ∧ Fr (One g) w wr) (fun v _ => n - lenV v)
  case atStart => exact ⟨0, Nat.zero_le _, by rw [squeeze_zero]; exact Own.nil _ _ _ _, by rw [permN_zero]; exact hg5, hfr5⟩
  case round =>
    obtain ⟨j, hj, hown, hgj, hfj⟩ := hrel
    clear hg5 hfr5
    have hjn := pieces_lt n j
    obtain ⟨a, cap, rfl, hcap, hrdj, hna⟩ := hown.form
    by_cases hlt : 136 * j < n
    · have hltI : 136 * (j : Int) < (n : Int) := by omega
      have hpj : (permN S0 j).length = 25 := by rw [permN_len, hS5]
      have hjp : j + 1 ≤ pieces n := hjn.1 hlt
      have HJN := Lib.hid hjn; clear hjn
      have HLT := Lib.hid hlt; clear hlt
      clear hrdj hna
      go_wp2_with fail
      rw [← abs_def] at hgj
      refine (bytes_any g (permN S0 j) [.int .i64 (k : Int)] 108 136 _ hpj (by omega) hgj).mono ?_
      rintro e w6 ⟨rfl, ht6, hf6, hz6⟩
      have hg6 := hgj.keep hf6 id
      rw [abs_def] at hg6
      have hown6 := hown.still hf6
      have hfr6 : Fr (One g) w w6 := hfj.same hf6
      have hwb : w.heap.size ≤ wr.heap.size := hfj.size
      have hgb : g < w.heap.size := by have := HGL.out; omega
      generalize wr.heap.size = gt at *
      clear hgj hown hfj hf6
      go_wp2_with (with_reducible refine wl_stop (o := ⟨some 37, _, _, _, _, _⟩) ?_)
      have hrd6 : Rd w6 (some ⟨gt, 0, none⟩) (136 * 1) (bs (toB (permN S0 j) 136)) := by
        have := Rd.whole ht6
        rwa [length_bs, toB_len] at this
      refine wl_append rfl rfl Try.underlying22 info_u8 rfl (by decide) hown6 rfl rfl hrd6 (bs_one _) (by unfold maxLen; omega) (by omega) hfr6.size ?_
      intro v7 w7 hown7 hf7 hb7
      have hg7 := hg6.keep hf7 (fun hh => by have := hown6.lt hh; omega)
      have hfr7 : Fr (One g) w w7 := hown6.fr hfr6 (Nat.le_refl _) hf7
      rw [← bs_append, ← squeeze_succ] at hown7
      clear ht6 hg6 hown6 hfr6 hrd6 hf7 hb7
      go_wp2_with fail
      refine (permute_abs g _ k _ hpj hg7).mono ?_
      rintro e w8 ⟨rfl, hg8, hf8⟩
      rw [← permN_succ] at hg8
      have hown8 := hown7.keep hf8 (fun k' hk' (h : k' = g) => by have := hown7.lt hk'; omega)
      have hfr8 : Fr (One g) w w8 := hfr7.trans hf8 (fun _ _ t => t)
      clear hg7 hown7 hfr7 hf8
      go_wp2_with fail
      go_roundw
      case rel => exact ⟨j + 1, hjp, hown8, hg8, hfr8⟩
      case measure =>
        obtain ⟨a8, c8, rfl, _⟩ := hown8.form
        have := HLT.out
        simp [lenV]; omega
    · have hge : ¬ (136 * (j : Int) < (n : Int)) := by omega
      have hjp : j = pieces n := by have := hjn.2; omega
      have HJP := Lib.hid hjp; clear hjp
      have HJN := Lib.hid hjn; clear hjn
      have hnc : n ≤ cap := by omega
      have hnI : ¬ (n : Int) < 0 := by omega
      clear hgj
      go_wp2_with (with_reducible refine wl_stop (o := ⟨some 45, _, _, _, _, _⟩) ?_)
      refine wl_cut3 rfl rfl Try.underlying22 size_u8 rfl 0 n n rfl rfl rfl rfl rfl (Nat.zero_le _) (Nat.le_refl _) hnc ?_
      go_wp2_with fail
      go_ret
      rw [cutAt_0]
      refine ⟨_, rfl, ?_, hfj⟩
      have hsq : bs (outB (ended (S, k) e) n) = (bs (squeeze S0 j)).take n := by
        rw [HEND.out, HJP.out, outB, bs_take]
      rw [hsq]
      exact own_cut hown n (by omega)
end Go.Proofs.Ytdadnajbdnbbdaa

/- absorber.frame; the reference's Frame -/
namespace Mvp
/-- a length in four bytes -/
def lenB (n : Nat) : List UInt8 := [UInt8.ofNat (n / 16777216), UInt8.ofNat (n / 65536), UInt8.ofNat (n / 256), UInt8.ofNat n]
def frameL (l : List UInt8) : List UInt8 := lenB l.length ++ l
def framesL (ls : List (List UInt8)) : List UInt8 := (ls.map frameL).flatten
theorem framesL_append (a b : List (List UInt8)) : framesL (a ++ b) = framesL a ++ framesL b := by simp [framesL]
theorem framesL_one (a : List UInt8) : framesL [a] = frameL a := by simp [framesL]
end Mvp
namespace Go.Proofs.Ytdadnajbdnbbdaa
open Go.RowKit Go.Mv Mvp
attribute [local irreducible] permS permP toB turnsK squeeze permN spongeB
theorem ofNat_int (k : Nat) : ((UInt8.ofNat k).toNat : Int) = ((k % 256 : Nat) : Int) := by simp
theorem lenB_0 (n : Nat) (h : n ≤ 1000000) : Value.int .u8 ((n : Int) / 16777216) = .int .u8 ((UInt8.ofNat (n / 16777216)).toNat : Int) := by
  rw [ofNat_int]; congr 1; omega
theorem lenB_1 (n : Nat) (h : n ≤ 1000000) : Value.int .u8 ((n : Int) / 65536) = .int .u8 ((UInt8.ofNat (n / 65536)).toNat : Int) := by
  rw [ofNat_int]; congr 1; omega
theorem lenB_2 (n : Nat) : Value.int .u8 ((n : Int) / 256 % 256) = .int .u8 ((UInt8.ofNat (n / 256)).toNat : Int) := by
  rw [ofNat_int]; rfl
theorem lenB_3 (n : Nat) : Value.int .u8 ((n : Int) % 256) = .int .u8 ((UInt8.ofNat n).toNat : Int) := by
  rw [ofNat_int]; rfl
theorem lenB_len (n : Nat) : (lenB n).length = 4 := rfl

set_option maxHeartbeats 2000000 in
set_option maxRecDepth 1000000 in
theorem frame_any (g : Nat) (st : List UInt64 × Nat) (b : Option Addr) (n c : Nat) (l : List UInt8) (w : World) (hS : st.1.length = 25) (hat : st.2 < 136) (hn : n ≤ 1000000) (hnc : n ≤ c) (hg : Has w g (abs st) 108) (hb : RdB w b n l) (hbg : Off (One g) b) :
    Calls Try.prog 52 #[.pointer (some ⟨g, 0, none⟩), .slice b n c] w fun e w' => e = .returned (.tuple #[]) ∧ Has w' g (abs (feed st (frameL l))) 108 ∧ Fr (One g) w w' := by
  go_enter Try.func52, Try.ntmps52
  go_wp2_with (with_reducible refine wl_stop (o := ⟨some 19, _, _, _, _, _⟩) ?_)
  refine wl_four rfl rfl Try.underlying22 info_u8 _ _ _ _ (lenB_0 n hn) (lenB_1 n hn) (lenB_2 n) (lenB_3 n) ?_
  intro w1 hh1 hf1 hz1
  have hh1' : Has w1 w.heap.size (bs (lenB n)) 5 := hh1
  have hg1 := hg.keep hf1 id
  have hb1 := hb.still hf1
  have hgl := hg.lt
  generalize w.heap.size = g4 at *
  clear hg hb hh1
  have hrd : RdB w1 (some ⟨g4, 0, none⟩) 4 (lenB n) := by
    have := Rd.whole hh1'
    rwa [length_bs, lenB_len] at this
  go_wp2_with fail
  refine (write_any g st _ 4 4 (lenB n) w1 hS hat (by omega) (by omega) hg1 hrd (fun x hx (e : x.block = g) => by simp only [Option.some.injEq] at hx; subst hx; simp at e; omega)).mono ?_
  rintro e w2 ⟨rfl, hg2, hf2⟩
  have hb2 := hb1.keep hf2 hbg
  have hfr2 : Fr (One g) w w2 := ((Fr.refl (One g) w).same hf1).trans hf2 (fun _ _ t => t)
  clear hf1 hz1 hh1' hg1 hb1 hrd hf2
  go_wp2_with fail
  refine (write_any g (feed st (lenB n)) b n c l w2 (by rw [feed_len, hS]) (feed_lt _ _ hat) hn hnc hg2 hb2 hbg).mono ?_
  rintro e w3 ⟨rfl, hg3, hf3⟩
  go_wp2_with fail
  go_end0
  rw [← feed_append, ← hb2.len] at hg3
  exact ⟨rfl, hg3, hfr2.trans hf3 (fun _ _ t => t)⟩

end Go.Proofs.Ytdadnajbdnbbdaa

/- Hash, stream and Stream of the sponge -/
namespace Go.Proofs.Ytdadnajbdnbbdaa
open Go.RowKit Go.Mv Mvp
attribute [local irreducible] permS permP toB turnsK squeeze permN
theorem built_abs : Try.prog.built 108 [] = some (abs (zeros25, 0)).toArray := by unfold abs; kernel_rfl

end Go.Proofs.Ytdadnajbdnbbdaa

/- sponge.tag and sponge.Tag -/
namespace Go.Proofs.Ytdadnajbdnbbdaa
open Go.RowKit Go.Mv Mvp
attribute [local irreducible] permS permP toB turnsK squeeze permN spongeB
/-- the value reads as these bytes, from an old block -/
def PartIs (w : World) (v : Value) (l : List UInt8) : Prop := ∃ a n c, v = .slice a n c ∧ n ≤ c ∧ n ≤ 1000000 ∧ RdB w a n l ∧ Old w a
theorem PartIs.still {w w' : World} {v : Value} {l : List UInt8} (h : PartIs w v l) (hf : Fr Nob w w') : PartIs w' v l := by
  obtain ⟨a, n, c, h1, h2, h3, h4, h5⟩ := h
  exact ⟨a, n, c, h1, h2, h3, h4.still hf, h5.grow hf.size⟩
/-- a slice of slices of bytes -/
def PartsAt (w : World) (a : Option Addr) (ls : List (List UInt8)) : Prop := ∃ vs : List Value, Rd w a ls.length vs ∧ ∀ (i : Nat) (v : Value), vs[i]? = some v → ∃ l : List UInt8, ls[i]? = some l ∧ PartIs w v l
theorem PartsAt.get {w : World} {a : Option Addr} {ls : List (List UInt8)} (h : PartsAt w a ls) {j : Nat} (hj : j < ls.length) : ∃ b o v, a = some ⟨b, o, none⟩ ∧ w.cell? ⟨b, o + j, none⟩ = some v ∧ PartIs w v (ls.getD j []) := by
  obtain ⟨vs, hr, hv⟩ := h
  obtain ⟨b, o, rfl, hat⟩ := hr.at (by omega)
  have hl := hr.len
  obtain ⟨l, h1, h2⟩ := hv j (vs[j]'(by omega)) (List.getElem?_eq_getElem (by omega))
  refine ⟨b, o, vs[j]'(by omega), rfl, hat j _ (List.getElem?_eq_getElem (by omega)), ?_⟩
  rwa [List.getD_eq_getElem?_getD, h1]
theorem PartsAt.still {w w' : World} {a : Option Addr} {ls : List (List UInt8)} (h : PartsAt w a ls) (hf : Fr Nob w w') : PartsAt w' a ls := by
  obtain ⟨vs, hr, hv⟩ := h
  refine ⟨vs, hr.still hf, fun i v hi => ?_⟩
  obtain ⟨l, h1, h2⟩ := hv i v hi
  exact ⟨l, h1, h2.still hf⟩
/-- what a tag is made of -/
def tagText (s : List UInt8) (ls : List (List UInt8)) : List UInt8 := framesL (s :: ls)
def tagL (s : List UInt8) (ls : List (List UInt8)) : List UInt8 := spongeB (tagText s ls) 6 32

theorem z25 : ((zeros25, 0) : List UInt64 × Nat).1.length = 25 := rfl
attribute [local irreducible] feed frameL framesL abs zeros25
set_option maxHeartbeats 400000 in
set_option maxRecDepth 1000000 in
theorem tag_any (s : ByteArray) (a : Option Addr) (c : Nat) (ls : List (List UInt8)) (w : World) (hs : s.size ≤ 1000000) (hm : ls.length ≤ 1000000) (hb : PartsAt w a ls) :
    Calls Try.prog 50 #[.string s, .slice a ls.length c] w fun r w' => ∃ v, r = .returned v ∧ Own w' w.heap.size 5 1 v 32 (bs (tagL s.data.toList ls)) ∧ Fr Nob w w' := by
  go_enter Try.func50, Try.ntmps50
  go_wp2_with (with_reducible refine wl_stop (o := ⟨some 8, _, _, _, _, _⟩) ?_)
  refine wl_build0 rfl rfl _ built_abs ?_
  refine wl_box rfl rfl rfl (abs (zeros25, 0)) rfl ?_
  intro w1 hg1 hf1 hz1
  clear hz1
  have hst1 := z25
  have hst2 : ((zeros25, 0) : List UInt64 × Nat).2 < 136 := Nat.zero_lt_succ _
  obtain ⟨st0, hst0⟩ : ∃ st0 : List UInt64 × Nat, st0 = (zeros25, 0) := ⟨_, rfl⟩
  rw [← hst0] at hg1 hst1 hst2
  have HST0 := Lib.hid hst0; clear hst0
  generalize hgw : w.heap.size = g at *
  have HG := Lib.hid hgw; clear hgw
  go_wp2_with (with_reducible refine wl_stop (o := ⟨some 12, _, _, _, _, _⟩) ?_)
  refine wl_bytes rfl rfl Try.underlying9 Try.underlying22 Try.underlying5 rfl (by unfold maxLen; omega) w1.heap.size (Nat.le_refl _) ?_
  intro cap w2 hown2 hf2 hz2
  have hg2 := hg1.keep hf2 id
  have hfr2 := hf1.then hf2
  have hgl := hg1.lt
  obtain ⟨a2, c2, hv2, hc2, hrd2, -⟩ := hown2.form
  cases hv2
  rw [Nat.mul_one] at hrd2
  go_wp2_with fail
  have hoff0 : Off (One g) (some (⟨w1.heap.size, 0, none⟩ : Addr)) := fun x hx (e : x.block = g) => by
    cases hx
    exact absurd e (by show ¬ (w1.heap.size = g); omega)
  have hcall := frame_any g st0 (some ⟨w1.heap.size, 0, none⟩) s.size cap s.data.toList w2 hst1 hst2 hs hc2 hg2 hrd2 hoff0
  refine hcall.mono ?_
  rintro e w3 ⟨rfl, hg3, hf3⟩
  have hfr3 : Fr Nob w w3 := hfr2.new hf3 (by rw [HG.out]; exact Nat.le_refl _)
  clear hg1 hf1 hown2 hf2 hz2 hg2 hfr2 hrd2 hf3 hgl
  go_wp2_with fail
  go_loopw [16] (fun i wr => ∃ j : Nat, j ≤ ls.length ∧ i = .int .i64 (j : Int) ∧ Has wr g (abs (feed st0 (framesL (s.data.toList :: ls.take j)))) 108 ∧ Fr Nob w wr) (fun i _ => (ls.length - intOf i).toNat)
  case atStart => exact ⟨0, by omega, rfl, by rw [List.take_zero, framesL_one]; exact hg3, hfr3⟩
  case round =>
    obtain ⟨j, hj, rfl, hgj, hfj⟩ := hrel
    clear hg3 hfr3
    by_cases hlt : j < ls.length
    · have hltI : (j : Int) < (ls.length : Int) := by omega
      obtain ⟨b, o, v, rfl, hc, hp⟩ := (hb.still hfj).get hlt
      obtain ⟨b', o', v', hv', hc', hp'⟩ := hb.get hlt
      simp only [Option.some.injEq, Addr.mk.injEq] at hv'
      obtain ⟨rfl, rfl, -⟩ := hv'
      have hvv : v = v' := by
        have := hfj.cell id hc'
        rw [hc] at this; simpa using this
      subst hvv
      obtain ⟨ap, np, cp, rfl, hp1, hp2, hp3, hp4⟩ := hp'
      have hr3 := hp3.still hfj
      clear hp
      have hoff : Off (One g) ap := hp4.off (by rw [HG.out]; exact Nat.le_refl _)
      go_wp2_with fail
      have hSj : (feed st0 (framesL (s.data.toList :: ls.take j))).1.length = 25 := by rw [feed_len, hst1]
      have hkj := feed_lt (framesL (s.data.toList :: ls.take j)) st0 hst2
      refine (frame_any g (feed st0 (framesL (s.data.toList :: ls.take j))) ap np cp (ls.getD j []) wr hSj hkj hp2 hp1 hgj hr3 hoff).mono ?_
      rintro e w4 ⟨rfl, hg4, hf4⟩
      have hfr4 : Fr Nob w w4 := hfj.new hf4 (by rw [HG.out]; exact Nat.le_refl _)
      rw [← feed_append] at hg4
      have hfl : framesL (s.data.toList :: ls.take j) ++ frameL (ls.getD j []) = framesL (s.data.toList :: ls.take (j + 1)) := by
        rw [List.take_succ_eq_append_getElem hlt, ← List.cons_append, framesL_append, framesL_one, List.getD_eq_getElem?_getD, List.getElem?_eq_getElem hlt]; rfl
      rw [hfl] at hg4
      clear hSj hkj hr3 hgj hfj hf4 hfl
      go_wp2_with fail
      go_roundw
      case rel => exact ⟨j + 1, by omega, by go_num, hg4, hfr4⟩
      case measure => simp [intOf]; omega
    · have hge : ¬ ((j : Int) < (ls.length : Int)) := by omega
      have hjn : j = ls.length := by omega
      have hSj : (feed st0 (framesL (s.data.toList :: ls.take j))).1.length = 25 := by rw [feed_len, hst1]
      have hkj := feed_lt (framesL (s.data.toList :: ls.take j)) st0 hst2
      have hft : framesL (s.data.toList :: ls.take j) = tagText s.data.toList ls := by rw [hjn, List.take_length]; rfl
      rw [hft] at hgj hSj hkj
      generalize hst : feed st0 (tagText s.data.toList ls) = st at *
      have HST := Lib.hid hst; clear hst
      have HJN := Lib.hid hjn; clear hjn
      clear hft
      go_wp2_with fail
      refine (out_any g st.1 st.2 6 32 wr hSj hkj (by omega) hgj).mono ?_
      rintro e w4 ⟨v, rfl, hown, hf4⟩
      go_wp2_with fail
      go_ret
      refine ⟨v, rfl, ?_, hfj.new hf4 (by rw [HG.out]; exact Nat.le_refl _)⟩
      have := hown.mono (base' := g) (by have := hgj.lt; omega)
      rw [HG.out]
      unfold tagL spongeB
      rw [← HST0.out, HST.out]
      exact this

set_option maxHeartbeats 1000000 in
theorem Tag_any (s : ByteArray) (a : Option Addr) (c : Nat) (ls : List (List UInt8)) (w : World) (hs : s.size ≤ 1000000) (hm : ls.length ≤ 1000000) (hb : PartsAt w a ls) :
    Calls Try.prog 46 #[.string s, .slice a ls.length c] w fun r w' => ∃ v, r = .returned v ∧ Own w' w.heap.size 5 1 v 32 (bs (tagL s.data.toList ls)) ∧ Fr Nob w w' := by
  go_enter Try.func46, Try.ntmps46
  go_wp2_with fail
  refine (tag_any s a c ls w hs hm hb).mono ?_
  rintro e w4 ⟨v, rfl, hown, hf4⟩
  go_wp2_with fail
  go_ret
  exact ⟨v, rfl, hown, hf4⟩
end Go.Proofs.Ytdadnajbdnbbdaa

/- mintvaultlaw1.SpongeTurns: the walk of the law -/
namespace Go.Proofs.Ytdadnajbdnbbdaa
open Go.RowKit Go.Mv Mvp

end Go.Proofs.Ytdadnajbdnbbdaa

/- The reference's Hash and Stream; the law SpongeHashes -/
namespace Go.Proofs.Ytdadnajbdnbbdaa
open Go.RowKit Go.Mv Mvp
attribute [local irreducible] permS permP toB turnsK squeeze permN spongeB
end Go.Proofs.Ytdadnajbdnbbdaa

/- Arguments that were handed in, opened into the words of Mem. -/
namespace Go.Mv
open Go.RowKit Go.ChangeShapes Go.WideShapes

/-- strings as values -/
def ss (l : List (List UInt8)) : List Value := l.map fun x => .string (mkS x)
theorem ss_get (l : List (List UInt8)) (i : Nat) (hi : i < l.length) : (ss l)[i]? = some (.string (mkS (l.getD i []))) := by
  simp [ss, List.getD_eq_getElem?_getD, hi]

section
variable {H : Type} {enc : TypeId × Value → H} {P : Program} {w : World} {base : Nat} {held : Bool} {spare : Nat → Bool}
theorem weightsAll_mem {e : TypeId} : ∀ {ds : List (DataW H)} {d : DataW H}, d ∈ ds → ∀ n ∈ d.weights P e, n ∈ DataW.weightsAll P e ds
  | [], _, h, _, _ => by simp at h
  | d0 :: ds, d, h, n, hn => by
    simp only [DataW.weightsAll, List.mem_append]
    rcases List.mem_cons.1 h with rfl | h
    · exact .inl hn
    · exact .inr (weightsAll_mem h n hn)
theorem reach_string {ts : List TypeId} {ds : List (DataW H)} (h : (DataW.weightsEach P ts ds).all (· ≤ reachBytes) = true) {j : Nat} {t : TypeId} {s : ByteArray} (ht : ts[j]? = some t) (hd : ds[j]? = some (.lit (.string s.data.toList))) : s.size ≤ 140737488351232 := by
  have := sized_string h ht hd
  have e : s.data.toList.length = s.size := by simp
  have hr : reachBytes = 140737488351232 := rfl
  omega

theorem i64_wf {n : Int} (h : (Lit.int .i64 n).wf = true) : -9223372036854775808 ≤ n ∧ n ≤ 9223372036854775807 := by
  simpa [Lit.wf, IntKind.min, IntKind.max, IntKind.signed, IntKind.bits] using h
/-- a slice of strings that came in -/
theorem open_ss {ts : List TypeId} {ds : List (DataW H)} {j : Nat} {t e : TypeId} {v : Value} {d : DataW H} {ps : List MemPlace} (ht : P.underlying t = some (.slice e)) (he : P.underlying e = some .string) (hc : P.cellsOf e = 1) (hby : P.bytesOf e = 16)
    (hv : Value.okWide P w .any base t v) (h : DataW.Trod enc P w 0 spare held t v d ps) (hz : (DataW.weightsEach P ts ds).all (· ≤ reachBytes) = true) (htj : ts[j]? = some t) (hdj : ds[j]? = some d) :
    ∃ a c ls, v = .slice a ls.length c ∧ Rd w a ls.length (ss ls) ∧ (∀ x ∈ ls, x.length ≤ 140737488351232) ∧ ls.length ≤ 9223372036854775807 ∧ ls.length * 16 ≤ 140737488351232 ∧ ls.length ≤ c := by
  obtain ⟨a0, len, cap, rfl⟩ := okWide_slice ht hv
  obtain ⟨fuel, hf⟩ := h
  have hr : reachBytes = 140737488351232 := rfl
  rcases open_strings ht he hc hf with ⟨hcs, hx⟩ | ⟨a, len', cap', sl, hcs, _, hl, hm, hzl, hx, hcell, hsz⟩
  · simp only [Value.cells] at hcs
    simp only [List.cons.injEq, and_true, Value.slice.injEq] at hcs
    obtain ⟨rfl, rfl, rfl⟩ := hcs
    exact ⟨none, 0, [], rfl, Rd.nil _ _, by simp, by simp, by simp, by simp⟩
  · simp only [Value.cells] at hcs
    simp only [List.cons.injEq, and_true, Value.slice.injEq] at hcs
    obtain ⟨rfl, rfl, rfl⟩ := hcs
    simp only [Prod.mk.injEq] at hx
    obtain ⟨rfl, -⟩ := hx
    have hlen : (sl.take len).length = len := by
      rw [List.length_take, hzl]; split <;> omega
    have hlsl : len ≤ sl.length := by rw [hzl]; split <;> omega
    have hW := sized_slice hz htj hdj ht
    rw [hby, strs, strs, List.length_map, List.length_map, hr] at hW
    refine ⟨some a, cap, (sl.take len).map fun s => s.data.toList, by rw [List.length_map, hlen], ⟨by simp [ss], ?_⟩, ?_, ?_, ?_, ?_⟩
    · rcases Nat.eq_zero_or_pos len with h0 | h0
      · exact .inl (by simp [h0])
      · right
        obtain ⟨b, o, spot⟩ := a
        have hspot : spot = none := by simpa [Addr.add] using World.cell?_spot (hcell 0 (by omega))
        subst hspot
        refine ⟨b, o, rfl, ?_⟩
        intro i v hv
        have hi : i < len := by
          rcases Nat.lt_or_ge i len with k | k
          · exact k
          · rw [List.getElem?_eq_none (by simp [ss]; omega)] at hv; cases hv
        have h1 := hcell i (by omega)
        rw [addr_add] at h1
        have h2 : (ss ((sl.take len).map fun s => s.data.toList))[i]? = some (.string (sl.getD i ByteArray.empty)) := by
          have : i < sl.length := by omega
          simp [ss, hi, List.getD_eq_getElem?_getD, List.getElem?_eq_getElem this, mkS_data]
        rw [h2] at hv
        cases hv
        exact h1
    · intro x hx
      simp only [List.mem_map] at hx
      obtain ⟨s, hs, rfl⟩ := hx
      have hmem : (DataW.lit (.string s.data.toList) : DataW H) ∈ strs (H := H) (sl.take len) := by
        simp only [strs, List.mem_map]; exact ⟨s, hs, rfl⟩
      have hn : s.data.toList.length ∈ DataW.weightsEach P ts ds := by
        refine DataW.weights_mem_each htj hdj _ ?_
        simp only [DataW.weights, ht, List.mem_cons, List.mem_append]
        exact .inr (.inl (weightsAll_mem hmem _ (by simp [DataW.weights])))
      have := List.all_eq_true.1 hz _ hn
      rw [hr] at this
      simpa using this
    · simp only [maxLen] at hm; simp; omega
    · simp only [List.length_map]; omega
    · simp only [List.length_map]; omega
end
end Go.Mv

/- The reference's Tag -/
namespace Go.Proofs.Ytdadnajbdnbbdaa
open Go.RowKit Go.Mv Mvp
attribute [local irreducible] permS permP toB turnsK squeeze permN spongeB feed frameL framesL
def sumL (ls : List (List UInt8)) : Nat := (ls.map List.length).foldr (· + ·) 0
theorem sumL_append (a b : List (List UInt8)) : sumL (a ++ b) = sumL a + sumL b := by
  induction a with
  | nil => simp [sumL]
  | cons x a ih => simp only [sumL, List.cons_append, List.map_cons, List.foldr_cons] at *; omega
theorem sumL_one (a : List UInt8) : sumL [a] = a.length := by simp [sumL]
theorem sumL_get (ls : List (List UInt8)) (j : Nat) (hj : j < ls.length) : (ls.getD j []).length ≤ sumL ls := by
  have h1 := sumL_append (ls.take j) (ls.drop j)
  rw [List.take_append_drop, List.drop_eq_getElem_cons hj] at h1
  have h2 : sumL (ls[j] :: ls.drop (j + 1)) = ls[j].length + sumL (ls.drop (j + 1)) := by simp only [sumL, List.map_cons, List.foldr_cons]
  have h3 : ls.getD j [] = ls[j] := by simp [List.getD_eq_getElem?_getD, hj]
  rw [h3]; omega

end Go.Proofs.Ytdadnajbdnbbdaa

/- One-cell literals of any kind; owned slices and other blocks. -/
namespace Go.Mv
open Go.RowKit
variable {P : Program}
/-- a block of another type is not the slice's own -/
theorem Own.ne {w : World} {base sz n g : Nat} {T T' : TypeId} {v : Value} {L L' : List Value} (h : Own w base T sz v n L) (hg : Has w g L' T') (hT : T ≠ T') : ¬ OwnB v g := by
  intro hv
  obtain ⟨_, ⟨rfl, _⟩ | ⟨g', o, cap, B, rfl, _, hg', _⟩⟩ := h
  · cases hv
  · have : g' = g := by simpa [OwnB, Value.ownBlock] using hv
    subst this
    obtain ⟨_, _, h1, _⟩ := hg
    obtain ⟨_, _, h2, _⟩ := hg'
    rw [h1] at h2
    simp at h2
    exact hT h2.2.1.symm
end Go.Mv

/- Literals of n one-cell elements; loads and stores of structs by value. -/
namespace Go.Mv
open Go.RowKit
variable {P : Program}
/-- n cells in a row -/
theorem wl_slit {w : World} {ops : Array Oper} {rest : List Oper} {o : Oper} {a : Act} {Q : Exit → Act → World → Prop} {t e : TypeId} {k : Nat} {parts : Array (Nat × Operand)} (hgd : o.guard = none) (ho : o.op = .buildSlice t k parts)
    (hu : P.underlying t = some (.slice e)) {z : Value} {by_ : Nat} (hi0 : (P.info? e).map (fun i => (i.zero, i.size, i.bytes)) = some (some z, 1, by_)) (vs : List Value) (hp : (parts.toList.map fun p => (p.1, a.eval p.2)) = (vs.zipIdx 0).map fun x => (x.2, x.1))
    (hv : ∀ v ∈ vs, v.cells = #[v]) (hk : vs.length = k) (hz : z.cells.size = 1)
    (h : ∀ w', Has w' w.heap.size vs e → Fr Nob w w' → w'.heap.size = w.heap.size + 1 → wpList P ops Q rest (a.put o.dst (.slice (some ⟨w.heap.size, 0, none⟩) k k)) w') (hk0 : 0 < k := by decide) (hk24 : k ≤ 16777216 := by decide) : wpList P ops Q (o :: rest) a w := by
  have _hz := hz
  obtain ⟨i, hi, hz0⟩ : ∃ i, P.info? e = some i ∧ (i.zero, i.size, i.bytes) = (some z, 1, by_) := by simpa using hi0
  simp only [Prod.mk.injEq] at hz0
  obtain ⟨hz1, hsz, hby⟩ := hz0
  have hf : Instr.fill (fun j => some (j * i.size, i.size)) ((Array.range (k * i.size)).map (z.cells[· % z.cells.size]!)) (parts.map fun (i, x) => (i, a.eval x)).toList = some vs.toArray := by
    rw [show (parts.map fun (i, x) => (i, a.eval x)).toList = (parts.toList.map fun p => (p.1, a.eval p.2)) by simp, hp, hsz]
    exact Great.fill_flat vs _ hv (by simp [hk])
  exact wpList_buildSlice hgd t e k _ ho _ i _ hu hi hz1 (by rw [hsz]; omega) (by rw [hsz]; omega) hf (h _ (Has.new w vs.toArray e) ((Fr.refl _ w).alloc _) (by simp))

theorem wl_buildL {w : World} {ops : Array Oper} {rest : List Oper} {o : Oper} {a : Act} {Q : Exit → Act → World → Prop} {t : TypeId} {parts : Array (Nat × Operand)} (hgd : o.guard = none) (ho : o.op = .build t parts) (cells : Array Value)
    (hb : P.built t (parts.toList.map fun p => (p.1, a.eval p.2)) = some cells) (h : wpList P ops Q rest (a.put o.dst (.agg cells)) w) : wpList P ops Q (o :: rest) a w :=
  wl_build hgd ho cells (by rw [show (parts.map fun (i, x) => (i, a.eval x)).toList = (parts.toList.map fun p => (p.1, a.eval p.2)) by simp]; exact hb) h
/-- a whole row (array or struct) is read, out of cells -/
theorem wl_loadR {w : World} {ops : Array Oper} {rest : List Oper} {o : Oper} {a : Act} {Q : Exit → Act → World → Prop} {ty : TypeId} {x : Operand} (hgd : o.guard = none) (ho : o.op = .load ty x) {d : TypeDesc} (hu : P.underlying ty = some d) (hd : d.isRow = true) {g p : Nat} (hx : a.eval x = .pointer (some ⟨g, p, none⟩))
    {cs : List Value} (hg : At w g p cs) (hi : (P.info? ty).map (·.size) = some cs.length)
    (h : wpList P ops Q rest (a.put o.dst (.agg cs.toArray)) w) : wpList P ops Q (o :: rest) a w :=
  wpList_load_mid hgd ty x ho g p hx cs d (fun j v hv => hg j v hv) hu hd hi h
end Go.Mv

/- A log of the sponge, the reference's: NewLog, Say, Ask, Clone. -/
namespace Go.Proofs.Ytdadnajbdnbbdaa
open Go.RowKit Go.Mv Mvp
attribute [local irreducible] permS permP toB turnsK squeeze permN spongeB feed frameL framesL tagL
theorem info_sl : (Try.prog.info? 22).map (fun i => (i.zero, i.size, i.bytes)) = some (some (.slice none 0 0), 1, 24) := by kernel_rfl
/-- parts by their values -/
def Parts (w : World) : List Value → List (List UInt8) → Prop
  | [], [] => True
  | v :: vs, l :: ls => PartIs w v l ∧ Parts w vs ls
  | _, _ => False
theorem Parts.len {w : World} : ∀ {vs : List Value} {ls : List (List UInt8)}, Parts w vs ls → vs.length = ls.length
  | [], [], _ => rfl
  | _ :: _, _ :: _, h => by simp only [List.length_cons]; rw [Parts.len h.2]
  | [], _ :: _, h => h.elim
  | _ :: _, [], h => h.elim
theorem Parts.get {w : World} : ∀ {vs : List Value} {ls : List (List UInt8)}, Parts w vs ls → ∀ (i : Nat) (v : Value), vs[i]? = some v → ∃ l : List UInt8, ls[i]? = some l ∧ PartIs w v l
  | [], [], _, i, v, h => by simp at h
  | x :: vs, l :: ls, h, 0, v, hv => by simp only [List.getElem?_cons_zero, Option.some.injEq] at hv; subst hv; exact ⟨l, rfl, h.1⟩
  | x :: vs, l :: ls, h, i + 1, v, hv => by simp only [List.getElem?_cons_succ] at hv ⊢; exact Parts.get h.2 i v hv
  | [], _ :: _, h, _, _, _ => h.elim
  | _ :: _, [], h, _, _, _ => h.elim
theorem Parts.at {w : World} {g : Nat} {T : TypeId} {vs : List Value} {ls : List (List UInt8)} (h : Parts w vs ls) (hg : Has w g vs T) : PartsAt w (some ⟨g, 0, none⟩) ls :=
  ⟨vs, by have := Rd.whole hg; rwa [h.len] at this, h.get⟩
theorem Parts.cells {w : World} : ∀ {vs : List Value} {ls : List (List UInt8)}, Parts w vs ls → ∀ v ∈ vs, v.cells = #[v]
  | [], _, _, v, h => by simp at h
  | x :: vs, l :: ls, h, v, hv => by
    rcases List.mem_cons.1 hv with rfl | hv
    · obtain ⟨a, n, c, rfl, _⟩ := h.1; rfl
    · exact Parts.cells h.2 v hv
  | _ :: _, [], h, _, _ => h.elim
theorem own_part {w : World} {base n : Nat} {T : TypeId} {v : Value} {l : List UInt8} (h : Own w base T 1 v n (bs l)) (hn : n ≤ 1000000) : PartIs w v l := by
  have h0 := h
  obtain ⟨a, c, rfl, hc, hr, -⟩ := h.form
  rw [Nat.mul_one] at hr
  refine ⟨a, n, c, rfl, hc, hn, hr, ?_⟩
  intro x hx
  exact (h0.lt (by rw [hx]; rfl)).2

theorem tagL_len (k : List UInt8) (ls : List (List UInt8)) : (tagL k ls).length = 32 := by unfold tagL; exact spongeB_len _ _ _
/-! The reference's -/
end Go.Proofs.Ytdadnajbdnbbdaa

/- store: plain. What an opening holds, record by record. -/
namespace Mvp
/-- so far: the records that were read, and what is left of the disk -/
def OpenI (c : Nat → List UInt8 → List UInt8) (disk : List UInt8) (recs : List (List UInt8)) (rest : List UInt8) : Prop :=
  disk = framesB c 0 recs ++ rest ∧ unframe c disk.length 0 disk = recs ++ unframe c rest.length recs.length rest
theorem OpenI.start (c : Nat → List UInt8 → List UInt8) (disk : List UInt8) : OpenI c disk [] disk := ⟨rfl, rfl⟩
theorem OpenI.step {c : Nat → List UInt8 → List UInt8} {disk : List UInt8} {recs : List (List UInt8)} {rest : List UInt8} (h : OpenI c disk recs rest) (n : Nat) (hn : numS (rest.take 4) = n) (h1 : n ≤ 16384) (h2 : 12 + n ≤ rest.length)
    (hf : frameB c recs.length ((rest.drop 4).take n) = rest.take (12 + n)) : OpenI c disk (recs ++ [(rest.drop 4).take n]) (rest.drop (12 + n)) := by
  subst hn
  obtain ⟨e1, e2⟩ := h
  constructor
  · rw [framesB_snoc, Nat.zero_add, hf, List.append_assoc, List.take_append_drop]
    exact e1
  · rw [e2]
    obtain ⟨f, hfu⟩ : ∃ f, rest.length = f + 1 := ⟨rest.length - 1, by omega⟩
    rw [hfu, unframe, if_neg (by omega), if_neg (by omega), if_pos hf, List.append_assoc, List.singleton_append, List.length_append, List.length_singleton]
    rw [unframe_fuel f (rest.drop (12 + numS (rest.take 4))).length _ _ (by rw [List.length_drop]; omega) (Nat.le_refl _)]
theorem OpenI.stop {c : Nat → List UInt8 → List UInt8} {disk : List UInt8} {recs : List (List UInt8)} {rest : List UInt8} (h : OpenI c disk recs rest) (n : Nat) (hn : numS (rest.take 4) = n)
    (hs : rest.length < 12 ∨ 16384 < n ∨ rest.length < 12 + n ∨ frameB c recs.length ((rest.drop 4).take n) ≠ rest.take (12 + n)) : unframe c disk.length 0 disk = recs := by
  subst hn
  rw [h.2]
  have e : unframe c rest.length recs.length rest = [] := by
    cases hl : rest.length with
    | zero => rfl
    | succ f =>
      rw [unframe]
      by_cases h12 : rest.length < 12
      · rw [if_pos h12]
      · rw [if_neg h12]
        by_cases hb : 16384 < numS (rest.take 4) ∨ rest.length - 12 < numS (rest.take 4)
        · rw [if_pos hb]
        · rw [if_neg hb, if_neg]
          rcases hs with k | k | k | k
          · exact absurd k h12
          · exact absurd (.inl k) hb
          · exact absurd (.inr (by omega)) hb
          · exact k
  rw [e, List.append_nil]
/-- a number's bytes, from behind: what stands after so many -/
def bigJ (n size j : Nat) : List UInt8 := List.replicate (size - j) 0 ++ bigN n j
theorem bigJ_0 (n size : Nat) : bigJ n size 0 = List.replicate size 0 := by simp [bigJ, bigN]
theorem bigJ_all (n size : Nat) : bigJ n size size = bigN n size := by simp [bigJ]
theorem bigJ_len (n size j : Nat) (h : j ≤ size) : (bigJ n size j).length = size := by simp [bigJ, bigN_len]; omega
theorem bigJ_succ (n size j : Nat) (h : j < size) : (bigJ n size j).set (size - 1 - j) (UInt8.ofNat (n / 256 ^ j)) = bigJ n size (j + 1) := by
  unfold bigJ
  obtain ⟨m, hm⟩ : ∃ m, size - j = m + 1 := ⟨size - j - 1, by omega⟩
  rw [hm, show size - (j + 1) = m by omega, show size - 1 - j = m by omega, List.replicate_succ', List.append_assoc, List.set_append_right _ _ (by simp), List.length_replicate, Nat.sub_self]
  rfl
end Mvp
namespace Go.Proofs.Ytdadnajbdnbbdaa
open Go.RowKit Go.Mv Mvp
/-- the check of a record: eight bytes of a tag -/
def kFrame : List UInt8 := [102, 114, 97, 109, 101]
def ckS (i : Nat) (b : List UInt8) : List UInt8 := tagL kFrame [bigN i 8, b]
theorem ckS_len (i : Nat) (b : List UInt8) : 8 ≤ (ckS i b).length := by unfold ckS; rw [tagL_len]; decide
end Go.Proofs.Ytdadnajbdnbbdaa

/- store: plain. Where the records lie on the disk. -/
namespace Mvp
/-- where each record lies, from a place on -/
def exL : Nat → List (List UInt8) → List (Nat × Nat)
  | _, [] => []
  | p, b :: l => (p + 4, p + 4 + b.length) :: exL (p + 12 + b.length) l
theorem exL_snoc {c : Nat → List UInt8 → List UInt8} (hc : ∀ i b, 8 ≤ (c i b).length) : ∀ (p i : Nat) (l : List (List UInt8)) (b : List UInt8), exL p (l ++ [b]) = exL p l ++ [(p + (framesB c i l).length + 4, p + (framesB c i l).length + 4 + b.length)]
  | p, i, [], b => by simp [exL, framesB]
  | p, i, a :: l, b => by
    rw [List.cons_append, exL, exL, exL_snoc hc (p + 12 + a.length) (i + 1) l b, framesB, List.length_append, frameB_len hc, List.cons_append]
    congr 4 <;> omega
/-- a record is there where it is told to be -/
theorem exL_at {c : Nat → List UInt8 → List UInt8} (hc : ∀ i b, 8 ≤ (c i b).length) : ∀ (l : List (List UInt8)) (p i : Nat) (hd t : List UInt8) (k : Nat) (b : List UInt8), hd.length = p → l[k]? = some b →
    ∃ f, (exL p l)[k]? = some (f, f + b.length) ∧ f + b.length ≤ (hd ++ framesB c i l).length ∧ ((hd ++ (framesB c i l ++ t)).drop f).take b.length = b
  | [], _, _, _, _, _, _, _, h => by simp at h
  | a :: l, p, i, hd, t, 0, b, hp, h => by
    simp only [List.getElem?_cons_zero, Option.some.injEq] at h
    subst h
    refine ⟨p + 4, rfl, ?_, ?_⟩
    · rw [framesB, List.length_append, List.length_append, frameB_len hc]; omega
    · rw [framesB]
      have e : hd ++ (frameB c i a ++ framesB c (i + 1) l ++ t) = (hd ++ bigN a.length 4) ++ (a ++ ((c i a).take 8 ++ (framesB c (i + 1) l ++ t))) := by unfold frameB; simp [List.append_assoc]
      rw [e, List.drop_left' (by rw [List.length_append, bigN_len, hp]), List.take_left' rfl]
  | a :: l, p, i, hd, t, k + 1, b, hp, h => by
    have hk : l[k]? = some b := by simpa using h
    obtain ⟨f, h1, h2, h3⟩ := exL_at hc l (p + 12 + a.length) (i + 1) (hd ++ frameB c i a) t k b (by rw [List.length_append, frameB_len hc]; omega) hk
    refine ⟨f, ?_, ?_, ?_⟩
    · rw [exL]; simpa using h1
    · rw [framesB]
      rw [List.append_assoc] at h2
      exact h2
    · rw [framesB, List.append_assoc]
      rw [List.append_assoc] at h3
      exact h3
/-- no disk is longer than its limit -/
theorem SM.add_lim {c : Nat → List UInt8 → List UInt8} (hc : ∀ i b, 8 ≤ (c i b).length) {lim : Nat} {s : SM} (h : s.d.length ≤ lim) (b : List UInt8) : (s.add c lim b).1.d.length ≤ lim := by
  unfold SM.add
  split
  · exact h
  · split
    · exact h
    · split
      · exact h
      · rename_i h3
        have hl := frameB_len hc s.recs.length b
        show (s.put c b).1.d.length ≤ lim
        unfold SM.put
        split
        · simp only [List.length_append, hl]; omega
        · split
          · simp only [List.length_append, List.length_take, hl]; omega
          · simp only [List.length_append, hl]; omega
theorem SM.ofDisk_lim {c : Nat → List UInt8 → List UInt8} (hc : ∀ i b, 8 ≤ (c i b).length) (d : List UInt8) : (SM.ofDisk c d).d.length ≤ d.length := by
  obtain ⟨t, ht⟩ := unframe_pre hc d.length 0 d
  have h := congrArg List.length ht
  rw [List.length_append] at h
  show (framesB c 0 (unframe c d.length 0 d)).length ≤ d.length
  omega
/-- so many records at most -/
theorem SInv.count {c : Nat → List UInt8 → List UInt8} (hc : ∀ i b, 8 ≤ (c i b).length) {s : SM} (h : SInv c s) : 12 * s.recs.length ≤ s.d.length := by
  obtain ⟨-, p, hd, -⟩ := h
  rw [hd, List.length_append, framesB_len hc]
  omega
/-- Record(i): the bytes of the i-th, and how they lie -/
theorem SInv.record {c : Nat → List UInt8 → List UInt8} (hc : ∀ i b, 8 ≤ (c i b).length) {s : SM} (h : SInv c s) {k : Nat} {b : List UInt8} (hk : s.recs[k]? = some b) :
    ∃ f, (exL 0 s.recs)[k]? = some (f, f + b.length) ∧ f + b.length ≤ s.d.length ∧ (s.d.drop f).take b.length = b := by
  obtain ⟨-, p, hd, -⟩ := h
  obtain ⟨f, h1, h2, h3⟩ := exL_at hc s.recs 0 0 [] p k b rfl hk
  simp only [List.nil_append] at h2 h3
  exact ⟨f, h1, by rw [hd, List.length_append]; omega, by rw [hd]; exact h3⟩
end Mvp

/- append onto an owned slice, once more: what lay ahead of the new cells is kept, in the old block too. -/
namespace Go.Mv
open Go.RowKit
variable {P : Program}

/-- all cells of old blocks are as they were, but those of v's block behind its n elements -/
def Kept (v : Value) (n sz : Nat) (w w' : World) : Prop :=
  ∀ b i, b < w.heap.size → (∀ o cap, v = .slice (some ⟨b, o, none⟩) n cap → i < o + n * sz) → w'.cell? ⟨b, i, none⟩ = w.cell? ⟨b, i, none⟩

theorem Kept.refl (v : Value) (n sz : Nat) (w : World) : Kept v n sz w w := fun _ _ _ _ => rfl
section
variable {w : World} {ops : Array Oper} {rest : List Oper} {o : Oper} {a : Act} {Q : Exit → Act → World → Prop}
end
end Go.Mv
namespace Go.Mv
open Go.RowKit
section
variable {P : Program} {w : World} {ops : Array Oper} {o : Oper} {a : Act} {K : Act → World → Prop} {Q : Exit → Act → World → Prop} {E : Prop}
end
end Go.Mv

/- What a call knows of the blocks that are its own: one fact for all of them. -/
namespace Go.Mv
open Go.RowKit
variable {P : Program}

/-- the blocks of bl hold what is told; each is new since w0, or may be written (S); no other block that was there at w0 has turned, but those of S -/
structure St (S : Nat → Prop) (w0 w : World) (bl : List (Nat × List Value × TypeId)) : Prop where
  fr : Fr S w0 w
  own : ∀ x ∈ bl, w0.heap.size ≤ x.1 ∨ S x.1
  has : ∀ x ∈ bl, Has w x.1 x.2.1 x.2.2
  ne : bl.Pairwise fun x y => x.1 ≠ y.1

theorem St.start (S : Nat → Prop) (w : World) : St S w w [] := ⟨Fr.refl _ _, by simp, by simp, List.Pairwise.nil⟩
theorem St.at {S : Nat → Prop} {w0 w : World} {bl : List (Nat × List Value × TypeId)} (h : St S w0 w bl) (i : Nat) {g : Nat} {L : List Value} {T : TypeId} (hi : bl[i]? = some (g, L, T)) : Has w g L T :=
  h.has _ (List.mem_of_getElem? hi)
theorem St.neAt {S : Nat → Prop} {w0 w : World} {bl : List (Nat × List Value × TypeId)} (h : St S w0 w bl) {i j : Nat} {x y : Nat × List Value × TypeId} (hi : bl[i]? = some x) (hj : bl[j]? = some y) (hij : i ≠ j) : x.1 ≠ y.1 := by
  obtain ⟨hi1, rfl⟩ := List.getElem?_eq_some_iff.1 hi
  obtain ⟨hj1, rfl⟩ := List.getElem?_eq_some_iff.1 hj
  rcases Nat.lt_or_ge i j with k | k
  · exact List.pairwise_iff_getElem.1 h.ne i j hi1 hj1 k
  · exact (List.pairwise_iff_getElem.1 h.ne j i hj1 hi1 (by omega)).symm
theorem St.keep {S : Nat → Prop} {w0 w w' : World} {bl : List (Nat × List Value × TypeId)} (h : St S w0 w bl) (hf : Fr Nob w w') : St S w0 w' bl :=
  ⟨h.fr.same hf, h.own, fun x hx => (h.has x hx).keep hf id, h.ne⟩
theorem St.drew {S : Nat → Prop} {w0 w : World} {bl : List (Nat × List Value × TypeId)} (h : St S w0 w bl) : St S w0 w.drew bl := ⟨h.fr.drew, h.own, h.has, h.ne⟩
theorem St.drewN {S : Nat → Prop} {w0 w : World} {bl : List (Nat × List Value × TypeId)} (h : St S w0 w bl) (n : Nat) : St S w0 (w.drewN n) bl := ⟨h.fr.drewN n, h.own, h.has, h.ne⟩
theorem St.new {S : Nat → Prop} {w0 w w' : World} {bl : List (Nat × List Value × TypeId)} (h : St S w0 w bl) (hf : Fr Nob w w') {g : Nat} {L : List Value} {T : TypeId} (hg : Has w' g L T) (hn : w.heap.size ≤ g) : St S w0 w' (bl ++ [(g, L, T)]) := by
  refine ⟨h.fr.same hf, ?_, ?_, ?_⟩
  · intro x hx
    rcases List.mem_append.1 hx with hx | hx
    · exact h.own x hx
    · simp only [List.mem_singleton] at hx
      subst hx
      exact .inl (Nat.le_trans h.fr.size hn)
  · intro x hx
    rcases List.mem_append.1 hx with hx | hx
    · exact (h.has x hx).keep hf id
    · simp only [List.mem_singleton] at hx
      subst hx
      exact hg
  · rw [List.pairwise_append]
    refine ⟨h.ne, List.pairwise_singleton _ _, ?_⟩
    intro x hx y hy
    simp only [List.mem_singleton] at hy
    subst hy
    have := (h.has x hx).lt
    show x.1 ≠ g
    omega
theorem St.put {S : Nat → Prop} {w0 w w' : World} {bl : List (Nat × List Value × TypeId)} (h : St S w0 w bl) (i : Nat) {g : Nat} {L L' : List Value} {T : TypeId} (hi : bl[i]? = some (g, L, T)) (hf : Fr (One g) w w') (hg : Has w' g L' T) : St S w0 w' (bl.set i (g, L', T)) := by
  obtain ⟨hi1, hi2⟩ := List.getElem?_eq_some_iff.1 hi
  refine ⟨?_, ?_, ?_, ?_⟩
  · refine h.fr.trans hf fun j hj hjg => ?_
    have hjg' : j = g := hjg
    subst hjg'
    rcases h.own _ (List.mem_of_getElem? hi) with k | k
    · have k' : w0.heap.size ≤ j := k
      omega
    · exact k
  · intro x hx
    rcases List.mem_or_eq_of_mem_set hx with hx | rfl
    · exact h.own x hx
    · exact h.own (g, L, T) (List.mem_of_getElem? hi)
  · intro x hx
    obtain ⟨j, hj1, hj2⟩ := List.mem_iff_getElem.1 hx
    rw [List.length_set] at hj1
    rw [List.getElem_set] at hj2
    by_cases e : i = j
    · rw [if_pos e] at hj2; subst hj2; exact hg
    · rw [if_neg e] at hj2
      subst hj2
      refine (h.has _ (List.getElem_mem hj1)).keep hf fun t => ?_
      exact h.neAt hi (List.getElem?_eq_getElem hj1) e (Eq.symm t)
  · rw [List.pairwise_iff_getElem]
    intro j k hj hk hjk
    have e := List.pairwise_iff_getElem.1 h.ne j k (by simpa using hj) (by simpa using hk) hjk
    rw [List.getElem_set, List.getElem_set]
    split
    · rename_i e1; subst e1
      rw [hi2] at e
      split
      · omega
      · exact e
    · split
      · rename_i e2; subst e2; rw [hi2] at e; exact e
      · exact e
/-- one cell of a block is written -/
theorem St.set {S : Nat → Prop} {w0 w : World} {bl : List (Nat × List Value × TypeId)} (h : St S w0 w bl) (i : Nat) {g : Nat} {L : List Value} {T : TypeId} (hi : bl[i]? = some (g, L, T)) (k : Nat) (v : Value) : St S w0 (w.setCell ⟨g, k, none⟩ v) (bl.set i (g, L.set k v, T)) :=
  h.put i hi ((Fr.refl (One g) w).setCell g k none v (fun _ => rfl)) ((h.at i hi).set k v)
/-- a block that came in is taken in -/
theorem St.take {S : Nat → Prop} {w0 w : World} {bl : List (Nat × List Value × TypeId)} (h : St S w0 w bl) {g : Nat} {L : List Value} {T : TypeId} (hg : Has w g L T) (hS : S g) (hn : ∀ x ∈ bl, x.1 ≠ g) : St S w0 w (bl ++ [(g, L, T)]) := by
  refine ⟨h.fr, ?_, ?_, ?_⟩
  · intro x hx
    rcases List.mem_append.1 hx with hx | hx
    · exact h.own x hx
    · simp only [List.mem_singleton] at hx; subst hx; exact .inr hS
  · intro x hx
    rcases List.mem_append.1 hx with hx | hx
    · exact h.has x hx
    · simp only [List.mem_singleton] at hx; subst hx; exact hg
  · rw [List.pairwise_append]
    refine ⟨h.ne, List.pairwise_singleton _ _, ?_⟩
    intro x hx y hy
    simp only [List.mem_singleton] at hy
    subst hy
    exact hn x hx
theorem St.one {w : World} {g : Nat} {L : List Value} {T : TypeId} (hg : Has w g L T) : St (One g) w w [(g, L, T)] := (St.start (One g) w).take hg rfl (by simp)

section
variable {w w0 : World} {ops : Array Oper} {rest : List Oper} {o : Oper} {a : Act} {Q : Exit → Act → World → Prop} {S : Nat → Prop} {bl : List (Nat × List Value × TypeId)}
theorem wl_allocS (hst : St S w0 w bl) {e : TypeId} (hgd : o.guard = none) (ho : o.op = .alloc e) {z : Value} (hi : (P.info? e).map (·.zero) = some (some z)) (L : List Value) (hL : z.cells.toList = L)
    (h : ∀ g w', St S w0 w' (bl ++ [(g, L, e)]) → wpList P ops Q rest (a.put o.dst (.pointer (some ⟨g, 0, none⟩))) w') : wpList P ops Q (o :: rest) a w :=
  wl_alloc hgd ho hi L hL fun w' hg hf _ => h _ w' (hst.new hf hg (Nat.le_refl _))
/-- a whole array is stored -/
theorem wl_storeS (hst : St S w0 w bl) (i : Nat) {g : Nat} {L : List Value} {T : TypeId} (hb : bl[i]? = some (g, L, T)) {ty : TypeId} {x y : Operand} (hgd : o.guard = none) (ho : o.op = .store ty x y) (hx : a.eval x = .pointer (some ⟨g, 0, none⟩)) {cs : List Value} (hy : a.eval y = .agg cs.toArray)
    (hn : cs.length = L.length) (hi : (P.info? ty).map (·.size) = some cs.length) (h1 : ∀ v ∈ cs, v.oneCell' = true)
    (h : ∀ w', St S w0 w' (bl.set i (g, cs, T)) → wpList P ops Q rest (a.put o.dst undef) w') : wpList P ops Q (o :: rest) a w :=
  wl_storeA hgd ho hx hy (hst.at i hb) (by omega) hi h1 fun w' hg hf _ => h w' (hst.put i hb hf (by rwa [splice_whole _ _ hn] at hg))
end
end Go.Mv

/- A region that draws its order, under a condition S on the world that holds till the last operations begin: the head (reads, calls) in an order of the prover's choice, behind it the tail (a store, as a rule) in the text's order. -/
namespace Go.Mv
open Go.RowKit
section
variable {P : Program} {ops : Array Oper} {md : Region.Mode} {Q : Exit → Act → World → Prop} {S : World → Prop}

/- the steps -/
variable {l tl : List Oper} {i : Nat} {r : List (Nat × Bool)} {a : Act} {w : World} {o : Oper}
end

end Go.Mv

/- A region that draws its order, as XTail's, where two operations of the head may come in either order (an allocation and a call). -/
namespace Go.Mv
open Go.RowKit
section
variable {P : Program} {ops : Array Oper} {md : Region.Mode} {Q : Exit → Act → World → Prop} {S : World → Prop}

/-- orders of the head: t: it only yields a value; r: it is carried out; b: one of two is carried out -/
inductive Sc where
  | nil
  | t (i : Nat) (s : Sc)
  | r (i : Nat) (s : Sc)
  | b (i j : Nat) (s u : Sc)
def Sc.len : Sc → Nat
  | .nil => 0
  | .t _ s => s.len + 1
  | .r _ s => s.len + 1
  | .b _ _ s _ => s.len + 1

/- the steps -/
variable {l tl : List Oper} {i j : Nat} {s u : Sc} {a : Act} {w : World} {o o2 : Oper}
end
section
variable {P : Program} {w w0 : World} {o : Oper} {a : Act} {K : Act → World → Prop} {Q : Exit → Act → World → Prop} {S : Nat → Prop} {bl : List (Nat × List Value × TypeId)}
end
end Go.Mv

/- Slices of the call's own that lie apart: one fact for all of them. -/
namespace Go.Mv
open Go.RowKit
variable {P : Program}
/-- an owned slice: its value, its elements' type, their cells each, how many, the cells -/
structure Ox where
  v : Value
  T : TypeId
  sz : Nat
  n : Nat
  L : List Value
/-- all of l are owned (from base on), no two share a block, none has a block of X -/
structure OwS (w : World) (base : Nat) (X : Nat → Prop) (l : List Ox) : Prop where
  own : ∀ x ∈ l, Own w base x.T x.sz x.v x.n x.L
  off : ∀ x ∈ l, ∀ k, OwnB x.v k → ¬ X k
  sep : l.Pairwise fun a b => ∀ k, OwnB a.v k → ¬ OwnB b.v k
  lt : ∀ k, X k → k < w.heap.size
theorem OwS.nil {w : World} {base : Nat} {X : Nat → Prop} (h : ∀ k, X k → k < w.heap.size) : OwS w base X [] := ⟨by simp, by simp, List.Pairwise.nil, h⟩
theorem OwS.at {w : World} {base : Nat} {X : Nat → Prop} {l : List Ox} (h : OwS w base X l) (i : Nat) {x : Ox} (hi : l[i]? = some x) : Own w base x.T x.sz x.v x.n x.L := h.own x (List.mem_of_getElem? hi)
theorem OwS.keep {w w' : World} {base : Nat} {X : Nat → Prop} {l : List Ox} (h : OwS w base X l) {S : Nat → Prop} (hf : Fr S w w') (hS : ∀ k, S k → X k) : OwS w' base X l :=
  ⟨fun x hx => (h.own x hx).keep hf fun k hk hs => h.off x hx k hk (hS k hs), h.off, h.sep, fun k hk => Nat.lt_of_lt_of_le (h.lt k hk) hf.size⟩
theorem OwS.still {w w' : World} {base : Nat} {X : Nat → Prop} {l : List Ox} (h : OwS w base X l) (hf : Fr Nob w w') : OwS w' base X l := h.keep hf fun _ t => t.elim
/-- one more -/
theorem OwS.new {w w' : World} {base : Nat} {X : Nat → Prop} {l : List Ox} (h : OwS w base X l) (hf : Fr Nob w w') {x : Ox} (ho : Own w' w.heap.size x.T x.sz x.v x.n x.L) (hb : base ≤ w.heap.size) : OwS w' base X (l ++ [x]) := by
  have h2 := h.still hf
  refine ⟨?_, ?_, ?_, h2.lt⟩
  · intro y hy
    rcases List.mem_append.1 hy with hy | hy
    · exact h2.own y hy
    · rw [List.mem_singleton.1 hy]; exact ho.mono hb
  · intro y hy
    rcases List.mem_append.1 hy with hy | hy
    · exact h2.off y hy
    · rw [List.mem_singleton.1 hy]
      intro k hk hx
      have h3 := (ho.lt hk).1
      have h4 := h.lt k hx
      omega
  · rw [List.pairwise_append]
    refine ⟨h.sep, by simp, fun a ha b hb2 k hk hk2 => ?_⟩
    rw [List.mem_singleton.1 hb2] at hk2
    have h3 := (ho.lt hk2).1
    have h4 := ((h.own a ha).lt hk).2
    omega
theorem OwS.sepAt {w : World} {base : Nat} {X : Nat → Prop} {l : List Ox} (h : OwS w base X l) {i j : Nat} {x y : Ox} (hi : l[i]? = some x) (hj : l[j]? = some y) (hij : i ≠ j) : ∀ k, OwnB x.v k → ¬ OwnB y.v k := by
  obtain ⟨hi1, rfl⟩ := List.getElem?_eq_some_iff.1 hi
  obtain ⟨hj1, rfl⟩ := List.getElem?_eq_some_iff.1 hj
  rcases Nat.lt_or_ge i j with k | k
  · exact List.pairwise_iff_getElem.1 h.sep i j hi1 hj1 k
  · exact fun b hb hc => List.pairwise_iff_getElem.1 h.sep j i hj1 hi1 (by omega) b hc hb
/-- the i-th is another -/
theorem OwS.put {w w' : World} {base : Nat} {X : Nat → Prop} {l : List Ox} (h : OwS w base X l) (i : Nat) {x y : Ox} (hi : l[i]? = some x) (hf : Fr (OwnB x.v) w w') (ho : Own w' base y.T y.sz y.v y.n y.L) (hb : y.v.ownBlock = x.v.ownBlock ∨ y.v.ownBlock = some w.heap.size) : OwS w' base X (l.set i y) := by
  obtain ⟨hi1, hi2⟩ := List.getElem?_eq_some_iff.1 hi
  have off : ∀ (z : Ox) (j : Nat), l[j]? = some z → i ≠ j → ∀ k, OwnB y.v k → ¬ OwnB z.v k := by
    intro z j hj hij k hk hz
    rcases hb with hb | hb
    · exact h.sepAt hi hj hij k (by unfold OwnB at *; rw [← hb]; exact hk) hz
    · have h3 := ((h.at j hj).lt hz).2
      have h4 : w.heap.size = k := by unfold OwnB at hk; rw [hb] at hk; exact Option.some.inj hk
      omega
  refine ⟨?_, ?_, ?_, fun k hk => Nat.lt_of_lt_of_le (h.lt k hk) hf.size⟩
  · intro z hz
    obtain ⟨j, hj1, hj2⟩ := List.mem_iff_getElem.1 hz
    rw [List.length_set] at hj1
    rw [List.getElem_set] at hj2
    by_cases e : i = j
    · rw [if_pos e] at hj2; subst hj2; exact ho
    · rw [if_neg e] at hj2
      subst hj2
      exact (h.own _ (List.getElem_mem hj1)).keep hf fun k hk hs => h.sepAt hi (List.getElem?_eq_getElem hj1) e k hs hk
  · intro z hz
    obtain ⟨j, hj1, hj2⟩ := List.mem_iff_getElem.1 hz
    rw [List.length_set] at hj1
    rw [List.getElem_set] at hj2
    by_cases e : i = j
    · rw [if_pos e] at hj2
      subst hj2
      intro k hk hx
      rcases hb with hb | hb
      · exact h.off x (List.mem_of_getElem? hi) k (by unfold OwnB at *; rw [← hb]; exact hk) hx
      · have h3 := h.lt k hx
        have h4 : w.heap.size = k := by unfold OwnB at hk; rw [hb] at hk; exact Option.some.inj hk
        omega
    · rw [if_neg e] at hj2
      subst hj2
      exact h.off _ (List.getElem_mem hj1)
  · rw [List.pairwise_iff_getElem]
    intro j k hj hk hjk
    have e := List.pairwise_iff_getElem.1 h.sep j k (by simpa using hj) (by simpa using hk) hjk
    rw [List.getElem_set, List.getElem_set]
    have hj' : j < l.length := by simpa using hj
    have hk' : k < l.length := by simpa using hk
    by_cases e1 : i = j
    · subst e1
      rw [if_pos rfl, if_neg (by omega)]
      exact off _ k (List.getElem?_eq_getElem hk') (by omega)
    · rw [if_neg e1]
      by_cases e2 : i = k
      · subst e2
        rw [if_pos rfl]
        exact fun b hb2 hc => off _ j (List.getElem?_eq_getElem hj') e1 b hc hb2
      · rw [if_neg e2]; exact e
/-- what lies elsewhere stays where an owned slice is written -/
theorem OwS.ne {w : World} {base : Nat} {X : Nat → Prop} {l : List Ox} (h : OwS w base X l) (i : Nat) {x : Ox} (hi : l[i]? = some x) {g : Nat} (hg : X g) : ¬ OwnB x.v g := fun hk => h.off x (List.mem_of_getElem? hi) g hk hg
theorem OwS.grow {w w' : World} {base : Nat} {ks : List Nat} {l : List Ox} (h : OwS w base (fun k => k ∈ ks) l) (hf : Fr Nob w w') {g : Nat} (hg : w.heap.size ≤ g) (hlt : g < w'.heap.size) : OwS w' base (fun k => k ∈ g :: ks) l := by
  have h2 := h.still hf
  refine ⟨h2.own, fun x hx k hk hks => ?_, h2.sep, fun k hk => ?_⟩
  · rcases List.mem_cons.1 hks with e | e
    · subst e
      have := ((h.own x hx).lt hk).2
      omega
    · exact h2.off x hx k hk e
  · rcases List.mem_cons.1 hk with e | e
    · subst e; exact hlt
    · exact h2.lt k e
theorem OwS.mono {w : World} {base : Nat} {X Y : Nat → Prop} {l : List Ox} (h : OwS w base X l) (hs : ∀ k, Y k → X k) : OwS w base Y l :=
  ⟨h.own, fun x hx k hk hy => h.off x hx k hk (hs k hy), h.sep, fun k hk => h.lt k (hs k hk)⟩
theorem splice_drop (B : List Value) (o k : Nat) (cs : List Value) (h : o + k + cs.length ≤ B.length) : (splice B (o + k) cs).drop o = splice (B.drop o) k cs := by
  unfold splice
  have h1 : (B.take (o + k)).drop o = (B.drop o).take k := by rw [List.drop_take]; congr 1; omega
  rw [List.drop_append_of_le_length (by simp; omega), h1, List.drop_drop]
  congr 2
  congr 1
  omega
theorem splice_take2 (B : List Value) (k m : Nat) (cs : List Value) (h : k + cs.length ≤ m) (hm : m ≤ B.length) : (splice B k cs).take m = splice (B.take m) k cs := by
  apply List.ext_getElem?
  intro i
  unfold splice
  have e1 : min k B.length = k := by omega
  have e2 : min k (min m B.length) = k := by omega
  simp only [List.getElem?_take, List.getElem?_append, List.length_take, List.getElem?_drop, e1, e2]
  by_cases h1 : i < m
  · by_cases h3 : i < k
    · simp only [h1, h3, if_true]
    · by_cases h2 : i - k < cs.length
      · simp only [h1, h3, h2, if_true, if_false]
      · have h4 : k + cs.length + (i - k - cs.length) < m := by omega
        simp only [h1, h3, h2, h4, if_true, if_false]
  · have h3 : ¬ i < k := by omega
    have h2 : ¬ i - k < cs.length := by omega
    have h4 : ¬ k + cs.length + (i - k - cs.length) < m := by omega
    simp only [h1, h3, h2, h4, if_false]
/-- an element of an owned slice is written -/
theorem Own.wrote {w w' : World} {base : Nat} {T : TypeId} {sz : Nat} {g o n cap : Nat} {L : List Value} (h : Own w base T sz (.slice (some ⟨g, o, none⟩) n cap) n L) {k : Nat} {cs : List Value} (hk : k + cs.length ≤ n * sz)
    (hw : ∀ B, Has w g B T → Has w' g (splice B (o + k) cs) T) : Own w' base T sz (.slice (some ⟨g, o, none⟩) n cap) n (splice L k cs) := by
  refine ⟨by rw [length_splice _ _ _ (by rw [h.1]; exact hk)]; exact h.1, .inr ?_⟩
  rcases h.2 with ⟨h2, -⟩ | ⟨g', o', cap', B, h2, hb, hh, hn, hm, hl, ht⟩
  · cases h2
  · cases h2
    have hle : n * sz ≤ cap * sz := Nat.mul_le_mul_right _ hn
    refine ⟨g, o, cap, _, rfl, hb, hw B hh, hn, hm, by rw [length_splice _ _ _ (by omega)]; exact hl, ?_⟩
    rw [splice_drop _ _ _ _ (by omega), splice_take2 _ _ _ _ hk (by simp; omega), ht]
section
variable {w : World} {ops : Array Oper} {rest : List Oper} {o : Oper} {a : Act} {Q : Exit → Act → World → Prop} {base : Nat} {X : Nat → Prop} {l : List Ox}
end
section
variable {w : World} {o : Oper} {a : Act} {K : Act → World → Prop} {Q : Exit → Act → World → Prop} {base : Nat} {X : Nat → Prop} {l : List Ox}
end
end Go.Mv

/- A store in memory: its five cells, its bytes, where its records lie. -/
namespace Mvp
/-- where the records lie, as cells -/
def exC (l : List (List UInt8)) : List Go.Value := (exL 0 l).flatMap fun x => [.int .i64 (x.1 : Int), .int .i64 (x.2 : Int)]
theorem exC_snoc {c : Nat → List UInt8 → List UInt8} (hc : ∀ i b, 8 ≤ (c i b).length) (l : List (List UInt8)) (b : List UInt8) : exC (l ++ [b]) = exC l ++ [.int .i64 (((framesB c 0 l).length + 4 : Nat) : Int), .int .i64 (((framesB c 0 l).length + 4 + b.length : Nat) : Int)] := by
  unfold exC
  rw [exL_snoc hc 0 0 l b, List.flatMap_append, Nat.zero_add]
  rfl
theorem flat2_at : ∀ (x : List (Nat × Nat)) (k : Nat) (p : Nat × Nat), x[k]? = some p → ((x.flatMap fun x => [Go.Value.int .i64 (x.1 : Int), .int .i64 (x.2 : Int)]).drop (k * 2)).take 2 = [.int .i64 (p.1 : Int), .int .i64 (p.2 : Int)]
  | [], k, p, h => by simp at h
  | a :: x, 0, p, h => by
    simp only [List.getElem?_cons_zero, Option.some.injEq] at h
    subst h
    rw [Nat.zero_mul, List.drop_zero, List.flatMap_cons]
    rfl
  | a :: x, k + 1, p, h => by
    have ih := flat2_at x k p (by simpa using h)
    rw [List.flatMap_cons, show (k + 1) * 2 = 2 + k * 2 by omega, ← List.drop_drop]
    exact ih
theorem exC_at (l : List (List UInt8)) (k f t : Nat) (h : (exL 0 l)[k]? = some (f, t)) : ((exC l).drop (k * 2)).take 2 = [.int .i64 (f : Int), .int .i64 (t : Int)] := flat2_at _ k (f, t) h
/-- how many bytes may still come, as the program has it -/
def lftI (s : SM) : Int := match s.left with | none => -1 | some k => (k : Int)
end Mvp
namespace Go.Mv
open Go.RowKit Mvp
/-- a store lies in block g (TS, TB, TX: its type, a byte's, that of where a record lies) -/
def SAt (TS TB TX : TypeId) (w : World) (base g lim : Nat) (s : SM) : Prop :=
  ∃ v rv, Has w g [v, .int .i64 (lftI s), .bool s.off, .int .i64 (lim : Int), rv] TS ∧ Own w base TB 1 v s.d.length (bs s.d) ∧ Own w base TX 2 rv s.recs.length (exC s.recs)
theorem SAt.still {TS TB TX : TypeId} {w w' : World} {base g lim : Nat} {s : SM} (h : SAt TS TB TX w base g lim s) (hf : Fr Nob w w') : SAt TS TB TX w' base g lim s := by
  obtain ⟨v, rv, h1, h2, h3⟩ := h
  exact ⟨v, rv, h1.keep hf id, h2.still hf, h3.still hf⟩
theorem SAt.mono {TS TB TX : TypeId} {w : World} {base base' g lim : Nat} {s : SM} (h : SAt TS TB TX w base g lim s) (hb : base' ≤ base) : SAt TS TB TX w base' g lim s := by
  obtain ⟨v, rv, h1, h2, h3⟩ := h
  exact ⟨v, rv, h1, h2.mono hb, h3.mono hb⟩
theorem SAt.lt {TS TB TX : TypeId} {w : World} {base g lim : Nat} {s : SM} (h : SAt TS TB TX w base g lim s) : g < w.heap.size := by
  obtain ⟨v, rv, h1, -⟩ := h
  exact h1.lt
/-- behind a write to the store's own block -/
theorem SAt.wrote {TS TB TX : TypeId} {w w' : World} {base g lim : Nat} {_ s' : SM} {v rv : Value} (hB : TB ≠ TS) (hX : TX ≠ TS) (hf : Fr (One g) w w') {L : List Value} (h0 : Has w g L TS)
    (h1 : Has w' g [v, .int .i64 (lftI s'), .bool s'.off, .int .i64 (lim : Int), rv] TS) (h2 : Own w base TB 1 v s'.d.length (bs s'.d)) (h3 : Own w base TX 2 rv s'.recs.length (exC s'.recs)) : SAt TS TB TX w' base g lim s' :=
  ⟨v, rv, h1, h2.keep hf fun k hk (e : k = g) => h2.ne h0 hB (e ▸ hk), h3.keep hf fun k hk (e : k = g) => h3.ne h0 hX (e ▸ hk)⟩
/-- a new one -/
theorem SAt.new {TS TB TX : TypeId} {w : World} {base g lim : Nat} (h : Has w g [.slice none 0 0, .int .i64 (-1), .bool false, .int .i64 (lim : Int), .slice none 0 0] TS) : SAt TS TB TX w base g lim SM.new :=
  ⟨_, _, h, Own.nil _ _ _ _, Own.nil _ _ _ _⟩
/-- the reference's store (TS: its type, TT: a text's) -/
def RSAt (TS TT : TypeId) (w : World) (base g lim : Nat) (s : SM) : Prop :=
  ∃ rv, Has w g [.int .i64 (lim : Int), .string (mkS s.d), rv, .int .i64 (lftI s), .bool s.off] TS ∧ Own w base TT 1 rv s.recs.length (ss s.recs)
theorem RSAt.still {TS TT : TypeId} {w w' : World} {base g lim : Nat} {s : SM} (h : RSAt TS TT w base g lim s) (hf : Fr Nob w w') : RSAt TS TT w' base g lim s := by
  obtain ⟨rv, h1, h2⟩ := h
  exact ⟨rv, h1.keep hf id, h2.still hf⟩
theorem RSAt.mono {TS TT : TypeId} {w : World} {base base' g lim : Nat} {s : SM} (h : RSAt TS TT w base g lim s) (hb : base' ≤ base) : RSAt TS TT w base' g lim s := by
  obtain ⟨rv, h1, h2⟩ := h
  exact ⟨rv, h1, h2.mono hb⟩
theorem RSAt.new {TS TT : TypeId} {w : World} {base g lim : Nat} (h : Has w g [.int .i64 (lim : Int), .string (mkS []), .slice none 0 0, .int .i64 (-1), .bool false] TS) : RSAt TS TT w base g lim SM.new :=
  ⟨_, h, Own.nil _ _ _ _⟩
end Go.Mv

/- The tree, plain: what a path leads to, from its end (the document) and from its beginning (the program). -/
namespace Mvt
variable {α : Type} (nd : α → α → α)
/-- the greatest power of two below n -/
def half (n : Nat) : Nat := 2 ^ Nat.log2 (n - 1)
/-- up, as far as nothing stands beside -/
def skip (a e : Nat) : Nat × Nat := if a % 2 = 0 ∧ 0 < a then skip (a / 2) (e / 2) else (a, e)
termination_by a
decreasing_by omega
end Mvt

/- The tree: node, leafHash, bytes.Equal, sized, lists, small; the reference's leaf, node, half, sized. -/
namespace Go.Proofs.Ytdadnajbdnbbdaa
open Go.RowKit Go.Mv Mvp Mvt
attribute [local irreducible] permS permP toB turnsK squeeze permN spongeB feed frameL framesL tagL
theorem Tag_of (k : List UInt8) (hk : k.length ≤ 100) (g c : Nat) (vs : List Value) (ls : List (List UInt8)) (w : World) (hh : Has w g vs 22) (hp : Parts w vs ls) (hm : ls.length ≤ 1000000) :
    Calls Try.prog 46 #[.string (mkS k), .slice (some ⟨g, 0, none⟩) ls.length c] w fun r w' => ∃ v, r = .returned v ∧ Own w' w.heap.size 5 1 v 32 (bs (tagL k ls)) ∧ Fr Nob w w' := by
  have := Tag_any (mkS k) (some ⟨g, 0, none⟩) c ls w (by rw [mkS_size]; omega) hm (hp.at hh)
  rwa [mkS_toList] at this

set_option maxRecDepth 1000000 in
theorem equal_any (a : Option Addr) (n c : Nat) (l : List UInt8) (a' : Option Addr) (n' c' : Nat) (l' : List UInt8) (w : World) (hb : RdB w a n l) (hb' : RdB w a' n' l') :
    Calls Try.prog 49 #[.slice a n c, .slice a' n' c'] w fun r w' => r = .returned (.bool (decide (l = l'))) ∧ w = w' := by
  have x1 := run_string hb c Try.underlying22 Try.underlying5 Try.underlying9
  have x2 := run_string hb' c' Try.underlying22 Try.underlying5 Try.underlying9
  go_enter Try.func49, Try.ntmps49
  go_wp2_with fail
  go_ret
  exact ⟨ret_bool (beq_mkS _ _), rfl⟩

end Go.Proofs.Ytdadnajbdnbbdaa

/- SpongeLogs: what stays of many logs, step by step. -/
namespace Go.Mv
open Go.RowKit
theorem Has.ne {w : World} {g g' : Nat} {L L' : List Value} {T T' : TypeId} (h : Has w g L T) (h' : Has w g' L' T') (hT : T ≠ T') : g ≠ g' := by
  rintro rfl
  obtain ⟨_, _, h1, _⟩ := h
  obtain ⟨_, _, h2, _⟩ := h'
  rw [h1] at h2
  simp at h2
  exact hT h2.2.1
theorem Own.ne2 {w : World} {base base' sz sz' n n' : Nat} {T T' : TypeId} {v v' : Value} {L L' : List Value} (h : Own w base T sz v n L) (h' : Own w base' T' sz' v' n' L') (hT : T ≠ T') (k : Nat) (hk : OwnB v k) : ¬ OwnB v' k := by
  obtain ⟨_, ⟨rfl, _⟩ | ⟨g, o, cap, B, rfl, _, hg, _⟩⟩ := h'
  · intro t; cases t
  · intro t
    have e : g = k := by simpa [OwnB, Value.ownBlock] using t
    subst e
    exact h.ne hg hT hk
end Go.Mv
namespace Go.Proofs.Ytdadnajbdnbbdaa
open Go.RowKit Go.Mv Mvp
attribute [local irreducible] permS permP toB turnsK squeeze permN spongeB feed frameL framesL tagL
abbrev Tri : Type := Nat × Nat × List UInt8
variable {w w' : World} {base ga gb : Nat} {sa sb : List UInt8} {T : List Tri} {vk vw : Value} {Lk Lw : List Value}
end Go.Proofs.Ytdadnajbdnbbdaa

/- mintvaultlaw8.lists, small: lists of strings as lists of bytes. -/
namespace Go.Proofs.Ytdadnajbdnbbdaa
open Go.RowKit Go.Mv Mvp Mvt
attribute [local irreducible] permS permP toB turnsK squeeze permN spongeB feed frameL framesL tagL
/-- slices of bytes of the call's own -/
def POwn (w : World) (base : Nat) : List Value → List (List UInt8) → Prop
  | [], [] => True
  | v :: vs, l :: ls => Own w base 5 1 v l.length (bs l) ∧ POwn w base vs ls
  | _, _ => False
theorem POwn.len {w : World} {base : Nat} : ∀ {vs : List Value} {ls : List (List UInt8)}, POwn w base vs ls → vs.length = ls.length
  | [], [], _ => rfl
  | _ :: _, _ :: _, h => by simp only [List.length_cons]; rw [POwn.len h.2]
  | [], _ :: _, h => h.elim
  | _ :: _, [], h => h.elim
theorem POwn.keep {w w' : World} {base : Nat} {S : Nat → Prop} (hf : Fr S w w') : ∀ {vs : List Value} {ls : List (List UInt8)}, POwn w base vs ls → (∀ v n l, Own w base 5 1 v n (bs l) → ∀ k, OwnB v k → ¬ S k) → POwn w' base vs ls
  | [], [], _, _ => trivial
  | _ :: _, _ :: _, h, hs => ⟨h.1.keep hf (hs _ _ _ h.1), POwn.keep hf h.2 hs⟩
  | [], _ :: _, h, _ => h.elim
  | _ :: _, [], h, _ => h.elim
theorem POwn.still {w w' : World} {base : Nat} {vs : List Value} {ls : List (List UInt8)} (h : POwn w base vs ls) (hf : Fr Nob w w') : POwn w' base vs ls := POwn.keep hf h (fun _ _ _ _ _ _ t => t)
theorem POwn.parts {w : World} {base : Nat} : ∀ {vs : List Value} {ls : List (List UInt8)}, POwn w base vs ls → (∀ x ∈ ls, x.length ≤ 1000000) → Parts w vs ls
  | [], [], _, _ => trivial
  | _ :: _, _ :: _, h, hx => ⟨own_part h.1 (hx _ (by simp)), POwn.parts h.2 (fun x hxm => hx x (by simp [hxm]))⟩
  | [], _ :: _, h, _ => h.elim
  | _ :: _, [], h, _ => h.elim
/-- a list of lists of bytes, all of the call's own -/
def LOwn (w : World) (base : Nat) (v : Value) (ls : List (List UInt8)) : Prop := ∃ vs, Own w base 22 1 v ls.length vs ∧ POwn w base vs ls
theorem LOwn.still {w w' : World} {base : Nat} {v : Value} {ls : List (List UInt8)} (h : LOwn w base v ls) (hf : Fr Nob w w') : LOwn w' base v ls := by
  obtain ⟨vs, h1, h2⟩ := h; exact ⟨vs, h1.still hf, h2.still hf⟩
theorem LOwn.parts {w : World} {base : Nat} {v : Value} {ls : List (List UInt8)} (h : LOwn w base v ls) (hx : ∀ x ∈ ls, x.length ≤ 1000000) : ∃ a c, v = .slice a ls.length c ∧ ls.length ≤ c ∧ PartsAt w a ls := by
  obtain ⟨vs, h1, h2⟩ := h
  obtain ⟨a, c, rfl, hc, hr, -⟩ := h1.form
  rw [Nat.mul_one] at hr
  exact ⟨a, c, rfl, hc, vs, hr, (h2.parts hx).get⟩

theorem sumL_le2 (ls : List (List UInt8)) (B : Nat) (h : ∀ x ∈ ls, x.length ≤ B) : sumL ls ≤ ls.length * B := by
  induction ls with
  | nil => simp [sumL]
  | cons a l ih =>
    have h1 := ih (fun x hx => h x (by simp [hx]))
    have h2 := h a (by simp)
    have h3 : sumL (a :: l) = a.length + sumL l := by simp only [sumL, List.map_cons, List.foldr_cons]
    rw [h3, List.length_cons, Nat.succ_mul]; omega

end Go.Proofs.Ytdadnajbdnbbdaa

/- bytes.Clone; lists of owned slices of bytes that lie apart. -/
namespace Go.Proofs.Ytdadnajbdnbbdaa
open Go.RowKit Go.Mv Mvp Mvt
attribute [local irreducible] permS permP toB turnsK squeeze permN spongeB feed frameL framesL tagL
/-- no two of them share a block -/
def Sep (vs : List Value) : Prop := vs.Pairwise fun a b => ∀ k, OwnB a k → ¬ OwnB b k
theorem Sep.nil : Sep [] := List.Pairwise.nil
theorem POwn.get {w : World} {base : Nat} : ∀ {vs : List Value} {ls : List (List UInt8)}, POwn w base vs ls → ∀ (i : Nat) (v : Value), vs[i]? = some v → ∃ l, ls[i]? = some l ∧ Own w base 5 1 v l.length (bs l)
  | [], [], _, i, v, hv => by simp at hv
  | a :: vs, l :: ls, h, 0, v, hv => by simp at hv; subst hv; exact ⟨l, rfl, h.1⟩
  | a :: vs, l :: ls, h, i + 1, v, hv => by simp at hv; obtain ⟨l', h1, h2⟩ := POwn.get h.2 i v hv; exact ⟨l', by simpa using h1, h2⟩
  | [], _ :: _, h, _, _, _ => h.elim
  | _ :: _, [], h, _, _, _ => h.elim
theorem POwn.mono {w : World} {base base' : Nat} (hb : base' ≤ base) : ∀ {vs : List Value} {ls : List (List UInt8)}, POwn w base vs ls → POwn w base' vs ls
  | [], [], _ => trivial
  | _ :: _, _ :: _, h => ⟨h.1.mono hb, POwn.mono hb h.2⟩
  | [], _ :: _, h => h.elim
  | _ :: _, [], h => h.elim
/-- a slice of slices of bytes, all of the call's own, apart -/
def SOwn (w : World) (base : Nat) (v : Value) (ls : List (List UInt8)) : Prop := ∃ vs, Own w base 22 1 v ls.length vs ∧ POwn w base vs ls ∧ Sep vs
theorem SOwn.nil (w : World) (base : Nat) : SOwn w base (.slice none 0 0) [] := ⟨[], Own.nil _ _ _ _, trivial, Sep.nil⟩
theorem SOwn.still {w w' : World} {base : Nat} {v : Value} {ls : List (List UInt8)} (h : SOwn w base v ls) (hf : Fr Nob w w') : SOwn w' base v ls := by
  obtain ⟨vs, h1, h2, h3⟩ := h; exact ⟨vs, h1.still hf, h2.still hf, h3⟩
end Go.Proofs.Ytdadnajbdnbbdaa

/- store: big, numberOf, frame. -/
namespace Go.Proofs.Ytdadnajbdnbbdaa
open Go.RowKit Go.Mv Mvp
theorem partRd {w : World} {a : Option Addr} {n c : Nat} {l : List UInt8} (h : PartIs w (.slice a n c) l) : RdB w a n l := by
  obtain ⟨a', n', c', he, -, -, hr, -⟩ := h
  cases he
  exact hr
theorem part_lenS {w : World} {a : Option Addr} {n c : Nat} {l : List UInt8} (h : PartIs w (.slice a n c) l) : l.length = n := (partRd h).len
theorem part_leS {w : World} {a : Option Addr} {n c : Nat} {l : List UInt8} (h : PartIs w (.slice a n c) l) : n ≤ 1000000 := by
  obtain ⟨a', n', c', he, -, hn, -⟩ := h
  cases he
  exact hn
theorem ret_u64s {a b : Int} (h : a = b) : Ending.returned (.int .u64 a) = .returned (.int .u64 b) := by rw [h]
theorem byteJ (n j : Nat) : ((UInt8.ofNat (n / 256 ^ j)).toNat : Int) = (n : Int) / 2 ^ (8 * j) % 256 := by
  rw [UInt8.toNat_ofNat', show (2 : Nat) ^ 8 = 256 from rfl, show (256 : Nat) ^ j = 2 ^ (8 * j) by rw [Nat.pow_mul]]
  simp
theorem numS_lt (l : List UInt8) : numS l < 256 ^ l.length := by
  induction l with
  | nil => simp [numS]
  | cons x l ih =>
    rw [numS_cons, List.length_cons, Nat.pow_succ]
    have hx : x.toNat < 256 := x.toNat_lt
    have : x.toNat * 256 ^ l.length + 256 ^ l.length ≤ 256 * 256 ^ l.length := by rw [← Nat.succ_mul]; exact Nat.mul_le_mul_right _ hx
    omega
theorem numS_snoc (l : List UInt8) (x : UInt8) : numS (l ++ [x]) = numS l * 256 + x.toNat := by unfold numS; rw [List.foldl_append]; rfl
theorem shl_or8s (x : UInt64) (y : UInt8) (u : Nat) (h : x.toNat = u) (hu : u * 256 + y.toNat < 18446744073709551616) : (wo (shl x 8) (wid y)).toNat = u * 256 + y.toNat := by
  have hy := y.toNat_lt
  have h1 : (wo (shl x 8) (wid y)).toNat = (x.toNat * 2 ^ 8 % 18446744073709551616) ||| y.toNat := by simp [wo, shl_toNat, wid]
  have h2 : u * 2 ^ 8 < 18446744073709551616 := by rw [show (2 : Nat) ^ 8 = 256 from rfl]; exact Nat.lt_of_le_of_lt (Nat.le_add_right _ _) hu
  rw [h1, h, Nat.mod_eq_of_lt h2, Nat.mul_comm, ← Nat.two_pow_add_eq_or_of_lt (by simpa using hy), Nat.mul_comm]
attribute [local irreducible] permS permP toB turnsK squeeze permN spongeB feed frameL framesL tagL bigN bigJ numS frameB ckS
set_option maxHeartbeats 2000000 in
set_option maxRecDepth 100000 in
theorem big_any (n size : Nat) (w : World) (hs : size ≤ 8) (_hn : n < 18446744073709551616) :
    Calls Try.prog 45 #[.int .u64 (n : Int), .int .i64 (size : Int)] w fun e w' => ∃ g, e = .returned (.slice (some ⟨g, 0, none⟩) size size) ∧ w.heap.size ≤ g ∧ Has w' g (bs (bigN n size)) 5 ∧ Fr Nob w w' := by
  have st0 := St.start Nob w
  go_enter Try.func45, Try.ntmps45
  go_wp2_with (with_reducible refine wl_stop (o := ⟨some 8, _, _, _, _, _⟩) ?_)
  refine wl_make rfl rfl Try.underlying22 info_u8 rfl rfl rfl size size (by simp) (by simp) (by omega) (by omega) (by unfold maxLen; omega) ?_
  intro w2 hg2 hf2 hz2
  clear hz2
  have hg3 : Has w2 w.heap.size (bs (bigJ n size 0)) 5 := by rw [bigJ_0]; simpa [bs] using hg2
  have st2 := st0.new hf2 hg3 (Nat.le_refl _)
  clear st0 hg2 hg3 hf2
  generalize hgw : w.heap.size = gb at *
  have HG := Lib.hid hgw
  clear hgw
  go_wp2
  go_loopw [11] (fun i wr => ∃ k : Nat, k ≤ size ∧ i = .int .i64 (k : Int) ∧ St Nob w wr [(gb, bs (bigJ n size k), 5)]) (fun i _ => size - (intOf i).toNat)
  case atStart => exact ⟨0, by omega, rfl, st2⟩
  case round =>
    obtain ⟨k, hk, rfl, st⟩ := hrel
    clear st2
    by_cases hlt : k < size
    · have hltI : (k : Int) < (size : Int) := by omega
      have hd1 : (size : Int) - 1 - (k : Int) = ((size - 1 - k : Nat) : Int) := by omega
      have hlt2 : size - 1 - k < size := by omega
      obtain ⟨v3, c3, f3⟩ := (st.at 0 rfl).ready (i := size - 1 - k) (by rw [length_bs, bigJ_len _ _ _ hk]; exact hlt2)
      have HB := Lib.hid (bigJ_succ n size k hlt)
      generalize hm : size - 1 - k = m at *
      have HM := Lib.hid hm
      clear hm
      have hp : (8 * k : Nat) < 64 := by omega
      go_wp2
      go_roundw
      case rel =>
        have h1 := st.set 0 rfl m (.int .u8 ((UInt8.ofNat (n / 256 ^ k)).toNat : Int))
        rw [bs_set, HB.out, byteJ] at h1
        exact ⟨k + 1, by omega, by go_num, h1⟩
      case measure => simp [intOf]; omega
    · have hge : ¬ ((k : Int) < (size : Int)) := by omega
      have hks : k = size := by omega
      have hh := st.at 0 rfl
      rw [hks, bigJ_all] at hh
      have HH := Lib.hid hh
      have HF := Lib.hid st.fr
      clear st hh hks
      go_wp2
      go_ret
      exact ⟨gb, rfl, by rw [HG.out]; exact Nat.le_refl _, HH.out, HF.out⟩
set_option maxHeartbeats 2000000 in
set_option maxRecDepth 100000 in
theorem numberOf_any (a : Option Addr) (n c : Nat) (l : List UInt8) (w : World) (hn : n ≤ 8) (hb : RdB w a n l) :
    Calls Try.prog 43 #[.slice a n c] w fun e w' => e = .returned (.int .u64 (numS l : Int)) ∧ w' = w := by
  have HL := Lib.hid hb.len
  go_enter Try.func43, Try.ntmps43
  go_wp2_with fail
  go_loop [7, 2] (fun i h => ∃ (k : Nat) (hv : UInt64), k ≤ n ∧ i = .int .i64 (k : Int) ∧ h = .int .u64 (hv.toNat : Int) ∧ hv.toNat = numS (l.take k)) (fun i _ => (n - intOf i).toNat)
  case atStart => exact ⟨0, 0, by omega, rfl, rfl, by unfold numS; simp⟩
  case round =>
    obtain ⟨k, hv, hk, rfl, rfl, hhv⟩ := hrel
    have HHV := Lib.hid hhv; clear hhv
    by_cases hlt : k < n
    · have hltI : (k : Int) < (n : Int) := by omega
      obtain ⟨b, o, rfl, hat⟩ := hb.at (by omega)
      have hc := hat k hlt
      have hsn : numS (l.take (k + 1)) = numS (l.take k) * 256 + (l.getD k 0).toNat := by
        have h2 : k < l.length := by have := HL.out; omega
        rw [List.take_succ_eq_append_getElem h2, numS_snoc]
        simp [List.getD_eq_getElem?_getD, h2]
      have hlt64 : numS (l.take (k + 1)) < 18446744073709551616 := by
        have h1 := numS_lt (l.take (k + 1))
        have h2 : (l.take (k + 1)).length ≤ 8 := by rw [List.length_take]; omega
        have h3 : 256 ^ (l.take (k + 1)).length ≤ 256 ^ 8 := Nat.pow_le_pow_right (by decide) h2
        have h4 : (256 : Nat) ^ 8 = 18446744073709551616 := by decide
        omega
      have hsx := shl_or8s hv (l.getD k 0) _ HHV.out (by rw [← hsn]; exact hlt64)
      rw [← hsn] at hsx
      generalize l.getD k 0 = y at *
      have HSX := Lib.hid hsx; clear hsx hsn hlt64 hat
      go_wp2_with fail
      go_round
      case rel => exact ⟨k + 1, _, by omega, by go_num, rfl, HSX.out⟩
      case measure => simp [intOf]; omega
    · have hge : ¬ ((k : Int) < (n : Int)) := by omega
      have hks : l.take k = l := List.take_of_length_le (by have := HL.out; omega)
      have HK := Lib.hid hks
      clear hks
      go_wp2_with fail
      go_ret
      exact ⟨ret_u64s (by rw [HHV.out, HK.out]), rfl⟩
theorem frameB_ck (i : Nat) (l : List UInt8) : frameB ckS i l = bigN l.length 4 ++ l ++ (ckS i l).take 8 := by unfold frameB; rfl
theorem ckS_is (i : Nat) (l : List UInt8) : ckS i l = tagL kFrame [bigN i 8, l] := by unfold ckS; rfl
theorem kFrame_eq : (⟨#[102, 114, 97, 109, 101]⟩ : ByteArray) = mkS kFrame := rfl
theorem frameB_length (i : Nat) (l : List UInt8) : (frameB ckS i l).length = 12 + l.length := frameB_len ckS_len i l
set_option maxHeartbeats 2000000 in
set_option maxRecDepth 100000 in
theorem sframe_any (i : Nat) (a : Option Addr) (n c : Nat) (l : List UInt8) (w : World) (hi : i ≤ 1000000) (hp : PartIs w (.slice a n c) l) :
    Calls Try.prog 40 #[.int .i64 (i : Int), .slice a n c] w fun e w' => ∃ v, e = .returned v ∧ Own w' w.heap.size 5 1 v (12 + n) (bs (frameB ckS i l)) ∧ Fr Nob w w' := by
  have HP := Lib.hid hp
  obtain ⟨a', n', c', he, hc, hn, hr, -⟩ := hp
  cases he
  have HL := Lib.hid hr.len
  have HN := Lib.hid hn
  have HI := Lib.hid hi
  have hn64 : (n : Int) % 18446744073709551616 = (n : Int) := by omega
  have hi64 : (i : Int) % 18446744073709551616 = (i : Int) := by omega
  clear hr hc hn hi
  go_enter Try.func40, Try.ntmps40
  go_wp2_with fail
  refine (big_any n 4 w (by omega) (by have := HN.out; omega)).mono ?_
  rintro e1 w1 ⟨g1, rfl, hle1, hh1, hf1⟩
  have HO1 := Lib.hid (show Own w1 w.heap.size 5 1 (.slice (some ⟨g1, 0, none⟩) 4 4) 4 (bs (bigN n 4)) by
    have h := Own.made hh1 w.heap.size hle1 1 4 4 (Nat.le_refl _) (by unfold maxLen; omega) (by rw [length_bs, bigN_len]; omega)
    rwa [List.take_of_length_le (by rw [length_bs, bigN_len]; exact Nat.le_refl _)] at h)
  have HF1 := Lib.hid hf1
  clear hle1 hh1 hf1
  go_wp2_with (with_reducible refine wl_stop (o := ⟨some 11, _, _, _, _, _⟩) ?_)
  refine wl_append rfl rfl Try.underlying22 info_u8 rfl (by decide) HO1.out rfl (news := bs l) rfl (by rw [Nat.mul_one]; exact (partRd (HP.out.still HF1.out))) (bs_one _) (by unfold maxLen; have := HN.out; omega) (by have := HN.out; omega) HF1.out.size ?_
  intro v2 w2 ho2 hf2 hb2
  have HO2 := Lib.hid ho2
  have HF2 := Lib.hid (HO1.out.fr HF1.out (Nat.le_refl _) hf2)
  clear ho2 hf2 hb2 HO1 HF1
  go_wp2_with fail
  refine (big_any i 8 w2 (by omega) (by have := HI.out; omega)).mono ?_
  rintro e3 w3 ⟨g3, rfl, hle3, hh3, hf3⟩
  have HO3 := Lib.hid (HO2.out.still hf3)
  have HF3 := Lib.hid (HF2.out.then hf3)
  have HP3 := Lib.hid (show PartIs w3 (.slice (some ⟨g3, 0, none⟩) 8 8) (bigN i 8) from ⟨_, 8, 8, rfl, Nat.le_refl _, by omega, (by have h := Rd.whole hh3; rwa [length_bs, bigN_len] at h), Old.has hh3 0⟩)
  clear hle3 hh3 hf3 HO2 HF2
  go_wp2_with (with_reducible refine wl_stop (o := ⟨some 17, _, _, _, _, _⟩) ?_)
  refine wl_slit rfl rfl Try.underlying23 info_sl [.slice (some ⟨g3, 0, none⟩) 8 8, .slice a n c] rfl (by simp; exact ⟨rfl, rfl⟩) rfl rfl ?_
  intro w4 hh4 hf4 hz4
  clear hz4
  have HPS := Lib.hid (show Parts w4 [.slice (some ⟨g3, 0, none⟩) 8 8, .slice a n c] [bigN i 8, l] from ⟨HP3.out.still hf4, HP.out.still (HF3.out.then hf4), trivial⟩)
  have HO4 := Lib.hid (HO3.out.still hf4)
  have HF4 := Lib.hid (HF3.out.then hf4)
  have HH4 := Lib.hid hh4
  clear hh4 hf4 HO3 HF3 HP3
  generalize w3.heap.size = g4 at *
  rw [kFrame_eq]
  go_wp2_with fail
  refine (Tag_of kFrame (by decide) _ _ _ _ w4 HH4.out HPS.out (by simp)).mono ?_
  rintro e5 w5 ⟨v5, rfl, ho5, hf5⟩
  obtain ⟨a5, c5, rfl, hc5, hr5, -⟩ := ho5.form
  have HR5 := Lib.hid hr5
  have HO5 := Lib.hid (HO4.out.still hf5)
  have HF5 := Lib.hid (HF4.out.then hf5)
  have hcut : (Instr.sliceAt 22 (.slice a5 32 c5) none (some (.int .i64 8)) none).run Try.prog w5 = .ok (.slice a5 8 c5) w5 := run_slice_hi w5 Try.underlying22 (by kernel_rfl) a5 32 c5 .i64 8 (by omega)
  clear ho5 hf5 hr5 HO4 HF4 HPS HH4
  go_wp2_with (with_reducible refine wl_stop (o := ⟨some 20, _, _, _, _, _⟩) ?_)
  refine wl_append rfl rfl Try.underlying22 info_u8 rfl (by decide) HO5.out rfl (news := bs ((ckS i l).take 8)) rfl (by rw [← bs_take, ckS_is]; exact Rd.take (show Rd w5 a5 32 (bs (tagL kFrame [bigN i 8, l])) from HR5.out) 8 (by omega)) (bs_one _) (by unfold maxLen; have := HN.out; omega) (by have := HN.out; omega) HF5.out.size ?_
  intro v6 w6 ho6 hf6 hb6
  have HO6 := Lib.hid ho6
  have HF6 := Lib.hid (HO5.out.fr HF5.out (Nat.le_refl _) hf6)
  clear ho6 hf6 hb6 HO5 HF5
  go_wp2_with fail
  go_ret
  refine ⟨_, rfl, ?_, HF6.out⟩
  rw [frameB_ck, HL.out, bs_append, bs_append]
  have h := HO6.out
  rwa [show 4 + n + 8 = 12 + n by omega] at h
end Go.Proofs.Ytdadnajbdnbbdaa

/- A region that draws its order, by a plan: operations that only yield values are taken ahead (w: in whatever world; t: under a condition S on the world, that holds till operation m is carried out), the others are carried out when nothing else can come (r, m), or in either order (b). -/
namespace Go.Mv
open Go.RowKit
section
variable {P : Program} {ops : Array Oper} {md : Region.Mode} {Q : Exit → Act → World → Prop} {S : World → Prop} {m : Nat}

def wpP (P : Program) (md : Region.Mode) (ops : Array Oper) (Q : Exit → Act → World → Prop) (S : World → Prop) (m : Nat) : Nat → Array Bool → Act → World → Prop
  | 0, listed, a, w => Region.ready md ops listed = [] ∧ Q .normal a w
  | f + 1, listed, a, w => (Region.ready md ops listed = [] → Q .normal a w) ∧
    ∀ i ∈ Region.ready md ops listed, wpOp P ops Q i (fun a' w' => (listed.getD m true = false → i ≠ m → S w') ∧ wpP P md ops Q S m f (listed.setIfInBounds i true) a' w') a w

theorem wpAny_of_P : ∀ (f : Nat) (listed : Array Bool) (a : Act) (w : World), wpP P md ops Q S m f listed a w → wpAny P md ops Q f listed a w
  | 0, _, _, _, h => h
  | f + 1, _, _, _, h => ⟨h.1, fun i hi => wpOp_mono (fun a' w' h' => wpAny_of_P f _ a' w' h'.2) (h.2 i hi)⟩

/-- what is listed is closed -/
structure Cl (md : Region.Mode) (ops : Array Oper) (listed : Array Bool) : Prop where
  size : listed.size = ops.size
  closed : ∀ j oj, ops[j]? = some oj → listed.getD j false = true → ∀ e ∈ oj.after, Region.binds md e = true → listed.getD e.on false = true
theorem Cl.set {i : Nat} {listed : Array Bool} (inv : Cl md ops listed) (hi : i ∈ Region.ready md ops listed) : Cl md ops (listed.setIfInBounds i true) := by
  obtain ⟨_, oi, hoi, hall⟩ := mem_ready.1 hi
  refine ⟨by simp [inv.size], fun j oj hj hl e he hb => ?_⟩
  by_cases hij : i = j
  · subst hij
    have : oj = oi := Option.some.inj (hj.symm.trans hoi)
    subst this
    exact getD_set_true (hall e he hb)
  · rw [getD_set_ne false hij] at hl
    exact getD_set_true (inv.closed j oj hj hl e he hb)
/-- m waits for i, through others -/
def ancB (md : Region.Mode) (ops : Array Oper) (m : Nat) : Nat → Nat → Bool
  | 0, _ => false
  | f + 1, i => (List.range ops.size).any fun j => Region.waitsFor md ops j i && (decide (j = m) || ancB md ops m f j)
theorem anc_waits {listed : Array Bool} (inv : Cl md ops listed) : ∀ (f i : Nat), ancB md ops m f i = true → listed.getD i true = false → m ∉ Region.ready md ops listed
  | 0, i, h, _ => by cases h
  | f + 1, i, h, hun => by
    intro hr
    obtain ⟨j, hj, hj2⟩ := List.any_eq_true.1 h
    simp only [Bool.and_eq_true, Bool.or_eq_true, decide_eq_true_eq] at hj2
    obtain ⟨oj, hoj, e, he, hb, hon⟩ := Region.waitsFor_spec hj2.1
    rcases hj2.2 with rfl | hja
    · obtain ⟨-, om, hom, hall⟩ := mem_ready.1 hr
      have : oj = om := Option.some.inj (hoj.symm.trans hom)
      subst this
      have h2 := hall e he hb
      rw [hon, getD_both hun] at h2
      cases h2
    · cases hl : listed.getD j false with
      | true =>
        have h2 := inv.closed j oj hoj hl e he hb
        rw [hon, getD_both hun] at h2
        cases h2
      | false =>
        have hjs : j < listed.size := by rw [inv.size]; exact (Array.getElem?_eq_some_iff.1 hoj).1
        exact anc_waits inv f j hja (getD_in hjs hl) hr

theorem wpP_takeW {i : Nat} {oi : Oper} {v : Value} (hi : ops[i]? = some oi) (hsel : ∀ (j : Nat) (o : Oper) cs b, ops[j]? = some o → o.op ≠ .select cs b)
    (hQ : ∀ c a w, Q (.panic c) (a.put oi.dst v) w → Q (.panic c) a w) (him : i ≠ m) (hm : m < ops.size) :
    ∀ (f : Nat) (listed : Array Bool) (a : Act) (w : World), Cl md ops listed →
      (∀ j oj, ops[j]? = some oj → j ≠ i → listed.getD j true = false → (∀ e ∈ oj.after, Region.binds md e = true → e.on ≠ i) → oi.apart ops oj = true) →
      i ∈ Region.ready md ops listed → YieldsIf P ops (fun _ => True) oi v a → (listed.getD m true = false → S w) →
      wpP P md ops Q S m f (listed.setIfInBounds i true) (a.put oi.dst v) w → wpP P md ops Q S m (f + 1) listed a w := by
  intro f
  induction f with
  | zero =>
    intro listed a w inv _ hr hy hS H
    refine ⟨fun h => (by rw [h] at hr; cases hr), fun j hj => ?_⟩
    by_cases hji : j = i
    · subst hji; exact hy.wpOp hi trivial ⟨fun h _ => hS h, H⟩
    · have := ready_mono hj hji
      rw [H.1] at this
      cases this
  | succ f ih =>
    intro listed a w inv hfree hr hy hS H
    have hun := (mem_ready.1 hr).1
    refine ⟨fun h => (by rw [h] at hr; cases hr), fun j hj => ?_⟩
    by_cases hji : j = i
    · subst hji; exact hy.wpOp hi trivial ⟨fun h _ => hS h, H⟩
    · have h1 := H.2 j (ready_mono hj hji)
      obtain ⟨hjun, oj, hoj, hall⟩ := mem_ready.1 hj
      have hnot : ∀ e ∈ oj.after, Region.binds md e = true → e.on ≠ i := fun e he hb heq => by
        have h1 := hall e he hb
        rw [heq, getD_both hun] at h1
        cases h1
      have h2 := wpOp_putIf hoj (hfree j oj hoj hji hjun hnot) (fun cs b => hsel i oi cs b hi) (fun cs b => hsel j oj cs b hoj) hQ hy h1
      have hfree' : ∀ k ok, ops[k]? = some ok → k ≠ i → (listed.setIfInBounds j true).getD k true = false →
          (∀ e ∈ ok.after, Region.binds md e = true → e.on ≠ i) → oi.apart ops ok = true := fun k ok hk hki hun hno => by
        refine hfree k ok hk hki ?_ hno
        by_cases hjk : j = k
        · subst hjk; exact hjun
        · rw [getD_set_ne true hjk] at hun; exact hun
      refine wpOp_mono (fun a' w' h3 => ?_) h2
      have hS' : listed.getD m true = false → j ≠ m → S w' := fun hml hjm => h3.2.1 (by rw [getD_set_ne true him]; exact hml) hjm
      refine ⟨hS', ih (listed.setIfInBounds j true) a' w' (inv.set hj) hfree' (ready_mono hr (Ne.symm hji)) h3.1 (fun hml => ?_) ?_⟩
      · by_cases hjm : j = m
        · subst hjm
          have : (listed.setIfInBounds j true).getD j true = true := by
            have hs : j < listed.size := by rw [inv.size]; exact hm
            simp [hs]
          rw [this] at hml; cases hml
        · exact hS' (by rwa [getD_set_ne true hjm] at hml) hjm
      · rw [Array.setIfInBounds_comm _ _ hji]
        exact h3.2.2

theorem wpP_takeS {i af : Nat} {oi : Oper} {v : Value} (hi : ops[i]? = some oi) (hsel : ∀ (j : Nat) (o : Oper) cs b, ops[j]? = some o → o.op ≠ .select cs b)
    (hQ : ∀ c a w, Q (.panic c) (a.put oi.dst v) w → Q (.panic c) a w) (him : i ≠ m) (hanc : ancB md ops m af i = true) :
    ∀ (f : Nat) (listed : Array Bool) (a : Act) (w : World), Cl md ops listed → listed.getD m true = false →
      (∀ j oj, ops[j]? = some oj → j ≠ i → listed.getD j true = false → (∀ e ∈ oj.after, Region.binds md e = true → e.on ≠ i) → oi.apart ops oj = true) →
      i ∈ Region.ready md ops listed → YieldsIf P ops S oi v a → S w →
      wpP P md ops Q S m f (listed.setIfInBounds i true) (a.put oi.dst v) w → wpP P md ops Q S m (f + 1) listed a w := by
  intro f
  induction f with
  | zero =>
    intro listed a w inv _ _ hr hy hS H
    refine ⟨fun h => (by rw [h] at hr; cases hr), fun j hj => ?_⟩
    by_cases hji : j = i
    · subst hji; exact hy.wpOp hi hS ⟨fun _ _ => hS, H⟩
    · have := ready_mono hj hji
      rw [H.1] at this
      cases this
  | succ f ih =>
    intro listed a w inv hml hfree hr hy hS H
    have hun := (mem_ready.1 hr).1
    refine ⟨fun h => (by rw [h] at hr; cases hr), fun j hj => ?_⟩
    by_cases hji : j = i
    · subst hji; exact hy.wpOp hi hS ⟨fun _ _ => hS, H⟩
    · have hjm : j ≠ m := fun e => anc_waits inv af i hanc hun (e ▸ hj)
      have h1 := H.2 j (ready_mono hj hji)
      obtain ⟨hjun, oj, hoj, hall⟩ := mem_ready.1 hj
      have hnot : ∀ e ∈ oj.after, Region.binds md e = true → e.on ≠ i := fun e he hb heq => by
        have h1 := hall e he hb
        rw [heq, getD_both hun] at h1
        cases h1
      have h2 := wpOp_putIf hoj (hfree j oj hoj hji hjun hnot) (fun cs b => hsel i oi cs b hi) (fun cs b => hsel j oj cs b hoj) hQ hy h1
      have hfree' : ∀ k ok, ops[k]? = some ok → k ≠ i → (listed.setIfInBounds j true).getD k true = false →
          (∀ e ∈ ok.after, Region.binds md e = true → e.on ≠ i) → oi.apart ops ok = true := fun k ok hk hki hun hno => by
        refine hfree k ok hk hki ?_ hno
        by_cases hjk : j = k
        · subst hjk; exact hjun
        · rw [getD_set_ne true hjk] at hun; exact hun
      refine wpOp_mono (fun a' w' h3 => ?_) h2
      have hS' : S w' := h3.2.1 (by rw [getD_set_ne true him]; exact hml) hjm
      refine ⟨fun _ _ => hS', ih (listed.setIfInBounds j true) a' w' (inv.set hj) (by rw [getD_set_ne true hjm]; exact hml) hfree' (ready_mono hr (Ne.symm hji)) h3.1 hS' ?_⟩
      rw [Array.setIfInBounds_comm _ _ hji]
      exact h3.2.2

inductive Pl where
  | nil
  | w (i : Nat) (s : Pl)
  | t (i : Nat) (s : Pl)
  | r (i : Nat) (s : Pl)
  | m (i : Nat) (s : Pl)
  | b (i j : Nat) (s u : Pl)
  | c (i j k : Nat) (s u v : Pl)
def Pl.len : Pl → Nat
  | .nil => 0
  | .w _ s => s.len + 1
  | .t _ s => s.len + 1
  | .r _ s => s.len + 1
  | .m _ s => s.len + 1
  | .b _ _ s _ => s.len + 1
  | .c _ _ _ s _ _ => s.len + 1
def wpPlan (P : Program) (ops : Array Oper) (Q : Exit → Act → World → Prop) (S : World → Prop) : Pl → Act → World → Prop
  | .nil, a, w => Q .normal a w
  | .w i s, a, w => ∃ o v, ops[i]? = some o ∧ YieldsIf P ops (fun _ => True) o v a ∧ wpPlan P ops Q S s (a.put o.dst v) w
  | .t i s, a, w => ∃ o v, ops[i]? = some o ∧ YieldsIf P ops S o v a ∧ wpPlan P ops Q S s (a.put o.dst v) w
  | .r i s, a, w => ∃ o, ops[i]? = some o ∧ o.guard = none ∧ o.wp P a w (fun a' w' => S w' ∧ wpPlan P ops Q S s a' w') Q
  | .m i s, a, w => ∃ o, ops[i]? = some o ∧ o.guard = none ∧ o.wp P a w (fun a' w' => wpPlan P ops Q S s a' w') Q
  | .b i j s u, a, w => (∃ o, ops[i]? = some o ∧ o.guard = none ∧ o.wp P a w (fun a' w' => S w' ∧ wpPlan P ops Q S s a' w') Q) ∧
      (∃ o, ops[j]? = some o ∧ o.guard = none ∧ o.wp P a w (fun a' w' => S w' ∧ wpPlan P ops Q S u a' w') Q)
  | .c i j k s u v, a, w => (∃ o, ops[i]? = some o ∧ o.guard = none ∧ o.wp P a w (fun a' w' => S w' ∧ wpPlan P ops Q S s a' w') Q) ∧
      (∃ o, ops[j]? = some o ∧ o.guard = none ∧ o.wp P a w (fun a' w' => S w' ∧ wpPlan P ops Q S u a' w') Q) ∧
      (∃ o, ops[k]? = some o ∧ o.guard = none ∧ o.wp P a w (fun a' w' => S w' ∧ wpPlan P ops Q S v a' w') Q)
def planOk (md : Region.Mode) (ops : Array Oper) (m : Nat) : Pl → Array Bool → Bool
  | .nil, listed => (Region.ready md ops listed).isEmpty
  | .w i s, listed => decide (i ≠ m) && (Region.ready md ops listed).contains i && Region.free md ops listed i && planOk md ops m s (listed.setIfInBounds i true)
  | .t i s, listed => decide (i ≠ m) && decide (listed.getD m true = false) && (Region.ready md ops listed).contains i && Region.free md ops listed i && ancB md ops m ops.size i && planOk md ops m s (listed.setIfInBounds i true)
  | .r i s, listed => decide (i ≠ m) && decide (listed.getD m true = false) && decide (Region.ready md ops listed = [i]) && planOk md ops m s (listed.setIfInBounds i true)
  | .m i s, listed => (decide (i = m) || decide (listed.getD m true = true)) && decide (Region.ready md ops listed = [i]) && planOk md ops m s (listed.setIfInBounds i true)
  | .b i j s u, listed => decide (i ≠ m) && decide (j ≠ m) && decide (listed.getD m true = false) && decide (s.len = u.len) && decide (Region.ready md ops listed = [i, j]) && planOk md ops m s (listed.setIfInBounds i true) && planOk md ops m u (listed.setIfInBounds j true)
  | .c i j k s u v, listed => decide (i ≠ m) && decide (j ≠ m) && decide (k ≠ m) && decide (listed.getD m true = false) && decide (s.len = u.len) && decide (s.len = v.len) && decide (Region.ready md ops listed = [i, j, k]) && planOk md ops m s (listed.setIfInBounds i true) && planOk md ops m u (listed.setIfInBounds j true) && planOk md ops m v (listed.setIfInBounds k true)

theorem wpOp_one {i : Nat} {o : Oper} {a : Act} {w : World} {K : Act → World → Prop} (ho : ops[i]? = some o) (hg : o.guard = none) (h : o.wp P a w K Q) : wpOp P ops Q i K a w := by
  unfold wpOp
  simp only [ho]
  rw [if_pos (by simp [Region.wanted, hg])]
  exact .inl h
theorem getD_set_self {listed : Array Bool} {i : Nat} (h : i < listed.size) : (listed.setIfInBounds i true).getD i true = true := by simp [h]

theorem wpP_of_plan (hsel : Region.noSelect ops = true) (hm : m < ops.size) (hQ : ∀ c (d : Option Tmp) v a w, Q (.panic c) (Act.put a d v) w → Q (.panic c) a w) :
    ∀ (s : Pl) (listed : Array Bool) (a : Act) (w : World), Cl md ops listed → planOk md ops m s listed = true → (listed.getD m true = false → S w) → wpPlan P ops Q S s a w → wpP P md ops Q S m s.len listed a w
  | .nil, listed, a, w, _, hB, _, h => ⟨by simpa [planOk] using hB, h⟩
  | .w i r, listed, a, w, inv, hB, hS, h => by
    obtain ⟨o, v, ho, hy, hK⟩ := h
    simp only [planOk, Bool.and_eq_true, decide_eq_true_eq] at hB
    obtain ⟨⟨⟨him, hr⟩, hf⟩, hB'⟩ := hB
    have hr' : i ∈ Region.ready md ops listed := by simpa using hr
    exact wpP_takeW ho (Region.noSelect_spec hsel) (fun c a w => hQ c o.dst v a w) him hm r.len listed a w inv (Region.free_spec ho hf) hr' hy hS
      (wpP_of_plan hsel hm hQ r _ _ w (inv.set hr') hB' (fun h => hS (by rwa [getD_set_ne true him] at h)) hK)
  | .t i r, listed, a, w, inv, hB, hS, h => by
    obtain ⟨o, v, ho, hy, hK⟩ := h
    simp only [planOk, Bool.and_eq_true, decide_eq_true_eq] at hB
    obtain ⟨⟨⟨⟨⟨him, hml⟩, hr⟩, hf⟩, han⟩, hB'⟩ := hB
    have hr' : i ∈ Region.ready md ops listed := by simpa using hr
    exact wpP_takeS ho (Region.noSelect_spec hsel) (fun c a w => hQ c o.dst v a w) him han r.len listed a w inv hml (Region.free_spec ho hf) hr' hy (hS hml)
      (wpP_of_plan hsel hm hQ r _ _ w (inv.set hr') hB' (fun _ => hS hml) hK)
  | .r i r, listed, a, w, inv, hB, hS, h => by
    obtain ⟨o, ho, hg, hK⟩ := h
    simp only [planOk, Bool.and_eq_true, decide_eq_true_eq] at hB
    obtain ⟨⟨⟨him, hml⟩, hr⟩, hB'⟩ := hB
    have hr' : i ∈ Region.ready md ops listed := by rw [hr]; simp
    refine ⟨fun h0 => (by rw [hr] at h0; cases h0), fun j hj => ?_⟩
    rw [hr] at hj
    have hj' : j = i := by simpa using hj
    subst hj'
    exact wpOp_one ho hg (Oper.wp_mono (fun a' w' h' => ⟨fun _ _ => h'.1, wpP_of_plan hsel hm hQ r _ a' w' (inv.set hr') hB' (fun _ => h'.1) h'.2⟩) hK)
  | .m i r, listed, a, w, inv, hB, hS, h => by
    obtain ⟨o, ho, hg, hK⟩ := h
    simp only [planOk, Bool.and_eq_true, Bool.or_eq_true, decide_eq_true_eq] at hB
    obtain ⟨⟨him, hr⟩, hB'⟩ := hB
    have hr' : i ∈ Region.ready md ops listed := by rw [hr]; simp
    refine ⟨fun h0 => (by rw [hr] at h0; cases h0), fun j hj => ?_⟩
    rw [hr] at hj
    have hj' : j = i := by simpa using hj
    subst hj'
    have hml : (listed.setIfInBounds j true).getD m true = true := by
      rcases him with e | e
      · subst e; exact getD_set_self (by rw [inv.size]; exact hm)
      · by_cases e2 : j = m
        · subst e2; exact getD_set_self (by rw [inv.size]; exact hm)
        · rw [getD_set_ne true e2]; exact e
    refine wpOp_one ho hg (Oper.wp_mono (fun a' w' h' => ⟨fun h1 h2 => ?_, wpP_of_plan hsel hm hQ r _ a' w' (inv.set hr') hB' (fun h1 => by rw [hml] at h1; cases h1) h'⟩) hK)
    rcases him with e | e
    · exact absurd e h2
    · rw [e] at h1; cases h1
  | .b i j r u, listed, a, w, inv, hB, hS, h => by
    obtain ⟨⟨o, ho, hg, hK⟩, ⟨o2, ho2, hg2, hK2⟩⟩ := h
    simp only [planOk, Bool.and_eq_true, decide_eq_true_eq] at hB
    obtain ⟨⟨⟨⟨⟨⟨him, hjm⟩, hml⟩, hlen⟩, hr⟩, hB1⟩, hB2⟩ := hB
    have hri : i ∈ Region.ready md ops listed := by rw [hr]; simp
    have hrj : j ∈ Region.ready md ops listed := by rw [hr]; simp
    refine ⟨fun h0 => (by rw [hr] at h0; cases h0), fun k hk => ?_⟩
    rw [hr] at hk
    have hk' : k = i ∨ k = j := by simpa using hk
    rcases hk' with e | e
    · subst e
      exact wpOp_one ho hg (Oper.wp_mono (fun a' w' h' => ⟨fun _ _ => h'.1, wpP_of_plan hsel hm hQ r _ a' w' (inv.set hri) hB1 (fun _ => h'.1) h'.2⟩) hK)
    · subst e
      rw [hlen]
      exact wpOp_one ho2 hg2 (Oper.wp_mono (fun a' w' h' => ⟨fun _ _ => h'.1, wpP_of_plan hsel hm hQ u _ a' w' (inv.set hrj) hB2 (fun _ => h'.1) h'.2⟩) hK2)
  | .c i j k r u v, listed, a, w, inv, hB, hS, h => by
    obtain ⟨⟨o, ho, hg, hK⟩, ⟨o2, ho2, hg2, hK2⟩, ⟨o3, ho3, hg3, hK3⟩⟩ := h
    simp only [planOk, Bool.and_eq_true, decide_eq_true_eq] at hB
    obtain ⟨⟨⟨⟨⟨⟨⟨⟨⟨him, hjm⟩, hkm⟩, hml⟩, hlen⟩, hlen2⟩, hr⟩, hB1⟩, hB2⟩, hB3⟩ := hB
    have hri : i ∈ Region.ready md ops listed := by rw [hr]; simp
    have hrj : j ∈ Region.ready md ops listed := by rw [hr]; simp
    have hrk : k ∈ Region.ready md ops listed := by rw [hr]; simp
    refine ⟨fun h0 => (by rw [hr] at h0; cases h0), fun q hk => ?_⟩
    rw [hr] at hk
    have hk' : q = i ∨ q = j ∨ q = k := by simpa using hk
    rcases hk' with e | e | e
    · subst e
      exact wpOp_one ho hg (Oper.wp_mono (fun a' w' h' => ⟨fun _ _ => h'.1, wpP_of_plan hsel hm hQ r _ a' w' (inv.set hri) hB1 (fun _ => h'.1) h'.2⟩) hK)
    · subst e
      show wpOp P ops Q _ (fun a' w' => _ ∧ wpP P md ops Q S m r.len _ a' w') a w
      rw [hlen]
      exact wpOp_one ho2 hg2 (Oper.wp_mono (fun a' w' h' => ⟨fun _ _ => h'.1, wpP_of_plan hsel hm hQ u _ a' w' (inv.set hrj) hB2 (fun _ => h'.1) h'.2⟩) hK2)
    · subst e
      show wpOp P ops Q _ (fun a' w' => _ ∧ wpP P md ops Q S m r.len _ a' w') a w
      rw [hlen2]
      exact wpOp_one ho3 hg3 (Oper.wp_mono (fun a' w' h' => ⟨fun _ _ => h'.1, wpP_of_plan hsel hm hQ v _ a' w' (inv.set hrk) hB3 (fun _ => h'.1) h'.2⟩) hK3)

def planAll (ops : Array Oper) (m : Nat) (s : Pl) : Bool :=
  Region.noSelect ops && decide (m < ops.size) && decide (s.len = ops.size) && planOk .any ops m s (Array.replicate ops.size false)
/-- THE BEGINNING -/
theorem wp_region_plan {id : Nat} {a : Act} {w : World} {l : List Oper} (S : World → Prop) (m : Nat) (s : Pl) (hm : P.follows .mixedOrders = true) (hB : planAll l.toArray m s = true)
    (hS : S w.drew) (hQ : ∀ c (d : Option Tmp) v a w, Q (.panic c) (Act.put a d v) w → Q (.panic c) a w)
    (h : wpPlan P l.toArray Q S s a w.drew) : (Code.region id l.toArray true).wp P Q a w := by
  simp only [planAll, Bool.and_eq_true, decide_eq_true_eq] at hB
  obtain ⟨⟨⟨hsel, hms⟩, hlen⟩, hseq⟩ := hB
  have inv0 : Cl .any l.toArray (Array.replicate l.toArray.size false) :=
    ⟨by simp, fun j oj _ hl => (by rw [getD_replicate_false] at hl; cases hl)⟩
  have H := wpP_of_plan (md := .any) hsel hms hQ s _ a w.drew inv0 hseq (fun _ => hS) h
  rw [hlen] at H
  exact wp_region_any hm (wpAny_of_P _ _ _ _ H)

/- the steps -/
variable {l : List Oper} {i j : Nat} {s u : Pl} {a : Act} {w : World} {o o2 : Oper}
theorem plan_end (h : Q .normal a w) : wpPlan P ops Q S .nil a w := h
theorem plan_w (ho : l[i]? = some o) (hg : o.guard = none) {v : Value} (hv : ∀ wx, (execOp a.eval o).run P wx = .ok (.value v) wx) (h : wpPlan P l.toArray Q S s (a.put o.dst v) w) : wpPlan P l.toArray Q S (.w i s) a w :=
  ⟨o, v, by simpa using ho, .inl ⟨by simp [Region.wanted, hg], fun wx _ => hv wx⟩, h⟩
theorem plan_t (ho : l[i]? = some o) (hg : o.guard = none) {v : Value} (hv : ∀ wx, S wx → (execOp a.eval o).run P wx = .ok (.value v) wx) (h : wpPlan P l.toArray Q S s (a.put o.dst v) w) : wpPlan P l.toArray Q S (.t i s) a w :=
  ⟨o, v, by simpa using ho, .inl ⟨by simp [Region.wanted, hg], hv⟩, h⟩
theorem plan_m (ho : l[i]? = some o) (hg : o.guard = none) (h : o.wp P a w (fun a' w' => wpPlan P l.toArray Q S s a' w') Q) : wpPlan P l.toArray Q S (.m i s) a w :=
  ⟨o, by simpa using ho, hg, h⟩
end
end Go.Mv

/- store: write, put. -/
namespace Go.Mv
open Go.RowKit Mvp
/-- a store lies in block g, its bytes at v, where its records lie at rv -/
structure SA (TS TB TX : TypeId) (w : World) (base g lim : Nat) (s : SM) (v rv : Value) : Prop where
  low : base ≤ g
  has : Has w g [v, .int .i64 (lftI s), .bool s.off, .int .i64 (lim : Int), rv] TS
  bytes : Own w base TB 1 v s.d.length (bs s.d)
  exts : Own w base TX 2 rv s.recs.length (exC s.recs)
/-- the store's blocks -/
def StB (g : Nat) (v rv : Value) : Nat → Prop := fun k => k = g ∨ OwnB v k ∨ OwnB rv k
theorem SA.keep {TS TB TX : TypeId} {w w' : World} {base g lim : Nat} {s : SM} {v rv : Value} (h : SA TS TB TX w base g lim s v rv) {S : Nat → Prop} (hf : Fr S w w') (hS : ∀ k, StB g v rv k → ¬ S k) : SA TS TB TX w' base g lim s v rv :=
  ⟨h.low, h.has.keep hf (hS g (.inl rfl)), h.bytes.keep hf fun k hk => hS k (.inr (.inl hk)), h.exts.keep hf fun k hk => hS k (.inr (.inr hk))⟩
theorem SA.still {TS TB TX : TypeId} {w w' : World} {base g lim : Nat} {s : SM} {v rv : Value} (h : SA TS TB TX w base g lim s v rv) (hf : Fr Nob w w') : SA TS TB TX w' base g lim s v rv := h.keep hf fun _ _ t => t
theorem SA.lt {TS TB TX : TypeId} {w : World} {base g lim : Nat} {s : SM} {v rv : Value} (h : SA TS TB TX w base g lim s v rv) {k : Nat} (hk : StB g v rv k) : base ≤ k ∧ k < w.heap.size := by
  rcases hk with rfl | hk | hk
  · exact ⟨h.low, h.has.lt⟩
  · exact h.bytes.lt hk
  · exact h.exts.lt hk
theorem SA.size {TS TB TX : TypeId} {w : World} {base g lim : Nat} {s : SM} {v rv : Value} (h : SA TS TB TX w base g lim s v rv) : base ≤ w.heap.size := Nat.le_of_lt (Nat.lt_of_le_of_lt h.low h.has.lt)
theorem SA.mono {TS TB TX : TypeId} {w : World} {base base' g lim : Nat} {s : SM} {v rv : Value} (h : SA TS TB TX w base g lim s v rv) (hb : base' ≤ base) : SA TS TB TX w base' g lim s v rv :=
  ⟨Nat.le_trans hb h.low, h.has, h.bytes.mono hb, h.exts.mono hb⟩
theorem Fr.stb {TS TB TX : TypeId} {w0 w w' : World} {base g lim : Nat} {s : SM} {v rv : Value} (hf : Fr Nob w0 w) (h : SA TS TB TX w base g lim s v rv) (hb : w0.heap.size ≤ base) (k : Fr (StB g v rv) w w') : Fr Nob w0 w' :=
  hf.trans k fun i hi hs => by have := (h.lt hs).1; omega
/-- a cell of a block is written -/
theorem Own.offB {w w' : World} {base : Nat} {T : TypeId} {sz : Nat} {v : Value} {n : Nat} {L : List Value} (h : Own w base T sz v n L) {g : Nat} {L' : List Value} {T' : TypeId} (hg : Has w g L' T') (hT : T ≠ T') (hf : Fr (One g) w w') : Own w' base T sz v n L :=
  h.keep hf fun k hk (e : k = g) => h.ne hg hT (e ▸ hk)
theorem Has.offO {w w' : World} {base : Nat} {T : TypeId} {sz : Nat} {v : Value} {n : Nat} {L : List Value} (h : Own w base T sz v n L) {g : Nat} {L' : List Value} {T' : TypeId} (hg : Has w g L' T') (hT : T ≠ T') (hf : Fr (OwnB v) w w') : Has w' g L' T' :=
  hg.keep hf (h.ne hg hT)
/-- one cell more is written -/
theorem Has.put1 {w : World} {g : Nat} {L : List Value} {T : TypeId} (h : Has w g L T) (i : Nat) (v : Value) : Has (w.setCell ⟨g, i, none⟩ v) g (L.set i v) T ∧ Fr (One g) w (w.setCell ⟨g, i, none⟩ v) :=
  ⟨h.set i v, (Fr.refl (One g) w).setCell g i none v fun _ => rfl⟩
theorem wp_append1 {P : Program} {w : World} {o : Oper} {a : Act} {K : Act → World → Prop} {Q : Exit → Act → World → Prop} {s x : Operand} {t : TypeId} {e : TypeId} {z : Value} {sz by_ : Nat} {v : Value} {n base : Nat} {L : List Value} (hown : Own w base e sz v n L) (ho : o.op = .call { callee := .builtin .append, args := #[s, x], argTypes := #[t, t] })
    (ht : P.underlying t = some (.slice e)) (hi0 : (P.info? e).map (fun i => (i.zero, i.size, i.bytes)) = some (some z, sz, by_))
    (hzs : z.cells.size = sz) (hsz : 0 < sz) (hs : a.eval s = v)
    {xa : Option Addr} {m c : Nat} {news : List Value} (hx : a.eval x = .slice xa m c) (hnews : Rd w xa (m * sz) news) (h1 : ∀ u ∈ news, u.oneCell' = true)
    (h63 : n + m ≤ maxLen) (hbytes : (n + m) * by_ ≤ 140737488355328) (hbase : base ≤ w.heap.size)
    (h : ∀ v' w', Own w' base e sz v' (n + m) (L ++ news) → Fr (OwnB v) w w' → (v'.ownBlock = v.ownBlock ∨ v'.ownBlock = some w.heap.size) → K (a.put o.dst v') w') : o.wp P a w K Q := by
  obtain ⟨v', w', hr, h2, h3, h4⟩ := run_append2 (P := P) base t o.type e z sz by_ ht hi0 hzs hsz v n L hown xa m c news hnews h1 h63 hbytes hbase
  unfold Oper.wp execOp
  simp only [ho, resolve, invoke, builtin, Sem.run_bind, Sem.run_pure, Result.andThen_ok, List.map_toArray, List.map_cons, List.map_nil, hs, hx, hr]
  exact h v' w' h2 h3 h4
/-- bytes do not lie in a block that has none -/
theorem RdB.offHas {w w' : World} {a : Option Addr} {m : Nat} {b : List UInt8} (h : RdB w a m b) {g : Nat} {L : List Value} {T : TypeId} (hg : Has w g L T) (hL : ∀ u ∈ L, ∀ x, u ≠ .int .u8 x) (hf : Fr (One g) w w') : RdB w' a m b := by
  rcases Nat.eq_zero_or_pos m with h0 | h0
  · subst h0
    have hb := List.eq_nil_of_length_eq_zero h.len
    subst hb
    exact RdB.nil _ _
  · refine h.keep hf fun x hx e => ?_
    obtain ⟨bb, o, rfl, hc⟩ := h.at h0
    cases hx
    have e2 : bb = g := e
    subst e2
    have h1 := hc 0 h0
    rw [hg.get] at h1
    exact hL _ (List.mem_of_getElem? h1) _ rfl
end Go.Mv
namespace Go.Proofs.Ytdadnajbdnbbdaa
open Go.RowKit Go.Mv Mvp
abbrev SAt1 (w : World) (base g lim : Nat) (s : SM) (v rv : Value) : Prop := SA 83 5 88 w base g lim s v rv
/-- a disk that is written to: v its bytes, and what may change -/
structure WR (w w' : World) (base g : Nat) (v v' : Value) (x : List Value) (n : Nat) (d : List UInt8) : Prop where
  has : Has w' g (v' :: x) 83
  own : Own w' base 5 1 v' n (bs d)
  fr : Fr (fun k => k = g ∨ OwnB v k) w w'
attribute [local irreducible] permS permP toB turnsK squeeze permN spongeB feed frameL framesL tagL bigN bigJ numS frameB ckS exC
set_option maxHeartbeats 2000000 in
set_option maxRecDepth 100000 in
theorem write_all (g base : Nat) (v : Value) (n : Nat) (d : List UInt8) (off lim rv : Value) (a : Option Addr) (m c : Nat) (b : List UInt8) (w : World) (_hoff : off.cells = #[off])
    (hh : Has w g [v, .int .i64 (-1), off, lim, rv] 83) (ho : Own w base 5 1 v n (bs d)) (hr : RdB w a m b) (hs : n + m ≤ 100000000) (hb : base ≤ w.heap.size) :
    Calls Try.prog 39 #[.pointer (some ⟨g, 0, none⟩), .slice a m c] w fun e w' => ∃ v', e = .returned (.bool true) ∧ WR w w' base g v v' [.int .i64 (-1), off, lim, rv] (n + m) (d ++ b) := by
  have HH := Lib.hid hh
  have HO := Lib.hid ho
  have HR := Lib.hid hr
  have HS := Lib.hid hs
  have HB := Lib.hid hb
  have c0 := hh.cell (i := 0) (v := v) rfl
  have c1 := hh.cell (i := 1) (v := .int .i64 (-1)) rfl
  clear hh ho hr hs hb
  go_enter Try.func39, Try.ntmps39
  go_wp2_with (with_reducible refine wl_stop (o := ⟨some 49, _, _, _, _, _⟩) ?_)
  refine wl_append rfl rfl Try.underlying22 info_u8 rfl (by decide) HO.out rfl (news := bs b) rfl (by rw [Nat.mul_one]; exact HR.out) (bs_one _) (by unfold maxLen; have := HS.out; omega) (by have := HS.out; omega) HB.out ?_
  intro v2 w2 ho2 hf2 hb2
  clear hb2 c0 c1
  have hh2 := Has.offO HO.out HH.out (by decide) hf2
  have HO2 := Lib.hid (ho2.offB hh2 (by decide) (hh2.put1 0 v2).2)
  have HF2 := Lib.hid hf2
  have HH2 := Lib.hid (hh2.put1 0 v2).1
  have HF3 := Lib.hid (hh2.put1 0 v2).2
  obtain ⟨av, cv, rfl, -⟩ := ho2.form
  obtain ⟨u, cu, fu⟩ := hh2.ready (i := 0) (by simp)
  clear ho2 hf2 hh2
  go_wp2_with fail
  go_ret
  refine ⟨_, rfl, ⟨HH2.out, ?_, ?_⟩⟩
  · rw [bs_append]; exact HO2.out
  · exact (HF2.out.mono fun k _ hk => .inr hk).trans HF3.out fun k _ hk => .inl hk
set_option maxHeartbeats 2000000 in
set_option maxRecDepth 100000 in
theorem write_some (g base : Nat) (v : Value) (n : Nat) (d : List UInt8) (x : Int) (off lim rv : Value) (a : Option Addr) (m c : Nat) (b : List UInt8) (w : World) (hnu : ∀ u ∈ [v, off, lim, rv], ∀ x, u ≠ .int .u8 x)
    (hh : Has w g [v, .int .i64 x, off, lim, rv] 83) (ho : Own w base 5 1 v n (bs d)) (hr : RdB w a m b) (hs : n + m ≤ 100000000) (hb : base ≤ w.heap.size) (hk : (m : Int) ≤ x) (hk2 : x < 9223372036854775808) :
    Calls Try.prog 39 #[.pointer (some ⟨g, 0, none⟩), .slice a m c] w fun e w' => ∃ v', e = .returned (.bool true) ∧ WR w w' base g v v' [.int .i64 (x - (m : Int)), off, lim, rv] (n + m) (d ++ b) := by
  have HH := Lib.hid hh
  have HO := Lib.hid ho
  have HR := Lib.hid hr
  have HS := Lib.hid hs
  have HB := Lib.hid hb
  have c1 := hh.cell (i := 1) (v := .int .i64 x) rfl
  obtain ⟨u1, cu1, fu1⟩ := hh.ready (i := 1) (by simp)
  have hne : (x != -1) = true := by simp; omega
  have hne2 : (x == -1) = false := by simp; omega
  have hnl : ¬ (x < (m : Int)) := by omega
  clear hh ho hr hs hb
  have hp := HH.out.put1 1 (.int .i64 (x - (m : Int)))
  have HH1 := Lib.hid hp.1
  have HF1 := Lib.hid hp.2
  have HO1 := Lib.hid (HO.out.offB HH.out (by decide) hp.2)
  have HR1 := Lib.hid (HR.out.offHas HH.out (by intro u hu y e; simp only [List.mem_cons, List.not_mem_nil, or_false] at hu; rcases hu with rfl | rfl | rfl | rfl | rfl; exact hnu _ (by simp) _ e; cases e; exact hnu _ (by simp) _ e; exact hnu _ (by simp) _ e; exact hnu _ (by simp) _ e) hp.2)
  have c0 := hp.1.cell (i := 0) (v := v) rfl
  clear hp
  go_enter Try.func39, Try.ntmps39
  go_wp2_with (with_reducible refine wl_stop (o := ⟨some 49, _, _, _, _, _⟩) ?_)
  refine wl_append rfl rfl Try.underlying22 info_u8 rfl (by decide) HO1.out rfl (news := bs b) rfl (by rw [Nat.mul_one]; exact HR1.out) (bs_one _) (by unfold maxLen; have := HS.out; omega) (by have := HS.out; omega) (Nat.le_trans HB.out HF1.out.size) ?_
  intro v2 w2 ho2 hf2 hb2
  clear hb2 c0 c1 cu1 fu1
  have hh2 := Has.offO HO1.out HH1.out (by decide) hf2
  have HO2 := Lib.hid (ho2.offB hh2 (by decide) (hh2.put1 0 v2).2)
  have HF2 := Lib.hid hf2
  have HH2 := Lib.hid (hh2.put1 0 v2).1
  have HF3 := Lib.hid (hh2.put1 0 v2).2
  obtain ⟨av, cv, rfl, -⟩ := ho2.form
  obtain ⟨u, cu, fu⟩ := hh2.ready (i := 0) (by simp)
  clear ho2 hf2 hh2
  go_wp2_with fail
  go_ret
  refine ⟨_, rfl, ⟨HH2.out, ?_, ?_⟩⟩
  · rw [bs_append]; exact HO2.out
  · exact ((HF1.out.mono fun k _ hk => .inl hk).trans (HF2.out.mono fun k _ hk => .inr hk) fun k _ hk => hk).trans HF3.out fun k _ hk => .inl hk
set_option maxHeartbeats 2000000 in
set_option maxRecDepth 100000 in
theorem write_part (g base : Nat) (v : Value) (n : Nat) (d : List UInt8) (k : Nat) (lim rv : Value) (off : Bool) (a : Option Addr) (m c : Nat) (b : List UInt8) (w : World) (_hrv : ∀ x, rv ≠ .int .u8 x) (_hlim : ∀ x, lim ≠ .int .u8 x)
    (hh : Has w g [v, .int .i64 (k : Int), .bool off, lim, rv] 83) (ho : Own w base 5 1 v n (bs d)) (hr : RdB w a m b) (hs : n + m ≤ 100000000) (hb : base ≤ w.heap.size) (hk : k < m) (hc : m ≤ c) :
    Calls Try.prog 39 #[.pointer (some ⟨g, 0, none⟩), .slice a m c] w fun e w' => ∃ v', e = .returned (.bool false) ∧ WR w w' base g v v' [.int .i64 (k : Int), .bool true, lim, rv] (n + k) (d ++ b.take k) := by
  have HH := Lib.hid hh
  have HO := Lib.hid ho
  have HR := Lib.hid hr
  have HS := Lib.hid hs
  have HB := Lib.hid hb
  have c1 := hh.cell (i := 1) (v := .int .i64 (k : Int)) rfl
  have c0 := hh.cell (i := 0) (v := v) rfl
  have hnl : (k : Int) < (m : Int) := by omega
  have HK := Lib.hid hk
  have hcut : ∀ wx, (Instr.sliceAt 22 (.slice a m c) none (some (.int .i64 (k : Int))) none).run Try.prog wx = .ok (.slice a k c) wx := fun wx => run_slice_hi wx Try.underlying22 (by kernel_rfl) a m c .i64 k (by omega)
  clear hh ho hr hs hb hk hc
  go_enter Try.func39, Try.ntmps39
  go_wp2_with fail
  refine wp_region_noPanic ?_
  refine wp_region_plan (fun wx => Has wx g [v, .int .i64 (k : Int), .bool off, lim, rv] 83) 11 (.w 0 (.w 1 (.w 2 (.w 3 (.t 4 (.w 5 (.w 6 (.w 7 (.w 8 (.t 9 (.w 10 (.m 11 (.w 12 (.w 13 (.m 14 .nil))))))))))))))) (by kernel_rfl) (by kernel_rfl) HH.out.drew (fun _ _ _ _ _ h => h) ?_
  refine plan_w (v := ?_) rfl rfl (fun wx => ?_) ?_; rotate_left 1; (go_simp; with_reducible rfl)
  try simp only [Act.put, List.setIfInBounds_toArray, List.set_cons_zero, List.set_cons_succ]
  refine plan_w (v := ?_) rfl rfl (fun wx => ?_) ?_; rotate_left 1; (go_simp; with_reducible rfl)
  try simp only [Act.put, List.setIfInBounds_toArray, List.set_cons_zero, List.set_cons_succ]
  refine plan_w (v := ?_) rfl rfl (fun wx => ?_) ?_; rotate_left 1; (go_simp; with_reducible rfl)
  try simp only [Act.put, List.setIfInBounds_toArray, List.set_cons_zero, List.set_cons_succ]
  refine plan_w (v := ?_) rfl rfl (fun wx => ?_) ?_; rotate_left 1; (go_simp; with_reducible rfl)
  try simp only [Act.put, List.setIfInBounds_toArray, List.set_cons_zero, List.set_cons_succ]
  refine plan_t (v := v) rfl rfl (fun wx hS => ?_) ?_
  · have hc := hS.cell (i := 0) (v := v) rfl; clear hS; go_simp
  try simp only [Act.put, List.setIfInBounds_toArray, List.set_cons_zero, List.set_cons_succ]
  refine plan_w (v := ?_) rfl rfl (fun wx => ?_) ?_; rotate_left 1; (go_simp; with_reducible rfl)
  try simp only [Act.put, List.setIfInBounds_toArray, List.set_cons_zero, List.set_cons_succ]
  refine plan_w (v := ?_) rfl rfl (fun wx => ?_) ?_; rotate_left 1; (go_simp; with_reducible rfl)
  try simp only [Act.put, List.setIfInBounds_toArray, List.set_cons_zero, List.set_cons_succ]
  refine plan_w (v := ?_) rfl rfl (fun wx => ?_) ?_; rotate_left 1; (go_simp; with_reducible rfl)
  try simp only [Act.put, List.setIfInBounds_toArray, List.set_cons_zero, List.set_cons_succ]
  refine plan_w (v := ?_) rfl rfl (fun wx => ?_) ?_; rotate_left 1; (go_simp; with_reducible rfl)
  try simp only [Act.put, List.setIfInBounds_toArray, List.set_cons_zero, List.set_cons_succ]
  refine plan_t (v := .int .i64 (k : Int)) rfl rfl (fun wx hS => ?_) ?_
  · have hc := hS.cell (i := 1) (v := .int .i64 (k : Int)) rfl; clear hS; go_simp
  try simp only [Act.put, List.setIfInBounds_toArray, List.set_cons_zero, List.set_cons_succ]
  refine plan_w (v := ?_) rfl rfl (fun wx => ?_) ?_; rotate_left 1; (go_simp; with_reducible rfl)
  try simp only [Act.put, List.setIfInBounds_toArray, List.set_cons_zero, List.set_cons_succ]
  refine plan_m rfl rfl ?_
  refine wp_append1 (HO.out.still (Fr.refl Nob _).drew) rfl Try.underlying22 info_u8 rfl (by decide) rfl (news := bs (b.take k)) rfl (by rw [Nat.mul_one, ← bs_take]; exact Rd.take (show Rd _ a m (bs b) from HR.out.still (Fr.refl Nob _).drew) k (by have := HK.out; omega)) (bs_one _) (by unfold maxLen; have := HS.out; have := HK.out; omega) (by have := HS.out; have := HK.out; omega) HB.out ?_
  intro v2 w2 ho2 hf2 hb2
  try simp only [Act.put, List.setIfInBounds_toArray, List.set_cons_zero, List.set_cons_succ]
  have hh2 := Has.offO (HO.out.still (Fr.refl Nob _).drew) HH.out.drew (by decide) hf2
  have HO2 := Lib.hid (ho2.offB hh2 (by decide) (hh2.put1 0 v2).2)
  have HF2 := Lib.hid ((Fr.refl Nob w).drew.mono (T := OwnB v) (fun _ _ t => t.elim) |>.trans hf2 fun _ _ t => t)
  have HH2 := Lib.hid (hh2.put1 0 v2).1
  have HF3 := Lib.hid (hh2.put1 0 v2).2
  obtain ⟨av, cv, rfl, -⟩ := ho2.form
  obtain ⟨u, cu, fu⟩ := hh2.ready (i := 0) (by simp)
  clear ho2 hf2 hh2 hb2 c0 c1
  refine plan_w (v := ?_) rfl rfl (fun wx => ?_) ?_; rotate_left 1; (go_simp; with_reducible rfl)
  try simp only [Act.put, List.setIfInBounds_toArray, List.set_cons_zero, List.set_cons_succ]
  refine plan_w (v := ?_) rfl rfl (fun wx => ?_) ?_; rotate_left 1; (go_simp; with_reducible rfl)
  try simp only [Act.put, List.setIfInBounds_toArray, List.set_cons_zero, List.set_cons_succ]
  refine plan_m rfl rfl ?_
  go_simp
  try simp only [Act.put, List.setIfInBounds_toArray, List.set_cons_zero, List.set_cons_succ]
  refine plan_end ?_
  refine NoPanic.normal ?_
  clear cu fu
  have hp := HH2.out.put1 2 (.bool true)
  have HO3 := Lib.hid (HO2.out.offB HH2.out (by decide) hp.2)
  have HH3 := Lib.hid hp.1
  have HF4 := Lib.hid hp.2
  obtain ⟨u3, cu3, fu3⟩ := HH2.out.ready (i := 2) (by simp)
  clear hp
  go_wp2_with fail
  go_ret
  refine ⟨_, rfl, ⟨HH3.out, ?_, ?_⟩⟩
  · rw [bs_append]; exact HO3.out
  · exact ((HF2.out.mono fun k _ hk => .inr hk).trans HF3.out fun k _ hk => .inl hk).trans HF4.out fun k _ hk => .inl hk
theorem lftI_none {s : SM} (h : s.left = none) : lftI s = -1 := by unfold lftI; rw [h]
theorem lftI_some {s : SM} {k : Nat} (h : s.left = some k) : lftI s = (k : Int) := by unfold lftI; rw [h]
theorem put_none {c : Nat → List UInt8 → List UInt8} {s : SM} (h : s.left = none) (b : List UInt8) : s.put c b = ({ s with d := s.d ++ frameB c s.recs.length b, recs := s.recs ++ [b] }, true) := by unfold SM.put; rw [h]
theorem put_some {c : Nat → List UInt8 → List UInt8} {s : SM} {k : Nat} (h : s.left = some k) (b : List UInt8) (hk : ¬ k < (frameB c s.recs.length b).length) : s.put c b = ({ s with d := s.d ++ frameB c s.recs.length b, left := some (k - (frameB c s.recs.length b).length), recs := s.recs ++ [b] }, true) := by unfold SM.put; rw [h]; exact if_neg hk
theorem put_short {c : Nat → List UInt8 → List UInt8} {s : SM} {k : Nat} (h : s.left = some k) (b : List UInt8) (hk : k < (frameB c s.recs.length b).length) : s.put c b = ({ s with d := s.d ++ (frameB c s.recs.length b).take k, off := true }, false) := by unfold SM.put; rw [h]; exact if_pos hk
/-- what write does to a store, all ways -/
theorem swrite_any (g base lim : Nat) (s : SM) (v rv : Value) (a : Option Addr) (c : Nat) (b : List UInt8) (w : World) (h : SAt1 w base g lim s v rv) (hr : RdB w a (frameB ckS s.recs.length b).length (frameB ckS s.recs.length b)) (hc : (frameB ckS s.recs.length b).length ≤ c) (hs : s.d.length ≤ 50000000) (hb : b.length ≤ 40000000) (hl : lftI s < 9223372036854775808) :
    Calls Try.prog 39 #[.pointer (some ⟨g, 0, none⟩), .slice a (frameB ckS s.recs.length b).length c] w fun e w' => ∃ v', e = .returned (.bool (s.put ckS b).2) ∧
      WR w w' base g v v' [.int .i64 (lftI (s.put ckS b).1), .bool (s.put ckS b).1.off, .int .i64 (lim : Int), rv] (s.put ckS b).1.d.length (s.put ckS b).1.d := by
  have hfl := frameB_length s.recs.length b
  have hnv : ∀ x, v ≠ .int .u8 x := by obtain ⟨_, _, rfl, -⟩ := h.bytes.form; intro x e; cases e
  have hnr : ∀ x, rv ≠ .int .u8 x := by obtain ⟨_, _, rfl, -⟩ := h.exts.form; intro x e; cases e
  have hh := h.has
  cases hL : s.left with
  | none =>
    rw [put_none hL, lftI_none (s := { s with d := s.d ++ frameB ckS s.recs.length b, recs := s.recs ++ [b] }) hL]
    rw [lftI_none hL] at hh
    refine (write_all g base v s.d.length s.d _ _ _ a _ c _ w rfl hh h.bytes hr (by omega) h.size).mono ?_
    rintro e w' ⟨v', rfl, k⟩
    exact ⟨v', rfl, by simpa using k⟩
  | some k =>
    rw [lftI_some hL] at hh hl
    by_cases hk : k < (frameB ckS s.recs.length b).length
    · rw [put_short hL b hk, lftI_some (s := { s with d := s.d ++ (frameB ckS s.recs.length b).take k, off := true }) hL]
      refine (write_part g base v s.d.length s.d k _ _ _ a _ c _ w hnr (by intro x e; cases e) hh h.bytes hr (by omega) h.size hk hc).mono ?_
      rintro e w' ⟨v', rfl, q⟩
      exact ⟨v', rfl, by simpa [Nat.min_eq_left (Nat.le_of_lt hk)] using q⟩
    · rw [put_some hL b hk, lftI_some (s := { s with d := s.d ++ frameB ckS s.recs.length b, left := some (k - (frameB ckS s.recs.length b).length), recs := s.recs ++ [b] }) rfl]
      refine (write_some g base v s.d.length s.d k _ _ _ a _ c _ w (by intro u hu x e; simp only [List.mem_cons, List.not_mem_nil, or_false] at hu; rcases hu with rfl | rfl | rfl | rfl; exact hnv _ e; cases e; cases e; exact hnr _ e) hh h.bytes hr (by omega) h.size (by omega) hl).mono ?_
      rintro e w' ⟨v', rfl, q⟩
      refine ⟨v', rfl, ?_⟩
      rw [show ((k - (frameB ckS s.recs.length b).length : Nat) : Int) = (k : Int) - ((frameB ckS s.recs.length b).length : Int) by omega]
      simpa using q
end Go.Proofs.Ytdadnajbdnbbdaa

/- An empty slice literal. -/
namespace Go.Mv
open Go.RowKit
variable {P : Program}
end Go.Mv
namespace Go.Mv
open Go.RowKit
variable {P : Program}
/-- n rows in a row: a slice literal of structs -/
theorem wl_slitR {w : World} {ops : Array Oper} {rest : List Oper} {o : Oper} {a : Act} {Q : Exit → Act → World → Prop} {t e : TypeId} {k : Nat} {parts : Array (Nat × Operand)} (hgd : o.guard = none) (ho : o.op = .buildSlice t k parts)
    (hu : P.underlying t = some (.slice e)) {z : Value} {sz by_ : Nat} (hi0 : (P.info? e).map (fun i => (i.zero, i.size, i.bytes)) = some (some z, sz, by_)) (vs : List Value) (hp : (parts.toList.map fun p => (p.1, a.eval p.2)) = (vs.zipIdx 0).map fun x => (x.2, x.1))
    (hv : ∀ v ∈ vs, v.cells.size = sz) (hk : vs.length = k) (L : List Value) (hL : (vs.flatMap fun v => v.cells.toList) = L)
    (h : ∀ w', Has w' w.heap.size L e → Fr Nob w w' → w'.heap.size = w.heap.size + 1 → wpList P ops Q rest (a.put o.dst (.slice (some ⟨w.heap.size, 0, none⟩) k k)) w') (hk0 : 0 < k * sz := by decide) (hk24 : k * sz ≤ 16777216 := by decide) : wpList P ops Q (o :: rest) a w := by
  obtain ⟨i, hi, hz0⟩ : ∃ i, P.info? e = some i ∧ (i.zero, i.size, i.bytes) = (some z, sz, by_) := by simpa using hi0
  simp only [Prod.mk.injEq] at hz0
  obtain ⟨hz1, hsz, hby⟩ := hz0
  have hs0 : 0 < sz := Nat.pos_of_mul_pos_left hk0
  have hf : Instr.fill (fun j => some (j * i.size, i.size)) ((Array.range (k * i.size)).map (z.cells[· % z.cells.size]!)) (parts.map fun (i, x) => (i, a.eval x)).toList = some L.toArray := by
    rw [show (parts.map fun (i, x) => (i, a.eval x)).toList = (parts.toList.map fun p => (p.1, a.eval p.2)) by simp, hp, hsz, ← hL]
    exact Great.fill_whole hs0 vs _ hv (by simp [hk])
  exact wpList_buildSlice hgd t e k _ ho _ i _ hu hi hz1 (by rw [hsz]; omega) (by rw [hsz]; omega) hf (h _ (Has.new w L.toArray e) ((Fr.refl _ w).alloc _) (by simp))
end Go.Mv
namespace Go.Mv
open Go.RowKit
variable {P : Program}
end Go.Mv

/- store: put, Add. -/
namespace Go.Mv
open Go.RowKit Mvp
theorem put_recs {c : Nat → List UInt8 → List UInt8} {s : SM} {b : List UInt8} (h : (s.put c b).2 = true) : (s.put c b).1.recs = s.recs ++ [b] := by
  unfold SM.put at *
  split at h
  · simp
  · split at h
    · simp at h
    · rename_i hk
      simp [hk]
theorem put_recs0 {c : Nat → List UInt8 → List UInt8} {s : SM} {b : List UInt8} (h : (s.put c b).2 = false) : (s.put c b).1.recs = s.recs := by
  unfold SM.put at *
  split at h
  · simp at h
  · split at h
    · rename_i hk
      simp [hk]
    · simp at h
theorem put_dlen {c : Nat → List UInt8 → List UInt8} (hc : ∀ i b, 8 ≤ (c i b).length) (s : SM) (b : List UInt8) : (s.put c b).1.d.length ≤ s.d.length + (12 + b.length) := by
  have hl := frameB_len hc s.recs.length b
  unfold SM.put
  split
  · simp [hl]
  · split
    · simp; omega
    · simp [hl]
/-- a store whose power is on: its disk is its frames -/
theorem sinv_whole {c : Nat → List UInt8 → List UInt8} {s : SM} (h : SInv c s) (ho : s.off = false) : s.d = framesB c 0 s.recs := by
  obtain ⟨-, p, hd, hp⟩ := h
  rcases hp with rfl | ⟨h1, -⟩
  · rw [hd, List.append_nil]
  · rw [ho] at h1; cases h1
theorem Fr.up {S T : Nat → Prop} {a b c : World} (h : Fr Nob a b) (k : Fr T b c) (hT : ∀ i, T i → S i) : Fr S a c := (h.mono (T := S) fun _ _ t => t.elim).trans k fun i _ t => hT i t
end Go.Mv
namespace Go.Proofs.Ytdadnajbdnbbdaa
open Go.RowKit Go.Mv Mvp
theorem info_ext : (Try.prog.info? 88).map (fun i => (i.zero, i.size, i.bytes)) = some (some (.agg #[.int .i64 0, .int .i64 0]), 2, 16) := by kernel_rfl
theorem built_ext (x y : Int) : Try.prog.built 88 [(0, .int .i64 x), (1, .int .i64 y)] = some #[.int .i64 x, .int .i64 y] := by kernel_rfl
attribute [local irreducible] permS permP toB turnsK squeeze permN spongeB feed frameL framesL tagL bigN bigJ numS frameB framesB ckS exC SM.put
set_option maxHeartbeats 2000000 in
set_option maxRecDepth 100000 in
theorem sput_any (g base lim : Nat) (s : SM) (v rv : Value) (a : Option Addr) (n c : Nat) (b : List UInt8) (w : World) (h : SAt1 w base g lim s v rv) (hp : PartIs w (.slice a n c) b) (hoff : s.off = false) (hi : SInv ckS s) (hd : s.d.length ≤ 2000000) (hl : lftI s < 9223372036854775808) :
    Calls Try.prog 35 #[.pointer (some ⟨g, 0, none⟩), .slice a n c] w fun e w' => ∃ v' rv', e = .returned (.bool (s.put ckS b).2) ∧ SAt1 w' base g lim (s.put ckS b).1 v' rv' ∧ Fr (StB g v rv) w w' := by
  have hcnt := hi.count ckS_len
  have hpl := part_lenS hp
  have hpn := part_leS hp
  obtain ⟨av, cv, rfl, -⟩ := h.bytes.form
  obtain ⟨ar, cr, rfl, -⟩ := h.exts.form
  have hwh := sinv_whole hi hoff
  have hfl := frameB_length s.recs.length b
  have hdl := put_dlen ckS_len s b
  have c0 := h.has.cell (i := 0) (v := .slice av s.d.length cv) rfl
  have c4 := h.has.cell (i := 4) (v := .slice ar s.recs.length cr) rfl
  have H := Lib.hid h
  have HP := Lib.hid hp
  have HL := Lib.hid hl
  have HFL := Lib.hid hfl
  have HPL := Lib.hid hpl
  have HWH := Lib.hid hwh
  have HD := Lib.hid hd
  have HCN := Lib.hid hcnt
  have HPN := Lib.hid hpn
  have hd1 : (s.d.length : Int) < 10000000 := by omega
  have hr1 : (s.recs.length : Int) < 10000000 := by omega
  clear h hp hl hpl hfl hwh hoff hi hd hcnt hpn hdl
  go_enter Try.func35, Try.ntmps35
  go_wp2_with fail
  refine wp_region_noPanic ?_
  refine wp_region_plan (fun wx => SAt1 wx base g lim s (.slice av s.d.length cv) (.slice ar s.recs.length cr)) 9 (.w 0 (.w 1 (.w 2 (.w 3 (.w 4 (.w 5 (.t 6 (.w 7 (.w 8 (.m 9 (.m 10 (.m 11 .nil)))))))))))) (by kernel_rfl) (by kernel_rfl) (H.out.still (Fr.refl Nob _).drew) (fun _ _ _ _ _ h => h) ?_
  refine plan_w (v := ?_) rfl rfl (fun wx => ?_) ?_; rotate_left 1; (go_simp; with_reducible rfl)
  try simp only [Act.put, List.setIfInBounds_toArray, List.set_cons_zero, List.set_cons_succ]
  refine plan_w (v := ?_) rfl rfl (fun wx => ?_) ?_; rotate_left 1; (go_simp; with_reducible rfl)
  try simp only [Act.put, List.setIfInBounds_toArray, List.set_cons_zero, List.set_cons_succ]
  refine plan_w (v := ?_) rfl rfl (fun wx => ?_) ?_; rotate_left 1; (go_simp; with_reducible rfl)
  try simp only [Act.put, List.setIfInBounds_toArray, List.set_cons_zero, List.set_cons_succ]
  refine plan_w (v := ?_) rfl rfl (fun wx => ?_) ?_; rotate_left 1; (go_simp; with_reducible rfl)
  try simp only [Act.put, List.setIfInBounds_toArray, List.set_cons_zero, List.set_cons_succ]
  refine plan_w (v := ?_) rfl rfl (fun wx => ?_) ?_; rotate_left 1; (go_simp; with_reducible rfl)
  try simp only [Act.put, List.setIfInBounds_toArray, List.set_cons_zero, List.set_cons_succ]
  refine plan_w (v := ?_) rfl rfl (fun wx => ?_) ?_; rotate_left 1; (go_simp; with_reducible rfl)
  try simp only [Act.put, List.setIfInBounds_toArray, List.set_cons_zero, List.set_cons_succ]
  refine plan_t (v := .slice ar s.recs.length cr) rfl rfl (fun wx hS => ?_) ?_
  · have hc := hS.has.cell (i := 4) (v := .slice ar s.recs.length cr) rfl; clear hS; go_simp
  try simp only [Act.put, List.setIfInBounds_toArray, List.set_cons_zero, List.set_cons_succ]
  refine plan_w (v := ?_) rfl rfl (fun wx => ?_) ?_; rotate_left 1; (go_simp; with_reducible rfl)
  try simp only [Act.put, List.setIfInBounds_toArray, List.set_cons_zero, List.set_cons_succ]
  refine plan_w (v := ?_) rfl rfl (fun wx => ?_) ?_; rotate_left 1; (go_simp; with_reducible rfl)
  try simp only [Act.put, List.setIfInBounds_toArray, List.set_cons_zero, List.set_cons_succ]
  refine plan_m rfl rfl ?_
  go_simp
  refine (sframe_any s.recs.length a n c b _ (by have := HCN.out; have := HD.out; omega) (HP.out.still (Fr.refl Nob _).drew)).mono ?_
  rintro e1 w1 ⟨vf, rfl, hof, hf1⟩
  obtain ⟨af, cf, rfl, hcf, hrf, -⟩ := hof.form
  have HF1 := Lib.hid ((Fr.refl Nob w).drew.then hf1)
  have H1 := Lib.hid (H.out.still HF1.out)
  rw [Nat.mul_one, ← HPL.out, ← HFL.out] at hrf
  have HRF := Lib.hid hrf
  rw [← HPL.out, ← HFL.out] at hcf
  have HCF := Lib.hid hcf
  rw [← HPL.out, ← HFL.out]
  clear hof hf1 hrf hcf c0 c4
  try simp only []
  refine plan_m rfl rfl ?_
  go_simp
  refine (swrite_any g base lim s _ _ af cf b w1 H1.out HRF.out HCF.out (by have := HD.out; omega) (by have := HPN.out; have := HPL.out; omega) HL.out).mono ?_
  rintro e2 w2 ⟨v2, rfl, hwr⟩
  have HW := Lib.hid hwr
  clear hwr HRF HCF
  try simp only []
  refine plan_m rfl rfl ?_
  go_simp
  try simp only [Act.put, List.setIfInBounds_toArray, List.set_cons_zero, List.set_cons_succ]
  refine plan_end ?_
  refine NoPanic.normal ?_
  have HEX := Lib.hid (H1.out.exts.keep HW.out.fr fun k hk hs => hs.elim (fun e => H1.out.exts.ne H1.out.has (by decide) (e ▸ hk)) fun e => H1.out.exts.ne2 H1.out.bytes (by decide) k hk e)
  cases hq : (s.put ckS b).2 with
  | false =>
    have HEQ := Lib.hid hq
    have HQ := Lib.hid (put_recs0 hq)
    clear hq
    simp only [Bool.not_false]
    go_wp2_with fail
    go_ret
    refine ⟨v2, _, by rw [HEQ.out]; rfl, ⟨H.out.low, HW.out.has, HW.out.own, ?_⟩, HF1.out.up HW.out.fr fun k hk => hk.elim .inl fun e => .inr (.inl e)⟩
    rw [HQ.out]
    exact HEX.out
  | true =>
    have HEQ := Lib.hid hq
    have HQ := Lib.hid (put_recs hq)
    have HXC := Lib.hid (show exC s.recs ++ [.int .i64 ((s.d.length : Int) + 4), .int .i64 ((s.d.length : Int) + 4 + (n : Int))] = exC (s.recs ++ [b]) by
      rw [exC_snoc ckS_len, ← HWH.out, HPL.out]
      simp)
    have c4 := HW.out.has.cell (i := 4) (v := .slice ar s.recs.length cr) rfl
    have hn1 : (n : Int) ≤ 1000000 := by have := HPN.out; omega
    clear hq
    simp only [Bool.not_true]
    rw [HPL.out]
    go_wp2_with (with_reducible refine wl_stop (o := ⟨some 35, _, _, _, _, _⟩) ?_)
    refine wl_buildL rfl rfl _ (built_ext _ _) ?_
    try simp only [Act.put, List.setIfInBounds_toArray, List.set_cons_zero, List.set_cons_succ]
    refine wl_slitR rfl rfl Try.underlying81 info_ext [.agg #[.int .i64 ((s.d.length : Int) + 4), .int .i64 ((s.d.length : Int) + 4 + (n : Int))]] rfl (by simp [Value.cells]) rfl [.int .i64 ((s.d.length : Int) + 4), .int .i64 ((s.d.length : Int) + 4 + (n : Int))] (by simp [Value.cells]) ?_
    intro w3 hh3 hf3 hz3
    try simp only [Act.put, List.setIfInBounds_toArray, List.set_cons_zero, List.set_cons_succ]
    refine wl_append rfl rfl Try.underlying81 info_ext rfl (by decide) (HEX.out.still hf3) rfl (m := 1) (news := [.int .i64 ((s.d.length : Int) + 4), .int .i64 ((s.d.length : Int) + 4 + (n : Int))]) rfl (by simpa using Rd.whole hh3) (by intro u hu; simp only [List.mem_cons, List.not_mem_nil, or_false] at hu; rcases hu with rfl | rfl <;> rfl) (by unfold maxLen; have := HCN.out; have := HD.out; omega) (by have := HCN.out; have := HD.out; omega) (Nat.le_trans H1.out.size (Nat.le_trans HW.out.fr.size hf3.size)) ?_
    intro v4 w4 ho4 hf4 hb4
    rw [HXC.out] at ho4
    have hh4 := Has.offO (HEX.out.still hf3) (HW.out.has.keep hf3 id) (by decide) hf4
    have hown4 := (HW.out.own.still hf3).keep hf4 fun k hk hs => (HEX.out.still hf3).ne2 (HW.out.own.still hf3) (by decide) k hs hk
    have hp4 := hh4.put1 4 v4
    have HH4 := Lib.hid hp4.1
    have HO4 := Lib.hid (ho4.offB hh4 (by decide) hp4.2)
    have HB4 := Lib.hid (hown4.offB hh4 (by decide) hp4.2)
    have HF4 := Lib.hid (HF1.out.up (S := StB g (.slice av s.d.length cv) (.slice ar s.recs.length cr)) HW.out.fr (fun k hk => hk.elim .inl fun e => .inr (.inl e)) |>.same hf3 |>.trans hf4 (fun k _ hk => .inr (.inr hk)) |>.trans hp4.2 fun k _ hk => .inl hk)
    obtain ⟨a4, c4', rfl, -⟩ := ho4.form
    obtain ⟨u, cu, fu⟩ := hh4.ready (i := 4) (by simp)
    clear ho4 hf4 hb4 hh4 hown4 hp4 hh3 hf3 hz3 c4
    go_wp2_with fail
    go_ret
    refine ⟨v2, _, by rw [HEQ.out]; rfl, ⟨H.out.low, HH4.out, HB4.out, ?_⟩, HF4.out⟩
    rw [HQ.out, List.length_append]
    exact HO4.out
end Go.Proofs.Ytdadnajbdnbbdaa

/- store: Add, Arm, Len, Disk, New. -/
namespace Go.Mv
open Go.RowKit Mvp
theorem add_off {c : Nat → List UInt8 → List UInt8} {lim : Nat} {s : SM} {b : List UInt8} (h : s.off = true) : s.add c lim b = (s, 15) := by unfold SM.add; rw [if_pos h]
theorem add_long {c : Nat → List UInt8 → List UInt8} {lim : Nat} {s : SM} {b : List UInt8} (h : s.off = false) (h1 : 16384 < b.length) : s.add c lim b = (s, 1) := by unfold SM.add; rw [if_neg (by rw [h]; decide), if_pos h1]
theorem add_full {c : Nat → List UInt8 → List UInt8} {lim : Nat} {s : SM} {b : List UInt8} (h : s.off = false) (h1 : ¬ 16384 < b.length) (h2 : lim < s.d.length + 12 + b.length) : s.add c lim b = (s, 14) := by unfold SM.add; rw [if_neg (by rw [h]; decide), if_neg h1, if_pos h2]
theorem add_ok {c : Nat → List UInt8 → List UInt8} {lim : Nat} {s : SM} {b : List UInt8} (h : s.off = false) (h1 : ¬ 16384 < b.length) (h2 : ¬ lim < s.d.length + 12 + b.length) : s.add c lim b = ((s.put c b).1, if (s.put c b).2 then 0 else 15) := by unfold SM.add; rw [if_neg (by rw [h]; decide), if_neg h1, if_neg h2]
theorem SA.again {TS TB TX : TypeId} {w w' : World} {base g lim : Nat} {s : SM} {v rv : Value} (h : SA TS TB TX w base g lim s v rv) (hf : Fr Nob w w') {e : Nat} {s' : SM × Nat} (hs : s' = (s, e)) : ∃ v' rv', SA TS TB TX w' base g lim s'.1 v' rv' ∧ Fr (StB g v rv) w w' := by
  subst hs
  exact ⟨v, rv, h.still hf, hf.mono fun _ _ t => t.elim⟩
end Go.Mv
namespace Go.Proofs.Ytdadnajbdnbbdaa
open Go.RowKit Go.Mv Mvp
theorem ret_i64s {a b : Int} (h : a = b) : Ending.returned (.int .i64 a) = .returned (.int .i64 b) := by rw [h]
attribute [local irreducible] permS permP toB turnsK squeeze permN spongeB feed frameL framesL tagL bigN bigJ numS frameB framesB ckS exC SM.put SM.add
set_option maxHeartbeats 2000000 in
set_option maxRecDepth 100000 in
theorem sAdd_any (g base lim : Nat) (s : SM) (v rv : Value) (a : Option Addr) (n c : Nat) (b : List UInt8) (w : World) (h : SAt1 w base g lim s v rv) (hp : PartIs w (.slice a n c) b) (hi : SInv ckS s) (hd : s.d.length ≤ 2000000) (hm : lim ≤ 2000000) (hl : lftI s < 9223372036854775808) :
    Calls Try.prog 18 #[.pointer (some ⟨g, 0, none⟩), .slice a n c] w fun e w' => e = .returned (.int .i64 ((s.add ckS lim b).2 : Int)) ∧ ∃ v' rv', SAt1 w' base g lim (s.add ckS lim b).1 v' rv' ∧ Fr (StB g v rv) w w' := by
  have hpl := part_lenS hp
  have hpn := part_leS hp
  obtain ⟨av, cv, rfl, -⟩ := h.bytes.form
  have c0 := h.has.cell (i := 0) (v := .slice av s.d.length cv) rfl
  have c3 := h.has.cell (i := 3) (v := .int .i64 (lim : Int)) rfl
  have H := Lib.hid h
  have HP := Lib.hid hp
  have HL := Lib.hid hl
  have HD := Lib.hid hd
  have HM := Lib.hid hm
  have HI := Lib.hid hi
  have HPN := Lib.hid hpn
  have HPL := Lib.hid hpl
  have hd1 : (s.d.length : Int) < 10000000 := by omega
  have hn1 : (n : Int) < 10000000 := by omega
  cases ho : s.off with
  | true =>
    have c2 := h.has.cell (i := 2) (v := .bool true) (by rw [ho]; rfl)
    have HA := Lib.hid (add_off (c := ckS) (lim := lim) (b := b) ho)
    clear h hp hl hd hm hi hpn hpl ho c0 c3
    go_enter Try.func18, Try.ntmps18
    go_wp2_with fail
    go_ret
    exact ⟨ret_i64s (by rw [HA.out]; rfl), H.out.again (Fr.refl _ _) HA.out⟩
  | false =>
    have c2 := h.has.cell (i := 2) (v := .bool false) (by rw [ho]; rfl)
    by_cases h1 : 16384 < b.length
    · have HA := Lib.hid (add_long (c := ckS) (lim := lim) ho h1)
      have h1I : (16384 : Int) < (n : Int) := by omega
      clear h hp hl hd hm hi hpn hpl ho c0 c3 h1
      go_enter Try.func18, Try.ntmps18
      go_wp2_with fail
      go_ret
      exact ⟨ret_i64s (by rw [HA.out]; rfl), H.out.again (Fr.refl _ _) HA.out⟩
    · have h1I : ¬ (16384 : Int) < (n : Int) := by omega
      by_cases h2 : lim < s.d.length + 12 + b.length
      · have HA := Lib.hid (add_full (c := ckS) ho h1 h2)
        have h2I : (lim : Int) < (s.d.length : Int) + 4 + (n : Int) + 8 := by omega
        clear h hp hl hd hm hi hpn hpl ho h1 h2
        go_enter Try.func18, Try.ntmps18
        go_wp2_with fail
        go_quiet (fail)
        go_wp2_with fail
        go_ret
        exact ⟨ret_i64s (by rw [HA.out]; rfl), H.out.again ((Fr.refl _ _).drewN _) HA.out⟩
      · have HA := Lib.hid (add_ok (c := ckS) ho h1 h2)
        have HO := Lib.hid ho
        have h2I : decide ((lim : Int) < (s.d.length : Int) + 4 + (n : Int) + 8) = false := by simp; omega
        clear h hp hl hd hm hi hpn hpl ho h1 h2
        go_enter Try.func18, Try.ntmps18
        go_wp2_with fail
        go_quiet (fail)
        go_wp2_with fail
        refine (sput_any g base lim s _ _ a n c b _ (H.out.still ((Fr.refl Nob w).drewN _)) (HP.out.still ((Fr.refl Nob w).drewN _)) HO.out HI.out (by have := HD.out; omega) HL.out).mono ?_
        rintro e w2 ⟨v', rv', rfl, hs2, hf2⟩
        have H2 := Lib.hid hs2
        have HF2 := Lib.hid ((((Fr.refl Nob w).drewN _).up (S := StB g _ _) hf2 fun _ t => t))
        clear hs2 hf2 c0 c2 c3
        cases hq : (s.put ckS b).2 with
        | true =>
          have HQ := Lib.hid hq
          clear hq
          simp only []
          go_wp2_with fail
          go_ret
          exact ⟨ret_i64s (by rw [HA.out, HQ.out]; rfl), v', rv', by rw [HA.out]; exact H2.out, HF2.out⟩
        | false =>
          have HQ := Lib.hid hq
          clear hq
          simp only []
          go_wp2_with fail
          go_ret
          exact ⟨ret_i64s (by rw [HA.out, HQ.out]; rfl), v', rv', by rw [HA.out]; exact H2.out, HF2.out⟩
end Go.Proofs.Ytdadnajbdnbbdaa
