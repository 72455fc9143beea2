/- Pure sponge: words and their bytes are one; absorber.write; The reference's sponge, on bytes: what it computes is the sponge on words; The reference's sponge; absorber.out, and what hashes with it; absorber.frame; the reference's Frame; Hash, stream and Stream of the sponge; sponge.tag and sponge.Tag; mintvaultlaw1.SpongeTurns: the walk of the law; The reference's Hash and Stream; the law SpongeHashes; Arguments that were handed in, opened into the words of Mem; The reference's Tag; A log of the sponge, the reference's: NewLog, Say, Ask, Clone; The tree, plain: what a path leads to, from its end (the document) and from its beginning (the program); The tree: node, leafHash, bytes.Equal, sized, lists, small; the reference's leaf, node, half, sized; The points that a label and bytes may give, plain; what a k256 holds; The law NumReduces; The law NumReckons; The reference's Sqrt; The law NumRoots; zn.All; sigma.Extract; sigma.Extract; the reference's Scalar, Q, Extract; The reference's Q, Scalar, Extract; The reference's numbers modulo Prime, told by their classes. -/
import Derived.Test.YtdbgddngapminaaGreatMgGroupHidesProof7
import Derived.Test.YtdbgddngapminaaGreatMgGroupHidesProof3
import Derived.Test.YtdbgddngapminaaGreatMgGroupHidesProof1
import Derived.SliceStrings
import Derived.SizedLaws
import Derived.OpenShut
import Derived.ProofKit
import Derived.Test.YtdbgddngapminaaGreatMgGroupHidesProof2
import Derived.IntWalk
import Derived.Test.YtdbgddngapminaaGreatMgGroupHidesProof4
import Derived.Test.YtdbgddngapminaaGreatMgGroupHidesProof6
namespace Mvp

theorem lo8_shr_toNat (a : UInt64) (k : Nat) : (lo8 (shr a k)).toNat = a.toNat / 2 ^ k % 256 := by
  have h : a.toNat / 2 ^ k < 18446744073709551616 := Nat.lt_of_le_of_lt (Nat.div_le_self _ _) a.toNat_lt
  simp only [lo8, shr, UInt64.toNat_toUInt8, UInt64.toNat_ofNat']
  omega
theorem byte_bit (a : UInt64) (k i : Nat) : (lo8 (shr a k)).toNat.testBit i = (decide (i < 8) && a.toNat.testBit (i + k)) := by
  rw [lo8_shr_toNat, show (256 : Nat) = 2 ^ 8 from rfl, Nat.testBit_mod_two_pow, Nat.testBit_div_two_pow]
theorem byte_big (x : UInt8) (i : Nat) (h : 8 ≤ i) : x.toNat.testBit i = false :=
  Nat.testBit_lt_two_pow (Nat.lt_of_lt_of_le x.toNat_lt (by have := Nat.pow_le_pow_right (show 0 < 2 by omega) h; simpa using this))
theorem xor_byte (a : UInt64) (x : UInt8) (m t : Nat) (hm : m < 8) (_ht : t < 8) :
    lo8 (shr (wx a (shl (wid x) (8 * m))) (8 * t)) = if t = m then bx (lo8 (shr a (8 * m))) x else lo8 (shr a (8 * t)) := by
  apply UInt8.toNat_inj.1
  apply Nat.eq_of_testBit_eq
  intro i
  rw [byte_bit]
  have hw : (wx a (shl (wid x) (8 * m))).toNat = a.toNat ^^^ (x.toNat * 2 ^ (8 * m)) := by
    simp only [wx, UInt64.toNat_xor]; rw [shl_wid x _ (by omega)]
  rw [hw, Nat.testBit_xor, Nat.testBit_mul_two_pow]
  by_cases hi : i < 8
  · by_cases e : t = m
    · subst e
      rw [if_pos rfl]
      simp only [bx, UInt8.toNat_xor, Nat.testBit_xor, byte_bit]
      simp [hi]
    · rw [if_neg e, byte_bit]
      have hz : (decide (8 * m ≤ i + 8 * t) && x.toNat.testBit (i + 8 * t - 8 * m)) = false := by
        rcases Nat.lt_or_ge t m with h | h
        · have : ¬ (8 * m ≤ i + 8 * t) := by omega
          simp [this]
        · rw [byte_big x _ (by omega)]; simp
      rw [hz]; simp [hi]
  · have h1 : (decide (i < 8)) = false := by simp [hi]
    rw [h1]
    split
    · rw [byte_big _ i (by omega)]; rfl
    · rw [byte_big _ i (by omega)]; rfl

theorem sByte_xorStep (S : List UInt64) (hS : S.length = 25) (k i : Nat) (x : UInt8) (hk : k < 200) : sByte (xorStep S k x) i = if i = k then bx (sByte S k) x else sByte S i := by
  unfold sByte xorStep
  rw [getD_set _ _ _ _ (by omega)]
  by_cases hd : k / 8 = i / 8
  · rw [if_pos hd, xor_byte _ _ _ _ (by omega) (by omega), ← hd]
    by_cases e : i = k
    · rw [if_pos e, if_pos (by omega)]
    · rw [if_neg e, if_neg (by omega)]
  · rw [if_neg hd, if_neg (by omega)]

/-- words with the same bytes are the same -/
theorem words_ext (S S' : List UInt64) (h : S.length = 25) (h' : S'.length = 25) (hb : ∀ i, i < 200 → sByte S i = sByte S' i) : S = S' := by
  apply List.ext_getElem (by omega)
  intro j hj hj'
  have hw : ∀ (T : List UInt64) (hT : j < T.length), T.getD j 0 = T[j] := fun T hT => by simp [List.getD_eq_getElem?_getD, hT]
  rw [← hw S hj, ← hw S' hj']
  apply UInt64.toNat_inj.1
  apply Nat.eq_of_testBit_eq
  intro i
  rcases Nat.lt_or_ge i 64 with hi | hi
  · have h1 := hb (8 * j + i / 8) (by omega)
    have h2 := congrArg (fun y : UInt8 => y.toNat.testBit (i % 8)) h1
    simp only [sByte] at h2
    rw [byte_bit, byte_bit, show (8 * j + i / 8) / 8 = j by omega, show (8 * j + i / 8) % 8 = i / 8 by omega, show i % 8 + 8 * (i / 8) = i by omega] at h2
    simpa [show i % 8 < 8 by omega] using h2
  · have big : ∀ (y : UInt64), y.toNat.testBit i = false := fun y => Nat.testBit_lt_two_pow (Nat.lt_of_lt_of_le y.toNat_lt (by have := Nat.pow_le_pow_right (show 0 < 2 by omega) hi; simpa using this))
    rw [big, big]
theorem sByte_xorAt (l : List UInt8) : ∀ (S : List UInt64) (k i : Nat), S.length = 25 → k + l.length ≤ 200 → sByte (xorAt S k l) i = if k ≤ i ∧ i < k + l.length then bx (sByte S i) (l.getD (i - k) 0) else sByte S i := by
  induction l with
  | nil => intro S k i _ _; rw [if_neg (by simp)]; rfl
  | cons x l ih =>
    intro S k i hS h
    simp only [List.length_cons] at h
    rw [xorAt, ih _ _ _ (by rw [xorStep_len, hS]) (by omega), sByte_xorStep S hS _ _ _ (by omega)]
    by_cases e : i = k
    · subst e
      rw [if_neg (by omega), if_pos rfl, if_pos (by simp)]
      simp
    · by_cases hr : k + 1 ≤ i ∧ i < k + 1 + l.length
      · rw [if_pos hr, if_neg e, if_pos (by simp; omega), show i - k = (i - (k + 1)) + 1 by omega, List.getD_cons_succ]
      · rw [if_neg hr, if_neg e, if_neg (by simp; omega)]
theorem toB_get (S : List UInt64) (n i : Nat) (h : i < n) : (toB S n).getD i 0 = sByte S i := by
  simp [toB, List.getD_eq_getElem?_getD, List.getElem?_range h]
theorem sByte_zeros (i : Nat) : sByte zeros25 i = 0 := by
  have hz : zeros25.getD (i / 8) 0 = 0 := by
    rcases Nat.lt_or_ge (i / 8) 25 with h | h
    · have : ∀ j, j < 25 → zeros25.getD j 0 = 0 := by decide
      exact this _ h
    · rw [List.getD_eq_getElem?_getD, List.getElem?_eq_none (by simpa [zeros25] using h)]; rfl
  unfold sByte
  rw [hz]
  apply UInt8.toNat_inj.1
  rw [lo8_shr_toNat]; simp
theorem bx_zero (x : UInt8) : bx 0 x = x := by simp [bx]
/-- 200 bytes into words, and back -/
theorem bytes_back (b : List UInt8) (hb : b.length = 200) (i : Nat) (hi : i < 200) : sByte (xorB zeros25 b 200) i = b.getD i 0 := by
  rw [xorB_eq _ _ _ (by omega), List.take_of_length_le (by omega), sByte_xorAt b _ _ _ (by simp [zeros25]) (by omega), if_pos (by omega), sByte_zeros, bx_zero]
  simp
/-- some bytes of the state's are changed: as words -/
theorem words_of (S : List UInt64) (hS : S.length = 25) (l b : List UInt8) (hl : l.length ≤ 200) (hb : b.length = 200) (h : ∀ i, i < 200 → b.getD i 0 = if i < l.length then bx (sByte S i) (l.getD i 0) else sByte S i) : xorB zeros25 b 200 = xorAt S 0 l := by
  refine words_ext _ _ (by rw [xorB_len]; simp [zeros25]) (by rw [xorAt_len, hS]) (fun i hi => ?_)
  rw [bytes_back b hb i hi, sByte_xorAt l S 0 i hS (by omega), h i hi]
  simp
end Mvp

/- absorber.write -/
namespace Go.Proofs.YtdbgddngapminaaGreat
open Go.RowKit Go.Mv Mvp

theorem zero_a136 : (Tryz.prog.info? 171).map (·.zero) = some (some (.agg (bs (List.replicate 136 0)).toArray)) := by kernel_rfl
/-- the cells of an absorber -/
def abs (st : List UInt64 × Nat) : List Value := ws st.1 ++ [.int .i64 (st.2 : Int)]
theorem abs_len (st : List UInt64 × Nat) : (abs st).length = st.1.length + 1 := by simp [abs, length_ws]
theorem abs_at (st : List UInt64 × Nat) (h : st.1.length = 25) : (abs st)[25]? = some (.int .i64 (st.2 : Int)) := by
  rw [abs, List.getElem?_append_right (by rw [length_ws, h]; omega), length_ws, h]; rfl
theorem abs_set (S : List UInt64) (k n : Nat) (h : S.length = 25) : (abs (S, k)).set 25 (.int .i64 (n : Int)) = abs (S, n) := by
  rw [abs, List.set_append_right _ _ (by rw [length_ws, h]; omega), length_ws, h]; rfl

theorem permS_def (S : List UInt64) : permP (turnsK 24) (fun r => rcP r 8) S 24 = permS S := by unfold permS; rfl
theorem abs_def (S : List UInt64) (k : Nat) : ws S ++ [Value.int .i64 (k : Int)] = abs (S, k) := by unfold abs; rfl
attribute [local irreducible] permS permP toB turnsK
/-- permute, of an absorber's state -/
theorem permute_abs (g : Nat) (S : List UInt64) (k : Nat) (w : World) (hS : S.length = 25) (hg : Has w g (abs (S, k)) 164) :
    Calls Tryz.prog 132 #[.pointer (some ⟨g, 0, none⟩)] w fun e w' => e = .returned (.tuple #[]) ∧ Has w' g (abs (permS S, k)) 164 ∧ Fr (One g) w w' := by
  rw [← abs_def] at hg
  refine (permute_any g S [.int .i64 (k : Int)] 164 w hS hg).mono ?_
  rintro e w' ⟨h1, h2, h3⟩
  rw [permS_def, abs_def] at h2
  exact ⟨h1, h2, h3⟩
theorem piece_eq (k p : Nat) (l : List UInt8) (hl : l.length = p) (h : k + p ≤ 136) : splice (bs (List.replicate 136 0)) k (bs l) = bs (List.replicate k 0 ++ l ++ List.replicate (136 - k - p) 0) := by
  unfold splice
  rw [length_bs, hl, bs_take, bs_drop, ← bs_append, ← bs_append, List.append_assoc]
  rw [List.take_replicate, Nat.min_eq_left (by omega), List.drop_replicate, Nat.sub_sub]
/-- the length of a slice value: for measures -/
def lenV : Value → Nat
  | .slice _ n _ => n
  | _ => 0

set_option maxHeartbeats 2000000 in
set_option maxRecDepth 1000000 in
theorem write_any (g : Nat) (st : List UInt64 × Nat) (b : Option Addr) (n c : Nat) (l : List UInt8) (w : World) (hS : st.1.length = 25) (hat : st.2 < 136) (hn : n ≤ 1000000) (hnc : n ≤ c) (hg : Has w g (abs st) 164) (hb : RdB w b n l) (hbg : Off (One g) b) :
    Calls Tryz.prog 130 #[.pointer (some ⟨g, 0, none⟩), .slice b n c] w fun e w' => e = .returned (.tuple #[]) ∧ Has w' g (abs (feed st l)) 164 ∧ Fr (One g) w w' := by
  go_enter Tryz.func130, Tryz.ntmps130
  go_wp2_with fail
  have hll := hb.len
  go_loopw [1] (fun v wr => ∃ (sj : List UInt64 × Nat) (r : List UInt8) (m : Nat) (a : Option Addr) (cc : Nat), v = .slice a m cc ∧ m ≤ cc ∧ m ≤ 1000000 ∧ RdB wr a m r ∧ Off (One g) a ∧ Has wr g (abs sj) 164 ∧ sj.2 < 136 ∧ sj.1.length = 25 ∧ feed sj r = feed st l ∧ Fr (One g) w wr) (fun v _ => lenV v)
  case atStart => exact ⟨st, l, n, b, c, rfl, hnc, hn, hb, hbg, hg, hat, hS, rfl, Fr.refl _ _⟩
  case round =>
    obtain ⟨⟨S, k⟩, r, m, a, cc, rfl, hcc, hmb, hra, hoa, hgj, hkj, hSj, hfe, hf⟩ := hrel
    clear hg hb hbg hat hS hll hn hnc
    simp only at hkj hSj
    have HF := Lib.hid hfe; clear hfe
    by_cases hlt : 0 < m
    · have hc25 : wr.cell? ⟨g, 25, none⟩ = some (.int .i64 (k : Int)) := hgj.cell (abs_at (S, k) hSj)
      have hf25 : wr.frozen? ⟨g, 25, none⟩ = false := hgj.free _ (by rw [abs_len]; simp only; omega)
      have HS := Lib.hid hSj; clear hSj
      go_wp2_with (with_reducible refine wl_stop (o := ⟨some 16, _, _, _, _, _⟩) ?_)
      obtain ⟨p, hp, hp1, hp2, hp3⟩ : ∃ p : Nat, (if 136 - (k : Int) < (m : Int) then 136 - (k : Int) else (m : Int)) = (p : Int) ∧ p ≤ m ∧ k + p ≤ 136 ∧ (p = m ∨ k + p = 136) := by
        refine ⟨min m (136 - k), ?_, by omega, by omega, by omega⟩
        split <;> omega
      refine wl_min rfl rfl rfl rfl p hp ?_
      clear hp
      have HP := Lib.hid hp3; clear hp3
      go_wp2_with (with_reducible refine wl_stop (o := ⟨_, .alloc 171, _, _, _, _⟩) ?_)
      refine wl_alloc rfl rfl zero_a136 (bs (List.replicate 136 0)) (by simp [Value.cells]) ?_
      intro w1 hp1' hf1 hz1
      have hg1 := hgj.keep hf1 id
      have hr1 := hra.still hf1
      have hc1 : w1.cell? ⟨g, 25, none⟩ = some (.int .i64 (k : Int)) := hf1.cell id hc25
      have hgp : g < wr.heap.size := hgj.lt
      have hfr1 := hf.same hf1
      have hpw : w.heap.size ≤ wr.heap.size := hf.size
      have hra0 : Off (One wr.heap.size) a := fun x hx (e : x.block = wr.heap.size) => by
        obtain ⟨bb, o, rfl, hat⟩ := Rd.at hra hlt
        have := Rd.lt hra hlt
        simp only [Option.some.injEq] at hx
        subst hx
        simp at e
        omega
      generalize wr.heap.size = gp at *
      clear hgj hra hc25 hf25 hf1 hz1
      have hk136 : k < 136 := hkj
      go_wp2_with fail
      have e1 : ∀ wx, (Instr.sliceAt 171 (.pointer (some ⟨gp, 0, none⟩)) (some (.int .i64 (k : Int))) none none).run Tryz.prog wx = .ok (.slice (some ⟨gp, k, none⟩) (136 - k) (136 - k)) wx := fun wx => by
        have := run_sliceA_lo wx Tryz.underlying171 size_u8 gp 0 .i64 k hk136
        rwa [Nat.zero_add] at this
      have e2 : ∀ wx, (Instr.sliceAt 22 (.slice a m cc) none (some (.int .i64 (p : Int))) none).run Tryz.prog wx = .ok (.slice a p cc) wx := fun wx => run_slice_hi wx Tryz.underlying22 size_u8 a m cc .i64 p (by omega)
      refine wp_region_still_tail 8 (by kernel_rfl) (by kernel_rfl) ?_
      simp only [List.take_succ_cons, List.take_zero, List.drop_succ_cons, List.drop_zero]
      repeat still_step
      refine wpStill_nil ?_
      show wpList _ _ _ _ _ w1.drew
      have hrp : Rd w1.drew a p (bs (r.take p)) := by
        have hlen := hr1.len
        refine ⟨by rw [length_bs, List.length_take]; omega, hr1.2.imp (fun h0 => by omega) ?_⟩
        rintro ⟨b, o, rfl, hc⟩
        refine ⟨b, o, rfl, fun i v hv => ?_⟩
        have := hc i v
        rw [← bs_take, List.getElem?_take] at hv
        split at hv
        · exact hc i v hv
        · cases hv
      refine wl_copy rfl rfl Tryz.underlying22 size_u8 rfl rfl (hp1'.drew) hrp (bs_one _) (by rw [length_bs, List.length_replicate]; omega) ?_
      intro w2 hp2' hf2 hz2
      have hmin : min p (136 - k) = p := by omega
      have hrl : (r.take p).length = p := by rw [List.length_take, hr1.len]; omega
      rw [hmin, List.take_of_length_le (by rw [length_bs, hrl]; exact Nat.le_refl _), piece_eq k p _ hrl hp2] at hp2'
      have hg2 := hg1.drew.keep hf2 (fun (h : g = gp) => by omega)
      have hr2 : RdB w2 a m r := hr1.keep ((Fr.refl (One gp) w1).drew.trans hf2 (fun _ _ t => t)) hra0
      have hfr2 : Fr (One g) w w2 := (hfr1.drew).new hf2 hpw
      have hgp2 := hp2'.lt
      clear hp1' hg1 hr1 hc1 hfr1 hf2 hz2 hrp e1 e2 hmin
      go_wp2_with fail
      have hc2 : w2.cell? ⟨g, 25, none⟩ = some (.int .i64 (k : Int)) := hg2.cell (abs_at (S, k) HS.out)
      have e3 : ∀ wx, (Instr.sliceAt 171 (.pointer (some ⟨gp, 0, none⟩)) none (some (.int .i64 ((k : Int) + (p : Int)))) none).run Tryz.prog wx = .ok (.slice (some ⟨gp, 0, none⟩) (k + p) 136) wx := fun wx =>
        run_sliceA_hi wx Tryz.underlying171 size_u8 gp 0 .i64 (k + p) hp2
      have e4 : IntKind.i64.wrap ((k : Int) + (p : Int)) = (k : Int) + (p : Int) := IntWalk.i64_in _ (by omega)
      refine wp_region_still_tail 10 (by kernel_rfl) (by kernel_rfl) ?_
      simp only [List.take_succ_cons, List.take_zero, List.drop_succ_cons, List.drop_zero]
      repeat still_step
      refine wpStill_nil ?_
      show wpList _ _ _ _ _ w2.drew
      go_wp2_with fail
      have hrd : RdB w2.drew (some ⟨gp, 0, none⟩) (k + p) (List.replicate k 0 ++ r.take p) := by
        have := Rd.ofHas hp2'.drew 0 (n := k + p) (by rw [length_bs, List.length_append, List.length_append, List.length_replicate, List.length_replicate, hrl]; omega)
        rw [List.drop_zero, bs_take, List.take_left' (by simp [hrl])] at this
        exact this
      refine (xor_any g S [.int .i64 (k : Int)] 164 _ (k + p) _ _ _ HS.out (by omega) hg2.drew hrd (fun x hx (e : x.block = g) => by simp only [Option.some.injEq] at hx; subst hx; simp at e; omega)).mono ?_
      rintro e w3 ⟨rfl, hg3, hf3, hz3⟩
      have hxb : xorB S (List.replicate k 0 ++ r.take p) (k + p) = xorAt S k (r.take p) := by
        have := xorB_piece S k (r.take p) []
        rwa [List.append_nil, hrl] at this
      rw [hxb] at hg3
      have hr3 : RdB w3 a m r := hr2.keep ((Fr.refl (One g) w2).drew.trans hf3 (fun _ _ t => t)) hoa
      have hfr3 : Fr (One g) w w3 := hfr2.drew.trans hf3 (fun _ _ t => t)
      have hSl : (xorAt S k (r.take p)).length = 25 := by rw [xorAt_len, HS.out]
      have hfeed : feed (feed (S, k) (r.take p)) (r.drop p) = feed st l := by rw [← feed_append, List.take_append_drop]; exact HF.out
      clear hg2 hr2 hfr2 hp2' hgp2 hc2 e3 e4 hrd hf3 hz3 hxb
      have hc3 : w3.cell? ⟨g, 25, none⟩ = some (.int .i64 (k : Int)) := hg3.cell (abs_at (_, k) hSl)
      have hf3 : w3.frozen? ⟨g, 25, none⟩ = false := hg3.free _ (by rw [List.length_append, length_ws, hSl]; simp)
      generalize hxs : xorAt S k (r.take p) = S3 at *
      have HXS := Lib.hid hxs; clear hxs
      have HFE := Lib.hid hfeed; clear hfeed
      have HSL := Lib.hid hSl; clear hSl
      have HRL := Lib.hid hrl; clear hrl
      go_wp2_with (with_reducible refine wl_stop (o := ⟨some 47, _, _, _, _, _⟩) ?_)
      refine wl_cut rfl rfl Tryz.underlying22 size_u8 rfl p m ⟨_, rfl⟩ rfl hp1 hcc ?_
      have hg4 : Has (w3.setCell ⟨g, 25, none⟩ (.int .i64 ((k + p : Nat) : Int))) g (abs (S3, k + p)) 164 := by
        have := hg3.set 25 (.int .i64 ((k + p : Nat) : Int))
        rw [show ws S3 ++ [Value.int .i64 (k : Int)] = abs (S3, k) from rfl, abs_set _ _ _ HSL.out] at this
        exact this
      have hr4 : RdB (w3.setCell ⟨g, 25, none⟩ (.int .i64 ((k + p : Nat) : Int))) (cutAt a p cc) (m - p) (r.drop p) := by
        have h1 := hr3.keep ((Fr.refl (One g) w3).setCell g 25 none (.int .i64 ((k + p : Nat) : Int)) (fun _ => rfl)) hoa
        have h2 := cutAt_rd h1 p m cc hp1 hcc (Nat.le_refl _)
        rw [bs_drop, bs_take] at h2
        rwa [List.take_of_length_le (by rw [List.length_drop, h1.len]; exact Nat.le_refl _)] at h2
      have hfr4 : Fr (One g) w (w3.setCell ⟨g, 25, none⟩ (.int .i64 ((k + p : Nat) : Int))) := hfr3.setCell g 25 none _ (fun _ => rfl)
      have hoff4 := cutAt_off hoa p cc
      have hsp : Value.int .i64 ((k : Int) + (p : Int)) = .int .i64 ((k + p : Nat) : Int) := by simp
      simp only [Int.natCast_add] at hg4 hr4 hfr4
      generalize w3.setCell ⟨g, 25, none⟩ (.int .i64 ((k : Int) + (p : Int))) = w4 at *
      clear hsp hg3 hr3 hfr3 hc3 hf3
      by_cases hfull : k + p = 136
      · have hfb : ((k : Int) + (p : Int) == 136) = true := by rw [beq_iff_eq]; omega
        have HFULL := Lib.hid hfull; clear hfull
        have hc4 : w4.cell? ⟨g, 25, none⟩ = some (.int .i64 ((k : Int) + (p : Int))) := hg4.cell (abs_at (S3, k + p) HSL.out)
        go_wp2_with fail
        refine (permute_abs g S3 (k + p) _ HSL.out hg4).mono ?_
        rintro e w5 ⟨rfl, hg5', hf5⟩
        have hr5 := hr4.keep hf5 hoff4
        have hfr5 : Fr (One g) w w5 := hfr4.trans hf5 (fun _ _ t => t)
        have hpl : (permS S3).length = 25 := by rw [permS_len, HSL.out]
        have hc5 : w5.cell? ⟨g, 25, none⟩ = some (.int .i64 ((k + p : Nat) : Int)) := hg5'.cell (abs_at (_, k + p) hpl)
        have hf5f : w5.frozen? ⟨g, 25, none⟩ = false := hg5'.free _ (by rw [abs_len]; simp only; omega)
        clear hg4 hr4 hfr4 hc4 hf5
        have HPL := Lib.hid hpl; clear hpl
        go_wp2_with fail
        go_roundw
        case rel =>
          have e : feed (S, k) (r.take p) = (permS S3, 0) := by rw [feed_full _ _ _ (by rw [HRL.out]; exact HFULL.out) hkj, HXS.out]
          have h2 := HFE.out
          rw [e] at h2
          have hg6 := hg5'.set 25 (.int .i64 ((0 : Nat) : Int))
          rw [abs_set _ _ _ HPL.out] at hg6
          exact ⟨(permS S3, 0), r.drop p, m - p, cutAt a p cc, cc - p, rfl, by omega, by omega, hr5.keep ((Fr.refl (One g) w5).setCell g 25 none _ (fun _ => rfl)) hoff4, hoff4, hg6, by simp, HPL.out, h2, hfr5.setCell g 25 none _ (fun _ => rfl)⟩
        case measure => have := HP.out; simp [lenV]; omega
      · have hfb : ((k : Int) + (p : Int) == 136) = false := by rw [beq_eq_false_iff_ne]; omega
        have hc4 : w4.cell? ⟨g, 25, none⟩ = some (.int .i64 ((k : Int) + (p : Int))) := hg4.cell (abs_at (S3, k + p) HSL.out)
        have hlt136 : k + p < 136 := by omega
        go_wp2_with fail
        go_roundw
        case rel =>
          have e : feed (S, k) (r.take p) = (S3, k + p) := by rw [feed_short _ _ _ (by rw [HRL.out]; exact hlt136), HXS.out, HRL.out]
          have h2 := HFE.out
          rw [e] at h2
          exact ⟨(S3, k + p), r.drop p, m - p, cutAt a p cc, cc - p, rfl, by omega, by omega, hr4, hoff4, hg4, hlt136, HSL.out, h2, hfr4⟩
        case measure => have := HP.out; simp [lenV]; omega
    · have hge : ¬ 0 < m := hlt
      have hm0 : m = 0 := by omega
      have hr0 : r = [] := List.eq_nil_of_length_eq_zero (by rw [hra.len, hm0])
      have HR := Lib.hid hr0; clear hr0 hm0
      go_wp2_with fail
      go_end0
      have h2 := HF.out
      rw [HR.out, feed_nil] at h2
      exact ⟨rfl, by rw [← h2]; exact hgj, hf⟩
end Go.Proofs.YtdbgddngapminaaGreat

/- The reference's sponge, on bytes: what it computes is the sponge on words. -/
namespace Mvp

theorem feed_at (l : List UInt8) : ∀ (S : List UInt64) (k : Nat), k < 136 → (feed (S, k) l).2 = (k + l.length) % 136 := by
  induction l with
  | nil => intro S k h; simp [feed_nil]; omega
  | cons x l ih =>
    intro S k h
    rw [feed_cons, feed1]
    split
    · rename_i h1
      simp only at h1
      rw [ih _ _ (by omega), List.length_cons]; omega
    · rename_i h1
      simp only at h1
      rw [ih _ _ (by omega), List.length_cons]
      congr 1; omega
/-- the text with its end -/
def padded (l : List UInt8) (e : UInt8) : List UInt8 := l ++ padL (l.length % 136) e
theorem padded_len (l : List UInt8) (e : UInt8) : (padded l e).length = l.length + (136 - l.length % 136) := by
  rw [padded, List.length_append, padL_len _ _ (Nat.mod_lt _ (by decide))]
theorem padded_mod (l : List UInt8) (e : UInt8) : (padded l e).length % 136 = 0 := by
  rw [padded_len]; omega
theorem padded_eq (l : List UInt8) (e : UInt8) (m : Nat) (hm : m = 135 - l.length % 136) : (l ++ e :: List.replicate m 0).set (l.length + m) (bx ((l ++ e :: List.replicate m 0).getD (l.length + m) 0) 0x80) = padded l e := by
  subst hm
  have h2 : (l ++ e :: List.replicate (135 - l.length % 136) 0).getD (l.length + (135 - l.length % 136)) 0 = (e :: List.replicate (135 - l.length % 136) 0).getD (135 - l.length % 136) 0 := by
    rw [List.getD_eq_getElem?_getD, List.getD_eq_getElem?_getD, List.getElem?_append_right (by omega), Nat.add_sub_cancel_left]
  rw [h2, List.set_append_right _ _ (by omega), Nat.add_sub_cancel_left]
  rfl
theorem ended_padded (l : List UInt8) (e : UInt8) : ended (feed (zeros25, 0) l) e = (feed (zeros25, 0) (padded l e)).1 := by
  rw [ended, padded, feed_append, feed_at _ _ _ (by decide), Nat.zero_add]
/-- the words behind so many bytes -/
def afterB (p : List UInt8) (i : Nat) : List UInt64 := (feed (zeros25, 0) (p.take i)).1
theorem afterB_len (p : List UInt8) (i : Nat) : (afterB p i).length = 25 := by rw [afterB, feed_len]; rfl
theorem afterB_zero (p : List UInt8) : afterB p 0 = zeros25 := by rw [afterB, List.take_zero, feed_nil]
theorem afterB_all (l : List UInt8) (e : UInt8) (i : Nat) (h : (padded l e).length ≤ i) : afterB (padded l e) i = ended (feed (zeros25, 0) l) e := by
  rw [afterB, List.take_of_length_le h, ended_padded]
theorem afterB_succ (p : List UInt8) (i : Nat) (hi : i % 136 = 0) (h : i + 136 ≤ p.length) : afterB p (i + 136) = permS (xorAt (afterB p i) 0 ((p.drop i).take 136)) := by
  have hl : (p.take i).length = i := by rw [List.length_take]; omega
  have h2 : (feed (zeros25, 0) (p.take i)).2 = 0 := by rw [feed_at _ _ _ (by decide), hl]; omega
  have hm : ((p.drop i).take 136).length = 136 := by rw [List.length_take, List.length_drop]; omega
  have h3 : feed (zeros25, 0) (p.take i) = (afterB p i, 0) := Prod.ext rfl h2
  rw [afterB, List.take_add, feed_append, h3, feed_full _ _ _ (by rw [hm]) (by decide)]
/-- bytes of the state, j of them added to -/
def addB (b p : List UInt8) : Nat → List UInt8
  | 0 => b
  | j + 1 => (addB b p j).set j (bx ((addB b p j).getD j 0) (p.getD j 0))
theorem addB_zero (b p : List UInt8) : addB b p 0 = b := rfl
theorem addB_succ (b p : List UInt8) (j : Nat) : addB b p (j + 1) = (addB b p j).set j (bx ((addB b p j).getD j 0) (p.getD j 0)) := rfl
theorem addB_len (b p : List UInt8) (j : Nat) : (addB b p j).length = b.length := by
  induction j with
  | zero => rfl
  | succ j ih => rw [addB_succ, List.length_set, ih]
theorem addB_get (b p : List UInt8) (j : Nat) (hj : j ≤ b.length) (i : Nat) (hi : i < b.length) : (addB b p j).getD i 0 = if i < j then bx (b.getD i 0) (p.getD i 0) else b.getD i 0 := by
  induction j generalizing i with
  | zero => simp [addB_zero]
  | succ j ih =>
    rw [addB_succ, List.getD_eq_getElem?_getD, List.getElem?_set]
    by_cases e : j = i
    · subst e
      rw [if_pos rfl, if_pos (by rw [addB_len]; omega), if_pos (by omega), ih (by omega) j (by omega), if_neg (by omega)]
      rfl
    · rw [if_neg e, ← List.getD_eq_getElem?_getD, ih (by omega) i hi]
      by_cases h1 : i < j
      · rw [if_pos h1, if_pos (by omega)]
      · rw [if_neg h1, if_neg (by omega)]
theorem perm_add (S : List UInt64) (hS : S.length = 25) (p : List UInt8) (hp : 136 ≤ p.length) : permB (addB (toB S 200) p 136) = toB (permS (xorAt S 0 (p.take 136))) 200 := by
  have hl : (p.take 136).length = 136 := by rw [List.length_take]; omega
  unfold permB
  rw [words_of S hS (p.take 136) _ (by omega) (by rw [addB_len, toB_len]) (fun i hi => ?_)]
  rw [addB_get _ _ _ (by rw [toB_len]; omega) i (by rw [toB_len]; omega), toB_get _ _ _ hi, hl]
  by_cases h : i < 136
  · rw [if_pos h, if_pos h]
    congr 1
    simp only [List.getD_eq_getElem?_getD, List.getElem?_take, if_pos h]
  · rw [if_neg h, if_neg h]
theorem perm_toB (S : List UInt64) (hS : S.length = 25) : permB (toB S 200) = toB (permS S) 200 := by
  unfold permB
  rw [words_of S hS [] _ (by simp) (by rw [toB_len]) (fun i hi => by rw [toB_get _ _ _ hi]; simp)]
  rfl
theorem toB_take (S : List UInt64) : (toB S 200).take 136 = toB S 136 := by
  unfold toB
  rw [← List.map_take, List.take_range, Nat.min_eq_left (by omega)]
theorem toB_zeros : toB zeros25 200 = List.replicate 200 0 := by
  have key : ∀ n, toB zeros25 n = List.replicate n 0 := by
    intro n
    refine List.eq_replicate_iff.2 ⟨toB_len _ _, fun x hx => ?_⟩
    unfold toB at hx
    obtain ⟨i, _, rfl⟩ := List.mem_map.1 hx
    exact sByte_zeros i
  exact key 200
end Mvp

/- The reference's sponge -/
namespace Go.Proofs.YtdbgddngapminaaGreat
open Go.RowKit Go.Mv Mvp
attribute [local irreducible] permS permP toB turnsK squeeze permN permB
theorem pad_append (l : List UInt8) (e : UInt8) (m : Nat) : bs (l ++ e :: List.replicate m 0) ++ bs [0] = bs (l ++ e :: List.replicate (m + 1) 0) := by
  rw [← bs_append, List.replicate_succ']; simp

theorem Rd.take {w : World} {a : Option Addr} {n : Nat} {vs : List Value} (h : Rd w a n vs) (p : Nat) (hp : p ≤ n) : Rd w a p (vs.take p) := by
  refine ⟨by rw [List.length_take, h.len]; omega, h.2.imp (fun h0 => by omega) ?_⟩
  rintro ⟨b, o, rfl, hc⟩
  refine ⟨b, o, rfl, fun i v hv => ?_⟩
  rw [List.getElem?_take] at hv
  split at hv
  · exact hc i v hv
  · cases hv
theorem mkS_append (l m : List UInt8) : mkS l ++ mkS m = mkS (l ++ m) := by
  apply ByteArray.ext
  simp [mkS]
theorem mkS_extract (l : List UInt8) (n : Nat) : (mkS l).extract 0 n = mkS (l.take n) := by
  apply ByteArray.ext
  simp [mkS]
theorem squeeze_zero' (S : List UInt64) : squeeze S 0 = [] := by unfold squeeze; rfl
theorem permN_zero' (S : List UInt64) : permN S 0 = S := by unfold permN; rfl
def strLen : Value → Nat
  | .string s => s.size
  | _ => 0
theorem pieces_lt' (n j : Nat) : 136 * j < n ↔ j < pieces n := by unfold pieces; omega

set_option maxHeartbeats 2000000 in
set_option maxRecDepth 1000000 in
theorem spongeR_any (s : ByteArray) (e : UInt8) (n : Nat) (w : World) (hs : s.size ≤ 1000000) (hn : n ≤ 20000) :
    Calls Tryz.prog 113 #[.string s, .int .u8 (e.toNat : Int), .int .i64 (n : Int)] w fun r w' => r = .returned (.string (mkS (spongeB s.data.toList e n))) ∧ Fr Nob w w' := by
  obtain ⟨l, rfl⟩ : ∃ l, s = mkS l := ⟨_, (mkS_data s).symm⟩
  rw [mkS_size] at hs
  rw [mkS_toList]
  go_enter Tryz.func113, Tryz.ntmps113
  go_wp2_with (with_reducible refine wl_stop (o := ⟨some 13, _, _, _, _, _⟩) ?_)
  refine wl_bytes rfl rfl Tryz.underlying9 Tryz.underlying22 Tryz.underlying5 rfl (by rw [mkS_size]; unfold maxLen; omega) w.heap.size (Nat.le_refl _) ?_
  intro cap w1 hown1 hf1 hz1
  rw [mkS_toList, mkS_size] at hown1
  rw [mkS_size]
  go_wp2_with (with_reducible refine wl_stop (o := ⟨some 15, _, _, _, _, _⟩) ?_)
  refine wl_one rfl rfl Tryz.underlying22 info_u8 e rfl ?_
  intro w2 hg2 hf2 hz2
  have hown2 := hown1.still hf2
  have hfr2 := hf1.then hf2
  generalize w1.heap.size = g1 at *
  clear hown1 hf1 hf2 hz2 hz1
  go_wp2_with (with_reducible refine wl_stop (o := ⟨some 16, _, _, _, _, _⟩) ?_)
  refine wl_append rfl rfl Tryz.underlying22 info_u8 rfl (by decide) hown2 rfl rfl (Rd.whole hg2) (bs_one _) (by simp [maxLen]; omega) (by simp; omega) hfr2.size ?_
  intro v3 w3 hown3 hf3 hb3
  have hfr3 : Fr Nob w w3 := hown2.fr hfr2 (Nat.le_refl _) hf3
  clear hown2 hfr2 hg2 hf3 hb3
  go_wp2_with fail
  go_loopw [7] (fun v wr => ∃ m, m ≤ 135 - l.length % 136 ∧ Own wr w.heap.size 5 1 v (l.length + 1 + m) (bs (l ++ e :: List.replicate m 0)) ∧ Fr Nob w wr) (fun v _ => l.length + 136 - lenV v)
  case atStart => exact ⟨0, Nat.zero_le _, by simpa [bs] using hown3, hfr3⟩
  case round =>
    obtain ⟨m, hm, hown, hf⟩ := hrel
    clear hown3 hfr3
    obtain ⟨a, c, rfl, hc, hrd, hna⟩ := hown.form
    have hmod := Nat.mod_lt l.length (show 0 < 136 by decide)
    by_cases hlt : (l.length + 1 + m) % 136 = 0
    · have hb : (((l.length : Int) + 1 + (m : Int)) % 136 != 0) = false := by simp; omega
      have hmk : m = 135 - l.length % 136 := by omega
      have HMK := Lib.hid hmk; clear hmk
      have HMOD := Lib.hid hmod; clear hmod
      have HLT := Lib.hid hlt; clear hlt
      obtain ⟨gp, op, cp, hv, hgp, hgp2, hcp, hcm, hget, hfree, hput⟩ := hown.cells (by omega)
      simp only [Value.slice.injEq] at hv
      obtain ⟨rfl, -, rfl⟩ := hv
      have hlen : (l ++ e :: List.replicate m 0).length = l.length + 1 + m := by simp; omega
      have hcl : wr.cell? ⟨gp, op + (l.length + m), none⟩ = some (.int .u8 (((l ++ e :: List.replicate m 0).getD (l.length + m) 0).toNat : Int)) := hget _ _ (bs_get _ _ (by omega))
      have hfl := hfree (l.length + m) (by omega)
      have hput2 := hput (l.length + m)
      clear hget hfree hput hrd hna
      generalize hy : (l ++ e :: List.replicate m 0).getD (l.length + m) 0 = y at hcl
      have HY := Lib.hid hy; clear hy
      have hbx : bits BinOp.xor IntKind.u8 (y.toNat : Int) 128 = ((bx y 128).toNat : Int) := xor8_run y 128
      go_wp2_with (with_reducible refine wl_stop (o := ⟨some 36, _, _, _, _, _⟩) ?_)
      have hown4 := hput2 (.int .u8 ((bx y 0x80).toNat : Int)) (by omega)
      rw [bs_set, ← HY.out, padded_eq l e m HMK.out] at hown4
      rw [HY.out] at hown4
      have hfr4 : Fr Nob w (wr.setCell ⟨gp, op + (l.length + m), none⟩ (.int .u8 ((bx y 128).toNat : Int))) := hf.setCell gp _ none _ (fun h => by omega)
      have hgp4 : gp < (wr.setCell ⟨gp, op + (l.length + m), none⟩ (.int .u8 ((bx y 128).toNat : Int))).heap.size := by simpa using hgp2
      generalize wr.setCell ⟨gp, op + (l.length + m), none⟩ (.int .u8 ((bx y 128).toNat : Int)) = w4 at *
      have hpl := padded_len l e
      have hpm := padded_mod l e
      have hpe := afterB_all l e
      have hN : l.length + 1 + m = (padded l e).length := by rw [hpl, HMK.out]; have := HMOD.out; omega
      have hpb : (padded l e).length ≤ 1000136 := by rw [hpl]; omega
      rw [hN] at hown4 ⊢
      have hrd4 : RdB w4 (some ⟨gp, op, none⟩) (padded l e).length (padded l e) := by
        obtain ⟨a, cc, hv, _, hr, _⟩ := hown4.form
        cases hv
        rw [Nat.mul_one] at hr; exact hr
      clear hown hown4 hf hgp2 hput2 hcl hfl hbx HY hlen hpl hb HLT hc hcm hcp HMK
      generalize hP : padded l e = P at *
      have HP := Lib.hid hP; clear hP
      refine wl_make rfl rfl Tryz.underlying22 info_u8 rfl rfl rfl 200 200 (by simp) (by simp) (by omega) (by omega) (by unfold maxLen; omega) ?_
      intro w5 hg5 hf5 hz5
      have hs5 : Own w5 w4.heap.size 5 1 (.slice (some ⟨w4.heap.size, 0, none⟩) 200 200) 200 (bs (toB zeros25 200)) := by
        rw [toB_zeros]
        have := Own.made hg5 w4.heap.size (Nat.le_refl _) 1 200 200 (Nat.le_refl _) (by unfold maxLen; omega) (by simp)
        rw [List.take_of_length_le (by simp)] at this
        exact this
      have hrd5 := hrd4.still hf5
      have hfr5 := hfr4.then hf5
      have hb5 : w4.heap.size ≤ w5.heap.size := hf5.size
      have hwb : w.heap.size ≤ w4.heap.size := hfr4.size
      generalize w4.heap.size = b5 at *
      clear hg5 hf5 hz5 hrd4 hfr4
      go_wp2_with fail
      go_loopw [9, 8] (fun i v wr => ∃ I : Nat, I ≤ P.length ∧ I % 136 = 0 ∧ i = .int .i64 (I : Int) ∧ Own wr b5 5 1 v 200 (bs (toB (afterB P I) 200)) ∧ RdB wr (some ⟨gp, op, none⟩) P.length P ∧ b5 ≤ wr.heap.size ∧ Fr Nob w wr) (fun i _ _ => (P.length - intOf i).toNat)
      case atStart => exact ⟨0, by omega, rfl, rfl, by rw [afterB_zero]; exact hs5, hrd5, hb5, hfr5⟩
      case round =>
        obtain ⟨I, hk, hI, rfl, hst, hrdk, hbk, hfk⟩ := hrel
        clear hs5 hrd5 hb5 hfr5
        have hSl := afterB_len P I
        by_cases hlt : I < P.length
        · have hltI : (I : Int) < (P.length : Int) := by omega
          have hk2 : I + 136 ≤ P.length := by omega
          have hsucc := afterB_succ P I hI hk2
          generalize hS0 : afterB P I = S at *
          have HS0 := Lib.hid hS0; clear hS0
          have HI := Lib.hid hI; clear hI
          have HSU := Lib.hid hsucc; clear hsucc
          have HSL := Lib.hid hSl; clear hSl
          have HPE := Lib.hid hpe; clear hpe
          have HPM := Lib.hid hpm; clear hpm
          obtain ⟨gs, os, cs, rfl, hgs, hgs2, hcs, hcm, -, -, -⟩ := hst.cells (by omega)
          obtain ⟨wo, rfl⟩ : ∃ wo : World, wo = wr := ⟨_, rfl⟩
          go_wp2_with fail
          go_loopw [10] (fun j wr => ∃ jn : Nat, jn ≤ 136 ∧ j = .int .i64 (jn : Int) ∧ Own wr b5 5 1 (.slice (some ⟨gs, os, none⟩) 200 cs) 200 (bs (addB (toB S 200) (P.drop I) jn)) ∧ RdB wr (some ⟨gp, op, none⟩) P.length P ∧ b5 ≤ wr.heap.size ∧ Fr Nob w wr) (fun j _ => (136 - intOf j).toNat)
          case atStart => exact ⟨0, by omega, rfl, by rw [addB_zero]; exact hst, hrdk, hbk, hfk⟩
          case round =>
            obtain ⟨j, hj, rfl, hsj, hrdj, hbj, hfj⟩ := hrel
            clear hst hrdk hbk hfk
            by_cases hjlt : j < 136
            · have hjI : (j : Int) < 136 := by omega
              obtain ⟨gs', os', cs', hv, -, hgs3, -, -, hget, hfree, hput⟩ := hsj.cells (by omega)
              simp only [Value.slice.injEq, Option.some.injEq, Addr.mk.injEq] at hv
              obtain ⟨⟨rfl, rfl, -⟩, -, rfl⟩ := hv
              have hc1 : wr.cell? ⟨gs, os + j, none⟩ = some (.int .u8 (((addB (toB S 200) (P.drop I) j).getD j 0).toNat : Int)) := hget _ _ (bs_get _ _ (by rw [addB_len, toB_len]; omega))
              have hf1 := hfree j (by omega)
              have hput1 := hput j
              have hc2 : wr.cell? ⟨gp, op + (I + j), none⟩ = some (.int .u8 ((P.getD (I + j) 0).toNat : Int)) := by
                obtain ⟨b, o, he, hh⟩ := hrdj.at (by omega)
                simp only [Option.some.injEq, Addr.mk.injEq] at he
                obtain ⟨rfl, rfl, -⟩ := he
                exact hh _ (by omega)
              clear hget hfree hput
              generalize hx : (addB (toB S 200) (P.drop I) j).getD j 0 = x at hc1
              generalize hy : P.getD (I + j) 0 = y at hc2
              have HX := Lib.hid hx; clear hx
              have HY := Lib.hid hy; clear hy
              go_wp2_with fail
              try go_region
              all_goals go_wp2
              go_roundw
              case rel =>
                have e : (P.drop I).getD j 0 = y := by
                  rw [← HY.out]; simp [List.getD_eq_getElem?_getD, List.getElem?_drop]
                have h1 := hput1 (.int .u8 ((bx x y).toNat : Int)) (by omega)
                rw [bs_set, ← HX.out, ← e, ← addB_succ] at h1
                rw [HX.out, e] at h1
                refine ⟨j + 1, by omega, by go_num, h1, ?_, ?_, ?_⟩
                · exact hrdj.keep ((Fr.refl (One gs) wr).setCell gs _ none _ (fun _ => rfl)).drew (fun a ha (hh : a.block = gs) => by simp only [Option.some.injEq] at ha; subst ha; simp at hh; omega)
                · simpa using hbj
                · exact (hfj.setCell gs _ none _ (fun h => by omega)).drew
              case measure => simp [intOf]; omega
            · have hge : ¬ ((j : Int) < 136) := by omega
              have hj136 : j = 136 := by omega
              have HJ := Lib.hid hj136; clear hj136
              go_wp2_with (with_reducible refine wl_stop (o := ⟨some 62, _, _, _, _, _⟩) ?_)
              have hrs : RdB wr (some ⟨gs, os, none⟩) 200 (addB (toB S 200) (P.drop I) 136) := by
                obtain ⟨a, cc, hv, _, hr, _⟩ := hsj.form
                cases hv
                rw [HJ.out, Nat.mul_one] at hr; exact hr
              refine wl_string rfl rfl Tryz.underlying22 Tryz.underlying5 Tryz.underlying9 rfl hrs ?_
              go_wp2_with fail
              refine (permuteR_any (mkS (addB (toB S 200) (P.drop I) 136)) _ (by rw [mkS_size, addB_len, toB_len])).mono ?_
              rintro e' w6 ⟨rfl, hf6⟩
              rw [mkS_toList, perm_add S HSL.out _ (by rw [List.length_drop]; omega), ← HSU.out]
              have hb6 : b5 ≤ w6.heap.size := Nat.le_trans hbj hf6.size
              go_wp2_with (with_reducible refine wl_stop (o := ⟨some 64, _, _, _, _, _⟩) ?_)
              refine wl_bytes rfl rfl Tryz.underlying9 Tryz.underlying22 Tryz.underlying5 rfl (by rw [mkS_size, toB_len]; unfold maxLen; omega) b5 hb6 ?_
              intro c7 w7 hs7 hf7 hz7
              rw [mkS_toList, mkS_size, toB_len] at hs7
              rw [mkS_size, toB_len]
              have hf67 := hf6.then hf7
              have hrd7 := hrdj.still hf67
              have hfr7 := hfj.then hf67
              have hb7 : b5 ≤ w7.heap.size := Nat.le_trans hb6 hf7.size
              generalize w6.heap.size = g6 at *
              clear hsj hrdj hfj hrs hf6 hf7 hz7 hf67
              go_wp2_with fail
              go_roundw
              case rel => exact ⟨I + 136, by omega, by have := HI.out; omega, by go_num, hs7, hrd7, hb7, hfr7⟩
              case measure => simp [intOf]; omega
        · have hge : ¬ ((I : Int) < (P.length : Int)) := by omega
          have hend : afterB P I = ended (feed (zeros25, 0) l) e := hpe I (by omega)
          rw [hend] at hst hSl
          clear hpe hend
          generalize hE : ended (feed (zeros25, 0) l) e = S0 at *
          have HE := Lib.hid hE; clear hE
          have HPM := Lib.hid hpm; clear hpm
          clear hrdk
          go_wp2_with fail
          go_loopw [11, 8] (fun o v wr => ∃ j : Nat, j ≤ pieces n ∧ o = .string (mkS (squeeze S0 j)) ∧ Own wr b5 5 1 v 200 (bs (toB (permN S0 j) 200)) ∧ b5 ≤ wr.heap.size ∧ Fr Nob w wr) (fun o _ _ => n - strLen o)
          case atStart => exact ⟨0, Nat.zero_le _, by rw [squeeze_zero']; rfl, by rw [permN_zero']; exact hst, hbk, hfk⟩
          case round =>
            obtain ⟨j, hj, rfl, hsj, hbj, hfj⟩ := hrel
            clear hst hbk hfk
            have hpi := pieces_lt' n j
            have hql : (mkS (squeeze S0 j)).size = 136 * j := by rw [mkS_size, squeeze_len]
            generalize hq : mkS (squeeze S0 j) = q at *
            have HQ := Lib.hid hq; clear hq
            by_cases hlt : 136 * j < n
            · have hltI : (q.size : Int) < (n : Int) := by omega
              have hj1 := hpi.1 hlt
              have HPI := Lib.hid hpi; clear hpi
              have HQL := Lib.hid hql; clear hql
              have HLT := Lib.hid hlt; clear hlt
              have HSL := Lib.hid hSl; clear hSl
              obtain ⟨a, cc, rfl, hcc, hrs, hna⟩ := hsj.form
              have e1 : ∀ wx, (Instr.sliceAt 22 (.slice a 200 cc) none (some (.int .i64 136)) none).run Tryz.prog wx = .ok (.slice a 136 cc) wx := fun wx => run_slice_hi wx Tryz.underlying22 size_u8 a 200 cc .i64 136 (by omega)
              go_wp2_with (with_reducible refine wl_stop (o := ⟨some 72, _, _, _, _, _⟩) ?_)
              have hrs2 : RdB wr a 136 (toB (permN S0 j) 136) := by
                have h2 := hrs
                rw [Nat.mul_one] at h2
                have h3 := Rd.take h2 136 (by omega)
                rwa [bs_take, toB_take] at h3
              have hrs3 : RdB wr a 200 (toB (permN S0 j) 200) := by
                rw [Nat.mul_one] at hrs; exact hrs
              clear hrs hna
              have hcat : ¬ 9223372036854775807 < q.size + (mkS (toB (permN S0 j) 136)).size := by have := HLT.out; rw [mkS_size, toB_len, HQL.out]; omega
              refine wl_string rfl rfl Tryz.underlying22 Tryz.underlying5 Tryz.underlying9 rfl hrs2 ?_
              go_wp2_with (with_reducible refine wl_stop (o := ⟨some 75, _, _, _, _, _⟩) ?_)
              have hqq : q ++ mkS (toB (permN S0 j) 136) = mkS (squeeze S0 (j + 1)) := by rw [← HQ.out, mkS_append, ← squeeze_succ]
              rw [hqq]
              refine wl_string rfl rfl Tryz.underlying22 Tryz.underlying5 Tryz.underlying9 rfl hrs3 ?_
              clear hcat
              go_wp2_with fail
              refine (permuteR_any (mkS (toB (permN S0 j) 200)) _ (by rw [mkS_size, toB_len])).mono ?_
              rintro e' w6 ⟨rfl, hf6⟩
              rw [mkS_toList, perm_toB _ (by rw [permN_len, HSL.out]), ← permN_succ]
              have hb6 : b5 ≤ w6.heap.size := Nat.le_trans hbj hf6.size
              go_wp2_with (with_reducible refine wl_stop (o := ⟨some 77, _, _, _, _, _⟩) ?_)
              refine wl_bytes rfl rfl Tryz.underlying9 Tryz.underlying22 Tryz.underlying5 rfl (by rw [mkS_size, toB_len]; unfold maxLen; omega) b5 hb6 ?_
              intro c7 w7 hs7 hf7 hz7
              rw [mkS_toList, mkS_size, toB_len] at hs7
              rw [mkS_size, toB_len]
              have hf67 := hf6.then hf7
              have hfr7 := hfj.then hf67
              have hb7 : b5 ≤ w7.heap.size := Nat.le_trans hb6 hf7.size
              generalize w6.heap.size = g6 at *
              clear hsj hfj hrs2 hrs3 hf6 hf7 hz7 hf67
              go_wp2_with fail
              go_roundw
              case rel => exact ⟨j + 1, hj1, rfl, hs7, hb7, hfr7⟩
              case measure =>
                have h1 := HLT.out; have h2 := HQL.out
                have h3 : (mkS (squeeze S0 (j + 1))).size = 136 * (j + 1) := by rw [mkS_size, squeeze_len]
                simp [strLen, h3]; omega
            · have hge : ¬ ((q.size : Int) < (n : Int)) := by omega
              have hjp : j = pieces n := by have := hpi.2; omega
              have HJP := Lib.hid hjp; clear hjp
              go_wp2_with fail
              go_ret
              refine ⟨?_, hfj⟩
              rw [← HQ.out, HJP.out, mkS_extract]
              unfold spongeB outB
              rw [HE.out]
              rfl
    · have hb : (((l.length : Int) + 1 + (m : Int)) % 136 != 0) = true := by simp; omega
      go_wp2_with (with_reducible refine wl_stop (o := ⟨some 22, _, _, _, _, _⟩) ?_)
      refine wl_one rfl rfl Tryz.underlying22 info_u8 0 rfl ?_
      intro w2 hg2 hf2 hz2
      have hown2 := hown.still hf2
      have hfr2 := hf.then hf2
      generalize wr.heap.size = g2 at *
      clear hown hf hf2 hz2 hrd hna
      have HMOD := Lib.hid hmod; clear hmod
      have HLT := Lib.hid hlt; clear hlt
      go_wp2_with (with_reducible refine wl_stop (o := ⟨some 23, _, _, _, _, _⟩) ?_)
      refine wl_append rfl rfl Tryz.underlying22 info_u8 rfl (by decide) hown2 rfl rfl (Rd.whole hg2) (bs_one _) (by simp [maxLen]; omega) (by simp; omega) hfr2.size ?_
      intro v3 w3 hown3 hf3 hb3
      have hfr3 : Fr Nob w w3 := hown2.fr hfr2 (Nat.le_refl _) hf3
      rw [pad_append] at hown3
      clear hown2 hfr2 hg2 hf3 hb3
      go_wp2_with fail
      go_roundw
      case rel => exact ⟨m + 1, by have := HMOD.out; have := HLT.out; omega, hown3, hfr3⟩
      case measure =>
        obtain ⟨a8, c8, rfl, _⟩ := hown3.form
        have := HLT.out; have := HMOD.out
        simp [lenV]; omega
end Go.Proofs.YtdbgddngapminaaGreat

/- absorber.out, and what hashes with it -/
namespace Go.Proofs.YtdbgddngapminaaGreat
open Go.RowKit Go.Mv Mvp
theorem squeeze_zero (S : List UInt64) : squeeze S 0 = [] := by unfold squeeze; rfl
theorem permN_zero (S : List UInt64) : permN S 0 = S := by unfold permN; rfl
/-- `v[:n:n]` of an owned slice is owned -/
theorem own_cut {w : World} {base : Nat} {T : TypeId} {a : Option Addr} {m c : Nat} {L : List Value} (h : Own w base T 1 (.slice a m c) m L) (n : Nat) (hn : n ≤ m) : Own w base T 1 (.slice a n n) n (L.take n) := by
  obtain ⟨hl, h | ⟨g, o, cap, B, hv, hb, hg, h1, h2, h3, h4⟩⟩ := h
  · obtain ⟨hv, hm⟩ := h
    cases hv
    have : n = 0 := by omega
    subst this
    exact ⟨by simp, .inl ⟨rfl, rfl⟩⟩
  · cases hv
    refine ⟨by rw [List.length_take]; omega, .inr ⟨g, o, n, B, rfl, hb, hg, Nat.le_refl _, by omega, by omega, ?_⟩⟩
    rw [← h4, List.take_take]
    congr 1
    omega
attribute [local irreducible] permS permP toB turnsK squeeze permN
theorem last_eq (k : Nat) (e : UInt8) (h : k < 136) : ((List.replicate 136 (0 : UInt8)).set k e).set 135 (bx (((List.replicate 136 (0 : UInt8)).set k e).getD 135 0) 0x80) = List.replicate k 0 ++ padL k e := by
  have h1 : (List.replicate 136 (0 : UInt8)).set k e = List.replicate k 0 ++ (e :: List.replicate (135 - k) 0) := by
    have : (List.replicate 136 (0 : UInt8)) = List.replicate k 0 ++ (0 :: List.replicate (135 - k) 0) := by
      rw [← List.replicate_succ, List.replicate_append_replicate]; congr 1; omega
    rw [this, List.set_append_right _ _ (by simp)]
    simp
  have h2 : (List.replicate k 0 ++ (e :: List.replicate (135 - k) 0)).getD 135 0 = (e :: List.replicate (135 - k) 0).getD (135 - k) 0 := by
    rw [List.getD_eq_getElem?_getD, List.getD_eq_getElem?_getD, List.getElem?_append_right (by simp; omega), List.length_replicate]
  rw [h1, h2, List.set_append_right _ _ (by simp; omega)]
  simp only [List.length_replicate, padL]
theorem pieces_lt (n j : Nat) : 136 * j < n ↔ j < pieces n := by unfold pieces; omega

set_option maxHeartbeats 2000000 in
set_option maxRecDepth 1000000 in
theorem out_any (g : Nat) (S : List UInt64) (k : Nat) (e : UInt8) (n : Nat) (w : World) (hS : S.length = 25) (hk : k < 136) (hn : n ≤ 20000) (hg : Has w g (abs (S, k)) 164) :
    Calls Tryz.prog 124 #[.pointer (some ⟨g, 0, none⟩), .int .u8 (e.toNat : Int), .int .i64 (n : Int)] w fun r w' => ∃ v, r = .returned v ∧ Own w' w.heap.size 5 1 v n (bs (outB (ended (S, k) e) n)) ∧ Fr (One g) w w' := by
  go_enter Tryz.func124, Tryz.ntmps124
  go_wp2_with (with_reducible refine wl_stop (o := ⟨_, .alloc 171, _, _, _, _⟩) ?_)
  refine wl_alloc rfl rfl zero_a136 (bs (List.replicate 136 0)) (by simp [Value.cells]) ?_
  intro w1 hl1 hf1 hz1
  have hg1 := hg.keep hf1 id
  have hgl := hg.lt
  have hfr1 : Fr (One g) w w1 := (Fr.refl (One g) w).same hf1
  have hb0 : w.heap.size ≤ w1.heap.size := hf1.size
  generalize hgl0 : w.heap.size = gl at *
  have HGL := Lib.hid hgl0; clear hgl0
  clear hf1 hz1 hg
  have hc25 : w1.cell? ⟨g, 25, none⟩ = some (.int .i64 (k : Int)) := hg1.cell (abs_at (S, k) hS)
  obtain ⟨vk, hck, hfk⟩ := hl1.ready (i := k) (by rw [length_bs]; simpa using hk)
  have hkI : (k : Int) < 136 := by omega
  go_wp2_with (with_reducible refine wl_stop (o := ⟨some 15, _, _, _, _, _⟩) ?_)
  have hl2 := hl1.set k (.int .u8 (e.toNat : Int))
  rw [bs_set] at hl2
  have hg2 := hg1.other (g' := gl) k none (.int .u8 (e.toNat : Int)) (by omega)
  have hfr2 : Fr (One g) w (w1.setCell ⟨gl, k, none⟩ (.int .u8 (e.toNat : Int))) := hfr1.setCell gl k none _ (fun h => by have := HGL.out; omega)
  have hsz2 : gl < (w1.setCell ⟨gl, k, none⟩ (.int .u8 (e.toNat : Int))).heap.size := hl2.lt
  generalize w1.setCell ⟨gl, k, none⟩ (.int .u8 (e.toNat : Int)) = w2 at *
  clear hl1 hg1 hfr1 hc25 hck hfk hb0
  have hc135 : w2.cell? ⟨gl, 135, none⟩ = some (.int .u8 ((((List.replicate 136 (0 : UInt8)).set k e).getD 135 0).toNat : Int)) := hl2.cell (bs_get _ _ (by simp))
  have hf135 : w2.frozen? ⟨gl, 135, none⟩ = false := hl2.free _ (by rw [length_bs]; simp)
  generalize hy : ((List.replicate 136 (0 : UInt8)).set k e).getD 135 0 = y at hc135
  have HY := Lib.hid hy; clear hy
  show wpList _ _ _ _ _ _
  go_wp2_with fail
  have hbx : bits BinOp.xor IntKind.u8 (y.toNat : Int) 128 = ((bx y 128).toNat : Int) := xor8_run y 128
  rw [hbx]
  have hl3 := hl2.set 135 (.int .u8 ((bx y 0x80).toNat : Int))
  rw [bs_set, ← HY.out, last_eq k e hk] at hl3
  rw [HY.out] at hl3
  have hg3 := hg2.other (g' := gl) 135 none (.int .u8 ((bx y 128).toNat : Int)) (by omega)
  have hfr3 : Fr (One g) w (w2.setCell ⟨gl, 135, none⟩ (.int .u8 ((bx y 128).toNat : Int))) := hfr2.setCell gl 135 none _ (fun h => by have := HGL.out; omega)
  generalize w2.setCell ⟨gl, 135, none⟩ (.int .u8 ((bx y 128).toNat : Int)) = w3 at *
  have hpl : (padL k e).length = 136 - k := padL_len k e hk
  have hne : g ≠ gl := by omega
  clear hl2 hg2 hfr2 hc135 hf135 hbx hsz2 HY
  have e1 : ∀ wx, (Instr.sliceAt 171 (.pointer (some ⟨gl, 0, none⟩)) none none none).run Tryz.prog wx = .ok (.slice (some ⟨gl, 0, none⟩) 136 136) wx := fun wx => run_sliceA_all wx Tryz.underlying171 size_u8 gl 0
  refine wp_region_still_tail 4 (by kernel_rfl) (by kernel_rfl) ?_
  simp only [List.take_succ_cons, List.take_zero, List.drop_succ_cons, List.drop_zero]
  repeat still_step
  refine wpStill_nil ?_
  show wpList _ _ _ _ _ w3.drew
  go_wp2_with fail
  have hrd : RdB w3.drew (some ⟨gl, 0, none⟩) 136 (List.replicate k 0 ++ padL k e) := by
    have := Rd.whole hl3.drew
    rwa [length_bs, List.length_append, List.length_replicate, hpl, show k + (136 - k) = 136 by omega] at this
  refine (xor_any g S [.int .i64 (k : Int)] 164 _ 136 _ _ _ hS (by omega) hg3.drew hrd (fun x hx (e : x.block = g) => by simp only [Option.some.injEq] at hx; subst hx; simp at e; omega)).mono ?_
  rintro e w4 ⟨rfl, hg4, hf4, hz4⟩
  have hxb : xorB S (List.replicate k 0 ++ padL k e) 136 = xorAt S k (padL k e) := by
    have := xorB_piece S k (padL k e) []
    rwa [List.append_nil, hpl, show k + (136 - k) = 136 by omega] at this
  rw [hxb, abs_def] at hg4
  have hfr4 : Fr (One g) w w4 := hfr3.drew.trans hf4 (fun _ _ t => t)
  have hend : ended (S, k) e = permS (xorAt S k (padL k e)) := by
    unfold ended
    rw [feed_full _ _ _ (by simp only [hpl]; omega) hk]
  have hxl : (xorAt S k (padL k e)).length = 25 := by rw [xorAt_len, hS]
  clear hl3 hg3 hfr3 e1 hrd hf4 hz4 hxb hpl
  generalize xorAt S k (padL k e) = X at *
  have HEND := Lib.hid hend; clear hend
  go_wp2_with fail
  refine (permute_abs g X k _ hxl hg4).mono ?_
  rintro e w5 ⟨rfl, hg5, hf5⟩
  have hfr5 : Fr (One g) w w5 := hfr4.trans hf5 (fun _ _ t => t)
  have hS5 : (permS X).length = 25 := by rw [permS_len, hxl]
  generalize permS X = S0 at *
  clear hg4 hfr4 hf5 hxl hS
  go_wp2_with fail
  go_loopw [8] (fun v wr => ∃ j, j ≤ pieces n ∧ Own wr w.heap.size 5 1 v (136 * j) (bs (squeeze S0 j)) ∧ Has wr g (abs (permN S0 j, k)) 164 ∧ Fr (One g) w wr) (fun v _ => n - lenV v)
  case atStart => exact ⟨0, Nat.zero_le _, by rw [squeeze_zero]; exact Own.nil _ _ _ _, by rw [permN_zero]; exact hg5, hfr5⟩
  case round =>
    obtain ⟨j, hj, hown, hgj, hfj⟩ := hrel
    clear hg5 hfr5
    have hjn := pieces_lt n j
    obtain ⟨a, cap, rfl, hcap, hrdj, hna⟩ := hown.form
    by_cases hlt : 136 * j < n
    · have hltI : 136 * (j : Int) < (n : Int) := by omega
      have hpj : (permN S0 j).length = 25 := by rw [permN_len, hS5]
      have hjp : j + 1 ≤ pieces n := hjn.1 hlt
      have HJN := Lib.hid hjn; clear hjn
      have HLT := Lib.hid hlt; clear hlt
      clear hrdj hna
      go_wp2_with fail
      rw [← abs_def] at hgj
      refine (bytes_any g (permN S0 j) [.int .i64 (k : Int)] 164 136 _ hpj (by omega) hgj).mono ?_
      rintro e w6 ⟨rfl, ht6, hf6, hz6⟩
      have hg6 := hgj.keep hf6 id
      rw [abs_def] at hg6
      have hown6 := hown.still hf6
      have hfr6 : Fr (One g) w w6 := hfj.same hf6
      have hwb : w.heap.size ≤ wr.heap.size := hfj.size
      have hgb : g < w.heap.size := by have := HGL.out; omega
      generalize wr.heap.size = gt at *
      clear hgj hown hfj hf6
      go_wp2_with (with_reducible refine wl_stop (o := ⟨some 37, _, _, _, _, _⟩) ?_)
      have hrd6 : Rd w6 (some ⟨gt, 0, none⟩) (136 * 1) (bs (toB (permN S0 j) 136)) := by
        have := Rd.whole ht6
        rwa [length_bs, toB_len] at this
      refine wl_append rfl rfl Tryz.underlying22 info_u8 rfl (by decide) hown6 rfl rfl hrd6 (bs_one _) (by unfold maxLen; omega) (by omega) hfr6.size ?_
      intro v7 w7 hown7 hf7 hb7
      have hg7 := hg6.keep hf7 (fun hh => by have := hown6.lt hh; omega)
      have hfr7 : Fr (One g) w w7 := hown6.fr hfr6 (Nat.le_refl _) hf7
      rw [← bs_append, ← squeeze_succ] at hown7
      clear ht6 hg6 hown6 hfr6 hrd6 hf7 hb7
      go_wp2_with fail
      refine (permute_abs g _ k _ hpj hg7).mono ?_
      rintro e w8 ⟨rfl, hg8, hf8⟩
      rw [← permN_succ] at hg8
      have hown8 := hown7.keep hf8 (fun k' hk' (h : k' = g) => by have := hown7.lt hk'; omega)
      have hfr8 : Fr (One g) w w8 := hfr7.trans hf8 (fun _ _ t => t)
      clear hg7 hown7 hfr7 hf8
      go_wp2_with fail
      go_roundw
      case rel => exact ⟨j + 1, hjp, hown8, hg8, hfr8⟩
      case measure =>
        obtain ⟨a8, c8, rfl, _⟩ := hown8.form
        have := HLT.out
        simp [lenV]; omega
    · have hge : ¬ (136 * (j : Int) < (n : Int)) := by omega
      have hjp : j = pieces n := by have := hjn.2; omega
      have HJP := Lib.hid hjp; clear hjp
      have HJN := Lib.hid hjn; clear hjn
      have hnc : n ≤ cap := by omega
      have hnI : ¬ (n : Int) < 0 := by omega
      clear hgj
      go_wp2_with (with_reducible refine wl_stop (o := ⟨some 45, _, _, _, _, _⟩) ?_)
      refine wl_cut3 rfl rfl Tryz.underlying22 size_u8 rfl 0 n n rfl rfl rfl rfl rfl (Nat.zero_le _) (Nat.le_refl _) hnc ?_
      go_wp2_with fail
      go_ret
      rw [cutAt_0]
      refine ⟨_, rfl, ?_, hfj⟩
      have hsq : bs (outB (ended (S, k) e) n) = (bs (squeeze S0 j)).take n := by
        rw [HEND.out, HJP.out, outB, bs_take]
      rw [hsq]
      exact own_cut hown n (by omega)
end Go.Proofs.YtdbgddngapminaaGreat

/- absorber.frame; the reference's Frame -/
namespace Mvp
/-- a length in four bytes -/
def lenB (n : Nat) : List UInt8 := [UInt8.ofNat (n / 16777216), UInt8.ofNat (n / 65536), UInt8.ofNat (n / 256), UInt8.ofNat n]
def frameL (l : List UInt8) : List UInt8 := lenB l.length ++ l
def framesL (ls : List (List UInt8)) : List UInt8 := (ls.map frameL).flatten
theorem framesL_nil : framesL [] = [] := rfl
theorem framesL_append (a b : List (List UInt8)) : framesL (a ++ b) = framesL a ++ framesL b := by simp [framesL]
theorem framesL_one (a : List UInt8) : framesL [a] = frameL a := by simp [framesL]
theorem framesL_cons (a : List UInt8) (b : List (List UInt8)) : framesL (a :: b) = frameL a ++ framesL b := by simp [framesL]
end Mvp
namespace Go.Proofs.YtdbgddngapminaaGreat
open Go.RowKit Go.Mv Mvp
attribute [local irreducible] permS permP toB turnsK squeeze permN permB spongeB
theorem ofNat_int (k : Nat) : ((UInt8.ofNat k).toNat : Int) = ((k % 256 : Nat) : Int) := by simp
theorem lenB_0 (n : Nat) (h : n ≤ 1000000) : Value.int .u8 ((n : Int) / 16777216) = .int .u8 ((UInt8.ofNat (n / 16777216)).toNat : Int) := by
  rw [ofNat_int]; congr 1; omega
theorem lenB_1 (n : Nat) (h : n ≤ 1000000) : Value.int .u8 ((n : Int) / 65536) = .int .u8 ((UInt8.ofNat (n / 65536)).toNat : Int) := by
  rw [ofNat_int]; congr 1; omega
theorem lenB_2 (n : Nat) : Value.int .u8 ((n : Int) / 256 % 256) = .int .u8 ((UInt8.ofNat (n / 256)).toNat : Int) := by
  rw [ofNat_int]; rfl
theorem lenB_3 (n : Nat) : Value.int .u8 ((n : Int) % 256) = .int .u8 ((UInt8.ofNat n).toNat : Int) := by
  rw [ofNat_int]; rfl
theorem lenB_len (n : Nat) : (lenB n).length = 4 := rfl

set_option maxHeartbeats 2000000 in
set_option maxRecDepth 1000000 in
theorem frame_any (g : Nat) (st : List UInt64 × Nat) (b : Option Addr) (n c : Nat) (l : List UInt8) (w : World) (hS : st.1.length = 25) (hat : st.2 < 136) (hn : n ≤ 1000000) (hnc : n ≤ c) (hg : Has w g (abs st) 164) (hb : RdB w b n l) (hbg : Off (One g) b) :
    Calls Tryz.prog 123 #[.pointer (some ⟨g, 0, none⟩), .slice b n c] w fun e w' => e = .returned (.tuple #[]) ∧ Has w' g (abs (feed st (frameL l))) 164 ∧ Fr (One g) w w' := by
  go_enter Tryz.func123, Tryz.ntmps123
  go_wp2_with (with_reducible refine wl_stop (o := ⟨some 19, _, _, _, _, _⟩) ?_)
  refine wl_four rfl rfl Tryz.underlying22 info_u8 _ _ _ _ (lenB_0 n hn) (lenB_1 n hn) (lenB_2 n) (lenB_3 n) ?_
  intro w1 hh1 hf1 hz1
  have hh1' : Has w1 w.heap.size (bs (lenB n)) 5 := hh1
  have hg1 := hg.keep hf1 id
  have hb1 := hb.still hf1
  have hgl := hg.lt
  generalize w.heap.size = g4 at *
  clear hg hb hh1
  have hrd : RdB w1 (some ⟨g4, 0, none⟩) 4 (lenB n) := by
    have := Rd.whole hh1'
    rwa [length_bs, lenB_len] at this
  go_wp2_with fail
  refine (write_any g st _ 4 4 (lenB n) w1 hS hat (by omega) (by omega) hg1 hrd (fun x hx (e : x.block = g) => by simp only [Option.some.injEq] at hx; subst hx; simp at e; omega)).mono ?_
  rintro e w2 ⟨rfl, hg2, hf2⟩
  have hb2 := hb1.keep hf2 hbg
  have hfr2 : Fr (One g) w w2 := ((Fr.refl (One g) w).same hf1).trans hf2 (fun _ _ t => t)
  clear hf1 hz1 hh1' hg1 hb1 hrd hf2
  go_wp2_with fail
  refine (write_any g (feed st (lenB n)) b n c l w2 (by rw [feed_len, hS]) (feed_lt _ _ hat) hn hnc hg2 hb2 hbg).mono ?_
  rintro e w3 ⟨rfl, hg3, hf3⟩
  go_wp2_with fail
  go_end0
  rw [← feed_append, ← hb2.len] at hg3
  exact ⟨rfl, hg3, hfr2.trans hf3 (fun _ _ t => t)⟩

set_option maxHeartbeats 2000000 in
set_option maxRecDepth 1000000 in
theorem frameR_any (s : ByteArray) (w : World) (hs : s.size ≤ 1000000) :
    Calls Tryz.prog 83 #[.string s] w fun r w' => r = .returned (.string (mkS (frameL s.data.toList))) ∧ Fr Nob w w' := by
  go_enter Tryz.func83, Tryz.ntmps83
  go_wp2_with (with_reducible refine wl_stop (o := ⟨some 17, _, _, _, _, _⟩) ?_)
  refine wl_four rfl rfl Tryz.underlying22 info_u8 _ _ _ _ (lenB_0 s.size hs) (lenB_1 s.size hs) (lenB_2 s.size) (lenB_3 s.size) ?_
  intro w1 hh1 hf1 hz1
  have hrd : RdB w1 (some ⟨w.heap.size, 0, none⟩) 4 (lenB s.size) := Rd.whole hh1
  have e1 := run_string hrd 4 Tryz.underlying22 Tryz.underlying5 Tryz.underlying9
  have hcat : ¬ 9223372036854775807 < (mkS (lenB s.size)).size + s.size := by rw [mkS_size, lenB_len]; omega
  go_wp2_with fail
  go_ret
  refine ⟨?_, hf1⟩
  have : mkS (lenB s.size) ++ s = mkS (frameL s.data.toList) := by
    rw [frameL, ← mkS_append, mkS_data]; rfl
  exact congrArg (fun q => Ending.returned (.string q)) this
end Go.Proofs.YtdbgddngapminaaGreat

/- Hash, stream and Stream of the sponge -/
namespace Go.Proofs.YtdbgddngapminaaGreat
open Go.RowKit Go.Mv Mvp
attribute [local irreducible] permS permP toB turnsK squeeze permN
theorem built_abs : Tryz.prog.built 164 [] = some (abs (zeros25, 0)).toArray := by unfold abs; kernel_rfl

end Go.Proofs.YtdbgddngapminaaGreat

/- sponge.tag and sponge.Tag -/
namespace Go.Proofs.YtdbgddngapminaaGreat
open Go.RowKit Go.Mv Mvp
attribute [local irreducible] permS permP toB turnsK squeeze permN permB spongeB
/-- the value reads as these bytes, from an old block -/
def PartIs (w : World) (v : Value) (l : List UInt8) : Prop := ∃ a n c, v = .slice a n c ∧ n ≤ c ∧ n ≤ 1000000 ∧ RdB w a n l ∧ Old w a
theorem PartIs.still {w w' : World} {v : Value} {l : List UInt8} (h : PartIs w v l) (hf : Fr Nob w w') : PartIs w' v l := by
  obtain ⟨a, n, c, h1, h2, h3, h4, h5⟩ := h
  exact ⟨a, n, c, h1, h2, h3, h4.still hf, h5.grow hf.size⟩
/-- a slice of slices of bytes -/
def PartsAt (w : World) (a : Option Addr) (ls : List (List UInt8)) : Prop := ∃ vs : List Value, Rd w a ls.length vs ∧ ∀ (i : Nat) (v : Value), vs[i]? = some v → ∃ l : List UInt8, ls[i]? = some l ∧ PartIs w v l
theorem PartsAt.get {w : World} {a : Option Addr} {ls : List (List UInt8)} (h : PartsAt w a ls) {j : Nat} (hj : j < ls.length) : ∃ b o v, a = some ⟨b, o, none⟩ ∧ w.cell? ⟨b, o + j, none⟩ = some v ∧ PartIs w v (ls.getD j []) := by
  obtain ⟨vs, hr, hv⟩ := h
  obtain ⟨b, o, rfl, hat⟩ := hr.at (by omega)
  have hl := hr.len
  obtain ⟨l, h1, h2⟩ := hv j (vs[j]'(by omega)) (List.getElem?_eq_getElem (by omega))
  refine ⟨b, o, vs[j]'(by omega), rfl, hat j _ (List.getElem?_eq_getElem (by omega)), ?_⟩
  rwa [List.getD_eq_getElem?_getD, h1]
theorem PartsAt.still {w w' : World} {a : Option Addr} {ls : List (List UInt8)} (h : PartsAt w a ls) (hf : Fr Nob w w') : PartsAt w' a ls := by
  obtain ⟨vs, hr, hv⟩ := h
  refine ⟨vs, hr.still hf, fun i v hi => ?_⟩
  obtain ⟨l, h1, h2⟩ := hv i v hi
  exact ⟨l, h1, h2.still hf⟩
/-- what a tag is made of -/
def tagText (s : List UInt8) (ls : List (List UInt8)) : List UInt8 := framesL (s :: ls)
def tagL (s : List UInt8) (ls : List (List UInt8)) : List UInt8 := spongeB (tagText s ls) 6 32

theorem z25 : ((zeros25, 0) : List UInt64 × Nat).1.length = 25 := rfl
attribute [local irreducible] feed frameL framesL abs zeros25
set_option maxHeartbeats 400000 in
set_option maxRecDepth 1000000 in
theorem tag_any (s : ByteArray) (a : Option Addr) (c : Nat) (ls : List (List UInt8)) (w : World) (hs : s.size ≤ 1000000) (hm : ls.length ≤ 1000000) (hb : PartsAt w a ls) :
    Calls Tryz.prog 117 #[.string s, .slice a ls.length c] w fun r w' => ∃ v, r = .returned v ∧ Own w' w.heap.size 5 1 v 32 (bs (tagL s.data.toList ls)) ∧ Fr Nob w w' := by
  go_enter Tryz.func117, Tryz.ntmps117
  go_wp2_with (with_reducible refine wl_stop (o := ⟨some 8, _, _, _, _, _⟩) ?_)
  refine wl_build0 rfl rfl _ built_abs ?_
  refine wl_box rfl rfl rfl (abs (zeros25, 0)) rfl ?_
  intro w1 hg1 hf1 hz1
  clear hz1
  have hst1 := z25
  have hst2 : ((zeros25, 0) : List UInt64 × Nat).2 < 136 := Nat.zero_lt_succ _
  obtain ⟨st0, hst0⟩ : ∃ st0 : List UInt64 × Nat, st0 = (zeros25, 0) := ⟨_, rfl⟩
  rw [← hst0] at hg1 hst1 hst2
  have HST0 := Lib.hid hst0; clear hst0
  generalize hgw : w.heap.size = g at *
  have HG := Lib.hid hgw; clear hgw
  go_wp2_with (with_reducible refine wl_stop (o := ⟨some 12, _, _, _, _, _⟩) ?_)
  refine wl_bytes rfl rfl Tryz.underlying9 Tryz.underlying22 Tryz.underlying5 rfl (by unfold maxLen; omega) w1.heap.size (Nat.le_refl _) ?_
  intro cap w2 hown2 hf2 hz2
  have hg2 := hg1.keep hf2 id
  have hfr2 := hf1.then hf2
  have hgl := hg1.lt
  obtain ⟨a2, c2, hv2, hc2, hrd2, -⟩ := hown2.form
  cases hv2
  rw [Nat.mul_one] at hrd2
  go_wp2_with fail
  have hoff0 : Off (One g) (some (⟨w1.heap.size, 0, none⟩ : Addr)) := fun x hx (e : x.block = g) => by
    cases hx
    exact absurd e (by show ¬ (w1.heap.size = g); omega)
  have hcall := frame_any g st0 (some ⟨w1.heap.size, 0, none⟩) s.size cap s.data.toList w2 hst1 hst2 hs hc2 hg2 hrd2 hoff0
  refine hcall.mono ?_
  rintro e w3 ⟨rfl, hg3, hf3⟩
  have hfr3 : Fr Nob w w3 := hfr2.new hf3 (by rw [HG.out]; exact Nat.le_refl _)
  clear hg1 hf1 hown2 hf2 hz2 hg2 hfr2 hrd2 hf3 hgl
  go_wp2_with fail
  go_loopw [16] (fun i wr => ∃ j : Nat, j ≤ ls.length ∧ i = .int .i64 (j : Int) ∧ Has wr g (abs (feed st0 (framesL (s.data.toList :: ls.take j)))) 164 ∧ Fr Nob w wr) (fun i _ => (ls.length - intOf i).toNat)
  case atStart => exact ⟨0, by omega, rfl, by rw [List.take_zero, framesL_one]; exact hg3, hfr3⟩
  case round =>
    obtain ⟨j, hj, rfl, hgj, hfj⟩ := hrel
    clear hg3 hfr3
    by_cases hlt : j < ls.length
    · have hltI : (j : Int) < (ls.length : Int) := by omega
      obtain ⟨b, o, v, rfl, hc, hp⟩ := (hb.still hfj).get hlt
      obtain ⟨b', o', v', hv', hc', hp'⟩ := hb.get hlt
      simp only [Option.some.injEq, Addr.mk.injEq] at hv'
      obtain ⟨rfl, rfl, -⟩ := hv'
      have hvv : v = v' := by
        have := hfj.cell id hc'
        rw [hc] at this; simpa using this
      subst hvv
      obtain ⟨ap, np, cp, rfl, hp1, hp2, hp3, hp4⟩ := hp'
      have hr3 := hp3.still hfj
      clear hp
      have hoff : Off (One g) ap := hp4.off (by rw [HG.out]; exact Nat.le_refl _)
      go_wp2_with fail
      have hSj : (feed st0 (framesL (s.data.toList :: ls.take j))).1.length = 25 := by rw [feed_len, hst1]
      have hkj := feed_lt (framesL (s.data.toList :: ls.take j)) st0 hst2
      refine (frame_any g (feed st0 (framesL (s.data.toList :: ls.take j))) ap np cp (ls.getD j []) wr hSj hkj hp2 hp1 hgj hr3 hoff).mono ?_
      rintro e w4 ⟨rfl, hg4, hf4⟩
      have hfr4 : Fr Nob w w4 := hfj.new hf4 (by rw [HG.out]; exact Nat.le_refl _)
      rw [← feed_append] at hg4
      have hfl : framesL (s.data.toList :: ls.take j) ++ frameL (ls.getD j []) = framesL (s.data.toList :: ls.take (j + 1)) := by
        rw [List.take_succ_eq_append_getElem hlt, ← List.cons_append, framesL_append, framesL_one, List.getD_eq_getElem?_getD, List.getElem?_eq_getElem hlt]; rfl
      rw [hfl] at hg4
      clear hSj hkj hr3 hgj hfj hf4 hfl
      go_wp2_with fail
      go_roundw
      case rel => exact ⟨j + 1, by omega, by go_num, hg4, hfr4⟩
      case measure => simp [intOf]; omega
    · have hge : ¬ ((j : Int) < (ls.length : Int)) := by omega
      have hjn : j = ls.length := by omega
      have hSj : (feed st0 (framesL (s.data.toList :: ls.take j))).1.length = 25 := by rw [feed_len, hst1]
      have hkj := feed_lt (framesL (s.data.toList :: ls.take j)) st0 hst2
      have hft : framesL (s.data.toList :: ls.take j) = tagText s.data.toList ls := by rw [hjn, List.take_length]; rfl
      rw [hft] at hgj hSj hkj
      generalize hst : feed st0 (tagText s.data.toList ls) = st at *
      have HST := Lib.hid hst; clear hst
      have HJN := Lib.hid hjn; clear hjn
      clear hft
      go_wp2_with fail
      refine (out_any g st.1 st.2 6 32 wr hSj hkj (by omega) hgj).mono ?_
      rintro e w4 ⟨v, rfl, hown, hf4⟩
      go_wp2_with fail
      go_ret
      refine ⟨v, rfl, ?_, hfj.new hf4 (by rw [HG.out]; exact Nat.le_refl _)⟩
      have := hown.mono (base' := g) (by have := hgj.lt; omega)
      rw [HG.out]
      unfold tagL spongeB
      rw [← HST0.out, HST.out]
      exact this

set_option maxHeartbeats 1000000 in
theorem Tag_any (s : ByteArray) (a : Option Addr) (c : Nat) (ls : List (List UInt8)) (w : World) (hs : s.size ≤ 1000000) (hm : ls.length ≤ 1000000) (hb : PartsAt w a ls) :
    Calls Tryz.prog 105 #[.string s, .slice a ls.length c] w fun r w' => ∃ v, r = .returned v ∧ Own w' w.heap.size 5 1 v 32 (bs (tagL s.data.toList ls)) ∧ Fr Nob w w' := by
  go_enter Tryz.func105, Tryz.ntmps105
  go_wp2_with fail
  refine (tag_any s a c ls w hs hm hb).mono ?_
  rintro e w4 ⟨v, rfl, hown, hf4⟩
  go_wp2_with fail
  go_ret
  exact ⟨v, rfl, hown, hf4⟩
end Go.Proofs.YtdbgddngapminaaGreat

/- mintvaultlaw1.SpongeTurns: the walk of the law -/
namespace Go.Proofs.YtdbgddngapminaaGreat
open Go.RowKit Go.Mv Mvp

end Go.Proofs.YtdbgddngapminaaGreat

/- The reference's Hash and Stream; the law SpongeHashes -/
namespace Go.Proofs.YtdbgddngapminaaGreat
open Go.RowKit Go.Mv Mvp
attribute [local irreducible] permS permP toB turnsK squeeze permN permB spongeB
set_option maxHeartbeats 1000000 in
theorem hashR_any (s : ByteArray) (w : World) (hs : s.size ≤ 1000000) :
    Calls Tryz.prog 84 #[.string s] w fun r w' => r = .returned (.string (mkS (spongeB s.data.toList 6 32))) ∧ Fr Nob w w' := by
  go_enter Tryz.func84, Tryz.ntmps84
  go_wp2_with fail
  refine (spongeR_any s 6 32 w hs (by omega)).mono ?_
  rintro e w3 ⟨rfl, hf3⟩
  go_wp2_with fail
  go_ret
  exact ⟨rfl, hf3⟩
end Go.Proofs.YtdbgddngapminaaGreat

/- Arguments that were handed in, opened into the words of Mem. -/
namespace Go.Mv
open Go.RowKit Go.ChangeShapes Go.WideShapes

/-- strings as values -/
def ss (l : List (List UInt8)) : List Value := l.map fun x => .string (mkS x)
theorem ss_get (l : List (List UInt8)) (i : Nat) (hi : i < l.length) : (ss l)[i]? = some (.string (mkS (l.getD i []))) := by
  simp [ss, List.getD_eq_getElem?_getD, hi]

section
variable {H : Type} {enc : TypeId × Value → H} {P : Program} {w : World} {base : Nat} {held : Bool} {spare : Nat → Bool}
end
end Go.Mv

/- The reference's Tag -/
namespace Go.Proofs.YtdbgddngapminaaGreat
open Go.RowKit Go.Mv Mvp
attribute [local irreducible] permS permP toB turnsK squeeze permN permB spongeB feed frameL framesL
theorem frameL_len (l : List UInt8) : (frameL l).length = 4 + l.length := by unfold frameL; simp [lenB_len]
def sumL (ls : List (List UInt8)) : Nat := (ls.map List.length).foldr (· + ·) 0
theorem sumL_append (a b : List (List UInt8)) : sumL (a ++ b) = sumL a + sumL b := by
  induction a with
  | nil => simp [sumL]
  | cons x a ih => simp only [sumL, List.cons_append, List.map_cons, List.foldr_cons] at *; omega
theorem framesL_len (ls : List (List UInt8)) : (framesL ls).length = 4 * ls.length + sumL ls := by
  induction ls with
  | nil => rw [framesL_nil]; rfl
  | cons a b ih => rw [framesL_cons, List.length_append, frameL_len, ih, List.length_cons]; simp only [sumL, List.map_cons, List.foldr_cons]; omega
theorem sumL_take (ls : List (List UInt8)) (j : Nat) : sumL (ls.take j) ≤ sumL ls := by
  have := sumL_append (ls.take j) (ls.drop j)
  rw [List.take_append_drop] at this; omega
theorem sumL_get (ls : List (List UInt8)) (j : Nat) (hj : j < ls.length) : (ls.getD j []).length ≤ sumL ls := by
  have h1 := sumL_append (ls.take j) (ls.drop j)
  rw [List.take_append_drop, List.drop_eq_getElem_cons hj] at h1
  have h2 : sumL (ls[j] :: ls.drop (j + 1)) = ls[j].length + sumL (ls.drop (j + 1)) := by simp only [sumL, List.map_cons, List.foldr_cons]
  have h3 : ls.getD j [] = ls[j] := by simp [List.getD_eq_getElem?_getD, hj]
  rw [h3]; omega

set_option maxHeartbeats 400000 in
set_option maxRecDepth 1000000 in
theorem tagR_any (s : ByteArray) (a : Option Addr) (c : Nat) (ls : List (List UInt8)) (w : World) (hs : s.size + sumL ls ≤ 100000) (hm : ls.length ≤ 1000) (hb : Rd w a ls.length (ss ls)) :
    Calls Tryz.prog 37 #[.string s, .slice a ls.length c] w fun r w' => r = .returned (.string (mkS (tagL s.data.toList ls))) ∧ Fr Nob w w' := by
  go_enter Tryz.func37, Tryz.ntmps37
  go_wp2_with fail
  refine (frameR_any s w (by omega)).mono ?_
  rintro e w1 ⟨rfl, hf1⟩
  have hsl : s.data.toList.length = s.size := size_list s
  go_wp2_with fail
  go_loopw [6, 5] (fun i q wr => ∃ j : Nat, j ≤ ls.length ∧ i = .int .i64 (j : Int) ∧ q = .string (mkS (framesL (s.data.toList :: ls.take j))) ∧ Fr Nob w wr) (fun i _ _ => (ls.length - intOf i).toNat)
  case atStart => exact ⟨0, by omega, rfl, by rw [List.take_zero, framesL_one], hf1⟩
  case round =>
    obtain ⟨j, hj, rfl, rfl, hfj⟩ := hrel
    clear hf1
    have hql : (mkS (framesL (s.data.toList :: ls.take j))).size ≤ 200000 := by
      rw [mkS_size, framesL_len]
      have h1 := sumL_take ls j
      have h2 : sumL (s.data.toList :: ls.take j) = s.data.toList.length + sumL (ls.take j) := by simp [sumL]
      rw [h2, List.length_cons, List.length_take]; omega
    by_cases hlt : j < ls.length
    · have hltI : (j : Int) < (ls.length : Int) := by omega
      obtain ⟨b, o, rfl, hat⟩ := (hb.still hfj).at (by omega)
      have hc : wr.cell? ⟨b, o + j, none⟩ = some (.string (mkS (ls.getD j []))) := hat j _ (ss_get ls j hlt)
      have hxl := sumL_get ls j hlt
      have hfl : framesL (s.data.toList :: ls.take j) ++ frameL (ls.getD j []) = framesL (s.data.toList :: ls.take (j + 1)) := by
        rw [List.take_succ_eq_append_getElem hlt, ← List.cons_append, framesL_append, framesL_one, List.getD_eq_getElem?_getD, List.getElem?_eq_getElem hlt]; rfl
      have hcat : ¬ 9223372036854775807 < (mkS (framesL (s.data.toList :: ls.take j))).size + (mkS (frameL (ls.getD j []))).size := by
        rw [mkS_size (frameL _), frameL_len]; omega
      generalize hx : ls.getD j [] = x at *
      have HX := Lib.hid hx; clear hx
      have hfl2 := hfl
      have HFL := Lib.hid hfl2; clear hfl hfl2
      generalize hq : mkS (framesL (s.data.toList :: ls.take j)) = q at *
      have HQ := Lib.hid hq; clear hq
      have HQL := Lib.hid hql; clear hql
      have HSL := Lib.hid hsl; clear hsl
      clear hat
      go_wp2_with fail
      refine (frameR_any (mkS x) wr (by rw [mkS_size]; omega)).mono ?_
      rintro e w4 ⟨rfl, hf4⟩
      rw [mkS_toList]
      have hfr4 := hfj.then hf4
      clear hfj hf4
      go_wp2_with fail
      go_roundw
      case rel => exact ⟨j + 1, by omega, by go_num, by rw [← HQ.out, mkS_append, HFL.out], hfr4⟩
      case measure => simp [intOf]; omega
    · have hge : ¬ ((j : Int) < (ls.length : Int)) := by omega
      have hjn : j = ls.length := by omega
      have hft : framesL (s.data.toList :: ls.take j) = tagText s.data.toList ls := by rw [hjn, List.take_length]; rfl
      rw [hft] at hql ⊢
      have HJN := Lib.hid hjn; clear hjn
      clear hft
      go_wp2_with fail
      refine (hashR_any (mkS (tagText s.data.toList ls)) wr (by omega)).mono ?_
      rintro e w4 ⟨rfl, hf4⟩
      rw [mkS_toList]
      go_wp2_with fail
      go_ret
      exact ⟨rfl, hfj.then hf4⟩
end Go.Proofs.YtdbgddngapminaaGreat

/- A log of the sponge, the reference's: NewLog, Say, Ask, Clone. -/
namespace Go.Proofs.YtdbgddngapminaaGreat
open Go.RowKit Go.Mv Mvp
attribute [local irreducible] permS permP toB turnsK squeeze permN permB spongeB feed frameL framesL tagL
/-- parts by their values -/
def Parts (w : World) : List Value → List (List UInt8) → Prop
  | [], [] => True
  | v :: vs, l :: ls => PartIs w v l ∧ Parts w vs ls
  | _, _ => False
theorem Parts.len {w : World} : ∀ {vs : List Value} {ls : List (List UInt8)}, Parts w vs ls → vs.length = ls.length
  | [], [], _ => rfl
  | _ :: _, _ :: _, h => by simp only [List.length_cons]; rw [Parts.len h.2]
  | [], _ :: _, h => h.elim
  | _ :: _, [], h => h.elim
theorem Parts.get {w : World} : ∀ {vs : List Value} {ls : List (List UInt8)}, Parts w vs ls → ∀ (i : Nat) (v : Value), vs[i]? = some v → ∃ l : List UInt8, ls[i]? = some l ∧ PartIs w v l
  | [], [], _, i, v, h => by simp at h
  | x :: vs, l :: ls, h, 0, v, hv => by simp only [List.getElem?_cons_zero, Option.some.injEq] at hv; subst hv; exact ⟨l, rfl, h.1⟩
  | x :: vs, l :: ls, h, i + 1, v, hv => by simp only [List.getElem?_cons_succ] at hv ⊢; exact Parts.get h.2 i v hv
  | [], _ :: _, h, _, _, _ => h.elim
  | _ :: _, [], h, _, _, _ => h.elim
theorem Parts.at {w : World} {g : Nat} {T : TypeId} {vs : List Value} {ls : List (List UInt8)} (h : Parts w vs ls) (hg : Has w g vs T) : PartsAt w (some ⟨g, 0, none⟩) ls :=
  ⟨vs, by have := Rd.whole hg; rwa [h.len] at this, h.get⟩
theorem Parts.cells {w : World} : ∀ {vs : List Value} {ls : List (List UInt8)}, Parts w vs ls → ∀ v ∈ vs, v.cells = #[v]
  | [], _, _, v, h => by simp at h
  | x :: vs, l :: ls, h, v, hv => by
    rcases List.mem_cons.1 hv with rfl | hv
    · obtain ⟨a, n, c, rfl, _⟩ := h.1; rfl
    · exact Parts.cells h.2 v hv
  | _ :: _, [], h, _, _ => h.elim
theorem tagL_len (k : List UInt8) (ls : List (List UInt8)) : (tagL k ls).length = 32 := by unfold tagL; exact spongeB_len _ _ _
/-! The reference's -/
end Go.Proofs.YtdbgddngapminaaGreat

/- The tree, plain: what a path leads to, from its end (the document) and from its beginning (the program). -/
namespace Mvt
variable {α : Type} (nd : α → α → α)
/-- the greatest power of two below n -/
def half (n : Nat) : Nat := 2 ^ Nat.log2 (n - 1)
/-- up, as far as nothing stands beside -/
def skip (a e : Nat) : Nat × Nat := if a % 2 = 0 ∧ 0 < a then skip (a / 2) (e / 2) else (a, e)
termination_by a
decreasing_by omega
end Mvt

/- The tree: node, leafHash, bytes.Equal, sized, lists, small; the reference's leaf, node, half, sized. -/
namespace Go.Proofs.YtdbgddngapminaaGreat
open Go.RowKit Go.Mv Mvp Mvt
attribute [local irreducible] permS permP toB turnsK squeeze permN permB spongeB feed frameL framesL tagL
end Go.Proofs.YtdbgddngapminaaGreat

/- The points that a label and bytes may give, plain; what a k256 holds. -/
namespace Go.Proofs.YtdbgddngapminaaGreat
open Go.RowKit Go.Mv Mvp Mvq
def kPoint : List UInt8 := [112, 111, 105, 110, 116, 32]
/-- the bytes of one try -/
def hB (label b : List UInt8) (i : Nat) : List UInt8 := tagL (kPoint ++ label) [b, [UInt8.ofNat i]]
def hN (label b : List UInt8) (i : Nat) : Nat := beN (hB label b i)
theorem h_on {n : Nat} (h : rtOk mP.M (crvN n) = true) : onC (.A (kc n) (kc (atY mP.M n))) := by
  rw [hatY n h]
  rw [mP_fP] at h
  exact at_on h
open Classical in
/-- the point of one try -/
noncomputable def candT (label b : List UInt8) (i : Nat) : Option PT := if h : hN label b i < mP.M ∧ rtOk mP.M (crvN (hN label b i)) = true then some (affT (hN label b i) (atY mP.M (hN label b i)) (h_on h.2)) else none
theorem candT_no {label b : List UInt8} {i n : Nat} (hn : hN label b i = n) (h : ¬ (n < mP.M ∧ rtOk mP.M (crvN n) = true)) : candT label b i = none := by
  subst hn; unfold candT; rw [dif_neg h]
theorem candT_yes {label b : List UInt8} {i n : Nat} (hn : hN label b i = n) (h1 : n < mP.M) (h2 : rtOk mP.M (crvN n) = true) : candT label b i = some (affT n (atY mP.M n) (h_on h2)) := by
  subst hn; unfold candT; rw [dif_pos ⟨h1, h2⟩]
noncomputable def candL (label b : List UInt8) (k : Nat) : List PT := (List.range k).filterMap (candT label b)
theorem candL_zero (label b : List UInt8) : candL label b 0 = [] := rfl
theorem candL_no {label b : List UInt8} {k : Nat} (h : candT label b k = none) : candL label b (k + 1) = candL label b k := by
  unfold candL; rw [List.range_succ, List.filterMap_append]; simp [h]
theorem candL_yes {label b : List UInt8} {k : Nat} {x : PT} (h : candT label b k = some x) : candL label b (k + 1) = candL label b k ++ [x] := by
  unfold candL; rw [List.range_succ, List.filterMap_append]; simp [h]
theorem candL_len (label b : List UInt8) (k : Nat) : (candL label b k).length ≤ k := by
  unfold candL
  exact Nat.le_trans (List.length_filterMap_le _ _) (by simp)
theorem candL_more (label b : List UInt8) (k j : Nat) : ∃ l, candL label b (k + j) = candL label b k ++ l := by
  induction j with
  | zero => exact ⟨[], by simp⟩
  | succ j ih =>
    obtain ⟨l, hl⟩ := ih
    cases h : candT label b (k + j) with
    | none => exact ⟨l, by rw [← Nat.add_assoc, candL_no h, hl]⟩
    | some x => exact ⟨l ++ [x], by rw [← Nat.add_assoc, candL_yes h, hl, List.append_assoc]⟩
/-- the point that a label and bytes give -/
noncomputable def hashT (label b : List UInt8) : PT := ((candL label b 256).head?).getD baseT
theorem hashT_none {label b : List UInt8} (h : candL label b 256 = []) : hashT label b = baseT := by unfold hashT; rw [h]; rfl
theorem hashT_some {label b : List UInt8} {k : Nat} {x : PT} (hk : k < 256) (h : candT label b k = some x) (h0 : candL label b k = []) : hashT label b = x := by
  obtain ⟨l, hl⟩ := candL_more label b (k + 1) (256 - (k + 1))
  rw [show k + 1 + (256 - (k + 1)) = 256 by omega, candL_yes h, h0] at hl
  unfold hashT
  rw [hl]
  rfl
/-- a curve of the call's own, with its modulus -/
theorem k256_y (w : World) : Calls Tryz.prog 24 #[] w fun e w' => ∃ y : Nat × Nat, e = .returned (.pointer (some ⟨y.1, 0, none⟩)) ∧ (Has w' y.1 (crvL mP y.2 gXn gYn) 62 ∧ Has w' y.2 (mdL mP) 112) ∧ Fr Nob w w' := by
  refine (k256_c w).mono ?_
  rintro e w' ⟨gc, k1, _, ⟨gp, h1, h2⟩, k3⟩
  exact ⟨(gc, gp), k1, ⟨h1, h2⟩, k3⟩
theorem exec_loadH {w : World} {g : Nat} {L : List Value} {T : TypeId} (hg : Has w g L T) {o : Oper} {a : Act} {ty : TypeId} {x : Operand} (ho : o.op = .load ty x) {p : Nat} (hx : a.eval x = .pointer (some ⟨g, p, none⟩)) (cs : List Value) (hc : (L.drop p).take cs.length = cs)
    {d : TypeDesc} (hu : Tryz.prog.underlying ty = some d) (hd : d.isRow = true) (hi : (Tryz.prog.info? ty).map (·.size) = some cs.length) : (execOp a.eval o).run Tryz.prog w = .ok (.value (.agg cs.toArray)) w := by
  unfold execOp
  simp only [ho, hx, Instr.loadAt, Instr.sureAddr, Sem.run_bind, Sem.run_pure, Result.andThen_ok, run_loadVar_mid w g p ty cs d (hg.range p cs hc) hu hd hi]
theorem str_app (label : ByteArray) : (⟨#[112, 111, 105, 110, 116, 32]⟩ : ByteArray) ++ label = mkS (kPoint ++ label.data.toList) := by
  have : (⟨#[112, 111, 105, 110, 116, 32]⟩ : ByteArray) = mkS kPoint := rfl
  rw [this]
  conv => lhs; rw [← mkS_data label]
  exact mkS_append _ _
end Go.Proofs.YtdbgddngapminaaGreat

/- The law NumReduces. -/
namespace Go.Proofs.YtdbgddngapminaaGreat
open Go.RowKit Go.Mv Mvp
theorem lentL_take (s : ByteArray) : (lentL s.data.toList).take s.size = s.data.toList := by
  unfold lentL
  rw [List.take_append_of_le_length (by simp), List.take_of_length_le (by simp)]
attribute [local irreducible] limbs lw mix cw cSub cAdd cMul foldC valFrom beN laid be32 powm montT mstep elN mdL lentL
end Go.Proofs.YtdbgddngapminaaGreat

/- The law NumReckons. -/
namespace Go.Proofs.YtdbgddngapminaaGreat
open Go.RowKit Go.Mv Mvp
theorem Number_t (m : Md) (hM : m.M < B64 ^ 4) (s : ByteArray) (w : World) (h : numB m s.data.toList = true) :
    Calls Tryz.prog 15 #[fv m.M, .string s] w fun e w' => e = .returned (.tuple #[i4 (beN s.data.toList), .bool true]) ∧ Fr Nob w w' := by
  unfold numB at h
  simp only [Bool.and_eq_true, decide_eq_true_eq] at h
  refine (Number_ok m.M s w (by have := h.1; simpa using this) hM).mono fun e w' he => ?_
  rw [decide_eq_true h.2] at he
  exact he
theorem Number_f (m : Md) (hM : m.M < B64 ^ 4) (s : ByteArray) (w : World) (h : numB m s.data.toList = false) :
    Calls Tryz.prog 15 #[fv m.M, .string s] w fun e w' => ∃ N, e = .returned (.tuple #[i4 N, .bool false]) ∧ Fr Nob w w' := by
  by_cases hs : s.size = 32
  · refine (Number_ok m.M s w hs hM).mono fun e w' he => ?_
    have h2 : ¬ beN s.data.toList < m.M := by
      intro hb
      unfold numB at h
      rw [decide_eq_true hb, decide_eq_true (by simpa using hs)] at h
      cases h
    rw [decide_eq_false h2] at he
    exact ⟨_, he⟩
  · exact (Number_bad m.M s w hs).mono fun e w' he => ⟨_, he⟩
theorem numB_lt (m : Md) (l : List UInt8) (h : numB m l = true) : beN l < m.M := by
  unfold numB at h
  simp only [Bool.and_eq_true, decide_eq_true_eq] at h
  exact h.2
attribute [local irreducible] limbs lw mix cw cSub cAdd cMul foldC valFrom beN laid be32 powm montT mstep elN mdL lentL numB
end Go.Proofs.YtdbgddngapminaaGreat

/- The reference's Sqrt. -/
namespace Mvp
theorem low_one (Q : Nat) (h : lw Q 0 + 1 < 18446744073709551616) : (limbs 4 Q).set 0 (lw Q 0 + 1) = limbs 4 (Q + 1) := by
  rw [limbs4, limbs4]
  have e0 : lw (Q + 1) 0 = lw Q 0 + 1 := by rw [word0] at h ⊢; rw [word0]; omega
  have e : (Q + 1) / 18446744073709551616 = Q / 18446744073709551616 := by rw [word0] at h; omega
  have ed : ∀ i, lw (Q + 1) (1 + i) = lw Q (1 + i) := by
    intro i
    rw [← lw_div, ← lw_div, Nat.pow_one, show B64 = 18446744073709551616 from rfl, e]
  have e1 := ed 0
  have e2 := ed 1
  have e3 := ed 2
  simp only [Nat.add_zero] at e1
  rw [e0, e1, show (2 : Nat) = 1 + 1 from rfl, show (3 : Nat) = 1 + 2 from rfl, e2, e3]
  rfl
theorem quarter_all (p : Nat) (h : p < B64 ^ 4) : p / 4 % 2 ^ 254 = p / 4 := Nat.mod_eq_of_lt (by
  rw [show B64 ^ 4 = 2 ^ 254 * 4 from rfl] at h
  generalize 2 ^ 254 = z at *
  omega)
end Mvp
namespace Go.Proofs.YtdbgddngapminaaGreat
open Go.RowKit Go.Mv Mvp
theorem bit_cell (q b k q' : Nat) (hb : b < 2) (hs : (limbs 4 q).set (k / 64) (lw q (k / 64) ||| b * 2 ^ (k % 64)) = limbs 4 q') :
    (cw 4 q).set (k / 64) (.int .u64 (bits .or .u64 (lw q (k / 64) : Nat) (IntKind.u64.wrap ((b : Int) * 2 ^ (k % 64))))) = cw 4 q' := by
  have h1 : b * 2 ^ (k % 64) < 18446744073709551616 := by
    have h2 : 2 ^ (k % 64) ≤ 2 ^ 63 := Nat.pow_le_pow_right (by decide) (by omega)
    have h3 := Nat.mul_le_mul_right (2 ^ (k % 64)) (show b ≤ 1 by omega)
    rw [Nat.one_mul] at h3
    have h4 : (2 : Nat) ^ 63 = 9223372036854775808 := by decide
    rw [h4] at h2
    generalize 2 ^ (k % 64) = z at *
    generalize b * z = y at *
    omega
  have h := bits_or_u64_nat (lw q (k / 64)) (b * 2 ^ (k % 64)) (lw_lt _ _) h1
  have hw : IntKind.u64.wrap ((b : Int) * 2 ^ (k % 64)) = ((b * 2 ^ (k % 64) : Nat) : Int) := by
    rw [show ((b : Int) * 2 ^ (k % 64)) = ((b * 2 ^ (k % 64) : Nat) : Int) by rw [Int.natCast_mul, Int.natCast_pow]; rfl, IntKind.wrap_u64]
    exact congrArg Int.ofNat (Nat.mod_eq_of_lt h1)
  rw [hw, h, cw, us_set, hs, cw]
theorem low_cells (Q : Nat) (h : lw Q 0 + 1 < 18446744073709551616) : (cw 4 Q).set 0 (.int .u64 ((lw Q 0 : Int) + 1)) = cw 4 (Q + 1) := by
  show (us (limbs 4 Q)).set 0 (.int .u64 ((lw Q 0 + 1 : Nat) : Int)) = us (limbs 4 (Q + 1))
  rw [us_set, low_one Q h]
theorem wp_neq4 (x y : Nat) (hx : x < B64 ^ 4) (hy : y < B64 ^ 4) (ty : TypeId) (hu : Tryz.prog.underlying ty = some (.array 4 30)) (hg : Tryz.prog.eqGuardType Tryz.prog.depth ty = false) {o : Oper} {a : Act} {w : World} {K : Act → World → Prop} {Q : Exit → Act → World → Prop} {p q : Operand} {T : TypeId}
    (ho : o.op = .binOp .neq ty p q T) (hp : a.eval p = i4 x) (hq : a.eval q = .agg (cw 4 y).toArray) {b : Bool} (hb : decide (x = y) = b) (hk : K (a.put o.dst (.bool !b)) w) : o.wp Tryz.prog a w K Q := by
  have h1 := eq_guard x y ty hg p q w
  have h2 : (binOp .neq ty (i4 x) (.agg (cw 4 y).toArray)).run Tryz.prog w = .ok (.bool !b) w := by
    show (do pure (Value.bool (!(← Op.equal ty (.agg (cw 4 x).toArray) (.agg (cw 4 y).toArray))))).run Tryz.prog w = _
    simp only [Sem.run_bind, run_eq4 hu Tryz.underlying30 size_u64 x y w, Result.andThen_ok]
    rw [Nat.mod_eq_of_lt hx, Nat.mod_eq_of_lt hy, hb]
    rfl
  unfold Oper.wp execOp
  simp only [ho, hp, hq, Sem.run_bind, h1, h2, Result.andThen_ok, Sem.run_pure]
  exact hk
attribute [local irreducible] limbs lw mix cw cSub cAdd cMul foldC valFrom beN laid be32 powm
set_option maxHeartbeats 4000000 in
set_option maxRecDepth 100000 in
theorem FSqrt_no (p a n R : Nat) (w : World) (hp0 : 0 < p) (hp : p < B64 ^ 4) (hn : p / 4 + 1 = n) (hn4 : n < B64 ^ 4) (ha : a < B64 ^ 4) (hlow : lw (p / 4) 0 + 1 < 18446744073709551616) (hR : R < p) (hpow : ∀ wx, Calls Tryz.prog 80 #[fv p, i4 a, i4 n] wx fun e w' => e = .returned (i4 R) ∧ Fr Nob wx w') (hb : decide (R * R % p = a) = false) :
    Calls Tryz.prog 75 #[fv p, i4 a] w fun e w' => e = .returned (.tuple #[i4 0, .bool false]) ∧ Fr Nob w w' := by
  have HP0 := Lib.hid hp0
  have HP := Lib.hid hp
  have HN4 := Lib.hid hn4
  have HA := Lib.hid ha
  have HLOW := Lib.hid hlow
  have HPOW := Lib.hid hpow
  have HB := Lib.hid hb
  have HR4 := Lib.hid (Nat.lt_trans hR hp)
  have HRP := Lib.hid (Nat.le_of_lt hR)
  have HRR := Lib.hid (show R * R % p < B64 ^ 4 from Nat.lt_trans (Nat.mod_lt _ hp0) hp)
  have hlc := low_cells (p / 4) hlow
  rw [hn] at hlc
  have HLC := Lib.hid hlc
  have HNE := Lib.hid hn
  
  clear hp0 hp hn4 ha hlow hpow hb hR hlc hn 
  have st0 := St.start Nob w
  go_enter Tryz.func75, Tryz.ntmps75
  go_wp2_with (with_reducible refine wl_stop (o := ⟨some 2, _, _, _, _, _⟩) ?_)
  refine wl_boxS st0 rfl rfl rfl (cw 4 p ++ cw 4 (B64 ^ 4 - p)) rfl ?_
  intro g2 w1 st1
  clear st0
  go_wp2_with (with_reducible refine wl_stop (o := ⟨some 3, _, _, _, _, _⟩) ?_)
  refine wl_boxS st1 rfl rfl rfl (cw 4 a) rfl ?_
  intro g3 w2 st2
  clear st1
  go_wp2_with (with_reducible refine wl_stop (o := ⟨some 4, _, _, _, _, _⟩) ?_)
  refine wl_allocS st2 rfl rfl (z := .agg #[.int .u64 0, .int .u64 0, .int .u64 0, .int .u64 0]) (by kernel_rfl) (cw 4 0) (by rw [cw_zero]; rfl) ?_
  intro g4 w3 st3
  clear st2
  go_wp2_with (with_reducible refine wl_stop (o := ⟨some 6, _, _, _, _, _⟩) ?_)
  refine wl_allocS st3 rfl rfl (z := .agg #[.int .u64 0, .int .u64 0, .int .u64 0, .int .u64 0]) (by kernel_rfl) (cw 4 0) (by rw [cw_zero]; rfl) ?_
  intro g6 w4 st4
  clear st3
  go_wp2
  go_loopw [7] (fun i wr => ∃ k : Nat, k ≤ 254 ∧ i = .int .i64 (k : Int) ∧ St Nob w wr [(g2, cw 4 p ++ cw 4 (B64 ^ 4 - p), 40), (g3, cw 4 a, 32), (g4, cw 4 0, 32), (g6, cw 4 (p / 4 % 2 ^ k), 32)]) (fun i _ => 254 - (intOf i).toNat)
  case atStart => exact ⟨0, by omega, rfl, by rw [Nat.pow_zero, Nat.mod_one]; exact st4⟩
  case round =>
    obtain ⟨k, hk, rfl, st⟩ := hrel
    clear st4
    by_cases hlt : k < 254
    · have hltI : (k : Int) < 254 := by omega
      have hstep := bit_step 4 (p / 4 % 2 ^ k) k (p / 2 ^ (k + 2) % 2) (Nat.mod_lt _ (Nat.pow_pos (by decide))) (Nat.mod_lt _ (by decide)) (by omega)
      rw [← quarter_step] at hstep
      have hbit := fun wx => RBit_any p (k + 2) wx (by omega)
      have hb2 : p / 2 ^ (k + 2) % 2 < 2 := Nat.mod_lt _ (by decide)
      generalize p / 2 ^ (k + 2) % 2 = b at *
      generalize hq' : p / 4 % 2 ^ (k + 1) = q' at *
      have HQ := Lib.hid hq'
      clear hq'
      generalize p / 4 % 2 ^ k = q at *
      have HCELL := Lib.hid (bit_cell q b k q' hb2 hstep)
      have HBIT := Lib.hid hbit
      clear hstep hbit hb2
      have hlo : (0 : Int) ≤ (k : Int) / 64 ∧ (k : Int) / 64 < 4 := by omega
      have hlo2 : (0 : Int) ≤ (k : Int) % 64 ∧ (k : Int) % 64 < 64 := by omega
      have e1 : IntKind.i64.wrap ((k : Int) / 64) = (k : Int) / 64 := IntWalk.i64_in _ (by omega)
      have e2 : (k : Int).tmod 64 = (k : Int) % 64 := Int.tmod_eq_emod_of_nonneg (by omega)
      have e3 : IntKind.i64.wrap ((k : Int) + 2) = (k : Int) + 2 := IntWalk.i64_in _ (by omega)
      have e4 : ((k : Int) / 64).toNat = k / 64 := by omega
      have e5 : ((k : Int) % 64).toNat = k % 64 := by omega
      go_wp2_with fail
      refine wp_region_noPanic ?_
      refine wp_region_plan (fun wx => St Nob w wx [(g2, cw 4 p ++ cw 4 (B64 ^ 4 - p), 40), (g3, cw 4 a, 32), (g4, cw 4 0, 32), (g6, cw 4 q, 32)]) 16 (.w 0 (.w 1 (.w 2 (.w 3 (.w 4 (.t 5 (.w 6 (.t 7 (.w 8 (.w 9 (.w 11 (.w 12 (.r 10 (.w 13 (.w 14 (.w 15 (.m 16 .nil))))))))))))))))) (by kernel_rfl) (by kernel_rfl) st.drew (fun _ _ _ _ _ h => h) ?_
      have hd4 := st.drew
      clear st
      refine plan_w (v := ?_) rfl rfl (fun wx => ?_) ?_
      rotate_left 1
      · (go_simp; with_reducible rfl)
      try simp only [Act.put, List.setIfInBounds_toArray, List.set_cons_zero, List.set_cons_succ]
      refine plan_w (v := ?_) rfl rfl (fun wx => ?_) ?_
      rotate_left 1
      · (go_simp; with_reducible rfl)
      try simp only [Act.put, List.setIfInBounds_toArray, List.set_cons_zero, List.set_cons_succ]
      refine plan_w (v := ?_) rfl rfl (fun wx => ?_) ?_
      rotate_left 1
      · (go_simp; with_reducible rfl)
      try simp only [Act.put, List.setIfInBounds_toArray, List.set_cons_zero, List.set_cons_succ]
      refine plan_w (v := ?_) rfl rfl (fun wx => ?_) ?_
      rotate_left 1
      · (go_simp; with_reducible rfl)
      try simp only [Act.put, List.setIfInBounds_toArray, List.set_cons_zero, List.set_cons_succ]
      refine plan_w (v := ?_) rfl rfl (fun wx => ?_) ?_
      rotate_left 1
      · (go_simp; with_reducible rfl)
      try simp only [Act.put, List.setIfInBounds_toArray, List.set_cons_zero, List.set_cons_succ]
      refine plan_t (v := ?_) rfl rfl (fun wx hS => ?_) ?_
      rotate_left 1
      · (have hc := (St.at hS 3 rfl).cell (cw_get 4 q (k / 64) (by omega)); clear hS; go_simp; with_reducible rfl)
      try simp only [Act.put, List.setIfInBounds_toArray, List.set_cons_zero, List.set_cons_succ]
      refine plan_w (v := ?_) rfl rfl (fun wx => ?_) ?_
      rotate_left 1
      · (go_simp; with_reducible rfl)
      try simp only [Act.put, List.setIfInBounds_toArray, List.set_cons_zero, List.set_cons_succ]
      refine plan_arr rfl rfl rfl rfl (cw 4 p) (fun wx hS => St.rangeL hS 0 rfl 0 _ (cw_left 4 4 _ _)) Tryz.underlying32 rfl (by first | (rw [cw_len]; kernel_rfl) | (simp only [List.length_append, cw_len]; kernel_rfl)) ?_
      try simp only [Act.put, List.setIfInBounds_toArray, List.set_cons_zero, List.set_cons_succ]
      refine plan_w (v := ?_) rfl rfl (fun wx => ?_) ?_
      rotate_left 1
      · (go_simp; with_reducible rfl)
      try simp only [Act.put, List.setIfInBounds_toArray, List.set_cons_zero, List.set_cons_succ]
      refine plan_w (v := ?_) rfl rfl (fun wx => ?_) ?_
      rotate_left 1
      · (go_simp; with_reducible rfl)
      try simp only [Act.put, List.setIfInBounds_toArray, List.set_cons_zero, List.set_cons_succ]
      refine plan_w (v := ?_) rfl rfl (fun wx => ?_) ?_
      rotate_left 1
      · (go_simp; with_reducible rfl)
      try simp only [Act.put, List.setIfInBounds_toArray, List.set_cons_zero, List.set_cons_succ]
      refine plan_w (v := ?_) rfl rfl (fun wx => ?_) ?_
      rotate_left 1
      · (go_simp; with_reducible rfl)
      try simp only [Act.put, List.setIfInBounds_toArray, List.set_cons_zero, List.set_cons_succ]
      refine plan_r rfl rfl ?_
      go_simp
      refine (HBIT.out _).mono ?_
      rintro e' w5 ⟨rfl, hf5⟩
      have st5 := hd4.keep hf5
      clear hf5
      clear hd4
      refine ⟨st5, ?_⟩
      try simp only [Act.put, List.setIfInBounds_toArray, List.set_cons_zero, List.set_cons_succ]
      refine plan_w (v := ?_) rfl rfl (fun wx => ?_) ?_
      rotate_left 1
      · (go_simp; with_reducible rfl)
      try simp only [Act.put, List.setIfInBounds_toArray, List.set_cons_zero, List.set_cons_succ]
      refine plan_w (v := ?_) rfl rfl (fun wx => ?_) ?_
      rotate_left 1
      · (go_simp; with_reducible rfl)
      try simp only [Act.put, List.setIfInBounds_toArray, List.set_cons_zero, List.set_cons_succ]
      refine plan_w (v := ?_) rfl rfl (fun wx => ?_) ?_
      rotate_left 1
      · (go_simp; with_reducible rfl)
      try simp only [Act.put, List.setIfInBounds_toArray, List.set_cons_zero, List.set_cons_succ]
      refine plan_m rfl rfl ?_
      have f1 := (st5.at 3 rfl).free (k / 64) (by rw [cw_len]; omega)
      have c1 := (st5.at 3 rfl).cell (cw_get 4 q (k / 64) (by omega))
      go_simp
      have st6 := st5.set 3 rfl (k / 64) (.int .u64 (bits .or .u64 (lw q (k / 64) : Nat) (IntKind.u64.wrap ((b : Int) * 2 ^ (k % 64)))))
      simp only [List.set_cons_zero, List.set_cons_succ] at st6
      rw [HCELL.out] at st6
      clear f1 c1 st5
      try simp only [Act.put, List.setIfInBounds_toArray, List.set_cons_zero, List.set_cons_succ]
      refine plan_end ?_
      refine NoPanic.normal ?_
      go_wp2
      go_roundw
      case rel => exact ⟨k + 1, by omega, by go_num, by rw [HQ.out]; exact st6⟩
      case measure => simp [intOf]; omega
    · have hge : ¬ ((k : Int) < 254) := by omega
      have hk2 : k = 254 := by omega
      rw [hk2, quarter_all p HP.out] at st
      clear hk2
      generalize p / 4 = Q at *
      have c1 := (st.at 3 rfl).cell (cw_get 4 Q 0 (by decide))
      have f1 := (st.at 3 rfl).free 0 (by rw [cw_len]; decide)
      have st9 := st.set 3 rfl 0 (.int .u64 ((lw Q 0 : Int) + 1))
      have hlow := HLOW.out
      have e1 : IntKind.u64.wrap ((lw Q 0 : Int) + 1) = (lw Q 0 : Int) + 1 := IntWalk.u64_in _ (by omega)
      clear st
      go_wp2_with (with_reducible refine wl_stop (o := ⟨some 33, _, _, _, _, _⟩) ?_)
      simp only [List.set_cons_zero, List.set_cons_succ] at st9
      rw [HLC.out] at st9
      clear c1 f1 hlow e1
      refine wl_loadSt st9 0 rfl rfl rfl Tryz.underlying40 rfl rfl (by first | (rw [cw_len]; kernel_rfl) | (simp only [List.length_append, cw_len]; kernel_rfl)) ?_
      go_wp2_with (with_reducible refine wl_stop (o := ⟨some 34, _, _, _, _, _⟩) ?_)
      refine wl_loadS st9 1 rfl rfl rfl Tryz.underlying32 rfl (by first | (rw [cw_len]; kernel_rfl) | (simp only [List.length_append, cw_len]; kernel_rfl)) ?_
      go_wp2_with (with_reducible refine wl_stop (o := ⟨some 35, _, _, _, _, _⟩) ?_)
      refine wl_loadS st9 3 rfl rfl rfl Tryz.underlying32 rfl (by first | (rw [cw_len]; kernel_rfl) | (simp only [List.length_append, cw_len]; kernel_rfl)) ?_
      go_wp2_with fail
      refine (HPOW.out _).mono ?_
      rintro e' w10 ⟨rfl, hf10⟩
      have st10 := st9.keep hf10
      clear st9 hf10
      go_wp2_with (with_reducible refine wl_stop (o := ⟨some 8, _, _, _, _, _⟩) ?_)
      refine wl_allocS st10 rfl rfl (z := .agg #[.int .u64 0, .int .u64 0, .int .u64 0, .int .u64 0]) (by kernel_rfl) (cw 4 0) (by rw [cw_zero]; rfl) ?_
      intro g8 w11 st11
      clear st10
      go_wp2_with (with_reducible refine wl_stop (o := ⟨none, _, _, _, _, _⟩) ?_)
      refine wl_storeS st11 4 rfl rfl rfl rfl rfl (by first | (simp only [cw_len]; done) | (simp only [List.length_append, cw_len]; done)) (by first | (rw [cw_len]; kernel_rfl) | (simp only [List.length_append, cw_len]; kernel_rfl)) (cw_one _ _) ?_
      intro w12 st12
      clear st11
      go_wp2_with fail
      refine wp_region_noPanic ?_
      refine wp_region_plan (fun wx => St Nob w wx [(g2, cw 4 p ++ cw 4 (B64 ^ 4 - p), 40), (g3, cw 4 a, 32), (g4, cw 4 0, 32), (g6, cw 4 n, 32), (g8, cw 4 R, 32)]) 5 (.t 0 (.t 1 (.t 2 (.t 4 (.r 3 (.m 5 .nil)))))) (by kernel_rfl) (by kernel_rfl) st12.drew (fun _ _ _ _ _ h => h) ?_
      have hd12 := st12.drew
      clear st12
      refine plan_arr rfl rfl rfl rfl (cw 4 p ++ cw 4 (B64 ^ 4 - p)) (fun wx hS => St.rangeL hS 0 rfl 0 _ (by rw [List.drop_zero, List.take_of_length_le (Nat.le_refl _)])) Tryz.underlying40 rfl (by first | (rw [cw_len]; kernel_rfl) | (simp only [List.length_append, cw_len]; kernel_rfl)) ?_
      try simp only [Act.put, List.setIfInBounds_toArray, List.set_cons_zero, List.set_cons_succ]
      refine plan_arr rfl rfl rfl rfl (cw 4 R) (fun wx hS => St.rangeL hS 4 rfl 0 _ (by rw [List.drop_zero, List.take_of_length_le (Nat.le_refl _)])) Tryz.underlying32 rfl (by first | (rw [cw_len]; kernel_rfl) | (simp only [List.length_append, cw_len]; kernel_rfl)) ?_
      try simp only [Act.put, List.setIfInBounds_toArray, List.set_cons_zero, List.set_cons_succ]
      refine plan_arr rfl rfl rfl rfl (cw 4 R) (fun wx hS => St.rangeL hS 4 rfl 0 _ (by rw [List.drop_zero, List.take_of_length_le (Nat.le_refl _)])) Tryz.underlying32 rfl (by first | (rw [cw_len]; kernel_rfl) | (simp only [List.length_append, cw_len]; kernel_rfl)) ?_
      try simp only [Act.put, List.setIfInBounds_toArray, List.set_cons_zero, List.set_cons_succ]
      refine plan_arr rfl rfl rfl rfl (cw 4 a) (fun wx hS => St.rangeL hS 1 rfl 0 _ (by rw [List.drop_zero, List.take_of_length_le (Nat.le_refl _)])) Tryz.underlying32 rfl (by first | (rw [cw_len]; kernel_rfl) | (simp only [List.length_append, cw_len]; kernel_rfl)) ?_
      try simp only [Act.put, List.setIfInBounds_toArray, List.set_cons_zero, List.set_cons_succ]
      refine plan_r rfl rfl ?_
      go_simp
      refine (Mul_any p R R _ HP0.out HP.out HR4.out HR4.out).mono ?_
      rintro e' w13 ⟨rfl, hf13⟩
      have st13 := hd12.keep hf13
      clear hf13
      clear hd12
      refine ⟨st13, ?_⟩
      try simp only [Act.put, List.setIfInBounds_toArray, List.set_cons_zero, List.set_cons_succ]
      refine plan_m rfl rfl ?_
      refine wp_neq4 (R * R % p) a HRR.out HA.out 32 Tryz.underlying32 Tryz.eqGuardType32 rfl rfl rfl HB.out ?_
      try simp only [Act.put, List.setIfInBounds_toArray, List.set_cons_zero, List.set_cons_succ]
      refine plan_end ?_
      refine NoPanic.normal ?_
      go_wp2_with (with_reducible refine wl_stop (o := ⟨none, _, _, _, _, _⟩) ?_)
      refine wl_storeS st13 2 rfl rfl rfl rfl (cs := cw 4 0) (by rw [cw_zero]; rfl) (by first | (simp only [cw_len]; done) | (simp only [List.length_append, cw_len]; done)) (by first | (rw [cw_len]; kernel_rfl) | (simp only [List.length_append, cw_len]; kernel_rfl)) (cw_one _ _) ?_
      intro w14 st14
      clear st13
      have hr := st14.at 2 rfl
      have hfr := st14.fr
      clear st14
      go_wp2_with fail
      exact bodyPost_ret (results_arr2 rfl rfl hr Tryz.underlying32 (by first | (rw [cw_len]; kernel_rfl) | (simp only [List.length_append, cw_len]; kernel_rfl)) rfl) rfl ⟨rfl, hfr⟩

set_option maxHeartbeats 4000000 in
set_option maxRecDepth 100000 in
theorem FSqrt_even (p a n R : Nat) (w : World) (hp0 : 0 < p) (hp : p < B64 ^ 4) (hn : p / 4 + 1 = n) (hn4 : n < B64 ^ 4) (ha : a < B64 ^ 4) (hlow : lw (p / 4) 0 + 1 < 18446744073709551616) (hR : R < p) (hpow : ∀ wx, Calls Tryz.prog 80 #[fv p, i4 a, i4 n] wx fun e w' => e = .returned (i4 R) ∧ Fr Nob wx w') (hb : decide (R * R % p = a) = true) (hpar : R % 2 = 0) :
    Calls Tryz.prog 75 #[fv p, i4 a] w fun e w' => e = .returned (.tuple #[i4 R, .bool true]) ∧ Fr Nob w w' := by
  have HP0 := Lib.hid hp0
  have HP := Lib.hid hp
  have HN4 := Lib.hid hn4
  have HA := Lib.hid ha
  have HLOW := Lib.hid hlow
  have HPOW := Lib.hid hpow
  have HB := Lib.hid hb
  have HR4 := Lib.hid (Nat.lt_trans hR hp)
  have HRP := Lib.hid (Nat.le_of_lt hR)
  have HRR := Lib.hid (show R * R % p < B64 ^ 4 from Nat.lt_trans (Nat.mod_lt _ hp0) hp)
  have hlc := low_cells (p / 4) hlow
  rw [hn] at hlc
  have HLC := Lib.hid hlc
  have HNE := Lib.hid hn
  have HPAR := Lib.hid hpar
  clear hp0 hp hn4 ha hlow hpow hb hR hlc hn hpar
  have st0 := St.start Nob w
  go_enter Tryz.func75, Tryz.ntmps75
  go_wp2_with (with_reducible refine wl_stop (o := ⟨some 2, _, _, _, _, _⟩) ?_)
  refine wl_boxS st0 rfl rfl rfl (cw 4 p ++ cw 4 (B64 ^ 4 - p)) rfl ?_
  intro g2 w1 st1
  clear st0
  go_wp2_with (with_reducible refine wl_stop (o := ⟨some 3, _, _, _, _, _⟩) ?_)
  refine wl_boxS st1 rfl rfl rfl (cw 4 a) rfl ?_
  intro g3 w2 st2
  clear st1
  go_wp2_with (with_reducible refine wl_stop (o := ⟨some 4, _, _, _, _, _⟩) ?_)
  refine wl_allocS st2 rfl rfl (z := .agg #[.int .u64 0, .int .u64 0, .int .u64 0, .int .u64 0]) (by kernel_rfl) (cw 4 0) (by rw [cw_zero]; rfl) ?_
  intro g4 w3 st3
  clear st2
  go_wp2_with (with_reducible refine wl_stop (o := ⟨some 6, _, _, _, _, _⟩) ?_)
  refine wl_allocS st3 rfl rfl (z := .agg #[.int .u64 0, .int .u64 0, .int .u64 0, .int .u64 0]) (by kernel_rfl) (cw 4 0) (by rw [cw_zero]; rfl) ?_
  intro g6 w4 st4
  clear st3
  go_wp2
  go_loopw [7] (fun i wr => ∃ k : Nat, k ≤ 254 ∧ i = .int .i64 (k : Int) ∧ St Nob w wr [(g2, cw 4 p ++ cw 4 (B64 ^ 4 - p), 40), (g3, cw 4 a, 32), (g4, cw 4 0, 32), (g6, cw 4 (p / 4 % 2 ^ k), 32)]) (fun i _ => 254 - (intOf i).toNat)
  case atStart => exact ⟨0, by omega, rfl, by rw [Nat.pow_zero, Nat.mod_one]; exact st4⟩
  case round =>
    obtain ⟨k, hk, rfl, st⟩ := hrel
    clear st4
    by_cases hlt : k < 254
    · have hltI : (k : Int) < 254 := by omega
      have hstep := bit_step 4 (p / 4 % 2 ^ k) k (p / 2 ^ (k + 2) % 2) (Nat.mod_lt _ (Nat.pow_pos (by decide))) (Nat.mod_lt _ (by decide)) (by omega)
      rw [← quarter_step] at hstep
      have hbit := fun wx => RBit_any p (k + 2) wx (by omega)
      have hb2 : p / 2 ^ (k + 2) % 2 < 2 := Nat.mod_lt _ (by decide)
      generalize p / 2 ^ (k + 2) % 2 = b at *
      generalize hq' : p / 4 % 2 ^ (k + 1) = q' at *
      have HQ := Lib.hid hq'
      clear hq'
      generalize p / 4 % 2 ^ k = q at *
      have HCELL := Lib.hid (bit_cell q b k q' hb2 hstep)
      have HBIT := Lib.hid hbit
      clear hstep hbit hb2
      have hlo : (0 : Int) ≤ (k : Int) / 64 ∧ (k : Int) / 64 < 4 := by omega
      have hlo2 : (0 : Int) ≤ (k : Int) % 64 ∧ (k : Int) % 64 < 64 := by omega
      have e1 : IntKind.i64.wrap ((k : Int) / 64) = (k : Int) / 64 := IntWalk.i64_in _ (by omega)
      have e2 : (k : Int).tmod 64 = (k : Int) % 64 := Int.tmod_eq_emod_of_nonneg (by omega)
      have e3 : IntKind.i64.wrap ((k : Int) + 2) = (k : Int) + 2 := IntWalk.i64_in _ (by omega)
      have e4 : ((k : Int) / 64).toNat = k / 64 := by omega
      have e5 : ((k : Int) % 64).toNat = k % 64 := by omega
      go_wp2_with fail
      refine wp_region_noPanic ?_
      refine wp_region_plan (fun wx => St Nob w wx [(g2, cw 4 p ++ cw 4 (B64 ^ 4 - p), 40), (g3, cw 4 a, 32), (g4, cw 4 0, 32), (g6, cw 4 q, 32)]) 16 (.w 0 (.w 1 (.w 2 (.w 3 (.w 4 (.t 5 (.w 6 (.t 7 (.w 8 (.w 9 (.w 11 (.w 12 (.r 10 (.w 13 (.w 14 (.w 15 (.m 16 .nil))))))))))))))))) (by kernel_rfl) (by kernel_rfl) st.drew (fun _ _ _ _ _ h => h) ?_
      have hd4 := st.drew
      clear st
      refine plan_w (v := ?_) rfl rfl (fun wx => ?_) ?_
      rotate_left 1
      · (go_simp; with_reducible rfl)
      try simp only [Act.put, List.setIfInBounds_toArray, List.set_cons_zero, List.set_cons_succ]
      refine plan_w (v := ?_) rfl rfl (fun wx => ?_) ?_
      rotate_left 1
      · (go_simp; with_reducible rfl)
      try simp only [Act.put, List.setIfInBounds_toArray, List.set_cons_zero, List.set_cons_succ]
      refine plan_w (v := ?_) rfl rfl (fun wx => ?_) ?_
      rotate_left 1
      · (go_simp; with_reducible rfl)
      try simp only [Act.put, List.setIfInBounds_toArray, List.set_cons_zero, List.set_cons_succ]
      refine plan_w (v := ?_) rfl rfl (fun wx => ?_) ?_
      rotate_left 1
      · (go_simp; with_reducible rfl)
      try simp only [Act.put, List.setIfInBounds_toArray, List.set_cons_zero, List.set_cons_succ]
      refine plan_w (v := ?_) rfl rfl (fun wx => ?_) ?_
      rotate_left 1
      · (go_simp; with_reducible rfl)
      try simp only [Act.put, List.setIfInBounds_toArray, List.set_cons_zero, List.set_cons_succ]
      refine plan_t (v := ?_) rfl rfl (fun wx hS => ?_) ?_
      rotate_left 1
      · (have hc := (St.at hS 3 rfl).cell (cw_get 4 q (k / 64) (by omega)); clear hS; go_simp; with_reducible rfl)
      try simp only [Act.put, List.setIfInBounds_toArray, List.set_cons_zero, List.set_cons_succ]
      refine plan_w (v := ?_) rfl rfl (fun wx => ?_) ?_
      rotate_left 1
      · (go_simp; with_reducible rfl)
      try simp only [Act.put, List.setIfInBounds_toArray, List.set_cons_zero, List.set_cons_succ]
      refine plan_arr rfl rfl rfl rfl (cw 4 p) (fun wx hS => St.rangeL hS 0 rfl 0 _ (cw_left 4 4 _ _)) Tryz.underlying32 rfl (by first | (rw [cw_len]; kernel_rfl) | (simp only [List.length_append, cw_len]; kernel_rfl)) ?_
      try simp only [Act.put, List.setIfInBounds_toArray, List.set_cons_zero, List.set_cons_succ]
      refine plan_w (v := ?_) rfl rfl (fun wx => ?_) ?_
      rotate_left 1
      · (go_simp; with_reducible rfl)
      try simp only [Act.put, List.setIfInBounds_toArray, List.set_cons_zero, List.set_cons_succ]
      refine plan_w (v := ?_) rfl rfl (fun wx => ?_) ?_
      rotate_left 1
      · (go_simp; with_reducible rfl)
      try simp only [Act.put, List.setIfInBounds_toArray, List.set_cons_zero, List.set_cons_succ]
      refine plan_w (v := ?_) rfl rfl (fun wx => ?_) ?_
      rotate_left 1
      · (go_simp; with_reducible rfl)
      try simp only [Act.put, List.setIfInBounds_toArray, List.set_cons_zero, List.set_cons_succ]
      refine plan_w (v := ?_) rfl rfl (fun wx => ?_) ?_
      rotate_left 1
      · (go_simp; with_reducible rfl)
      try simp only [Act.put, List.setIfInBounds_toArray, List.set_cons_zero, List.set_cons_succ]
      refine plan_r rfl rfl ?_
      go_simp
      refine (HBIT.out _).mono ?_
      rintro e' w5 ⟨rfl, hf5⟩
      have st5 := hd4.keep hf5
      clear hf5
      clear hd4
      refine ⟨st5, ?_⟩
      try simp only [Act.put, List.setIfInBounds_toArray, List.set_cons_zero, List.set_cons_succ]
      refine plan_w (v := ?_) rfl rfl (fun wx => ?_) ?_
      rotate_left 1
      · (go_simp; with_reducible rfl)
      try simp only [Act.put, List.setIfInBounds_toArray, List.set_cons_zero, List.set_cons_succ]
      refine plan_w (v := ?_) rfl rfl (fun wx => ?_) ?_
      rotate_left 1
      · (go_simp; with_reducible rfl)
      try simp only [Act.put, List.setIfInBounds_toArray, List.set_cons_zero, List.set_cons_succ]
      refine plan_w (v := ?_) rfl rfl (fun wx => ?_) ?_
      rotate_left 1
      · (go_simp; with_reducible rfl)
      try simp only [Act.put, List.setIfInBounds_toArray, List.set_cons_zero, List.set_cons_succ]
      refine plan_m rfl rfl ?_
      have f1 := (st5.at 3 rfl).free (k / 64) (by rw [cw_len]; omega)
      have c1 := (st5.at 3 rfl).cell (cw_get 4 q (k / 64) (by omega))
      go_simp
      have st6 := st5.set 3 rfl (k / 64) (.int .u64 (bits .or .u64 (lw q (k / 64) : Nat) (IntKind.u64.wrap ((b : Int) * 2 ^ (k % 64)))))
      simp only [List.set_cons_zero, List.set_cons_succ] at st6
      rw [HCELL.out] at st6
      clear f1 c1 st5
      try simp only [Act.put, List.setIfInBounds_toArray, List.set_cons_zero, List.set_cons_succ]
      refine plan_end ?_
      refine NoPanic.normal ?_
      go_wp2
      go_roundw
      case rel => exact ⟨k + 1, by omega, by go_num, by rw [HQ.out]; exact st6⟩
      case measure => simp [intOf]; omega
    · have hge : ¬ ((k : Int) < 254) := by omega
      have hk2 : k = 254 := by omega
      rw [hk2, quarter_all p HP.out] at st
      clear hk2
      generalize p / 4 = Q at *
      have c1 := (st.at 3 rfl).cell (cw_get 4 Q 0 (by decide))
      have f1 := (st.at 3 rfl).free 0 (by rw [cw_len]; decide)
      have st9 := st.set 3 rfl 0 (.int .u64 ((lw Q 0 : Int) + 1))
      have hlow := HLOW.out
      have e1 : IntKind.u64.wrap ((lw Q 0 : Int) + 1) = (lw Q 0 : Int) + 1 := IntWalk.u64_in _ (by omega)
      clear st
      go_wp2_with (with_reducible refine wl_stop (o := ⟨some 33, _, _, _, _, _⟩) ?_)
      simp only [List.set_cons_zero, List.set_cons_succ] at st9
      rw [HLC.out] at st9
      clear c1 f1 hlow e1
      refine wl_loadSt st9 0 rfl rfl rfl Tryz.underlying40 rfl rfl (by first | (rw [cw_len]; kernel_rfl) | (simp only [List.length_append, cw_len]; kernel_rfl)) ?_
      go_wp2_with (with_reducible refine wl_stop (o := ⟨some 34, _, _, _, _, _⟩) ?_)
      refine wl_loadS st9 1 rfl rfl rfl Tryz.underlying32 rfl (by first | (rw [cw_len]; kernel_rfl) | (simp only [List.length_append, cw_len]; kernel_rfl)) ?_
      go_wp2_with (with_reducible refine wl_stop (o := ⟨some 35, _, _, _, _, _⟩) ?_)
      refine wl_loadS st9 3 rfl rfl rfl Tryz.underlying32 rfl (by first | (rw [cw_len]; kernel_rfl) | (simp only [List.length_append, cw_len]; kernel_rfl)) ?_
      go_wp2_with fail
      refine (HPOW.out _).mono ?_
      rintro e' w10 ⟨rfl, hf10⟩
      have st10 := st9.keep hf10
      clear st9 hf10
      go_wp2_with (with_reducible refine wl_stop (o := ⟨some 8, _, _, _, _, _⟩) ?_)
      refine wl_allocS st10 rfl rfl (z := .agg #[.int .u64 0, .int .u64 0, .int .u64 0, .int .u64 0]) (by kernel_rfl) (cw 4 0) (by rw [cw_zero]; rfl) ?_
      intro g8 w11 st11
      clear st10
      go_wp2_with (with_reducible refine wl_stop (o := ⟨none, _, _, _, _, _⟩) ?_)
      refine wl_storeS st11 4 rfl rfl rfl rfl rfl (by first | (simp only [cw_len]; done) | (simp only [List.length_append, cw_len]; done)) (by first | (rw [cw_len]; kernel_rfl) | (simp only [List.length_append, cw_len]; kernel_rfl)) (cw_one _ _) ?_
      intro w12 st12
      clear st11
      go_wp2_with fail
      refine wp_region_noPanic ?_
      refine wp_region_plan (fun wx => St Nob w wx [(g2, cw 4 p ++ cw 4 (B64 ^ 4 - p), 40), (g3, cw 4 a, 32), (g4, cw 4 0, 32), (g6, cw 4 n, 32), (g8, cw 4 R, 32)]) 5 (.t 0 (.t 1 (.t 2 (.t 4 (.r 3 (.m 5 .nil)))))) (by kernel_rfl) (by kernel_rfl) st12.drew (fun _ _ _ _ _ h => h) ?_
      have hd12 := st12.drew
      clear st12
      refine plan_arr rfl rfl rfl rfl (cw 4 p ++ cw 4 (B64 ^ 4 - p)) (fun wx hS => St.rangeL hS 0 rfl 0 _ (by rw [List.drop_zero, List.take_of_length_le (Nat.le_refl _)])) Tryz.underlying40 rfl (by first | (rw [cw_len]; kernel_rfl) | (simp only [List.length_append, cw_len]; kernel_rfl)) ?_
      try simp only [Act.put, List.setIfInBounds_toArray, List.set_cons_zero, List.set_cons_succ]
      refine plan_arr rfl rfl rfl rfl (cw 4 R) (fun wx hS => St.rangeL hS 4 rfl 0 _ (by rw [List.drop_zero, List.take_of_length_le (Nat.le_refl _)])) Tryz.underlying32 rfl (by first | (rw [cw_len]; kernel_rfl) | (simp only [List.length_append, cw_len]; kernel_rfl)) ?_
      try simp only [Act.put, List.setIfInBounds_toArray, List.set_cons_zero, List.set_cons_succ]
      refine plan_arr rfl rfl rfl rfl (cw 4 R) (fun wx hS => St.rangeL hS 4 rfl 0 _ (by rw [List.drop_zero, List.take_of_length_le (Nat.le_refl _)])) Tryz.underlying32 rfl (by first | (rw [cw_len]; kernel_rfl) | (simp only [List.length_append, cw_len]; kernel_rfl)) ?_
      try simp only [Act.put, List.setIfInBounds_toArray, List.set_cons_zero, List.set_cons_succ]
      refine plan_arr rfl rfl rfl rfl (cw 4 a) (fun wx hS => St.rangeL hS 1 rfl 0 _ (by rw [List.drop_zero, List.take_of_length_le (Nat.le_refl _)])) Tryz.underlying32 rfl (by first | (rw [cw_len]; kernel_rfl) | (simp only [List.length_append, cw_len]; kernel_rfl)) ?_
      try simp only [Act.put, List.setIfInBounds_toArray, List.set_cons_zero, List.set_cons_succ]
      refine plan_r rfl rfl ?_
      go_simp
      refine (Mul_any p R R _ HP0.out HP.out HR4.out HR4.out).mono ?_
      rintro e' w13 ⟨rfl, hf13⟩
      have st13 := hd12.keep hf13
      clear hf13
      clear hd12
      refine ⟨st13, ?_⟩
      try simp only [Act.put, List.setIfInBounds_toArray, List.set_cons_zero, List.set_cons_succ]
      refine plan_m rfl rfl ?_
      refine wp_neq4 (R * R % p) a HRR.out HA.out 32 Tryz.underlying32 Tryz.eqGuardType32 rfl rfl rfl HB.out ?_
      try simp only [Act.put, List.setIfInBounds_toArray, List.set_cons_zero, List.set_cons_succ]
      refine plan_end ?_
      refine NoPanic.normal ?_
      have c1 := (st13.at 4 rfl).cell (cw_get 4 R 0 (by decide))
      have hla := low_and R
      rw [HPAR.out] at hla
      go_wp2_with (with_reducible refine wl_stop (o := ⟨some 51, _, _, _, _, _⟩) ?_)
      refine wl_loadS st13 4 rfl rfl rfl Tryz.underlying32 rfl (by first | (rw [cw_len]; kernel_rfl) | (simp only [List.length_append, cw_len]; kernel_rfl)) ?_
      go_wp2_with (with_reducible refine wl_stop (o := ⟨none, _, _, _, _, _⟩) ?_)
      refine wl_storeS st13 2 rfl rfl rfl rfl rfl (by first | (simp only [cw_len]; done) | (simp only [List.length_append, cw_len]; done)) (by first | (rw [cw_len]; kernel_rfl) | (simp only [List.length_append, cw_len]; kernel_rfl)) (cw_one _ _) ?_
      intro w14 st14
      clear st13
      have hr := st14.at 2 rfl
      have hfr := st14.fr
      clear st14
      go_wp2_with fail
      exact bodyPost_ret (results_arr2 rfl rfl hr Tryz.underlying32 (by first | (rw [cw_len]; kernel_rfl) | (simp only [List.length_append, cw_len]; kernel_rfl)) rfl) rfl ⟨rfl, hfr⟩

set_option maxHeartbeats 4000000 in
set_option maxRecDepth 100000 in
theorem FSqrt_odd (p a n R : Nat) (w : World) (hp0 : 0 < p) (hp : p < B64 ^ 4) (hn : p / 4 + 1 = n) (hn4 : n < B64 ^ 4) (ha : a < B64 ^ 4) (hlow : lw (p / 4) 0 + 1 < 18446744073709551616) (hR : R < p) (hpow : ∀ wx, Calls Tryz.prog 80 #[fv p, i4 a, i4 n] wx fun e w' => e = .returned (i4 R) ∧ Fr Nob wx w') (hb : decide (R * R % p = a) = true) (hpar : R % 2 = 1) :
    Calls Tryz.prog 75 #[fv p, i4 a] w fun e w' => e = .returned (.tuple #[i4 ((p - R) % p), .bool true]) ∧ Fr Nob w w' := by
  have HP0 := Lib.hid hp0
  have HP := Lib.hid hp
  have HN4 := Lib.hid hn4
  have HA := Lib.hid ha
  have HLOW := Lib.hid hlow
  have HPOW := Lib.hid hpow
  have HB := Lib.hid hb
  have HR4 := Lib.hid (Nat.lt_trans hR hp)
  have HRP := Lib.hid (Nat.le_of_lt hR)
  have HRR := Lib.hid (show R * R % p < B64 ^ 4 from Nat.lt_trans (Nat.mod_lt _ hp0) hp)
  have hlc := low_cells (p / 4) hlow
  rw [hn] at hlc
  have HLC := Lib.hid hlc
  have HNE := Lib.hid hn
  have HPAR := Lib.hid hpar
  clear hp0 hp hn4 ha hlow hpow hb hR hlc hn hpar
  have st0 := St.start Nob w
  go_enter Tryz.func75, Tryz.ntmps75
  go_wp2_with (with_reducible refine wl_stop (o := ⟨some 2, _, _, _, _, _⟩) ?_)
  refine wl_boxS st0 rfl rfl rfl (cw 4 p ++ cw 4 (B64 ^ 4 - p)) rfl ?_
  intro g2 w1 st1
  clear st0
  go_wp2_with (with_reducible refine wl_stop (o := ⟨some 3, _, _, _, _, _⟩) ?_)
  refine wl_boxS st1 rfl rfl rfl (cw 4 a) rfl ?_
  intro g3 w2 st2
  clear st1
  go_wp2_with (with_reducible refine wl_stop (o := ⟨some 4, _, _, _, _, _⟩) ?_)
  refine wl_allocS st2 rfl rfl (z := .agg #[.int .u64 0, .int .u64 0, .int .u64 0, .int .u64 0]) (by kernel_rfl) (cw 4 0) (by rw [cw_zero]; rfl) ?_
  intro g4 w3 st3
  clear st2
  go_wp2_with (with_reducible refine wl_stop (o := ⟨some 6, _, _, _, _, _⟩) ?_)
  refine wl_allocS st3 rfl rfl (z := .agg #[.int .u64 0, .int .u64 0, .int .u64 0, .int .u64 0]) (by kernel_rfl) (cw 4 0) (by rw [cw_zero]; rfl) ?_
  intro g6 w4 st4
  clear st3
  go_wp2
  go_loopw [7] (fun i wr => ∃ k : Nat, k ≤ 254 ∧ i = .int .i64 (k : Int) ∧ St Nob w wr [(g2, cw 4 p ++ cw 4 (B64 ^ 4 - p), 40), (g3, cw 4 a, 32), (g4, cw 4 0, 32), (g6, cw 4 (p / 4 % 2 ^ k), 32)]) (fun i _ => 254 - (intOf i).toNat)
  case atStart => exact ⟨0, by omega, rfl, by rw [Nat.pow_zero, Nat.mod_one]; exact st4⟩
  case round =>
    obtain ⟨k, hk, rfl, st⟩ := hrel
    clear st4
    by_cases hlt : k < 254
    · have hltI : (k : Int) < 254 := by omega
      have hstep := bit_step 4 (p / 4 % 2 ^ k) k (p / 2 ^ (k + 2) % 2) (Nat.mod_lt _ (Nat.pow_pos (by decide))) (Nat.mod_lt _ (by decide)) (by omega)
      rw [← quarter_step] at hstep
      have hbit := fun wx => RBit_any p (k + 2) wx (by omega)
      have hb2 : p / 2 ^ (k + 2) % 2 < 2 := Nat.mod_lt _ (by decide)
      generalize p / 2 ^ (k + 2) % 2 = b at *
      generalize hq' : p / 4 % 2 ^ (k + 1) = q' at *
      have HQ := Lib.hid hq'
      clear hq'
      generalize p / 4 % 2 ^ k = q at *
      have HCELL := Lib.hid (bit_cell q b k q' hb2 hstep)
      have HBIT := Lib.hid hbit
      clear hstep hbit hb2
      have hlo : (0 : Int) ≤ (k : Int) / 64 ∧ (k : Int) / 64 < 4 := by omega
      have hlo2 : (0 : Int) ≤ (k : Int) % 64 ∧ (k : Int) % 64 < 64 := by omega
      have e1 : IntKind.i64.wrap ((k : Int) / 64) = (k : Int) / 64 := IntWalk.i64_in _ (by omega)
      have e2 : (k : Int).tmod 64 = (k : Int) % 64 := Int.tmod_eq_emod_of_nonneg (by omega)
      have e3 : IntKind.i64.wrap ((k : Int) + 2) = (k : Int) + 2 := IntWalk.i64_in _ (by omega)
      have e4 : ((k : Int) / 64).toNat = k / 64 := by omega
      have e5 : ((k : Int) % 64).toNat = k % 64 := by omega
      go_wp2_with fail
      refine wp_region_noPanic ?_
      refine wp_region_plan (fun wx => St Nob w wx [(g2, cw 4 p ++ cw 4 (B64 ^ 4 - p), 40), (g3, cw 4 a, 32), (g4, cw 4 0, 32), (g6, cw 4 q, 32)]) 16 (.w 0 (.w 1 (.w 2 (.w 3 (.w 4 (.t 5 (.w 6 (.t 7 (.w 8 (.w 9 (.w 11 (.w 12 (.r 10 (.w 13 (.w 14 (.w 15 (.m 16 .nil))))))))))))))))) (by kernel_rfl) (by kernel_rfl) st.drew (fun _ _ _ _ _ h => h) ?_
      have hd4 := st.drew
      clear st
      refine plan_w (v := ?_) rfl rfl (fun wx => ?_) ?_
      rotate_left 1
      · (go_simp; with_reducible rfl)
      try simp only [Act.put, List.setIfInBounds_toArray, List.set_cons_zero, List.set_cons_succ]
      refine plan_w (v := ?_) rfl rfl (fun wx => ?_) ?_
      rotate_left 1
      · (go_simp; with_reducible rfl)
      try simp only [Act.put, List.setIfInBounds_toArray, List.set_cons_zero, List.set_cons_succ]
      refine plan_w (v := ?_) rfl rfl (fun wx => ?_) ?_
      rotate_left 1
      · (go_simp; with_reducible rfl)
      try simp only [Act.put, List.setIfInBounds_toArray, List.set_cons_zero, List.set_cons_succ]
      refine plan_w (v := ?_) rfl rfl (fun wx => ?_) ?_
      rotate_left 1
      · (go_simp; with_reducible rfl)
      try simp only [Act.put, List.setIfInBounds_toArray, List.set_cons_zero, List.set_cons_succ]
      refine plan_w (v := ?_) rfl rfl (fun wx => ?_) ?_
      rotate_left 1
      · (go_simp; with_reducible rfl)
      try simp only [Act.put, List.setIfInBounds_toArray, List.set_cons_zero, List.set_cons_succ]
      refine plan_t (v := ?_) rfl rfl (fun wx hS => ?_) ?_
      rotate_left 1
      · (have hc := (St.at hS 3 rfl).cell (cw_get 4 q (k / 64) (by omega)); clear hS; go_simp; with_reducible rfl)
      try simp only [Act.put, List.setIfInBounds_toArray, List.set_cons_zero, List.set_cons_succ]
      refine plan_w (v := ?_) rfl rfl (fun wx => ?_) ?_
      rotate_left 1
      · (go_simp; with_reducible rfl)
      try simp only [Act.put, List.setIfInBounds_toArray, List.set_cons_zero, List.set_cons_succ]
      refine plan_arr rfl rfl rfl rfl (cw 4 p) (fun wx hS => St.rangeL hS 0 rfl 0 _ (cw_left 4 4 _ _)) Tryz.underlying32 rfl (by first | (rw [cw_len]; kernel_rfl) | (simp only [List.length_append, cw_len]; kernel_rfl)) ?_
      try simp only [Act.put, List.setIfInBounds_toArray, List.set_cons_zero, List.set_cons_succ]
      refine plan_w (v := ?_) rfl rfl (fun wx => ?_) ?_
      rotate_left 1
      · (go_simp; with_reducible rfl)
      try simp only [Act.put, List.setIfInBounds_toArray, List.set_cons_zero, List.set_cons_succ]
      refine plan_w (v := ?_) rfl rfl (fun wx => ?_) ?_
      rotate_left 1
      · (go_simp; with_reducible rfl)
      try simp only [Act.put, List.setIfInBounds_toArray, List.set_cons_zero, List.set_cons_succ]
      refine plan_w (v := ?_) rfl rfl (fun wx => ?_) ?_
      rotate_left 1
      · (go_simp; with_reducible rfl)
      try simp only [Act.put, List.setIfInBounds_toArray, List.set_cons_zero, List.set_cons_succ]
      refine plan_w (v := ?_) rfl rfl (fun wx => ?_) ?_
      rotate_left 1
      · (go_simp; with_reducible rfl)
      try simp only [Act.put, List.setIfInBounds_toArray, List.set_cons_zero, List.set_cons_succ]
      refine plan_r rfl rfl ?_
      go_simp
      refine (HBIT.out _).mono ?_
      rintro e' w5 ⟨rfl, hf5⟩
      have st5 := hd4.keep hf5
      clear hf5
      clear hd4
      refine ⟨st5, ?_⟩
      try simp only [Act.put, List.setIfInBounds_toArray, List.set_cons_zero, List.set_cons_succ]
      refine plan_w (v := ?_) rfl rfl (fun wx => ?_) ?_
      rotate_left 1
      · (go_simp; with_reducible rfl)
      try simp only [Act.put, List.setIfInBounds_toArray, List.set_cons_zero, List.set_cons_succ]
      refine plan_w (v := ?_) rfl rfl (fun wx => ?_) ?_
      rotate_left 1
      · (go_simp; with_reducible rfl)
      try simp only [Act.put, List.setIfInBounds_toArray, List.set_cons_zero, List.set_cons_succ]
      refine plan_w (v := ?_) rfl rfl (fun wx => ?_) ?_
      rotate_left 1
      · (go_simp; with_reducible rfl)
      try simp only [Act.put, List.setIfInBounds_toArray, List.set_cons_zero, List.set_cons_succ]
      refine plan_m rfl rfl ?_
      have f1 := (st5.at 3 rfl).free (k / 64) (by rw [cw_len]; omega)
      have c1 := (st5.at 3 rfl).cell (cw_get 4 q (k / 64) (by omega))
      go_simp
      have st6 := st5.set 3 rfl (k / 64) (.int .u64 (bits .or .u64 (lw q (k / 64) : Nat) (IntKind.u64.wrap ((b : Int) * 2 ^ (k % 64)))))
      simp only [List.set_cons_zero, List.set_cons_succ] at st6
      rw [HCELL.out] at st6
      clear f1 c1 st5
      try simp only [Act.put, List.setIfInBounds_toArray, List.set_cons_zero, List.set_cons_succ]
      refine plan_end ?_
      refine NoPanic.normal ?_
      go_wp2
      go_roundw
      case rel => exact ⟨k + 1, by omega, by go_num, by rw [HQ.out]; exact st6⟩
      case measure => simp [intOf]; omega
    · have hge : ¬ ((k : Int) < 254) := by omega
      have hk2 : k = 254 := by omega
      rw [hk2, quarter_all p HP.out] at st
      clear hk2
      generalize p / 4 = Q at *
      have c1 := (st.at 3 rfl).cell (cw_get 4 Q 0 (by decide))
      have f1 := (st.at 3 rfl).free 0 (by rw [cw_len]; decide)
      have st9 := st.set 3 rfl 0 (.int .u64 ((lw Q 0 : Int) + 1))
      have hlow := HLOW.out
      have e1 : IntKind.u64.wrap ((lw Q 0 : Int) + 1) = (lw Q 0 : Int) + 1 := IntWalk.u64_in _ (by omega)
      clear st
      go_wp2_with (with_reducible refine wl_stop (o := ⟨some 33, _, _, _, _, _⟩) ?_)
      simp only [List.set_cons_zero, List.set_cons_succ] at st9
      rw [HLC.out] at st9
      clear c1 f1 hlow e1
      refine wl_loadSt st9 0 rfl rfl rfl Tryz.underlying40 rfl rfl (by first | (rw [cw_len]; kernel_rfl) | (simp only [List.length_append, cw_len]; kernel_rfl)) ?_
      go_wp2_with (with_reducible refine wl_stop (o := ⟨some 34, _, _, _, _, _⟩) ?_)
      refine wl_loadS st9 1 rfl rfl rfl Tryz.underlying32 rfl (by first | (rw [cw_len]; kernel_rfl) | (simp only [List.length_append, cw_len]; kernel_rfl)) ?_
      go_wp2_with (with_reducible refine wl_stop (o := ⟨some 35, _, _, _, _, _⟩) ?_)
      refine wl_loadS st9 3 rfl rfl rfl Tryz.underlying32 rfl (by first | (rw [cw_len]; kernel_rfl) | (simp only [List.length_append, cw_len]; kernel_rfl)) ?_
      go_wp2_with fail
      refine (HPOW.out _).mono ?_
      rintro e' w10 ⟨rfl, hf10⟩
      have st10 := st9.keep hf10
      clear st9 hf10
      go_wp2_with (with_reducible refine wl_stop (o := ⟨some 8, _, _, _, _, _⟩) ?_)
      refine wl_allocS st10 rfl rfl (z := .agg #[.int .u64 0, .int .u64 0, .int .u64 0, .int .u64 0]) (by kernel_rfl) (cw 4 0) (by rw [cw_zero]; rfl) ?_
      intro g8 w11 st11
      clear st10
      go_wp2_with (with_reducible refine wl_stop (o := ⟨none, _, _, _, _, _⟩) ?_)
      refine wl_storeS st11 4 rfl rfl rfl rfl rfl (by first | (simp only [cw_len]; done) | (simp only [List.length_append, cw_len]; done)) (by first | (rw [cw_len]; kernel_rfl) | (simp only [List.length_append, cw_len]; kernel_rfl)) (cw_one _ _) ?_
      intro w12 st12
      clear st11
      go_wp2_with fail
      refine wp_region_noPanic ?_
      refine wp_region_plan (fun wx => St Nob w wx [(g2, cw 4 p ++ cw 4 (B64 ^ 4 - p), 40), (g3, cw 4 a, 32), (g4, cw 4 0, 32), (g6, cw 4 n, 32), (g8, cw 4 R, 32)]) 5 (.t 0 (.t 1 (.t 2 (.t 4 (.r 3 (.m 5 .nil)))))) (by kernel_rfl) (by kernel_rfl) st12.drew (fun _ _ _ _ _ h => h) ?_
      have hd12 := st12.drew
      clear st12
      refine plan_arr rfl rfl rfl rfl (cw 4 p ++ cw 4 (B64 ^ 4 - p)) (fun wx hS => St.rangeL hS 0 rfl 0 _ (by rw [List.drop_zero, List.take_of_length_le (Nat.le_refl _)])) Tryz.underlying40 rfl (by first | (rw [cw_len]; kernel_rfl) | (simp only [List.length_append, cw_len]; kernel_rfl)) ?_
      try simp only [Act.put, List.setIfInBounds_toArray, List.set_cons_zero, List.set_cons_succ]
      refine plan_arr rfl rfl rfl rfl (cw 4 R) (fun wx hS => St.rangeL hS 4 rfl 0 _ (by rw [List.drop_zero, List.take_of_length_le (Nat.le_refl _)])) Tryz.underlying32 rfl (by first | (rw [cw_len]; kernel_rfl) | (simp only [List.length_append, cw_len]; kernel_rfl)) ?_
      try simp only [Act.put, List.setIfInBounds_toArray, List.set_cons_zero, List.set_cons_succ]
      refine plan_arr rfl rfl rfl rfl (cw 4 R) (fun wx hS => St.rangeL hS 4 rfl 0 _ (by rw [List.drop_zero, List.take_of_length_le (Nat.le_refl _)])) Tryz.underlying32 rfl (by first | (rw [cw_len]; kernel_rfl) | (simp only [List.length_append, cw_len]; kernel_rfl)) ?_
      try simp only [Act.put, List.setIfInBounds_toArray, List.set_cons_zero, List.set_cons_succ]
      refine plan_arr rfl rfl rfl rfl (cw 4 a) (fun wx hS => St.rangeL hS 1 rfl 0 _ (by rw [List.drop_zero, List.take_of_length_le (Nat.le_refl _)])) Tryz.underlying32 rfl (by first | (rw [cw_len]; kernel_rfl) | (simp only [List.length_append, cw_len]; kernel_rfl)) ?_
      try simp only [Act.put, List.setIfInBounds_toArray, List.set_cons_zero, List.set_cons_succ]
      refine plan_r rfl rfl ?_
      go_simp
      refine (Mul_any p R R _ HP0.out HP.out HR4.out HR4.out).mono ?_
      rintro e' w13 ⟨rfl, hf13⟩
      have st13 := hd12.keep hf13
      clear hf13
      clear hd12
      refine ⟨st13, ?_⟩
      try simp only [Act.put, List.setIfInBounds_toArray, List.set_cons_zero, List.set_cons_succ]
      refine plan_m rfl rfl ?_
      refine wp_neq4 (R * R % p) a HRR.out HA.out 32 Tryz.underlying32 Tryz.eqGuardType32 rfl rfl rfl HB.out ?_
      try simp only [Act.put, List.setIfInBounds_toArray, List.set_cons_zero, List.set_cons_succ]
      refine plan_end ?_
      refine NoPanic.normal ?_
      have c1 := (st13.at 4 rfl).cell (cw_get 4 R 0 (by decide))
      have hla := low_and R
      rw [HPAR.out] at hla
      go_wp2_with (with_reducible refine wl_stop (o := ⟨some 48, _, _, _, _, _⟩) ?_)
      refine wl_loadSt st13 0 rfl rfl rfl Tryz.underlying40 rfl rfl (by first | (rw [cw_len]; kernel_rfl) | (simp only [List.length_append, cw_len]; kernel_rfl)) ?_
      go_wp2_with (with_reducible refine wl_stop (o := ⟨some 49, _, _, _, _, _⟩) ?_)
      refine wl_loadS st13 4 rfl rfl rfl Tryz.underlying32 rfl (by first | (rw [cw_len]; kernel_rfl) | (simp only [List.length_append, cw_len]; kernel_rfl)) ?_
      go_wp2_with fail
      refine (Neg_any p R _ HRP.out HP.out HR4.out).mono ?_
      rintro e' w14 ⟨rfl, hf14⟩
      have st14 := st13.keep hf14
      clear st13 hf14
      go_wp2_with (with_reducible refine wl_stop (o := ⟨none, _, _, _, _, _⟩) ?_)
      refine wl_storeS st14 4 rfl rfl rfl rfl rfl (by first | (simp only [cw_len]; done) | (simp only [List.length_append, cw_len]; done)) (by first | (rw [cw_len]; kernel_rfl) | (simp only [List.length_append, cw_len]; kernel_rfl)) (cw_one _ _) ?_
      intro w15 st15
      clear st14
      go_wp2_with (with_reducible refine wl_stop (o := ⟨some 51, _, _, _, _, _⟩) ?_)
      refine wl_loadS st15 4 rfl rfl rfl Tryz.underlying32 rfl (by first | (rw [cw_len]; kernel_rfl) | (simp only [List.length_append, cw_len]; kernel_rfl)) ?_
      go_wp2_with (with_reducible refine wl_stop (o := ⟨none, _, _, _, _, _⟩) ?_)
      refine wl_storeS st15 2 rfl rfl rfl rfl rfl (by first | (simp only [cw_len]; done) | (simp only [List.length_append, cw_len]; done)) (by first | (rw [cw_len]; kernel_rfl) | (simp only [List.length_append, cw_len]; kernel_rfl)) (cw_one _ _) ?_
      intro w16 st16
      clear st15
      have hr := st16.at 2 rfl
      have hfr := st16.fr
      clear st16
      go_wp2_with fail
      exact bodyPost_ret (results_arr2 rfl rfl hr Tryz.underlying32 (by first | (rw [cw_len]; kernel_rfl) | (simp only [List.length_append, cw_len]; kernel_rfl)) rfl) rfl ⟨rfl, hfr⟩
end Go.Proofs.YtdbgddngapminaaGreat

/- The law NumRoots. -/
namespace Go.Proofs.YtdbgddngapminaaGreat
open Go.RowKit Go.Mv Mvp
theorem low_k {k : Int} {m : Md} (h : KindOf k m) : lw (m.M / 4) 0 + 1 < 18446744073709551616 := by
  cases h
  · decide
  · decide
theorem FSqrt_ok (p a : Nat) (w : World) (hp1 : 1 < p) (hp : p < B64 ^ 4) (ha : a < p) (hlow : lw (p / 4) 0 + 1 < 18446744073709551616) (hr : rtOk p a = true) :
    Calls Tryz.prog 75 #[fv p, i4 a] w fun e w' => e = .returned (.tuple #[i4 (rtV p a % p), .bool true]) ∧ Fr Nob w w' := by
  unfold rtOk at hr
  unfold rtV
  unfold rtN at *
  have hn4 : p / 4 + 1 < B64 ^ 4 := by omega
  generalize hn : p / 4 + 1 = n at *
  have hpow := fun wx => Pow_any p a n wx hp1 hp (Nat.lt_trans ha hp) hn4
  have hR : a ^ n % p < p := Nat.mod_lt _ (by omega)
  rw [Nat.mul_mod, Nat.mod_eq_of_lt ha] at hr
  have hsame : a ^ n % p = a ^ n % p % p := (Nat.mod_mod _ _).symm
  generalize hRR : a ^ n % p = R at *
  have hb : decide (R * R % p = a) = true := by simpa using hr
  by_cases hpar : R % 2 = 1
  · rw [if_pos hpar]
    exact FSqrt_odd p a n R w (by omega) hp hn hn4 (Nat.lt_trans ha hp) hlow hR hpow hb hpar
  · rw [if_neg hpar, hRR]
    exact FSqrt_even p a n R w (by omega) hp hn hn4 (Nat.lt_trans ha hp) hlow hR hpow hb (by omega)
theorem FSqrt_bad (p a : Nat) (w : World) (hp1 : 1 < p) (hp : p < B64 ^ 4) (ha : a < p) (hlow : lw (p / 4) 0 + 1 < 18446744073709551616) (hr : rtOk p a = false) :
    Calls Tryz.prog 75 #[fv p, i4 a] w fun e w' => e = .returned (.tuple #[i4 0, .bool false]) ∧ Fr Nob w w' := by
  unfold rtOk at hr
  unfold rtN at *
  have hn4 : p / 4 + 1 < B64 ^ 4 := by omega
  generalize hn : p / 4 + 1 = n at *
  have hpow := fun wx => Pow_any p a n wx hp1 hp (Nat.lt_trans ha hp) hn4
  have hR : a ^ n % p < p := Nat.mod_lt _ (by omega)
  rw [Nat.mul_mod, Nat.mod_eq_of_lt ha] at hr
  generalize hRR : a ^ n % p = R at *
  have hb : decide (R * R % p = a) = false := by simpa using hr
  exact FSqrt_no p a n R w (by omega) hp hn hn4 (Nat.lt_trans ha hp) hlow hR hpow hb
attribute [local irreducible] limbs lw mix cw cSub cAdd cMul foldC valFrom beN laid be32 powm montT mstep elN mdL lentL numB rtN rtOk rtV
end Go.Proofs.YtdbgddngapminaaGreat

/- zn.All; sigma.Extract. -/
namespace Go.Proofs.YtdbgddngapminaaGreat
open Go.RowKit Go.Mv Mvp
attribute [local irreducible] limbs lw mix cw cSub cAdd cMul foldC valFrom beN laid be32 powm montT mstep elN mdL numB
end Go.Proofs.YtdbgddngapminaaGreat

/- sigma.Extract; the reference's Scalar, Q, Extract. -/
namespace Mvp
end Mvp
namespace Go.Proofs.YtdbgddngapminaaGreat
open Go.RowKit Go.Mv Mvp
attribute [local irreducible] limbs lw mix cw cSub cAdd cMul foldC valFrom beN laid be32 powm montT mstep elN mdL numB
theorem BParts.four {w : World} {v1 v2 v3 v4 : Value} {l1 l2 l3 l4 : List UInt8} (h1 : BPart w v1 l1) (h2 : BPart w v2 l2) (h3 : BPart w v3 l3) (h4 : BPart w v4 l4) : BParts w [v1, v2, v3, v4] [l1, l2, l3, l4] := ⟨rfl, fun i x hx => by
  match i with
  | 0 => simp at hx; subst hx; exact h1
  | 1 => simp at hx; subst hx; exact h2
  | 2 => simp at hx; subst hx; exact h3
  | 3 => simp at hx; subst hx; exact h4
  | i + 4 => simp at hx⟩

end Go.Proofs.YtdbgddngapminaaGreat

/- The reference's Q, Scalar, Extract. -/
namespace Go.Proofs.YtdbgddngapminaaGreat
open Go.RowKit Go.Mv Mvp
theorem run_eqN (x y : Nat) (hx : x < B64 ^ 4) (hy : y < B64 ^ 4) (w : World) : (Op.equal 32 (.agg (cw 4 x).toArray) (.agg (cw 4 y).toArray)).run Tryz.prog w = .ok (x == y) w := by
  have h := run_eq4 (P := Tryz.prog) Tryz.underlying32 Tryz.underlying30 size_u64 x y w
  rw [Nat.mod_eq_of_lt hx, Nat.mod_eq_of_lt hy] at h
  rw [h]
  congr 1
attribute [local irreducible] limbs lw mix cw cSub cAdd cMul foldC valFrom beN laid be32 powm montT mstep elN mdL numB
set_option maxHeartbeats 16000000 in
set_option maxRecDepth 1000000 in
theorem Q_any (m : Md) (hk : KindOf 1 m) (w : World) :
    Calls Tryz.prog 14 #[] w fun e w' => e = .returned (fv m.M) ∧ Fr Nob w w' := by
  have HK := Lib.hid hk
  have HOK := Lib.hid hk.ok
  clear hk
  have st0 := St.start Nob w
  go_enter Tryz.func14, Tryz.ntmps14
  go_wp2_with (with_reducible refine wl_stop (o := ⟨some 0, _, _, _, _, _⟩) ?_)
  refine wl_allocS st0 rfl rfl (z := .agg #[.int .u64 0, .int .u64 0, .int .u64 0, .int .u64 0, .int .u64 0, .int .u64 0, .int .u64 0, .int .u64 0]) (by kernel_rfl) (cw 8 0) (by rw [cw_zero]; rfl) ?_
  intro g0 w1 st1
  clear st0
  go_wp2_with fail
  refine (MakeK HK.out _).mono ?_
  rintro e' w2 ⟨rfl, hf2⟩
  have st2 := st1.keep hf2
  clear st1 hf2
  go_wp2_with (with_reducible refine wl_stop (o := ⟨none, _, _, _, _, _⟩) ?_)
  refine wl_storeS st2 0 rfl rfl rfl rfl rfl (by first | (simp only [cw_len]; done) | (simp only [List.length_append, cw_len]; done)) (by first | (rw [cw_len]; kernel_rfl) | (simp only [List.length_append, cw_len]; kernel_rfl)) (cw2_one _ _ _ _) ?_
  intro w3 st3
  clear st2
  have hr := st3.at 0 rfl
  have hfr := st3.fr
  clear st3
  go_wp2_with fail
  exact bodyPost_ret (results_st rfl rfl hr Tryz.underlying40 rfl (by first | (rw [cw_len]; kernel_rfl) | (simp only [List.length_append, cw_len]; kernel_rfl))) rfl ⟨rfl, hfr⟩

theorem Sub_v (p a b r : Nat) (w : World) (hp0 : 0 < p) (hp : p < B64 ^ 4) (ha : a < B64 ^ 4) (hb : b < B64 ^ 4) (hbp : b ≤ p) (hr : (a + (p - b)) % p = r) :
    Calls Tryz.prog 87 #[fv p, i4 a, i4 b] w fun e w' => e = .returned (i4 r) ∧ Fr Nob w w' := by
  refine (Sub_any p a b w hp0 hp ha hb hbp).mono fun e w' h => ?_
  rw [Nat.add_mod_mod, hr] at h
  exact h
theorem Inv_v (p a r : Nat) (w : World) (hp1 : 1 < p) (hp : p < B64 ^ 4) (ha : a < B64 ^ 4) (hr : a ^ (p - 2) % p = r) :
    Calls Tryz.prog 34 #[fv p, i4 a] w fun e w' => e = .returned (i4 r) ∧ Fr Nob w w' := by
  subst hr; exact Inv_any p a w hp1 hp ha
end Go.Proofs.YtdbgddngapminaaGreat

/- The reference's numbers modulo Prime, told by their classes. -/
namespace Go.Proofs.YtdbgddngapminaaGreat
open Go.RowKit Go.Mv Mvp Mvq
/-- the least number of a class -/
def kN (a : K) : Nat := a.val
theorem mPM : mP.M = fP := pP_fP
theorem kN_lt (a : K) : kN a < mP.M := by rw [mPM]; exact a.isLt
theorem kN_lt4 (a : K) : kN a < B64 ^ 4 := Nat.lt_trans (kN_lt a) mP_ok.lt
theorem kN_kc (n : Nat) : kN (kc n) = n % fP := rfl
theorem kc_kN (a : K) : kc (kN a) = a := by
  apply Fin.ext
  show a.val % fP = a.val
  exact Nat.mod_eq_of_lt a.isLt
theorem kN_inj {a b : K} (h : kN a = kN b) : a = b := Fin.ext h
theorem hK0 : KindOf 0 mP := .zero
theorem RF_any (w : World) : Calls Tryz.prog 33 #[] w fun e w' => e = .returned (fv mP.M) ∧ Fr Nob w w' := by
  go_enter Tryz.func33, Tryz.ntmps33
  have st0 := St.start Nob w
  go_wp2_with (with_reducible refine wl_stop (o := ⟨some 0, _, _, _, _, _⟩) ?_)
  refine wl_allocS st0 rfl rfl (z := .agg #[.int .u64 0, .int .u64 0, .int .u64 0, .int .u64 0, .int .u64 0, .int .u64 0, .int .u64 0, .int .u64 0]) (by kernel_rfl) (cw 8 0) (by rw [cw_zero]; rfl) ?_
  intro g0 w1 st1
  clear st0
  go_wp2_with fail
  refine (MakeK hK0 _).mono ?_
  rintro e' w2 ⟨rfl, hf2⟩
  have st2 := st1.keep hf2
  clear st1 hf2
  go_wp2_with (with_reducible refine wl_stop (o := ⟨none, _, _, _, _, _⟩) ?_)
  refine wl_storeS st2 0 rfl rfl rfl rfl (cs := cw 4 mP.M ++ cw 4 (B64 ^ 4 - mP.M)) rfl (by first | (simp only [cw_len]; done) | (simp only [List.length_append, cw_len]; done)) (by first | (rw [cw_len]; kernel_rfl) | (simp only [List.length_append, cw_len]; kernel_rfl)) (cw2_one _ _ _ _) ?_
  intro w3 st3
  clear st2
  have hr := st3.at 0 rfl
  have hfr := st3.fr
  clear st3
  go_wp2_with fail
  exact bodyPost_ret (results_st rfl rfl hr Tryz.underlying40 rfl (by first | (rw [cw_len]; kernel_rfl) | (simp only [List.length_append, cw_len]; kernel_rfl))) rfl ⟨rfl, hfr⟩
theorem KMul (a b r : K) (hr : a * b = r) (w : World) : Calls Tryz.prog 35 #[fv mP.M, i4 (kN a), i4 (kN b)] w fun e w' => e = .returned (i4 (kN r)) ∧ Fr Nob w w' := by
  have h := Mul_any mP.M (kN a) (kN b) w (by have := mP_ok.one; omega) mP_ok.lt (kN_lt4 a) (kN_lt4 b)
  have e : kN a * kN b % mP.M = kN r := by rw [mPM, ← kN_kc, kc_mul', kc_kN, kc_kN, hr]
  rwa [e] at h
theorem KAdd (a b r : K) (hr : a + b = r) (w : World) : Calls Tryz.prog 76 #[fv mP.M, i4 (kN a), i4 (kN b)] w fun e w' => e = .returned (i4 (kN r)) ∧ Fr Nob w w' := by
  have h := Add_any mP.M (kN a) (kN b) w (by have := mP_ok.one; omega) mP_ok.lt (kN_lt4 a) (kN_lt4 b)
  have e : (kN a + kN b) % mP.M = kN r := by rw [mPM, ← kN_kc, kc_addn, kc_kN, kc_kN, hr]
  rwa [e] at h
theorem KSub (a b r : K) (hr : a - b = r) (w : World) : Calls Tryz.prog 87 #[fv mP.M, i4 (kN a), i4 (kN b)] w fun e w' => e = .returned (i4 (kN r)) ∧ Fr Nob w w' := by
  have hb := Nat.mod_eq_of_lt (kN_lt b)
  refine Sub_v mP.M (kN a) (kN b) (kN r) w (by have := mP_ok.one; omega) mP_ok.lt (kN_lt4 a) (kN_lt4 b) (Nat.le_of_lt (kN_lt b)) ?_
  rw [← hb, mPM, ← kN_kc, kc_subn, kc_kN, kc_kN, hr]
theorem KInv (a r : K) (hr : kinv a = r) (w : World) : Calls Tryz.prog 34 #[fv mP.M, i4 (kN a)] w fun e w' => e = .returned (i4 (kN r)) ∧ Fr Nob w w' := by
  refine Inv_v mP.M (kN a) (kN r) w mP_ok.one mP_ok.lt (kN_lt4 a) ?_
  rw [← hr, mPM]
  unfold kinv
  rw [kN_kc]
  unfold kN
  generalize fP - 2 = z
  rfl
theorem KZero (a : K) (b : Bool) (hb : decide (a = 0) = b) (w : World) : Calls Tryz.prog 78 #[i4 (kN a)] w fun e w' => e = .returned (.bool b) ∧ Fr Nob w w' := by
  have h := Zero_any (kN a) w (kN_lt4 a)
  have e : decide (kN a = 0) = b := by
    rw [← hb, Bool.eq_iff_iff, decide_eq_true_eq, decide_eq_true_eq]
    exact ⟨fun h => kN_inj (h.trans rfl), fun h => by rw [h]; rfl⟩
  rwa [e] at h
theorem KSmall1 (w : World) : Calls Tryz.prog 77 #[.int .u64 1] w fun e w' => e = .returned (i4 (kN 1)) ∧ Fr Nob w w' := Small_any 1 w (by decide)
theorem KSmall7 (w : World) : Calls Tryz.prog 77 #[.int .u64 7] w fun e w' => e = .returned (i4 (kN 7)) ∧ Fr Nob w w' := Small_any 7 w (by decide)
theorem run_eqK (x y : K) {b : Bool} (hb : decide (x = y) = b) (w : World) : (Op.equal 32 (.agg (cw 4 (kN x)).toArray) (.agg (cw 4 (kN y)).toArray)).run Tryz.prog w = .ok b w := by
  rw [run_eqN (kN x) (kN y) (kN_lt4 x) (kN_lt4 y) w]
  congr 1
  rw [← hb, Bool.eq_iff_iff, beq_iff_eq, decide_eq_true_eq]
  exact ⟨kN_inj, fun h => by rw [h]⟩
theorem exec_eqlK (x y : K) {o : Oper} {a : Act} {p q : Operand} {T : TypeId} (ho : o.op = .binOp .eql 32 p q T) (hp : a.eval p = i4 (kN x)) (hq : a.eval q = i4 (kN y)) {b : Bool} (hb : decide (x = y) = b) (w : World) :
    (execOp a.eval o).run Tryz.prog w = .ok (.value (.bool b)) w :=
  exec_binop ho hp hq w (run_eqGuard_agg w .eql 32 p q _ _ Tryz.eqGuardType32) (eql_of_equal w (run_eqK x y hb w))
theorem KSqrt_t (n : Nat) (hn : n < mP.M) (hr : rtOk fP n = true) (w : World) : Calls Tryz.prog 75 #[fv mP.M, i4 n] w fun e w' => e = .returned (.tuple #[i4 (kN (kc (rtV fP n))), .bool true]) ∧ Fr Nob w w' := by
  have h := FSqrt_ok mP.M n w mP_ok.one mP_ok.lt hn (low_k hK0) (by rw [mPM]; exact hr)
  rw [mPM, ← kN_kc, ← mPM] at h
  exact h
theorem KSqrt_f (n : Nat) (hn : n < mP.M) (hr : rtOk fP n = false) (w : World) : Calls Tryz.prog 75 #[fv mP.M, i4 n] w fun e w' => e = .returned (.tuple #[i4 (kN 0), .bool false]) ∧ Fr Nob w w' :=
  FSqrt_bad mP.M n w mP_ok.one mP_ok.lt hn (low_k hK0) (by rw [mPM]; exact hr)
end Go.Proofs.YtdbgddngapminaaGreat
