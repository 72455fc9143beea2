/- ; ; ; ; ; ; ; ; ; ; ; ; ; ; ; ; ; ; ; ; ; ; ; ; ; ; ; . -/
import Derived.Test.YtmebmhjppmfbbaaGreatMgSigmaVerifiesProof1
import Derived.SliceStrings
import Derived.SizedLaws
import Derived.OpenShut
import Derived.ProofKit
import Derived.Shelf.Spec.BitsCarry
import Derived.Shelf.Bits.Mul64
import Derived.Test.YtmebmhjppmfbbaaGreatProg
import Derived.KernelRfl
import Derived.RegionTactic
import Derived.Deep.QuietTactic
import Derived.BigQuiet
import Derived.OrdersHeld
import Derived.StillTail
import Derived.Deep.MidRow
import Derived.Deep.RegionHeld3
import Derived.StillTailTactics

set_option maxHeartbeats 16000000
set_option maxRecDepth 1000000
namespace Go.Proofs.YtmebmhjppmfbbaaGreat
open Go.RowKit Go.Mv Mvp
theorem l0Q (S : List UInt64) : a0I S 0 = [] := by unfold a0I; rfl
theorem q0t (S : List UInt64) : b0u S 0 = S := by unfold b0u; rfl
theorem y0v {w : World} {base : Nat} {T : TypeId} {a : Option Addr} {m c : Nat} {L : List Value} (h : Own w base T 1 (.slice a m c) m L) (n : Nat) (hn : n ≤ m) : Own w base T 1 (.slice a n n) n (L.take n) := by
 obtain ⟨hl, h | ⟨g, o, cap, B, hv, hb, hg, h1, h2, h3, h4⟩⟩ := h
 ·obtain ⟨hv, hm⟩ := h
  cases hv
  have : n = 0 := by omega
  subst this
  exact ⟨by simp, .inl ⟨rfl, rfl⟩⟩
 ·cases hv
  refine ⟨by rw [List.length_take]; omega, .inr ⟨g, o, n, B, rfl, hb, hg, Nat.le_refl _, by omega, by omega, ?_⟩⟩
  rw [← h4, List.take_take]
  congr 1
  omega
attribute [local irreducible] b0t b0K toB a0w a0I b0u
theorem y0w (k : Nat) (e : UInt8) (h : k < 136) : ((List.replicate 136 (0 : UInt8)).set k e).set 135 (bx (((List.replicate 136 (0 : UInt8)).set k e).getD 135 0) 0x80) = List.replicate k 0 ++ o0J k e := by
 have h1 : (List.replicate 136 (0 : UInt8)).set k e = List.replicate k 0 ++ (e :: List.replicate (135 - k) 0) := by
  have : (List.replicate 136 (0 : UInt8)) = List.replicate k 0 ++ (0 :: List.replicate (135 - k) 0) := by
   rw [← List.replicate_succ, List.replicate_append_replicate]; congr 1; omega
  rw [this, List.set_append_right _ _ ap14]
  simp
 have h2 : (List.replicate k 0 ++ (e :: List.replicate (135 - k) 0)).getD 135 0 = (e :: List.replicate (135 - k) 0).getD (135 - k) 0 := by
  rw [List.getD_eq_getElem?_getD, List.getD_eq_getElem?_getD, List.getElem?_append_right (by simp; omega), List.length_replicate]
 rw [h1, h2, List.set_append_right _ _ (by simp; omega)]
 simp only [List.length_replicate, o0J]
theorem r0X (n j : Nat) : 136 * j < n ↔ j < e0Q n := by unfold e0Q; omega
theorem r0Y (g : Nat) (S : List UInt64) (k : Nat) (e : UInt8) (n : Nat) (w : World) (hS : S.length = 25) (hk : k < 136) (hn : n ≤ 20000) (hg : Has w g (abs (S, k)) 234) :
  Calls Tryz.prog 191 #[.pointer (some ⟨g, 0, none⟩), .int .u8 (e.toNat : Int), .int .i64 (n : Int)] w fun r w' => ∃ v, r = .returned v ∧ Own w' w.heap.size 5 1 v n (bs (y0t (j0b (S, k) e) n)) ∧ Fr (One g) w w' := by
 go_enter Tryz.func191, Tryz.ntmps191
 go_wp2_with (with_reducible refine f0G (o := ⟨_, .alloc 241, _, _, _, _⟩) ?_)
 refine e0s rfl rfl l0N (bs (List.replicate 136 0)) (by simp [Value.cells]) ?_
 intro w1 hl1 hf1 hz1
 have hg1 := hg.keep hf1 id
 have hgl := hg.lt
 have hfr1 : Fr (One g) w w1 := (Fr.refl (One g) w).same hf1
 have hb0 : w.heap.size ≤ w1.heap.size := hf1.size
 generalize hgl0 : w.heap.size = gl at *
 have HGL := Lib.hid hgl0; clear hgl0
 clear hf1 hz1 hg
 have hc25 : w1.cell? ⟨g, 25, none⟩ = some (.int .i64 (k : Int)) := hg1.cell (i0f (S, k) hS)
 obtain ⟨vk, hck, hfk⟩ := hl1.ready (i := k) (by rw [a0M]; simpa using hk)
 have hkI : (k : Int) < 136 := by omega
 go_wp2_with (with_reducible refine wSk 15 ?_)
 have hl2 := hl1.set k (.int .u8 (e.toNat : Int))
 rw [h0L] at hl2
 have hg2 := hg1.other (g' := gl) k none (.int .u8 (e.toNat : Int)) ap13
 have hfr2 : Fr (One g) w (w1.setCell ⟨gl, k, none⟩ (.int .u8 (e.toNat : Int))) := hfr1.setCell gl k none _ (fun h => by have := HGL.out; omega)
 have hsz2 : gl < (w1.setCell ⟨gl, k, none⟩ (.int .u8 (e.toNat : Int))).heap.size := hl2.lt
 generalize w1.setCell ⟨gl, k, none⟩ (.int .u8 (e.toNat : Int)) = w2 at *
 clear hl1 hg1 hfr1 hc25 hck hfk hb0
 have hc135 : w2.cell? ⟨gl, 135, none⟩ = some (.int .u8 ((((List.replicate 136 (0 : UInt8)).set k e).getD 135 0).toNat : Int)) := hl2.cell (j0m _ _ ap14)
 have hf135 : w2.frozen? ⟨gl, 135, none⟩ = false := hl2.free _ (by rw [a0M]; simp)
 generalize hy : ((List.replicate 136 (0 : UInt8)).set k e).getD 135 0 = y at hc135
 have HY := Lib.hid hy; clear hy
 show wpList _ _ _ _ _ _
 go_wp2_with fail
 have hbx : bits BinOp.xor IntKind.u8 (y.toNat : Int) 128 = ((bx y 128).toNat : Int) := k0f y 128
 rw [hbx]
 have hl3 := hl2.set 135 (.int .u8 ((bx y 0x80).toNat : Int))
 rw [h0L, ← HY.out, y0w k e hk] at hl3
 rw [HY.out] at hl3
 have hg3 := hg2.other (g' := gl) 135 none (.int .u8 ((bx y 128).toNat : Int)) ap13
 have hfr3 : Fr (One g) w (w2.setCell ⟨gl, 135, none⟩ (.int .u8 ((bx y 128).toNat : Int))) := hfr2.setCell gl 135 none _ (fun h => by have := HGL.out; omega)
 generalize w2.setCell ⟨gl, 135, none⟩ (.int .u8 ((bx y 128).toNat : Int)) = w3 at *
 have hpl : (o0J k e).length = 136 - k := o0K k e hk
 have hne : g ≠ gl := by omega
 clear hl2 hg2 hfr2 hc135 hf135 hbx hsz2 HY
 have e1 : ∀ wx, (Instr.sliceAt 241 (.pointer (some ⟨gl, 0, none⟩)) none none none).run Tryz.prog wx = .ok (.slice (some ⟨gl, 0, none⟩) 136 136) wx := fun wx => j0c wx Tryz.underlying241 c0d gl 0
 refine wp_region_still_tail 4 ap11 ap11 ?_
 simp only [List.take_succ_cons, List.take_zero, List.drop_succ_cons, List.drop_zero]
 repeat still_step
 refine wpStill_nil ?_
 show wpList _ _ _ _ _ w3.drew
 go_wp2_with fail
 have hrd : RdB w3.drew (some ⟨gl, 0, none⟩) 136 (List.replicate k 0 ++ o0J k e) := by
  have := Rd.whole hl3.drew
  rwa [a0M, List.length_append, List.length_replicate, hpl, show k + (136 - k) = 136 by omega] at this
 refine (r0C g S [.int .i64 (k : Int)] 234 _ 136 _ _ _ hS ap13 hg3.drew hrd (fun x hx (e : x.block = g) => by simp only [Option.some.injEq] at hx; subst hx; simp at e; omega)).mono ?_
 rintro e w4 ⟨rfl, hg4, hf4, hz4⟩
 have hxb : f0W S (List.replicate k 0 ++ o0J k e) 136 = c0L S k (o0J k e) := by
  have := j0q S k (o0J k e) []
  rwa [List.append_nil, hpl, show k + (136 - k) = 136 by omega] at this
 rw [hxb, i0g] at hg4
 have hfr4 : Fr (One g) w w4 := hfr3.drew.trans hf4 (fun _ _ t => t)
 have hend : j0b (S, k) e = b0t (c0L S k (o0J k e)) := by
  unfold j0b
  rw [i0b _ _ _ (by simp only [hpl]; omega) hk]
 have hxl : (c0L S k (o0J k e)).length = 25 := by rw [i0a, hS]
 clear hl3 hg3 hfr3 e1 hrd hf4 hz4 hxb hpl
 generalize c0L S k (o0J k e) = X at *
 have HEND := Lib.hid hend; clear hend
 go_wp2_with fail
 refine (f0K g X k _ hxl hg4).mono ?_
 rintro e w5 ⟨rfl, hg5, hf5⟩
 have hfr5 : Fr (One g) w w5 := hfr4.trans hf5 (fun _ _ t => t)
 have hS5 : (b0t X).length = 25 := by rw [f0Y, hxl]
 generalize b0t X = S0 at *
 clear hg4 hfr4 hf5 hxl hS
 go_wp2_with fail
 go_loopw [8] (fun v wr => ∃ j, j ≤ e0Q n ∧ Own wr w.heap.size 5 1 v (136 * j) (bs (a0I S0 j)) ∧ Has wr g (abs (b0u S0 j, k)) 234 ∧ Fr (One g) w wr) (fun v _ => n - lenV v)
 case atStart => exact ⟨0, Nat.zero_le _, by rw [l0Q]; exact Own.nil _ _ _ _, by rw [q0t]; exact hg5, hfr5⟩
 case round =>
  obtain ⟨j, hj, hown, hgj, hfj⟩ := hrel
  clear hg5 hfr5
  have hjn := r0X n j
  obtain ⟨a, cap, rfl, hcap, hrdj, hna⟩ := hown.form
  by_cases hlt : 136 * j < n
  ·have hltI : 136 * (j : Int) < (n : Int) := by omega
   have hpj : (b0u S0 j).length = 25 := by rw [l0M, hS5]
   have hjp : j + 1 ≤ e0Q n := hjn.1 hlt
   have HJN := Lib.hid hjn; clear hjn
   have HLT := Lib.hid hlt; clear hlt
   clear hrdj hna
   go_wp2_with fail
   rw [← i0g] at hgj
   refine (r0D g (b0u S0 j) [.int .i64 (k : Int)] 234 136 _ hpj ap13 hgj).mono ?_
   rintro e w6 ⟨rfl, ht6, hf6, hz6⟩
   have hg6 := hgj.keep hf6 id
   rw [i0g] at hg6
   have hown6 := hown.still hf6
   have hfr6 : Fr (One g) w w6 := hfj.same hf6
   have hwb : w.heap.size ≤ wr.heap.size := hfj.size
   have hgb : g < w.heap.size := by have := HGL.out; omega
   generalize wr.heap.size = gt at *
   clear hgj hown hfj hf6
   go_wp2_with (with_reducible refine wSk 37 ?_)
   have hrd6 : Rd w6 (some ⟨gt, 0, none⟩) (136 * 1) (bs (toB (b0u S0 j) 136)) := by
    have := Rd.whole ht6
    rwa [a0M, b0j] at this
   refine d0c rfl rfl Tryz.underlying22 b0y rfl ap12 hown6 rfl rfl hrd6 (j0n _) ap8 ap13 hfr6.size ?_
   intro v7 w7 hown7 hf7 hb7
   have hg7 := hg6.keep hf7 (fun hh => by have := hown6.lt hh; omega)
   have hfr7 : Fr (One g) w w7 := hown6.fr hfr6 (Nat.le_refl _) hf7
   rw [← d0D, ← h0i] at hown7
   clear ht6 hg6 hown6 hfr6 hrd6 hf7 hb7
   go_wp2_with fail
   refine (f0K g _ k _ hpj hg7).mono ?_
   rintro e w8 ⟨rfl, hg8, hf8⟩
   rw [← j0r] at hg8
   have hown8 := hown7.keep hf8 (fun k' hk' (h : k' = g) => by have := hown7.lt hk'; omega)
   have hfr8 : Fr (One g) w w8 := hfr7.trans hf8 (fun _ _ t => t)
   clear hg7 hown7 hfr7 hf8
   go_wp2_with fail
   go_roundw
   case rel => exact ⟨j + 1, hjp, hown8, hg8, hfr8⟩
   case measure =>
    obtain ⟨a8, c8, rfl, _⟩ := hown8.form
    have := HLT.out
    simp [lenV]; omega
  ·have hge : ¬ (136 * (j : Int) < (n : Int)) := by omega
   have hjp : j = e0Q n := by have := hjn.2; omega
   have HJP := Lib.hid hjp; clear hjp
   have HJN := Lib.hid hjn; clear hjn
   have hnc : n ≤ cap := by omega
   have hnI : ¬ (n : Int) < 0 := by omega
   clear hgj
   go_wp2_with (with_reducible refine wSk 45 ?_)
   refine y0n rfl rfl Tryz.underlying22 c0d rfl 0 n n rfl rfl rfl rfl rfl (Nat.zero_le _) (Nat.le_refl _) hnc ?_
   go_wp2_with fail
   go_ret
   rw [r0P]
   refine ⟨_, rfl, ?_, hfj⟩
   have hsq : bs (y0t (j0b (S, k) e) n) = (bs (a0I S0 j)).take n := by
    rw [HEND.out, HJP.out, y0t, e0O]
   rw [hsq]
   exact y0v hown n ap13
end Go.Proofs.YtmebmhjppmfbbaaGreat


set_option maxHeartbeats 16000000
set_option maxRecDepth 1000000
namespace Mvp
def u0z (n : Nat) : List UInt8 := [UInt8.ofNat (n / 16777216), UInt8.ofNat (n / 65536), UInt8.ofNat (n / 256), UInt8.ofNat n]
def b0n (l : List UInt8) : List UInt8 := u0z l.length ++ l
def a0G (ls : List (List UInt8)) : List UInt8 := (ls.map b0n).flatten
theorem n0z : a0G [] = [] := rfl
theorem f0A (a b : List (List UInt8)) : a0G (a ++ b) = a0G a ++ a0G b := by simp [a0G]
theorem e0v (a : List UInt8) : a0G [a] = b0n a := by simp [a0G]
theorem l0R (a : List UInt8) (b : List (List UInt8)) : a0G (a :: b) = b0n a ++ a0G b := by simp [a0G]
end Mvp
namespace Go.Proofs.YtmebmhjppmfbbaaGreat
open Go.RowKit Go.Mv Mvp
attribute [local irreducible] b0t b0K toB a0w a0I b0u c0v a0K
theorem g0d (k : Nat) : ((UInt8.ofNat k).toNat : Int) = ((k % 256 : Nat) : Int) := by simp
theorem x0o (n : Nat) (h : n ≤ 1000000) : Value.int .u8 ((n : Int) / 16777216) = .int .u8 ((UInt8.ofNat (n / 16777216)).toNat : Int) := by
 rw [g0d]; congr 1; omega
theorem x0p (n : Nat) (h : n ≤ 1000000) : Value.int .u8 ((n : Int) / 65536) = .int .u8 ((UInt8.ofNat (n / 65536)).toNat : Int) := by
 rw [g0d]; congr 1; omega
theorem x0q (n : Nat) : Value.int .u8 ((n : Int) / 256 % 256) = .int .u8 ((UInt8.ofNat (n / 256)).toNat : Int) := by
 rw [g0d]; rfl
theorem x0r (n : Nat) : Value.int .u8 ((n : Int) % 256) = .int .u8 ((UInt8.ofNat n).toNat : Int) := by
 rw [g0d]; rfl
theorem k0s (n : Nat) : (u0z n).length = 4 := rfl
theorem l0S (g : Nat) (st : List UInt64 × Nat) (b : Option Addr) (n c : Nat) (l : List UInt8) (w : World) (hS : st.1.length = 25) (hat : st.2 < 136) (hn : n ≤ 1000000) (hnc : n ≤ c) (hg : Has w g (abs st) 234) (hb : RdB w b n l) (hbg : Off (One g) b) :
  Calls Tryz.prog 192 #[.pointer (some ⟨g, 0, none⟩), .slice b n c] w fun e w' => e = .returned (.tuple #[]) ∧ Has w' g (abs (c0B st (b0n l))) 234 ∧ Fr (One g) w w' := by
 go_enter Tryz.func192, Tryz.ntmps192
 go_wp2_with (with_reducible refine wSk 19 ?_)
 refine r0T rfl rfl Tryz.underlying22 b0y _ _ _ _ (x0o n hn) (x0p n hn) (x0q n) (x0r n) ?_
 intro w1 hh1 hf1 hz1
 have hh1' : Has w1 w.heap.size (bs (u0z n)) 5 := hh1
 have hg1 := hg.keep hf1 id
 have hb1 := hb.still hf1
 have hgl := hg.lt
 generalize w.heap.size = g4 at *
 clear hg hb hh1
 have hrd : RdB w1 (some ⟨g4, 0, none⟩) 4 (u0z n) := by
  have := Rd.whole hh1'
  rwa [a0M, k0s] at this
 go_wp2_with fail
 refine (i0h g st _ 4 4 (u0z n) w1 hS hat ap13 ap13 hg1 hrd (fun x hx (e : x.block = g) => by simp only [Option.some.injEq] at hx; subst hx; simp at e; omega)).mono ?_
 rintro e w2 ⟨rfl, hg2, hf2⟩
 have hb2 := hb1.keep hf2 hbg
 have hfr2 : Fr (One g) w w2 := ((Fr.refl (One g) w).same hf1).trans hf2 (fun _ _ t => t)
 clear hf1 hz1 hh1' hg1 hb1 hrd hf2
 go_wp2_with fail
 refine (i0h g (c0B st (u0z n)) b n c l w2 (by rw [f0Z, hS]) (k0o _ _ hat) hn hnc hg2 hb2 hbg).mono ?_
 rintro e w3 ⟨rfl, hg3, hf3⟩
 go_wp2_with fail
 go_end0
 rw [← d0E, ← hb2.len] at hg3
 exact ⟨rfl, hg3, hfr2.trans hf3 (fun _ _ t => t)⟩
theorem j0u (s : ByteArray) (w : World) (hs : s.size ≤ 1000000) :
  Calls Tryz.prog 172 #[.string s] w fun r w' => r = .returned (.string (mkS (b0n s.data.toList))) ∧ Fr Nob w w' := by
 go_enter Tryz.func172, Tryz.ntmps172
 go_wp2_with (with_reducible refine wSk 17 ?_)
 refine r0T rfl rfl Tryz.underlying22 b0y _ _ _ _ (x0o s.size hs) (x0p s.size hs) (x0q s.size) (x0r s.size) ?_
 intro w1 hh1 hf1 hz1
 have hrd : RdB w1 (some ⟨w.heap.size, 0, none⟩) 4 (u0z s.size) := Rd.whole hh1
 have e1 := j0p hrd 4 Tryz.underlying22 Tryz.underlying5 Tryz.underlying9
 have hcat : ¬ 9223372036854775807 < (mkS (u0z s.size)).size + s.size := by rw [a0A, k0s]; omega
 go_wp2_with fail
 go_ret
 refine ⟨?_, hf1⟩
 have : mkS (u0z s.size) ++ s = mkS (b0n s.data.toList) := by
  rw [b0n, ← g0O, c0J]; rfl
 exact congrArg (fun q => Ending.returned (.string q)) this
end Go.Proofs.YtmebmhjppmfbbaaGreat


set_option maxHeartbeats 16000000
set_option maxRecDepth 1000000
namespace Go.Proofs.YtmebmhjppmfbbaaGreat
open Go.RowKit Go.Mv Mvp
attribute [local irreducible] b0t b0K toB a0w a0I b0u
theorem l0T : Tryz.prog.built 234 [] = some (abs (a0B, 0)).toArray := by unfold abs; kernel_rfl
theorem y0x (l : List UInt8) : (c0B (a0B, 0) l).1.length = 25 ∧ (c0B (a0B, 0) l).2 < 136 := ⟨by rw [f0Z]; rfl, k0o _ _ ap12⟩
theorem j0v (b : Option Addr) (n c : Nat) (l : List UInt8) (m : Nat) (w : World) (hm : m ≤ 20000) (hn : n ≤ 1000000) (hnc : n ≤ c) (hb : RdB w b n l) (ho : Old w b) :
  Calls Tryz.prog 163 #[.slice b n c, .int .i64 (m : Int)] w fun r w' => ∃ v, r = .returned v ∧ Own w' w.heap.size 5 1 v m (bs (a0K l 31 m)) ∧ Fr Nob w w' := by
 go_enter Tryz.func163, Tryz.ntmps163
 go_wp2_with (with_reducible refine wSk 6 ?_)
 refine c0M rfl rfl _ l0T ?_
 refine j0s rfl rfl rfl (abs (a0B, 0)) rfl ?_
 intro w1 hg1 hf1 hz1
 have hb1 := hb.still hf1
 have hoff : Off (One w.heap.size) b := ho.off (Nat.le_refl _)
 generalize hgw : w.heap.size = g at *
 have HG := Lib.hid hgw; clear hgw
 clear hb ho
 go_wp2_with fail
 refine (i0h g (a0B, 0) b n c l w1 rfl ap12 hn hnc hg1 hb1 hoff).mono ?_
 rintro e w2 ⟨rfl, hg2, hf2⟩
 obtain ⟨h1, h2⟩ := y0x l
 have hfr2 : Fr Nob w w2 := hf1.new hf2 (by rw [HG.out]; exact Nat.le_refl _)
 generalize hst : c0B (a0B, 0) l = st at *
 have HST := Lib.hid hst; clear hst
 clear hg1 hf1 hz1 hb1 hf2
 go_wp2_with fail
 refine (r0Y g st.1 st.2 31 m w2 h1 h2 hm hg2).mono ?_
 rintro e w3 ⟨v, rfl, hown, hf3⟩
 go_wp2_with fail
 go_ret
 refine ⟨v, rfl, ?_, hfr2.new hf3 (by rw [HG.out]; exact Nat.le_refl _)⟩
 have := hown.mono (base' := g) (by have := hg2.lt; omega)
 rw [← HST.out] at this
 rw [HG.out]
 exact this
theorem q0u (b : Option Addr) (n c : Nat) (l : List UInt8) (m : Int) (w : World) (hn : n ≤ 1000000) (hnc : n ≤ c) (hb : RdB w b n l) (ho : Old w b) :
  Calls Tryz.prog 107 #[.slice b n c, .int .i64 m] w fun r w' => (0 ≤ m ∧ m ≤ 16384 ∧ ∃ v, r = .returned (.tuple #[v, .int .i64 0]) ∧ Own w' w.heap.size 5 1 v m.toNat (bs (a0K l 31 m.toNat)) ∧ Fr Nob w w') ∨ (¬ (0 ≤ m ∧ m ≤ 16384) ∧ r = .returned (.tuple #[.slice none 0 0, .int .i64 1]) ∧ Fr Nob w w') := by
 go_enter Tryz.func107, Tryz.ntmps107
 by_cases h0 : m < 0
 ·go_wp2_with fail
  go_ret2
  exact .inr ⟨by omega, rfl, Fr.refl _ _⟩
 ·by_cases h1 : 16384 < m
  ·go_wp2_with fail
   go_ret2
   first | exact .inr ⟨by omega, rfl, Fr.refl _ _⟩ | exact .inr ⟨rfl, Fr.refl _ _⟩ | exact .inr (Fr.refl _ _) | exact ⟨rfl, Fr.refl _ _⟩ | exact Fr.refl _ _
  ·obtain ⟨k, rfl⟩ : ∃ k : Nat, m = k := ⟨m.toNat, by omega⟩
   go_wp2_with fail
   refine (j0v b n c l k w ap13 hn hnc hb ho).mono ?_
   rintro e w3 ⟨v, rfl, hown, hf3⟩
   go_wp2_with fail
   go_ret2
   exact .inl ⟨by omega, by omega, v, rfl, by simpa using hown, hf3⟩
end Go.Proofs.YtmebmhjppmfbbaaGreat


set_option maxHeartbeats 16000000
set_option maxRecDepth 1000000
namespace Go.Proofs.YtmebmhjppmfbbaaGreat
open Go.RowKit Go.Mv Mvp
attribute [local irreducible] b0t b0K toB a0w a0I b0u c0v a0K
def PartIs (w : World) (v : Value) (l : List UInt8) : Prop := ∃ a n c, v = .slice a n c ∧ n ≤ c ∧ n ≤ 1000000 ∧ RdB w a n l ∧ Old w a
theorem PartIs.still {w w' : World} {v : Value} {l : List UInt8} (h : PartIs w v l) (hf : Fr Nob w w') : PartIs w' v l := by
 obtain ⟨a, n, c, h1, h2, h3, h4, h5⟩ := h
 exact ⟨a, n, c, h1, h2, h3, h4.still hf, h5.grow hf.size⟩
def PartsAt (w : World) (a : Option Addr) (ls : List (List UInt8)) : Prop := ∃ vs : List Value, Rd w a ls.length vs ∧ ∀ (i : Nat) (v : Value), vs[i]? = some v → ∃ l : List UInt8, ls[i]? = some l ∧ PartIs w v l
theorem PartsAt.get {w : World} {a : Option Addr} {ls : List (List UInt8)} (h : PartsAt w a ls) {j : Nat} (hj : j < ls.length) : ∃ b o v, a = some ⟨b, o, none⟩ ∧ w.cell? ⟨b, o + j, none⟩ = some v ∧ PartIs w v (ls.getD j []) := by
 obtain ⟨vs, hr, hv⟩ := h
 obtain ⟨b, o, rfl, hat⟩ := hr.at ap13
 have hl := hr.len
 obtain ⟨l, h1, h2⟩ := hv j (vs[j]'ap13) (List.getElem?_eq_getElem ap13)
 refine ⟨b, o, vs[j]'ap13, rfl, hat j _ (List.getElem?_eq_getElem ap13), ?_⟩
 rwa [List.getD_eq_getElem?_getD, h1]
theorem PartsAt.still {w w' : World} {a : Option Addr} {ls : List (List UInt8)} (h : PartsAt w a ls) (hf : Fr Nob w w') : PartsAt w' a ls := by
 obtain ⟨vs, hr, hv⟩ := h
 refine ⟨vs, hr.still hf, fun i v hi => ?_⟩
 obtain ⟨l, h1, h2⟩ := hv i v hi
 exact ⟨l, h1, h2.still hf⟩
def i0k (s : List UInt8) (ls : List (List UInt8)) : List UInt8 := a0G (s :: ls)
def c0G (s : List UInt8) (ls : List (List UInt8)) : List UInt8 := a0K (i0k s ls) 6 32
theorem z25 : ((a0B, 0) : List UInt64 × Nat).1.length = 25 := rfl
attribute [local irreducible] c0B b0n a0G abs a0B
theorem r0Z (s : ByteArray) (a : Option Addr) (c : Nat) (ls : List (List UInt8)) (w : World) (hs : s.size ≤ 1000000) (hm : ls.length ≤ 1000000) (hb : PartsAt w a ls) :
  Calls Tryz.prog 164 #[.string s, .slice a ls.length c] w fun r w' => ∃ v, r = .returned v ∧ Own w' w.heap.size 5 1 v 32 (bs (c0G s.data.toList ls)) ∧ Fr Nob w w' := by
 go_enter Tryz.func164, Tryz.ntmps164
 go_wp2_with (with_reducible refine wSk 8 ?_)
 refine c0M rfl rfl _ l0T ?_
 refine j0s rfl rfl rfl (abs (a0B, 0)) rfl ?_
 intro w1 hg1 hf1 hz1
 clear hz1
 have hst1 := z25
 have hst2 : ((a0B, 0) : List UInt64 × Nat).2 < 136 := Nat.zero_lt_succ _
 obtain ⟨st0, hst0⟩ : ∃ st0 : List UInt64 × Nat, st0 = (a0B, 0) := ⟨_, rfl⟩
 rw [← hst0] at hg1 hst1 hst2
 have HST0 := Lib.hid hst0; clear hst0
 generalize hgw : w.heap.size = g at *
 have HG := Lib.hid hgw; clear hgw
 go_wp2_with (with_reducible refine wSk 12 ?_)
 refine c0K rfl rfl Tryz.underlying9 Tryz.underlying22 Tryz.underlying5 rfl ap8 w1.heap.size (Nat.le_refl _) ?_
 intro cap w2 hown2 hf2 hz2
 have hg2 := hg1.keep hf2 id
 have hfr2 := hf1.then hf2
 have hgl := hg1.lt
 obtain ⟨a2, c2, hv2, hc2, hrd2, -⟩ := hown2.form
 cases hv2
 rw [Nat.mul_one] at hrd2
 go_wp2_with fail
 have hoff0 : Off (One g) (some (⟨w1.heap.size, 0, none⟩ : Addr)) := fun x hx (e : x.block = g) => by
  cases hx
  exact absurd e (by show ¬ (w1.heap.size = g); omega)
 have hcall := l0S g st0 (some ⟨w1.heap.size, 0, none⟩) s.size cap s.data.toList w2 hst1 hst2 hs hc2 hg2 hrd2 hoff0
 refine hcall.mono ?_
 rintro e w3 ⟨rfl, hg3, hf3⟩
 have hfr3 : Fr Nob w w3 := hfr2.new hf3 (by rw [HG.out]; exact Nat.le_refl _)
 clear hg1 hf1 hown2 hf2 hz2 hg2 hfr2 hrd2 hf3 hgl
 go_wp2_with fail
 go_loopw [16] (fun i wr => ∃ j : Nat, j ≤ ls.length ∧ i = .int .i64 (j : Int) ∧ Has wr g (abs (c0B st0 (a0G (s.data.toList :: ls.take j)))) 234 ∧ Fr Nob w wr) (fun i _ => (ls.length - intOf i).toNat)
 case atStart => exact ⟨0, by omega, rfl, by rw [List.take_zero, e0v]; exact hg3, hfr3⟩
 case round =>
  obtain ⟨j, hj, rfl, hgj, hfj⟩ := hrel
  clear hg3 hfr3
  by_cases hlt : j < ls.length
  ·have hltI : (j : Int) < (ls.length : Int) := by omega
   obtain ⟨b, o, v, rfl, hc, hp⟩ := (hb.still hfj).get hlt
   obtain ⟨b', o', v', hv', hc', hp'⟩ := hb.get hlt
   simp only [Option.some.injEq, Addr.mk.injEq] at hv'
   obtain ⟨rfl, rfl, -⟩ := hv'
   have hvv : v = v' := by
    have := hfj.cell id hc'
    rw [hc] at this; simpa using this
   subst hvv
   obtain ⟨ap, np, cp, rfl, hp1, hp2, hp3, hp4⟩ := hp'
   have hr3 := hp3.still hfj
   clear hp
   have hoff : Off (One g) ap := hp4.off (by rw [HG.out]; exact Nat.le_refl _)
   go_wp2_with fail
   have hSj : (c0B st0 (a0G (s.data.toList :: ls.take j))).1.length = 25 := by rw [f0Z, hst1]
   have hkj := k0o (a0G (s.data.toList :: ls.take j)) st0 hst2
   refine (l0S g (c0B st0 (a0G (s.data.toList :: ls.take j))) ap np cp (ls.getD j []) wr hSj hkj hp2 hp1 hgj hr3 hoff).mono ?_
   rintro e w4 ⟨rfl, hg4, hf4⟩
   have hfr4 : Fr Nob w w4 := hfj.new hf4 (by rw [HG.out]; exact Nat.le_refl _)
   rw [← d0E] at hg4
   have hfl : a0G (s.data.toList :: ls.take j) ++ b0n (ls.getD j []) = a0G (s.data.toList :: ls.take (j + 1)) := by
    rw [List.take_succ_eq_append_getElem hlt, ← List.cons_append, f0A, e0v, List.getD_eq_getElem?_getD, List.getElem?_eq_getElem hlt]; rfl
   rw [hfl] at hg4
   clear hSj hkj hr3 hgj hfj hf4 hfl
   go_wp2_with fail
   go_roundw
   case rel => exact ⟨j + 1, by omega, by go_num, hg4, hfr4⟩
   case measure => simp [intOf]; omega
  ·have hge : ¬ ((j : Int) < (ls.length : Int)) := by omega
   have hjn : j = ls.length := by omega
   have hSj : (c0B st0 (a0G (s.data.toList :: ls.take j))).1.length = 25 := by rw [f0Z, hst1]
   have hkj := k0o (a0G (s.data.toList :: ls.take j)) st0 hst2
   have hft : a0G (s.data.toList :: ls.take j) = i0k s.data.toList ls := by rw [hjn, List.take_length]; rfl
   rw [hft] at hgj hSj hkj
   generalize hst : c0B st0 (i0k s.data.toList ls) = st at *
   have HST := Lib.hid hst; clear hst
   have HJN := Lib.hid hjn; clear hjn
   clear hft
   go_wp2_with fail
   refine (r0Y g st.1 st.2 6 32 wr hSj hkj ap13 hgj).mono ?_
   rintro e w4 ⟨v, rfl, hown, hf4⟩
   go_wp2_with fail
   go_ret
   refine ⟨v, rfl, ?_, hfj.new hf4 (by rw [HG.out]; exact Nat.le_refl _)⟩
   have := hown.mono (base' := g) (by have := hgj.lt; omega)
   rw [HG.out]
   unfold c0G a0K
   rw [← HST0.out, HST.out]
   exact this
theorem y0y (s : ByteArray) (a : Option Addr) (c : Nat) (ls : List (List UInt8)) (w : World) (hs : s.size ≤ 1000000) (hm : ls.length ≤ 1000000) (hb : PartsAt w a ls) :
  Calls Tryz.prog 108 #[.string s, .slice a ls.length c] w fun r w' => ∃ v, r = .returned v ∧ Own w' w.heap.size 5 1 v 32 (bs (c0G s.data.toList ls)) ∧ Fr Nob w w' := by
 go_enter Tryz.func108, Tryz.ntmps108
 go_wp2_with fail
 refine (r0Z s a c ls w hs hm hb).mono ?_
 rintro e w4 ⟨v, rfl, hown, hf4⟩
 go_wp2_with fail
 go_ret
 exact ⟨v, rfl, hown, hf4⟩
end Go.Proofs.YtmebmhjppmfbbaaGreat


namespace Go.Proofs.YtmebmhjppmfbbaaGreat
open Go.RowKit Go.Mv Mvp
end Go.Proofs.YtmebmhjppmfbbaaGreat


set_option maxHeartbeats 16000000
set_option maxRecDepth 1000000
namespace Go.Proofs.YtmebmhjppmfbbaaGreat
open Go.RowKit Go.Mv Mvp
attribute [local irreducible] b0t b0K toB a0w a0I b0u c0v a0K
theorem s0a (s : ByteArray) (w : World) (hs : s.size ≤ 1000000) :
  Calls Tryz.prog 173 #[.string s] w fun r w' => r = .returned (.string (mkS (a0K s.data.toList 6 32))) ∧ Fr Nob w w' := by
 go_enter Tryz.func173, Tryz.ntmps173
 go_wp2_with fail
 refine (i0j s 6 32 w hs ap13).mono ?_
 rintro e w3 ⟨rfl, hf3⟩
 go_wp2_with fail
 go_ret
 exact ⟨rfl, hf3⟩
theorem n0A (s : ByteArray) (n : Nat) (w : World) (hs : s.size ≤ 1000000) (hn : n ≤ 20000) :
  Calls Tryz.prog 118 #[.string s, .int .i64 (n : Int)] w fun r w' => r = .returned (.string (mkS (a0K s.data.toList 31 n))) ∧ Fr Nob w w' := by
 go_enter Tryz.func118, Tryz.ntmps118
 go_wp2_with fail
 refine (i0j s 31 n w hs hn).mono ?_
 rintro e w3 ⟨rfl, hf3⟩
 go_wp2_with fail
 go_ret
 exact ⟨rfl, hf3⟩
theorem g0e {w : World} {base : Nat} {T : TypeId} {v : Value} {n : Nat} {l : List UInt8} (h : Own w base T 1 v n (bs l)) : ∃ a c, v = .slice a n c ∧ RdB w a n l := by
 obtain ⟨a, c, hv, _, hr, _⟩ := h.form
 rw [Nat.mul_one] at hr
 exact ⟨a, c, hv, hr⟩
end Go.Proofs.YtmebmhjppmfbbaaGreat


set_option maxHeartbeats 16000000
set_option maxRecDepth 1000000
namespace Go.Mv
open Go.RowKit Go.ChangeShapes Go.WideShapes
def ss (l : List (List UInt8)) : List Value := l.map fun x => .string (mkS x)
theorem A0D (l : List (List UInt8)) : (ss l).length = l.length := by simp [ss]
theorem A0E (l : List (List UInt8)) (i : Nat) (hi : i < l.length) : (ss l)[i]? = some (.string (mkS (l.getD i []))) := by
 simp [ss, List.getD_eq_getElem?_getD, hi]
section
variable {H : Type} {enc : TypeId × Value → H} {P : Program} {w : World} {base : Nat} {held : Bool} {spare : Nat → Bool}
end
end Go.Mv


set_option maxHeartbeats 16000000
set_option maxRecDepth 1000000
namespace Go.Proofs.YtmebmhjppmfbbaaGreat
open Go.RowKit Go.Mv Mvp
attribute [local irreducible] b0t b0K toB a0w a0I b0u c0v a0K c0B b0n a0G
theorem j0w (l : List UInt8) : (b0n l).length = 4 + l.length := by unfold b0n; simp [k0s]
def i0Y (ls : List (List UInt8)) : Nat := (ls.map List.length).foldr (· + ·) 0
theorem i0l (a b : List (List UInt8)) : i0Y (a ++ b) = i0Y a + i0Y b := by
 induction a with
 | nil => simp [i0Y]
 | cons x a ih => simp only [i0Y, List.cons_append, List.map_cons, List.foldr_cons] at *; omega
theorem n0B (ls : List (List UInt8)) : (a0G ls).length = 4 * ls.length + i0Y ls := by
 induction ls with
 | nil => rw [n0z]; rfl
 | cons a b ih => rw [l0R, List.length_append, j0w, ih, List.length_cons]; simp only [i0Y, List.map_cons, List.foldr_cons]; omega
theorem s0b (ls : List (List UInt8)) (j : Nat) : i0Y (ls.take j) ≤ i0Y ls := by
 have := i0l (ls.take j) (ls.drop j)
 rw [List.take_append_drop] at this; omega
theorem u0V (ls : List (List UInt8)) (j : Nat) (hj : j < ls.length) : (ls.getD j []).length ≤ i0Y ls := by
 have h1 := i0l (ls.take j) (ls.drop j)
 rw [List.take_append_drop, List.drop_eq_getElem_cons hj] at h1
 have h2 : i0Y (ls[j] :: ls.drop (j + 1)) = ls[j].length + i0Y (ls.drop (j + 1)) := by simp only [i0Y, List.map_cons, List.foldr_cons]
 have h3 : ls.getD j [] = ls[j] := by simp [List.getD_eq_getElem?_getD, hj]
 rw [h3]; omega
theorem u0W (s : ByteArray) (a : Option Addr) (c : Nat) (ls : List (List UInt8)) (w : World) (hs : s.size + i0Y ls ≤ 100000) (hm : ls.length ≤ 1000) (hb : Rd w a ls.length (ss ls)) :
  Calls Tryz.prog 119 #[.string s, .slice a ls.length c] w fun r w' => r = .returned (.string (mkS (c0G s.data.toList ls))) ∧ Fr Nob w w' := by
 go_enter Tryz.func119, Tryz.ntmps119
 go_wp2_with fail
 refine (j0u s w ap13).mono ?_
 rintro e w1 ⟨rfl, hf1⟩
 have hsl : s.data.toList.length = s.size := f0R s
 go_wp2_with fail
 go_loopw [6, 5] (fun i q wr => ∃ j : Nat, j ≤ ls.length ∧ i = .int .i64 (j : Int) ∧ q = .string (mkS (a0G (s.data.toList :: ls.take j))) ∧ Fr Nob w wr) (fun i _ _ => (ls.length - intOf i).toNat)
 case atStart => exact ⟨0, by omega, rfl, by rw [List.take_zero, e0v], hf1⟩
 case round =>
  obtain ⟨j, hj, rfl, rfl, hfj⟩ := hrel
  clear hf1
  have hql : (mkS (a0G (s.data.toList :: ls.take j))).size ≤ 200000 := by
   rw [a0A, n0B]
   have h1 := s0b ls j
   have h2 : i0Y (s.data.toList :: ls.take j) = s.data.toList.length + i0Y (ls.take j) := by simp [i0Y]
   rw [h2, List.length_cons, List.length_take]; omega
  by_cases hlt : j < ls.length
  ·have hltI : (j : Int) < (ls.length : Int) := by omega
   obtain ⟨b, o, rfl, hat⟩ := (hb.still hfj).at ap13
   have hc : wr.cell? ⟨b, o + j, none⟩ = some (.string (mkS (ls.getD j []))) := hat j _ (A0E ls j hlt)
   have hxl := u0V ls j hlt
   have hfl : a0G (s.data.toList :: ls.take j) ++ b0n (ls.getD j []) = a0G (s.data.toList :: ls.take (j + 1)) := by
    rw [List.take_succ_eq_append_getElem hlt, ← List.cons_append, f0A, e0v, List.getD_eq_getElem?_getD, List.getElem?_eq_getElem hlt]; rfl
   have hcat : ¬ 9223372036854775807 < (mkS (a0G (s.data.toList :: ls.take j))).size + (mkS (b0n (ls.getD j []))).size := by
    rw [a0A (b0n _), j0w]; omega
   generalize hx : ls.getD j [] = x at *
   have HX := Lib.hid hx; clear hx
   have hfl2 := hfl
   have HFL := Lib.hid hfl2; clear hfl hfl2
   generalize hq : mkS (a0G (s.data.toList :: ls.take j)) = q at *
   have HQ := Lib.hid hq; clear hq
   have HQL := Lib.hid hql; clear hql
   have HSL := Lib.hid hsl; clear hsl
   clear hat
   go_wp2_with fail
   refine (j0u (mkS x) wr (by rw [a0A]; omega)).mono ?_
   rintro e w4 ⟨rfl, hf4⟩
   rw [a0T]
   have hfr4 := hfj.then hf4
   clear hfj hf4
   go_wp2_with fail
   go_roundw
   case rel => exact ⟨j + 1, by omega, by go_num, by rw [← HQ.out, g0O, HFL.out], hfr4⟩
   case measure => simp [intOf]; omega
  ·have hge : ¬ ((j : Int) < (ls.length : Int)) := by omega
   have hjn : j = ls.length := by omega
   have hft : a0G (s.data.toList :: ls.take j) = i0k s.data.toList ls := by rw [hjn, List.take_length]; rfl
   rw [hft] at hql ⊢
   have HJN := Lib.hid hjn; clear hjn
   clear hft
   go_wp2_with fail
   refine (s0a (mkS (i0k s.data.toList ls)) wr ap13).mono ?_
   rintro e w4 ⟨rfl, hf4⟩
   rw [a0T]
   go_wp2_with fail
   go_ret
   exact ⟨rfl, hfj.then hf4⟩
end Go.Proofs.YtmebmhjppmfbbaaGreat


set_option maxHeartbeats 16000000
set_option maxRecDepth 1000000
namespace Go.Mv
open Go.RowKit
variable {P : Program}
theorem Own.ne {w : World} {base sz n g : Nat} {T T' : TypeId} {v : Value} {L L' : List Value} (h : Own w base T sz v n L) (hg : Has w g L' T') (hT : T ≠ T') : ¬ k0c v g := by
 intro hv
 obtain ⟨_, ⟨rfl, _⟩ | ⟨g', o, cap, B, rfl, _, hg', _⟩⟩ := h
 ·cases hv
 ·have : g' = g := by simpa [k0c, Value.ownBlock] using hv
  subst this
  obtain ⟨_, _, h1, _⟩ := hg
  obtain ⟨_, _, h2, _⟩ := hg'
  rw [h1] at h2
  simp at h2
  exact hT h2.2.1.symm
end Go.Mv


set_option maxHeartbeats 16000000
set_option maxRecDepth 1000000
namespace Go.Mv
open Go.RowKit
variable {P : Program}
theorem c0n {w : World} {ops : Array Oper} {rest : List Oper} {o : Oper} {a : Act} {Q : Exit → Act → World → Prop} {t e : TypeId} {k : Nat} {parts : Array (Nat × Operand)} (hgd : o.guard = none) (ho : o.op = .buildSlice t k parts)
  (hu : P.underlying t = some (.slice e)) {z : Value} {by_ : Nat} (hi0 : (P.info? e).map (fun i => (i.zero, i.size, i.bytes)) = some (some z, 1, by_)) (vs : List Value) (hp : (parts.toList.map fun p => (p.1, a.eval p.2)) = (vs.zipIdx 0).map fun x => (x.2, x.1))
  (hv : ∀ v ∈ vs, v.cells = #[v]) (hk : vs.length = k) (hz : z.cells.size = 1)
  (h : ∀ w', Has w' w.heap.size vs e → Fr Nob w w' → w'.heap.size = w.heap.size + 1 → wpList P ops Q rest (a.put o.dst (.slice (some ⟨w.heap.size, 0, none⟩) k k)) w') (hk0 : 0 < k := by decide) (hk24 : k ≤ 16777216 := by decide) : wpList P ops Q (o :: rest) a w := by
 have _hz := hz
 obtain ⟨i, hi, hz0⟩ : ∃ i, P.info? e = some i ∧ (i.zero, i.size, i.bytes) = (some z, 1, by_) := by simpa using hi0
 simp only [Prod.mk.injEq] at hz0
 obtain ⟨hz1, hsz, hby⟩ := hz0
 have hf : Instr.fill (fun j => some (j * i.size, i.size)) ((Array.range (k * i.size)).map (z.cells[· % z.cells.size]!)) (parts.map fun (i, x) => (i, a.eval x)).toList = some vs.toArray := by
  rw [show (parts.map fun (i, x) => (i, a.eval x)).toList = (parts.toList.map fun p => (p.1, a.eval p.2)) by simp, hp, hsz]
  exact Great.fill_flat vs _ hv (by simp [hk])
 exact wpList_buildSlice hgd t e k _ ho _ i _ hu hi hz1 (by rw [hsz]; omega) (by rw [hsz]; omega) hf (h _ (Has.new w vs.toArray e) ((Fr.refl _ w).alloc _) ap14)
theorem a0X {w : World} {ops : Array Oper} {rest : List Oper} {o : Oper} {a : Act} {Q : Exit → Act → World → Prop} {t : TypeId} {parts : Array (Nat × Operand)} (hgd : o.guard = none) (ho : o.op = .build t parts) (cells : Array Value)
  (hb : P.built t (parts.toList.map fun p => (p.1, a.eval p.2)) = some cells) (h : wpList P ops Q rest (a.put o.dst (.agg cells)) w) : wpList P ops Q (o :: rest) a w :=
 o0M hgd ho cells (by rw [show (parts.map fun (i, x) => (i, a.eval x)).toList = (parts.toList.map fun p => (p.1, a.eval p.2)) by simp]; exact hb) h
theorem k0t {w : World} {ops : Array Oper} {rest : List Oper} {o : Oper} {a : Act} {Q : Exit → Act → World → Prop} {ty : TypeId} {x : Operand} (hgd : o.guard = none) (ho : o.op = .load ty x) {d : TypeDesc} (hu : P.underlying ty = some d) (hd : d.isRow = true) {g p : Nat} (hx : a.eval x = .pointer (some ⟨g, p, none⟩))
  {cs : List Value} (hg : At w g p cs) (hi : (P.info? ty).map (·.size) = some cs.length)
  (h : wpList P ops Q rest (a.put o.dst (.agg cs.toArray)) w) : wpList P ops Q (o :: rest) a w :=
 wpList_load_mid hgd ty x ho g p hx cs d (fun j v hv => hg j v hv) hu hd hi h
end Go.Mv


set_option maxHeartbeats 16000000
set_option maxRecDepth 1000000
namespace Go.Proofs.YtmebmhjppmfbbaaGreat
open Go.RowKit Go.Mv Mvp
attribute [local irreducible] b0t b0K toB a0w a0I b0u c0v a0K c0B b0n a0G c0G
theorem k0u : (Tryz.prog.info? 22).map (fun i => (i.zero, i.size, i.bytes)) = some (some (.slice none 0 0), 1, 24) := by kernel_rfl
theorem h0B : (Tryz.prog.info? 9).map (fun i => (i.zero, i.size, i.bytes)) = some (some (.string ByteArray.empty), 1, 16) := by kernel_rfl
def Parts (w : World) : List Value → List (List UInt8) → Prop
 | [], [] => True
 | v :: vs, l :: ls => PartIs w v l ∧ Parts w vs ls
 | _, _ => False
theorem Parts.len {w : World} : ∀ {vs : List Value} {ls : List (List UInt8)}, Parts w vs ls → vs.length = ls.length
 | [], [], _ => rfl
 | _ :: _, _ :: _, h => by simp only [List.length_cons]; rw [Parts.len h.2]
 | [], _ :: _, h => h.elim
 | _ :: _, [], h => h.elim
theorem Parts.get {w : World} : ∀ {vs : List Value} {ls : List (List UInt8)}, Parts w vs ls → ∀ (i : Nat) (v : Value), vs[i]? = some v → ∃ l : List UInt8, ls[i]? = some l ∧ PartIs w v l
 | [], [], _, i, v, h => by simp at h
 | x :: vs, l :: ls, h, 0, v, hv => by simp only [List.getElem?_cons_zero, Option.some.injEq] at hv; subst hv; exact ⟨l, rfl, h.1⟩
 | x :: vs, l :: ls, h, i + 1, v, hv => by simp only [List.getElem?_cons_succ] at hv ⊢; exact Parts.get h.2 i v hv
 | [], _ :: _, h, _, _, _ => h.elim
 | _ :: _, [], h, _, _, _ => h.elim
theorem Parts.at {w : World} {g : Nat} {T : TypeId} {vs : List Value} {ls : List (List UInt8)} (h : Parts w vs ls) (hg : Has w g vs T) : PartsAt w (some ⟨g, 0, none⟩) ls :=
 ⟨vs, by have := Rd.whole hg; rwa [h.len] at this, h.get⟩
theorem Parts.cells {w : World} : ∀ {vs : List Value} {ls : List (List UInt8)}, Parts w vs ls → ∀ v ∈ vs, v.cells = #[v]
 | [], _, _, v, h => by simp at h
 | x :: vs, l :: ls, h, v, hv => by
  rcases List.mem_cons.1 hv with rfl | hv
  ·obtain ⟨a, n, c, rfl, _⟩ := h.1; rfl
  ·exact Parts.cells h.2 v hv
 | _ :: _, [], h, _, _ => h.elim
theorem b0Y {w : World} {base n : Nat} {T : TypeId} {v : Value} {l : List UInt8} (h : Own w base T 1 v n (bs l)) (hn : n ≤ 1000000) : PartIs w v l := by
 have h0 := h
 obtain ⟨a, c, rfl, hc, hr, -⟩ := h.form
 rw [Nat.mul_one] at hr
 refine ⟨a, n, c, rfl, hc, hn, hr, ?_⟩
 intro x hx
 exact (h0.lt (by rw [hx]; rfl)).2
def LogAt (w : World) (base g : Nat) (l : List UInt8) : Prop := ∃ v, Has w g [v] 228 ∧ Own w base 5 1 v 32 (bs l)
theorem LogAt.still {w w' : World} {base g : Nat} {l : List UInt8} (h : LogAt w base g l) (hf : Fr Nob w w') : LogAt w' base g l := by
 obtain ⟨v, h1, h2⟩ := h; exact ⟨v, h1.keep hf id, h2.still hf⟩
theorem LogAt.other {w w' : World} {base g g' : Nat} {l : List UInt8} (h : LogAt w base g l) (hf : Fr (One g') w w') (hne : g ≠ g') {L : List Value} {T : TypeId} (hg : Has w g' L T) (hT : 5 ≠ T) : LogAt w' base g l := by
 obtain ⟨v, h1, h2⟩ := h
 exact ⟨v, h1.keep hf hne, h2.keep hf (fun k hk (e : k = g') => h2.ne hg hT (e ▸ hk))⟩
theorem LogAt.lt {w : World} {base g : Nat} {l : List UInt8} (h : LogAt w base g l) : g < w.heap.size := by obtain ⟨v, h1, _⟩ := h; exact h1.lt
def RLogAt (w : World) (g : Nat) (l : List UInt8) : Prop := Has w g [.string (mkS l)] 195
theorem s0c (a : Option Addr) (n c : Nat) : Tryz.prog.built 228 [(0, .slice a n c)] = some #[.slice a n c] := by kernel_rfl
theorem q0v (s : ByteArray) : Tryz.prog.built 195 [(0, .string s)] = some #[.string s] := by kernel_rfl
def u0X : List UInt8 := [108, 111, 103]
def s0d : List UInt8 := [115, 97, 121]
def s0e : List UInt8 := [97, 115, 107]
def h0j : List UInt8 := [97, 115, 107, 101, 100]
theorem s0f : (⟨#[108, 111, 103]⟩ : ByteArray) = mkS u0X := rfl
theorem s0g : (⟨#[115, 97, 121]⟩ : ByteArray) = mkS s0d := rfl
theorem s0h : (⟨#[97, 115, 107]⟩ : ByteArray) = mkS s0e := rfl
theorem l0U : (⟨#[97, 115, 107, 101, 100]⟩ : ByteArray) = mkS h0j := rfl
theorem g0f (k : List UInt8) (ls : List (List UInt8)) : (c0G k ls).length = 32 := by unfold c0G; exact i0c _ _ _
theorem o0N (k : List UInt8) (hk : k.length ≤ 100) (g c : Nat) (vs : List Value) (ls : List (List UInt8)) (w : World) (hh : Has w g vs 22) (hp : Parts w vs ls) (hm : ls.length ≤ 1000000) :
  Calls Tryz.prog 164 #[.string (mkS k), .slice (some ⟨g, 0, none⟩) ls.length c] w fun r w' => ∃ v, r = .returned v ∧ Own w' w.heap.size 5 1 v 32 (bs (c0G k ls)) ∧ Fr Nob w w' := by
 have := r0Z (mkS k) (some ⟨g, 0, none⟩) c ls w (by rw [a0A]; omega) hm (hp.at hh)
 rwa [a0T] at this
theorem k0v (k : List UInt8) (g c : Nat) (ls : List (List UInt8)) (w : World) (hh : Has w g (ss ls) 9) (hs : k.length + i0Y ls ≤ 100000) (hm : ls.length ≤ 1000) :
  Calls Tryz.prog 119 #[.string (mkS k), .slice (some ⟨g, 0, none⟩) ls.length c] w fun r w' => r = .returned (.string (mkS (c0G k ls))) ∧ Fr Nob w w' := by
 have hr := Rd.whole hh
 rw [A0D] at hr
 have := u0W (mkS k) (some ⟨g, 0, none⟩) c ls w (by rw [a0A]; exact hs) hm hr
 rwa [a0T] at this
theorem q0w (s : ByteArray) (w : World) (hs : s.size ≤ 1000000) :
  Calls Tryz.prog 149 #[.string s] w fun r w' => ∃ g, r = .returned (.pointer (some ⟨g, 0, none⟩)) ∧ w.heap.size ≤ g ∧ LogAt w' w.heap.size g (c0G u0X [s.data.toList]) ∧ Fr Nob w w' := by
 go_enter Tryz.func149, Tryz.ntmps149
 go_wp2_with (with_reducible refine wSk 4 ?_)
 refine c0K rfl rfl Tryz.underlying9 Tryz.underlying22 Tryz.underlying5 rfl ap8 w.heap.size (Nat.le_refl _) ?_
 intro cap w1 hown1 hf1 hz1
 clear hz1
 go_wp2_with (with_reducible refine wSk 5 ?_)
 refine c0n rfl rfl Tryz.underlying39 k0u [.slice (some ⟨w.heap.size, 0, none⟩) s.size cap] rfl (by simp; rfl) rfl rfl ?_
 intro w2 hh2 hf2 hz2
 clear hz2
 have hfr2 := hf1.then hf2
 have hp2 : Parts w2 [.slice (some ⟨w.heap.size, 0, none⟩) s.size cap] [s.data.toList] := ⟨b0Y (hown1.still hf2) hs, trivial⟩
 clear hown1 hf1 hf2
 have hb2 : w.heap.size ≤ w2.heap.size := hfr2.size
 generalize hgw : w.heap.size = g0 at *
 have HG := Lib.hid hgw; clear hgw
 generalize w1.heap.size = g1 at *
 rw [s0f]
 go_wp2_with fail
 refine (o0N u0X ap12 _ _ _ _ w2 hh2 hp2 ap14).mono ?_
 rintro e w3 ⟨v3, rfl, hown3, hf3⟩
 have hfr3 := hfr2.then hf3
 have hf3s := hf3.size
 have hown3' := hown3.mono (base' := g0) hb2
 clear hown3 hf3 hfr2 hh2 hp2
 obtain ⟨a3, c3, rfl, -⟩ := g0e hown3'
 go_wp2_with (with_reducible refine wSk 7 ?_)
 refine a0X rfl rfl _ (s0c a3 32 c3) ?_
 refine j0s rfl rfl rfl [.slice a3 32 c3] rfl ?_
 intro w4 hh4 hf4 hz4
 clear hz4
 go_wp2_with fail
 go_ret
 rw [HG.out]
 exact ⟨_, rfl, Nat.le_trans hb2 hf3s, ⟨_, hh4, hown3'.still hf4⟩, hfr3.then hf4⟩
theorem LogAt.store {w : World} {base g : Nat} {v0 v : Value} {l : List UInt8} (h0 : Has w g [v0] 228) (h : Own w base 5 1 v 32 (bs l)) : LogAt (w.setCell ⟨g, 0, none⟩ v) base g l := by
 refine ⟨v, by simpa using h0.set 0 v, h.keep ((Fr.refl (One g) w).setCell g 0 none v (fun _ => rfl)) (fun k hk (e : k = g) => h.ne h0 ap12 (e ▸ hk))⟩
theorem RLogAt.store {w : World} {g : Nat} {v0 : Value} {l : List UInt8} (h0 : Has w g [v0] 195) : RLogAt (w.setCell ⟨g, 0, none⟩ (.string (mkS l))) g l := by
 simpa [RLogAt] using h0.set 0 (.string (mkS l))
theorem g0g {w w' : World} (h : Fr Nob w w') (g : Nat) (v : Value) : Fr (One g) w (w'.setCell ⟨g, 0, none⟩ v) := (h.mono (fun _ _ t => t.elim)).setCell g 0 none v (fun _ => rfl)
theorem y0z (base g : Nat) (st : List UInt8) (s : ByteArray) (b : Option Addr) (n c : Nat) (l : List UInt8) (w : World) (hs : s.size ≤ 1000000) (hl : LogAt w base g st) (hb : PartIs w (.slice b n c) l) (hbase : base ≤ w.heap.size) :
  Calls Tryz.prog 150 #[.pointer (some ⟨g, 0, none⟩), .string s, .slice b n c] w fun r w' => r = .returned (.tuple #[]) ∧ LogAt w' base g (c0G s0d [st, s.data.toList, l]) ∧ Fr (One g) w w' := by
 obtain ⟨v, hg, hown⟩ := hl
 obtain ⟨a0, c0, rfl, -⟩ := g0e hown
 have hc := hg.cell (i := 0) rfl
 go_enter Tryz.func150, Tryz.ntmps150
 go_wp2_with (with_reducible refine wSk 12 ?_)
 refine c0K rfl rfl Tryz.underlying9 Tryz.underlying22 Tryz.underlying5 rfl ap8 w.heap.size (Nat.le_refl _) ?_
 intro cap w1 hown1 hf1 hz1
 clear hz1
 go_wp2_with (with_reducible refine wSk 14 ?_)
 refine c0n rfl rfl Tryz.underlying39 k0u [.slice a0 32 c0, .slice (some ⟨w.heap.size, 0, none⟩) s.size cap, .slice b n c] rfl (by simp; exact ⟨rfl, rfl, rfl⟩) rfl rfl ?_
 intro w2 hh2 hf2 hz2
 clear hz2
 have hfr2 := hf1.then hf2
 have hp2 : Parts w2 [.slice a0 32 c0, .slice (some ⟨w.heap.size, 0, none⟩) s.size cap, .slice b n c] [st, s.data.toList, l] := ⟨b0Y (hown.still hfr2) ap12, b0Y (hown1.still hf2) hs, hb.still hfr2, trivial⟩
 clear hown1 hf1 hf2
 have hb2 : base ≤ w2.heap.size := Nat.le_trans hbase hfr2.size
 generalize w.heap.size = g0 at *
 generalize w1.heap.size = g1 at *
 rw [s0g]
 go_wp2_with fail
 refine (o0N s0d ap12 _ _ _ _ w2 hh2 hp2 ap14).mono ?_
 rintro e w3 ⟨v3, rfl, hown3, hf3⟩
 have hfr3 := hfr2.then hf3
 have hg3 := hg.keep hfr3 id
 have hown3' := hown3.mono (base' := base) hb2
 obtain ⟨a3, c3, rfl, -⟩ := g0e hown3'
 clear hown3 hf3 hfr2 hh2 hp2 hown hc hg
 have hc3 := hg3.cell (i := 0) rfl
 have hz3 := hg3.free 0 ap14
 go_wp2_with fail
 go_end0
 exact ⟨rfl, LogAt.store hg3 hown3', g0g hfr3 g _⟩
theorem y0A (base g : Nat) (st : List UInt8) (s : ByteArray) (m : Nat) (w : World) (hs : s.size ≤ 1000000) (hm : m ≤ 1024) (hl : LogAt w base g st) (hbase : base ≤ w.heap.size) :
  Calls Tryz.prog 151 #[.pointer (some ⟨g, 0, none⟩), .string s, .int .i64 (m : Int)] w fun r w' => ∃ v, r = .returned (.tuple #[v, .int .i64 0]) ∧ Own w' base 5 1 v m (bs (a0K (c0G s0e [st, s.data.toList]) 31 m)) ∧ LogAt w' base g (c0G h0j [st, s.data.toList]) ∧ Fr (One g) w w' := by
 obtain ⟨v, hg, hown⟩ := hl
 obtain ⟨a0, c0, rfl, -⟩ := g0e hown
 have hc := hg.cell (i := 0) rfl
 go_enter Tryz.func151, Tryz.ntmps151
 go_wp2_with (with_reducible refine wSk 20 ?_)
 refine c0K rfl rfl Tryz.underlying9 Tryz.underlying22 Tryz.underlying5 rfl ap8 w.heap.size (Nat.le_refl _) ?_
 intro cap w1 hown1 hf1 hz1
 clear hz1
 go_wp2_with (with_reducible refine wSk 21 ?_)
 refine c0n rfl rfl Tryz.underlying39 k0u [.slice a0 32 c0, .slice (some ⟨w.heap.size, 0, none⟩) s.size cap] rfl (by simp; exact ⟨rfl, rfl⟩) rfl rfl ?_
 intro w2 hh2 hf2 hz2
 clear hz2
 have hfr2 := hf1.then hf2
 have hp2 : Parts w2 [.slice a0 32 c0, .slice (some ⟨w.heap.size, 0, none⟩) s.size cap] [st, s.data.toList] := ⟨b0Y (hown.still hfr2) ap12, b0Y (hown1.still hf2) hs, trivial⟩
 clear hown1 hf1 hf2
 have hb2 : base ≤ w2.heap.size := Nat.le_trans hbase hfr2.size
 generalize w.heap.size = g0 at *
 generalize w1.heap.size = g1 at *
 rw [s0h]
 go_wp2_with fail
 refine (o0N s0e ap12 _ _ _ _ w2 hh2 hp2 ap14).mono ?_
 rintro e w3 ⟨v3, rfl, hown3, hf3⟩
 have hfr3 := hfr2.then hf3
 have hb3 : base ≤ w3.heap.size := Nat.le_trans hb2 hf3.size
 have hg3 := hg.keep hfr3 id
 have hown3' := hown.still hfr3
 have hq3 := b0Y hown3 ap12
 obtain ⟨a3, n3, c3, rfl, hn3, hm3, hr3, ho3⟩ := hq3
 have e3 : n3 = 32 := by
  obtain ⟨_, _, hv, -⟩ := g0e hown3
  cases hv; rfl
 subst e3
 clear hown3 hf3 hfr2 hh2 hp2 hown hc hg hm3
 have hc3 := hg3.cell (i := 0) rfl
 go_wp2_with fail
 refine (j0v a3 32 c3 _ m w3 ap13 ap12 hn3 hr3 ho3).mono ?_
 rintro e w4 ⟨v4, rfl, hown4, hf4⟩
 have hout := hown4.mono (base' := base) hb3
 have hfr4 := hfr3.then hf4
 have hg4 := hg3.keep hf4 id
 have hown4' := hown3'.still hf4
 have hb4 : base ≤ w4.heap.size := Nat.le_trans hb3 hf4.size
 have hc4 := hg4.cell (i := 0) rfl
 clear hown4 hf4 hfr3 hg3 hown3' hr3 ho3 hn3 hc3
 go_wp2_with (with_reducible refine wSk 31 ?_)
 refine c0K rfl rfl Tryz.underlying9 Tryz.underlying22 Tryz.underlying5 rfl ap8 w4.heap.size (Nat.le_refl _) ?_
 intro cap5 w5 hown5 hf5 hz5
 clear hz5
 go_wp2_with (with_reducible refine wSk 32 ?_)
 refine c0n rfl rfl Tryz.underlying39 k0u [.slice a0 32 c0, .slice (some ⟨w4.heap.size, 0, none⟩) s.size cap5] rfl (by simp; exact ⟨rfl, rfl⟩) rfl rfl ?_
 intro w6 hh6 hf6 hz6
 clear hz6
 have hf56 := hf5.then hf6
 have hfr6 := hfr4.then hf56
 have hp6 : Parts w6 [.slice a0 32 c0, .slice (some ⟨w4.heap.size, 0, none⟩) s.size cap5] [st, s.data.toList] := ⟨b0Y (hown4'.still hf56) ap12, b0Y (hown5.still hf6) hs, trivial⟩
 have hb6 : base ≤ w6.heap.size := Nat.le_trans hb4 hf56.size
 have hg6 := hg4.keep hf56 id
 have hout6 := hout.still hf56
 clear hown5 hf5 hf6 hf56 hfr4 hg4 hown4' hout hc4
 generalize w4.heap.size = g4 at *
 generalize w5.heap.size = g5 at *
 rw [l0U]
 go_wp2_with fail
 refine (o0N h0j ap12 _ _ _ _ w6 hh6 hp6 ap14).mono ?_
 rintro e w7 ⟨v7, rfl, hown7, hf7⟩
 have hfr7 := hfr6.then hf7
 have hg7 := hg6.keep hf7 id
 have hout7 := hout6.still hf7
 have hown7' := hown7.mono (base' := base) hb6
 obtain ⟨a7, c7, rfl, -⟩ := g0e hown7'
 obtain ⟨a8, c8, rfl, -⟩ := g0e hout7
 have hc7 := hg7.cell (i := 0) rfl
 have hz7 := hg7.free 0 ap14
 clear hown7 hf7 hfr6 hg6 hout6 hh6 hp6
 go_wp2_with fail
 go_ret2
 exact ⟨_, rfl, hout7.keep ((Fr.refl (One g) w7).setCell g 0 none _ (fun _ => rfl)) (fun k hk (e : k = g) => hout7.ne hg7 ap12 (e ▸ hk)), LogAt.store hg7 hown7', g0g hfr7 g _⟩
theorem u0Y (s : ByteArray) (w : World) (hs : s.size ≤ 50000) :
  Calls Tryz.prog 89 #[.string s] w fun r w' => ∃ g, r = .returned (.pointer (some ⟨g, 0, none⟩)) ∧ w.heap.size ≤ g ∧ RLogAt w' g (c0G u0X [s.data.toList]) ∧ Fr Nob w w' := by
 obtain ⟨l, rfl⟩ : ∃ l, s = mkS l := ⟨s.data.toList, (c0J s).symm⟩
 rw [a0A] at hs
 rw [a0T]
 go_enter Tryz.func89, Tryz.ntmps89
 go_wp2_with (with_reducible refine wSk 4 ?_)
 refine c0n rfl rfl Tryz.underlying40 h0B (ss [l]) rfl (by simp [ss]; rfl) rfl rfl ?_
 intro w2 hh2 hf2 hz2
 clear hz2
 generalize w.heap.size = g0 at *
 rw [s0f]
 go_wp2_with fail
 refine (k0v u0X _ _ _ w2 hh2 (by simp [i0Y, u0X]; omega) ap14).mono ?_
 rintro e w3 ⟨rfl, hf3⟩
 have hfr3 := hf2.then hf3
 clear hf2 hf3 hh2
 go_wp2_with (with_reducible refine wSk 6 ?_)
 refine a0X rfl rfl _ (q0v _) ?_
 refine j0s rfl rfl rfl [.string (mkS (c0G u0X [l]))] rfl ?_
 intro w4 hh4 hf4 hz4
 clear hz4
 go_wp2_with fail
 go_ret
 exact ⟨_, rfl, hfr3.size, hh4, hfr3.then hf4⟩
theorem k0w (g : Nat) (st : List UInt8) (s t : ByteArray) (w : World) (hst : st.length = 32) (hs : s.size ≤ 40000) (ht : t.size ≤ 40000) (hl : RLogAt w g st) :
  Calls Tryz.prog 90 #[.pointer (some ⟨g, 0, none⟩), .string s, .string t] w fun r w' => r = .returned (.tuple #[]) ∧ RLogAt w' g (c0G s0d [st, s.data.toList, t.data.toList]) ∧ Fr (One g) w w' := by
 obtain ⟨l, rfl⟩ : ∃ l, s = mkS l := ⟨s.data.toList, (c0J s).symm⟩
 obtain ⟨k, rfl⟩ : ∃ l, t = mkS l := ⟨t.data.toList, (c0J t).symm⟩
 rw [a0A] at hs ht
 rw [a0T, a0T]
 have hc := Has.cell hl (i := 0) rfl
 go_enter Tryz.func90, Tryz.ntmps90
 go_wp2_with (with_reducible refine wSk 13 ?_)
 refine c0n rfl rfl Tryz.underlying40 h0B (ss [st, l, k]) rfl (by simp [ss]; exact ⟨rfl, rfl, rfl⟩) rfl rfl ?_
 intro w2 hh2 hf2 hz2
 clear hz2
 generalize w.heap.size = g0 at *
 rw [s0g]
 go_wp2_with fail
 refine (k0v s0d _ _ _ w2 hh2 (by simp [i0Y, s0d]; omega) ap14).mono ?_
 rintro e w3 ⟨rfl, hf3⟩
 have hfr3 := hf2.then hf3
 have hg3 : Has w3 g _ _ := Has.keep hl hfr3 id
 have hc3 := hg3.cell (i := 0) rfl
 have hz3 := hg3.free 0 ap14
 clear hf2 hf3 hh2 hc
 go_wp2_with fail
 go_end0
 exact ⟨rfl, RLogAt.store hg3, g0g hfr3 g _⟩
theorem u0Z (g : Nat) (st : List UInt8) (s : ByteArray) (m : Nat) (w : World) (hst : st.length = 32) (hs : s.size ≤ 40000) (hm : m ≤ 1024) (hl : RLogAt w g st) :
  Calls Tryz.prog 93 #[.pointer (some ⟨g, 0, none⟩), .string s, .int .i64 (m : Int)] w fun r w' => r = .returned (.string (mkS (a0K (c0G s0e [st, s.data.toList]) 31 m))) ∧ RLogAt w' g (c0G h0j [st, s.data.toList]) ∧ Fr (One g) w w' := by
 obtain ⟨l, rfl⟩ : ∃ l, s = mkS l := ⟨s.data.toList, (c0J s).symm⟩
 rw [a0A] at hs
 rw [a0T]
 have hc := Has.cell hl (i := 0) rfl
 go_enter Tryz.func93, Tryz.ntmps93
 go_wp2_with (with_reducible refine wSk 13 ?_)
 refine c0n rfl rfl Tryz.underlying40 h0B (ss [st, l]) rfl (by simp [ss]; exact ⟨rfl, rfl⟩) rfl rfl ?_
 intro w2 hh2 hf2 hz2
 clear hz2
 generalize w.heap.size = g0 at *
 rw [s0h]
 go_wp2_with fail
 refine (k0v s0e _ _ _ w2 hh2 (by simp [i0Y, s0e]; omega) ap14).mono ?_
 rintro e w3 ⟨rfl, hf3⟩
 have hfr3 := hf2.then hf3
 have hg3 : Has w3 g _ _ := Has.keep hl hfr3 id
 clear hf2 hf3 hh2 hc
 have hl2 := g0f s0e [st, l]
 generalize htl : c0G s0e [st, l] = tl at *
 have HTL := Lib.hid htl; clear htl
 have HL2 := Lib.hid hl2; clear hl2
 go_wp2_with fail
 refine (n0A (mkS tl) m w3 (by rw [a0A, HL2.out]; omega) ap13).mono ?_
 rintro e w4 ⟨rfl, hf4⟩
 rw [a0T]
 have hfr4 := hfr3.then hf4
 have hg4 : Has w4 g _ _ := hg3.keep hf4 id
 have hc4 := hg4.cell (i := 0) rfl
 clear hfr3 hf4 hg3
 go_wp2_with (with_reducible refine wSk 23 ?_)
 refine c0n rfl rfl Tryz.underlying40 h0B (ss [st, l]) rfl (by simp [ss]; exact ⟨rfl, rfl⟩) rfl rfl ?_
 intro w5 hh5 hf5 hz5
 clear hz5
 generalize w4.heap.size = g4 at *
 rw [l0U]
 go_wp2_with fail
 refine (k0v h0j _ _ _ w5 hh5 (by simp [i0Y, h0j]; omega) ap14).mono ?_
 rintro e w6 ⟨rfl, hf6⟩
 have hf56 := hf5.then hf6
 have hfr6 := hfr4.then hf56
 have hg6 : Has w6 g _ _ := hg4.keep hf56 id
 have hc6 := hg6.cell (i := 0) rfl
 have hz6 := hg6.free 0 ap14
 clear hf5 hf6 hf56 hh5 hc4 hfr4 hg4
 go_wp2_with fail
 go_ret
 rw [HTL.out]
 exact ⟨rfl, RLogAt.store hg6, g0g hfr6 g _⟩
end Go.Proofs.YtmebmhjppmfbbaaGreat


set_option maxHeartbeats 16000000
set_option maxRecDepth 1000000
namespace Go.Mv
open Go.RowKit
variable {P : Program}
structure St (S : Nat → Prop) (w0 w : World) (bl : List (Nat × List Value × TypeId)) : Prop where
 fr : Fr S w0 w
 own : ∀ x ∈ bl, w0.heap.size ≤ x.1 ∨ S x.1
 has : ∀ x ∈ bl, Has w x.1 x.2.1 x.2.2
 ne : bl.Pairwise fun x y => x.1 ≠ y.1
theorem St.start (S : Nat → Prop) (w : World) : St S w w [] := ⟨Fr.refl _ _, by simp, by simp, List.Pairwise.nil⟩
theorem St.at {S : Nat → Prop} {w0 w : World} {bl : List (Nat × List Value × TypeId)} (h : St S w0 w bl) (i : Nat) {g : Nat} {L : List Value} {T : TypeId} (hi : bl[i]? = some (g, L, T)) : Has w g L T :=
 h.has _ (List.mem_of_getElem? hi)
theorem St.neAt {S : Nat → Prop} {w0 w : World} {bl : List (Nat × List Value × TypeId)} (h : St S w0 w bl) {i j : Nat} {x y : Nat × List Value × TypeId} (hi : bl[i]? = some x) (hj : bl[j]? = some y) (hij : i ≠ j) : x.1 ≠ y.1 := by
 obtain ⟨hi1, rfl⟩ := List.getElem?_eq_some_iff.1 hi
 obtain ⟨hj1, rfl⟩ := List.getElem?_eq_some_iff.1 hj
 rcases Nat.lt_or_ge i j with k | k
 ·exact List.pairwise_iff_getElem.1 h.ne i j hi1 hj1 k
 ·exact (List.pairwise_iff_getElem.1 h.ne j i hj1 hi1 ap13).symm
theorem St.keep {S : Nat → Prop} {w0 w w' : World} {bl : List (Nat × List Value × TypeId)} (h : St S w0 w bl) (hf : Fr Nob w w') : St S w0 w' bl :=
 ⟨h.fr.same hf, h.own, fun x hx => (h.has x hx).keep hf id, h.ne⟩
theorem St.drew {S : Nat → Prop} {w0 w : World} {bl : List (Nat × List Value × TypeId)} (h : St S w0 w bl) : St S w0 w.drew bl := ⟨h.fr.drew, h.own, h.has, h.ne⟩
theorem St.drewN {S : Nat → Prop} {w0 w : World} {bl : List (Nat × List Value × TypeId)} (h : St S w0 w bl) (n : Nat) : St S w0 (w.drewN n) bl := ⟨h.fr.drewN n, h.own, h.has, h.ne⟩
theorem St.less {S : Nat → Prop} {w0 w : World} {bl bl' : List (Nat × List Value × TypeId)} (h : St S w0 w bl) (hs : bl'.Sublist bl) : St S w0 w bl' :=
 ⟨h.fr, fun x hx => h.own x (hs.subset hx), fun x hx => h.has x (hs.subset hx), h.ne.sublist hs⟩
theorem St.new {S : Nat → Prop} {w0 w w' : World} {bl : List (Nat × List Value × TypeId)} (h : St S w0 w bl) (hf : Fr Nob w w') {g : Nat} {L : List Value} {T : TypeId} (hg : Has w' g L T) (hn : w.heap.size ≤ g) : St S w0 w' (bl ++ [(g, L, T)]) := by
 refine ⟨h.fr.same hf, ?_, ?_, ?_⟩
 ·intro x hx
  rcases List.mem_append.1 hx with hx | hx
  ·exact h.own x hx
  ·simp only [List.mem_singleton] at hx
   subst hx
   exact .inl (Nat.le_trans h.fr.size hn)
 ·intro x hx
  rcases List.mem_append.1 hx with hx | hx
  ·exact (h.has x hx).keep hf id
  ·simp only [List.mem_singleton] at hx
   subst hx
   exact hg
 ·rw [List.pairwise_append]
  refine ⟨h.ne, List.pairwise_singleton _ _, ?_⟩
  intro x hx y hy
  simp only [List.mem_singleton] at hy
  subst hy
  have := (h.has x hx).lt
  show x.1 ≠ g
  omega
theorem St.put {S : Nat → Prop} {w0 w w' : World} {bl : List (Nat × List Value × TypeId)} (h : St S w0 w bl) (i : Nat) {g : Nat} {L L' : List Value} {T : TypeId} (hi : bl[i]? = some (g, L, T)) (hf : Fr (One g) w w') (hg : Has w' g L' T) : St S w0 w' (bl.set i (g, L', T)) := by
 obtain ⟨hi1, hi2⟩ := List.getElem?_eq_some_iff.1 hi
 refine ⟨?_, ?_, ?_, ?_⟩
 ·refine h.fr.trans hf fun j hj hjg => ?_
  have hjg' : j = g := hjg
  subst hjg'
  rcases h.own _ (List.mem_of_getElem? hi) with k | k
  ·have k' : w0.heap.size ≤ j := k
   omega
  ·exact k
 ·intro x hx
  rcases List.mem_or_eq_of_mem_set hx with hx | rfl
  ·exact h.own x hx
  ·exact h.own (g, L, T) (List.mem_of_getElem? hi)
 ·intro x hx
  obtain ⟨j, hj1, hj2⟩ := List.mem_iff_getElem.1 hx
  rw [List.length_set] at hj1
  rw [List.getElem_set] at hj2
  by_cases e : i = j
  ·rw [if_pos e] at hj2; subst hj2; exact hg
  ·rw [if_neg e] at hj2
   subst hj2
   refine (h.has _ (List.getElem_mem hj1)).keep hf fun t => ?_
   exact h.neAt hi (List.getElem?_eq_getElem hj1) e (Eq.symm t)
 ·rw [List.pairwise_iff_getElem]
  intro j k hj hk hjk
  have e := List.pairwise_iff_getElem.1 h.ne j k (by simpa using hj) (by simpa using hk) hjk
  rw [List.getElem_set, List.getElem_set]
  split
  ·rename_i e1; subst e1
   rw [hi2] at e
   split
   ·omega
   ·exact e
  ·split
   ·rename_i e2; subst e2; rw [hi2] at e; exact e
   ·exact e
theorem St.set {S : Nat → Prop} {w0 w : World} {bl : List (Nat × List Value × TypeId)} (h : St S w0 w bl) (i : Nat) {g : Nat} {L : List Value} {T : TypeId} (hi : bl[i]? = some (g, L, T)) (k : Nat) (v : Value) : St S w0 (w.setCell ⟨g, k, none⟩ v) (bl.set i (g, L.set k v, T)) :=
 h.put i hi ((Fr.refl (One g) w).setCell g k none v (fun _ => rfl)) ((h.at i hi).set k v)
theorem St.take {S : Nat → Prop} {w0 w : World} {bl : List (Nat × List Value × TypeId)} (h : St S w0 w bl) {g : Nat} {L : List Value} {T : TypeId} (hg : Has w g L T) (hS : S g) (hn : ∀ x ∈ bl, x.1 ≠ g) : St S w0 w (bl ++ [(g, L, T)]) := by
 refine ⟨h.fr, ?_, ?_, ?_⟩
 ·intro x hx
  rcases List.mem_append.1 hx with hx | hx
  ·exact h.own x hx
  ·simp only [List.mem_singleton] at hx; subst hx; exact .inr hS
 ·intro x hx
  rcases List.mem_append.1 hx with hx | hx
  ·exact h.has x hx
  ·simp only [List.mem_singleton] at hx; subst hx; exact hg
 ·rw [List.pairwise_append]
  refine ⟨h.ne, List.pairwise_singleton _ _, ?_⟩
  intro x hx y hy
  simp only [List.mem_singleton] at hy
  subst hy
  exact hn x hx
theorem St.one {w : World} {g : Nat} {L : List Value} {T : TypeId} (hg : Has w g L T) : St (One g) w w [(g, L, T)] := (St.start (One g) w).take hg rfl ap14
section
variable {w w0 : World} {ops : Array Oper} {rest : List Oper} {o : Oper} {a : Act} {Q : Exit → Act → World → Prop} {S : Nat → Prop} {bl : List (Nat × List Value × TypeId)}
theorem a0l (hst : St S w0 w bl) {e : TypeId} {x : Operand} (hgd : o.guard = none) (ho : o.op = .box e x) {v : Value} (hx : a.eval x = v) (L : List Value) (hL : v.cells.toList = L)
  (h : ∀ g w', St S w0 w' (bl ++ [(g, L, e)]) → wpList P ops Q rest (a.put o.dst (.pointer (some ⟨g, 0, none⟩))) w') : wpList P ops Q (o :: rest) a w :=
 j0s hgd ho hx L hL fun w' hg hf _ => h _ w' (hst.new hf hg (Nat.le_refl _))
theorem a0a (hst : St S w0 w bl) {e : TypeId} (hgd : o.guard = none) (ho : o.op = .alloc e) {z : Value} (hi : (P.info? e).map (·.zero) = some (some z)) (L : List Value) (hL : z.cells.toList = L)
  (h : ∀ g w', St S w0 w' (bl ++ [(g, L, e)]) → wpList P ops Q rest (a.put o.dst (.pointer (some ⟨g, 0, none⟩))) w') : wpList P ops Q (o :: rest) a w :=
 e0s hgd ho hi L hL fun w' hg hf _ => h _ w' (hst.new hf hg (Nat.le_refl _))
theorem a0i (hst : St S w0 w bl) (i : Nat) {g : Nat} {L : List Value} {T : TypeId} (hb : bl[i]? = some (g, L, T)) {ty : TypeId} {x : Operand} (hgd : o.guard = none) (ho : o.op = .load ty x) {n : Nat} {e : TypeId} (hu : P.underlying ty = some (.array n e)) (hx : a.eval x = .pointer (some ⟨g, 0, none⟩))
  (hi : (P.info? ty).map (·.size) = some L.length) (h : wpList P ops Q rest (a.put o.dst (.agg L.toArray)) w) : wpList P ops Q (o :: rest) a w :=
 c0h hgd ho hu hx (hst.at i hb) L dZl hi h
theorem a0m (hst : St S w0 w bl) (i : Nat) {g : Nat} {L : List Value} {T : TypeId} (hb : bl[i]? = some (g, L, T)) {ty : TypeId} {x : Operand} (hgd : o.guard = none) (ho : o.op = .load ty x) {d : TypeDesc} (hu : P.underlying ty = some d) (hd : d.isRow = true) (hx : a.eval x = .pointer (some ⟨g, 0, none⟩))
  (hi : (P.info? ty).map (·.size) = some L.length) (h : wpList P ops Q rest (a.put o.dst (.agg L.toArray)) w) : wpList P ops Q (o :: rest) a w :=
 wpList_load_mid hgd ty x ho g 0 hx L _ ((hst.at i hb).range 0 L dZl) hu hd hi h
theorem a0b (hst : St S w0 w bl) (i : Nat) {g : Nat} {L : List Value} {T : TypeId} (hb : bl[i]? = some (g, L, T)) {ty : TypeId} {x y : Operand} (hgd : o.guard = none) (ho : o.op = .store ty x y) (hx : a.eval x = .pointer (some ⟨g, 0, none⟩)) {cs : List Value} (hy : a.eval y = .agg cs.toArray)
  (hn : cs.length = L.length) (hi : (P.info? ty).map (·.size) = some cs.length) (h1 : ∀ v ∈ cs, v.oneCell' = true)
  (h : ∀ w', St S w0 w' (bl.set i (g, cs, T)) → wpList P ops Q rest (a.put o.dst undef) w') : wpList P ops Q (o :: rest) a w :=
 d0d hgd ho hx hy (hst.at i hb) ap13 hi h1 fun w' hg hf _ => h w' (hst.put i hb hf (by rwa [c0C _ _ hn] at hg))
end
end Go.Mv

set_option maxHeartbeats 16000000
set_option maxRecDepth 1000000

namespace Mvp
abbrev B64 : Nat := 18446744073709551616
def lw (a i : Nat) : Nat := a / B64 ^ i % B64
def a0E (n a : Nat) : List Nat := (List.range n).map (lw a)
def mix (A B k : Nat) : Nat := A % B64 ^ k + B / B64 ^ k * B64 ^ k
theorem b0Z (k : Nat) : 0 < B64 ^ k := Nat.pow_pos ap12
theorem c0T (a i : Nat) : lw a i < 18446744073709551616 := Nat.mod_lt _ ap12
theorem b0r (n a : Nat) : (a0E n a).length = n := by simp [a0E]
theorem c0N (n a i : Nat) (h : i < n) : (a0E n a)[i]? = some (lw a i) := by simp [a0E, h]
theorem x0s (a : Nat) : a0E 4 a = [lw a 0, lw a 1, lw a 2, lw a 3] := rfl
theorem e0R (a i k : Nat) (h : i < k) : lw (a % B64 ^ k) i = lw a i := by
 unfold lw
 obtain ⟨j, rfl⟩ : ∃ j, k = i + (1 + j) := ⟨k - i - 1, by omega⟩
 rw [Nat.pow_add, Nat.mod_mul_right_div_self, Nat.pow_add, Nat.pow_one, Nat.mod_mul_right_mod]
theorem c0D (a k i : Nat) : lw (a / B64 ^ k) i = lw a (k + i) := by
 unfold lw
 rw [Nat.div_div_eq_div_mul, ← Nat.pow_add]
theorem y0B (A B k : Nat) : mix A B k % B64 ^ k = A % B64 ^ k := by
 unfold mix
 rw [Nat.add_mul_mod_self_right, Nat.mod_mod]
theorem y0C (A B k : Nat) : mix A B k / B64 ^ k = B / B64 ^ k := by
 unfold mix
 rw [Nat.add_mul_div_right _ _ (b0Z k), Nat.div_eq_of_lt (Nat.mod_lt _ (b0Z k)), Nat.zero_add]
theorem h0k (A B k i : Nat) : lw (mix A B k) i = if i < k then lw A i else lw B i := by
 split
 ·rename_i h
  rw [← e0R _ i k h, y0B, e0R _ i k h]
 ·rename_i h
  obtain ⟨j, rfl⟩ : ∃ j, i = k + j := ⟨i - k, by omega⟩
  rw [← c0D, ← c0D, y0C]
theorem e0S {n a b : Nat} (h : ∀ i, i < n → lw a i = lw b i) : a0E n a = a0E n b := by
 unfold a0E
 apply List.map_congr_left
 intro i hi
 exact h i (List.mem_range.1 hi)
theorem s0i (n A B k : Nat) (h : k < n) : (a0E n (mix A B k)).set k (lw A k) = a0E n (mix A B (k + 1)) := by
 have _h := h
 apply List.ext_getElem?
 intro i
 rw [List.getElem?_set]
 rcases Nat.lt_or_ge i n with hi | hi
 ·rw [c0N _ _ _ hi, c0N _ _ _ hi, h0k, h0k, b0r]
  by_cases e : k = i
  ·subst e; simp [h]
  ·rw [if_neg e]
   congr 1
   by_cases h2 : i < k
   ·rw [if_pos h2, if_pos ap13]
   ·rw [if_neg h2, if_neg ap13]
 ·rw [List.getElem?_eq_none (by rw [b0r]; exact hi), List.getElem?_eq_none (by rw [b0r]; exact hi)]
  split
  ·rw [b0r, if_neg ap13]
  ·rfl
theorem d0R (A B : Nat) : mix A B 0 = B := by simp [mix, Nat.mod_one]
theorem y0D (A B k : Nat) (ha : A < B64 ^ k) (hb : B < B64 ^ k) : mix A B k = A := by
 unfold mix
 rw [Nat.mod_eq_of_lt ha, Nat.div_eq_of_lt hb, Nat.zero_mul, Nat.add_zero]
theorem i0m (A B k : Nat) (h : B < B64 ^ k) : mix A B k = A % B64 ^ k := by
 unfold mix
 rw [Nat.div_eq_of_lt h, Nat.zero_mul, Nat.add_zero]
theorem s0j (n a : Nat) : a0E n (a % B64 ^ n) = a0E n a := e0S fun i hi => e0R a i n hi
theorem d0t (a k : Nat) : a % B64 ^ (k + 1) = a % B64 ^ k + B64 ^ k * lw a k := by
 unfold lw
 rw [Nat.pow_succ, Nat.mod_mul]
theorem e0w {n a b : Nat} (h : a0E n a = a0E n b) : a % B64 ^ n = b % B64 ^ n := by
 have hw : ∀ i, i < n → lw a i = lw b i := fun i hi => by
  have h1 := c0N n a i hi
  rw [h, c0N n b i hi] at h1
  exact (Option.some.inj h1).symm
 clear h
 induction n with
 | zero => simp [Nat.mod_one]
 | succ k ih => rw [d0t, d0t, ih (fun i hi => hw i ap13), hw k ap13]
def b0x (a b k : Nat) : Nat := (a % B64 ^ k + b % B64 ^ k) / B64 ^ k
theorem l0V (a b : Nat) : b0x a b 0 = 0 := by simp [b0x, Nat.mod_one]
theorem s0k (a b k : Nat) : b0x a b k ≤ 1 := by
 unfold b0x
 have h := b0Z k
 have h1 := Nat.mod_lt a h
 have h2 := Nat.mod_lt b h
 generalize B64 ^ k = W at *
 exact Nat.le_of_lt_succ (Nat.div_lt_of_lt_mul ap13)
theorem l0W (a b k : Nat) : b0x a b (k + 1) = (lw a k + lw b k + b0x a b k) / 18446744073709551616 := by
 unfold b0x
 rw [d0t, d0t, Nat.pow_succ, ← Nat.div_div_eq_div_mul]
 congr 1
 have e : a % B64 ^ k + B64 ^ k * lw a k + (b % B64 ^ k + B64 ^ k * lw b k) = (a % B64 ^ k + b % B64 ^ k) + B64 ^ k * (lw a k + lw b k) := by rw [Nat.mul_add]; omega
 rw [e, Nat.add_mul_div_left _ _ (b0Z k)]
 omega
theorem x0t (a b k : Nat) : lw (a + b) k = (lw a k + lw b k + b0x a b k) % 18446744073709551616 := by
 unfold lw b0x
 have h := b0Z k
 have e : a + b = (a % B64 ^ k + b % B64 ^ k) + B64 ^ k * (a / B64 ^ k + b / B64 ^ k) := by
  have h1 := Nat.div_add_mod a (B64 ^ k)
  have h2 := Nat.div_add_mod b (B64 ^ k)
  rw [Nat.mul_add]; omega
 have e2 : (a + b) / B64 ^ k = (a % B64 ^ k + b % B64 ^ k) / B64 ^ k + (a / B64 ^ k + b / B64 ^ k) := by
  conv => lhs; rw [e]
  rw [Nat.add_mul_div_left _ _ h]
 rw [e2]
 generalize (a % B64 ^ k + b % B64 ^ k) / B64 ^ k = x
 generalize a / B64 ^ k = y
 generalize b / B64 ^ k = z
 show (x + (y + z)) % 18446744073709551616 = (y % 18446744073709551616 + z % 18446744073709551616 + x) % 18446744073709551616
 omega
theorem v0a (a b k : Nat) (ha : a < B64 ^ k) (hb : b < B64 ^ k) : b0x a b k = (a + b) / B64 ^ k := by
 unfold b0x; rw [Nat.mod_eq_of_lt ha, Nat.mod_eq_of_lt hb]
def b0o (a b k : Nat) : Nat := if a % B64 ^ k < b % B64 ^ k then 1 else 0
theorem g0h (a b : Nat) : b0o a b 0 = 0 := by simp [b0o, Nat.mod_one]
theorem k0x (a b k : Nat) : b0o a b k ≤ 1 := by unfold b0o; split <;> omega
theorem g0i (a b k : Nat) : b0o a b (k + 1) = if lw a k < lw b k + b0o a b k then 1 else 0 := by
 unfold b0o
 rw [d0t, d0t]
 have h := b0Z k
 have h1 := Nat.mod_lt a h
 have h2 := Nat.mod_lt b h
 generalize lw a k = x
 generalize lw b k = y
 generalize a % B64 ^ k = p at *
 generalize b % B64 ^ k = q at *
 generalize B64 ^ k = W at *
 rcases Nat.lt_trichotomy x y with hxy | hxy | hxy
 ·obtain ⟨d, rfl⟩ : ∃ d, y = x + 1 + d := ⟨y - x - 1, by omega⟩
  have e : W * (x + 1 + d) = W * x + W + W * d := by rw [Nat.mul_add, Nat.mul_add, Nat.mul_one]
  rw [e]
  rw [if_pos ap13, if_pos ap13]
 ·subst hxy
  by_cases hpq : p < q
  ·rw [if_pos hpq, if_pos ap13, if_pos ap13]
  ·rw [if_neg hpq, if_neg ap13, if_neg ap13]
 ·obtain ⟨d, rfl⟩ : ∃ d, x = y + 1 + d := ⟨x - y - 1, by omega⟩
  have e : W * (y + 1 + d) = W * y + W + W * d := by rw [Nat.mul_add, Nat.mul_add, Nat.mul_one]
  rw [e]
  rw [if_neg ap13, if_neg (by split <;> omega)]
theorem o0O (n a b k : Nat) (hb : b < B64 ^ n) (hk : k < n) : lw (a + B64 ^ n - b) k = (lw a k + 18446744073709551616 - lw b k - b0o a b k) % 18446744073709551616 := by
 obtain ⟨j, rfl⟩ : ∃ j, n = k + (1 + j) := ⟨n - k - 1, by omega⟩
 have hW := b0Z k
 have hT := b0Z j
 have hN : B64 ^ (k + (1 + j)) = B64 ^ k * (B64 * B64 ^ j) := by rw [Nat.pow_add, Nat.pow_add, Nat.pow_one]
 rw [hN] at hb ⊢
 have ha1 := Nat.div_add_mod a (B64 ^ k)
 have hb1 := Nat.div_add_mod b (B64 ^ k)
 have ha2 := Nat.mod_lt a hW
 have hb2 := Nat.mod_lt b hW
 have hbh : b / B64 ^ k < B64 * B64 ^ j := Nat.div_lt_of_lt_mul hb
 unfold lw b0o
 generalize a / B64 ^ k = x at *
 generalize b / B64 ^ k = y at *
 generalize a % B64 ^ k = p at *
 generalize b % B64 ^ k = q at *
 generalize B64 ^ j = T at *
 generalize B64 ^ k = W at *
 have hq : ∃ c, c ≤ 1 ∧ (c = if p < q then 1 else 0) ∧ p + c * W < q + W ∧ q ≤ p + c * W := by
  by_cases h : p < q
  ·exact ⟨1, by omega, by rw [if_pos h], by omega, by omega⟩
  ·exact ⟨0, by omega, by rw [if_neg h], by omega, by omega⟩
 obtain ⟨c, hc1, hc2, hc3, hc4⟩ := hq
 rw [← hc2]
 have hyc : y + c ≤ x + B64 * T := by omega
 have e : (a + W * (B64 * T) - b) / W = x + B64 * T - y - c := by
  have h1 : a + W * (B64 * T) - b = W * (x + B64 * T - y - c) + (p + c * W - q) := by
   have h2 : W * (x + B64 * T - y - c) + W * (y + c) = W * x + W * (B64 * T) := by
    rw [← Nat.mul_add, ← Nat.mul_add]; congr 1; omega
   have h3 : W * (y + c) = W * y + c * W := by rw [Nat.mul_add, Nat.mul_comm W c]
   generalize W * (x + B64 * T - y - c) = u at *
   generalize W * (B64 * T) = v at *
   generalize W * (y + c) = z at *
   omega
  rw [h1, Nat.mul_add_div hW, Nat.div_eq_of_lt ap13, Nat.add_zero]
 rw [e]
 show (x + 18446744073709551616 * T - y - c) % 18446744073709551616 = (x % 18446744073709551616 + 18446744073709551616 - y % 18446744073709551616 - c) % 18446744073709551616
 have hyc' : y + c ≤ x + 18446744073709551616 * T := hyc
 omega
theorem f0n (a b k : Nat) (ha : a < B64 ^ k) (hb : b < B64 ^ k) : b0o a b k = if a < b then 1 else 0 := by
 unfold b0o; rw [Nat.mod_eq_of_lt ha, Nat.mod_eq_of_lt hb]
def b0l (L x n k : Nat) : Nat := (L % B64 ^ k + x * (n % B64 ^ k)) / B64 ^ k
theorem l0X (L x n : Nat) : b0l L x n 0 = 0 := by simp [b0l, Nat.mod_one]
theorem i0n (L x n k : Nat) (hx : x < 18446744073709551616) : b0l L x n k < 18446744073709551616 := by
 unfold b0l
 have h := b0Z k
 have h1 := Nat.mod_lt L h
 have h2 := Nat.mod_lt n h
 have h3 : x * (n % B64 ^ k) ≤ 18446744073709551615 * (n % B64 ^ k) := Nat.mul_le_mul_right _ ap13
 generalize B64 ^ k = W at *
 refine Nat.div_lt_of_lt_mul ?_
 omega
theorem g0j (L x n k : Nat) : b0l L x n (k + 1) = (lw L k + x * lw n k + b0l L x n k) / 18446744073709551616 := by
 unfold b0l
 rw [d0t, d0t, Nat.pow_succ, ← Nat.div_div_eq_div_mul]
 congr 1
 have e : L % B64 ^ k + B64 ^ k * lw L k + x * (n % B64 ^ k + B64 ^ k * lw n k) = (L % B64 ^ k + x * (n % B64 ^ k)) + B64 ^ k * (lw L k + x * lw n k) := by
  rw [Nat.mul_add, Nat.mul_add, Nat.mul_left_comm x]; omega
 rw [e, Nat.add_mul_div_left _ _ (b0Z k)]
 omega
theorem i0o (L x n k : Nat) : lw (L + x * n) k = (lw L k + x * lw n k + b0l L x n k) % 18446744073709551616 := by
 unfold lw b0l
 have h := b0Z k
 have e : L + x * n = (L % B64 ^ k + x * (n % B64 ^ k)) + B64 ^ k * (L / B64 ^ k + x * (n / B64 ^ k)) := by
  have h1 := Nat.div_add_mod L (B64 ^ k)
  have h2 := Nat.div_add_mod n (B64 ^ k)
  have h3 : x * n = x * (B64 ^ k * (n / B64 ^ k)) + x * (n % B64 ^ k) := by rw [← Nat.mul_add, h2]
  have h4 : x * (B64 ^ k * (n / B64 ^ k)) = B64 ^ k * (x * (n / B64 ^ k)) := Nat.mul_left_comm _ _ _
  rw [Nat.mul_add]; omega
 have e2 : (L + x * n) / B64 ^ k = (L % B64 ^ k + x * (n % B64 ^ k)) / B64 ^ k + (L / B64 ^ k + x * (n / B64 ^ k)) := by
  conv => lhs; rw [e]
  rw [Nat.add_mul_div_left _ _ h]
 rw [e2]
 generalize (L % B64 ^ k + x * (n % B64 ^ k)) / B64 ^ k = u
 generalize L / B64 ^ k = y
 generalize n / B64 ^ k = z
 show (u + (y + x * z)) % 18446744073709551616 = (y % 18446744073709551616 + x * (z % 18446744073709551616) + u) % 18446744073709551616
 have e3 : x * (z % 18446744073709551616) % 18446744073709551616 = x * z % 18446744073709551616 := Nat.mul_mod_mod _ _ _
 generalize x * (z % 18446744073709551616) = s at *
 generalize x * z = t at *
 omega
theorem v0b (L x n k : Nat) (hL : L < B64 ^ k) (hn : n < B64 ^ k) : b0l L x n k = (L + x * n) / B64 ^ k := by
 unfold b0l; rw [Nat.mod_eq_of_lt hL, Nat.mod_eq_of_lt hn]
theorem q0x (p t c : Nat) (hp : p ≤ 18446744073709551615 * 18446744073709551615) (hc : c < 18446744073709551616) :
  (t + (p % 18446744073709551616 + c) % 18446744073709551616) % 18446744073709551616 = (t + p + c) % 18446744073709551616 ∧
  p / 18446744073709551616 + (p % 18446744073709551616 + c) / 18446744073709551616 < 18446744073709551616 ∧
  p / 18446744073709551616 + (p % 18446744073709551616 + c) / 18446744073709551616 + (t + (p % 18446744073709551616 + c) % 18446744073709551616) / 18446744073709551616 = (t + p + c) / 18446744073709551616 := by
 omega
theorem j0x (p t c : Nat) (hp : p ≤ 18446744073709551615 * 18446744073709551615) (hc : c < 18446744073709551616) :
  ∃ hi lo lo2 c1 t2 c2 : Nat, p / 18446744073709551616 = hi ∧ p % 18446744073709551616 = lo ∧ (lo + c) % 18446744073709551616 = lo2 ∧ (lo + c) / 18446744073709551616 = c1 ∧ hi + c1 < 18446744073709551616 ∧
   (t + lo2) % 18446744073709551616 = t2 ∧ (t + lo2) / 18446744073709551616 = c2 ∧ t2 = (t + p + c) % 18446744073709551616 ∧ hi + c1 + c2 = (t + p + c) / 18446744073709551616 := by
 obtain ⟨h1, h2, h3⟩ := q0x p t c hp hc
 exact ⟨_, _, _, _, _, _, rfl, rfl, rfl, rfl, h2, rfl, rfl, h1, h3⟩
theorem i0p {x y : Nat} (hx : x < 18446744073709551616) (hy : y < 18446744073709551616) : x * y ≤ 18446744073709551615 * 18446744073709551615 :=
 Nat.mul_le_mul ap13 ap13
theorem i0q (P Q i j : Nat) (h : j < i) : lw (P + B64 ^ i * Q) j = lw P j := by
 rw [← e0R _ j i h, Nat.add_mul_mod_self_left, e0R _ j i h]
theorem c0U (P Q i k : Nat) : lw (P + B64 ^ i * Q) (i + k) = lw (P / B64 ^ i + Q) k := by
 rw [← c0D, Nat.add_mul_div_left _ _ (b0Z i)]
theorem d0n (a n i : Nat) (h : a < B64 ^ n) (hi : n ≤ i) : lw a i = 0 := by
 unfold lw
 rw [Nat.div_eq_of_lt (Nat.lt_of_lt_of_le h (Nat.pow_le_pow_right ap12 hi)), Nat.zero_mod]
theorem h0C (a b i : Nat) : a % B64 ^ i * b + B64 ^ i * (lw a i * b) = a % B64 ^ (i + 1) * b := by
 rw [d0t, Nat.add_mul, Nat.mul_assoc]
theorem s0l (a b i : Nat) (hb : b < B64 ^ 4) : a % B64 ^ i * b < B64 ^ (i + 4) := by
 have h := Nat.mod_lt a (b0Z i)
 rw [Nat.pow_add]
 exact Nat.mul_lt_mul'' h hb
theorem y0E (a b i : Nat) (hb : b < B64 ^ 4) : lw (a % B64 ^ (i + 1) * b) (i + 4) = b0l (a % B64 ^ i * b / B64 ^ i) (lw a i) b 4 := by
 rw [← h0C, c0U, i0o, d0n b 4 4 hb (Nat.le_refl _), c0D, d0n _ _ _ (s0l a b i hb) (Nat.le_refl _), Nat.mul_zero, Nat.zero_add]
 exact Nat.mod_eq_of_lt (i0n _ _ _ _ (c0T a i))
theorem y0F (a b i : Nat) (hb : b < B64 ^ 4) : mix (a % B64 ^ (i + 1) * b) (a % B64 ^ i * b) (i + 4 + 1) = a % B64 ^ (i + 1) * b := by
 refine y0D _ _ _ ?_ ?_
 ·have := s0l a b (i + 1) hb
  rwa [show i + 1 + 4 = i + 4 + 1 by omega] at this
 ·refine Nat.lt_trans (s0l a b i hb) (Nat.pow_lt_pow_right ap12 ap13)
theorem v0c (a b i k : Nat) : lw (a % B64 ^ i * b) (i + k) = lw (a % B64 ^ i * b / B64 ^ i) k := by rw [c0D]
theorem y0G (a b i k : Nat) : lw (a % B64 ^ (i + 1) * b) (i + k) = lw (a % B64 ^ i * b / B64 ^ i + lw a i * b) k := by
 rw [← h0C, c0U]
theorem s0m (a b i : Nat) : mix (a % B64 ^ (i + 1) * b) (a % B64 ^ i * b) (i + 0) = a % B64 ^ i * b := by
 rw [← h0C, Nat.add_zero]
 generalize a % B64 ^ i * b = V
 unfold mix
 rw [Nat.add_mul_mod_self_left, Nat.mul_comm, Nat.mod_add_div]
theorem v0d (b : Nat) (a : Nat) : a % B64 ^ 0 * b = 0 := by simp [Nat.mod_one]
def a0L (C V : Nat) : Nat := V / B64 ^ 4 * C + V % B64 ^ 4
theorem s0n (P C V : Nat) (h : P + C = B64 ^ 4) : a0L C V % P = V % P := by
 have e : V = a0L C V + P * (V / B64 ^ 4) := by
  have h1 := Nat.div_add_mod V (B64 ^ 4)
  unfold a0L
  rw [← h] at h1 ⊢
  generalize V / (P + C) = q at *
  rw [Nat.add_mul] at h1
  rw [Nat.mul_comm q C]
  omega
 conv => rhs; rw [e]
 rw [Nat.add_mul_mod_self_left]
theorem v0e (C V : Nat) (hC : C < B64 ^ 4) (h : V / B64 ^ 4 ≠ 0) : a0L C V < V := by
 have h1 := Nat.div_add_mod V (B64 ^ 4)
 unfold a0L
 generalize V / B64 ^ 4 = q at *
 have h2 : q * C < B64 ^ 4 * q := by
  rw [Nat.mul_comm]
  exact Nat.mul_lt_mul_of_pos_right hC ap13
 omega
theorem A0F (a b c d : Nat) : (a ||| b ||| c ||| d = 0) ↔ (a = 0 ∧ b = 0 ∧ c = 0 ∧ d = 0) := by
 simp [Nat.or_eq_zero_iff, and_assoc]
theorem v0f (V : Nat) (h : V < B64 ^ 8) : (lw V 4 ||| lw V 5 ||| lw V 6 ||| lw V 7 = 0) ↔ V / B64 ^ 4 = 0 := by
 rw [A0F]
 have e : V / B64 ^ 4 < B64 ^ 4 := Nat.div_lt_of_lt_mul (by rw [← Nat.pow_add]; exact h)
 have k0 := c0D V 4 0
 have k1 := c0D V 4 1
 have k2 := c0D V 4 2
 have k3 := c0D V 4 3
 rw [show 4 + 0 = 4 from rfl] at k0
 rw [show 4 + 1 = 5 from rfl] at k1
 rw [show 4 + 2 = 6 from rfl] at k2
 rw [show 4 + 3 = 7 from rfl] at k3
 rw [← k0, ← k1, ← k2, ← k3]
 generalize V / B64 ^ 4 = D at *
 constructor
 ·rintro ⟨h0, h1, h2, h3⟩
  have hm : D % B64 ^ 4 = 0 % B64 ^ 4 := e0w (e0S fun i hi => by
   have : i = 0 ∨ i = 1 ∨ i = 2 ∨ i = 3 := by omega
   rcases this with rfl | rfl | rfl | rfl
   ·rw [h0]; decide
   ·rw [h1]; decide
   ·rw [h2]; decide
   ·rw [h3]; decide)
  rw [Nat.mod_eq_of_lt e] at hm
  simpa using hm
 ·rintro rfl; decide
theorem q0y (D : Nat) (e : D < B64 ^ 4) : (lw D 0 ||| lw D 1 ||| lw D 2 ||| lw D 3 = 0) ↔ D = 0 := by
 rw [A0F]
 constructor
 ·rintro ⟨h0, h1, h2, h3⟩
  have hm : D % B64 ^ 4 = 0 % B64 ^ 4 := e0w (e0S fun i hi => by
   have : i = 0 ∨ i = 1 ∨ i = 2 ∨ i = 3 := by omega
   rcases this with rfl | rfl | rfl | rfl
   ·rw [h0]; decide
   ·rw [h1]; decide
   ·rw [h2]; decide
   ·rw [h3]; decide)
  rw [Nat.mod_eq_of_lt e] at hm
  simpa using hm
 ·rintro rfl; decide
theorem o0P (V x n : Nat) (hn : n < B64 ^ 4) (hV : V + x * n < B64 ^ 6) (hVV : V < B64 ^ 6) :
  (lw V 4 + b0l V x n 4) % 18446744073709551616 = lw (V + x * n) 4 ∧ lw V 5 + (lw V 4 + b0l V x n 4) / 18446744073709551616 = lw (V + x * n) 5 ∧ lw V 5 + (lw V 4 + b0l V x n 4) / 18446744073709551616 < 18446744073709551616 := by
 have z4 : lw n 4 = 0 := d0n n 4 4 hn ap12
 have z5 : lw n 5 = 0 := d0n n 4 5 hn ap12
 have h4 := i0o V x n 4
 have h5 := i0o V x n 5
 have c5 := g0j V x n 4
 have c6 := g0j V x n 5
 rw [z4, Nat.mul_zero, Nat.add_zero] at h4 c5
 rw [z5, Nat.mul_zero, Nat.add_zero] at h5 c6
 have hc6 : b0l V x n 6 = 0 := by
  rw [v0b V x n 6 hVV (Nat.lt_trans hn ap12)]
  exact Nat.div_eq_of_lt hV
 rw [hc6] at c6
 rw [c5] at h5 c6
 try rw [Nat.add_zero] at h5
 try rw [Nat.add_zero] at c6
 have : lw V 5 + (lw V 4 + b0l V x n 4) / 18446744073709551616 < 18446744073709551616 := by omega
 exact ⟨h4.symm, by rw [h5, Nat.mod_eq_of_lt this], this⟩
theorem q0z (V : Nat) : lw V 0 = V % 18446744073709551616 := by simp [lw]
def a0N (M neg b T x : Nat) : Nat := (T + x * b + ((T + x * b) % 18446744073709551616 * neg % 18446744073709551616) * M) / 18446744073709551616
def a0J (M neg b a : Nat) : Nat → Nat
 | 0 => 0
 | k + 1 => a0N M neg b (a0J M neg b a k) (lw a k)
theorem n0C (M neg b T x : Nat) (hneg : (M * neg + 1) % 18446744073709551616 = 0) :
  a0N M neg b T x * 18446744073709551616 = T + x * b + ((T + x * b) % 18446744073709551616 * neg % 18446744073709551616) * M := by
 unfold a0N
 generalize hV : T + x * b = V
 generalize hm : V % 18446744073709551616 * neg % 18446744073709551616 = m
 have key : (V + m * M) % 18446744073709551616 = 0 := by
  have h1 : (m * M) % 18446744073709551616 = (V * neg * M) % 18446744073709551616 := by
   rw [← hm, Nat.mod_mul_mod, Nat.mul_assoc, Nat.mod_mul_mod, ← Nat.mul_assoc]
  have h2 : V + V * neg * M = V * (M * neg + 1) := by rw [Nat.mul_add, Nat.mul_one, Nat.mul_assoc, Nat.mul_comm neg, Nat.add_comm]
  rw [Nat.add_mod, h1, ← Nat.add_mod, h2, Nat.mul_mod, hneg, Nat.mul_zero, Nat.zero_mod]
 have := Nat.div_add_mod (V + m * M) 18446744073709551616
 rw [key, Nat.add_zero, Nat.mul_comm] at this
 exact this
theorem v0g (M neg b T x : Nat) (_ : 0 < M) (hT : T < b + M) (hx : x < 18446744073709551616) : a0N M neg b T x < b + M := by
 unfold a0N
 refine Nat.div_lt_of_lt_mul ?_
 generalize hm : (T + x * b) % 18446744073709551616 * neg % 18446744073709551616 = m
 have hm' : m < 18446744073709551616 := by rw [← hm]; exact Nat.mod_lt _ ap12
 have h1 : x * b ≤ 18446744073709551615 * b := Nat.mul_le_mul_right _ ap13
 have h2 : m * M ≤ 18446744073709551615 * M := Nat.mul_le_mul_right _ ap13
 omega
theorem o0Q (M neg b a k : Nat) (hM : 0 < M) : a0J M neg b a k < b + M := by
 induction k with
 | zero => show 0 < _; omega
 | succ k ih => exact v0g _ _ _ _ _ hM ih (c0T a k)
theorem s0o (M neg b a k : Nat) (hneg : (M * neg + 1) % 18446744073709551616 = 0) : a0J M neg b a k * B64 ^ k % M = a % B64 ^ k * b % M := by
 induction k with
 | zero => simp [a0J, Nat.mod_one]
 | succ k ih =>
  show a0N _ _ _ _ _ * B64 ^ (k + 1) % M = _
  rw [← h0C, Nat.pow_succ, Nat.mul_comm (B64 ^ k), ← Nat.mul_assoc, n0C M neg b _ _ hneg]
  generalize (a0J M neg b a k + lw a k * b) % 18446744073709551616 * neg % 18446744073709551616 = m
  have e : (a0J M neg b a k + lw a k * b + m * M) * B64 ^ k = a0J M neg b a k * B64 ^ k + B64 ^ k * (lw a k * b) + M * (m * B64 ^ k) := by
   rw [Nat.add_mul, Nat.add_mul, Nat.mul_comm (lw a k * b), Nat.mul_right_comm m, Nat.mul_comm (m * B64 ^ k)]
  rw [e, Nat.add_mul_mod_self_left, Nat.add_mod, ih, ← Nat.add_mod]
theorem q0A (M neg Ri a b : Nat) (_ : 0 < M) (ha : a < B64 ^ 4) (hneg : (M * neg + 1) % 18446744073709551616 = 0) (hRi : B64 ^ 4 * Ri % M = 1 % M) :
  a0J M neg b a 4 % M = a * b * Ri % M := by
 have h := s0o M neg b a 4 hneg
 rw [Nat.mod_eq_of_lt ha] at h
 generalize a0J M neg b a 4 = T at *
 have h1 : T * B64 ^ 4 * Ri % M = a * b * Ri % M := by rw [Nat.mul_mod, h, ← Nat.mul_mod]
 rw [← h1, Nat.mul_assoc, Nat.mul_mod, hRi, ← Nat.mul_mod, Nat.mul_one]
theorem q0B (T M : Nat) (h : T < 2 * M) : T % M = if T < M then T else T - M := by
 split
 ·rename_i h'; exact Nat.mod_eq_of_lt h'
 ·rename_i h'; rw [Nat.mod_eq_sub_mod ap13, Nat.mod_eq_of_lt ap13]
end Mvp


set_option maxHeartbeats 16000000
set_option maxRecDepth 1000000
namespace Go.Mv
open Go.RowKit Mvp
variable {P : Program}
def us (l : List Nat) : List Value := l.map fun (x : Nat) => .int .u64 (x : Int)
theorem s0p (l : List Nat) : (us l).length = l.length := by simp [us]
theorem A0G (l : List Nat) (i x : Nat) (h : l[i]? = some x) : (us l)[i]? = some (.int .u64 (x : Int)) := by simp [us, h]
theorem l0Y (l : List Nat) (i : Nat) (x : Nat) : (us l).set i (.int .u64 (x : Int)) = us (l.set i x) := by simp [us]
theorem A0H (l : List Nat) : ∀ v ∈ us l, v.oneCell' = true := by intro v hv; simp [us] at hv; obtain ⟨x, _, rfl⟩ := hv; rfl
def cw (n a : Nat) : List Value := us (a0E n a)
theorem a0e (n a : Nat) : (cw n a).length = n := by rw [cw, s0p, b0r]
theorem a0D (n a i : Nat) (h : i < n) : (cw n a)[i]? = some (.int .u64 (lw a i : Nat)) := A0G _ _ _ (c0N n a i h)
theorem d0S (n A B k : Nat) (h : k < n) : (cw n (mix A B k)).set k (.int .u64 (lw A k : Nat)) = cw n (mix A B (k + 1)) := by
 rw [cw, l0Y, s0i n A B k h, cw]
theorem a0g (n a : Nat) : ∀ v ∈ cw n a, v.oneCell' = true := A0H _
theorem cw_mod (n a : Nat) : cw n (a % B64 ^ n) = cw n a := by rw [cw, s0j, cw]
def i4 (a : Nat) : Value := .agg (cw 4 a).toArray
def i8 (a : Nat) : Value := .agg (cw 8 a).toArray
theorem A0I {n a b : Nat} (h : ∀ i, i < n → lw a i = lw b i) : cw n a = cw n b := by rw [cw, e0S h, cw]
theorem h0D (A B n : Nat) : cw n (mix A B n) = cw n A := A0I fun i hi => by rw [h0k, if_pos hi]
theorem v0h (a : Nat) : (i4 a).cells.toList = cw 4 a := rfl
theorem f0L (n : Nat) : cw n 0 = List.replicate n (.int .u64 0) := by
 apply List.ext_getElem?
 intro i
 rcases Nat.lt_or_ge i n with h | h
 ·rw [a0D _ _ _ h, List.getElem?_replicate, if_pos h]; simp [lw]
 ·rw [List.getElem?_eq_none (by rw [a0e]; exact h), List.getElem?_replicate, if_neg ap13]
theorem e0T {t e : TypeId} {m : Nat} (ht : P.underlying t = some (.array m e)) (he : P.underlying e = some (.int .u64)) (hi0 : (P.info? e).map (·.size) = some 1) (a k : Nat) (hk : k < m) (ki : IntKind) (w : World) :
  (Instr.index t (.agg (cw m a).toArray) (.int ki (k : Int))).run P w = .ok (.int .u64 (lw a k : Nat)) w := by
 obtain ⟨j, hj, hsz⟩ : ∃ j, P.info? e = some j ∧ j.size = 1 := by simpa using hi0
 have h1 : (0 : Int) ≤ (k : Int) ∧ (k : Int) < (m : Int) := by omega
 have hv := a0D m a k hk
 simp [Instr.index, asIntOf, run_underlying ht, sizeOf, typeInfo, hj, hsz, part, isAgg, run_underlying he, h1, hv]
 intro h; omega
theorem a0V {fn : Func} {p : Tmp} {ty : TypeId} {s : Tmp} (h : fn.results = #[.cell p ty, .tmp s]) {tmps : Array Value} {w : World} {g : Nat} {L : List Value} {T : TypeId}
  (hp : tmps.getD p undef = .pointer (some ⟨g, 0, none⟩)) (hg : Has w g L T) {n : Nat} {e : TypeId} (hu : P.underlying ty = some (.array n e)) (hi : (P.info? ty).map (·.size) = some L.length) {v : Value} (hv : tmps.getD s undef = v) :
  (results fn tmps).run P w = .ok (.tuple #[.agg L.toArray, v]) w := by
 obtain ⟨lo, hi', hh, -⟩ := hg
 have hp' : tmps[p]?.getD undef = .pointer (some ⟨g, 0, none⟩) := by simpa using hp
 have hv' : tmps[s]?.getD undef = v := by simpa using hv
 simp [results, h, hp', hv', asAddr, run_loadVar_row w g T ty L.toArray _ _ hh hu rfl (by simpa using hi)]
theorem o0R (a : Nat) : i4 a = .agg #[.int .u64 (lw a 0 : Nat), .int .u64 (lw a 1 : Nat), .int .u64 (lw a 2 : Nat), .int .u64 (lw a 3 : Nat)] := rfl
theorem y0H (V : Nat) : i4 (V / B64 ^ 4) = .agg #[.int .u64 (lw V 4 : Nat), .int .u64 (lw V 5 : Nat), .int .u64 (lw V 6 : Nat), .int .u64 (lw V 7 : Nat)] := by
 rw [o0R, c0D, c0D, c0D, c0D]
theorem x0u (V : Nat) : i4 (V % B64 ^ 4) = i4 V := by rw [i4, cw_mod, ← i4]
theorem o0S (a : Nat) : i8 a = .agg #[.int .u64 (lw a 0 : Nat), .int .u64 (lw a 1 : Nat), .int .u64 (lw a 2 : Nat), .int .u64 (lw a 3 : Nat), .int .u64 (lw a 4 : Nat), .int .u64 (lw a 5 : Nat), .int .u64 (lw a 6 : Nat), .int .u64 (lw a 7 : Nat)] := rfl
theorem s0q (V : Nat) : i8 (V % B64 ^ 4) = .agg #[.int .u64 (lw V 0 : Nat), .int .u64 (lw V 1 : Nat), .int .u64 (lw V 2 : Nat), .int .u64 (lw V 3 : Nat), .int .u64 0, .int .u64 0, .int .u64 0, .int .u64 0] := by
 have ht := fun i (hi : 4 ≤ i) => d0n (V % B64 ^ 4) 4 i (Nat.mod_lt _ (b0Z 4)) hi
 rw [o0S, e0R _ _ _ ap12, e0R _ _ _ ap12, e0R _ _ _ ap12, e0R _ _ _ ap12, ht 4 ap12, ht 5 ap12, ht 6 ap12, ht 7 ap12]
 rfl
def a0q (w : World) (g : Nat) : Nat → Nat → Nat
 | _, 0 => 0
 | i, n + 1 => (intOf ((w.cell? ⟨g, i, none⟩).getD undef)).toNat + B64 * a0q w g (i + 1) n
theorem j0y {w : World} {g V m : Nat} {T : TypeId} (h : Has w g (cw m V) T) : ∀ (n i : Nat), i + n ≤ m → a0q w g i n = V / B64 ^ i % B64 ^ n
 | 0, i, _ => by simp [a0q, Nat.mod_one]
 | n + 1, i, hi => by
  rw [a0q, j0y h n (i + 1) ap13, h.cell (a0D m V i ap13)]
  show lw V i + B64 * _ = _
  have e1 : B64 ^ (n + 1) = B64 * B64 ^ n := by rw [Nat.pow_succ, Nat.mul_comm]
  rw [e1, Nat.mod_mul, Nat.pow_succ, ← Nat.div_div_eq_div_mul]
  rfl
theorem e0x {w : World} {g V m : Nat} {T : TypeId} (h : Has w g (cw m V) T) (hV : V < B64 ^ m) : a0q w g 0 m = V := by
 rw [j0y h m 0 ap13, Nat.pow_zero, Nat.div_one, Nat.mod_eq_of_lt hV]
theorem St.setCells {S : Nat → Prop} {w0 w : World} {bl : List (Nat × List Value × TypeId)} (h : St S w0 w bl) (i : Nat) {g : Nat} {L : List Value} {T : TypeId} (hb : bl[i]? = some (g, L, T)) (cs : List Value) (hn : cs.length = L.length) : St S w0 (w.setCells g 0 cs) (bl.set i (g, cs, T)) := by
 obtain ⟨k1, k2, _⟩ := Has.setCells cs 0 L w (h.at i hb) ap13
 rw [c0C _ _ hn] at k1
 exact h.put i hb k2 k1
theorem v0i (w : World) (a : Nat) (T : TypeId) : Has (w.alloc (.cells #[.int .u64 (lw a 0 : Nat), .int .u64 (lw a 1 : Nat), .int .u64 (lw a 2 : Nat), .int .u64 (lw a 3 : Nat)] T)) w.heap.size (cw 4 a) T := Has.new w _ T
theorem l0Z (p a : Nat) (h : a ≤ p) : i4 (p + B64 ^ 4 - a) = i4 (p - a) := by
 rw [← x0u, show p + B64 ^ 4 - a = (p - a) + B64 ^ 4 by omega, Nat.add_mod_right, x0u]
theorem b0E (n : Nat) (h : n < 18446744073709551616) : .agg #[.int .u64 (n : Int), .int .u64 0, .int .u64 0, .int .u64 0] = i4 n := by
 have h0 : lw n 0 = n := by simp only [lw, Nat.pow_zero, Nat.div_one]; exact Nat.mod_eq_of_lt h
 have ht := fun i (hi : 1 ≤ i) => d0n n 1 i (by rw [Nat.pow_one]; exact h) hi
 rw [o0R, h0, ht 1 ap12, ht 2 ap12, ht 3 ap12]
 rfl
theorem m0a (n : Nat) (h : n < 18446744073709551616) : .agg #[.int .u64 (n : Int), .int .u64 0, .int .u64 0, .int .u64 0, .int .u64 0, .int .u64 0, .int .u64 0, .int .u64 0] = i8 n := by
 have h0 : lw n 0 = n := by simp only [lw, Nat.pow_zero, Nat.div_one]; exact Nat.mod_eq_of_lt h
 have ht := fun i (hi : 1 ≤ i) => d0n n 1 i (by rw [Nat.pow_one]; exact h) hi
 rw [o0S, h0, ht 1 ap12, ht 2 ap12, ht 3 ap12, ht 4 ap12, ht 5 ap12, ht 6 ap12, ht 7 ap12]
 rfl
theorem g0P (m n a b : Nat) : ((cw m a ++ cw n b).drop 0).take (cw m a).length = cw m a := by simp
theorem v0j (m n a b : Nat) : ((cw m a ++ cw n b).drop m).take (cw n b).length = cw n b := by
 rw [List.drop_append, a0e, a0e, Nat.sub_self, List.drop_of_length_le (by rw [a0e]; exact Nat.le_refl _), List.nil_append, List.drop_zero, List.take_of_length_le (by rw [a0e]; exact Nat.le_refl _)]
end Go.Mv
namespace Go.Proofs.YtmebmhjppmfbbaaGreat
open Go.RowKit Go.Mv Mvp
def Tryz.lays264_ren : Go.Shelf.Ren := ⟨fun | 264 => 177 | n => n, fun | 46 => 238 | 53 => 57 | n => n, fun | n => n⟩
theorem Tryz.lays264 : Go.Proofs.Lays.n264 Tryz.prog Tryz.lays264_ren := {
 mixed := by kernel_rfl
 f264 := Tryz.func177.trans (congrArg some ap11)
 t46 := Tryz.underlying238
 a46 := Tryz.isAgg238
 z46 := Tryz.sizeOf238
 v46 := Tryz.zeroValue238
 t53 := Tryz.underlying57
 a53 := Tryz.isAgg57
 z53 := Tryz.sizeOf57
 v53 := Tryz.zeroValue57 }
theorem i0r (x y c : Nat) (hc : c ≤ 1) (w : World) : (callFunc 176 #[.int .u64 x, .int .u64 y, .int .u64 c]).run Tryz.prog w =
      .ok (.value (.tuple #[.int .u64 (((x + y + c) % 18446744073709551616 : Nat) : Int), .int .u64 (((x + y + c) / 18446744073709551616 : Nat) : Int)])) w := by
  rw [run_callFunc_extern Tryz.func176 ap11 ap11 ap11 (e := add64Entry) ap11, run_add64 x y c ap13 ap13 ap13 ap13]
  simp only [Result.andThen]
  congr 5 <;> omega
theorem e0i (x y s c : Nat) (h1 : (x + y) % 18446744073709551616 = s) (h2 : (x + y) / 18446744073709551616 = c) (w : World) : (callFunc 176 #[.int .u64 x, .int .u64 y, .int .u64 0]).run Tryz.prog w =
      .ok (.value (.tuple #[.int .u64 (s : Int), .int .u64 (c : Int)])) w := by
  have h := i0r x y 0 ap13 w
  rw [Nat.add_zero, h1, h2] at h
  exact h
theorem g0k (x y b : Nat) (hb : b ≤ 1) (w : World) : (callFunc 170 #[.int .u64 x, .int .u64 y, .int .u64 b]).run Tryz.prog w =
      .ok (.value (.tuple #[.int .u64 (((x + 18446744073709551616 - y - b) % 18446744073709551616 : Nat) : Int), .int .u64 ((if x < y + b then 1 else 0 : Nat) : Int)])) w := by
  rw [run_callFunc_extern Tryz.func170 ap11 ap11 ap11 (e := sub64Entry) ap11, run_sub64 x y b hb]
  rfl
theorem m0b (x y : Nat) (hx : x < 18446744073709551616) (hy : y < 18446744073709551616) (w : World) :
  Calls Tryz.prog 177 #[.int .u64 x, .int .u64 y] w fun e w' => e = .returned (.tuple #[.int .u64 ((x * y / 18446744073709551616 : Nat) : Int), .int .u64 ((x * y % 18446744073709551616 : Nat) : Int)]) ∧ w = w' :=
 (Any.bits_Mul64 Tryz.lays264 x y hx hy w).mono fun _ _ h => ⟨h.1, h.2.symm⟩
theorem d0b : (Tryz.prog.info? 57).map (·.size) = some 1 := by kernel_rfl
end Go.Proofs.YtmebmhjppmfbbaaGreat


set_option maxHeartbeats 16000000
set_option maxRecDepth 1000000
namespace Mvp
def cP : Nat := 4294968273
def cQ : Nat := 4624529908474429119 + 4994812053365940164 * B64 + B64 ^ 2
def pP : Nat := B64 ^ 4 - cP
def pQ : Nat := B64 ^ 4 - cQ
theorem C0A : cP < B64 ^ 4 := by decide
theorem C0B : cQ < B64 ^ 4 := by decide
theorem D0o : B64 ^ 4 - pP = cP := by decide
theorem D0p : B64 ^ 4 - pQ = cQ := by decide
end Mvp


set_option maxHeartbeats 16000000
set_option maxRecDepth 1000000
namespace Mvp
structure Md where
 M : Nat
 neg : Nat
 Ri : Nat
structure Md.Ok (m : Md) : Prop where
 one : 1 < m.M
 lt : m.M < B64 ^ 4
 negLt : m.neg < 18446744073709551616
 neg : (m.M * m.neg + 1) % 18446744073709551616 = 0
 inv : B64 ^ 4 * m.Ri % m.M = 1
def mP : Md := ⟨pP, 15580212934572586289, 91248989341183975618893650062416139444822672217621753343178995607984094583082⟩
def mQ : Md := ⟨pQ, 5408259542528602431, 98562742561918706241446412617699626731164144128788972284189895985653995782166⟩
theorem c0w : mP.Ok := ⟨by decide, by decide, by decide, by decide, by decide⟩
theorem n0D : mQ.Ok := ⟨by decide, by decide, by decide, by decide, by decide⟩
theorem n0E (T b M x V mm : Nat) (hb : b < M) (hM : M < B64 ^ 4) (hT : T < b + M) (hx : x < 18446744073709551616) (hV : T + x * b = V) (hm : mm < 18446744073709551616) :
  T < B64 ^ 5 ∧ T + x * b < B64 ^ 6 ∧ V < B64 ^ 6 ∧ V + mm * M < B64 ^ 6 := by
 have h1 : x * b ≤ 18446744073709551615 * b := Nat.mul_le_mul_right _ ap13
 have h2 : mm * M ≤ 18446744073709551615 * M := Nat.mul_le_mul_right _ ap13
 have e4 : B64 ^ 5 = 18446744073709551616 * B64 ^ 4 := by rw [Nat.pow_succ, Nat.mul_comm]
 have e5 : B64 ^ 6 = 18446744073709551616 * B64 ^ 5 := by rw [Nat.pow_succ, Nat.mul_comm]
 generalize B64 ^ 6 = R6 at *
 generalize B64 ^ 5 = R5 at *
 generalize B64 ^ 4 = R4 at *
 omega
theorem s0r (T : Nat) (h2 : T < 2 * B64 ^ 4) (h : ¬ T < B64 ^ 4) : lw T 4 = 1 := by
 have h0 := b0Z 4
 have hd : T / B64 ^ 4 = 1 := by
  generalize B64 ^ 4 = R at *
  have h1 : T - R < R := by omega
  rw [show T = (T - R) + R by omega, Nat.add_div_right _ h0, Nat.div_eq_of_lt h1]
 unfold lw
 rw [hd]; rfl
theorem j0z (T M : Nat) (hM : M < B64 ^ 4) (hT : T < 2 * M) :
  (T < M → lw T 4 = 0 ∧ b0o T M 4 = 1 ∧ Go.Mv.cw 4 (T % M) = Go.Mv.cw 4 T) ∧
  (¬ T < M → Go.Mv.cw 4 (T % M) = Go.Mv.cw 4 (T + B64 ^ 4 - M) ∧ (T < B64 ^ 4 → lw T 4 = 0 ∧ b0o T M 4 = 0)) := by
 constructor
 ·intro h
  exact ⟨d0n T 4 4 (Nat.lt_trans h hM) (Nat.le_refl _), by rw [f0n _ _ _ (Nat.lt_trans h hM) hM, if_pos h], by rw [Nat.mod_eq_of_lt h]⟩
 ·intro h
  refine ⟨?_, fun h4 => ⟨d0n T 4 4 h4 (Nat.le_refl _), by rw [f0n _ _ _ h4 hM, if_neg h]⟩⟩
  rw [q0B T M hT, if_neg h, ← Go.Mv.cw_mod 4 (T + B64 ^ 4 - M), show T + B64 ^ 4 - M = (T - M) + B64 ^ 4 by omega, Nat.add_mod_right, Go.Mv.cw_mod]
theorem q0C (M neg b a : Nat) : a0J M neg b a 0 = 0 := rfl
theorem q0D (M neg b a k : Nat) : a0J M neg b a (k + 1) = (a0J M neg b a k + lw a k * b + ((a0J M neg b a k + lw a k * b) % 18446744073709551616 * neg % 18446744073709551616) * M) / 18446744073709551616 := rfl
end Mvp
namespace Go.Mv
open Go.RowKit Mvp
def mdL (m : Md) : List Value := cw 4 m.M ++ ([.int .u64 (m.neg : Int)] ++ (cw 4 (B64 ^ 4 % m.M) ++ cw 4 (B64 ^ 4 * B64 ^ 4 % m.M)))
theorem n0b (m : Md) : ((mdL m).drop 0).take (cw 4 m.M).length = cw 4 m.M := by simp [mdL]
theorem A0J (m : Md) : ((mdL m).drop 5).take (cw 4 (B64 ^ 4 % m.M)).length = cw 4 (B64 ^ 4 % m.M) := by
 have h : (cw 4 m.M ++ [Value.int .u64 (m.neg : Int)]).length = 5 := by rw [List.length_append, a0e]; rfl
 rw [mdL, ← List.append_assoc, List.drop_append_of_le_length ap13, List.drop_of_length_le ap13, List.nil_append]
 simp
theorem A0K (m : Md) : ((mdL m).drop 9).take (cw 4 (B64 ^ 4 * B64 ^ 4 % m.M)).length = cw 4 (B64 ^ 4 * B64 ^ 4 % m.M) := by
 have h : (cw 4 m.M ++ ([Value.int .u64 (m.neg : Int)] ++ cw 4 (B64 ^ 4 % m.M))).length = 9 := by rw [List.length_append, List.length_append, a0e, a0e]; rfl
 have e : mdL m = (cw 4 m.M ++ ([Value.int .u64 (m.neg : Int)] ++ cw 4 (B64 ^ 4 % m.M))) ++ cw 4 (B64 ^ 4 * B64 ^ 4 % m.M) := by simp [mdL]
 rw [e, List.drop_append_of_le_length ap13, List.drop_of_length_le ap13, List.nil_append, List.take_of_length_le (Nat.le_refl _)]
theorem A0L (m : Md) : (mdL m)[4]? = some (.int .u64 (m.neg : Int)) := by
 rw [mdL, List.getElem?_append_right (by rw [a0e]; exact Nat.le_refl _), a0e]; rfl
theorem A0M (V : Nat) (h : V < B64 ^ 6) : (splice (cw 6 V) 0 (((cw 6 V).drop 1).take 5)).set 5 (.int .u64 0) = cw 6 (V / 18446744073709551616) := by
 have e : V / 18446744073709551616 = V / B64 ^ 1 := by rw [Nat.pow_one]
 have h6 : lw V 6 = 0 := d0n V 6 6 h (Nat.le_refl _)
 have hw := fun i => c0D V 1 i
 rw [e]
 show _ = [Value.int .u64 (lw (V / B64 ^ 1) 0 : Nat), Value.int .u64 (lw (V / B64 ^ 1) 1 : Nat), Value.int .u64 (lw (V / B64 ^ 1) 2 : Nat), Value.int .u64 (lw (V / B64 ^ 1) 3 : Nat), Value.int .u64 (lw (V / B64 ^ 1) 4 : Nat), Value.int .u64 (lw (V / B64 ^ 1) 5 : Nat)]
 rw [hw 0, hw 1, hw 2, hw 3, hw 4, hw 5, show 1 + 5 = 6 from rfl, h6]
 rfl
theorem y0I (V : Nat) : ((cw 6 V).drop 0).take (cw 4 V).length = cw 4 V := rfl
end Go.Mv


namespace Go.Proofs.YtmebmhjppmfbbaaGreat
open Go.RowKit Go.Mv Mvp
def A0N : List UInt8 := [115, 105, 103, 110]
def v0k : List UInt8 := [112, 117, 98, 108, 105, 99]
def y0J : List UInt8 := [102, 105, 114, 115, 116]
def A0O : List UInt8 := [116, 101, 120, 116]
def i0s : List UInt8 := [99, 104, 97, 108, 108, 101, 110, 103, 101]
def c0a : List UInt8 := [110, 111, 110, 99, 101, 32, 115, 105, 103, 110]
def e0U (st : List UInt8) : List (List UInt8 × List UInt8) → List UInt8
 | [] => st
 | x :: r => e0U (c0G s0d [st, x.1, x.2]) r
def D0h (label : List UInt8) : List UInt8 := c0G u0X [label]
end Go.Proofs.YtmebmhjppmfbbaaGreat


set_option maxHeartbeats 16000000
set_option maxRecDepth 1000000
namespace Go.Proofs.YtmebmhjppmfbbaaGreat
open Go.RowKit Go.Mv Mvp
attribute [local irreducible] a0E lw mix cw b0o b0x b0l
theorem _root_.ap9 {p : Prop} (h : p := by rw [f0L]; rfl) : p := h
theorem d0F (a b : Nat) (w : World) (hb : b < B64 ^ 4) :
  Calls Tryz.prog 184 #[i4 a, i4 b] w fun e w' => e = .returned (.tuple #[i4 (a + B64 ^ 4 - b), .int .u64 (b0o a b 4 : Nat)]) ∧ Fr Nob w w' := by
 have HB := Lib.hid hb; clear hb
 have st0 := St.start Nob w
 go_enter Tryz.func184, Tryz.ntmps184
 go_wp2_with (with_reducible refine wSk 2 ?_)
 refine a0l st0 rfl rfl rfl (cw 4 a) rfl ?_
 intro g2 w1 st1
 clear st0
 go_wp2_with (with_reducible refine wSk 3 ?_)
 refine a0l st1 rfl rfl rfl (cw 4 b) rfl ?_
 intro g3 w2 st2
 clear st1
 go_wp2_with (with_reducible refine wSk 4 ?_)
 refine a0a st2 rfl rfl (z := zAd) ap11 (cw 4 0) ap9 ?_
 intro g4 w3 st3
 clear st2
 go_wp2
 go_loopw [5, 7] (fun c i wr => ∃ k : Nat, k ≤ 4 ∧ i = .int .i64 (k : Int) ∧ c = .int .u64 (b0o a b k : Nat) ∧ St Nob w wr [(g2, cw 4 a, 108), (g3, cw 4 b, 108), (g4, cw 4 (mix (a + B64 ^ 4 - b) 0 k), 108)]) (fun _ i _ => 4 - (intOf i).toNat)
 case atStart => exact ⟨0, by omega, rfl, by rw [g0h]; rfl, by rw [d0R]; exact st3⟩
 case round =>
  obtain ⟨k, hk, rfl, rfl, st⟩ := hrel
  clear st3
  by_cases hlt : k < 4
  ·have hltI : (k : Int) < 4 := by omega
   have c1 := (st.at 0 rfl).cell (a0D 4 a k hlt)
   have c2 := (st.at 1 rfl).cell (a0D 4 b k hlt)
   obtain ⟨v3, c3, f3⟩ := (st.at 2 rfl).ready (i := k) (by rw [a0e]; exact hlt)
   have e1 := fun wx => g0k (lw a k) (lw b k) (b0o a b k) (k0x a b k) wx
   go_wp2
   go_region
   all_goals
    go_wp2
    go_roundw
    case rel =>
     have h1 := st.set 2 rfl k (.int .u64 (lw (a + B64 ^ 4 - b) k : Nat))
     rw [d0S _ _ _ _ hlt, o0O 4 a b k HB.out hlt] at h1
     exact ⟨k + 1, by omega, by go_num, by rw [g0i], h1.drew⟩
    case measure => simp [intOf]; omega
  ·have hge : ¬ ((k : Int) < 4) := by omega
   have hk4 : k = 4 := by omega
   have HK := Lib.hid hk4; clear hk4
   go_wp2_with (with_reducible refine wSk 24 ?_)
   refine a0i st 2 rfl rfl rfl Tryz.underlying108 rfl (by rw [a0e]; kernel_rfl) ?_
   go_wp2_with (with_reducible refine wSn ?_)
   refine a0b st 2 rfl rfl rfl rfl rfl (by simp only [a0e]) (by rw [a0e]; kernel_rfl) (a0g _ _) ?_
   intro w5 st5
   clear st
   have hd5 := st5.at 2 rfl
   rw [HK.out, i0m _ _ _ (by first | decide | assumption | exact HA.out), cw_mod] at hd5
   have hf5 := st5.fr
   clear st5
   go_wp2
   exact bodyPost_ret (a0V rfl rfl hd5 Tryz.underlying108 (by rw [a0e]; kernel_rfl) rfl) rfl ⟨by rw [HK.out]; rfl, hf5⟩
theorem g0l (a b : Nat) (w : World) :
  Calls Tryz.prog 194 #[i4 a, i4 b] w fun e w' => e = .returned (.tuple #[i4 (a + b), .int .u64 (b0x a b 4 : Nat)]) ∧ Fr Nob w w' := by
 have st0 := St.start Nob w
 go_enter Tryz.func194, Tryz.ntmps194
 go_wp2_with (with_reducible refine wSk 2 ?_)
 refine a0l st0 rfl rfl rfl (cw 4 a) rfl ?_
 intro g2 w1 st1
 clear st0
 go_wp2_with (with_reducible refine wSk 3 ?_)
 refine a0l st1 rfl rfl rfl (cw 4 b) rfl ?_
 intro g3 w2 st2
 clear st1
 go_wp2_with (with_reducible refine wSk 4 ?_)
 refine a0a st2 rfl rfl (z := zAd) ap11 (cw 4 0) ap9 ?_
 intro g4 w3 st3
 clear st2
 go_wp2
 go_loopw [5, 7] (fun c i wr => ∃ k : Nat, k ≤ 4 ∧ i = .int .i64 (k : Int) ∧ c = .int .u64 (b0x a b k : Nat) ∧ St Nob w wr [(g2, cw 4 a, 108), (g3, cw 4 b, 108), (g4, cw 4 (mix (a + b) 0 k), 108)]) (fun _ i _ => 4 - (intOf i).toNat)
 case atStart => exact ⟨0, by omega, rfl, by rw [l0V]; rfl, by rw [d0R]; exact st3⟩
 case round =>
  obtain ⟨k, hk, rfl, rfl, st⟩ := hrel
  clear st3
  by_cases hlt : k < 4
  ·have hltI : (k : Int) < 4 := by omega
   have c1 := (st.at 0 rfl).cell (a0D 4 a k hlt)
   have c2 := (st.at 1 rfl).cell (a0D 4 b k hlt)
   obtain ⟨v3, c3, f3⟩ := (st.at 2 rfl).ready (i := k) (by rw [a0e]; exact hlt)
   have e1 := fun wx => i0r (lw a k) (lw b k) (b0x a b k) (s0k a b k) wx
   go_wp2
   go_region
   all_goals
    go_wp2
    go_roundw
    case rel =>
     have h1 := st.set 2 rfl k (.int .u64 (lw (a + b) k : Nat))
     rw [d0S _ _ _ _ hlt, x0t a b k] at h1
     exact ⟨k + 1, by omega, by go_num, by rw [l0W]; go_num, h1.drew⟩
    case measure => simp [intOf]; omega
  ·have hge : ¬ ((k : Int) < 4) := by omega
   have hk4 : k = 4 := by omega
   have HK := Lib.hid hk4; clear hk4
   go_wp2_with (with_reducible refine wSk 24 ?_)
   refine a0i st 2 rfl rfl rfl Tryz.underlying108 rfl (by rw [a0e]; kernel_rfl) ?_
   go_wp2_with (with_reducible refine wSn ?_)
   refine a0b st 2 rfl rfl rfl rfl rfl (by simp only [a0e]) (by rw [a0e]; kernel_rfl) (a0g _ _) ?_
   intro w5 st5
   clear st
   have hd5 := st5.at 2 rfl
   rw [HK.out, i0m _ _ _ (by first | decide | assumption | exact HA.out), cw_mod] at hd5
   have hf5 := st5.fr
   clear st5
   go_wp2
   exact bodyPost_ret (a0V rfl rfl hd5 Tryz.underlying108 (by rw [a0e]; kernel_rfl) rfl) rfl ⟨by rw [HK.out]; rfl, hf5⟩
theorem k0y (a b : Nat) (w : World) (hb : b < B64 ^ 4) :
  Calls Tryz.prog 174 #[i4 a, i4 b] w fun e w' => e = .returned (.tuple #[i4 (a + B64 ^ 4 - b), .int .u64 (b0o a b 4 : Nat)]) ∧ Fr Nob w w' := by
 have HB := Lib.hid hb; clear hb
 have st0 := St.start Nob w
 go_enter Tryz.func174, Tryz.ntmps174
 go_wp2_with (with_reducible refine wSk 2 ?_)
 refine a0l st0 rfl rfl rfl (cw 4 a) rfl ?_
 intro g2 w1 st1
 clear st0
 go_wp2_with (with_reducible refine wSk 3 ?_)
 refine a0l st1 rfl rfl rfl (cw 4 b) rfl ?_
 intro g3 w2 st2
 clear st1
 go_wp2_with (with_reducible refine wSk 4 ?_)
 refine a0a st2 rfl rfl (z := zAd) ap11 (cw 4 0) ap9 ?_
 intro g4 w3 st3
 clear st2
 go_wp2_with (with_reducible refine wSk 6 ?_)
 refine a0a st3 rfl rfl (z := zAd) ap11 (cw 4 0) ap9 ?_
 intro g6 w4 st4
 clear st3
 go_wp2
 go_loopw [7, 8] (fun c i wr => ∃ k : Nat, k ≤ 4 ∧ i = .int .i64 (k : Int) ∧ c = .int .u64 (b0o a b k : Nat) ∧ St Nob w wr [(g2, cw 4 a, 68), (g3, cw 4 b, 68), (g4, cw 4 0, 68), (g6, cw 4 (mix (a + B64 ^ 4 - b) 0 k), 68)]) (fun _ i _ => 4 - (intOf i).toNat)
 case atStart => exact ⟨0, by omega, rfl, by rw [g0h]; rfl, by rw [d0R]; exact st4⟩
 case round =>
  obtain ⟨k, hk, rfl, rfl, st⟩ := hrel
  clear st4
  by_cases hlt : k < 4
  ·have hltI : (k : Int) < 4 := by omega
   have c1 := (st.at 0 rfl).cell (a0D 4 a k hlt)
   have c2 := (st.at 1 rfl).cell (a0D 4 b k hlt)
   obtain ⟨v3, c3, f3⟩ := (st.at 3 rfl).ready (i := k) (by rw [a0e]; exact hlt)
   have e1 := fun wx => g0k (lw a k) (lw b k) (b0o a b k) (k0x a b k) wx
   go_wp2
   go_region
   all_goals
    go_wp2
    go_roundw
    case rel =>
     have h1 := st.set 3 rfl k (.int .u64 (lw (a + B64 ^ 4 - b) k : Nat))
     rw [d0S _ _ _ _ hlt, o0O 4 a b k HB.out hlt] at h1
     exact ⟨k + 1, by omega, by go_num, by rw [g0i], h1.drew⟩
    case measure => simp [intOf]; omega
  ·have hge : ¬ ((k : Int) < 4) := by omega
   have hk4 : k = 4 := by omega
   have HK := Lib.hid hk4; clear hk4
   go_wp2_with (with_reducible refine wSk 26 ?_)
   refine a0i st 3 rfl rfl rfl Tryz.underlying68 rfl (by rw [a0e]; kernel_rfl) ?_
   go_wp2_with (with_reducible refine wSn ?_)
   refine a0b st 2 rfl rfl rfl rfl rfl (by simp only [a0e]) (by rw [a0e]; kernel_rfl) (a0g _ _) ?_
   intro w5 st5
   clear st
   have hd5 := st5.at 2 rfl
   rw [HK.out, i0m _ _ _ (by first | decide | assumption | exact HA.out), cw_mod] at hd5
   have hf5 := st5.fr
   clear st5
   go_wp2
   exact bodyPost_ret (a0V rfl rfl hd5 Tryz.underlying68 (by rw [a0e]; kernel_rfl) rfl) rfl ⟨by rw [HK.out]; rfl, hf5⟩
theorem i0t (a b : Nat) (w : World) :
  Calls Tryz.prog 126 #[i8 a, i8 b] w fun e w' => e = .returned (i8 (a + b)) ∧ Fr Nob w w' := by
 have st0 := St.start Nob w
 go_enter Tryz.func126, Tryz.ntmps126
 go_wp2_with (with_reducible refine wSk 2 ?_)
 refine a0l st0 rfl rfl rfl (cw 8 a) rfl ?_
 intro g2 w1 st1
 clear st0
 go_wp2_with (with_reducible refine wSk 3 ?_)
 refine a0l st1 rfl rfl rfl (cw 8 b) rfl ?_
 intro g3 w2 st2
 clear st1
 go_wp2_with (with_reducible refine wSk 4 ?_)
 refine a0a st2 rfl rfl (z := .agg #[.int .u64 0, .int .u64 0, .int .u64 0, .int .u64 0, .int .u64 0, .int .u64 0, .int .u64 0, .int .u64 0]) ap11 (cw 8 0) ap9 ?_
 intro g4 w3 st3
 clear st2
 go_wp2
 go_loopw [5, 6] (fun c i wr => ∃ k : Nat, k ≤ 8 ∧ i = .int .i64 (k : Int) ∧ c = .int .u64 (b0x a b k : Nat) ∧ St Nob w wr [(g2, cw 8 (mix (a + b) a k), 169), (g3, cw 8 b, 169), (g4, cw 8 0, 169)]) (fun _ i _ => 8 - (intOf i).toNat)
 case atStart => exact ⟨0, by omega, rfl, by rw [l0V]; rfl, by rw [d0R]; exact st3⟩
 case round =>
  obtain ⟨k, hk, rfl, rfl, st⟩ := hrel
  clear st3
  by_cases hlt : k < 8
  ·have hltI : (k : Int) < 8 := by omega
   have c1 : wr.cell? ⟨g2, k, none⟩ = some (.int .u64 (lw a k : Nat)) := by have h := (st.at 0 rfl).cell (a0D 8 (mix (a + b) a k) k hlt); rwa [h0k, if_neg (Nat.lt_irrefl k)] at h
   have c2 := (st.at 1 rfl).cell (a0D 8 b k hlt)
   have f3 := (st.at 0 rfl).free k (by rw [a0e]; exact hlt)
   have e1 := fun wx => i0r (lw a k) (lw b k) (b0x a b k) (s0k a b k) wx
   go_wp2
   go_region
   all_goals
    go_wp2
    go_roundw
    case rel =>
     have h1 := st.set 0 rfl k (.int .u64 (lw (a + b) k : Nat))
     rw [d0S _ _ _ _ hlt, x0t a b k] at h1
     exact ⟨k + 1, by omega, by go_num, by rw [l0W]; go_num, h1.drew⟩
    case measure => simp [intOf]; omega
  ·have hge : ¬ ((k : Int) < 8) := by omega
   have hk4 : k = 8 := by omega
   have HK := Lib.hid hk4; clear hk4
   go_wp2_with (with_reducible refine wSk 24 ?_)
   refine a0i st 0 rfl rfl rfl Tryz.underlying169 rfl (by rw [a0e]; kernel_rfl) ?_
   go_wp2_with (with_reducible refine wSn ?_)
   refine a0b st 2 rfl rfl rfl rfl rfl (by simp only [a0e]) (by rw [a0e]; kernel_rfl) (a0g _ _) ?_
   intro w5 st5
   clear st
   have hd5 := st5.at 2 rfl
   rw [HK.out, h0D] at hd5
   have hf5 := st5.fr
   clear st5
   go_wp2
   exact bodyPost_ret (a0u rfl rfl hd5 Tryz.underlying169 (by rw [a0e]; kernel_rfl)) rfl ⟨rfl, hf5⟩
end Go.Proofs.YtmebmhjppmfbbaaGreat


set_option maxHeartbeats 16000000
set_option maxRecDepth 1000000
namespace Go.Proofs.YtmebmhjppmfbbaaGreat
open Go.RowKit Go.Mv Mvp
attribute [local irreducible] a0E lw mix cw b0o b0x b0l
theorem o0T (gt V x n top : Nat) (T : TypeId) (w : World) (ht : Has w gt (cw 6 V) T) (hx : x < 18446744073709551616) (_ : top < 18446744073709551616) :
  Calls Tryz.prog 186 #[.pointer (some ⟨gt, 0, none⟩), .int .u64 (x : Int), i4 n, .int .u64 (top : Int)] w fun e w' =>
   e = .returned (.tuple #[.int .u64 (((top + b0l V x n 4) % 18446744073709551616 : Nat) : Int), .int .u64 (((top + b0l V x n 4) / 18446744073709551616 : Nat) : Int)]) ∧
   Has w' gt (cw 6 (mix (V + x * n) V 4)) T ∧ Fr (One gt) w w' := by
 have st0 := St.one ht
 clear ht
 have HX := Lib.hid hx
 go_enter Tryz.func186, Tryz.ntmps186
 go_wp2_with (with_reducible refine wSk 6 ?_)
 refine a0l st0 rfl rfl rfl (cw 4 n) rfl ?_
 intro gn w1 st1
 clear st0
 go_wp2_with (with_reducible refine wSk 16 ?_)
 refine a0i st1 1 rfl rfl rfl Tryz.underlying108 rfl (by rw [a0e]; kernel_rfl) ?_
 go_wp2
 go_loopw [10, 17] (fun c i wr => ∃ k : Nat, k ≤ 4 ∧ i = .int .i64 (k : Int) ∧ c = .int .u64 (b0l V x n k : Nat) ∧ St (One gt) w wr [(gt, cw 6 (mix (V + x * n) V k), T)]) (fun _ i _ => 4 - (intOf i).toNat)
 case atStart => exact ⟨0, by omega, rfl, by rw [l0X]; rfl, by rw [d0R]; exact st1.less ap14⟩
 case round =>
  obtain ⟨k, hk, rfl, rfl, st⟩ := hrel
  clear st1
  have hcm := i0n V x n k HX.out
  by_cases hlt : k < 4
  ·have hltI : (k : Int) < 4 := by omega
   have e0 := fun wx => e0T (P := Tryz.prog) Tryz.underlying108 Tryz.underlying57 d0b n k hlt .i64 wx
   have hp := i0p HX.out (c0T n k)
   have hms := g0j V x n k
   have hlm := i0o V x n k
   have hms2 := i0n V x n (k + 1) HX.out
   obtain ⟨hi, lo, lo2, c1, t2, c2, r1, r2, r3, r4, r5, r6, r7, r8, r9⟩ := j0x (x * lw n k) (lw V k) (b0l V x n k) hp hcm
   rw [← r8] at hlm
   rw [← r9] at hms
   rw [hms] at hms2
   have hmul := fun wx => m0b x (lw n k) HX.out (c0T n k) wx
   rw [r1, r2] at hmul
   have e2 := fun wx => e0i lo (b0l V x n k) lo2 c1 r3 r4 wx
   have e3 := fun wx => e0i (lw V k) lo2 t2 c2 r6 r7 wx
   obtain ⟨v3, c3, f3⟩ := (st.at 0 rfl).ready (i := k) (by rw [a0e]; omega)
   have c1' : wr.cell? ⟨gt, k, none⟩ = some (.int .u64 (lw V k : Nat)) := by have h := (st.at 0 rfl).cell (a0D 6 (mix (V + x * n) V k) k ap13); rwa [h0k, if_neg (Nat.lt_irrefl k)] at h
   clear c3 hp r1 r2 r3 r4 r6 r7 r8 r9
   have HMUL := Lib.hid hmul; clear hmul
   have HMS := Lib.hid hms; clear hms
   have HLM := Lib.hid hlm; clear hlm
   go_wp2_with fail
   refine (HMUL.out _).mono ?_
   rintro e' w' ⟨rfl, rfl⟩
   go_wp2_with fail
   go_region
   all_goals
    go_wp2
    go_roundw
    case rel =>
     have h1 := st.set 0 rfl k (.int .u64 (lw (V + x * n) k : Nat))
     rw [d0S _ _ _ _ ap13, HLM.out] at h1
     exact ⟨k + 1, by omega, by go_num, by rw [HMS.out]; go_num, h1.drew⟩
    case measure => simp [intOf]; omega
  ·have hge : ¬ ((k : Int) < 4) := by omega
   have hk4 : k = 4 := by omega
   have HK := Lib.hid hk4; clear hk4
   have e2 := fun wx => e0i top (b0l V x n k) _ _ rfl rfl wx
   go_wp2
   go_ret2
   rw [← HK.out]
   exact ⟨rfl, st.at 0 rfl, st.fr⟩
end Go.Proofs.YtmebmhjppmfbbaaGreat


set_option maxHeartbeats 16000000
set_option maxRecDepth 1000000
namespace Go.Proofs.YtmebmhjppmfbbaaGreat
open Go.RowKit Go.Mv Mvp
attribute [local irreducible] a0E lw mix cw b0o b0x b0l
theorem e0V (a b : Nat) (w : World) (ha : a < B64 ^ 4) (hb : b < B64 ^ 4) :
  Calls Tryz.prog 127 #[i4 a, i4 b] w fun e w' => e = .returned (i8 (a * b)) ∧ Fr Nob w w' := by
 have HA := Lib.hid ha; clear ha
 have HB := Lib.hid hb; clear hb
 have st0 := St.start Nob w
 go_enter Tryz.func127, Tryz.ntmps127
 go_wp2_with (with_reducible refine wSk 2 ?_)
 refine a0l st0 rfl rfl rfl (cw 4 a) rfl ?_
 intro g2 w1 st1
 clear st0
 go_wp2_with (with_reducible refine wSk 3 ?_)
 refine a0l st1 rfl rfl rfl (cw 4 b) rfl ?_
 intro g3 w2 st2
 clear st1
 go_wp2_with (with_reducible refine wSk 4 ?_)
 refine a0a st2 rfl rfl (z := .agg #[.int .u64 0, .int .u64 0, .int .u64 0, .int .u64 0, .int .u64 0, .int .u64 0, .int .u64 0, .int .u64 0]) ap11 (cw 8 0) ap9 ?_
 intro g4 w3 st3
 clear st2
 go_wp2_with (with_reducible refine wSk 5 ?_)
 refine a0a st3 rfl rfl (z := .agg #[.int .u64 0, .int .u64 0, .int .u64 0, .int .u64 0, .int .u64 0, .int .u64 0, .int .u64 0, .int .u64 0]) ap11 (cw 8 0) ap9 ?_
 intro g5 w4 st4
 clear st3
 go_wp2
 go_loopw [6] (fun i wr => ∃ I : Nat, I ≤ 4 ∧ i = .int .i64 (I : Int) ∧ St Nob w wr [(g2, cw 4 a, 68), (g3, cw 4 b, 68), (g4, cw 8 0, 169), (g5, cw 8 (a % B64 ^ I * b), 169)]) (fun i _ => 4 - (intOf i).toNat)
 case atStart => exact ⟨0, by omega, rfl, by rw [v0d]; exact st4⟩
 case round =>
  obtain ⟨I, hI, rfl, st⟩ := hrel
  clear st4
  by_cases hlt : I < 4
  ·have hltI : (I : Int) < 4 := by omega
   obtain ⟨wo, rfl⟩ : ∃ wo : World, wo = wr := ⟨_, rfl⟩
   have htop := y0E a b I HB.out
   have hall := y0F a b I HB.out
   have hnew := y0G a b I
   have hst := s0m a b I
   have hword := v0c a b I
   generalize hP : a % B64 ^ I * b = V at *
   have HP := Lib.hid hP; clear hP
   have HTOP := Lib.hid htop; clear htop
   have HALL := Lib.hid hall; clear hall
   have HST := Lib.hid hst; clear hst
   have HNEW := Lib.hid hnew; clear hnew
   have HWORD := Lib.hid hword; clear hword
   go_wp2
   go_loopw [7, 8] (fun c i wr => ∃ k : Nat, k ≤ 4 ∧ i = .int .i64 (k : Int) ∧ c = .int .u64 (b0l (V / B64 ^ I) (lw a I) b k : Nat) ∧ St Nob w wr [(g2, cw 4 a, 68), (g3, cw 4 b, 68), (g4, cw 8 0, 169), (g5, cw 8 (mix (a % B64 ^ (I + 1) * b) V (I + k)), 169)]) (fun _ i _ => 4 - (intOf i).toNat)
   case atStart =>
    exact ⟨0, by omega, rfl, by rw [l0X]; rfl, by rw [HST.out]; exact st⟩
   case round =>
    obtain ⟨k, hk, rfl, rfl, stk⟩ := hrel
    clear st
    have hx := c0T a I
    have hcm := i0n (V / B64 ^ I) (lw a I) b k hx
    by_cases hltk : k < 4
    ·have hltK : (k : Int) < 4 := by omega
     have hp := i0p hx (c0T b k)
     have hms := g0j (V / B64 ^ I) (lw a I) b k
     have hlm := i0o (V / B64 ^ I) (lw a I) b k
     have hms2 := i0n (V / B64 ^ I) (lw a I) b (k + 1) hx
     obtain ⟨hi, lo, lo2, c1, t2, c2, r1, r2, r3, r4, r5, r6, r7, r8, r9⟩ := j0x (lw a I * lw b k) (lw (V / B64 ^ I) k) (b0l (V / B64 ^ I) (lw a I) b k) hp hcm
     rw [← r8, ← HNEW.out] at hlm
     rw [← r9] at hms
     rw [hms] at hms2
     have hmul := fun wx => m0b (lw a I) (lw b k) hx (c0T b k) wx
     rw [r1, r2] at hmul
     have e2 := fun wx => e0i lo (b0l (V / B64 ^ I) (lw a I) b k) lo2 c1 r3 r4 wx
     have e3 := fun wx => e0i (lw (V / B64 ^ I) k) lo2 t2 c2 r6 r7 wx
     have ca := (stk.at 0 rfl).cell (a0D 4 a I hlt)
     have cb := (stk.at 1 rfl).cell (a0D 4 b k hltk)
     obtain ⟨v3, c3, f3⟩ := (stk.at 3 rfl).ready (i := I + k) (by rw [a0e]; omega)
     have c1' : wr.cell? ⟨g5, I + k, none⟩ = some (.int .u64 (lw (V / B64 ^ I) k : Nat)) := by
      have h := (stk.at 3 rfl).cell (a0D 8 (mix (a % B64 ^ (I + 1) * b) V (I + k)) (I + k) ap13); rwa [h0k, if_neg (Nat.lt_irrefl _), HWORD.out] at h
     clear c3 hp r1 r2 r3 r4 r6 r7 r8 r9
     have HMUL := Lib.hid hmul; clear hmul
     have HMS := Lib.hid hms; clear hms
     have HLM := Lib.hid hlm; clear hlm
     go_wp2_with fail
     go_quiet ((go_at_call 177; refine Calls.quiet_of_same ((HMUL.out _).mono fun _ _ h => ⟨h.1, h.2.symm⟩)))
     go_wp2_with fail
     go_roundw
     case rel =>
      have h1 := (stk.drewN nq).set 3 rfl (I + k) (.int .u64 (lw (a % B64 ^ (I + 1) * b) (I + k) : Nat))
      rw [d0S _ _ _ _ ap13, HLM.out] at h1
      exact ⟨k + 1, by omega, by go_num, by rw [HMS.out]; go_num, h1⟩
     case measure => simp [intOf]; omega
    ·have hge : ¬ ((k : Int) < 4) := by omega
     have hk4 : k = 4 := by omega
     have HK := Lib.hid hk4; clear hk4
     obtain ⟨v3, c3, f3⟩ := (stk.at 3 rfl).ready (i := I + 4) (by rw [a0e]; omega)
     go_wp2
     go_roundw
     case rel =>
      have h1 := stk.set 3 rfl (I + 4) (.int .u64 (b0l (V / B64 ^ I) (lw a I) b k : Nat))
      have h2 : (cw 8 (mix (a % B64 ^ (I + 1) * b) V (I + k))).set (I + 4) (.int .u64 (b0l (V / B64 ^ I) (lw a I) b k : Nat)) = cw 8 (a % B64 ^ (I + 1) * b) := by
       rw [HK.out, ← HTOP.out, d0S _ _ _ _ ap13, HALL.out]
      rw [h2] at h1
      exact ⟨I + 1, by omega, by go_num, h1⟩
     case measure => simp [intOf]; omega
  ·have hge : ¬ ((I : Int) < 4) := by omega
   have hk4 : I = 4 := by omega
   have HK := Lib.hid hk4; clear hk4
   go_wp2_with (with_reducible refine wSk 60 ?_)
   refine a0i st 3 rfl rfl rfl Tryz.underlying169 rfl (by rw [a0e]; kernel_rfl) ?_
   go_wp2_with (with_reducible refine wSn ?_)
   refine a0b st 2 rfl rfl rfl rfl rfl (by simp only [a0e]) (by rw [a0e]; kernel_rfl) (a0g _ _) ?_
   intro w5 st5
   clear st
   have hd5 := st5.at 2 rfl
   rw [HK.out, Nat.mod_eq_of_lt HA.out] at hd5
   have hf5 := st5.fr
   clear st5
   go_wp2
   exact bodyPost_ret (a0u rfl rfl hd5 Tryz.underlying169 (by rw [a0e]; kernel_rfl)) rfl ⟨rfl, hf5⟩
end Go.Proofs.YtmebmhjppmfbbaaGreat


set_option maxHeartbeats 16000000
set_option maxRecDepth 1000000
namespace Go.Mv
open Go.RowKit
section
variable {P : Program} {ops : Array Oper} {md : Region.Mode} {Q : Exit → Act → World → Prop} {S : World → Prop}
def j0A (P : Program) (md : Region.Mode) (ops : Array Oper) (Q : Exit → Act → World → Prop) (S : World → Prop) (n g : Nat) (tl : List Oper) : Nat → Array Bool → Act → World → Prop
 | 0, listed, a, w => Region.seqB md ops g n listed = true ∧ wpList P ops Q tl a w
 | f + 1, listed, a, w =>
  Region.ready md ops listed ≠ [] ∧ ∀ i ∈ Region.ready md ops listed, i < n ∧ wpOp P ops Q i (fun a' w' => S w' ∧ j0A P md ops Q S n g tl f (listed.setIfInBounds i true) a' w') a w
theorem g0Q {n : Nat} {tl : List Oper} (hl : ∀ j, tl[j]? = ops[n + j]?) : ∀ (f : Nat) (listed : Array Bool) (a : Act) (w : World), j0A P md ops Q S n tl.length tl f listed a w → wpAny P md ops Q (f + tl.length) listed a w
 | 0, listed, a, w, h => by rw [Nat.zero_add]; exact wpAny_of_seq tl n listed a w hl h.1 h.2
 | f + 1, listed, a, w, h => by
  rw [show f + 1 + tl.length = (f + tl.length) + 1 by omega]
  exact ⟨fun h0 => absurd h0 h.1, fun i hi => wpOp_mono (fun a' w' h' => g0Q hl f _ a' w' h'.2) (h.2 i hi).2⟩
theorem h0l {n g i : Nat} {oi : Oper} {v : Value} {tl : List Oper} (hi : ops[i]? = some oi) (hsel : ∀ (j : Nat) (o : Oper) cs b, ops[j]? = some o → o.op ≠ .select cs b)
  (hQ : ∀ c a w, Q (.panic c) (a.put oi.dst v) w → Q (.panic c) a w)
  (hs : Region.sinkB md ops n = true) (hc : Region.chainB md ops n = true) (hn : n < ops.size) (hin : i < n) :
  ∀ (f : Nat) (listed : Array Bool) (a : Act) (w : World), HeadInv md ops n listed →
   (∀ j oj, ops[j]? = some oj → j ≠ i → listed.getD j true = false → (∀ e ∈ oj.after, Region.binds md e = true → e.on ≠ i) → oi.apart ops oj = true) →
   i ∈ Region.ready md ops listed → YieldsIf P ops S oi v a → S w →
   j0A P md ops Q S n g tl f (listed.setIfInBounds i true) (a.put oi.dst v) w → j0A P md ops Q S n g tl (f + 1) listed a w := by
 intro f
 induction f with
 | zero =>
  intro listed a w inv _ hr hy hS H
  have hun := (mem_ready.1 hr).1
  refine ⟨fun h => (by rw [h] at hr; cases hr), fun j hj => ?_⟩
  have hjn : j < n := by
   rcases Nat.lt_or_ge j n with h | h
   ·exact h
   ·exact absurd hj (tail_waits hs hc hn inv _ i rfl hin hun j h)
  refine ⟨hjn, ?_⟩
  by_cases hji : j = i
  ·subst hji; exact hy.wpOp hi hS ⟨hS, H⟩
  ·have := seqB_ready H.1 j (ready_mono hj hji)
   omega
 | succ f ih =>
  intro listed a w inv hfree hr hy hS H
  have hun := (mem_ready.1 hr).1
  refine ⟨fun h => (by rw [h] at hr; cases hr), fun j hj => ?_⟩
  have hjn : j < n := by
   rcases Nat.lt_or_ge j n with h | h
   ·exact h
   ·exact absurd hj (tail_waits hs hc hn inv _ i rfl hin hun j h)
  refine ⟨hjn, ?_⟩
  by_cases hji : j = i
  ·subst hji; exact hy.wpOp hi hS ⟨hS, H⟩
  ·have h1 := (H.2 j (ready_mono hj hji)).2
   obtain ⟨hjun, oj, hoj, hall⟩ := mem_ready.1 hj
   have hnot : ∀ e ∈ oj.after, Region.binds md e = true → e.on ≠ i := fun e he hb heq => by
    have h1 := hall e he hb
    rw [heq, getD_both hun] at h1
    cases h1
   have h2 := wpOp_putIf hoj (hfree j oj hoj hji hjun hnot) (fun cs b => hsel i oi cs b hi) (fun cs b => hsel j oj cs b hoj) hQ hy h1
   have hfree' : ∀ k ok, ops[k]? = some ok → k ≠ i → (listed.setIfInBounds j true).getD k true = false →
     (∀ e ∈ ok.after, Region.binds md e = true → e.on ≠ i) → oi.apart ops ok = true := fun k ok hk hki hun hno => by
    refine hfree k ok hk hki ?_ hno
    by_cases hjk : j = k
    ·subst hjk; exact hjun
    ·rw [getD_set_ne true hjk] at hun; exact hun
   refine wpOp_mono (fun a' w' h3 => ⟨h3.2.1, ih (listed.setIfInBounds j true) a' w' (inv.set hj hjn) hfree' (ready_mono hr (Ne.symm hji)) h3.1 h3.2.1 ?_⟩) h2
   rw [Array.setIfInBounds_comm _ _ hji]
   exact h3.2.2
def i0u (P : Program) (ops : Array Oper) (Q : Exit → Act → World → Prop) (S : World → Prop) (tl : List Oper) : List (Nat × Bool) → Act → World → Prop
 | [], a, w => wpList P ops Q tl a w
 | (i, true) :: r, a, w => ∃ o v, ops[i]? = some o ∧ YieldsIf P ops S o v a ∧ i0u P ops Q S tl r (a.put o.dst v) w
 | (i, false) :: r, a, w => ∃ o, ops[i]? = some o ∧ o.guard = none ∧ o.wp P a w (fun a' w' => S w' ∧ i0u P ops Q S tl r a' w') Q
def q0E (md : Region.Mode) (ops : Array Oper) (n g : Nat) : List (Nat × Bool) → Array Bool → Bool
 | [], listed => Region.seqB md ops g n listed
 | (i, true) :: r, listed => decide (i < n) && (Region.ready md ops listed).contains i && Region.free md ops listed i && q0E md ops n g r (listed.setIfInBounds i true)
 | (i, false) :: r, listed => decide (i < n) && decide (Region.ready md ops listed = [i]) && q0E md ops n g r (listed.setIfInBounds i true)
theorem e0y {n g : Nat} {tl : List Oper} (hsel : Region.noSelect ops = true) (hs : Region.sinkB md ops n = true) (hc : Region.chainB md ops n = true) (hn : n < ops.size)
  (hQ : ∀ c (d : Option Tmp) v a w, Q (.panic c) (Act.put a d v) w → Q (.panic c) a w) :
  ∀ (s : List (Nat × Bool)) (listed : Array Bool) (a : Act) (w : World), HeadInv md ops n listed → q0E md ops n g s listed = true → S w → i0u P ops Q S tl s a w → j0A P md ops Q S n g tl s.length listed a w
 | [], listed, a, w, _, hB, _, h => ⟨hB, h⟩
 | (i, true) :: r, listed, a, w, inv, hB, hS, h => by
  obtain ⟨o, v, ho, hy, hK⟩ := h
  simp only [q0E, Bool.and_eq_true, decide_eq_true_eq] at hB
  obtain ⟨⟨⟨hin, hr⟩, hf⟩, hB'⟩ := hB
  have hr' : i ∈ Region.ready md ops listed := by simpa using hr
  exact h0l ho (Region.noSelect_spec hsel) (fun c a w => hQ c o.dst v a w) hs hc hn hin r.length listed a w inv (Region.free_spec ho hf) hr' hy hS
   (e0y hsel hs hc hn hQ r _ _ w (inv.set hr' hin) hB' hS hK)
 | (i, false) :: r, listed, a, w, inv, hB, hS, h => by
  obtain ⟨o, ho, hg, hK⟩ := h
  simp only [q0E, Bool.and_eq_true, decide_eq_true_eq] at hB
  obtain ⟨⟨hin, hr⟩, hB'⟩ := hB
  have hr' : i ∈ Region.ready md ops listed := by rw [hr]; simp
  refine ⟨by rw [hr]; simp, fun j hj => ?_⟩
  rw [hr] at hj
  have hj' : j = i := by simpa using hj
  subst hj'
  refine ⟨hin, ?_⟩
  unfold wpOp
  simp only [ho]
  rw [if_pos (by simp [Region.wanted, hg])]
  exact .inl (Oper.wp_mono (fun a' w' h' => ⟨h'.1, e0y hsel hs hc hn hQ r _ a' w' (inv.set hr' hin) hB' h'.1 h'.2⟩) hK)
def x0v (ops : Array Oper) (n : Nat) (s : List (Nat × Bool)) : Bool :=
 Region.noSelect ops && decide (n < ops.size) && decide (s.length = n) && Region.sinkB .any ops n && Region.chainB .any ops n && q0E .any ops n (ops.size - n) s (Array.replicate ops.size false)
theorem c0p {id : Nat} {a : Act} {w : World} {l : List Oper} (S : World → Prop) (n : Nat) (s : List (Nat × Bool)) (hm : P.follows .mixedOrders = true) (hB : x0v l.toArray n s = true)
  (hS : S w.drew) (hQ : ∀ c (d : Option Tmp) v a w, Q (.panic c) (Act.put a d v) w → Q (.panic c) a w)
  (h : i0u P l.toArray Q S (l.drop n) s a w.drew) : (Code.region id l.toArray true).wp P Q a w := by
 simp only [x0v, Bool.and_eq_true, decide_eq_true_eq] at hB
 obtain ⟨⟨⟨⟨⟨hsel, hn⟩, hlen⟩, hs⟩, hc⟩, hseq⟩ := hB
 have inv0 : HeadInv .any l.toArray n (Array.replicate l.toArray.size false) :=
  ⟨by simp, fun j oj _ hl => (by rw [getD_replicate_false] at hl; cases hl), fun t _ ht => getD_in (by simpa using ht) (getD_replicate_false _ _)⟩
 have hdl : (l.drop n).length = l.toArray.size - n := by simp
 rw [← hdl] at hseq
 have H := e0y (md := .any) (g := (l.drop n).length) (tl := l.drop n) hsel hs hc hn hQ s _ a w.drew inv0 hseq hS h
 refine wp_region_any hm ?_
 have := g0Q (md := .any) (n := n) (tl := l.drop n) (fun j => by simp [List.getElem?_drop]) _ _ _ _ H
 rw [hlen, hdl, show n + (l.toArray.size - n) = l.toArray.size by omega] at this
 exact this
variable {l tl : List Oper} {i : Nat} {r : List (Nat × Bool)} {a : Act} {w : World} {o : Oper}
theorem g0R (h : wpList P ops Q tl a w) : i0u P ops Q S tl [] a w := h
theorem a0C (ho : l[i]? = some o) (hg : o.guard = none) {v : Value} (hv : ∀ wx, S wx → (execOp a.eval o).run P wx = .ok (.value v) wx) (h : i0u P l.toArray Q S tl r (a.put o.dst v) w) : i0u P l.toArray Q S tl ((i, true) :: r) a w :=
 ⟨o, v, by simpa using ho, .inl ⟨by simp [Region.wanted, hg], hv⟩, h⟩
theorem d0W (ho : l[i]? = some o) (hg : o.guard = none) (h : o.wp P a w (fun a' w' => S w' ∧ i0u P l.toArray Q S tl r a' w') Q) : i0u P l.toArray Q S tl ((i, false) :: r) a w :=
 ⟨o, by simpa using ho, hg, h⟩
theorem d0G (ho : l[i]? = some o) (hg : o.guard = none) {ty : TypeId} {x : Operand} (hop : o.op = .load ty x) {g p : Nat} (hx : a.eval x = .pointer (some ⟨g, p, none⟩)) (cs : List Value) (hS : ∀ wx, S wx → wx.rangeAt g p cs)
  {d : TypeDesc} (hu : P.underlying ty = some d) (hd : d.isRow = true) (hi : (P.info? ty).map (·.size) = some cs.length) (h : i0u P l.toArray Q S tl r (a.put o.dst (.agg cs.toArray)) w) : i0u P l.toArray Q S tl ((i, true) :: r) a w :=
 ⟨o, _, by simpa using ho, yieldsIf_load_mid (by simp [Region.wanted, hg]) ty x hop g p hx cs d hS hu hd hi, h⟩
end
theorem St.rangeL {S : Nat → Prop} {w0 w : World} {bl : List (Nat × List Value × TypeId)} (h : St S w0 w bl) (i : Nat) {g : Nat} {L : List Value} {T : TypeId} (hb : bl[i]? = some (g, L, T)) (o : Nat) (cs : List Value) (hcs : (L.drop o).take cs.length = cs) : w.rangeAt g o cs := (h.at i hb).range o cs hcs
end Go.Mv


set_option maxHeartbeats 16000000
set_option maxRecDepth 1000000
theorem clL : (∀ (a : Go.Act) (d : Nat) (v : Go.Value), a.put (some d) v = { a with tmps := a.tmps.setIfInBounds d v }) ∧ (∀ (a : Go.Act) (v : Go.Value), a.put none v = a) ∧ (∀ (l : List Go.Value) (i : Nat) (x : Go.Value), l.toArray.setIfInBounds i x = (l.set i x).toArray) ∧ (∀ (x y : Go.Value) (l : List Go.Value), (x :: l).set 0 y = y :: l) ∧ (∀ (x y : Go.Value) (l : List Go.Value) (i : Nat), (x :: l).set (i + 1) y = x :: l.set i y) :=
 ⟨fun _ _ _ => rfl, fun _ _ => rfl, fun _ _ _ => by simp, fun _ _ _ => rfl, fun _ _ _ _ => rfl⟩
namespace Go.Proofs.YtmebmhjppmfbbaaGreat
open Go.RowKit Go.Mv Mvp
attribute [local irreducible] a0E lw mix cw b0o b0x b0l a0L a0q
def fv (p : Nat) : Value := .agg (cw 4 p ++ cw 4 (B64 ^ 4 - p)).toArray
theorem e0j : (Tryz.prog.info? 68).map (·.size) = some 4 := by kernel_rfl
theorem s0s : (Tryz.prog.info? 169).map (·.size) = some 8 := by kernel_rfl
theorem k0z (p V0 : Nat) (w : World) (hp0 : 0 < p) (hp : p < B64 ^ 4) (hV0 : V0 < B64 ^ 8) :
  Calls Tryz.prog 125 #[fv p, i8 V0] w fun e w' => e = .returned (i4 (V0 % p)) ∧ Fr Nob w w' := by
 have HP := Lib.hid hp; clear hp
 have HP0 := Lib.hid hp0; clear hp0
 have HV0 := Lib.hid hV0; clear hV0
 have st0 := St.start Nob w
 go_enter Tryz.func125, Tryz.ntmps125
 go_wp2_with (with_reducible refine wSk 2 ?_)
 refine a0l st0 rfl rfl rfl (cw 4 p ++ cw 4 (B64 ^ 4 - p)) rfl ?_
 intro g2 w1 st1
 clear st0
 go_wp2_with (with_reducible refine wSk 3 ?_)
 refine a0l st1 rfl rfl rfl (cw 8 V0) rfl ?_
 intro g3 w2 st2
 clear st1
 go_wp2_with (with_reducible refine wSk 4 ?_)
 refine a0a st2 rfl rfl (z := zAd) ap11 (cw 4 0) ap9 ?_
 intro g4 w3 st3
 clear st2
 go_wp2
 go_frame
 go_loopw [8] (fun _ wr => ∃ V : Nat, V < B64 ^ 8 ∧ V % p = V0 % p ∧ St Nob w wr [(g2, cw 4 p ++ cw 4 (B64 ^ 4 - p), 72), (g3, cw 8 V, 169), (g4, cw 4 0, 68)]) (fun _ wr => a0q wr g3 0 8)
 case atStart => exact ⟨V0, HV0.out, rfl, st3⟩
 case round =>
  obtain ⟨V, hV, hVm, st⟩ := hrel
  clear st3
  have HV := Lib.hid hV; clear hV
  have HVM := Lib.hid hVm; clear hVm
  have c0 := (st.at 1 rfl).cell (a0D 8 V 0 ap12)
  have c1 := (st.at 1 rfl).cell (a0D 8 V 1 ap12)
  have c2 := (st.at 1 rfl).cell (a0D 8 V 2 ap12)
  have c3 := (st.at 1 rfl).cell (a0D 8 V 3 ap12)
  have c4 := (st.at 1 rfl).cell (a0D 8 V 4 ap12)
  have c5 := (st.at 1 rfl).cell (a0D 8 V 5 ap12)
  have c6 := (st.at 1 rfl).cell (a0D 8 V 6 ap12)
  have c7 := (st.at 1 rfl).cell (a0D 8 V 7 ap12)
  have l4 := c0T V 4
  have l5 := c0T V 5
  have l6 := c0T V 6
  have l7 := c0T V 7
  have o1 := bits_or_u64_nat _ _ l4 l5
  have o2 := bits_or_u64_nat _ _ (Nat.or_lt_two_pow (n := 64) l4 l5) l6
  have o3 := bits_or_u64_nat _ _ (Nat.or_lt_two_pow (n := 64) (Nat.or_lt_two_pow (n := 64) l4 l5) l6) l7
  have htz := v0f V HV.out
  generalize hor : (lw V 4 ||| lw V 5 ||| lw V 6 ||| lw V 7) = o at *
  have HOR := Lib.hid hor; clear hor
  clear l4 l5 l6 l7
  by_cases hz : o = 0
  ·have hb : ((o : Int) != 0) = false := by subst hz; rfl
   have hD := htz.1 hz
   clear htz hz
   have HD := Lib.hid hD; clear hD
   have hV4 : V < B64 ^ 4 := by
    have h1 := Nat.div_add_mod V (B64 ^ 4)
    rw [HD.out, Nat.mul_zero, Nat.zero_add] at h1
    rw [← h1]; exact Nat.mod_lt _ (b0Z 4)
   have HV4 := Lib.hid hV4; clear hV4
   go_wp2_with fail
   clear c0 c1 c2 c3 c4 c5 c6 c7 o1 o2 o3 hb
   have st5 := st.new ((Fr.refl Nob wr).alloc (Obj.cells #[Value.int IntKind.u64 ↑(lw V 0), Value.int IntKind.u64 ↑(lw V 1), Value.int IntKind.u64 ↑(lw V 2), Value.int IntKind.u64 ↑(lw V 3)] 68)) (v0i wr V 68) (Nat.le_refl _)
   clear st
   generalize wr.alloc (Obj.cells #[Value.int IntKind.u64 ↑(lw V 0), Value.int IntKind.u64 ↑(lw V 1), Value.int IntKind.u64 ↑(lw V 2), Value.int IntKind.u64 ↑(lw V 3)] 68) = w5 at *
   generalize wr.heap.size = g5 at *
   go_loopw [52] (fun _ wx => ∃ U : Nat, U < B64 ^ 4 ∧ U % p = V0 % p ∧ St Nob w wx [(g2, cw 4 p ++ cw 4 (B64 ^ 4 - p), 72), (g4, cw 4 0, 68), (g5, cw 4 U, 68)]) (fun _ wx => a0q wx g5 0 4)
   case atStart => exact ⟨V, HV4.out, HVM.out, st5.less ap14⟩
   case round =>
    obtain ⟨U, hU, hUm, st⟩ := hrel
    clear st5
    have HU := Lib.hid hU; clear hU
    have HUM := Lib.hid hUm; clear hUm
    have hvu := e0x (st.at 2 rfl) HU.out
    have HVU := Lib.hid hvu; clear hvu
    go_wp2_with (with_reducible refine wSk 52 ?_)
    refine a0i st 2 rfl rfl rfl Tryz.underlying68 rfl (by rw [a0e]; exact e0j) ?_
    go_wp2_with (with_reducible refine wSk 54 ?_)
    refine c0h rfl rfl Tryz.underlying68 rfl (st.at 0 rfl) (cw 4 p) (g0P 4 4 _ _) (by rw [a0e]; exact e0j) ?_
    go_wp2_with fail
    have hcs := f0n U p 4 HU.out HP.out
    refine (k0y U p _ HP.out).mono ?_
    rintro e' w6 ⟨rfl, hf6⟩
    have st6 := st.keep hf6
    clear st hf6
    by_cases hlt : U < p
    ·rw [if_pos hlt] at hcs
     rw [hcs]
     have hm : U = V0 % p := by rw [← HUM.out, Nat.mod_eq_of_lt hlt]
     have HM := Lib.hid hm
     clear hm hcs hlt
     go_wp2_with (with_reducible refine wSk 6 ?_)
     refine a0a st6 rfl rfl (z := zAd) ap11 (cw 4 0) ap9 ?_
     intro g6 w7 st7
     clear st6
     go_wp2_with (with_reducible refine wSn ?_)
     refine a0b st7 3 rfl rfl rfl rfl rfl (by rw [a0e, a0e]) (by rw [a0e]; exact e0j) (a0g _ _) ?_
     intro w8 st8
     clear st7
     go_wp2_with (with_reducible refine wSk 60 ?_)
     refine a0i st8 2 rfl rfl rfl Tryz.underlying68 rfl (by rw [a0e]; exact e0j) ?_
     go_wp2_with (with_reducible refine wSn ?_)
     refine a0b st8 1 rfl rfl rfl rfl rfl (by rw [a0e, a0e]) (by rw [a0e]; exact e0j) (a0g _ _) ?_
     intro w9 st9
     clear st8
     have hd9 := st9.at 1 rfl
     rw [HM.out] at hd9
     have hf9 := st9.fr
     clear st9
     go_wp2
     exact bodyPost_ret (a0u rfl rfl hd9 Tryz.underlying68 (by rw [a0e]; exact e0j)) rfl ⟨rfl, hf9⟩
    ·rw [if_neg hlt] at hcs
     rw [hcs]
     have e1 : cw 4 (U + B64 ^ 4 - p) = cw 4 (U - p) := by
      rw [← cw_mod, show U + B64 ^ 4 - p = (U - p) + B64 ^ 4 by omega, Nat.add_mod_right, cw_mod]
     have hm : (U - p) % p = V0 % p := by rw [← HUM.out, ← Nat.mod_eq_sub_mod ap13]
     have HM := Lib.hid hm
     have HE := Lib.hid e1
     have hltU : U - p < U := by have := HP0.out; omega
     have hbU : U - p < B64 ^ 4 := by have := HU.out; omega
     have HLTU := Lib.hid hltU
     have HBU := Lib.hid hbU
     clear hm hcs hlt e1 hltU hbU
     go_wp2_with (with_reducible refine wSk 6 ?_)
     refine a0a st6 rfl rfl (z := zAd) ap11 (cw 4 0) ap9 ?_
     intro g6 w7 st7
     clear st6
     go_wp2_with (with_reducible refine wSn ?_)
     refine a0b st7 3 rfl rfl rfl rfl rfl (by rw [a0e, a0e]) (by rw [a0e]; exact e0j) (a0g _ _) ?_
     intro w8 st8
     clear st7
     rw [HE.out] at st8
     go_wp2_with (with_reducible refine wSk 61 ?_)
     refine a0i st8 3 rfl rfl rfl Tryz.underlying68 rfl (by rw [a0e]; exact e0j) ?_
     go_wp2_with (with_reducible refine wSn ?_)
     refine a0b st8 2 rfl rfl rfl rfl rfl (by rw [a0e, a0e]) (by rw [a0e]; exact e0j) (a0g _ _) ?_
     intro w9 st9
     clear st8
     have hv9 := e0x (st9.at 2 rfl) HBU.out
     have HV9 := Lib.hid hv9; clear hv9
     go_wp2
     refine ⟨?_, ?_⟩
     ·((repeat apply Exists.intro); exact ⟨⟨U - p, HBU.out, HM.out, st9.less ap14⟩, rfl⟩)
     ·rw [HV9.out, HVU.out]; exact HLTU.out
  ·have hb : ((o : Int) != 0) = true := by simp; omega
   have hD := fun h => hz (htz.2 h)
   clear htz hz
   have HD := Lib.hid hD; clear hD
   have hD' : V / B64 ^ 4 ≠ 0 := HD.out
   have hprod := fun wx => e0V (V / B64 ^ 4) (B64 ^ 4 - p) wx (Nat.div_lt_of_lt_mul (by rw [← Nat.pow_add]; exact HV.out)) (by have := HP0.out; have := b0Z 4; omega)
   rw [y0H] at hprod
   have hplus := fun wx => i0t (V / B64 ^ 4 * (B64 ^ 4 - p)) (V % B64 ^ 4) wx
   rw [s0q] at hplus
   have hlt := v0e (B64 ^ 4 - p) V (by have := HP0.out; have := b0Z 4; omega) hD'
   have hmod := s0n p (B64 ^ 4 - p) V (by have := HP.out; omega)
   have e : V / B64 ^ 4 * (B64 ^ 4 - p) + V % B64 ^ 4 = a0L (B64 ^ 4 - p) V := by unfold a0L; rfl
   rw [e] at hplus
   generalize a0L (B64 ^ 4 - p) V = V' at *
   clear e hD'
   have mks : ∀ wx, St Nob w wx [(g2, cw 4 p ++ cw 4 (B64 ^ 4 - p), 72), (g3, cw 8 V, 169), (g4, cw 4 0, 68)] →
     wx.cell? ⟨g3, 0, none⟩ = some (.int .u64 (lw V 0 : Nat)) ∧ wx.cell? ⟨g3, 1, none⟩ = some (.int .u64 (lw V 1 : Nat)) ∧ wx.cell? ⟨g3, 2, none⟩ = some (.int .u64 (lw V 2 : Nat)) ∧ wx.cell? ⟨g3, 3, none⟩ = some (.int .u64 (lw V 3 : Nat)) ∧
     wx.cell? ⟨g3, 4, none⟩ = some (.int .u64 (lw V 4 : Nat)) ∧ wx.cell? ⟨g3, 5, none⟩ = some (.int .u64 (lw V 5 : Nat)) ∧ wx.cell? ⟨g3, 6, none⟩ = some (.int .u64 (lw V 6 : Nat)) ∧ wx.cell? ⟨g3, 7, none⟩ = some (.int .u64 (lw V 7 : Nat)) := fun wx h =>
    ⟨(h.at 1 rfl).cell (a0D 8 V 0 ap12), (h.at 1 rfl).cell (a0D 8 V 1 ap12), (h.at 1 rfl).cell (a0D 8 V 2 ap12), (h.at 1 rfl).cell (a0D 8 V 3 ap12),
     (h.at 1 rfl).cell (a0D 8 V 4 ap12), (h.at 1 rfl).cell (a0D 8 V 5 ap12), (h.at 1 rfl).cell (a0D 8 V 6 ap12), (h.at 1 rfl).cell (a0D 8 V 7 ap12)⟩
   have hvv := e0x (st.at 1 rfl) HV.out
   have HVV := Lib.hid hvv
   clear hvv
   have MKS := Lib.hid mks
   have HPROD := Lib.hid hprod
   have HPLUS := Lib.hid hplus
   have HLT := Lib.hid hlt
   have HMOD := Lib.hid hmod
   clear mks hprod hplus hlt hmod
   go_wp2_with fail
   clear c0 c1 c2 c3 c4 c5 c6 c7 o1 o2 o3 hb
   refine wp_region_noPanic ?_
   refine c0p (fun wx => St Nob w wx [(g2, cw 4 p ++ cw 4 (B64 ^ 4 - p), 72), (g3, cw 8 V, 169), (g4, cw 4 0, 68)]) 22 [(0, true), (1, true), (2, true), (3, true), (4, true), (5, true), (6, true), (7, true), (8, true), (9, true), (10, true), (12, true), (13, true), (14, true), (15, true), (16, true), (17, true), (18, true), (19, true), (20, true), (11, false), (21, false)] ap11 ap11 st.drew (fun _ _ _ _ _ h => h) ?_
   refine a0C (v := ?_) rfl rfl (fun wx hS => ?_) ?_
   rotate_left 1
   ·(have hc := MKS.out wx hS; obtain ⟨d0, d1, d2, d3, d4, d5, d6, d7⟩ := hc; clear hS; go_simp; with_reducible rfl)
   try simp only [clL]
   refine a0C (v := ?_) rfl rfl (fun wx hS => ?_) ?_
   rotate_left 1
   ·(have hc := MKS.out wx hS; obtain ⟨d0, d1, d2, d3, d4, d5, d6, d7⟩ := hc; clear hS; go_simp; with_reducible rfl)
   try simp only [clL]
   refine a0C (v := ?_) rfl rfl (fun wx hS => ?_) ?_
   rotate_left 1
   ·(have hc := MKS.out wx hS; obtain ⟨d0, d1, d2, d3, d4, d5, d6, d7⟩ := hc; clear hS; go_simp; with_reducible rfl)
   try simp only [clL]
   refine a0C (v := ?_) rfl rfl (fun wx hS => ?_) ?_
   rotate_left 1
   ·(have hc := MKS.out wx hS; obtain ⟨d0, d1, d2, d3, d4, d5, d6, d7⟩ := hc; clear hS; go_simp; with_reducible rfl)
   try simp only [clL]
   refine a0C (v := ?_) rfl rfl (fun wx hS => ?_) ?_
   rotate_left 1
   ·(have hc := MKS.out wx hS; obtain ⟨d0, d1, d2, d3, d4, d5, d6, d7⟩ := hc; clear hS; go_simp; with_reducible rfl)
   try simp only [clL]
   refine a0C (v := ?_) rfl rfl (fun wx hS => ?_) ?_
   rotate_left 1
   ·(have hc := MKS.out wx hS; obtain ⟨d0, d1, d2, d3, d4, d5, d6, d7⟩ := hc; clear hS; go_simp; with_reducible rfl)
   try simp only [clL]
   refine a0C (v := ?_) rfl rfl (fun wx hS => ?_) ?_
   rotate_left 1
   ·(have hc := MKS.out wx hS; obtain ⟨d0, d1, d2, d3, d4, d5, d6, d7⟩ := hc; clear hS; go_simp; with_reducible rfl)
   try simp only [clL]
   refine a0C (v := ?_) rfl rfl (fun wx hS => ?_) ?_
   rotate_left 1
   ·(have hc := MKS.out wx hS; obtain ⟨d0, d1, d2, d3, d4, d5, d6, d7⟩ := hc; clear hS; go_simp; with_reducible rfl)
   try simp only [clL]
   refine a0C (v := ?_) rfl rfl (fun wx hS => ?_) ?_
   rotate_left 1
   ·(have hc := MKS.out wx hS; obtain ⟨d0, d1, d2, d3, d4, d5, d6, d7⟩ := hc; clear hS; go_simp; with_reducible rfl)
   try simp only [clL]
   refine a0C (v := ?_) rfl rfl (fun wx hS => ?_) ?_
   rotate_left 1
   ·(have hc := MKS.out wx hS; obtain ⟨d0, d1, d2, d3, d4, d5, d6, d7⟩ := hc; clear hS; go_simp; with_reducible rfl)
   try simp only [clL]
   refine d0G rfl rfl rfl rfl (cw 4 (B64 ^ 4 - p)) (fun wx hS => St.rangeL hS 0 rfl 4 _ (v0j 4 4 _ _)) Tryz.underlying68 rfl (by rw [a0e]; exact e0j) ?_
   try simp only [clL]
   refine a0C (v := ?_) rfl rfl (fun wx hS => ?_) ?_
   rotate_left 1
   ·(have hc := MKS.out wx hS; obtain ⟨d0, d1, d2, d3, d4, d5, d6, d7⟩ := hc; clear hS; go_simp; with_reducible rfl)
   try simp only [clL]
   refine a0C (v := ?_) rfl rfl (fun wx hS => ?_) ?_
   rotate_left 1
   ·(have hc := MKS.out wx hS; obtain ⟨d0, d1, d2, d3, d4, d5, d6, d7⟩ := hc; clear hS; go_simp; with_reducible rfl)
   try simp only [clL]
   refine a0C (v := ?_) rfl rfl (fun wx hS => ?_) ?_
   rotate_left 1
   ·(have hc := MKS.out wx hS; obtain ⟨d0, d1, d2, d3, d4, d5, d6, d7⟩ := hc; clear hS; go_simp; with_reducible rfl)
   try simp only [clL]
   refine a0C (v := ?_) rfl rfl (fun wx hS => ?_) ?_
   rotate_left 1
   ·(have hc := MKS.out wx hS; obtain ⟨d0, d1, d2, d3, d4, d5, d6, d7⟩ := hc; clear hS; go_simp; with_reducible rfl)
   try simp only [clL]
   refine a0C (v := ?_) rfl rfl (fun wx hS => ?_) ?_
   rotate_left 1
   ·(have hc := MKS.out wx hS; obtain ⟨d0, d1, d2, d3, d4, d5, d6, d7⟩ := hc; clear hS; go_simp; with_reducible rfl)
   try simp only [clL]
   refine a0C (v := ?_) rfl rfl (fun wx hS => ?_) ?_
   rotate_left 1
   ·(have hc := MKS.out wx hS; obtain ⟨d0, d1, d2, d3, d4, d5, d6, d7⟩ := hc; clear hS; go_simp; with_reducible rfl)
   try simp only [clL]
   refine a0C (v := ?_) rfl rfl (fun wx hS => ?_) ?_
   rotate_left 1
   ·(have hc := MKS.out wx hS; obtain ⟨d0, d1, d2, d3, d4, d5, d6, d7⟩ := hc; clear hS; go_simp; with_reducible rfl)
   try simp only [clL]
   refine a0C (v := ?_) rfl rfl (fun wx hS => ?_) ?_
   rotate_left 1
   ·(have hc := MKS.out wx hS; obtain ⟨d0, d1, d2, d3, d4, d5, d6, d7⟩ := hc; clear hS; go_simp; with_reducible rfl)
   try simp only [clL]
   refine a0C (v := ?_) rfl rfl (fun wx hS => ?_) ?_
   rotate_left 1
   ·(have hc := MKS.out wx hS; obtain ⟨d0, d1, d2, d3, d4, d5, d6, d7⟩ := hc; clear hS; go_simp; with_reducible rfl)
   try simp only [clL]
   refine d0W rfl rfl ?_
   go_simp
   refine (HPROD.out _).mono ?_
   rintro e' w9 ⟨rfl, hf9⟩
   refine ⟨st.drew.keep hf9, ?_⟩
   try simp only [clL]
   refine d0W rfl rfl ?_
   go_simp
   refine (HPLUS.out _).mono ?_
   rintro e' w10 ⟨rfl, hf10⟩
   refine ⟨(st.drew.keep hf9).keep hf10, ?_⟩
   try simp only [clL]
   refine g0R ?_
   try simp only [List.drop_succ_cons, List.drop_zero]
   have st10 := (st.drew.keep hf9).keep hf10
   clear st hf9 hf10
   refine a0b st10 1 rfl rfl rfl rfl rfl (by rw [a0e, a0e]) (by rw [a0e]; exact s0s) (a0g _ _) ?_
   intro w11 st11
   have hv11 := e0x (st11.at 1 rfl) (Nat.lt_trans HLT.out HV.out)
   clear st10
   go_wp2
   refine NoPanic.normal ?_
   refine ⟨?_, ?_⟩
   ·((repeat apply Exists.intro); exact ⟨⟨V', Nat.lt_trans HLT.out HV.out, HMOD.out.trans HVM.out, st11⟩, rfl⟩)
   ·rw [hv11, HVV.out]; exact HLT.out
end Go.Proofs.YtmebmhjppmfbbaaGreat


set_option maxHeartbeats 16000000
set_option maxRecDepth 1000000
namespace Go.Proofs.YtmebmhjppmfbbaaGreat
open Go.RowKit Go.Mv Mvp
attribute [local irreducible] a0E lw mix cw b0o b0x b0l a0L a0q
theorem _root_.ap4 {p : Prop} (h : p := by first | (rw [a0e]; kernel_rfl) | (simp only [List.length_append, a0e]; kernel_rfl)) : p := h
theorem _root_.ap5 {p : Prop} (h : p := by first | (simp only [a0e]; done) | (simp only [List.length_append, a0e]; done)) : p := h
theorem _root_.ap7 {p : Prop} (h : p := by simp only [a0e]; kernel_rfl) : p := h
theorem g0S (p a b : Nat) (w : World) (hp0 : 0 < p) (hp : p < B64 ^ 4) (ha : a < B64 ^ 4) (hb : b < B64 ^ 4) :
  Calls Tryz.prog 54 #[fv p, i4 a, i4 b] w fun e w' => e = .returned (i4 (a * b % p)) ∧ Fr Nob w w' := by
 have HP0 := Lib.hid hp0
 have HP := Lib.hid hp
 have HA := Lib.hid ha
 have HB := Lib.hid hb
 have HAB := Lib.hid (show a * b < B64 ^ 8 from Nat.lt_of_lt_of_le (Nat.mul_lt_mul'' ha hb) ap12)
 clear hp0 hp ha hb
 have st0 := St.start Nob w
 go_enter Tryz.func54, Tryz.ntmps54
 go_wp2_with (with_reducible refine wSk 3 ?_)
 refine a0l st0 rfl rfl rfl (cw 4 p ++ cw 4 (B64 ^ 4 - p)) rfl ?_
 intro g3 w1 st1
 clear st0
 go_wp2_with (with_reducible refine wSk 4 ?_)
 refine a0l st1 rfl rfl rfl (cw 4 a) rfl ?_
 intro g4 w2 st2
 clear st1
 go_wp2_with (with_reducible refine wSk 5 ?_)
 refine a0l st2 rfl rfl rfl (cw 4 b) rfl ?_
 intro g5 w3 st3
 clear st2
 go_wp2_with (with_reducible refine wSk 6 ?_)
 refine a0a st3 rfl rfl (z := zAd) ap11 (cw 4 0) ap9 ?_
 intro g6 w4 st4
 clear st3
 go_wp2_with fail
 refine wp_region_noPanic ?_
 refine c0p (fun wx => St Nob w wx [(g3, cw 4 p ++ cw 4 (B64 ^ 4 - p), 72), (g4, cw 4 a, 68), (g5, cw 4 b, 68), (g6, cw 4 0, 68)]) 5 [(0, true), (1, true), (2, true), (3, false), (4, false)] ap11 ap11 st4.drew (fun _ _ _ _ _ h => h) ?_
 have hd4 := st4.drew
 refine d0G rfl rfl rfl rfl (cw 4 p ++ cw 4 (B64 ^ 4 - p)) (fun wx hS => St.rangeL hS 0 rfl 0 _ dZl) Tryz.underlying72 rfl ap4 ?_
 try simp only [clL]
 refine d0G rfl rfl rfl rfl (cw 4 a) (fun wx hS => St.rangeL hS 1 rfl 0 _ dZl) Tryz.underlying68 rfl ap7 ?_
 try simp only [clL]
 refine d0G rfl rfl rfl rfl (cw 4 b) (fun wx hS => St.rangeL hS 2 rfl 0 _ dZl) Tryz.underlying68 rfl ap7 ?_
 try simp only [clL]
 refine d0W rfl rfl ?_
 go_simp
 refine (e0V a b _ HA.out HB.out).mono ?_
 rintro e' w5 ⟨rfl, hf5⟩
 have st5 := hd4.keep hf5
 clear hd4 hf5
 refine ⟨st5, ?_⟩
 try simp only [clL]
 refine d0W rfl rfl ?_
 go_simp
 refine (k0z p (a * b) _ HP0.out HP.out HAB.out).mono ?_
 rintro e' w6 ⟨rfl, hf6⟩
 have st6 := st5.keep hf6
 clear st5 hf6
 refine ⟨st6, ?_⟩
 try simp only [clL]
 refine g0R ?_
 try simp only [List.drop_succ_cons, List.drop_zero]
 refine a0b st6 3 rfl rfl rfl rfl rfl ap5 ap7 (a0g _ _) ?_
 intro w7 st7
 clear st6
 go_wp2_with fail
 refine NoPanic.normal ?_
 have hr := st7.at 3 rfl
 have hfr := st7.fr
 clear st7
 go_wp2_with fail
 exact bodyPost_ret (a0u rfl rfl hr Tryz.underlying68 ap7) rfl ⟨rfl, hfr⟩
theorem s0t (p a b : Nat) (w : World) (hp0 : 0 < p) (hp : p < B64 ^ 4) (ha : a < B64 ^ 4) (hb : b < B64 ^ 4) :
  Calls Tryz.prog 53 #[fv p, i4 a, i4 b] w fun e w' => e = .returned (i4 ((a + b) % p)) ∧ Fr Nob w w' := by
 have HP0 := Lib.hid hp0
 have HP := Lib.hid hp
 have HA := Lib.hid ha
 have HB := Lib.hid hb
 have HAB := Lib.hid (show a + b < B64 ^ 8 from Nat.lt_of_lt_of_le (Nat.add_lt_add ha hb) ap12)
 have hplus := fun wx => i0t (a % B64 ^ 4) (b % B64 ^ 4) wx
 rw [s0q, s0q, Nat.mod_eq_of_lt ha, Nat.mod_eq_of_lt hb] at hplus
 have HPLUS := Lib.hid hplus
 clear hplus
 clear hp0 hp ha hb
 have st0 := St.start Nob w
 go_enter Tryz.func53, Tryz.ntmps53
 go_wp2_with (with_reducible refine wSk 3 ?_)
 refine a0l st0 rfl rfl rfl (cw 4 p ++ cw 4 (B64 ^ 4 - p)) rfl ?_
 intro g3 w1 st1
 clear st0
 go_wp2_with (with_reducible refine wSk 4 ?_)
 refine a0l st1 rfl rfl rfl (cw 4 a) rfl ?_
 intro g4 w2 st2
 clear st1
 go_wp2_with (with_reducible refine wSk 5 ?_)
 refine a0l st2 rfl rfl rfl (cw 4 b) rfl ?_
 intro g5 w3 st3
 clear st2
 go_wp2_with (with_reducible refine wSk 6 ?_)
 refine a0a st3 rfl rfl (z := zAd) ap11 (cw 4 0) ap9 ?_
 intro g6 w4 st4
 clear st3
 go_wp2_with fail
 refine wp_region_noPanic ?_
 refine c0p (fun wx => St Nob w wx [(g3, cw 4 p ++ cw 4 (B64 ^ 4 - p), 72), (g4, cw 4 a, 68), (g5, cw 4 b, 68), (g6, cw 4 0, 68)]) 21 [(0, true), (1, true), (2, true), (3, true), (4, true), (5, true), (6, true), (7, true), (8, true), (9, true), (10, true), (11, true), (12, true), (13, true), (14, true), (15, true), (16, true), (17, true), (18, true), (19, false), (20, false)] ap11 ap11 st4.drew (fun _ _ _ _ _ h => h) ?_
 have hd4 := st4.drew
 refine d0G rfl rfl rfl rfl (cw 4 p ++ cw 4 (B64 ^ 4 - p)) (fun wx hS => St.rangeL hS 0 rfl 0 _ dZl) Tryz.underlying72 rfl ap4 ?_
 try simp only [clL]
 refine a0C (v := ?_) rfl rfl (fun wx hS => ?_) ?_
 rotate_left 1
 ·(clear hS; go_simp; with_reducible rfl)
 try simp only [clL]
 refine a0C (v := ?_) rfl rfl (fun wx hS => ?_) ?_
 rotate_left 1
 ·(have hc := (St.at hS 1 rfl).cell (a0D 4 a 0 ap12); clear hS; go_simp; with_reducible rfl)
 try simp only [clL]
 refine a0C (v := ?_) rfl rfl (fun wx hS => ?_) ?_
 rotate_left 1
 ·(clear hS; go_simp; with_reducible rfl)
 try simp only [clL]
 refine a0C (v := ?_) rfl rfl (fun wx hS => ?_) ?_
 rotate_left 1
 ·(have hc := (St.at hS 1 rfl).cell (a0D 4 a 1 ap12); clear hS; go_simp; with_reducible rfl)
 try simp only [clL]
 refine a0C (v := ?_) rfl rfl (fun wx hS => ?_) ?_
 rotate_left 1
 ·(clear hS; go_simp; with_reducible rfl)
 try simp only [clL]
 refine a0C (v := ?_) rfl rfl (fun wx hS => ?_) ?_
 rotate_left 1
 ·(have hc := (St.at hS 1 rfl).cell (a0D 4 a 2 ap12); clear hS; go_simp; with_reducible rfl)
 try simp only [clL]
 refine a0C (v := ?_) rfl rfl (fun wx hS => ?_) ?_
 rotate_left 1
 ·(clear hS; go_simp; with_reducible rfl)
 try simp only [clL]
 refine a0C (v := ?_) rfl rfl (fun wx hS => ?_) ?_
 rotate_left 1
 ·(have hc := (St.at hS 1 rfl).cell (a0D 4 a 3 ap12); clear hS; go_simp; with_reducible rfl)
 try simp only [clL]
 refine a0C (v := ?_) rfl rfl (fun wx hS => ?_) ?_
 rotate_left 1
 ·(clear hS; go_simp; with_reducible rfl)
 try simp only [clL]
 refine a0C (v := ?_) rfl rfl (fun wx hS => ?_) ?_
 rotate_left 1
 ·(clear hS; go_simp; with_reducible rfl)
 try simp only [clL]
 refine a0C (v := ?_) rfl rfl (fun wx hS => ?_) ?_
 rotate_left 1
 ·(have hc := (St.at hS 2 rfl).cell (a0D 4 b 0 ap12); clear hS; go_simp; with_reducible rfl)
 try simp only [clL]
 refine a0C (v := ?_) rfl rfl (fun wx hS => ?_) ?_
 rotate_left 1
 ·(clear hS; go_simp; with_reducible rfl)
 try simp only [clL]
 refine a0C (v := ?_) rfl rfl (fun wx hS => ?_) ?_
 rotate_left 1
 ·(have hc := (St.at hS 2 rfl).cell (a0D 4 b 1 ap12); clear hS; go_simp; with_reducible rfl)
 try simp only [clL]
 refine a0C (v := ?_) rfl rfl (fun wx hS => ?_) ?_
 rotate_left 1
 ·(clear hS; go_simp; with_reducible rfl)
 try simp only [clL]
 refine a0C (v := ?_) rfl rfl (fun wx hS => ?_) ?_
 rotate_left 1
 ·(have hc := (St.at hS 2 rfl).cell (a0D 4 b 2 ap12); clear hS; go_simp; with_reducible rfl)
 try simp only [clL]
 refine a0C (v := ?_) rfl rfl (fun wx hS => ?_) ?_
 rotate_left 1
 ·(clear hS; go_simp; with_reducible rfl)
 try simp only [clL]
 refine a0C (v := ?_) rfl rfl (fun wx hS => ?_) ?_
 rotate_left 1
 ·(have hc := (St.at hS 2 rfl).cell (a0D 4 b 3 ap12); clear hS; go_simp; with_reducible rfl)
 try simp only [clL]
 refine a0C (v := ?_) rfl rfl (fun wx hS => ?_) ?_
 rotate_left 1
 ·(clear hS; go_simp; with_reducible rfl)
 try simp only [clL]
 refine d0W rfl rfl ?_
 go_simp
 refine (HPLUS.out _).mono ?_
 rintro e' w5 ⟨rfl, hf5⟩
 have st5 := hd4.keep hf5
 clear hd4 hf5
 refine ⟨st5, ?_⟩
 try simp only [clL]
 refine d0W rfl rfl ?_
 go_simp
 refine (k0z p (a + b) _ HP0.out HP.out HAB.out).mono ?_
 rintro e' w6 ⟨rfl, hf6⟩
 have st6 := st5.keep hf6
 clear st5 hf6
 refine ⟨st6, ?_⟩
 try simp only [clL]
 refine g0R ?_
 try simp only [List.drop_succ_cons, List.drop_zero]
 refine a0b st6 3 rfl rfl rfl rfl rfl ap5 ap7 (a0g _ _) ?_
 intro w7 st7
 clear st6
 go_wp2_with fail
 refine NoPanic.normal ?_
 have hr := st7.at 3 rfl
 have hfr := st7.fr
 clear st7
 go_wp2_with fail
 exact bodyPost_ret (a0u rfl rfl hr Tryz.underlying68 ap7) rfl ⟨rfl, hfr⟩
theorem o0U (a : Nat) (w : World) (ha : a < B64 ^ 4) :
  Calls Tryz.prog 116 #[i4 a] w fun e w' => e = .returned (.bool (decide (a = 0))) ∧ Fr Nob w w' := by
 have HA := Lib.hid ha
 clear ha
 have st0 := St.start Nob w
 go_enter Tryz.func116, Tryz.ntmps116
 go_wp2_with (with_reducible refine wSk 1 ?_)
 refine a0l st0 rfl rfl rfl (cw 4 a) rfl ?_
 intro g1 w1 st1
 clear st0
 have c0 := (st1.at 0 rfl).cell (a0D 4 a 0 ap12)
 have c1 := (st1.at 0 rfl).cell (a0D 4 a 1 ap12)
 have c2 := (st1.at 0 rfl).cell (a0D 4 a 2 ap12)
 have c3 := (st1.at 0 rfl).cell (a0D 4 a 3 ap12)
 have hfr := st1.fr
 clear st1
 have l4 := c0T a 0
 have l5 := c0T a 1
 have l6 := c0T a 2
 have l7 := c0T a 3
 have o1 := bits_or_u64_nat _ _ l4 l5
 have o2 := bits_or_u64_nat _ _ (Nat.or_lt_two_pow (n := 64) l4 l5) l6
 have o3 := bits_or_u64_nat _ _ (Nat.or_lt_two_pow (n := 64) (Nat.or_lt_two_pow (n := 64) l4 l5) l6) l7
 have htz := q0y a HA.out
 generalize hor : (lw a 0 ||| lw a 1 ||| lw a 2 ||| lw a 3) = o at *
 have hoo : ((o : Int) == 0) = decide (a = 0) := by
  rw [show ((o : Int) == 0) = decide (o = 0) by rw [Bool.eq_iff_iff]; simp]
  exact decide_eq_decide.2 htz
 have HOR := Lib.hid hor
 clear hor l4 l5 l6 l7 htz
 go_wp2_with fail
 go_ret
 exact ⟨rfl, hfr⟩
theorem n0F (p a : Nat) (w : World) (hap : a ≤ p) (hp : p < B64 ^ 4) (ha : a < B64 ^ 4) :
  Calls Tryz.prog 138 #[fv p, i4 a] w fun e w' => e = .returned (i4 ((p - a) % p)) ∧ Fr Nob w w' := by
 have HAP := Lib.hid hap
 have HP := Lib.hid hp
 have HA := Lib.hid ha
 clear hap hp ha
 have st0 := St.start Nob w
 go_enter Tryz.func138, Tryz.ntmps138
 go_wp2_with (with_reducible refine wSk 2 ?_)
 refine a0l st0 rfl rfl rfl (cw 4 p ++ cw 4 (B64 ^ 4 - p)) rfl ?_
 intro g2 w1 st1
 clear st0
 go_wp2_with (with_reducible refine wSk 3 ?_)
 refine a0l st1 rfl rfl rfl (cw 4 a) rfl ?_
 intro g3 w2 st2
 clear st1
 go_wp2_with (with_reducible refine wSk 4 ?_)
 refine a0a st2 rfl rfl (z := zAd) ap11 (cw 4 0) ap9 ?_
 intro g4 w3 st3
 clear st2
 go_wp2_with (with_reducible refine wSk 8 ?_)
 refine a0i st3 1 rfl rfl rfl Tryz.underlying68 rfl ap7 ?_
 go_wp2_with fail
 refine (o0U a _ HA.out).mono ?_
 rintro e' w4 ⟨rfl, hf4⟩
 have st4 := st3.keep hf4
 clear st3 hf4
 by_cases h0 : a = 0
 ·rw [decide_eq_true h0]
  have H0 := Lib.hid h0
  clear h0
  go_wp2_with (with_reducible refine wSk 11 ?_)
  refine a0i st4 1 rfl rfl rfl Tryz.underlying68 rfl ap7 ?_
  go_wp2_with (with_reducible refine wSn ?_)
  refine a0b st4 2 rfl rfl rfl rfl rfl ap5 ap7 (a0g _ _) ?_
  intro w5 st5
  clear st4
  have hr := st5.at 2 rfl
  have hfr := st5.fr
  clear st5
  go_wp2_with fail
  exact bodyPost_ret (a0u rfl rfl hr Tryz.underlying68 ap7) rfl ⟨by rw [H0.out, Nat.sub_zero, Nat.mod_self]; rfl, hfr⟩
 ·rw [decide_eq_false h0]
  have H0 := Lib.hid h0
  clear h0
  go_wp2_with (with_reducible refine wSk 14 ?_)
  refine c0h rfl rfl Tryz.underlying68 rfl (st4.at 0 rfl) (cw 4 p) (g0P 4 4 _ _) ap7 ?_
  go_wp2_with (with_reducible refine wSk 15 ?_)
  refine a0i st4 1 rfl rfl rfl Tryz.underlying68 rfl ap7 ?_
  go_wp2_with fail
  refine (k0y p a _ HA.out).mono ?_
  rintro e' w5 ⟨rfl, hf5⟩
  have st5 := st4.keep hf5
  clear st4 hf5
  go_wp2_with (with_reducible refine wSk 6 ?_)
  refine a0a st5 rfl rfl (z := zAd) ap11 (cw 4 0) ap9 ?_
  intro g6 w6 st6
  clear st5
  go_wp2_with (with_reducible refine wSn ?_)
  refine a0b st6 3 rfl rfl rfl rfl rfl ap5 ap7 (a0g _ _) ?_
  intro w7 st7
  clear st6
  go_wp2_with (with_reducible refine wSk 19 ?_)
  refine a0i st7 3 rfl rfl rfl Tryz.underlying68 rfl ap7 ?_
  go_wp2_with (with_reducible refine wSn ?_)
  refine a0b st7 2 rfl rfl rfl rfl rfl ap5 ap7 (a0g _ _) ?_
  intro w8 st8
  clear st7
  have hr := st8.at 2 rfl
  have hfr := st8.fr
  clear st8
  go_wp2_with fail
  exact bodyPost_ret (a0u rfl rfl hr Tryz.underlying68 ap7) rfl ⟨by rw [Nat.mod_eq_of_lt (by have := H0.out; have := HAP.out; omega), ← l0Z p a HAP.out]; rfl, hfr⟩
theorem y0K (p a b : Nat) (w : World) (hp0 : 0 < p) (hp : p < B64 ^ 4) (ha : a < B64 ^ 4) (hb : b < B64 ^ 4) (hbp : b ≤ p) :
  Calls Tryz.prog 133 #[fv p, i4 a, i4 b] w fun e w' => e = .returned (i4 ((a + (p - b) % p) % p)) ∧ Fr Nob w w' := by
 have HP0 := Lib.hid hp0
 have HP := Lib.hid hp
 have HA := Lib.hid ha
 have HB := Lib.hid hb
 have HBP := Lib.hid hbp
 have HN := Lib.hid (show (p - b) % p < B64 ^ 4 from Nat.lt_trans (Nat.mod_lt _ hp0) hp)
 clear hp0 hp ha hb hbp
 have st0 := St.start Nob w
 go_enter Tryz.func133, Tryz.ntmps133
 go_wp2_with (with_reducible refine wSk 3 ?_)
 refine a0l st0 rfl rfl rfl (cw 4 p ++ cw 4 (B64 ^ 4 - p)) rfl ?_
 intro g3 w1 st1
 clear st0
 go_wp2_with (with_reducible refine wSk 4 ?_)
 refine a0l st1 rfl rfl rfl (cw 4 a) rfl ?_
 intro g4 w2 st2
 clear st1
 go_wp2_with (with_reducible refine wSk 5 ?_)
 refine a0l st2 rfl rfl rfl (cw 4 b) rfl ?_
 intro g5 w3 st3
 clear st2
 go_wp2_with (with_reducible refine wSk 6 ?_)
 refine a0a st3 rfl rfl (z := zAd) ap11 (cw 4 0) ap9 ?_
 intro g6 w4 st4
 clear st3
 go_wp2_with fail
 refine wp_region_noPanic ?_
 refine c0p (fun wx => St Nob w wx [(g3, cw 4 p ++ cw 4 (B64 ^ 4 - p), 72), (g4, cw 4 a, 68), (g5, cw 4 b, 68), (g6, cw 4 0, 68)]) 6 [(0, true), (1, true), (2, true), (3, true), (4, false), (5, false)] ap11 ap11 st4.drew (fun _ _ _ _ _ h => h) ?_
 have hd4 := st4.drew
 refine d0G rfl rfl rfl rfl (cw 4 p ++ cw 4 (B64 ^ 4 - p)) (fun wx hS => St.rangeL hS 0 rfl 0 _ dZl) Tryz.underlying72 rfl ap4 ?_
 try simp only [clL]
 refine d0G rfl rfl rfl rfl (cw 4 a) (fun wx hS => St.rangeL hS 1 rfl 0 _ dZl) Tryz.underlying68 rfl ap7 ?_
 try simp only [clL]
 refine d0G rfl rfl rfl rfl (cw 4 p ++ cw 4 (B64 ^ 4 - p)) (fun wx hS => St.rangeL hS 0 rfl 0 _ dZl) Tryz.underlying72 rfl ap4 ?_
 try simp only [clL]
 refine d0G rfl rfl rfl rfl (cw 4 b) (fun wx hS => St.rangeL hS 2 rfl 0 _ dZl) Tryz.underlying68 rfl ap7 ?_
 try simp only [clL]
 refine d0W rfl rfl ?_
 go_simp
 refine (n0F p b _ HBP.out HP.out HB.out).mono ?_
 rintro e' w5 ⟨rfl, hf5⟩
 have st5 := hd4.keep hf5
 clear hd4 hf5
 refine ⟨st5, ?_⟩
 try simp only [clL]
 refine d0W rfl rfl ?_
 go_simp
 refine (s0t p a ((p - b) % p) _ HP0.out HP.out HA.out HN.out).mono ?_
 rintro e' w6 ⟨rfl, hf6⟩
 have st6 := st5.keep hf6
 clear st5 hf6
 refine ⟨st6, ?_⟩
 try simp only [clL]
 refine g0R ?_
 try simp only [List.drop_succ_cons, List.drop_zero]
 refine a0b st6 3 rfl rfl rfl rfl rfl ap5 ap7 (a0g _ _) ?_
 intro w7 st7
 clear st6
 go_wp2_with fail
 refine NoPanic.normal ?_
 have hr := st7.at 3 rfl
 have hfr := st7.fr
 clear st7
 go_wp2_with fail
 exact bodyPost_ret (a0u rfl rfl hr Tryz.underlying68 ap7) rfl ⟨rfl, hfr⟩
theorem i0v (n : Nat) (w : World) (hn : n < 18446744073709551616) :
  Calls Tryz.prog 152 #[.int .u64 (n : Int)] w fun e w' => e = .returned (i4 n) ∧ Fr Nob w w' := by
 have HN := Lib.hid hn
 have HW := Lib.hid (b0E n hn)
 clear hn
 have st0 := St.start Nob w
 go_enter Tryz.func152, Tryz.ntmps152
 go_wp2_with (with_reducible refine wSk 2 ?_)
 refine a0a st0 rfl rfl (z := zAd) ap11 (cw 4 0) ap9 ?_
 intro g2 w1 st1
 clear st0
 go_wp2_with (with_reducible refine wSn ?_)
 refine a0b st1 0 rfl rfl rfl rfl (cs := cw 4 n) HW.out (by simp only [a0e]) ap7 (a0g _ _) ?_
 intro w2 st2
 clear st1
 have hr := st2.at 0 rfl
 have hfr := st2.fr
 clear st2
 go_wp2_with fail
 exact bodyPost_ret (a0u rfl rfl hr Tryz.underlying68 ap7) rfl ⟨rfl, hfr⟩
theorem s0u (a b : Nat) (w : World) (ha : a < B64 ^ 4) (hb : b < B64 ^ 4) :
  Calls Tryz.prog 169 #[i4 a, i4 b] w fun e w' => e = .returned (.bool (decide (a < b))) ∧ Fr Nob w w' := by
 have HA := Lib.hid ha
 have HB := Lib.hid hb
 clear ha hb
 have st0 := St.start Nob w
 go_enter Tryz.func169, Tryz.ntmps169
 go_wp2_with (with_reducible refine wSk 2 ?_)
 refine a0l st0 rfl rfl rfl (cw 4 a) rfl ?_
 intro g2 w1 st1
 clear st0
 go_wp2_with (with_reducible refine wSk 3 ?_)
 refine a0l st1 rfl rfl rfl (cw 4 b) rfl ?_
 intro g3 w2 st2
 clear st1
 have HCS := Lib.hid (f0n a b 4 HA.out HB.out)
 go_wp2_with (with_reducible refine wSk 8 ?_)
 refine a0i st2 0 rfl rfl rfl Tryz.underlying68 rfl ap7 ?_
 go_wp2_with (with_reducible refine wSk 9 ?_)
 refine a0i st2 1 rfl rfl rfl Tryz.underlying68 rfl ap7 ?_
 go_wp2_with fail
 refine (k0y a b _ HB.out).mono ?_
 rintro e' w3 ⟨rfl, hf3⟩
 have st3 := st2.keep hf3
 clear st2 hf3
 go_wp2_with (with_reducible refine wSk 5 ?_)
 refine a0a st3 rfl rfl (z := zAd) ap11 (cw 4 0) ap9 ?_
 intro g5 w4 st4
 clear st3
 go_wp2_with (with_reducible refine wSn ?_)
 refine a0b st4 2 rfl rfl rfl rfl rfl ap5 ap7 (a0g _ _) ?_
 intro w5 st5
 clear st4
 have hfr := st5.fr
 clear st5
 have hcs := HCS.out
 clear HCS
 by_cases hlt : a < b
 ·rw [if_pos hlt] at hcs
  rw [hcs]
  have HLT := Lib.hid hlt
  clear hlt hcs
  go_wp2_with fail
  go_ret
  exact ⟨by rw [decide_eq_true HLT.out]; rfl, hfr⟩
 ·rw [if_neg hlt] at hcs
  rw [hcs]
  have HLT := Lib.hid hlt
  clear hlt hcs
  go_wp2_with fail
  go_ret
  exact ⟨by rw [decide_eq_false HLT.out]; rfl, hfr⟩
end Go.Proofs.YtmebmhjppmfbbaaGreat


set_option maxHeartbeats 16000000
set_option maxRecDepth 1000000
namespace Mvp
def beN (l : List UInt8) : Nat := l.foldl (fun a x => a * 256 + x.toNat) 0
theorem k0A : beN [] = 0 := rfl
theorem e0z (l : List UInt8) (x : UInt8) : beN (l ++ [x]) = beN l * 256 + x.toNat := by simp [beN]
theorem x0w (l : List UInt8) : beN l < 256 ^ l.length := by
 have h : ∀ (n : Nat) (l : List UInt8), l.length = n → beN l < 256 ^ n := by
  intro n
  induction n with
  | zero => intro l hl; rw [List.length_eq_zero_iff.1 hl]; decide
  | succ n ih =>
   intro l hl
   obtain ⟨m, x, rfl⟩ : ∃ m x, l = m ++ [x] := by
    rcases List.eq_nil_or_concat l with h | ⟨m, x, h⟩
    ·subst h; simp at hl
    ·exact ⟨m, x, by simpa using h⟩
   have := ih m (by simpa using hl)
   have hx := x.toNat_lt
   rw [e0z, Nat.pow_succ]
   omega
 exact h _ l rfl
theorem k0B (l : List UInt8) (i : Nat) (h : i < l.length) : beN (l.take (i + 1)) = beN (l.take i) * 256 + (l.getD i 0).toNat := by
 rw [List.take_succ_eq_append_getElem h, e0z]
 simp [List.getD_eq_getElem?_getD, h]
def b0F (l : List UInt8) (i : Nat) : Nat := beN (l.take i) * 256 ^ (l.length - i)
theorem m0c (l : List UInt8) : b0F l 0 = 0 := by simp [b0F, beN]
theorem o0V (l : List UInt8) : b0F l l.length = beN l := by simp [b0F]
theorem m0d (l : List UInt8) (i : Nat) (h : i < l.length) : b0F l (i + 1) = b0F l i + (l.getD i 0).toNat * 256 ^ (l.length - 1 - i) := by
 unfold b0F
 rw [k0B l i h, Nat.add_mul, Nat.mul_assoc, show l.length - i = (l.length - 1 - i) + 1 by omega, Nat.pow_succ, Nat.mul_comm 256, show l.length - (i + 1) = l.length - 1 - i by omega]
theorem o0W (l : List UInt8) (i : Nat) (h : i < l.length) : b0F l i % 256 ^ (l.length - 1 - i + 1) = 0 := by
 unfold b0F
 rw [show l.length - 1 - i + 1 = l.length - i by omega, Nat.mul_mod_left]
theorem s0v (k : Nat) : 256 ^ k = B64 ^ (k / 8) * 2 ^ (8 * (k % 8)) := by
 have e1 : (256 : Nat) = 2 ^ 8 := by decide
 have e2 : B64 = 2 ^ 64 := by decide
 rw [e1, e2, ← Nat.pow_mul, ← Nat.pow_mul, ← Nat.pow_add]
 congr 1
 omega
theorem g0m (x r : Nat) (hx : x < 256) : x * 2 ^ r < 2 ^ (r + 8) := by
 rw [Nat.pow_add, Nat.mul_comm (2 ^ r)]
 exact Nat.mul_lt_mul_of_pos_right hx (Nat.two_pow_pos r)
theorem y0L (A y r : Nat) (hr : r + 8 ≤ 64) (hy : y < 2 ^ (r + 8)) (hA : A % 2 ^ (r + 8) = 0) : (A % B64) ||| y = (A + y) % B64 ∧ (A + y) / B64 = A / B64 := by
 obtain ⟨c, hc⟩ : ∃ c, B64 = 2 ^ (r + 8) * c := ⟨2 ^ (64 - (r + 8)), by rw [← Nat.pow_add, show r + 8 + (64 - (r + 8)) = 64 by omega]⟩
 obtain ⟨m, rfl⟩ : ∃ m, A = 2 ^ (r + 8) * m := ⟨A / 2 ^ (r + 8), by have := Nat.div_add_mod A (2 ^ (r + 8)); omega⟩
 have hc0 : 0 < c := by
  rcases Nat.eq_zero_or_pos c with h | h
  ·rw [h, Nat.mul_zero] at hc; exact absurd hc ap12
  ·exact h
 have hp := Nat.two_pow_pos (r + 8)
 rw [hc]
 have e1 : 2 ^ (r + 8) * m % (2 ^ (r + 8) * c) = 2 ^ (r + 8) * (m % c) := Nat.mul_mod_mul_left _ _ _
 have hmc := Nat.mod_lt m hc0
 have e3 : 2 ^ (r + 8) * m + y = (2 ^ (r + 8) * c) * (m / c) + (2 ^ (r + 8) * (m % c) + y) := by
  have := Nat.div_add_mod m c
  have h2 : 2 ^ (r + 8) * m = 2 ^ (r + 8) * (c * (m / c) + m % c) := by rw [this]
  rw [h2, Nat.mul_add, Nat.mul_assoc]; omega
 have hlt : 2 ^ (r + 8) * (m % c) + y < 2 ^ (r + 8) * c := by
  have h1 : 2 ^ (r + 8) * (m % c + 1) ≤ 2 ^ (r + 8) * c := Nat.mul_le_mul_left _ hmc
  rw [Nat.mul_add, Nat.mul_one] at h1
  omega
 constructor
 ·rw [e1, ← Nat.two_pow_add_eq_or_of_lt hy, e3, Nat.mul_add_mod, Nat.mod_eq_of_lt hlt]
 ·rw [e3, Nat.mul_add_div (Nat.mul_pos hp hc0), Nat.div_eq_of_lt hlt, Nat.add_zero, Nat.mul_div_mul_left _ _ hp]
theorem s0w (n N k x : Nat) (hx : x < 256) (hN : N % 256 ^ (k + 1) = 0) (hk : k / 8 < n) : (a0E n N).set (k / 8) (lw N (k / 8) ||| x * 2 ^ (8 * (k % 8))) = a0E n (N + x * 256 ^ k) := by
 have hA : N / B64 ^ (k / 8) % 2 ^ (8 * (k % 8) + 8) = 0 := by
  have e : 256 ^ (k + 1) = B64 ^ (k / 8) * 2 ^ (8 * (k % 8) + 8) := by rw [Nat.pow_succ, s0v, Nat.mul_assoc, Nat.pow_add]
  rw [e] at hN
  rw [← Nat.mod_mul_right_div_self, hN, Nat.zero_div]
 obtain ⟨h1, h2⟩ := y0L (N / B64 ^ (k / 8)) (x * 2 ^ (8 * (k % 8))) (8 * (k % 8)) ap13 (g0m x _ hx) hA
 have e : N + x * 256 ^ k = N + B64 ^ (k / 8) * (x * 2 ^ (8 * (k % 8))) := by rw [s0v, Nat.mul_left_comm]
 rw [e]
 apply List.ext_getElem?
 intro i
 rw [List.getElem?_set, b0r]
 rcases Nat.lt_or_ge i n with hi | hi
 ·rw [c0N _ _ _ hi, c0N _ _ _ hi]
  rcases Nat.lt_trichotomy i (k / 8) with h | h | h
  ·rw [if_neg ap13, i0q _ _ _ _ h]
  ·subst h
   rw [if_pos rfl, if_pos hi]
   congr 1
   have := c0U N (x * 2 ^ (8 * (k % 8))) (k / 8) 0
   rw [Nat.add_zero] at this
   rw [this]
   simp only [lw, Nat.pow_zero, Nat.div_one]
   exact h1
  ·rw [if_neg ap13]
   congr 1
   obtain ⟨j, rfl⟩ : ∃ j, i = k / 8 + (1 + j) := ⟨i - k / 8 - 1, by omega⟩
   rw [c0U, ← c0D N, ← c0D _ 1 j, ← c0D _ 1 j, Nat.pow_one, h2]
 ·rw [if_neg ap13, List.getElem?_eq_none (by rw [b0r]; exact hi), List.getElem?_eq_none (by rw [b0r]; exact hi)]
def b0c (N : Nat) : List UInt8 := (List.range 32).map fun i => UInt8.ofNat (N / 256 ^ (31 - i))
theorem b0P (N : Nat) : (b0c N).length = 32 := by simp [b0c]
theorem o0X (N i : Nat) (h : i < 32) : (b0c N).getD i 0 = UInt8.ofNat (N / 256 ^ (31 - i)) := by simp [b0c, List.getD_eq_getElem?_getD, h]
theorem y0M (N k : Nat) : lw N (k / 8) / 2 ^ (8 * (k % 8)) % 256 = N / 256 ^ k % 256 := by
 unfold lw
 rw [s0v, ← Nat.div_div_eq_div_mul]
 generalize N / B64 ^ (k / 8) = A
 have hr : 8 * (k % 8) + 8 ≤ 64 := by omega
 generalize 8 * (k % 8) = r at *
 have e : B64 = 2 ^ r * 2 ^ (64 - r) := by rw [← Nat.pow_add, show r + (64 - r) = 64 by omega]
 rw [e, Nat.mod_mul_right_div_self]
 exact Nat.mod_mod_of_dvd _ ⟨2 ^ (64 - r - 8), by rw [show (256 : Nat) = 2 ^ 8 from rfl, ← Nat.pow_add, show 8 + (64 - r - 8) = 64 - r by omega]⟩
theorem x0x (N i : Nat) : lw N (i / 64) / 2 ^ (i % 64) % 2 = N / 2 ^ i % 2 := by
 unfold lw
 have e1 : 2 ^ i = B64 ^ (i / 64) * 2 ^ (i % 64) := by
  rw [show B64 = 2 ^ 64 from rfl, ← Nat.pow_mul, ← Nat.pow_add]
  congr 1; omega
 rw [e1, ← Nat.div_div_eq_div_mul]
 generalize N / B64 ^ (i / 64) = A
 have hr : i % 64 + 1 ≤ 64 := by omega
 generalize i % 64 = r at *
 have e : B64 = 2 ^ r * 2 ^ (64 - r) := by rw [← Nat.pow_add, show r + (64 - r) = 64 by omega]
 rw [e, Nat.mod_mul_right_div_self]
 exact Nat.mod_mod_of_dvd _ ⟨2 ^ (64 - r - 1), by rw [show (2 : Nat) ^ (64 - r) = 2 ^ (1 + (64 - r - 1)) by congr 1; omega, Nat.pow_add, Nat.pow_one]⟩
theorem o0Y (N : Nat) (h : N < 256 ^ 32) : beN (b0c N) = N := by
 have key : ∀ n, n ≤ 32 → beN ((b0c N).take n) = N / 256 ^ (32 - n) := by
  intro n
  induction n with
  | zero => intro _; simp only [List.take_zero, k0A, Nat.sub_zero]; exact (Nat.div_eq_of_lt h).symm
  | succ n ih =>
   intro hn
   rw [k0B _ _ (by rw [b0P]; omega), ih ap13, o0X _ _ ap13, show 32 - (n + 1) = 31 - n by omega, show 32 - n = (31 - n) + 1 by omega, Nat.pow_succ, ← Nat.div_div_eq_div_mul]
   simp only [UInt8.toNat_ofNat']
   have := Nat.div_add_mod (N / 256 ^ (31 - n)) 256
   show _ * 256 + N / 256 ^ (31 - n) % 256 = _
   omega
 have := key 32 (Nat.le_refl _)
 rw [List.take_of_length_le (by rw [b0P]; exact Nat.le_refl _)] at this
 simpa using this
def b0z (a n p i : Nat) : Nat := a ^ (n / 2 ^ i) % p
theorem v0l (a n p : Nat) (hp : 1 < p) (hn : n < B64 ^ 4) : b0z a n p 256 = 1 := by
 unfold b0z
 rw [Nat.div_eq_of_lt (Nat.lt_of_lt_of_le hn ap12), Nat.pow_zero, Nat.mod_eq_of_lt hp]
theorem v0m (a n p : Nat) : b0z a n p 0 = a ^ n % p := by unfold b0z; rw [Nat.pow_zero, Nat.div_one]
theorem e0k (n i : Nat) : n / 2 ^ i = 2 * (n / 2 ^ (i + 1)) + n / 2 ^ i % 2 := by
 rw [Nat.pow_succ, ← Nat.div_div_eq_div_mul]
 have := Nat.div_add_mod (n / 2 ^ i) 2
 omega
theorem q0F (a n p i : Nat) (h : n / 2 ^ i % 2 = 0) : b0z a n p (i + 1) * b0z a n p (i + 1) % p = b0z a n p i := by
 unfold b0z
 rw [← Nat.mul_mod, ← Nat.pow_add]
 have := e0k n i
 rw [h, Nat.two_mul, Nat.add_zero] at this
 rw [this]
theorem q0G (a n p i : Nat) (h : n / 2 ^ i % 2 = 1) : b0z a n p (i + 1) * b0z a n p (i + 1) * a % p = b0z a n p i := by
 have := e0k n i
 rw [h] at this
 unfold b0z
 rw [← Nat.mod_mul_mod (_ * _), ← Nat.mul_mod, ← Nat.pow_add, Nat.mod_mul_mod, ← Nat.pow_succ, this, Nat.two_mul]
theorem v0n (s : ByteArray) (h : s.size = 32) : beN s.data.toList < B64 ^ 4 := by
 have := x0w s.data.toList
 rw [show s.data.toList.length = s.size by simp, h] at this
 exact Nat.lt_of_lt_of_le this ap12
theorem g0n (l : List UInt8) (h : l.length ≤ 32) : beN l < B64 ^ 4 :=
 Nat.lt_of_lt_of_le (x0w l) (Nat.le_trans (Nat.pow_le_pow_right ap12 h) ap12)
theorem j0B (a b : List UInt8) : beN (a ++ b) = beN a * 256 ^ b.length + beN b := by
 have key : ∀ (n : Nat) (b : List UInt8), b.length = n → beN (a ++ b) = beN a * 256 ^ n + beN b := by
  intro n
  induction n with
  | zero => intro b hb; rw [List.length_eq_zero_iff.1 hb]; simp [k0A]
  | succ n ih =>
   intro b hb
   obtain ⟨m, x, rfl⟩ : ∃ m x, b = m ++ [x] := by
    rcases List.eq_nil_or_concat b with h | ⟨m, x, h⟩
    ·subst h; simp at hb
    ·exact ⟨m, x, by simpa using h⟩
   rw [← List.append_assoc, e0z, ih m (by simpa using hb), e0z, Nat.pow_succ, Nat.add_mul, ← Nat.mul_assoc, Nat.add_assoc]
 exact key _ b rfl
theorem m0e (l : List UInt8) (r k : Nat) (h : r + k ≤ l.length) : beN (l.take (r + k)) = beN (l.take r) * 256 ^ k + beN ((l.drop r).take k) := by
 rw [List.take_add, j0B]
 congr 3
 simp; omega
end Mvp


set_option maxHeartbeats 16000000
set_option maxRecDepth 1000000
namespace Go.Proofs.YtmebmhjppmfbbaaGreat
open Go.RowKit Go.Mv Mvp
attribute [local irreducible] a0E lw mix cw b0o b0x b0l a0L a0q beN b0F b0c
theorem k0C (x : UInt8) (r : Nat) (hr : r + 8 ≤ 64) : (shl (wid x) r).toNat = x.toNat * 2 ^ r := by
 have hx := x.toNat_lt
 have h1 : x.toNat * 2 ^ r < 2 ^ (r + 8) := g0m x.toNat r hx
 have h2 : 2 ^ (r + 8) ≤ 2 ^ 64 := Nat.pow_le_pow_right ap13 hr
 simp only [shl, wid, UInt64.toNat_ofNat', UInt8.toNat_toUInt64]
 exact Nat.mod_eq_of_lt (Nat.lt_of_lt_of_le h1 h2)
theorem x0y (s : ByteArray) (w : World) (hs : s.size ≤ 32) :
  Calls Tryz.prog 168 #[.string s] w fun e w' => e = .returned (i4 (beN s.data.toList)) ∧ Fr Nob w w' := by
 have HS := Lib.hid hs
 have hsz : s.data.toList.length = s.size := by simp
 have HSZ := Lib.hid hsz
 clear hs hsz
 have st0 := St.start Nob w
 go_enter Tryz.func168, Tryz.ntmps168
 go_wp2_with (with_reducible refine wSk 2 ?_)
 refine a0a st0 rfl rfl (z := zAd) ap11 (cw 4 0) ap9 ?_
 intro g2 w1 st1
 clear st0
 go_wp2_with (with_reducible refine wSk 3 ?_)
 refine a0a st1 rfl rfl (z := zAd) ap11 (cw 4 0) ap9 ?_
 intro g3 w2 st2
 clear st1
 have hmx : s.size ≤ 32 := HS.out
 go_wp2
 go_loopw [4] (fun i wr => ∃ k : Nat, k ≤ s.size ∧ i = .int .i64 (k : Int) ∧ St Nob w wr [(g2, cw 4 0, 68), (g3, cw 4 (b0F s.data.toList k), 68)]) (fun i _ => s.size - (intOf i).toNat)
 case atStart => exact ⟨0, by omega, rfl, by rw [m0c]; exact st2⟩
 case round =>
  obtain ⟨i, hi, rfl, st⟩ := hrel
  clear st2
  by_cases hlt : i < s.size
  ·have hltI : (i : Int) < (s.size : Int) := by omega
   have hll : i < s.data.toList.length := by rw [HSZ.out]; exact hlt
   have hstep := s0w 4 (b0F s.data.toList i) (s.size - 1 - i) (s.data.toList.getD i 0).toNat (UInt8.toNat_lt _) (by have := o0W s.data.toList i hll; rwa [HSZ.out] at this) ap13
   have hsucc := m0d s.data.toList i hll
   rw [HSZ.out] at hsucc
   rw [← hsucc] at hstep
   have hx : ∀ h1 : i < s.size, s[i]'h1 = s.data.toList.getD i 0 := by
    intro h1
    rw [List.getD_eq_getElem?_getD, List.getElem?_eq_getElem (by simpa using h1)]
    simp
    rfl
   have hd1 : (s.size : Int) - 1 - (i : Int) = ((s.size - 1 - i : Nat) : Int) := by omega
   generalize hN' : b0F s.data.toList (i + 1) = N' at *
   have HN' := Lib.hid hN'; clear hN'
   generalize hN : b0F s.data.toList i = N at *
   generalize s.data.toList.getD i 0 = x at *
   have hk32 : s.size - 1 - i < 32 := by omega
   generalize hk : s.size - 1 - i = k at *
   have HN := Lib.hid hN; clear hN
   have HK := Lib.hid hk; clear hk
   have HSTEP := Lib.hid hstep; clear hstep
   have HD := Lib.hid hd1; clear hd1 hsucc hll
   have c1 := (st.at 1 rfl).cell (a0D 4 N (k / 8) ap13)
   have f1 := (st.at 1 rfl).free (k / 8) (by rw [a0e]; omega)
   have hlo : (0 : Int) ≤ (k : Int) / 8 ∧ (k : Int) / 8 < 4 := by omega
   have hor := bits_or_u64_nat (lw N (k / 8)) ((shl (wid x) (8 * (k % 8))).toNat) (c0T _ _) (f0y _)
   rw [k0C x (8 * (k % 8)) ap13] at hor
   simp only [Int.natCast_mul, Int.natCast_pow, Int.cast_ofNat_Int] at hor
   have HSH := Lib.hid (k0C x (8 * (k % 8)) ap13)
   go_wp2_with fail
   rw [HD.out]
   have e1 : IntKind.i64.wrap ((k : Int) / 8) = (k : Int) / 8 := IntWalk.i64_in _ ap13
   have e2 : (k : Int).tmod 8 = (k : Int) % 8 := Int.tmod_eq_emod_of_nonneg ap13
   have e3 : IntKind.i64.wrap (8 * ((k : Int) % 8)) = 8 * ((k : Int) % 8) := IntWalk.i64_in _ ap13
   have e4 : ((k : Int) / 8).toNat = k / 8 := by omega
   refine wp_region_still_tail 16 ap11 ap11 ?_
   simp only [List.take_succ_cons, List.take_zero, List.drop_succ_cons, List.drop_zero]
   repeat still_step
   refine wpStill_nil ?_
   have hsh := HSH.out
   have hst := (st.set 1 rfl (k / 8) (.int .u64 ((lw N (k / 8) ||| x.toNat * 2 ^ (8 * (k % 8)) : Nat) : Int))).drew
   have hS : (cw 4 N).set (k / 8) (.int .u64 ((lw N (k / 8) ||| x.toNat * 2 ^ (8 * (k % 8)) : Nat) : Int)) = cw 4 N' := by
    rw [cw, l0Y, HSTEP.out, cw]
   rw [hS] at hst
   have HST := Lib.hid hst
   clear hst hS
   go_wp2
   go_roundw
   case rel => exact ⟨i + 1, by omega, by go_num, by rw [HN'.out]; exact HST.out⟩
   case measure => simp [intOf]; omega
  ·have hge : ¬ ((i : Int) < (s.size : Int)) := by omega
   have hi2 : i = s.data.toList.length := by rw [HSZ.out]; omega
   rw [hi2, o0V] at st
   clear hi2
   go_wp2_with (with_reducible refine wSk 33 ?_)
   refine a0i st 1 rfl rfl rfl Tryz.underlying68 rfl (by rw [a0e]; exact e0j) ?_
   go_wp2_with (with_reducible refine wSn ?_)
   refine a0b st 0 rfl rfl rfl rfl rfl (by rw [a0e, a0e]) (by rw [a0e]; exact e0j) (a0g _ _) ?_
   intro w9 st9
   clear st
   have hr := st9.at 0 rfl
   have hfr := st9.fr
   clear st9
   go_wp2
   exact bodyPost_ret (a0u rfl rfl hr Tryz.underlying68 (by rw [a0e]; exact e0j)) rfl ⟨rfl, hfr⟩
theorem k0D : (Tryz.prog.info? 108).map (·.size) = some 4 := by kernel_rfl
theorem c0O (a : Option Addr) (n c : Nat) (l : List UInt8) (w : World) (hb : RdB w a n l) (hs : n ≤ 32) :
  Calls Tryz.prog 140 #[.slice a n c] w fun e w' => e = .returned (i4 (beN l)) ∧ Fr Nob w w' := by
 have HS := Lib.hid hs
 have hsz : l.length = n := hb.len
 have HBB := Lib.hid hb; clear hb
 have HSZ := Lib.hid hsz
 clear hs hsz
 have st0 := St.start Nob w
 go_enter Tryz.func140, Tryz.ntmps140
 go_wp2_with (with_reducible refine wSk 2 ?_)
 refine a0a st0 rfl rfl (z := zAd) ap11 (cw 4 0) ap9 ?_
 intro g2 w1 st1
 clear st0
 have hmx : n ≤ 32 := HS.out
 go_wp2
 go_loopw [8] (fun i wr => ∃ k : Nat, k ≤ n ∧ i = .int .i64 (k : Int) ∧ St Nob w wr [(g2, cw 4 (b0F l k), 108)]) (fun i _ => n - (intOf i).toNat)
 case atStart => exact ⟨0, by omega, rfl, by rw [m0c]; exact st1⟩
 case round =>
  obtain ⟨i, hi, rfl, st⟩ := hrel
  clear st1
  by_cases hlt : i < n
  ·have hltI : (i : Int) < (n : Int) := by omega
   have hll : i < l.length := by rw [HSZ.out]; exact hlt
   have hstep := s0w 4 (b0F l i) (n - 1 - i) (l.getD i 0).toNat (UInt8.toNat_lt _) (by have := o0W l i hll; rwa [HSZ.out] at this) ap13
   have hsucc := m0d l i hll
   rw [HSZ.out] at hsucc
   rw [← hsucc] at hstep
   obtain ⟨gb, ob, rfl, hcx⟩ := (HBB.out.still st.fr).at ap13
   have hx := hcx i hlt
   clear hcx
   have hd1 : (n : Int) - 1 - (i : Int) = ((n - 1 - i : Nat) : Int) := by omega
   generalize hN' : b0F l (i + 1) = N' at *
   have HN' := Lib.hid hN'; clear hN'
   generalize hN : b0F l i = N at *
   generalize l.getD i 0 = x at *
   have hk32 : n - 1 - i < 32 := by omega
   generalize hk : n - 1 - i = k at *
   have HN := Lib.hid hN; clear hN
   have HK := Lib.hid hk; clear hk
   have HSTEP := Lib.hid hstep; clear hstep
   have HD := Lib.hid hd1; clear hd1 hsucc hll
   have c1 := (st.at 0 rfl).cell (a0D 4 N (k / 8) ap13)
   have f1 := (st.at 0 rfl).free (k / 8) (by rw [a0e]; omega)
   have hlo : (0 : Int) ≤ (k : Int) / 8 ∧ (k : Int) / 8 < 4 := by omega
   have hor := bits_or_u64_nat (lw N (k / 8)) ((shl (wid x) (8 * (k % 8))).toNat) (c0T _ _) (f0y _)
   rw [k0C x (8 * (k % 8)) ap13] at hor
   simp only [Int.natCast_mul, Int.natCast_pow, Int.cast_ofNat_Int] at hor
   have HSH := Lib.hid (k0C x (8 * (k % 8)) ap13)
   go_wp2_with fail
   rw [HD.out]
   have e1 : IntKind.i64.wrap ((k : Int) / 8) = (k : Int) / 8 := IntWalk.i64_in _ ap13
   have e2 : (k : Int).tmod 8 = (k : Int) % 8 := Int.tmod_eq_emod_of_nonneg ap13
   have e3 : IntKind.i64.wrap (8 * ((k : Int) % 8)) = 8 * ((k : Int) % 8) := IntWalk.i64_in _ ap13
   have e4 : ((k : Int) / 8).toNat = k / 8 := by omega
   refine wp_region_still_tail 12 ap11 ap11 ?_
   simp only [List.take_succ_cons, List.take_zero, List.drop_succ_cons, List.drop_zero]
   repeat still_step
   refine wpStill_nil ?_
   have hsh := HSH.out
   have hst := (st.set 0 rfl (k / 8) (.int .u64 ((lw N (k / 8) ||| x.toNat * 2 ^ (8 * (k % 8)) : Nat) : Int))).drew
   have hS : (cw 4 N).set (k / 8) (.int .u64 ((lw N (k / 8) ||| x.toNat * 2 ^ (8 * (k % 8)) : Nat) : Int)) = cw 4 N' := by
    rw [cw, l0Y, HSTEP.out, cw]
   rw [hS] at hst
   have HST := Lib.hid hst
   clear hst hS
   go_wp2
   go_roundw
   case rel => exact ⟨i + 1, by omega, by go_num, by rw [HN'.out]; exact HST.out⟩
   case measure => simp [intOf]; omega
  ·have hge : ¬ ((i : Int) < (n : Int)) := by omega
   have hi2 : i = l.length := by rw [HSZ.out]; omega
   rw [hi2, o0V] at st
   clear hi2
   go_wp2_with (with_reducible refine wSk 31 ?_)
   refine a0i st 0 rfl rfl rfl Tryz.underlying108 rfl (by rw [a0e]; exact k0D) ?_
   go_wp2_with (with_reducible refine wSn ?_)
   refine a0b st 0 rfl rfl rfl rfl rfl (by rw [a0e]) (by rw [a0e]; exact k0D) (a0g _ _) ?_
   intro w9 st9
   clear st
   have hr := st9.at 0 rfl
   have hfr := st9.fr
   clear st9
   go_wp2
   exact bodyPost_ret (a0u rfl rfl hr Tryz.underlying108 (by rw [a0e]; exact k0D)) rfl ⟨rfl, hfr⟩
end Go.Proofs.YtmebmhjppmfbbaaGreat


set_option maxHeartbeats 16000000
set_option maxRecDepth 1000000
namespace Go.Proofs.YtmebmhjppmfbbaaGreat
open Go.RowKit Go.Mv Mvp
theorem k0E {k : IntKind} {a b : Int} (h : a = b) : Ending.returned (.int k a) = .returned (.int k b) := by rw [h]
attribute [local irreducible] a0E lw mix cw b0o b0x b0l a0L a0q beN b0F b0c
theorem j0C (N : Nat) (w : World) :
  Calls Tryz.prog 114 #[i4 N] w fun e w' => ∃ v, e = .returned v ∧ Own w' w.heap.size 5 1 v 32 (bs (b0c N)) ∧ Fr Nob w w' := by
 have st0 := St.start Nob w
 go_enter Tryz.func114, Tryz.ntmps114
 go_wp2_with (with_reducible refine wSk 1 ?_)
 refine a0l st0 rfl rfl rfl (cw 4 N) rfl ?_
 intro g1 w1 st1
 clear st0
 go_wp2_with (with_reducible refine wSk 6 ?_)
 refine b0X rfl rfl Tryz.underlying22 b0y rfl rfl rfl 32 32 ap14 ap14 ap13 ap13 ap8 ?_
 intro w2 hg2 hf2 hz2
 clear hz2
 have hb2 : w.heap.size ≤ w1.heap.size := st1.fr.size
 have st2 := st1.new hf2 hg2 (Nat.le_refl _)
 clear st1 hg2 hf2
 generalize w1.heap.size = gb at *
 have HBB := Lib.hid hb2; clear hb2
 go_wp2
 go_loopw [9] (fun i wr => ∃ k : Nat, k ≤ 32 ∧ i = .int .i64 (k : Int) ∧ St Nob w wr [(g1, cw 4 N, 108), (gb, bs (fill (b0c N) (List.replicate 32 0) k), 5)]) (fun i _ => 32 - (intOf i).toNat)
 case atStart => exact ⟨0, by omega, rfl, st2⟩
 case round =>
  obtain ⟨i, hi, rfl, st⟩ := hrel
  clear st2
  by_cases hlt : i < 32
  ·have hltI : (i : Int) < 32 := by omega
   have hd1 : (31 : Int) - (i : Int) = ((31 - i : Nat) : Int) := by omega
   have hgl := o0X N i hlt
   have hgb := y0M N (31 - i)
   have hk32 : 31 - i < 32 := by omega
   generalize hk : 31 - i = k at *
   have HK := Lib.hid hk; clear hk
   have HGL := Lib.hid hgl; clear hgl
   have HGB := Lib.hid hgb; clear hgb
   have c1 := (st.at 0 rfl).cell (a0D 4 N (k / 8) ap13)
   obtain ⟨v3, c3, f3⟩ := (st.at 1 rfl).ready (i := i) (by rw [a0M, f0H _ _ _ (by rw [b0P]; simp)]; simpa using hlt)
   have hlo : (0 : Int) ≤ (k : Int) / 8 ∧ (k : Int) / 8 < 4 := by omega
   have e4 : ((k : Int) / 8).toNat = k / 8 := by omega
   go_wp2
   go_roundw
   case rel =>
    have h1 := st.set 1 rfl i (.int .u8 (((b0c N).getD i 0).toNat : Int))
    rw [h0L, o0B _ _ _ (by rw [b0P]; simp) (by rw [b0P]; omega)] at h1
    have e : (((b0c N).getD i 0).toNat : Int) = (lw N (k / 8) : Int) / 2 ^ (8 * (k % 8)) % 256 := by
     rw [HGL.out, UInt8.toNat_ofNat']
     have := HGB.out
     rw [show (2 : Nat) ^ 8 = 256 from rfl, ← this]
     simp
    rw [e] at h1
    exact ⟨i + 1, by omega, by go_num, h1⟩
   case measure => simp [intOf]; omega
  ·have hge : ¬ ((i : Int) < 32) := by omega
   have hi32 : i = 32 := by omega
   have hown : Own wr w.heap.size 5 1 (.slice (some ⟨gb, 0, none⟩) 32 32) 32 (bs (b0c N)) := by
    have h := st.at 1 rfl
    rw [hi32, k0e _ _ _ (by rw [b0P]; simp) (by rw [b0P]; exact Nat.le_refl _)] at h
    have := Own.made h w.heap.size HBB.out 1 32 32 (Nat.le_refl _) ap8 (by rw [a0M, b0P]; omega)
    rwa [List.take_of_length_le (by rw [a0M, b0P]; exact Nat.le_refl _)] at this
   have hfr := st.fr
   clear st hi32
   go_wp2
   go_ret
   exact ⟨_, rfl, hown, hfr⟩
theorem g0o (N i : Nat) (w : World) (hi : i < 256) :
  Calls Tryz.prog 134 #[i4 N, .int .i64 (i : Int)] w fun e w' => e = .returned (.int .u64 ((N / 2 ^ i % 2 : Nat) : Int)) ∧ Fr Nob w w' := by
 have hb := x0x N i
 have HB := Lib.hid hb; clear hb
 have st0 := St.start Nob w
 go_enter Tryz.func134, Tryz.ntmps134
 go_wp2_with (with_reducible refine wSk 2 ?_)
 refine a0l st0 rfl rfl rfl (cw 4 N) rfl ?_
 intro g1 w1 st1
 clear st0
 have c1 := (st1.at 0 rfl).cell (a0D 4 N (i / 64) ap13)
 have hlo : (0 : Int) ≤ (i : Int) / 64 ∧ (i : Int) / 64 < 4 := by omega
 have hlo2 : (0 : Int) ≤ (i : Int) % 64 ∧ (i : Int) % 64 < 64 := by omega
 have e4 : ((i : Int) / 64).toNat = i / 64 := by omega
 have e5 : ((i : Int) % 64).toNat = i % 64 := by omega
 have hfr := st1.fr
 clear st1
 have hw : lw N (i / 64) / 2 ^ (i % 64) < 18446744073709551616 := Nat.lt_of_le_of_lt (Nat.div_le_self _ _) (c0T _ _)
 have ha := bits_and_u64_nat (lw N (i / 64) / 2 ^ (i % 64)) 1 hw ap13
 rw [Nat.and_one_is_mod] at ha
 simp only [Int.natCast_ediv, Int.natCast_pow, Int.cast_ofNat_Int] at ha
 go_wp2
 go_ret
 refine ⟨k0E ?_, hfr⟩
 rw [← HB.out]
 simp
theorem o0Z (N i : Nat) (w : World) (hi : i < 256) :
  Calls Tryz.prog 197 #[i4 N, .int .i64 (i : Int)] w fun e w' => e = .returned (.int .u64 ((N / 2 ^ i % 2 : Nat) : Int)) ∧ Fr Nob w w' := by
 have hb := x0x N i
 have HB := Lib.hid hb; clear hb
 have st0 := St.start Nob w
 go_enter Tryz.func197, Tryz.ntmps197
 go_wp2_with (with_reducible refine wSk 2 ?_)
 refine a0l st0 rfl rfl rfl (cw 4 N) rfl ?_
 intro g1 w1 st1
 clear st0
 have c1 := (st1.at 0 rfl).cell (a0D 4 N (i / 64) ap13)
 have hlo : (0 : Int) ≤ (i : Int) / 64 ∧ (i : Int) / 64 < 4 := by omega
 have hlo2 : (0 : Int) ≤ (i : Int) % 64 ∧ (i : Int) % 64 < 64 := by omega
 have e4 : ((i : Int) / 64).toNat = i / 64 := by omega
 have e5 : ((i : Int) % 64).toNat = i % 64 := by omega
 have hfr := st1.fr
 clear st1
 have hw : lw N (i / 64) / 2 ^ (i % 64) < 18446744073709551616 := Nat.lt_of_le_of_lt (Nat.div_le_self _ _) (c0T _ _)
 have ha := bits_and_u64_nat (lw N (i / 64) / 2 ^ (i % 64)) 1 hw ap13
 rw [Nat.and_one_is_mod] at ha
 simp only [Int.natCast_ediv, Int.natCast_pow, Int.cast_ofNat_Int] at ha
 go_wp2
 go_ret
 refine ⟨k0E ?_, hfr⟩
 rw [← HB.out]
 simp
end Go.Proofs.YtmebmhjppmfbbaaGreat


set_option maxHeartbeats 16000000
set_option maxRecDepth 1000000
namespace Go.Proofs.YtmebmhjppmfbbaaGreat
open Go.RowKit Go.Mv Mvp
attribute [local irreducible] a0E lw mix cw b0o b0x b0l a0L a0q beN b0F b0c b0z
theorem y0N (a n p i : Nat) (hp : 0 < p) : b0z a n p i < p := by unfold b0z; exact Nat.mod_lt _ hp
theorem s0x (p a n : Nat) (w : World) (hp1 : 1 < p) (hp : p < B64 ^ 4) (ha : a < B64 ^ 4) (hn : n < B64 ^ 4) :
  Calls Tryz.prog 175 #[fv p, i4 a, i4 n] w fun e w' => e = .returned (i4 (a ^ n % p)) ∧ Fr Nob w w' := by
 have HP1 := Lib.hid hp1
 have HP := Lib.hid hp
 have HA := Lib.hid ha
 have HN := Lib.hid hn
 have HP0 := Lib.hid (show 0 < p by omega)
 have H1 := Lib.hid (show (1 : Nat) = b0z a n p 256 from (v0l a n p hp1 hn).symm)
 clear hp1 hp ha hn
 have st0 := St.start Nob w
 go_enter Tryz.func175, Tryz.ntmps175
 go_wp2_with (with_reducible refine wSk 3 ?_)
 refine a0l st0 rfl rfl rfl (cw 4 p ++ cw 4 (B64 ^ 4 - p)) rfl ?_
 intro g3 w1 st1
 clear st0
 go_wp2_with (with_reducible refine wSk 4 ?_)
 refine a0l st1 rfl rfl rfl (cw 4 a) rfl ?_
 intro g4 w2 st2
 clear st1
 go_wp2_with (with_reducible refine wSk 5 ?_)
 refine a0l st2 rfl rfl rfl (cw 4 n) rfl ?_
 intro g5 w3 st3
 clear st2
 go_wp2_with (with_reducible refine wSk 6 ?_)
 refine a0a st3 rfl rfl (z := zAd) ap11 (cw 4 0) ap9 ?_
 intro g6 w4 st4
 clear st3
 go_wp2_with fail
 refine (i0v 1 _ ap12).mono ?_
 rintro e' w5 ⟨rfl, hf5⟩
 have st5 := st4.keep hf5
 clear st4 hf5
 go_wp2_with (with_reducible refine wSk 7 ?_)
 refine a0a st5 rfl rfl (z := zAd) ap11 (cw 4 0) ap9 ?_
 intro g7 w6 st6
 clear st5
 go_wp2_with (with_reducible refine wSn ?_)
 refine a0b st6 4 rfl rfl rfl rfl rfl ap5 ap7 (a0g _ _) ?_
 intro w7 st7
 clear st6
 rw [show (1 : Nat) = b0z a n p 256 from H1.out] at st7
 go_wp2
 go_loopw [8] (fun i wr => ∃ j : Nat, j ≤ 256 ∧ i = .int .i64 ((j : Int) - 1) ∧ St Nob w wr [(g3, cw 4 p ++ cw 4 (B64 ^ 4 - p), 72), (g4, cw 4 a, 68), (g5, cw 4 n, 68), (g6, cw 4 0, 68), (g7, cw 4 (b0z a n p j), 68)]) (fun i _ => (intOf i + 1).toNat)
 case atStart => exact ⟨256, by omega, rfl, st7⟩
 case round =>
  obtain ⟨j, hj, rfl, st⟩ := hrel
  clear st7
  cases j with
  | succ i =>
   rw [show (((i + 1 : Nat) : Int)) - 1 = (i : Int) by omega]
   have hge : (0 : Int) ≤ (i : Int) := by omega
   have hlt := y0N a n p (i + 1) HP0.out
   have HLT := Lib.hid (Nat.lt_trans hlt HP.out)
   clear hlt
   go_wp2_with (with_reducible refine wSk 14 ?_)
   refine a0m st 0 rfl rfl rfl Tryz.underlying72 rfl rfl ap4 ?_
   go_wp2_with (with_reducible refine wSk 15 ?_)
   refine a0i st 4 rfl rfl rfl Tryz.underlying68 rfl ap7 ?_
   go_wp2_with (with_reducible refine wSk 16 ?_)
   refine a0i st 4 rfl rfl rfl Tryz.underlying68 rfl ap7 ?_
   go_wp2_with fail
   refine (g0S p (b0z a n p (i + 1)) (b0z a n p (i + 1)) _ HP0.out HP.out HLT.out HLT.out).mono ?_
   rintro e' w8 ⟨rfl, hf8⟩
   have st8 := st.keep hf8
   clear st hf8
   go_wp2_with (with_reducible refine wSn ?_)
   refine a0b st8 4 rfl rfl rfl rfl rfl ap5 ap7 (a0g _ _) ?_
   intro w9 st9
   clear st8
   go_wp2_with (with_reducible refine wSk 18 ?_)
   refine a0i st9 2 rfl rfl rfl Tryz.underlying68 rfl ap7 ?_
   go_wp2_with fail
   refine (g0o n i _ ap13).mono ?_
   rintro e' w10 ⟨rfl, hf10⟩
   have st10 := st9.keep hf10
   clear st9 hf10
   have hbt : n / 2 ^ i % 2 = 0 ∨ n / 2 ^ i % 2 = 1 := by omega
   have HS0 := Lib.hid (q0F a n p i)
   have HS1 := Lib.hid (q0G a n p i)
   generalize hbb : n / 2 ^ i % 2 = bt at *
   have HBB := Lib.hid hbb
   clear hbb
   rcases hbt with rfl | rfl
   ·have hst := st10
    rw [HS0.out (by first | rfl | trivial)] at hst
    clear st10
    go_wp2
    go_roundw
    case rel => exact ⟨i, by omega, rfl, hst⟩
    case measure => simp [intOf]
   ·have HLQ := Lib.hid (show (b0z a n p (i + 1) * b0z a n p (i + 1) % p) < B64 ^ 4 from Nat.lt_trans (Nat.mod_lt _ HP0.out) HP.out)
    go_wp2_with (with_reducible refine wSk 22 ?_)
    refine a0m st10 0 rfl rfl rfl Tryz.underlying72 rfl rfl ap4 ?_
    go_wp2_with (with_reducible refine wSk 23 ?_)
    refine a0i st10 4 rfl rfl rfl Tryz.underlying68 rfl ap7 ?_
    go_wp2_with (with_reducible refine wSk 24 ?_)
    refine a0i st10 1 rfl rfl rfl Tryz.underlying68 rfl ap7 ?_
    go_wp2_with fail
    refine (g0S p (b0z a n p (i + 1) * b0z a n p (i + 1) % p) a _ HP0.out HP.out HLQ.out HA.out).mono ?_
    rintro e' w11 ⟨rfl, hf11⟩
    have st11 := st10.keep hf11
    clear st10 hf11
    go_wp2_with (with_reducible refine wSn ?_)
    refine a0b st11 4 rfl rfl rfl rfl rfl ap5 ap7 (a0g _ _) ?_
    intro w12 st12
    clear st11
    have hst := st12
    rw [HS1.out (by first | rfl | trivial)] at hst
    clear st12
    go_wp2
    go_roundw
    case rel => exact ⟨i, by omega, rfl, hst⟩
    case measure => simp [intOf]
  | zero =>
   rw [show (((0 : Nat) : Int)) - 1 = -1 by omega]
   go_wp2_with (with_reducible refine wSk 26 ?_)
   refine a0i st 4 rfl rfl rfl Tryz.underlying68 rfl ap7 ?_
   go_wp2_with (with_reducible refine wSn ?_)
   refine a0b st 3 rfl rfl rfl rfl rfl ap5 ap7 (a0g _ _) ?_
   intro w8 st8
   clear st
   have hr := st8.at 3 rfl
   have hfr := st8.fr
   clear st8
   go_wp2_with fail
   exact bodyPost_ret (a0u rfl rfl hr Tryz.underlying68 ap7) rfl ⟨by rw [v0m]; rfl, hfr⟩
end Go.Proofs.YtmebmhjppmfbbaaGreat


set_option maxHeartbeats 16000000
set_option maxRecDepth 1000000
namespace Go.Proofs.YtmebmhjppmfbbaaGreat
open Go.RowKit Go.Mv Mvp
attribute [local irreducible] a0E lw mix cw b0o b0x b0l a0L a0q beN b0F b0c b0z
theorem q0H (p : Nat) (s : ByteArray) (w : World) (hs : s.size ≠ 32) :
  Calls Tryz.prog 115 #[fv p, .string s] w fun e w' => e = .returned (.tuple #[i4 0, .bool false]) ∧ Fr Nob w w' := by
 have HS := Lib.hid hs
 have HZ := Lib.hid (b0E 0 ap12)
 clear hs
 have st0 := St.start Nob w
 go_enter Tryz.func115, Tryz.ntmps115
 go_wp2_with (with_reducible refine wSk 2 ?_)
 refine a0l st0 rfl rfl rfl (cw 4 p ++ cw 4 (B64 ^ 4 - p)) rfl ?_
 intro g2 w1 st1
 clear st0
 go_wp2_with (with_reducible refine wSk 4 ?_)
 refine a0a st1 rfl rfl (z := zAd) ap11 (cw 4 0) ap9 ?_
 intro g4 w2 st2
 clear st1
 have hne : ((s.size : Int) != 32) = true := by have := HS.out; simp; omega
 go_wp2_with (with_reducible refine wSn ?_)
 refine a0b st2 1 rfl rfl rfl rfl (cs := cw 4 0) HZ.out (by simp only [a0e]) ap7 (a0g _ _) ?_
 intro w9 st9
 clear st2
 have hr := st9.at 1 rfl
 have hfr := st9.fr
 clear st9
 go_wp2_with fail
 exact bodyPost_ret (a0V rfl rfl hr Tryz.underlying68 ap7 rfl) rfl ⟨rfl, hfr⟩
theorem m0f (p : Nat) (s : ByteArray) (w : World) (hs : s.size = 32) (hp : p < B64 ^ 4) :
  Calls Tryz.prog 115 #[fv p, .string s] w fun e w' => e = .returned (.tuple #[i4 (beN s.data.toList), .bool (decide (beN s.data.toList < p))]) ∧ Fr Nob w w' := by
 have HS := Lib.hid hs
 have HP := Lib.hid hp
 have HN := Lib.hid (v0n s hs)
 clear hs hp
 have st0 := St.start Nob w
 go_enter Tryz.func115, Tryz.ntmps115
 go_wp2_with (with_reducible refine wSk 2 ?_)
 refine a0l st0 rfl rfl rfl (cw 4 p ++ cw 4 (B64 ^ 4 - p)) rfl ?_
 intro g2 w1 st1
 clear st0
 go_wp2_with (with_reducible refine wSk 4 ?_)
 refine a0a st1 rfl rfl (z := zAd) ap11 (cw 4 0) ap9 ?_
 intro g4 w2 st2
 clear st1
 have hne : ((s.size : Int) != 32) = false := by have := HS.out; simp; omega
 go_wp2_with fail
 refine (x0y s _ (by have := HS.out; omega)).mono ?_
 rintro e' w3 ⟨rfl, hf3⟩
 have st3 := st2.keep hf3
 clear st2 hf3
 go_wp2_with (with_reducible refine wSk 6 ?_)
 refine a0a st3 rfl rfl (z := zAd) ap11 (cw 4 0) ap9 ?_
 intro g6 w4 st4
 clear st3
 go_wp2_with (with_reducible refine wSn ?_)
 refine a0b st4 2 rfl rfl rfl rfl rfl ap5 ap7 (a0g _ _) ?_
 intro w5 st5
 clear st4
 go_wp2_with (with_reducible refine wSk 14 ?_)
 refine a0i st5 2 rfl rfl rfl Tryz.underlying68 rfl ap7 ?_
 go_wp2_with (with_reducible refine wSk 16 ?_)
 refine c0h rfl rfl Tryz.underlying68 rfl (st5.at 0 rfl) (cw 4 p) (g0P 4 4 _ _) ap7 ?_
 go_wp2_with fail
 refine (s0u (beN s.data.toList) p _ HN.out HP.out).mono ?_
 rintro e' w6 ⟨rfl, hf6⟩
 have st6 := st5.keep hf6
 clear st5 hf6
 go_wp2_with (with_reducible refine wSk 18 ?_)
 refine a0i st6 2 rfl rfl rfl Tryz.underlying68 rfl ap7 ?_
 go_wp2_with (with_reducible refine wSn ?_)
 refine a0b st6 1 rfl rfl rfl rfl rfl ap5 ap7 (a0g _ _) ?_
 intro w7 st7
 clear st6
 have hr := st7.at 1 rfl
 have hfr := st7.fr
 clear st7
 go_wp2_with fail
 exact bodyPost_ret (a0V rfl rfl hr Tryz.underlying68 ap7 rfl) rfl ⟨rfl, hfr⟩
theorem y0O (p : Nat) (s : ByteArray) (w : World) (hp0 : 0 < p) (hp : p < B64 ^ 4) (hs : s.size ≤ 1000000) :
  Calls Tryz.prog 92 #[fv p, .string s] w fun e w' => e = .returned (i4 (beN s.data.toList % p)) ∧ Fr Nob w w' := by
 have HS := Lib.hid hs
 have HP0 := Lib.hid hp0
 have HP := Lib.hid hp
 have HZ := Lib.hid (b0E 0 ap12)
 have HSZ := Lib.hid (show s.data.toList.length = s.size by simp)
 clear hs hp0 hp
 have st0 := St.start Nob w
 go_enter Tryz.func92, Tryz.ntmps92
 go_wp2_with (with_reducible refine wSk 2 ?_)
 refine a0l st0 rfl rfl rfl (cw 4 p ++ cw 4 (B64 ^ 4 - p)) rfl ?_
 intro g2 w1 st1
 clear st0
 go_wp2_with (with_reducible refine wSk 4 ?_)
 refine a0a st1 rfl rfl (z := zAd) ap11 (cw 4 0) ap9 ?_
 intro g4 w2 st2
 clear st1
 go_wp2_with (with_reducible refine wSk 5 ?_)
 refine a0a st2 rfl rfl (z := zAd) ap11 (cw 4 0) ap9 ?_
 intro g5 w3 st3
 clear st2
 go_wp2_with (with_reducible refine wSn ?_)
 refine a0b st3 2 rfl rfl rfl rfl (cs := cw 4 0) HZ.out (by simp only [a0e]) ap7 (a0g _ _) ?_
 intro w9 st9
 clear st3
 have hmx : s.size ≤ 1000000 := HS.out
 go_wp2
 go_loopw [6] (fun i wr => ∃ k : Nat, k ≤ s.size ∧ i = .int .i64 (k : Int) ∧ St Nob w wr [(g2, cw 4 p ++ cw 4 (B64 ^ 4 - p), 72), (g4, cw 4 0, 68), (g5, cw 4 (beN (s.data.toList.take k) % p), 68)]) (fun i _ => s.size - (intOf i).toNat)
 case atStart => exact ⟨0, by omega, rfl, by rw [List.take_zero, k0A, Nat.zero_mod]; exact st9⟩
 case round =>
  obtain ⟨i, hi, rfl, st⟩ := hrel
  clear st9
  by_cases hlt : i < s.size
  ·have hltI : (i : Int) < (s.size : Int) := by omega
   have hll : i < s.data.toList.length := by rw [HSZ.out]; exact hlt
   have hx : ∀ h1 : i < s.size, s[i]'h1 = s.data.toList.getD i 0 := by
    intro h1
    rw [List.getD_eq_getElem?_getD, List.getElem?_eq_getElem (by simpa using h1)]
    simp
    rfl
   have hsucc := k0B s.data.toList i hll
   have hmlt := Nat.mod_lt (beN (s.data.toList.take i)) HP0.out
   generalize hM : beN (s.data.toList.take (i + 1)) = M' at *
   generalize hN : beN (s.data.toList.take i) = N at *
   generalize s.data.toList.getD i 0 = x at *
   have HN := Lib.hid hN; clear hN
   have HM := Lib.hid hM; clear hM
   have HLN := Lib.hid (Nat.lt_trans hmlt HP.out)
   have hfin : (N % p * 256 + x.toNat) % p = M' % p := by rw [hsucc, Nat.add_mod, Nat.mod_mul_mod, ← Nat.add_mod]
   have hbig : N % p * 256 + x.toNat < B64 ^ 8 := by
    have h1 := HP.out
    have h2 := x.toNat_lt
    exact Nat.lt_of_lt_of_le (show N % p * 256 + x.toNat < B64 ^ 4 * 256 by omega) ap12
   have HFIN := Lib.hid hfin
   have HBIG := Lib.hid hbig
   have hprod := fun wx => e0V (N % p) 256 wx HLN.out ap12
   rw [← b0E 256 ap12] at hprod
   have HPROD := Lib.hid hprod
   have hplus := fun wx => i0t (N % p * 256) x.toNat wx
   rw [← m0a x.toNat (Nat.lt_trans x.toNat_lt ap12)] at hplus
   have HPLUS := Lib.hid hplus
   clear hll hsucc hmlt hfin hbig hprod hplus
   go_wp2_with (with_reducible refine wSk 15 ?_)
   refine a0i st 2 rfl rfl rfl Tryz.underlying68 rfl ap4 ?_
   go_wp2_with fail
   refine (HPROD.out _).mono ?_
   rintro e' w10 ⟨rfl, hf10⟩
   have st10 := st.keep hf10
   clear st hf10
   go_wp2_with (with_reducible refine wSk 7 ?_)
   refine a0a st10 rfl rfl (z := .agg #[.int .u64 0, .int .u64 0, .int .u64 0, .int .u64 0, .int .u64 0, .int .u64 0, .int .u64 0, .int .u64 0]) ap11 (cw 8 0) ap9 ?_
   intro g7 w11 st11
   clear st10
   go_wp2_with (with_reducible refine wSn ?_)
   refine a0b st11 3 rfl rfl rfl rfl rfl ap5 ap4 (a0g _ _) ?_
   intro w12 st12
   clear st11
   go_wp2_with fail
   refine wp_region_noPanic ?_
   refine c0p (fun wx => St Nob w wx [(g2, cw 4 p ++ cw 4 (B64 ^ 4 - p), 72), (g4, cw 4 0, 68), (g5, cw 4 (N % p), 68), (g7, cw 8 (N % p * 256), 169)]) 9 [(0, true), (1, true), (2, true), (3, true), (4, true), (5, true), (6, true), (7, false), (8, false)] ap11 ap11 st12.drew (fun _ _ _ _ _ h => h) ?_
   have hd12 := st12.drew
   refine d0G rfl rfl rfl rfl (cw 4 p ++ cw 4 (B64 ^ 4 - p)) (fun wx hS => St.rangeL hS 0 rfl 0 _ dZl) Tryz.underlying72 rfl ap4 ?_
   try simp only [clL]
   refine d0G rfl rfl rfl rfl (cw 8 (N % p * 256)) (fun wx hS => St.rangeL hS 3 rfl 0 _ dZl) Tryz.underlying169 rfl ap4 ?_
   try simp only [clL]
   refine a0C (v := ?_) rfl rfl (fun wx hS => ?_) ?_
   rotate_left 1
   ·(clear hS; go_simp; with_reducible rfl)
   try simp only [clL]
   refine a0C (v := ?_) rfl rfl (fun wx hS => ?_) ?_
   rotate_left 1
   ·(clear hS; go_simp; with_reducible rfl)
   try simp only [clL]
   refine a0C (v := ?_) rfl rfl (fun wx hS => ?_) ?_
   rotate_left 1
   ·(clear hS; go_simp; with_reducible rfl)
   try simp only [clL]
   refine a0C (v := ?_) rfl rfl (fun wx hS => ?_) ?_
   rotate_left 1
   ·(clear hS; go_simp; with_reducible rfl)
   try simp only [clL]
   refine a0C (v := ?_) rfl rfl (fun wx hS => ?_) ?_
   rotate_left 1
   ·(clear hS; go_simp; with_reducible rfl)
   try simp only [clL]
   refine d0W rfl rfl ?_
   go_simp
   refine (HPLUS.out _).mono ?_
   rintro e' w13 ⟨rfl, hf13⟩
   have st13 := hd12.keep hf13
   clear hd12 hf13
   refine ⟨st13, ?_⟩
   try simp only [clL]
   refine d0W rfl rfl ?_
   go_simp
   refine (k0z p (N % p * 256 + x.toNat) _ HP0.out HP.out HBIG.out).mono ?_
   rintro e' w14 ⟨rfl, hf14⟩
   have st14 := st13.keep hf14
   clear st13 hf14
   refine ⟨st14, ?_⟩
   try simp only [clL]
   refine g0R ?_
   try simp only [List.drop_succ_cons, List.drop_zero]
   refine a0b st14 2 rfl rfl rfl rfl rfl ap5 ap4 (a0g _ _) ?_
   intro w15 st15
   clear st14
   go_wp2_with fail
   refine NoPanic.normal ?_
   have hst := st15
   rw [HFIN.out] at hst
   clear st15
   go_wp2
   go_roundw
   case rel => exact ⟨i + 1, by omega, by go_num, by rw [HM.out]; exact hst.less ap14⟩
   case measure => simp [intOf]; omega
  ·have hge : ¬ ((i : Int) < (s.size : Int)) := by omega
   have hi2 : i = s.data.toList.length := by rw [HSZ.out]; omega
   rw [hi2, List.take_of_length_le (Nat.le_refl _)] at st
   clear hi2
   go_wp2_with (with_reducible refine wSk 27 ?_)
   refine a0i st 2 rfl rfl rfl Tryz.underlying68 rfl ap4 ?_
   go_wp2_with (with_reducible refine wSn ?_)
   refine a0b st 1 rfl rfl rfl rfl rfl ap5 ap4 (a0g _ _) ?_
   intro w10 st10
   clear st
   have hr := st10.at 1 rfl
   have hfr := st10.fr
   clear st10
   go_wp2_with fail
   exact bodyPost_ret (a0u rfl rfl hr Tryz.underlying68 ap4) rfl ⟨rfl, hfr⟩
end Go.Proofs.YtmebmhjppmfbbaaGreat
