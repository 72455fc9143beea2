/- ; ; ; ; ; ; ; ; ; ; ; ; ; ; ; ; ; ; ; ; ; ; . -/
import Derived.Test.YtemcankmggmgoaaGreatMgSigmaSignsProof1
import Derived.Laws.Tables
import Derived.Great.BuildSlice
import Derived.SliceStrings
import Derived.SizedLaws
import Derived.OpenShut
import Derived.ProofKit
import Derived.Shelf.Spec.BitsCarry
import Derived.Shelf.Bits.Mul64
import Derived.Test.YtemcankmggmgoaaGreatProg
import Derived.KernelRfl
set_option maxHeartbeats 16000000
set_option maxRecDepth 1000000

namespace Mvp
theorem f0o (a : UInt64) (k : Nat) : (lo8 (shr a k)).toNat = a.toNat / 2 ^ k % 256 := by
 have h : a.toNat / 2 ^ k < 18446744073709551616 := Nat.lt_of_le_of_lt (Nat.div_le_self _ _) a.toNat_lt
 simp only [lo8, shr, UInt64.toNat_toUInt8, UInt64.toNat_ofNat']
 omega
theorem f0p (a : UInt64) (k i : Nat) : (lo8 (shr a k)).toNat.testBit i = (decide (i < 8) && a.toNat.testBit (i + k)) := by
 rw [f0o, show (256 : Nat) = 2 ^ 8 from rfl, Nat.testBit_mod_two_pow, Nat.testBit_div_two_pow]
theorem j0m (x : UInt8) (i : Nat) (h : 8 ≤ i) : x.toNat.testBit i = false :=
 Nat.testBit_lt_two_pow (Nat.lt_of_lt_of_le x.toNat_lt (by have := Nat.pow_le_pow_right (show 0 < 2 by omega) h; simpa using this))
theorem s0w (a : UInt64) (x : UInt8) (m t : Nat) (hm : m < 8) (_ht : t < 8) :
  lo8 (shr (wx a (shl (wid x) (8 * m))) (8 * t)) = if t = m then bx (lo8 (shr a (8 * m))) x else lo8 (shr a (8 * t)) := by
 apply UInt8.toNat_inj.1
 apply Nat.eq_of_testBit_eq
 intro i
 rw [f0p]
 have hw : (wx a (shl (wid x) (8 * m))).toNat = a.toNat ^^^ (x.toNat * 2 ^ (8 * m)) := by
  simp only [wx, UInt64.toNat_xor]; rw [m0i x _ (by omega)]
 rw [hw, Nat.testBit_xor, Nat.testBit_mul_two_pow]
 by_cases hi : i < 8
 ·by_cases e : t = m
  ·subst e
   rw [if_pos rfl]
   simp only [bx, UInt8.toNat_xor, Nat.testBit_xor, f0p]
   simp [hi]
  ·rw [if_neg e, f0p]
   have hz : (decide (8 * m ≤ i + 8 * t) && x.toNat.testBit (i + 8 * t - 8 * m)) = false := by
    rcases Nat.lt_or_ge t m with h | h
    ·have : ¬ (8 * m ≤ i + 8 * t) := by omega
     simp [this]
    ·rw [j0m x _ (by omega)]; simp
   rw [hz]; simp [hi]
 ·have h1 : (decide (i < 8)) = false := by simp [hi]
  rw [h1]
  split
  ·rw [j0m _ i (by omega)]; rfl
  ·rw [j0m _ i (by omega)]; rfl
theorem j0n (S : List UInt64) (hS : S.length = 25) (k i : Nat) (x : UInt8) (hk : k < 200) : d0E (b0Y S k x) i = if i = k then bx (d0E S k) x else d0E S i := by
 unfold d0E b0Y
 rw [n0g _ _ _ _ (by omega)]
 by_cases hd : k / 8 = i / 8
 ·rw [if_pos hd, s0w _ _ _ _ (by omega) (by omega), ← hd]
  by_cases e : i = k
  ·rw [if_pos e, if_pos (by omega)]
  ·rw [if_neg e, if_neg (by omega)]
 ·rw [if_neg hd, if_neg (by omega)]
theorem p0Q (S S' : List UInt64) (h : S.length = 25) (h' : S'.length = 25) (hb : ∀ i, i < 200 → d0E S i = d0E S' i) : S = S' := by
 apply List.ext_getElem (by omega)
 intro j hj hj'
 have hw : ∀ (T : List UInt64) (hT : j < T.length), T.getD j 0 = T[j] := fun T hT => by simp [List.getD_eq_getElem?_getD, hT]
 rw [← hw S hj, ← hw S' hj']
 apply UInt64.toNat_inj.1
 apply Nat.eq_of_testBit_eq
 intro i
 rcases Nat.lt_or_ge i 64 with hi | hi
 ·have h1 := hb (8 * j + i / 8) (by omega)
  have h2 := congrArg (fun y : UInt8 => y.toNat.testBit (i % 8)) h1
  simp only [d0E] at h2
  rw [f0p, f0p, show (8 * j + i / 8) / 8 = j by omega, show (8 * j + i / 8) % 8 = i / 8 by omega, show i % 8 + 8 * (i / 8) = i by omega] at h2
  simpa [show i % 8 < 8 by omega] using h2
 ·have big : ∀ (y : UInt64), y.toNat.testBit i = false := fun y => Nat.testBit_lt_two_pow (Nat.lt_of_lt_of_le y.toNat_lt (by have := Nat.pow_le_pow_right (show 0 < 2 by omega) hi; simpa using this))
  rw [big, big]
theorem h0l (l : List UInt8) : ∀ (S : List UInt64) (k i : Nat), S.length = 25 → k + l.length ≤ 200 → d0E (c0s S k l) i = if k ≤ i ∧ i < k + l.length then bx (d0E S i) (l.getD (i - k) 0) else d0E S i := by
 induction l with
 | nil => intro S k i _ _; rw [if_neg (by simp)]; rfl
 | cons x l ih =>
  intro S k i hS h
  simp only [List.length_cons] at h
  rw [c0s, ih _ _ _ (by rw [d0T, hS]) (by omega), j0n S hS _ _ _ (by omega)]
  by_cases e : i = k
  ·subst e
   rw [if_neg (by omega), if_pos rfl, if_pos (by simp)]
   simp
  ·by_cases hr : k + 1 ≤ i ∧ i < k + 1 + l.length
   ·rw [if_pos hr, if_neg e, if_pos (by simp; omega), show i - k = (i - (k + 1)) + 1 by omega, List.getD_cons_succ]
   ·rw [if_neg hr, if_neg e, if_neg (by simp; omega)]
theorem p0R (S : List UInt64) (n i : Nat) (h : i < n) : (toB S n).getD i 0 = d0E S i := by
 simp [toB, List.getD_eq_getElem?_getD, List.getElem?_range h]
theorem h0m (i : Nat) : d0E a0B i = 0 := by
 have hz : a0B.getD (i / 8) 0 = 0 := by
  rcases Nat.lt_or_ge (i / 8) 25 with h | h
  ·have : ∀ j, j < 25 → a0B.getD j 0 = 0 := by decide
   exact this _ h
  ·rw [List.getD_eq_getElem?_getD, List.getElem?_eq_none (by simpa [a0B] using h)]; rfl
 unfold d0E
 rw [hz]
 apply UInt8.toNat_inj.1
 rw [f0o]; simp
theorem v0G (x : UInt8) : bx 0 x = x := by simp [bx]
theorem o0v (b : List UInt8) (hb : b.length = 200) (i : Nat) (hi : i < 200) : d0E (f0k a0B b 200) i = b.getD i 0 := by
 rw [p0P _ _ _ (by omega), List.take_of_length_le (by omega), h0l b _ _ _ (by simp [a0B]) (by omega), if_pos (by omega), h0m, v0G]
 simp
theorem n0j (S : List UInt64) (hS : S.length = 25) (l b : List UInt8) (hl : l.length ≤ 200) (hb : b.length = 200) (h : ∀ i, i < 200 → b.getD i 0 = if i < l.length then bx (d0E S i) (l.getD i 0) else d0E S i) : f0k a0B b 200 = c0s S 0 l := by
 refine p0Q _ _ (by rw [g0D]; simp [a0B]) (by rw [h0i, hS]) (fun i hi => ?_)
 rw [o0v b hb i hi, h0l l S 0 i hS (by omega), h i hi]
 simp
end Mvp
namespace Go.Mv
open Go.RowKit
variable {P : Program}
theorem p0S (p : Option Addr) (m : Nat) : c0B p 0 m = p := by
 unfold c0B
 split
 ·rfl
 ·cases p with
  | none => rfl
  | some a => simp [Addr.add]
theorem f0q (w : World) {ty : TypeId} {n : Nat} {e : TypeId} (hu : P.underlying ty = some (.array n e)) (hsz : (P.info? e).map (·.size) = some 1) (g p : Nat) (k : IntKind) (l : Nat) (h : l < n) :
  (Instr.sliceAt ty (.pointer (some ⟨g, p, none⟩)) (some (.int k (l : Int))) none none).run P w = .ok (.slice (some ⟨g, p + l, none⟩) (n - l) (n - l)) w := by
 obtain ⟨i, hi1, hi2⟩ : ∃ i, P.info? e = some i ∧ i.size = 1 := by simpa using hsz
 have hne : ¬ n = l := by omega
 have hle : l ≤ n := by omega
 simp [Instr.sliceAt, run_underlying hu, Instr.sliceBounds, a0X, hle, sizeOf, typeInfo, hi1, hi2, hne, d0q, Instr.sureAddr]
theorem d0U (w : World) {ty : TypeId} {n : Nat} {e : TypeId} (hu : P.underlying ty = some (.array n e)) (hsz : (P.info? e).map (·.size) = some 1) (g p : Nat) (k : IntKind) (h : Nat) (hh : h ≤ n) :
  (Instr.sliceAt ty (.pointer (some ⟨g, p, none⟩)) none (some (.int k (h : Int))) none).run P w = .ok (.slice (some ⟨g, p, none⟩) h n) w := by
 obtain ⟨i, hi1, hi2⟩ : ∃ i, P.info? e = some i ∧ i.size = 1 := by simpa using hsz
 simp [Instr.sliceAt, run_underlying hu, Instr.sliceBounds, a0X, hh, sizeOf, typeInfo, hi1, Addr.add, Instr.sureAddr]
theorem i0i (w : World) {ty : TypeId} {n : Nat} {e : TypeId} (hu : P.underlying ty = some (.array n e)) (hsz : (P.info? e).map (·.size) = some 1) (g p : Nat) :
  (Instr.sliceAt ty (.pointer (some ⟨g, p, none⟩)) none none none).run P w = .ok (.slice (some ⟨g, p, none⟩) n n) w := by
 obtain ⟨i, hi1, hi2⟩ : ∃ i, P.info? e = some i ∧ i.size = 1 := by simpa using hsz
 simp [Instr.sliceAt, run_underlying hu, Instr.sliceBounds, sizeOf, typeInfo, hi1, Addr.add, Instr.sureAddr]
theorem c0j (w : World) {ty e : TypeId} (hu : P.underlying ty = some (.slice e)) (hsz : (P.info? e).map (·.size) = some 1) (p : Option Addr) (n c : Nat) (k : IntKind) (h : Nat) (hh : h ≤ c) :
  (Instr.sliceAt ty (.slice p n c) none (some (.int k (h : Int))) none).run P w = .ok (.slice p h c) w := by
 obtain ⟨i, hi1, hi2⟩ : ∃ i, P.info? e = some i ∧ i.size = 1 := by simpa using hsz
 have := p0S p c
 simp [Instr.sliceAt, Instr.slice, run_underlying hu, Instr.sliceBounds, a0X, hh, sizeOf, typeInfo, hi1, Addr.add]
theorem g0l (w : World) {ty e : TypeId} (hu : P.underlying ty = some (.slice e)) (hsz : (P.info? e).map (·.size) = some 1) (p : Option Addr) (n c : Nat) (k : IntKind) (l : Nat) (hl : l ≤ n) :
  (Instr.sliceAt ty (.slice p n c) (some (.int k (l : Int))) none none).run P w = .ok (.slice (c0B p l c) (n - l) (c - l)) w := by
 obtain ⟨i, hi1, hi2⟩ : ∃ i, P.info? e = some i ∧ i.size = 1 := by simpa using hsz
 simp [Instr.sliceAt, Instr.slice, run_underlying hu, Instr.sliceBounds, a0X, hl, sizeOf, typeInfo, hi1, hi2, c0B]
theorem x0x {w : World} {ops : Array Oper} {rest : List Oper} {o : Oper} {a : Act} {Q : Exit → Act → World → Prop} {x y : Operand} {ts : Array TypeId} (hgd : o.guard = none) (ho : o.op = .call { callee := .builtin .min, args := #[x, y], argTypes := ts })
  {k k' : IntKind} {xi yi : Int} (hx : a.eval x = .int k xi) (hy : a.eval y = .int k' yi) (r : Nat) (hr : (if yi < xi then yi else xi) = (r : Int)) (h : wpList P ops Q rest (a.put o.dst (.int k (r : Int))) w) : wpList P ops Q (o :: rest) a w := by
 refine wpList_plain hgd fun K hK => ?_
 have hrun : (Builtin.min_ ts o.type #[.int k xi, .int k' yi]).run P w = .ok (.int k (r : Int)) w := by rw [run_min_int2, hr]
 unfold Oper.wp execOp
 simp only [ho, resolve, invoke, builtin, Sem.run_bind, Sem.run_pure, Result.andThen_ok, List.map_toArray, List.map_cons, List.map_nil, hx, hy, hrun]
 exact hK _ _ h
end Go.Mv
namespace Go.Proofs.YtemcankmggmgoaaGreat
open Go.RowKit Go.Mv Mvp
theorem k0J : (Tryz.prog.info? 241).map (·.zero) = some (some (.agg (bs (List.replicate 136 0)).toArray)) := by kernel_rfl
def abs (st : List UInt64 × Nat) : List Value := ws st.1 ++ [.int .i64 (st.2 : Int)]
theorem p0T (st : List UInt64 × Nat) : (abs st).length = st.1.length + 1 := by simp [abs, a0Q]
theorem h0n (st : List UInt64 × Nat) (h : st.1.length = 25) : (abs st)[25]? = some (.int .i64 (st.2 : Int)) := by
 rw [abs, List.getElem?_append_right (by rw [a0Q, h]; omega), a0Q, h]; rfl
theorem p0U (S : List UInt64) (k n : Nat) (h : S.length = 25) : (abs (S, k)).set 25 (.int .i64 (n : Int)) = abs (S, n) := by
 rw [abs, List.set_append_right _ _ (by rw [a0Q, h]; omega), a0Q, h]; rfl
theorem p0V (S : List UInt64) : b0L (a0x 24) (fun r => rcP r 8) S 24 = b0w S := by unfold b0w; rfl
theorem h0o (S : List UInt64) (k : Nat) : ws S ++ [Value.int .i64 (k : Int)] = abs (S, k) := by unfold abs; rfl
attribute [local irreducible] b0w b0L toB a0x
theorem f0a (g : Nat) (S : List UInt64) (k : Nat) (w : World) (hS : S.length = 25) (hg : Has w g (abs (S, k)) 234) :
  Calls Tryz.prog 201 #[.pointer (some ⟨g, 0, none⟩)] w fun e w' => e = .returned (.tuple #[]) ∧ Has w' g (abs (b0w S, k)) 234 ∧ Fr (One g) w w' := by
 rw [← h0o] at hg
 refine (m0h g S [.int .i64 (k : Int)] 234 w hS hg).mono ?_
 rintro e w' ⟨h1, h2, h3⟩
 rw [p0V, h0o] at h2
 exact ⟨h1, h2, h3⟩
theorem s0x (k p : Nat) (l : List UInt8) (hl : l.length = p) (h : k + p ≤ 136) : splice (bs (List.replicate 136 0)) k (bs l) = bs (List.replicate k 0 ++ l ++ List.replicate (136 - k - p) 0) := by
 unfold splice
 rw [a0G, hl, e0i, l0S, ← c0L, ← c0L, List.append_assoc]
 rw [List.take_replicate, Nat.min_eq_left (by omega), List.drop_replicate, Nat.sub_sub]
def lenV : Value → Nat
 | .slice _ n _ => n
 | _ => 0
theorem h0p (g : Nat) (st : List UInt64 × Nat) (b : Option Addr) (n c : Nat) (l : List UInt8) (w : World) (hS : st.1.length = 25) (hat : st.2 < 136) (hn : n ≤ 1000000) (hnc : n ≤ c) (hg : Has w g (abs st) 234) (hb : RdB w b n l) (hbg : Off (One g) b) :
  Calls Tryz.prog 192 #[.pointer (some ⟨g, 0, none⟩), .slice b n c] w fun e w' => e = .returned (.tuple #[]) ∧ Has w' g (abs (c0r st l)) 234 ∧ Fr (One g) w w' := by
 go_enter Tryz.func192, Tryz.ntmps192
 go_wp2_with fail
 have hll := hb.len
 go_loopw [1] (fun v wr => ∃ (sj : List UInt64 × Nat) (r : List UInt8) (m : Nat) (a : Option Addr) (cc : Nat), v = .slice a m cc ∧ m ≤ cc ∧ m ≤ 1000000 ∧ RdB wr a m r ∧ Off (One g) a ∧ Has wr g (abs sj) 234 ∧ sj.2 < 136 ∧ sj.1.length = 25 ∧ c0r sj r = c0r st l ∧ Fr (One g) w wr) (fun v _ => lenV v)
 case atStart => exact ⟨st, l, n, b, c, rfl, hnc, hn, hb, hbg, hg, hat, hS, rfl, Fr.refl _ _⟩
 case round =>
  obtain ⟨⟨S, k⟩, r, m, a, cc, rfl, hcc, hmb, hra, hoa, hgj, hkj, hSj, hfe, hf⟩ := hrel
  clear hg hb hbg hat hS hll hn hnc
  simp only at hkj hSj
  have HF := qH hfe; clear hfe
  by_cases hlt : 0 < m
  ·have hc25 : wr.cell? ⟨g, 25, none⟩ = some (.int .i64 (k : Int)) := hgj.cell (h0n (S, k) hSj)
   have hf25 : wr.frozen? ⟨g, 25, none⟩ = false := hgj.free _ (by rw [p0T]; simp only; omega)
   have HS := qH hSj; clear hSj
   go_wp2_with (with_reducible refine wSk 16 ?_)
   obtain ⟨p, hp, hp1, hp2, hp3⟩ : ∃ p : Nat, (if 136 - (k : Int) < (m : Int) then 136 - (k : Int) else (m : Int)) = (p : Int) ∧ p ≤ m ∧ k + p ≤ 136 ∧ (p = m ∨ k + p = 136) := by
    refine ⟨min m (136 - k), ?_, by omega, by omega, by omega⟩
    split <;> omega
   refine x0x rfl rfl rfl rfl p hp ?_
   clear hp
   have HP := qH hp3; clear hp3
   go_wp2_with (with_reducible refine e0X (o := ⟨_, .alloc 241, _, _, _, _⟩) ?_)
   refine d0S rfl rfl k0J (bs (List.replicate 136 0)) (by simp [Value.cells]) ?_
   intro w1 hp1' hf1 hz1
   have hg1 := hgj.keep hf1 id
   have hr1 := hra.still hf1
   have hc1 : w1.cell? ⟨g, 25, none⟩ = some (.int .i64 (k : Int)) := hf1.cell id hc25
   have hgp : g < wr.heap.size := hgj.lt
   have hfr1 := hf.same hf1
   have hpw : w.heap.size ≤ wr.heap.size := hf.size
   have hra0 : Off (One wr.heap.size) a := fun x hx (e : x.block = wr.heap.size) => by
    obtain ⟨bb, o, rfl, hat⟩ := Rd.at hra hlt
    have := Rd.lt hra hlt
    simp only [Option.some.injEq] at hx
    subst hx
    simp at e
    omega
   generalize wr.heap.size = gp at *
   clear hgj hra hc25 hf25 hf1 hz1
   have hk136 : k < 136 := hkj
   go_wp2_with fail
   have e1 : ∀ wx, (Instr.sliceAt 241 (.pointer (some ⟨gp, 0, none⟩)) (some (.int .i64 (k : Int))) none none).run Tryz.prog wx = .ok (.slice (some ⟨gp, k, none⟩) (136 - k) (136 - k)) wx := fun wx => by
    have := f0q wx Tryz.underlying241 c0e gp 0 .i64 k hk136
    rwa [Nat.zero_add] at this
   have e2 : ∀ wx, (Instr.sliceAt 22 (.slice a m cc) none (some (.int .i64 (p : Int))) none).run Tryz.prog wx = .ok (.slice a p cc) wx := fun wx => c0j wx Tryz.underlying22 c0e a m cc .i64 p (by omega)
   refine wp_region_still_tail 8 (by kernel_rfl) (by kernel_rfl) ?_
   simp only [List.take_succ_cons, List.take_zero, List.drop_succ_cons, List.drop_zero]
   repeat still_step
   refine wpStill_nil ?_
   show wpList _ _ _ _ _ w1.drew
   have hrp : Rd w1.drew a p (bs (r.take p)) := by
    have hlen := hr1.len
    refine ⟨by rw [a0G, List.length_take]; omega, hr1.2.imp (fun h0 => by omega) ?_⟩
    rintro ⟨b, o, rfl, hc⟩
    refine ⟨b, o, rfl, fun i v hv => ?_⟩
    have := hc i v
    rw [← e0i, List.getElem?_take] at hv
    split at hv
    ·exact hc i v hv
    ·cases hv
   refine p0w rfl rfl Tryz.underlying22 c0e rfl rfl (hp1'.drew) hrp (g0U _) (by rw [a0G, List.length_replicate]; omega) ?_
   intro w2 hp2' hf2 hz2
   have hmin : min p (136 - k) = p := by omega
   have hrl : (r.take p).length = p := by rw [List.length_take, hr1.len]; omega
   rw [hmin, List.take_of_length_le (by rw [a0G, hrl]; exact Nat.le_refl _), s0x k p _ hrl hp2] at hp2'
   have hg2 := hg1.drew.keep hf2 (fun (h : g = gp) => by omega)
   have hr2 : RdB w2 a m r := hr1.keep ((Fr.refl (One gp) w1).drew.trans hf2 (fun _ _ t => t)) hra0
   have hfr2 : Fr (One g) w w2 := (hfr1.drew).new hf2 hpw
   have hgp2 := hp2'.lt
   clear hp1' hg1 hr1 hc1 hfr1 hf2 hz2 hrp e1 e2 hmin
   go_wp2_with fail
   have hc2 : w2.cell? ⟨g, 25, none⟩ = some (.int .i64 (k : Int)) := hg2.cell (h0n (S, k) HS.out)
   have e3 : ∀ wx, (Instr.sliceAt 241 (.pointer (some ⟨gp, 0, none⟩)) none (some (.int .i64 ((k : Int) + (p : Int)))) none).run Tryz.prog wx = .ok (.slice (some ⟨gp, 0, none⟩) (k + p) 136) wx := fun wx =>
    d0U wx Tryz.underlying241 c0e gp 0 .i64 (k + p) hp2
   have e4 : IntKind.i64.wrap ((k : Int) + (p : Int)) = (k : Int) + (p : Int) := IntWalk.i64_in _ (by omega)
   refine wp_region_still_tail 10 (by kernel_rfl) (by kernel_rfl) ?_
   simp only [List.take_succ_cons, List.take_zero, List.drop_succ_cons, List.drop_zero]
   repeat still_step
   refine wpStill_nil ?_
   show wpList _ _ _ _ _ w2.drew
   go_wp2_with fail
   have hrd : RdB w2.drew (some ⟨gp, 0, none⟩) (k + p) (List.replicate k 0 ++ r.take p) := by
    have := Rd.ofHas hp2'.drew 0 (n := k + p) (by rw [a0G, List.length_append, List.length_append, List.length_replicate, List.length_replicate, hrl]; omega)
    rw [List.drop_zero, e0i, List.take_left' (by simp [hrl])] at this
    exact this
   refine (p0F g S [.int .i64 (k : Int)] 234 _ (k + p) _ _ _ HS.out (by omega) hg2.drew hrd (fun x hx (e : x.block = g) => by simp only [Option.some.injEq] at hx; subst hx; simp at e; omega)).mono ?_
   rintro e w3 ⟨rfl, hg3, hf3, hz3⟩
   have hxb : f0k S (List.replicate k 0 ++ r.take p) (k + p) = c0s S k (r.take p) := by
    have := i0t S k (r.take p) []
    rwa [List.append_nil, hrl] at this
   rw [hxb] at hg3
   have hr3 : RdB w3 a m r := hr2.keep ((Fr.refl (One g) w2).drew.trans hf3 (fun _ _ t => t)) hoa
   have hfr3 : Fr (One g) w w3 := hfr2.drew.trans hf3 (fun _ _ t => t)
   have hSl : (c0s S k (r.take p)).length = 25 := by rw [h0i, HS.out]
   have hfeed : c0r (c0r (S, k) (r.take p)) (r.drop p) = c0r st l := by rw [← d0h, List.take_append_drop]; exact HF.out
   clear hg2 hr2 hfr2 hp2' hgp2 hc2 e3 e4 hrd hf3 hz3 hxb
   have hc3 : w3.cell? ⟨g, 25, none⟩ = some (.int .i64 (k : Int)) := hg3.cell (h0n (_, k) hSl)
   have hf3 : w3.frozen? ⟨g, 25, none⟩ = false := hg3.free _ (by rw [List.length_append, a0Q, hSl]; simp)
   generalize hxs : c0s S k (r.take p) = S3 at *
   have HXS := qH hxs; clear hxs
   have HFE := qH hfeed; clear hfeed
   have HSL := qH hSl; clear hSl
   have HRL := qH hrl; clear hrl
   go_wp2_with (with_reducible refine wSk 47 ?_)
   refine h0d rfl rfl Tryz.underlying22 c0e rfl p m ⟨_, rfl⟩ rfl hp1 hcc ?_
   have hg4 : Has (w3.setCell ⟨g, 25, none⟩ (.int .i64 ((k + p : Nat) : Int))) g (abs (S3, k + p)) 234 := by
    have := hg3.set 25 (.int .i64 ((k + p : Nat) : Int))
    rw [show ws S3 ++ [Value.int .i64 (k : Int)] = abs (S3, k) from rfl, p0U _ _ _ HSL.out] at this
    exact this
   have hr4 : RdB (w3.setCell ⟨g, 25, none⟩ (.int .i64 ((k + p : Nat) : Int))) (c0B a p cc) (m - p) (r.drop p) := by
    have h1 := hr3.keep ((Fr.refl (One g) w3).setCell g 25 none (.int .i64 ((k + p : Nat) : Int)) (fun _ => rfl)) hoa
    have h2 := j0h h1 p m cc hp1 hcc (Nat.le_refl _)
    rw [l0S, e0i] at h2
    rwa [List.take_of_length_le (by rw [List.length_drop, h1.len]; exact Nat.le_refl _)] at h2
   have hfr4 : Fr (One g) w (w3.setCell ⟨g, 25, none⟩ (.int .i64 ((k + p : Nat) : Int))) := hfr3.setCell g 25 none _ (fun _ => rfl)
   have hoff4 := p0D hoa p cc
   have hsp : Value.int .i64 ((k : Int) + (p : Int)) = .int .i64 ((k + p : Nat) : Int) := by simp
   simp only [Int.natCast_add] at hg4 hr4 hfr4
   generalize w3.setCell ⟨g, 25, none⟩ (.int .i64 ((k : Int) + (p : Int))) = w4 at *
   clear hsp hg3 hr3 hfr3 hc3 hf3
   by_cases hfull : k + p = 136
   ·have hfb : ((k : Int) + (p : Int) == 136) = true := by rw [beq_iff_eq]; omega
    have HFULL := qH hfull; clear hfull
    have hc4 : w4.cell? ⟨g, 25, none⟩ = some (.int .i64 ((k : Int) + (p : Int))) := hg4.cell (h0n (S3, k + p) HSL.out)
    go_wp2_with fail
    refine (f0a g S3 (k + p) _ HSL.out hg4).mono ?_
    rintro e w5 ⟨rfl, hg5', hf5⟩
    have hr5 := hr4.keep hf5 hoff4
    have hfr5 : Fr (One g) w w5 := hfr4.trans hf5 (fun _ _ t => t)
    have hpl : (b0w S3).length = 25 := by rw [f0m, HSL.out]
    have hc5 : w5.cell? ⟨g, 25, none⟩ = some (.int .i64 ((k + p : Nat) : Int)) := hg5'.cell (h0n (_, k + p) hpl)
    have hf5f : w5.frozen? ⟨g, 25, none⟩ = false := hg5'.free _ (by rw [p0T]; simp only; omega)
    clear hg4 hr4 hfr4 hc4 hf5
    have HPL := qH hpl; clear hpl
    go_wp2_with fail
    go_roundw
    case rel =>
     have e : c0r (S, k) (r.take p) = (b0w S3, 0) := by rw [h0j _ _ _ (by rw [HRL.out]; exact HFULL.out) hkj, HXS.out]
     have h2 := HFE.out
     rw [e] at h2
     have hg6 := hg5'.set 25 (.int .i64 ((0 : Nat) : Int))
     rw [p0U _ _ _ HPL.out] at hg6
     exact ⟨(b0w S3, 0), r.drop p, m - p, c0B a p cc, cc - p, rfl, by omega, by omega, hr5.keep ((Fr.refl (One g) w5).setCell g 25 none _ (fun _ => rfl)) hoff4, hoff4, hg6, by simp, HPL.out, h2, hfr5.setCell g 25 none _ (fun _ => rfl)⟩
    case measure => have := HP.out; simp [lenV]; omega
   ·have hfb : ((k : Int) + (p : Int) == 136) = false := by rw [beq_eq_false_iff_ne]; omega
    have hc4 : w4.cell? ⟨g, 25, none⟩ = some (.int .i64 ((k : Int) + (p : Int))) := hg4.cell (h0n (S3, k + p) HSL.out)
    have hlt136 : k + p < 136 := by omega
    go_wp2_with fail
    go_roundw
    case rel =>
     have e : c0r (S, k) (r.take p) = (S3, k + p) := by rw [o0u _ _ _ (by rw [HRL.out]; exact hlt136), HXS.out, HRL.out]
     have h2 := HFE.out
     rw [e] at h2
     exact ⟨(S3, k + p), r.drop p, m - p, c0B a p cc, cc - p, rfl, by omega, by omega, hr4, hoff4, hg4, hlt136, HSL.out, h2, hfr4⟩
    case measure => have := HP.out; simp [lenV]; omega
  ·have hge : ¬ 0 < m := hlt
   have hm0 : m = 0 := by omega
   have hr0 : r = [] := List.eq_nil_of_length_eq_zero (by rw [hra.len, hm0])
   have HR := qH hr0; clear hr0 hm0
   go_wp2_with fail
   go_end0
   have h2 := HF.out
   rw [HR.out, g0F] at h2
   exact ⟨rfl, by rw [← h2]; exact hgj, hf⟩
end Go.Proofs.YtemcankmggmgoaaGreat
namespace Go.Mv
open Go.RowKit
variable {P : Program}
theorem n0k {w : World} {ops : Array Oper} {rest : List Oper} {o : Oper} {a : Act} {Q : Exit → Act → World → Prop} {t : TypeId} {parts : Array (Nat × Operand)} (hgd : o.guard = none) (ho : o.op = .build t parts) (cells : Array Value)
  (hb : P.built t (parts.map fun (i, x) => (i, a.eval x)).toList = some cells) (h : wpList P ops Q rest (a.put o.dst (.agg cells)) w) : wpList P ops Q (o :: rest) a w := by
 refine wpList_plain hgd fun K hK => ?_
 have hr := run_build (P := P) w t (parts.map fun (i, x) => (i, a.eval x)) cells hb
 unfold Oper.wp execOp
 simp only [ho, Sem.run_bind, Sem.run_pure, Result.andThen_ok, hr]
 exact hK _ _ h
theorem c0t {w : World} {ops : Array Oper} {rest : List Oper} {o : Oper} {a : Act} {Q : Exit → Act → World → Prop} {t : TypeId} (hgd : o.guard = none) (ho : o.op = .build t #[]) (cells : Array Value)
  (hb : P.built t [] = some cells) (h : wpList P ops Q rest (a.put o.dst (.agg cells)) w) : wpList P ops Q (o :: rest) a w :=
 n0k hgd ho cells (by simpa using hb) h
def Old (w : World) (a : Option Addr) : Prop := ∀ x, a = some x → x.block < w.heap.size
theorem Old.grow {w w' : World} {a : Option Addr} (h : Old w a) (hs : w.heap.size ≤ w'.heap.size) : Old w' a := fun x hx => Nat.lt_of_lt_of_le (h x hx) hs
theorem Old.off {w : World} {a : Option Addr} (h : Old w a) {g : Nat} (hg : w.heap.size ≤ g) : Off (One g) a := fun x hx (e : x.block = g) => by have := h x hx; omega
theorem Old.none (w : World) : Old w .none := fun _ h => by cases h
theorem Old.has {w : World} {g : Nat} {L : List Value} {T : TypeId} (h : Has w g L T) (o : Nat) : Old w (some ⟨g, o, .none⟩) := fun x hx => by cases hx; exact h.lt
theorem i0v {w : World} {ops : Array Oper} {rest : List Oper} {o : Oper} {a : Act} {Q : Exit → Act → World → Prop} {e : TypeId} {x : Operand} (hgd : o.guard = none) (ho : o.op = .box e x) {v : Value} (hx : a.eval x = v) (L : List Value) (hL : v.cells.toList = L)
  (h : ∀ w', Has w' w.heap.size L e → Fr Nob w w' → w'.heap.size = w.heap.size + 1 → wpList P ops Q rest (a.put o.dst (.pointer (some ⟨w.heap.size, 0, none⟩))) w') : wpList P ops Q (o :: rest) a w := by
 refine wpList_plain hgd fun K hK => ?_
 have hr : (Instr.box e v).run P w = .ok (.pointer (some ⟨w.heap.size, 0, none⟩)) (w.alloc (.cells v.cells e)) := by
  simp [Instr.box, newVar, newRow]
 unfold Oper.wp execOp
 simp only [ho, hx, Sem.run_bind, Sem.run_pure, Result.andThen_ok, hr]
 refine hK _ _ (h _ ?_ ((Fr.refl _ w).alloc _) (by simp))
 have := Has.new w v.cells e
 rwa [hL] at this
theorem p0W {w : World} {ops : Array Oper} {rest : List Oper} {o : Oper} {a : Act} {Q : Exit → Act → World → Prop} {t e : TypeId} {y0 y1 y2 y3 : Operand} (hgd : o.guard = none) (ho : o.op = .buildSlice t 4 #[(0, y0), (1, y1), (2, y2), (3, y3)])
  (hu : P.underlying t = some (.slice e)) (hi0 : (P.info? e).map (fun i => (i.zero, i.size, i.bytes)) = some (some (.int .u8 0), 1, 1)) (x0 x1 x2 x3 : UInt8)
  (h0 : a.eval y0 = .int .u8 (x0.toNat : Int)) (h1 : a.eval y1 = .int .u8 (x1.toNat : Int)) (h2 : a.eval y2 = .int .u8 (x2.toNat : Int)) (h3 : a.eval y3 = .int .u8 (x3.toNat : Int))
  (h : ∀ w', Has w' w.heap.size (bs [x0, x1, x2, x3]) e → Fr Nob w w' → w'.heap.size = w.heap.size + 1 → wpList P ops Q rest (a.put o.dst (.slice (some ⟨w.heap.size, 0, none⟩) 4 4)) w') : wpList P ops Q (o :: rest) a w := by
 obtain ⟨i, hi, hz⟩ : ∃ i, P.info? e = some i ∧ (i.zero, i.size, i.bytes) = (some (.int .u8 0), 1, 1) := by simpa using hi0
 simp only [Prod.mk.injEq] at hz
 obtain ⟨hz, hsz, hby⟩ := hz
 have hp : ((#[(0, y0), (1, y1), (2, y2), (3, y3)] : Array (Nat × Operand)).map fun (i, x) => (i, a.eval x)).toList = [(0, .int .u8 (x0.toNat : Int)), (1, .int .u8 (x1.toNat : Int)), (2, .int .u8 (x2.toNat : Int)), (3, .int .u8 (x3.toNat : Int))] := by simp [h0, h1, h2, h3]
 have hf : Instr.fill (fun j => some (j * i.size, i.size)) ((Array.range (4 * i.size)).map ((Value.int .u8 0).cells[· % (Value.int .u8 0).cells.size]!)) ((#[(0, y0), (1, y1), (2, y2), (3, y3)] : Array (Nat × Operand)).map fun (i, x) => (i, a.eval x)).toList = some (bs [x0, x1, x2, x3]).toArray := by
  rw [hp, hsz]
  exact Great.fill_flat (bs [x0, x1, x2, x3]) _ (fun v hv => by simp [bs] at hv; rcases hv with rfl | rfl | rfl | rfl <;> rfl) (by simp [bs])
 exact wpList_buildSlice hgd t e 4 _ ho _ i _ hu hi hz (by rw [hsz]; decide) (by rw [hsz]; decide) hf (h _ (Has.new w (bs [x0, x1, x2, x3]).toArray e) ((Fr.refl _ w).alloc _) (by simp))
theorem u0C {w : World} {ops : Array Oper} {rest : List Oper} {o : Oper} {a : Act} {Q : Exit → Act → World → Prop} {t e : TypeId} {y : Operand} (hgd : o.guard = none) (ho : o.op = .buildSlice t 1 #[(0, y)])
  (hu : P.underlying t = some (.slice e)) (hi0 : (P.info? e).map (fun i => (i.zero, i.size, i.bytes)) = some (some (.int .u8 0), 1, 1)) (x0 : UInt8)
  (hy : a.eval y = .int .u8 (x0.toNat : Int))
  (h : ∀ w', Has w' w.heap.size (bs [x0]) e → Fr Nob w w' → w'.heap.size = w.heap.size + 1 → wpList P ops Q rest (a.put o.dst (.slice (some ⟨w.heap.size, 0, none⟩) 1 1)) w') : wpList P ops Q (o :: rest) a w := by
 obtain ⟨i, hi, hz⟩ : ∃ i, P.info? e = some i ∧ (i.zero, i.size, i.bytes) = (some (.int .u8 0), 1, 1) := by simpa using hi0
 simp only [Prod.mk.injEq] at hz
 obtain ⟨hz, hsz, hby⟩ := hz
 have hp : ((#[(0, y)] : Array (Nat × Operand)).map fun (i, x) => (i, a.eval x)).toList = [(0, .int .u8 (x0.toNat : Int))] := by simp [hy]
 have hf : Instr.fill (fun j => some (j * i.size, i.size)) ((Array.range (1 * i.size)).map ((Value.int .u8 0).cells[· % (Value.int .u8 0).cells.size]!)) ((#[(0, y)] : Array (Nat × Operand)).map fun (i, x) => (i, a.eval x)).toList = some (bs [x0]).toArray := by
  rw [hp, hsz]
  exact Great.fill_flat (bs [x0]) _ (fun v hv => by simp [bs] at hv; subst hv; rfl) (by simp [bs])
 exact wpList_buildSlice hgd t e 1 _ ho _ i _ hu hi hz (by rw [hsz]; decide) (by rw [hsz]; decide) hf (h _ (Has.new w (bs [x0]).toArray e) ((Fr.refl _ w).alloc _) (by simp))
theorem Own.cells {w : World} {base : Nat} {T : TypeId} {v : Value} {n : Nat} {L : List Value} (h : Own w base T 1 v n L) (hn : 0 < n) :
  ∃ g o cap, v = .slice (some ⟨g, o, none⟩) n cap ∧ base ≤ g ∧ g < w.heap.size ∧ n ≤ cap ∧ cap ≤ maxLen ∧ (∀ i x, L[i]? = some x → w.cell? ⟨g, o + i, none⟩ = some x) ∧ (∀ i, i < n → w.frozen? ⟨g, o + i, none⟩ = false) ∧
   (∀ i x, i < n → Own (w.setCell ⟨g, o + i, none⟩ x) base T 1 v n (L.set i x)) := by
 obtain ⟨hl, h | ⟨g, o, cap, B, rfl, hb, hg, h1, h2, h3, h4⟩⟩ := h
 ·obtain ⟨_, h0⟩ := h; omega
 ·rw [Nat.mul_one] at h3 h4 hl
  refine ⟨g, o, cap, rfl, hb, hg.lt, h1, h2, ?_, ?_, ?_⟩
  ·intro i x hx
   rw [← h4, List.getElem?_take] at hx
   split at hx
   ·rw [List.getElem?_drop] at hx; exact hg.cell hx
   ·cases hx
  ·intro i hi; exact hg.free _ (by omega)
  ·intro i x hi
   refine ⟨by rw [List.length_set, hl, Nat.mul_one], .inr ⟨g, o, cap, B.set (o + i) x, rfl, hb, hg.set (o + i) x, h1, h2, by rw [List.length_set]; omega, ?_⟩⟩
   rw [Nat.mul_one, ← h4]
   apply List.ext_getElem?
   intro j
   simp only [List.getElem?_take, List.getElem?_drop, List.getElem?_set]
   by_cases hj : j < n
   ·rw [if_pos hj]
    by_cases e : i = j
    ·subst e
     rw [if_pos rfl, if_pos rfl, if_pos (by omega), if_pos (by rw [List.length_take, List.length_drop]; omega)]
    ·rw [if_neg (by omega), if_neg e, if_pos hj]
   ·rw [if_neg hj]
    by_cases e : i = j
    ·omega
    ·rw [if_neg e, if_neg hj]
end Go.Mv
namespace Mvp
theorem p0X (l : List UInt8) : ∀ (S : List UInt64) (k : Nat), k < 136 → (c0r (S, k) l).2 = (k + l.length) % 136 := by
 induction l with
 | nil => intro S k h; simp [g0F]; omega
 | cons x l ih =>
  intro S k h
  rw [d0F, k0G]
  split
  ·rename_i h1
   simp only at h1
   rw [ih _ _ (by omega), List.length_cons]; omega
  ·rename_i h1
   simp only at h1
   rw [ih _ _ (by omega), List.length_cons]
   congr 1; omega
def d0G (l : List UInt8) (e : UInt8) : List UInt8 := l ++ n0h (l.length % 136) e
theorem i0w (l : List UInt8) (e : UInt8) : (d0G l e).length = l.length + (136 - l.length % 136) := by
 rw [d0G, List.length_append, n0i _ _ (Nat.mod_lt _ (by decide))]
theorem o0w (l : List UInt8) (e : UInt8) : (d0G l e).length % 136 = 0 := by
 rw [i0w]; omega
theorem p0Y (l : List UInt8) (e : UInt8) (m : Nat) (hm : m = 135 - l.length % 136) : (l ++ e :: List.replicate m 0).set (l.length + m) (bx ((l ++ e :: List.replicate m 0).getD (l.length + m) 0) 0x80) = d0G l e := by
 subst hm
 have h2 : (l ++ e :: List.replicate (135 - l.length % 136) 0).getD (l.length + (135 - l.length % 136)) 0 = (e :: List.replicate (135 - l.length % 136) 0).getD (135 - l.length % 136) 0 := by
  rw [List.getD_eq_getElem?_getD, List.getD_eq_getElem?_getD, List.getElem?_append_right (by omega), Nat.add_sub_cancel_left]
 rw [h2, List.set_append_right _ _ (by omega), Nat.add_sub_cancel_left]
 rfl
theorem k0K (l : List UInt8) (e : UInt8) : i0h (c0r (a0B, 0) l) e = (c0r (a0B, 0) (d0G l e)).1 := by
 rw [i0h, d0G, d0h, p0X _ _ _ (by decide), Nat.zero_add]
def d0H (p : List UInt8) (i : Nat) : List UInt64 := (c0r (a0B, 0) (p.take i)).1
theorem o0x (p : List UInt8) (i : Nat) : (d0H p i).length = 25 := by rw [d0H, f0n]; rfl
theorem m0k (p : List UInt8) : d0H p 0 = a0B := by rw [d0H, List.take_zero, g0F]
theorem o0y (l : List UInt8) (e : UInt8) (i : Nat) (h : (d0G l e).length ≤ i) : d0H (d0G l e) i = i0h (c0r (a0B, 0) l) e := by
 rw [d0H, List.take_of_length_le h, k0K]
theorem m0l (p : List UInt8) (i : Nat) (hi : i % 136 = 0) (h : i + 136 ≤ p.length) : d0H p (i + 136) = b0w (c0s (d0H p i) 0 ((p.drop i).take 136)) := by
 have hl : (p.take i).length = i := by rw [List.length_take]; omega
 have h2 : (c0r (a0B, 0) (p.take i)).2 = 0 := by rw [p0X _ _ _ (by decide), hl]; omega
 have hm : ((p.drop i).take 136).length = 136 := by rw [List.length_take, List.length_drop]; omega
 have h3 : c0r (a0B, 0) (p.take i) = (d0H p i, 0) := Prod.ext rfl h2
 rw [d0H, List.take_add, d0h, h3, h0j _ _ _ (by rw [hm]) (by decide)]
def addB (b p : List UInt8) : Nat → List UInt8
 | 0 => b
 | j + 1 => (addB b p j).set j (bx ((addB b p j).getD j 0) (p.getD j 0))
theorem k0L (b p : List UInt8) : addB b p 0 = b := rfl
theorem h0q (b p : List UInt8) (j : Nat) : addB b p (j + 1) = (addB b p j).set j (bx ((addB b p j).getD j 0) (p.getD j 0)) := rfl
theorem g0G (b p : List UInt8) (j : Nat) : (addB b p j).length = b.length := by
 induction j with
 | zero => rfl
 | succ j ih => rw [h0q, List.length_set, ih]
theorem s0y (b p : List UInt8) (j : Nat) (hj : j ≤ b.length) (i : Nat) (hi : i < b.length) : (addB b p j).getD i 0 = if i < j then bx (b.getD i 0) (p.getD i 0) else b.getD i 0 := by
 induction j generalizing i with
 | zero => simp [k0L]
 | succ j ih =>
  rw [h0q, List.getD_eq_getElem?_getD, List.getElem?_set]
  by_cases e : j = i
  ·subst e
   rw [if_pos rfl, if_pos (by rw [g0G]; omega), if_pos (by omega), ih (by omega) j (by omega), if_neg (by omega)]
   rfl
  ·rw [if_neg e, ← List.getD_eq_getElem?_getD, ih (by omega) i hi]
   by_cases h1 : i < j
   ·rw [if_pos h1, if_pos (by omega)]
   ·rw [if_neg h1, if_neg (by omega)]
theorem s0z (S : List UInt64) (hS : S.length = 25) (p : List UInt8) (hp : 136 ≤ p.length) : c0q (addB (toB S 200) p 136) = toB (b0w (c0s S 0 (p.take 136))) 200 := by
 have hl : (p.take 136).length = 136 := by rw [List.length_take]; omega
 unfold c0q
 rw [n0j S hS (p.take 136) _ (by omega) (by rw [g0G, b0e]) (fun i hi => ?_)]
 rw [s0y _ _ _ (by rw [b0e]; omega) i (by rw [b0e]; omega), p0R _ _ _ hi, hl]
 by_cases h : i < 136
 ·rw [if_pos h, if_pos h]
  congr 1
  simp only [List.getD_eq_getElem?_getD, List.getElem?_take, if_pos h]
 ·rw [if_neg h, if_neg h]
theorem s0A (S : List UInt64) (hS : S.length = 25) : c0q (toB S 200) = toB (b0w S) 200 := by
 unfold c0q
 rw [n0j S hS [] _ (by simp) (by rw [b0e]) (fun i hi => by rw [p0R _ _ _ hi]; simp)]
 rfl
theorem s0B (S : List UInt64) : (toB S 200).take 136 = toB S 136 := by
 unfold toB
 rw [← List.map_take, List.take_range, Nat.min_eq_left (by omega)]
theorem p0Z : toB a0B 200 = List.replicate 200 0 := by
 have key : ∀ n, toB a0B n = List.replicate n 0 := by
  intro n
  refine List.eq_replicate_iff.2 ⟨b0e _ _, fun x hx => ?_⟩
  unfold toB at hx
  obtain ⟨i, _, rfl⟩ := List.mem_map.1 hx
  exact h0m i
 exact key 200
end Mvp
namespace Go.Proofs.YtemcankmggmgoaaGreat
section
open Go.RowKit Go.Mv Mvp
attribute [local irreducible] b0w b0L toB a0x a0K b0x c0q
theorem o0z (l : List UInt8) (e : UInt8) (m : Nat) : bs (l ++ e :: List.replicate m 0) ++ bs [0] = bs (l ++ e :: List.replicate (m + 1) 0) := by
 rw [← c0L, List.replicate_succ']; simp
theorem Rd.take {w : World} {a : Option Addr} {n : Nat} {vs : List Value} (h : Rd w a n vs) (p : Nat) (hp : p ≤ n) : Rd w a p (vs.take p) := by
 refine ⟨by rw [List.length_take, h.len]; omega, h.2.imp (fun h0 => by omega) ?_⟩
 rintro ⟨b, o, rfl, hc⟩
 refine ⟨b, o, rfl, fun i v hv => ?_⟩
 rw [List.getElem?_take] at hv
 split at hv
 ·exact hc i v hv
 ·cases hv
theorem e0A (l m : List UInt8) : mkS l ++ mkS m = mkS (l ++ m) := by
 apply ByteArray.ext
 simp [mkS]
theorem m0m (l : List UInt8) (n : Nat) : (mkS l).extract 0 n = mkS (l.take n) := by
 apply ByteArray.ext
 simp [mkS]
theorem j0o (S : List UInt64) : a0K S 0 = [] := by unfold a0K; rfl
theorem m0n (S : List UInt64) : b0x S 0 = S := by unfold b0x; rfl
def u0D : Value → Nat
 | .string s => s.size
 | _ => 0
theorem o0A (n j : Nat) : 136 * j < n ↔ j < e0m n := by unfold e0m; omega
theorem h0r (s : ByteArray) (e : UInt8) (n : Nat) (w : World) (hs : s.size ≤ 1000000) (hn : n ≤ 20000) :
  Calls Tryz.prog 176 #[.string s, .int .u8 (e.toNat : Int), .int .i64 (n : Int)] w fun r w' => r = .returned (.string (mkS (a0O s.data.toList e n))) ∧ Fr Nob w w' := by
 obtain ⟨l, rfl⟩ : ∃ l, s = mkS l := ⟨_, (d0r s).symm⟩
 rw [a0H] at hs
 rw [a0N]
 go_enter Tryz.func176, Tryz.ntmps176
 go_wp2_with (with_reducible refine wSk 13 ?_)
 refine d0s rfl rfl Tryz.underlying9 Tryz.underlying22 Tryz.underlying5 rfl (by rw [a0H]; unfold maxLen; omega) w.heap.size (Nat.le_refl _) ?_
 intro cap w1 hown1 hf1 hz1
 rw [a0N, a0H] at hown1
 rw [a0H]
 go_wp2_with (with_reducible refine wSk 15 ?_)
 refine u0C rfl rfl Tryz.underlying22 b0I e rfl ?_
 intro w2 hg2 hf2 hz2
 have hown2 := hown1.still hf2
 have hfr2 := hf1.then hf2
 generalize w1.heap.size = g1 at *
 clear hown1 hf1 hf2 hz2 hz1
 go_wp2_with (with_reducible refine wSk 16 ?_)
 refine e0j rfl rfl Tryz.underlying22 b0I rfl (by decide) hown2 rfl rfl (Rd.whole hg2) (g0U _) (by simp [maxLen]; omega) (by simp; omega) hfr2.size ?_
 intro v3 w3 hown3 hf3 hb3
 have hfr3 : Fr Nob w w3 := hown2.fr hfr2 (Nat.le_refl _) hf3
 clear hown2 hfr2 hg2 hf3 hb3
 go_wp2_with fail
 go_loopw [7] (fun v wr => ∃ m, m ≤ 135 - l.length % 136 ∧ Own wr w.heap.size 5 1 v (l.length + 1 + m) (bs (l ++ e :: List.replicate m 0)) ∧ Fr Nob w wr) (fun v _ => l.length + 136 - lenV v)
 case atStart => exact ⟨0, Nat.zero_le _, by simpa [bs] using hown3, hfr3⟩
 case round =>
  obtain ⟨m, hm, hown, hf⟩ := hrel
  clear hown3 hfr3
  obtain ⟨a, c, rfl, hc, hrd, hna⟩ := hown.form
  have hmod := Nat.mod_lt l.length (show 0 < 136 by decide)
  by_cases hlt : (l.length + 1 + m) % 136 = 0
  ·have hb : (((l.length : Int) + 1 + (m : Int)) % 136 != 0) = false := by simp; omega
   have hmk : m = 135 - l.length % 136 := by omega
   have HMK := qH hmk; clear hmk
   have HMOD := qH hmod; clear hmod
   have HLT := qH hlt; clear hlt
   obtain ⟨gp, op, cp, hv, hgp, hgp2, hcp, hcm, hget, hfree, hput⟩ := hown.cells (by omega)
   simp only [Value.slice.injEq] at hv
   obtain ⟨rfl, -, rfl⟩ := hv
   have hlen : (l ++ e :: List.replicate m 0).length = l.length + 1 + m := by simp; omega
   have hcl : wr.cell? ⟨gp, op + (l.length + m), none⟩ = some (.int .u8 (((l ++ e :: List.replicate m 0).getD (l.length + m) 0).toNat : Int)) := hget _ _ (m0X _ _ (by omega))
   have hfl := hfree (l.length + m) (by omega)
   have hput2 := hput (l.length + m)
   clear hget hfree hput hrd hna
   generalize hy : (l ++ e :: List.replicate m 0).getD (l.length + m) 0 = y at hcl
   have HY := qH hy; clear hy
   have hbx : bits BinOp.xor IntKind.u8 (y.toNat : Int) 128 = ((bx y 128).toNat : Int) := j0c y 128
   go_wp2_with (with_reducible refine wSk 36 ?_)
   have hown4 := hput2 (.int .u8 ((bx y 0x80).toNat : Int)) (by omega)
   rw [f0d, ← HY.out, p0Y l e m HMK.out] at hown4
   rw [HY.out] at hown4
   have hfr4 : Fr Nob w (wr.setCell ⟨gp, op + (l.length + m), none⟩ (.int .u8 ((bx y 128).toNat : Int))) := hf.setCell gp _ none _ (fun h => by omega)
   have hgp4 : gp < (wr.setCell ⟨gp, op + (l.length + m), none⟩ (.int .u8 ((bx y 128).toNat : Int))).heap.size := by simpa using hgp2
   generalize wr.setCell ⟨gp, op + (l.length + m), none⟩ (.int .u8 ((bx y 128).toNat : Int)) = w4 at *
   have hpl := i0w l e
   have hpm := o0w l e
   have hpe := o0y l e
   have hN : l.length + 1 + m = (d0G l e).length := by rw [hpl, HMK.out]; have := HMOD.out; omega
   have hpb : (d0G l e).length ≤ 1000136 := by rw [hpl]; omega
   rw [hN] at hown4 ⊢
   have hrd4 : RdB w4 (some ⟨gp, op, none⟩) (d0G l e).length (d0G l e) := by
    obtain ⟨a, cc, hv, _, hr, _⟩ := hown4.form
    cases hv
    rw [Nat.mul_one] at hr; exact hr
   clear hown hown4 hf hgp2 hput2 hcl hfl hbx HY hlen hpl hb HLT hc hcm hcp HMK
   generalize hP : d0G l e = P at *
   have HP := qH hP; clear hP
   refine c0o rfl rfl Tryz.underlying22 b0I rfl rfl rfl 200 200 (by simp) (by simp) (by omega) (by omega) (by unfold maxLen; omega) ?_
   intro w5 hg5 hf5 hz5
   have hs5 : Own w5 w4.heap.size 5 1 (.slice (some ⟨w4.heap.size, 0, none⟩) 200 200) 200 (bs (toB a0B 200)) := by
    rw [p0Z]
    have := Own.made hg5 w4.heap.size (Nat.le_refl _) 1 200 200 (Nat.le_refl _) (by unfold maxLen; omega) (by simp)
    rw [List.take_of_length_le (by simp)] at this
    exact this
   have hrd5 := hrd4.still hf5
   have hfr5 := hfr4.then hf5
   have hb5 : w4.heap.size ≤ w5.heap.size := hf5.size
   have hwb : w.heap.size ≤ w4.heap.size := hfr4.size
   generalize w4.heap.size = b5 at *
   clear hg5 hf5 hz5 hrd4 hfr4
   go_wp2_with fail
   go_loopw [9, 8] (fun i v wr => ∃ I : Nat, I ≤ P.length ∧ I % 136 = 0 ∧ i = .int .i64 (I : Int) ∧ Own wr b5 5 1 v 200 (bs (toB (d0H P I) 200)) ∧ RdB wr (some ⟨gp, op, none⟩) P.length P ∧ b5 ≤ wr.heap.size ∧ Fr Nob w wr) (fun i _ _ => (P.length - intOf i).toNat)
   case atStart => exact ⟨0, by omega, rfl, rfl, by rw [m0k]; exact hs5, hrd5, hb5, hfr5⟩
   case round =>
    obtain ⟨I, hk, hI, rfl, hst, hrdk, hbk, hfk⟩ := hrel
    clear hs5 hrd5 hb5 hfr5
    have hSl := o0x P I
    by_cases hlt : I < P.length
    ·have hltI : (I : Int) < (P.length : Int) := by omega
     have hk2 : I + 136 ≤ P.length := by omega
     have hsucc := m0l P I hI hk2
     generalize hS0 : d0H P I = S at *
     have HS0 := qH hS0; clear hS0
     have HI := qH hI; clear hI
     have HSU := qH hsucc; clear hsucc
     have HSL := qH hSl; clear hSl
     have HPE := qH hpe; clear hpe
     have HPM := qH hpm; clear hpm
     obtain ⟨gs, os, cs, rfl, hgs, hgs2, hcs, hcm, -, -, -⟩ := hst.cells (by omega)
     obtain ⟨wo, rfl⟩ : ∃ wo : World, wo = wr := ⟨_, rfl⟩
     go_wp2_with fail
     go_loopw [10] (fun j wr => ∃ jn : Nat, jn ≤ 136 ∧ j = .int .i64 (jn : Int) ∧ Own wr b5 5 1 (.slice (some ⟨gs, os, none⟩) 200 cs) 200 (bs (addB (toB S 200) (P.drop I) jn)) ∧ RdB wr (some ⟨gp, op, none⟩) P.length P ∧ b5 ≤ wr.heap.size ∧ Fr Nob w wr) (fun j _ => (136 - intOf j).toNat)
     case atStart => exact ⟨0, by omega, rfl, by rw [k0L]; exact hst, hrdk, hbk, hfk⟩
     case round =>
      obtain ⟨j, hj, rfl, hsj, hrdj, hbj, hfj⟩ := hrel
      clear hst hrdk hbk hfk
      by_cases hjlt : j < 136
      ·have hjI : (j : Int) < 136 := by omega
       obtain ⟨gs', os', cs', hv, -, hgs3, -, -, hget, hfree, hput⟩ := hsj.cells (by omega)
       simp only [Value.slice.injEq, Option.some.injEq, Addr.mk.injEq] at hv
       obtain ⟨⟨rfl, rfl, -⟩, -, rfl⟩ := hv
       have hc1 : wr.cell? ⟨gs, os + j, none⟩ = some (.int .u8 (((addB (toB S 200) (P.drop I) j).getD j 0).toNat : Int)) := hget _ _ (m0X _ _ (by rw [g0G, b0e]; omega))
       have hf1 := hfree j (by omega)
       have hput1 := hput j
       have hc2 : wr.cell? ⟨gp, op + (I + j), none⟩ = some (.int .u8 ((P.getD (I + j) 0).toNat : Int)) := by
        obtain ⟨b, o, he, hh⟩ := hrdj.at (by omega)
        simp only [Option.some.injEq, Addr.mk.injEq] at he
        obtain ⟨rfl, rfl, -⟩ := he
        exact hh _ (by omega)
       clear hget hfree hput
       generalize hx : (addB (toB S 200) (P.drop I) j).getD j 0 = x at hc1
       generalize hy : P.getD (I + j) 0 = y at hc2
       have HX := qH hx; clear hx
       have HY := qH hy; clear hy
       go_wp2_with fail
       try go_region
       all_goals go_wp2
       go_roundw
       case rel =>
        have e : (P.drop I).getD j 0 = y := by
         rw [← HY.out]; simp [List.getD_eq_getElem?_getD, List.getElem?_drop]
        have h1 := hput1 (.int .u8 ((bx x y).toNat : Int)) (by omega)
        rw [f0d, ← HX.out, ← e, ← h0q] at h1
        rw [HX.out, e] at h1
        refine ⟨j + 1, by omega, by go_num, h1, ?_, ?_, ?_⟩
        ·exact hrdj.keep ((Fr.refl (One gs) wr).setCell gs _ none _ (fun _ => rfl)).drew (fun a ha (hh : a.block = gs) => by simp only [Option.some.injEq] at ha; subst ha; simp at hh; omega)
        ·simpa using hbj
        ·exact (hfj.setCell gs _ none _ (fun h => by omega)).drew
       case measure => simp [intOf]; omega
      ·have hge : ¬ ((j : Int) < 136) := by omega
       have hj136 : j = 136 := by omega
       have HJ := qH hj136; clear hj136
       go_wp2_with (with_reducible refine wSk 62 ?_)
       have hrs : RdB wr (some ⟨gs, os, none⟩) 200 (addB (toB S 200) (P.drop I) 136) := by
        obtain ⟨a, cc, hv, _, hr, _⟩ := hsj.form
        cases hv
        rw [HJ.out, Nat.mul_one] at hr; exact hr
       refine c0M rfl rfl Tryz.underlying22 Tryz.underlying5 Tryz.underlying9 rfl hrs ?_
       go_wp2_with fail
       refine (g0j (mkS (addB (toB S 200) (P.drop I) 136)) _ (by rw [a0H, g0G, b0e])).mono ?_
       rintro e' w6 ⟨rfl, hf6⟩
       rw [a0N, s0z S HSL.out _ (by rw [List.length_drop]; omega), ← HSU.out]
       have hb6 : b5 ≤ w6.heap.size := Nat.le_trans hbj hf6.size
       go_wp2_with (with_reducible refine wSk 64 ?_)
       refine d0s rfl rfl Tryz.underlying9 Tryz.underlying22 Tryz.underlying5 rfl (by rw [a0H, b0e]; unfold maxLen; omega) b5 hb6 ?_
       intro c7 w7 hs7 hf7 hz7
       rw [a0N, a0H, b0e] at hs7
       rw [a0H, b0e]
       have hf67 := hf6.then hf7
       have hrd7 := hrdj.still hf67
       have hfr7 := hfj.then hf67
       have hb7 : b5 ≤ w7.heap.size := Nat.le_trans hb6 hf7.size
       generalize w6.heap.size = g6 at *
       clear hsj hrdj hfj hrs hf6 hf7 hz7 hf67
       go_wp2_with fail
       go_roundw
       case rel => exact ⟨I + 136, by omega, by have := HI.out; omega, by go_num, hs7, hrd7, hb7, hfr7⟩
       case measure => simp [intOf]; omega
    ·have hge : ¬ ((I : Int) < (P.length : Int)) := by omega
     have hend : d0H P I = i0h (c0r (a0B, 0) l) e := hpe I (by omega)
     rw [hend] at hst hSl
     clear hpe hend
     generalize hE : i0h (c0r (a0B, 0) l) e = S0 at *
     have HE := qH hE; clear hE
     have HPM := qH hpm; clear hpm
     clear hrdk
     go_wp2_with fail
     go_loopw [11, 8] (fun o v wr => ∃ j : Nat, j ≤ e0m n ∧ o = .string (mkS (a0K S0 j)) ∧ Own wr b5 5 1 v 200 (bs (toB (b0x S0 j) 200)) ∧ b5 ≤ wr.heap.size ∧ Fr Nob w wr) (fun o _ _ => n - u0D o)
     case atStart => exact ⟨0, Nat.zero_le _, by rw [j0o]; rfl, by rw [m0n]; exact hst, hbk, hfk⟩
     case round =>
      obtain ⟨j, hj, rfl, hsj, hbj, hfj⟩ := hrel
      clear hst hbk hfk
      have hpi := o0A n j
      have hql : (mkS (a0K S0 j)).size = 136 * j := by rw [a0H, e0Z]
      generalize hq : mkS (a0K S0 j) = q at *
      have HQ := qH hq; clear hq
      by_cases hlt : 136 * j < n
      ·have hltI : (q.size : Int) < (n : Int) := by omega
       have hj1 := hpi.1 hlt
       have HPI := qH hpi; clear hpi
       have HQL := qH hql; clear hql
       have HLT := qH hlt; clear hlt
       have HSL := qH hSl; clear hSl
       obtain ⟨a, cc, rfl, hcc, hrs, hna⟩ := hsj.form
       have e1 : ∀ wx, (Instr.sliceAt 22 (.slice a 200 cc) none (some (.int .i64 136)) none).run Tryz.prog wx = .ok (.slice a 136 cc) wx := fun wx => c0j wx Tryz.underlying22 c0e a 200 cc .i64 136 (by omega)
       go_wp2_with (with_reducible refine wSk 72 ?_)
       have hrs2 : RdB wr a 136 (toB (b0x S0 j) 136) := by
        have h2 := hrs
        rw [Nat.mul_one] at h2
        have h3 := Rd.take h2 136 (by omega)
        rwa [e0i, s0B] at h3
       have hrs3 : RdB wr a 200 (toB (b0x S0 j) 200) := by
        rw [Nat.mul_one] at hrs; exact hrs
       clear hrs hna
       have hcat : ¬ 9223372036854775807 < q.size + (mkS (toB (b0x S0 j) 136)).size := by have := HLT.out; rw [a0H, b0e, HQL.out]; omega
       refine c0M rfl rfl Tryz.underlying22 Tryz.underlying5 Tryz.underlying9 rfl hrs2 ?_
       go_wp2_with (with_reducible refine wSk 75 ?_)
       have hqq : q ++ mkS (toB (b0x S0 j) 136) = mkS (a0K S0 (j + 1)) := by rw [← HQ.out, e0A, ← g0k]
       rw [hqq]
       refine c0M rfl rfl Tryz.underlying22 Tryz.underlying5 Tryz.underlying9 rfl hrs3 ?_
       clear hcat
       go_wp2_with fail
       refine (g0j (mkS (toB (b0x S0 j) 200)) _ (by rw [a0H, b0e])).mono ?_
       rintro e' w6 ⟨rfl, hf6⟩
       rw [a0N, s0A _ (by rw [k0I, HSL.out]), ← i0u]
       have hb6 : b5 ≤ w6.heap.size := Nat.le_trans hbj hf6.size
       go_wp2_with (with_reducible refine wSk 77 ?_)
       refine d0s rfl rfl Tryz.underlying9 Tryz.underlying22 Tryz.underlying5 rfl (by rw [a0H, b0e]; unfold maxLen; omega) b5 hb6 ?_
       intro c7 w7 hs7 hf7 hz7
       rw [a0N, a0H, b0e] at hs7
       rw [a0H, b0e]
       have hf67 := hf6.then hf7
       have hfr7 := hfj.then hf67
       have hb7 : b5 ≤ w7.heap.size := Nat.le_trans hb6 hf7.size
       generalize w6.heap.size = g6 at *
       clear hsj hfj hrs2 hrs3 hf6 hf7 hz7 hf67
       go_wp2_with fail
       go_roundw
       case rel => exact ⟨j + 1, hj1, rfl, hs7, hb7, hfr7⟩
       case measure =>
        have h1 := HLT.out; have h2 := HQL.out
        have h3 : (mkS (a0K S0 (j + 1))).size = 136 * (j + 1) := by rw [a0H, e0Z]
        simp [u0D, h3]; omega
      ·have hge : ¬ ((q.size : Int) < (n : Int)) := by omega
       have hjp : j = e0m n := by have := hpi.2; omega
       have HJP := qH hjp; clear hjp
       go_wp2_with fail
       go_ret
       refine ⟨?_, hfj⟩
       rw [← HQ.out, HJP.out, m0m]
       unfold a0O v0F
       rw [HE.out]
       rfl
  ·have hb : (((l.length : Int) + 1 + (m : Int)) % 136 != 0) = true := by simp; omega
   go_wp2_with (with_reducible refine wSk 22 ?_)
   refine u0C rfl rfl Tryz.underlying22 b0I 0 rfl ?_
   intro w2 hg2 hf2 hz2
   have hown2 := hown.still hf2
   have hfr2 := hf.then hf2
   generalize wr.heap.size = g2 at *
   clear hown hf hf2 hz2 hrd hna
   have HMOD := qH hmod; clear hmod
   have HLT := qH hlt; clear hlt
   go_wp2_with (with_reducible refine wSk 23 ?_)
   refine e0j rfl rfl Tryz.underlying22 b0I rfl (by decide) hown2 rfl rfl (Rd.whole hg2) (g0U _) (by simp [maxLen]; omega) (by simp; omega) hfr2.size ?_
   intro v3 w3 hown3 hf3 hb3
   have hfr3 : Fr Nob w w3 := hown2.fr hfr2 (Nat.le_refl _) hf3
   rw [o0z] at hown3
   clear hown2 hfr2 hg2 hf3 hb3
   go_wp2_with fail
   go_roundw
   case rel => exact ⟨m + 1, by have := HMOD.out; have := HLT.out; omega, hown3, hfr3⟩
   case measure =>
    obtain ⟨a8, c8, rfl, _⟩ := hown3.form
    have := HLT.out; have := HMOD.out
    simp [lenV]; omega
end
section
open Go.RowKit Go.Mv Mvp
theorem k0M (S : List UInt64) : a0K S 0 = [] := by unfold a0K; rfl
theorem o0B (S : List UInt64) : b0x S 0 = S := by unfold b0x; rfl
theorem v0H {w : World} {base : Nat} {T : TypeId} {a : Option Addr} {m c : Nat} {L : List Value} (h : Own w base T 1 (.slice a m c) m L) (n : Nat) (hn : n ≤ m) : Own w base T 1 (.slice a n n) n (L.take n) := by
 obtain ⟨hl, h | ⟨g, o, cap, B, hv, hb, hg, h1, h2, h3, h4⟩⟩ := h
 ·obtain ⟨hv, hm⟩ := h
  cases hv
  have : n = 0 := by omega
  subst this
  exact ⟨by simp, .inl ⟨rfl, rfl⟩⟩
 ·cases hv
  refine ⟨by rw [List.length_take]; omega, .inr ⟨g, o, n, B, rfl, hb, hg, Nat.le_refl _, by omega, by omega, ?_⟩⟩
  rw [← h4, List.take_take]
  congr 1
  omega
attribute [local irreducible] b0w b0L toB a0x a0K b0x
theorem v0I (k : Nat) (e : UInt8) (h : k < 136) : ((List.replicate 136 (0 : UInt8)).set k e).set 135 (bx (((List.replicate 136 (0 : UInt8)).set k e).getD 135 0) 0x80) = List.replicate k 0 ++ n0h k e := by
 have h1 : (List.replicate 136 (0 : UInt8)).set k e = List.replicate k 0 ++ (e :: List.replicate (135 - k) 0) := by
  have : (List.replicate 136 (0 : UInt8)) = List.replicate k 0 ++ (0 :: List.replicate (135 - k) 0) := by
   rw [← List.replicate_succ, List.replicate_append_replicate]; congr 1; omega
  rw [this, List.set_append_right _ _ (by simp)]
  simp
 have h2 : (List.replicate k 0 ++ (e :: List.replicate (135 - k) 0)).getD 135 0 = (e :: List.replicate (135 - k) 0).getD (135 - k) 0 := by
  rw [List.getD_eq_getElem?_getD, List.getD_eq_getElem?_getD, List.getElem?_append_right (by simp; omega), List.length_replicate]
 rw [h1, h2, List.set_append_right _ _ (by simp; omega)]
 simp only [List.length_replicate, n0h]
theorem q0a (n j : Nat) : 136 * j < n ↔ j < e0m n := by unfold e0m; omega
theorem q0b (g : Nat) (S : List UInt64) (k : Nat) (e : UInt8) (n : Nat) (w : World) (hS : S.length = 25) (hk : k < 136) (hn : n ≤ 20000) (hg : Has w g (abs (S, k)) 234) :
  Calls Tryz.prog 193 #[.pointer (some ⟨g, 0, none⟩), .int .u8 (e.toNat : Int), .int .i64 (n : Int)] w fun r w' => ∃ v, r = .returned v ∧ Own w' w.heap.size 5 1 v n (bs (v0F (i0h (S, k) e) n)) ∧ Fr (One g) w w' := by
 go_enter Tryz.func193, Tryz.ntmps193
 go_wp2_with (with_reducible refine e0X (o := ⟨_, .alloc 241, _, _, _, _⟩) ?_)
 refine d0S rfl rfl k0J (bs (List.replicate 136 0)) (by simp [Value.cells]) ?_
 intro w1 hl1 hf1 hz1
 have hg1 := hg.keep hf1 id
 have hgl := hg.lt
 have hfr1 : Fr (One g) w w1 := (Fr.refl (One g) w).same hf1
 have hb0 : w.heap.size ≤ w1.heap.size := hf1.size
 generalize hgl0 : w.heap.size = gl at *
 have HGL := qH hgl0; clear hgl0
 clear hf1 hz1 hg
 have hc25 : w1.cell? ⟨g, 25, none⟩ = some (.int .i64 (k : Int)) := hg1.cell (h0n (S, k) hS)
 obtain ⟨vk, hck, hfk⟩ := hl1.ready (i := k) (by rw [a0G]; simpa using hk)
 have hkI : (k : Int) < 136 := by omega
 go_wp2_with (with_reducible refine wSk 15 ?_)
 have hl2 := hl1.set k (.int .u8 (e.toNat : Int))
 rw [f0d] at hl2
 have hg2 := hg1.other (g' := gl) k none (.int .u8 (e.toNat : Int)) (by omega)
 have hfr2 : Fr (One g) w (w1.setCell ⟨gl, k, none⟩ (.int .u8 (e.toNat : Int))) := hfr1.setCell gl k none _ (fun h => by have := HGL.out; omega)
 have hsz2 : gl < (w1.setCell ⟨gl, k, none⟩ (.int .u8 (e.toNat : Int))).heap.size := hl2.lt
 generalize w1.setCell ⟨gl, k, none⟩ (.int .u8 (e.toNat : Int)) = w2 at *
 clear hl1 hg1 hfr1 hc25 hck hfk hb0
 have hc135 : w2.cell? ⟨gl, 135, none⟩ = some (.int .u8 ((((List.replicate 136 (0 : UInt8)).set k e).getD 135 0).toNat : Int)) := hl2.cell (m0X _ _ (by simp))
 have hf135 : w2.frozen? ⟨gl, 135, none⟩ = false := hl2.free _ (by rw [a0G]; simp)
 generalize hy : ((List.replicate 136 (0 : UInt8)).set k e).getD 135 0 = y at hc135
 have HY := qH hy; clear hy
 show wpList _ _ _ _ _ _
 go_wp2_with fail
 have hbx : bits BinOp.xor IntKind.u8 (y.toNat : Int) 128 = ((bx y 128).toNat : Int) := j0c y 128
 rw [hbx]
 have hl3 := hl2.set 135 (.int .u8 ((bx y 0x80).toNat : Int))
 rw [f0d, ← HY.out, v0I k e hk] at hl3
 rw [HY.out] at hl3
 have hg3 := hg2.other (g' := gl) 135 none (.int .u8 ((bx y 128).toNat : Int)) (by omega)
 have hfr3 : Fr (One g) w (w2.setCell ⟨gl, 135, none⟩ (.int .u8 ((bx y 128).toNat : Int))) := hfr2.setCell gl 135 none _ (fun h => by have := HGL.out; omega)
 generalize w2.setCell ⟨gl, 135, none⟩ (.int .u8 ((bx y 128).toNat : Int)) = w3 at *
 have hpl : (n0h k e).length = 136 - k := n0i k e hk
 have hne : g ≠ gl := by omega
 clear hl2 hg2 hfr2 hc135 hf135 hbx hsz2 HY
 have e1 : ∀ wx, (Instr.sliceAt 241 (.pointer (some ⟨gl, 0, none⟩)) none none none).run Tryz.prog wx = .ok (.slice (some ⟨gl, 0, none⟩) 136 136) wx := fun wx => i0i wx Tryz.underlying241 c0e gl 0
 refine wp_region_still_tail 4 (by kernel_rfl) (by kernel_rfl) ?_
 simp only [List.take_succ_cons, List.take_zero, List.drop_succ_cons, List.drop_zero]
 repeat still_step
 refine wpStill_nil ?_
 show wpList _ _ _ _ _ w3.drew
 go_wp2_with fail
 have hrd : RdB w3.drew (some ⟨gl, 0, none⟩) 136 (List.replicate k 0 ++ n0h k e) := by
  have := Rd.whole hl3.drew
  rwa [a0G, List.length_append, List.length_replicate, hpl, show k + (136 - k) = 136 by omega] at this
 refine (p0F g S [.int .i64 (k : Int)] 234 _ 136 _ _ _ hS (by omega) hg3.drew hrd (fun x hx (e : x.block = g) => by simp only [Option.some.injEq] at hx; subst hx; simp at e; omega)).mono ?_
 rintro e w4 ⟨rfl, hg4, hf4, hz4⟩
 have hxb : f0k S (List.replicate k 0 ++ n0h k e) 136 = c0s S k (n0h k e) := by
  have := i0t S k (n0h k e) []
  rwa [List.append_nil, hpl, show k + (136 - k) = 136 by omega] at this
 rw [hxb, h0o] at hg4
 have hfr4 : Fr (One g) w w4 := hfr3.drew.trans hf4 (fun _ _ t => t)
 have hend : i0h (S, k) e = b0w (c0s S k (n0h k e)) := by
  unfold i0h
  rw [h0j _ _ _ (by simp only [hpl]; omega) hk]
 have hxl : (c0s S k (n0h k e)).length = 25 := by rw [h0i, hS]
 clear hl3 hg3 hfr3 e1 hrd hf4 hz4 hxb hpl
 generalize c0s S k (n0h k e) = X at *
 have HEND := qH hend; clear hend
 go_wp2_with fail
 refine (f0a g X k _ hxl hg4).mono ?_
 rintro e w5 ⟨rfl, hg5, hf5⟩
 have hfr5 : Fr (One g) w w5 := hfr4.trans hf5 (fun _ _ t => t)
 have hS5 : (b0w X).length = 25 := by rw [f0m, hxl]
 generalize b0w X = S0 at *
 clear hg4 hfr4 hf5 hxl hS
 go_wp2_with fail
 go_loopw [8] (fun v wr => ∃ j, j ≤ e0m n ∧ Own wr w.heap.size 5 1 v (136 * j) (bs (a0K S0 j)) ∧ Has wr g (abs (b0x S0 j, k)) 234 ∧ Fr (One g) w wr) (fun v _ => n - lenV v)
 case atStart => exact ⟨0, Nat.zero_le _, by rw [k0M]; exact Own.nil _ _ _ _, by rw [o0B]; exact hg5, hfr5⟩
 case round =>
  obtain ⟨j, hj, hown, hgj, hfj⟩ := hrel
  clear hg5 hfr5
  have hjn := q0a n j
  obtain ⟨a, cap, rfl, hcap, hrdj, hna⟩ := hown.form
  by_cases hlt : 136 * j < n
  ·have hltI : 136 * (j : Int) < (n : Int) := by omega
   have hpj : (b0x S0 j).length = 25 := by rw [k0I, hS5]
   have hjp : j + 1 ≤ e0m n := hjn.1 hlt
   have HJN := qH hjn; clear hjn
   have HLT := qH hlt; clear hlt
   clear hrdj hna
   go_wp2_with fail
   rw [← h0o] at hgj
   refine (p0G g (b0x S0 j) [.int .i64 (k : Int)] 234 136 _ hpj (by omega) hgj).mono ?_
   rintro e w6 ⟨rfl, ht6, hf6, hz6⟩
   have hg6 := hgj.keep hf6 id
   rw [h0o] at hg6
   have hown6 := hown.still hf6
   have hfr6 : Fr (One g) w w6 := hfj.same hf6
   have hwb : w.heap.size ≤ wr.heap.size := hfj.size
   have hgb : g < w.heap.size := by have := HGL.out; omega
   generalize wr.heap.size = gt at *
   clear hgj hown hfj hf6
   go_wp2_with (with_reducible refine wSk 37 ?_)
   have hrd6 : Rd w6 (some ⟨gt, 0, none⟩) (136 * 1) (bs (toB (b0x S0 j) 136)) := by
    have := Rd.whole ht6
    rwa [a0G, b0e] at this
   refine e0j rfl rfl Tryz.underlying22 b0I rfl (by decide) hown6 rfl rfl hrd6 (g0U _) (by unfold maxLen; omega) (by omega) hfr6.size ?_
   intro v7 w7 hown7 hf7 hb7
   have hg7 := hg6.keep hf7 (fun hh => by have := hown6.lt hh; omega)
   have hfr7 : Fr (One g) w w7 := hown6.fr hfr6 (Nat.le_refl _) hf7
   rw [← c0L, ← g0k] at hown7
   clear ht6 hg6 hown6 hfr6 hrd6 hf7 hb7
   go_wp2_with fail
   refine (f0a g _ k _ hpj hg7).mono ?_
   rintro e w8 ⟨rfl, hg8, hf8⟩
   rw [← i0u] at hg8
   have hown8 := hown7.keep hf8 (fun k' hk' (h : k' = g) => by have := hown7.lt hk'; omega)
   have hfr8 : Fr (One g) w w8 := hfr7.trans hf8 (fun _ _ t => t)
   clear hg7 hown7 hfr7 hf8
   go_wp2_with fail
   go_roundw
   case rel => exact ⟨j + 1, hjp, hown8, hg8, hfr8⟩
   case measure =>
    obtain ⟨a8, c8, rfl, _⟩ := hown8.form
    have := HLT.out
    simp [lenV]; omega
  ·have hge : ¬ (136 * (j : Int) < (n : Int)) := by omega
   have hjp : j = e0m n := by have := hjn.2; omega
   have HJP := qH hjp; clear hjp
   have HJN := qH hjn; clear hjn
   have hnc : n ≤ cap := by omega
   have hnI : ¬ (n : Int) < 0 := by omega
   clear hgj
   go_wp2_with (with_reducible refine wSk 45 ?_)
   refine v0z rfl rfl Tryz.underlying22 c0e rfl 0 n n rfl rfl rfl rfl rfl (Nat.zero_le _) (Nat.le_refl _) hnc ?_
   go_wp2_with fail
   go_ret
   rw [p0S]
   refine ⟨_, rfl, ?_, hfj⟩
   have hsq : bs (v0F (i0h (S, k) e) n) = (bs (a0K S0 j)).take n := by
    rw [HEND.out, HJP.out, v0F, e0i]
   rw [hsq]
   exact v0H hown n (by omega)
end
end Go.Proofs.YtemcankmggmgoaaGreat
namespace Mvp
def s0e (n : Nat) : List UInt8 := [UInt8.ofNat (n / 16777216), UInt8.ofNat (n / 65536), UInt8.ofNat (n / 256), UInt8.ofNat n]
def b0t (l : List UInt8) : List UInt8 := s0e l.length ++ l
def a0I (ls : List (List UInt8)) : List UInt8 := (ls.map b0t).flatten
theorem m0o : a0I [] = [] := rfl
theorem e0Q (a b : List (List UInt8)) : a0I (a ++ b) = a0I a ++ a0I b := by simp [a0I]
theorem d0V (a : List UInt8) : a0I [a] = b0t a := by simp [a0I]
theorem k0N (a : List UInt8) (b : List (List UInt8)) : a0I (a :: b) = b0t a ++ a0I b := by simp [a0I]
end Mvp
namespace Go.Proofs.YtemcankmggmgoaaGreat
section
open Go.RowKit Go.Mv Mvp
attribute [local irreducible] b0w b0L toB a0x a0K b0x c0q a0O
theorem f0r (k : Nat) : ((UInt8.ofNat k).toNat : Int) = ((k % 256 : Nat) : Int) := by simp
theorem u0E (n : Nat) (h : n ≤ 1000000) : Value.int .u8 ((n : Int) / 16777216) = .int .u8 ((UInt8.ofNat (n / 16777216)).toNat : Int) := by
 rw [f0r]; congr 1; omega
theorem u0F (n : Nat) (h : n ≤ 1000000) : Value.int .u8 ((n : Int) / 65536) = .int .u8 ((UInt8.ofNat (n / 65536)).toNat : Int) := by
 rw [f0r]; congr 1; omega
theorem u0G (n : Nat) : Value.int .u8 ((n : Int) / 256 % 256) = .int .u8 ((UInt8.ofNat (n / 256)).toNat : Int) := by
 rw [f0r]; rfl
theorem u0H (n : Nat) : Value.int .u8 ((n : Int) % 256) = .int .u8 ((UInt8.ofNat n).toNat : Int) := by
 rw [f0r]; rfl
theorem j0p (n : Nat) : (s0e n).length = 4 := rfl
theorem k0O (g : Nat) (st : List UInt64 × Nat) (b : Option Addr) (n c : Nat) (l : List UInt8) (w : World) (hS : st.1.length = 25) (hat : st.2 < 136) (hn : n ≤ 1000000) (hnc : n ≤ c) (hg : Has w g (abs st) 234) (hb : RdB w b n l) (hbg : Off (One g) b) :
  Calls Tryz.prog 194 #[.pointer (some ⟨g, 0, none⟩), .slice b n c] w fun e w' => e = .returned (.tuple #[]) ∧ Has w' g (abs (c0r st (b0t l))) 234 ∧ Fr (One g) w w' := by
 go_enter Tryz.func194, Tryz.ntmps194
 go_wp2_with (with_reducible refine wSk 19 ?_)
 refine p0W rfl rfl Tryz.underlying22 b0I _ _ _ _ (u0E n hn) (u0F n hn) (u0G n) (u0H n) ?_
 intro w1 hh1 hf1 hz1
 have hh1' : Has w1 w.heap.size (bs (s0e n)) 5 := hh1
 have hg1 := hg.keep hf1 id
 have hb1 := hb.still hf1
 have hgl := hg.lt
 generalize w.heap.size = g4 at *
 clear hg hb hh1
 have hrd : RdB w1 (some ⟨g4, 0, none⟩) 4 (s0e n) := by
  have := Rd.whole hh1'
  rwa [a0G, j0p] at this
 go_wp2_with fail
 refine (h0p g st _ 4 4 (s0e n) w1 hS hat (by omega) (by omega) hg1 hrd (fun x hx (e : x.block = g) => by simp only [Option.some.injEq] at hx; subst hx; simp at e; omega)).mono ?_
 rintro e w2 ⟨rfl, hg2, hf2⟩
 have hb2 := hb1.keep hf2 hbg
 have hfr2 : Fr (One g) w w2 := ((Fr.refl (One g) w).same hf1).trans hf2 (fun _ _ t => t)
 clear hf1 hz1 hh1' hg1 hb1 hrd hf2
 go_wp2_with fail
 refine (h0p g (c0r st (s0e n)) b n c l w2 (by rw [f0n, hS]) (j0l _ _ hat) hn hnc hg2 hb2 hbg).mono ?_
 rintro e w3 ⟨rfl, hg3, hf3⟩
 go_wp2_with fail
 go_end0
 rw [← d0h, ← hb2.len] at hg3
 exact ⟨rfl, hg3, hfr2.trans hf3 (fun _ _ t => t)⟩
theorem i0x (s : ByteArray) (w : World) (hs : s.size ≤ 1000000) :
  Calls Tryz.prog 177 #[.string s] w fun r w' => r = .returned (.string (mkS (b0t s.data.toList))) ∧ Fr Nob w w' := by
 go_enter Tryz.func177, Tryz.ntmps177
 go_wp2_with (with_reducible refine wSk 17 ?_)
 refine p0W rfl rfl Tryz.underlying22 b0I _ _ _ _ (u0E s.size hs) (u0F s.size hs) (u0G s.size) (u0H s.size) ?_
 intro w1 hh1 hf1 hz1
 have hrd : RdB w1 (some ⟨w.heap.size, 0, none⟩) 4 (s0e s.size) := Rd.whole hh1
 have e1 := e0z hrd 4 Tryz.underlying22 Tryz.underlying5 Tryz.underlying9
 have hcat : ¬ 9223372036854775807 < (mkS (s0e s.size)).size + s.size := by rw [a0H, j0p]; omega
 go_wp2_with fail
 go_ret
 refine ⟨?_, hf1⟩
 have : mkS (s0e s.size) ++ s = mkS (b0t s.data.toList) := by
  rw [b0t, ← e0A, d0r]; rfl
 exact congrArg (fun q => Ending.returned (.string q)) this
end
section
open Go.RowKit Go.Mv Mvp
attribute [local irreducible] b0w b0L toB a0x a0K b0x
theorem k0P : Tryz.prog.built 234 [] = some (abs (a0B, 0)).toArray := by unfold abs; kernel_rfl
theorem v0J (l : List UInt8) : (c0r (a0B, 0) l).1.length = 25 ∧ (c0r (a0B, 0) l).2 < 136 := ⟨by rw [f0n]; rfl, j0l _ _ (by decide)⟩
theorem i0y (b : Option Addr) (n c : Nat) (l : List UInt8) (m : Nat) (w : World) (hm : m ≤ 20000) (hn : n ≤ 1000000) (hnc : n ≤ c) (hb : RdB w b n l) (ho : Old w b) :
  Calls Tryz.prog 168 #[.slice b n c, .int .i64 (m : Int)] w fun r w' => ∃ v, r = .returned v ∧ Own w' w.heap.size 5 1 v m (bs (a0O l 31 m)) ∧ Fr Nob w w' := by
 go_enter Tryz.func168, Tryz.ntmps168
 go_wp2_with (with_reducible refine wSk 6 ?_)
 refine c0t rfl rfl _ k0P ?_
 refine i0v rfl rfl rfl (abs (a0B, 0)) rfl ?_
 intro w1 hg1 hf1 hz1
 have hb1 := hb.still hf1
 have hoff : Off (One w.heap.size) b := ho.off (Nat.le_refl _)
 generalize hgw : w.heap.size = g at *
 have HG := qH hgw; clear hgw
 clear hb ho
 go_wp2_with fail
 refine (h0p g (a0B, 0) b n c l w1 rfl (by decide) hn hnc hg1 hb1 hoff).mono ?_
 rintro e w2 ⟨rfl, hg2, hf2⟩
 obtain ⟨h1, h2⟩ := v0J l
 have hfr2 : Fr Nob w w2 := hf1.new hf2 (by rw [HG.out]; exact Nat.le_refl _)
 generalize hst : c0r (a0B, 0) l = st at *
 have HST := qH hst; clear hst
 clear hg1 hf1 hz1 hb1 hf2
 go_wp2_with fail
 refine (q0b g st.1 st.2 31 m w2 h1 h2 hm hg2).mono ?_
 rintro e w3 ⟨v, rfl, hown, hf3⟩
 go_wp2_with fail
 go_ret
 refine ⟨v, rfl, ?_, hfr2.new hf3 (by rw [HG.out]; exact Nat.le_refl _)⟩
 have := hown.mono (base' := g) (by have := hg2.lt; omega)
 rw [← HST.out] at this
 rw [HG.out]
 exact this
theorem o0C (b : Option Addr) (n c : Nat) (l : List UInt8) (m : Int) (w : World) (hn : n ≤ 1000000) (hnc : n ≤ c) (hb : RdB w b n l) (ho : Old w b) :
  Calls Tryz.prog 114 #[.slice b n c, .int .i64 m] w fun r w' => (0 ≤ m ∧ m ≤ 16384 ∧ ∃ v, r = .returned (.tuple #[v, .int .i64 0]) ∧ Own w' w.heap.size 5 1 v m.toNat (bs (a0O l 31 m.toNat)) ∧ Fr Nob w w') ∨ (¬ (0 ≤ m ∧ m ≤ 16384) ∧ r = .returned (.tuple #[.slice none 0 0, .int .i64 1]) ∧ Fr Nob w w') := by
 go_enter Tryz.func114, Tryz.ntmps114
 by_cases h0 : m < 0
 ·go_wp2_with fail
  go_ret2
  exact .inr ⟨by omega, rfl, Fr.refl _ _⟩
 ·by_cases h1 : 16384 < m
  ·go_wp2_with fail
   go_ret2
   first | exact .inr ⟨by omega, rfl, Fr.refl _ _⟩ | exact .inr ⟨rfl, Fr.refl _ _⟩ | exact .inr (Fr.refl _ _) | exact ⟨rfl, Fr.refl _ _⟩ | exact Fr.refl _ _
  ·obtain ⟨k, rfl⟩ : ∃ k : Nat, m = k := ⟨m.toNat, by omega⟩
   go_wp2_with fail
   refine (i0y b n c l k w (by omega) hn hnc hb ho).mono ?_
   rintro e w3 ⟨v, rfl, hown, hf3⟩
   go_wp2_with fail
   go_ret2
   exact .inl ⟨by omega, by omega, v, rfl, by simpa using hown, hf3⟩
end
section
open Go.RowKit Go.Mv Mvp
attribute [local irreducible] b0w b0L toB a0x a0K b0x c0q a0O
def PartIs (w : World) (v : Value) (l : List UInt8) : Prop := ∃ a n c, v = .slice a n c ∧ n ≤ c ∧ n ≤ 1000000 ∧ RdB w a n l ∧ Old w a
theorem PartIs.still {w w' : World} {v : Value} {l : List UInt8} (h : PartIs w v l) (hf : Fr Nob w w') : PartIs w' v l := by
 obtain ⟨a, n, c, h1, h2, h3, h4, h5⟩ := h
 exact ⟨a, n, c, h1, h2, h3, h4.still hf, h5.grow hf.size⟩
def PartsAt (w : World) (a : Option Addr) (ls : List (List UInt8)) : Prop := ∃ vs : List Value, Rd w a ls.length vs ∧ ∀ (i : Nat) (v : Value), vs[i]? = some v → ∃ l : List UInt8, ls[i]? = some l ∧ PartIs w v l
theorem PartsAt.get {w : World} {a : Option Addr} {ls : List (List UInt8)} (h : PartsAt w a ls) {j : Nat} (hj : j < ls.length) : ∃ b o v, a = some ⟨b, o, none⟩ ∧ w.cell? ⟨b, o + j, none⟩ = some v ∧ PartIs w v (ls.getD j []) := by
 obtain ⟨vs, hr, hv⟩ := h
 obtain ⟨b, o, rfl, hat⟩ := hr.at (by omega)
 have hl := hr.len
 obtain ⟨l, h1, h2⟩ := hv j (vs[j]'(by omega)) (List.getElem?_eq_getElem (by omega))
 refine ⟨b, o, vs[j]'(by omega), rfl, hat j _ (List.getElem?_eq_getElem (by omega)), ?_⟩
 rwa [List.getD_eq_getElem?_getD, h1]
theorem PartsAt.still {w w' : World} {a : Option Addr} {ls : List (List UInt8)} (h : PartsAt w a ls) (hf : Fr Nob w w') : PartsAt w' a ls := by
 obtain ⟨vs, hr, hv⟩ := h
 refine ⟨vs, hr.still hf, fun i v hi => ?_⟩
 obtain ⟨l, h1, h2⟩ := hv i v hi
 exact ⟨l, h1, h2.still hf⟩
def h0s (s : List UInt8) (ls : List (List UInt8)) : List UInt8 := a0I (s :: ls)
def c0A (s : List UInt8) (ls : List (List UInt8)) : List UInt8 := a0O (h0s s ls) 6 32
theorem z25 : ((a0B, 0) : List UInt64 × Nat).1.length = 25 := rfl
attribute [local irreducible] c0r b0t a0I abs a0B
theorem q0c (s : ByteArray) (a : Option Addr) (c : Nat) (ls : List (List UInt8)) (w : World) (hs : s.size ≤ 1000000) (hm : ls.length ≤ 1000000) (hb : PartsAt w a ls) :
  Calls Tryz.prog 169 #[.string s, .slice a ls.length c] w fun r w' => ∃ v, r = .returned v ∧ Own w' w.heap.size 5 1 v 32 (bs (c0A s.data.toList ls)) ∧ Fr Nob w w' := by
 go_enter Tryz.func169, Tryz.ntmps169
 go_wp2_with (with_reducible refine wSk 8 ?_)
 refine c0t rfl rfl _ k0P ?_
 refine i0v rfl rfl rfl (abs (a0B, 0)) rfl ?_
 intro w1 hg1 hf1 hz1
 clear hz1
 have hst1 := z25
 have hst2 : ((a0B, 0) : List UInt64 × Nat).2 < 136 := Nat.zero_lt_succ _
 obtain ⟨st0, hst0⟩ : ∃ st0 : List UInt64 × Nat, st0 = (a0B, 0) := ⟨_, rfl⟩
 rw [← hst0] at hg1 hst1 hst2
 have HST0 := qH hst0; clear hst0
 generalize hgw : w.heap.size = g at *
 have HG := qH hgw; clear hgw
 go_wp2_with (with_reducible refine wSk 12 ?_)
 refine d0s rfl rfl Tryz.underlying9 Tryz.underlying22 Tryz.underlying5 rfl (by unfold maxLen; omega) w1.heap.size (Nat.le_refl _) ?_
 intro cap w2 hown2 hf2 hz2
 have hg2 := hg1.keep hf2 id
 have hfr2 := hf1.then hf2
 have hgl := hg1.lt
 obtain ⟨a2, c2, hv2, hc2, hrd2, -⟩ := hown2.form
 cases hv2
 rw [Nat.mul_one] at hrd2
 go_wp2_with fail
 have hoff0 : Off (One g) (some (⟨w1.heap.size, 0, none⟩ : Addr)) := fun x hx (e : x.block = g) => by
  cases hx
  exact absurd e (by show ¬ (w1.heap.size = g); omega)
 have hcall := k0O g st0 (some ⟨w1.heap.size, 0, none⟩) s.size cap s.data.toList w2 hst1 hst2 hs hc2 hg2 hrd2 hoff0
 refine hcall.mono ?_
 rintro e w3 ⟨rfl, hg3, hf3⟩
 have hfr3 : Fr Nob w w3 := hfr2.new hf3 (by rw [HG.out]; exact Nat.le_refl _)
 clear hg1 hf1 hown2 hf2 hz2 hg2 hfr2 hrd2 hf3 hgl
 go_wp2_with fail
 go_loopw [16] (fun i wr => ∃ j : Nat, j ≤ ls.length ∧ i = .int .i64 (j : Int) ∧ Has wr g (abs (c0r st0 (a0I (s.data.toList :: ls.take j)))) 234 ∧ Fr Nob w wr) (fun i _ => (ls.length - intOf i).toNat)
 case atStart => exact ⟨0, by omega, rfl, by rw [List.take_zero, d0V]; exact hg3, hfr3⟩
 case round =>
  obtain ⟨j, hj, rfl, hgj, hfj⟩ := hrel
  clear hg3 hfr3
  by_cases hlt : j < ls.length
  ·have hltI : (j : Int) < (ls.length : Int) := by omega
   obtain ⟨b, o, v, rfl, hc, hp⟩ := (hb.still hfj).get hlt
   obtain ⟨b', o', v', hv', hc', hp'⟩ := hb.get hlt
   simp only [Option.some.injEq, Addr.mk.injEq] at hv'
   obtain ⟨rfl, rfl, -⟩ := hv'
   have hvv : v = v' := by
    have := hfj.cell id hc'
    rw [hc] at this; simpa using this
   subst hvv
   obtain ⟨ap, np, cp, rfl, hp1, hp2, hp3, hp4⟩ := hp'
   have hr3 := hp3.still hfj
   clear hp
   have hoff : Off (One g) ap := hp4.off (by rw [HG.out]; exact Nat.le_refl _)
   go_wp2_with fail
   have hSj : (c0r st0 (a0I (s.data.toList :: ls.take j))).1.length = 25 := by rw [f0n, hst1]
   have hkj := j0l (a0I (s.data.toList :: ls.take j)) st0 hst2
   refine (k0O g (c0r st0 (a0I (s.data.toList :: ls.take j))) ap np cp (ls.getD j []) wr hSj hkj hp2 hp1 hgj hr3 hoff).mono ?_
   rintro e w4 ⟨rfl, hg4, hf4⟩
   have hfr4 : Fr Nob w w4 := hfj.new hf4 (by rw [HG.out]; exact Nat.le_refl _)
   rw [← d0h] at hg4
   have hfl : a0I (s.data.toList :: ls.take j) ++ b0t (ls.getD j []) = a0I (s.data.toList :: ls.take (j + 1)) := by
    rw [List.take_succ_eq_append_getElem hlt, ← List.cons_append, e0Q, d0V, List.getD_eq_getElem?_getD, List.getElem?_eq_getElem hlt]; rfl
   rw [hfl] at hg4
   clear hSj hkj hr3 hgj hfj hf4 hfl
   go_wp2_with fail
   go_roundw
   case rel => exact ⟨j + 1, by omega, by go_num, hg4, hfr4⟩
   case measure => simp [intOf]; omega
  ·have hge : ¬ ((j : Int) < (ls.length : Int)) := by omega
   have hjn : j = ls.length := by omega
   have hSj : (c0r st0 (a0I (s.data.toList :: ls.take j))).1.length = 25 := by rw [f0n, hst1]
   have hkj := j0l (a0I (s.data.toList :: ls.take j)) st0 hst2
   have hft : a0I (s.data.toList :: ls.take j) = h0s s.data.toList ls := by rw [hjn, List.take_length]; rfl
   rw [hft] at hgj hSj hkj
   generalize hst : c0r st0 (h0s s.data.toList ls) = st at *
   have HST := qH hst; clear hst
   have HJN := qH hjn; clear hjn
   clear hft
   go_wp2_with fail
   refine (q0b g st.1 st.2 6 32 wr hSj hkj (by omega) hgj).mono ?_
   rintro e w4 ⟨v, rfl, hown, hf4⟩
   go_wp2_with fail
   go_ret
   refine ⟨v, rfl, ?_, hfj.new hf4 (by rw [HG.out]; exact Nat.le_refl _)⟩
   have := hown.mono (base' := g) (by have := hgj.lt; omega)
   rw [HG.out]
   unfold c0A a0O
   rw [← HST0.out, HST.out]
   exact this
theorem v0K (s : ByteArray) (a : Option Addr) (c : Nat) (ls : List (List UInt8)) (w : World) (hs : s.size ≤ 1000000) (hm : ls.length ≤ 1000000) (hb : PartsAt w a ls) :
  Calls Tryz.prog 115 #[.string s, .slice a ls.length c] w fun r w' => ∃ v, r = .returned v ∧ Own w' w.heap.size 5 1 v 32 (bs (c0A s.data.toList ls)) ∧ Fr Nob w w' := by
 go_enter Tryz.func115, Tryz.ntmps115
 go_wp2_with fail
 refine (q0c s a c ls w hs hm hb).mono ?_
 rintro e w4 ⟨v, rfl, hown, hf4⟩
 go_wp2_with fail
 go_ret
 exact ⟨v, rfl, hown, hf4⟩
end
section
open Go.RowKit Go.Mv Mvp
end
section
open Go.RowKit Go.Mv Mvp
attribute [local irreducible] b0w b0L toB a0x a0K b0x c0q a0O
theorem q0d (s : ByteArray) (w : World) (hs : s.size ≤ 1000000) :
  Calls Tryz.prog 178 #[.string s] w fun r w' => r = .returned (.string (mkS (a0O s.data.toList 6 32))) ∧ Fr Nob w w' := by
 go_enter Tryz.func178, Tryz.ntmps178
 go_wp2_with fail
 refine (h0r s 6 32 w hs (by omega)).mono ?_
 rintro e w3 ⟨rfl, hf3⟩
 go_wp2_with fail
 go_ret
 exact ⟨rfl, hf3⟩
theorem h0t (s : ByteArray) (n : Nat) (w : World) (hs : s.size ≤ 1000000) (hn : n ≤ 20000) :
  Calls Tryz.prog 125 #[.string s, .int .i64 (n : Int)] w fun r w' => r = .returned (.string (mkS (a0O s.data.toList 31 n))) ∧ Fr Nob w w' := by
 go_enter Tryz.func125, Tryz.ntmps125
 go_wp2_with fail
 refine (h0r s 31 n w hs hn).mono ?_
 rintro e w3 ⟨rfl, hf3⟩
 go_wp2_with fail
 go_ret
 exact ⟨rfl, hf3⟩
theorem g0m {w : World} {base : Nat} {T : TypeId} {v : Value} {n : Nat} {l : List UInt8} (h : Own w base T 1 v n (bs l)) : ∃ a c, v = .slice a n c ∧ RdB w a n l := by
 obtain ⟨a, c, hv, _, hr, _⟩ := h.form
 rw [Nat.mul_one] at hr
 exact ⟨a, c, hv, hr⟩
end
end Go.Proofs.YtemcankmggmgoaaGreat
namespace Go.Mv
open Go.RowKit Go.ChangeShapes Go.WideShapes
def ss (l : List (List UInt8)) : List Value := l.map fun x => .string (mkS x)
theorem u0I (l : List (List UInt8)) : (ss l).length = l.length := by simp [ss]
theorem x0y (l : List (List UInt8)) (i : Nat) (hi : i < l.length) : (ss l)[i]? = some (.string (mkS (l.getD i []))) := by
 simp [ss, List.getD_eq_getElem?_getD, hi]
section
variable {H : Type} {enc : TypeId × Value → H} {P : Program} {w : World} {base : Nat} {held : Bool} {spare : Nat → Bool}
end
end Go.Mv
namespace Go.Proofs.YtemcankmggmgoaaGreat
open Go.RowKit Go.Mv Mvp
attribute [local irreducible] b0w b0L toB a0x a0K b0x c0q a0O c0r b0t a0I
theorem i0z (l : List UInt8) : (b0t l).length = 4 + l.length := by unfold b0t; simp [j0p]
def g0H (ls : List (List UInt8)) : Nat := (ls.map List.length).foldr (· + ·) 0
theorem h0u (a b : List (List UInt8)) : g0H (a ++ b) = g0H a + g0H b := by
 induction a with
 | nil => simp [g0H]
 | cons x a ih => simp only [g0H, List.cons_append, List.map_cons, List.foldr_cons] at *; omega
theorem m0p (ls : List (List UInt8)) : (a0I ls).length = 4 * ls.length + g0H ls := by
 induction ls with
 | nil => rw [m0o]; rfl
 | cons a b ih => rw [k0N, List.length_append, i0z, ih, List.length_cons]; simp only [g0H, List.map_cons, List.foldr_cons]; omega
theorem q0e (ls : List (List UInt8)) (j : Nat) : g0H (ls.take j) ≤ g0H ls := by
 have := h0u (ls.take j) (ls.drop j)
 rw [List.take_append_drop] at this; omega
theorem s0C (ls : List (List UInt8)) (j : Nat) (hj : j < ls.length) : (ls.getD j []).length ≤ g0H ls := by
 have h1 := h0u (ls.take j) (ls.drop j)
 rw [List.take_append_drop, List.drop_eq_getElem_cons hj] at h1
 have h2 : g0H (ls[j] :: ls.drop (j + 1)) = ls[j].length + g0H (ls.drop (j + 1)) := by simp only [g0H, List.map_cons, List.foldr_cons]
 have h3 : ls.getD j [] = ls[j] := by simp [List.getD_eq_getElem?_getD, hj]
 rw [h3]; omega
theorem n0l (s : ByteArray) (a : Option Addr) (c : Nat) (ls : List (List UInt8)) (w : World) (hs : s.size + g0H ls ≤ 100000) (hm : ls.length ≤ 1000) (hb : Rd w a ls.length (ss ls)) :
  Calls Tryz.prog 126 #[.string s, .slice a ls.length c] w fun r w' => r = .returned (.string (mkS (c0A s.data.toList ls))) ∧ Fr Nob w w' := by
 go_enter Tryz.func126, Tryz.ntmps126
 go_wp2_with fail
 refine (i0x s w (by omega)).mono ?_
 rintro e w1 ⟨rfl, hf1⟩
 have hsl : s.data.toList.length = s.size := b0Q s
 go_wp2_with fail
 go_loopw [6, 5] (fun i q wr => ∃ j : Nat, j ≤ ls.length ∧ i = .int .i64 (j : Int) ∧ q = .string (mkS (a0I (s.data.toList :: ls.take j))) ∧ Fr Nob w wr) (fun i _ _ => (ls.length - intOf i).toNat)
 case atStart => exact ⟨0, by omega, rfl, by rw [List.take_zero, d0V], hf1⟩
 case round =>
  obtain ⟨j, hj, rfl, rfl, hfj⟩ := hrel
  clear hf1
  have hql : (mkS (a0I (s.data.toList :: ls.take j))).size ≤ 200000 := by
   rw [a0H, m0p]
   have h1 := q0e ls j
   have h2 : g0H (s.data.toList :: ls.take j) = s.data.toList.length + g0H (ls.take j) := by simp [g0H]
   rw [h2, List.length_cons, List.length_take]; omega
  by_cases hlt : j < ls.length
  ·have hltI : (j : Int) < (ls.length : Int) := by omega
   obtain ⟨b, o, rfl, hat⟩ := (hb.still hfj).at (by omega)
   have hc : wr.cell? ⟨b, o + j, none⟩ = some (.string (mkS (ls.getD j []))) := hat j _ (x0y ls j hlt)
   have hxl := s0C ls j hlt
   have hfl : a0I (s.data.toList :: ls.take j) ++ b0t (ls.getD j []) = a0I (s.data.toList :: ls.take (j + 1)) := by
    rw [List.take_succ_eq_append_getElem hlt, ← List.cons_append, e0Q, d0V, List.getD_eq_getElem?_getD, List.getElem?_eq_getElem hlt]; rfl
   have hcat : ¬ 9223372036854775807 < (mkS (a0I (s.data.toList :: ls.take j))).size + (mkS (b0t (ls.getD j []))).size := by
    rw [a0H (b0t _), i0z]; omega
   generalize hx : ls.getD j [] = x at *
   have HX := qH hx; clear hx
   have hfl2 := hfl
   have HFL := qH hfl2; clear hfl hfl2
   generalize hq : mkS (a0I (s.data.toList :: ls.take j)) = q at *
   have HQ := qH hq; clear hq
   have HQL := qH hql; clear hql
   have HSL := qH hsl; clear hsl
   clear hat
   go_wp2_with fail
   refine (i0x (mkS x) wr (by rw [a0H]; omega)).mono ?_
   rintro e w4 ⟨rfl, hf4⟩
   rw [a0N]
   have hfr4 := hfj.then hf4
   clear hfj hf4
   go_wp2_with fail
   go_roundw
   case rel => exact ⟨j + 1, by omega, by go_num, by rw [← HQ.out, e0A, HFL.out], hfr4⟩
   case measure => simp [intOf]; omega
  ·have hge : ¬ ((j : Int) < (ls.length : Int)) := by omega
   have hjn : j = ls.length := by omega
   have hft : a0I (s.data.toList :: ls.take j) = h0s s.data.toList ls := by rw [hjn, List.take_length]; rfl
   rw [hft] at hql ⊢
   have HJN := qH hjn; clear hjn
   clear hft
   go_wp2_with fail
   refine (q0d (mkS (h0s s.data.toList ls)) wr (by omega)).mono ?_
   rintro e w4 ⟨rfl, hf4⟩
   rw [a0N]
   go_wp2_with fail
   go_ret
   exact ⟨rfl, hfj.then hf4⟩
end Go.Proofs.YtemcankmggmgoaaGreat
namespace Go.Mv
open Go.RowKit
variable {P : Program}
theorem Own.ne {w : World} {base sz n g : Nat} {T T' : TypeId} {v : Value} {L L' : List Value} (h : Own w base T sz v n L) (hg : Has w g L' T') (hT : T ≠ T') : ¬ m0Y v g := by
 intro hv
 obtain ⟨_, ⟨rfl, _⟩ | ⟨g', o, cap, B, rfl, _, hg', _⟩⟩ := h
 ·cases hv
 ·have : g' = g := by simpa [m0Y, Value.ownBlock] using hv
  subst this
  obtain ⟨_, _, h1, _⟩ := hg
  obtain ⟨_, _, h2, _⟩ := hg'
  rw [h1] at h2
  simp at h2
  exact hT h2.2.1.symm
end Go.Mv
namespace Go.Mv
open Go.RowKit
variable {P : Program}
theorem c0T {w : World} {ops : Array Oper} {rest : List Oper} {o : Oper} {a : Act} {Q : Exit → Act → World → Prop} {t e : TypeId} {k : Nat} {parts : Array (Nat × Operand)} (hgd : o.guard = none) (ho : o.op = .buildSlice t k parts)
  (hu : P.underlying t = some (.slice e)) {z : Value} {by_ : Nat} (hi0 : (P.info? e).map (fun i => (i.zero, i.size, i.bytes)) = some (some z, 1, by_)) (vs : List Value) (hp : (parts.toList.map fun p => (p.1, a.eval p.2)) = (vs.zipIdx 0).map fun x => (x.2, x.1))
  (hv : ∀ v ∈ vs, v.cells = #[v]) (hk : vs.length = k) (hz : z.cells.size = 1)
  (h : ∀ w', Has w' w.heap.size vs e → Fr Nob w w' → w'.heap.size = w.heap.size + 1 → wpList P ops Q rest (a.put o.dst (.slice (some ⟨w.heap.size, 0, none⟩) k k)) w') (hk0 : 0 < k := by decide) (hk24 : k ≤ 16777216 := by decide) : wpList P ops Q (o :: rest) a w := by
 have _hz := hz
 obtain ⟨i, hi, hz0⟩ : ∃ i, P.info? e = some i ∧ (i.zero, i.size, i.bytes) = (some z, 1, by_) := by simpa using hi0
 simp only [Prod.mk.injEq] at hz0
 obtain ⟨hz1, hsz, hby⟩ := hz0
 have hf : Instr.fill (fun j => some (j * i.size, i.size)) ((Array.range (k * i.size)).map (z.cells[· % z.cells.size]!)) (parts.map fun (i, x) => (i, a.eval x)).toList = some vs.toArray := by
  rw [show (parts.map fun (i, x) => (i, a.eval x)).toList = (parts.toList.map fun p => (p.1, a.eval p.2)) by simp, hp, hsz]
  exact Great.fill_flat vs _ hv (by simp [hk])
 exact wpList_buildSlice hgd t e k _ ho _ i _ hu hi hz1 (by rw [hsz]; omega) (by rw [hsz]; omega) hf (h _ (Has.new w vs.toArray e) ((Fr.refl _ w).alloc _) (by simp))
theorem b0y {w : World} {ops : Array Oper} {rest : List Oper} {o : Oper} {a : Act} {Q : Exit → Act → World → Prop} {t : TypeId} {parts : Array (Nat × Operand)} (hgd : o.guard = none) (ho : o.op = .build t parts) (cells : Array Value)
  (hb : P.built t (parts.toList.map fun p => (p.1, a.eval p.2)) = some cells) (h : wpList P ops Q rest (a.put o.dst (.agg cells)) w) : wpList P ops Q (o :: rest) a w :=
 n0k hgd ho cells (by rw [show (parts.map fun (i, x) => (i, a.eval x)).toList = (parts.toList.map fun p => (p.1, a.eval p.2)) by simp]; exact hb) h
theorem s0D {w : World} {ops : Array Oper} {rest : List Oper} {o : Oper} {a : Act} {Q : Exit → Act → World → Prop} {ty : TypeId} {x : Operand} (hgd : o.guard = none) (ho : o.op = .load ty x) {d : TypeDesc} (hu : P.underlying ty = some d) (hd : d.isRow = true) {g p : Nat} (hx : a.eval x = .pointer (some ⟨g, p, none⟩))
  {cs : List Value} (hg : At w g p cs) (hi : (P.info? ty).map (·.size) = some cs.length)
  (h : wpList P ops Q rest (a.put o.dst (.agg cs.toArray)) w) : wpList P ops Q (o :: rest) a w :=
 wpList_load_mid hgd ty x ho g p hx cs d (fun j v hv => hg j v hv) hu hd hi h
end Go.Mv
namespace Go.Proofs.YtemcankmggmgoaaGreat
open Go.RowKit Go.Mv Mvp
attribute [local irreducible] b0w b0L toB a0x a0K b0x c0q a0O c0r b0t a0I c0A
theorem j0q : (Tryz.prog.info? 22).map (fun i => (i.zero, i.size, i.bytes)) = some (some (.slice none 0 0), 1, 24) := by kernel_rfl
theorem g0I : (Tryz.prog.info? 9).map (fun i => (i.zero, i.size, i.bytes)) = some (some (.string ByteArray.empty), 1, 16) := by kernel_rfl
def Parts (w : World) : List Value → List (List UInt8) → Prop
 | [], [] => True
 | v :: vs, l :: ls => PartIs w v l ∧ Parts w vs ls
 | _, _ => False
theorem Parts.len {w : World} : ∀ {vs : List Value} {ls : List (List UInt8)}, Parts w vs ls → vs.length = ls.length
 | [], [], _ => rfl
 | _ :: _, _ :: _, h => by simp only [List.length_cons]; rw [Parts.len h.2]
 | [], _ :: _, h => h.elim
 | _ :: _, [], h => h.elim
theorem Parts.get {w : World} : ∀ {vs : List Value} {ls : List (List UInt8)}, Parts w vs ls → ∀ (i : Nat) (v : Value), vs[i]? = some v → ∃ l : List UInt8, ls[i]? = some l ∧ PartIs w v l
 | [], [], _, i, v, h => by simp at h
 | x :: vs, l :: ls, h, 0, v, hv => by simp only [List.getElem?_cons_zero, Option.some.injEq] at hv; subst hv; exact ⟨l, rfl, h.1⟩
 | x :: vs, l :: ls, h, i + 1, v, hv => by simp only [List.getElem?_cons_succ] at hv ⊢; exact Parts.get h.2 i v hv
 | [], _ :: _, h, _, _, _ => h.elim
 | _ :: _, [], h, _, _, _ => h.elim
theorem Parts.at {w : World} {g : Nat} {T : TypeId} {vs : List Value} {ls : List (List UInt8)} (h : Parts w vs ls) (hg : Has w g vs T) : PartsAt w (some ⟨g, 0, none⟩) ls :=
 ⟨vs, by have := Rd.whole hg; rwa [h.len] at this, h.get⟩
theorem Parts.cells {w : World} : ∀ {vs : List Value} {ls : List (List UInt8)}, Parts w vs ls → ∀ v ∈ vs, v.cells = #[v]
 | [], _, _, v, h => by simp at h
 | x :: vs, l :: ls, h, v, hv => by
  rcases List.mem_cons.1 hv with rfl | hv
  ·obtain ⟨a, n, c, rfl, _⟩ := h.1; rfl
  ·exact Parts.cells h.2 v hv
 | _ :: _, [], h, _, _ => h.elim
theorem c0d {w : World} {base n : Nat} {T : TypeId} {v : Value} {l : List UInt8} (h : Own w base T 1 v n (bs l)) (hn : n ≤ 1000000) : PartIs w v l := by
 have h0 := h
 obtain ⟨a, c, rfl, hc, hr, -⟩ := h.form
 rw [Nat.mul_one] at hr
 refine ⟨a, n, c, rfl, hc, hn, hr, ?_⟩
 intro x hx
 exact (h0.lt (by rw [hx]; rfl)).2
def LogAt (w : World) (base g : Nat) (l : List UInt8) : Prop := ∃ v, Has w g [v] 228 ∧ Own w base 5 1 v 32 (bs l)
theorem LogAt.still {w w' : World} {base g : Nat} {l : List UInt8} (h : LogAt w base g l) (hf : Fr Nob w w') : LogAt w' base g l := by
 obtain ⟨v, h1, h2⟩ := h; exact ⟨v, h1.keep hf id, h2.still hf⟩
theorem LogAt.other {w w' : World} {base g g' : Nat} {l : List UInt8} (h : LogAt w base g l) (hf : Fr (One g') w w') (hne : g ≠ g') {L : List Value} {T : TypeId} (hg : Has w g' L T) (hT : 5 ≠ T) : LogAt w' base g l := by
 obtain ⟨v, h1, h2⟩ := h
 exact ⟨v, h1.keep hf hne, h2.keep hf (fun k hk (e : k = g') => h2.ne hg hT (e ▸ hk))⟩
theorem LogAt.lt {w : World} {base g : Nat} {l : List UInt8} (h : LogAt w base g l) : g < w.heap.size := by obtain ⟨v, h1, _⟩ := h; exact h1.lt
def RLogAt (w : World) (g : Nat) (l : List UInt8) : Prop := Has w g [.string (mkS l)] 197
theorem q0f (a : Option Addr) (n c : Nat) : Tryz.prog.built 228 [(0, .slice a n c)] = some #[.slice a n c] := by kernel_rfl
theorem o0D (s : ByteArray) : Tryz.prog.built 197 [(0, .string s)] = some #[.string s] := by kernel_rfl
def s0E : List UInt8 := [108, 111, 103]
def q0g : List UInt8 := [115, 97, 121]
def q0h : List UInt8 := [97, 115, 107]
def g0n : List UInt8 := [97, 115, 107, 101, 100]
theorem q0i : (⟨#[108, 111, 103]⟩ : ByteArray) = mkS s0E := rfl
theorem q0j : (⟨#[115, 97, 121]⟩ : ByteArray) = mkS q0g := rfl
theorem q0k : (⟨#[97, 115, 107]⟩ : ByteArray) = mkS q0h := rfl
theorem k0Q : (⟨#[97, 115, 107, 101, 100]⟩ : ByteArray) = mkS g0n := rfl
theorem e0B (k : List UInt8) (ls : List (List UInt8)) : (c0A k ls).length = 32 := by unfold c0A; exact h0k _ _ _
theorem n0m (k : List UInt8) (hk : k.length ≤ 100) (g c : Nat) (vs : List Value) (ls : List (List UInt8)) (w : World) (hh : Has w g vs 22) (hp : Parts w vs ls) (hm : ls.length ≤ 1000000) :
  Calls Tryz.prog 169 #[.string (mkS k), .slice (some ⟨g, 0, none⟩) ls.length c] w fun r w' => ∃ v, r = .returned v ∧ Own w' w.heap.size 5 1 v 32 (bs (c0A k ls)) ∧ Fr Nob w w' := by
 have := q0c (mkS k) (some ⟨g, 0, none⟩) c ls w (by rw [a0H]; omega) hm (hp.at hh)
 rwa [a0N] at this
theorem j0r (k : List UInt8) (g c : Nat) (ls : List (List UInt8)) (w : World) (hh : Has w g (ss ls) 9) (hs : k.length + g0H ls ≤ 100000) (hm : ls.length ≤ 1000) :
  Calls Tryz.prog 126 #[.string (mkS k), .slice (some ⟨g, 0, none⟩) ls.length c] w fun r w' => r = .returned (.string (mkS (c0A k ls))) ∧ Fr Nob w w' := by
 have hr := Rd.whole hh
 rw [u0I] at hr
 have := n0l (mkS k) (some ⟨g, 0, none⟩) c ls w (by rw [a0H]; exact hs) hm hr
 rwa [a0N] at this
theorem o0E (s : ByteArray) (w : World) (hs : s.size ≤ 1000000) :
  Calls Tryz.prog 153 #[.string s] w fun r w' => ∃ g, r = .returned (.pointer (some ⟨g, 0, none⟩)) ∧ w.heap.size ≤ g ∧ LogAt w' w.heap.size g (c0A s0E [s.data.toList]) ∧ Fr Nob w w' := by
 go_enter Tryz.func153, Tryz.ntmps153
 go_wp2_with (with_reducible refine wSk 4 ?_)
 refine d0s rfl rfl Tryz.underlying9 Tryz.underlying22 Tryz.underlying5 rfl (by unfold maxLen; omega) w.heap.size (Nat.le_refl _) ?_
 intro cap w1 hown1 hf1 hz1
 clear hz1
 go_wp2_with (with_reducible refine wSk 5 ?_)
 refine c0T rfl rfl Tryz.underlying39 j0q [.slice (some ⟨w.heap.size, 0, none⟩) s.size cap] rfl (by simp; rfl) rfl rfl ?_
 intro w2 hh2 hf2 hz2
 clear hz2
 have hfr2 := hf1.then hf2
 have hp2 : Parts w2 [.slice (some ⟨w.heap.size, 0, none⟩) s.size cap] [s.data.toList] := ⟨c0d (hown1.still hf2) hs, trivial⟩
 clear hown1 hf1 hf2
 have hb2 : w.heap.size ≤ w2.heap.size := hfr2.size
 generalize hgw : w.heap.size = g0 at *
 have HG := qH hgw; clear hgw
 generalize w1.heap.size = g1 at *
 rw [q0i]
 go_wp2_with fail
 refine (n0m s0E (by decide) _ _ _ _ w2 hh2 hp2 (by simp)).mono ?_
 rintro e w3 ⟨v3, rfl, hown3, hf3⟩
 have hfr3 := hfr2.then hf3
 have hf3s := hf3.size
 have hown3' := hown3.mono (base' := g0) hb2
 clear hown3 hf3 hfr2 hh2 hp2
 obtain ⟨a3, c3, rfl, -⟩ := g0m hown3'
 go_wp2_with (with_reducible refine wSk 7 ?_)
 refine b0y rfl rfl _ (q0f a3 32 c3) ?_
 refine i0v rfl rfl rfl [.slice a3 32 c3] rfl ?_
 intro w4 hh4 hf4 hz4
 clear hz4
 go_wp2_with fail
 go_ret
 rw [HG.out]
 exact ⟨_, rfl, Nat.le_trans hb2 hf3s, ⟨_, hh4, hown3'.still hf4⟩, hfr3.then hf4⟩
theorem LogAt.store {w : World} {base g : Nat} {v0 v : Value} {l : List UInt8} (h0 : Has w g [v0] 228) (h : Own w base 5 1 v 32 (bs l)) : LogAt (w.setCell ⟨g, 0, none⟩ v) base g l := by
 refine ⟨v, by simpa using h0.set 0 v, h.keep ((Fr.refl (One g) w).setCell g 0 none v (fun _ => rfl)) (fun k hk (e : k = g) => h.ne h0 (by decide) (e ▸ hk))⟩
theorem RLogAt.store {w : World} {g : Nat} {v0 : Value} {l : List UInt8} (h0 : Has w g [v0] 197) : RLogAt (w.setCell ⟨g, 0, none⟩ (.string (mkS l))) g l := by
 simpa [RLogAt] using h0.set 0 (.string (mkS l))
theorem f0s {w w' : World} (h : Fr Nob w w') (g : Nat) (v : Value) : Fr (One g) w (w'.setCell ⟨g, 0, none⟩ v) := (h.mono (fun _ _ t => t.elim)).setCell g 0 none v (fun _ => rfl)
theorem v0L (base g : Nat) (st : List UInt8) (s : ByteArray) (b : Option Addr) (n c : Nat) (l : List UInt8) (w : World) (hs : s.size ≤ 1000000) (hl : LogAt w base g st) (hb : PartIs w (.slice b n c) l) (hbase : base ≤ w.heap.size) :
  Calls Tryz.prog 154 #[.pointer (some ⟨g, 0, none⟩), .string s, .slice b n c] w fun r w' => r = .returned (.tuple #[]) ∧ LogAt w' base g (c0A q0g [st, s.data.toList, l]) ∧ Fr (One g) w w' := by
 obtain ⟨v, hg, hown⟩ := hl
 obtain ⟨a0, c0, rfl, -⟩ := g0m hown
 have hc := hg.cell (i := 0) rfl
 go_enter Tryz.func154, Tryz.ntmps154
 go_wp2_with (with_reducible refine wSk 12 ?_)
 refine d0s rfl rfl Tryz.underlying9 Tryz.underlying22 Tryz.underlying5 rfl (by unfold maxLen; omega) w.heap.size (Nat.le_refl _) ?_
 intro cap w1 hown1 hf1 hz1
 clear hz1
 go_wp2_with (with_reducible refine wSk 14 ?_)
 refine c0T rfl rfl Tryz.underlying39 j0q [.slice a0 32 c0, .slice (some ⟨w.heap.size, 0, none⟩) s.size cap, .slice b n c] rfl (by simp; exact ⟨rfl, rfl, rfl⟩) rfl rfl ?_
 intro w2 hh2 hf2 hz2
 clear hz2
 have hfr2 := hf1.then hf2
 have hp2 : Parts w2 [.slice a0 32 c0, .slice (some ⟨w.heap.size, 0, none⟩) s.size cap, .slice b n c] [st, s.data.toList, l] := ⟨c0d (hown.still hfr2) (by decide), c0d (hown1.still hf2) hs, hb.still hfr2, trivial⟩
 clear hown1 hf1 hf2
 have hb2 : base ≤ w2.heap.size := Nat.le_trans hbase hfr2.size
 generalize w.heap.size = g0 at *
 generalize w1.heap.size = g1 at *
 rw [q0j]
 go_wp2_with fail
 refine (n0m q0g (by decide) _ _ _ _ w2 hh2 hp2 (by simp)).mono ?_
 rintro e w3 ⟨v3, rfl, hown3, hf3⟩
 have hfr3 := hfr2.then hf3
 have hg3 := hg.keep hfr3 id
 have hown3' := hown3.mono (base' := base) hb2
 obtain ⟨a3, c3, rfl, -⟩ := g0m hown3'
 clear hown3 hf3 hfr2 hh2 hp2 hown hc hg
 have hc3 := hg3.cell (i := 0) rfl
 have hz3 := hg3.free 0 (by simp)
 go_wp2_with fail
 go_end0
 exact ⟨rfl, LogAt.store hg3 hown3', f0s hfr3 g _⟩
theorem v0M (base g : Nat) (st : List UInt8) (s : ByteArray) (m : Nat) (w : World) (hs : s.size ≤ 1000000) (hm : m ≤ 1024) (hl : LogAt w base g st) (hbase : base ≤ w.heap.size) :
  Calls Tryz.prog 155 #[.pointer (some ⟨g, 0, none⟩), .string s, .int .i64 (m : Int)] w fun r w' => ∃ v, r = .returned (.tuple #[v, .int .i64 0]) ∧ Own w' base 5 1 v m (bs (a0O (c0A q0h [st, s.data.toList]) 31 m)) ∧ LogAt w' base g (c0A g0n [st, s.data.toList]) ∧ Fr (One g) w w' := by
 obtain ⟨v, hg, hown⟩ := hl
 obtain ⟨a0, c0, rfl, -⟩ := g0m hown
 have hc := hg.cell (i := 0) rfl
 go_enter Tryz.func155, Tryz.ntmps155
 go_wp2_with (with_reducible refine wSk 20 ?_)
 refine d0s rfl rfl Tryz.underlying9 Tryz.underlying22 Tryz.underlying5 rfl (by unfold maxLen; omega) w.heap.size (Nat.le_refl _) ?_
 intro cap w1 hown1 hf1 hz1
 clear hz1
 go_wp2_with (with_reducible refine wSk 21 ?_)
 refine c0T rfl rfl Tryz.underlying39 j0q [.slice a0 32 c0, .slice (some ⟨w.heap.size, 0, none⟩) s.size cap] rfl (by simp; exact ⟨rfl, rfl⟩) rfl rfl ?_
 intro w2 hh2 hf2 hz2
 clear hz2
 have hfr2 := hf1.then hf2
 have hp2 : Parts w2 [.slice a0 32 c0, .slice (some ⟨w.heap.size, 0, none⟩) s.size cap] [st, s.data.toList] := ⟨c0d (hown.still hfr2) (by decide), c0d (hown1.still hf2) hs, trivial⟩
 clear hown1 hf1 hf2
 have hb2 : base ≤ w2.heap.size := Nat.le_trans hbase hfr2.size
 generalize w.heap.size = g0 at *
 generalize w1.heap.size = g1 at *
 rw [q0k]
 go_wp2_with fail
 refine (n0m q0h (by decide) _ _ _ _ w2 hh2 hp2 (by simp)).mono ?_
 rintro e w3 ⟨v3, rfl, hown3, hf3⟩
 have hfr3 := hfr2.then hf3
 have hb3 : base ≤ w3.heap.size := Nat.le_trans hb2 hf3.size
 have hg3 := hg.keep hfr3 id
 have hown3' := hown.still hfr3
 have hq3 := c0d hown3 (by decide)
 obtain ⟨a3, n3, c3, rfl, hn3, hm3, hr3, ho3⟩ := hq3
 have e3 : n3 = 32 := by
  obtain ⟨_, _, hv, -⟩ := g0m hown3
  cases hv; rfl
 subst e3
 clear hown3 hf3 hfr2 hh2 hp2 hown hc hg hm3
 have hc3 := hg3.cell (i := 0) rfl
 go_wp2_with fail
 refine (i0y a3 32 c3 _ m w3 (by omega) (by decide) hn3 hr3 ho3).mono ?_
 rintro e w4 ⟨v4, rfl, hown4, hf4⟩
 have hout := hown4.mono (base' := base) hb3
 have hfr4 := hfr3.then hf4
 have hg4 := hg3.keep hf4 id
 have hown4' := hown3'.still hf4
 have hb4 : base ≤ w4.heap.size := Nat.le_trans hb3 hf4.size
 have hc4 := hg4.cell (i := 0) rfl
 clear hown4 hf4 hfr3 hg3 hown3' hr3 ho3 hn3 hc3
 go_wp2_with (with_reducible refine wSk 31 ?_)
 refine d0s rfl rfl Tryz.underlying9 Tryz.underlying22 Tryz.underlying5 rfl (by unfold maxLen; omega) w4.heap.size (Nat.le_refl _) ?_
 intro cap5 w5 hown5 hf5 hz5
 clear hz5
 go_wp2_with (with_reducible refine wSk 32 ?_)
 refine c0T rfl rfl Tryz.underlying39 j0q [.slice a0 32 c0, .slice (some ⟨w4.heap.size, 0, none⟩) s.size cap5] rfl (by simp; exact ⟨rfl, rfl⟩) rfl rfl ?_
 intro w6 hh6 hf6 hz6
 clear hz6
 have hf56 := hf5.then hf6
 have hfr6 := hfr4.then hf56
 have hp6 : Parts w6 [.slice a0 32 c0, .slice (some ⟨w4.heap.size, 0, none⟩) s.size cap5] [st, s.data.toList] := ⟨c0d (hown4'.still hf56) (by decide), c0d (hown5.still hf6) hs, trivial⟩
 have hb6 : base ≤ w6.heap.size := Nat.le_trans hb4 hf56.size
 have hg6 := hg4.keep hf56 id
 have hout6 := hout.still hf56
 clear hown5 hf5 hf6 hf56 hfr4 hg4 hown4' hout hc4
 generalize w4.heap.size = g4 at *
 generalize w5.heap.size = g5 at *
 rw [k0Q]
 go_wp2_with fail
 refine (n0m g0n (by decide) _ _ _ _ w6 hh6 hp6 (by simp)).mono ?_
 rintro e w7 ⟨v7, rfl, hown7, hf7⟩
 have hfr7 := hfr6.then hf7
 have hg7 := hg6.keep hf7 id
 have hout7 := hout6.still hf7
 have hown7' := hown7.mono (base' := base) hb6
 obtain ⟨a7, c7, rfl, -⟩ := g0m hown7'
 obtain ⟨a8, c8, rfl, -⟩ := g0m hout7
 have hc7 := hg7.cell (i := 0) rfl
 have hz7 := hg7.free 0 (by simp)
 clear hown7 hf7 hfr6 hg6 hout6 hh6 hp6
 go_wp2_with fail
 go_ret2
 exact ⟨_, rfl, hout7.keep ((Fr.refl (One g) w7).setCell g 0 none _ (fun _ => rfl)) (fun k hk (e : k = g) => hout7.ne hg7 (by decide) (e ▸ hk)), LogAt.store hg7 hown7', f0s hfr7 g _⟩
theorem s0F (s : ByteArray) (w : World) (hs : s.size ≤ 50000) :
  Calls Tryz.prog 93 #[.string s] w fun r w' => ∃ g, r = .returned (.pointer (some ⟨g, 0, none⟩)) ∧ w.heap.size ≤ g ∧ RLogAt w' g (c0A s0E [s.data.toList]) ∧ Fr Nob w w' := by
 obtain ⟨l, rfl⟩ : ∃ l, s = mkS l := ⟨s.data.toList, (d0r s).symm⟩
 rw [a0H] at hs
 rw [a0N]
 go_enter Tryz.func93, Tryz.ntmps93
 go_wp2_with (with_reducible refine wSk 4 ?_)
 refine c0T rfl rfl Tryz.underlying40 g0I (ss [l]) rfl (by simp [ss]; rfl) rfl rfl ?_
 intro w2 hh2 hf2 hz2
 clear hz2
 generalize w.heap.size = g0 at *
 rw [q0i]
 go_wp2_with fail
 refine (j0r s0E _ _ _ w2 hh2 (by simp [g0H, s0E]; omega) (by simp)).mono ?_
 rintro e w3 ⟨rfl, hf3⟩
 have hfr3 := hf2.then hf3
 clear hf2 hf3 hh2
 go_wp2_with (with_reducible refine wSk 6 ?_)
 refine b0y rfl rfl _ (o0D _) ?_
 refine i0v rfl rfl rfl [.string (mkS (c0A s0E [l]))] rfl ?_
 intro w4 hh4 hf4 hz4
 clear hz4
 go_wp2_with fail
 go_ret
 exact ⟨_, rfl, hfr3.size, hh4, hfr3.then hf4⟩
theorem j0s (g : Nat) (st : List UInt8) (s t : ByteArray) (w : World) (hst : st.length = 32) (hs : s.size ≤ 40000) (ht : t.size ≤ 40000) (hl : RLogAt w g st) :
  Calls Tryz.prog 94 #[.pointer (some ⟨g, 0, none⟩), .string s, .string t] w fun r w' => r = .returned (.tuple #[]) ∧ RLogAt w' g (c0A q0g [st, s.data.toList, t.data.toList]) ∧ Fr (One g) w w' := by
 obtain ⟨l, rfl⟩ : ∃ l, s = mkS l := ⟨s.data.toList, (d0r s).symm⟩
 obtain ⟨k, rfl⟩ : ∃ l, t = mkS l := ⟨t.data.toList, (d0r t).symm⟩
 rw [a0H] at hs ht
 rw [a0N, a0N]
 have hc := Has.cell hl (i := 0) rfl
 go_enter Tryz.func94, Tryz.ntmps94
 go_wp2_with (with_reducible refine wSk 13 ?_)
 refine c0T rfl rfl Tryz.underlying40 g0I (ss [st, l, k]) rfl (by simp [ss]; exact ⟨rfl, rfl, rfl⟩) rfl rfl ?_
 intro w2 hh2 hf2 hz2
 clear hz2
 generalize w.heap.size = g0 at *
 rw [q0j]
 go_wp2_with fail
 refine (j0r q0g _ _ _ w2 hh2 (by simp [g0H, q0g]; omega) (by simp)).mono ?_
 rintro e w3 ⟨rfl, hf3⟩
 have hfr3 := hf2.then hf3
 have hg3 : Has w3 g _ _ := Has.keep hl hfr3 id
 have hc3 := hg3.cell (i := 0) rfl
 have hz3 := hg3.free 0 (by simp)
 clear hf2 hf3 hh2 hc
 go_wp2_with fail
 go_end0
 exact ⟨rfl, RLogAt.store hg3, f0s hfr3 g _⟩
theorem s0G (g : Nat) (st : List UInt8) (s : ByteArray) (m : Nat) (w : World) (hst : st.length = 32) (hs : s.size ≤ 40000) (hm : m ≤ 1024) (hl : RLogAt w g st) :
  Calls Tryz.prog 97 #[.pointer (some ⟨g, 0, none⟩), .string s, .int .i64 (m : Int)] w fun r w' => r = .returned (.string (mkS (a0O (c0A q0h [st, s.data.toList]) 31 m))) ∧ RLogAt w' g (c0A g0n [st, s.data.toList]) ∧ Fr (One g) w w' := by
 obtain ⟨l, rfl⟩ : ∃ l, s = mkS l := ⟨s.data.toList, (d0r s).symm⟩
 rw [a0H] at hs
 rw [a0N]
 have hc := Has.cell hl (i := 0) rfl
 go_enter Tryz.func97, Tryz.ntmps97
 go_wp2_with (with_reducible refine wSk 13 ?_)
 refine c0T rfl rfl Tryz.underlying40 g0I (ss [st, l]) rfl (by simp [ss]; exact ⟨rfl, rfl⟩) rfl rfl ?_
 intro w2 hh2 hf2 hz2
 clear hz2
 generalize w.heap.size = g0 at *
 rw [q0k]
 go_wp2_with fail
 refine (j0r q0h _ _ _ w2 hh2 (by simp [g0H, q0h]; omega) (by simp)).mono ?_
 rintro e w3 ⟨rfl, hf3⟩
 have hfr3 := hf2.then hf3
 have hg3 : Has w3 g _ _ := Has.keep hl hfr3 id
 clear hf2 hf3 hh2 hc
 have hl2 := e0B q0h [st, l]
 generalize htl : c0A q0h [st, l] = tl at *
 have HTL := qH htl; clear htl
 have HL2 := qH hl2; clear hl2
 go_wp2_with fail
 refine (h0t (mkS tl) m w3 (by rw [a0H, HL2.out]; omega) (by omega)).mono ?_
 rintro e w4 ⟨rfl, hf4⟩
 rw [a0N]
 have hfr4 := hfr3.then hf4
 have hg4 : Has w4 g _ _ := hg3.keep hf4 id
 have hc4 := hg4.cell (i := 0) rfl
 clear hfr3 hf4 hg3
 go_wp2_with (with_reducible refine wSk 23 ?_)
 refine c0T rfl rfl Tryz.underlying40 g0I (ss [st, l]) rfl (by simp [ss]; exact ⟨rfl, rfl⟩) rfl rfl ?_
 intro w5 hh5 hf5 hz5
 clear hz5
 generalize w4.heap.size = g4 at *
 rw [k0Q]
 go_wp2_with fail
 refine (j0r g0n _ _ _ w5 hh5 (by simp [g0H, g0n]; omega) (by simp)).mono ?_
 rintro e w6 ⟨rfl, hf6⟩
 have hf56 := hf5.then hf6
 have hfr6 := hfr4.then hf56
 have hg6 : Has w6 g _ _ := hg4.keep hf56 id
 have hc6 := hg6.cell (i := 0) rfl
 have hz6 := hg6.free 0 (by simp)
 clear hf5 hf6 hf56 hh5 hc4 hfr4 hg4
 go_wp2_with fail
 go_ret
 rw [HTL.out]
 exact ⟨rfl, RLogAt.store hg6, f0s hfr6 g _⟩
end Go.Proofs.YtemcankmggmgoaaGreat
namespace Go.Mv
open Go.RowKit
variable {P : Program}
structure St (S : Nat → Prop) (w0 w : World) (bl : List (Nat × List Value × TypeId)) : Prop where
 fr : Fr S w0 w
 own : ∀ x ∈ bl, w0.heap.size ≤ x.1 ∨ S x.1
 has : ∀ x ∈ bl, Has w x.1 x.2.1 x.2.2
 ne : bl.Pairwise fun x y => x.1 ≠ y.1
theorem St.start (S : Nat → Prop) (w : World) : St S w w [] := ⟨Fr.refl _ _, by simp, by simp, List.Pairwise.nil⟩
theorem St.at {S : Nat → Prop} {w0 w : World} {bl : List (Nat × List Value × TypeId)} (h : St S w0 w bl) (i : Nat) {g : Nat} {L : List Value} {T : TypeId} (hi : bl[i]? = some (g, L, T)) : Has w g L T :=
 h.has _ (List.mem_of_getElem? hi)
theorem St.neAt {S : Nat → Prop} {w0 w : World} {bl : List (Nat × List Value × TypeId)} (h : St S w0 w bl) {i j : Nat} {x y : Nat × List Value × TypeId} (hi : bl[i]? = some x) (hj : bl[j]? = some y) (hij : i ≠ j) : x.1 ≠ y.1 := by
 obtain ⟨hi1, rfl⟩ := List.getElem?_eq_some_iff.1 hi
 obtain ⟨hj1, rfl⟩ := List.getElem?_eq_some_iff.1 hj
 rcases Nat.lt_or_ge i j with k | k
 ·exact List.pairwise_iff_getElem.1 h.ne i j hi1 hj1 k
 ·exact (List.pairwise_iff_getElem.1 h.ne j i hj1 hi1 (by omega)).symm
theorem St.keep {S : Nat → Prop} {w0 w w' : World} {bl : List (Nat × List Value × TypeId)} (h : St S w0 w bl) (hf : Fr Nob w w') : St S w0 w' bl :=
 ⟨h.fr.same hf, h.own, fun x hx => (h.has x hx).keep hf id, h.ne⟩
theorem St.drew {S : Nat → Prop} {w0 w : World} {bl : List (Nat × List Value × TypeId)} (h : St S w0 w bl) : St S w0 w.drew bl := ⟨h.fr.drew, h.own, h.has, h.ne⟩
theorem St.drewN {S : Nat → Prop} {w0 w : World} {bl : List (Nat × List Value × TypeId)} (h : St S w0 w bl) (n : Nat) : St S w0 (w.drewN n) bl := ⟨h.fr.drewN n, h.own, h.has, h.ne⟩
theorem St.less {S : Nat → Prop} {w0 w : World} {bl bl' : List (Nat × List Value × TypeId)} (h : St S w0 w bl) (hs : bl'.Sublist bl) : St S w0 w bl' :=
 ⟨h.fr, fun x hx => h.own x (hs.subset hx), fun x hx => h.has x (hs.subset hx), h.ne.sublist hs⟩
theorem St.new {S : Nat → Prop} {w0 w w' : World} {bl : List (Nat × List Value × TypeId)} (h : St S w0 w bl) (hf : Fr Nob w w') {g : Nat} {L : List Value} {T : TypeId} (hg : Has w' g L T) (hn : w.heap.size ≤ g) : St S w0 w' (bl ++ [(g, L, T)]) := by
 refine ⟨h.fr.same hf, ?_, ?_, ?_⟩
 ·intro x hx
  rcases List.mem_append.1 hx with hx | hx
  ·exact h.own x hx
  ·simp only [List.mem_singleton] at hx
   subst hx
   exact .inl (Nat.le_trans h.fr.size hn)
 ·intro x hx
  rcases List.mem_append.1 hx with hx | hx
  ·exact (h.has x hx).keep hf id
  ·simp only [List.mem_singleton] at hx
   subst hx
   exact hg
 ·rw [List.pairwise_append]
  refine ⟨h.ne, List.pairwise_singleton _ _, ?_⟩
  intro x hx y hy
  simp only [List.mem_singleton] at hy
  subst hy
  have := (h.has x hx).lt
  show x.1 ≠ g
  omega
theorem St.put {S : Nat → Prop} {w0 w w' : World} {bl : List (Nat × List Value × TypeId)} (h : St S w0 w bl) (i : Nat) {g : Nat} {L L' : List Value} {T : TypeId} (hi : bl[i]? = some (g, L, T)) (hf : Fr (One g) w w') (hg : Has w' g L' T) : St S w0 w' (bl.set i (g, L', T)) := by
 obtain ⟨hi1, hi2⟩ := List.getElem?_eq_some_iff.1 hi
 refine ⟨?_, ?_, ?_, ?_⟩
 ·refine h.fr.trans hf fun j hj hjg => ?_
  have hjg' : j = g := hjg
  subst hjg'
  rcases h.own _ (List.mem_of_getElem? hi) with k | k
  ·have k' : w0.heap.size ≤ j := k
   omega
  ·exact k
 ·intro x hx
  rcases List.mem_or_eq_of_mem_set hx with hx | rfl
  ·exact h.own x hx
  ·exact h.own (g, L, T) (List.mem_of_getElem? hi)
 ·intro x hx
  obtain ⟨j, hj1, hj2⟩ := List.mem_iff_getElem.1 hx
  rw [List.length_set] at hj1
  rw [List.getElem_set] at hj2
  by_cases e : i = j
  ·rw [if_pos e] at hj2; subst hj2; exact hg
  ·rw [if_neg e] at hj2
   subst hj2
   refine (h.has _ (List.getElem_mem hj1)).keep hf fun t => ?_
   exact h.neAt hi (List.getElem?_eq_getElem hj1) e (Eq.symm t)
 ·rw [List.pairwise_iff_getElem]
  intro j k hj hk hjk
  have e := List.pairwise_iff_getElem.1 h.ne j k (by simpa using hj) (by simpa using hk) hjk
  rw [List.getElem_set, List.getElem_set]
  split
  ·rename_i e1; subst e1
   rw [hi2] at e
   split
   ·omega
   ·exact e
  ·split
   ·rename_i e2; subst e2; rw [hi2] at e; exact e
   ·exact e
theorem St.set {S : Nat → Prop} {w0 w : World} {bl : List (Nat × List Value × TypeId)} (h : St S w0 w bl) (i : Nat) {g : Nat} {L : List Value} {T : TypeId} (hi : bl[i]? = some (g, L, T)) (k : Nat) (v : Value) : St S w0 (w.setCell ⟨g, k, none⟩ v) (bl.set i (g, L.set k v, T)) :=
 h.put i hi ((Fr.refl (One g) w).setCell g k none v (fun _ => rfl)) ((h.at i hi).set k v)
theorem St.take {S : Nat → Prop} {w0 w : World} {bl : List (Nat × List Value × TypeId)} (h : St S w0 w bl) {g : Nat} {L : List Value} {T : TypeId} (hg : Has w g L T) (hS : S g) (hn : ∀ x ∈ bl, x.1 ≠ g) : St S w0 w (bl ++ [(g, L, T)]) := by
 refine ⟨h.fr, ?_, ?_, ?_⟩
 ·intro x hx
  rcases List.mem_append.1 hx with hx | hx
  ·exact h.own x hx
  ·simp only [List.mem_singleton] at hx; subst hx; exact .inr hS
 ·intro x hx
  rcases List.mem_append.1 hx with hx | hx
  ·exact h.has x hx
  ·simp only [List.mem_singleton] at hx; subst hx; exact hg
 ·rw [List.pairwise_append]
  refine ⟨h.ne, List.pairwise_singleton _ _, ?_⟩
  intro x hx y hy
  simp only [List.mem_singleton] at hy
  subst hy
  exact hn x hx
theorem St.one {w : World} {g : Nat} {L : List Value} {T : TypeId} (hg : Has w g L T) : St (One g) w w [(g, L, T)] := (St.start (One g) w).take hg rfl (by simp)
section
variable {w w0 : World} {ops : Array Oper} {rest : List Oper} {o : Oper} {a : Act} {Q : Exit → Act → World → Prop} {S : Nat → Prop} {bl : List (Nat × List Value × TypeId)}
theorem a0m (hst : St S w0 w bl) {e : TypeId} {x : Operand} (hgd : o.guard = none) (ho : o.op = .box e x) {v : Value} (hx : a.eval x = v) (L : List Value) (hL : v.cells.toList = L)
  (h : ∀ g w', St S w0 w' (bl ++ [(g, L, e)]) → wpList P ops Q rest (a.put o.dst (.pointer (some ⟨g, 0, none⟩))) w') : wpList P ops Q (o :: rest) a w :=
 i0v hgd ho hx L hL fun w' hg hf _ => h _ w' (hst.new hf hg (Nat.le_refl _))
theorem a0c (hst : St S w0 w bl) {e : TypeId} (hgd : o.guard = none) (ho : o.op = .alloc e) {z : Value} (hi : (P.info? e).map (·.zero) = some (some z)) (L : List Value) (hL : z.cells.toList = L)
  (h : ∀ g w', St S w0 w' (bl ++ [(g, L, e)]) → wpList P ops Q rest (a.put o.dst (.pointer (some ⟨g, 0, none⟩))) w') : wpList P ops Q (o :: rest) a w :=
 d0S hgd ho hi L hL fun w' hg hf _ => h _ w' (hst.new hf hg (Nat.le_refl _))
theorem a0i (hst : St S w0 w bl) (i : Nat) {g : Nat} {L : List Value} {T : TypeId} (hb : bl[i]? = some (g, L, T)) {ty : TypeId} {x : Operand} (hgd : o.guard = none) (ho : o.op = .load ty x) {n : Nat} {e : TypeId} (hu : P.underlying ty = some (.array n e)) (hx : a.eval x = .pointer (some ⟨g, 0, none⟩))
  (hi : (P.info? ty).map (·.size) = some L.length) (h : wpList P ops Q rest (a.put o.dst (.agg L.toArray)) w) : wpList P ops Q (o :: rest) a w :=
 b0N hgd ho hu hx (hst.at i hb) L dZl hi h
theorem a0p (hst : St S w0 w bl) (i : Nat) {g : Nat} {L : List Value} {T : TypeId} (hb : bl[i]? = some (g, L, T)) {ty : TypeId} {x : Operand} (hgd : o.guard = none) (ho : o.op = .load ty x) {d : TypeDesc} (hu : P.underlying ty = some d) (hd : d.isRow = true) (hx : a.eval x = .pointer (some ⟨g, 0, none⟩))
  (hi : (P.info? ty).map (·.size) = some L.length) (h : wpList P ops Q rest (a.put o.dst (.agg L.toArray)) w) : wpList P ops Q (o :: rest) a w :=
 wpList_load_mid hgd ty x ho g 0 hx L _ ((hst.at i hb).range 0 L dZl) hu hd hi h
theorem a0b (hst : St S w0 w bl) (i : Nat) {g : Nat} {L : List Value} {T : TypeId} (hb : bl[i]? = some (g, L, T)) {ty : TypeId} {x y : Operand} (hgd : o.guard = none) (ho : o.op = .store ty x y) (hx : a.eval x = .pointer (some ⟨g, 0, none⟩)) {cs : List Value} (hy : a.eval y = .agg cs.toArray)
  (hn : cs.length = L.length) (hi : (P.info? ty).map (·.size) = some cs.length) (h1 : ∀ v ∈ cs, v.oneCell' = true)
  (h : ∀ w', St S w0 w' (bl.set i (g, cs, T)) → wpList P ops Q rest (a.put o.dst undef) w') : wpList P ops Q (o :: rest) a w :=
 e0l hgd ho hx hy (hst.at i hb) (by omega) hi h1 fun w' hg hf _ => h w' (hst.put i hb hf (by rwa [c0i _ _ hn] at hg))
end
end Go.Mv
namespace Mvp
abbrev B64 : Nat := 18446744073709551616
def lw (a i : Nat) : Nat := a / B64 ^ i % B64
def a0F (n a : Nat) : List Nat := (List.range n).map (lw a)
def mix (A B k : Nat) : Nat := A % B64 ^ k + B / B64 ^ k * B64 ^ k
theorem b0O (k : Nat) : 0 < B64 ^ k := Nat.pow_pos (by decide)
theorem c0C (a i : Nat) : lw a i < 18446744073709551616 := Nat.mod_lt _ (by decide)
theorem b0j (n a : Nat) : (a0F n a).length = n := by simp [a0F]
theorem c0u (n a i : Nat) (h : i < n) : (a0F n a)[i]? = some (lw a i) := by simp [a0F, h]
theorem u0J (a : Nat) : a0F 4 a = [lw a 0, lw a 1, lw a 2, lw a 3] := rfl
theorem e0n (a i k : Nat) (h : i < k) : lw (a % B64 ^ k) i = lw a i := by
 unfold lw
 obtain ⟨j, rfl⟩ : ∃ j, k = i + (1 + j) := ⟨k - i - 1, by omega⟩
 rw [Nat.pow_add, Nat.mod_mul_right_div_self, Nat.pow_add, Nat.pow_one, Nat.mod_mul_right_mod]
theorem c0k (a k i : Nat) : lw (a / B64 ^ k) i = lw a (k + i) := by
 unfold lw
 rw [Nat.div_div_eq_div_mul, ← Nat.pow_add]
theorem v0N (A B k : Nat) : mix A B k % B64 ^ k = A % B64 ^ k := by
 unfold mix
 rw [Nat.add_mul_mod_self_right, Nat.mod_mod]
theorem v0O (A B k : Nat) : mix A B k / B64 ^ k = B / B64 ^ k := by
 unfold mix
 rw [Nat.add_mul_div_right _ _ (b0O k), Nat.div_eq_of_lt (Nat.mod_lt _ (b0O k)), Nat.zero_add]
theorem g0o (A B k i : Nat) : lw (mix A B k) i = if i < k then lw A i else lw B i := by
 split
 ·rename_i h
  rw [← e0n _ i k h, v0N, e0n _ i k h]
 ·rename_i h
  obtain ⟨j, rfl⟩ : ∃ j, i = k + j := ⟨i - k, by omega⟩
  rw [← c0k, ← c0k, v0O]
theorem e0o {n a b : Nat} (h : ∀ i, i < n → lw a i = lw b i) : a0F n a = a0F n b := by
 unfold a0F
 apply List.map_congr_left
 intro i hi
 exact h i (List.mem_range.1 hi)
theorem q0l (n A B k : Nat) (h : k < n) : (a0F n (mix A B k)).set k (lw A k) = a0F n (mix A B (k + 1)) := by
 have _h := h
 apply List.ext_getElem?
 intro i
 rw [List.getElem?_set]
 rcases Nat.lt_or_ge i n with hi | hi
 ·rw [c0u _ _ _ hi, c0u _ _ _ hi, g0o, g0o, b0j]
  by_cases e : k = i
  ·subst e; simp [h]
  ·rw [if_neg e]
   congr 1
   by_cases h2 : i < k
   ·rw [if_pos h2, if_pos (by omega)]
   ·rw [if_neg h2, if_neg (by omega)]
 ·rw [List.getElem?_eq_none (by rw [b0j]; exact hi), List.getElem?_eq_none (by rw [b0j]; exact hi)]
  split
  ·rw [b0j, if_neg (by omega)]
  ·rfl
theorem d0t (A B : Nat) : mix A B 0 = B := by simp [mix, Nat.mod_one]
theorem v0P (A B k : Nat) (ha : A < B64 ^ k) (hb : B < B64 ^ k) : mix A B k = A := by
 unfold mix
 rw [Nat.mod_eq_of_lt ha, Nat.div_eq_of_lt hb, Nat.zero_mul, Nat.add_zero]
theorem h0v (A B k : Nat) (h : B < B64 ^ k) : mix A B k = A % B64 ^ k := by
 unfold mix
 rw [Nat.div_eq_of_lt h, Nat.zero_mul, Nat.add_zero]
theorem q0m (n a : Nat) : a0F n (a % B64 ^ n) = a0F n a := e0o fun i hi => e0n a i n hi
theorem d0a (a k : Nat) : a % B64 ^ (k + 1) = a % B64 ^ k + B64 ^ k * lw a k := by
 unfold lw
 rw [Nat.pow_succ, Nat.mod_mul]
theorem d0W {n a b : Nat} (h : a0F n a = a0F n b) : a % B64 ^ n = b % B64 ^ n := by
 have hw : ∀ i, i < n → lw a i = lw b i := fun i hi => by
  have h1 := c0u n a i hi
  rw [h, c0u n b i hi] at h1
  exact (Option.some.inj h1).symm
 clear h
 induction n with
 | zero => simp [Nat.mod_one]
 | succ k ih => rw [d0a, d0a, ih (fun i hi => hw i (by omega)), hw k (by omega)]
def b0v (a b k : Nat) : Nat := (a % B64 ^ k + b % B64 ^ k) / B64 ^ k
theorem k0R (a b : Nat) : b0v a b 0 = 0 := by simp [b0v, Nat.mod_one]
theorem q0n (a b k : Nat) : b0v a b k ≤ 1 := by
 unfold b0v
 have h := b0O k
 have h1 := Nat.mod_lt a h
 have h2 := Nat.mod_lt b h
 generalize B64 ^ k = W at *
 exact Nat.le_of_lt_succ (Nat.div_lt_of_lt_mul (by omega))
theorem k0S (a b k : Nat) : b0v a b (k + 1) = (lw a k + lw b k + b0v a b k) / 18446744073709551616 := by
 unfold b0v
 rw [d0a, d0a, Nat.pow_succ, ← Nat.div_div_eq_div_mul]
 congr 1
 have e : a % B64 ^ k + B64 ^ k * lw a k + (b % B64 ^ k + B64 ^ k * lw b k) = (a % B64 ^ k + b % B64 ^ k) + B64 ^ k * (lw a k + lw b k) := by rw [Nat.mul_add]; omega
 rw [e, Nat.add_mul_div_left _ _ (b0O k)]
 omega
theorem u0K (a b k : Nat) : lw (a + b) k = (lw a k + lw b k + b0v a b k) % 18446744073709551616 := by
 unfold lw b0v
 have h := b0O k
 have e : a + b = (a % B64 ^ k + b % B64 ^ k) + B64 ^ k * (a / B64 ^ k + b / B64 ^ k) := by
  have h1 := Nat.div_add_mod a (B64 ^ k)
  have h2 := Nat.div_add_mod b (B64 ^ k)
  rw [Nat.mul_add]; omega
 have e2 : (a + b) / B64 ^ k = (a % B64 ^ k + b % B64 ^ k) / B64 ^ k + (a / B64 ^ k + b / B64 ^ k) := by
  conv => lhs; rw [e]
  rw [Nat.add_mul_div_left _ _ h]
 rw [e2]
 generalize (a % B64 ^ k + b % B64 ^ k) / B64 ^ k = x
 generalize a / B64 ^ k = y
 generalize b / B64 ^ k = z
 show (x + (y + z)) % 18446744073709551616 = (y % 18446744073709551616 + z % 18446744073709551616 + x) % 18446744073709551616
 omega
theorem s0H (a b k : Nat) (ha : a < B64 ^ k) (hb : b < B64 ^ k) : b0v a b k = (a + b) / B64 ^ k := by
 unfold b0v; rw [Nat.mod_eq_of_lt ha, Nat.mod_eq_of_lt hb]
def b0n (a b k : Nat) : Nat := if a % B64 ^ k < b % B64 ^ k then 1 else 0
theorem f0t (a b : Nat) : b0n a b 0 = 0 := by simp [b0n, Nat.mod_one]
theorem j0t (a b k : Nat) : b0n a b k ≤ 1 := by unfold b0n; split <;> omega
theorem f0u (a b k : Nat) : b0n a b (k + 1) = if lw a k < lw b k + b0n a b k then 1 else 0 := by
 unfold b0n
 rw [d0a, d0a]
 have h := b0O k
 have h1 := Nat.mod_lt a h
 have h2 := Nat.mod_lt b h
 generalize lw a k = x
 generalize lw b k = y
 generalize a % B64 ^ k = p at *
 generalize b % B64 ^ k = q at *
 generalize B64 ^ k = W at *
 rcases Nat.lt_trichotomy x y with hxy | hxy | hxy
 ·obtain ⟨d, rfl⟩ : ∃ d, y = x + 1 + d := ⟨y - x - 1, by omega⟩
  have e : W * (x + 1 + d) = W * x + W + W * d := by rw [Nat.mul_add, Nat.mul_add, Nat.mul_one]
  rw [e]
  rw [if_pos (by omega), if_pos (by omega)]
 ·subst hxy
  by_cases hpq : p < q
  ·rw [if_pos hpq, if_pos (by omega), if_pos (by omega)]
  ·rw [if_neg hpq, if_neg (by omega), if_neg (by omega)]
 ·obtain ⟨d, rfl⟩ : ∃ d, x = y + 1 + d := ⟨x - y - 1, by omega⟩
  have e : W * (y + 1 + d) = W * y + W + W * d := by rw [Nat.mul_add, Nat.mul_add, Nat.mul_one]
  rw [e]
  rw [if_neg (by omega), if_neg (by split <;> omega)]
theorem n0n (n a b k : Nat) (hb : b < B64 ^ n) (hk : k < n) : lw (a + B64 ^ n - b) k = (lw a k + 18446744073709551616 - lw b k - b0n a b k) % 18446744073709551616 := by
 obtain ⟨j, rfl⟩ : ∃ j, n = k + (1 + j) := ⟨n - k - 1, by omega⟩
 have hW := b0O k
 have hT := b0O j
 have hN : B64 ^ (k + (1 + j)) = B64 ^ k * (B64 * B64 ^ j) := by rw [Nat.pow_add, Nat.pow_add, Nat.pow_one]
 rw [hN] at hb ⊢
 have ha1 := Nat.div_add_mod a (B64 ^ k)
 have hb1 := Nat.div_add_mod b (B64 ^ k)
 have ha2 := Nat.mod_lt a hW
 have hb2 := Nat.mod_lt b hW
 have hbh : b / B64 ^ k < B64 * B64 ^ j := Nat.div_lt_of_lt_mul hb
 unfold lw b0n
 generalize a / B64 ^ k = x at *
 generalize b / B64 ^ k = y at *
 generalize a % B64 ^ k = p at *
 generalize b % B64 ^ k = q at *
 generalize B64 ^ j = T at *
 generalize B64 ^ k = W at *
 have hq : ∃ c, c ≤ 1 ∧ (c = if p < q then 1 else 0) ∧ p + c * W < q + W ∧ q ≤ p + c * W := by
  by_cases h : p < q
  ·exact ⟨1, by omega, by rw [if_pos h], by omega, by omega⟩
  ·exact ⟨0, by omega, by rw [if_neg h], by omega, by omega⟩
 obtain ⟨c, hc1, hc2, hc3, hc4⟩ := hq
 rw [← hc2]
 have hyc : y + c ≤ x + B64 * T := by omega
 have e : (a + W * (B64 * T) - b) / W = x + B64 * T - y - c := by
  have h1 : a + W * (B64 * T) - b = W * (x + B64 * T - y - c) + (p + c * W - q) := by
   have h2 : W * (x + B64 * T - y - c) + W * (y + c) = W * x + W * (B64 * T) := by
    rw [← Nat.mul_add, ← Nat.mul_add]; congr 1; omega
   have h3 : W * (y + c) = W * y + c * W := by rw [Nat.mul_add, Nat.mul_comm W c]
   generalize W * (x + B64 * T - y - c) = u at *
   generalize W * (B64 * T) = v at *
   generalize W * (y + c) = z at *
   omega
  rw [h1, Nat.mul_add_div hW, Nat.div_eq_of_lt (by omega), Nat.add_zero]
 rw [e]
 show (x + 18446744073709551616 * T - y - c) % 18446744073709551616 = (x % 18446744073709551616 + 18446744073709551616 - y % 18446744073709551616 - c) % 18446744073709551616
 have hyc' : y + c ≤ x + 18446744073709551616 * T := hyc
 omega
theorem e0C (a b k : Nat) (ha : a < B64 ^ k) (hb : b < B64 ^ k) : b0n a b k = if a < b then 1 else 0 := by
 unfold b0n; rw [Nat.mod_eq_of_lt ha, Nat.mod_eq_of_lt hb]
def b0k (L x n k : Nat) : Nat := (L % B64 ^ k + x * (n % B64 ^ k)) / B64 ^ k
theorem k0T (L x n : Nat) : b0k L x n 0 = 0 := by simp [b0k, Nat.mod_one]
theorem h0w (L x n k : Nat) (hx : x < 18446744073709551616) : b0k L x n k < 18446744073709551616 := by
 unfold b0k
 have h := b0O k
 have h1 := Nat.mod_lt L h
 have h2 := Nat.mod_lt n h
 have h3 : x * (n % B64 ^ k) ≤ 18446744073709551615 * (n % B64 ^ k) := Nat.mul_le_mul_right _ (by omega)
 generalize B64 ^ k = W at *
 refine Nat.div_lt_of_lt_mul ?_
 omega
theorem f0v (L x n k : Nat) : b0k L x n (k + 1) = (lw L k + x * lw n k + b0k L x n k) / 18446744073709551616 := by
 unfold b0k
 rw [d0a, d0a, Nat.pow_succ, ← Nat.div_div_eq_div_mul]
 congr 1
 have e : L % B64 ^ k + B64 ^ k * lw L k + x * (n % B64 ^ k + B64 ^ k * lw n k) = (L % B64 ^ k + x * (n % B64 ^ k)) + B64 ^ k * (lw L k + x * lw n k) := by
  rw [Nat.mul_add, Nat.mul_add, Nat.mul_left_comm x]; omega
 rw [e, Nat.add_mul_div_left _ _ (b0O k)]
 omega
theorem h0x (L x n k : Nat) : lw (L + x * n) k = (lw L k + x * lw n k + b0k L x n k) % 18446744073709551616 := by
 unfold lw b0k
 have h := b0O k
 have e : L + x * n = (L % B64 ^ k + x * (n % B64 ^ k)) + B64 ^ k * (L / B64 ^ k + x * (n / B64 ^ k)) := by
  have h1 := Nat.div_add_mod L (B64 ^ k)
  have h2 := Nat.div_add_mod n (B64 ^ k)
  have h3 : x * n = x * (B64 ^ k * (n / B64 ^ k)) + x * (n % B64 ^ k) := by rw [← Nat.mul_add, h2]
  have h4 : x * (B64 ^ k * (n / B64 ^ k)) = B64 ^ k * (x * (n / B64 ^ k)) := Nat.mul_left_comm _ _ _
  rw [Nat.mul_add]; omega
 have e2 : (L + x * n) / B64 ^ k = (L % B64 ^ k + x * (n % B64 ^ k)) / B64 ^ k + (L / B64 ^ k + x * (n / B64 ^ k)) := by
  conv => lhs; rw [e]
  rw [Nat.add_mul_div_left _ _ h]
 rw [e2]
 generalize (L % B64 ^ k + x * (n % B64 ^ k)) / B64 ^ k = u
 generalize L / B64 ^ k = y
 generalize n / B64 ^ k = z
 show (u + (y + x * z)) % 18446744073709551616 = (y % 18446744073709551616 + x * (z % 18446744073709551616) + u) % 18446744073709551616
 have e3 : x * (z % 18446744073709551616) % 18446744073709551616 = x * z % 18446744073709551616 := Nat.mul_mod_mod _ _ _
 generalize x * (z % 18446744073709551616) = s at *
 generalize x * z = t at *
 omega
theorem s0I (L x n k : Nat) (hL : L < B64 ^ k) (hn : n < B64 ^ k) : b0k L x n k = (L + x * n) / B64 ^ k := by
 unfold b0k; rw [Nat.mod_eq_of_lt hL, Nat.mod_eq_of_lt hn]
theorem o0F (p t c : Nat) (hp : p ≤ 18446744073709551615 * 18446744073709551615) (hc : c < 18446744073709551616) :
  (t + (p % 18446744073709551616 + c) % 18446744073709551616) % 18446744073709551616 = (t + p + c) % 18446744073709551616 ∧
  p / 18446744073709551616 + (p % 18446744073709551616 + c) / 18446744073709551616 < 18446744073709551616 ∧
  p / 18446744073709551616 + (p % 18446744073709551616 + c) / 18446744073709551616 + (t + (p % 18446744073709551616 + c) % 18446744073709551616) / 18446744073709551616 = (t + p + c) / 18446744073709551616 := by
 omega
theorem i0A (p t c : Nat) (hp : p ≤ 18446744073709551615 * 18446744073709551615) (hc : c < 18446744073709551616) :
  ∃ hi lo lo2 c1 t2 c2 : Nat, p / 18446744073709551616 = hi ∧ p % 18446744073709551616 = lo ∧ (lo + c) % 18446744073709551616 = lo2 ∧ (lo + c) / 18446744073709551616 = c1 ∧ hi + c1 < 18446744073709551616 ∧
   (t + lo2) % 18446744073709551616 = t2 ∧ (t + lo2) / 18446744073709551616 = c2 ∧ t2 = (t + p + c) % 18446744073709551616 ∧ hi + c1 + c2 = (t + p + c) / 18446744073709551616 := by
 obtain ⟨h1, h2, h3⟩ := o0F p t c hp hc
 exact ⟨_, _, _, _, _, _, rfl, rfl, rfl, rfl, h2, rfl, rfl, h1, h3⟩
theorem h0y {x y : Nat} (hx : x < 18446744073709551616) (hy : y < 18446744073709551616) : x * y ≤ 18446744073709551615 * 18446744073709551615 :=
 Nat.mul_le_mul (by omega) (by omega)
theorem h0z (P Q i j : Nat) (h : j < i) : lw (P + B64 ^ i * Q) j = lw P j := by
 rw [← e0n _ j i h, Nat.add_mul_mod_self_left, e0n _ j i h]
theorem c0E (P Q i k : Nat) : lw (P + B64 ^ i * Q) (i + k) = lw (P / B64 ^ i + Q) k := by
 rw [← c0k, Nat.add_mul_div_left _ _ (b0O i)]
theorem c0W (a n i : Nat) (h : a < B64 ^ n) (hi : n ≤ i) : lw a i = 0 := by
 unfold lw
 rw [Nat.div_eq_of_lt (Nat.lt_of_lt_of_le h (Nat.pow_le_pow_right (by decide) hi)), Nat.zero_mod]
theorem g0J (a b i : Nat) : a % B64 ^ i * b + B64 ^ i * (lw a i * b) = a % B64 ^ (i + 1) * b := by
 rw [d0a, Nat.add_mul, Nat.mul_assoc]
theorem q0o (a b i : Nat) (hb : b < B64 ^ 4) : a % B64 ^ i * b < B64 ^ (i + 4) := by
 have h := Nat.mod_lt a (b0O i)
 rw [Nat.pow_add]
 exact Nat.mul_lt_mul'' h hb
theorem v0Q (a b i : Nat) (hb : b < B64 ^ 4) : lw (a % B64 ^ (i + 1) * b) (i + 4) = b0k (a % B64 ^ i * b / B64 ^ i) (lw a i) b 4 := by
 rw [← g0J, c0E, h0x, c0W b 4 4 hb (Nat.le_refl _), c0k, c0W _ _ _ (q0o a b i hb) (Nat.le_refl _), Nat.mul_zero, Nat.zero_add]
 exact Nat.mod_eq_of_lt (h0w _ _ _ _ (c0C a i))
theorem v0R (a b i : Nat) (hb : b < B64 ^ 4) : mix (a % B64 ^ (i + 1) * b) (a % B64 ^ i * b) (i + 4 + 1) = a % B64 ^ (i + 1) * b := by
 refine v0P _ _ _ ?_ ?_
 ·have := q0o a b (i + 1) hb
  rwa [show i + 1 + 4 = i + 4 + 1 by omega] at this
 ·refine Nat.lt_trans (q0o a b i hb) (Nat.pow_lt_pow_right (by decide) (by omega))
theorem s0J (a b i k : Nat) : lw (a % B64 ^ i * b) (i + k) = lw (a % B64 ^ i * b / B64 ^ i) k := by rw [c0k]
theorem v0S (a b i k : Nat) : lw (a % B64 ^ (i + 1) * b) (i + k) = lw (a % B64 ^ i * b / B64 ^ i + lw a i * b) k := by
 rw [← g0J, c0E]
theorem q0p (a b i : Nat) : mix (a % B64 ^ (i + 1) * b) (a % B64 ^ i * b) (i + 0) = a % B64 ^ i * b := by
 rw [← g0J, Nat.add_zero]
 generalize a % B64 ^ i * b = V
 unfold mix
 rw [Nat.add_mul_mod_self_left, Nat.mul_comm, Nat.mod_add_div]
theorem s0K (b : Nat) (a : Nat) : a % B64 ^ 0 * b = 0 := by simp [Nat.mod_one]
def a0M (C V : Nat) : Nat := V / B64 ^ 4 * C + V % B64 ^ 4
theorem q0q (P C V : Nat) (h : P + C = B64 ^ 4) : a0M C V % P = V % P := by
 have e : V = a0M C V + P * (V / B64 ^ 4) := by
  have h1 := Nat.div_add_mod V (B64 ^ 4)
  unfold a0M
  rw [← h] at h1 ⊢
  generalize V / (P + C) = q at *
  rw [Nat.add_mul] at h1
  rw [Nat.mul_comm q C]
  omega
 conv => rhs; rw [e]
 rw [Nat.add_mul_mod_self_left]
theorem s0L (C V : Nat) (hC : C < B64 ^ 4) (h : V / B64 ^ 4 ≠ 0) : a0M C V < V := by
 have h1 := Nat.div_add_mod V (B64 ^ 4)
 unfold a0M
 generalize V / B64 ^ 4 = q at *
 have h2 : q * C < B64 ^ 4 * q := by
  rw [Nat.mul_comm]
  exact Nat.mul_lt_mul_of_pos_right hC (by omega)
 omega
theorem x0z (a b c d : Nat) : (a ||| b ||| c ||| d = 0) ↔ (a = 0 ∧ b = 0 ∧ c = 0 ∧ d = 0) := by
 simp [Nat.or_eq_zero_iff, and_assoc]
theorem s0M (V : Nat) (h : V < B64 ^ 8) : (lw V 4 ||| lw V 5 ||| lw V 6 ||| lw V 7 = 0) ↔ V / B64 ^ 4 = 0 := by
 rw [x0z]
 have e : V / B64 ^ 4 < B64 ^ 4 := Nat.div_lt_of_lt_mul (by rw [← Nat.pow_add]; exact h)
 have k0 := c0k V 4 0
 have k1 := c0k V 4 1
 have k2 := c0k V 4 2
 have k3 := c0k V 4 3
 rw [show 4 + 0 = 4 from rfl] at k0
 rw [show 4 + 1 = 5 from rfl] at k1
 rw [show 4 + 2 = 6 from rfl] at k2
 rw [show 4 + 3 = 7 from rfl] at k3
 rw [← k0, ← k1, ← k2, ← k3]
 generalize V / B64 ^ 4 = D at *
 constructor
 ·rintro ⟨h0, h1, h2, h3⟩
  have hm : D % B64 ^ 4 = 0 % B64 ^ 4 := d0W (e0o fun i hi => by
   have : i = 0 ∨ i = 1 ∨ i = 2 ∨ i = 3 := by omega
   rcases this with rfl | rfl | rfl | rfl
   ·rw [h0]; decide
   ·rw [h1]; decide
   ·rw [h2]; decide
   ·rw [h3]; decide)
  rw [Nat.mod_eq_of_lt e] at hm
  simpa using hm
 ·rintro rfl; decide
theorem o0G (D : Nat) (e : D < B64 ^ 4) : (lw D 0 ||| lw D 1 ||| lw D 2 ||| lw D 3 = 0) ↔ D = 0 := by
 rw [x0z]
 constructor
 ·rintro ⟨h0, h1, h2, h3⟩
  have hm : D % B64 ^ 4 = 0 % B64 ^ 4 := d0W (e0o fun i hi => by
   have : i = 0 ∨ i = 1 ∨ i = 2 ∨ i = 3 := by omega
   rcases this with rfl | rfl | rfl | rfl
   ·rw [h0]; decide
   ·rw [h1]; decide
   ·rw [h2]; decide
   ·rw [h3]; decide)
  rw [Nat.mod_eq_of_lt e] at hm
  simpa using hm
 ·rintro rfl; decide
theorem n0o (V x n : Nat) (hn : n < B64 ^ 4) (hV : V + x * n < B64 ^ 6) (hVV : V < B64 ^ 6) :
  (lw V 4 + b0k V x n 4) % 18446744073709551616 = lw (V + x * n) 4 ∧ lw V 5 + (lw V 4 + b0k V x n 4) / 18446744073709551616 = lw (V + x * n) 5 ∧ lw V 5 + (lw V 4 + b0k V x n 4) / 18446744073709551616 < 18446744073709551616 := by
 have z4 : lw n 4 = 0 := c0W n 4 4 hn (by decide)
 have z5 : lw n 5 = 0 := c0W n 4 5 hn (by decide)
 have h4 := h0x V x n 4
 have h5 := h0x V x n 5
 have c5 := f0v V x n 4
 have c6 := f0v V x n 5
 rw [z4, Nat.mul_zero, Nat.add_zero] at h4 c5
 rw [z5, Nat.mul_zero, Nat.add_zero] at h5 c6
 have hc6 : b0k V x n 6 = 0 := by
  rw [s0I V x n 6 hVV (Nat.lt_trans hn (by decide))]
  exact Nat.div_eq_of_lt hV
 rw [hc6] at c6
 rw [c5] at h5 c6
 try rw [Nat.add_zero] at h5
 try rw [Nat.add_zero] at c6
 have : lw V 5 + (lw V 4 + b0k V x n 4) / 18446744073709551616 < 18446744073709551616 := by omega
 exact ⟨h4.symm, by rw [h5, Nat.mod_eq_of_lt this], this⟩
theorem o0H (V : Nat) : lw V 0 = V % 18446744073709551616 := by simp [lw]
def a0R (M neg b T x : Nat) : Nat := (T + x * b + ((T + x * b) % 18446744073709551616 * neg % 18446744073709551616) * M) / 18446744073709551616
def a0J (M neg b a : Nat) : Nat → Nat
 | 0 => 0
 | k + 1 => a0R M neg b (a0J M neg b a k) (lw a k)
theorem m0q (M neg b T x : Nat) (hneg : (M * neg + 1) % 18446744073709551616 = 0) :
  a0R M neg b T x * 18446744073709551616 = T + x * b + ((T + x * b) % 18446744073709551616 * neg % 18446744073709551616) * M := by
 unfold a0R
 generalize hV : T + x * b = V
 generalize hm : V % 18446744073709551616 * neg % 18446744073709551616 = m
 have key : (V + m * M) % 18446744073709551616 = 0 := by
  have h1 : (m * M) % 18446744073709551616 = (V * neg * M) % 18446744073709551616 := by
   rw [← hm, Nat.mod_mul_mod, Nat.mul_assoc, Nat.mod_mul_mod, ← Nat.mul_assoc]
  have h2 : V + V * neg * M = V * (M * neg + 1) := by rw [Nat.mul_add, Nat.mul_one, Nat.mul_assoc, Nat.mul_comm neg, Nat.add_comm]
  rw [Nat.add_mod, h1, ← Nat.add_mod, h2, Nat.mul_mod, hneg, Nat.mul_zero, Nat.zero_mod]
 have := Nat.div_add_mod (V + m * M) 18446744073709551616
 rw [key, Nat.add_zero, Nat.mul_comm] at this
 exact this
theorem s0N (M neg b T x : Nat) (_ : 0 < M) (hT : T < b + M) (hx : x < 18446744073709551616) : a0R M neg b T x < b + M := by
 unfold a0R
 refine Nat.div_lt_of_lt_mul ?_
 generalize hm : (T + x * b) % 18446744073709551616 * neg % 18446744073709551616 = m
 have hm' : m < 18446744073709551616 := by rw [← hm]; exact Nat.mod_lt _ (by decide)
 have h1 : x * b ≤ 18446744073709551615 * b := Nat.mul_le_mul_right _ (by omega)
 have h2 : m * M ≤ 18446744073709551615 * M := Nat.mul_le_mul_right _ (by omega)
 omega
theorem n0p (M neg b a k : Nat) (hM : 0 < M) : a0J M neg b a k < b + M := by
 induction k with
 | zero => show 0 < _; omega
 | succ k ih => exact s0N _ _ _ _ _ hM ih (c0C a k)
theorem q0r (M neg b a k : Nat) (hneg : (M * neg + 1) % 18446744073709551616 = 0) : a0J M neg b a k * B64 ^ k % M = a % B64 ^ k * b % M := by
 induction k with
 | zero => simp [a0J, Nat.mod_one]
 | succ k ih =>
  show a0R _ _ _ _ _ * B64 ^ (k + 1) % M = _
  rw [← g0J, Nat.pow_succ, Nat.mul_comm (B64 ^ k), ← Nat.mul_assoc, m0q M neg b _ _ hneg]
  generalize (a0J M neg b a k + lw a k * b) % 18446744073709551616 * neg % 18446744073709551616 = m
  have e : (a0J M neg b a k + lw a k * b + m * M) * B64 ^ k = a0J M neg b a k * B64 ^ k + B64 ^ k * (lw a k * b) + M * (m * B64 ^ k) := by
   rw [Nat.add_mul, Nat.add_mul, Nat.mul_comm (lw a k * b), Nat.mul_right_comm m, Nat.mul_comm (m * B64 ^ k)]
  rw [e, Nat.add_mul_mod_self_left, Nat.add_mod, ih, ← Nat.add_mod]
theorem o0I (M neg Ri a b : Nat) (_ : 0 < M) (ha : a < B64 ^ 4) (hneg : (M * neg + 1) % 18446744073709551616 = 0) (hRi : B64 ^ 4 * Ri % M = 1 % M) :
  a0J M neg b a 4 % M = a * b * Ri % M := by
 have h := q0r M neg b a 4 hneg
 rw [Nat.mod_eq_of_lt ha] at h
 generalize a0J M neg b a 4 = T at *
 have h1 : T * B64 ^ 4 * Ri % M = a * b * Ri % M := by rw [Nat.mul_mod, h, ← Nat.mul_mod]
 rw [← h1, Nat.mul_assoc, Nat.mul_mod, hRi, ← Nat.mul_mod, Nat.mul_one]
theorem o0J (T M : Nat) (h : T < 2 * M) : T % M = if T < M then T else T - M := by
 split
 ·rename_i h'; exact Nat.mod_eq_of_lt h'
 ·rename_i h'; rw [Nat.mod_eq_sub_mod (by omega), Nat.mod_eq_of_lt (by omega)]
end Mvp
namespace Go.Mv
open Go.RowKit Mvp
variable {P : Program}
def us (l : List Nat) : List Value := l.map fun (x : Nat) => .int .u64 (x : Int)
theorem q0s (l : List Nat) : (us l).length = l.length := by simp [us]
theorem x0A (l : List Nat) (i x : Nat) (h : l[i]? = some x) : (us l)[i]? = some (.int .u64 (x : Int)) := by simp [us, h]
theorem k0U (l : List Nat) (i : Nat) (x : Nat) : (us l).set i (.int .u64 (x : Int)) = us (l.set i x) := by simp [us]
theorem x0B (l : List Nat) : ∀ v ∈ us l, v.oneCell' = true := by intro v hv; simp [us] at hv; obtain ⟨x, _, rfl⟩ := hv; rfl
def cw (n a : Nat) : List Value := us (a0F n a)
theorem a0a (n a : Nat) : (cw n a).length = n := by rw [cw, q0s, b0j]
theorem a0D (n a i : Nat) (h : i < n) : (cw n a)[i]? = some (.int .u64 (lw a i : Nat)) := x0A _ _ _ (c0u n a i h)
theorem d0u (n A B k : Nat) (h : k < n) : (cw n (mix A B k)).set k (.int .u64 (lw A k : Nat)) = cw n (mix A B (k + 1)) := by
 rw [cw, k0U, q0l n A B k h, cw]
theorem a0g (n a : Nat) : ∀ v ∈ cw n a, v.oneCell' = true := x0B _
theorem cw_mod (n a : Nat) : cw n (a % B64 ^ n) = cw n a := by rw [cw, q0m, cw]
def i4 (a : Nat) : Value := .agg (cw 4 a).toArray
def i8 (a : Nat) : Value := .agg (cw 8 a).toArray
theorem x0C {n a b : Nat} (h : ∀ i, i < n → lw a i = lw b i) : cw n a = cw n b := by rw [cw, e0o h, cw]
theorem g0K (A B n : Nat) : cw n (mix A B n) = cw n A := x0C fun i hi => by rw [g0o, if_pos hi]
theorem a0e (n : Nat) : cw n 0 = List.replicate n (.int .u64 0) := by
 apply List.ext_getElem?
 intro i
 rcases Nat.lt_or_ge i n with h | h
 ·rw [a0D _ _ _ h, List.getElem?_replicate, if_pos h]; simp [lw]
 ·rw [List.getElem?_eq_none (by rw [a0a]; exact h), List.getElem?_replicate, if_neg (by omega)]
theorem e0p {t e : TypeId} {m : Nat} (ht : P.underlying t = some (.array m e)) (he : P.underlying e = some (.int .u64)) (hi0 : (P.info? e).map (·.size) = some 1) (a k : Nat) (hk : k < m) (ki : IntKind) (w : World) :
  (Instr.index t (.agg (cw m a).toArray) (.int ki (k : Int))).run P w = .ok (.int .u64 (lw a k : Nat)) w := by
 obtain ⟨j, hj, hsz⟩ : ∃ j, P.info? e = some j ∧ j.size = 1 := by simpa using hi0
 have h1 : (0 : Int) ≤ (k : Int) ∧ (k : Int) < (m : Int) := by omega
 have hv := a0D m a k hk
 simp [Instr.index, asIntOf, run_underlying ht, sizeOf, typeInfo, hj, hsz, part, isAgg, run_underlying he, h1, hv]
 intro h; omega
theorem b0c {fn : Func} {p : Tmp} {ty : TypeId} {s : Tmp} (h : fn.results = #[.cell p ty, .tmp s]) {tmps : Array Value} {w : World} {g : Nat} {L : List Value} {T : TypeId}
  (hp : tmps.getD p undef = .pointer (some ⟨g, 0, none⟩)) (hg : Has w g L T) {n : Nat} {e : TypeId} (hu : P.underlying ty = some (.array n e)) (hi : (P.info? ty).map (·.size) = some L.length) {v : Value} (hv : tmps.getD s undef = v) :
  (results fn tmps).run P w = .ok (.tuple #[.agg L.toArray, v]) w := by
 obtain ⟨lo, hi', hh, -⟩ := hg
 have hp' : tmps[p]?.getD undef = .pointer (some ⟨g, 0, none⟩) := by simpa using hp
 have hv' : tmps[s]?.getD undef = v := by simpa using hv
 simp [results, h, hp', hv', asAddr, run_loadVar_row w g T ty L.toArray _ _ hh hu rfl (by simpa using hi)]
theorem n0q (a : Nat) : i4 a = .agg #[.int .u64 (lw a 0 : Nat), .int .u64 (lw a 1 : Nat), .int .u64 (lw a 2 : Nat), .int .u64 (lw a 3 : Nat)] := rfl
theorem v0T (V : Nat) : i4 (V / B64 ^ 4) = .agg #[.int .u64 (lw V 4 : Nat), .int .u64 (lw V 5 : Nat), .int .u64 (lw V 6 : Nat), .int .u64 (lw V 7 : Nat)] := by
 rw [n0q, c0k, c0k, c0k, c0k]
theorem u0L (V : Nat) : i4 (V % B64 ^ 4) = i4 V := by rw [i4, cw_mod, ← i4]
theorem n0r (a : Nat) : i8 a = .agg #[.int .u64 (lw a 0 : Nat), .int .u64 (lw a 1 : Nat), .int .u64 (lw a 2 : Nat), .int .u64 (lw a 3 : Nat), .int .u64 (lw a 4 : Nat), .int .u64 (lw a 5 : Nat), .int .u64 (lw a 6 : Nat), .int .u64 (lw a 7 : Nat)] := rfl
theorem q0t (V : Nat) : i8 (V % B64 ^ 4) = .agg #[.int .u64 (lw V 0 : Nat), .int .u64 (lw V 1 : Nat), .int .u64 (lw V 2 : Nat), .int .u64 (lw V 3 : Nat), .int .u64 0, .int .u64 0, .int .u64 0, .int .u64 0] := by
 have ht := fun i (hi : 4 ≤ i) => c0W (V % B64 ^ 4) 4 i (Nat.mod_lt _ (b0O 4)) hi
 rw [n0r, e0n _ _ _ (by decide), e0n _ _ _ (by decide), e0n _ _ _ (by decide), e0n _ _ _ (by decide), ht 4 (by decide), ht 5 (by decide), ht 6 (by decide), ht 7 (by decide)]
 rfl
def a0q (w : World) (g : Nat) : Nat → Nat → Nat
 | _, 0 => 0
 | i, n + 1 => (intOf ((w.cell? ⟨g, i, none⟩).getD undef)).toNat + B64 * a0q w g (i + 1) n
theorem i0B {w : World} {g V m : Nat} {T : TypeId} (h : Has w g (cw m V) T) : ∀ (n i : Nat), i + n ≤ m → a0q w g i n = V / B64 ^ i % B64 ^ n
 | 0, i, _ => by simp [a0q, Nat.mod_one]
 | n + 1, i, hi => by
  rw [a0q, i0B h n (i + 1) (by omega), h.cell (a0D m V i (by omega))]
  show lw V i + B64 * _ = _
  have e1 : B64 ^ (n + 1) = B64 * B64 ^ n := by rw [Nat.pow_succ, Nat.mul_comm]
  rw [e1, Nat.mod_mul, Nat.pow_succ, ← Nat.div_div_eq_div_mul]
  rfl
theorem d0X {w : World} {g V m : Nat} {T : TypeId} (h : Has w g (cw m V) T) (hV : V < B64 ^ m) : a0q w g 0 m = V := by
 rw [i0B h m 0 (by omega), Nat.pow_zero, Nat.div_one, Nat.mod_eq_of_lt hV]
theorem St.setCells {S : Nat → Prop} {w0 w : World} {bl : List (Nat × List Value × TypeId)} (h : St S w0 w bl) (i : Nat) {g : Nat} {L : List Value} {T : TypeId} (hb : bl[i]? = some (g, L, T)) (cs : List Value) (hn : cs.length = L.length) : St S w0 (w.setCells g 0 cs) (bl.set i (g, cs, T)) := by
 obtain ⟨k1, k2, _⟩ := Has.setCells cs 0 L w (h.at i hb) (by omega)
 rw [c0i _ _ hn] at k1
 exact h.put i hb k2 k1
theorem s0O (w : World) (a : Nat) (T : TypeId) : Has (w.alloc (.cells #[.int .u64 (lw a 0 : Nat), .int .u64 (lw a 1 : Nat), .int .u64 (lw a 2 : Nat), .int .u64 (lw a 3 : Nat)] T)) w.heap.size (cw 4 a) T := Has.new w _ T
theorem h0A (p a : Nat) (h : a ≤ p) : i4 (p + B64 ^ 4 - a) = i4 (p - a) := by
 rw [← u0L, show p + B64 ^ 4 - a = (p - a) + B64 ^ 4 by omega, Nat.add_mod_right, u0L]
theorem b0p (n : Nat) (h : n < 18446744073709551616) : .agg #[.int .u64 (n : Int), .int .u64 0, .int .u64 0, .int .u64 0] = i4 n := by
 have h0 : lw n 0 = n := by simp only [lw, Nat.pow_zero, Nat.div_one]; exact Nat.mod_eq_of_lt h
 have ht := fun i (hi : 1 ≤ i) => c0W n 1 i (by rw [Nat.pow_one]; exact h) hi
 rw [n0q, h0, ht 1 (by decide), ht 2 (by decide), ht 3 (by decide)]
 rfl
theorem k0V (n : Nat) (h : n < 18446744073709551616) : .agg #[.int .u64 (n : Int), .int .u64 0, .int .u64 0, .int .u64 0, .int .u64 0, .int .u64 0, .int .u64 0, .int .u64 0] = i8 n := by
 have h0 : lw n 0 = n := by simp only [lw, Nat.pow_zero, Nat.div_one]; exact Nat.mod_eq_of_lt h
 have ht := fun i (hi : 1 ≤ i) => c0W n 1 i (by rw [Nat.pow_one]; exact h) hi
 rw [n0r, h0, ht 1 (by decide), ht 2 (by decide), ht 3 (by decide), ht 4 (by decide), ht 5 (by decide), ht 6 (by decide), ht 7 (by decide)]
 rfl
theorem f0T (m n a b : Nat) : ((cw m a ++ cw n b).drop 0).take (cw m a).length = cw m a := by simp
theorem s0P (m n a b : Nat) : ((cw m a ++ cw n b).drop m).take (cw n b).length = cw n b := by
 rw [List.drop_append, a0a, a0a, Nat.sub_self, List.drop_of_length_le (by rw [a0a]; exact Nat.le_refl _), List.nil_append, List.drop_zero, List.take_of_length_le (by rw [a0a]; exact Nat.le_refl _)]
end Go.Mv
namespace Go.Proofs.YtemcankmggmgoaaGreat
open Go.RowKit Go.Mv Mvp
def Tryz.lays264_ren : Go.Shelf.Ren := ⟨fun | 264 => 180 | n => n, fun | 46 => 238 | 53 => 58 | n => n, fun | n => n⟩
theorem Tryz.lays264 : Go.Proofs.Lays.n264 Tryz.prog Tryz.lays264_ren := {
 mixed := by kernel_rfl
 f264 := Tryz.func180.trans (congrArg some (by kernel_rfl))
 t46 := Tryz.underlying238
 a46 := Tryz.isAgg238
 z46 := Tryz.sizeOf238
 v46 := Tryz.zeroValue238
 t53 := Tryz.underlying58
 a53 := Tryz.isAgg58
 z53 := Tryz.sizeOf58
 v53 := Tryz.zeroValue58 }
theorem h0B (x y c : Nat) (hc : c ≤ 1) (w : World) : (callFunc 179 #[.int .u64 x, .int .u64 y, .int .u64 c]).run Tryz.prog w =
      .ok (.value (.tuple #[.int .u64 (((x + y + c) % 18446744073709551616 : Nat) : Int), .int .u64 (((x + y + c) / 18446744073709551616 : Nat) : Int)])) w := by
  rw [run_callFunc_extern Tryz.func179 (by kernel_rfl) (by kernel_rfl) (by kernel_rfl) (e := add64Entry) (by kernel_rfl), run_add64 x y c (by omega) (by omega) (by omega) (by omega)]
  simp only [Result.andThen]
  congr 5 <;> omega
theorem d0I (x y s c : Nat) (h1 : (x + y) % 18446744073709551616 = s) (h2 : (x + y) / 18446744073709551616 = c) (w : World) : (callFunc 179 #[.int .u64 x, .int .u64 y, .int .u64 0]).run Tryz.prog w =
      .ok (.value (.tuple #[.int .u64 (s : Int), .int .u64 (c : Int)])) w := by
  have h := h0B x y 0 (by omega) w
  rw [Nat.add_zero, h1, h2] at h
  exact h
theorem f0w (x y b : Nat) (hb : b ≤ 1) (w : World) : (callFunc 175 #[.int .u64 x, .int .u64 y, .int .u64 b]).run Tryz.prog w =
      .ok (.value (.tuple #[.int .u64 (((x + 18446744073709551616 - y - b) % 18446744073709551616 : Nat) : Int), .int .u64 ((if x < y + b then 1 else 0 : Nat) : Int)])) w := by
  rw [run_callFunc_extern Tryz.func175 (by kernel_rfl) (by kernel_rfl) (by kernel_rfl) (e := sub64Entry) (by kernel_rfl), run_sub64 x y b hb]
  rfl
theorem k0W (x y : Nat) (hx : x < 18446744073709551616) (hy : y < 18446744073709551616) (w : World) :
  Calls Tryz.prog 180 #[.int .u64 x, .int .u64 y] w fun e w' => e = .returned (.tuple #[.int .u64 ((x * y / 18446744073709551616 : Nat) : Int), .int .u64 ((x * y % 18446744073709551616 : Nat) : Int)]) ∧ w = w' :=
 (Any.bits_Mul64 Tryz.lays264 x y hx hy w).mono fun _ _ h => ⟨h.1, h.2.symm⟩
theorem c0J : (Tryz.prog.info? 58).map (·.size) = some 1 := by kernel_rfl
end Go.Proofs.YtemcankmggmgoaaGreat
namespace Mvp
def cP : Nat := 4294968273
def cQ : Nat := 4624529908474429119 + 4994812053365940164 * B64 + B64 ^ 2
def pP : Nat := B64 ^ 4 - cP
def pQ : Nat := B64 ^ 4 - cQ
theorem z0g : cP < B64 ^ 4 := by decide
theorem z0h : cQ < B64 ^ 4 := by decide
theorem z0V : B64 ^ 4 - pP = cP := by decide
theorem z0W : B64 ^ 4 - pQ = cQ := by decide
end Mvp
namespace Mvp
structure Md where
 M : Nat
 neg : Nat
 Ri : Nat
structure Md.Ok (m : Md) : Prop where
 one : 1 < m.M
 lt : m.M < B64 ^ 4
 negLt : m.neg < 18446744073709551616
 neg : (m.M * m.neg + 1) % 18446744073709551616 = 0
 inv : B64 ^ 4 * m.Ri % m.M = 1
def mP : Md := ⟨pP, 15580212934572586289, 91248989341183975618893650062416139444822672217621753343178995607984094583082⟩
def mQ : Md := ⟨pQ, 5408259542528602431, 98562742561918706241446412617699626731164144128788972284189895985653995782166⟩
theorem c0l : mP.Ok := ⟨by decide, by decide, by decide, by decide, by decide⟩
theorem e0q : mQ.Ok := ⟨by decide, by decide, by decide, by decide, by decide⟩
theorem m0r (T b M x V mm : Nat) (hb : b < M) (hM : M < B64 ^ 4) (hT : T < b + M) (hx : x < 18446744073709551616) (hV : T + x * b = V) (hm : mm < 18446744073709551616) :
  T < B64 ^ 5 ∧ T + x * b < B64 ^ 6 ∧ V < B64 ^ 6 ∧ V + mm * M < B64 ^ 6 := by
 have h1 : x * b ≤ 18446744073709551615 * b := Nat.mul_le_mul_right _ (by omega)
 have h2 : mm * M ≤ 18446744073709551615 * M := Nat.mul_le_mul_right _ (by omega)
 have e4 : B64 ^ 5 = 18446744073709551616 * B64 ^ 4 := by rw [Nat.pow_succ, Nat.mul_comm]
 have e5 : B64 ^ 6 = 18446744073709551616 * B64 ^ 5 := by rw [Nat.pow_succ, Nat.mul_comm]
 generalize B64 ^ 6 = R6 at *
 generalize B64 ^ 5 = R5 at *
 generalize B64 ^ 4 = R4 at *
 omega
theorem q0u (T : Nat) (h2 : T < 2 * B64 ^ 4) (h : ¬ T < B64 ^ 4) : lw T 4 = 1 := by
 have h0 := b0O 4
 have hd : T / B64 ^ 4 = 1 := by
  generalize B64 ^ 4 = R at *
  have h1 : T - R < R := by omega
  rw [show T = (T - R) + R by omega, Nat.add_div_right _ h0, Nat.div_eq_of_lt h1]
 unfold lw
 rw [hd]; rfl
theorem i0C (T M : Nat) (hM : M < B64 ^ 4) (hT : T < 2 * M) :
  (T < M → lw T 4 = 0 ∧ b0n T M 4 = 1 ∧ Go.Mv.cw 4 (T % M) = Go.Mv.cw 4 T) ∧
  (¬ T < M → Go.Mv.cw 4 (T % M) = Go.Mv.cw 4 (T + B64 ^ 4 - M) ∧ (T < B64 ^ 4 → lw T 4 = 0 ∧ b0n T M 4 = 0)) := by
 constructor
 ·intro h
  exact ⟨c0W T 4 4 (Nat.lt_trans h hM) (Nat.le_refl _), by rw [e0C _ _ _ (Nat.lt_trans h hM) hM, if_pos h], by rw [Nat.mod_eq_of_lt h]⟩
 ·intro h
  refine ⟨?_, fun h4 => ⟨c0W T 4 4 h4 (Nat.le_refl _), by rw [e0C _ _ _ h4 hM, if_neg h]⟩⟩
  rw [o0J T M hT, if_neg h, ← Go.Mv.cw_mod 4 (T + B64 ^ 4 - M), show T + B64 ^ 4 - M = (T - M) + B64 ^ 4 by omega, Nat.add_mod_right, Go.Mv.cw_mod]
theorem o0K (M neg b a : Nat) : a0J M neg b a 0 = 0 := rfl
theorem o0L (M neg b a k : Nat) : a0J M neg b a (k + 1) = (a0J M neg b a k + lw a k * b + ((a0J M neg b a k + lw a k * b) % 18446744073709551616 * neg % 18446744073709551616) * M) / 18446744073709551616 := rfl
end Mvp
namespace Go.Mv
open Go.RowKit Mvp
def mdL (m : Md) : List Value := cw 4 m.M ++ ([.int .u64 (m.neg : Int)] ++ (cw 4 (B64 ^ 4 % m.M) ++ cw 4 (B64 ^ 4 * B64 ^ 4 % m.M)))
theorem l0P (m : Md) : ((mdL m).drop 0).take (cw 4 m.M).length = cw 4 m.M := by simp [mdL]
theorem x0D (m : Md) : ((mdL m).drop 5).take (cw 4 (B64 ^ 4 % m.M)).length = cw 4 (B64 ^ 4 % m.M) := by
 have h : (cw 4 m.M ++ [Value.int .u64 (m.neg : Int)]).length = 5 := by rw [List.length_append, a0a]; rfl
 rw [mdL, ← List.append_assoc, List.drop_append_of_le_length (by omega), List.drop_of_length_le (by omega), List.nil_append]
 simp
theorem x0E (m : Md) : ((mdL m).drop 9).take (cw 4 (B64 ^ 4 * B64 ^ 4 % m.M)).length = cw 4 (B64 ^ 4 * B64 ^ 4 % m.M) := by
 have h : (cw 4 m.M ++ ([Value.int .u64 (m.neg : Int)] ++ cw 4 (B64 ^ 4 % m.M))).length = 9 := by rw [List.length_append, List.length_append, a0a, a0a]; rfl
 have e : mdL m = (cw 4 m.M ++ ([Value.int .u64 (m.neg : Int)] ++ cw 4 (B64 ^ 4 % m.M))) ++ cw 4 (B64 ^ 4 * B64 ^ 4 % m.M) := by simp [mdL]
 rw [e, List.drop_append_of_le_length (by omega), List.drop_of_length_le (by omega), List.nil_append, List.take_of_length_le (Nat.le_refl _)]
theorem x0F (m : Md) : (mdL m)[4]? = some (.int .u64 (m.neg : Int)) := by
 rw [mdL, List.getElem?_append_right (by rw [a0a]; exact Nat.le_refl _), a0a]; rfl
theorem x0G (V : Nat) (h : V < B64 ^ 6) : (splice (cw 6 V) 0 (((cw 6 V).drop 1).take 5)).set 5 (.int .u64 0) = cw 6 (V / 18446744073709551616) := by
 have e : V / 18446744073709551616 = V / B64 ^ 1 := by rw [Nat.pow_one]
 have h6 : lw V 6 = 0 := c0W V 6 6 h (Nat.le_refl _)
 have hw := fun i => c0k V 1 i
 rw [e]
 show _ = [Value.int .u64 (lw (V / B64 ^ 1) 0 : Nat), Value.int .u64 (lw (V / B64 ^ 1) 1 : Nat), Value.int .u64 (lw (V / B64 ^ 1) 2 : Nat), Value.int .u64 (lw (V / B64 ^ 1) 3 : Nat), Value.int .u64 (lw (V / B64 ^ 1) 4 : Nat), Value.int .u64 (lw (V / B64 ^ 1) 5 : Nat)]
 rw [hw 0, hw 1, hw 2, hw 3, hw 4, hw 5, show 1 + 5 = 6 from rfl, h6]
 rfl
theorem v0U (V : Nat) : ((cw 6 V).drop 0).take (cw 4 V).length = cw 4 V := rfl
end Go.Mv
namespace Go.Proofs.YtemcankmggmgoaaGreat
open Go.RowKit Go.Mv Mvp
def x0H : List UInt8 := [115, 105, 103, 110]
def s0Q : List UInt8 := [112, 117, 98, 108, 105, 99]
def v0V : List UInt8 := [102, 105, 114, 115, 116]
def x0I : List UInt8 := [116, 101, 120, 116]
def h0C : List UInt8 := [99, 104, 97, 108, 108, 101, 110, 103, 101]
def a0U : List UInt8 := [110, 111, 110, 99, 101, 32, 115, 105, 103, 110]
def f0U (st : List UInt8) : List (List UInt8 × List UInt8) → List UInt8
 | [] => st
 | x :: r => f0U (c0A q0g [st, x.1, x.2]) r
def z0O (label : List UInt8) : List UInt8 := c0A s0E [label]
end Go.Proofs.YtemcankmggmgoaaGreat
