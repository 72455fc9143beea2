/- ; ; ; ; ; ; ; ; ; ; ; ; ; ; . -/
import Derived.Test.YtemcankmggmgoaaGreatMgSigmaBatchesProof2
import Derived.Deep.QuietTactic
import Derived.BigQuiet
import Derived.OrdersHeld
import Derived.StillTail
import Derived.Deep.MidRow
import Derived.Deep.RegionHeld3
import Derived.Test.YtemcankmggmgoaaGreatMgSigmaBatchesProof1
import Derived.StillTailTactics
set_option maxHeartbeats 16000000
set_option maxRecDepth 1000000
open Go.Proofs.Tryz

namespace Go.Proofs.YtemcankmggmgoaaGreat
open Go.RowKit Go.Mv Mvp
attribute [local irreducible] bI lw mix cw cT dG cS
theorem mI (a b : Nat) (w : World) (ha : a < B64 ^ 4) (hb : b < B64 ^ 4) :
  Calls prog 131 #[i4 a, i4 b] w fun e w' => e = .returned (i8 (a * b)) ∧ Fr Nob w w' := by
 have HA := qH ha; clear ha
 have HB := qH hb; clear hb
 have st0 := St.start Nob w
 go_enter func131, ntmps131
 go_wp2_with (with_reducible refine AA 2 ?_)
 refine aL st0 rfl rfl rfl (cw 4 a) rfl ?_
 intro g2 w1 st1
 clear st0
 go_wp2_with (with_reducible refine AA 3 ?_)
 refine aL st1 rfl rfl rfl (cw 4 b) rfl ?_
 intro g3 w2 st2
 clear st1
 go_wp2_with (with_reducible refine AA 4 ?_)
 refine aA st2 rfl rfl (z := .agg #[.int .u64 0, .int .u64 0, .int .u64 0, .int .u64 0, .int .u64 0, .int .u64 0, .int .u64 0, .int .u64 0]) Aa (cw 8 0) Af ?_
 intro g4 w3 st3
 clear st2
 go_wp2_with (with_reducible refine AA 5 ?_)
 refine aA st3 rfl rfl (z := .agg #[.int .u64 0, .int .u64 0, .int .u64 0, .int .u64 0, .int .u64 0, .int .u64 0, .int .u64 0, .int .u64 0]) Aa (cw 8 0) Af ?_
 intro g5 w4 st4
 clear st3
 go_wp2
 go_loopw [6] (fun i wr => ∃ I : Nat, I ≤ 4 ∧ i = .int .i64 (I : Int) ∧ St Nob w wr [(g2, cw 4 a, 60), (g3, cw 4 b, 60), (g4, cw 8 0, 171), (g5, cw 8 (a % B64 ^ I * b), 171)]) (fun i _ => 4 - (intOf i).toNat)
 case atStart => exact ⟨0, by omega, rfl, by rw [k0H]; exact st4⟩
 case round =>
  obtain ⟨I, hI, rfl, st⟩ := hrel
  clear st4
  by_cases hlt : I < 4
  ·have hltI : (I : Int) < 4 := by omega
   obtain ⟨wo, rfl⟩ : ∃ wo : World, wo = wr := ⟨_, rfl⟩
   have htop := o0e a b I HB.out
   have hall := o0f a b I HB.out
   have hnew := o0g a b I
   have hst := h0Q a b I
   have hword := k0G a b I
   generalize hP : a % B64 ^ I * b = V at *
   have HP := qH hP; clear hP
   have HTOP := qH htop; clear htop
   have HALL := qH hall; clear hall
   have HST := qH hst; clear hst
   have HNEW := qH hnew; clear hnew
   have HWORD := qH hword; clear hword
   go_wp2
   go_loopw [7, 8] (fun c i wr => ∃ k : Nat, k ≤ 4 ∧ i = .int .i64 (k : Int) ∧ c = .int .u64 (cS (V / B64 ^ I) (lw a I) b k : Nat) ∧ St Nob w wr [(g2, cw 4 a, 60), (g3, cw 4 b, 60), (g4, cw 8 0, 171), (g5, cw 8 (mix (a % B64 ^ (I + 1) * b) V (I + k)), 171)]) (fun _ i _ => 4 - (intOf i).toNat)
   case atStart =>
    exact ⟨0, by omega, rfl, by rw [b0g]; rfl, by rw [HST.out]; exact st⟩
   case round =>
    obtain ⟨k, hk, rfl, rfl, stk⟩ := hrel
    clear st
    have hx := gO a I
    have hcm := tR (V / B64 ^ I) (lw a I) b k hx
    by_cases hltk : k < 4
    ·have hltK : (k : Int) < 4 := by omega
     have hp := tU hx (gO b k)
     have hms := oY (V / B64 ^ I) (lw a I) b k
     have hlm := tT (V / B64 ^ I) (lw a I) b k
     have hms2 := tR (V / B64 ^ I) (lw a I) b (k + 1) hx
     obtain ⟨hi, lo, lo2, c1, t2, c2, r1, r2, r3, r4, r5, r6, r7, r8, r9⟩ := wX (lw a I * lw b k) (lw (V / B64 ^ I) k) (cS (V / B64 ^ I) (lw a I) b k) hp hcm
     rw [← r8, ← HNEW.out] at hlm
     rw [← r9] at hms
     rw [hms] at hms2
     have hmul := fun wx => b0k (lw a I) (lw b k) hx (gO b k) wx
     rw [r1, r2] at hmul
     have e2 := fun wx => kR lo (cS (V / B64 ^ I) (lw a I) b k) lo2 c1 r3 r4 wx
     have e3 := fun wx => kR (lw (V / B64 ^ I) k) lo2 t2 c2 r6 r7 wx
     have ca := (stk.at 0 rfl).cell (bL 4 a I hlt)
     have cb := (stk.at 1 rfl).cell (bL 4 b k hltk)
     obtain ⟨v3, c3, f3⟩ := (stk.at 3 rfl).ready (i := I + k) Av
     have c1' : wr.cell? ⟨g5, I + k, none⟩ = some (.int .u64 (lw (V / B64 ^ I) k : Nat)) := by
      have h := (stk.at 3 rfl).cell (bL 8 (mix (a % B64 ^ (I + 1) * b) V (I + k)) (I + k) Ab); rwa [rF, if_neg (Nat.lt_irrefl _), HWORD.out] at h
     clear c3 hp r1 r2 r3 r4 r6 r7 r8 r9
     have HMUL := qH hmul; clear hmul
     have HMS := qH hms; clear hms
     have HLM := qH hlm; clear hlm
     go_wp2_with fail
     go_quiet ((go_at_call 180; refine Calls.quiet_of_same ((HMUL.out _).mono fun _ _ h => ⟨h.1, h.2.symm⟩)))
     go_wp2_with fail
     go_roundw
     case rel =>
      have h1 := (stk.drewN nq).set 3 rfl (I + k) (.int .u64 (lw (a % B64 ^ (I + 1) * b) (I + k) : Nat))
      rw [jX _ _ _ _ Ab, HLM.out] at h1
      exact ⟨k + 1, by omega, by go_num, by rw [HMS.out]; go_num, h1⟩
     case measure => simp [intOf]; omega
    ·have hge : ¬ ((k : Int) < 4) := by omega
     have hk4 : k = 4 := by omega
     have HK := qH hk4; clear hk4
     obtain ⟨v3, c3, f3⟩ := (stk.at 3 rfl).ready (i := I + 4) Av
     go_wp2
     go_roundw
     case rel =>
      have h1 := stk.set 3 rfl (I + 4) (.int .u64 (cS (V / B64 ^ I) (lw a I) b k : Nat))
      have h2 : (cw 8 (mix (a % B64 ^ (I + 1) * b) V (I + k))).set (I + 4) (.int .u64 (cS (V / B64 ^ I) (lw a I) b k : Nat)) = cw 8 (a % B64 ^ (I + 1) * b) := by
       rw [HK.out, ← HTOP.out, jX _ _ _ _ Ab, HALL.out]
      rw [h2] at h1
      exact ⟨I + 1, by omega, by go_num, h1⟩
     case measure => simp [intOf]; omega
  ·have hge : ¬ ((I : Int) < 4) := by omega
   have hk4 : I = 4 := by omega
   have HK := qH hk4; clear hk4
   go_wp2_with (with_reducible refine AA 60 ?_)
   refine aI st 3 rfl rfl rfl underlying171 rfl As ?_
   go_wp2_with (with_reducible refine AB ?_)
   refine aB st 2 rfl rfl rfl rfl rfl Az As (aF _ _) ?_
   intro w5 st5
   clear st
   have hd5 := st5.at 2 rfl
   rw [HK.out, Nat.mod_eq_of_lt HA.out] at hd5
   have hf5 := st5.fr
   clear st5
   go_wp2
   exact bodyPost_ret (aX rfl rfl hd5 underlying171 As) rfl ⟨rfl, hf5⟩
end Go.Proofs.YtemcankmggmgoaaGreat
namespace Go.Mv
open Go.RowKit
section
variable {P : Program} {ops : Array Oper} {md : Region.Mode} {Q : Exit → Act → World → Prop} {S : World → Prop}
def xA (P : Program) (md : Region.Mode) (ops : Array Oper) (Q : Exit → Act → World → Prop) (S : World → Prop) (n g : Nat) (tl : List Oper) : Nat → Array Bool → Act → World → Prop
 | 0, listed, a, w => Region.seqB md ops g n listed = true ∧ wpList P ops Q tl a w
 | f + 1, listed, a, w =>
  Region.ready md ops listed ≠ [] ∧ ∀ i ∈ Region.ready md ops listed, i < n ∧ wpOp P ops Q i (fun a' w' => S w' ∧ xA P md ops Q S n g tl f (listed.setIfInBounds i true) a' w') a w
theorem qM {n : Nat} {tl : List Oper} (hl : ∀ j, tl[j]? = ops[n + j]?) : ∀ (f : Nat) (listed : Array Bool) (a : Act) (w : World), xA P md ops Q S n tl.length tl f listed a w → wpAny P md ops Q (f + tl.length) listed a w
 | 0, listed, a, w, h => by rw [Nat.zero_add]; exact wpAny_of_seq tl n listed a w hl h.1 h.2
 | f + 1, listed, a, w, h => by
  rw [show f + 1 + tl.length = (f + tl.length) + 1 by omega]
  exact ⟨fun h0 => absurd h0 h.1, fun i hi => wpOp_mono (fun a' w' h' => qM hl f _ a' w' h'.2) (h.2 i hi).2⟩
theorem rG {n g i : Nat} {oi : Oper} {v : Value} {tl : List Oper} (hi : ops[i]? = some oi) (hsel : ∀ (j : Nat) (o : Oper) cs b, ops[j]? = some o → o.op ≠ .select cs b)
  (hQ : ∀ c a w, Q (.panic c) (a.put oi.dst v) w → Q (.panic c) a w)
  (hs : Region.sinkB md ops n = true) (hc : Region.chainB md ops n = true) (hn : n < ops.size) (hin : i < n) :
  ∀ (f : Nat) (listed : Array Bool) (a : Act) (w : World), HeadInv md ops n listed →
   (∀ j oj, ops[j]? = some oj → j ≠ i → listed.getD j true = false → (∀ e ∈ oj.after, Region.binds md e = true → e.on ≠ i) → oi.apart ops oj = true) →
   i ∈ Region.ready md ops listed → YieldsIf P ops S oi v a → S w →
   xA P md ops Q S n g tl f (listed.setIfInBounds i true) (a.put oi.dst v) w → xA P md ops Q S n g tl (f + 1) listed a w := by
 intro f
 induction f with
 | zero =>
  intro listed a w inv _ hr hy hS H
  have hun := (mem_ready.1 hr).1
  refine ⟨fun h => (by rw [h] at hr; cases hr), fun j hj => ?_⟩
  have hjn : j < n := by
   rcases Nat.lt_or_ge j n with h | h
   ·exact h
   ·exact absurd hj (tail_waits hs hc hn inv _ i rfl hin hun j h)
  refine ⟨hjn, ?_⟩
  by_cases hji : j = i
  ·subst hji; exact hy.wpOp hi hS ⟨hS, H⟩
  ·have := seqB_ready H.1 j (ready_mono hj hji)
   omega
 | succ f ih =>
  intro listed a w inv hfree hr hy hS H
  have hun := (mem_ready.1 hr).1
  refine ⟨fun h => (by rw [h] at hr; cases hr), fun j hj => ?_⟩
  have hjn : j < n := by
   rcases Nat.lt_or_ge j n with h | h
   ·exact h
   ·exact absurd hj (tail_waits hs hc hn inv _ i rfl hin hun j h)
  refine ⟨hjn, ?_⟩
  by_cases hji : j = i
  ·subst hji; exact hy.wpOp hi hS ⟨hS, H⟩
  ·have h1 := (H.2 j (ready_mono hj hji)).2
   obtain ⟨hjun, oj, hoj, hall⟩ := mem_ready.1 hj
   have hnot : ∀ e ∈ oj.after, Region.binds md e = true → e.on ≠ i := fun e he hb heq => by
    have h1 := hall e he hb
    rw [heq, getD_both hun] at h1
    cases h1
   have h2 := wpOp_putIf hoj (hfree j oj hoj hji hjun hnot) (fun cs b => hsel i oi cs b hi) (fun cs b => hsel j oj cs b hoj) hQ hy h1
   have hfree' : ∀ k ok, ops[k]? = some ok → k ≠ i → (listed.setIfInBounds j true).getD k true = false →
     (∀ e ∈ ok.after, Region.binds md e = true → e.on ≠ i) → oi.apart ops ok = true := fun k ok hk hki hun hno => by
    refine hfree k ok hk hki ?_ hno
    by_cases hjk : j = k
    ·subst hjk; exact hjun
    ·rw [getD_set_ne true hjk] at hun; exact hun
   refine wpOp_mono (fun a' w' h3 => ⟨h3.2.1, ih (listed.setIfInBounds j true) a' w' (inv.set hj hjn) hfree' (ready_mono hr (Ne.symm hji)) h3.1 h3.2.1 ?_⟩) h2
   rw [Array.setIfInBounds_comm _ _ hji]
   exact h3.2.2
def uC (P : Program) (ops : Array Oper) (Q : Exit → Act → World → Prop) (S : World → Prop) (tl : List Oper) : List (Nat × Bool) → Act → World → Prop
 | [], a, w => wpList P ops Q tl a w
 | (i, true) :: r, a, w => ∃ o v, ops[i]? = some o ∧ YieldsIf P ops S o v a ∧ uC P ops Q S tl r (a.put o.dst v) w
 | (i, false) :: r, a, w => ∃ o, ops[i]? = some o ∧ o.guard = none ∧ o.wp P a w (fun a' w' => S w' ∧ uC P ops Q S tl r a' w') Q
def f0V (md : Region.Mode) (ops : Array Oper) (n g : Nat) : List (Nat × Bool) → Array Bool → Bool
 | [], listed => Region.seqB md ops g n listed
 | (i, true) :: r, listed => decide (i < n) && (Region.ready md ops listed).contains i && Region.free md ops listed i && f0V md ops n g r (listed.setIfInBounds i true)
 | (i, false) :: r, listed => decide (i < n) && decide (Region.ready md ops listed = [i]) && f0V md ops n g r (listed.setIfInBounds i true)
theorem _root_.Ax {p : Prop} (h : p := by simp [Region.wanted, hg]) : p := h
theorem lF {n g : Nat} {tl : List Oper} (hsel : Region.noSelect ops = true) (hs : Region.sinkB md ops n = true) (hc : Region.chainB md ops n = true) (hn : n < ops.size)
  (hQ : ∀ c (d : Option Tmp) v a w, Q (.panic c) (Act.put a d v) w → Q (.panic c) a w) :
  ∀ (s : List (Nat × Bool)) (listed : Array Bool) (a : Act) (w : World), HeadInv md ops n listed → f0V md ops n g s listed = true → S w → uC P ops Q S tl s a w → xA P md ops Q S n g tl s.length listed a w
 | [], listed, a, w, _, hB, _, h => ⟨hB, h⟩
 | (i, true) :: r, listed, a, w, inv, hB, hS, h => by
  obtain ⟨o, v, ho, hy, hK⟩ := h
  simp only [f0V, Bool.and_eq_true, decide_eq_true_eq] at hB
  obtain ⟨⟨⟨hin, hr⟩, hf⟩, hB'⟩ := hB
  have hr' : i ∈ Region.ready md ops listed := by simpa using hr
  exact rG ho (Region.noSelect_spec hsel) (fun c a w => hQ c o.dst v a w) hs hc hn hin r.length listed a w inv (Region.free_spec ho hf) hr' hy hS
   (lF hsel hs hc hn hQ r _ _ w (inv.set hr' hin) hB' hS hK)
 | (i, false) :: r, listed, a, w, inv, hB, hS, h => by
  obtain ⟨o, ho, hg, hK⟩ := h
  simp only [f0V, Bool.and_eq_true, decide_eq_true_eq] at hB
  obtain ⟨⟨hin, hr⟩, hB'⟩ := hB
  have hr' : i ∈ Region.ready md ops listed := by rw [hr]; simp
  refine ⟨by rw [hr]; simp, fun j hj => ?_⟩
  rw [hr] at hj
  have hj' : j = i := by simpa using hj
  subst hj'
  refine ⟨hin, ?_⟩
  unfold wpOp
  simp only [ho]
  rw [if_pos Ax]
  exact .inl (Oper.wp_mono (fun a' w' h' => ⟨h'.1, lF hsel hs hc hn hQ r _ a' w' (inv.set hr' hin) hB' h'.1 h'.2⟩) hK)
def m0S (ops : Array Oper) (n : Nat) (s : List (Nat × Bool)) : Bool :=
 Region.noSelect ops && decide (n < ops.size) && decide (s.length = n) && Region.sinkB .any ops n && Region.chainB .any ops n && f0V .any ops n (ops.size - n) s (Array.replicate ops.size false)
theorem fJ {id : Nat} {a : Act} {w : World} {l : List Oper} (S : World → Prop) (n : Nat) (s : List (Nat × Bool)) (hm : P.follows .mixedOrders = true) (hB : m0S l.toArray n s = true)
  (hS : S w.drew) (hQ : ∀ c (d : Option Tmp) v a w, Q (.panic c) (Act.put a d v) w → Q (.panic c) a w)
  (h : uC P l.toArray Q S (l.drop n) s a w.drew) : (Code.region id l.toArray true).wp P Q a w := by
 simp only [m0S, Bool.and_eq_true, decide_eq_true_eq] at hB
 obtain ⟨⟨⟨⟨⟨hsel, hn⟩, hlen⟩, hs⟩, hc⟩, hseq⟩ := hB
 have inv0 : HeadInv .any l.toArray n (Array.replicate l.toArray.size false) :=
  ⟨by simp, fun j oj _ hl => (by rw [getD_replicate_false] at hl; cases hl), fun t _ ht => getD_in (by simpa using ht) (getD_replicate_false _ _)⟩
 have hdl : (l.drop n).length = l.toArray.size - n := by simp
 rw [← hdl] at hseq
 have H := lF (md := .any) (g := (l.drop n).length) (tl := l.drop n) hsel hs hc hn hQ s _ a w.drew inv0 hseq hS h
 refine wp_region_any hm ?_
 have := qM (md := .any) (n := n) (tl := l.drop n) (fun j => by simp [List.getElem?_drop]) _ _ _ _ H
 rw [hlen, hdl, show n + (l.toArray.size - n) = l.toArray.size by omega] at this
 exact this
variable {l tl : List Oper} {i : Nat} {r : List (Nat × Bool)} {a : Act} {w : World} {o : Oper}
theorem qO (h : wpList P ops Q tl a w) : uC P ops Q S tl [] a w := h
theorem bK (ho : l[i]? = some o) (hg : o.guard = none) {v : Value} (hv : ∀ wx, S wx → (execOp a.eval o).run P wx = .ok (.value v) wx) (h : uC P l.toArray Q S tl r (a.put o.dst v) w) : uC P l.toArray Q S tl ((i, true) :: r) a w :=
 ⟨o, v, by simpa using ho, .inl ⟨by simp [Region.wanted, hg], hv⟩, h⟩
theorem kD (ho : l[i]? = some o) (hg : o.guard = none) (h : o.wp P a w (fun a' w' => S w' ∧ uC P l.toArray Q S tl r a' w') Q) : uC P l.toArray Q S tl ((i, false) :: r) a w :=
 ⟨o, by simpa using ho, hg, h⟩
theorem jI (ho : l[i]? = some o) (hg : o.guard = none) {ty : TypeId} {x : Operand} (hop : o.op = .load ty x) {g p : Nat} (hx : a.eval x = .pointer (some ⟨g, p, none⟩)) (cs : List Value) (hS : ∀ wx, S wx → wx.rangeAt g p cs)
  {d : TypeDesc} (hu : P.underlying ty = some d) (hd : d.isRow = true) (hi : (P.info? ty).map (·.size) = some cs.length) (h : uC P l.toArray Q S tl r (a.put o.dst (.agg cs.toArray)) w) : uC P l.toArray Q S tl ((i, true) :: r) a w :=
 ⟨o, _, by simpa using ho, yieldsIf_load_mid Ax ty x hop g p hx cs d hS hu hd hi, h⟩
end
theorem St.rangeL {S : Nat → Prop} {w0 w : World} {bl : List (Nat × List Value × TypeId)} (h : St S w0 w bl) (i : Nat) {g : Nat} {L : List Value} {T : TypeId} (hb : bl[i]? = some (g, L, T)) (o : Nat) (cs : List Value) (hcs : (L.drop o).take cs.length = cs) : w.rangeAt g o cs := (h.at i hb).range o cs hcs
end Go.Mv
theorem J : (∀ (a : Go.Act) (d : Nat) (v : Go.Value), a.put (some d) v = { a with tmps := a.tmps.setIfInBounds d v }) ∧ (∀ (a : Go.Act) (v : Go.Value), a.put none v = a) ∧ (∀ (l : List Go.Value) (i : Nat) (x : Go.Value), l.toArray.setIfInBounds i x = (l.set i x).toArray) ∧ (∀ (x y : Go.Value) (l : List Go.Value), (x :: l).set 0 y = y :: l) ∧ (∀ (x y : Go.Value) (l : List Go.Value) (i : Nat), (x :: l).set (i + 1) y = x :: l.set i y) :=
 ⟨fun _ _ _ => rfl, fun _ _ => rfl, fun _ _ _ => by simp, fun _ _ _ => rfl, fun _ _ _ _ => rfl⟩
namespace Go.Proofs.YtemcankmggmgoaaGreat
section
open Go.RowKit Go.Mv Mvp
attribute [local irreducible] bI lw mix cw cT dG cS bQ aO
def fv (p : Nat) : Value := .agg (cw 4 p ++ cw 4 (B64 ^ 4 - p)).toArray
theorem q0t : (prog.info? 60).map (·.size) = some 4 := by kernel_rfl
theorem h0W : (prog.info? 171).map (·.size) = some 8 := by kernel_rfl
theorem _root_.Aw {p : Prop} (h : p := by rw [aT]; exact q0t) : p := h
theorem _root_.Bj {p : Prop} (h : p := by rw [aT, aT]) : p := h
theorem yZ (p V0 : Nat) (w : World) (hp0 : 0 < p) (hp : p < B64 ^ 4) (hV0 : V0 < B64 ^ 8) :
  Calls prog 129 #[fv p, i8 V0] w fun e w' => e = .returned (i4 (V0 % p)) ∧ Fr Nob w w' := by
 have HP := qH hp; clear hp
 have HP0 := qH hp0; clear hp0
 have HV0 := qH hV0; clear hV0
 have st0 := St.start Nob w
 go_enter func129, ntmps129
 go_wp2_with (with_reducible refine AA 2 ?_)
 refine aL st0 rfl rfl rfl (cw 4 p ++ cw 4 (B64 ^ 4 - p)) rfl ?_
 intro g2 w1 st1
 clear st0
 go_wp2_with (with_reducible refine AA 3 ?_)
 refine aL st1 rfl rfl rfl (cw 8 V0) rfl ?_
 intro g3 w2 st2
 clear st1
 go_wp2_with (with_reducible refine AA 4 ?_)
 refine aA st2 rfl rfl (z := zAd) Aa (cw 4 0) Af ?_
 intro g4 w3 st3
 clear st2
 go_wp2
 go_frame
 go_loopw [8] (fun _ wr => ∃ V : Nat, V < B64 ^ 8 ∧ V % p = V0 % p ∧ St Nob w wr [(g2, cw 4 p ++ cw 4 (B64 ^ 4 - p), 78), (g3, cw 8 V, 171), (g4, cw 4 0, 60)]) (fun _ wr => aO wr g3 0 8)
 case atStart => exact ⟨V0, HV0.out, rfl, st3⟩
 case round =>
  obtain ⟨V, hV, hVm, st⟩ := hrel
  clear st3
  have HV := qH hV; clear hV
  have HVM := qH hVm; clear hVm
  have c0 := (st.at 1 rfl).cell (bL 8 V 0 Ac)
  have c1 := (st.at 1 rfl).cell (bL 8 V 1 Ac)
  have c2 := (st.at 1 rfl).cell (bL 8 V 2 Ac)
  have c3 := (st.at 1 rfl).cell (bL 8 V 3 Ac)
  have c4 := (st.at 1 rfl).cell (bL 8 V 4 Ac)
  have c5 := (st.at 1 rfl).cell (bL 8 V 5 Ac)
  have c6 := (st.at 1 rfl).cell (bL 8 V 6 Ac)
  have c7 := (st.at 1 rfl).cell (bL 8 V 7 Ac)
  have l4 := gO V 4
  have l5 := gO V 5
  have l6 := gO V 6
  have l7 := gO V 7
  have o1 := bits_or_u64_nat _ _ l4 l5
  have o2 := bits_or_u64_nat _ _ (Nat.or_lt_two_pow (n := 64) l4 l5) l6
  have o3 := bits_or_u64_nat _ _ (Nat.or_lt_two_pow (n := 64) (Nat.or_lt_two_pow (n := 64) l4 l5) l6) l7
  have htz := k0J V HV.out
  generalize hor : (lw V 4 ||| lw V 5 ||| lw V 6 ||| lw V 7) = o at *
  have HOR := qH hor; clear hor
  clear l4 l5 l6 l7
  by_cases hz : o = 0
  ·have hb : ((o : Int) != 0) = false := by subst hz; rfl
   have hD := htz.1 hz
   clear htz hz
   have HD := qH hD; clear hD
   have hV4 : V < B64 ^ 4 := by
    have h1 := Nat.div_add_mod V (B64 ^ 4)
    rw [HD.out, Nat.mul_zero, Nat.zero_add] at h1
    rw [← h1]; exact Nat.mod_lt _ (eR 4)
   have HV4 := qH hV4; clear hV4
   go_wp2_with fail
   clear c0 c1 c2 c3 c4 c5 c6 c7 o1 o2 o3 hb
   have st5 := st.new ((Fr.refl Nob wr).alloc (Obj.cells #[Value.int IntKind.u64 ↑(lw V 0), Value.int IntKind.u64 ↑(lw V 1), Value.int IntKind.u64 ↑(lw V 2), Value.int IntKind.u64 ↑(lw V 3)] 60)) (k0M wr V 60) (Nat.le_refl _)
   clear st
   generalize wr.alloc (Obj.cells #[Value.int IntKind.u64 ↑(lw V 0), Value.int IntKind.u64 ↑(lw V 1), Value.int IntKind.u64 ↑(lw V 2), Value.int IntKind.u64 ↑(lw V 3)] 60) = w5 at *
   generalize wr.heap.size = g5 at *
   go_loopw [52] (fun _ wx => ∃ U : Nat, U < B64 ^ 4 ∧ U % p = V0 % p ∧ St Nob w wx [(g2, cw 4 p ++ cw 4 (B64 ^ 4 - p), 78), (g4, cw 4 0, 60), (g5, cw 4 U, 60)]) (fun _ wx => aO wx g5 0 4)
   case atStart => exact ⟨V, HV4.out, HVM.out, st5.less Ae⟩
   case round =>
    obtain ⟨U, hU, hUm, st⟩ := hrel
    clear st5
    have HU := qH hU; clear hU
    have HUM := qH hUm; clear hUm
    have hvu := lE (st.at 2 rfl) HU.out
    have HVU := qH hvu; clear hvu
    go_wp2_with (with_reducible refine AA 52 ?_)
    refine aI st 2 rfl rfl rfl underlying60 rfl Aw ?_
    go_wp2_with (with_reducible refine AA 54 ?_)
    refine fA rfl rfl underlying60 rfl (st.at 0 rfl) (cw 4 p) (qL 4 4 _ _) Aw ?_
    go_wp2_with fail
    have hcs := nC U p 4 HU.out HP.out
    refine (yY U p _ HP.out).mono ?_
    rintro e' w6 ⟨rfl, hf6⟩
    have st6 := st.keep hf6
    clear st hf6
    by_cases hlt : U < p
    ·rw [if_pos hlt] at hcs
     rw [hcs]
     have hm : U = V0 % p := by rw [← HUM.out, Nat.mod_eq_of_lt hlt]
     have HM := qH hm
     clear hm hcs hlt
     go_wp2_with (with_reducible refine AA 6 ?_)
     refine aA st6 rfl rfl (z := zAd) Aa (cw 4 0) Af ?_
     intro g6 w7 st7
     clear st6
     go_wp2_with (with_reducible refine AB ?_)
     refine aB st7 3 rfl rfl rfl rfl rfl Bj Aw (aF _ _) ?_
     intro w8 st8
     clear st7
     go_wp2_with (with_reducible refine AA 60 ?_)
     refine aI st8 2 rfl rfl rfl underlying60 rfl Aw ?_
     go_wp2_with (with_reducible refine AB ?_)
     refine aB st8 1 rfl rfl rfl rfl rfl Bj Aw (aF _ _) ?_
     intro w9 st9
     clear st8
     have hd9 := st9.at 1 rfl
     rw [HM.out] at hd9
     have hf9 := st9.fr
     clear st9
     go_wp2
     exact bodyPost_ret (aX rfl rfl hd9 underlying60 Aw) rfl ⟨rfl, hf9⟩
    ·rw [if_neg hlt] at hcs
     rw [hcs]
     have e1 : cw 4 (U + B64 ^ 4 - p) = cw 4 (U - p) := by
      rw [← cw_mod, show U + B64 ^ 4 - p = (U - p) + B64 ^ 4 by omega, Nat.add_mod_right, cw_mod]
     have hm : (U - p) % p = V0 % p := by rw [← HUM.out, ← Nat.mod_eq_sub_mod Ab]
     have HM := qH hm
     have HE := qH e1
     have hltU : U - p < U := by have := HP0.out; omega
     have hbU : U - p < B64 ^ 4 := by have := HU.out; omega
     have HLTU := qH hltU
     have HBU := qH hbU
     clear hm hcs hlt e1 hltU hbU
     go_wp2_with (with_reducible refine AA 6 ?_)
     refine aA st6 rfl rfl (z := zAd) Aa (cw 4 0) Af ?_
     intro g6 w7 st7
     clear st6
     go_wp2_with (with_reducible refine AB ?_)
     refine aB st7 3 rfl rfl rfl rfl rfl Bj Aw (aF _ _) ?_
     intro w8 st8
     clear st7
     rw [HE.out] at st8
     go_wp2_with (with_reducible refine AA 61 ?_)
     refine aI st8 3 rfl rfl rfl underlying60 rfl Aw ?_
     go_wp2_with (with_reducible refine AB ?_)
     refine aB st8 2 rfl rfl rfl rfl rfl Bj Aw (aF _ _) ?_
     intro w9 st9
     clear st8
     have hv9 := lE (st9.at 2 rfl) HBU.out
     have HV9 := qH hv9; clear hv9
     go_wp2
     refine ⟨?_, ?_⟩
     ·((repeat apply Exists.intro); exact ⟨⟨U - p, HBU.out, HM.out, st9.less Ae⟩, rfl⟩)
     ·rw [HV9.out, HVU.out]; exact HLTU.out
  ·have hb : ((o : Int) != 0) = true := by simp; omega
   have hD := fun h => hz (htz.2 h)
   clear htz hz
   have HD := qH hD; clear hD
   have hD' : V / B64 ^ 4 ≠ 0 := HD.out
   have hprod := fun wx => mI (V / B64 ^ 4) (B64 ^ 4 - p) wx (Nat.div_lt_of_lt_mul (by rw [← Nat.pow_add]; exact HV.out)) (by have := HP0.out; have := eR 4; omega)
   rw [o0h] at hprod
   have hplus := fun wx => uB (V / B64 ^ 4 * (B64 ^ 4 - p)) (V % B64 ^ 4) wx
   rw [h0U] at hplus
   have hlt := k0I (B64 ^ 4 - p) V (by have := HP0.out; have := eR 4; omega) hD'
   have hmod := h0R p (B64 ^ 4 - p) V (by have := HP.out; omega)
   have e : V / B64 ^ 4 * (B64 ^ 4 - p) + V % B64 ^ 4 = bQ (B64 ^ 4 - p) V := by unfold bQ; rfl
   rw [e] at hplus
   generalize bQ (B64 ^ 4 - p) V = V' at *
   clear e hD'
   have mks : ∀ wx, St Nob w wx [(g2, cw 4 p ++ cw 4 (B64 ^ 4 - p), 78), (g3, cw 8 V, 171), (g4, cw 4 0, 60)] →
     wx.cell? ⟨g3, 0, none⟩ = some (.int .u64 (lw V 0 : Nat)) ∧ wx.cell? ⟨g3, 1, none⟩ = some (.int .u64 (lw V 1 : Nat)) ∧ wx.cell? ⟨g3, 2, none⟩ = some (.int .u64 (lw V 2 : Nat)) ∧ wx.cell? ⟨g3, 3, none⟩ = some (.int .u64 (lw V 3 : Nat)) ∧
     wx.cell? ⟨g3, 4, none⟩ = some (.int .u64 (lw V 4 : Nat)) ∧ wx.cell? ⟨g3, 5, none⟩ = some (.int .u64 (lw V 5 : Nat)) ∧ wx.cell? ⟨g3, 6, none⟩ = some (.int .u64 (lw V 6 : Nat)) ∧ wx.cell? ⟨g3, 7, none⟩ = some (.int .u64 (lw V 7 : Nat)) := fun wx h =>
    ⟨(h.at 1 rfl).cell (bL 8 V 0 Ac), (h.at 1 rfl).cell (bL 8 V 1 Ac), (h.at 1 rfl).cell (bL 8 V 2 Ac), (h.at 1 rfl).cell (bL 8 V 3 Ac),
     (h.at 1 rfl).cell (bL 8 V 4 Ac), (h.at 1 rfl).cell (bL 8 V 5 Ac), (h.at 1 rfl).cell (bL 8 V 6 Ac), (h.at 1 rfl).cell (bL 8 V 7 Ac)⟩
   have hvv := lE (st.at 1 rfl) HV.out
   have HVV := qH hvv
   clear hvv
   have MKS := qH mks
   have HPROD := qH hprod
   have HPLUS := qH hplus
   have HLT := qH hlt
   have HMOD := qH hmod
   clear mks hprod hplus hlt hmod
   go_wp2_with fail
   clear c0 c1 c2 c3 c4 c5 c6 c7 o1 o2 o3 hb
   refine wp_region_noPanic ?_
   refine fJ (fun wx => St Nob w wx [(g2, cw 4 p ++ cw 4 (B64 ^ 4 - p), 78), (g3, cw 8 V, 171), (g4, cw 4 0, 60)]) 22 [(0, true), (1, true), (2, true), (3, true), (4, true), (5, true), (6, true), (7, true), (8, true), (9, true), (10, true), (12, true), (13, true), (14, true), (15, true), (16, true), (17, true), (18, true), (19, true), (20, true), (11, false), (21, false)] Aa Aa st.drew (fun _ _ _ _ _ h => h) ?_
   refine bK (v := ?_) rfl rfl (fun wx hS => ?_) ?_
   rotate_left 1
   ·(have hc := MKS.out wx hS; obtain ⟨d0, d1, d2, d3, d4, d5, d6, d7⟩ := hc; clear hS; go_simp; with_reducible rfl)
   try simp only [J]
   refine bK (v := ?_) rfl rfl (fun wx hS => ?_) ?_
   rotate_left 1
   ·(have hc := MKS.out wx hS; obtain ⟨d0, d1, d2, d3, d4, d5, d6, d7⟩ := hc; clear hS; go_simp; with_reducible rfl)
   try simp only [J]
   refine bK (v := ?_) rfl rfl (fun wx hS => ?_) ?_
   rotate_left 1
   ·(have hc := MKS.out wx hS; obtain ⟨d0, d1, d2, d3, d4, d5, d6, d7⟩ := hc; clear hS; go_simp; with_reducible rfl)
   try simp only [J]
   refine bK (v := ?_) rfl rfl (fun wx hS => ?_) ?_
   rotate_left 1
   ·(have hc := MKS.out wx hS; obtain ⟨d0, d1, d2, d3, d4, d5, d6, d7⟩ := hc; clear hS; go_simp; with_reducible rfl)
   try simp only [J]
   refine bK (v := ?_) rfl rfl (fun wx hS => ?_) ?_
   rotate_left 1
   ·(have hc := MKS.out wx hS; obtain ⟨d0, d1, d2, d3, d4, d5, d6, d7⟩ := hc; clear hS; go_simp; with_reducible rfl)
   try simp only [J]
   refine bK (v := ?_) rfl rfl (fun wx hS => ?_) ?_
   rotate_left 1
   ·(have hc := MKS.out wx hS; obtain ⟨d0, d1, d2, d3, d4, d5, d6, d7⟩ := hc; clear hS; go_simp; with_reducible rfl)
   try simp only [J]
   refine bK (v := ?_) rfl rfl (fun wx hS => ?_) ?_
   rotate_left 1
   ·(have hc := MKS.out wx hS; obtain ⟨d0, d1, d2, d3, d4, d5, d6, d7⟩ := hc; clear hS; go_simp; with_reducible rfl)
   try simp only [J]
   refine bK (v := ?_) rfl rfl (fun wx hS => ?_) ?_
   rotate_left 1
   ·(have hc := MKS.out wx hS; obtain ⟨d0, d1, d2, d3, d4, d5, d6, d7⟩ := hc; clear hS; go_simp; with_reducible rfl)
   try simp only [J]
   refine bK (v := ?_) rfl rfl (fun wx hS => ?_) ?_
   rotate_left 1
   ·(have hc := MKS.out wx hS; obtain ⟨d0, d1, d2, d3, d4, d5, d6, d7⟩ := hc; clear hS; go_simp; with_reducible rfl)
   try simp only [J]
   refine bK (v := ?_) rfl rfl (fun wx hS => ?_) ?_
   rotate_left 1
   ·(have hc := MKS.out wx hS; obtain ⟨d0, d1, d2, d3, d4, d5, d6, d7⟩ := hc; clear hS; go_simp; with_reducible rfl)
   try simp only [J]
   refine jI rfl rfl rfl rfl (cw 4 (B64 ^ 4 - p)) (fun wx hS => St.rangeL hS 0 rfl 4 _ (k0N 4 4 _ _)) underlying60 rfl Aw ?_
   try simp only [J]
   refine bK (v := ?_) rfl rfl (fun wx hS => ?_) ?_
   rotate_left 1
   ·(have hc := MKS.out wx hS; obtain ⟨d0, d1, d2, d3, d4, d5, d6, d7⟩ := hc; clear hS; go_simp; with_reducible rfl)
   try simp only [J]
   refine bK (v := ?_) rfl rfl (fun wx hS => ?_) ?_
   rotate_left 1
   ·(have hc := MKS.out wx hS; obtain ⟨d0, d1, d2, d3, d4, d5, d6, d7⟩ := hc; clear hS; go_simp; with_reducible rfl)
   try simp only [J]
   refine bK (v := ?_) rfl rfl (fun wx hS => ?_) ?_
   rotate_left 1
   ·(have hc := MKS.out wx hS; obtain ⟨d0, d1, d2, d3, d4, d5, d6, d7⟩ := hc; clear hS; go_simp; with_reducible rfl)
   try simp only [J]
   refine bK (v := ?_) rfl rfl (fun wx hS => ?_) ?_
   rotate_left 1
   ·(have hc := MKS.out wx hS; obtain ⟨d0, d1, d2, d3, d4, d5, d6, d7⟩ := hc; clear hS; go_simp; with_reducible rfl)
   try simp only [J]
   refine bK (v := ?_) rfl rfl (fun wx hS => ?_) ?_
   rotate_left 1
   ·(have hc := MKS.out wx hS; obtain ⟨d0, d1, d2, d3, d4, d5, d6, d7⟩ := hc; clear hS; go_simp; with_reducible rfl)
   try simp only [J]
   refine bK (v := ?_) rfl rfl (fun wx hS => ?_) ?_
   rotate_left 1
   ·(have hc := MKS.out wx hS; obtain ⟨d0, d1, d2, d3, d4, d5, d6, d7⟩ := hc; clear hS; go_simp; with_reducible rfl)
   try simp only [J]
   refine bK (v := ?_) rfl rfl (fun wx hS => ?_) ?_
   rotate_left 1
   ·(have hc := MKS.out wx hS; obtain ⟨d0, d1, d2, d3, d4, d5, d6, d7⟩ := hc; clear hS; go_simp; with_reducible rfl)
   try simp only [J]
   refine bK (v := ?_) rfl rfl (fun wx hS => ?_) ?_
   rotate_left 1
   ·(have hc := MKS.out wx hS; obtain ⟨d0, d1, d2, d3, d4, d5, d6, d7⟩ := hc; clear hS; go_simp; with_reducible rfl)
   try simp only [J]
   refine bK (v := ?_) rfl rfl (fun wx hS => ?_) ?_
   rotate_left 1
   ·(have hc := MKS.out wx hS; obtain ⟨d0, d1, d2, d3, d4, d5, d6, d7⟩ := hc; clear hS; go_simp; with_reducible rfl)
   try simp only [J]
   refine kD rfl rfl ?_
   go_simp
   refine (HPROD.out _).mono ?_
   rintro e' w9 ⟨rfl, hf9⟩
   refine ⟨st.drew.keep hf9, ?_⟩
   try simp only [J]
   refine kD rfl rfl ?_
   go_simp
   refine (HPLUS.out _).mono ?_
   rintro e' w10 ⟨rfl, hf10⟩
   refine ⟨(st.drew.keep hf9).keep hf10, ?_⟩
   try simp only [J]
   refine qO ?_
   try simp only [List.drop_succ_cons, List.drop_zero]
   have st10 := (st.drew.keep hf9).keep hf10
   clear st hf9 hf10
   refine aB st10 1 rfl rfl rfl rfl rfl Bj (by rw [aT]; exact h0W) (aF _ _) ?_
   intro w11 st11
   have hv11 := lE (st11.at 1 rfl) (Nat.lt_trans HLT.out HV.out)
   clear st10
   go_wp2
   refine NoPanic.normal ?_
   refine ⟨?_, ?_⟩
   ·((repeat apply Exists.intro); exact ⟨⟨V', Nat.lt_trans HLT.out HV.out, HMOD.out.trans HVM.out, st11⟩, rfl⟩)
   ·rw [hv11, HVV.out]; exact HLT.out
end
section
open Go.RowKit Go.Mv Mvp
attribute [local irreducible] bI lw mix cw cT dG cS bQ aO
theorem _root_.Ad {p : Prop} (h : p := by first | (rw [aT]; kernel_rfl) | (simp only [List.length_append, aT]; kernel_rfl)) : p := h
theorem _root_.Ah {p : Prop} (h : p := by first | (simp only [aT]; done) | (simp only [List.length_append, aT]; done)) : p := h
theorem _root_.Ag {p : Prop} (h : p := by simp only [aT]; kernel_rfl) : p := h
theorem oB (p a b : Nat) (w : World) (hp0 : 0 < p) (hp : p < B64 ^ 4) (ha : a < B64 ^ 4) (hb : b < B64 ^ 4) :
  Calls prog 58 #[fv p, i4 a, i4 b] w fun e w' => e = .returned (i4 (a * b % p)) ∧ Fr Nob w w' := by
 have HP0 := qH hp0
 have HP := qH hp
 have HA := qH ha
 have HB := qH hb
 have HAB := qH (show a * b < B64 ^ 8 from Nat.lt_of_lt_of_le (Nat.mul_lt_mul'' ha hb) Ac)
 clear hp0 hp ha hb
 have st0 := St.start Nob w
 go_enter func58, ntmps58
 go_wp2_with (with_reducible refine AA 3 ?_)
 refine aL st0 rfl rfl rfl (cw 4 p ++ cw 4 (B64 ^ 4 - p)) rfl ?_
 intro g3 w1 st1
 clear st0
 go_wp2_with (with_reducible refine AA 4 ?_)
 refine aL st1 rfl rfl rfl (cw 4 a) rfl ?_
 intro g4 w2 st2
 clear st1
 go_wp2_with (with_reducible refine AA 5 ?_)
 refine aL st2 rfl rfl rfl (cw 4 b) rfl ?_
 intro g5 w3 st3
 clear st2
 go_wp2_with (with_reducible refine AA 6 ?_)
 refine aA st3 rfl rfl (z := zAd) Aa (cw 4 0) Af ?_
 intro g6 w4 st4
 clear st3
 go_wp2_with fail
 refine wp_region_noPanic ?_
 refine fJ (fun wx => St Nob w wx [(g3, cw 4 p ++ cw 4 (B64 ^ 4 - p), 78), (g4, cw 4 a, 60), (g5, cw 4 b, 60), (g6, cw 4 0, 60)]) 5 [(0, true), (1, true), (2, true), (3, false), (4, false)] Aa Aa st4.drew (fun _ _ _ _ _ h => h) ?_
 have hd4 := st4.drew
 refine jI rfl rfl rfl rfl (cw 4 p ++ cw 4 (B64 ^ 4 - p)) (fun wx hS => St.rangeL hS 0 rfl 0 _ dZl) underlying78 rfl Ad ?_
 try simp only [J]
 refine jI rfl rfl rfl rfl (cw 4 a) (fun wx hS => St.rangeL hS 1 rfl 0 _ dZl) underlying60 rfl Ag ?_
 try simp only [J]
 refine jI rfl rfl rfl rfl (cw 4 b) (fun wx hS => St.rangeL hS 2 rfl 0 _ dZl) underlying60 rfl Ag ?_
 try simp only [J]
 refine kD rfl rfl ?_
 go_simp
 refine (mI a b _ HA.out HB.out).mono ?_
 rintro e' w5 ⟨rfl, hf5⟩
 have st5 := hd4.keep hf5
 clear hd4 hf5
 refine ⟨st5, ?_⟩
 try simp only [J]
 refine kD rfl rfl ?_
 go_simp
 refine (yZ p (a * b) _ HP0.out HP.out HAB.out).mono ?_
 rintro e' w6 ⟨rfl, hf6⟩
 have st6 := st5.keep hf6
 clear st5 hf6
 refine ⟨st6, ?_⟩
 try simp only [J]
 refine qO ?_
 try simp only [List.drop_succ_cons, List.drop_zero]
 refine aB st6 3 rfl rfl rfl rfl rfl Ah Ag (aF _ _) ?_
 intro w7 st7
 clear st6
 go_wp2_with fail
 refine NoPanic.normal ?_
 have hr := st7.at 3 rfl
 have hfr := st7.fr
 clear st7
 go_wp2_with fail
 exact bodyPost_ret (aX rfl rfl hr underlying60 Ag) rfl ⟨rfl, hfr⟩
theorem c0R (p a b : Nat) (w : World) (hp0 : 0 < p) (hp : p < B64 ^ 4) (ha : a < B64 ^ 4) (hb : b < B64 ^ 4) :
  Calls prog 57 #[fv p, i4 a, i4 b] w fun e w' => e = .returned (i4 ((a + b) % p)) ∧ Fr Nob w w' := by
 have HP0 := qH hp0
 have HP := qH hp
 have HA := qH ha
 have HB := qH hb
 have HAB := qH (show a + b < B64 ^ 8 from Nat.lt_of_lt_of_le (Nat.add_lt_add ha hb) Ac)
 have hplus := fun wx => uB (a % B64 ^ 4) (b % B64 ^ 4) wx
 rw [h0U, h0U, Nat.mod_eq_of_lt ha, Nat.mod_eq_of_lt hb] at hplus
 have HPLUS := qH hplus
 clear hplus
 clear hp0 hp ha hb
 have st0 := St.start Nob w
 go_enter func57, ntmps57
 go_wp2_with (with_reducible refine AA 3 ?_)
 refine aL st0 rfl rfl rfl (cw 4 p ++ cw 4 (B64 ^ 4 - p)) rfl ?_
 intro g3 w1 st1
 clear st0
 go_wp2_with (with_reducible refine AA 4 ?_)
 refine aL st1 rfl rfl rfl (cw 4 a) rfl ?_
 intro g4 w2 st2
 clear st1
 go_wp2_with (with_reducible refine AA 5 ?_)
 refine aL st2 rfl rfl rfl (cw 4 b) rfl ?_
 intro g5 w3 st3
 clear st2
 go_wp2_with (with_reducible refine AA 6 ?_)
 refine aA st3 rfl rfl (z := zAd) Aa (cw 4 0) Af ?_
 intro g6 w4 st4
 clear st3
 go_wp2_with fail
 refine wp_region_noPanic ?_
 refine fJ (fun wx => St Nob w wx [(g3, cw 4 p ++ cw 4 (B64 ^ 4 - p), 78), (g4, cw 4 a, 60), (g5, cw 4 b, 60), (g6, cw 4 0, 60)]) 21 [(0, true), (1, true), (2, true), (3, true), (4, true), (5, true), (6, true), (7, true), (8, true), (9, true), (10, true), (11, true), (12, true), (13, true), (14, true), (15, true), (16, true), (17, true), (18, true), (19, false), (20, false)] Aa Aa st4.drew (fun _ _ _ _ _ h => h) ?_
 have hd4 := st4.drew
 refine jI rfl rfl rfl rfl (cw 4 p ++ cw 4 (B64 ^ 4 - p)) (fun wx hS => St.rangeL hS 0 rfl 0 _ dZl) underlying78 rfl Ad ?_
 try simp only [J]
 refine bK (v := ?_) rfl rfl (fun wx hS => ?_) ?_
 rotate_left 1
 ·(clear hS; go_simp; with_reducible rfl)
 try simp only [J]
 refine bK (v := ?_) rfl rfl (fun wx hS => ?_) ?_
 rotate_left 1
 ·(have hc := (St.at hS 1 rfl).cell (bL 4 a 0 Ac); clear hS; go_simp; with_reducible rfl)
 try simp only [J]
 refine bK (v := ?_) rfl rfl (fun wx hS => ?_) ?_
 rotate_left 1
 ·(clear hS; go_simp; with_reducible rfl)
 try simp only [J]
 refine bK (v := ?_) rfl rfl (fun wx hS => ?_) ?_
 rotate_left 1
 ·(have hc := (St.at hS 1 rfl).cell (bL 4 a 1 Ac); clear hS; go_simp; with_reducible rfl)
 try simp only [J]
 refine bK (v := ?_) rfl rfl (fun wx hS => ?_) ?_
 rotate_left 1
 ·(clear hS; go_simp; with_reducible rfl)
 try simp only [J]
 refine bK (v := ?_) rfl rfl (fun wx hS => ?_) ?_
 rotate_left 1
 ·(have hc := (St.at hS 1 rfl).cell (bL 4 a 2 Ac); clear hS; go_simp; with_reducible rfl)
 try simp only [J]
 refine bK (v := ?_) rfl rfl (fun wx hS => ?_) ?_
 rotate_left 1
 ·(clear hS; go_simp; with_reducible rfl)
 try simp only [J]
 refine bK (v := ?_) rfl rfl (fun wx hS => ?_) ?_
 rotate_left 1
 ·(have hc := (St.at hS 1 rfl).cell (bL 4 a 3 Ac); clear hS; go_simp; with_reducible rfl)
 try simp only [J]
 refine bK (v := ?_) rfl rfl (fun wx hS => ?_) ?_
 rotate_left 1
 ·(clear hS; go_simp; with_reducible rfl)
 try simp only [J]
 refine bK (v := ?_) rfl rfl (fun wx hS => ?_) ?_
 rotate_left 1
 ·(clear hS; go_simp; with_reducible rfl)
 try simp only [J]
 refine bK (v := ?_) rfl rfl (fun wx hS => ?_) ?_
 rotate_left 1
 ·(have hc := (St.at hS 2 rfl).cell (bL 4 b 0 Ac); clear hS; go_simp; with_reducible rfl)
 try simp only [J]
 refine bK (v := ?_) rfl rfl (fun wx hS => ?_) ?_
 rotate_left 1
 ·(clear hS; go_simp; with_reducible rfl)
 try simp only [J]
 refine bK (v := ?_) rfl rfl (fun wx hS => ?_) ?_
 rotate_left 1
 ·(have hc := (St.at hS 2 rfl).cell (bL 4 b 1 Ac); clear hS; go_simp; with_reducible rfl)
 try simp only [J]
 refine bK (v := ?_) rfl rfl (fun wx hS => ?_) ?_
 rotate_left 1
 ·(clear hS; go_simp; with_reducible rfl)
 try simp only [J]
 refine bK (v := ?_) rfl rfl (fun wx hS => ?_) ?_
 rotate_left 1
 ·(have hc := (St.at hS 2 rfl).cell (bL 4 b 2 Ac); clear hS; go_simp; with_reducible rfl)
 try simp only [J]
 refine bK (v := ?_) rfl rfl (fun wx hS => ?_) ?_
 rotate_left 1
 ·(clear hS; go_simp; with_reducible rfl)
 try simp only [J]
 refine bK (v := ?_) rfl rfl (fun wx hS => ?_) ?_
 rotate_left 1
 ·(have hc := (St.at hS 2 rfl).cell (bL 4 b 3 Ac); clear hS; go_simp; with_reducible rfl)
 try simp only [J]
 refine bK (v := ?_) rfl rfl (fun wx hS => ?_) ?_
 rotate_left 1
 ·(clear hS; go_simp; with_reducible rfl)
 try simp only [J]
 refine kD rfl rfl ?_
 go_simp
 refine (HPLUS.out _).mono ?_
 rintro e' w5 ⟨rfl, hf5⟩
 have st5 := hd4.keep hf5
 clear hd4 hf5
 refine ⟨st5, ?_⟩
 try simp only [J]
 refine kD rfl rfl ?_
 go_simp
 refine (yZ p (a + b) _ HP0.out HP.out HAB.out).mono ?_
 rintro e' w6 ⟨rfl, hf6⟩
 have st6 := st5.keep hf6
 clear st5 hf6
 refine ⟨st6, ?_⟩
 try simp only [J]
 refine qO ?_
 try simp only [List.drop_succ_cons, List.drop_zero]
 refine aB st6 3 rfl rfl rfl rfl rfl Ah Ag (aF _ _) ?_
 intro w7 st7
 clear st6
 go_wp2_with fail
 refine NoPanic.normal ?_
 have hr := st7.at 3 rfl
 have hfr := st7.fr
 clear st7
 go_wp2_with fail
 exact bodyPost_ret (aX rfl rfl hr underlying60 Ag) rfl ⟨rfl, hfr⟩
theorem e0i (a : Nat) (w : World) (ha : a < B64 ^ 4) :
  Calls prog 123 #[i4 a] w fun e w' => e = .returned (.bool (decide (a = 0))) ∧ Fr Nob w w' := by
 have HA := qH ha
 clear ha
 have st0 := St.start Nob w
 go_enter func123, ntmps123
 go_wp2_with (with_reducible refine AA 1 ?_)
 refine aL st0 rfl rfl rfl (cw 4 a) rfl ?_
 intro g1 w1 st1
 clear st0
 have c0 := (st1.at 0 rfl).cell (bL 4 a 0 Ac)
 have c1 := (st1.at 0 rfl).cell (bL 4 a 1 Ac)
 have c2 := (st1.at 0 rfl).cell (bL 4 a 2 Ac)
 have c3 := (st1.at 0 rfl).cell (bL 4 a 3 Ac)
 have hfr := st1.fr
 clear st1
 have l4 := gO a 0
 have l5 := gO a 1
 have l6 := gO a 2
 have l7 := gO a 3
 have o1 := bits_or_u64_nat _ _ l4 l5
 have o2 := bits_or_u64_nat _ _ (Nat.or_lt_two_pow (n := 64) l4 l5) l6
 have o3 := bits_or_u64_nat _ _ (Nat.or_lt_two_pow (n := 64) (Nat.or_lt_two_pow (n := 64) l4 l5) l6) l7
 have htz := f0P a HA.out
 generalize hor : (lw a 0 ||| lw a 1 ||| lw a 2 ||| lw a 3) = o at *
 have hoo : ((o : Int) == 0) = decide (a = 0) := by
  rw [show ((o : Int) == 0) = decide (o = 0) by rw [Bool.eq_iff_iff]; simp]
  exact decide_eq_decide.2 htz
 have HOR := qH hor
 clear hor l4 l5 l6 l7 htz
 go_wp2_with fail
 go_ret
 exact ⟨rfl, hfr⟩
theorem c0S (p a : Nat) (w : World) (hap : a ≤ p) (hp : p < B64 ^ 4) (ha : a < B64 ^ 4) :
  Calls prog 142 #[fv p, i4 a] w fun e w' => e = .returned (i4 ((p - a) % p)) ∧ Fr Nob w w' := by
 have HAP := qH hap
 have HP := qH hp
 have HA := qH ha
 clear hap hp ha
 have st0 := St.start Nob w
 go_enter func142, ntmps142
 go_wp2_with (with_reducible refine AA 2 ?_)
 refine aL st0 rfl rfl rfl (cw 4 p ++ cw 4 (B64 ^ 4 - p)) rfl ?_
 intro g2 w1 st1
 clear st0
 go_wp2_with (with_reducible refine AA 3 ?_)
 refine aL st1 rfl rfl rfl (cw 4 a) rfl ?_
 intro g3 w2 st2
 clear st1
 go_wp2_with (with_reducible refine AA 4 ?_)
 refine aA st2 rfl rfl (z := zAd) Aa (cw 4 0) Af ?_
 intro g4 w3 st3
 clear st2
 go_wp2_with (with_reducible refine AA 8 ?_)
 refine aI st3 1 rfl rfl rfl underlying60 rfl Ag ?_
 go_wp2_with fail
 refine (e0i a _ HA.out).mono ?_
 rintro e' w4 ⟨rfl, hf4⟩
 have st4 := st3.keep hf4
 clear st3 hf4
 by_cases h0 : a = 0
 ·rw [decide_eq_true h0]
  have H0 := qH h0
  clear h0
  go_wp2_with (with_reducible refine AA 11 ?_)
  refine aI st4 1 rfl rfl rfl underlying60 rfl Ag ?_
  go_wp2_with (with_reducible refine AB ?_)
  refine aB st4 2 rfl rfl rfl rfl rfl Ah Ag (aF _ _) ?_
  intro w5 st5
  clear st4
  have hr := st5.at 2 rfl
  have hfr := st5.fr
  clear st5
  go_wp2_with fail
  exact bodyPost_ret (aX rfl rfl hr underlying60 Ag) rfl ⟨by rw [H0.out, Nat.sub_zero, Nat.mod_self]; rfl, hfr⟩
 ·rw [decide_eq_false h0]
  have H0 := qH h0
  clear h0
  go_wp2_with (with_reducible refine AA 14 ?_)
  refine fA rfl rfl underlying60 rfl (st4.at 0 rfl) (cw 4 p) (qL 4 4 _ _) Ag ?_
  go_wp2_with (with_reducible refine AA 15 ?_)
  refine aI st4 1 rfl rfl rfl underlying60 rfl Ag ?_
  go_wp2_with fail
  refine (yY p a _ HA.out).mono ?_
  rintro e' w5 ⟨rfl, hf5⟩
  have st5 := st4.keep hf5
  clear st4 hf5
  go_wp2_with (with_reducible refine AA 6 ?_)
  refine aA st5 rfl rfl (z := zAd) Aa (cw 4 0) Af ?_
  intro g6 w6 st6
  clear st5
  go_wp2_with (with_reducible refine AB ?_)
  refine aB st6 3 rfl rfl rfl rfl rfl Ah Ag (aF _ _) ?_
  intro w7 st7
  clear st6
  go_wp2_with (with_reducible refine AA 19 ?_)
  refine aI st7 3 rfl rfl rfl underlying60 rfl Ag ?_
  go_wp2_with (with_reducible refine AB ?_)
  refine aB st7 2 rfl rfl rfl rfl rfl Ah Ag (aF _ _) ?_
  intro w8 st8
  clear st7
  have hr := st8.at 2 rfl
  have hfr := st8.fr
  clear st8
  go_wp2_with fail
  exact bodyPost_ret (aX rfl rfl hr underlying60 Ag) rfl ⟨by rw [Nat.mod_eq_of_lt (by have := H0.out; have := HAP.out; omega), ← b0i p a HAP.out]; rfl, hfr⟩
theorem o0k (p a b : Nat) (w : World) (hp0 : 0 < p) (hp : p < B64 ^ 4) (ha : a < B64 ^ 4) (hb : b < B64 ^ 4) (hbp : b ≤ p) :
  Calls prog 137 #[fv p, i4 a, i4 b] w fun e w' => e = .returned (i4 ((a + (p - b) % p) % p)) ∧ Fr Nob w w' := by
 have HP0 := qH hp0
 have HP := qH hp
 have HA := qH ha
 have HB := qH hb
 have HBP := qH hbp
 have HN := qH (show (p - b) % p < B64 ^ 4 from Nat.lt_trans (Nat.mod_lt _ hp0) hp)
 clear hp0 hp ha hb hbp
 have st0 := St.start Nob w
 go_enter func137, ntmps137
 go_wp2_with (with_reducible refine AA 3 ?_)
 refine aL st0 rfl rfl rfl (cw 4 p ++ cw 4 (B64 ^ 4 - p)) rfl ?_
 intro g3 w1 st1
 clear st0
 go_wp2_with (with_reducible refine AA 4 ?_)
 refine aL st1 rfl rfl rfl (cw 4 a) rfl ?_
 intro g4 w2 st2
 clear st1
 go_wp2_with (with_reducible refine AA 5 ?_)
 refine aL st2 rfl rfl rfl (cw 4 b) rfl ?_
 intro g5 w3 st3
 clear st2
 go_wp2_with (with_reducible refine AA 6 ?_)
 refine aA st3 rfl rfl (z := zAd) Aa (cw 4 0) Af ?_
 intro g6 w4 st4
 clear st3
 go_wp2_with fail
 refine wp_region_noPanic ?_
 refine fJ (fun wx => St Nob w wx [(g3, cw 4 p ++ cw 4 (B64 ^ 4 - p), 78), (g4, cw 4 a, 60), (g5, cw 4 b, 60), (g6, cw 4 0, 60)]) 6 [(0, true), (1, true), (2, true), (3, true), (4, false), (5, false)] Aa Aa st4.drew (fun _ _ _ _ _ h => h) ?_
 have hd4 := st4.drew
 refine jI rfl rfl rfl rfl (cw 4 p ++ cw 4 (B64 ^ 4 - p)) (fun wx hS => St.rangeL hS 0 rfl 0 _ dZl) underlying78 rfl Ad ?_
 try simp only [J]
 refine jI rfl rfl rfl rfl (cw 4 a) (fun wx hS => St.rangeL hS 1 rfl 0 _ dZl) underlying60 rfl Ag ?_
 try simp only [J]
 refine jI rfl rfl rfl rfl (cw 4 p ++ cw 4 (B64 ^ 4 - p)) (fun wx hS => St.rangeL hS 0 rfl 0 _ dZl) underlying78 rfl Ad ?_
 try simp only [J]
 refine jI rfl rfl rfl rfl (cw 4 b) (fun wx hS => St.rangeL hS 2 rfl 0 _ dZl) underlying60 rfl Ag ?_
 try simp only [J]
 refine kD rfl rfl ?_
 go_simp
 refine (c0S p b _ HBP.out HP.out HB.out).mono ?_
 rintro e' w5 ⟨rfl, hf5⟩
 have st5 := hd4.keep hf5
 clear hd4 hf5
 refine ⟨st5, ?_⟩
 try simp only [J]
 refine kD rfl rfl ?_
 go_simp
 refine (c0R p a ((p - b) % p) _ HP0.out HP.out HA.out HN.out).mono ?_
 rintro e' w6 ⟨rfl, hf6⟩
 have st6 := st5.keep hf6
 clear st5 hf6
 refine ⟨st6, ?_⟩
 try simp only [J]
 refine qO ?_
 try simp only [List.drop_succ_cons, List.drop_zero]
 refine aB st6 3 rfl rfl rfl rfl rfl Ah Ag (aF _ _) ?_
 intro w7 st7
 clear st6
 go_wp2_with fail
 refine NoPanic.normal ?_
 have hr := st7.at 3 rfl
 have hfr := st7.fr
 clear st7
 go_wp2_with fail
 exact bodyPost_ret (aX rfl rfl hr underlying60 Ag) rfl ⟨rfl, hfr⟩
theorem uD (n : Nat) (w : World) (hn : n < 18446744073709551616) :
  Calls prog 156 #[.int .u64 (n : Int)] w fun e w' => e = .returned (i4 n) ∧ Fr Nob w w' := by
 have HN := qH hn
 have HW := qH (dY n hn)
 clear hn
 have st0 := St.start Nob w
 go_enter func156, ntmps156
 go_wp2_with (with_reducible refine AA 2 ?_)
 refine aA st0 rfl rfl (z := zAd) Aa (cw 4 0) Af ?_
 intro g2 w1 st1
 clear st0
 go_wp2_with (with_reducible refine AB ?_)
 refine aB st1 0 rfl rfl rfl rfl (cs := cw 4 n) HW.out Az Ag (aF _ _) ?_
 intro w2 st2
 clear st1
 have hr := st2.at 0 rfl
 have hfr := st2.fr
 clear st2
 go_wp2_with fail
 exact bodyPost_ret (aX rfl rfl hr underlying60 Ag) rfl ⟨rfl, hfr⟩
theorem h0X (a b : Nat) (w : World) (ha : a < B64 ^ 4) (hb : b < B64 ^ 4) :
  Calls prog 174 #[i4 a, i4 b] w fun e w' => e = .returned (.bool (decide (a < b))) ∧ Fr Nob w w' := by
 have HA := qH ha
 have HB := qH hb
 clear ha hb
 have st0 := St.start Nob w
 go_enter func174, ntmps174
 go_wp2_with (with_reducible refine AA 2 ?_)
 refine aL st0 rfl rfl rfl (cw 4 a) rfl ?_
 intro g2 w1 st1
 clear st0
 go_wp2_with (with_reducible refine AA 3 ?_)
 refine aL st1 rfl rfl rfl (cw 4 b) rfl ?_
 intro g3 w2 st2
 clear st1
 have HCS := qH (nC a b 4 HA.out HB.out)
 go_wp2_with (with_reducible refine AA 8 ?_)
 refine aI st2 0 rfl rfl rfl underlying60 rfl Ag ?_
 go_wp2_with (with_reducible refine AA 9 ?_)
 refine aI st2 1 rfl rfl rfl underlying60 rfl Ag ?_
 go_wp2_with fail
 refine (yY a b _ HB.out).mono ?_
 rintro e' w3 ⟨rfl, hf3⟩
 have st3 := st2.keep hf3
 clear st2 hf3
 go_wp2_with (with_reducible refine AA 5 ?_)
 refine aA st3 rfl rfl (z := zAd) Aa (cw 4 0) Af ?_
 intro g5 w4 st4
 clear st3
 go_wp2_with (with_reducible refine AB ?_)
 refine aB st4 2 rfl rfl rfl rfl rfl Ah Ag (aF _ _) ?_
 intro w5 st5
 clear st4
 have hfr := st5.fr
 clear st5
 have hcs := HCS.out
 clear HCS
 by_cases hlt : a < b
 ·rw [if_pos hlt] at hcs
  rw [hcs]
  have HLT := qH hlt
  clear hlt hcs
  go_wp2_with fail
  go_ret
  exact ⟨by rw [decide_eq_true HLT.out]; rfl, hfr⟩
 ·rw [if_neg hlt] at hcs
  rw [hcs]
  have HLT := qH hlt
  clear hlt hcs
  go_wp2_with fail
  go_ret
  exact ⟨by rw [decide_eq_false HLT.out]; rfl, hfr⟩
end
end Go.Proofs.YtemcankmggmgoaaGreat
namespace Mvp
def beN (l : List UInt8) : Nat := l.foldl (fun a x => a * 256 + x.toNat) 0
theorem zA : beN [] = 0 := rfl
theorem sF (l : List UInt8) (x : UInt8) : beN (l ++ [x]) = beN l * 256 + x.toNat := by simp [beN]
theorem h0Y (l : List UInt8) : beN l < 256 ^ l.length := by
 have h : ∀ (n : Nat) (l : List UInt8), l.length = n → beN l < 256 ^ n := by
  intro n
  induction n with
  | zero => intro l hl; rw [List.length_eq_zero_iff.1 hl]; decide
  | succ n ih =>
   intro l hl
   obtain ⟨m, x, rfl⟩ : ∃ m x, l = m ++ [x] := by
    rcases List.eq_nil_or_concat l with h | ⟨m, x, h⟩
    ·subst h; simp at hl
    ·exact ⟨m, x, by simpa using h⟩
   have := ih m (by simpa using hl)
   have hx := x.toNat_lt
   rw [sF, Nat.pow_succ]
   omega
 exact h _ l rfl
theorem zC (l : List UInt8) (i : Nat) (h : i < l.length) : beN (l.take (i + 1)) = beN (l.take i) * 256 + (l.getD i 0).toNat := by
 rw [List.take_succ_eq_append_getElem h, sF]
 simp [List.getD_eq_getElem?_getD, h]
def dO (l : List UInt8) (i : Nat) : Nat := beN (l.take i) * 256 ^ (l.length - i)
theorem b0m (l : List UInt8) : dO l 0 = 0 := by simp [dO, beN]
theorem e0j (l : List UInt8) : dO l l.length = beN l := by simp [dO]
theorem b0n (l : List UInt8) (i : Nat) (h : i < l.length) : dO l (i + 1) = dO l i + (l.getD i 0).toNat * 256 ^ (l.length - 1 - i) := by
 unfold dO
 rw [zC l i h, Nat.add_mul, Nat.mul_assoc, show l.length - i = (l.length - 1 - i) + 1 by omega, Nat.pow_succ, Nat.mul_comm 256, show l.length - (i + 1) = l.length - 1 - i by omega]
theorem e0k (l : List UInt8) (i : Nat) (h : i < l.length) : dO l i % 256 ^ (l.length - 1 - i + 1) = 0 := by
 unfold dO
 rw [show l.length - 1 - i + 1 = l.length - i by omega, Nat.mul_mod_left]
theorem h0Z (k : Nat) : 256 ^ k = B64 ^ (k / 8) * 2 ^ (8 * (k % 8)) := by
 have e1 : (256 : Nat) = 2 ^ 8 := by decide
 have e2 : B64 = 2 ^ 64 := by decide
 rw [e1, e2, ← Nat.pow_mul, ← Nat.pow_mul, ← Nat.pow_add]
 congr 1
 omega
theorem pC (x r : Nat) (hx : x < 256) : x * 2 ^ r < 2 ^ (r + 8) := by
 rw [Nat.pow_add, Nat.mul_comm (2 ^ r)]
 exact Nat.mul_lt_mul_of_pos_right hx (Nat.two_pow_pos r)
theorem o0l (A y r : Nat) (hr : r + 8 ≤ 64) (hy : y < 2 ^ (r + 8)) (hA : A % 2 ^ (r + 8) = 0) : (A % B64) ||| y = (A + y) % B64 ∧ (A + y) / B64 = A / B64 := by
 obtain ⟨c, hc⟩ : ∃ c, B64 = 2 ^ (r + 8) * c := ⟨2 ^ (64 - (r + 8)), by rw [← Nat.pow_add, show r + 8 + (64 - (r + 8)) = 64 by omega]⟩
 obtain ⟨m, rfl⟩ : ∃ m, A = 2 ^ (r + 8) * m := ⟨A / 2 ^ (r + 8), by have := Nat.div_add_mod A (2 ^ (r + 8)); omega⟩
 have hc0 : 0 < c := by
  rcases Nat.eq_zero_or_pos c with h | h
  ·rw [h, Nat.mul_zero] at hc; exact absurd hc Ac
  ·exact h
 have hp := Nat.two_pow_pos (r + 8)
 rw [hc]
 have e1 : 2 ^ (r + 8) * m % (2 ^ (r + 8) * c) = 2 ^ (r + 8) * (m % c) := Nat.mul_mod_mul_left _ _ _
 have hmc := Nat.mod_lt m hc0
 have e3 : 2 ^ (r + 8) * m + y = (2 ^ (r + 8) * c) * (m / c) + (2 ^ (r + 8) * (m % c) + y) := by
  have := Nat.div_add_mod m c
  have h2 : 2 ^ (r + 8) * m = 2 ^ (r + 8) * (c * (m / c) + m % c) := by rw [this]
  rw [h2, Nat.mul_add, Nat.mul_assoc]; omega
 have hlt : 2 ^ (r + 8) * (m % c) + y < 2 ^ (r + 8) * c := by
  have h1 : 2 ^ (r + 8) * (m % c + 1) ≤ 2 ^ (r + 8) * c := Nat.mul_le_mul_left _ hmc
  rw [Nat.mul_add, Nat.mul_one] at h1
  omega
 constructor
 ·rw [e1, ← Nat.two_pow_add_eq_or_of_lt hy, e3, Nat.mul_add_mod, Nat.mod_eq_of_lt hlt]
 ·rw [e3, Nat.mul_add_div (Nat.mul_pos hp hc0), Nat.div_eq_of_lt hlt, Nat.add_zero, Nat.mul_div_mul_left _ _ hp]
theorem i0a (n N k x : Nat) (hx : x < 256) (hN : N % 256 ^ (k + 1) = 0) (hk : k / 8 < n) : (bI n N).set (k / 8) (lw N (k / 8) ||| x * 2 ^ (8 * (k % 8))) = bI n (N + x * 256 ^ k) := by
 have hA : N / B64 ^ (k / 8) % 2 ^ (8 * (k % 8) + 8) = 0 := by
  have e : 256 ^ (k + 1) = B64 ^ (k / 8) * 2 ^ (8 * (k % 8) + 8) := by rw [Nat.pow_succ, h0Z, Nat.mul_assoc, Nat.pow_add]
  rw [e] at hN
  rw [← Nat.mod_mul_right_div_self, hN, Nat.zero_div]
 obtain ⟨h1, h2⟩ := o0l (N / B64 ^ (k / 8)) (x * 2 ^ (8 * (k % 8))) (8 * (k % 8)) Ab (pC x _ hx) hA
 have e : N + x * 256 ^ k = N + B64 ^ (k / 8) * (x * 2 ^ (8 * (k % 8))) := by rw [h0Z, Nat.mul_left_comm]
 rw [e]
 apply List.ext_getElem?
 intro i
 rw [List.getElem?_set, dN]
 rcases Nat.lt_or_ge i n with hi | hi
 ·rw [gJ _ _ _ hi, gJ _ _ _ hi]
  rcases Nat.lt_trichotomy i (k / 8) with h | h | h
  ·rw [if_neg Ab, tV _ _ _ _ h]
  ·subst h
   rw [if_pos rfl, if_pos hi]
   congr 1
   have := gQ N (x * 2 ^ (8 * (k % 8))) (k / 8) 0
   rw [Nat.add_zero] at this
   rw [this]
   simp only [lw, Nat.pow_zero, Nat.div_one]
   exact h1
  ·rw [if_neg Ab]
   congr 1
   obtain ⟨j, rfl⟩ : ∃ j, i = k / 8 + (1 + j) := ⟨i - k / 8 - 1, by omega⟩
   rw [gQ, ← gD N, ← gD _ 1 j, ← gD _ 1 j, Nat.pow_one, h2]
 ·rw [if_neg Ab, List.getElem?_eq_none (by rw [dN]; exact hi), List.getElem?_eq_none (by rw [dN]; exact hi)]
def cI (N : Nat) : List UInt8 := (List.range 32).map fun i => UInt8.ofNat (N / 256 ^ (31 - i))
theorem eH (N : Nat) : (cI N).length = 32 := by simp [cI]
theorem e0l (N i : Nat) (h : i < 32) : (cI N).getD i 0 = UInt8.ofNat (N / 256 ^ (31 - i)) := by simp [cI, List.getD_eq_getElem?_getD, h]
theorem o0m (N k : Nat) : lw N (k / 8) / 2 ^ (8 * (k % 8)) % 256 = N / 256 ^ k % 256 := by
 unfold lw
 rw [h0Z, ← Nat.div_div_eq_div_mul]
 generalize N / B64 ^ (k / 8) = A
 have hr : 8 * (k % 8) + 8 ≤ 64 := by omega
 generalize 8 * (k % 8) = r at *
 have e : B64 = 2 ^ r * 2 ^ (64 - r) := by rw [← Nat.pow_add, show r + (64 - r) = 64 by omega]
 rw [e, Nat.mod_mul_right_div_self]
 exact Nat.mod_mod_of_dvd _ ⟨2 ^ (64 - r - 8), by rw [show (256 : Nat) = 2 ^ 8 from rfl, ← Nat.pow_add, show 8 + (64 - r - 8) = 64 - r by omega]⟩
theorem m0T (N i : Nat) : lw N (i / 64) / 2 ^ (i % 64) % 2 = N / 2 ^ i % 2 := by
 unfold lw
 have e1 : 2 ^ i = B64 ^ (i / 64) * 2 ^ (i % 64) := by
  rw [show B64 = 2 ^ 64 from rfl, ← Nat.pow_mul, ← Nat.pow_add]
  congr 1; omega
 rw [e1, ← Nat.div_div_eq_div_mul]
 generalize N / B64 ^ (i / 64) = A
 have hr : i % 64 + 1 ≤ 64 := by omega
 generalize i % 64 = r at *
 have e : B64 = 2 ^ r * 2 ^ (64 - r) := by rw [← Nat.pow_add, show r + (64 - r) = 64 by omega]
 rw [e, Nat.mod_mul_right_div_self]
 exact Nat.mod_mod_of_dvd _ ⟨2 ^ (64 - r - 1), by rw [show (2 : Nat) ^ (64 - r) = 2 ^ (1 + (64 - r - 1)) by congr 1; omega, Nat.pow_add, Nat.pow_one]⟩
theorem e0m (N : Nat) (h : N < 256 ^ 32) : beN (cI N) = N := by
 have key : ∀ n, n ≤ 32 → beN ((cI N).take n) = N / 256 ^ (32 - n) := by
  intro n
  induction n with
  | zero => intro _; simp only [List.take_zero, zA, Nat.sub_zero]; exact (Nat.div_eq_of_lt h).symm
  | succ n ih =>
   intro hn
   rw [zC _ _ (by rw [eH]; omega), ih Ab, e0l _ _ Ab, show 32 - (n + 1) = 31 - n by omega, show 32 - n = (31 - n) + 1 by omega, Nat.pow_succ, ← Nat.div_div_eq_div_mul]
   simp only [UInt8.toNat_ofNat']
   have := Nat.div_add_mod (N / 256 ^ (31 - n)) 256
   show _ * 256 + N / 256 ^ (31 - n) % 256 = _
   omega
 have := key 32 (Nat.le_refl _)
 rw [List.take_of_length_le (by rw [eH]; exact Nat.le_refl _)] at this
 simpa using this
def dI (a n p i : Nat) : Nat := a ^ (n / 2 ^ i) % p
theorem k0O (a n p : Nat) (hp : 1 < p) (hn : n < B64 ^ 4) : dI a n p 256 = 1 := by
 unfold dI
 rw [Nat.div_eq_of_lt (Nat.lt_of_lt_of_le hn Ac), Nat.pow_zero, Nat.mod_eq_of_lt hp]
theorem k0P (a n p : Nat) : dI a n p 0 = a ^ n % p := by unfold dI; rw [Nat.pow_zero, Nat.div_one]
theorem kS (n i : Nat) : n / 2 ^ i = 2 * (n / 2 ^ (i + 1)) + n / 2 ^ i % 2 := by
 rw [Nat.pow_succ, ← Nat.div_div_eq_div_mul]
 have := Nat.div_add_mod (n / 2 ^ i) 2
 omega
theorem f0W (a n p i : Nat) (h : n / 2 ^ i % 2 = 0) : dI a n p (i + 1) * dI a n p (i + 1) % p = dI a n p i := by
 unfold dI
 rw [← Nat.mul_mod, ← Nat.pow_add]
 have := kS n i
 rw [h, Nat.two_mul, Nat.add_zero] at this
 rw [this]
theorem f0X (a n p i : Nat) (h : n / 2 ^ i % 2 = 1) : dI a n p (i + 1) * dI a n p (i + 1) * a % p = dI a n p i := by
 have := kS n i
 rw [h] at this
 unfold dI
 rw [← Nat.mod_mul_mod (_ * _), ← Nat.mul_mod, ← Nat.pow_add, Nat.mod_mul_mod, ← Nat.pow_succ, this, Nat.two_mul]
theorem k0Q (s : ByteArray) (h : s.size = 32) : beN s.data.toList < B64 ^ 4 := by
 have := h0Y s.data.toList
 rw [show s.data.toList.length = s.size by simp, h] at this
 exact Nat.lt_of_lt_of_le this Ac
theorem pD (l : List UInt8) (h : l.length ≤ 32) : beN l < B64 ^ 4 :=
 Nat.lt_of_lt_of_le (h0Y l) (Nat.le_trans (Nat.pow_le_pow_right Ac h) Ac)
theorem f0Y (a b : List UInt8) : beN (a ++ b) = beN a * 256 ^ b.length + beN b := by
 have key : ∀ (n : Nat) (b : List UInt8), b.length = n → beN (a ++ b) = beN a * 256 ^ n + beN b := by
  intro n
  induction n with
  | zero => intro b hb; rw [List.length_eq_zero_iff.1 hb]; simp [zA]
  | succ n ih =>
   intro b hb
   obtain ⟨m, x, rfl⟩ : ∃ m x, b = m ++ [x] := by
    rcases List.eq_nil_or_concat b with h | ⟨m, x, h⟩
    ·subst h; simp at hb
    ·exact ⟨m, x, by simpa using h⟩
   rw [← List.append_assoc, sF, ih m (by simpa using hb), sF, Nat.pow_succ, Nat.add_mul, ← Nat.mul_assoc, Nat.add_assoc]
 exact key _ b rfl
theorem b0o (l : List UInt8) (r k : Nat) (h : r + k ≤ l.length) : beN (l.take (r + k)) = beN (l.take r) * 256 ^ k + beN ((l.drop r).take k) := by
 rw [List.take_add, f0Y]
 congr 3
 simp; omega
end Mvp
namespace Go.Proofs.YtemcankmggmgoaaGreat
section
open Go.RowKit Go.Mv Mvp
attribute [local irreducible] bI lw mix cw cT dG cS bQ aO beN dO cI
theorem zD (x : UInt8) (r : Nat) (hr : r + 8 ≤ 64) : (shl (wid x) r).toNat = x.toNat * 2 ^ r := by
 have hx := x.toNat_lt
 have h1 : x.toNat * 2 ^ r < 2 ^ (r + 8) := pC x.toNat r hx
 have h2 : 2 ^ (r + 8) ≤ 2 ^ 64 := Nat.pow_le_pow_right Ab hr
 simp only [shl, wid, UInt64.toNat_ofNat', UInt8.toNat_toUInt64]
 exact Nat.mod_eq_of_lt (Nat.lt_of_lt_of_le h1 h2)
theorem m0U (s : ByteArray) (w : World) (hs : s.size ≤ 32) :
  Calls prog 173 #[.string s] w fun e w' => e = .returned (i4 (beN s.data.toList)) ∧ Fr Nob w w' := by
 have HS := qH hs
 have hsz : s.data.toList.length = s.size := by simp
 have HSZ := qH hsz
 clear hs hsz
 have st0 := St.start Nob w
 go_enter func173, ntmps173
 go_wp2_with (with_reducible refine AA 2 ?_)
 refine aA st0 rfl rfl (z := zAd) Aa (cw 4 0) Af ?_
 intro g2 w1 st1
 clear st0
 go_wp2_with (with_reducible refine AA 3 ?_)
 refine aA st1 rfl rfl (z := zAd) Aa (cw 4 0) Af ?_
 intro g3 w2 st2
 clear st1
 have hmx : s.size ≤ 32 := HS.out
 go_wp2
 go_loopw [4] (fun i wr => ∃ k : Nat, k ≤ s.size ∧ i = .int .i64 (k : Int) ∧ St Nob w wr [(g2, cw 4 0, 60), (g3, cw 4 (dO s.data.toList k), 60)]) (fun i _ => s.size - (intOf i).toNat)
 case atStart => exact ⟨0, by omega, rfl, by rw [b0m]; exact st2⟩
 case round =>
  obtain ⟨i, hi, rfl, st⟩ := hrel
  clear st2
  by_cases hlt : i < s.size
  ·have hltI : (i : Int) < (s.size : Int) := by omega
   have hll : i < s.data.toList.length := by rw [HSZ.out]; exact hlt
   have hstep := i0a 4 (dO s.data.toList i) (s.size - 1 - i) (s.data.toList.getD i 0).toNat (UInt8.toNat_lt _) (by have := e0k s.data.toList i hll; rwa [HSZ.out] at this) Ab
   have hsucc := b0n s.data.toList i hll
   rw [HSZ.out] at hsucc
   rw [← hsucc] at hstep
   have hx : ∀ h1 : i < s.size, s[i]'h1 = s.data.toList.getD i 0 := by
    intro h1
    rw [List.getD_eq_getElem?_getD, List.getElem?_eq_getElem (by simpa using h1)]
    simp
    rfl
   have hd1 : (s.size : Int) - 1 - (i : Int) = ((s.size - 1 - i : Nat) : Int) := by omega
   generalize hN' : dO s.data.toList (i + 1) = N' at *
   have HN' := qH hN'; clear hN'
   generalize hN : dO s.data.toList i = N at *
   generalize s.data.toList.getD i 0 = x at *
   have hk32 : s.size - 1 - i < 32 := by omega
   generalize hk : s.size - 1 - i = k at *
   have HN := qH hN; clear hN
   have HK := qH hk; clear hk
   have HSTEP := qH hstep; clear hstep
   have HD := qH hd1; clear hd1 hsucc hll
   have c1 := (st.at 1 rfl).cell (bL 4 N (k / 8) Ab)
   have f1 := (st.at 1 rfl).free (k / 8) Av
   have hlo : (0 : Int) ≤ (k : Int) / 8 ∧ (k : Int) / 8 < 4 := by omega
   have hor := bits_or_u64_nat (lw N (k / 8)) ((shl (wid x) (8 * (k % 8))).toNat) (gO _ _) (nN _)
   rw [zD x (8 * (k % 8)) Ab] at hor
   simp only [Int.natCast_mul, Int.natCast_pow, Int.cast_ofNat_Int] at hor
   have HSH := qH (zD x (8 * (k % 8)) Ab)
   go_wp2_with fail
   rw [HD.out]
   have e1 : IntKind.i64.wrap ((k : Int) / 8) = (k : Int) / 8 := IntWalk.i64_in _ Ab
   have e2 : (k : Int).tmod 8 = (k : Int) % 8 := Int.tmod_eq_emod_of_nonneg Ab
   have e3 : IntKind.i64.wrap (8 * ((k : Int) % 8)) = 8 * ((k : Int) % 8) := IntWalk.i64_in _ Ab
   have e4 : ((k : Int) / 8).toNat = k / 8 := by omega
   refine wp_region_still_tail 16 Aa Aa ?_
   simp only [List.take_succ_cons, List.take_zero, List.drop_succ_cons, List.drop_zero]
   repeat still_step
   refine wpStill_nil ?_
   have hsh := HSH.out
   have hst := (st.set 1 rfl (k / 8) (.int .u64 ((lw N (k / 8) ||| x.toNat * 2 ^ (8 * (k % 8)) : Nat) : Int))).drew
   have hS : (cw 4 N).set (k / 8) (.int .u64 ((lw N (k / 8) ||| x.toNat * 2 ^ (8 * (k % 8)) : Nat) : Int)) = cw 4 N' := by
    rw [cw, b0h, HSTEP.out, cw]
   rw [hS] at hst
   have HST := qH hst
   clear hst hS
   go_wp2
   go_roundw
   case rel => exact ⟨i + 1, by omega, by go_num, by rw [HN'.out]; exact HST.out⟩
   case measure => simp [intOf]; omega
  ·have hge : ¬ ((i : Int) < (s.size : Int)) := by omega
   have hi2 : i = s.data.toList.length := by rw [HSZ.out]; omega
   rw [hi2, e0j] at st
   clear hi2
   go_wp2_with (with_reducible refine AA 33 ?_)
   refine aI st 1 rfl rfl rfl underlying60 rfl Aw ?_
   go_wp2_with (with_reducible refine AB ?_)
   refine aB st 0 rfl rfl rfl rfl rfl Bj Aw (aF _ _) ?_
   intro w9 st9
   clear st
   have hr := st9.at 0 rfl
   have hfr := st9.fr
   clear st9
   go_wp2
   exact bodyPost_ret (aX rfl rfl hr underlying60 Aw) rfl ⟨rfl, hfr⟩
theorem o0n : (prog.info? 111).map (·.size) = some 4 := by kernel_rfl
theorem _root_.Ca {p : Prop} (h : p := by rw [aT]; exact o0n) : p := h
theorem gK (a : Option Addr) (n c : Nat) (l : List UInt8) (w : World) (hb : RdB w a n l) (hs : n ≤ 32) :
  Calls prog 144 #[.slice a n c] w fun e w' => e = .returned (i4 (beN l)) ∧ Fr Nob w w' := by
 have HS := qH hs
 have hsz : l.length = n := hb.len
 have HBB := qH hb; clear hb
 have HSZ := qH hsz
 clear hs hsz
 have st0 := St.start Nob w
 go_enter func144, ntmps144
 go_wp2_with (with_reducible refine AA 2 ?_)
 refine aA st0 rfl rfl (z := zAd) Aa (cw 4 0) Af ?_
 intro g2 w1 st1
 clear st0
 have hmx : n ≤ 32 := HS.out
 go_wp2
 go_loopw [8] (fun i wr => ∃ k : Nat, k ≤ n ∧ i = .int .i64 (k : Int) ∧ St Nob w wr [(g2, cw 4 (dO l k), 111)]) (fun i _ => n - (intOf i).toNat)
 case atStart => exact ⟨0, by omega, rfl, by rw [b0m]; exact st1⟩
 case round =>
  obtain ⟨i, hi, rfl, st⟩ := hrel
  clear st1
  by_cases hlt : i < n
  ·have hltI : (i : Int) < (n : Int) := by omega
   have hll : i < l.length := by rw [HSZ.out]; exact hlt
   have hstep := i0a 4 (dO l i) (n - 1 - i) (l.getD i 0).toNat (UInt8.toNat_lt _) (by have := e0k l i hll; rwa [HSZ.out] at this) Ab
   have hsucc := b0n l i hll
   rw [HSZ.out] at hsucc
   rw [← hsucc] at hstep
   obtain ⟨gb, ob, rfl, hcx⟩ := (HBB.out.still st.fr).at Ab
   have hx := hcx i hlt
   clear hcx
   have hd1 : (n : Int) - 1 - (i : Int) = ((n - 1 - i : Nat) : Int) := by omega
   generalize hN' : dO l (i + 1) = N' at *
   have HN' := qH hN'; clear hN'
   generalize hN : dO l i = N at *
   generalize l.getD i 0 = x at *
   have hk32 : n - 1 - i < 32 := by omega
   generalize hk : n - 1 - i = k at *
   have HN := qH hN; clear hN
   have HK := qH hk; clear hk
   have HSTEP := qH hstep; clear hstep
   have HD := qH hd1; clear hd1 hsucc hll
   have c1 := (st.at 0 rfl).cell (bL 4 N (k / 8) Ab)
   have f1 := (st.at 0 rfl).free (k / 8) Av
   have hlo : (0 : Int) ≤ (k : Int) / 8 ∧ (k : Int) / 8 < 4 := by omega
   have hor := bits_or_u64_nat (lw N (k / 8)) ((shl (wid x) (8 * (k % 8))).toNat) (gO _ _) (nN _)
   rw [zD x (8 * (k % 8)) Ab] at hor
   simp only [Int.natCast_mul, Int.natCast_pow, Int.cast_ofNat_Int] at hor
   have HSH := qH (zD x (8 * (k % 8)) Ab)
   go_wp2_with fail
   rw [HD.out]
   have e1 : IntKind.i64.wrap ((k : Int) / 8) = (k : Int) / 8 := IntWalk.i64_in _ Ab
   have e2 : (k : Int).tmod 8 = (k : Int) % 8 := Int.tmod_eq_emod_of_nonneg Ab
   have e3 : IntKind.i64.wrap (8 * ((k : Int) % 8)) = 8 * ((k : Int) % 8) := IntWalk.i64_in _ Ab
   have e4 : ((k : Int) / 8).toNat = k / 8 := by omega
   refine wp_region_still_tail 12 Aa Aa ?_
   simp only [List.take_succ_cons, List.take_zero, List.drop_succ_cons, List.drop_zero]
   repeat still_step
   refine wpStill_nil ?_
   have hsh := HSH.out
   have hst := (st.set 0 rfl (k / 8) (.int .u64 ((lw N (k / 8) ||| x.toNat * 2 ^ (8 * (k % 8)) : Nat) : Int))).drew
   have hS : (cw 4 N).set (k / 8) (.int .u64 ((lw N (k / 8) ||| x.toNat * 2 ^ (8 * (k % 8)) : Nat) : Int)) = cw 4 N' := by
    rw [cw, b0h, HSTEP.out, cw]
   rw [hS] at hst
   have HST := qH hst
   clear hst hS
   go_wp2
   go_roundw
   case rel => exact ⟨i + 1, by omega, by go_num, by rw [HN'.out]; exact HST.out⟩
   case measure => simp [intOf]; omega
  ·have hge : ¬ ((i : Int) < (n : Int)) := by omega
   have hi2 : i = l.length := by rw [HSZ.out]; omega
   rw [hi2, e0j] at st
   clear hi2
   go_wp2_with (with_reducible refine AA 31 ?_)
   refine aI st 0 rfl rfl rfl underlying111 rfl Ca ?_
   go_wp2_with (with_reducible refine AB ?_)
   refine aB st 0 rfl rfl rfl rfl rfl (by rw [aT]) Ca (aF _ _) ?_
   intro w9 st9
   clear st
   have hr := st9.at 0 rfl
   have hfr := st9.fr
   clear st9
   go_wp2
   exact bodyPost_ret (aX rfl rfl hr underlying111 Ca) rfl ⟨rfl, hfr⟩
end
section
open Go.RowKit Go.Mv Mvp
theorem zE {k : IntKind} {a b : Int} (h : a = b) : Ending.returned (.int k a) = .returned (.int k b) := by rw [h]
attribute [local irreducible] bI lw mix cw cT dG cS bQ aO beN dO cI
theorem xB (N : Nat) (w : World) :
  Calls prog 121 #[i4 N] w fun e w' => ∃ v, e = .returned v ∧ Own w' w.heap.size 5 1 v 32 (bs (cI N)) ∧ Fr Nob w w' := by
 have st0 := St.start Nob w
 go_enter func121, ntmps121
 go_wp2_with (with_reducible refine AA 1 ?_)
 refine aL st0 rfl rfl rfl (cw 4 N) rfl ?_
 intro g1 w1 st1
 clear st0
 go_wp2_with (with_reducible refine AA 6 ?_)
 refine eP rfl rfl underlying22 dT rfl rfl rfl 32 32 Ae Ae Ab Ab Al ?_
 intro w2 hg2 hf2 hz2
 clear hz2
 have hb2 : w.heap.size ≤ w1.heap.size := st1.fr.size
 have st2 := st1.new hf2 hg2 (Nat.le_refl _)
 clear st1 hg2 hf2
 generalize w1.heap.size = gb at *
 have HBB := qH hb2; clear hb2
 go_wp2
 go_loopw [9] (fun i wr => ∃ k : Nat, k ≤ 32 ∧ i = .int .i64 (k : Int) ∧ St Nob w wr [(g1, cw 4 N, 111), (gb, bs (fill (cI N) (List.replicate 32 0) k), 5)]) (fun i _ => 32 - (intOf i).toNat)
 case atStart => exact ⟨0, by omega, rfl, st2⟩
 case round =>
  obtain ⟨i, hi, rfl, st⟩ := hrel
  clear st2
  by_cases hlt : i < 32
  ·have hltI : (i : Int) < 32 := by omega
   have hd1 : (31 : Int) - (i : Int) = ((31 - i : Nat) : Int) := by omega
   have hgl := e0l N i hlt
   have hgb := o0m N (31 - i)
   have hk32 : 31 - i < 32 := by omega
   generalize hk : 31 - i = k at *
   have HK := qH hk; clear hk
   have HGL := qH hgl; clear hgl
   have HGB := qH hgb; clear hgb
   have c1 := (st.at 0 rfl).cell (bL 4 N (k / 8) Ab)
   obtain ⟨v3, c3, f3⟩ := (st.at 1 rfl).ready (i := i) (by rw [bP, nX _ _ _ (by rw [eH]; simp)]; simpa using hlt)
   have hlo : (0 : Int) ≤ (k : Int) / 8 ∧ (k : Int) / 8 < 4 := by omega
   have e4 : ((k : Int) / 8).toNat = k / 8 := by omega
   go_wp2
   go_roundw
   case rel =>
    have h1 := st.set 1 rfl i (.int .u8 (((cI N).getD i 0).toNat : Int))
    rw [bs_set, d0L _ _ _ (by rw [eH]; simp) (by rw [eH]; omega)] at h1
    have e : (((cI N).getD i 0).toNat : Int) = (lw N (k / 8) : Int) / 2 ^ (8 * (k % 8)) % 256 := by
     rw [HGL.out, UInt8.toNat_ofNat']
     have := HGB.out
     rw [show (2 : Nat) ^ 8 = 256 from rfl, ← this]
     simp
    rw [e] at h1
    exact ⟨i + 1, by omega, by go_num, h1⟩
   case measure => simp [intOf]; omega
  ·have hge : ¬ ((i : Int) < 32) := by omega
   have hi32 : i = 32 := by omega
   have hown : Own wr w.heap.size 5 1 (.slice (some ⟨gb, 0, none⟩) 32 32) 32 (bs (cI N)) := by
    have h := st.at 1 rfl
    rw [hi32, yF _ _ _ (by rw [eH]; simp) (by rw [eH]; exact Nat.le_refl _)] at h
    have := Own.made h w.heap.size HBB.out 1 32 32 (Nat.le_refl _) Al (by rw [bP, eH]; omega)
    rwa [List.take_of_length_le (by rw [bP, eH]; exact Nat.le_refl _)] at this
   have hfr := st.fr
   clear st hi32
   go_wp2
   go_ret
   exact ⟨_, rfl, hown, hfr⟩
theorem pE (N i : Nat) (w : World) (hi : i < 256) :
  Calls prog 138 #[i4 N, .int .i64 (i : Int)] w fun e w' => e = .returned (.int .u64 ((N / 2 ^ i % 2 : Nat) : Int)) ∧ Fr Nob w w' := by
 have hb := m0T N i
 have HB := qH hb; clear hb
 have st0 := St.start Nob w
 go_enter func138, ntmps138
 go_wp2_with (with_reducible refine AA 2 ?_)
 refine aL st0 rfl rfl rfl (cw 4 N) rfl ?_
 intro g1 w1 st1
 clear st0
 have c1 := (st1.at 0 rfl).cell (bL 4 N (i / 64) Ab)
 have hlo : (0 : Int) ≤ (i : Int) / 64 ∧ (i : Int) / 64 < 4 := by omega
 have hlo2 : (0 : Int) ≤ (i : Int) % 64 ∧ (i : Int) % 64 < 64 := by omega
 have e4 : ((i : Int) / 64).toNat = i / 64 := by omega
 have e5 : ((i : Int) % 64).toNat = i % 64 := by omega
 have hfr := st1.fr
 clear st1
 have hw : lw N (i / 64) / 2 ^ (i % 64) < 18446744073709551616 := Nat.lt_of_le_of_lt (Nat.div_le_self _ _) (gO _ _)
 have ha := bits_and_u64_nat (lw N (i / 64) / 2 ^ (i % 64)) 1 hw Ab
 rw [Nat.and_one_is_mod] at ha
 simp only [Int.natCast_ediv, Int.natCast_pow, Int.cast_ofNat_Int] at ha
 go_wp2
 go_ret
 refine ⟨zE ?_, hfr⟩
 rw [← HB.out]
 simp
theorem e0n (N i : Nat) (w : World) (hi : i < 256) :
  Calls prog 199 #[i4 N, .int .i64 (i : Int)] w fun e w' => e = .returned (.int .u64 ((N / 2 ^ i % 2 : Nat) : Int)) ∧ Fr Nob w w' := by
 have hb := m0T N i
 have HB := qH hb; clear hb
 have st0 := St.start Nob w
 go_enter func199, ntmps199
 go_wp2_with (with_reducible refine AA 2 ?_)
 refine aL st0 rfl rfl rfl (cw 4 N) rfl ?_
 intro g1 w1 st1
 clear st0
 have c1 := (st1.at 0 rfl).cell (bL 4 N (i / 64) Ab)
 have hlo : (0 : Int) ≤ (i : Int) / 64 ∧ (i : Int) / 64 < 4 := by omega
 have hlo2 : (0 : Int) ≤ (i : Int) % 64 ∧ (i : Int) % 64 < 64 := by omega
 have e4 : ((i : Int) / 64).toNat = i / 64 := by omega
 have e5 : ((i : Int) % 64).toNat = i % 64 := by omega
 have hfr := st1.fr
 clear st1
 have hw : lw N (i / 64) / 2 ^ (i % 64) < 18446744073709551616 := Nat.lt_of_le_of_lt (Nat.div_le_self _ _) (gO _ _)
 have ha := bits_and_u64_nat (lw N (i / 64) / 2 ^ (i % 64)) 1 hw Ab
 rw [Nat.and_one_is_mod] at ha
 simp only [Int.natCast_ediv, Int.natCast_pow, Int.cast_ofNat_Int] at ha
 go_wp2
 go_ret
 refine ⟨zE ?_, hfr⟩
 rw [← HB.out]
 simp
end
section
open Go.RowKit Go.Mv Mvp
attribute [local irreducible] bI lw mix cw cT dG cS bQ aO beN dO cI dI
theorem o0o (a n p i : Nat) (hp : 0 < p) : dI a n p i < p := by unfold dI; exact Nat.mod_lt _ hp
theorem _root_.Bp {p : Prop} (h : p := by first | rfl | trivial) : p := h
theorem i0b (p a n : Nat) (w : World) (hp1 : 1 < p) (hp : p < B64 ^ 4) (ha : a < B64 ^ 4) (hn : n < B64 ^ 4) :
  Calls prog 167 #[fv p, i4 a, i4 n] w fun e w' => e = .returned (i4 (a ^ n % p)) ∧ Fr Nob w w' := by
 have HP1 := qH hp1
 have HP := qH hp
 have HA := qH ha
 have HN := qH hn
 have HP0 := qH (show 0 < p by omega)
 have H1 := qH (show (1 : Nat) = dI a n p 256 from (k0O a n p hp1 hn).symm)
 clear hp1 hp ha hn
 have st0 := St.start Nob w
 go_enter func167, ntmps167
 go_wp2_with (with_reducible refine AA 3 ?_)
 refine aL st0 rfl rfl rfl (cw 4 p ++ cw 4 (B64 ^ 4 - p)) rfl ?_
 intro g3 w1 st1
 clear st0
 go_wp2_with (with_reducible refine AA 4 ?_)
 refine aL st1 rfl rfl rfl (cw 4 a) rfl ?_
 intro g4 w2 st2
 clear st1
 go_wp2_with (with_reducible refine AA 5 ?_)
 refine aL st2 rfl rfl rfl (cw 4 n) rfl ?_
 intro g5 w3 st3
 clear st2
 go_wp2_with (with_reducible refine AA 6 ?_)
 refine aA st3 rfl rfl (z := zAd) Aa (cw 4 0) Af ?_
 intro g6 w4 st4
 clear st3
 go_wp2_with fail
 refine (uD 1 _ Ac).mono ?_
 rintro e' w5 ⟨rfl, hf5⟩
 have st5 := st4.keep hf5
 clear st4 hf5
 go_wp2_with (with_reducible refine AA 7 ?_)
 refine aA st5 rfl rfl (z := zAd) Aa (cw 4 0) Af ?_
 intro g7 w6 st6
 clear st5
 go_wp2_with (with_reducible refine AB ?_)
 refine aB st6 4 rfl rfl rfl rfl rfl Ah Ag (aF _ _) ?_
 intro w7 st7
 clear st6
 rw [show (1 : Nat) = dI a n p 256 from H1.out] at st7
 go_wp2
 go_loopw [8] (fun i wr => ∃ j : Nat, j ≤ 256 ∧ i = .int .i64 ((j : Int) - 1) ∧ St Nob w wr [(g3, cw 4 p ++ cw 4 (B64 ^ 4 - p), 78), (g4, cw 4 a, 60), (g5, cw 4 n, 60), (g6, cw 4 0, 60), (g7, cw 4 (dI a n p j), 60)]) (fun i _ => (intOf i + 1).toNat)
 case atStart => exact ⟨256, by omega, rfl, st7⟩
 case round =>
  obtain ⟨j, hj, rfl, st⟩ := hrel
  clear st7
  cases j with
  | succ i =>
   rw [show (((i + 1 : Nat) : Int)) - 1 = (i : Int) by omega]
   have hge : (0 : Int) ≤ (i : Int) := by omega
   have hlt := o0o a n p (i + 1) HP0.out
   have HLT := qH (Nat.lt_trans hlt HP.out)
   clear hlt
   go_wp2_with (with_reducible refine AA 14 ?_)
   refine aM st 0 rfl rfl rfl underlying78 rfl rfl Ad ?_
   go_wp2_with (with_reducible refine AA 15 ?_)
   refine aI st 4 rfl rfl rfl underlying60 rfl Ag ?_
   go_wp2_with (with_reducible refine AA 16 ?_)
   refine aI st 4 rfl rfl rfl underlying60 rfl Ag ?_
   go_wp2_with fail
   refine (oB p (dI a n p (i + 1)) (dI a n p (i + 1)) _ HP0.out HP.out HLT.out HLT.out).mono ?_
   rintro e' w8 ⟨rfl, hf8⟩
   have st8 := st.keep hf8
   clear st hf8
   go_wp2_with (with_reducible refine AB ?_)
   refine aB st8 4 rfl rfl rfl rfl rfl Ah Ag (aF _ _) ?_
   intro w9 st9
   clear st8
   go_wp2_with (with_reducible refine AA 18 ?_)
   refine aI st9 2 rfl rfl rfl underlying60 rfl Ag ?_
   go_wp2_with fail
   refine (pE n i _ Ab).mono ?_
   rintro e' w10 ⟨rfl, hf10⟩
   have st10 := st9.keep hf10
   clear st9 hf10
   have hbt : n / 2 ^ i % 2 = 0 ∨ n / 2 ^ i % 2 = 1 := by omega
   have HS0 := qH (f0W a n p i)
   have HS1 := qH (f0X a n p i)
   generalize hbb : n / 2 ^ i % 2 = bt at *
   have HBB := qH hbb
   clear hbb
   rcases hbt with rfl | rfl
   ·have hst := st10
    rw [HS0.out Bp] at hst
    clear st10
    go_wp2
    go_roundw
    case rel => exact ⟨i, by omega, rfl, hst⟩
    case measure => simp [intOf]
   ·have HLQ := qH (show (dI a n p (i + 1) * dI a n p (i + 1) % p) < B64 ^ 4 from Nat.lt_trans (Nat.mod_lt _ HP0.out) HP.out)
    go_wp2_with (with_reducible refine AA 22 ?_)
    refine aM st10 0 rfl rfl rfl underlying78 rfl rfl Ad ?_
    go_wp2_with (with_reducible refine AA 23 ?_)
    refine aI st10 4 rfl rfl rfl underlying60 rfl Ag ?_
    go_wp2_with (with_reducible refine AA 24 ?_)
    refine aI st10 1 rfl rfl rfl underlying60 rfl Ag ?_
    go_wp2_with fail
    refine (oB p (dI a n p (i + 1) * dI a n p (i + 1) % p) a _ HP0.out HP.out HLQ.out HA.out).mono ?_
    rintro e' w11 ⟨rfl, hf11⟩
    have st11 := st10.keep hf11
    clear st10 hf11
    go_wp2_with (with_reducible refine AB ?_)
    refine aB st11 4 rfl rfl rfl rfl rfl Ah Ag (aF _ _) ?_
    intro w12 st12
    clear st11
    have hst := st12
    rw [HS1.out Bp] at hst
    clear st12
    go_wp2
    go_roundw
    case rel => exact ⟨i, by omega, rfl, hst⟩
    case measure => simp [intOf]
  | zero =>
   rw [show (((0 : Nat) : Int)) - 1 = -1 by omega]
   go_wp2_with (with_reducible refine AA 26 ?_)
   refine aI st 4 rfl rfl rfl underlying60 rfl Ag ?_
   go_wp2_with (with_reducible refine AB ?_)
   refine aB st 3 rfl rfl rfl rfl rfl Ah Ag (aF _ _) ?_
   intro w8 st8
   clear st
   have hr := st8.at 3 rfl
   have hfr := st8.fr
   clear st8
   go_wp2_with fail
   exact bodyPost_ret (aX rfl rfl hr underlying60 Ag) rfl ⟨by rw [k0P]; rfl, hfr⟩
end
section
open Go.RowKit Go.Mv Mvp
attribute [local irreducible] bI lw mix cw cT dG cS bQ aO beN dO cI dI
theorem f0Z (p : Nat) (s : ByteArray) (w : World) (hs : s.size ≠ 32) :
  Calls prog 122 #[fv p, .string s] w fun e w' => e = .returned (.tuple #[i4 0, .bool false]) ∧ Fr Nob w w' := by
 have HS := qH hs
 have HZ := qH (dY 0 Ac)
 clear hs
 have st0 := St.start Nob w
 go_enter func122, ntmps122
 go_wp2_with (with_reducible refine AA 2 ?_)
 refine aL st0 rfl rfl rfl (cw 4 p ++ cw 4 (B64 ^ 4 - p)) rfl ?_
 intro g2 w1 st1
 clear st0
 go_wp2_with (with_reducible refine AA 4 ?_)
 refine aA st1 rfl rfl (z := zAd) Aa (cw 4 0) Af ?_
 intro g4 w2 st2
 clear st1
 have hne : ((s.size : Int) != 32) = true := by have := HS.out; simp; omega
 go_wp2_with (with_reducible refine AB ?_)
 refine aB st2 1 rfl rfl rfl rfl (cs := cw 4 0) HZ.out Az Ag (aF _ _) ?_
 intro w9 st9
 clear st2
 have hr := st9.at 1 rfl
 have hfr := st9.fr
 clear st9
 go_wp2_with fail
 exact bodyPost_ret (cB rfl rfl hr underlying60 Ag rfl) rfl ⟨rfl, hfr⟩
theorem b0p (p : Nat) (s : ByteArray) (w : World) (hs : s.size = 32) (hp : p < B64 ^ 4) :
  Calls prog 122 #[fv p, .string s] w fun e w' => e = .returned (.tuple #[i4 (beN s.data.toList), .bool (decide (beN s.data.toList < p))]) ∧ Fr Nob w w' := by
 have HS := qH hs
 have HP := qH hp
 have HN := qH (k0Q s hs)
 clear hs hp
 have st0 := St.start Nob w
 go_enter func122, ntmps122
 go_wp2_with (with_reducible refine AA 2 ?_)
 refine aL st0 rfl rfl rfl (cw 4 p ++ cw 4 (B64 ^ 4 - p)) rfl ?_
 intro g2 w1 st1
 clear st0
 go_wp2_with (with_reducible refine AA 4 ?_)
 refine aA st1 rfl rfl (z := zAd) Aa (cw 4 0) Af ?_
 intro g4 w2 st2
 clear st1
 have hne : ((s.size : Int) != 32) = false := by have := HS.out; simp; omega
 go_wp2_with fail
 refine (m0U s _ (by have := HS.out; omega)).mono ?_
 rintro e' w3 ⟨rfl, hf3⟩
 have st3 := st2.keep hf3
 clear st2 hf3
 go_wp2_with (with_reducible refine AA 6 ?_)
 refine aA st3 rfl rfl (z := zAd) Aa (cw 4 0) Af ?_
 intro g6 w4 st4
 clear st3
 go_wp2_with (with_reducible refine AB ?_)
 refine aB st4 2 rfl rfl rfl rfl rfl Ah Ag (aF _ _) ?_
 intro w5 st5
 clear st4
 go_wp2_with (with_reducible refine AA 14 ?_)
 refine aI st5 2 rfl rfl rfl underlying60 rfl Ag ?_
 go_wp2_with (with_reducible refine AA 16 ?_)
 refine fA rfl rfl underlying60 rfl (st5.at 0 rfl) (cw 4 p) (qL 4 4 _ _) Ag ?_
 go_wp2_with fail
 refine (h0X (beN s.data.toList) p _ HN.out HP.out).mono ?_
 rintro e' w6 ⟨rfl, hf6⟩
 have st6 := st5.keep hf6
 clear st5 hf6
 go_wp2_with (with_reducible refine AA 18 ?_)
 refine aI st6 2 rfl rfl rfl underlying60 rfl Ag ?_
 go_wp2_with (with_reducible refine AB ?_)
 refine aB st6 1 rfl rfl rfl rfl rfl Ah Ag (aF _ _) ?_
 intro w7 st7
 clear st6
 have hr := st7.at 1 rfl
 have hfr := st7.fr
 clear st7
 go_wp2_with fail
 exact bodyPost_ret (cB rfl rfl hr underlying60 Ag rfl) rfl ⟨rfl, hfr⟩
theorem o0p (p : Nat) (s : ByteArray) (w : World) (hp0 : 0 < p) (hp : p < B64 ^ 4) (hs : s.size ≤ 1000000) :
  Calls prog 96 #[fv p, .string s] w fun e w' => e = .returned (i4 (beN s.data.toList % p)) ∧ Fr Nob w w' := by
 have HS := qH hs
 have HP0 := qH hp0
 have HP := qH hp
 have HZ := qH (dY 0 Ac)
 have HSZ := qH (show s.data.toList.length = s.size by simp)
 clear hs hp0 hp
 have st0 := St.start Nob w
 go_enter func96, ntmps96
 go_wp2_with (with_reducible refine AA 2 ?_)
 refine aL st0 rfl rfl rfl (cw 4 p ++ cw 4 (B64 ^ 4 - p)) rfl ?_
 intro g2 w1 st1
 clear st0
 go_wp2_with (with_reducible refine AA 4 ?_)
 refine aA st1 rfl rfl (z := zAd) Aa (cw 4 0) Af ?_
 intro g4 w2 st2
 clear st1
 go_wp2_with (with_reducible refine AA 5 ?_)
 refine aA st2 rfl rfl (z := zAd) Aa (cw 4 0) Af ?_
 intro g5 w3 st3
 clear st2
 go_wp2_with (with_reducible refine AB ?_)
 refine aB st3 2 rfl rfl rfl rfl (cs := cw 4 0) HZ.out Az Ag (aF _ _) ?_
 intro w9 st9
 clear st3
 have hmx : s.size ≤ 1000000 := HS.out
 go_wp2
 go_loopw [6] (fun i wr => ∃ k : Nat, k ≤ s.size ∧ i = .int .i64 (k : Int) ∧ St Nob w wr [(g2, cw 4 p ++ cw 4 (B64 ^ 4 - p), 78), (g4, cw 4 0, 60), (g5, cw 4 (beN (s.data.toList.take k) % p), 60)]) (fun i _ => s.size - (intOf i).toNat)
 case atStart => exact ⟨0, by omega, rfl, by rw [List.take_zero, zA, Nat.zero_mod]; exact st9⟩
 case round =>
  obtain ⟨i, hi, rfl, st⟩ := hrel
  clear st9
  by_cases hlt : i < s.size
  ·have hltI : (i : Int) < (s.size : Int) := by omega
   have hll : i < s.data.toList.length := by rw [HSZ.out]; exact hlt
   have hx : ∀ h1 : i < s.size, s[i]'h1 = s.data.toList.getD i 0 := by
    intro h1
    rw [List.getD_eq_getElem?_getD, List.getElem?_eq_getElem (by simpa using h1)]
    simp
    rfl
   have hsucc := zC s.data.toList i hll
   have hmlt := Nat.mod_lt (beN (s.data.toList.take i)) HP0.out
   generalize hM : beN (s.data.toList.take (i + 1)) = M' at *
   generalize hN : beN (s.data.toList.take i) = N at *
   generalize s.data.toList.getD i 0 = x at *
   have HN := qH hN; clear hN
   have HM := qH hM; clear hM
   have HLN := qH (Nat.lt_trans hmlt HP.out)
   have hfin : (N % p * 256 + x.toNat) % p = M' % p := by rw [hsucc, Nat.add_mod, Nat.mod_mul_mod, ← Nat.add_mod]
   have hbig : N % p * 256 + x.toNat < B64 ^ 8 := by
    have h1 := HP.out
    have h2 := x.toNat_lt
    exact Nat.lt_of_lt_of_le (show N % p * 256 + x.toNat < B64 ^ 4 * 256 by omega) Ac
   have HFIN := qH hfin
   have HBIG := qH hbig
   have hprod := fun wx => mI (N % p) 256 wx HLN.out Ac
   rw [← dY 256 Ac] at hprod
   have HPROD := qH hprod
   have hplus := fun wx => uB (N % p * 256) x.toNat wx
   rw [← b0j x.toNat (Nat.lt_trans x.toNat_lt Ac)] at hplus
   have HPLUS := qH hplus
   clear hll hsucc hmlt hfin hbig hprod hplus
   go_wp2_with (with_reducible refine AA 15 ?_)
   refine aI st 2 rfl rfl rfl underlying60 rfl Ad ?_
   go_wp2_with fail
   refine (HPROD.out _).mono ?_
   rintro e' w10 ⟨rfl, hf10⟩
   have st10 := st.keep hf10
   clear st hf10
   go_wp2_with (with_reducible refine AA 7 ?_)
   refine aA st10 rfl rfl (z := .agg #[.int .u64 0, .int .u64 0, .int .u64 0, .int .u64 0, .int .u64 0, .int .u64 0, .int .u64 0, .int .u64 0]) Aa (cw 8 0) Af ?_
   intro g7 w11 st11
   clear st10
   go_wp2_with (with_reducible refine AB ?_)
   refine aB st11 3 rfl rfl rfl rfl rfl Ah Ad (aF _ _) ?_
   intro w12 st12
   clear st11
   go_wp2_with fail
   refine wp_region_noPanic ?_
   refine fJ (fun wx => St Nob w wx [(g2, cw 4 p ++ cw 4 (B64 ^ 4 - p), 78), (g4, cw 4 0, 60), (g5, cw 4 (N % p), 60), (g7, cw 8 (N % p * 256), 171)]) 9 [(0, true), (1, true), (2, true), (3, true), (4, true), (5, true), (6, true), (7, false), (8, false)] Aa Aa st12.drew (fun _ _ _ _ _ h => h) ?_
   have hd12 := st12.drew
   refine jI rfl rfl rfl rfl (cw 4 p ++ cw 4 (B64 ^ 4 - p)) (fun wx hS => St.rangeL hS 0 rfl 0 _ dZl) underlying78 rfl Ad ?_
   try simp only [J]
   refine jI rfl rfl rfl rfl (cw 8 (N % p * 256)) (fun wx hS => St.rangeL hS 3 rfl 0 _ dZl) underlying171 rfl Ad ?_
   try simp only [J]
   refine bK (v := ?_) rfl rfl (fun wx hS => ?_) ?_
   rotate_left 1
   ·(clear hS; go_simp; with_reducible rfl)
   try simp only [J]
   refine bK (v := ?_) rfl rfl (fun wx hS => ?_) ?_
   rotate_left 1
   ·(clear hS; go_simp; with_reducible rfl)
   try simp only [J]
   refine bK (v := ?_) rfl rfl (fun wx hS => ?_) ?_
   rotate_left 1
   ·(clear hS; go_simp; with_reducible rfl)
   try simp only [J]
   refine bK (v := ?_) rfl rfl (fun wx hS => ?_) ?_
   rotate_left 1
   ·(clear hS; go_simp; with_reducible rfl)
   try simp only [J]
   refine bK (v := ?_) rfl rfl (fun wx hS => ?_) ?_
   rotate_left 1
   ·(clear hS; go_simp; with_reducible rfl)
   try simp only [J]
   refine kD rfl rfl ?_
   go_simp
   refine (HPLUS.out _).mono ?_
   rintro e' w13 ⟨rfl, hf13⟩
   have st13 := hd12.keep hf13
   clear hd12 hf13
   refine ⟨st13, ?_⟩
   try simp only [J]
   refine kD rfl rfl ?_
   go_simp
   refine (yZ p (N % p * 256 + x.toNat) _ HP0.out HP.out HBIG.out).mono ?_
   rintro e' w14 ⟨rfl, hf14⟩
   have st14 := st13.keep hf14
   clear st13 hf14
   refine ⟨st14, ?_⟩
   try simp only [J]
   refine qO ?_
   try simp only [List.drop_succ_cons, List.drop_zero]
   refine aB st14 2 rfl rfl rfl rfl rfl Ah Ad (aF _ _) ?_
   intro w15 st15
   clear st14
   go_wp2_with fail
   refine NoPanic.normal ?_
   have hst := st15
   rw [HFIN.out] at hst
   clear st15
   go_wp2
   go_roundw
   case rel => exact ⟨i + 1, by omega, by go_num, by rw [HM.out]; exact hst.less Ae⟩
   case measure => simp [intOf]; omega
  ·have hge : ¬ ((i : Int) < (s.size : Int)) := by omega
   have hi2 : i = s.data.toList.length := by rw [HSZ.out]; omega
   rw [hi2, List.take_of_length_le (Nat.le_refl _)] at st
   clear hi2
   go_wp2_with (with_reducible refine AA 27 ?_)
   refine aI st 2 rfl rfl rfl underlying60 rfl Ad ?_
   go_wp2_with (with_reducible refine AB ?_)
   refine aB st 1 rfl rfl rfl rfl rfl Ah Ad (aF _ _) ?_
   intro w10 st10
   clear st
   have hr := st10.at 1 rfl
   have hfr := st10.fr
   clear st10
   go_wp2_with fail
   exact bodyPost_ret (aX rfl rfl hr underlying60 Ad) rfl ⟨rfl, hfr⟩
end
section
open Go.RowKit Go.Mv Mvp
attribute [local irreducible] bI lw mix cT dG cS bQ aO beN dO cI dI
theorem e0o : (Value.agg #[.int .u64 4294968273, .int .u64 0, .int .u64 0, .int .u64 0]) = .agg (cw 4 cP).toArray := by kernel_rfl
theorem k0R : (Value.agg #[.int .u64 4624529908474429119, .int .u64 4994812053365940164, .int .u64 1, .int .u64 0]) = .agg (cw 4 cQ).toArray := by kernel_rfl
theorem e0p (a b : Nat) : prog.built 78 [(0, .agg (cw 4 a).toArray), (1, .agg (cw 4 b).toArray)] = some (cw 4 a ++ cw 4 b).toArray := by kernel_rfl
theorem aY {P : Program} {fn : Func} {p : Tmp} {ty : TypeId} (h : fn.results = #[.cell p ty]) {tmps : Array Value} {w : World} {g : Nat} {L : List Value} {T : TypeId}
  (hp : tmps.getD p undef = .pointer (some ⟨g, 0, none⟩)) (hg : Has w g L T) {d : TypeDesc} (hu : P.underlying ty = some d) (hd : (match d with | .struct _ | .array _ _ => true | _ => false) = true) (hi : (P.info? ty).map (·.size) = some L.length) :
  (results fn tmps).run P w = .ok (.agg L.toArray) w := by
 obtain ⟨lo, hi', hh, -⟩ := hg
 exact results_cell_row h tmps w g T L.toArray _ _ hp hh hu hd (by simpa using hi)
theorem uE (m n a b : Nat) : ∀ v ∈ cw m a ++ cw n b, v.oneCell' = true := by
 intro v hv
 simp only [List.mem_append] at hv
 rcases hv with hv | hv
 ·exact aF _ _ v hv
 ·exact aF _ _ v hv
theorem s0x : fv pP = .agg (cw 4 (B64 ^ 4 - cP) ++ cw 4 cP).toArray := by unfold fv; rw [t0s]; rfl
theorem s0y : fv pQ = .agg (cw 4 (B64 ^ 4 - cQ) ++ cw 4 cQ).toArray := by unfold fv; rw [t0t]; rfl
attribute [local irreducible] cw
theorem s0z (w : World) :
  Calls prog 124 #[.int .i64 0] w fun e w' => e = .returned (fv pP) ∧ Fr Nob w w' := by
 have st0 := St.start Nob w
 go_enter func124, ntmps124
 go_wp2_with (with_reducible refine AA 2 ?_)
 refine aA st0 rfl rfl (z := .agg #[.int .u64 0, .int .u64 0, .int .u64 0, .int .u64 0, .int .u64 0, .int .u64 0, .int .u64 0, .int .u64 0]) Aa (cw 8 0) Af ?_
 intro g2 w1 st1
 clear st0
 go_wp2_with (with_reducible refine AA 3 ?_)
 refine aA st1 rfl rfl (z := zAd) Aa (cw 4 0) Af ?_
 intro g3 w2 st2
 clear st1
 go_wp2_with (with_reducible refine AB ?_)
 refine aB st2 1 rfl rfl rfl rfl (cs := cw 4 cP) e0o Az Ag (aF _ _) ?_
 intro w3 st3
 clear st2
 go_wp2_with (with_reducible refine AA 4 ?_)
 refine aA st3 rfl rfl (z := zAd) Aa (cw 4 0) Af ?_
 intro g4 w4 st4
 clear st3
 go_wp2
 go_loopw [5, 6] (fun c i wr => ∃ k : Nat, k ≤ 4 ∧ i = .int .i64 (k : Int) ∧ c = .int .u64 (cT 0 cP k : Nat) ∧ St Nob w wr [(g2, cw 8 0, 78), (g3, cw 4 cP, 60), (g4, cw 4 (mix (0 + B64 ^ 4 - cP) 0 k), 60)]) (fun _ i _ => 4 - (intOf i).toNat)
 case atStart => exact ⟨0, by omega, rfl, by rw [oW]; rfl, by rw [jW]; exact st4⟩
 case round =>
  obtain ⟨k, hk, rfl, rfl, st⟩ := hrel
  clear st4
  by_cases hlt : k < 4
  ·have hltI : (k : Int) < 4 := by omega
   have c2 := (st.at 1 rfl).cell (bL 4 cP k hlt)
   obtain ⟨v3, c3, f3⟩ := (st.at 2 rfl).ready (i := k) Bo
   have e1 : ∀ wx, (callFunc 175 #[.int .u64 0, .int .u64 (lw cP k : Nat), .int .u64 (cT 0 cP k : Nat)]).run prog wx = .ok (.value (.tuple #[.int .u64 (lw (0 + B64 ^ 4 - cP) k : Nat), .int .u64 (cT 0 cP (k + 1) : Nat)])) wx := fun wx => by
    have h := oZ 0 (lw cP k) (cT 0 cP k) (yX 0 cP k) wx
    rw [e0a 4 0 cP k s0v hlt, oX, iP 0 0 k Ac (Nat.zero_le _)]
    exact h
   go_wp2
   go_roundw
   case rel =>
    have h1 := st.set 2 rfl k (.int .u64 (lw (0 + B64 ^ 4 - cP) k : Nat))
    rw [jX _ _ _ _ hlt] at h1
    exact ⟨k + 1, by omega, by go_num, rfl, h1⟩
   case measure => simp [intOf]; omega
  ·have hge : ¬ ((k : Int) < 4) := by omega
   have hk4 : k = 4 := by omega
   rw [hk4, tQ _ _ _ Ac, cw_mod, Nat.zero_add] at st
   clear hk4
   go_wp2_with (with_reducible refine AA 25 ?_)
   refine aI st 2 rfl rfl rfl underlying60 rfl Ag ?_
   go_wp2_with (with_reducible refine AA 26 ?_)
   refine aI st 1 rfl rfl rfl underlying60 rfl Ag ?_
   go_wp2_with (with_reducible refine AA 27 ?_)
   refine cD rfl rfl _ (e0p (B64 ^ 4 - cP) cP) ?_
   go_wp2_with (with_reducible refine AB ?_)
   refine aB st 0 rfl rfl rfl rfl (cs := cw 4 (B64 ^ 4 - cP) ++ cw 4 cP) rfl Ah (by rw [List.length_append, aT, aT]; kernel_rfl) (uE _ _ _ _) ?_
   intro w5 st5
   clear st
   have hr := st5.at 0 rfl
   have hfr := st5.fr
   clear st5
   go_wp2
   exact bodyPost_ret (aY rfl rfl hr underlying78 rfl Ad) rfl ⟨by rw [s0x], hfr⟩
theorem s0A (w : World) :
  Calls prog 124 #[.int .i64 1] w fun e w' => e = .returned (fv pQ) ∧ Fr Nob w w' := by
 have st0 := St.start Nob w
 go_enter func124, ntmps124
 go_wp2_with (with_reducible refine AA 2 ?_)
 refine aA st0 rfl rfl (z := .agg #[.int .u64 0, .int .u64 0, .int .u64 0, .int .u64 0, .int .u64 0, .int .u64 0, .int .u64 0, .int .u64 0]) Aa (cw 8 0) Af ?_
 intro g2 w1 st1
 clear st0
 go_wp2_with (with_reducible refine AA 3 ?_)
 refine aA st1 rfl rfl (z := zAd) Aa (cw 4 0) Af ?_
 intro g3 w2 st2
 clear st1
 go_wp2_with (with_reducible refine AB ?_)
 refine aB st2 1 rfl rfl rfl rfl (cs := cw 4 cP) e0o Az Ag (aF _ _) ?_
 intro w3 st3
 clear st2
 go_wp2_with (with_reducible refine AB ?_)
 refine aB st3 1 rfl rfl rfl rfl (cs := cw 4 cQ) k0R Az Ag (aF _ _) ?_
 intro w4 st4
 clear st3
 go_wp2_with (with_reducible refine AA 4 ?_)
 refine aA st4 rfl rfl (z := zAd) Aa (cw 4 0) Af ?_
 intro g4 w5 st5
 clear st4
 go_wp2
 go_loopw [5, 6] (fun c i wr => ∃ k : Nat, k ≤ 4 ∧ i = .int .i64 (k : Int) ∧ c = .int .u64 (cT 0 cQ k : Nat) ∧ St Nob w wr [(g2, cw 8 0, 78), (g3, cw 4 cQ, 60), (g4, cw 4 (mix (0 + B64 ^ 4 - cQ) 0 k), 60)]) (fun _ i _ => 4 - (intOf i).toNat)
 case atStart => exact ⟨0, by omega, rfl, by rw [oW]; rfl, by rw [jW]; exact st5⟩
 case round =>
  obtain ⟨k, hk, rfl, rfl, st⟩ := hrel
  clear st5
  by_cases hlt : k < 4
  ·have hltI : (k : Int) < 4 := by omega
   have c2 := (st.at 1 rfl).cell (bL 4 cQ k hlt)
   obtain ⟨v3, c3, f3⟩ := (st.at 2 rfl).ready (i := k) Bo
   have e1 : ∀ wx, (callFunc 175 #[.int .u64 0, .int .u64 (lw cQ k : Nat), .int .u64 (cT 0 cQ k : Nat)]).run prog wx = .ok (.value (.tuple #[.int .u64 (lw (0 + B64 ^ 4 - cQ) k : Nat), .int .u64 (cT 0 cQ (k + 1) : Nat)])) wx := fun wx => by
    have h := oZ 0 (lw cQ k) (cT 0 cQ k) (yX 0 cQ k) wx
    rw [e0a 4 0 cQ k s0w hlt, oX, iP 0 0 k Ac (Nat.zero_le _)]
    exact h
   go_wp2
   go_roundw
   case rel =>
    have h1 := st.set 2 rfl k (.int .u64 (lw (0 + B64 ^ 4 - cQ) k : Nat))
    rw [jX _ _ _ _ hlt] at h1
    exact ⟨k + 1, by omega, by go_num, rfl, h1⟩
   case measure => simp [intOf]; omega
  ·have hge : ¬ ((k : Int) < 4) := by omega
   have hk4 : k = 4 := by omega
   rw [hk4, tQ _ _ _ Ac, cw_mod, Nat.zero_add] at st
   clear hk4
   go_wp2_with (with_reducible refine AA 25 ?_)
   refine aI st 2 rfl rfl rfl underlying60 rfl Ag ?_
   go_wp2_with (with_reducible refine AA 26 ?_)
   refine aI st 1 rfl rfl rfl underlying60 rfl Ag ?_
   go_wp2_with (with_reducible refine AA 27 ?_)
   refine cD rfl rfl _ (e0p (B64 ^ 4 - cQ) cQ) ?_
   go_wp2_with (with_reducible refine AB ?_)
   refine aB st 0 rfl rfl rfl rfl (cs := cw 4 (B64 ^ 4 - cQ) ++ cw 4 cQ) rfl Ah (by rw [List.length_append, aT, aT]; kernel_rfl) (uE _ _ _ _) ?_
   intro w6 st6
   clear st
   have hr := st6.at 0 rfl
   have hfr := st6.fr
   clear st6
   go_wp2
   exact bodyPost_ret (aY rfl rfl hr underlying78 rfl Ad) rfl ⟨by rw [s0y], hfr⟩
end
end Go.Proofs.YtemcankmggmgoaaGreat
namespace Go.Mv
open Go.RowKit
variable {P : Program}
theorem St.keep1 {S : Nat → Prop} {w0 w w' : World} {bl : List (Nat × List Value × TypeId)} {g : Nat} (h : St S w0 w bl) (hf : Fr (One g) w w') (hg : w0.heap.size ≤ g ∨ S g) (hne : ∀ x ∈ bl, x.1 ≠ g) : St S w0 w' bl := by
 refine ⟨?_, h.own, fun x hx => (h.has x hx).keep hf (hne x hx), h.ne⟩
 refine h.fr.trans hf fun i hi e => ?_
 have e2 : i = g := e
 subst e2
 rcases hg with hg | hg
 ·omega
 ·exact hg
section
variable {w w0 : World} {ops : Array Oper} {rest : List Oper} {o : Oper} {a : Act} {Q : Exit → Act → World → Prop} {S : Nat → Prop} {bl : List (Nat × List Value × TypeId)}
theorem gS (hst : St S w0 w bl) (i : Nat) {g : Nat} {L : List Value} {T : TypeId} (hb : bl[i]? = some (g, L, T)) {ty : TypeId} {x y : Operand} (hgd : o.guard = none) (ho : o.op = .store ty x y) (hx : a.eval x = .pointer (some ⟨g, 0, none⟩)) {cs : List Value} (hy : a.eval y = .agg cs.toArray)
  (hn : cs.length = L.length) (hi : (P.info? ty).map (·.size) = some cs.length) (h1 : ∀ v ∈ cs, v.oneCell' = true)
  (h : ∀ w', St S w0 w' (bl.set i (g, cs, T)) → Fr (One g) w w' → wpList P ops Q rest (a.put o.dst undef) w') : wpList P ops Q (o :: rest) a w :=
 iE hgd ho hx hy (hst.at i hb) Ab hi h1 fun w' hg hf _ => h w' (hst.put i hb hf (by rwa [gC _ _ hn] at hg)) hf
theorem fK (hst : St S w0 w bl) {e : TypeId} (hgd : o.guard = none) (ho : o.op = .alloc e) {z : Value} (hi : (P.info? e).map (·.zero) = some (some z)) (L : List Value) (hL : z.cells.toList = L)
  (h : ∀ g w', St S w0 w' (bl ++ [(g, L, e)]) → Fr Nob w w' → w.heap.size ≤ g → wpList P ops Q rest (a.put o.dst (.pointer (some ⟨g, 0, none⟩))) w') : wpList P ops Q (o :: rest) a w :=
 kZ hgd ho hi L hL fun w' hg hf _ => h _ w' (hst.new hf hg (Nat.le_refl _)) hf (Nat.le_refl _)
theorem zF (hst : St S w0 w bl) {e : TypeId} {x : Operand} (hgd : o.guard = none) (ho : o.op = .box e x) {v : Value} (hx : a.eval x = v) (L : List Value) (hL : v.cells.toList = L)
  (h : ∀ g w', St S w0 w' (bl ++ [(g, L, e)]) → Fr Nob w w' → wpList P ops Q rest (a.put o.dst (.pointer (some ⟨g, 0, none⟩))) w') : wpList P ops Q (o :: rest) a w :=
 wR hgd ho hx L hL fun w' hg hf _ => h _ w' (hst.new hf hg (Nat.le_refl _)) hf
theorem e0q {ty : TypeId} {x : Operand} (hgd : o.guard = none) (ho : o.op = .load ty x) {d : TypeDesc} (hu : P.underlying ty = some d) (hd : d.isRow = true) {g p : Nat} (hx : a.eval x = .pointer (some ⟨g, p, none⟩))
  {L : List Value} {T : TypeId} (hg : Has w g L T) (cs : List Value) (hcs : (L.drop p).take cs.length = cs) (hi : (P.info? ty).map (·.size) = some cs.length)
  (h : wpList P ops Q rest (a.put o.dst (.agg cs.toArray)) w) : wpList P ops Q (o :: rest) a w :=
 wpList_load_mid hgd ty x ho g p hx cs d (hg.range p cs hcs) hu hd hi h
theorem k0S (hst : St S w0 w bl) (i : Nat) {g : Nat} {L : List Value} {T : TypeId} (hb : bl[i]? = some (g, L, T)) {ty : TypeId} {x : Operand} (hw : Region.wanted o (yielded ops a.tmps) = true) (ho : o.op = .load ty x) {d : TypeDesc} (hu : P.underlying ty = some d) (hd : d.isRow = true) (hx : a.eval x = .pointer (some ⟨g, 0, none⟩))
  (hi : (P.info? ty).map (·.size) = some L.length) (h : wpList P ops Q rest (a.put o.dst (.agg L.toArray)) w) : wpList P ops Q (o :: rest) a w := by
 unfold wpList
 rw [if_pos hw]
 exact .inl (wp_load_mid ty x ho g 0 hx L _ ((hst.at i hb).range 0 L dZl) hu hd hi h)
end
end Go.Mv
namespace Go.Proofs.YtemcankmggmgoaaGreat
open Go.RowKit Go.Mv Mvp
attribute [local irreducible] cO dD toB aW bG cR eD bH eU cA bD dX
def tkV (g : Nat) : Value := .agg #[.pointer (some ⟨g, 0, none⟩)]
theorem k0T (g : Nat) : prog.built 128 [(0, .pointer (some ⟨g, 0, none⟩))] = some ([Value.pointer (some ⟨g, 0, none⟩)]).toArray := by kernel_rfl
theorem s0B : (prog.info? 128).map (·.zero) = some (some (.agg #[.pointer none])) := by kernel_rfl
theorem q0u : (prog.info? 132).map (·.zero) = some (some (.agg #[.string ByteArray.empty, .slice none 0 0])) := by kernel_rfl
theorem q0v (g : Nat) : ∀ v ∈ [Value.pointer (some ⟨g, 0, none⟩)], v.oneCell' = true := by
 intro v hv
 simp only [List.mem_singleton] at hv
 subst hv; rfl
theorem q0w (s : ByteArray) (a : Option Addr) (n c : Nat) : ∀ v ∈ [Value.string s, Value.slice a n c], v.oneCell' = true := by
 intro v hv
 simp only [List.mem_cons, List.not_mem_nil, or_false] at hv
 rcases hv with rfl | rfl <;> rfl
theorem LogAt.mono {w : World} {base base' g : Nat} {l : List UInt8} (h : LogAt w base g l) (hb : base' ≤ base) : LogAt w base' g l := by
 obtain ⟨v, h1, h2⟩ := h; exact ⟨v, h1, h2.mono hb⟩
theorem LogAt.has {w : World} {base g : Nat} {l : List UInt8} (h : LogAt w base g l) : ∃ v, Has w g [v] 228 := by
 obtain ⟨v, h1, _⟩ := h; exact ⟨v, h1⟩
theorem LogAt.off {w w' : World} {base g g' : Nat} {l : List UInt8} (h : LogAt w base g l) (hf : Fr (One g') w w') {L : List Value} {T : TypeId} (hg : Has w g' L T) (hT : 5 ≠ T) (hT2 : 228 ≠ T) : LogAt w' base g l := by
 refine h.other hf ?_ hg hT
 rintro rfl
 obtain ⟨v, h1, _⟩ := h
 obtain ⟨_, _, h1, _⟩ := h1
 obtain ⟨_, _, h2, _⟩ := hg
 rw [h1] at h2
 simp only [Option.some.injEq, Obj.cells.injEq] at h2
 exact hT2 h2.2.1
theorem LogAt.notIn {w : World} {base g : Nat} {l : List UInt8} (h : LogAt w base g l) {bl : List (Nat × List Value × TypeId)} (hh : ∀ x ∈ bl, Has w x.1 x.2.1 x.2.2) (hT : ∀ x ∈ bl, 228 ≠ x.2.2) : ∀ x ∈ bl, x.1 ≠ g := by
 rintro x hx rfl
 obtain ⟨v, h1, _⟩ := h
 obtain ⟨_, _, h1, _⟩ := h1
 obtain ⟨_, _, h2, _⟩ := hh x hx
 rw [h1] at h2
 simp only [Option.some.injEq, Obj.cells.injEq] at h2
 exact hT x hx h2.2.1
theorem b0q (s : ByteArray) (w : World) (hs : s.size ≤ 1000000) :
  Calls prog 89 #[.string s] w fun e w' => ∃ g, e = .returned (tkV g) ∧ w.heap.size ≤ g ∧ LogAt w' w.heap.size g (b0l s.data.toList) ∧ Fr Nob w w' := by
 have HS := qH hs
 clear hs
 have st0 := St.start Nob w
 go_enter func89, ntmps89
 go_wp2_with (with_reducible refine AA 2 ?_)
 refine aA st0 rfl rfl s0B [.pointer none] rfl ?_
 intro g2 w1 st1
 clear st0
 have HB := qH st1.fr.size
 go_wp2_with fail
 refine (f0N s _ HS.out).mono ?_
 rintro e' w2 ⟨g, rfl, hle, hl, hf⟩
 have st2 := st1.keep hf
 have HL := qH (hl.mono HB.out)
 have HG := qH (Nat.le_trans HB.out hle)
 clear hle hl hf st1 HB
 go_wp2_with (with_reducible refine AA 5 ?_)
 refine cD rfl rfl _ (k0T g) ?_
 go_wp2_with (with_reducible refine AB ?_)
 refine gS st2 0 rfl rfl rfl rfl rfl rfl Aa (q0v g) ?_
 intro w3 st3 hf3
 have HL3 := qH (HL.out.off hf3 (st2.at 0 rfl) Ac Ac)
 clear st2 hf3 HL
 have hr := st3.at 0 rfl
 have hfr := st3.fr
 clear st3
 go_wp2_with fail
 exact bodyPost_ret (aY rfl rfl hr underlying128 rfl Aa) rfl ⟨g, rfl, HG.out, HL3.out, hfr⟩
def sdC (xs : List (ByteArray × Value)) : List Value := xs.flatMap fun x => [.string x.1, x.2]
theorem i0c : ∀ (xs : List (ByteArray × Value)) (j : Nat) (hj : j < xs.length), ((sdC xs).drop (j * 2)).take 2 = [.string (xs[j]'hj).1, (xs[j]'hj).2]
 | x :: xs, 0, _ => rfl
 | x :: xs, j + 1, hj => by
  have h := i0c xs j (by simpa using hj)
  simp only [List.getElem_cons_succ]
  rw [← h]
  have e : (j + 1) * 2 = j * 2 + 2 := by omega
  rw [e]
  rfl
def sdZ (xs : List (ByteArray × Value)) (ls : List (List UInt8)) : List (List UInt8 × List UInt8) := (xs.map fun x => x.1.data.toList).zip ls
theorem xC (x : List UInt8 × List UInt8) : ∀ (l : List (List UInt8 × List UInt8)) (st : List UInt8), fZ st (l ++ [x]) = dX tP [fZ st l, x.1, x.2]
 | [], _ => rfl
 | y :: l, st => by simp only [List.cons_append, fZ]; exact xC x l _
theorem k0U (xs : List (ByteArray × Value)) (ls : List (List UInt8)) (j : Nat) (hj : j < xs.length) (l : List UInt8) (hl : ls[j]? = some l) : (sdZ xs ls).take (j + 1) = (sdZ xs ls).take j ++ [((xs[j]'hj).1.data.toList, l)] := by
 obtain ⟨h2, rfl⟩ := List.getElem?_eq_some_iff.1 hl
 rw [List.take_succ_eq_append_getElem (by simp [sdZ]; omega)]
 simp [sdZ]
theorem b0r : (prog.info? 132).map (·.size) = some 2 := by kernel_rfl
attribute [local irreducible] fZ sdC sdZ
theorem e0r (wB : World) (base g : Nat) (st : List UInt8) (gl c : Nat) (xs : List (ByteArray × Value)) (ls : List (List UInt8)) (w : World) (hg : wB.heap.size ≤ g) (hB : Fr Nob wB w) (hbase : base ≤ w.heap.size) (hl : LogAt w base g st) (hc : Has w gl (sdC xs) 132)
  (hn : xs.length ≤ 1000) (hs : ∀ x ∈ xs, x.1.size ≤ 1000000) (hp : Parts wB (xs.map (·.2)) ls) :
  Calls prog 90 #[tkV g, .slice (some ⟨gl, 0, none⟩) xs.length c] w fun e w' => e = .returned (tkV g) ∧ LogAt w' base g (fZ st (sdZ xs ls)) ∧ Fr (One g) w w' := by
 have HNE := qH (hl.notIn (bl := [(gl, sdC xs, 132)]) (by intro x hx; simp only [List.mem_singleton] at hx; subst hx; exact hc) (by intro x hx; simp only [List.mem_singleton] at hx; subst hx; dsimp only; decide) _ List.mem_cons_self)
 have HLN := qH (show xs.length = ls.length by rw [← hp.len, List.length_map])
 have HG := qH hg
 have HB := qH hB
 have HBS := qH hbase
 have HL := qH hl
 have HC := qH hc
 have HS := qH hs
 have HP := qH hp
 clear hg hB hbase hl hc hs hp
 have st0 := St.start (One g) w
 go_enter func90, ntmps90
 go_wp2_with (with_reducible refine AA 2 ?_)
 refine zF st0 rfl rfl rfl [.pointer (some ⟨g, 0, none⟩)] rfl ?_
 intro g2 w1 st1 hf1
 have HL1 := qH (HL.out.still hf1)
 clear st0 hf1 HL
 go_wp2_with (with_reducible refine AA 4 ?_)
 refine fK st1 rfl rfl s0B [.pointer none] rfl ?_
 intro g4 w2 st2 hf2 hs2
 have HL2 := qH (HL1.out.still hf2)
 clear st1 hf2 hs2 HL1
 have ST := qH st2
 clear st2
 go_wp2_with fail
 go_loopw [9] (fun i wr => ∃ j : Nat, j ≤ xs.length ∧ i = .int .i64 (j : Int) ∧ LogAt wr base g (fZ st ((sdZ xs ls).take j)) ∧ St (One g) w wr [(g2, [.pointer (some ⟨g, 0, none⟩)], 128), (g4, [.pointer none], 128)]) (fun i _ => xs.length - (intOf i).toNat)
 case atStart => exact ⟨0, Nat.zero_le _, rfl, by rw [List.take_zero]; unfold fZ; exact HL2.out, ST.out⟩
 case round =>
  clear HL2 ST
  obtain ⟨j, hj, rfl, hlj, hst⟩ := hrel
  by_cases hlt : j < xs.length
  ·have hltI : (j : Int) < (xs.length : Int) := by omega
   have hcr : Has wr gl (sdC xs) 132 := HC.out.keep hst.fr HNE.out
   have hget := i0c xs j hlt
   have hmem : xs[j] ∈ xs := List.getElem_mem hlt
   obtain ⟨l, hll, hpl⟩ := HP.out.get j (xs[j]).2 (by rw [List.getElem?_map, List.getElem?_eq_getElem hlt]; rfl)
   have HT := qH (k0U xs ls j hlt l hll)
   have HSZ := qH (HS.out _ hmem)
   clear hmem hll
   generalize xs[j] = x at *
   obtain ⟨s, v⟩ := x
   obtain ⟨a, n, cc, hv, hcc, hn, hrd, hold⟩ := hpl
   have hv2 : v = .slice a n cc := hv
   subst hv2
   have HPL := qH (show PartIs wB (.slice a n cc) l from ⟨a, n, cc, rfl, hcc, hn, hrd, hold⟩)
   have HCR := qH hcr
   have HGET := qH hget
   have HLJ := qH hlj
   clear hcr hget hlj hv hcc hn hrd hold
   go_wp2_with (with_reducible refine AA 12 ?_)
   refine e0q rfl rfl underlying132 rfl rfl HCR.out [.string s, .slice a n cc] HGET.out b0r ?_
   go_wp2_with (with_reducible refine AA 6 ?_)
   refine fK hst rfl rfl q0u [.string ByteArray.empty, .slice none 0 0] rfl ?_
   intro g6 w3 st3 hf3 hs3
   have HL3 := qH (HLJ.out.still hf3)
   clear hf3 hs3 HLJ hst HCR HGET
   go_wp2_with (with_reducible refine AB ?_)
   refine gS st3 2 rfl rfl rfl rfl rfl rfl b0r (q0w _ _ _ _) ?_
   intro w4 st4 hf4
   have HL4 := qH (HL3.out.off hf4 (st3.at 2 rfl) Ac Ac)
   clear st3 hf4 HL3
   have hc0 := (st4.at 0 rfl).cell (i := 0) rfl
   have hc1 := (st4.at 2 rfl).cell (i := 0) rfl
   have hc2 := (st4.at 2 rfl).cell (i := 1) rfl
   have HPL4 := qH (HPL.out.still (HB.out.new st4.fr HG.out))
   have ST4 := qH st4
   clear st4 HPL
   go_wp2_with fail
   refine (n0Z base g _ s a n cc l _ HSZ.out HL4.out HPL4.out (Nat.le_trans HBS.out ST4.out.fr.size)).mono ?_
   rintro e' w5 ⟨rfl, hl5, hf5⟩
   have st5 := (ST4.out.keep1 hf5 (.inr rfl) (HL4.out.notIn ST4.out.has (by intro x hx; simp only [List.mem_cons, List.not_mem_nil, or_false, List.set_cons_succ, List.set_cons_zero, List.cons_append, List.nil_append] at hx; rcases hx with rfl | rfl | rfl <;> (dsimp only; decide)))).less (bl' := [(g2, [.pointer (some ⟨g, 0, none⟩)], 128), (g4, [.pointer none], 128)]) Ae
   have HL5 := qH hl5
   have ST5 := qH st5
   clear hl5 hf5 st5 ST4 HL4 HPL4 hc0 hc1 hc2
   go_wp2_with fail
   go_roundw
   case rel => exact ⟨j + 1, by omega, by go_num, by rw [HT.out, xC]; exact HL5.out, ST5.out⟩
   case measure => simp [intOf]; omega
  ·have hge : ¬ ((j : Int) < (xs.length : Int)) := by omega
   have hjl : (sdZ xs ls).take j = sdZ xs ls := List.take_of_length_le (by unfold sdZ; simp; omega)
   rw [hjl] at hlj
   have HLJ := qH hlj
   clear hlj hjl
   go_wp2_with (with_reducible refine AA 21 ?_)
   refine aM hst 0 rfl rfl rfl underlying128 rfl rfl Aa ?_
   go_wp2_with (with_reducible refine AB ?_)
   refine gS hst 1 rfl rfl rfl rfl rfl rfl Aa (q0v g) ?_
   intro w3 st3 hf3
   have HL3 := qH (HLJ.out.off hf3 (hst.at 1 rfl) Ac Ac)
   have hr := st3.at 1 rfl
   have hfr := st3.fr
   clear hst hf3 HLJ st3
   go_wp2_with fail
   exact bodyPost_ret (aY rfl rfl hr underlying128 rfl Aa) rfl ⟨rfl, HL3.out, hfr⟩
end Go.Proofs.YtemcankmggmgoaaGreat
namespace Go.Mv
open Go.RowKit
section
variable {P : Program} {ops : Array Oper} {md : Region.Mode} {Q : Exit → Act → World → Prop} {S S2 : World → Prop}
def zG (md : Region.Mode) (ops : Array Oper) (n : Nat) : Bool :=
 (List.range ops.size).all fun t => decide (t ≤ n) || (List.range t).any fun j => decide (n ≤ j) && Region.waitsFor md ops t j
theorem xD {n : Nat} {listed : Array Bool} (hs : Region.sinkB md ops n = true) (hb : zG md ops n = true) (inv : HeadInv md ops n listed) {i : Nat} (hi : i < n) (hun : listed.getD i true = false) :
  ∀ t, n ≤ t → t ∉ Region.ready md ops listed := by
 have key : ∀ (d i : Nat), n - i = d → i < n → listed.getD i true = false → n ∉ Region.ready md ops listed := by
  intro d
  induction d using Nat.strongRecOn with
  | _ d ih =>
   intro i hd hi hun hr
   obtain ⟨-, on, hon, hall⟩ := mem_ready.1 hr
   obtain ⟨j, hj, hj2⟩ := List.any_eq_true.1 (List.all_eq_true.1 hs i (List.mem_range.2 hi))
   simp only [Bool.and_eq_true, decide_eq_true_eq] at hj2
   obtain ⟨oj, hoj, e, he, hbi, heon⟩ := Region.waitsFor_spec hj2.2
   have hjn := List.mem_range.1 hj
   rcases Nat.lt_or_ge j n with h | h
   ·cases hl : listed.getD j false with
    | true =>
     have h2 := inv.closed j oj hoj hl e he hbi
     rw [heon, getD_both hun] at h2
     cases h2
    | false =>
     have hjs : j < listed.size := by
      have := (Array.getElem?_eq_some_iff.1 hoj).1
      rw [inv.size]; exact this
     exact ih (n - j) Ab j rfl h (getD_in hjs hl) hr
   ·have : j = n := by omega
    subst this
    have : oj = on := Option.some.inj (hoj.symm.trans hon)
    subst this
    have h2 := hall e he hbi
    rw [heon, getD_both hun] at h2
    cases h2
 intro t ht hr
 rcases Nat.eq_or_lt_of_le ht with rfl | h
 ·exact key _ i rfl hi hun hr
 ·obtain ⟨-, ot, hot, hall⟩ := mem_ready.1 hr
  have htl := (Array.getElem?_eq_some_iff.1 hot).1
  have h1 := List.all_eq_true.1 hb t (List.mem_range.2 htl)
  simp only [Bool.or_eq_true, decide_eq_true_eq] at h1
  rcases h1 with h1 | h1
  ·omega
  ·obtain ⟨j, hj, hj2⟩ := List.any_eq_true.1 h1
   simp only [Bool.and_eq_true, decide_eq_true_eq] at hj2
   obtain ⟨o', ho', e, he, hbi, heon⟩ := Region.waitsFor_spec hj2.2
   have : o' = ot := Option.some.inj (ho'.symm.trans hot)
   subst this
   have h2 := hall e he hbi
   have hjt := List.mem_range.1 hj
   rw [heon, getD_both (inv.tail j hj2.1 Ab)] at h2
   cases h2
def b0s (P : Program) (md : Region.Mode) (ops : Array Oper) (Q : Exit → Act → World → Prop) (S : World → Prop) (n : Nat) (B : Array Bool → Act → World → Prop) : Nat → Array Bool → Act → World → Prop
 | 0, listed, a, w => Region.ready md ops listed = [n] ∧ B listed a w
 | f + 1, listed, a, w =>
  Region.ready md ops listed ≠ [] ∧ ∀ i ∈ Region.ready md ops listed, i < n ∧ wpOp P ops Q i (fun a' w' => S w' ∧ b0s P md ops Q S n B f (listed.setIfInBounds i true) a' w') a w
theorem xE {n g : Nat} {B : Array Bool → Act → World → Prop} (hB : ∀ listed a w, Region.ready md ops listed = [n] → B listed a w → wpAny P md ops Q g listed a w) :
  ∀ (f : Nat) (listed : Array Bool) (a : Act) (w : World), b0s P md ops Q S n B f listed a w → wpAny P md ops Q (f + g) listed a w
 | 0, listed, a, w, h => by rw [Nat.zero_add]; exact hB _ _ _ h.1 h.2
 | f + 1, listed, a, w, h => by
  rw [show f + 1 + g = (f + g) + 1 by omega]
  exact ⟨fun h0 => absurd h0 h.1, fun i hi => wpOp_mono (fun a' w' h' => xE hB f _ a' w' h'.2) (h.2 i hi).2⟩
theorem b0t {n i : Nat} {oi : Oper} {v : Value} {B : Array Bool → Act → World → Prop} (hi : ops[i]? = some oi) (hsel : ∀ (j : Nat) (o : Oper) cs b, ops[j]? = some o → o.op ≠ .select cs b)
  (hQ : ∀ c a w, Q (.panic c) (a.put oi.dst v) w → Q (.panic c) a w) (hs : Region.sinkB md ops n = true) (hb : zG md ops n = true) (hin : i < n) :
  ∀ (f : Nat) (listed : Array Bool) (a : Act) (w : World), HeadInv md ops n listed →
   (∀ j oj, ops[j]? = some oj → j ≠ i → listed.getD j true = false → (∀ e ∈ oj.after, Region.binds md e = true → e.on ≠ i) → oi.apart ops oj = true) →
   i ∈ Region.ready md ops listed → YieldsIf P ops S oi v a → S w →
   b0s P md ops Q S n B f (listed.setIfInBounds i true) (a.put oi.dst v) w → b0s P md ops Q S n B (f + 1) listed a w := by
 intro f
 induction f with
 | zero =>
  intro listed a w inv _ hr hy hS H
  have hun := (mem_ready.1 hr).1
  refine ⟨fun h => (by rw [h] at hr; cases hr), fun j hj => ?_⟩
  have hjn : j < n := Nat.lt_of_not_le fun h => xD hs hb inv hin hun j h hj
  refine ⟨hjn, ?_⟩
  by_cases hji : j = i
  ·subst hji; exact hy.wpOp hi hS ⟨hS, H⟩
  ·have h2 := ready_mono hj hji
   rw [H.1] at h2
   simp only [List.mem_singleton] at h2
   omega
 | succ f ih =>
  intro listed a w inv hfree hr hy hS H
  have hun := (mem_ready.1 hr).1
  refine ⟨fun h => (by rw [h] at hr; cases hr), fun j hj => ?_⟩
  have hjn : j < n := Nat.lt_of_not_le fun h => xD hs hb inv hin hun j h hj
  refine ⟨hjn, ?_⟩
  by_cases hji : j = i
  ·subst hji; exact hy.wpOp hi hS ⟨hS, H⟩
  ·have h1 := (H.2 j (ready_mono hj hji)).2
   obtain ⟨hjun, oj, hoj, hall⟩ := mem_ready.1 hj
   have hnot : ∀ e ∈ oj.after, Region.binds md e = true → e.on ≠ i := fun e he hb heq => by
    have h1 := hall e he hb
    rw [heq, getD_both hun] at h1
    cases h1
   have h2 := wpOp_putIf hoj (hfree j oj hoj hji hjun hnot) (fun cs b => hsel i oi cs b hi) (fun cs b => hsel j oj cs b hoj) hQ hy h1
   have hfree' : ∀ k ok, ops[k]? = some ok → k ≠ i → (listed.setIfInBounds j true).getD k true = false →
     (∀ e ∈ ok.after, Region.binds md e = true → e.on ≠ i) → oi.apart ops ok = true := fun k ok hk hki hun hno => by
    refine hfree k ok hk hki ?_ hno
    by_cases hjk : j = k
    ·subst hjk; exact hjun
    ·rw [getD_set_ne true hjk] at hun; exact hun
   refine wpOp_mono (fun a' w' h3 => ⟨h3.2.1, ih (listed.setIfInBounds j true) a' w' (inv.set hj hjn) hfree' (ready_mono hr (Ne.symm hji)) h3.1 h3.2.1 ?_⟩) h2
   rw [Array.setIfInBounds_comm _ _ hji]
   exact h3.2.2
def pF (P : Program) (ops : Array Oper) (Q : Exit → Act → World → Prop) (S : World → Prop) (B : Act → World → Prop) : List (Nat × Bool) → Act → World → Prop
 | [], a, w => B a w
 | (i, true) :: r, a, w => ∃ o v, ops[i]? = some o ∧ YieldsIf P ops S o v a ∧ pF P ops Q S B r (a.put o.dst v) w
 | (i, false) :: r, a, w => ∃ o, ops[i]? = some o ∧ o.guard = none ∧ o.wp P a w (fun a' w' => S w' ∧ pF P ops Q S B r a' w') Q
def rH (P : Program) (ops : Array Oper) (Q : Exit → Act → World → Prop) (S : World → Prop) : List Nat → Act → World → Prop
 | [], a, w => Q .normal a w
 | i :: r, a, w => ∃ o v, ops[i]? = some o ∧ YieldsIf P ops S o v a ∧ rH P ops Q S r (a.put o.dst v) w
def xF (md : Region.Mode) (ops : Array Oper) : List Nat → Array Bool → Bool
 | [], listed => (Region.ready md ops listed).isEmpty
 | i :: r, listed => (Region.ready md ops listed).contains i && Region.free md ops listed i && xF md ops r (listed.setIfInBounds i true)
def uF (md : Region.Mode) (ops : Array Oper) (n : Nat) (s2 : List Nat) : List (Nat × Bool) → Array Bool → Bool
 | [], listed => decide (Region.ready md ops listed = [n]) && xF md ops s2 (listed.setIfInBounds n true)
 | (i, true) :: r, listed => decide (i < n) && (Region.ready md ops listed).contains i && Region.free md ops listed i && uF md ops n s2 r (listed.setIfInBounds i true)
 | (i, false) :: r, listed => decide (i < n) && decide (Region.ready md ops listed = [i]) && uF md ops n s2 r (listed.setIfInBounds i true)
theorem nS (hsel : Region.noSelect ops = true) (hQ : ∀ c (d : Option Tmp) v a w, Q (.panic c) (Act.put a d v) w → Q (.panic c) a w) :
  ∀ (r : List Nat) (listed : Array Bool) (a : Act) (w : World), xF md ops r listed = true → S w → rH P ops Q S r a w → wpAnyH P md ops Q S r.length listed a w
 | [], listed, a, w, hB, _, h => wpAnyH_done (by simpa [xF] using hB) h 0
 | i :: r, listed, a, w, hB, hS, h => by
  obtain ⟨o, v, ho, hy, hK⟩ := h
  simp only [xF, Bool.and_eq_true] at hB
  obtain ⟨⟨hr, hf⟩, hB'⟩ := hB
  exact wpAnyH_take ho hsel hf hr (fun c a w => hQ c o.dst v a w) hy hS (nS hsel hQ r _ _ w hB' hS hK)
theorem lG {n : Nat} {s2 : List Nat} {B : Act → World → Prop} (hsel : Region.noSelect ops = true) (hs : Region.sinkB md ops n = true) (hb : zG md ops n = true)
  (hQ : ∀ c (d : Option Tmp) v a w, Q (.panic c) (Act.put a d v) w → Q (.panic c) a w) :
  ∀ (s : List (Nat × Bool)) (listed : Array Bool) (a : Act) (w : World), HeadInv md ops n listed → uF md ops n s2 s listed = true → S w → pF P ops Q S B s a w →
   b0s P md ops Q S n (fun l a w => xF md ops s2 (l.setIfInBounds n true) = true ∧ B a w) s.length listed a w
 | [], listed, a, w, _, hB, _, h => by
  simp only [uF, Bool.and_eq_true, decide_eq_true_eq] at hB
  exact ⟨hB.1, hB.2, h⟩
 | (i, true) :: r, listed, a, w, inv, hB, hS, h => by
  obtain ⟨o, v, ho, hy, hK⟩ := h
  simp only [uF, Bool.and_eq_true, decide_eq_true_eq] at hB
  obtain ⟨⟨⟨hin, hr⟩, hf⟩, hB'⟩ := hB
  have hr' : i ∈ Region.ready md ops listed := by simpa using hr
  exact b0t ho (Region.noSelect_spec hsel) (fun c a w => hQ c o.dst v a w) hs hb hin r.length listed a w inv (Region.free_spec ho hf) hr' hy hS
   (lG hsel hs hb hQ r _ _ w (inv.set hr' hin) hB' hS hK)
 | (i, false) :: r, listed, a, w, inv, hB, hS, h => by
  obtain ⟨o, ho, hg, hK⟩ := h
  simp only [uF, Bool.and_eq_true, decide_eq_true_eq] at hB
  obtain ⟨⟨hin, hr⟩, hB'⟩ := hB
  have hr' : i ∈ Region.ready md ops listed := by rw [hr]; simp
  refine ⟨by rw [hr]; simp, fun j hj => ?_⟩
  rw [hr] at hj
  have hj' : j = i := by simpa using hj
  subst hj'
  refine ⟨hin, ?_⟩
  unfold wpOp
  simp only [ho]
  rw [if_pos Ax]
  exact .inl (Oper.wp_mono (fun a' w' h' => ⟨h'.1, lG hsel hs hb hQ r _ a' w' (inv.set hr' hin) hB' h'.1 h'.2⟩) hK)
def i0d (ops : Array Oper) (n : Nat) (s : List (Nat × Bool)) (s2 : List Nat) : Bool :=
 Region.noSelect ops && decide (n < ops.size) && decide (s.length = n) && decide (s2.length = ops.size - n - 1) && Region.sinkB .any ops n && zG .any ops n && uF .any ops n s2 s (Array.replicate ops.size false)
theorem vW {id : Nat} {a : Act} {w : World} {l : List Oper} (S S2 : World → Prop) (n : Nat) (s : List (Nat × Bool)) (s2 : List Nat) (hm : P.follows .mixedOrders = true) (hB : i0d l.toArray n s s2 = true)
  (hS : S w.drew) (hQ : ∀ c (d : Option Tmp) v a w, Q (.panic c) (Act.put a d v) w → Q (.panic c) a w)
  (h : pF P l.toArray Q S (fun a w => ∃ o, l[n]? = some o ∧ o.guard = none ∧ o.wp P a w (fun a' w' => S2 w' ∧ rH P l.toArray Q S2 s2 a' w') Q) s a w.drew) : (Code.region id l.toArray true).wp P Q a w := by
 simp only [i0d, Bool.and_eq_true, decide_eq_true_eq] at hB
 obtain ⟨⟨⟨⟨⟨⟨hsel, hn⟩, hlen⟩, hlen2⟩, hs⟩, hb⟩, hseq⟩ := hB
 have inv0 : HeadInv .any l.toArray n (Array.replicate l.toArray.size false) :=
  ⟨by simp, fun j oj _ hl => (by rw [getD_replicate_false] at hl; cases hl), fun t _ ht => getD_in (by simpa using ht) (getD_replicate_false _ _)⟩
 have H := lG (md := .any) hsel hs hb hQ s _ a w.drew inv0 hseq hS h
 refine wp_region_any hm ?_
 have := xE (g := s2.length + 1) (fun listed a w hr hBB => by
  obtain ⟨hok, o, ho, hg, hK⟩ := hBB
  refine ⟨fun h0 => (by rw [hr] at h0; cases h0), fun i hi => ?_⟩
  rw [hr] at hi
  have hi' : i = n := by simpa using hi
  subst hi'
  unfold wpOp
  have ho' : l.toArray[i]? = some o := by simpa using ho
  simp only [ho']
  rw [if_pos Ax]
  exact .inl (Oper.wp_mono (fun a' w' h' => wpAny_of_held _ _ _ _ (nS hsel hQ s2 _ a' w' hok h'.1 h'.2)) hK)) _ _ _ _ H
 rw [hlen, hlen2, show n + (l.toArray.size - n - 1 + 1) = l.toArray.size by omega] at this
 exact this
variable {l : List Oper} {i : Nat} {r : List (Nat × Bool)} {r2 : List Nat} {B : Act → World → Prop} {a : Act} {w : World} {o : Oper}
theorem kT (ho : l[i]? = some o) (hg : o.guard = none) {v : Value} (hv : ∀ wx, S wx → (execOp a.eval o).run P wx = .ok (.value v) wx) (h : pF P l.toArray Q S B r (a.put o.dst v) w) : pF P l.toArray Q S B ((i, true) :: r) a w :=
 ⟨o, v, by simpa using ho, .inl ⟨by simp [Region.wanted, hg], hv⟩, h⟩
theorem k0V (ho : l[i]? = some o) (hg : o.guard = none) {ty : TypeId} {x : Operand} (hop : o.op = .load ty x) {g p : Nat} (hx : a.eval x = .pointer (some ⟨g, p, none⟩)) (cs : List Value) (hS : ∀ wx, S wx → wx.rangeAt g p cs)
  {d : TypeDesc} (hu : P.underlying ty = some d) (hd : d.isRow = true) (hi : (P.info? ty).map (·.size) = some cs.length) (h : pF P l.toArray Q S B r (a.put o.dst (.agg cs.toArray)) w) : pF P l.toArray Q S B ((i, true) :: r) a w :=
 ⟨o, _, by simpa using ho, yieldsIf_load_mid Ax ty x hop g p hx cs d hS hu hd hi, h⟩
theorem k0W (ho : l[i]? = some o) (hg : o.guard = none) (h : o.wp P a w (fun a' w' => S2 w' ∧ rH P l.toArray Q S2 r2 a' w') Q) :
  pF P l.toArray Q S (fun a w => ∃ o, l[i]? = some o ∧ o.guard = none ∧ o.wp P a w (fun a' w' => S2 w' ∧ rH P l.toArray Q S2 r2 a' w') Q) [] a w := ⟨o, ho, hg, h⟩
theorem mJ (ho : l[i]? = some o) (hg : o.guard = none) {v : Value} (hv : ∀ wx, S2 wx → (execOp a.eval o).run P wx = .ok (.value v) wx) (h : rH P l.toArray Q S2 r2 (a.put o.dst v) w) : rH P l.toArray Q S2 (i :: r2) a w :=
 ⟨o, v, by simpa using ho, .inl ⟨by simp [Region.wanted, hg], hv⟩, h⟩
theorem k0X (h : Q .normal a w) : rH P l.toArray Q S2 [] a w := h
end
end Go.Mv
namespace Go.Proofs.YtemcankmggmgoaaGreat
open Go.RowKit Go.Mv Mvp
attribute [local irreducible] bI lw mix cw cT dG cS bQ aO beN dO cI dI bM bT
theorem c0T (gt V m n : Nat) (w : World) (ht : Has w gt (cw 6 V) 222) (hm : m < 18446744073709551616) (hn : n < B64 ^ 4) (hV : V + m * n < B64 ^ 6) (hVV : V < B64 ^ 6) :
  Calls prog 190 #[.pointer (some ⟨gt, 0, none⟩), .int .u64 (m : Int), i4 n] w fun e w' => e = .returned (.tuple #[.int .u64 (lw (V + m * n) 4 : Nat), .int .u64 (lw (V + m * n) 5 : Nat)]) ∧ Has w' gt (cw 6 (mix (V + m * n) V 4)) 222 ∧ Fr (One gt) w w' := by
 have HM := qH hm
 have hlt := e0b V m n hn hV hVV
 have HS0 := qH hlt.1
 have HS1 := qH hlt.2.1
 have HS2 := qH hlt.2.2
 clear hlt hn hV hVV
 clear hm
 have st0 := St.one ht
 go_enter func190, ntmps190
 go_wp2_with (with_reducible refine AA 5 ?_)
 refine aL st0 rfl rfl rfl (cw 4 n) rfl ?_
 intro g5 w1 st1
 clear st0
 have c5 := (st1.at 0 rfl).cell (bL 6 V 5 Ac)
 have c4 := (st1.at 0 rfl).cell (bL 6 V 4 Ac)
 go_wp2_with fail
 refine wp_region_noPanic ?_
 refine vW (fun wx => St (One gt) w wx [(gt, cw 6 V, 222), (g5, cw 4 n, 111)]) (fun wx => St (One gt) w wx [(gt, cw 6 (mix (V + m * n) V 4), 222), (g5, cw 4 n, 111)]) 7 [(0, true), (1, true), (2, true), (3, true), (4, true), (5, true), (6, true)] [8, 9, 10, 11, 12] Aa Aa st1.drew (fun _ _ _ _ _ h => h) ?_
 have hd1 := st1.drew
 refine kT (v := ?_) rfl rfl (fun wx hS => ?_) ?_
 rotate_left 1
 ·(clear hS; go_simp; with_reducible rfl)
 try simp only [J]
 refine kT (v := ?_) rfl rfl (fun wx hS => ?_) ?_
 rotate_left 1
 ·(clear hS; go_simp; with_reducible rfl)
 try simp only [J]
 refine k0V rfl rfl rfl rfl (cw 4 n) (fun wx hS => St.rangeL hS 1 rfl 0 _ dZl) underlying111 rfl Ag ?_
 try simp only [J]
 refine kT (v := ?_) rfl rfl (fun wx hS => ?_) ?_
 rotate_left 1
 ·(clear hS; go_simp; with_reducible rfl)
 try simp only [J]
 refine kT (v := ?_) rfl rfl (fun wx hS => ?_) ?_
 rotate_left 1
 ·(clear hS; go_simp; with_reducible rfl)
 try simp only [J]
 refine kT (v := ?_) rfl rfl (fun wx hS => ?_) ?_
 rotate_left 1
 ·(clear hS; go_simp; with_reducible rfl)
 try simp only [J]
 refine kT (v := ?_) rfl rfl (fun wx hS => ?_) ?_
 rotate_left 1
 ·(have hc := (St.at hS 0 rfl).cell (bL 6 V 4 Ac); clear hS; go_simp; with_reducible rfl)
 try simp only [J]
 refine k0W rfl rfl ?_
 go_simp
 refine (e0h gt V m n (lw V 4) 222 _ (St.at hd1 0 rfl) HM.out (gO V 4)).mono ?_
 rintro e' w2 ⟨rfl, hg2, hf2⟩
 have st2 : St (One gt) w w2 [(gt, cw 6 (mix (V + m * n) V 4), 222), (g5, cw 4 n, 111)] := hd1.put 0 rfl hf2 hg2
 clear hd1 hf2 hg2
 refine ⟨st2, ?_⟩
 try simp only [J]
 refine mJ (v := ?_) rfl rfl (fun wx hS => ?_) ?_
 rotate_left 1
 ·(clear hS; go_simp; with_reducible rfl)
 try simp only [J]
 refine mJ (v := ?_) rfl rfl (fun wx hS => ?_) ?_
 rotate_left 1
 ·(clear hS; go_simp; with_reducible rfl)
 try simp only [J]
 refine mJ (v := ?_) rfl rfl (fun wx hS => ?_) ?_
 rotate_left 1
 ·(clear hS; go_simp; with_reducible rfl)
 try simp only [J]
 refine mJ (v := ?_) rfl rfl (fun wx hS => ?_) ?_
 rotate_left 1
 ·(clear hS; go_simp; with_reducible rfl)
 try simp only [J]
 refine mJ (v := ?_) rfl rfl (fun wx hS => ?_) ?_
 rotate_left 1
 ·(clear hS; go_simp; with_reducible rfl)
 try simp only [J]
 refine k0X ?_
 refine NoPanic.normal ?_
 have hg := st2.at 0 rfl
 have hfr := st2.fr
 clear st2
 have hs := HS2.out
 go_wp2_with fail
 go_ret2
 rw [← HS0.out, ← HS1.out]
 exact ⟨rfl, hg, hfr⟩
end Go.Proofs.YtemcankmggmgoaaGreat
namespace Go.Mv
open Go.RowKit
section
variable {P : Program} {ops : Array Oper} {md : Region.Mode} {Q : Exit → Act → World → Prop} {S : World → Prop}
inductive Sc where
 | nil
 | t (i : Nat) (s : Sc)
 | r (i : Nat) (s : Sc)
 | b (i j : Nat) (s u : Sc)
def Sc.len : Sc → Nat
 | .nil => 0
 | .t _ s => s.len + 1
 | .r _ s => s.len + 1
 | .b _ _ s _ => s.len + 1
def iQ (P : Program) (ops : Array Oper) (Q : Exit → Act → World → Prop) (S : World → Prop) (tl : List Oper) : Sc → Act → World → Prop
 | .nil, a, w => wpList P ops Q tl a w
 | .t i s, a, w => ∃ o v, ops[i]? = some o ∧ YieldsIf P ops S o v a ∧ iQ P ops Q S tl s (a.put o.dst v) w
 | .r i s, a, w => ∃ o, ops[i]? = some o ∧ o.guard = none ∧ o.wp P a w (fun a' w' => S w' ∧ iQ P ops Q S tl s a' w') Q
 | .b i j s u, a, w => (∃ o, ops[i]? = some o ∧ o.guard = none ∧ o.wp P a w (fun a' w' => S w' ∧ iQ P ops Q S tl s a' w') Q) ∧
   (∃ o, ops[j]? = some o ∧ o.guard = none ∧ o.wp P a w (fun a' w' => S w' ∧ iQ P ops Q S tl u a' w') Q)
def pG (md : Region.Mode) (ops : Array Oper) (n g : Nat) : Sc → Array Bool → Bool
 | .nil, listed => Region.seqB md ops g n listed
 | .t i s, listed => decide (i < n) && (Region.ready md ops listed).contains i && Region.free md ops listed i && pG md ops n g s (listed.setIfInBounds i true)
 | .r i s, listed => decide (i < n) && decide (Region.ready md ops listed = [i]) && pG md ops n g s (listed.setIfInBounds i true)
 | .b i j s u, listed => decide (i < n) && decide (j < n) && decide (s.len = u.len) && decide (Region.ready md ops listed = [i, j]) && pG md ops n g s (listed.setIfInBounds i true) && pG md ops n g u (listed.setIfInBounds j true)
theorem fT {n g : Nat} {tl : List Oper} (hsel : Region.noSelect ops = true) (hs : Region.sinkB md ops n = true) (hc : Region.chainB md ops n = true) (hn : n < ops.size)
  (hQ : ∀ c (d : Option Tmp) v a w, Q (.panic c) (Act.put a d v) w → Q (.panic c) a w) :
  ∀ (s : Sc) (listed : Array Bool) (a : Act) (w : World), HeadInv md ops n listed → pG md ops n g s listed = true → S w → iQ P ops Q S tl s a w → xA P md ops Q S n g tl s.len listed a w
 | .nil, listed, a, w, _, hB, _, h => ⟨hB, h⟩
 | .t i r, listed, a, w, inv, hB, hS, h => by
  obtain ⟨o, v, ho, hy, hK⟩ := h
  simp only [pG, Bool.and_eq_true, decide_eq_true_eq] at hB
  obtain ⟨⟨⟨hin, hr⟩, hf⟩, hB'⟩ := hB
  have hr' : i ∈ Region.ready md ops listed := by simpa using hr
  exact rG ho (Region.noSelect_spec hsel) (fun c a w => hQ c o.dst v a w) hs hc hn hin r.len listed a w inv (Region.free_spec ho hf) hr' hy hS
   (fT hsel hs hc hn hQ r _ _ w (inv.set hr' hin) hB' hS hK)
 | .r i r, listed, a, w, inv, hB, hS, h => by
  obtain ⟨o, ho, hg, hK⟩ := h
  simp only [pG, Bool.and_eq_true, decide_eq_true_eq] at hB
  obtain ⟨⟨hin, hr⟩, hB'⟩ := hB
  have hr' : i ∈ Region.ready md ops listed := by rw [hr]; simp
  refine ⟨by rw [hr]; simp, fun j hj => ?_⟩
  rw [hr] at hj
  have hj' : j = i := by simpa using hj
  subst hj'
  refine ⟨hin, ?_⟩
  unfold wpOp
  simp only [ho]
  rw [if_pos Ax]
  exact .inl (Oper.wp_mono (fun a' w' h' => ⟨h'.1, fT hsel hs hc hn hQ r _ a' w' (inv.set hr' hin) hB' h'.1 h'.2⟩) hK)
 | .b i j r u, listed, a, w, inv, hB, hS, h => by
  obtain ⟨⟨o, ho, hg, hK⟩, ⟨o2, ho2, hg2, hK2⟩⟩ := h
  simp only [pG, Bool.and_eq_true, decide_eq_true_eq] at hB
  obtain ⟨⟨⟨⟨⟨hin, hjn⟩, hlen⟩, hr⟩, hB1⟩, hB2⟩ := hB
  have hri : i ∈ Region.ready md ops listed := by rw [hr]; simp
  have hrj : j ∈ Region.ready md ops listed := by rw [hr]; simp
  refine ⟨by rw [hr]; simp, fun k hk => ?_⟩
  rw [hr] at hk
  have hk' : k = i ∨ k = j := by simpa using hk
  rcases hk' with e | e
  ·subst e
   refine ⟨hin, ?_⟩
   unfold wpOp
   simp only [ho]
   rw [if_pos Ax]
   exact .inl (Oper.wp_mono (fun a' w' h' => ⟨h'.1, fT hsel hs hc hn hQ r _ a' w' (inv.set hri hin) hB1 h'.1 h'.2⟩) hK)
  ·subst e
   refine ⟨hjn, ?_⟩
   unfold wpOp
   simp only [ho2]
   rw [if_pos (by simp [Region.wanted, hg2])]
   rw [hlen]
   exact .inl (Oper.wp_mono (fun a' w' h' => ⟨h'.1, fT hsel hs hc hn hQ u _ a' w' (inv.set hrj hjn) hB2 h'.1 h'.2⟩) hK2)
def i0e (ops : Array Oper) (n : Nat) (s : Sc) : Bool :=
 Region.noSelect ops && decide (n < ops.size) && decide (s.len = n) && Region.sinkB .any ops n && Region.chainB .any ops n && pG .any ops n (ops.size - n) s (Array.replicate ops.size false)
theorem vX {id : Nat} {a : Act} {w : World} {l : List Oper} (S : World → Prop) (n : Nat) (s : Sc) (hm : P.follows .mixedOrders = true) (hB : i0e l.toArray n s = true)
  (hS : S w.drew) (hQ : ∀ c (d : Option Tmp) v a w, Q (.panic c) (Act.put a d v) w → Q (.panic c) a w)
  (h : iQ P l.toArray Q S (l.drop n) s a w.drew) : (Code.region id l.toArray true).wp P Q a w := by
 simp only [i0e, Bool.and_eq_true, decide_eq_true_eq] at hB
 obtain ⟨⟨⟨⟨⟨hsel, hn⟩, hlen⟩, hs⟩, hc⟩, hseq⟩ := hB
 have inv0 : HeadInv .any l.toArray n (Array.replicate l.toArray.size false) :=
  ⟨by simp, fun j oj _ hl => (by rw [getD_replicate_false] at hl; cases hl), fun t _ ht => getD_in (by simpa using ht) (getD_replicate_false _ _)⟩
 have hdl : (l.drop n).length = l.toArray.size - n := by simp
 rw [← hdl] at hseq
 have H := fT (md := .any) (g := (l.drop n).length) (tl := l.drop n) hsel hs hc hn hQ s _ a w.drew inv0 hseq hS h
 refine wp_region_any hm ?_
 have := qM (md := .any) (n := n) (tl := l.drop n) (fun j => by simp [List.getElem?_drop]) _ _ _ _ H
 rw [hlen, hdl, show n + (l.toArray.size - n) = l.toArray.size by omega] at this
 exact this
variable {l tl : List Oper} {i j : Nat} {s u : Sc} {a : Act} {w : World} {o o2 : Oper}
theorem e0s (h : wpList P ops Q tl a w) : iQ P ops Q S tl .nil a w := h
theorem gL (ho : l[i]? = some o) (hg : o.guard = none) {v : Value} (hv : ∀ wx, S wx → (execOp a.eval o).run P wx = .ok (.value v) wx) (h : iQ P l.toArray Q S tl s (a.put o.dst v) w) : iQ P l.toArray Q S tl (.t i s) a w :=
 ⟨o, v, by simpa using ho, .inl ⟨by simp [Region.wanted, hg], hv⟩, h⟩
theorem sG (ho : l[i]? = some o) (hg : o.guard = none) (h : o.wp P a w (fun a' w' => S w' ∧ iQ P l.toArray Q S tl s a' w') Q) : iQ P l.toArray Q S tl (.r i s) a w :=
 ⟨o, by simpa using ho, hg, h⟩
theorem e0t (ho : l[i]? = some o) (hg : o.guard = none) {ty : TypeId} {x : Operand} (hop : o.op = .load ty x) {g p : Nat} (hx : a.eval x = .pointer (some ⟨g, p, none⟩)) (cs : List Value) (hS : ∀ wx, S wx → wx.rangeAt g p cs)
  {d : TypeDesc} (hu : P.underlying ty = some d) (hd : d.isRow = true) (hi : (P.info? ty).map (·.size) = some cs.length) (h : iQ P l.toArray Q S tl s (a.put o.dst (.agg cs.toArray)) w) : iQ P l.toArray Q S tl (.t i s) a w :=
 ⟨o, _, by simpa using ho, yieldsIf_load_mid Ax ty x hop g p hx cs d hS hu hd hi, h⟩
theorem i0f {C F : Nat → World → Prop} (ho : l[i]? = some o) (hg : o.guard = none) (ho2 : l[j]? = some o2) (hg2 : o2.guard = none)
  (h1 : (∀ g w', C g w' → F g w') → o.wp P a w (fun a' w' => S w' ∧ iQ P l.toArray Q S tl s a' w') Q)
  (h2 : (∀ g w', C g w' → F g w') → o2.wp P a w (fun a' w' => S w' ∧ iQ P l.toArray Q S tl u a' w') Q)
  (h : ∀ g w', C g w' → F g w') : iQ P l.toArray Q S tl (.b i j s u) a w :=
 ⟨⟨o, by simpa using ho, hg, h1 h⟩, ⟨o2, by simpa using ho2, hg2, h2 h⟩⟩
end
section
variable {P : Program} {w w0 : World} {o : Oper} {a : Act} {K : Act → World → Prop} {Q : Exit → Act → World → Prop} {S : Nat → Prop} {bl : List (Nat × List Value × TypeId)}
theorem cH (hst : St S w0 w bl) {e : TypeId} (ho : o.op = .alloc e) {z : Value} (hi : (P.info? e).map (·.zero) = some (some z)) (L : List Value) (hL : z.cells.toList = L)
  (h : ∀ g w', St S w0 w' (bl ++ [(g, L, e)]) → K (a.put o.dst (.pointer (some ⟨g, 0, none⟩))) w') : o.wp P a w K Q := by
 obtain ⟨i, hi1, hz⟩ : ∃ i, P.info? e = some i ∧ i.zero = some z := by simpa using hi
 have hr : (Instr.alloc e true (.tuple #[])).run P w = .ok (.pointer (some ⟨w.heap.size, 0, none⟩)) (w.alloc (.cells z.cells e)) := by
  simp [Instr.alloc, zeroValue, typeInfo, hi1, hz, newVar, newRow]
 unfold Oper.wp execOp
 simp only [ho, Sem.run_bind, Sem.run_pure, Result.andThen_ok, hr]
 have hg := Has.new w z.cells e
 rw [hL] at hg
 exact h _ _ (hst.new ((Fr.refl _ w).alloc _) hg (Nat.le_refl _))
theorem aG (hst : St S w0 w bl) (i : Nat) {g : Nat} {L : List Value} {T : TypeId} (hb : bl[i]? = some (g, L, T)) {ty : TypeId} {x y : Operand} (ho : o.op = .store ty x y) (hx : a.eval x = .pointer (some ⟨g, 0, none⟩)) {cs : List Value} (hy : a.eval y = .agg cs.toArray)
  (hn : cs.length = L.length) (hi : (P.info? ty).map (·.size) = some cs.length) (h1 : ∀ v ∈ cs, v.oneCell' = true)
  (h : ∀ w', St S w0 w' (bl.set i (g, cs, T)) → K (a.put o.dst undef) w') : o.wp P a w K Q := by
 obtain ⟨k1, k2, _⟩ := Has.setCells cs 0 L w (hst.at i hb) Ab
 rw [gC _ _ hn] at k1
 exact wp_store_mid ty x y ho g 0 cs.toArray hx hy (by simpa using (hst.at i hb).there 0 cs.length Ab) (by simpa using hi) (all_oneCell_toArray h1) (by simpa using h _ (hst.put i hb k2 k1))
end
end Go.Mv
namespace Go.Proofs.YtemcankmggmgoaaGreat
open Go.RowKit Go.Mv Mvp
attribute [local irreducible] bI lw mix cw cT dG cS bQ aO beN dO cI dI bM bT
theorem _root_.Bn {p : Prop} (h : p := by have := HOK.out.one; omega) : p := h
theorem _root_.Bc {p : Prop} (h : p := by rw [aT]; decide) : p := h
theorem _root_.Ai {p : Prop} (h : p := by simp [aT]) : p := h
theorem sH (m : Md) (gp a b : Nat) (w : World) (hok : m.Ok) (hpm : Has w gp (mdL m) 187) (ha : a < B64 ^ 4) (hb : b < m.M) :
  Calls prog 152 #[.pointer (some ⟨gp, 0, none⟩), i4 a, i4 b] w fun e w' => e = .returned (i4 (a * b * m.Ri % m.M)) ∧ Fr Nob w w' := by
 have HOK := qH hok
 have HPM := qH hpm
 have HA := qH ha
 have HB := qH hb
 clear hok hpm ha hb
 have st0 := St.start Nob w
 go_enter func152, ntmps152
 go_wp2_with (with_reducible refine AA 4 ?_)
 refine aL st0 rfl rfl rfl (cw 4 a) rfl ?_
 intro g4 w1 st1
 clear st0
 go_wp2_with (with_reducible refine AA 5 ?_)
 refine aL st1 rfl rfl rfl (cw 4 b) rfl ?_
 intro g5 w2 st2
 clear st1
 go_wp2_with (with_reducible refine AA 6 ?_)
 refine aA st2 rfl rfl (z := zAd) Aa (cw 4 0) Af ?_
 intro g6 w3 st3
 clear st2
 go_wp2_with (with_reducible refine AA 7 ?_)
 refine aA st3 rfl rfl (z := .agg #[.int .u64 0, .int .u64 0, .int .u64 0, .int .u64 0, .int .u64 0, .int .u64 0]) Aa (cw 6 0) Af ?_
 intro g7 w4 st4
 clear st3
 go_wp2_with (with_reducible refine AA 14 ?_)
 refine aI st4 0 rfl rfl rfl underlying66 rfl Ag ?_
 go_wp2
 go_loopw [15] (fun i wr => ∃ k : Nat, k ≤ 4 ∧ i = .int .i64 (k : Int) ∧ St Nob w wr [(g4, cw 4 a, 66), (g5, cw 4 b, 66), (g6, cw 4 0, 66), (g7, cw 6 (bM m.M m.neg b a k), 222)]) (fun i _ => 4 - (intOf i).toNat)
 case atStart => exact ⟨0, by omega, rfl, by rw [f0T]; exact st4⟩
 case round =>
  obtain ⟨k, hk, rfl, st⟩ := hrel
  clear st4
  by_cases hlt : k < 4
  ·have hltI : (k : Int) < 4 := by omega
   have e0 := fun wx => mH (P := prog) underlying66 underlying58 iA a k hlt .i64 wx
   have hTl := e0c m.M m.neg b a k Bn
   obtain ⟨b1, b2, b3, b4⟩ := c0Q (bM m.M m.neg b a k) b m.M (lw a k) (bM m.M m.neg b a k + lw a k * b) ((bM m.M m.neg b a k + lw a k * b) % 18446744073709551616 * m.neg % 18446744073709551616) HB.out HOK.out.lt hTl (gO a k) rfl (Nat.mod_lt _ Ac)
   have hsucc : bM m.M m.neg b a (k + 1) = (bM m.M m.neg b a k + lw a k * b + ((bM m.M m.neg b a k + lw a k * b) % 18446744073709551616 * m.neg % 18446744073709551616) * m.M) / 18446744073709551616 := f0U m.M m.neg b a k
   generalize hT : bM m.M m.neg b a k = T at *
   generalize hT' : bM m.M m.neg b a (k + 1) = T' at *
   have hx := gO a k
   obtain ⟨l1, l2, l3⟩ := e0b T (lw a k) b (Nat.lt_trans HB.out HOK.out.lt) b2 (Nat.lt_trans b1 Ac)
   have z5 : lw T 5 = 0 := iP T 5 5 b1 (Nat.le_refl _)
   rw [z5, Nat.zero_add] at l2
   have hline := fun wx (h : Has wx g7 (cw 6 T) 222) => e0h g7 T (lw a k) b (lw T 4) 222 wx h hx (gO T 4)
   rw [l1, l2] at hline
   generalize hxx : lw a k = x at *
   generalize hV : T + x * b = V at *
   have hw0 := f0Q V
   generalize hmm : V % 18446744073709551616 * m.neg % 18446744073709551616 = mm at *
   have hm64 : mm < 18446744073709551616 := by rw [← hmm]; exact Nat.mod_lt _ Ac
   have hmul : IntKind.u64.wrap ((lw V 0 : Int) * (m.neg : Int)) = (mm : Int) := by
    rw [IntKind.wrap_u64, ← hmm, hw0, ← Int.natCast_mul]; rfl
   have hlt2 := fun wx (h : Has wx g7 (cw 6 V) 222) => c0T g7 V mm m.M wx h hm64 HOK.out.lt b4 b3
   generalize hV2 : V + mm * m.M = V2 at *
   have hshift := q0s V2 b4
   rw [← hsucc] at hshift
   have HLINE := qH hline
   have HLT2 := qH hlt2
   have HSHIFT := qH hshift
   have HT := qH hT
   have HT' := qH hT'
   clear hTl b1 b2 b3 b4 hsucc l1 l2 l3 z5 hline hV hw0 hmm hm64 hlt2 hV2 hshift hT hT' hx hxx
   have ct := (st.at 3 rfl).cell (bL 6 T 4 Ac)
   go_wp2_with (with_reducible refine AA 20 ?_)
   refine aI st 1 rfl rfl rfl underlying66 rfl Ag ?_
   go_wp2_with fail
   refine (HLINE.out _ (st.at 3 rfl)).mono ?_
   rintro e' w5 ⟨rfl, hg5, hf5⟩
   have st5 : St Nob w w5 [(g4, cw 4 a, 66), (g5, cw 4 b, 66), (g6, cw 4 0, 66), (g7, cw 6 (mix V T 4), 222)] := st.put 3 rfl hf5 hg5
   clear st hf5 hg5
   clear ct
   obtain ⟨v4, c4, f4⟩ := (st5.at 3 rfl).ready (i := 4) Bc
   obtain ⟨v5, c5, f5⟩ := (st5.at 3 rfl).ready (i := 5) Bc
   go_wp2_with fail
   have stA := (st5.set 3 rfl 4 (.int .u64 (lw V 4 : Nat))).set 3 rfl 5 (.int .u64 (lw V 5 : Nat))
   have hcw : ((cw 6 (mix V T 4)).set 4 (.int .u64 (lw V 4 : Nat))).set 5 (.int .u64 (lw V 5 : Nat)) = cw 6 V := by rw [jX 6 V T 4 Ac, jX 6 V T 5 Ac, sD]
   rw [hcw] at stA
   clear hcw c4 c5 f4 f5 v4 v5 st5
   generalize (World.setCell (World.setCell w5 ⟨g7, 4, none⟩ (.int .u64 (lw V 4 : Nat))) ⟨g7, 5, none⟩ (.int .u64 (lw V 5 : Nat))) = wA at *
   have stA : St Nob w wA [(g4, cw 4 a, 66), (g5, cw 4 b, 66), (g6, cw 4 0, 66), (g7, cw 6 V, 222)] := stA
   have cv := (stA.at 3 rfl).cell (bL 6 V 0 Ac)
   have cn := (HPM.out.keep stA.fr id).cell (q0r m)
   go_quiet (fail)
   have stB := stA.drewN nq
   clear stA cv cn
   go_wp2_with (with_reducible refine AA 40 ?_)
   refine fA rfl rfl underlying111 rfl (HPM.out.keep stB.fr id) (cw 4 m.M) (c0o m) Ag ?_
   go_wp2_with fail
   refine (HLT2.out _ (stB.at 3 rfl)).mono ?_
   rintro e' w7 ⟨rfl, hg7, hf7⟩
   have st7 : St Nob w w7 [(g4, cw 4 a, 66), (g5, cw 4 b, 66), (g6, cw 4 0, 66), (g7, cw 6 (mix V2 V 4), 222)] := stB.put 3 rfl hf7 hg7
   clear stB hf7 hg7
   obtain ⟨v4, c4, f4⟩ := (st7.at 3 rfl).ready (i := 4) Bc
   obtain ⟨v5, c5, f5⟩ := (st7.at 3 rfl).ready (i := 5) Bc
   go_wp2_with fail
   have stC := (st7.set 3 rfl 4 (.int .u64 (lw V2 4 : Nat))).set 3 rfl 5 (.int .u64 (lw V2 5 : Nat))
   have hcw : ((cw 6 (mix V2 V 4)).set 4 (.int .u64 (lw V2 4 : Nat))).set 5 (.int .u64 (lw V2 5 : Nat)) = cw 6 V2 := by rw [jX 6 V2 V 4 Ac, jX 6 V2 V 5 Ac, sD]
   rw [hcw] at stC
   clear hcw c4 c5 f4 f5 v4 v5 st7
   generalize (World.setCell (World.setCell w7 ⟨g7, 4, none⟩ (.int .u64 (lw V2 4 : Nat))) ⟨g7, 5, none⟩ (.int .u64 (lw V2 5 : Nat))) = wC at *
   have stC : St Nob w wC [(g4, cw 4 a, 66), (g5, cw 4 b, 66), (g6, cw 4 0, 66), (g7, cw 6 V2, 222)] := stC
   have k1 := fun wx => lB (P := prog) wx underlying222 iA g7 0 .i64 5 Ac
   have k2 := fun wx => oS (P := prog) wx underlying222 iA g7 0 .i64 1 Ac
   refine wp_region_noPanic ?_
   refine fJ (fun wx => St Nob w wx [(g4, cw 4 a, 66), (g5, cw 4 b, 66), (g6, cw 4 0, 66), (g7, cw 6 V2, 222)]) 2 [(0, true), (1, true)] Aa Aa stC.drew (fun _ _ _ _ _ h => h) ?_
   have stD := stC.drew
   clear stC
   refine bK (v := ?_) rfl rfl (fun wx hS => ?_) ?_
   rotate_left 1
   ·(clear hS; go_simp; with_reducible rfl)
   try simp only [J]
   refine bK (v := ?_) rfl rfl (fun wx hS => ?_) ?_
   rotate_left 1
   ·(clear hS; go_simp; with_reducible rfl)
   try simp only [J]
   refine qO ?_
   try simp only [List.drop_succ_cons, List.drop_zero]
   refine g0X rfl rfl underlying226 iA rfl rfl (stD.at 3 rfl) (Rd.ofHas (stD.at 3 rfl) 1 (n := 5) Bc) (fun v hv => aF _ _ v (List.mem_of_mem_drop (List.mem_of_mem_take hv))) Bc ?_
   intro wE hgE hfE hzE
   clear hzE
   have stE := stD.put 3 rfl hfE hgE
   clear stD hgE hfE
   obtain ⟨v5, c5, f5⟩ := (stE.at 3 rfl).ready (i := 5) (by rw [oI _ _ _ Ai]; rw [aT]; decide)
   go_wp2_with fail
   refine NoPanic.normal ?_
   clear k1 k2
   go_wp2_with fail
   have stF := stE.set 3 rfl 5 (.int .u64 0)
   clear stE c5 f5
   go_roundw
   case rel =>
    refine ⟨k + 1, by omega, by go_num, ?_⟩
    rw [HT'.out]
    have hh := stF
    have h6 := HSHIFT.out
    simp only [List.set_cons_succ, List.set_cons_zero] at hh
    rw [show min 5 5 = 5 from rfl, List.take_take, show min 5 5 = 5 from rfl, h6] at hh
    exact hh
   case measure => simp [intOf]; omega
  ·have hge : ¬ ((k : Int) < 4) := by omega
   have hk4 : k = 4 := by omega
   subst hk4
   have k4 : ∀ wx, (Instr.arrayAt 111 (.slice (some ⟨g7, 0, none⟩) 4 6)).run prog wx = .ok (.pointer (some ⟨g7, 0, none⟩)) wx := fun wx => by simp [Instr.arrayAt, run_underlying underlying111]
   have k3 := fun wx => lB (P := prog) wx underlying222 iA g7 0 .i64 4 Ac
   have hTl := e0c m.M m.neg b a 4 Bn
   have hval := f0R m.M m.neg m.Ri a b Bn HA.out HOK.out.neg (by rw [HOK.out.inv, Nat.mod_eq_of_lt HOK.out.one])
   generalize hT : bM m.M m.neg b a 4 = T at *
   have HT := qH hT; clear hT
   have HTL := qH hTl; clear hTl
   have HVAL := qH hval; clear hval
   go_wp2_with (with_reducible refine AA 53 ?_)
   refine fA rfl rfl underlying111 rfl (st.at 3 rfl) (cw 4 T) (o0i T) Ca ?_
   clear k3 k4
   go_wp2_with (with_reducible refine AA 11 ?_)
   refine aA st rfl rfl (z := zAd) Aa (cw 4 0) Af ?_
   intro g11 w5 st5
   clear st
   go_wp2_with (with_reducible refine AB ?_)
   refine aB st5 4 rfl rfl rfl rfl rfl Ah Ag (aF _ _) ?_
   intro w6 st6
   clear st5
   go_wp2_with fail
   refine wp_region_noPanic ?_
   refine vX (fun wx => St Nob w wx [(g4, cw 4 a, 66), (g5, cw 4 b, 66), (g6, cw 4 0, 66), (g7, cw 6 T, 222), (g11, cw 4 T, 111)]) 11 (.t 0 (.t 1 (.t 2 (.t 3 (.t 4 (.b 5 9 (.t 6 (.t 7 (.t 8 (.r 9 (.r 10 .nil))))) (.r 5 (.t 6 (.t 7 (.t 8 (.r 10 .nil))))))))))) Aa Aa st6.drew (fun _ _ _ _ _ h => h) ?_
   have hd6 := st6.drew
   clear st6
   refine e0t rfl rfl rfl rfl (cw 4 T) (fun wx hS => St.rangeL hS 4 rfl 0 _ dZl) underlying111 rfl Ag ?_
   try simp only [J]
   refine gL (v := ?_) rfl rfl (fun wx hS => ?_) ?_
   rotate_left 1
   ·(clear hS; go_simp; with_reducible rfl)
   try simp only [J]
   refine gL (v := ?_) rfl rfl (fun wx hS => ?_) ?_
   rotate_left 1
   ·(clear hS; go_simp; with_reducible rfl)
   try simp only [J]
   refine gL (v := ?_) rfl rfl (fun wx hS => ?_) ?_
   rotate_left 1
   ·(clear hS; go_simp; with_reducible rfl)
   try simp only [J]
   refine e0t rfl rfl rfl rfl (cw 4 m.M) (fun wx hS => (HPM.out.keep (St.fr hS) id).range 0 _ (c0o m)) underlying111 rfl Ag ?_
   try simp only [J]
   refine i0f (C := fun g12 wz => St Nob w wz [(g4, cw 4 a, 66), (g5, cw 4 b, 66), (g6, cw 4 0, 66), (g7, cw 6 T, 222), (g11, cw 4 T, 111), (g12, cw 4 (T + B64 ^ 4 - m.M), 111)]) (F := ?_) rfl rfl rfl rfl (fun key => ?_) (fun key => ?_) ?_
   rotate_left 1
   ·skip
    go_simp
    refine (jH T m.M _ HOK.out.lt).mono ?_
    rintro e' w7 ⟨rfl, hf7⟩
    have st7 := hd6.keep hf7
    clear hf7
    refine ⟨st7, ?_⟩
    try simp only [J]
    refine gL (v := ?_) rfl rfl (fun wx hS => ?_) ?_
    rotate_left 1
    ·(clear hS; go_simp; with_reducible rfl)
    try simp only [J]
    refine gL (v := ?_) rfl rfl (fun wx hS => ?_) ?_
    rotate_left 1
    ·(clear hS; go_simp; with_reducible rfl)
    try simp only [J]
    refine gL (v := ?_) rfl rfl (fun wx hS => ?_) ?_
    rotate_left 1
    ·(clear hS; go_simp; with_reducible rfl)
    try simp only [J]
    refine sG rfl rfl ?_
    refine cH st7 rfl (z := zAd) Aa (cw 4 0) Af ?_
    intro g12 w8 st8
    refine ⟨St.less st8 Ae, ?_⟩
    try simp only [J]
    refine sG rfl rfl ?_
    refine aG st8 5 rfl rfl rfl rfl Ah Ag (aF _ _) ?_
    intro w9 st9
    refine ⟨St.less st9 Ae, ?_⟩
    try simp only [Act.put]
    refine e0s ?_
    try simp only [List.drop_succ_cons, List.drop_zero]
    go_wp2_with fail
    exact key g12 w9 st9
   ·skip
    refine cH hd6 rfl (z := zAd) Aa (cw 4 0) Af ?_
    intro g12 w10 st10
    refine ⟨St.less st10 Ae, ?_⟩
    try simp only [J]
    refine sG rfl rfl ?_
    go_simp
    refine (jH T m.M _ HOK.out.lt).mono ?_
    rintro e' w11 ⟨rfl, hf11⟩
    have st11 := st10.keep hf11
    clear hf11
    refine ⟨St.less st11 Ae, ?_⟩
    try simp only [J]
    refine gL (v := ?_) rfl rfl (fun wx hS => ?_) ?_
    rotate_left 1
    ·(clear hS; go_simp; with_reducible rfl)
    try simp only [J]
    refine gL (v := ?_) rfl rfl (fun wx hS => ?_) ?_
    rotate_left 1
    ·(clear hS; go_simp; with_reducible rfl)
    try simp only [J]
    refine gL (v := ?_) rfl rfl (fun wx hS => ?_) ?_
    rotate_left 1
    ·(clear hS; go_simp; with_reducible rfl)
    try simp only [J]
    refine sG rfl rfl ?_
    refine aG st11 5 rfl rfl rfl rfl Ah Ag (aF _ _) ?_
    intro w12 st12
    refine ⟨St.less st12 Ae, ?_⟩
    try simp only [Act.put]
    refine e0s ?_
    try simp only [List.drop_succ_cons, List.drop_zero]
    go_wp2_with fail
    exact key g12 w12 st12
   intro g12 w13 st13
   have st13 : St Nob w w13 [(g4, cw 4 a, 66), (g5, cw 4 b, 66), (g6, cw 4 0, 66), (g7, cw 6 T, 222), (g11, cw 4 T, 111), (g12, cw 4 (T + B64 ^ 4 - m.M), 111)] := st13
   clear hd6
   refine NoPanic.normal ?_
   have c4 := (st13.at 3 rfl).cell (bL 6 T 4 Ac)
   have hfin := wZ T m.M HOK.out.lt (by have := HTL.out; have := HB.out; omega)
   by_cases hlt2 : T < m.M
   ·obtain ⟨f1, f2, f3⟩ := hfin.1 hlt2
    rw [f1] at c4
    rw [f2]
    have HF := qH f3
    clear hfin f1 f2 f3 hlt2
    go_wp2_with (with_reducible refine AA 70 ?_)
    refine aI st13 4 rfl rfl rfl underlying111 rfl Ag ?_
    go_wp2_with (with_reducible refine AB ?_)
    refine aB st13 2 rfl rfl rfl rfl rfl Ah Ag (aF _ _) ?_
    intro w14 st14
    clear st13
    have hr := st14.at 2 rfl
    have hfr := st14.fr
    clear st14
    go_wp2_with fail
    exact bodyPost_ret (aX rfl rfl hr underlying66 Ag) rfl ⟨by rw [← HVAL.out]; unfold i4; rw [HF.out], hfr⟩
   ·obtain ⟨f3, f4⟩ := hfin.2 hlt2
    have HF := qH f3
    by_cases hlt3 : T < B64 ^ 4
    ·obtain ⟨f1, f2⟩ := f4 hlt3
     rw [f1] at c4
     rw [f2]
     clear hfin f1 f2 f3 f4 hlt2 hlt3
     go_wp2_with (with_reducible refine AA 71 ?_)
     refine aI st13 5 rfl rfl rfl underlying111 rfl Ag ?_
     go_wp2_with (with_reducible refine AB ?_)
     refine aB st13 2 rfl rfl rfl rfl rfl Ah Ag (aF _ _) ?_
     intro w14 st14
     clear st13
     have hr := st14.at 2 rfl
     have hfr := st14.fr
     clear st14
     go_wp2_with fail
     exact bodyPost_ret (aX rfl rfl hr underlying66 Ag) rfl ⟨by rw [← HVAL.out]; unfold i4; rw [HF.out], hfr⟩
    ·have f1 := h0V T (by have := HTL.out; have := HB.out; have := HOK.out.lt; omega) hlt3
     rw [f1] at c4
     clear hfin f1 f3 f4 hlt2 hlt3
     go_wp2_with (with_reducible refine AA 71 ?_)
     refine aI st13 5 rfl rfl rfl underlying111 rfl Ag ?_
     go_wp2_with (with_reducible refine AB ?_)
     refine aB st13 2 rfl rfl rfl rfl rfl Ah Ag (aF _ _) ?_
     intro w14 st14
     clear st13
     have hr := st14.at 2 rfl
     have hfr := st14.fr
     clear st14
     go_wp2_with fail
     exact bodyPost_ret (aX rfl rfl hr underlying66 Ag) rfl ⟨by rw [← HVAL.out]; unfold i4; rw [HF.out], hfr⟩
end Go.Proofs.YtemcankmggmgoaaGreat
