/- ; ; ; ; ; ; ; ; ; ; ; ; ; ; . -/
import Derived.OrdersHeld
import Derived.StillTail
import Derived.Deep.MidRow
import Derived.Deep.RegionHeld3
import Derived.Test.YtemcankmggmgoaaGreatMgBlindTrueProof2
import Derived.Test.YtemcankmggmgoaaGreatMgBlindTrueProof1
import Derived.StillTailTactics
set_option maxHeartbeats 16000000
set_option maxRecDepth 1000000

namespace Go.Mv
open Go.RowKit
section
variable {P : Program} {ops : Array Oper} {md : Region.Mode} {Q : Exit → Act → World → Prop} {S : World → Prop}
def j0V (P : Program) (md : Region.Mode) (ops : Array Oper) (Q : Exit → Act → World → Prop) (S : World → Prop) (n g : Nat) (tl : List Oper) : Nat → Array Bool → Act → World → Prop
 | 0, listed, a, w => Region.seqB md ops g n listed = true ∧ wpList P ops Q tl a w
 | f + 1, listed, a, w =>
  Region.ready md ops listed ≠ [] ∧ ∀ i ∈ Region.ready md ops listed, i < n ∧ wpOp P ops Q i (fun a' w' => S w' ∧ j0V P md ops Q S n g tl f (listed.setIfInBounds i true) a' w') a w
theorem g0Z {n : Nat} {tl : List Oper} (hl : ∀ j, tl[j]? = ops[n + j]?) : ∀ (f : Nat) (listed : Array Bool) (a : Act) (w : World), j0V P md ops Q S n tl.length tl f listed a w → wpAny P md ops Q (f + tl.length) listed a w
 | 0, listed, a, w, h => by rw [Nat.zero_add]; exact wpAny_of_seq tl n listed a w hl h.1 h.2
 | f + 1, listed, a, w, h => by
  rw [show f + 1 + tl.length = (f + tl.length) + 1 by omega]
  exact ⟨fun h0 => absurd h0 h.1, fun i hi => wpOp_mono (fun a' w' h' => g0Z hl f _ a' w' h'.2) (h.2 i hi).2⟩
theorem h0w {n g i : Nat} {oi : Oper} {v : Value} {tl : List Oper} (hi : ops[i]? = some oi) (hsel : ∀ (j : Nat) (o : Oper) cs b, ops[j]? = some o → o.op ≠ .select cs b)
  (hQ : ∀ c a w, Q (.panic c) (a.put oi.dst v) w → Q (.panic c) a w)
  (hs : Region.sinkB md ops n = true) (hc : Region.chainB md ops n = true) (hn : n < ops.size) (hin : i < n) :
  ∀ (f : Nat) (listed : Array Bool) (a : Act) (w : World), HeadInv md ops n listed →
   (∀ j oj, ops[j]? = some oj → j ≠ i → listed.getD j true = false → (∀ e ∈ oj.after, Region.binds md e = true → e.on ≠ i) → oi.apart ops oj = true) →
   i ∈ Region.ready md ops listed → YieldsIf P ops S oi v a → S w →
   j0V P md ops Q S n g tl f (listed.setIfInBounds i true) (a.put oi.dst v) w → j0V P md ops Q S n g tl (f + 1) listed a w := by
 intro f
 induction f with
 | zero =>
  intro listed a w inv _ hr hy hS H
  have hun := (mem_ready.1 hr).1
  refine ⟨fun h => (by rw [h] at hr; cases hr), fun j hj => ?_⟩
  have hjn : j < n := by
   rcases Nat.lt_or_ge j n with h | h
   ·exact h
   ·exact absurd hj (tail_waits hs hc hn inv _ i rfl hin hun j h)
  refine ⟨hjn, ?_⟩
  by_cases hji : j = i
  ·subst hji; exact hy.wpOp hi hS ⟨hS, H⟩
  ·have := seqB_ready H.1 j (ready_mono hj hji)
   omega
 | succ f ih =>
  intro listed a w inv hfree hr hy hS H
  have hun := (mem_ready.1 hr).1
  refine ⟨fun h => (by rw [h] at hr; cases hr), fun j hj => ?_⟩
  have hjn : j < n := by
   rcases Nat.lt_or_ge j n with h | h
   ·exact h
   ·exact absurd hj (tail_waits hs hc hn inv _ i rfl hin hun j h)
  refine ⟨hjn, ?_⟩
  by_cases hji : j = i
  ·subst hji; exact hy.wpOp hi hS ⟨hS, H⟩
  ·have h1 := (H.2 j (ready_mono hj hji)).2
   obtain ⟨hjun, oj, hoj, hall⟩ := mem_ready.1 hj
   have hnot : ∀ e ∈ oj.after, Region.binds md e = true → e.on ≠ i := fun e he hb heq => by
    have h1 := hall e he hb
    rw [heq, getD_both hun] at h1
    cases h1
   have h2 := wpOp_putIf hoj (hfree j oj hoj hji hjun hnot) (fun cs b => hsel i oi cs b hi) (fun cs b => hsel j oj cs b hoj) hQ hy h1
   have hfree' : ∀ k ok, ops[k]? = some ok → k ≠ i → (listed.setIfInBounds j true).getD k true = false →
     (∀ e ∈ ok.after, Region.binds md e = true → e.on ≠ i) → oi.apart ops ok = true := fun k ok hk hki hun hno => by
    refine hfree k ok hk hki ?_ hno
    by_cases hjk : j = k
    ·subst hjk; exact hjun
    ·rw [getD_set_ne true hjk] at hun; exact hun
   refine wpOp_mono (fun a' w' h3 => ⟨h3.2.1, ih (listed.setIfInBounds j true) a' w' (inv.set hj hjn) hfree' (ready_mono hr (Ne.symm hji)) h3.1 h3.2.1 ?_⟩) h2
   rw [Array.setIfInBounds_comm _ _ hji]
   exact h3.2.2
def i0J (P : Program) (ops : Array Oper) (Q : Exit → Act → World → Prop) (S : World → Prop) (tl : List Oper) : List (Nat × Bool) → Act → World → Prop
 | [], a, w => wpList P ops Q tl a w
 | (i, true) :: r, a, w => ∃ o v, ops[i]? = some o ∧ YieldsIf P ops S o v a ∧ i0J P ops Q S tl r (a.put o.dst v) w
 | (i, false) :: r, a, w => ∃ o, ops[i]? = some o ∧ o.guard = none ∧ o.wp P a w (fun a' w' => S w' ∧ i0J P ops Q S tl r a' w') Q
def r0q (md : Region.Mode) (ops : Array Oper) (n g : Nat) : List (Nat × Bool) → Array Bool → Bool
 | [], listed => Region.seqB md ops g n listed
 | (i, true) :: r, listed => decide (i < n) && (Region.ready md ops listed).contains i && Region.free md ops listed i && r0q md ops n g r (listed.setIfInBounds i true)
 | (i, false) :: r, listed => decide (i < n) && decide (Region.ready md ops listed = [i]) && r0q md ops n g r (listed.setIfInBounds i true)
theorem e0G {n g : Nat} {tl : List Oper} (hsel : Region.noSelect ops = true) (hs : Region.sinkB md ops n = true) (hc : Region.chainB md ops n = true) (hn : n < ops.size)
  (hQ : ∀ c (d : Option Tmp) v a w, Q (.panic c) (Act.put a d v) w → Q (.panic c) a w) :
  ∀ (s : List (Nat × Bool)) (listed : Array Bool) (a : Act) (w : World), HeadInv md ops n listed → r0q md ops n g s listed = true → S w → i0J P ops Q S tl s a w → j0V P md ops Q S n g tl s.length listed a w
 | [], listed, a, w, _, hB, _, h => ⟨hB, h⟩
 | (i, true) :: r, listed, a, w, inv, hB, hS, h => by
  obtain ⟨o, v, ho, hy, hK⟩ := h
  simp only [r0q, Bool.and_eq_true, decide_eq_true_eq] at hB
  obtain ⟨⟨⟨hin, hr⟩, hf⟩, hB'⟩ := hB
  have hr' : i ∈ Region.ready md ops listed := by simpa using hr
  exact h0w ho (Region.noSelect_spec hsel) (fun c a w => hQ c o.dst v a w) hs hc hn hin r.length listed a w inv (Region.free_spec ho hf) hr' hy hS
   (e0G hsel hs hc hn hQ r _ _ w (inv.set hr' hin) hB' hS hK)
 | (i, false) :: r, listed, a, w, inv, hB, hS, h => by
  obtain ⟨o, ho, hg, hK⟩ := h
  simp only [r0q, Bool.and_eq_true, decide_eq_true_eq] at hB
  obtain ⟨⟨hin, hr⟩, hB'⟩ := hB
  have hr' : i ∈ Region.ready md ops listed := by rw [hr]; simp
  refine ⟨by rw [hr]; simp, fun j hj => ?_⟩
  rw [hr] at hj
  have hj' : j = i := by simpa using hj
  subst hj'
  refine ⟨hin, ?_⟩
  unfold wpOp
  simp only [ho]
  rw [if_pos (by simp [Region.wanted, hg])]
  exact .inl (Oper.wp_mono (fun a' w' h' => ⟨h'.1, e0G hsel hs hc hn hQ r _ a' w' (inv.set hr' hin) hB' h'.1 h'.2⟩) hK)
def y0H (ops : Array Oper) (n : Nat) (s : List (Nat × Bool)) : Bool :=
 Region.noSelect ops && decide (n < ops.size) && decide (s.length = n) && Region.sinkB .any ops n && Region.chainB .any ops n && r0q .any ops n (ops.size - n) s (Array.replicate ops.size false)
theorem c0M {id : Nat} {a : Act} {w : World} {l : List Oper} (S : World → Prop) (n : Nat) (s : List (Nat × Bool)) (hm : P.follows .mixedOrders = true) (hB : y0H l.toArray n s = true)
  (hS : S w.drew) (hQ : ∀ c (d : Option Tmp) v a w, Q (.panic c) (Act.put a d v) w → Q (.panic c) a w)
  (h : i0J P l.toArray Q S (l.drop n) s a w.drew) : (Code.region id l.toArray true).wp P Q a w := by
 simp only [y0H, Bool.and_eq_true, decide_eq_true_eq] at hB
 obtain ⟨⟨⟨⟨⟨hsel, hn⟩, hlen⟩, hs⟩, hc⟩, hseq⟩ := hB
 have inv0 : HeadInv .any l.toArray n (Array.replicate l.toArray.size false) :=
  ⟨by simp, fun j oj _ hl => (by rw [getD_replicate_false] at hl; cases hl), fun t _ ht => getD_in (by simpa using ht) (getD_replicate_false _ _)⟩
 have hdl : (l.drop n).length = l.toArray.size - n := by simp
 rw [← hdl] at hseq
 have H := e0G (md := .any) (g := (l.drop n).length) (tl := l.drop n) hsel hs hc hn hQ s _ a w.drew inv0 hseq hS h
 refine wp_region_any hm ?_
 have := g0Z (md := .any) (n := n) (tl := l.drop n) (fun j => by simp [List.getElem?_drop]) _ _ _ _ H
 rw [hlen, hdl, show n + (l.toArray.size - n) = l.toArray.size by omega] at this
 exact this
variable {l tl : List Oper} {i : Nat} {r : List (Nat × Bool)} {a : Act} {w : World} {o : Oper}
theorem i0K (h : wpList P ops Q tl a w) : i0J P ops Q S tl [] a w := h
theorem a0N (ho : l[i]? = some o) (hg : o.guard = none) {v : Value} (hv : ∀ wx, S wx → (execOp a.eval o).run P wx = .ok (.value v) wx) (h : i0J P l.toArray Q S tl r (a.put o.dst v) w) : i0J P l.toArray Q S tl ((i, true) :: r) a w :=
 ⟨o, v, by simpa using ho, .inl ⟨by simp [Region.wanted, hg], hv⟩, h⟩
theorem f0b (ho : l[i]? = some o) (hg : o.guard = none) (h : o.wp P a w (fun a' w' => S w' ∧ i0J P l.toArray Q S tl r a' w') Q) : i0J P l.toArray Q S tl ((i, false) :: r) a w :=
 ⟨o, by simpa using ho, hg, h⟩
theorem e0H (ho : l[i]? = some o) (hg : o.guard = none) {ty : TypeId} {x : Operand} (hop : o.op = .load ty x) {g p : Nat} (hx : a.eval x = .pointer (some ⟨g, p, none⟩)) (cs : List Value) (hS : ∀ wx, S wx → wx.rangeAt g p cs)
  {d : TypeDesc} (hu : P.underlying ty = some d) (hd : d.isRow = true) (hi : (P.info? ty).map (·.size) = some cs.length) (h : i0J P l.toArray Q S tl r (a.put o.dst (.agg cs.toArray)) w) : i0J P l.toArray Q S tl ((i, true) :: r) a w :=
 ⟨o, _, by simpa using ho, yieldsIf_load_mid (by simp [Region.wanted, hg]) ty x hop g p hx cs d hS hu hd hi, h⟩
end
theorem St.rangeL {S : Nat → Prop} {w0 w : World} {bl : List (Nat × List Value × TypeId)} (h : St S w0 w bl) (i : Nat) {g : Nat} {L : List Value} {T : TypeId} (hb : bl[i]? = some (g, L, T)) (o : Nat) (cs : List Value) (hcs : (L.drop o).take cs.length = cs) : w.rangeAt g o cs := (h.at i hb).range o cs hcs
end Go.Mv
theorem clL : (∀ (a : Go.Act) (d : Nat) (v : Go.Value), a.put (some d) v = { a with tmps := a.tmps.setIfInBounds d v }) ∧ (∀ (a : Go.Act) (v : Go.Value), a.put none v = a) ∧ (∀ (l : List Go.Value) (i : Nat) (x : Go.Value), l.toArray.setIfInBounds i x = (l.set i x).toArray) ∧ (∀ (x y : Go.Value) (l : List Go.Value), (x :: l).set 0 y = y :: l) ∧ (∀ (x y : Go.Value) (l : List Go.Value) (i : Nat), (x :: l).set (i + 1) y = x :: l.set i y) :=
 ⟨fun _ _ _ => rfl, fun _ _ => rfl, fun _ _ _ => by simp, fun _ _ _ => rfl, fun _ _ _ _ => rfl⟩
namespace Go.Proofs.YtemcankmggmgoaaGreat
section
open Go.RowKit Go.Mv Mvp
attribute [local irreducible] a0C lw mix cw b0k b0y b0j a0M a0n
def fv (p : Nat) : Value := .agg (cw 4 p ++ cw 4 (B64 ^ 4 - p)).toArray
theorem e0o : (Tryz.prog.info? 60).map (·.size) = some 4 := by kernel_rfl
theorem t0f : (Tryz.prog.info? 171).map (·.size) = some 8 := by kernel_rfl
theorem p0I (p V0 : Nat) (w : World) (hp0 : 0 < p) (hp : p < B64 ^ 4) (hV0 : V0 < B64 ^ 8) :
  Calls Tryz.prog 129 #[fv p, i8 V0] w fun e w' => e = .returned (i4 (V0 % p)) ∧ Fr Nob w w' := by
 have HP := qH hp; clear hp
 have HP0 := qH hp0; clear hp0
 have HV0 := qH hV0; clear hV0
 have st0 := St.start Nob w
 go_enter Tryz.func129, Tryz.ntmps129
 go_wp2_with (with_reducible refine wSk 2 ?_)
 refine a0l st0 rfl rfl rfl (cw 4 p ++ cw 4 (B64 ^ 4 - p)) rfl ?_
 intro g2 w1 st1
 clear st0
 go_wp2_with (with_reducible refine wSk 3 ?_)
 refine a0l st1 rfl rfl rfl (cw 8 V0) rfl ?_
 intro g3 w2 st2
 clear st1
 go_wp2_with (with_reducible refine wSk 4 ?_)
 refine a0a st2 rfl rfl (z := zAd) ap14 (cw 4 0) ap12 ?_
 intro g4 w3 st3
 clear st2
 go_wp2
 go_frame
 go_loopw [8] (fun _ wr => ∃ V : Nat, V < B64 ^ 8 ∧ V % p = V0 % p ∧ St Nob w wr [(g2, cw 4 p ++ cw 4 (B64 ^ 4 - p), 78), (g3, cw 8 V, 171), (g4, cw 4 0, 60)]) (fun _ wr => a0n wr g3 0 8)
 case atStart => exact ⟨V0, HV0.out, rfl, st3⟩
 case round =>
  obtain ⟨V, hV, hVm, st⟩ := hrel
  clear st3
  have HV := qH hV; clear hV
  have HVM := qH hVm; clear hVm
  have c0 := (st.at 1 rfl).cell (a0G 8 V 0 ap15)
  have c1 := (st.at 1 rfl).cell (a0G 8 V 1 ap15)
  have c2 := (st.at 1 rfl).cell (a0G 8 V 2 ap15)
  have c3 := (st.at 1 rfl).cell (a0G 8 V 3 ap15)
  have c4 := (st.at 1 rfl).cell (a0G 8 V 4 ap15)
  have c5 := (st.at 1 rfl).cell (a0G 8 V 5 ap15)
  have c6 := (st.at 1 rfl).cell (a0G 8 V 6 ap15)
  have c7 := (st.at 1 rfl).cell (a0G 8 V 7 ap15)
  have l4 := c0Q V 4
  have l5 := c0Q V 5
  have l6 := c0Q V 6
  have l7 := c0Q V 7
  have o1 := bits_or_u64_nat _ _ l4 l5
  have o2 := bits_or_u64_nat _ _ (Nat.or_lt_two_pow (n := 64) l4 l5) l6
  have o3 := bits_or_u64_nat _ _ (Nat.or_lt_two_pow (n := 64) (Nat.or_lt_two_pow (n := 64) l4 l5) l6) l7
  have htz := w0n V HV.out
  generalize hor : (lw V 4 ||| lw V 5 ||| lw V 6 ||| lw V 7) = o at *
  have HOR := qH hor; clear hor
  clear l4 l5 l6 l7
  by_cases hz : o = 0
  ·have hb : ((o : Int) != 0) = false := by subst hz; rfl
   have hD := htz.1 hz
   clear htz hz
   have HD := qH hD; clear hD
   have hV4 : V < B64 ^ 4 := by
    have h1 := Nat.div_add_mod V (B64 ^ 4)
    rw [HD.out, Nat.mul_zero, Nat.zero_add] at h1
    rw [← h1]; exact Nat.mod_lt _ (c0e 4)
   have HV4 := qH hV4; clear hV4
   go_wp2_with fail
   clear c0 c1 c2 c3 c4 c5 c6 c7 o1 o2 o3 hb
   have st5 := st.new ((Fr.refl Nob wr).alloc (Obj.cells #[Value.int IntKind.u64 ↑(lw V 0), Value.int IntKind.u64 ↑(lw V 1), Value.int IntKind.u64 ↑(lw V 2), Value.int IntKind.u64 ↑(lw V 3)] 60)) (w0q wr V 60) (Nat.le_refl _)
   clear st
   generalize wr.alloc (Obj.cells #[Value.int IntKind.u64 ↑(lw V 0), Value.int IntKind.u64 ↑(lw V 1), Value.int IntKind.u64 ↑(lw V 2), Value.int IntKind.u64 ↑(lw V 3)] 60) = w5 at *
   generalize wr.heap.size = g5 at *
   go_loopw [52] (fun _ wx => ∃ U : Nat, U < B64 ^ 4 ∧ U % p = V0 % p ∧ St Nob w wx [(g2, cw 4 p ++ cw 4 (B64 ^ 4 - p), 78), (g4, cw 4 0, 60), (g5, cw 4 U, 60)]) (fun _ wx => a0n wx g5 0 4)
   case atStart => exact ⟨V, HV4.out, HVM.out, st5.less ap17⟩
   case round =>
    obtain ⟨U, hU, hUm, st⟩ := hrel
    clear st5
    have HU := qH hU; clear hU
    have HUM := qH hUm; clear hUm
    have hvu := e0F (st.at 2 rfl) HU.out
    have HVU := qH hvu; clear hvu
    go_wp2_with (with_reducible refine wSk 52 ?_)
    refine a0k st 2 rfl rfl rfl Tryz.underlying60 rfl (by rw [a0i]; exact e0o) ?_
    go_wp2_with (with_reducible refine wSk 54 ?_)
    refine c0c rfl rfl Tryz.underlying60 rfl (st.at 0 rfl) (cw 4 p) (f0a 4 4 _ _) (by rw [a0i]; exact e0o) ?_
    go_wp2_with fail
    have hcs := f0s U p 4 HU.out HP.out
    refine (h0O U p _ HP.out).mono ?_
    rintro e' w6 ⟨rfl, hf6⟩
    have st6 := st.keep hf6
    clear st hf6
    by_cases hlt : U < p
    ·rw [if_pos hlt] at hcs
     rw [hcs]
     have hm : U = V0 % p := by rw [← HUM.out, Nat.mod_eq_of_lt hlt]
     have HM := qH hm
     clear hm hcs hlt
     go_wp2_with (with_reducible refine wSk 6 ?_)
     refine a0a st6 rfl rfl (z := zAd) ap14 (cw 4 0) ap12 ?_
     intro g6 w7 st7
     clear st6
     go_wp2_with (with_reducible refine wSn ?_)
     refine a0b st7 3 rfl rfl rfl rfl rfl (by rw [a0i, a0i]) (by rw [a0i]; exact e0o) (a0f _ _) ?_
     intro w8 st8
     clear st7
     go_wp2_with (with_reducible refine wSk 60 ?_)
     refine a0k st8 2 rfl rfl rfl Tryz.underlying60 rfl (by rw [a0i]; exact e0o) ?_
     go_wp2_with (with_reducible refine wSn ?_)
     refine a0b st8 1 rfl rfl rfl rfl rfl (by rw [a0i, a0i]) (by rw [a0i]; exact e0o) (a0f _ _) ?_
     intro w9 st9
     clear st8
     have hd9 := st9.at 1 rfl
     rw [HM.out] at hd9
     have hf9 := st9.fr
     clear st9
     go_wp2
     exact bodyPost_ret (a0v rfl rfl hd9 Tryz.underlying60 (by rw [a0i]; exact e0o)) rfl ⟨rfl, hf9⟩
    ·rw [if_neg hlt] at hcs
     rw [hcs]
     have e1 : cw 4 (U + B64 ^ 4 - p) = cw 4 (U - p) := by
      rw [← cw_mod, show U + B64 ^ 4 - p = (U - p) + B64 ^ 4 by omega, Nat.add_mod_right, cw_mod]
     have hm : (U - p) % p = V0 % p := by rw [← HUM.out, ← Nat.mod_eq_sub_mod ap16]
     have HM := qH hm
     have HE := qH e1
     have hltU : U - p < U := by have := HP0.out; omega
     have hbU : U - p < B64 ^ 4 := by have := HU.out; omega
     have HLTU := qH hltU
     have HBU := qH hbU
     clear hm hcs hlt e1 hltU hbU
     go_wp2_with (with_reducible refine wSk 6 ?_)
     refine a0a st6 rfl rfl (z := zAd) ap14 (cw 4 0) ap12 ?_
     intro g6 w7 st7
     clear st6
     go_wp2_with (with_reducible refine wSn ?_)
     refine a0b st7 3 rfl rfl rfl rfl rfl (by rw [a0i, a0i]) (by rw [a0i]; exact e0o) (a0f _ _) ?_
     intro w8 st8
     clear st7
     rw [HE.out] at st8
     go_wp2_with (with_reducible refine wSk 61 ?_)
     refine a0k st8 3 rfl rfl rfl Tryz.underlying60 rfl (by rw [a0i]; exact e0o) ?_
     go_wp2_with (with_reducible refine wSn ?_)
     refine a0b st8 2 rfl rfl rfl rfl rfl (by rw [a0i, a0i]) (by rw [a0i]; exact e0o) (a0f _ _) ?_
     intro w9 st9
     clear st8
     have hv9 := e0F (st9.at 2 rfl) HBU.out
     have HV9 := qH hv9; clear hv9
     go_wp2
     refine ⟨?_, ?_⟩
     ·((repeat apply Exists.intro); exact ⟨⟨U - p, HBU.out, HM.out, st9.less ap17⟩, rfl⟩)
     ·rw [HV9.out, HVU.out]; exact HLTU.out
  ·have hb : ((o : Int) != 0) = true := by simp; omega
   have hD := fun h => hz (htz.2 h)
   clear htz hz
   have HD := qH hD; clear hD
   have hD' : V / B64 ^ 4 ≠ 0 := HD.out
   have hprod := fun wx => h0v (V / B64 ^ 4) (B64 ^ 4 - p) wx (Nat.div_lt_of_lt_mul (by rw [← Nat.pow_add]; exact HV.out)) (by have := HP0.out; have := c0e 4; omega)
   rw [z0X] at hprod
   have hplus := fun wx => m0I (V / B64 ^ 4 * (B64 ^ 4 - p)) (V % B64 ^ 4) wx
   rw [t0d] at hplus
   have hlt := w0m (B64 ^ 4 - p) V (by have := HP0.out; have := c0e 4; omega) hD'
   have hmod := t0a p (B64 ^ 4 - p) V (by have := HP.out; omega)
   have e : V / B64 ^ 4 * (B64 ^ 4 - p) + V % B64 ^ 4 = a0M (B64 ^ 4 - p) V := by unfold a0M; rfl
   rw [e] at hplus
   generalize a0M (B64 ^ 4 - p) V = V' at *
   clear e hD'
   have mks : ∀ wx, St Nob w wx [(g2, cw 4 p ++ cw 4 (B64 ^ 4 - p), 78), (g3, cw 8 V, 171), (g4, cw 4 0, 60)] →
     wx.cell? ⟨g3, 0, none⟩ = some (.int .u64 (lw V 0 : Nat)) ∧ wx.cell? ⟨g3, 1, none⟩ = some (.int .u64 (lw V 1 : Nat)) ∧ wx.cell? ⟨g3, 2, none⟩ = some (.int .u64 (lw V 2 : Nat)) ∧ wx.cell? ⟨g3, 3, none⟩ = some (.int .u64 (lw V 3 : Nat)) ∧
     wx.cell? ⟨g3, 4, none⟩ = some (.int .u64 (lw V 4 : Nat)) ∧ wx.cell? ⟨g3, 5, none⟩ = some (.int .u64 (lw V 5 : Nat)) ∧ wx.cell? ⟨g3, 6, none⟩ = some (.int .u64 (lw V 6 : Nat)) ∧ wx.cell? ⟨g3, 7, none⟩ = some (.int .u64 (lw V 7 : Nat)) := fun wx h =>
    ⟨(h.at 1 rfl).cell (a0G 8 V 0 ap15), (h.at 1 rfl).cell (a0G 8 V 1 ap15), (h.at 1 rfl).cell (a0G 8 V 2 ap15), (h.at 1 rfl).cell (a0G 8 V 3 ap15),
     (h.at 1 rfl).cell (a0G 8 V 4 ap15), (h.at 1 rfl).cell (a0G 8 V 5 ap15), (h.at 1 rfl).cell (a0G 8 V 6 ap15), (h.at 1 rfl).cell (a0G 8 V 7 ap15)⟩
   have hvv := e0F (st.at 1 rfl) HV.out
   have HVV := qH hvv
   clear hvv
   have MKS := qH mks
   have HPROD := qH hprod
   have HPLUS := qH hplus
   have HLT := qH hlt
   have HMOD := qH hmod
   clear mks hprod hplus hlt hmod
   go_wp2_with fail
   clear c0 c1 c2 c3 c4 c5 c6 c7 o1 o2 o3 hb
   refine wp_region_noPanic ?_
   refine c0M (fun wx => St Nob w wx [(g2, cw 4 p ++ cw 4 (B64 ^ 4 - p), 78), (g3, cw 8 V, 171), (g4, cw 4 0, 60)]) 22 [(0, true), (1, true), (2, true), (3, true), (4, true), (5, true), (6, true), (7, true), (8, true), (9, true), (10, true), (12, true), (13, true), (14, true), (15, true), (16, true), (17, true), (18, true), (19, true), (20, true), (11, false), (21, false)] ap14 ap14 st.drew (fun _ _ _ _ _ h => h) ?_
   refine a0N (v := ?_) rfl rfl (fun wx hS => ?_) ?_
   rotate_left 1
   ·(have hc := MKS.out wx hS; obtain ⟨d0, d1, d2, d3, d4, d5, d6, d7⟩ := hc; clear hS; go_simp; with_reducible rfl)
   try simp only [clL]
   refine a0N (v := ?_) rfl rfl (fun wx hS => ?_) ?_
   rotate_left 1
   ·(have hc := MKS.out wx hS; obtain ⟨d0, d1, d2, d3, d4, d5, d6, d7⟩ := hc; clear hS; go_simp; with_reducible rfl)
   try simp only [clL]
   refine a0N (v := ?_) rfl rfl (fun wx hS => ?_) ?_
   rotate_left 1
   ·(have hc := MKS.out wx hS; obtain ⟨d0, d1, d2, d3, d4, d5, d6, d7⟩ := hc; clear hS; go_simp; with_reducible rfl)
   try simp only [clL]
   refine a0N (v := ?_) rfl rfl (fun wx hS => ?_) ?_
   rotate_left 1
   ·(have hc := MKS.out wx hS; obtain ⟨d0, d1, d2, d3, d4, d5, d6, d7⟩ := hc; clear hS; go_simp; with_reducible rfl)
   try simp only [clL]
   refine a0N (v := ?_) rfl rfl (fun wx hS => ?_) ?_
   rotate_left 1
   ·(have hc := MKS.out wx hS; obtain ⟨d0, d1, d2, d3, d4, d5, d6, d7⟩ := hc; clear hS; go_simp; with_reducible rfl)
   try simp only [clL]
   refine a0N (v := ?_) rfl rfl (fun wx hS => ?_) ?_
   rotate_left 1
   ·(have hc := MKS.out wx hS; obtain ⟨d0, d1, d2, d3, d4, d5, d6, d7⟩ := hc; clear hS; go_simp; with_reducible rfl)
   try simp only [clL]
   refine a0N (v := ?_) rfl rfl (fun wx hS => ?_) ?_
   rotate_left 1
   ·(have hc := MKS.out wx hS; obtain ⟨d0, d1, d2, d3, d4, d5, d6, d7⟩ := hc; clear hS; go_simp; with_reducible rfl)
   try simp only [clL]
   refine a0N (v := ?_) rfl rfl (fun wx hS => ?_) ?_
   rotate_left 1
   ·(have hc := MKS.out wx hS; obtain ⟨d0, d1, d2, d3, d4, d5, d6, d7⟩ := hc; clear hS; go_simp; with_reducible rfl)
   try simp only [clL]
   refine a0N (v := ?_) rfl rfl (fun wx hS => ?_) ?_
   rotate_left 1
   ·(have hc := MKS.out wx hS; obtain ⟨d0, d1, d2, d3, d4, d5, d6, d7⟩ := hc; clear hS; go_simp; with_reducible rfl)
   try simp only [clL]
   refine a0N (v := ?_) rfl rfl (fun wx hS => ?_) ?_
   rotate_left 1
   ·(have hc := MKS.out wx hS; obtain ⟨d0, d1, d2, d3, d4, d5, d6, d7⟩ := hc; clear hS; go_simp; with_reducible rfl)
   try simp only [clL]
   refine e0H rfl rfl rfl rfl (cw 4 (B64 ^ 4 - p)) (fun wx hS => St.rangeL hS 0 rfl 4 _ (p0G 4 4 _ _)) Tryz.underlying60 rfl (by rw [a0i]; exact e0o) ?_
   try simp only [clL]
   refine a0N (v := ?_) rfl rfl (fun wx hS => ?_) ?_
   rotate_left 1
   ·(have hc := MKS.out wx hS; obtain ⟨d0, d1, d2, d3, d4, d5, d6, d7⟩ := hc; clear hS; go_simp; with_reducible rfl)
   try simp only [clL]
   refine a0N (v := ?_) rfl rfl (fun wx hS => ?_) ?_
   rotate_left 1
   ·(have hc := MKS.out wx hS; obtain ⟨d0, d1, d2, d3, d4, d5, d6, d7⟩ := hc; clear hS; go_simp; with_reducible rfl)
   try simp only [clL]
   refine a0N (v := ?_) rfl rfl (fun wx hS => ?_) ?_
   rotate_left 1
   ·(have hc := MKS.out wx hS; obtain ⟨d0, d1, d2, d3, d4, d5, d6, d7⟩ := hc; clear hS; go_simp; with_reducible rfl)
   try simp only [clL]
   refine a0N (v := ?_) rfl rfl (fun wx hS => ?_) ?_
   rotate_left 1
   ·(have hc := MKS.out wx hS; obtain ⟨d0, d1, d2, d3, d4, d5, d6, d7⟩ := hc; clear hS; go_simp; with_reducible rfl)
   try simp only [clL]
   refine a0N (v := ?_) rfl rfl (fun wx hS => ?_) ?_
   rotate_left 1
   ·(have hc := MKS.out wx hS; obtain ⟨d0, d1, d2, d3, d4, d5, d6, d7⟩ := hc; clear hS; go_simp; with_reducible rfl)
   try simp only [clL]
   refine a0N (v := ?_) rfl rfl (fun wx hS => ?_) ?_
   rotate_left 1
   ·(have hc := MKS.out wx hS; obtain ⟨d0, d1, d2, d3, d4, d5, d6, d7⟩ := hc; clear hS; go_simp; with_reducible rfl)
   try simp only [clL]
   refine a0N (v := ?_) rfl rfl (fun wx hS => ?_) ?_
   rotate_left 1
   ·(have hc := MKS.out wx hS; obtain ⟨d0, d1, d2, d3, d4, d5, d6, d7⟩ := hc; clear hS; go_simp; with_reducible rfl)
   try simp only [clL]
   refine a0N (v := ?_) rfl rfl (fun wx hS => ?_) ?_
   rotate_left 1
   ·(have hc := MKS.out wx hS; obtain ⟨d0, d1, d2, d3, d4, d5, d6, d7⟩ := hc; clear hS; go_simp; with_reducible rfl)
   try simp only [clL]
   refine a0N (v := ?_) rfl rfl (fun wx hS => ?_) ?_
   rotate_left 1
   ·(have hc := MKS.out wx hS; obtain ⟨d0, d1, d2, d3, d4, d5, d6, d7⟩ := hc; clear hS; go_simp; with_reducible rfl)
   try simp only [clL]
   refine f0b rfl rfl ?_
   go_simp
   refine (HPROD.out _).mono ?_
   rintro e' w9 ⟨rfl, hf9⟩
   refine ⟨st.drew.keep hf9, ?_⟩
   try simp only [clL]
   refine f0b rfl rfl ?_
   go_simp
   refine (HPLUS.out _).mono ?_
   rintro e' w10 ⟨rfl, hf10⟩
   refine ⟨(st.drew.keep hf9).keep hf10, ?_⟩
   try simp only [clL]
   refine i0K ?_
   try simp only [List.drop_succ_cons, List.drop_zero]
   have st10 := (st.drew.keep hf9).keep hf10
   clear st hf9 hf10
   refine a0b st10 1 rfl rfl rfl rfl rfl (by rw [a0i, a0i]) (by rw [a0i]; exact t0f) (a0f _ _) ?_
   intro w11 st11
   have hv11 := e0F (st11.at 1 rfl) (Nat.lt_trans HLT.out HV.out)
   clear st10
   go_wp2
   refine NoPanic.normal ?_
   refine ⟨?_, ?_⟩
   ·((repeat apply Exists.intro); exact ⟨⟨V', Nat.lt_trans HLT.out HV.out, HMOD.out.trans HVM.out, st11⟩, rfl⟩)
   ·rw [hv11, HVV.out]; exact HLT.out
end
section
open Go.RowKit Go.Mv Mvp
attribute [local irreducible] a0C lw mix cw b0k b0y b0j a0M a0n
theorem _root_.ap4 {p : Prop} (h : p := by first | (rw [a0i]; kernel_rfl) | (simp only [List.length_append, a0i]; kernel_rfl)) : p := h
theorem _root_.ap5 {p : Prop} (h : p := by first | (simp only [a0i]; done) | (simp only [List.length_append, a0i]; done)) : p := h
theorem _root_.ap9 {p : Prop} (h : p := by simp only [a0i]; kernel_rfl) : p := h
theorem h0a (p a b : Nat) (w : World) (hp0 : 0 < p) (hp : p < B64 ^ 4) (ha : a < B64 ^ 4) (hb : b < B64 ^ 4) :
  Calls Tryz.prog 58 #[fv p, i4 a, i4 b] w fun e w' => e = .returned (i4 (a * b % p)) ∧ Fr Nob w w' := by
 have HP0 := qH hp0
 have HP := qH hp
 have HA := qH ha
 have HB := qH hb
 have HAB := qH (show a * b < B64 ^ 8 from Nat.lt_of_lt_of_le (Nat.mul_lt_mul'' ha hb) ap15)
 clear hp0 hp ha hb
 have st0 := St.start Nob w
 go_enter Tryz.func58, Tryz.ntmps58
 go_wp2_with (with_reducible refine wSk 3 ?_)
 refine a0l st0 rfl rfl rfl (cw 4 p ++ cw 4 (B64 ^ 4 - p)) rfl ?_
 intro g3 w1 st1
 clear st0
 go_wp2_with (with_reducible refine wSk 4 ?_)
 refine a0l st1 rfl rfl rfl (cw 4 a) rfl ?_
 intro g4 w2 st2
 clear st1
 go_wp2_with (with_reducible refine wSk 5 ?_)
 refine a0l st2 rfl rfl rfl (cw 4 b) rfl ?_
 intro g5 w3 st3
 clear st2
 go_wp2_with (with_reducible refine wSk 6 ?_)
 refine a0a st3 rfl rfl (z := zAd) ap14 (cw 4 0) ap12 ?_
 intro g6 w4 st4
 clear st3
 go_wp2_with fail
 refine wp_region_noPanic ?_
 refine c0M (fun wx => St Nob w wx [(g3, cw 4 p ++ cw 4 (B64 ^ 4 - p), 78), (g4, cw 4 a, 60), (g5, cw 4 b, 60), (g6, cw 4 0, 60)]) 5 [(0, true), (1, true), (2, true), (3, false), (4, false)] ap14 ap14 st4.drew (fun _ _ _ _ _ h => h) ?_
 have hd4 := st4.drew
 refine e0H rfl rfl rfl rfl (cw 4 p ++ cw 4 (B64 ^ 4 - p)) (fun wx hS => St.rangeL hS 0 rfl 0 _ dZl) Tryz.underlying78 rfl ap4 ?_
 try simp only [clL]
 refine e0H rfl rfl rfl rfl (cw 4 a) (fun wx hS => St.rangeL hS 1 rfl 0 _ dZl) Tryz.underlying60 rfl ap9 ?_
 try simp only [clL]
 refine e0H rfl rfl rfl rfl (cw 4 b) (fun wx hS => St.rangeL hS 2 rfl 0 _ dZl) Tryz.underlying60 rfl ap9 ?_
 try simp only [clL]
 refine f0b rfl rfl ?_
 go_simp
 refine (h0v a b _ HA.out HB.out).mono ?_
 rintro e' w5 ⟨rfl, hf5⟩
 have st5 := hd4.keep hf5
 clear hd4 hf5
 refine ⟨st5, ?_⟩
 try simp only [clL]
 refine f0b rfl rfl ?_
 go_simp
 refine (p0I p (a * b) _ HP0.out HP.out HAB.out).mono ?_
 rintro e' w6 ⟨rfl, hf6⟩
 have st6 := st5.keep hf6
 clear st5 hf6
 refine ⟨st6, ?_⟩
 try simp only [clL]
 refine i0K ?_
 try simp only [List.drop_succ_cons, List.drop_zero]
 refine a0b st6 3 rfl rfl rfl rfl rfl ap5 ap9 (a0f _ _) ?_
 intro w7 st7
 clear st6
 go_wp2_with fail
 refine NoPanic.normal ?_
 have hr := st7.at 3 rfl
 have hfr := st7.fr
 clear st7
 go_wp2_with fail
 exact bodyPost_ret (a0v rfl rfl hr Tryz.underlying60 ap9) rfl ⟨rfl, hfr⟩
theorem t0g (p a b : Nat) (w : World) (hp0 : 0 < p) (hp : p < B64 ^ 4) (ha : a < B64 ^ 4) (hb : b < B64 ^ 4) :
  Calls Tryz.prog 57 #[fv p, i4 a, i4 b] w fun e w' => e = .returned (i4 ((a + b) % p)) ∧ Fr Nob w w' := by
 have HP0 := qH hp0
 have HP := qH hp
 have HA := qH ha
 have HB := qH hb
 have HAB := qH (show a + b < B64 ^ 8 from Nat.lt_of_lt_of_le (Nat.add_lt_add ha hb) ap15)
 have hplus := fun wx => m0I (a % B64 ^ 4) (b % B64 ^ 4) wx
 rw [t0d, t0d, Nat.mod_eq_of_lt ha, Nat.mod_eq_of_lt hb] at hplus
 have HPLUS := qH hplus
 clear hplus
 clear hp0 hp ha hb
 have st0 := St.start Nob w
 go_enter Tryz.func57, Tryz.ntmps57
 go_wp2_with (with_reducible refine wSk 3 ?_)
 refine a0l st0 rfl rfl rfl (cw 4 p ++ cw 4 (B64 ^ 4 - p)) rfl ?_
 intro g3 w1 st1
 clear st0
 go_wp2_with (with_reducible refine wSk 4 ?_)
 refine a0l st1 rfl rfl rfl (cw 4 a) rfl ?_
 intro g4 w2 st2
 clear st1
 go_wp2_with (with_reducible refine wSk 5 ?_)
 refine a0l st2 rfl rfl rfl (cw 4 b) rfl ?_
 intro g5 w3 st3
 clear st2
 go_wp2_with (with_reducible refine wSk 6 ?_)
 refine a0a st3 rfl rfl (z := zAd) ap14 (cw 4 0) ap12 ?_
 intro g6 w4 st4
 clear st3
 go_wp2_with fail
 refine wp_region_noPanic ?_
 refine c0M (fun wx => St Nob w wx [(g3, cw 4 p ++ cw 4 (B64 ^ 4 - p), 78), (g4, cw 4 a, 60), (g5, cw 4 b, 60), (g6, cw 4 0, 60)]) 21 [(0, true), (1, true), (2, true), (3, true), (4, true), (5, true), (6, true), (7, true), (8, true), (9, true), (10, true), (11, true), (12, true), (13, true), (14, true), (15, true), (16, true), (17, true), (18, true), (19, false), (20, false)] ap14 ap14 st4.drew (fun _ _ _ _ _ h => h) ?_
 have hd4 := st4.drew
 refine e0H rfl rfl rfl rfl (cw 4 p ++ cw 4 (B64 ^ 4 - p)) (fun wx hS => St.rangeL hS 0 rfl 0 _ dZl) Tryz.underlying78 rfl ap4 ?_
 try simp only [clL]
 refine a0N (v := ?_) rfl rfl (fun wx hS => ?_) ?_
 rotate_left 1
 ·(clear hS; go_simp; with_reducible rfl)
 try simp only [clL]
 refine a0N (v := ?_) rfl rfl (fun wx hS => ?_) ?_
 rotate_left 1
 ·(have hc := (St.at hS 1 rfl).cell (a0G 4 a 0 ap15); clear hS; go_simp; with_reducible rfl)
 try simp only [clL]
 refine a0N (v := ?_) rfl rfl (fun wx hS => ?_) ?_
 rotate_left 1
 ·(clear hS; go_simp; with_reducible rfl)
 try simp only [clL]
 refine a0N (v := ?_) rfl rfl (fun wx hS => ?_) ?_
 rotate_left 1
 ·(have hc := (St.at hS 1 rfl).cell (a0G 4 a 1 ap15); clear hS; go_simp; with_reducible rfl)
 try simp only [clL]
 refine a0N (v := ?_) rfl rfl (fun wx hS => ?_) ?_
 rotate_left 1
 ·(clear hS; go_simp; with_reducible rfl)
 try simp only [clL]
 refine a0N (v := ?_) rfl rfl (fun wx hS => ?_) ?_
 rotate_left 1
 ·(have hc := (St.at hS 1 rfl).cell (a0G 4 a 2 ap15); clear hS; go_simp; with_reducible rfl)
 try simp only [clL]
 refine a0N (v := ?_) rfl rfl (fun wx hS => ?_) ?_
 rotate_left 1
 ·(clear hS; go_simp; with_reducible rfl)
 try simp only [clL]
 refine a0N (v := ?_) rfl rfl (fun wx hS => ?_) ?_
 rotate_left 1
 ·(have hc := (St.at hS 1 rfl).cell (a0G 4 a 3 ap15); clear hS; go_simp; with_reducible rfl)
 try simp only [clL]
 refine a0N (v := ?_) rfl rfl (fun wx hS => ?_) ?_
 rotate_left 1
 ·(clear hS; go_simp; with_reducible rfl)
 try simp only [clL]
 refine a0N (v := ?_) rfl rfl (fun wx hS => ?_) ?_
 rotate_left 1
 ·(clear hS; go_simp; with_reducible rfl)
 try simp only [clL]
 refine a0N (v := ?_) rfl rfl (fun wx hS => ?_) ?_
 rotate_left 1
 ·(have hc := (St.at hS 2 rfl).cell (a0G 4 b 0 ap15); clear hS; go_simp; with_reducible rfl)
 try simp only [clL]
 refine a0N (v := ?_) rfl rfl (fun wx hS => ?_) ?_
 rotate_left 1
 ·(clear hS; go_simp; with_reducible rfl)
 try simp only [clL]
 refine a0N (v := ?_) rfl rfl (fun wx hS => ?_) ?_
 rotate_left 1
 ·(have hc := (St.at hS 2 rfl).cell (a0G 4 b 1 ap15); clear hS; go_simp; with_reducible rfl)
 try simp only [clL]
 refine a0N (v := ?_) rfl rfl (fun wx hS => ?_) ?_
 rotate_left 1
 ·(clear hS; go_simp; with_reducible rfl)
 try simp only [clL]
 refine a0N (v := ?_) rfl rfl (fun wx hS => ?_) ?_
 rotate_left 1
 ·(have hc := (St.at hS 2 rfl).cell (a0G 4 b 2 ap15); clear hS; go_simp; with_reducible rfl)
 try simp only [clL]
 refine a0N (v := ?_) rfl rfl (fun wx hS => ?_) ?_
 rotate_left 1
 ·(clear hS; go_simp; with_reducible rfl)
 try simp only [clL]
 refine a0N (v := ?_) rfl rfl (fun wx hS => ?_) ?_
 rotate_left 1
 ·(have hc := (St.at hS 2 rfl).cell (a0G 4 b 3 ap15); clear hS; go_simp; with_reducible rfl)
 try simp only [clL]
 refine a0N (v := ?_) rfl rfl (fun wx hS => ?_) ?_
 rotate_left 1
 ·(clear hS; go_simp; with_reducible rfl)
 try simp only [clL]
 refine f0b rfl rfl ?_
 go_simp
 refine (HPLUS.out _).mono ?_
 rintro e' w5 ⟨rfl, hf5⟩
 have st5 := hd4.keep hf5
 clear hd4 hf5
 refine ⟨st5, ?_⟩
 try simp only [clL]
 refine f0b rfl rfl ?_
 go_simp
 refine (p0I p (a + b) _ HP0.out HP.out HAB.out).mono ?_
 rintro e' w6 ⟨rfl, hf6⟩
 have st6 := st5.keep hf6
 clear st5 hf6
 refine ⟨st6, ?_⟩
 try simp only [clL]
 refine i0K ?_
 try simp only [List.drop_succ_cons, List.drop_zero]
 refine a0b st6 3 rfl rfl rfl rfl rfl ap5 ap9 (a0f _ _) ?_
 intro w7 st7
 clear st6
 go_wp2_with fail
 refine NoPanic.normal ?_
 have hr := st7.at 3 rfl
 have hfr := st7.fr
 clear st7
 go_wp2_with fail
 exact bodyPost_ret (a0v rfl rfl hr Tryz.underlying60 ap9) rfl ⟨rfl, hfr⟩
theorem p0J (a : Nat) (w : World) (ha : a < B64 ^ 4) :
  Calls Tryz.prog 123 #[i4 a] w fun e w' => e = .returned (.bool (decide (a = 0))) ∧ Fr Nob w w' := by
 have HA := qH ha
 clear ha
 have st0 := St.start Nob w
 go_enter Tryz.func123, Tryz.ntmps123
 go_wp2_with (with_reducible refine wSk 1 ?_)
 refine a0l st0 rfl rfl rfl (cw 4 a) rfl ?_
 intro g1 w1 st1
 clear st0
 have c0 := (st1.at 0 rfl).cell (a0G 4 a 0 ap15)
 have c1 := (st1.at 0 rfl).cell (a0G 4 a 1 ap15)
 have c2 := (st1.at 0 rfl).cell (a0G 4 a 2 ap15)
 have c3 := (st1.at 0 rfl).cell (a0G 4 a 3 ap15)
 have hfr := st1.fr
 clear st1
 have l4 := c0Q a 0
 have l5 := c0Q a 1
 have l6 := c0Q a 2
 have l7 := c0Q a 3
 have o1 := bits_or_u64_nat _ _ l4 l5
 have o2 := bits_or_u64_nat _ _ (Nat.or_lt_two_pow (n := 64) l4 l5) l6
 have o3 := bits_or_u64_nat _ _ (Nat.or_lt_two_pow (n := 64) (Nat.or_lt_two_pow (n := 64) l4 l5) l6) l7
 have htz := r0k a HA.out
 generalize hor : (lw a 0 ||| lw a 1 ||| lw a 2 ||| lw a 3) = o at *
 have hoo : ((o : Int) == 0) = decide (a = 0) := by
  rw [show ((o : Int) == 0) = decide (o = 0) by rw [Bool.eq_iff_iff]; simp]
  exact decide_eq_decide.2 htz
 have HOR := qH hor
 clear hor l4 l5 l6 l7 htz
 go_wp2_with fail
 go_ret
 exact ⟨rfl, hfr⟩
theorem t0h (p a : Nat) (w : World) (hap : a ≤ p) (hp : p < B64 ^ 4) (ha : a < B64 ^ 4) :
  Calls Tryz.prog 142 #[fv p, i4 a] w fun e w' => e = .returned (i4 ((p - a) % p)) ∧ Fr Nob w w' := by
 have HAP := qH hap
 have HP := qH hp
 have HA := qH ha
 clear hap hp ha
 have st0 := St.start Nob w
 go_enter Tryz.func142, Tryz.ntmps142
 go_wp2_with (with_reducible refine wSk 2 ?_)
 refine a0l st0 rfl rfl rfl (cw 4 p ++ cw 4 (B64 ^ 4 - p)) rfl ?_
 intro g2 w1 st1
 clear st0
 go_wp2_with (with_reducible refine wSk 3 ?_)
 refine a0l st1 rfl rfl rfl (cw 4 a) rfl ?_
 intro g3 w2 st2
 clear st1
 go_wp2_with (with_reducible refine wSk 4 ?_)
 refine a0a st2 rfl rfl (z := zAd) ap14 (cw 4 0) ap12 ?_
 intro g4 w3 st3
 clear st2
 go_wp2_with (with_reducible refine wSk 8 ?_)
 refine a0k st3 1 rfl rfl rfl Tryz.underlying60 rfl ap9 ?_
 go_wp2_with fail
 refine (p0J a _ HA.out).mono ?_
 rintro e' w4 ⟨rfl, hf4⟩
 have st4 := st3.keep hf4
 clear st3 hf4
 by_cases h0 : a = 0
 ·rw [decide_eq_true h0]
  have H0 := qH h0
  clear h0
  go_wp2_with (with_reducible refine wSk 11 ?_)
  refine a0k st4 1 rfl rfl rfl Tryz.underlying60 rfl ap9 ?_
  go_wp2_with (with_reducible refine wSn ?_)
  refine a0b st4 2 rfl rfl rfl rfl rfl ap5 ap9 (a0f _ _) ?_
  intro w5 st5
  clear st4
  have hr := st5.at 2 rfl
  have hfr := st5.fr
  clear st5
  go_wp2_with fail
  exact bodyPost_ret (a0v rfl rfl hr Tryz.underlying60 ap9) rfl ⟨by rw [H0.out, Nat.sub_zero, Nat.mod_self]; rfl, hfr⟩
 ·rw [decide_eq_false h0]
  have H0 := qH h0
  clear h0
  go_wp2_with (with_reducible refine wSk 14 ?_)
  refine c0c rfl rfl Tryz.underlying60 rfl (st4.at 0 rfl) (cw 4 p) (f0a 4 4 _ _) ap9 ?_
  go_wp2_with (with_reducible refine wSk 15 ?_)
  refine a0k st4 1 rfl rfl rfl Tryz.underlying60 rfl ap9 ?_
  go_wp2_with fail
  refine (h0O p a _ HA.out).mono ?_
  rintro e' w5 ⟨rfl, hf5⟩
  have st5 := st4.keep hf5
  clear st4 hf5
  go_wp2_with (with_reducible refine wSk 6 ?_)
  refine a0a st5 rfl rfl (z := zAd) ap14 (cw 4 0) ap12 ?_
  intro g6 w6 st6
  clear st5
  go_wp2_with (with_reducible refine wSn ?_)
  refine a0b st6 3 rfl rfl rfl rfl rfl ap5 ap9 (a0f _ _) ?_
  intro w7 st7
  clear st6
  go_wp2_with (with_reducible refine wSk 19 ?_)
  refine a0k st7 3 rfl rfl rfl Tryz.underlying60 rfl ap9 ?_
  go_wp2_with (with_reducible refine wSn ?_)
  refine a0b st7 2 rfl rfl rfl rfl rfl ap5 ap9 (a0f _ _) ?_
  intro w8 st8
  clear st7
  have hr := st8.at 2 rfl
  have hfr := st8.fr
  clear st8
  go_wp2_with fail
  exact bodyPost_ret (a0v rfl rfl hr Tryz.underlying60 ap9) rfl ⟨by rw [Nat.mod_eq_of_lt (by have := H0.out; have := HAP.out; omega), ← i0G p a HAP.out]; rfl, hfr⟩
theorem A0a (p a b : Nat) (w : World) (hp0 : 0 < p) (hp : p < B64 ^ 4) (ha : a < B64 ^ 4) (hb : b < B64 ^ 4) (hbp : b ≤ p) :
  Calls Tryz.prog 137 #[fv p, i4 a, i4 b] w fun e w' => e = .returned (i4 ((a + (p - b) % p) % p)) ∧ Fr Nob w w' := by
 have HP0 := qH hp0
 have HP := qH hp
 have HA := qH ha
 have HB := qH hb
 have HBP := qH hbp
 have HN := qH (show (p - b) % p < B64 ^ 4 from Nat.lt_trans (Nat.mod_lt _ hp0) hp)
 clear hp0 hp ha hb hbp
 have st0 := St.start Nob w
 go_enter Tryz.func137, Tryz.ntmps137
 go_wp2_with (with_reducible refine wSk 3 ?_)
 refine a0l st0 rfl rfl rfl (cw 4 p ++ cw 4 (B64 ^ 4 - p)) rfl ?_
 intro g3 w1 st1
 clear st0
 go_wp2_with (with_reducible refine wSk 4 ?_)
 refine a0l st1 rfl rfl rfl (cw 4 a) rfl ?_
 intro g4 w2 st2
 clear st1
 go_wp2_with (with_reducible refine wSk 5 ?_)
 refine a0l st2 rfl rfl rfl (cw 4 b) rfl ?_
 intro g5 w3 st3
 clear st2
 go_wp2_with (with_reducible refine wSk 6 ?_)
 refine a0a st3 rfl rfl (z := zAd) ap14 (cw 4 0) ap12 ?_
 intro g6 w4 st4
 clear st3
 go_wp2_with fail
 refine wp_region_noPanic ?_
 refine c0M (fun wx => St Nob w wx [(g3, cw 4 p ++ cw 4 (B64 ^ 4 - p), 78), (g4, cw 4 a, 60), (g5, cw 4 b, 60), (g6, cw 4 0, 60)]) 6 [(0, true), (1, true), (2, true), (3, true), (4, false), (5, false)] ap14 ap14 st4.drew (fun _ _ _ _ _ h => h) ?_
 have hd4 := st4.drew
 refine e0H rfl rfl rfl rfl (cw 4 p ++ cw 4 (B64 ^ 4 - p)) (fun wx hS => St.rangeL hS 0 rfl 0 _ dZl) Tryz.underlying78 rfl ap4 ?_
 try simp only [clL]
 refine e0H rfl rfl rfl rfl (cw 4 a) (fun wx hS => St.rangeL hS 1 rfl 0 _ dZl) Tryz.underlying60 rfl ap9 ?_
 try simp only [clL]
 refine e0H rfl rfl rfl rfl (cw 4 p ++ cw 4 (B64 ^ 4 - p)) (fun wx hS => St.rangeL hS 0 rfl 0 _ dZl) Tryz.underlying78 rfl ap4 ?_
 try simp only [clL]
 refine e0H rfl rfl rfl rfl (cw 4 b) (fun wx hS => St.rangeL hS 2 rfl 0 _ dZl) Tryz.underlying60 rfl ap9 ?_
 try simp only [clL]
 refine f0b rfl rfl ?_
 go_simp
 refine (t0h p b _ HBP.out HP.out HB.out).mono ?_
 rintro e' w5 ⟨rfl, hf5⟩
 have st5 := hd4.keep hf5
 clear hd4 hf5
 refine ⟨st5, ?_⟩
 try simp only [clL]
 refine f0b rfl rfl ?_
 go_simp
 refine (t0g p a ((p - b) % p) _ HP0.out HP.out HA.out HN.out).mono ?_
 rintro e' w6 ⟨rfl, hf6⟩
 have st6 := st5.keep hf6
 clear st5 hf6
 refine ⟨st6, ?_⟩
 try simp only [clL]
 refine i0K ?_
 try simp only [List.drop_succ_cons, List.drop_zero]
 refine a0b st6 3 rfl rfl rfl rfl rfl ap5 ap9 (a0f _ _) ?_
 intro w7 st7
 clear st6
 go_wp2_with fail
 refine NoPanic.normal ?_
 have hr := st7.at 3 rfl
 have hfr := st7.fr
 clear st7
 go_wp2_with fail
 exact bodyPost_ret (a0v rfl rfl hr Tryz.underlying60 ap9) rfl ⟨rfl, hfr⟩
theorem i0L (n : Nat) (w : World) (hn : n < 18446744073709551616) :
  Calls Tryz.prog 156 #[.int .u64 (n : Int)] w fun e w' => e = .returned (i4 n) ∧ Fr Nob w w' := by
 have HN := qH hn
 have HW := qH (b0V n hn)
 clear hn
 have st0 := St.start Nob w
 go_enter Tryz.func156, Tryz.ntmps156
 go_wp2_with (with_reducible refine wSk 2 ?_)
 refine a0a st0 rfl rfl (z := zAd) ap14 (cw 4 0) ap12 ?_
 intro g2 w1 st1
 clear st0
 go_wp2_with (with_reducible refine wSn ?_)
 refine a0b st1 0 rfl rfl rfl rfl (cs := cw 4 n) HW.out (by simp only [a0i]) ap9 (a0f _ _) ?_
 intro w2 st2
 clear st1
 have hr := st2.at 0 rfl
 have hfr := st2.fr
 clear st2
 go_wp2_with fail
 exact bodyPost_ret (a0v rfl rfl hr Tryz.underlying60 ap9) rfl ⟨rfl, hfr⟩
theorem t0i (a b : Nat) (w : World) (ha : a < B64 ^ 4) (hb : b < B64 ^ 4) :
  Calls Tryz.prog 174 #[i4 a, i4 b] w fun e w' => e = .returned (.bool (decide (a < b))) ∧ Fr Nob w w' := by
 have HA := qH ha
 have HB := qH hb
 clear ha hb
 have st0 := St.start Nob w
 go_enter Tryz.func174, Tryz.ntmps174
 go_wp2_with (with_reducible refine wSk 2 ?_)
 refine a0l st0 rfl rfl rfl (cw 4 a) rfl ?_
 intro g2 w1 st1
 clear st0
 go_wp2_with (with_reducible refine wSk 3 ?_)
 refine a0l st1 rfl rfl rfl (cw 4 b) rfl ?_
 intro g3 w2 st2
 clear st1
 have HCS := qH (f0s a b 4 HA.out HB.out)
 go_wp2_with (with_reducible refine wSk 8 ?_)
 refine a0k st2 0 rfl rfl rfl Tryz.underlying60 rfl ap9 ?_
 go_wp2_with (with_reducible refine wSk 9 ?_)
 refine a0k st2 1 rfl rfl rfl Tryz.underlying60 rfl ap9 ?_
 go_wp2_with fail
 refine (h0O a b _ HB.out).mono ?_
 rintro e' w3 ⟨rfl, hf3⟩
 have st3 := st2.keep hf3
 clear st2 hf3
 go_wp2_with (with_reducible refine wSk 5 ?_)
 refine a0a st3 rfl rfl (z := zAd) ap14 (cw 4 0) ap12 ?_
 intro g5 w4 st4
 clear st3
 go_wp2_with (with_reducible refine wSn ?_)
 refine a0b st4 2 rfl rfl rfl rfl rfl ap5 ap9 (a0f _ _) ?_
 intro w5 st5
 clear st4
 have hfr := st5.fr
 clear st5
 have hcs := HCS.out
 clear HCS
 by_cases hlt : a < b
 ·rw [if_pos hlt] at hcs
  rw [hcs]
  have HLT := qH hlt
  clear hlt hcs
  go_wp2_with fail
  go_ret
  exact ⟨by rw [decide_eq_true HLT.out]; rfl, hfr⟩
 ·rw [if_neg hlt] at hcs
  rw [hcs]
  have HLT := qH hlt
  clear hlt hcs
  go_wp2_with fail
  go_ret
  exact ⟨by rw [decide_eq_false HLT.out]; rfl, hfr⟩
end
end Go.Proofs.YtemcankmggmgoaaGreat
namespace Mvp
def beN (l : List UInt8) : Nat := l.foldl (fun a x => a * 256 + x.toNat) 0
theorem o0r : beN [] = 0 := rfl
theorem e0I (l : List UInt8) (x : UInt8) : beN (l ++ [x]) = beN l * 256 + x.toNat := by simp [beN]
theorem t0j (l : List UInt8) : beN l < 256 ^ l.length := by
 have h : ∀ (n : Nat) (l : List UInt8), l.length = n → beN l < 256 ^ n := by
  intro n
  induction n with
  | zero => intro l hl; rw [List.length_eq_zero_iff.1 hl]; decide
  | succ n ih =>
   intro l hl
   obtain ⟨m, x, rfl⟩ : ∃ m x, l = m ++ [x] := by
    rcases List.eq_nil_or_concat l with h | ⟨m, x, h⟩
    ·subst h; simp at hl
    ·exact ⟨m, x, by simpa using h⟩
   have := ih m (by simpa using hl)
   have hx := x.toNat_lt
   rw [e0I, Nat.pow_succ]
   omega
 exact h _ l rfl
theorem p0K (l : List UInt8) (i : Nat) (h : i < l.length) : beN (l.take (i + 1)) = beN (l.take i) * 256 + (l.getD i 0).toNat := by
 rw [List.take_succ_eq_append_getElem h, e0I]
 simp [List.getD_eq_getElem?_getD, h]
def b0F (l : List UInt8) (i : Nat) : Nat := beN (l.take i) * 256 ^ (l.length - i)
theorem m0J (l : List UInt8) : b0F l 0 = 0 := by simp [b0F, beN]
theorem p0L (l : List UInt8) : b0F l l.length = beN l := by simp [b0F]
theorem m0K (l : List UInt8) (i : Nat) (h : i < l.length) : b0F l (i + 1) = b0F l i + (l.getD i 0).toNat * 256 ^ (l.length - 1 - i) := by
 unfold b0F
 rw [p0K l i h, Nat.add_mul, Nat.mul_assoc, show l.length - i = (l.length - 1 - i) + 1 by omega, Nat.pow_succ, Nat.mul_comm 256, show l.length - (i + 1) = l.length - 1 - i by omega]
theorem p0M (l : List UInt8) (i : Nat) (h : i < l.length) : b0F l i % 256 ^ (l.length - 1 - i + 1) = 0 := by
 unfold b0F
 rw [show l.length - 1 - i + 1 = l.length - i by omega, Nat.mul_mod_left]
theorem t0k (k : Nat) : 256 ^ k = B64 ^ (k / 8) * 2 ^ (8 * (k % 8)) := by
 have e1 : (256 : Nat) = 2 ^ 8 := by decide
 have e2 : B64 = 2 ^ 64 := by decide
 rw [e1, e2, ← Nat.pow_mul, ← Nat.pow_mul, ← Nat.pow_add]
 congr 1
 omega
theorem g0p (x r : Nat) (hx : x < 256) : x * 2 ^ r < 2 ^ (r + 8) := by
 rw [Nat.pow_add, Nat.mul_comm (2 ^ r)]
 exact Nat.mul_lt_mul_of_pos_right hx (Nat.two_pow_pos r)
theorem A0b (A y r : Nat) (hr : r + 8 ≤ 64) (hy : y < 2 ^ (r + 8)) (hA : A % 2 ^ (r + 8) = 0) : (A % B64) ||| y = (A + y) % B64 ∧ (A + y) / B64 = A / B64 := by
 obtain ⟨c, hc⟩ : ∃ c, B64 = 2 ^ (r + 8) * c := ⟨2 ^ (64 - (r + 8)), by rw [← Nat.pow_add, show r + 8 + (64 - (r + 8)) = 64 by omega]⟩
 obtain ⟨m, rfl⟩ : ∃ m, A = 2 ^ (r + 8) * m := ⟨A / 2 ^ (r + 8), by have := Nat.div_add_mod A (2 ^ (r + 8)); omega⟩
 have hc0 : 0 < c := by
  rcases Nat.eq_zero_or_pos c with h | h
  ·rw [h, Nat.mul_zero] at hc; exact absurd hc ap15
  ·exact h
 have hp := Nat.two_pow_pos (r + 8)
 rw [hc]
 have e1 : 2 ^ (r + 8) * m % (2 ^ (r + 8) * c) = 2 ^ (r + 8) * (m % c) := Nat.mul_mod_mul_left _ _ _
 have hmc := Nat.mod_lt m hc0
 have e3 : 2 ^ (r + 8) * m + y = (2 ^ (r + 8) * c) * (m / c) + (2 ^ (r + 8) * (m % c) + y) := by
  have := Nat.div_add_mod m c
  have h2 : 2 ^ (r + 8) * m = 2 ^ (r + 8) * (c * (m / c) + m % c) := by rw [this]
  rw [h2, Nat.mul_add, Nat.mul_assoc]; omega
 have hlt : 2 ^ (r + 8) * (m % c) + y < 2 ^ (r + 8) * c := by
  have h1 : 2 ^ (r + 8) * (m % c + 1) ≤ 2 ^ (r + 8) * c := Nat.mul_le_mul_left _ hmc
  rw [Nat.mul_add, Nat.mul_one] at h1
  omega
 constructor
 ·rw [e1, ← Nat.two_pow_add_eq_or_of_lt hy, e3, Nat.mul_add_mod, Nat.mod_eq_of_lt hlt]
 ·rw [e3, Nat.mul_add_div (Nat.mul_pos hp hc0), Nat.div_eq_of_lt hlt, Nat.add_zero, Nat.mul_div_mul_left _ _ hp]
theorem t0l (n N k x : Nat) (hx : x < 256) (hN : N % 256 ^ (k + 1) = 0) (hk : k / 8 < n) : (a0C n N).set (k / 8) (lw N (k / 8) ||| x * 2 ^ (8 * (k % 8))) = a0C n (N + x * 256 ^ k) := by
 have hA : N / B64 ^ (k / 8) % 2 ^ (8 * (k % 8) + 8) = 0 := by
  have e : 256 ^ (k + 1) = B64 ^ (k / 8) * 2 ^ (8 * (k % 8) + 8) := by rw [Nat.pow_succ, t0k, Nat.mul_assoc, Nat.pow_add]
  rw [e] at hN
  rw [← Nat.mod_mul_right_div_self, hN, Nat.zero_div]
 obtain ⟨h1, h2⟩ := A0b (N / B64 ^ (k / 8)) (x * 2 ^ (8 * (k % 8))) (8 * (k % 8)) ap16 (g0p x _ hx) hA
 have e : N + x * 256 ^ k = N + B64 ^ (k / 8) * (x * 2 ^ (8 * (k % 8))) := by rw [t0k, Nat.mul_left_comm]
 rw [e]
 apply List.ext_getElem?
 intro i
 rw [List.getElem?_set, b0D]
 rcases Nat.lt_or_ge i n with hi | hi
 ·rw [c0K _ _ _ hi, c0K _ _ _ hi]
  rcases Nat.lt_trichotomy i (k / 8) with h | h | h
  ·rw [if_neg ap16, i0F _ _ _ _ h]
  ·subst h
   rw [if_pos rfl, if_pos hi]
   congr 1
   have := c0U N (x * 2 ^ (8 * (k % 8))) (k / 8) 0
   rw [Nat.add_zero] at this
   rw [this]
   simp only [lw, Nat.pow_zero, Nat.div_one]
   exact h1
  ·rw [if_neg ap16]
   congr 1
   obtain ⟨j, rfl⟩ : ∃ j, i = k / 8 + (1 + j) := ⟨i - k / 8 - 1, by omega⟩
   rw [c0U, ← c0B N, ← c0B _ 1 j, ← c0B _ 1 j, Nat.pow_one, h2]
 ·rw [if_neg ap16, List.getElem?_eq_none (by rw [b0D]; exact hi), List.getElem?_eq_none (by rw [b0D]; exact hi)]
def a0P (N : Nat) : List UInt8 := (List.range 32).map fun i => UInt8.ofNat (N / 256 ^ (31 - i))
theorem a0X (N : Nat) : (a0P N).length = 32 := by simp [a0P]
theorem k0Y (N i : Nat) (h : i < 32) : (a0P N).getD i 0 = UInt8.ofNat (N / 256 ^ (31 - i)) := by simp [a0P, List.getD_eq_getElem?_getD, h]
theorem t0m (N k : Nat) : lw N (k / 8) / 2 ^ (8 * (k % 8)) % 256 = N / 256 ^ k % 256 := by
 unfold lw
 rw [t0k, ← Nat.div_div_eq_div_mul]
 generalize N / B64 ^ (k / 8) = A
 have hr : 8 * (k % 8) + 8 ≤ 64 := by omega
 generalize 8 * (k % 8) = r at *
 have e : B64 = 2 ^ r * 2 ^ (64 - r) := by rw [← Nat.pow_add, show r + (64 - r) = 64 by omega]
 rw [e, Nat.mod_mul_right_div_self]
 exact Nat.mod_mod_of_dvd _ ⟨2 ^ (64 - r - 8), by rw [show (256 : Nat) = 2 ^ 8 from rfl, ← Nat.pow_add, show 8 + (64 - r - 8) = 64 - r by omega]⟩
theorem y0I (N i : Nat) : lw N (i / 64) / 2 ^ (i % 64) % 2 = N / 2 ^ i % 2 := by
 unfold lw
 have e1 : 2 ^ i = B64 ^ (i / 64) * 2 ^ (i % 64) := by
  rw [show B64 = 2 ^ 64 from rfl, ← Nat.pow_mul, ← Nat.pow_add]
  congr 1; omega
 rw [e1, ← Nat.div_div_eq_div_mul]
 generalize N / B64 ^ (i / 64) = A
 have hr : i % 64 + 1 ≤ 64 := by omega
 generalize i % 64 = r at *
 have e : B64 = 2 ^ r * 2 ^ (64 - r) := by rw [← Nat.pow_add, show r + (64 - r) = 64 by omega]
 rw [e, Nat.mod_mul_right_div_self]
 exact Nat.mod_mod_of_dvd _ ⟨2 ^ (64 - r - 1), by rw [show (2 : Nat) ^ (64 - r) = 2 ^ (1 + (64 - r - 1)) by congr 1; omega, Nat.pow_add, Nat.pow_one]⟩
theorem p0N (N : Nat) (h : N < 256 ^ 32) : beN (a0P N) = N := by
 have key : ∀ n, n ≤ 32 → beN ((a0P N).take n) = N / 256 ^ (32 - n) := by
  intro n
  induction n with
  | zero => intro _; simp only [List.take_zero, o0r, Nat.sub_zero]; exact (Nat.div_eq_of_lt h).symm
  | succ n ih =>
   intro hn
   rw [p0K _ _ (by rw [a0X]; omega), ih ap16, k0Y _ _ ap16, show 32 - (n + 1) = 31 - n by omega, show 32 - n = (31 - n) + 1 by omega, Nat.pow_succ, ← Nat.div_div_eq_div_mul]
   simp only [UInt8.toNat_ofNat']
   have := Nat.div_add_mod (N / 256 ^ (31 - n)) 256
   show _ * 256 + N / 256 ^ (31 - n) % 256 = _
   omega
 have := key 32 (Nat.le_refl _)
 rw [List.take_of_length_le (by rw [a0X]; exact Nat.le_refl _)] at this
 simpa using this
def b0C (a n p i : Nat) : Nat := a ^ (n / 2 ^ i) % p
theorem w0s (a n p : Nat) (hp : 1 < p) (hn : n < B64 ^ 4) : b0C a n p 256 = 1 := by
 unfold b0C
 rw [Nat.div_eq_of_lt (Nat.lt_of_lt_of_le hn ap15), Nat.pow_zero, Nat.mod_eq_of_lt hp]
theorem w0t (a n p : Nat) : b0C a n p 0 = a ^ n % p := by unfold b0C; rw [Nat.pow_zero, Nat.div_one]
theorem e0p (n i : Nat) : n / 2 ^ i = 2 * (n / 2 ^ (i + 1)) + n / 2 ^ i % 2 := by
 rw [Nat.pow_succ, ← Nat.div_div_eq_div_mul]
 have := Nat.div_add_mod (n / 2 ^ i) 2
 omega
theorem r0r (a n p i : Nat) (h : n / 2 ^ i % 2 = 0) : b0C a n p (i + 1) * b0C a n p (i + 1) % p = b0C a n p i := by
 unfold b0C
 rw [← Nat.mul_mod, ← Nat.pow_add]
 have := e0p n i
 rw [h, Nat.two_mul, Nat.add_zero] at this
 rw [this]
theorem r0s (a n p i : Nat) (h : n / 2 ^ i % 2 = 1) : b0C a n p (i + 1) * b0C a n p (i + 1) * a % p = b0C a n p i := by
 have := e0p n i
 rw [h] at this
 unfold b0C
 rw [← Nat.mod_mul_mod (_ * _), ← Nat.mul_mod, ← Nat.pow_add, Nat.mod_mul_mod, ← Nat.pow_succ, this, Nat.two_mul]
theorem w0u (s : ByteArray) (h : s.size = 32) : beN s.data.toList < B64 ^ 4 := by
 have := t0j s.data.toList
 rw [show s.data.toList.length = s.size by simp, h] at this
 exact Nat.lt_of_lt_of_le this ap15
theorem f0t (l : List UInt8) (h : l.length ≤ 32) : beN l < B64 ^ 4 :=
 Nat.lt_of_lt_of_le (t0j l) (Nat.le_trans (Nat.pow_le_pow_right ap15 h) ap15)
theorem j0W (a b : List UInt8) : beN (a ++ b) = beN a * 256 ^ b.length + beN b := by
 have key : ∀ (n : Nat) (b : List UInt8), b.length = n → beN (a ++ b) = beN a * 256 ^ n + beN b := by
  intro n
  induction n with
  | zero => intro b hb; rw [List.length_eq_zero_iff.1 hb]; simp [o0r]
  | succ n ih =>
   intro b hb
   obtain ⟨m, x, rfl⟩ : ∃ m x, b = m ++ [x] := by
    rcases List.eq_nil_or_concat b with h | ⟨m, x, h⟩
    ·subst h; simp at hb
    ·exact ⟨m, x, by simpa using h⟩
   rw [← List.append_assoc, e0I, ih m (by simpa using hb), e0I, Nat.pow_succ, Nat.add_mul, ← Nat.mul_assoc, Nat.add_assoc]
 exact key _ b rfl
theorem m0L (l : List UInt8) (r k : Nat) (h : r + k ≤ l.length) : beN (l.take (r + k)) = beN (l.take r) * 256 ^ k + beN ((l.drop r).take k) := by
 rw [List.take_add, j0W]
 congr 3
 simp; omega
end Mvp
namespace Go.Proofs.YtemcankmggmgoaaGreat
section
open Go.RowKit Go.Mv Mvp
attribute [local irreducible] a0C lw mix cw b0k b0y b0j a0M a0n beN b0F a0P
theorem k0Z (x : UInt8) (r : Nat) (hr : r + 8 ≤ 64) : (shl (wid x) r).toNat = x.toNat * 2 ^ r := by
 have hx := x.toNat_lt
 have h1 : x.toNat * 2 ^ r < 2 ^ (r + 8) := g0p x.toNat r hx
 have h2 : 2 ^ (r + 8) ≤ 2 ^ 64 := Nat.pow_le_pow_right ap16 hr
 simp only [shl, wid, UInt64.toNat_ofNat', UInt8.toNat_toUInt64]
 exact Nat.mod_eq_of_lt (Nat.lt_of_lt_of_le h1 h2)
theorem y0J (s : ByteArray) (w : World) (hs : s.size ≤ 32) :
  Calls Tryz.prog 173 #[.string s] w fun e w' => e = .returned (i4 (beN s.data.toList)) ∧ Fr Nob w w' := by
 have HS := qH hs
 have hsz : s.data.toList.length = s.size := by simp
 have HSZ := qH hsz
 clear hs hsz
 have st0 := St.start Nob w
 go_enter Tryz.func173, Tryz.ntmps173
 go_wp2_with (with_reducible refine wSk 2 ?_)
 refine a0a st0 rfl rfl (z := zAd) ap14 (cw 4 0) ap12 ?_
 intro g2 w1 st1
 clear st0
 go_wp2_with (with_reducible refine wSk 3 ?_)
 refine a0a st1 rfl rfl (z := zAd) ap14 (cw 4 0) ap12 ?_
 intro g3 w2 st2
 clear st1
 have hmx : s.size ≤ 32 := HS.out
 go_wp2
 go_loopw [4] (fun i wr => ∃ k : Nat, k ≤ s.size ∧ i = .int .i64 (k : Int) ∧ St Nob w wr [(g2, cw 4 0, 60), (g3, cw 4 (b0F s.data.toList k), 60)]) (fun i _ => s.size - (intOf i).toNat)
 case atStart => exact ⟨0, by omega, rfl, by rw [m0J]; exact st2⟩
 case round =>
  obtain ⟨i, hi, rfl, st⟩ := hrel
  clear st2
  by_cases hlt : i < s.size
  ·have hltI : (i : Int) < (s.size : Int) := by omega
   have hll : i < s.data.toList.length := by rw [HSZ.out]; exact hlt
   have hstep := t0l 4 (b0F s.data.toList i) (s.size - 1 - i) (s.data.toList.getD i 0).toNat (UInt8.toNat_lt _) (by have := p0M s.data.toList i hll; rwa [HSZ.out] at this) ap16
   have hsucc := m0K s.data.toList i hll
   rw [HSZ.out] at hsucc
   rw [← hsucc] at hstep
   have hx : ∀ h1 : i < s.size, s[i]'h1 = s.data.toList.getD i 0 := by
    intro h1
    rw [List.getD_eq_getElem?_getD, List.getElem?_eq_getElem (by simpa using h1)]
    simp
    rfl
   have hd1 : (s.size : Int) - 1 - (i : Int) = ((s.size - 1 - i : Nat) : Int) := by omega
   generalize hN' : b0F s.data.toList (i + 1) = N' at *
   have HN' := qH hN'; clear hN'
   generalize hN : b0F s.data.toList i = N at *
   generalize s.data.toList.getD i 0 = x at *
   have hk32 : s.size - 1 - i < 32 := by omega
   generalize hk : s.size - 1 - i = k at *
   have HN := qH hN; clear hN
   have HK := qH hk; clear hk
   have HSTEP := qH hstep; clear hstep
   have HD := qH hd1; clear hd1 hsucc hll
   have c1 := (st.at 1 rfl).cell (a0G 4 N (k / 8) ap16)
   have f1 := (st.at 1 rfl).free (k / 8) (by rw [a0i]; omega)
   have hlo : (0 : Int) ≤ (k : Int) / 8 ∧ (k : Int) / 8 < 4 := by omega
   have hor := bits_or_u64_nat (lw N (k / 8)) ((shl (wid x) (8 * (k % 8))).toNat) (c0Q _ _) (f0F _)
   rw [k0Z x (8 * (k % 8)) ap16] at hor
   simp only [Int.natCast_mul, Int.natCast_pow, Int.cast_ofNat_Int] at hor
   have HSH := qH (k0Z x (8 * (k % 8)) ap16)
   go_wp2_with fail
   rw [HD.out]
   have e1 : IntKind.i64.wrap ((k : Int) / 8) = (k : Int) / 8 := IntWalk.i64_in _ ap16
   have e2 : (k : Int).tmod 8 = (k : Int) % 8 := Int.tmod_eq_emod_of_nonneg ap16
   have e3 : IntKind.i64.wrap (8 * ((k : Int) % 8)) = 8 * ((k : Int) % 8) := IntWalk.i64_in _ ap16
   have e4 : ((k : Int) / 8).toNat = k / 8 := by omega
   refine wp_region_still_tail 16 ap14 ap14 ?_
   simp only [List.take_succ_cons, List.take_zero, List.drop_succ_cons, List.drop_zero]
   repeat still_step
   refine wpStill_nil ?_
   have hsh := HSH.out
   have hst := (st.set 1 rfl (k / 8) (.int .u64 ((lw N (k / 8) ||| x.toNat * 2 ^ (8 * (k % 8)) : Nat) : Int))).drew
   have hS : (cw 4 N).set (k / 8) (.int .u64 ((lw N (k / 8) ||| x.toNat * 2 ^ (8 * (k % 8)) : Nat) : Int)) = cw 4 N' := by
    rw [cw, m0F, HSTEP.out, cw]
   rw [hS] at hst
   have HST := qH hst
   clear hst hS
   go_wp2
   go_roundw
   case rel => exact ⟨i + 1, by omega, by go_num, by rw [HN'.out]; exact HST.out⟩
   case measure => simp [intOf]; omega
  ·have hge : ¬ ((i : Int) < (s.size : Int)) := by omega
   have hi2 : i = s.data.toList.length := by rw [HSZ.out]; omega
   rw [hi2, p0L] at st
   clear hi2
   go_wp2_with (with_reducible refine wSk 33 ?_)
   refine a0k st 1 rfl rfl rfl Tryz.underlying60 rfl (by rw [a0i]; exact e0o) ?_
   go_wp2_with (with_reducible refine wSn ?_)
   refine a0b st 0 rfl rfl rfl rfl rfl (by rw [a0i, a0i]) (by rw [a0i]; exact e0o) (a0f _ _) ?_
   intro w9 st9
   clear st
   have hr := st9.at 0 rfl
   have hfr := st9.fr
   clear st9
   go_wp2
   exact bodyPost_ret (a0v rfl rfl hr Tryz.underlying60 (by rw [a0i]; exact e0o)) rfl ⟨rfl, hfr⟩
theorem l0a : (Tryz.prog.info? 111).map (·.size) = some 4 := by kernel_rfl
theorem c0k (a : Option Addr) (n c : Nat) (l : List UInt8) (w : World) (hb : RdB w a n l) (hs : n ≤ 32) :
  Calls Tryz.prog 144 #[.slice a n c] w fun e w' => e = .returned (i4 (beN l)) ∧ Fr Nob w w' := by
 have HS := qH hs
 have hsz : l.length = n := hb.len
 have HBB := qH hb; clear hb
 have HSZ := qH hsz
 clear hs hsz
 have st0 := St.start Nob w
 go_enter Tryz.func144, Tryz.ntmps144
 go_wp2_with (with_reducible refine wSk 2 ?_)
 refine a0a st0 rfl rfl (z := zAd) ap14 (cw 4 0) ap12 ?_
 intro g2 w1 st1
 clear st0
 have hmx : n ≤ 32 := HS.out
 go_wp2
 go_loopw [8] (fun i wr => ∃ k : Nat, k ≤ n ∧ i = .int .i64 (k : Int) ∧ St Nob w wr [(g2, cw 4 (b0F l k), 111)]) (fun i _ => n - (intOf i).toNat)
 case atStart => exact ⟨0, by omega, rfl, by rw [m0J]; exact st1⟩
 case round =>
  obtain ⟨i, hi, rfl, st⟩ := hrel
  clear st1
  by_cases hlt : i < n
  ·have hltI : (i : Int) < (n : Int) := by omega
   have hll : i < l.length := by rw [HSZ.out]; exact hlt
   have hstep := t0l 4 (b0F l i) (n - 1 - i) (l.getD i 0).toNat (UInt8.toNat_lt _) (by have := p0M l i hll; rwa [HSZ.out] at this) ap16
   have hsucc := m0K l i hll
   rw [HSZ.out] at hsucc
   rw [← hsucc] at hstep
   obtain ⟨gb, ob, rfl, hcx⟩ := (HBB.out.still st.fr).at ap16
   have hx := hcx i hlt
   clear hcx
   have hd1 : (n : Int) - 1 - (i : Int) = ((n - 1 - i : Nat) : Int) := by omega
   generalize hN' : b0F l (i + 1) = N' at *
   have HN' := qH hN'; clear hN'
   generalize hN : b0F l i = N at *
   generalize l.getD i 0 = x at *
   have hk32 : n - 1 - i < 32 := by omega
   generalize hk : n - 1 - i = k at *
   have HN := qH hN; clear hN
   have HK := qH hk; clear hk
   have HSTEP := qH hstep; clear hstep
   have HD := qH hd1; clear hd1 hsucc hll
   have c1 := (st.at 0 rfl).cell (a0G 4 N (k / 8) ap16)
   have f1 := (st.at 0 rfl).free (k / 8) (by rw [a0i]; omega)
   have hlo : (0 : Int) ≤ (k : Int) / 8 ∧ (k : Int) / 8 < 4 := by omega
   have hor := bits_or_u64_nat (lw N (k / 8)) ((shl (wid x) (8 * (k % 8))).toNat) (c0Q _ _) (f0F _)
   rw [k0Z x (8 * (k % 8)) ap16] at hor
   simp only [Int.natCast_mul, Int.natCast_pow, Int.cast_ofNat_Int] at hor
   have HSH := qH (k0Z x (8 * (k % 8)) ap16)
   go_wp2_with fail
   rw [HD.out]
   have e1 : IntKind.i64.wrap ((k : Int) / 8) = (k : Int) / 8 := IntWalk.i64_in _ ap16
   have e2 : (k : Int).tmod 8 = (k : Int) % 8 := Int.tmod_eq_emod_of_nonneg ap16
   have e3 : IntKind.i64.wrap (8 * ((k : Int) % 8)) = 8 * ((k : Int) % 8) := IntWalk.i64_in _ ap16
   have e4 : ((k : Int) / 8).toNat = k / 8 := by omega
   refine wp_region_still_tail 12 ap14 ap14 ?_
   simp only [List.take_succ_cons, List.take_zero, List.drop_succ_cons, List.drop_zero]
   repeat still_step
   refine wpStill_nil ?_
   have hsh := HSH.out
   have hst := (st.set 0 rfl (k / 8) (.int .u64 ((lw N (k / 8) ||| x.toNat * 2 ^ (8 * (k % 8)) : Nat) : Int))).drew
   have hS : (cw 4 N).set (k / 8) (.int .u64 ((lw N (k / 8) ||| x.toNat * 2 ^ (8 * (k % 8)) : Nat) : Int)) = cw 4 N' := by
    rw [cw, m0F, HSTEP.out, cw]
   rw [hS] at hst
   have HST := qH hst
   clear hst hS
   go_wp2
   go_roundw
   case rel => exact ⟨i + 1, by omega, by go_num, by rw [HN'.out]; exact HST.out⟩
   case measure => simp [intOf]; omega
  ·have hge : ¬ ((i : Int) < (n : Int)) := by omega
   have hi2 : i = l.length := by rw [HSZ.out]; omega
   rw [hi2, p0L] at st
   clear hi2
   go_wp2_with (with_reducible refine wSk 31 ?_)
   refine a0k st 0 rfl rfl rfl Tryz.underlying111 rfl (by rw [a0i]; exact l0a) ?_
   go_wp2_with (with_reducible refine wSn ?_)
   refine a0b st 0 rfl rfl rfl rfl rfl (by rw [a0i]) (by rw [a0i]; exact l0a) (a0f _ _) ?_
   intro w9 st9
   clear st
   have hr := st9.at 0 rfl
   have hfr := st9.fr
   clear st9
   go_wp2
   exact bodyPost_ret (a0v rfl rfl hr Tryz.underlying111 (by rw [a0i]; exact l0a)) rfl ⟨rfl, hfr⟩
end
section
open Go.RowKit Go.Mv Mvp
theorem l0b {k : IntKind} {a b : Int} (h : a = b) : Ending.returned (.int k a) = .returned (.int k b) := by rw [h]
attribute [local irreducible] a0C lw mix cw b0k b0y b0j a0M a0n beN b0F a0P
theorem j0X (N : Nat) (w : World) :
  Calls Tryz.prog 121 #[i4 N] w fun e w' => ∃ v, e = .returned v ∧ Own w' w.heap.size 5 1 v 32 (bs (a0P N)) ∧ Fr Nob w w' := by
 have st0 := St.start Nob w
 go_enter Tryz.func121, Tryz.ntmps121
 go_wp2_with (with_reducible refine wSk 1 ?_)
 refine a0l st0 rfl rfl rfl (cw 4 N) rfl ?_
 intro g1 w1 st1
 clear st0
 go_wp2_with (with_reducible refine wSk 6 ?_)
 refine c0y rfl rfl Tryz.underlying22 b0K rfl rfl rfl 32 32 ap17 ap17 ap16 ap16 ap11 ?_
 intro w2 hg2 hf2 hz2
 clear hz2
 have hb2 : w.heap.size ≤ w1.heap.size := st1.fr.size
 have st2 := st1.new hf2 hg2 (Nat.le_refl _)
 clear st1 hg2 hf2
 generalize w1.heap.size = gb at *
 have HBB := qH hb2; clear hb2
 go_wp2
 go_loopw [9] (fun i wr => ∃ k : Nat, k ≤ 32 ∧ i = .int .i64 (k : Int) ∧ St Nob w wr [(g1, cw 4 N, 111), (gb, bs (fill (a0P N) (List.replicate 32 0) k), 5)]) (fun i _ => 32 - (intOf i).toNat)
 case atStart => exact ⟨0, by omega, rfl, st2⟩
 case round =>
  obtain ⟨i, hi, rfl, st⟩ := hrel
  clear st2
  by_cases hlt : i < 32
  ·have hltI : (i : Int) < 32 := by omega
   have hd1 : (31 : Int) - (i : Int) = ((31 - i : Nat) : Int) := by omega
   have hgl := k0Y N i hlt
   have hgb := t0m N (31 - i)
   have hk32 : 31 - i < 32 := by omega
   generalize hk : 31 - i = k at *
   have HK := qH hk; clear hk
   have HGL := qH hgl; clear hgl
   have HGB := qH hgb; clear hgb
   have c1 := (st.at 0 rfl).cell (a0G 4 N (k / 8) ap16)
   obtain ⟨v3, c3, f3⟩ := (st.at 1 rfl).ready (i := i) (by rw [a0I, e0z _ _ _ (by rw [a0X]; simp)]; simpa using hlt)
   have hlo : (0 : Int) ≤ (k : Int) / 8 ∧ (k : Int) / 8 < 4 := by omega
   have e4 : ((k : Int) / 8).toNat = k / 8 := by omega
   go_wp2
   go_roundw
   case rel =>
    have h1 := st.set 1 rfl i (.int .u8 (((a0P N).getD i 0).toNat : Int))
    rw [h0m, k0H _ _ _ (by rw [a0X]; simp) (by rw [a0X]; omega)] at h1
    have e : (((a0P N).getD i 0).toNat : Int) = (lw N (k / 8) : Int) / 2 ^ (8 * (k % 8)) % 256 := by
     rw [HGL.out, UInt8.toNat_ofNat']
     have := HGB.out
     rw [show (2 : Nat) ^ 8 = 256 from rfl, ← this]
     simp
    rw [e] at h1
    exact ⟨i + 1, by omega, by go_num, h1⟩
   case measure => simp [intOf]; omega
  ·have hge : ¬ ((i : Int) < 32) := by omega
   have hi32 : i = 32 := by omega
   have hown : Own wr w.heap.size 5 1 (.slice (some ⟨gb, 0, none⟩) 32 32) 32 (bs (a0P N)) := by
    have h := st.at 1 rfl
    rw [hi32, h0E _ _ _ (by rw [a0X]; simp) (by rw [a0X]; exact Nat.le_refl _)] at h
    have := Own.made h w.heap.size HBB.out 1 32 32 (Nat.le_refl _) ap11 (by rw [a0I, a0X]; omega)
    rwa [List.take_of_length_le (by rw [a0I, a0X]; exact Nat.le_refl _)] at this
   have hfr := st.fr
   clear st hi32
   go_wp2
   go_ret
   exact ⟨_, rfl, hown, hfr⟩
theorem h0b (N : Nat) (w : World) :
  Calls Tryz.prog 59 #[i4 N] w fun e w' => e = .returned (.string (mkS (a0P N))) ∧ Fr Nob w w' := by
 have st0 := St.start Nob w
 go_enter Tryz.func59, Tryz.ntmps59
 go_wp2_with (with_reducible refine wSk 1 ?_)
 refine a0l st0 rfl rfl rfl (cw 4 N) rfl ?_
 intro g1 w1 st1
 clear st0
 go_wp2_with (with_reducible refine wSk 6 ?_)
 refine c0y rfl rfl Tryz.underlying22 b0K rfl rfl rfl 32 32 ap17 ap17 ap16 ap16 ap11 ?_
 intro w2 hg2 hf2 hz2
 clear hz2
 have hb2 : w.heap.size ≤ w1.heap.size := st1.fr.size
 have st2 := st1.new hf2 hg2 (Nat.le_refl _)
 clear st1 hg2 hf2
 generalize w1.heap.size = gb at *
 have HBB := qH hb2; clear hb2
 go_wp2
 go_loopw [4] (fun i wr => ∃ k : Nat, k ≤ 32 ∧ i = .int .i64 (k : Int) ∧ St Nob w wr [(g1, cw 4 N, 60), (gb, bs (fill (a0P N) (List.replicate 32 0) k), 5)]) (fun i _ => 32 - (intOf i).toNat)
 case atStart => exact ⟨0, by omega, rfl, st2⟩
 case round =>
  obtain ⟨i, hi, rfl, st⟩ := hrel
  clear st2
  by_cases hlt : i < 32
  ·have hltI : (i : Int) < 32 := by omega
   have hd1 : (31 : Int) - (i : Int) = ((31 - i : Nat) : Int) := by omega
   have hgl := k0Y N i hlt
   have hgb := t0m N (31 - i)
   have hk32 : 31 - i < 32 := by omega
   generalize hk : 31 - i = k at *
   have HK := qH hk; clear hk
   have HGL := qH hgl; clear hgl
   have HGB := qH hgb; clear hgb
   have c1 := (st.at 0 rfl).cell (a0G 4 N (k / 8) ap16)
   obtain ⟨v3, c3, f3⟩ := (st.at 1 rfl).ready (i := i) (by rw [a0I, e0z _ _ _ (by rw [a0X]; simp)]; simpa using hlt)
   have hlo : (0 : Int) ≤ (k : Int) / 8 ∧ (k : Int) / 8 < 4 := by omega
   have e4 : ((k : Int) / 8).toNat = k / 8 := by omega
   go_wp2
   go_roundw
   case rel =>
    have h1 := st.set 1 rfl i (.int .u8 (((a0P N).getD i 0).toNat : Int))
    rw [h0m, k0H _ _ _ (by rw [a0X]; simp) (by rw [a0X]; omega)] at h1
    have e : (((a0P N).getD i 0).toNat : Int) = (lw N (k / 8) : Int) / 2 ^ (8 * (k % 8)) % 256 := by
     rw [HGL.out, UInt8.toNat_ofNat']
     have := HGB.out
     rw [show (2 : Nat) ^ 8 = 256 from rfl, ← this]
     simp
    rw [e] at h1
    exact ⟨i + 1, by omega, by go_num, h1⟩
   case measure => simp [intOf]; omega
  ·have hge : ¬ ((i : Int) < 32) := by omega
   have hi32 : i = 32 := by omega
   have hrd : RdB wr (some ⟨gb, 0, none⟩) 32 (a0P N) := by
    have h := st.at 1 rfl
    rw [hi32, h0E _ _ _ (by rw [a0X]; simp) (by rw [a0X]; exact Nat.le_refl _)] at h
    have := Rd.whole h
    rwa [a0I, a0X] at this
   have hfr := st.fr
   clear st hi32
   go_wp2_with (with_reducible refine wSk 26 ?_)
   refine e0e rfl rfl Tryz.underlying22 Tryz.underlying5 Tryz.underlying9 rfl hrd ?_
   go_wp2
   go_ret
   exact ⟨rfl, hfr⟩
theorem g0q (N i : Nat) (w : World) (hi : i < 256) :
  Calls Tryz.prog 138 #[i4 N, .int .i64 (i : Int)] w fun e w' => e = .returned (.int .u64 ((N / 2 ^ i % 2 : Nat) : Int)) ∧ Fr Nob w w' := by
 have hb := y0I N i
 have HB := qH hb; clear hb
 have st0 := St.start Nob w
 go_enter Tryz.func138, Tryz.ntmps138
 go_wp2_with (with_reducible refine wSk 2 ?_)
 refine a0l st0 rfl rfl rfl (cw 4 N) rfl ?_
 intro g1 w1 st1
 clear st0
 have c1 := (st1.at 0 rfl).cell (a0G 4 N (i / 64) ap16)
 have hlo : (0 : Int) ≤ (i : Int) / 64 ∧ (i : Int) / 64 < 4 := by omega
 have hlo2 : (0 : Int) ≤ (i : Int) % 64 ∧ (i : Int) % 64 < 64 := by omega
 have e4 : ((i : Int) / 64).toNat = i / 64 := by omega
 have e5 : ((i : Int) % 64).toNat = i % 64 := by omega
 have hfr := st1.fr
 clear st1
 have hw : lw N (i / 64) / 2 ^ (i % 64) < 18446744073709551616 := Nat.lt_of_le_of_lt (Nat.div_le_self _ _) (c0Q _ _)
 have ha := bits_and_u64_nat (lw N (i / 64) / 2 ^ (i % 64)) 1 hw ap16
 rw [Nat.and_one_is_mod] at ha
 simp only [Int.natCast_ediv, Int.natCast_pow, Int.cast_ofNat_Int] at ha
 go_wp2
 go_ret
 refine ⟨l0b ?_, hfr⟩
 rw [← HB.out]
 simp
theorem p0O (N i : Nat) (w : World) (hi : i < 256) :
  Calls Tryz.prog 199 #[i4 N, .int .i64 (i : Int)] w fun e w' => e = .returned (.int .u64 ((N / 2 ^ i % 2 : Nat) : Int)) ∧ Fr Nob w w' := by
 have hb := y0I N i
 have HB := qH hb; clear hb
 have st0 := St.start Nob w
 go_enter Tryz.func199, Tryz.ntmps199
 go_wp2_with (with_reducible refine wSk 2 ?_)
 refine a0l st0 rfl rfl rfl (cw 4 N) rfl ?_
 intro g1 w1 st1
 clear st0
 have c1 := (st1.at 0 rfl).cell (a0G 4 N (i / 64) ap16)
 have hlo : (0 : Int) ≤ (i : Int) / 64 ∧ (i : Int) / 64 < 4 := by omega
 have hlo2 : (0 : Int) ≤ (i : Int) % 64 ∧ (i : Int) % 64 < 64 := by omega
 have e4 : ((i : Int) / 64).toNat = i / 64 := by omega
 have e5 : ((i : Int) % 64).toNat = i % 64 := by omega
 have hfr := st1.fr
 clear st1
 have hw : lw N (i / 64) / 2 ^ (i % 64) < 18446744073709551616 := Nat.lt_of_le_of_lt (Nat.div_le_self _ _) (c0Q _ _)
 have ha := bits_and_u64_nat (lw N (i / 64) / 2 ^ (i % 64)) 1 hw ap16
 rw [Nat.and_one_is_mod] at ha
 simp only [Int.natCast_ediv, Int.natCast_pow, Int.cast_ofNat_Int] at ha
 go_wp2
 go_ret
 refine ⟨l0b ?_, hfr⟩
 rw [← HB.out]
 simp
end
section
open Go.RowKit Go.Mv Mvp
attribute [local irreducible] a0C lw mix cw b0k b0y b0j a0M a0n beN b0F a0P b0C
theorem A0c (a n p i : Nat) (hp : 0 < p) : b0C a n p i < p := by unfold b0C; exact Nat.mod_lt _ hp
theorem o0s (p a n : Nat) (w : World) (hp1 : 1 < p) (hp : p < B64 ^ 4) (ha : a < B64 ^ 4) (hn : n < B64 ^ 4) :
  Calls Tryz.prog 167 #[fv p, i4 a, i4 n] w fun e w' => e = .returned (i4 (a ^ n % p)) ∧ Fr Nob w w' := by
 have HP1 := qH hp1
 have HP := qH hp
 have HA := qH ha
 have HN := qH hn
 have HP0 := qH (show 0 < p by omega)
 have H1 := qH (show (1 : Nat) = b0C a n p 256 from (w0s a n p hp1 hn).symm)
 clear hp1 hp ha hn
 have st0 := St.start Nob w
 go_enter Tryz.func167, Tryz.ntmps167
 go_wp2_with (with_reducible refine wSk 3 ?_)
 refine a0l st0 rfl rfl rfl (cw 4 p ++ cw 4 (B64 ^ 4 - p)) rfl ?_
 intro g3 w1 st1
 clear st0
 go_wp2_with (with_reducible refine wSk 4 ?_)
 refine a0l st1 rfl rfl rfl (cw 4 a) rfl ?_
 intro g4 w2 st2
 clear st1
 go_wp2_with (with_reducible refine wSk 5 ?_)
 refine a0l st2 rfl rfl rfl (cw 4 n) rfl ?_
 intro g5 w3 st3
 clear st2
 go_wp2_with (with_reducible refine wSk 6 ?_)
 refine a0a st3 rfl rfl (z := zAd) ap14 (cw 4 0) ap12 ?_
 intro g6 w4 st4
 clear st3
 go_wp2_with fail
 refine (i0L 1 _ ap15).mono ?_
 rintro e' w5 ⟨rfl, hf5⟩
 have st5 := st4.keep hf5
 clear st4 hf5
 go_wp2_with (with_reducible refine wSk 7 ?_)
 refine a0a st5 rfl rfl (z := zAd) ap14 (cw 4 0) ap12 ?_
 intro g7 w6 st6
 clear st5
 go_wp2_with (with_reducible refine wSn ?_)
 refine a0b st6 4 rfl rfl rfl rfl rfl ap5 ap9 (a0f _ _) ?_
 intro w7 st7
 clear st6
 rw [show (1 : Nat) = b0C a n p 256 from H1.out] at st7
 go_wp2
 go_loopw [8] (fun i wr => ∃ j : Nat, j ≤ 256 ∧ i = .int .i64 ((j : Int) - 1) ∧ St Nob w wr [(g3, cw 4 p ++ cw 4 (B64 ^ 4 - p), 78), (g4, cw 4 a, 60), (g5, cw 4 n, 60), (g6, cw 4 0, 60), (g7, cw 4 (b0C a n p j), 60)]) (fun i _ => (intOf i + 1).toNat)
 case atStart => exact ⟨256, by omega, rfl, st7⟩
 case round =>
  obtain ⟨j, hj, rfl, st⟩ := hrel
  clear st7
  cases j with
  | succ i =>
   rw [show (((i + 1 : Nat) : Int)) - 1 = (i : Int) by omega]
   have hge : (0 : Int) ≤ (i : Int) := by omega
   have hlt := A0c a n p (i + 1) HP0.out
   have HLT := qH (Nat.lt_trans hlt HP.out)
   clear hlt
   go_wp2_with (with_reducible refine wSk 14 ?_)
   refine a0p st 0 rfl rfl rfl Tryz.underlying78 rfl rfl ap4 ?_
   go_wp2_with (with_reducible refine wSk 15 ?_)
   refine a0k st 4 rfl rfl rfl Tryz.underlying60 rfl ap9 ?_
   go_wp2_with (with_reducible refine wSk 16 ?_)
   refine a0k st 4 rfl rfl rfl Tryz.underlying60 rfl ap9 ?_
   go_wp2_with fail
   refine (h0a p (b0C a n p (i + 1)) (b0C a n p (i + 1)) _ HP0.out HP.out HLT.out HLT.out).mono ?_
   rintro e' w8 ⟨rfl, hf8⟩
   have st8 := st.keep hf8
   clear st hf8
   go_wp2_with (with_reducible refine wSn ?_)
   refine a0b st8 4 rfl rfl rfl rfl rfl ap5 ap9 (a0f _ _) ?_
   intro w9 st9
   clear st8
   go_wp2_with (with_reducible refine wSk 18 ?_)
   refine a0k st9 2 rfl rfl rfl Tryz.underlying60 rfl ap9 ?_
   go_wp2_with fail
   refine (g0q n i _ ap16).mono ?_
   rintro e' w10 ⟨rfl, hf10⟩
   have st10 := st9.keep hf10
   clear st9 hf10
   have hbt : n / 2 ^ i % 2 = 0 ∨ n / 2 ^ i % 2 = 1 := by omega
   have HS0 := qH (r0r a n p i)
   have HS1 := qH (r0s a n p i)
   generalize hbb : n / 2 ^ i % 2 = bt at *
   have HBB := qH hbb
   clear hbb
   rcases hbt with rfl | rfl
   ·have hst := st10
    rw [HS0.out (by first | rfl | trivial)] at hst
    clear st10
    go_wp2
    go_roundw
    case rel => exact ⟨i, by omega, rfl, hst⟩
    case measure => simp [intOf]
   ·have HLQ := qH (show (b0C a n p (i + 1) * b0C a n p (i + 1) % p) < B64 ^ 4 from Nat.lt_trans (Nat.mod_lt _ HP0.out) HP.out)
    go_wp2_with (with_reducible refine wSk 22 ?_)
    refine a0p st10 0 rfl rfl rfl Tryz.underlying78 rfl rfl ap4 ?_
    go_wp2_with (with_reducible refine wSk 23 ?_)
    refine a0k st10 4 rfl rfl rfl Tryz.underlying60 rfl ap9 ?_
    go_wp2_with (with_reducible refine wSk 24 ?_)
    refine a0k st10 1 rfl rfl rfl Tryz.underlying60 rfl ap9 ?_
    go_wp2_with fail
    refine (h0a p (b0C a n p (i + 1) * b0C a n p (i + 1) % p) a _ HP0.out HP.out HLQ.out HA.out).mono ?_
    rintro e' w11 ⟨rfl, hf11⟩
    have st11 := st10.keep hf11
    clear st10 hf11
    go_wp2_with (with_reducible refine wSn ?_)
    refine a0b st11 4 rfl rfl rfl rfl rfl ap5 ap9 (a0f _ _) ?_
    intro w12 st12
    clear st11
    have hst := st12
    rw [HS1.out (by first | rfl | trivial)] at hst
    clear st12
    go_wp2
    go_roundw
    case rel => exact ⟨i, by omega, rfl, hst⟩
    case measure => simp [intOf]
  | zero =>
   rw [show (((0 : Nat) : Int)) - 1 = -1 by omega]
   go_wp2_with (with_reducible refine wSk 26 ?_)
   refine a0k st 4 rfl rfl rfl Tryz.underlying60 rfl ap9 ?_
   go_wp2_with (with_reducible refine wSn ?_)
   refine a0b st 3 rfl rfl rfl rfl rfl ap5 ap9 (a0f _ _) ?_
   intro w8 st8
   clear st
   have hr := st8.at 3 rfl
   have hfr := st8.fr
   clear st8
   go_wp2_with fail
   exact bodyPost_ret (a0v rfl rfl hr Tryz.underlying60 ap9) rfl ⟨by rw [w0t]; rfl, hfr⟩
theorem A0d (p a : Nat) (w : World) (hp1 : 1 < p) (hp : p < B64 ^ 4) (ha : a < B64 ^ 4) :
  Calls Tryz.prog 113 #[fv p, i4 a] w fun e w' => e = .returned (i4 (a ^ (p - 2) % p)) ∧ Fr Nob w w' := by
 have HP1 := qH hp1
 have HP := qH hp
 have HA := qH ha
 have HPP := qH (show p - 2 < B64 ^ 4 by omega)
 have h2l := fun wx => h0O p 2 wx ap15
 rw [i0G p 2 ap16, ← b0V 2 ap15] at h2l
 have H2L := qH h2l
 clear h2l
 clear hp1 hp ha
 have st0 := St.start Nob w
 go_enter Tryz.func113, Tryz.ntmps113
 go_wp2_with (with_reducible refine wSk 2 ?_)
 refine a0l st0 rfl rfl rfl (cw 4 p ++ cw 4 (B64 ^ 4 - p)) rfl ?_
 intro g2 w1 st1
 clear st0
 go_wp2_with (with_reducible refine wSk 3 ?_)
 refine a0l st1 rfl rfl rfl (cw 4 a) rfl ?_
 intro g3 w2 st2
 clear st1
 go_wp2_with (with_reducible refine wSk 4 ?_)
 refine a0a st2 rfl rfl (z := zAd) ap14 (cw 4 0) ap12 ?_
 intro g4 w3 st3
 clear st2
 go_wp2_with (with_reducible refine wSk 9 ?_)
 refine c0c rfl rfl Tryz.underlying60 rfl (st3.at 0 rfl) (cw 4 p) (f0a 4 4 _ _) ap9 ?_
 go_wp2_with fail
 refine (H2L.out _).mono ?_
 rintro e' w4 ⟨rfl, hf4⟩
 have st4 := st3.keep hf4
 clear st3 hf4
 go_wp2_with (with_reducible refine wSk 5 ?_)
 refine a0a st4 rfl rfl (z := zAd) ap14 (cw 4 0) ap12 ?_
 intro g5 w5 st5
 clear st4
 go_wp2_with (with_reducible refine wSn ?_)
 refine a0b st5 3 rfl rfl rfl rfl rfl ap5 ap9 (a0f _ _) ?_
 intro w6 st6
 clear st5
 go_wp2_with (with_reducible refine wSk 14 ?_)
 refine a0p st6 0 rfl rfl rfl Tryz.underlying78 rfl rfl ap4 ?_
 go_wp2_with (with_reducible refine wSk 15 ?_)
 refine a0k st6 1 rfl rfl rfl Tryz.underlying60 rfl ap9 ?_
 go_wp2_with (with_reducible refine wSk 16 ?_)
 refine a0k st6 3 rfl rfl rfl Tryz.underlying60 rfl ap9 ?_
 go_wp2_with fail
 refine (o0s p a (p - 2) _ HP1.out HP.out HA.out HPP.out).mono ?_
 rintro e' w7 ⟨rfl, hf7⟩
 have st7 := st6.keep hf7
 clear st6 hf7
 go_wp2_with (with_reducible refine wSn ?_)
 refine a0b st7 2 rfl rfl rfl rfl rfl ap5 ap9 (a0f _ _) ?_
 intro w8 st8
 clear st7
 have hr := st8.at 2 rfl
 have hfr := st8.fr
 clear st8
 go_wp2_with fail
 exact bodyPost_ret (a0v rfl rfl hr Tryz.underlying60 ap9) rfl ⟨rfl, hfr⟩
end
section
open Go.RowKit Go.Mv Mvp
attribute [local irreducible] a0C lw mix cw b0k b0y b0j a0M a0n beN b0F a0P b0C
theorem r0t (p : Nat) (s : ByteArray) (w : World) (hs : s.size ≠ 32) :
  Calls Tryz.prog 122 #[fv p, .string s] w fun e w' => e = .returned (.tuple #[i4 0, .bool false]) ∧ Fr Nob w w' := by
 have HS := qH hs
 have HZ := qH (b0V 0 ap15)
 clear hs
 have st0 := St.start Nob w
 go_enter Tryz.func122, Tryz.ntmps122
 go_wp2_with (with_reducible refine wSk 2 ?_)
 refine a0l st0 rfl rfl rfl (cw 4 p ++ cw 4 (B64 ^ 4 - p)) rfl ?_
 intro g2 w1 st1
 clear st0
 go_wp2_with (with_reducible refine wSk 4 ?_)
 refine a0a st1 rfl rfl (z := zAd) ap14 (cw 4 0) ap12 ?_
 intro g4 w2 st2
 clear st1
 have hne : ((s.size : Int) != 32) = true := by have := HS.out; simp; omega
 go_wp2_with (with_reducible refine wSn ?_)
 refine a0b st2 1 rfl rfl rfl rfl (cs := cw 4 0) HZ.out (by simp only [a0i]) ap9 (a0f _ _) ?_
 intro w9 st9
 clear st2
 have hr := st9.at 1 rfl
 have hfr := st9.fr
 clear st9
 go_wp2_with fail
 exact bodyPost_ret (b0c rfl rfl hr Tryz.underlying60 ap9 rfl) rfl ⟨rfl, hfr⟩
theorem m0M (p : Nat) (s : ByteArray) (w : World) (hs : s.size = 32) (hp : p < B64 ^ 4) :
  Calls Tryz.prog 122 #[fv p, .string s] w fun e w' => e = .returned (.tuple #[i4 (beN s.data.toList), .bool (decide (beN s.data.toList < p))]) ∧ Fr Nob w w' := by
 have HS := qH hs
 have HP := qH hp
 have HN := qH (w0u s hs)
 clear hs hp
 have st0 := St.start Nob w
 go_enter Tryz.func122, Tryz.ntmps122
 go_wp2_with (with_reducible refine wSk 2 ?_)
 refine a0l st0 rfl rfl rfl (cw 4 p ++ cw 4 (B64 ^ 4 - p)) rfl ?_
 intro g2 w1 st1
 clear st0
 go_wp2_with (with_reducible refine wSk 4 ?_)
 refine a0a st1 rfl rfl (z := zAd) ap14 (cw 4 0) ap12 ?_
 intro g4 w2 st2
 clear st1
 have hne : ((s.size : Int) != 32) = false := by have := HS.out; simp; omega
 go_wp2_with fail
 refine (y0J s _ (by have := HS.out; omega)).mono ?_
 rintro e' w3 ⟨rfl, hf3⟩
 have st3 := st2.keep hf3
 clear st2 hf3
 go_wp2_with (with_reducible refine wSk 6 ?_)
 refine a0a st3 rfl rfl (z := zAd) ap14 (cw 4 0) ap12 ?_
 intro g6 w4 st4
 clear st3
 go_wp2_with (with_reducible refine wSn ?_)
 refine a0b st4 2 rfl rfl rfl rfl rfl ap5 ap9 (a0f _ _) ?_
 intro w5 st5
 clear st4
 go_wp2_with (with_reducible refine wSk 14 ?_)
 refine a0k st5 2 rfl rfl rfl Tryz.underlying60 rfl ap9 ?_
 go_wp2_with (with_reducible refine wSk 16 ?_)
 refine c0c rfl rfl Tryz.underlying60 rfl (st5.at 0 rfl) (cw 4 p) (f0a 4 4 _ _) ap9 ?_
 go_wp2_with fail
 refine (t0i (beN s.data.toList) p _ HN.out HP.out).mono ?_
 rintro e' w6 ⟨rfl, hf6⟩
 have st6 := st5.keep hf6
 clear st5 hf6
 go_wp2_with (with_reducible refine wSk 18 ?_)
 refine a0k st6 2 rfl rfl rfl Tryz.underlying60 rfl ap9 ?_
 go_wp2_with (with_reducible refine wSn ?_)
 refine a0b st6 1 rfl rfl rfl rfl rfl ap5 ap9 (a0f _ _) ?_
 intro w7 st7
 clear st6
 have hr := st7.at 1 rfl
 have hfr := st7.fr
 clear st7
 go_wp2_with fail
 exact bodyPost_ret (b0c rfl rfl hr Tryz.underlying60 ap9 rfl) rfl ⟨rfl, hfr⟩
end
section
open Go.RowKit Go.Mv Mvp
attribute [local irreducible] a0C lw mix b0k b0y b0j a0M a0n beN b0F a0P b0C
theorem p0P : (Value.agg #[.int .u64 4294968273, .int .u64 0, .int .u64 0, .int .u64 0]) = .agg (cw 4 cP).toArray := by kernel_rfl
theorem w0v : (Value.agg #[.int .u64 4624529908474429119, .int .u64 4994812053365940164, .int .u64 1, .int .u64 0]) = .agg (cw 4 cQ).toArray := by kernel_rfl
theorem p0Q (a b : Nat) : Tryz.prog.built 78 [(0, .agg (cw 4 a).toArray), (1, .agg (cw 4 b).toArray)] = some (cw 4 a ++ cw 4 b).toArray := by kernel_rfl
theorem a0r {P : Program} {fn : Func} {p : Tmp} {ty : TypeId} (h : fn.results = #[.cell p ty]) {tmps : Array Value} {w : World} {g : Nat} {L : List Value} {T : TypeId}
  (hp : tmps.getD p undef = .pointer (some ⟨g, 0, none⟩)) (hg : Has w g L T) {d : TypeDesc} (hu : P.underlying ty = some d) (hd : (match d with | .struct _ | .array _ _ => true | _ => false) = true) (hi : (P.info? ty).map (·.size) = some L.length) :
  (results fn tmps).run P w = .ok (.agg L.toArray) w := by
 obtain ⟨lo, hi', hh, -⟩ := hg
 exact results_cell_row h tmps w g T L.toArray _ _ hp hh hu hd (by simpa using hi)
theorem l0c (m n a b : Nat) : ∀ v ∈ cw m a ++ cw n b, v.oneCell' = true := by
 intro v hv
 simp only [List.mem_append] at hv
 rcases hv with hv | hv
 ·exact a0f _ _ v hv
 ·exact a0f _ _ v hv
theorem D0Q : fv pP = .agg (cw 4 (B64 ^ 4 - cP) ++ cw 4 cP).toArray := by unfold fv; rw [E0P]; rfl
theorem D0R : fv pQ = .agg (cw 4 (B64 ^ 4 - cQ) ++ cw 4 cQ).toArray := by unfold fv; rw [E0Q]; rfl
attribute [local irreducible] cw
theorem D0S (w : World) :
  Calls Tryz.prog 124 #[.int .i64 0] w fun e w' => e = .returned (fv pP) ∧ Fr Nob w w' := by
 have st0 := St.start Nob w
 go_enter Tryz.func124, Tryz.ntmps124
 go_wp2_with (with_reducible refine wSk 2 ?_)
 refine a0a st0 rfl rfl (z := .agg #[.int .u64 0, .int .u64 0, .int .u64 0, .int .u64 0, .int .u64 0, .int .u64 0, .int .u64 0, .int .u64 0]) ap14 (cw 8 0) ap12 ?_
 intro g2 w1 st1
 clear st0
 go_wp2_with (with_reducible refine wSk 3 ?_)
 refine a0a st1 rfl rfl (z := zAd) ap14 (cw 4 0) ap12 ?_
 intro g3 w2 st2
 clear st1
 go_wp2_with (with_reducible refine wSn ?_)
 refine a0b st2 1 rfl rfl rfl rfl (cs := cw 4 cP) p0P (by simp only [a0i]) ap9 (a0f _ _) ?_
 intro w3 st3
 clear st2
 go_wp2_with (with_reducible refine wSk 4 ?_)
 refine a0a st3 rfl rfl (z := zAd) ap14 (cw 4 0) ap12 ?_
 intro g4 w4 st4
 clear st3
 go_wp2
 go_loopw [5, 6] (fun c i wr => ∃ k : Nat, k ≤ 4 ∧ i = .int .i64 (k : Int) ∧ c = .int .u64 (b0k 0 cP k : Nat) ∧ St Nob w wr [(g2, cw 8 0, 78), (g3, cw 4 cP, 60), (g4, cw 4 (mix (0 + B64 ^ 4 - cP) 0 k), 60)]) (fun _ i _ => 4 - (intOf i).toNat)
 case atStart => exact ⟨0, by omega, rfl, by rw [g0k]; rfl, by rw [d0U]; exact st4⟩
 case round =>
  obtain ⟨k, hk, rfl, rfl, st⟩ := hrel
  clear st4
  by_cases hlt : k < 4
  ·have hltI : (k : Int) < 4 := by omega
   have c2 := (st.at 1 rfl).cell (a0G 4 cP k hlt)
   obtain ⟨v3, c3, f3⟩ := (st.at 2 rfl).ready (i := k) (by rw [a0i]; exact hlt)
   have e1 : ∀ wx, (callFunc 175 #[.int .u64 0, .int .u64 (lw cP k : Nat), .int .u64 (b0k 0 cP k : Nat)]).run Tryz.prog wx = .ok (.value (.tuple #[.int .u64 (lw (0 + B64 ^ 4 - cP) k : Nat), .int .u64 (b0k 0 cP (k + 1) : Nat)])) wx := fun wx => by
    have h := g0n 0 (lw cP k) (b0k 0 cP k) (k0X 0 cP k) wx
    rw [p0B 4 0 cP k D0O hlt, g0l, d0E 0 0 k ap15 (Nat.zero_le _)]
    exact h
   go_wp2
   go_roundw
   case rel =>
    have h1 := st.set 2 rfl k (.int .u64 (lw (0 + B64 ^ 4 - cP) k : Nat))
    rw [d0V _ _ _ _ hlt] at h1
    exact ⟨k + 1, by omega, by go_num, rfl, h1⟩
   case measure => simp [intOf]; omega
  ·have hge : ¬ ((k : Int) < 4) := by omega
   have hk4 : k = 4 := by omega
   rw [hk4, i0B _ _ _ ap15, cw_mod, Nat.zero_add] at st
   clear hk4
   go_wp2_with (with_reducible refine wSk 25 ?_)
   refine a0k st 2 rfl rfl rfl Tryz.underlying60 rfl ap9 ?_
   go_wp2_with (with_reducible refine wSk 26 ?_)
   refine a0k st 1 rfl rfl rfl Tryz.underlying60 rfl ap9 ?_
   go_wp2_with (with_reducible refine wSk 27 ?_)
   refine a0Y rfl rfl _ (p0Q (B64 ^ 4 - cP) cP) ?_
   go_wp2_with (with_reducible refine wSn ?_)
   refine a0b st 0 rfl rfl rfl rfl (cs := cw 4 (B64 ^ 4 - cP) ++ cw 4 cP) rfl ap5 (by rw [List.length_append, a0i, a0i]; kernel_rfl) (l0c _ _ _ _) ?_
   intro w5 st5
   clear st
   have hr := st5.at 0 rfl
   have hfr := st5.fr
   clear st5
   go_wp2
   exact bodyPost_ret (a0r rfl rfl hr Tryz.underlying78 rfl ap4) rfl ⟨by rw [D0Q], hfr⟩
theorem D0T (w : World) :
  Calls Tryz.prog 124 #[.int .i64 1] w fun e w' => e = .returned (fv pQ) ∧ Fr Nob w w' := by
 have st0 := St.start Nob w
 go_enter Tryz.func124, Tryz.ntmps124
 go_wp2_with (with_reducible refine wSk 2 ?_)
 refine a0a st0 rfl rfl (z := .agg #[.int .u64 0, .int .u64 0, .int .u64 0, .int .u64 0, .int .u64 0, .int .u64 0, .int .u64 0, .int .u64 0]) ap14 (cw 8 0) ap12 ?_
 intro g2 w1 st1
 clear st0
 go_wp2_with (with_reducible refine wSk 3 ?_)
 refine a0a st1 rfl rfl (z := zAd) ap14 (cw 4 0) ap12 ?_
 intro g3 w2 st2
 clear st1
 go_wp2_with (with_reducible refine wSn ?_)
 refine a0b st2 1 rfl rfl rfl rfl (cs := cw 4 cP) p0P (by simp only [a0i]) ap9 (a0f _ _) ?_
 intro w3 st3
 clear st2
 go_wp2_with (with_reducible refine wSn ?_)
 refine a0b st3 1 rfl rfl rfl rfl (cs := cw 4 cQ) w0v (by simp only [a0i]) ap9 (a0f _ _) ?_
 intro w4 st4
 clear st3
 go_wp2_with (with_reducible refine wSk 4 ?_)
 refine a0a st4 rfl rfl (z := zAd) ap14 (cw 4 0) ap12 ?_
 intro g4 w5 st5
 clear st4
 go_wp2
 go_loopw [5, 6] (fun c i wr => ∃ k : Nat, k ≤ 4 ∧ i = .int .i64 (k : Int) ∧ c = .int .u64 (b0k 0 cQ k : Nat) ∧ St Nob w wr [(g2, cw 8 0, 78), (g3, cw 4 cQ, 60), (g4, cw 4 (mix (0 + B64 ^ 4 - cQ) 0 k), 60)]) (fun _ i _ => 4 - (intOf i).toNat)
 case atStart => exact ⟨0, by omega, rfl, by rw [g0k]; rfl, by rw [d0U]; exact st5⟩
 case round =>
  obtain ⟨k, hk, rfl, rfl, st⟩ := hrel
  clear st5
  by_cases hlt : k < 4
  ·have hltI : (k : Int) < 4 := by omega
   have c2 := (st.at 1 rfl).cell (a0G 4 cQ k hlt)
   obtain ⟨v3, c3, f3⟩ := (st.at 2 rfl).ready (i := k) (by rw [a0i]; exact hlt)
   have e1 : ∀ wx, (callFunc 175 #[.int .u64 0, .int .u64 (lw cQ k : Nat), .int .u64 (b0k 0 cQ k : Nat)]).run Tryz.prog wx = .ok (.value (.tuple #[.int .u64 (lw (0 + B64 ^ 4 - cQ) k : Nat), .int .u64 (b0k 0 cQ (k + 1) : Nat)])) wx := fun wx => by
    have h := g0n 0 (lw cQ k) (b0k 0 cQ k) (k0X 0 cQ k) wx
    rw [p0B 4 0 cQ k D0P hlt, g0l, d0E 0 0 k ap15 (Nat.zero_le _)]
    exact h
   go_wp2
   go_roundw
   case rel =>
    have h1 := st.set 2 rfl k (.int .u64 (lw (0 + B64 ^ 4 - cQ) k : Nat))
    rw [d0V _ _ _ _ hlt] at h1
    exact ⟨k + 1, by omega, by go_num, rfl, h1⟩
   case measure => simp [intOf]; omega
  ·have hge : ¬ ((k : Int) < 4) := by omega
   have hk4 : k = 4 := by omega
   rw [hk4, i0B _ _ _ ap15, cw_mod, Nat.zero_add] at st
   clear hk4
   go_wp2_with (with_reducible refine wSk 25 ?_)
   refine a0k st 2 rfl rfl rfl Tryz.underlying60 rfl ap9 ?_
   go_wp2_with (with_reducible refine wSk 26 ?_)
   refine a0k st 1 rfl rfl rfl Tryz.underlying60 rfl ap9 ?_
   go_wp2_with (with_reducible refine wSk 27 ?_)
   refine a0Y rfl rfl _ (p0Q (B64 ^ 4 - cQ) cQ) ?_
   go_wp2_with (with_reducible refine wSn ?_)
   refine a0b st 0 rfl rfl rfl rfl (cs := cw 4 (B64 ^ 4 - cQ) ++ cw 4 cQ) rfl ap5 (by rw [List.length_append, a0i, a0i]; kernel_rfl) (l0c _ _ _ _) ?_
   intro w6 st6
   clear st
   have hr := st6.at 0 rfl
   have hfr := st6.fr
   clear st6
   go_wp2
   exact bodyPost_ret (a0r rfl rfl hr Tryz.underlying78 rfl ap4) rfl ⟨by rw [D0R], hfr⟩
end
end Go.Proofs.YtemcankmggmgoaaGreat
namespace Go.Mv
open Go.RowKit
variable {P : Program}
theorem St.keep1 {S : Nat → Prop} {w0 w w' : World} {bl : List (Nat × List Value × TypeId)} {g : Nat} (h : St S w0 w bl) (hf : Fr (One g) w w') (hg : w0.heap.size ≤ g ∨ S g) (hne : ∀ x ∈ bl, x.1 ≠ g) : St S w0 w' bl := by
 refine ⟨?_, h.own, fun x hx => (h.has x hx).keep hf (hne x hx), h.ne⟩
 refine h.fr.trans hf fun i hi e => ?_
 have e2 : i = g := e
 subst e2
 rcases hg with hg | hg
 ·omega
 ·exact hg
section
variable {w w0 : World} {ops : Array Oper} {rest : List Oper} {o : Oper} {a : Act} {Q : Exit → Act → World → Prop} {S : Nat → Prop} {bl : List (Nat × List Value × TypeId)}
theorem e0q (hst : St S w0 w bl) (i : Nat) {g : Nat} {L : List Value} {T : TypeId} (hb : bl[i]? = some (g, L, T)) {ty : TypeId} {x y : Operand} (hgd : o.guard = none) (ho : o.op = .store ty x y) (hx : a.eval x = .pointer (some ⟨g, 0, none⟩)) {cs : List Value} (hy : a.eval y = .agg cs.toArray)
  (hn : cs.length = L.length) (hi : (P.info? ty).map (·.size) = some cs.length) (h1 : ∀ v ∈ cs, v.oneCell' = true)
  (h : ∀ w', St S w0 w' (bl.set i (g, cs, T)) → Fr (One g) w w' → wpList P ops Q rest (a.put o.dst undef) w') : wpList P ops Q (o :: rest) a w :=
 c0G hgd ho hx hy (hst.at i hb) ap16 hi h1 fun w' hg hf _ => h w' (hst.put i hb hf (by rwa [c0A _ _ hn] at hg)) hf
theorem d0y (hst : St S w0 w bl) {e : TypeId} (hgd : o.guard = none) (ho : o.op = .alloc e) {z : Value} (hi : (P.info? e).map (·.zero) = some (some z)) (L : List Value) (hL : z.cells.toList = L)
  (h : ∀ g w', St S w0 w' (bl ++ [(g, L, e)]) → Fr Nob w w' → w.heap.size ≤ g → wpList P ops Q rest (a.put o.dst (.pointer (some ⟨g, 0, none⟩))) w') : wpList P ops Q (o :: rest) a w :=
 e0B hgd ho hi L hL fun w' hg hf _ => h _ w' (hst.new hf hg (Nat.le_refl _)) hf (Nat.le_refl _)
theorem l0d (hst : St S w0 w bl) {e : TypeId} {x : Operand} (hgd : o.guard = none) (ho : o.op = .box e x) {v : Value} (hx : a.eval x = v) (L : List Value) (hL : v.cells.toList = L)
  (h : ∀ g w', St S w0 w' (bl ++ [(g, L, e)]) → Fr Nob w w' → wpList P ops Q rest (a.put o.dst (.pointer (some ⟨g, 0, none⟩))) w') : wpList P ops Q (o :: rest) a w :=
 m0t hgd ho hx L hL fun w' hg hf _ => h _ w' (hst.new hf hg (Nat.le_refl _)) hf
theorem w0w {ty : TypeId} {x : Operand} (hgd : o.guard = none) (ho : o.op = .load ty x) {d : TypeDesc} (hu : P.underlying ty = some d) (hd : d.isRow = true) {g p : Nat} (hx : a.eval x = .pointer (some ⟨g, p, none⟩))
  {L : List Value} {T : TypeId} (hg : Has w g L T) (cs : List Value) (hcs : (L.drop p).take cs.length = cs) (hi : (P.info? ty).map (·.size) = some cs.length)
  (h : wpList P ops Q rest (a.put o.dst (.agg cs.toArray)) w) : wpList P ops Q (o :: rest) a w :=
 wpList_load_mid hgd ty x ho g p hx cs d (hg.range p cs hcs) hu hd hi h
theorem p0R (hst : St S w0 w bl) (i : Nat) {g : Nat} {L : List Value} {T : TypeId} (hb : bl[i]? = some (g, L, T)) {ty : TypeId} {x : Operand} (hw : Region.wanted o (yielded ops a.tmps) = true) (ho : o.op = .load ty x) {d : TypeDesc} (hu : P.underlying ty = some d) (hd : d.isRow = true) (hx : a.eval x = .pointer (some ⟨g, 0, none⟩))
  (hi : (P.info? ty).map (·.size) = some L.length) (h : wpList P ops Q rest (a.put o.dst (.agg L.toArray)) w) : wpList P ops Q (o :: rest) a w := by
 unfold wpList
 rw [if_pos hw]
 exact .inl (wp_load_mid ty x ho g 0 hx L _ ((hst.at i hb).range 0 L dZl) hu hd hi h)
end
end Go.Mv
namespace Go.Proofs.YtemcankmggmgoaaGreat
open Go.RowKit Go.Mv Mvp
attribute [local irreducible] b0g b0x toB a0u a0B b0h b0R a0L c0g b0b a0y c0s
def tkV (g : Nat) : Value := .agg #[.pointer (some ⟨g, 0, none⟩)]
theorem w0x (g : Nat) : Tryz.prog.built 128 [(0, .pointer (some ⟨g, 0, none⟩))] = some ([Value.pointer (some ⟨g, 0, none⟩)]).toArray := by kernel_rfl
theorem E0D : (Tryz.prog.info? 128).map (·.zero) = some (some (.agg #[.pointer none])) := by kernel_rfl
theorem C0f : (Tryz.prog.info? 132).map (·.zero) = some (some (.agg #[.string ByteArray.empty, .slice none 0 0])) := by kernel_rfl
theorem C0g (g : Nat) : ∀ v ∈ [Value.pointer (some ⟨g, 0, none⟩)], v.oneCell' = true := by
 intro v hv
 simp only [List.mem_singleton] at hv
 subst hv; rfl
theorem C0h (s : ByteArray) (a : Option Addr) (n c : Nat) : ∀ v ∈ [Value.string s, Value.slice a n c], v.oneCell' = true := by
 intro v hv
 simp only [List.mem_cons, List.not_mem_nil, or_false] at hv
 rcases hv with rfl | rfl <;> rfl
theorem LogAt.mono {w : World} {base base' g : Nat} {l : List UInt8} (h : LogAt w base g l) (hb : base' ≤ base) : LogAt w base' g l := by
 obtain ⟨v, h1, h2⟩ := h; exact ⟨v, h1, h2.mono hb⟩
theorem LogAt.has {w : World} {base g : Nat} {l : List UInt8} (h : LogAt w base g l) : ∃ v, Has w g [v] 228 := by
 obtain ⟨v, h1, _⟩ := h; exact ⟨v, h1⟩
theorem LogAt.off {w w' : World} {base g g' : Nat} {l : List UInt8} (h : LogAt w base g l) (hf : Fr (One g') w w') {L : List Value} {T : TypeId} (hg : Has w g' L T) (hT : 5 ≠ T) (hT2 : 228 ≠ T) : LogAt w' base g l := by
 refine h.other hf ?_ hg hT
 rintro rfl
 obtain ⟨v, h1, _⟩ := h
 obtain ⟨_, _, h1, _⟩ := h1
 obtain ⟨_, _, h2, _⟩ := hg
 rw [h1] at h2
 simp only [Option.some.injEq, Obj.cells.injEq] at h2
 exact hT2 h2.2.1
theorem LogAt.notIn {w : World} {base g : Nat} {l : List UInt8} (h : LogAt w base g l) {bl : List (Nat × List Value × TypeId)} (hh : ∀ x ∈ bl, Has w x.1 x.2.1 x.2.2) (hT : ∀ x ∈ bl, 228 ≠ x.2.2) : ∀ x ∈ bl, x.1 ≠ g := by
 rintro x hx rfl
 obtain ⟨v, h1, _⟩ := h
 obtain ⟨_, _, h1, _⟩ := h1
 obtain ⟨_, _, h2, _⟩ := hh x hx
 rw [h1] at h2
 simp only [Option.some.injEq, Obj.cells.injEq] at h2
 exact hT x hx h2.2.1
theorem t0n (s : ByteArray) (w : World) (hs : s.size ≤ 1000000) :
  Calls Tryz.prog 89 #[.string s] w fun e w' => ∃ g, e = .returned (tkV g) ∧ w.heap.size ≤ g ∧ LogAt w' w.heap.size g (E0C s.data.toList) ∧ Fr Nob w w' := by
 have HS := qH hs
 clear hs
 have st0 := St.start Nob w
 go_enter Tryz.func89, Tryz.ntmps89
 go_wp2_with (with_reducible refine wSk 2 ?_)
 refine a0a st0 rfl rfl E0D [.pointer none] rfl ?_
 intro g2 w1 st1
 clear st0
 have HB := qH st1.fr.size
 go_wp2_with fail
 refine (r0i s _ HS.out).mono ?_
 rintro e' w2 ⟨g, rfl, hle, hl, hf⟩
 have st2 := st1.keep hf
 have HL := qH (hl.mono HB.out)
 have HG := qH (Nat.le_trans HB.out hle)
 clear hle hl hf st1 HB
 go_wp2_with (with_reducible refine wSk 5 ?_)
 refine a0Y rfl rfl _ (w0x g) ?_
 go_wp2_with (with_reducible refine wSn ?_)
 refine e0q st2 0 rfl rfl rfl rfl rfl rfl ap14 (C0g g) ?_
 intro w3 st3 hf3
 have HL3 := qH (HL.out.off hf3 (st2.at 0 rfl) ap15 ap15)
 clear st2 hf3 HL
 have hr := st3.at 0 rfl
 have hfr := st3.fr
 clear st3
 go_wp2_with fail
 exact bodyPost_ret (a0r rfl rfl hr Tryz.underlying128 rfl ap14) rfl ⟨g, rfl, HG.out, HL3.out, hfr⟩
def sdC (xs : List (ByteArray × Value)) : List Value := xs.flatMap fun x => [.string x.1, x.2]
theorem t0o : ∀ (xs : List (ByteArray × Value)) (j : Nat) (hj : j < xs.length), ((sdC xs).drop (j * 2)).take 2 = [.string (xs[j]'hj).1, (xs[j]'hj).2]
 | x :: xs, 0, _ => rfl
 | x :: xs, j + 1, hj => by
  have h := t0o xs j (by simpa using hj)
  simp only [List.getElem_cons_succ]
  rw [← h]
  have e : (j + 1) * 2 = j * 2 + 2 := by omega
  rw [e]
  rfl
def sdZ (xs : List (ByteArray × Value)) (ls : List (List UInt8)) : List (List UInt8 × List UInt8) := (xs.map fun x => x.1.data.toList).zip ls
theorem j0Y (x : List UInt8 × List UInt8) : ∀ (l : List (List UInt8 × List UInt8)) (st : List UInt8), c0R st (l ++ [x]) = c0s B0U [c0R st l, x.1, x.2]
 | [], _ => rfl
 | y :: l, st => by simp only [List.cons_append, c0R]; exact j0Y x l _
theorem w0y (xs : List (ByteArray × Value)) (ls : List (List UInt8)) (j : Nat) (hj : j < xs.length) (l : List UInt8) (hl : ls[j]? = some l) : (sdZ xs ls).take (j + 1) = (sdZ xs ls).take j ++ [((xs[j]'hj).1.data.toList, l)] := by
 obtain ⟨h2, rfl⟩ := List.getElem?_eq_some_iff.1 hl
 rw [List.take_succ_eq_append_getElem (by simp [sdZ]; omega)]
 simp [sdZ]
theorem m0N : (Tryz.prog.info? 132).map (·.size) = some 2 := by kernel_rfl
attribute [local irreducible] c0R sdC sdZ
theorem w0z (wB : World) (base g : Nat) (st : List UInt8) (gl c : Nat) (xs : List (ByteArray × Value)) (ls : List (List UInt8)) (w : World) (hg : wB.heap.size ≤ g) (hB : Fr Nob wB w) (hbase : base ≤ w.heap.size) (hl : LogAt w base g st) (hc : Has w gl (sdC xs) 132)
  (hn : xs.length ≤ 1000) (hs : ∀ x ∈ xs, x.1.size ≤ 1000000) (hp : Parts wB (xs.map (·.2)) ls) :
  Calls Tryz.prog 90 #[tkV g, .slice (some ⟨gl, 0, none⟩) xs.length c] w fun e w' => e = .returned (tkV g) ∧ LogAt w' base g (c0R st (sdZ xs ls)) ∧ Fr (One g) w w' := by
 have HNE := qH (hl.notIn (bl := [(gl, sdC xs, 132)]) (by intro x hx; simp only [List.mem_singleton] at hx; subst hx; exact hc) (by intro x hx; simp only [List.mem_singleton] at hx; subst hx; dsimp only; decide) _ List.mem_cons_self)
 have HLN := qH (show xs.length = ls.length by rw [← hp.len, List.length_map])
 have HG := qH hg
 have HB := qH hB
 have HBS := qH hbase
 have HL := qH hl
 have HC := qH hc
 have HS := qH hs
 have HP := qH hp
 clear hg hB hbase hl hc hs hp
 have st0 := St.start (One g) w
 go_enter Tryz.func90, Tryz.ntmps90
 go_wp2_with (with_reducible refine wSk 2 ?_)
 refine l0d st0 rfl rfl rfl [.pointer (some ⟨g, 0, none⟩)] rfl ?_
 intro g2 w1 st1 hf1
 have HL1 := qH (HL.out.still hf1)
 clear st0 hf1 HL
 go_wp2_with (with_reducible refine wSk 4 ?_)
 refine d0y st1 rfl rfl E0D [.pointer none] rfl ?_
 intro g4 w2 st2 hf2 hs2
 have HL2 := qH (HL1.out.still hf2)
 clear st1 hf2 hs2 HL1
 have ST := qH st2
 clear st2
 go_wp2_with fail
 go_loopw [9] (fun i wr => ∃ j : Nat, j ≤ xs.length ∧ i = .int .i64 (j : Int) ∧ LogAt wr base g (c0R st ((sdZ xs ls).take j)) ∧ St (One g) w wr [(g2, [.pointer (some ⟨g, 0, none⟩)], 128), (g4, [.pointer none], 128)]) (fun i _ => xs.length - (intOf i).toNat)
 case atStart => exact ⟨0, Nat.zero_le _, rfl, by rw [List.take_zero]; unfold c0R; exact HL2.out, ST.out⟩
 case round =>
  clear HL2 ST
  obtain ⟨j, hj, rfl, hlj, hst⟩ := hrel
  by_cases hlt : j < xs.length
  ·have hltI : (j : Int) < (xs.length : Int) := by omega
   have hcr : Has wr gl (sdC xs) 132 := HC.out.keep hst.fr HNE.out
   have hget := t0o xs j hlt
   have hmem : xs[j] ∈ xs := List.getElem_mem hlt
   obtain ⟨l, hll, hpl⟩ := HP.out.get j (xs[j]).2 (by rw [List.getElem?_map, List.getElem?_eq_getElem hlt]; rfl)
   have HT := qH (w0y xs ls j hlt l hll)
   have HSZ := qH (HS.out _ hmem)
   clear hmem hll
   generalize xs[j] = x at *
   obtain ⟨s, v⟩ := x
   obtain ⟨a, n, cc, hv, hcc, hn, hrd, hold⟩ := hpl
   have hv2 : v = .slice a n cc := hv
   subst hv2
   have HPL := qH (show PartIs wB (.slice a n cc) l from ⟨a, n, cc, rfl, hcc, hn, hrd, hold⟩)
   have HCR := qH hcr
   have HGET := qH hget
   have HLJ := qH hlj
   clear hcr hget hlj hv hcc hn hrd hold
   go_wp2_with (with_reducible refine wSk 12 ?_)
   refine w0w rfl rfl Tryz.underlying132 rfl rfl HCR.out [.string s, .slice a n cc] HGET.out m0N ?_
   go_wp2_with (with_reducible refine wSk 6 ?_)
   refine d0y hst rfl rfl C0f [.string ByteArray.empty, .slice none 0 0] rfl ?_
   intro g6 w3 st3 hf3 hs3
   have HL3 := qH (HLJ.out.still hf3)
   clear hf3 hs3 HLJ hst HCR HGET
   go_wp2_with (with_reducible refine wSn ?_)
   refine e0q st3 2 rfl rfl rfl rfl rfl rfl m0N (C0h _ _ _ _) ?_
   intro w4 st4 hf4
   have HL4 := qH (HL3.out.off hf4 (st3.at 2 rfl) ap15 ap15)
   clear st3 hf4 HL3
   have hc0 := (st4.at 0 rfl).cell (i := 0) rfl
   have hc1 := (st4.at 2 rfl).cell (i := 0) rfl
   have hc2 := (st4.at 2 rfl).cell (i := 1) rfl
   have HPL4 := qH (HPL.out.still (HB.out.new st4.fr HG.out))
   have ST4 := qH st4
   clear st4 HPL
   go_wp2_with fail
   refine (z0P base g _ s a n cc l _ HSZ.out HL4.out HPL4.out (Nat.le_trans HBS.out ST4.out.fr.size)).mono ?_
   rintro e' w5 ⟨rfl, hl5, hf5⟩
   have st5 := (ST4.out.keep1 hf5 (.inr rfl) (HL4.out.notIn ST4.out.has (by intro x hx; simp only [List.mem_cons, List.not_mem_nil, or_false, List.set_cons_succ, List.set_cons_zero, List.cons_append, List.nil_append] at hx; rcases hx with rfl | rfl | rfl <;> (dsimp only; decide)))).less (bl' := [(g2, [.pointer (some ⟨g, 0, none⟩)], 128), (g4, [.pointer none], 128)]) ap17
   have HL5 := qH hl5
   have ST5 := qH st5
   clear hl5 hf5 st5 ST4 HL4 HPL4 hc0 hc1 hc2
   go_wp2_with fail
   go_roundw
   case rel => exact ⟨j + 1, by omega, by go_num, by rw [HT.out, j0Y]; exact HL5.out, ST5.out⟩
   case measure => simp [intOf]; omega
  ·have hge : ¬ ((j : Int) < (xs.length : Int)) := by omega
   have hjl : (sdZ xs ls).take j = sdZ xs ls := List.take_of_length_le (by unfold sdZ; simp; omega)
   rw [hjl] at hlj
   have HLJ := qH hlj
   clear hlj hjl
   go_wp2_with (with_reducible refine wSk 21 ?_)
   refine a0p hst 0 rfl rfl rfl Tryz.underlying128 rfl rfl ap14 ?_
   go_wp2_with (with_reducible refine wSn ?_)
   refine e0q hst 1 rfl rfl rfl rfl rfl rfl ap14 (C0g g) ?_
   intro w3 st3 hf3
   have HL3 := qH (HLJ.out.off hf3 (hst.at 1 rfl) ap15 ap15)
   have hr := st3.at 1 rfl
   have hfr := st3.fr
   clear hst hf3 HLJ st3
   go_wp2_with fail
   exact bodyPost_ret (a0r rfl rfl hr Tryz.underlying128 rfl ap14) rfl ⟨rfl, HL3.out, hfr⟩
end Go.Proofs.YtemcankmggmgoaaGreat
namespace Go.Mv
open Go.RowKit
section
variable {P : Program} {ops : Array Oper} {md : Region.Mode} {Q : Exit → Act → World → Prop} {S S2 : World → Prop}
def l0e (md : Region.Mode) (ops : Array Oper) (n : Nat) : Bool :=
 (List.range ops.size).all fun t => decide (t ≤ n) || (List.range t).any fun j => decide (n ≤ j) && Region.waitsFor md ops t j
theorem j0Z {n : Nat} {listed : Array Bool} (hs : Region.sinkB md ops n = true) (hb : l0e md ops n = true) (inv : HeadInv md ops n listed) {i : Nat} (hi : i < n) (hun : listed.getD i true = false) :
  ∀ t, n ≤ t → t ∉ Region.ready md ops listed := by
 have key : ∀ (d i : Nat), n - i = d → i < n → listed.getD i true = false → n ∉ Region.ready md ops listed := by
  intro d
  induction d using Nat.strongRecOn with
  | _ d ih =>
   intro i hd hi hun hr
   obtain ⟨-, on, hon, hall⟩ := mem_ready.1 hr
   obtain ⟨j, hj, hj2⟩ := List.any_eq_true.1 (List.all_eq_true.1 hs i (List.mem_range.2 hi))
   simp only [Bool.and_eq_true, decide_eq_true_eq] at hj2
   obtain ⟨oj, hoj, e, he, hbi, heon⟩ := Region.waitsFor_spec hj2.2
   have hjn := List.mem_range.1 hj
   rcases Nat.lt_or_ge j n with h | h
   ·cases hl : listed.getD j false with
    | true =>
     have h2 := inv.closed j oj hoj hl e he hbi
     rw [heon, getD_both hun] at h2
     cases h2
    | false =>
     have hjs : j < listed.size := by
      have := (Array.getElem?_eq_some_iff.1 hoj).1
      rw [inv.size]; exact this
     exact ih (n - j) ap16 j rfl h (getD_in hjs hl) hr
   ·have : j = n := by omega
    subst this
    have : oj = on := Option.some.inj (hoj.symm.trans hon)
    subst this
    have h2 := hall e he hbi
    rw [heon, getD_both hun] at h2
    cases h2
 intro t ht hr
 rcases Nat.eq_or_lt_of_le ht with rfl | h
 ·exact key _ i rfl hi hun hr
 ·obtain ⟨-, ot, hot, hall⟩ := mem_ready.1 hr
  have htl := (Array.getElem?_eq_some_iff.1 hot).1
  have h1 := List.all_eq_true.1 hb t (List.mem_range.2 htl)
  simp only [Bool.or_eq_true, decide_eq_true_eq] at h1
  rcases h1 with h1 | h1
  ·omega
  ·obtain ⟨j, hj, hj2⟩ := List.any_eq_true.1 h1
   simp only [Bool.and_eq_true, decide_eq_true_eq] at hj2
   obtain ⟨o', ho', e, he, hbi, heon⟩ := Region.waitsFor_spec hj2.2
   have : o' = ot := Option.some.inj (ho'.symm.trans hot)
   subst this
   have h2 := hall e he hbi
   have hjt := List.mem_range.1 hj
   rw [heon, getD_both (inv.tail j hj2.1 ap16)] at h2
   cases h2
def m0O (P : Program) (md : Region.Mode) (ops : Array Oper) (Q : Exit → Act → World → Prop) (S : World → Prop) (n : Nat) (B : Array Bool → Act → World → Prop) : Nat → Array Bool → Act → World → Prop
 | 0, listed, a, w => Region.ready md ops listed = [n] ∧ B listed a w
 | f + 1, listed, a, w =>
  Region.ready md ops listed ≠ [] ∧ ∀ i ∈ Region.ready md ops listed, i < n ∧ wpOp P ops Q i (fun a' w' => S w' ∧ m0O P md ops Q S n B f (listed.setIfInBounds i true) a' w') a w
theorem k0a {n g : Nat} {B : Array Bool → Act → World → Prop} (hB : ∀ listed a w, Region.ready md ops listed = [n] → B listed a w → wpAny P md ops Q g listed a w) :
  ∀ (f : Nat) (listed : Array Bool) (a : Act) (w : World), m0O P md ops Q S n B f listed a w → wpAny P md ops Q (f + g) listed a w
 | 0, listed, a, w, h => by rw [Nat.zero_add]; exact hB _ _ _ h.1 h.2
 | f + 1, listed, a, w, h => by
  rw [show f + 1 + g = (f + g) + 1 by omega]
  exact ⟨fun h0 => absurd h0 h.1, fun i hi => wpOp_mono (fun a' w' h' => k0a hB f _ a' w' h'.2) (h.2 i hi).2⟩
theorem m0P {n i : Nat} {oi : Oper} {v : Value} {B : Array Bool → Act → World → Prop} (hi : ops[i]? = some oi) (hsel : ∀ (j : Nat) (o : Oper) cs b, ops[j]? = some o → o.op ≠ .select cs b)
  (hQ : ∀ c a w, Q (.panic c) (a.put oi.dst v) w → Q (.panic c) a w) (hs : Region.sinkB md ops n = true) (hb : l0e md ops n = true) (hin : i < n) :
  ∀ (f : Nat) (listed : Array Bool) (a : Act) (w : World), HeadInv md ops n listed →
   (∀ j oj, ops[j]? = some oj → j ≠ i → listed.getD j true = false → (∀ e ∈ oj.after, Region.binds md e = true → e.on ≠ i) → oi.apart ops oj = true) →
   i ∈ Region.ready md ops listed → YieldsIf P ops S oi v a → S w →
   m0O P md ops Q S n B f (listed.setIfInBounds i true) (a.put oi.dst v) w → m0O P md ops Q S n B (f + 1) listed a w := by
 intro f
 induction f with
 | zero =>
  intro listed a w inv _ hr hy hS H
  have hun := (mem_ready.1 hr).1
  refine ⟨fun h => (by rw [h] at hr; cases hr), fun j hj => ?_⟩
  have hjn : j < n := Nat.lt_of_not_le fun h => j0Z hs hb inv hin hun j h hj
  refine ⟨hjn, ?_⟩
  by_cases hji : j = i
  ·subst hji; exact hy.wpOp hi hS ⟨hS, H⟩
  ·have h2 := ready_mono hj hji
   rw [H.1] at h2
   simp only [List.mem_singleton] at h2
   omega
 | succ f ih =>
  intro listed a w inv hfree hr hy hS H
  have hun := (mem_ready.1 hr).1
  refine ⟨fun h => (by rw [h] at hr; cases hr), fun j hj => ?_⟩
  have hjn : j < n := Nat.lt_of_not_le fun h => j0Z hs hb inv hin hun j h hj
  refine ⟨hjn, ?_⟩
  by_cases hji : j = i
  ·subst hji; exact hy.wpOp hi hS ⟨hS, H⟩
  ·have h1 := (H.2 j (ready_mono hj hji)).2
   obtain ⟨hjun, oj, hoj, hall⟩ := mem_ready.1 hj
   have hnot : ∀ e ∈ oj.after, Region.binds md e = true → e.on ≠ i := fun e he hb heq => by
    have h1 := hall e he hb
    rw [heq, getD_both hun] at h1
    cases h1
   have h2 := wpOp_putIf hoj (hfree j oj hoj hji hjun hnot) (fun cs b => hsel i oi cs b hi) (fun cs b => hsel j oj cs b hoj) hQ hy h1
   have hfree' : ∀ k ok, ops[k]? = some ok → k ≠ i → (listed.setIfInBounds j true).getD k true = false →
     (∀ e ∈ ok.after, Region.binds md e = true → e.on ≠ i) → oi.apart ops ok = true := fun k ok hk hki hun hno => by
    refine hfree k ok hk hki ?_ hno
    by_cases hjk : j = k
    ·subst hjk; exact hjun
    ·rw [getD_set_ne true hjk] at hun; exact hun
   refine wpOp_mono (fun a' w' h3 => ⟨h3.2.1, ih (listed.setIfInBounds j true) a' w' (inv.set hj hjn) hfree' (ready_mono hr (Ne.symm hji)) h3.1 h3.2.1 ?_⟩) h2
   rw [Array.setIfInBounds_comm _ _ hji]
   exact h3.2.2
def g0r (P : Program) (ops : Array Oper) (Q : Exit → Act → World → Prop) (S : World → Prop) (B : Act → World → Prop) : List (Nat × Bool) → Act → World → Prop
 | [], a, w => B a w
 | (i, true) :: r, a, w => ∃ o v, ops[i]? = some o ∧ YieldsIf P ops S o v a ∧ g0r P ops Q S B r (a.put o.dst v) w
 | (i, false) :: r, a, w => ∃ o, ops[i]? = some o ∧ o.guard = none ∧ o.wp P a w (fun a' w' => S w' ∧ g0r P ops Q S B r a' w') Q
def h0x (P : Program) (ops : Array Oper) (Q : Exit → Act → World → Prop) (S : World → Prop) : List Nat → Act → World → Prop
 | [], a, w => Q .normal a w
 | i :: r, a, w => ∃ o v, ops[i]? = some o ∧ YieldsIf P ops S o v a ∧ h0x P ops Q S r (a.put o.dst v) w
def k0b (md : Region.Mode) (ops : Array Oper) : List Nat → Array Bool → Bool
 | [], listed => (Region.ready md ops listed).isEmpty
 | i :: r, listed => (Region.ready md ops listed).contains i && Region.free md ops listed i && k0b md ops r (listed.setIfInBounds i true)
def i0M (md : Region.Mode) (ops : Array Oper) (n : Nat) (s2 : List Nat) : List (Nat × Bool) → Array Bool → Bool
 | [], listed => decide (Region.ready md ops listed = [n]) && k0b md ops s2 (listed.setIfInBounds n true)
 | (i, true) :: r, listed => decide (i < n) && (Region.ready md ops listed).contains i && Region.free md ops listed i && i0M md ops n s2 r (listed.setIfInBounds i true)
 | (i, false) :: r, listed => decide (i < n) && decide (Region.ready md ops listed = [i]) && i0M md ops n s2 r (listed.setIfInBounds i true)
theorem f0I (hsel : Region.noSelect ops = true) (hQ : ∀ c (d : Option Tmp) v a w, Q (.panic c) (Act.put a d v) w → Q (.panic c) a w) :
  ∀ (r : List Nat) (listed : Array Bool) (a : Act) (w : World), k0b md ops r listed = true → S w → h0x P ops Q S r a w → wpAnyH P md ops Q S r.length listed a w
 | [], listed, a, w, hB, _, h => wpAnyH_done (by simpa [k0b] using hB) h 0
 | i :: r, listed, a, w, hB, hS, h => by
  obtain ⟨o, v, ho, hy, hK⟩ := h
  simp only [k0b, Bool.and_eq_true] at hB
  obtain ⟨⟨hr, hf⟩, hB'⟩ := hB
  exact wpAnyH_take ho hsel hf hr (fun c a w => hQ c o.dst v a w) hy hS (f0I hsel hQ r _ _ w hB' hS hK)
theorem e0J {n : Nat} {s2 : List Nat} {B : Act → World → Prop} (hsel : Region.noSelect ops = true) (hs : Region.sinkB md ops n = true) (hb : l0e md ops n = true)
  (hQ : ∀ c (d : Option Tmp) v a w, Q (.panic c) (Act.put a d v) w → Q (.panic c) a w) :
  ∀ (s : List (Nat × Bool)) (listed : Array Bool) (a : Act) (w : World), HeadInv md ops n listed → i0M md ops n s2 s listed = true → S w → g0r P ops Q S B s a w →
   m0O P md ops Q S n (fun l a w => k0b md ops s2 (l.setIfInBounds n true) = true ∧ B a w) s.length listed a w
 | [], listed, a, w, _, hB, _, h => by
  simp only [i0M, Bool.and_eq_true, decide_eq_true_eq] at hB
  exact ⟨hB.1, hB.2, h⟩
 | (i, true) :: r, listed, a, w, inv, hB, hS, h => by
  obtain ⟨o, v, ho, hy, hK⟩ := h
  simp only [i0M, Bool.and_eq_true, decide_eq_true_eq] at hB
  obtain ⟨⟨⟨hin, hr⟩, hf⟩, hB'⟩ := hB
  have hr' : i ∈ Region.ready md ops listed := by simpa using hr
  exact m0P ho (Region.noSelect_spec hsel) (fun c a w => hQ c o.dst v a w) hs hb hin r.length listed a w inv (Region.free_spec ho hf) hr' hy hS
   (e0J hsel hs hb hQ r _ _ w (inv.set hr' hin) hB' hS hK)
 | (i, false) :: r, listed, a, w, inv, hB, hS, h => by
  obtain ⟨o, ho, hg, hK⟩ := h
  simp only [i0M, Bool.and_eq_true, decide_eq_true_eq] at hB
  obtain ⟨⟨hin, hr⟩, hB'⟩ := hB
  have hr' : i ∈ Region.ready md ops listed := by rw [hr]; simp
  refine ⟨by rw [hr]; simp, fun j hj => ?_⟩
  rw [hr] at hj
  have hj' : j = i := by simpa using hj
  subst hj'
  refine ⟨hin, ?_⟩
  unfold wpOp
  simp only [ho]
  rw [if_pos (by simp [Region.wanted, hg])]
  exact .inl (Oper.wp_mono (fun a' w' h' => ⟨h'.1, e0J hsel hs hb hQ r _ a' w' (inv.set hr' hin) hB' h'.1 h'.2⟩) hK)
def t0p (ops : Array Oper) (n : Nat) (s : List (Nat × Bool)) (s2 : List Nat) : Bool :=
 Region.noSelect ops && decide (n < ops.size) && decide (s.length = n) && decide (s2.length = ops.size - n - 1) && Region.sinkB .any ops n && l0e .any ops n && i0M .any ops n s2 s (Array.replicate ops.size false)
theorem j0C {id : Nat} {a : Act} {w : World} {l : List Oper} (S S2 : World → Prop) (n : Nat) (s : List (Nat × Bool)) (s2 : List Nat) (hm : P.follows .mixedOrders = true) (hB : t0p l.toArray n s s2 = true)
  (hS : S w.drew) (hQ : ∀ c (d : Option Tmp) v a w, Q (.panic c) (Act.put a d v) w → Q (.panic c) a w)
  (h : g0r P l.toArray Q S (fun a w => ∃ o, l[n]? = some o ∧ o.guard = none ∧ o.wp P a w (fun a' w' => S2 w' ∧ h0x P l.toArray Q S2 s2 a' w') Q) s a w.drew) : (Code.region id l.toArray true).wp P Q a w := by
 simp only [t0p, Bool.and_eq_true, decide_eq_true_eq] at hB
 obtain ⟨⟨⟨⟨⟨⟨hsel, hn⟩, hlen⟩, hlen2⟩, hs⟩, hb⟩, hseq⟩ := hB
 have inv0 : HeadInv .any l.toArray n (Array.replicate l.toArray.size false) :=
  ⟨by simp, fun j oj _ hl => (by rw [getD_replicate_false] at hl; cases hl), fun t _ ht => getD_in (by simpa using ht) (getD_replicate_false _ _)⟩
 have H := e0J (md := .any) hsel hs hb hQ s _ a w.drew inv0 hseq hS h
 refine wp_region_any hm ?_
 have := k0a (g := s2.length + 1) (fun listed a w hr hBB => by
  obtain ⟨hok, o, ho, hg, hK⟩ := hBB
  refine ⟨fun h0 => (by rw [hr] at h0; cases h0), fun i hi => ?_⟩
  rw [hr] at hi
  have hi' : i = n := by simpa using hi
  subst hi'
  unfold wpOp
  have ho' : l.toArray[i]? = some o := by simpa using ho
  simp only [ho']
  rw [if_pos (by simp [Region.wanted, hg])]
  exact .inl (Oper.wp_mono (fun a' w' h' => wpAny_of_held _ _ _ _ (f0I hsel hQ s2 _ a' w' hok h'.1 h'.2)) hK)) _ _ _ _ H
 rw [hlen, hlen2, show n + (l.toArray.size - n - 1 + 1) = l.toArray.size by omega] at this
 exact this
variable {l : List Oper} {i : Nat} {r : List (Nat × Bool)} {r2 : List Nat} {B : Act → World → Prop} {a : Act} {w : World} {o : Oper}
theorem e0r (ho : l[i]? = some o) (hg : o.guard = none) {v : Value} (hv : ∀ wx, S wx → (execOp a.eval o).run P wx = .ok (.value v) wx) (h : g0r P l.toArray Q S B r (a.put o.dst v) w) : g0r P l.toArray Q S B ((i, true) :: r) a w :=
 ⟨o, v, by simpa using ho, .inl ⟨by simp [Region.wanted, hg], hv⟩, h⟩
theorem w0A (ho : l[i]? = some o) (hg : o.guard = none) {ty : TypeId} {x : Operand} (hop : o.op = .load ty x) {g p : Nat} (hx : a.eval x = .pointer (some ⟨g, p, none⟩)) (cs : List Value) (hS : ∀ wx, S wx → wx.rangeAt g p cs)
  {d : TypeDesc} (hu : P.underlying ty = some d) (hd : d.isRow = true) (hi : (P.info? ty).map (·.size) = some cs.length) (h : g0r P l.toArray Q S B r (a.put o.dst (.agg cs.toArray)) w) : g0r P l.toArray Q S B ((i, true) :: r) a w :=
 ⟨o, _, by simpa using ho, yieldsIf_load_mid (by simp [Region.wanted, hg]) ty x hop g p hx cs d hS hu hd hi, h⟩
theorem w0B (ho : l[i]? = some o) (hg : o.guard = none) (h : o.wp P a w (fun a' w' => S2 w' ∧ h0x P l.toArray Q S2 r2 a' w') Q) :
  g0r P l.toArray Q S (fun a w => ∃ o, l[i]? = some o ∧ o.guard = none ∧ o.wp P a w (fun a' w' => S2 w' ∧ h0x P l.toArray Q S2 r2 a' w') Q) [] a w := ⟨o, ho, hg, h⟩
theorem f0c (ho : l[i]? = some o) (hg : o.guard = none) {v : Value} (hv : ∀ wx, S2 wx → (execOp a.eval o).run P wx = .ok (.value v) wx) (h : h0x P l.toArray Q S2 r2 (a.put o.dst v) w) : h0x P l.toArray Q S2 (i :: r2) a w :=
 ⟨o, v, by simpa using ho, .inl ⟨by simp [Region.wanted, hg], hv⟩, h⟩
theorem w0C (h : Q .normal a w) : h0x P l.toArray Q S2 [] a w := h
end
end Go.Mv
namespace Go.Proofs.YtemcankmggmgoaaGreat
open Go.RowKit Go.Mv Mvp
attribute [local irreducible] a0C lw mix cw b0k b0y b0j a0M a0n beN b0F a0P b0C a0J a0R
theorem o0t (gt V m n : Nat) (w : World) (ht : Has w gt (cw 6 V) 222) (hm : m < 18446744073709551616) (hn : n < B64 ^ 4) (hV : V + m * n < B64 ^ 6) (hVV : V < B64 ^ 6) :
  Calls Tryz.prog 190 #[.pointer (some ⟨gt, 0, none⟩), .int .u64 (m : Int), i4 n] w fun e w' => e = .returned (.tuple #[.int .u64 (lw (V + m * n) 4 : Nat), .int .u64 (lw (V + m * n) 5 : Nat)]) ∧ Has w' gt (cw 6 (mix (V + m * n) V 4)) 222 ∧ Fr (One gt) w w' := by
 have HM := qH hm
 have hlt := p0C V m n hn hV hVV
 have HS0 := qH hlt.1
 have HS1 := qH hlt.2.1
 have HS2 := qH hlt.2.2
 clear hlt hn hV hVV
 clear hm
 have st0 := St.one ht
 go_enter Tryz.func190, Tryz.ntmps190
 go_wp2_with (with_reducible refine wSk 5 ?_)
 refine a0l st0 rfl rfl rfl (cw 4 n) rfl ?_
 intro g5 w1 st1
 clear st0
 have c5 := (st1.at 0 rfl).cell (a0G 6 V 5 ap15)
 have c4 := (st1.at 0 rfl).cell (a0G 6 V 4 ap15)
 go_wp2_with fail
 refine wp_region_noPanic ?_
 refine j0C (fun wx => St (One gt) w wx [(gt, cw 6 V, 222), (g5, cw 4 n, 111)]) (fun wx => St (One gt) w wx [(gt, cw 6 (mix (V + m * n) V 4), 222), (g5, cw 4 n, 111)]) 7 [(0, true), (1, true), (2, true), (3, true), (4, true), (5, true), (6, true)] [8, 9, 10, 11, 12] ap14 ap14 st1.drew (fun _ _ _ _ _ h => h) ?_
 have hd1 := st1.drew
 refine e0r (v := ?_) rfl rfl (fun wx hS => ?_) ?_
 rotate_left 1
 ·(clear hS; go_simp; with_reducible rfl)
 try simp only [clL]
 refine e0r (v := ?_) rfl rfl (fun wx hS => ?_) ?_
 rotate_left 1
 ·(clear hS; go_simp; with_reducible rfl)
 try simp only [clL]
 refine w0A rfl rfl rfl rfl (cw 4 n) (fun wx hS => St.rangeL hS 1 rfl 0 _ dZl) Tryz.underlying111 rfl ap9 ?_
 try simp only [clL]
 refine e0r (v := ?_) rfl rfl (fun wx hS => ?_) ?_
 rotate_left 1
 ·(clear hS; go_simp; with_reducible rfl)
 try simp only [clL]
 refine e0r (v := ?_) rfl rfl (fun wx hS => ?_) ?_
 rotate_left 1
 ·(clear hS; go_simp; with_reducible rfl)
 try simp only [clL]
 refine e0r (v := ?_) rfl rfl (fun wx hS => ?_) ?_
 rotate_left 1
 ·(clear hS; go_simp; with_reducible rfl)
 try simp only [clL]
 refine e0r (v := ?_) rfl rfl (fun wx hS => ?_) ?_
 rotate_left 1
 ·(have hc := (St.at hS 0 rfl).cell (a0G 6 V 4 ap15); clear hS; go_simp; with_reducible rfl)
 try simp only [clL]
 refine w0B rfl rfl ?_
 go_simp
 refine (p0H gt V m n (lw V 4) 222 _ (St.at hd1 0 rfl) HM.out (c0Q V 4)).mono ?_
 rintro e' w2 ⟨rfl, hg2, hf2⟩
 have st2 : St (One gt) w w2 [(gt, cw 6 (mix (V + m * n) V 4), 222), (g5, cw 4 n, 111)] := hd1.put 0 rfl hf2 hg2
 clear hd1 hf2 hg2
 refine ⟨st2, ?_⟩
 try simp only [clL]
 refine f0c (v := ?_) rfl rfl (fun wx hS => ?_) ?_
 rotate_left 1
 ·(clear hS; go_simp; with_reducible rfl)
 try simp only [clL]
 refine f0c (v := ?_) rfl rfl (fun wx hS => ?_) ?_
 rotate_left 1
 ·(clear hS; go_simp; with_reducible rfl)
 try simp only [clL]
 refine f0c (v := ?_) rfl rfl (fun wx hS => ?_) ?_
 rotate_left 1
 ·(clear hS; go_simp; with_reducible rfl)
 try simp only [clL]
 refine f0c (v := ?_) rfl rfl (fun wx hS => ?_) ?_
 rotate_left 1
 ·(clear hS; go_simp; with_reducible rfl)
 try simp only [clL]
 refine f0c (v := ?_) rfl rfl (fun wx hS => ?_) ?_
 rotate_left 1
 ·(clear hS; go_simp; with_reducible rfl)
 try simp only [clL]
 refine w0C ?_
 refine NoPanic.normal ?_
 have hg := st2.at 0 rfl
 have hfr := st2.fr
 clear st2
 have hs := HS2.out
 go_wp2_with fail
 go_ret2
 rw [← HS0.out, ← HS1.out]
 exact ⟨rfl, hg, hfr⟩
end Go.Proofs.YtemcankmggmgoaaGreat
namespace Go.Mv
open Go.RowKit
section
variable {P : Program} {ops : Array Oper} {md : Region.Mode} {Q : Exit → Act → World → Prop} {S : World → Prop}
inductive Sc where
 | nil
 | t (i : Nat) (s : Sc)
 | r (i : Nat) (s : Sc)
 | b (i j : Nat) (s u : Sc)
def Sc.len : Sc → Nat
 | .nil => 0
 | .t _ s => s.len + 1
 | .r _ s => s.len + 1
 | .b _ _ s _ => s.len + 1
def d0o (P : Program) (ops : Array Oper) (Q : Exit → Act → World → Prop) (S : World → Prop) (tl : List Oper) : Sc → Act → World → Prop
 | .nil, a, w => wpList P ops Q tl a w
 | .t i s, a, w => ∃ o v, ops[i]? = some o ∧ YieldsIf P ops S o v a ∧ d0o P ops Q S tl s (a.put o.dst v) w
 | .r i s, a, w => ∃ o, ops[i]? = some o ∧ o.guard = none ∧ o.wp P a w (fun a' w' => S w' ∧ d0o P ops Q S tl s a' w') Q
 | .b i j s u, a, w => (∃ o, ops[i]? = some o ∧ o.guard = none ∧ o.wp P a w (fun a' w' => S w' ∧ d0o P ops Q S tl s a' w') Q) ∧
   (∃ o, ops[j]? = some o ∧ o.guard = none ∧ o.wp P a w (fun a' w' => S w' ∧ d0o P ops Q S tl u a' w') Q)
def g0s (md : Region.Mode) (ops : Array Oper) (n g : Nat) : Sc → Array Bool → Bool
 | .nil, listed => Region.seqB md ops g n listed
 | .t i s, listed => decide (i < n) && (Region.ready md ops listed).contains i && Region.free md ops listed i && g0s md ops n g s (listed.setIfInBounds i true)
 | .r i s, listed => decide (i < n) && decide (Region.ready md ops listed = [i]) && g0s md ops n g s (listed.setIfInBounds i true)
 | .b i j s u, listed => decide (i < n) && decide (j < n) && decide (s.len = u.len) && decide (Region.ready md ops listed = [i, j]) && g0s md ops n g s (listed.setIfInBounds i true) && g0s md ops n g u (listed.setIfInBounds j true)
theorem c0t {n g : Nat} {tl : List Oper} (hsel : Region.noSelect ops = true) (hs : Region.sinkB md ops n = true) (hc : Region.chainB md ops n = true) (hn : n < ops.size)
  (hQ : ∀ c (d : Option Tmp) v a w, Q (.panic c) (Act.put a d v) w → Q (.panic c) a w) :
  ∀ (s : Sc) (listed : Array Bool) (a : Act) (w : World), HeadInv md ops n listed → g0s md ops n g s listed = true → S w → d0o P ops Q S tl s a w → j0V P md ops Q S n g tl s.len listed a w
 | .nil, listed, a, w, _, hB, _, h => ⟨hB, h⟩
 | .t i r, listed, a, w, inv, hB, hS, h => by
  obtain ⟨o, v, ho, hy, hK⟩ := h
  simp only [g0s, Bool.and_eq_true, decide_eq_true_eq] at hB
  obtain ⟨⟨⟨hin, hr⟩, hf⟩, hB'⟩ := hB
  have hr' : i ∈ Region.ready md ops listed := by simpa using hr
  exact h0w ho (Region.noSelect_spec hsel) (fun c a w => hQ c o.dst v a w) hs hc hn hin r.len listed a w inv (Region.free_spec ho hf) hr' hy hS
   (c0t hsel hs hc hn hQ r _ _ w (inv.set hr' hin) hB' hS hK)
 | .r i r, listed, a, w, inv, hB, hS, h => by
  obtain ⟨o, ho, hg, hK⟩ := h
  simp only [g0s, Bool.and_eq_true, decide_eq_true_eq] at hB
  obtain ⟨⟨hin, hr⟩, hB'⟩ := hB
  have hr' : i ∈ Region.ready md ops listed := by rw [hr]; simp
  refine ⟨by rw [hr]; simp, fun j hj => ?_⟩
  rw [hr] at hj
  have hj' : j = i := by simpa using hj
  subst hj'
  refine ⟨hin, ?_⟩
  unfold wpOp
  simp only [ho]
  rw [if_pos (by simp [Region.wanted, hg])]
  exact .inl (Oper.wp_mono (fun a' w' h' => ⟨h'.1, c0t hsel hs hc hn hQ r _ a' w' (inv.set hr' hin) hB' h'.1 h'.2⟩) hK)
 | .b i j r u, listed, a, w, inv, hB, hS, h => by
  obtain ⟨⟨o, ho, hg, hK⟩, ⟨o2, ho2, hg2, hK2⟩⟩ := h
  simp only [g0s, Bool.and_eq_true, decide_eq_true_eq] at hB
  obtain ⟨⟨⟨⟨⟨hin, hjn⟩, hlen⟩, hr⟩, hB1⟩, hB2⟩ := hB
  have hri : i ∈ Region.ready md ops listed := by rw [hr]; simp
  have hrj : j ∈ Region.ready md ops listed := by rw [hr]; simp
  refine ⟨by rw [hr]; simp, fun k hk => ?_⟩
  rw [hr] at hk
  have hk' : k = i ∨ k = j := by simpa using hk
  rcases hk' with e | e
  ·subst e
   refine ⟨hin, ?_⟩
   unfold wpOp
   simp only [ho]
   rw [if_pos (by simp [Region.wanted, hg])]
   exact .inl (Oper.wp_mono (fun a' w' h' => ⟨h'.1, c0t hsel hs hc hn hQ r _ a' w' (inv.set hri hin) hB1 h'.1 h'.2⟩) hK)
  ·subst e
   refine ⟨hjn, ?_⟩
   unfold wpOp
   simp only [ho2]
   rw [if_pos (by simp [Region.wanted, hg2])]
   rw [hlen]
   exact .inl (Oper.wp_mono (fun a' w' h' => ⟨h'.1, c0t hsel hs hc hn hQ u _ a' w' (inv.set hrj hjn) hB2 h'.1 h'.2⟩) hK2)
def t0q (ops : Array Oper) (n : Nat) (s : Sc) : Bool :=
 Region.noSelect ops && decide (n < ops.size) && decide (s.len = n) && Region.sinkB .any ops n && Region.chainB .any ops n && g0s .any ops n (ops.size - n) s (Array.replicate ops.size false)
theorem j0D {id : Nat} {a : Act} {w : World} {l : List Oper} (S : World → Prop) (n : Nat) (s : Sc) (hm : P.follows .mixedOrders = true) (hB : t0q l.toArray n s = true)
  (hS : S w.drew) (hQ : ∀ c (d : Option Tmp) v a w, Q (.panic c) (Act.put a d v) w → Q (.panic c) a w)
  (h : d0o P l.toArray Q S (l.drop n) s a w.drew) : (Code.region id l.toArray true).wp P Q a w := by
 simp only [t0q, Bool.and_eq_true, decide_eq_true_eq] at hB
 obtain ⟨⟨⟨⟨⟨hsel, hn⟩, hlen⟩, hs⟩, hc⟩, hseq⟩ := hB
 have inv0 : HeadInv .any l.toArray n (Array.replicate l.toArray.size false) :=
  ⟨by simp, fun j oj _ hl => (by rw [getD_replicate_false] at hl; cases hl), fun t _ ht => getD_in (by simpa using ht) (getD_replicate_false _ _)⟩
 have hdl : (l.drop n).length = l.toArray.size - n := by simp
 rw [← hdl] at hseq
 have H := c0t (md := .any) (g := (l.drop n).length) (tl := l.drop n) hsel hs hc hn hQ s _ a w.drew inv0 hseq hS h
 refine wp_region_any hm ?_
 have := g0Z (md := .any) (n := n) (tl := l.drop n) (fun j => by simp [List.getElem?_drop]) _ _ _ _ H
 rw [hlen, hdl, show n + (l.toArray.size - n) = l.toArray.size by omega] at this
 exact this
variable {l tl : List Oper} {i j : Nat} {s u : Sc} {a : Act} {w : World} {o o2 : Oper}
theorem p0S (h : wpList P ops Q tl a w) : d0o P ops Q S tl .nil a w := h
theorem c0N (ho : l[i]? = some o) (hg : o.guard = none) {v : Value} (hv : ∀ wx, S wx → (execOp a.eval o).run P wx = .ok (.value v) wx) (h : d0o P l.toArray Q S tl s (a.put o.dst v) w) : d0o P l.toArray Q S tl (.t i s) a w :=
 ⟨o, v, by simpa using ho, .inl ⟨by simp [Region.wanted, hg], hv⟩, h⟩
theorem h0P (ho : l[i]? = some o) (hg : o.guard = none) (h : o.wp P a w (fun a' w' => S w' ∧ d0o P l.toArray Q S tl s a' w') Q) : d0o P l.toArray Q S tl (.r i s) a w :=
 ⟨o, by simpa using ho, hg, h⟩
theorem p0T (ho : l[i]? = some o) (hg : o.guard = none) {ty : TypeId} {x : Operand} (hop : o.op = .load ty x) {g p : Nat} (hx : a.eval x = .pointer (some ⟨g, p, none⟩)) (cs : List Value) (hS : ∀ wx, S wx → wx.rangeAt g p cs)
  {d : TypeDesc} (hu : P.underlying ty = some d) (hd : d.isRow = true) (hi : (P.info? ty).map (·.size) = some cs.length) (h : d0o P l.toArray Q S tl s (a.put o.dst (.agg cs.toArray)) w) : d0o P l.toArray Q S tl (.t i s) a w :=
 ⟨o, _, by simpa using ho, yieldsIf_load_mid (by simp [Region.wanted, hg]) ty x hop g p hx cs d hS hu hd hi, h⟩
theorem t0r {C F : Nat → World → Prop} (ho : l[i]? = some o) (hg : o.guard = none) (ho2 : l[j]? = some o2) (hg2 : o2.guard = none)
  (h1 : (∀ g w', C g w' → F g w') → o.wp P a w (fun a' w' => S w' ∧ d0o P l.toArray Q S tl s a' w') Q)
  (h2 : (∀ g w', C g w' → F g w') → o2.wp P a w (fun a' w' => S w' ∧ d0o P l.toArray Q S tl u a' w') Q)
  (h : ∀ g w', C g w' → F g w') : d0o P l.toArray Q S tl (.b i j s u) a w :=
 ⟨⟨o, by simpa using ho, hg, h1 h⟩, ⟨o2, by simpa using ho2, hg2, h2 h⟩⟩
end
section
variable {P : Program} {w w0 : World} {o : Oper} {a : Act} {K : Act → World → Prop} {Q : Exit → Act → World → Prop} {S : Nat → Prop} {bl : List (Nat × List Value × TypeId)}
theorem b0u (hst : St S w0 w bl) {e : TypeId} (ho : o.op = .alloc e) {z : Value} (hi : (P.info? e).map (·.zero) = some (some z)) (L : List Value) (hL : z.cells.toList = L)
  (h : ∀ g w', St S w0 w' (bl ++ [(g, L, e)]) → K (a.put o.dst (.pointer (some ⟨g, 0, none⟩))) w') : o.wp P a w K Q := by
 obtain ⟨i, hi1, hz⟩ : ∃ i, P.info? e = some i ∧ i.zero = some z := by simpa using hi
 have hr : (Instr.alloc e true (.tuple #[])).run P w = .ok (.pointer (some ⟨w.heap.size, 0, none⟩)) (w.alloc (.cells z.cells e)) := by
  simp [Instr.alloc, zeroValue, typeInfo, hi1, hz, newVar, newRow]
 unfold Oper.wp execOp
 simp only [ho, Sem.run_bind, Sem.run_pure, Result.andThen_ok, hr]
 have hg := Has.new w z.cells e
 rw [hL] at hg
 exact h _ _ (hst.new ((Fr.refl _ w).alloc _) hg (Nat.le_refl _))
theorem a0h (hst : St S w0 w bl) (i : Nat) {g : Nat} {L : List Value} {T : TypeId} (hb : bl[i]? = some (g, L, T)) {ty : TypeId} {x y : Operand} (ho : o.op = .store ty x y) (hx : a.eval x = .pointer (some ⟨g, 0, none⟩)) {cs : List Value} (hy : a.eval y = .agg cs.toArray)
  (hn : cs.length = L.length) (hi : (P.info? ty).map (·.size) = some cs.length) (h1 : ∀ v ∈ cs, v.oneCell' = true)
  (h : ∀ w', St S w0 w' (bl.set i (g, cs, T)) → K (a.put o.dst undef) w') : o.wp P a w K Q := by
 obtain ⟨k1, k2, _⟩ := Has.setCells cs 0 L w (hst.at i hb) ap16
 rw [c0A _ _ hn] at k1
 exact wp_store_mid ty x y ho g 0 cs.toArray hx hy (by simpa using (hst.at i hb).there 0 cs.length ap16) (by simpa using hi) (all_oneCell_toArray h1) (by simpa using h _ (hst.put i hb k2 k1))
end
end Go.Mv
namespace Go.Proofs.YtemcankmggmgoaaGreat
open Go.RowKit Go.Mv Mvp
attribute [local irreducible] a0C lw mix cw b0k b0y b0j a0M a0n beN b0F a0P b0C a0J a0R
theorem _root_.ap13 {p : Prop} (h : p := by simp [a0i]) : p := h
theorem h0Q (m : Md) (gp a b : Nat) (w : World) (hok : m.Ok) (hpm : Has w gp (mdL m) 187) (ha : a < B64 ^ 4) (hb : b < m.M) :
  Calls Tryz.prog 152 #[.pointer (some ⟨gp, 0, none⟩), i4 a, i4 b] w fun e w' => e = .returned (i4 (a * b * m.Ri % m.M)) ∧ Fr Nob w w' := by
 have HOK := qH hok
 have HPM := qH hpm
 have HA := qH ha
 have HB := qH hb
 clear hok hpm ha hb
 have st0 := St.start Nob w
 go_enter Tryz.func152, Tryz.ntmps152
 go_wp2_with (with_reducible refine wSk 4 ?_)
 refine a0l st0 rfl rfl rfl (cw 4 a) rfl ?_
 intro g4 w1 st1
 clear st0
 go_wp2_with (with_reducible refine wSk 5 ?_)
 refine a0l st1 rfl rfl rfl (cw 4 b) rfl ?_
 intro g5 w2 st2
 clear st1
 go_wp2_with (with_reducible refine wSk 6 ?_)
 refine a0a st2 rfl rfl (z := zAd) ap14 (cw 4 0) ap12 ?_
 intro g6 w3 st3
 clear st2
 go_wp2_with (with_reducible refine wSk 7 ?_)
 refine a0a st3 rfl rfl (z := .agg #[.int .u64 0, .int .u64 0, .int .u64 0, .int .u64 0, .int .u64 0, .int .u64 0]) ap14 (cw 6 0) ap12 ?_
 intro g7 w4 st4
 clear st3
 go_wp2_with (with_reducible refine wSk 14 ?_)
 refine a0k st4 0 rfl rfl rfl Tryz.underlying66 rfl ap9 ?_
 go_wp2
 go_loopw [15] (fun i wr => ∃ k : Nat, k ≤ 4 ∧ i = .int .i64 (k : Int) ∧ St Nob w wr [(g4, cw 4 a, 66), (g5, cw 4 b, 66), (g6, cw 4 0, 66), (g7, cw 6 (a0J m.M m.neg b a k), 222)]) (fun i _ => 4 - (intOf i).toNat)
 case atStart => exact ⟨0, by omega, rfl, by rw [r0o]; exact st4⟩
 case round =>
  obtain ⟨k, hk, rfl, st⟩ := hrel
  clear st4
  by_cases hlt : k < 4
  ·have hltI : (k : Int) < 4 := by omega
   have e0 := fun wx => e0Z (P := Tryz.prog) Tryz.underlying66 Tryz.underlying58 c0L a k hlt .i64 wx
   have hTl := p0D m.M m.neg b a k (by have := HOK.out.one; omega)
   obtain ⟨b1, b2, b3, b4⟩ := o0q (a0J m.M m.neg b a k) b m.M (lw a k) (a0J m.M m.neg b a k + lw a k * b) ((a0J m.M m.neg b a k + lw a k * b) % 18446744073709551616 * m.neg % 18446744073709551616) HB.out HOK.out.lt hTl (c0Q a k) rfl (Nat.mod_lt _ ap15)
   have hsucc : a0J m.M m.neg b a (k + 1) = (a0J m.M m.neg b a k + lw a k * b + ((a0J m.M m.neg b a k + lw a k * b) % 18446744073709551616 * m.neg % 18446744073709551616) * m.M) / 18446744073709551616 := r0p m.M m.neg b a k
   generalize hT : a0J m.M m.neg b a k = T at *
   generalize hT' : a0J m.M m.neg b a (k + 1) = T' at *
   have hx := c0Q a k
   obtain ⟨l1, l2, l3⟩ := p0C T (lw a k) b (Nat.lt_trans HB.out HOK.out.lt) b2 (Nat.lt_trans b1 ap15)
   have z5 : lw T 5 = 0 := d0E T 5 5 b1 (Nat.le_refl _)
   rw [z5, Nat.zero_add] at l2
   have hline := fun wx (h : Has wx g7 (cw 6 T) 222) => p0H g7 T (lw a k) b (lw T 4) 222 wx h hx (c0Q T 4)
   rw [l1, l2] at hline
   generalize hxx : lw a k = x at *
   generalize hV : T + x * b = V at *
   have hw0 := r0l V
   generalize hmm : V % 18446744073709551616 * m.neg % 18446744073709551616 = mm at *
   have hm64 : mm < 18446744073709551616 := by rw [← hmm]; exact Nat.mod_lt _ ap15
   have hmul : IntKind.u64.wrap ((lw V 0 : Int) * (m.neg : Int)) = (mm : Int) := by
    rw [IntKind.wrap_u64, ← hmm, hw0, ← Int.natCast_mul]; rfl
   have hlt2 := fun wx (h : Has wx g7 (cw 6 V) 222) => o0t g7 V mm m.M wx h hm64 HOK.out.lt b4 b3
   generalize hV2 : V + mm * m.M = V2 at *
   have hshift := C0c V2 b4
   rw [← hsucc] at hshift
   have HLINE := qH hline
   have HLT2 := qH hlt2
   have HSHIFT := qH hshift
   have HT := qH hT
   have HT' := qH hT'
   clear hTl b1 b2 b3 b4 hsucc l1 l2 l3 z5 hline hV hw0 hmm hm64 hlt2 hV2 hshift hT hT' hx hxx
   have ct := (st.at 3 rfl).cell (a0G 6 T 4 ap15)
   go_wp2_with (with_reducible refine wSk 20 ?_)
   refine a0k st 1 rfl rfl rfl Tryz.underlying66 rfl ap9 ?_
   go_wp2_with fail
   refine (HLINE.out _ (st.at 3 rfl)).mono ?_
   rintro e' w5 ⟨rfl, hg5, hf5⟩
   have st5 : St Nob w w5 [(g4, cw 4 a, 66), (g5, cw 4 b, 66), (g6, cw 4 0, 66), (g7, cw 6 (mix V T 4), 222)] := st.put 3 rfl hf5 hg5
   clear st hf5 hg5
   clear ct
   obtain ⟨v4, c4, f4⟩ := (st5.at 3 rfl).ready (i := 4) (by rw [a0i]; decide)
   obtain ⟨v5, c5, f5⟩ := (st5.at 3 rfl).ready (i := 5) (by rw [a0i]; decide)
   go_wp2_with fail
   have stA := (st5.set 3 rfl 4 (.int .u64 (lw V 4 : Nat))).set 3 rfl 5 (.int .u64 (lw V 5 : Nat))
   have hcw : ((cw 6 (mix V T 4)).set 4 (.int .u64 (lw V 4 : Nat))).set 5 (.int .u64 (lw V 5 : Nat)) = cw 6 V := by rw [d0V 6 V T 4 ap15, d0V 6 V T 5 ap15, h0N]
   rw [hcw] at stA
   clear hcw c4 c5 f4 f5 v4 v5 st5
   generalize (World.setCell (World.setCell w5 ⟨g7, 4, none⟩ (.int .u64 (lw V 4 : Nat))) ⟨g7, 5, none⟩ (.int .u64 (lw V 5 : Nat))) = wA at *
   have stA : St Nob w wA [(g4, cw 4 a, 66), (g5, cw 4 b, 66), (g6, cw 4 0, 66), (g7, cw 6 V, 222)] := stA
   have cv := (stA.at 3 rfl).cell (a0G 6 V 0 ap15)
   have cn := (HPM.out.keep stA.fr id).cell (C0b m)
   go_quiet (fail)
   have stB := stA.drewN nq
   clear stA cv cn
   go_wp2_with (with_reducible refine wSk 40 ?_)
   refine c0c rfl rfl Tryz.underlying111 rfl (HPM.out.keep stB.fr id) (cw 4 m.M) (l0T m) ap9 ?_
   go_wp2_with fail
   refine (HLT2.out _ (stB.at 3 rfl)).mono ?_
   rintro e' w7 ⟨rfl, hg7, hf7⟩
   have st7 : St Nob w w7 [(g4, cw 4 a, 66), (g5, cw 4 b, 66), (g6, cw 4 0, 66), (g7, cw 6 (mix V2 V 4), 222)] := stB.put 3 rfl hf7 hg7
   clear stB hf7 hg7
   obtain ⟨v4, c4, f4⟩ := (st7.at 3 rfl).ready (i := 4) (by rw [a0i]; decide)
   obtain ⟨v5, c5, f5⟩ := (st7.at 3 rfl).ready (i := 5) (by rw [a0i]; decide)
   go_wp2_with fail
   have stC := (st7.set 3 rfl 4 (.int .u64 (lw V2 4 : Nat))).set 3 rfl 5 (.int .u64 (lw V2 5 : Nat))
   have hcw : ((cw 6 (mix V2 V 4)).set 4 (.int .u64 (lw V2 4 : Nat))).set 5 (.int .u64 (lw V2 5 : Nat)) = cw 6 V2 := by rw [d0V 6 V2 V 4 ap15, d0V 6 V2 V 5 ap15, h0N]
   rw [hcw] at stC
   clear hcw c4 c5 f4 f5 v4 v5 st7
   generalize (World.setCell (World.setCell w7 ⟨g7, 4, none⟩ (.int .u64 (lw V2 4 : Nat))) ⟨g7, 5, none⟩ (.int .u64 (lw V2 5 : Nat))) = wC at *
   have stC : St Nob w wC [(g4, cw 4 a, 66), (g5, cw 4 b, 66), (g6, cw 4 0, 66), (g7, cw 6 V2, 222)] := stC
   have k1 := fun wx => e0D (P := Tryz.prog) wx Tryz.underlying222 c0L g7 0 .i64 5 ap15
   have k2 := fun wx => g0g (P := Tryz.prog) wx Tryz.underlying222 c0L g7 0 .i64 1 ap15
   refine wp_region_noPanic ?_
   refine c0M (fun wx => St Nob w wx [(g4, cw 4 a, 66), (g5, cw 4 b, 66), (g6, cw 4 0, 66), (g7, cw 6 V2, 222)]) 2 [(0, true), (1, true)] ap14 ap14 stC.drew (fun _ _ _ _ _ h => h) ?_
   have stD := stC.drew
   clear stC
   refine a0N (v := ?_) rfl rfl (fun wx hS => ?_) ?_
   rotate_left 1
   ·(clear hS; go_simp; with_reducible rfl)
   try simp only [clL]
   refine a0N (v := ?_) rfl rfl (fun wx hS => ?_) ?_
   rotate_left 1
   ·(clear hS; go_simp; with_reducible rfl)
   try simp only [clL]
   refine i0K ?_
   try simp only [List.drop_succ_cons, List.drop_zero]
   refine s0j rfl rfl Tryz.underlying226 c0L rfl rfl (stD.at 3 rfl) (Rd.ofHas (stD.at 3 rfl) 1 (n := 5) (by rw [a0i]; decide)) (fun v hv => a0f _ _ v (List.mem_of_mem_drop (List.mem_of_mem_take hv))) (by rw [a0i]; decide) ?_
   intro wE hgE hfE hzE
   clear hzE
   have stE := stD.put 3 rfl hfE hgE
   clear stD hgE hfE
   obtain ⟨v5, c5, f5⟩ := (stE.at 3 rfl).ready (i := 5) (by rw [f0U _ _ _ ap13]; rw [a0i]; decide)
   go_wp2_with fail
   refine NoPanic.normal ?_
   clear k1 k2
   go_wp2_with fail
   have stF := stE.set 3 rfl 5 (.int .u64 0)
   clear stE c5 f5
   go_roundw
   case rel =>
    refine ⟨k + 1, by omega, by go_num, ?_⟩
    rw [HT'.out]
    have hh := stF
    have h6 := HSHIFT.out
    simp only [List.set_cons_succ, List.set_cons_zero] at hh
    rw [show min 5 5 = 5 from rfl, List.take_take, show min 5 5 = 5 from rfl, h6] at hh
    exact hh
   case measure => simp [intOf]; omega
  ·have hge : ¬ ((k : Int) < 4) := by omega
   have hk4 : k = 4 := by omega
   subst hk4
   have k4 : ∀ wx, (Instr.arrayAt 111 (.slice (some ⟨g7, 0, none⟩) 4 6)).run Tryz.prog wx = .ok (.pointer (some ⟨g7, 0, none⟩)) wx := fun wx => by simp [Instr.arrayAt, run_underlying Tryz.underlying111]
   have k3 := fun wx => e0D (P := Tryz.prog) wx Tryz.underlying222 c0L g7 0 .i64 4 ap15
   have hTl := p0D m.M m.neg b a 4 (by have := HOK.out.one; omega)
   have hval := r0m m.M m.neg m.Ri a b (by have := HOK.out.one; omega) HA.out HOK.out.neg (by rw [HOK.out.inv, Nat.mod_eq_of_lt HOK.out.one])
   generalize hT : a0J m.M m.neg b a 4 = T at *
   have HT := qH hT; clear hT
   have HTL := qH hTl; clear hTl
   have HVAL := qH hval; clear hval
   go_wp2_with (with_reducible refine wSk 53 ?_)
   refine c0c rfl rfl Tryz.underlying111 rfl (st.at 3 rfl) (cw 4 T) (z0Y T) (by rw [a0i]; exact l0a) ?_
   clear k3 k4
   go_wp2_with (with_reducible refine wSk 11 ?_)
   refine a0a st rfl rfl (z := zAd) ap14 (cw 4 0) ap12 ?_
   intro g11 w5 st5
   clear st
   go_wp2_with (with_reducible refine wSn ?_)
   refine a0b st5 4 rfl rfl rfl rfl rfl ap5 ap9 (a0f _ _) ?_
   intro w6 st6
   clear st5
   go_wp2_with fail
   refine wp_region_noPanic ?_
   refine j0D (fun wx => St Nob w wx [(g4, cw 4 a, 66), (g5, cw 4 b, 66), (g6, cw 4 0, 66), (g7, cw 6 T, 222), (g11, cw 4 T, 111)]) 11 (.t 0 (.t 1 (.t 2 (.t 3 (.t 4 (.b 5 9 (.t 6 (.t 7 (.t 8 (.r 9 (.r 10 .nil))))) (.r 5 (.t 6 (.t 7 (.t 8 (.r 10 .nil))))))))))) ap14 ap14 st6.drew (fun _ _ _ _ _ h => h) ?_
   have hd6 := st6.drew
   clear st6
   refine p0T rfl rfl rfl rfl (cw 4 T) (fun wx hS => St.rangeL hS 4 rfl 0 _ dZl) Tryz.underlying111 rfl ap9 ?_
   try simp only [clL]
   refine c0N (v := ?_) rfl rfl (fun wx hS => ?_) ?_
   rotate_left 1
   ·(clear hS; go_simp; with_reducible rfl)
   try simp only [clL]
   refine c0N (v := ?_) rfl rfl (fun wx hS => ?_) ?_
   rotate_left 1
   ·(clear hS; go_simp; with_reducible rfl)
   try simp only [clL]
   refine c0N (v := ?_) rfl rfl (fun wx hS => ?_) ?_
   rotate_left 1
   ·(clear hS; go_simp; with_reducible rfl)
   try simp only [clL]
   refine p0T rfl rfl rfl rfl (cw 4 m.M) (fun wx hS => (HPM.out.keep (St.fr hS) id).range 0 _ (l0T m)) Tryz.underlying111 rfl ap9 ?_
   try simp only [clL]
   refine t0r (C := fun g12 wz => St Nob w wz [(g4, cw 4 a, 66), (g5, cw 4 b, 66), (g6, cw 4 0, 66), (g7, cw 6 T, 222), (g11, cw 4 T, 111), (g12, cw 4 (T + B64 ^ 4 - m.M), 111)]) (F := ?_) rfl rfl rfl rfl (fun key => ?_) (fun key => ?_) ?_
   rotate_left 1
   ·skip
    go_simp
    refine (d0F T m.M _ HOK.out.lt).mono ?_
    rintro e' w7 ⟨rfl, hf7⟩
    have st7 := hd6.keep hf7
    clear hf7
    refine ⟨st7, ?_⟩
    try simp only [clL]
    refine c0N (v := ?_) rfl rfl (fun wx hS => ?_) ?_
    rotate_left 1
    ·(clear hS; go_simp; with_reducible rfl)
    try simp only [clL]
    refine c0N (v := ?_) rfl rfl (fun wx hS => ?_) ?_
    rotate_left 1
    ·(clear hS; go_simp; with_reducible rfl)
    try simp only [clL]
    refine c0N (v := ?_) rfl rfl (fun wx hS => ?_) ?_
    rotate_left 1
    ·(clear hS; go_simp; with_reducible rfl)
    try simp only [clL]
    refine h0P rfl rfl ?_
    refine b0u st7 rfl (z := zAd) ap14 (cw 4 0) ap12 ?_
    intro g12 w8 st8
    refine ⟨St.less st8 ap17, ?_⟩
    try simp only [clL]
    refine h0P rfl rfl ?_
    refine a0h st8 5 rfl rfl rfl rfl ap5 ap9 (a0f _ _) ?_
    intro w9 st9
    refine ⟨St.less st9 ap17, ?_⟩
    try simp only [Act.put]
    refine p0S ?_
    try simp only [List.drop_succ_cons, List.drop_zero]
    go_wp2_with fail
    exact key g12 w9 st9
   ·skip
    refine b0u hd6 rfl (z := zAd) ap14 (cw 4 0) ap12 ?_
    intro g12 w10 st10
    refine ⟨St.less st10 ap17, ?_⟩
    try simp only [clL]
    refine h0P rfl rfl ?_
    go_simp
    refine (d0F T m.M _ HOK.out.lt).mono ?_
    rintro e' w11 ⟨rfl, hf11⟩
    have st11 := st10.keep hf11
    clear hf11
    refine ⟨St.less st11 ap17, ?_⟩
    try simp only [clL]
    refine c0N (v := ?_) rfl rfl (fun wx hS => ?_) ?_
    rotate_left 1
    ·(clear hS; go_simp; with_reducible rfl)
    try simp only [clL]
    refine c0N (v := ?_) rfl rfl (fun wx hS => ?_) ?_
    rotate_left 1
    ·(clear hS; go_simp; with_reducible rfl)
    try simp only [clL]
    refine c0N (v := ?_) rfl rfl (fun wx hS => ?_) ?_
    rotate_left 1
    ·(clear hS; go_simp; with_reducible rfl)
    try simp only [clL]
    refine h0P rfl rfl ?_
    refine a0h st11 5 rfl rfl rfl rfl ap5 ap9 (a0f _ _) ?_
    intro w12 st12
    refine ⟨St.less st12 ap17, ?_⟩
    try simp only [Act.put]
    refine p0S ?_
    try simp only [List.drop_succ_cons, List.drop_zero]
    go_wp2_with fail
    exact key g12 w12 st12
   intro g12 w13 st13
   have st13 : St Nob w w13 [(g4, cw 4 a, 66), (g5, cw 4 b, 66), (g6, cw 4 0, 66), (g7, cw 6 T, 222), (g11, cw 4 T, 111), (g12, cw 4 (T + B64 ^ 4 - m.M), 111)] := st13
   clear hd6
   refine NoPanic.normal ?_
   have c4 := (st13.at 3 rfl).cell (a0G 6 T 4 ap15)
   have hfin := j0U T m.M HOK.out.lt (by have := HTL.out; have := HB.out; omega)
   by_cases hlt2 : T < m.M
   ·obtain ⟨f1, f2, f3⟩ := hfin.1 hlt2
    rw [f1] at c4
    rw [f2]
    have HF := qH f3
    clear hfin f1 f2 f3 hlt2
    go_wp2_with (with_reducible refine wSk 70 ?_)
    refine a0k st13 4 rfl rfl rfl Tryz.underlying111 rfl ap9 ?_
    go_wp2_with (with_reducible refine wSn ?_)
    refine a0b st13 2 rfl rfl rfl rfl rfl ap5 ap9 (a0f _ _) ?_
    intro w14 st14
    clear st13
    have hr := st14.at 2 rfl
    have hfr := st14.fr
    clear st14
    go_wp2_with fail
    exact bodyPost_ret (a0v rfl rfl hr Tryz.underlying66 ap9) rfl ⟨by rw [← HVAL.out]; unfold i4; rw [HF.out], hfr⟩
   ·obtain ⟨f3, f4⟩ := hfin.2 hlt2
    have HF := qH f3
    by_cases hlt3 : T < B64 ^ 4
    ·obtain ⟨f1, f2⟩ := f4 hlt3
     rw [f1] at c4
     rw [f2]
     clear hfin f1 f2 f3 f4 hlt2 hlt3
     go_wp2_with (with_reducible refine wSk 71 ?_)
     refine a0k st13 5 rfl rfl rfl Tryz.underlying111 rfl ap9 ?_
     go_wp2_with (with_reducible refine wSn ?_)
     refine a0b st13 2 rfl rfl rfl rfl rfl ap5 ap9 (a0f _ _) ?_
     intro w14 st14
     clear st13
     have hr := st14.at 2 rfl
     have hfr := st14.fr
     clear st14
     go_wp2_with fail
     exact bodyPost_ret (a0v rfl rfl hr Tryz.underlying66 ap9) rfl ⟨by rw [← HVAL.out]; unfold i4; rw [HF.out], hfr⟩
    ·have f1 := t0e T (by have := HTL.out; have := HB.out; have := HOK.out.lt; omega) hlt3
     rw [f1] at c4
     clear hfin f1 f3 f4 hlt2 hlt3
     go_wp2_with (with_reducible refine wSk 71 ?_)
     refine a0k st13 5 rfl rfl rfl Tryz.underlying111 rfl ap9 ?_
     go_wp2_with (with_reducible refine wSn ?_)
     refine a0b st13 2 rfl rfl rfl rfl rfl ap5 ap9 (a0f _ _) ?_
     intro w14 st14
     clear st13
     have hr := st14.at 2 rfl
     have hfr := st14.fr
     clear st14
     go_wp2_with fail
     exact bodyPost_ret (a0v rfl rfl hr Tryz.underlying66 ap9) rfl ⟨by rw [← HVAL.out]; unfold i4; rw [HF.out], hfr⟩
end Go.Proofs.YtemcankmggmgoaaGreat
namespace Mvp
def elN (m : Md) (x : Nat) : Nat := x * B64 ^ 4 % m.M
theorem l0f (m : Md) (h : m.Ok) (x : Nat) : elN m x < m.M := Nat.mod_lt _ (by have := h.one; omega)
theorem i0N (m : Md) (h : m.Ok) (x : Nat) : elN m x < B64 ^ 4 := Nat.lt_trans (l0f m h x) h.lt
theorem C0i (m : Md) : B64 ^ 4 % m.M = elN m 1 := by rw [elN, Nat.one_mul]
theorem e0a (m : Md) : elN m 0 = 0 := by rw [elN, Nat.zero_mul, Nat.zero_mod]
theorem m0Q (m : Md) (x : Nat) : elN m (x % m.M) = elN m x := by rw [elN, elN, Nat.mod_mul_mod]
theorem h0R (m : Md) {x y : Nat} (h : x % m.M = y % m.M) : elN m x = elN m y := by rw [← m0Q, h, m0Q]
theorem A0e (m : Md) (h : m.Ok) (x : Nat) : x * B64 ^ 4 * m.Ri % m.M = x % m.M := by
 rw [Nat.mul_assoc, Nat.mul_mod, h.inv, Nat.mul_one, Nat.mod_mod]
theorem o0u (a b R Ri M : Nat) : (a * R % M) * (b * R % M) * Ri % M = (a * b * R) * R * Ri % M := by
 rw [← Nat.mod_mul_mod (a * R % M * (b * R % M)), ← Nat.mul_mod, Nat.mod_mul_mod, Nat.mul_mul_mul_comm, ← Nat.mul_assoc (a * b)]
theorem r0u (n R Ri M : Nat) : n * (R * R % M) * Ri % M = n * R * R * Ri % M := by
 rw [← Nat.mod_mul_mod (n * (R * R % M)), Nat.mul_mod_mod, Nat.mod_mul_mod, ← Nat.mul_assoc]
theorem C0j (m : Md) (h : m.Ok) (x y : Nat) : elN m x * elN m y * m.Ri % m.M = elN m (x * y) := by
 unfold elN
 rw [o0u, A0e m h]
theorem C0k (m : Md) (h : m.Ok) (n : Nat) : n * (B64 ^ 4 * B64 ^ 4 % m.M) * m.Ri % m.M = elN m n := by
 rw [r0u, A0e m h, elN]
theorem o0v (m : Md) (h : m.Ok) (x : Nat) : elN m x * 1 * m.Ri % m.M = x % m.M := by
 rw [Nat.mul_one, elN, Nat.mod_mul_mod, A0e m h]
theorem p0U (m : Md) (x y : Nat) : (elN m x + elN m y) % m.M = elN m (x + y) := by
 rw [elN, elN, elN, ← Nat.add_mod, Nat.add_mul]
theorem y0K (m : Md) (h : m.Ok) {x y : Nat} (e : elN m x = elN m y) : x % m.M = y % m.M := by
 rw [← o0v m h x, e, o0v m h y]
theorem y0L (m : Md) (h : m.Ok) (x y : Nat) : (elN m x + m.M - elN m y) % m.M = elN m (x + (m.M - y % m.M)) := by
 have hM : 0 < m.M := by have := h.one; omega
 have hy := l0f m h y
 have h1 : (elN m x + m.M - elN m y) + elN m y = elN m x + m.M := by omega
 have hym := Nat.mod_lt y hM
 have e1 : ((elN m x + m.M - elN m y) % m.M + elN m y) % m.M = elN m x % m.M := by
  rw [Nat.mod_add_mod, h1, Nat.add_mod_right]
 have e2 : (elN m (x + (m.M - y % m.M)) + elN m y) % m.M = elN m x % m.M := by
  rw [p0U, Nat.mod_eq_of_lt (l0f m h x)]
  refine h0R m ?_
  rw [Nat.add_assoc, Nat.add_mod x, Nat.add_comm _ y, ← Nat.mod_add_mod y, show y % m.M + (m.M - y % m.M) = m.M by omega, Nat.mod_self, Nat.add_zero, Nat.mod_mod]
 have a1 := Nat.mod_lt (elN m x + m.M - elN m y) hM
 have a2 := l0f m h (x + (m.M - y % m.M))
 generalize (elN m x + m.M - elN m y) % m.M = p at *
 generalize elN m (x + (m.M - y % m.M)) = q at *
 generalize elN m y = r at *
 have e3 : (p + r) % m.M = (q + r) % m.M := by rw [e1, e2]
 have l1 := Nat.div_add_mod (p + r) m.M
 have l2 := Nat.div_add_mod (q + r) m.M
 rcases Nat.lt_or_ge (p + r) m.M with h1 | h1 <;> rcases Nat.lt_or_ge (q + r) m.M with h2 | h2
 ·rw [Nat.mod_eq_of_lt h1, Nat.mod_eq_of_lt h2] at e3; omega
 ·rw [Nat.mod_eq_of_lt h1, Nat.mod_eq_sub_mod h2, Nat.mod_eq_of_lt ap16] at e3; omega
 ·rw [Nat.mod_eq_of_lt h2, Nat.mod_eq_sub_mod h1, Nat.mod_eq_of_lt ap16] at e3; omega
 ·rw [Nat.mod_eq_sub_mod h1, Nat.mod_eq_sub_mod h2, Nat.mod_eq_of_lt ap16, Nat.mod_eq_of_lt ap16] at e3; omega
theorem t0s (a b : Nat) (ha : a < B64 ^ 4) (hb : b < B64 ^ 4) : b0y a b 4 = lw (a + b) 4 := by
 rw [w0i a b 4 ha hb]
 unfold lw
 have h0 := c0e 4
 have : (a + b) / B64 ^ 4 < 2 := Nat.div_lt_of_lt_mul ap16
 exact (Nat.mod_eq_of_lt (Nat.lt_trans this ap15)).symm
theorem m0R (a b M : Nat) (_ : a < M) (hb : b < M) (hM : M < B64 ^ 4) (h : a < b) : Go.Mv.cw 4 ((a + M - b) % M) = Go.Mv.cw 4 (a + B64 ^ 4 - b + M) := by
 rw [Nat.mod_eq_of_lt ap16, ← Go.Mv.cw_mod 4 (a + B64 ^ 4 - b + M)]
 rw [show a + B64 ^ 4 - b + M = (a + M - b) + B64 ^ 4 by omega, Nat.add_mod_right, Go.Mv.cw_mod]
theorem m0S (a b M : Nat) (ha : a < M) (hb : b < M) (h : ¬ a < b) : Go.Mv.cw 4 ((a + M - b) % M) = Go.Mv.cw 4 (a + B64 ^ 4 - b) := by
 have _h := hb
 rw [show a + M - b = (a - b) + M by omega, Nat.add_mod_right, Nat.mod_eq_of_lt ap16, ← Go.Mv.cw_mod 4 (a + B64 ^ 4 - b), show a + B64 ^ 4 - b = (a - b) + B64 ^ 4 by omega, Nat.add_mod_right, Go.Mv.cw_mod]
end Mvp
