/- ; ; . -/
import Derived.Test.YtemcankmggmgoaaGreatDoorMgKeysSetsProof9
import Derived.Deep.RegionHeld3
import Derived.BigQuiet
import Derived.Test.YtemcankmggmgoaaGreatDoorMgKeysSetsProof1
import Derived.ProofKit
import Derived.OpenShut
import Derived.Carry
set_option maxHeartbeats 16000000
set_option maxRecDepth 1000000

namespace Go.Proofs.YtemcankmggmgoaaGreatDoor
section
open Go.RowKit Go.Mv Mvp
attribute [local irreducible] b0l b0B toB a0v a0I b0m c0h a0C c0i b0k a0G c0S
def Up (base : Nat) : Nat → Prop := fun k => base ≤ k
theorem n0U (y : UInt8) : ((y.toNat : Int) + 1) % 256 = ((y + 1).toNat : Int) := by simp
structure ApAt (w0 : World) (base n : Nat) (lv : Value) (vs : List Value) (st : List (List UInt8)) (w : World) : Prop where
 l : Own w base 24 1 lv n vs
 p : POwn w base vs st
 f : Fr (Up base) w0 w
theorem ApAt.still {w0 w w' : World} {base n : Nat} {lv : Value} {vs : List Value} {st : List (List UInt8)} (h : ApAt w0 base n lv vs st w) (hf : Fr Nob w w') : ApAt w0 base n lv vs st w' :=
 ⟨h.l.still hf, h.p.still hf, h.f.same hf⟩
theorem ApAt.at {w0 w : World} {base n : Nat} {lv : Value} {vs : List Value} {st : List (List UInt8)} (h : ApAt w0 base n lv vs st w) {i : Nat} (hi : i < n) :
  ∃ g o c x, lv = .slice (some ⟨g, o, none⟩) n c ∧ vs[i]? = some x ∧ w.cell? ⟨g, o + i, none⟩ = some x ∧ Own w base 5 1 x (st.getD i []).length (bs (st.getD i [])) := by
 obtain ⟨a, c, rfl, _, hr, -⟩ := h.l.form
 rw [Nat.mul_one] at hr
 have hvl := hr.len
 obtain ⟨b, o, rfl, hat⟩ := hr.at (by omega)
 obtain ⟨l, h3, h4⟩ := h.p.get i vs[i] (List.getElem?_eq_getElem (by omega))
 have e : st.getD i [] = l := by rw [List.getD_eq_getElem?_getD, h3]; rfl
 rw [e]
 exact ⟨b, o, c, vs[i], rfl, List.getElem?_eq_getElem (by omega), hat i _ (List.getElem?_eq_getElem (by omega)), h4⟩
theorem ApAt.upd {w0 w w' : World} {base n : Nat} {lv : Value} {vs : List Value} {st : List (List UInt8)} (h : ApAt w0 base n lv vs st w) (hs : Sep vs) {i : Nat} {x : Value} (hx : vs[i]? = some x) {l l' : List UInt8} (ho : Own w base 5 1 x l.length (bs l)) (hf : Fr (c0o x) w w') (ho' : Own w' base 5 1 x l'.length (bs l')) :
  ApAt w0 base n lv vs (st.set i l') w' := by
 refine ⟨h.l.keep hf (fun k hk hk' => h.l.ne2 ho (by decide) k hk hk'), POwn.upd hf i l' h.p (fun v hv => by rw [hx] at hv; cases hv; exact ho') (fun j v hj hv k hk hk' => hs.ne hv hx hj k hk hk'), h.f.trans hf (fun k _ t => (ho.lt t).1)⟩
def tl (i : Nat) : List UInt8 := (List.range 80).map fun j => UInt8.ofNat ((i * 37 + j) % 253) ^^^ 90
theorem i0E (i : Nat) : (tl i).length = 80 := by simp [tl]
theorem v0o (i j : Nat) (h : j < 80) : (tl i).getD j 0 = UInt8.ofNat ((i * 37 + j) % 253) ^^^ 90 := by simp [tl, List.getD_eq_getElem?_getD, h]
theorem x0i (i j : Nat) (h : j < 80) : (tl i).take (j + 1) = (tl i).take j ++ [UInt8.ofNat ((i * 37 + j) % 253) ^^^ 90] := by
 rw [List.take_succ_eq_append_getElem (by rw [i0E]; exact h), ← v0o i j h]
 simp [List.getD_eq_getElem?_getD, i0E, h]
theorem v0p (k j : Nat) : bits BinOp.xor IntKind.u8 (((k : Int) * 37 + (j : Int)) % 253) 90 = (((k * 37 + j) % 253 % 256 ^^^ 90 : Nat) : Int) := by
 have e1 : (((k : Int) * 37 + (j : Int)) % 253) = (((k * 37 + j) % 253 : Nat) : Int) := by omega
 have h := Nat.mod_lt (k * 37 + j) (show 0 < 253 by decide)
 rw [e1]
 generalize (k * 37 + j) % 253 = z at *
 have e2 := u8_xor_nat z 90 (by omega) (by omega)
 rw [show (90 : Int) = ((90 : Nat) : Int) from rfl, e2, Nat.mod_eq_of_lt (show z < 256 by omega)]
def grw (ls : List (List UInt8)) (i : Nat) : List (List UInt8) := (List.range i).map fun k => inc (ls.getD k []) ++ tl k
theorem u0v (ls : List (List UInt8)) (i : Nat) : grw ls (i + 1) = grw ls i ++ [inc (ls.getD i []) ++ tl i] := by simp [grw, List.range_succ]
theorem x0j (ls : List (List UInt8)) (i k : Nat) (h : k < i) : (grw ls i).getD k [] = inc (ls.getD k []) ++ tl k := by simp [grw, List.getD_eq_getElem?_getD, h]
theorem Own.front {w : World} {base : Nat} {T : TypeId} {g o n m cap : Nat} {L M : List Value} (h : Own w base T 1 (.slice (some ⟨g, o, none⟩) (n + m) cap) (n + m) (L ++ M)) (hL : L.length = n) : Own w base T 1 (.slice (some ⟨g, o, none⟩) n cap) n L := by
 obtain ⟨h1, h | ⟨g', o', cap', B, hv, h2, h3, h4, h5, h6, h7⟩⟩ := h
 ·cases h.1
 ·simp only [Value.slice.injEq, Option.some.injEq, Addr.mk.injEq, and_true, true_and] at hv
  obtain ⟨⟨rfl, rfl⟩, rfl⟩ := hv
  refine ⟨by omega, .inr ⟨g, o, cap, B, rfl, h2, h3, by omega, h5, h6, ?_⟩⟩
  have := congrArg (fun l => l.take n) h7
  simp only [List.take_take] at this
  rw [List.take_left' hL, Nat.mul_one, Nat.min_eq_left (by omega)] at this
  rw [Nat.mul_one]; exact this
def Grows (w : World) (x gv : Value) (n j : Nat) : Prop := (∃ g o cap, x = .slice (some ⟨g, o, none⟩) n cap ∧ gv = .slice (some ⟨g, o, none⟩) (n + j) cap) ∨ (∀ b, c0o gv b → w.heap.size ≤ b)
theorem Grows.start (w : World) (x : Value) (a : Option Addr) (n c : Nat) (h : x = .slice a n c) (ha : ∀ y, a = some y → y.spot = none) : Grows w x x n 0 := by
 subst h
 cases a with
 | none => exact .inr (fun b hb => by cases hb)
 | some y =>
  obtain ⟨g, o, sp⟩ := y
  have : sp = none := ha _ rfl
  subst this
  exact .inl ⟨g, o, c, rfl, rfl⟩
theorem Grows.blk {w : World} {x gv : Value} {n j : Nat} (h : Grows w x gv n j) (b : Nat) (hb : c0o gv b) : c0o x b ∨ w.heap.size ≤ b := by
 rcases h with ⟨g, o, cap, rfl, rfl⟩ | h
 ·exact .inl hb
 ·exact .inr (h b hb)
theorem Grows.step {wi w w' : World} {base n j : Nat} {x gv v' : Value} {L M : List UInt8} (h : Grows wi x gv n j) (hx : Own w base 5 1 x n (bs L)) (hxi : ∀ b, c0o x b → b < wi.heap.size) (hf0 : Fr (c0o x) wi w)
  (ho' : Own w' base 5 1 v' (n + j + 1) (bs (L ++ M))) (hf : Fr (c0o gv) w w')
  (hc : ((∃ x o cap, gv = .slice (some ⟨x, o, none⟩) (n + j) cap ∧ v' = .slice (some ⟨x, o, none⟩) (n + j + 1) cap) ∨ ((1 : Nat) = 0 ∧ v' = gv)) ∨ (v'.ownBlock = some w.heap.size ∧ Fr Nob w w')) :
  Grows wi x v' n (j + 1) ∧ Own w' base 5 1 x n (bs L) ∧ Fr (c0o x) wi w' := by
 rw [c0A] at ho'
 have hfr : Fr (c0o x) wi w' := hf0.trans hf (fun i hi t => (h.blk i t).resolve_right (by omega))
 have hsz := hf0.size
 have hLn : (bs L).length = n := by have := hx.1; omega
 rcases hc with (⟨g, o, cap, rfl, rfl⟩ | ⟨h0, -⟩) | ⟨h1, h2⟩
 ·rcases h with ⟨g', o', cap', rfl, hv⟩ | h
  ·simp only [Value.slice.injEq, Option.some.injEq, Addr.mk.injEq, and_true, true_and] at hv
   obtain ⟨⟨rfl, rfl⟩, rfl⟩ := hv
   exact ⟨.inl ⟨_, _, _, rfl, rfl⟩, Own.front (m := j + 1) ho' hLn, hfr⟩
  ·refine ⟨.inr h, hx.keep hf (fun k hk hk' => ?_), hfr⟩
   have h3 := h k hk'
   have h4 := hxi k hk
   omega
 ·omega
 ·refine ⟨.inr (fun b hb => ?_), hx.still h2, hfr⟩
  have : w.heap.size = b := by
   have hb' : v'.ownBlock = some b := hb
   rw [h1] at hb'
   exact Option.some.inj hb'
  omega
theorem u0w {P : Program} {t : TypeId} (ht : P.underlying t = some .string) (q : ByteArray) (k : Nat) (hk : k < q.size) (y : UInt8) (hy : q.data.toList.getD k 0 = y) (w : World) : (Instr.index t (.string q) (.int .i64 (k : Int))).run P w = .ok (.int .u8 (y.toNat : Int)) w := by
 have he : q[k]? = some y := by
  have h1 : q[k]? = some q[k] := getElem?_pos q k hk
  rw [h1]
  congr 1
  rw [← hy, List.getD_eq_getElem?_getD, List.getElem?_eq_getElem (by simpa using hk)]
  simp
  rfl
 simp [Instr.index, asIntOf, run_underlying ht, he]
theorem l0y (lv : Value) (base n : Nat) (vs : List Value) (ls : List (List UInt8)) (w : World) (hown : Own w base 24 1 lv n vs) (hpo : POwn w base vs ls) (hsep : Sep vs) (hn : n ≤ 100000) (hx : ∀ x ∈ ls, x.length ≤ 1000000) (hbase : base ≤ w.heap.size) :
  Calls Tryz.prog 10 #[lv] w fun e w' => e = .returned (.bool true) ∧ Fr (Up base) w w' := by
 have hln : ls.length = n := by
  have h1 := hpo.len
  have h2 := hown.1
  omega
 have hA0 : ApAt w base n lv vs ls w := ⟨hown, hpo, Fr.refl _ _⟩
 have HLB := qH (fun b (hb : c0o lv b) => (hown.lt hb).2)
 obtain ⟨a0, c0, rfl, hc0, -⟩ := id hown.form
 have hxg : ∀ i, i < n → (ls.getD i []).length ≤ 1000000 := fun i hi => by
  rw [List.getD_eq_getElem?_getD, List.getElem?_eq_getElem (by omega)]
  exact hx _ (List.getElem_mem _)
 have HXG := qH hxg
 have HLN := qH hln
 have HSEP := qH hsep
 clear hown hpo hx hxg hln hsep
 go_enter Tryz.func10, Tryz.ntmps10
 go_wp2_with fail
 go_loopw [4, 3] (fun i q wr => ∃ j : Nat, j ≤ n ∧ i = .int .i64 (j : Int) ∧ Own wr w.heap.size 9 1 q j (ss (ls.take j)) ∧ Fr Nob w wr) (fun i _ _ => (n - intOf i).toNat)
 case atStart => exact ⟨0, by omega, rfl, Own.nil _ _ _ _, Fr.refl _ _⟩
 case round =>
  obtain ⟨j, hj, rfl, hown, hfr⟩ := hrel
  by_cases hlt : j < n
  ·have hltI : (j : Int) < (n : Int) := by omega
   obtain ⟨g, o, cc, x, hv, hvx, hc, hox⟩ := (hA0.still hfr).at hlt
   simp only [Value.slice.injEq] at hv
   obtain ⟨rfl, -, rfl⟩ := hv
   have htk : ss (ls.take (j + 1)) = ss (ls.take j) ++ [.string (mkS (ls.getD j []))] := by
    have h := HLN.out
    unfold ss
    rw [List.take_succ_eq_append_getElem (by omega), List.map_append]
    congr 1
    simp [List.getD_eq_getElem?_getD, show j < ls.length by omega]
   have HTK := qH htk; clear htk
   generalize ls.getD j [] = l at *
   obtain ⟨ax, cx, rfl, -, hrx, -⟩ := id hox.form
   rw [Nat.mul_one] at hrx
   have hrb : RdB wr ax l.length l := hrx
   have x1 := b0J (P := Tryz.prog) hrb cx Tryz.underlying24 Tryz.underlying5 Tryz.underlying9
   clear hox hrx hvx
   go_wp2_with (with_reducible refine wSk 26 ?_)
   unfold p0u
   refine c0e rfl rfl Tryz.underlying38 n0u [.string (mkS l)] rfl (by simp; rfl) rfl rfl ?_
   intro w2 hh2 hf2 hz2
   clear hz2
   have hown2 := hown.still hf2
   have hfr2 := hfr.then hf2
   clear hown hfr hf2 hrb x1 hc
   generalize wr.heap.size = g1 at *
   go_wp2_with (with_reducible refine wSk 27 ?_)
   unfold p0u
   refine b0L rfl rfl Tryz.underlying38 n0u rfl (by decide) hown2 rfl rfl (Rd.whole hh2) (fun u hu => by simp only [List.mem_singleton] at hu; subst hu; rfl) (by unfold maxLen; omega) (by omega) hfr2.size ?_
   intro v3 w3 hown3 hf3 hb3
   clear hb3
   have hfr3 := hown2.fr hfr2 (Nat.le_refl _) hf3
   have hown4 : Own w3 w.heap.size 9 1 v3 (j + 1) (ss (ls.take (j + 1))) := by rw [HTK.out]; exact hown3
   clear hown2 hfr2 hf3 hown3 hh2
   go_wp2_with fail
   go_roundw
   case rel => exact ⟨j + 1, by omega, by go_num, hown4, hfr3⟩
   case measure => simp [intOf]; omega
  ·have hge : ¬ (j : Int) < (n : Int) := by omega
   obtain rfl : j = n := by omega
   rw [List.take_of_length_le (by rw [HLN.out]; exact Nat.le_refl _)] at hown
   have hA1 := hA0.still hfr
   have hbw := hfr.size
   rw [← s0n ls] at hA1
   clear hA0 hfr
   obtain ⟨w1, hw1⟩ : ∃ w1, w1 = wr := ⟨_, rfl⟩
   subst hw1
   go_wp2_with fail
   go_loopw [5, 6] (fun i z wr => ∃ i' : Nat, i' ≤ j ∧ i = .int .i64 (i' : Int) ∧ ApAt w base j (.slice a0 j c0) vs (m0I ls i' 0) wr ∧ Own wr w.heap.size 9 1 u3 j (ss ls)) (fun i _ _ => (j - intOf i).toNat)
   case atStart => exact ⟨0, by omega, rfl, hA1, hown⟩
   case round =>
    clear hA1 hown
    obtain ⟨i, hi, rfl, hA, hws⟩ := hrel
    by_cases hin : i < j
    ·have hinI : (i : Int) < (j : Int) := by omega
     have hwi : ∃ w2, w2 = wr := ⟨_, rfl⟩
     obtain ⟨w2, hw2⟩ := hwi
     subst hw2
     have hl1 := HLN.out
     have hxl := HXG.out i hin
     have hinc := b0N (ls.getD i [])
     have hnext := s0o ls i (by omega)
     have hset := fun k h => u0t ls i k (by omega) h
     have hget := fun k => u0u ls i k (by omega)
     generalize hli : ls.getD i [] = li at *
     have HLI := qH hli; clear hli
     have HINC := qH hinc; clear hinc
     have HNEXT := qH hnext; clear hnext
     have HSET := qH hset; clear hset
     have HGET := qH hget; clear hget
     clear hl1
     go_wp2_with fail
     go_loopw [6] (fun z wr => ∃ k : Nat, k ≤ li.length ∧ z = .int .i64 (k : Int) ∧ ApAt w base j (.slice a0 j c0) vs (m0I ls i k) wr ∧ Own wr w.heap.size 9 1 u3 j (ss ls)) (fun z _ => (li.length - intOf z).toNat)
     case atStart => exact ⟨0, by omega, rfl, hA, hws⟩
     case round =>
      clear hA hws
      obtain ⟨k, hk, rfl, hA, hws⟩ := hrel
      obtain ⟨g, o, cc, x, hv, hvx, hc, hox⟩ := hA.at hin
      simp only [Value.slice.injEq] at hv
      obtain ⟨rfl, -, rfl⟩ := hv
      have hg := HGET.out k
      have hge : (m0I ls i k).getD i [] = fill (inc li) li k := by rw [List.getD_eq_getElem?_getD, hg]; rfl
      rw [hge] at hox
      have hfl := b0W (inc li) li k HINC.out
      rw [hfl] at hox
      clear hg hge
      obtain ⟨ax, cx, rfl, -⟩ := id hox.form
      by_cases hkl : k < li.length
      ·have hklI : (k : Int) < (li.length : Int) := by omega
       obtain ⟨g', o', cap', hv', hbg, hgw, hncap, hcm, hcell, hfro, hupd⟩ := hox.cells (by omega)
       simp only [Value.slice.injEq] at hv'
       obtain ⟨rfl, -, rfl⟩ := hv'
       have hfk : (bs (fill (inc li) li k))[k]? = some (.int .u8 ((li.getD k 0).toNat : Int)) := by
        have h1 := s0p (inc li) li k k HINC.out (Nat.le_refl _)
        rw [f0J _ _ (by rw [hfl]; exact hkl), List.getD_eq_getElem?_getD, h1, ← List.getD_eq_getElem?_getD]
       have hcb := hcell k _ hfk
       have hfz := hfro k hkl
       have hnew : (inc li).getD k 0 = li.getD k 0 + 1 := by
        simp [inc, List.getD_eq_getElem?_getD, hkl]
       have hs2 := HSET.out k hkl
       rw [hnew] at hs2
       have hup2 := hupd k (.int .u8 ((li.getD k 0 + 1).toNat : Int)) hkl
       rw [e0J] at hup2
       have hby := n0U (li.getD k 0)
       generalize li.getD k 0 = y at *
       have HS2 := qH hs2; clear hs2 hnew hfk
       have HCELL := qH hcell; clear hcell hfro
       have HUP := qH hup2; clear hup2 hupd
       have HBY := qH hby; clear hby hfl
       go_wp2_with fail
       refine wp_region_still_tail 14 (by kernel_rfl) (by kernel_rfl) ?_
       simp only [List.take_succ_cons, List.take_zero, List.drop_succ_cons, List.drop_zero]
       repeat still_step
       refine wpStill_nil ?_
       go_wp2_with fail
       rw [HBY.out]
       have hfS : Fr (c0o (.slice (some ⟨g', o', none⟩) li.length cx)) wr (wr.setCell ⟨g', o' + k, none⟩ (.int .u8 ((y + 1).toNat : Int))) := (Fr.refl _ wr).setCell g' (o' + k) none _ (fun _ => rfl)
       have hA2 := (hA.upd HSEP.out hvx (l := fill (inc li) li k) (by rw [b0W _ _ _ HINC.out]; exact hox) hfS (l' := (fill (inc li) li k).set k (y + 1)) (by rw [List.length_set, b0W _ _ _ HINC.out]; exact HUP.out)).still ((Fr.refl Nob _).drew)
       rw [HS2.out] at hA2
       have hws2 := (hws.keep hfS (fun b hb hb' => hws.ne2 hox (by decide) b hb hb')).still ((Fr.refl Nob _).drew)
       clear hA hws hox hfS hcb hfz hc hvx
       generalize (wr.setCell ⟨g', o' + k, none⟩ (.int .u8 ((y + 1).toNat : Int))).drew = w9 at *
       go_roundw
       case rel => exact ⟨k + 1, by omega, by go_num, hA2, hws2⟩
       case measure => simp [intOf]; omega
      ·have hklI : ¬ (k : Int) < (li.length : Int) := by omega
       obtain rfl : k = li.length := by omega
       rw [HNEXT.out] at hA
       go_wp2_with fail
       go_roundw
       case rel => exact ⟨i + 1, by omega, by go_num, hA, hws⟩
       case measure => simp [intOf]; omega
    ·have hinI : ¬ (i : Int) < (j : Int) := by omega
     obtain rfl : i = j := by omega
     have hall := u0s ls
     rw [HLN.out] at hall
     rw [hall] at hA
     clear hall
     obtain ⟨w4, hw4⟩ : ∃ w4, w4 = wr := ⟨_, rfl⟩
     subst hw4
     have hws4 := hws
     have hw04 := hA.f.size
     go_wp2_with fail
     go_loopw [8, 7, 9, 10] (fun z q g9 j9 wr => ∃ (k : Nat) (gs : List Value), k ≤ i ∧ z = .int .i64 (k : Int) ∧ Own wr w4.heap.size 24 1 q k gs ∧ POwn wr base gs (grw ls k) ∧ (∀ (s m : Nat) (g u : Value), s ≠ m → gs[s]? = some g → vs[m]? = some u → ∀ b, c0o g b → ¬ c0o u b) ∧ ApAt w base i (.slice a0 i c0) vs (ls.map inc) wr ∧ Own wr w.heap.size 9 1 u3 i (ss ls) ∧ w4.heap.size ≤ wr.heap.size) (fun z _ _ _ _ => (i - intOf z).toNat)
     case atStart => exact ⟨0, [], by omega, rfl, Own.nil _ _ _ _, trivial, by simp, hA, hws, Nat.le_refl _⟩
     case round =>
      clear hA hws hws4
      obtain ⟨k, gs, hk, rfl, hq, hpg, hcr, hA, hws, hsz4⟩ := hrel
      have HCR := qH hcr; clear hcr
      by_cases hlt4 : k < i
      ·have hltI : (k : Int) < (i : Int) := by omega
       obtain ⟨g, o, cc, x, hv, hvx, hc, hox⟩ := hA.at hlt4
       simp only [Value.slice.injEq] at hv
       obtain ⟨rfl, -, rfl⟩ := hv
       have hl1 := HLN.out
       have hxl := HXG.out k hlt4
       have hmg : (ls.map inc).getD k [] = inc (ls.getD k []) := by simp [List.getD_eq_getElem?_getD, show k < ls.length by omega]
       rw [hmg, b0N] at hox
       have hmk : (ls.map inc)[k]? = some (inc (ls.getD k [])) := by simp [List.getD_eq_getElem?_getD, show k < ls.length by omega]
       have hgs := u0v ls k
       generalize ls.getD k [] = li at *
       have HGS := qH hgs; clear hgs hmg hl1
       have HMK := qH hmk; clear hmk
       obtain ⟨wi, hwi⟩ : ∃ wi, wi = wr := ⟨_, rfl⟩
       subst hwi
       have hgstart : Grows wi x x li.length 0 := by
        rcases hox.2 with ⟨h1, h2⟩ | ⟨g', o', cap', B, h1, -⟩
        ·exact Grows.start wi x none _ _ (by rw [h1, h2]) (by simp)
        ·exact Grows.start wi x (some ⟨g', o', none⟩) _ _ h1 (fun y hy => by cases hy; rfl)
       have hxi : ∀ b, c0o x b → b < wi.heap.size := fun b hb => (hox.lt hb).2
       have HXI := qH hxi; clear hxi
       have hbz := hA.f.size
       go_wp2_with fail
       go_loopw [10, 9] (fun z gv wr => ∃ j : Nat, j ≤ 80 ∧ z = .int .i64 (j : Int) ∧ Own wr base 5 1 gv (li.length + j) (bs (inc li ++ (tl k).take j)) ∧ Grows wi x gv li.length j ∧ Own wr base 5 1 x li.length (bs (inc li)) ∧ Fr (c0o x) wi wr) (fun z _ _ => (80 - intOf z).toNat)
       case atStart => exact ⟨0, by omega, rfl, by rw [List.take_zero, List.append_nil]; exact hox, hgstart, hox, Fr.refl _ _⟩
       case round =>
        clear hgstart
        obtain ⟨j, hj80, rfl, hog, hgr, hoxr, hfx⟩ := hrel
        by_cases hj : j < 80
        ·have hjI : (j : Int) < 80 := by omega
         have htk := x0i k j hj
         have HTK := qH htk; clear htk
         go_wp2_with (with_reducible refine wSk 79 ?_)
         unfold p0u
         refine p0D rfl rfl Tryz.underlying24 n0Q (UInt8.ofNat ((k * 37 + j) % 253) ^^^ 90) ?hy ?_
         case hy =>
          simp [Act.eval]
          exact v0p k j
         intro w5 hh5 hf5 hz5
         clear hz5
         have hog5 := hog.still hf5
         have hox5 := hoxr.still hf5
         have hfx5 := hfx.same hf5
         have hsz5 := hf5.size
         have hb5 : base ≤ w5.heap.size := Nat.le_trans (Nat.le_trans hbase hbz) (hfx5.size)
         clear hog hoxr hfx hf5
         generalize UInt8.ofNat ((k * 37 + j) % 253) ^^^ 90 = yb at *
         go_wp2_with (with_reducible refine wSk 80 ?_)
         unfold p0u
         refine l0Q rfl rfl Tryz.underlying24 n0Q rfl (by decide) hog5 rfl rfl (Rd.whole hh5) (h0W _) (by unfold maxLen; omega) (by omega) hb5 ?_
         intro v6 w6 hog6 hf6 _ hcase6
         have hog7 : Own w6 base 5 1 v6 (li.length + (j + 1)) (bs (inc li ++ (tl k).take (j + 1))) := by
          rw [HTK.out, ← List.append_assoc, c0A]; exact hog6
         obtain ⟨hgr7, hox7, hfx7⟩ := hgr.step hox5 HXI.out hfx5 (M := (tl k).take (j + 1)) hog7 hf6 hcase6
         clear hog5 hox5 hfx5 hog6 hf6 hcase6 hgr hh5
         go_wp2_with fail
         go_roundw
         case rel => exact ⟨j + 1, by omega, by go_num, hog7, hgr7, hox7, hfx7⟩
         case measure => simp [intOf]; omega
        ·have hjI : ¬ (j : Int) < 80 := by omega
         obtain rfl : j = 80 := by omega
         rw [List.take_of_length_le (by rw [i0E]; exact Nat.le_refl _)] at hog
         have hAx : ApAt w base i (.slice (some ⟨g, o, none⟩) i c0) vs (ls.map inc) wr := by
          have h1 := hA.upd HSEP.out hvx (l := inc li) (by rw [b0N]; exact hox) hfx (l' := inc li) (by rw [b0N]; exact hoxr)
          have e : (ls.map inc).set k (inc li) = ls.map inc := by
           obtain ⟨h3, h4⟩ := List.getElem?_eq_some_iff.1 HMK.out
           rw [← h4, List.set_getElem_self]
          rw [e] at h1; exact h1
         have hgl : gs.length = k := by have := hq.1; omega
         have hq1 := hq.keep hfx (fun b hb hb' => hq.ne2 hox (by decide) b hb hb')
         have hws1 := hws.keep hfx (fun b hb hb' => hws.ne2 hox (by decide) b hb hb')
         have hpg1 : POwn wr base gs (grw ls k) := POwn.keepAt hfx hpg (fun s g2 hg2 b hb hb' => HCR.out s k g2 x (by
          have : s < gs.length := by
           rcases Nat.lt_or_ge s gs.length with h | h
           ·exact h
           ·rw [List.getElem?_eq_none h] at hg2; cases hg2
          omega) hg2 hvx b hb hb')
         have hcr2 : ∀ (s m : Nat) (g2 u : Value), s ≠ m → (gs ++ [u9])[s]? = some g2 → vs[m]? = some u → ∀ b, c0o g2 b → ¬ c0o u b := by
          intro s m g2 u hsm hg2 hu b hb hb'
          rcases Nat.lt_or_ge s gs.length with h | h
          ·rw [List.getElem?_append_left h] at hg2
           exact HCR.out s m g2 u hsm hg2 hu b hb hb'
          ·rw [List.getElem?_append_right h] at hg2
           have h0 : s = k := by
            rcases Nat.eq_or_lt_of_le h with h | h
            ·omega
            ·rw [List.getElem?_eq_none (by rw [List.length_singleton]; omega)] at hg2; cases hg2
           subst h0
           rw [hgl, Nat.sub_self] at hg2
           simp only [List.getElem?_cons_zero, Option.some.injEq] at hg2
           subst hg2
           rcases hgr.blk b hb with h2 | h2
           ·exact HSEP.out.ne hvx hu hsm b h2 hb'
           ·obtain ⟨l3, _, ho3⟩ := hA.p.get m u hu
            have := (ho3.lt hb').2
            omega
         have HCR2 := qH hcr2; clear hcr2
         have hsz6 := hfx.size
         obtain ⟨ag, cg, rfl, -⟩ := id hog.form
         clear hq hws hpg hA hfx hox hoxr hgr hc hvx
         go_wp2_with (with_reducible refine wSk 83 ?_)
         unfold p0u
         refine c0e rfl rfl Tryz.underlying33 j0n [.slice ag (li.length + 80) cg] rfl (by simp; rfl) rfl rfl ?_
         intro w8 hh8 hf8 hz8
         clear hz8
         have hq8 := hq1.still hf8
         have hws8 := hws1.still hf8
         have hpg8 := hpg1.still hf8
         have hA8 := hAx.still hf8
         have hog8 := hog.still hf8
         have hsz8 := hf8.size
         clear hq1 hws1 hpg1 hAx hog hf8
         go_wp2_with (with_reducible refine wSk 84 ?_)
         unfold p0u
         refine b0L rfl rfl Tryz.underlying33 j0n rfl (by decide) hq8 rfl rfl (Rd.whole hh8) (fun u hu => by simp only [List.mem_singleton] at hu; subst hu; rfl) (by unfold maxLen; omega) (by omega) (by omega) ?_
         intro v9 w9 hq9 hf9 hb9
         clear hb9
         have hws9 := hws8.keep hf9 (fun b hb hb' => hws8.ne2 hq8 (by decide) b hb hb')
         have hog9 := hog8.keep hf9 (fun b hb hb' => hog8.ne2 hq8 (by decide) b hb hb')
         have hpg9 : POwn w9 base (gs ++ [.slice ag (li.length + 80) cg]) (grw ls (k + 1)) := by
          rw [HGS.out]
          refine (hpg8.app hq8 (by decide) hf9).snoc ?_
          rw [List.length_append, b0N, i0E]; exact hog9
         have hsz9 := hf9.size
         have hA9 : ApAt w base i (.slice (some ⟨g, o, none⟩) i c0) vs (ls.map inc) w9 := by
          refine ⟨hA8.l.keep hf9 (fun b hb hb' => ?_), hA8.p.app hq8 (by decide) hf9, hA8.f.trans hf9 (fun b _ hb => ?_)⟩
          ·have h1 := HLB.out b hb
           have h2 := (hq8.lt hb').1
           omega
          ·have h2 := (hq8.lt hb).1
           show base ≤ b
           omega
         clear hq8 hws8 hpg8 hA8 hog8 hf9 hh8 hog9
         go_wp2_with fail
         go_roundw
         case rel => exact ⟨k + 1, _, by omega, by go_num, hq9, hpg9, HCR2.out, hA9, hws9, by omega⟩
         case measure => simp [intOf]; omega
      ·have hltI : ¬ (k : Int) < (i : Int) := by omega
       obtain rfl : k = i := by omega
       obtain ⟨w5, hw5⟩ : ∃ w5, w5 = wr := ⟨_, rfl⟩
       subst hw5
       obtain ⟨aq, cq, rfl, hcq, hrq, -⟩ := id hq.form
       rw [Nat.mul_one] at hrq
       go_wp2_with fail
       go_loopw [11, 12, 13] (fun z _ _ wr => ∃ m : Nat, m ≤ k ∧ z = .int .i64 (m : Int) ∧ Fr Nob w5 wr) (fun z _ _ _ => (k - intOf z).toNat)
       case atStart => exact ⟨0, by omega, rfl, Fr.refl _ _⟩
       case round =>
        obtain ⟨m, hm, rfl, hfw⟩ := hrel
        by_cases hmk : m < k
        ·have hmI : (m : Int) < (k : Int) := by omega
         have hl1 := HLN.out
         have hxl := HXG.out m hmk
         obtain ⟨g, o, cc, x, hv, hvx, hc, hox⟩ := hA.at hmk
         simp only [Value.slice.injEq] at hv
         obtain ⟨rfl, -, rfl⟩ := hv
         have hmg : (ls.map inc).getD m [] = inc (ls.getD m []) := by simp [List.getD_eq_getElem?_getD, show m < ls.length by omega]
         rw [hmg, b0N] at hox
         obtain ⟨bq, oq, rfl, hatq⟩ := hrq.at (by omega)
         have hgl : gs.length = k := hrq.len
         obtain ⟨lg, hg1, hg2⟩ := hpg.get m gs[m] (List.getElem?_eq_getElem (by omega))
         have hcq2 := hatq m _ (List.getElem?_eq_getElem (show m < gs.length by omega))
         have hlg : lg = inc (ls.getD m []) ++ tl m := by
          have h1 := x0j ls k m hmk
          rw [List.getD_eq_getElem?_getD, hg1] at h1
          exact h1
         subst hlg
         generalize gs[m] = gv at *
         rw [List.length_append, b0N, i0E] at hg2
         obtain ⟨aw, cw, rfl, _, hrw, -⟩ := id hws.form
         rw [Nat.mul_one] at hrw
         obtain ⟨bw, ow, rfl, hatw⟩ := hrw.at (by omega)
         have hcw := hatw m _ (u0R ls m (by omega))
         generalize ls.getD m [] = li at *
         obtain ⟨ag, cg, rfl, -, hrg, -⟩ := id hg2.form
         rw [Nat.mul_one] at hrg
         obtain ⟨bg, og, rfl, hatg⟩ := hrg.at (by omega)
         obtain ⟨ax, cx, rfl, -, hrx, -⟩ := id hox.form
         rw [Nat.mul_one] at hrx
         have hqs : (mkS li).size = li.length := a0w li
         have hqd : (mkS li).data.toList = li := b0b li
         generalize mkS li = qs at *
         have HQD := qH hqd; clear hqd
         have HQS := qH hqs; clear hqs
         have hzz : (qs.size : Int) = (li.length : Int) := by rw [HQS.out]
         have HX := qH hrx
         have HG := qH hatg
         have HA := qH hA
         have HREST := qH (And.intro hws (And.intro hpg (And.intro hq hrq)))
         clear hrx hatg hatq hatw hrw hrg hg2 hox hvx hg1 hgl hmg hA hws hpg hq hrq hl1
         have hc1 := hfw.cell id hc
         have hq1 := hfw.cell id hcq2
         have hw1' := hfw.cell id hcw
         have hwrap : IntKind.i64.wrap ((li.length : Int) + 80) = (li.length : Int) + 80 := IntWalk.i64_in _ (by omega)
         go_wp2_with fail
         go_quiet (fail)
         have hf6 := hfw.drewN nq
         clear hc1 hq1 hw1' hfw
         generalize wr.drewN nq = w6 at *
         go_wp2_with fail
         go_loopw [12] (fun z wr => ∃ j : Nat, j ≤ li.length ∧ z = .int .i64 (j : Int) ∧ Fr Nob w5 wr) (fun z _ => (li.length - intOf z).toNat)
         case atStart => exact ⟨0, by omega, rfl, hf6⟩
         case round =>
          clear hf6
          obtain ⟨j, hj, rfl, hfw⟩ := hrel
          have hc1 := hfw.cell id hc
          have hq1 := hfw.cell id hcq2
          have hw1' := hfw.cell id hcw
          by_cases hjl : j < li.length
          ·have hjI : (j : Int) < (li.length : Int) := by omega
           obtain ⟨bx, ox, rfl, hatx⟩ := HX.out.at (by omega)
           have hby := n0U (li.getD j 0)
           have hnew : (inc li).getD j 0 = li.getD j 0 + 1 := by simp [inc, List.getD_eq_getElem?_getD, hjl]
           have hcx := hfw.cell id (hatx j _ (f0J (inc li) j (by rw [b0N]; exact hjl)))
           have hcg := hfw.cell id (HG.out j _ (f0J (inc li ++ tl m) j (by rw [List.length_append, b0N]; omega)))
           have hgj : (inc li ++ tl m).getD j 0 = (inc li).getD j 0 := by
            rw [List.getD_eq_getElem?_getD, List.getElem?_append_left (by rw [b0N]; exact hjl), ← List.getD_eq_getElem?_getD]
           rw [hgj] at hcg
           rw [hnew, ← hby] at hcx hcg
           have eidx := u0w (P := Tryz.prog) Tryz.underlying9 qs j (by rw [HQS.out]; exact hjl) (li.getD j 0) (by rw [HQD.out])
           have hjg : (j : Int) < (li.length : Int) + 80 := by omega
           clear hatx hby hnew hgj
           generalize li.getD j 0 = y at *
           go_wp2_with fail
           go_quiet (fail)
           have hf7 := hfw.drewN nq
           clear hc1 hq1 hw1' hfw hcx hcg eidx
           generalize wr.drewN nq = w7 at *
           go_wp2_with fail
           go_roundw
           case rel => exact ⟨j + 1, by omega, by go_num, hf7⟩
           case measure => simp [intOf]; omega
          ·have hjI : ¬ (j : Int) < (li.length : Int) := by omega
           obtain ⟨w8, hw8⟩ : ∃ w8, w8 = wr := ⟨_, rfl⟩
           subst hw8
           clear hc1 hq1
           go_wp2_with fail
           clear hw1'
           go_loopw [13] (fun z wr => ∃ j : Nat, j ≤ 80 ∧ z = .int .i64 (j : Int) ∧ Fr Nob w5 wr) (fun z _ => (80 - intOf z).toNat)
           case atStart => exact ⟨0, by omega, rfl, hfw⟩
           case round =>
            clear hfw
            obtain ⟨j, hj, rfl, hfw⟩ := hrel
            by_cases hj80 : j < 80
            ·have hjI : (j : Int) < 80 := by omega
             have hq1 := hfw.cell id hcq2
             have hw1' := hfw.cell id hcw
             have hcg := hfw.cell id (HG.out (li.length + j) _ (f0J (inc li ++ tl m) (li.length + j) (by rw [List.length_append, b0N, i0E]; omega)))
             have hgj : (inc li ++ tl m).getD (li.length + j) 0 = UInt8.ofNat ((m * 37 + j) % 253) ^^^ 90 := by
              rw [List.getD_eq_getElem?_getD, List.getElem?_append_right (by rw [b0N]; omega), b0N, Nat.add_sub_cancel_left, ← List.getD_eq_getElem?_getD]
              exact v0o m j hj80
             have hval : (((UInt8.ofNat ((m * 37 + j) % 253) ^^^ 90).toNat : Nat) : Int) = bits BinOp.xor IntKind.u8 (((m : Int) * 37 + (j : Int)) % 253) 90 := by
              rw [v0p]; simp
             rw [hgj, hval] at hcg
             have hw2 : IntKind.i64.wrap ((li.length : Int) + (j : Int)) = ((li.length + j : Nat) : Int) := by rw [IntWalk.i64_in _ (by omega)]; omega
             have hw3 : IntKind.i64.wrap ((m : Int) * 37) = (m : Int) * 37 := IntWalk.i64_in _ (by omega)
             have hw4' : IntKind.i64.wrap ((m : Int) * 37 + (j : Int)) = (m : Int) * 37 + (j : Int) := IntWalk.i64_in _ (by omega)
             have hlt9 : (li.length : Int) + (j : Int) < (li.length : Int) + 80 := by omega
             have ht9 : ((li.length : Int) + (j : Int)).toNat = li.length + j := by omega
             have hp9 : (0 : Int) ≤ (li.length : Int) + (j : Int) := by omega
             clear hval hgj
             go_wp2_with fail
             go_quiet (fail)
             have hf7 := hfw.drewN nq
             clear hq1 hw1' hfw hcg hw2 hw3 hw4' hlt9 ht9 hp9
             generalize wr.drewN nq = w7 at *
             go_wp2_with fail
             go_roundw
             case rel => exact ⟨j + 1, by omega, by go_num, hf7⟩
             case measure => simp [intOf]; omega
            ·have hjI : ¬ (j : Int) < 80 := by omega
             go_wp2_with fail
             go_roundw
             case rel => exact ⟨m + 1, by omega, by go_num, hfw⟩
             case measure => simp [intOf]; omega
        ·have hmI : ¬ (m : Int) < (k : Int) := by omega
         have hfin := hA.f.same hfw
         clear hA hws hpg hq hrq HCR
         go_wp2_with fail
         go_ret
         exact ⟨rfl, hfin⟩
end
section
open Go.RowKit Go.Mv Mvp Mvq Mvk
theorem n0V {w : World} {base : Nat} {vs : List Value} {ls : List (List UInt8)} (h : POwn w base vs ls) : ∀ u ∈ vs, u.oneCell' = true := by
 intro u hu
 obtain ⟨l, -, ho⟩ := h.mem hu
 obtain ⟨a, c, rfl, -⟩ := Go.Mv.Own.form ho
 rfl
theorem c0w {w : World} {base : Nat} {a : Option Addr} {n c : Nat} {T : TypeId} {L : List Value} (h : Go.Mv.Own w base T 1 (.slice a n c) n L) : Rd w a n L := by
 obtain ⟨a', c', e, -, hr, -⟩ := Go.Mv.Own.form h
 cases e
 rwa [Nat.mul_one] at hr
attribute [local irreducible] a0J lw mix cw b0t b0G b0q a0P a0u beN laid b0o b0H a0M a0V elN mdL b0R rtV c0E d0U f0p j0v b0D b0l b0B toB a0v a0I b0m c0h a0C c0i b0k a0G c0S e0i scN kyS kyP kyL kyN tS tC kyR kyE ksN ksP ksE h0J noR d0k RT.L srS plF
theorem l0z (s : ByteArray) (n x : Nat) (w : World) (hs : s.size ≤ 140737488351232) (hn : n ≤ 4294967295) (hx : x ≤ 18446744073709551615) (hT : TabAt 0 Lib.deBruijn64tab w) :
  Calls Tryz.prog 3 #[.string s, .int .u32 (n : Int), .int .u64 (x : Int)] w fun e w' => e = .returned (.bool true) ∧ Fr Nob w w' := by
 obtain ⟨l, rfl⟩ : ∃ l, s = mkS l := ⟨s.data.toList, (f0X s).symm⟩
 have HF0 := qH (Fr.refl Nob w)
 by_cases hbig : 4096 < l.length
 ·have hbI : (4096 : Int) < ((mkS l).size : Int) := by rw [a0w]; omega
  clear hs hn hx hT hbig
  go_enter Tryz.func3, Tryz.ntmps3
  go_wp2_with fail
  go_ret
  exact ⟨rfl, HF0.out⟩
 have hbI : ¬ ((4096 : Int) < ((mkS l).size : Int)) := by rw [a0w]; omega
 have HLL := qH (show l.length ≤ 4096 by omega)
 have HT := qH hT
 have HN := qH hn
 have HX := qH hx
 clear hs hn hx hT hbig
 go_enter Tryz.func3, Tryz.ntmps3
 go_wp2_with (with_reducible refine wSk 22 ?_)
 refine d0e (q := mkS l) rfl rfl Tryz.underlying9 Tryz.underlying24 Tryz.underlying5 rfl (by rw [a0w]; unfold maxLen; have := HLL.out; omega) _ (Nat.le_refl _) ?_
 intro cap w1 hown hf hz
 clear hz hbI
 rw [a0w, b0b] at hown
 rw [a0w l]
 have HP := qH (c0y hown (by have := HLL.out; omega))
 have HT1 := qH (TabAt.still HT.out hf)
 have HF := qH (HF0.out.then hf)
 clear hown hf HT HF0
 go_wp2_with fail
 refine (z0D _ l.length cap l n x _ HP.out HN.out HX.out HT1.out).mono ?_
 rintro e' w2 ⟨v, rfl, ho, hf⟩
 unfold OwnB1 at ho
 obtain ⟨av, cv, rfl, -, -, -⟩ := Go.Mv.Own.form ho
 have HO := qH ho
 have HT2 := qH (TabAt.still HT1.out hf)
 replace HF := qH (HF.out.then hf)
 clear ho hf HP HT1
 go_wp2_with fail
 refine (y0Q l n x _ HN.out).mono ?_
 rintro e' w3 ⟨rfl, hf⟩
 have x1 := b0J (P := Tryz.prog) (show RdB w3 av (kyR l n x).length (kyR l n x) from c0w (HO.out.still hf)) cv Tryz.underlying24 Tryz.underlying5 Tryz.underlying9
 have HT4 := qH (TabAt.still HT2.out hf)
 replace HF := qH (HF.out.then hf)
 clear hf HT2 HO
 generalize kyR l n x = KR at *
 generalize kyE l x = E at *
 have hJ1 : ((E : Int) != (E : Int)) = false := by simp
 generalize mkS KR = K at *
 cases hpl : plF x with
 | none =>
  have HPV := qH (i0D x w3 (by have := HX.out; omega) (g0s hpl))
  have HRP := qH (g0t x (-1) w3 (.inr ⟨g0s hpl, rfl⟩))
  clear hpl
  go_wp2_with fail
  refine HPV.out.mono ?_
  rintro e' w4 ⟨rfl, rfl⟩
  clear x1 hJ1 HPV
  go_wp2_with fail
  refine HRP.out.mono ?_
  rintro e' w4 ⟨rfl, hf⟩
  replace HF := qH (HF.out.then hf)
  replace HT4 := qH (TabAt.still HT4.out hf)
  clear hf HRP
  go_wp2_with (with_reducible refine wSk 74 ?_)
  refine d0e (q := mkS l) rfl rfl Tryz.underlying9 Tryz.underlying24 Tryz.underlying5 rfl (by rw [a0w]; unfold maxLen; have := HLL.out; omega) _ (Nat.le_refl _) ?_
  intro cap2 w5 hown hf hz
  clear hz
  rw [a0w, b0b] at hown
  rw [a0w l]
  have HP2 := qH (c0y hown (by have := HLL.out; omega))
  have HT5 := qH (TabAt.still HT4.out hf)
  replace HF := qH (HF.out.then hf)
  clear hown hf HT4
  go_wp2_with fail
  refine (y0P _ l.length cap2 l n _ HP2.out HN.out HT5.out).mono ?_
  rintro e' w6 ⟨nm, q, vs, rfl, hown, hpo, hsep, hf⟩
  obtain ⟨aq, cq, rfl, -, -, -⟩ := Go.Mv.Own.form hown
  obtain ⟨an, cn, rfl, -, -, -⟩ := Go.Mv.Own.form hpo.1
  have HW5 := qH HF.out.size
  have HF6 := qH (HF.out.then hf)
  have HW6 := qH hf.size
  have HQ := qH hown
  have HPO := qH hpo
  have HSEP := qH hsep
  clear hown hpo hsep hf HP2 HT5 HF
  have st0 := St.start Nob w6
  go_wp2_with (with_reducible refine wSk 13 ?_)
  refine a0b st0 rfl rfl x0o [.slice none 0 0, .slice none 0 0] rfl ?_
  intro g13 w7 st7
  clear st0
  go_wp2_with (with_reducible refine wSn ?_)
  refine f0I st7 0 rfl rfl rfl rfl rfl (cs := [.slice an (ksN l n).length cn, .slice aq (ksP l n).length cq]) rfl l0m (by intro v hv; simp only [List.mem_cons, List.not_mem_nil, or_false] at hv; rcases hv with rfl | rfl <;> rfl) ?_
  intro w8 st8 hf8
  clear hf8 st7
  go_wp2_with fail
  refine (v0n l n _ HN.out).mono ?_
  rintro e' w9 ⟨ar, cr, rfl, hrr, hf⟩
  have st9 := st8.keep hf
  clear st8 hf
  have HRR := qH hrr
  have HPL := qH (s0i l n)
  have HP33 := qH (v0l l n)
  have HNL := qH (s0j l n)
  clear hrr
  generalize ksP l n = PB at *
  generalize ksN l n = NM at *
  generalize ksE l = E2 at *
  have hc0 := (st9.at 0 rfl).cell (i := 0) (v := .slice an NM.length cn) rfl
  have hc1 := (st9.at 0 rfl).cell (i := 1) (v := .slice aq PB.length cq) rfl
  have x2 := b0J (P := Tryz.prog) (show RdB w9 an NM.length NM from c0w ((HPO.out.1).still st9.fr)) cn Tryz.underlying24 Tryz.underlying5 Tryz.underlying9
  have hJ2 : ((E2 : Int) != (E2 : Int)) = false := by simp
  have hJ3 : ((PB.length : Int) != (PB.length : Int)) = false := by simp
  obtain ⟨M, hM⟩ : ∃ M, mkS NM = M := ⟨_, rfl⟩
  rw [hM] at x2 ⊢
  clear hM
  have HS9 := qH st9
  clear st9
  go_wp2_with fail
  clear hc0 hc1 x2 hJ2 hJ3
  go_loopw [16] (fun i wr => ∃ j : Nat, j ≤ PB.length ∧ i = .int .i64 (j : Int) ∧ Fr Nob w9 wr) (fun i _ => PB.length - (intOf i).toNat)
  case atStart => exact ⟨0, Nat.zero_le _, rfl, Fr.refl _ _⟩
  case round =>
   obtain ⟨j, hj, rfl, hfj⟩ := hrel
   have hst := HS9.out.keep hfj
   by_cases hlt : j < PB.length
   ·have hltI : (j : Int) < (PB.length : Int) := by omega
    have hj1 : (j : Int) + 1 < 9223372036854775808 := by have := HPL.out; omega
    have hj2 : (j : Int) < 20 := by have := HPL.out; omega
    have HLT := qH hlt
    obtain ⟨bq, oq, rfl, -⟩ := (c0w HQ.out).at (by omega)
    obtain ⟨br, or_, rfl, -⟩ := HRR.out.at (by omega)
    obtain ⟨lj, hlj⟩ : ∃ x, PB[j]? = some x := ⟨_, List.getElem?_eq_getElem hlt⟩
    obtain ⟨vj, hvj⟩ : ∃ v, vs[j]? = some v := ⟨_, List.getElem?_eq_getElem (by rw [(c0w HQ.out).len]; exact hlt)⟩
    obtain ⟨l2, hl2, hoj⟩ := HPO.out.2.get j vj hvj
    obtain rfl : lj = l2 := Option.some.inj (hlj.symm.trans hl2)
    obtain ⟨aj, cj, rfl, -, -, -⟩ := Go.Mv.Own.form hoj
    have hc1 := (hst.at 0 rfl).cell (i := 1) (v := .slice (some ⟨bq, oq, none⟩) PB.length cq) rfl
    have hcq := i0n ((c0w HQ.out).still hst.fr) j _ hvj
    have hcr := i0n (HRR.out.still hfj) j _ (show (ss PB)[j]? = some (.string (mkS lj)) by simp [ss, hlj])
    have x3 := fun nq => b0J (P := Tryz.prog) (RdB.still (show RdB wr aj lj.length lj from c0w (hoj.still hst.fr)) ((Fr.refl Nob wr).drewN nq)) cj Tryz.underlying24 Tryz.underlying5 Tryz.underlying9
    have HFJ := qH hfj
    generalize mkS lj = M2 at *
    clear hfj hst hlt hlj hvj hl2 hoj hj
    go_wp2_with fail
    go_quiet (fail)
    have hfq := HFJ.out.then ((Fr.refl Nob wr).drewN nq)
    have HFQ := qH hfq
    clear hfq x3 hc1 hcq hcr HFJ
    go_wp2_with fail
    go_roundw
    case rel => exact ⟨j + 1, by have := HLT.out; omega, by go_num, HFQ.out⟩
    case measure => simp [intOf]; have := HLT.out; omega
   ·have hge : ¬ ((j : Int) < (PB.length : Int)) := by omega
    have hc0 := (hst.at 0 rfl).cell (i := 0) (v := .slice an NM.length cn) rfl
    have hc1 := (hst.at 0 rfl).cell (i := 1) (v := .slice aq PB.length cq) rfl
    have HST := qH hst
    clear hst hj hlt hfj
    go_wp2_with (with_reducible refine wSk 123 ?_)
    refine c0e rfl rfl Tryz.underlying33 e0s [.slice an NM.length cn] rfl (by simp; rfl) rfl rfl ?_
    intro w11 hh hf hz
    clear hz
    have hst2 := HST.out.keep hf
    have hc1 := (hst2.at 0 rfl).cell (i := 1) (v := .slice aq PB.length cq) rfl
    have hsz : w5.heap.size ≤ wr.heap.size := (by have h1 := HST.out.fr.size; have h2 := HF6.out.size; have h3 := HW6.out; omega)
    have hmade := Go.Mv.Own.made hh wr.heap.size (Nat.le_refl _) 1 1 1 (Nat.le_refl _) (by decide) (by simp)
    have HMD := qH (show Go.Mv.Own w11 wr.heap.size 24 1 (.slice (some ⟨wr.heap.size, 0, none⟩) 1 1) 1 [.slice an NM.length cn] from hmade)
    have HSZ := qH hsz
    have HST2 := qH hst2
    have HFW := qH hf.size
    have HS6 := qH HST.out.fr.size
    clear hh hf hmade hst2 hsz HST
    go_wp2_with (with_reducible refine wSk 126 ?_)
    refine b0L rfl rfl Tryz.underlying33 e0s rfl (by decide) HMD.out rfl rfl (show Rd w11 aq (PB.length * 1) vs by rw [Nat.mul_one]; exact (c0w HQ.out).still HST2.out.fr) (n0V HPO.out.2) (by have := HPL.out; unfold maxLen; omega) (by have := HPL.out; omega) HFW.out ?_
    intro v12 w12 ho hf hb
    clear hb
    have hfr := Go.Mv.Own.fr HMD.out HST2.out.fr HS6.out hf
    have hpo12 := (HPO.out.still HST2.out.fr).app HMD.out (by decide) hf
    have HA := qH (l0y v12 w5.heap.size (1 + PB.length) _ _ w12 (ho.mono HSZ.out) hpo12 HSEP.out (by have := HPL.out; omega) (by intro x hx; exact (List.mem_cons.1 hx).elim (fun e => by rw [e]; exact HNL.out) (HP33.out x)) (by have := HF6.out.size; have := hfr.size; have := HW6.out; omega))
    have HFE := qH (HF6.out.then hfr)
    clear ho hf hfr hpo12 HMD HST2
    go_wp2_with fail
    refine HA.out.mono ?_
    rintro e' w13 ⟨rfl, hf⟩
    have hfin : Fr Nob w w13 := HFE.out.trans hf (fun b hb hb' => by have h1 : w5.heap.size ≤ b := hb'; have h2 := HW5.out; omega)
    clear hf HA HFE
    go_wp2_with fail
    go_ret
    exact ⟨rfl, hfin⟩
 | some k =>
  obtain ⟨hk, rfl⟩ := j0L hpl
  have HPV := qH (r0M k w3 hk HT4.out)
  have HRP := qH (g0t (2 ^ k) (k : Int) w3 (.inl ⟨k, hk, rfl, rfl⟩))
  have hk0 : ¬ (k : Int) < 0 := by omega
  have hk1 : (0 : Int) ≤ (k : Int) := by omega
  clear hpl hk
  generalize ((2 ^ k : Nat) : Int) = X at *
  go_wp2_with fail
  refine HPV.out.mono ?_
  rintro e' w4 ⟨rfl, rfl⟩
  clear x1 hJ1 HPV
  go_wp2_with fail
  refine HRP.out.mono ?_
  rintro e' w4 ⟨rfl, hf⟩
  replace HF := qH (HF.out.then hf)
  replace HT4 := qH (TabAt.still HT4.out hf)
  clear hf HRP
  go_wp2_with (with_reducible refine wSk 74 ?_)
  refine d0e (q := mkS l) rfl rfl Tryz.underlying9 Tryz.underlying24 Tryz.underlying5 rfl (by rw [a0w]; unfold maxLen; have := HLL.out; omega) _ (Nat.le_refl _) ?_
  intro cap2 w5 hown hf hz
  clear hz
  rw [a0w, b0b] at hown
  rw [a0w l]
  have HP2 := qH (c0y hown (by have := HLL.out; omega))
  have HT5 := qH (TabAt.still HT4.out hf)
  replace HF := qH (HF.out.then hf)
  clear hown hf HT4
  go_wp2_with fail
  refine (y0P _ l.length cap2 l n _ HP2.out HN.out HT5.out).mono ?_
  rintro e' w6 ⟨nm, q, vs, rfl, hown, hpo, hsep, hf⟩
  obtain ⟨aq, cq, rfl, -, -, -⟩ := Go.Mv.Own.form hown
  obtain ⟨an, cn, rfl, -, -, -⟩ := Go.Mv.Own.form hpo.1
  have HW5 := qH HF.out.size
  have HF6 := qH (HF.out.then hf)
  have HW6 := qH hf.size
  have HQ := qH hown
  have HPO := qH hpo
  have HSEP := qH hsep
  clear hown hpo hsep hf HP2 HT5 HF
  have st0 := St.start Nob w6
  go_wp2_with (with_reducible refine wSk 13 ?_)
  refine a0b st0 rfl rfl x0o [.slice none 0 0, .slice none 0 0] rfl ?_
  intro g13 w7 st7
  clear st0
  go_wp2_with (with_reducible refine wSn ?_)
  refine f0I st7 0 rfl rfl rfl rfl rfl (cs := [.slice an (ksN l n).length cn, .slice aq (ksP l n).length cq]) rfl l0m (by intro v hv; simp only [List.mem_cons, List.not_mem_nil, or_false] at hv; rcases hv with rfl | rfl <;> rfl) ?_
  intro w8 st8 hf8
  clear hf8 st7
  go_wp2_with fail
  refine (v0n l n _ HN.out).mono ?_
  rintro e' w9 ⟨ar, cr, rfl, hrr, hf⟩
  have st9 := st8.keep hf
  clear st8 hf
  have HRR := qH hrr
  have HPL := qH (s0i l n)
  have HP33 := qH (v0l l n)
  have HNL := qH (s0j l n)
  clear hrr
  generalize ksP l n = PB at *
  generalize ksN l n = NM at *
  generalize ksE l = E2 at *
  have hc0 := (st9.at 0 rfl).cell (i := 0) (v := .slice an NM.length cn) rfl
  have hc1 := (st9.at 0 rfl).cell (i := 1) (v := .slice aq PB.length cq) rfl
  have x2 := b0J (P := Tryz.prog) (show RdB w9 an NM.length NM from c0w ((HPO.out.1).still st9.fr)) cn Tryz.underlying24 Tryz.underlying5 Tryz.underlying9
  have hJ2 : ((E2 : Int) != (E2 : Int)) = false := by simp
  have hJ3 : ((PB.length : Int) != (PB.length : Int)) = false := by simp
  obtain ⟨M, hM⟩ : ∃ M, mkS NM = M := ⟨_, rfl⟩
  rw [hM] at x2 ⊢
  clear hM
  have HS9 := qH st9
  clear st9
  go_wp2_with fail
  clear hc0 hc1 x2 hJ2 hJ3
  go_loopw [16] (fun i wr => ∃ j : Nat, j ≤ PB.length ∧ i = .int .i64 (j : Int) ∧ Fr Nob w9 wr) (fun i _ => PB.length - (intOf i).toNat)
  case atStart => exact ⟨0, Nat.zero_le _, rfl, Fr.refl _ _⟩
  case round =>
   obtain ⟨j, hj, rfl, hfj⟩ := hrel
   have hst := HS9.out.keep hfj
   by_cases hlt : j < PB.length
   ·have hltI : (j : Int) < (PB.length : Int) := by omega
    have hj1 : (j : Int) + 1 < 9223372036854775808 := by have := HPL.out; omega
    have hj2 : (j : Int) < 20 := by have := HPL.out; omega
    have HLT := qH hlt
    obtain ⟨bq, oq, rfl, -⟩ := (c0w HQ.out).at (by omega)
    obtain ⟨br, or_, rfl, -⟩ := HRR.out.at (by omega)
    obtain ⟨lj, hlj⟩ : ∃ x, PB[j]? = some x := ⟨_, List.getElem?_eq_getElem hlt⟩
    obtain ⟨vj, hvj⟩ : ∃ v, vs[j]? = some v := ⟨_, List.getElem?_eq_getElem (by rw [(c0w HQ.out).len]; exact hlt)⟩
    obtain ⟨l2, hl2, hoj⟩ := HPO.out.2.get j vj hvj
    obtain rfl : lj = l2 := Option.some.inj (hlj.symm.trans hl2)
    obtain ⟨aj, cj, rfl, -, -, -⟩ := Go.Mv.Own.form hoj
    have hc1 := (hst.at 0 rfl).cell (i := 1) (v := .slice (some ⟨bq, oq, none⟩) PB.length cq) rfl
    have hcq := i0n ((c0w HQ.out).still hst.fr) j _ hvj
    have hcr := i0n (HRR.out.still hfj) j _ (show (ss PB)[j]? = some (.string (mkS lj)) by simp [ss, hlj])
    have x3 := fun nq => b0J (P := Tryz.prog) (RdB.still (show RdB wr aj lj.length lj from c0w (hoj.still hst.fr)) ((Fr.refl Nob wr).drewN nq)) cj Tryz.underlying24 Tryz.underlying5 Tryz.underlying9
    have HFJ := qH hfj
    generalize mkS lj = M2 at *
    clear hfj hst hlt hlj hvj hl2 hoj hj
    go_wp2_with fail
    go_quiet (fail)
    have hfq := HFJ.out.then ((Fr.refl Nob wr).drewN nq)
    have HFQ := qH hfq
    clear hfq x3 hc1 hcq hcr HFJ
    go_wp2_with fail
    go_roundw
    case rel => exact ⟨j + 1, by have := HLT.out; omega, by go_num, HFQ.out⟩
    case measure => simp [intOf]; have := HLT.out; omega
   ·have hge : ¬ ((j : Int) < (PB.length : Int)) := by omega
    have hc0 := (hst.at 0 rfl).cell (i := 0) (v := .slice an NM.length cn) rfl
    have hc1 := (hst.at 0 rfl).cell (i := 1) (v := .slice aq PB.length cq) rfl
    have HST := qH hst
    clear hst hj hlt hfj
    go_wp2_with (with_reducible refine wSk 123 ?_)
    refine c0e rfl rfl Tryz.underlying33 e0s [.slice an NM.length cn] rfl (by simp; rfl) rfl rfl ?_
    intro w11 hh hf hz
    clear hz
    have hst2 := HST.out.keep hf
    have hc1 := (hst2.at 0 rfl).cell (i := 1) (v := .slice aq PB.length cq) rfl
    have hsz : w5.heap.size ≤ wr.heap.size := (by have h1 := HST.out.fr.size; have h2 := HF6.out.size; have h3 := HW6.out; omega)
    have hmade := Go.Mv.Own.made hh wr.heap.size (Nat.le_refl _) 1 1 1 (Nat.le_refl _) (by decide) (by simp)
    have HMD := qH (show Go.Mv.Own w11 wr.heap.size 24 1 (.slice (some ⟨wr.heap.size, 0, none⟩) 1 1) 1 [.slice an NM.length cn] from hmade)
    have HSZ := qH hsz
    have HST2 := qH hst2
    have HFW := qH hf.size
    have HS6 := qH HST.out.fr.size
    clear hh hf hmade hst2 hsz HST
    go_wp2_with (with_reducible refine wSk 126 ?_)
    refine b0L rfl rfl Tryz.underlying33 e0s rfl (by decide) HMD.out rfl rfl (show Rd w11 aq (PB.length * 1) vs by rw [Nat.mul_one]; exact (c0w HQ.out).still HST2.out.fr) (n0V HPO.out.2) (by have := HPL.out; unfold maxLen; omega) (by have := HPL.out; omega) HFW.out ?_
    intro v12 w12 ho hf hb
    clear hb
    have hfr := Go.Mv.Own.fr HMD.out HST2.out.fr HS6.out hf
    have hpo12 := (HPO.out.still HST2.out.fr).app HMD.out (by decide) hf
    have HA := qH (l0y v12 w5.heap.size (1 + PB.length) _ _ w12 (ho.mono HSZ.out) hpo12 HSEP.out (by have := HPL.out; omega) (by intro x hx; exact (List.mem_cons.1 hx).elim (fun e => by rw [e]; exact HNL.out) (HP33.out x)) (by have := HF6.out.size; have := hfr.size; have := HW6.out; omega))
    have HFE := qH (HF6.out.then hfr)
    clear ho hf hfr hpo12 HMD HST2
    go_wp2_with fail
    refine HA.out.mono ?_
    rintro e' w13 ⟨rfl, hf⟩
    have hfin : Fr Nob w w13 := HFE.out.trans hf (fun b hb hb' => by have h1 : w5.heap.size ≤ b := hb'; have h2 := HW5.out; omega)
    clear hf HA HFE
    go_wp2_with fail
    go_ret
    exact ⟨rfl, hfin⟩
end
end Go.Proofs.YtemcankmggmgoaaGreatDoor
namespace Go.Mv
open Go.RowKit Go.ChangeShapes Go.WideShapes
theorem Below.trodAll {H : Type} {enc : TypeId × Value → H} {P : Program} (hl : laidOutB P = true) {W W' : World} (hb : Below W.heap.size W W') :
  ∀ (ts : List TypeId) (vs : List Value) (ds : List (DataW H)) (ps : List MemPlace), (∀ t ∈ ts, P.readableRec t = true ∧ t < P.types.size) → DataW.TrodAll enc P W 0 (fun _ => true) true ts vs ds ps → (∀ x ∈ ps, x.block < W.heap.size) →
   DataW.TrodAll enc P W' 0 (fun b => decide (b < W.heap.size)) true ts vs ds ps
 | [], vs, ds, ps, _, h, _ => by
  obtain ⟨rfl, rfl, rfl⟩ := trodAll_nil h
  exact trodAll_mk0
 | t :: ts, vs, ds, ps, hr, h, hlt => by
  obtain ⟨v, vs', d, ds', p, q, rfl, rfl, rfl, h0, hs⟩ := trodAll_cons h
  have h1 := hr t (by simp)
  exact trodAll_cons_mk (Below.trod hl h1.1 h1.2 h0 hb (fun x hx => hlt x (by simp [hx]))) (Below.trodAll hl hb ts vs' ds' q (fun t ht => hr t (by simp [ht])) hs (fun x hx => hlt x (by simp [hx])))
theorem u0x {H : Type} {enc : TypeId × Value → H} {P : Program} {f : Func} {s : ChangeSpec} {W W' : World} {args : Array Value} {ds gs : List (DataW H)} {before : List MemPlace}
  (hl : laidOutB P = true) (hr : ∀ t ∈ f.params.toList, P.readableRec t = true ∧ t < P.types.size) (hW : DataW.Whole enc P f.params.toList s.vars false W args.toList ds gs before)
  (hv : s.vars = []) (hres : (s.fn H (ds ++ gs)).results = [.lit (.bool true)]) (harg : (s.fn H (ds ++ gs)).args = ds) (hvar : (s.fn H (ds ++ gs)).vars = [])
  {tb : TypeId} (hrt : f.resultTypes = #[tb]) (hu : P.underlying tb = some .bool) (hf : Fr Nob W W') :
  s.post enc P f false true false false W args (.bool true) W' := by
 have hW' := hW
 obtain ⟨p, q, hA, hV, rfl, hfz, hnd⟩ := hW
 rw [hv] at hV
 obtain ⟨rfl, rfl⟩ := trodVars_none hV
 have hlt : ∀ x ∈ p ++ [], x.block < W.heap.size := fun x hx => hW'.lt x hx
 refine ⟨ds, [], p ++ [], [], p, [], hW', ?_, ?_, ?_, World.keptBut_mono (fun x hx => ⟨hx, ?_⟩) (hf.below.frame (· ∈ p ++ [])), fun h => by cases h⟩
 ·rw [hres, hrt]
  exact trodAll_mk1 (shut_bool hu true)
 ·rw [harg]
  exact Below.trodAll hl hf.below _ _ _ _ hr hA (fun x hx => hlt x (by simp [hx]))
 ·rw [hvar, hv]; exact rfl
 ·simp only [List.append_nil] at hx
  exact .inr (.inl hx)
end Go.Mv
