/- group: the closures of Plus, Minus and Times; scalar; group: Plus, Minus, Times, Point, Base: what they answer; group's exported functions, for all bytes: what they answer, told by points; The cells of a list of terms, as Sum fills it; group: Sum's closure; group: with, over Sum's closure; group: Sum; mintvaultref1.Still: is a list all as it was lent?; The law NumReduces; The law NumReckons; The reference's Sqrt; The law NumRoots; zn.All; sigma.Extract; sigma.Extract; the reference's Scalar, Q, Extract; The reference's Q, Scalar, Extract; The reference's numbers modulo Prime, told by their classes. -/
import Derived.Test.YtdbgddngapminaaMgGroupSumsProof6
import Derived.Test.YtdbgddngapminaaMgGroupSumsProof4
import Derived.Test.YtdbgddngapminaaMgGroupSumsProof2
import Derived.Test.YtdbgddngapminaaMgGroupSumsProof3
import Derived.Test.YtdbgddngapminaaMgGroupSumsProof5
namespace Go.Proofs.Ytdbgddngapminaa
open Go.RowKit Go.Mv Mvp Mvq
attribute [local irreducible] limbs lw mix cw cSub cAdd cMul foldC valFrom beN laid be32 powm montT mstep elN mdL numB rtN rtV rtOk gXn gYn PT.L addT dblT mulT tbL tmR tmL dbN innT outT sumT dig rdT rdOk rdPt ptL ptsL rdsB wrPt
set_option maxHeartbeats 8000000 in
set_option maxRecDepth 1000000 in
theorem scalar_len (m : Md) (hk : KindOf 1 m) (a : Option Addr) (n c : Nat) (l : List UInt8) (w : World) (hb : RdB w a n l) (h32 : l.length ≠ 32) :
    Calls Try.prog 48 #[.slice a n c] w fun e w' => e = .returned (.tuple #[i4 0, .bool false]) ∧ Fr Nob w w' := by
  have HK := Lib.hid hk
  have HOK := Lib.hid hk.ok
  clear hk
  have hne : ((n : Int) != 32) = true := by have := hb.len; simp; omega
  clear h32 hb
  have st0 := St.start Nob w
  go_enter Try.func48, Try.ntmps48
  go_wp2_with (with_reducible refine wl_stop (o := ⟨some 2, _, _, _, _, _⟩) ?_)
  refine wl_allocS st0 rfl rfl (z := .agg #[.int .u64 0, .int .u64 0, .int .u64 0, .int .u64 0]) (by kernel_rfl) (cw 4 0) (by rw [cw_zero]; rfl) ?_
  intro g2 w1 st1
  clear st0
  go_wp2_with (with_reducible refine wl_stop (o := ⟨some 10, _, _, _, _, _⟩) ?_)
  refine wl_build0 rfl rfl _ built_I0 ?_
  rw [words_zI]
  go_wp2_with (with_reducible refine wl_stop (o := ⟨none, _, _, _, _, _⟩) ?_)
  refine wl_storeS st1 0 rfl rfl rfl rfl rfl (by first | (simp only [cw_len]; done) | (simp only [List.length_append, cw_len, PT.len, ptL_len]; done)) (by first | (rw [cw_len]; kernel_rfl) | (rw [PT.len]; kernel_rfl) | (rw [ptL_len]; kernel_rfl) | (simp only [List.length_append, cw_len]; kernel_rfl) | (simp only [List.length_append, cw_len, PT.len, ptL_len]; kernel_rfl)) (cw_one _ _) ?_
  intro w2 st2
  clear st1
  have hr := st2.at 0 rfl
  have hfr := st2.fr
  clear st2
  go_wp2_with fail
  exact bodyPost_ret (results_arr2 rfl rfl hr Try.underlying82 (by first | (rw [cw_len]; kernel_rfl) | (rw [PT.len]; kernel_rfl) | (rw [ptL_len]; kernel_rfl) | (simp only [List.length_append, cw_len]; kernel_rfl) | (simp only [List.length_append, cw_len, PT.len, ptL_len]; kernel_rfl)) rfl) rfl ⟨rfl, hfr⟩

set_option maxHeartbeats 8000000 in
set_option maxRecDepth 1000000 in
theorem scalar_num (m : Md) (hk : KindOf 1 m) (a : Option Addr) (n c : Nat) (l : List UInt8) (w : World) (hb : RdB w a n l) (h32 : l.length = 32) (r : Bool) (hlt : decide (beN l < m.M) = r) :
    Calls Try.prog 48 #[.slice a n c] w fun e w' => e = .returned (.tuple #[i4 (beN l), .bool r]) ∧ Fr Nob w w' := by
  have HK := Lib.hid hk
  have HOK := Lib.hid hk.ok
  clear hk
  have hbl := beN_le32 l (by omega)
  have HBL := Lib.hid hbl
  have h32' : n = 32 := by have := hb.len; omega
  subst h32'
  have HB := Lib.hid hb
  have HLT := Lib.hid hlt
  have hne : (((32 : Nat) : Int) != 32) = false := by rfl
  clear hb hbl h32 hlt
  have st0 := St.start Nob w
  go_enter Try.func48, Try.ntmps48
  go_wp2_with (with_reducible refine wl_stop (o := ⟨some 2, _, _, _, _, _⟩) ?_)
  refine wl_allocS st0 rfl rfl (z := .agg #[.int .u64 0, .int .u64 0, .int .u64 0, .int .u64 0]) (by kernel_rfl) (cw 4 0) (by rw [cw_zero]; rfl) ?_
  intro g2 w1 st1
  clear st0
  go_wp2_with fail
  refine (OfK HK.out _).mono ?_
  rintro e' w2 ⟨gp, rfl, hle, hm, hf2⟩
  have st2 : St Nob w w2 [(g2, cw 4 0, 82), (gp, mdL m, 134)] := st1.new hf2 hm hle
  clear st1 hf2 hm hle
  go_wp2_with fail
  refine (FromBytes_any a 32 c l _ (HB.out.still st2.fr) (by decide)).mono ?_
  rintro e' w3 ⟨rfl, hf3⟩
  have st3 := st2.keep hf3
  clear st2 hf3
  go_wp2_with (with_reducible refine wl_stop (o := ⟨some 6, _, _, _, _, _⟩) ?_)
  refine wl_allocS st3 rfl rfl (z := .agg #[.int .u64 0, .int .u64 0, .int .u64 0, .int .u64 0]) (by kernel_rfl) (cw 4 0) (by rw [cw_zero]; rfl) ?_
  intro g6 w4 st4
  clear st3
  go_wp2_with (with_reducible refine wl_stop (o := ⟨none, _, _, _, _, _⟩) ?_)
  refine wl_storeS st4 2 rfl rfl rfl rfl rfl (by first | (simp only [cw_len]; done) | (simp only [List.length_append, cw_len, PT.len, ptL_len]; done)) (by first | (rw [cw_len]; kernel_rfl) | (rw [PT.len]; kernel_rfl) | (rw [ptL_len]; kernel_rfl) | (simp only [List.length_append, cw_len]; kernel_rfl) | (simp only [List.length_append, cw_len, PT.len, ptL_len]; kernel_rfl)) (cw_one _ _) ?_
  intro w5 st5
  clear st4
  go_wp2_with fail
  refine wp_region_noPanic ?_
  refine wp_region_plan (fun wx => St Nob w wx [(g2, cw 4 0, 82), (gp, mdL m, 134), (g6, cw 4 (beN l), 82)]) 7 (.t 0 (.t 1 (.w 2 (.w 3 (.w 4 (.t 5 (.r 6 (.m 7 (.w 8 .nil))))))))) (by kernel_rfl) (by kernel_rfl) st5.drew (fun _ _ _ _ _ h => h) ?_
  have hd5 := st5.drew
  clear st5
  refine plan_arr rfl rfl rfl rfl (cw 4 (beN l)) (fun wx hS => St.rangeL hS 2 rfl 0 _ (by rw [List.drop_zero, List.take_of_length_le (Nat.le_refl _)])) Try.underlying82 rfl (by first | (rw [cw_len]; kernel_rfl) | (rw [PT.len]; kernel_rfl) | (rw [ptL_len]; kernel_rfl) | (simp only [List.length_append, cw_len]; kernel_rfl) | (simp only [List.length_append, cw_len, PT.len, ptL_len]; kernel_rfl)) ?_
  try simp only [Act.put, List.setIfInBounds_toArray, List.set_cons_zero, List.set_cons_succ]
  refine plan_arr rfl rfl rfl rfl (cw 4 (beN l)) (fun wx hS => St.rangeL hS 2 rfl 0 _ (by rw [List.drop_zero, List.take_of_length_le (Nat.le_refl _)])) Try.underlying82 rfl (by first | (rw [cw_len]; kernel_rfl) | (rw [PT.len]; kernel_rfl) | (rw [ptL_len]; kernel_rfl) | (simp only [List.length_append, cw_len]; kernel_rfl) | (simp only [List.length_append, cw_len, PT.len, ptL_len]; kernel_rfl)) ?_
  try simp only [Act.put, List.setIfInBounds_toArray, List.set_cons_zero, List.set_cons_succ]
  refine plan_w (v := ?_) rfl rfl (fun wx => ?_) ?_
  rotate_left 1
  · (go_simp; with_reducible rfl)
  try simp only [Act.put, List.setIfInBounds_toArray, List.set_cons_zero, List.set_cons_succ]
  refine plan_w (v := ?_) rfl rfl (fun wx => ?_) ?_
  rotate_left 1
  · (go_simp; with_reducible rfl)
  try simp only [Act.put, List.setIfInBounds_toArray, List.set_cons_zero, List.set_cons_succ]
  refine plan_w (v := ?_) rfl rfl (fun wx => ?_) ?_
  rotate_left 1
  · (go_simp; with_reducible rfl)
  try simp only [Act.put, List.setIfInBounds_toArray, List.set_cons_zero, List.set_cons_succ]
  refine plan_arr rfl rfl rfl rfl (cw 4 m.M) (fun wx hS => St.rangeL hS 1 rfl 0 _ (md_M m)) Try.underlying82 rfl (by first | (rw [cw_len]; kernel_rfl) | (rw [PT.len]; kernel_rfl) | (rw [ptL_len]; kernel_rfl) | (simp only [List.length_append, cw_len]; kernel_rfl) | (simp only [List.length_append, cw_len, PT.len, ptL_len]; kernel_rfl)) ?_
  try simp only [Act.put, List.setIfInBounds_toArray, List.set_cons_zero, List.set_cons_succ]
  refine plan_r rfl rfl ?_
  go_simp
  refine (MLess_v (beN l) m.M _ HBL.out HOK.out.lt r HLT.out).mono ?_
  rintro e' w6 ⟨rfl, hf6⟩
  have st6 := hd5.keep hf6
  clear hf6
  clear hd5
  refine ⟨st6, ?_⟩
  try simp only [Act.put, List.setIfInBounds_toArray, List.set_cons_zero, List.set_cons_succ]
  refine plan_m rfl rfl ?_
  refine wp_storeS st6 0 rfl rfl rfl rfl (by first | (simp only [cw_len]; done) | (simp only [List.length_append, cw_len, PT.len, ptL_len]; done)) (by first | (rw [cw_len]; kernel_rfl) | (rw [PT.len]; kernel_rfl) | (rw [ptL_len]; kernel_rfl) | (simp only [List.length_append, cw_len]; kernel_rfl) | (simp only [List.length_append, cw_len, PT.len, ptL_len]; kernel_rfl)) (cw_one _ _) ?_
  intro w7 st7
  clear st6
  try simp only [Act.put]
  refine plan_w (v := ?_) rfl rfl (fun wx => ?_) ?_
  rotate_left 1
  · (go_simp; with_reducible rfl)
  try simp only [Act.put, List.setIfInBounds_toArray, List.set_cons_zero, List.set_cons_succ]
  refine plan_end ?_
  refine NoPanic.normal ?_
  have hr := st7.at 0 rfl
  have hfr := st7.fr
  clear st7
  go_wp2_with fail
  exact bodyPost_ret (results_arr2 rfl rfl hr Try.underlying82 (by first | (rw [cw_len]; kernel_rfl) | (rw [PT.len]; kernel_rfl) | (rw [ptL_len]; kernel_rfl) | (simp only [List.length_append, cw_len]; kernel_rfl) | (simp only [List.length_append, cw_len, PT.len, ptL_len]; kernel_rfl)) rfl) rfl ⟨rfl, hfr⟩

theorem scalar_t {l : List UInt8} (h : numB mQ l = true) (a : Option Addr) (n c : Nat) (w : World) (hb : RdB w a n l) : Calls Try.prog 48 #[.slice a n c] w fun e w' => e = .returned (.tuple #[i4 (beN l), .bool true]) ∧ Fr Nob w w' := by
  unfold numB at h
  simp only [Bool.and_eq_true, decide_eq_true_eq] at h
  exact scalar_num mQ .one a n c l w hb h.1 true (decide_eq_true h.2)
theorem scalar_f {l : List UInt8} (h : numB mQ l = false) (a : Option Addr) (n c : Nat) (w : World) (hb : RdB w a n l) : Calls Try.prog 48 #[.slice a n c] w fun e w' => (∃ N, e = .returned (.tuple #[i4 N, .bool false])) ∧ Fr Nob w w' := by
  unfold numB at h
  by_cases h32 : l.length = 32
  · rw [decide_eq_true h32, Bool.true_and] at h
    exact (scalar_num mQ .one a n c l w hb h32 false h).mono fun _ _ t => ⟨⟨_, t.1⟩, t.2⟩
  · exact (scalar_len mQ .one a n c l w hb h32).mono fun _ _ t => ⟨⟨_, t.1⟩, t.2⟩
end Go.Proofs.Ytdbgddngapminaa

/- group: Plus, Minus, Times, Point, Base: what they answer. -/
namespace Go.Proofs.Ytdbgddngapminaa
open Go.RowKit Go.Mv Mvp Mvq
attribute [local irreducible] limbs lw mix cw cSub cAdd cMul foldC valFrom beN laid be32 powm montT mstep elN mdL numB rtN rtV rtOk gXn gYn PT.L addT dblT mulT tbL tmR tmL dbN innT outT sumT dig rdT rdOk rdPt ptL ptsL rdsB wrPt
end Go.Proofs.Ytdbgddngapminaa

/- group's exported functions, for all bytes: what they answer, told by points. -/
namespace Mvq
theorem psum_snoc : ∀ (l : List (Nat × Pt)) (n : Nat) (p : Pt), (∀ t ∈ l, onC t.2) → onC p → psum (l ++ [(n, p)]) = padd (psum l) (pmul n p)
  | [], n, p, _, _ => by show padd (pmul n p) .O = padd .O (pmul n p); rw [padd_zero]; rfl
  | (k, q) :: l, n, p, h, hp => by
    have hl : ∀ t ∈ l, onC t.2 := fun t ht => h t (List.mem_cons_of_mem _ ht)
    show padd (pmul k q) (psum (l ++ [(n, p)])) = padd (padd (pmul k q) (psum l)) (pmul n p)
    rw [psum_snoc l n p hl hp, padd_assoc (pmul_on (h (k, q) (by simp)) k) (psum_on l hl) (pmul_on hp n)]
end Mvq
namespace Go.Proofs.Ytdbgddngapminaa
open Go.RowKit Go.Mv Mvp Mvq
/-- terms, as numbers and points -/
noncomputable def tpts (l : List (Nat × PT)) : List (Nat × Pt) := l.map fun t => (t.1, t.2.pt)
theorem tpts_on (l : List (Nat × PT)) : ∀ t ∈ tpts l, onC t.2 := by
  intro t ht
  obtain ⟨u, _, rfl⟩ := List.mem_map.1 ht
  exact u.2.onP
theorem innT_pt (l : List (Nat × PT)) (i : Nat) (o : PT) : ∀ k, k ≤ l.length → (innT l i o k).pt = padd o.pt (psum ((tpts (l.take k)).map fun t => (dig (63 - i) t.1, t.2)))
  | 0, _ => by show o.pt = padd o.pt .O; rw [padd_zero]
  | k + 1, h => by
    have ih := innT_pt l i o k (by omega)
    have hk : k < l.length := by omega
    have e : l.take (k + 1) = l.take k ++ [tmAt l k] := by
      rw [List.take_succ_eq_append_getElem hk]
      simp [tmAt, List.getD_eq_getElem?_getD, hk]
    have hon : ∀ t ∈ (tpts (l.take k)).map (fun t => (dig (63 - i) t.1, t.2)), onC t.2 := by
      intro t ht
      obtain ⟨u, hu, rfl⟩ := List.mem_map.1 ht
      exact tpts_on _ u hu
    rw [e, tpts, List.map_append, List.map_append, ← tpts]
    show (addT (innT l i o k) (mulT (tmAt l k).2 (dig (63 - i) (tmAt l k).1))).pt = padd o.pt (psum ((tpts (l.take k)).map (fun t => (dig (63 - i) t.1, t.2)) ++ [(dig (63 - i) (tmAt l k).1, (tmAt l k).2.pt)]))
    rw [addT_pt, mulT_pt, ih, psum_snoc _ _ _ hon (tmAt l k).2.onP, padd_assoc o.onP (psum_on _ hon) (pmul_on (tmAt l k).2.onP _)]
theorem outT_pt (l : List (Nat × PT)) (hn : ∀ t ∈ l, t.1 < 16 ^ 64) : ∀ i, i ≤ 64 → (outT l i).pt = psum (lead (64 - i) (tpts l))
  | 0, _ => by
    show noT.pt = _
    rw [noT_pt]
    have : ∀ l : List (Nat × PT), (∀ t ∈ l, t.1 < 16 ^ 64) → psum (lead 64 (tpts l)) = .O := by
      intro l
      induction l with
      | nil => intro _; rfl
      | cons t l ih =>
        intro h
        show padd (pmul (t.1 / 16 ^ 64) t.2.pt) (psum (lead 64 (tpts l))) = .O
        rw [Nat.div_eq_of_lt (h t (by simp)), ih fun u hu => h u (List.mem_cons_of_mem _ hu)]
        rfl
    exact (this l hn).symm
  | i + 1, h => by
    have ih := outT_pt l hn i (by omega)
    show (innT l i (dbN (outT l i) 4) l.length).pt = _
    rw [innT_pt l i _ l.length (Nat.le_refl _), dbN_pt _ rfl, ih, List.take_of_length_le (Nat.le_refl _)]
    have := lead_next (63 - i) (tpts l) (tpts_on l)
    rw [show 63 - i + 1 = 64 - i by omega] at this
    rw [show 64 - (i + 1) = 63 - i by omega]
    exact this.symm
theorem sumT_pt (l : List (Nat × PT)) (hn : ∀ t ∈ l, t.1 < 16 ^ 64) : (sumT l).pt = psum (tpts l) := by
  have h := outT_pt l hn 64 (Nat.le_refl _)
  rw [Nat.sub_self] at h
  have e : lead 0 (tpts l) = tpts l := by
    unfold lead
    conv => rhs; rw [← List.map_id (tpts l)]
    refine List.map_congr_left fun t _ => ?_
    show (t.1 / 16 ^ 0, t.2) = t
    rw [Nat.pow_zero, Nat.div_one]
  rw [e] at h
  exact h
/-- what is owned reads -/
theorem Own.part {w : World} {base : Nat} {v : Value} {l : List UInt8} (h : Own w base 5 1 v l.length (bs l)) : BPart w v l := by
  obtain ⟨a, c, rfl, hc, hr, -⟩ := h.form
  exact ⟨a, _, c, rfl, hc, by rwa [Nat.mul_one] at hr⟩
/-- a list of bytes of the call's own -/
def OwnB1 (w w' : World) (v : Value) (l : List UInt8) : Prop := Own w' w.heap.size 5 1 v l.length (bs l)
theorem OwnB1.part {w w' : World} {v : Value} {l : List UInt8} (h : OwnB1 w w' v l) : BPart w' v l := Own.part h
theorem OwnB1.nil (w w' : World) : OwnB1 w w' (.slice none 0 0) [] := Own.nil _ _ _ _
theorem OwnB1.of {w w' : World} {v : Value} {l : List UInt8} {n : Nat} (h : Own w' w.heap.size 5 1 v n (bs l)) (hn : l.length = n) : OwnB1 w w' v l := by subst hn; exact h
theorem q16 : mQ.M < 16 ^ 64 := by decide
noncomputable def tS (lk la : List UInt8) : List UInt8 := if numB mQ lk && rdOk la then wrPt (pmul (beN lk) (rdPt la)) else []
def tC (lk la : List UInt8) : Int := if numB mQ lk then (if rdOk la then 0 else 4) else 3
theorem numB_lt2 {l : List UInt8} (h : numB mQ l = true) : beN l < mQ.M := by
  unfold numB at h
  simp only [Bool.and_eq_true, decide_eq_true_eq] at h
  exact h.2
end Go.Proofs.Ytdbgddngapminaa

/- The cells of a list of terms, as Sum fills it. -/
namespace Go.Mv
open Go.RowKit
theorem splice_row (A F B cs : List Value) (n off : Nat) (hA : A.length = n) (h : off + cs.length ≤ F.length) : splice (A ++ (F ++ B)) (n + off) cs = A ++ (splice F off cs ++ B) := by
  subst hA
  unfold splice
  have h1 : List.take (A.length + off) (A ++ (F ++ B)) = A ++ List.take off F := by
    rw [List.take_length_add_append, List.take_append_of_le_length (by omega)]
  have h2 : List.drop (A.length + off + cs.length) (A ++ (F ++ B)) = List.drop (off + cs.length) F ++ B := by
    rw [Nat.add_assoc, List.drop_length_add_append, List.drop_append_of_le_length h]
  rw [h1, h2]
  simp [List.append_assoc]
theorem rows_put (f f' : Nat → List Value) (k : Nat) (hl : ∀ i, (f i).length = k) (n i off : Nat) (cs : List Value) (h : i < n) (ho : off + cs.length ≤ k) (hi : f' i = splice (f i) off cs) (hv : ∀ j, j ≠ i → f' j = f j) : splice ((List.range n).flatMap f) (i * k + off) cs = (List.range n).flatMap f' := by
  have hlen : (splice (f i) off cs).length = k := by
    unfold splice
    simp only [List.length_append, List.length_take, List.length_drop, hl]
    omega
  have e := rows_set f f' k hl n i h (by rw [hi]; exact hlen) hv
  rw [← e, hi, rows_split f n i h, splice_row _ _ _ cs (i * k) off (by rw [rows_len f k hl, Nat.mul_comm]) (by rw [hl]; exact ho), splice_mid _ _ _ _ (i * k) (by rw [rows_len f k hl, Nat.mul_comm]) (by rw [hlen, hl])]
end Go.Mv
namespace Go.Proofs.Ytdbgddngapminaa
open Go.RowKit Go.Mv Mvp Mvq
/-- terms' cells: numbers and tables -/
noncomputable def tmF (n : Nat) (a : Nat → Nat) (T : Nat → List Value) : List Value := (List.range n).flatMap fun i => cw 4 (a i) ++ T i
def upN {α : Type} (a : Nat → α) (k : Nat) (x : α) : Nat → α := fun i => if i = k then x else a i
theorem tm_row (a : Nat → Nat) (T : Nat → List Value) (hT : ∀ i, (T i).length = 192) (i : Nat) : (cw 4 (a i) ++ T i).length = 196 := by rw [List.length_append, cw_len, hT]
theorem tmF_len (n : Nat) (a : Nat → Nat) (T : Nat → List Value) (hT : ∀ i, (T i).length = 192) : (tmF n a T).length = n * 196 := by
  rw [Nat.mul_comm]; exact rows_len _ 196 (tm_row a T hT) n
theorem tmF_setN (n : Nat) (a : Nat → Nat) (T : Nat → List Value) (hT : ∀ i, (T i).length = 192) (k x : Nat) (h : k < n) : splice (tmF n a T) (k * 196) (cw 4 x) = tmF n (upN a k x) T := by
  have := rows_put (fun i => cw 4 (a i) ++ T i) (fun i => cw 4 (upN a k x i) ++ T i) 196 (tm_row a T hT) n k 0 (cw 4 x) h (by rw [cw_len]; omega)
    (by
      show cw 4 (upN a k x k) ++ T k = _
      unfold upN splice
      rw [if_pos rfl, Nat.zero_add, cw_len, List.drop_append_of_le_length (by rw [cw_len]; omega), List.drop_of_length_le (by rw [cw_len]; omega)]
      rfl)
    (fun j hj => by show cw 4 (upN a k x j) ++ T j = _; unfold upN; rw [if_neg hj])
  rw [Nat.add_zero] at this
  exact this
theorem tmF_setT (n : Nat) (a : Nat → Nat) (T : Nat → List Value) (hT : ∀ i, (T i).length = 192) (k : Nat) (t : List Value) (ht : t.length = 192) (h : k < n) : splice (tmF n a T) (k * 196 + 4) t = tmF n a (upN T k t) :=
  rows_put (fun i => cw 4 (a i) ++ T i) (fun i => cw 4 (a i) ++ upN T k t i) 196 (tm_row a T hT) n k 4 t h (by rw [ht]; omega)
    (by
      show cw 4 (a k) ++ upN T k t k = _
      unfold upN splice
      rw [if_pos rfl, List.take_append_of_le_length (by rw [cw_len]; omega), List.take_of_length_le (by rw [cw_len]; omega), List.drop_of_length_le (by rw [List.length_append, cw_len, hT, ht]; omega), List.append_nil])
    (fun j hj => by show cw 4 (a j) ++ upN T k t j = _; unfold upN; rw [if_neg hj])
theorem tmF_congr (n : Nat) (a a' : Nat → Nat) (T T' : Nat → List Value) (h : ∀ i, i < n → a i = a' i ∧ T i = T' i) : tmF n a T = tmF n a' T' := by
  unfold tmF
  rw [List.flatMap_def, List.flatMap_def]
  congr 1
  exact List.map_congr_left fun i hi => by obtain ⟨h1, h2⟩ := h i (List.mem_range.1 hi); rw [h1, h2]
theorem tmF_zero (n : Nat) : List.replicate (n * 196) (Value.int .u64 0) = tmF n (fun _ => 0) (fun _ => cw 192 0) := by
  unfold tmF
  induction n with
  | zero => rfl
  | succ n ih =>
    rw [List.range_succ, List.flatMap_append, ← ih, Nat.succ_mul, ← List.replicate_append_replicate]
    congr 1
    simp only [List.flatMap_cons, List.flatMap_nil, List.append_nil, cw_zero]
    rw [List.replicate_append_replicate]
/-- all filled: the terms of a list -/
theorem tmF_tmL (l : List (Nat × PT)) : tmF l.length (fun i => (tmAt l i).1) (fun i => tbL (tmAt l i).2 16) = tmL l := rfl
end Go.Proofs.Ytdbgddngapminaa

/- group: Sum's closure. -/
namespace Go.Proofs.Ytdbgddngapminaa
open Go.RowKit Go.Mv Mvp Mvq
/-- the tables, as far as they are filled -/
noncomputable def tkT (ls : List (List UInt8)) (k : Nat) : Nat → List Value := fun i => if i < k then tbL (rdT (ls.getD i [])) 16 else cw 192 0
theorem tkT_len (ls : List (List UInt8)) (k i : Nat) : (tkT ls k i).length = 192 := by
  unfold tkT
  split
  · exact tbL_len _ _
  · exact cw_len _ _
/-- the terms of a sum -/
noncomputable def tmsT (a : Nat → Nat) (ls : List (List UInt8)) : List (Nat × PT) := (List.range ls.length).map fun i => (a i, rdT (ls.getD i []))
theorem tmsT_len (a : Nat → Nat) (ls : List (List UInt8)) : (tmsT a ls).length = ls.length := by simp [tmsT]
theorem tmsT_at (a : Nat → Nat) (ls : List (List UInt8)) (i : Nat) (h : i < ls.length) : tmAt (tmsT a ls) i = (a i, rdT (ls.getD i [])) := by
  unfold tmAt tmsT
  rw [List.getD_eq_getElem?_getD, List.getElem?_map, List.getElem?_range h]
  rfl
theorem tms_full (a : Nat → Nat) (ls : List (List UInt8)) : tmF ls.length a (tkT ls ls.length) = tmL (tmsT a ls) := by
  rw [← tmF_tmL, tmsT_len]
  refine tmF_congr _ _ _ _ _ fun i hi => ?_
  rw [tmsT_at a ls i hi]
  refine ⟨rfl, ?_⟩
  unfold tkT
  rw [if_pos hi]
theorem tms_zero (n : Nat) (a : Nat → Nat) (ls : List (List UInt8)) : tmF n a (fun _ => cw 192 0) = tmF n a (tkT ls 0) := tmF_congr _ _ _ _ _ fun i _ => ⟨rfl, by unfold tkT; rw [if_neg (Nat.not_lt_zero _)]⟩
theorem tms_set (n : Nat) (a : Nat → Nat) (ls : List (List UInt8)) (k : Nat) (h : k < n) (l : List UInt8) (hl : ls.getD k [] = l) : splice (tmF n a (tkT ls k)) (k * 196 + 4) (tbL (rdT l) 16) = tmF n a (tkT ls (k + 1)) := by
  subst hl
  rw [tmF_setT n a _ (tkT_len ls k) k _ (tbL_len _ _) h]
  refine tmF_congr _ _ _ _ _ fun i _ => ⟨rfl, ?_⟩
  unfold upN tkT
  by_cases e : i = k
  · rw [if_pos e, if_pos (by omega), e]
  · rw [if_neg e]
    by_cases e2 : i < k
    · rw [if_pos e2, if_pos (by omega)]
    · rw [if_neg e2, if_neg (by omega)]
theorem tms_rd {w : World} {gT : Nat} {a : Nat → Nat} {ls : List (List UInt8)} {T : TypeId} (h : Has w gT (tmF ls.length a (tkT ls ls.length)) T) : Rd w (some ⟨gT, 0, none⟩) ((tmsT a ls).length * 196) (tmL (tmsT a ls)) := by
  rw [tms_full] at h
  have := Rd.whole h
  rwa [tmL_len] at this
theorem k256_x (w : World) : Calls Try.prog 41 #[] w fun e w' => ∃ gc, e = .returned (.pointer (some ⟨gc, 0, none⟩)) ∧ Cv w' gc ∧ Fr Nob w w' :=
  (k256_c w).mono fun _ _ ⟨gc, k1, _, k2, k3⟩ => ⟨gc, k1, k2, k3⟩
attribute [local irreducible] limbs lw mix cw cSub cAdd cMul foldC valFrom beN laid be32 powm montT mstep elN mdL numB rtN rtV rtOk gXn gYn PT.L addT dblT mulT tbL tmR tmL dbN innT outT sumT dig rdT rdOk rdPt ptL ptsL rdsB wrPt tmF upN
set_option maxHeartbeats 8000000 in
set_option maxRecDepth 1000000 in
theorem sum1_c (n : Nat) (a : Nat → Nat) (ls : List (List UInt8)) (hls : ls.length = n) (hn : n ≤ 100000) (gb gT : Nat) (w : World) (hne : gb ≠ gT) (hgb : Has w gb [.slice (some ⟨gT, 0, none⟩) n n] 94) (hgt : Has w gT (tmF n a fun _ => cw 192 0) 98)
    (ap : Option Addr) (cp : Nat) (hoff : Off (One gT) ap) (hre : Rd w ap (ls.length * 12) (ptsL ls)) :
    Calls Try.prog 62 #[.slice ap n cp, .pointer (some ⟨gb, 0, none⟩)] w fun e w' => e = .returned (.agg (sumT (tmsT a ls)).L.toArray) ∧ Fr (One gT) w w' := by
  rw [tms_zero n a ls] at hgt
  have HLS := Lib.hid hls
  have HN := Lib.hid hn
  have hnI : (n : Int) ≤ 100000 := by omega
  have HNE := Lib.hid (show ¬ One gT gb from hne)
  have HGB := Lib.hid hgb
  have HGT := Lib.hid hgt
  have HOFF := Lib.hid hoff
  have HRE := Lib.hid hre
  clear hls hne hgb hgt hoff hre hn
  have st0 := St.one HGT.out
  go_enter Try.func62, Try.ntmps62
  go_wp2_with (with_reducible refine wl_stop (o := ⟨some 3, _, _, _, _, _⟩) ?_)
  refine wl_allocS st0 rfl rfl (z := .agg (List.replicate 12 (.int .u64 0)).toArray) (by kernel_rfl) (cw 12 0) (by rw [cw_zero]; rfl) ?_
  intro g3 w1 st1
  clear st0
  go_wp2
  go_loopw [8] (fun x wr => ∃ k : Nat, k ≤ n ∧ x = .int .i64 (k : Int) ∧ St (One gT) w wr [(gT, tmF n a (tkT ls k), 98), (g3, cw 12 0, 72)]) (fun x _ => n - (intOf x).toNat)
  case atStart => exact ⟨0, Nat.zero_le _, rfl, st1⟩
  case round =>
    obtain ⟨k, hk, rfl, st⟩ := hrel
    clear st1
    by_cases hlt : k < n
    · have hltI : (k : Int) < (n : Int) := by omega
      obtain ⟨ba, oa, hea, -⟩ := HRE.out.at (by have := HLS.out; omega)
      subst hea
      have hk0 : (0 : Int) ≤ (k : Int) := by omega
      have hpa := ptsL_at ls k (by rw [HLS.out]; exact hlt)
      generalize hl : ls.getD k [] = l at *
      have HLL := Lib.hid hl
      have HPA := Lib.hid hpa
      clear hl hpa
      have HLT := Lib.hid hlt
      have HLK := Lib.hid (show k < ls.length by rw [HLS.out]; exact hlt)
      clear hlt
      go_wp2_with (with_reducible refine wl_stop (o := ⟨some 12, _, _, _, _, _⟩) ?_)
      refine wl_loadR rfl rfl Try.underlying72 rfl rfl (rd_at (HRE.out.keep st.fr HOFF.out) (k * 12) ((rdT l).L) HPA.out) (by first | (rw [cw_len]; kernel_rfl) | (simp only [PT.len]; kernel_rfl)) ?_
      go_wp2_with (with_reducible refine wl_stop (o := ⟨some 5, _, _, _, _, _⟩) ?_)
      refine wl_allocS st rfl rfl (z := .agg (List.replicate 12 (.int .u64 0)).toArray) (by kernel_rfl) (cw 12 0) (by rw [cw_zero]; rfl) ?_
      intro g5 w2 st2
      clear st
      go_wp2_with (with_reducible refine wl_stop (o := ⟨none, _, _, _, _, _⟩) ?_)
      refine wl_storeS st2 2 rfl rfl rfl rfl rfl (by first | (simp only [cw_len]; done) | (simp only [List.length_append, cw_len, PT.len, tbL_len, ptL_len]; done)) (by first | (rw [cw_len]; kernel_rfl) | (simp only [PT.len]; kernel_rfl)) (PT.one _) ?_
      intro w3 st3
      clear st2
      go_wp2_with fail
      refine wp_region_noPanic ?_
      refine wp_region_lad st3 7 [.t 0, .w 1, .t 3, .c 2, .c 4, .w 5, .w 6] (.m 7 .nil) (by kernel_rfl) (by kernel_rfl) (fun _ _ _ _ _ h => h) ?_
      clear st3
      refine lad_t (v := ?_) rfl rfl (fun xq wx hS => ?_) ?_
      rotate_left 1
      · (have hc := (HGB.out.keep (St.fr hS) HNE.out).cell (show [Value.slice (some ⟨gT, 0, none⟩) n n][0]? = _ from rfl); clear hS; go_simp; with_reducible rfl)
      try simp only [Act.put, List.setIfInBounds_toArray, List.set_cons_zero, List.set_cons_succ]
      refine lad_w (v := ?_) rfl rfl (fun xq wx => ?_) ?_
      rotate_left 1
      · (go_simp; with_reducible rfl)
      try simp only [Act.put, List.setIfInBounds_toArray, List.set_cons_zero, List.set_cons_succ]
      refine lad_arr rfl rfl rfl (fun _ => rfl) ((rdT l).L) (fun wx hS => St.rangeL hS 2 rfl 0 _ (by rw [List.drop_zero, List.take_of_length_le (Nat.le_refl _)])) Try.underlying72 rfl (by first | (rw [cw_len]; kernel_rfl) | (simp only [PT.len]; kernel_rfl)) ?_
      try simp only [Act.put, List.setIfInBounds_toArray, List.set_cons_zero, List.set_cons_succ]
      refine lad_callX (X := Nat) (fun gc => .pointer (some ⟨gc, 0, none⟩)) (fun gc w => Cv w gc) (fun _ _ _ h k => h.keep k) rfl rfl rfl Try.call41 (fun w hS hR => k256_x _) (fun _ => rfl) fun gc => ?_
      try simp only [Act.put, List.setIfInBounds_toArray, List.set_cons_zero, List.set_cons_succ]
      refine lad_call rfl rfl rfl Try.call63 (fun w hS hR => multiples_c (rdT l) gc _ hR.2) (fun _ => rfl) ?_
      try simp only [Act.put, List.setIfInBounds_toArray, List.set_cons_zero, List.set_cons_succ]
      refine lad_w (v := ?_) rfl rfl (fun xq wx => ?_) ?_
      rotate_left 1
      · (go_simp; with_reducible rfl)
      try simp only [Act.put, List.setIfInBounds_toArray, List.set_cons_zero, List.set_cons_succ]
      refine lad_w (v := ?_) rfl rfl (fun xq wx => ?_) ?_
      rotate_left 1
      · (go_simp; with_reducible rfl)
      try simp only [Act.put, List.setIfInBounds_toArray, List.set_cons_zero, List.set_cons_succ]
      refine lad_end fun xq w4 st4 hR => ?_
      try dsimp only
      clear hR xq
      refine plan_m rfl rfl ?_
      refine wp_storeP st4 0 rfl rfl rfl rfl (tmF n a (tkT ls (k + 1))) (tms_set n a ls k HLT.out l HLL.out) (by rw [tmF_len n a _ (tkT_len ls k), tbL_len]; have := HLT.out; omega) (by first | (rw [cw_len]; kernel_rfl) | (simp only [tbL_len]; kernel_rfl)) (tbL_one _ _) ?_
      intro w5 st5
      have st5 : St (One gT) w w5 [(gT, tmF n a (tkT ls (k + 1)), 98), (g3, cw 12 0, 72), (g5, (rdT l).L, 72)] := st5
      clear st4
      try simp only [Act.put]
      refine plan_end ?_
      refine NoPanic.normal ?_
      go_wp2_with fail
      go_roundw
      case rel => exact ⟨k + 1, by have := HLT.out; omega, by go_num, St.less st5 (by simp)⟩
      case measure => have := HLT.out; simp [intOf]; omega
    · have hltI : ¬ ((k : Int) < (n : Int)) := by omega
      have hkn : k = ls.length := by rw [HLS.out]; omega
      have hnl : n = ls.length := HLS.out.symm
      subst hkn
      have HNL := Lib.hid hnl
      clear hnl
      have hHT := st.at 0 rfl
      clear hHT
      go_wp2_with fail
      refine wp_region_noPanic ?_
      refine wp_region_lad st 3 [.t 1, .c 0, .c 2] (.m 3 .nil) (by kernel_rfl) (by kernel_rfl) (fun _ _ _ _ _ h => h) ?_
      clear st
      refine lad_t (v := ?_) rfl rfl (fun xq wx hS => ?_) ?_
      rotate_left 1
      · (have hc := (HGB.out.keep (St.fr hS) HNE.out).cell (show [Value.slice (some ⟨gT, 0, none⟩) n n][0]? = _ from rfl); clear hS; go_simp; with_reducible rfl)
      try simp only [Act.put, List.setIfInBounds_toArray, List.set_cons_zero, List.set_cons_succ]
      refine lad_callX (X := Nat) (fun gc => .pointer (some ⟨gc, 0, none⟩)) (fun gc w => Cv w gc) (fun _ _ _ h k => h.keep k) rfl rfl rfl Try.call41 (fun w hS hR => k256_x _) (fun _ => rfl) fun gc => ?_
      try simp only [Act.put, List.setIfInBounds_toArray, List.set_cons_zero, List.set_cons_succ]
      refine lad_call rfl rfl rfl Try.call64 (fun w hS hR => sum_c (tmsT a ls) gc (some ⟨gT, 0, none⟩) n n _ hR.2 (by rw [tmsT_len]; exact HLS.out) HN.out (tms_rd (by have h := St.at hS 0 rfl; rw [HNL.out] at h; exact h))) (fun _ => rfl) ?_
      try simp only [Act.put, List.setIfInBounds_toArray, List.set_cons_zero, List.set_cons_succ]
      refine lad_end fun xq w2 st2 hR => ?_
      try dsimp only
      clear hR xq
      refine plan_m rfl rfl ?_
      refine wp_storeS st2 1 rfl rfl rfl rfl (by first | (simp only [cw_len]; done) | (simp only [List.length_append, cw_len, PT.len, tbL_len, ptL_len]; done)) (by first | (rw [cw_len]; kernel_rfl) | (simp only [PT.len]; kernel_rfl)) (PT.one _) ?_
      intro w3 st3
      try simp only [List.set_cons_zero, List.set_cons_succ] at st3
      clear st2
      try simp only [Act.put]
      refine plan_end ?_
      refine NoPanic.normal ?_
      have hr := st3.at 1 rfl
      have hfr := st3.fr
      clear st3
      go_wp2_with fail
      exact bodyPost_ret (results_st rfl rfl hr Try.underlying72 rfl (by first | (rw [cw_len]; kernel_rfl) | (simp only [PT.len]; kernel_rfl))) rfl ⟨rfl, hfr⟩
end Go.Proofs.Ytdbgddngapminaa

/- group: with, over Sum's closure. -/
namespace Go.Mv
open Go.RowKit
theorem Has.neT {w : World} {g g' : Nat} {L L' : List Value} {T T' : TypeId} (h : Has w g L T) (k : Has w g' L' T') (hT : T ≠ T') : g ≠ g' := by
  rintro rfl
  obtain ⟨_, _, h1, _⟩ := h
  obtain ⟨_, _, h2, _⟩ := k
  rw [h1] at h2
  simp only [Option.some.injEq, Obj.cells.injEq] at h2
  exact hT h2.2.1
end Go.Mv
namespace Go.Proofs.Ytdbgddngapminaa
open Go.RowKit Go.Mv Mvp Mvq
theorem Cv.keepT {w w' : World} {gc gT : Nat} {L : List Value} (h : Cv w gc) (hT : Has w gT L 98) (hf : Fr (One gT) w w') : Cv w' gc := by
  obtain ⟨gp, h1, h2⟩ := h
  exact ⟨gp, h1.keep hf (fun e => h1.neT hT (by decide) e), h2.keep hf (fun e => h2.neT hT (by decide) e)⟩
attribute [local irreducible] limbs lw mix cw cSub cAdd cMul foldC valFrom beN laid be32 powm montT mstep elN mdL numB rtN rtV rtOk gXn gYn PT.L addT dblT mulT tbL tmR tmL dbN innT outT sumT dig rdT rdOk rdPt ptL ptsL rdsB wrPt
set_option maxHeartbeats 8000000 in
set_option maxRecDepth 1000000 in
theorem with_sum_ok (gk : Nat) (al : Option Addr) (n cl : Nat) (vs : List Value) (ls : List (List UInt8)) (w : World) (hv : Rd w al n vs) (hp : BParts w vs ls) (hn : n ≤ 100000) (hg : rdsB ls = true) (gT : Nat) (LT : List Value) (hgt : Has w gT LT 98) (t : PT) (hop : ∀ ap cp wx, Fr Nob w wx → Off (One gT) ap → Rd wx ap (ls.length * 12) (ptsL ls) → Calls Try.prog 62 #[.slice ap ls.length cp, .pointer (some ⟨gk, 0, none⟩)] wx fun e w' => e = .returned (.agg t.L.toArray) ∧ Fr (One gT) wx w') :
    Calls Try.prog 43 #[.func (.func 62) #[] #[.pointer (some ⟨gk, 0, none⟩)], .slice al n cl] w fun e w' => ∃ sv, e = .returned (.tuple #[sv, .int .i64 0]) ∧ Own w' w.heap.size 5 1 sv 33 (bs (wrPt t.pt)) ∧ Fr (One gT) w w' := by
  have HV := Lib.hid hv
  have HP := Lib.hid hp
  have HL := Lib.hid (show ls.length = n by rw [← hp.1, hv.len])
  have HN := Lib.hid hn
  have hnI : (n : Int) ≤ 100000 := by omega
  clear hv hp
  have HOP := Lib.hid hop
  have HGA := Lib.hid hg
  have HGT := Lib.hid hgt
  clear hop hg hgt
  go_enter Try.func43, Try.ntmps43
  go_wp2
  go_loopw [6, 13] (fun v i wr => ∃ k : Nat, k ≤ n ∧ i = .int .i64 (k : Int) ∧ rdsB (ls.take k) = true ∧ Own wr w.heap.size 72 12 v k (ptsL (ls.take k)) ∧ Fr Nob w wr) (fun _ i _ => n - (intOf i).toNat)
  case atStart => exact ⟨0, Nat.zero_le _, rfl, by rw [List.take_zero]; unfold rdsB; rfl, by rw [List.take_zero]; unfold ptsL; exact Own.nil _ _ _ _, Fr.refl _ _⟩
  case round =>
    obtain ⟨k, hk, rfl, hgood, hown, hf⟩ := hrel
    by_cases hlt : k < n
    · have hltI : (k : Int) < (n : Int) := by omega
      obtain ⟨b, o, rfl, hat⟩ := (HV.out.still hf).at (by omega)
      have hvl : k < vs.length := by rw [HV.out.len]; exact hlt
      obtain ⟨a, nn, c, hve, hcc, hrd⟩ := HP.out.2 k (vs[k]'hvl) (List.getElem?_eq_getElem hvl)
      have hc1 := hat k _ (List.getElem?_eq_getElem hvl)
      rw [hve] at hc1
      have hlk : k < ls.length := by rw [HL.out]; exact hlt
      have hts := rdsB_take ls k hlk
      have hcs : ptsL (ls.take (k + 1)) = ptsL (ls.take k) ++ (rdT (ls.getD k [])).L := by
        rw [List.take_succ_eq_append_getElem hlk, ptsL_snoc]
        simp [List.getD_eq_getElem?_getD, hlk]
      have hbad := rdsB_bad ls k hlk
      generalize hL : ls.getD k [] = l at *
      have HLL := Lib.hid hL
      have HRD := Lib.hid (hrd.still hf)
      have HTS := Lib.hid hts
      have HCS := Lib.hid hcs
      have HBAD := Lib.hid hbad
      have HG := Lib.hid hgood
      have HOWN := Lib.hid hown
      have HF := Lib.hid hf
      have HCC := Lib.hid hcc
      clear hL hrd hts hcs hbad hgood hown hf hat hve hcc
      have st0 := St.start Nob wr
      have HK := Lib.hid (show rdOk l = true by
        cases hh : rdOk l
        · have := HBAD.out hh
          rw [HGA.out] at this
          cases this
        · rfl)
      skip
      go_wp2_with fail
      refine (k256_c _).mono ?_
      rintro e' w1 ⟨gc, rfl, hle, hcv, hf1⟩
      have st1 := st0.keep hf1
      have HCV := Lib.hid hcv
      clear hcv hle
      clear st0 hf1
      go_wp2_with fail
      refine (read_t l HK.out gc a nn c _ HCV.out (HRD.out.still st1.fr) HCC.out).mono ?_
      rintro e' w2 ⟨rfl, hf2⟩
      have st2 := st1.keep hf2
      clear st1 hf2
      go_wp2_with (with_reducible refine wl_stop (o := ⟨some 9, _, _, _, _, _⟩) ?_)
      refine wl_allocS st2 rfl rfl (z := .agg (List.replicate 12 (.int .u64 0)).toArray) (by kernel_rfl) (cw 12 0) (by rw [cw_zero]; rfl) ?_
      intro g9 w3 st3
      clear st2
      go_wp2_with (with_reducible refine wl_stop (o := ⟨none, _, _, _, _, _⟩) ?_)
      refine wl_storeS st3 0 rfl rfl rfl rfl rfl (by first | (simp only [cw_len]; done) | (simp only [List.length_append, cw_len, PT.len, ptL_len]; done)) (by first | (rw [cw_len]; kernel_rfl) | (simp only [PT.len]; kernel_rfl)) (PT.one _) ?_
      intro w4 st4
      clear st3
      have HFS := Lib.hid st4.fr
      go_wp2_with (with_reducible refine wl_stop (o := ⟨some 26, _, _, _, _, _⟩) ?_)
      refine wl_loadSt st4 0 rfl rfl rfl Try.underlying72 rfl rfl (by first | (rw [cw_len]; kernel_rfl) | (simp only [PT.len]; kernel_rfl)) ?_
      clear st4
      go_wp2_with (with_reducible refine wl_stop (o := ⟨some 27, _, _, _, _, _⟩) ?_)
      refine wl_slitR rfl rfl Try.underlying78 info_pt [.agg (rdT l).L.toArray] rfl (by simp [Value.cells, PT.len]) rfl ((rdT l).L) (by simp [Value.cells]) ?_
      intro wA hgA hfA hzA
      clear hzA
      have hfrA := HFS.out.then hfA
      have hsz := HF.out.size
      have hsz2 := hfrA.size
      have hownA := HOWN.out.still hfrA
      have hrdA : Rd wA (some ⟨w4.heap.size, 0, none⟩) (1 * 12) ((rdT l).L) := by
        have := Rd.whole hgA
        rwa [PT.len] at this
      have HRDA := Lib.hid hrdA
      have HOWNA := Lib.hid hownA
      have HFRA := Lib.hid hfrA
      clear hgA hfA hrdA hownA hfrA
      generalize w4.heap.size = gA at *
      go_wp2_with (with_reducible refine wl_stop (o := ⟨some 28, _, _, _, _, _⟩) ?_)
      refine wl_append rfl rfl Try.underlying78 info_pt rfl (by decide) HOWNA.out rfl rfl HRDA.out (PT.one _) (by unfold maxLen; omega) (by omega) (by omega) ?_
      intro vB wB hownB hfB hbB
      clear hbB
      have hfrB := HOWNA.out.fr (HF.out.then HFRA.out) (Nat.le_refl _) hfB
      have HFRB := Lib.hid hfrB
      rw [← HCS.out] at hownB
      have HOWNB := Lib.hid hownB
      clear hfrB hownB hfB
      go_wp2_with fail
      go_roundw
      case rel => exact ⟨k + 1, by omega, by go_num, by rw [HTS.out, HG.out, HK.out]; rfl, HOWNB.out, HFRB.out⟩
      case measure => simp [intOf]; omega

    · have hge : ¬ ((k : Int) < (n : Int)) := by omega
      have hkn : k = ls.length := by rw [HL.out]; omega
      rw [hkn, List.take_of_length_le (Nat.le_refl _)] at hgood hown
      obtain ⟨ap, cp, rfl, -, hre, hbase⟩ := hown.form
      have HOFF := Lib.hid (show Off (One gT) ap from fun x hx he => by have h1 := hbase x hx; have h2 := HGT.out.lt; have h3 : x.block = gT := he; omega)
      clear hbase
      have HRE := Lib.hid hre
      have HF := Lib.hid hf
      clear hkn hgood hown hf hre
      go_wp2_with fail
      refine (k256_c _).mono ?_
      rintro e w1 ⟨gc, rfl, hle, hcv, hf1⟩
      have HCV := Lib.hid hcv
      have HF1 := Lib.hid (HF.out.then hf1)
      have HRE1 := Lib.hid (HRE.out.still hf1)
      clear hle hcv hf1 HF HRE
      go_wp2_with fail
      refine (HOP.out ap cp _ HF1.out HOFF.out HRE1.out).mono ?_
      rintro e w2 ⟨rfl, hf2⟩
      have HCV2 := Lib.hid (HCV.out.keepT (HGT.out.keep HF1.out id) hf2)
      have HF2 := Lib.hid ((HF1.out.mono (fun _ _ t => t.elim)).trans hf2 (fun _ _ t => t))
      clear hf2 HF1 HRE1 HCV
      go_wp2_with fail
      refine (bytes_c t gc _ HCV2.out).mono ?_
      rintro e w3 ⟨sv, rfl, hown3, hf3⟩
      have h2 := HF2.out.same hf3
      have ho := hown3.mono HF2.out.size
      clear hown3 hf3 HF2 HCV2
      go_wp2_with fail
      go_ret2
      exact ⟨sv, rfl, ho, h2⟩

set_option maxHeartbeats 8000000 in
set_option maxRecDepth 1000000 in
theorem with_sum_bad (gk : Nat) (al : Option Addr) (n cl : Nat) (vs : List Value) (ls : List (List UInt8)) (w : World) (hv : Rd w al n vs) (hp : BParts w vs ls) (hn : n ≤ 100000) (hg : rdsB ls = false) :
    Calls Try.prog 43 #[.func (.func 62) #[] #[.pointer (some ⟨gk, 0, none⟩)], .slice al n cl] w fun e w' => e = .returned (.tuple #[.slice none 0 0, .int .i64 4]) ∧ Fr Nob w w' := by
  have HV := Lib.hid hv
  have HP := Lib.hid hp
  have HL := Lib.hid (show ls.length = n by rw [← hp.1, hv.len])
  have HN := Lib.hid hn
  have hnI : (n : Int) ≤ 100000 := by omega
  clear hv hp
  have HGA := Lib.hid hg
  clear hg
  go_enter Try.func43, Try.ntmps43
  go_wp2
  go_loopw [6, 13] (fun v i wr => ∃ k : Nat, k ≤ n ∧ i = .int .i64 (k : Int) ∧ rdsB (ls.take k) = true ∧ Own wr w.heap.size 72 12 v k (ptsL (ls.take k)) ∧ Fr Nob w wr) (fun _ i _ => n - (intOf i).toNat)
  case atStart => exact ⟨0, Nat.zero_le _, rfl, by rw [List.take_zero]; unfold rdsB; rfl, by rw [List.take_zero]; unfold ptsL; exact Own.nil _ _ _ _, Fr.refl _ _⟩
  case round =>
    obtain ⟨k, hk, rfl, hgood, hown, hf⟩ := hrel
    by_cases hlt : k < n
    · have hltI : (k : Int) < (n : Int) := by omega
      obtain ⟨b, o, rfl, hat⟩ := (HV.out.still hf).at (by omega)
      have hvl : k < vs.length := by rw [HV.out.len]; exact hlt
      obtain ⟨a, nn, c, hve, hcc, hrd⟩ := HP.out.2 k (vs[k]'hvl) (List.getElem?_eq_getElem hvl)
      have hc1 := hat k _ (List.getElem?_eq_getElem hvl)
      rw [hve] at hc1
      have hlk : k < ls.length := by rw [HL.out]; exact hlt
      have hts := rdsB_take ls k hlk
      have hcs : ptsL (ls.take (k + 1)) = ptsL (ls.take k) ++ (rdT (ls.getD k [])).L := by
        rw [List.take_succ_eq_append_getElem hlk, ptsL_snoc]
        simp [List.getD_eq_getElem?_getD, hlk]
      have hbad := rdsB_bad ls k hlk
      generalize hL : ls.getD k [] = l at *
      have HLL := Lib.hid hL
      have HRD := Lib.hid (hrd.still hf)
      have HTS := Lib.hid hts
      have HCS := Lib.hid hcs
      have HBAD := Lib.hid hbad
      have HG := Lib.hid hgood
      have HOWN := Lib.hid hown
      have HF := Lib.hid hf
      have HCC := Lib.hid hcc
      clear hL hrd hts hcs hbad hgood hown hf hat hve hcc
      have st0 := St.start Nob wr
      rcases Bool.eq_false_or_eq_true (rdOk l) with hh | hh
      · have HK := Lib.hid hh
        clear hh
        skip
        go_wp2_with fail
        refine (k256_c _).mono ?_
        rintro e' w1 ⟨gc, rfl, hle, hcv, hf1⟩
        have st1 := st0.keep hf1
        have HCV := Lib.hid hcv
        clear hcv hle
        clear st0 hf1
        go_wp2_with fail
        refine (read_t l HK.out gc a nn c _ HCV.out (HRD.out.still st1.fr) HCC.out).mono ?_
        rintro e' w2 ⟨rfl, hf2⟩
        have st2 := st1.keep hf2
        clear st1 hf2
        go_wp2_with (with_reducible refine wl_stop (o := ⟨some 9, _, _, _, _, _⟩) ?_)
        refine wl_allocS st2 rfl rfl (z := .agg (List.replicate 12 (.int .u64 0)).toArray) (by kernel_rfl) (cw 12 0) (by rw [cw_zero]; rfl) ?_
        intro g9 w3 st3
        clear st2
        go_wp2_with (with_reducible refine wl_stop (o := ⟨none, _, _, _, _, _⟩) ?_)
        refine wl_storeS st3 0 rfl rfl rfl rfl rfl (by first | (simp only [cw_len]; done) | (simp only [List.length_append, cw_len, PT.len, ptL_len]; done)) (by first | (rw [cw_len]; kernel_rfl) | (simp only [PT.len]; kernel_rfl)) (PT.one _) ?_
        intro w4 st4
        clear st3
        have HFS := Lib.hid st4.fr
        go_wp2_with (with_reducible refine wl_stop (o := ⟨some 26, _, _, _, _, _⟩) ?_)
        refine wl_loadSt st4 0 rfl rfl rfl Try.underlying72 rfl rfl (by first | (rw [cw_len]; kernel_rfl) | (simp only [PT.len]; kernel_rfl)) ?_
        clear st4
        go_wp2_with (with_reducible refine wl_stop (o := ⟨some 27, _, _, _, _, _⟩) ?_)
        refine wl_slitR rfl rfl Try.underlying78 info_pt [.agg (rdT l).L.toArray] rfl (by simp [Value.cells, PT.len]) rfl ((rdT l).L) (by simp [Value.cells]) ?_
        intro wA hgA hfA hzA
        clear hzA
        have hfrA := HFS.out.then hfA
        have hsz := HF.out.size
        have hsz2 := hfrA.size
        have hownA := HOWN.out.still hfrA
        have hrdA : Rd wA (some ⟨w4.heap.size, 0, none⟩) (1 * 12) ((rdT l).L) := by
          have := Rd.whole hgA
          rwa [PT.len] at this
        have HRDA := Lib.hid hrdA
        have HOWNA := Lib.hid hownA
        have HFRA := Lib.hid hfrA
        clear hgA hfA hrdA hownA hfrA
        generalize w4.heap.size = gA at *
        go_wp2_with (with_reducible refine wl_stop (o := ⟨some 28, _, _, _, _, _⟩) ?_)
        refine wl_append rfl rfl Try.underlying78 info_pt rfl (by decide) HOWNA.out rfl rfl HRDA.out (PT.one _) (by unfold maxLen; omega) (by omega) (by omega) ?_
        intro vB wB hownB hfB hbB
        clear hbB
        have hfrB := HOWNA.out.fr (HF.out.then HFRA.out) (Nat.le_refl _) hfB
        have HFRB := Lib.hid hfrB
        rw [← HCS.out] at hownB
        have HOWNB := Lib.hid hownB
        clear hfrB hownB hfB
        go_wp2_with fail
        go_roundw
        case rel => exact ⟨k + 1, by omega, by go_num, by rw [HTS.out, HG.out, HK.out]; rfl, HOWNB.out, HFRB.out⟩
        case measure => simp [intOf]; omega
      · have HK := Lib.hid hh
        clear hh
        skip
        go_wp2_with fail
        refine (k256_c _).mono ?_
        rintro e' w1 ⟨gc, rfl, hle, hcv, hf1⟩
        have st1 := st0.keep hf1
        have HCV := Lib.hid hcv
        clear hcv hle
        clear st0 hf1
        go_wp2_with fail
        refine (read_f l HK.out gc a nn c _ HCV.out (HRD.out.still st1.fr) HCC.out).mono ?_
        rintro e' w2 ⟨⟨X, Y, Z, rfl⟩, hf2⟩
        have st2 := st1.keep hf2
        clear st1 hf2
        go_wp2_with (with_reducible refine wl_stop (o := ⟨some 9, _, _, _, _, _⟩) ?_)
        refine wl_allocS st2 rfl rfl (z := .agg (List.replicate 12 (.int .u64 0)).toArray) (by kernel_rfl) (cw 12 0) (by rw [cw_zero]; rfl) ?_
        intro g9 w3 st3
        clear st2
        go_wp2_with (with_reducible refine wl_stop (o := ⟨none, _, _, _, _, _⟩) ?_)
        refine wl_storeS st3 0 rfl rfl rfl rfl rfl (by first | (simp only [cw_len]; done) | (simp only [List.length_append, cw_len, PT.len, ptL_len]; done)) (by first | (rw [cw_len]; kernel_rfl) | (simp only [ptL_len]; kernel_rfl)) (ptL_one _ _ _ _) ?_
        intro w4 st4
        clear st3
        have HFS := Lib.hid (HF.out.then st4.fr)
        clear st4
        go_wp2_with fail
        go_ret2
        exact ⟨rfl, HFS.out⟩
    · exfalso
      have hkn : k = ls.length := by rw [HL.out]; omega
      rw [hkn, List.take_of_length_le (Nat.le_refl _), HGA.out] at hgood
      cases hgood
end Go.Proofs.Ytdbgddngapminaa

/- group: Sum. -/
namespace Go.Mv
open Go.RowKit
variable {P : Program} {ops : Array Oper} {a : Act} {w : World} {rest : List Oper} {Q : Exit → Act → World → Prop} {o : Oper}
theorem madeCells_row (v : Value) (sz m : Nat) (h : 0 < sz) : (madeCells (List.replicate sz v).toArray m).toList = List.replicate m v := by
  apply List.ext_getElem?
  intro j
  by_cases hj : j < m
  · have : j % sz < sz := Nat.mod_lt _ h
    simp [madeCells, hj, this]
  · simp [madeCells, hj]
/-- make([]T, n), T a row of like cells -/
theorem wl_makeR {l c : Operand} {t : TypeId} (hgd : o.guard = none) (ho : o.op = .makeSlice t l c) {e : TypeId} {z v : Value} {sz by_ : Nat} (ht : P.underlying t = some (.slice e))
    (hi0 : (P.info? e).map (fun i => (i.zero, i.size, i.bytes)) = some (some z, sz, by_)) (hzc : z.cells = (List.replicate sz v).toArray) (hsz : 0 < sz) {kl kc : IntKind} {x y : Int} (hl : a.eval l = .int kl x) (hc : a.eval c = .int kc y) (n m : Nat) (hx : x = n) (hy : y = m) (hnm : n ≤ m)
    (hb : by_ * m ≤ 281474976710656) (h63 : m ≤ maxLen)
    (h : ∀ w', Has w' w.heap.size (List.replicate (m * sz) v) e → Fr Nob w w' → wpList P ops Q rest (a.put o.dst (.slice (some ⟨w.heap.size, 0, none⟩) n m)) w') : wpList P ops Q (o :: rest) a w := by
  refine wpList_plain hgd fun K hK => ?_
  obtain ⟨i, hi, hz0⟩ : ∃ i, P.info? e = some i ∧ (i.zero, i.size, i.bytes) = (some z, sz, by_) := by simpa using hi0
  simp only [Prod.mk.injEq] at hz0
  obtain ⟨hz, hsize, hby⟩ := hz0
  subst hx
  subst hy
  have hmx : (m : Int) ≤ 9223372036854775807 := by simp only [maxLen] at h63; omega
  have hbb : (i.bytes : Int) * (m : Int) ≤ 281474976710656 := by
    have k : ((i.bytes * m : Nat) : Int) ≤ 281474976710656 := by rw [hby]; omega
    rwa [Int.natCast_mul] at k
  have hr := run_make (P := P) w t e i z ht hi hz kl kc n m (by omega) (by omega) hbb hmx
  simp only [Int.toNat_natCast, hsize] at hr
  unfold Oper.wp execOp
  simp only [ho, hl, hc, Sem.run_bind, Sem.run_pure, Result.andThen_ok, hr]
  refine hK _ _ (h _ ?_ ((Fr.refl _ w).alloc _))
  have := Has.new w (madeCells z.cells (m * sz)) e
  rw [hzc] at this ⊢
  rwa [madeCells_row v sz _ hsz] at this
end Go.Mv
namespace Go.Proofs.Ytdbgddngapminaa
open Go.RowKit Go.Mv Mvp Mvq
theorem info_term : (Try.prog.info? 98).map (fun i => (i.zero, i.size, i.bytes)) = some (some (.agg (List.replicate 196 (.int .u64 0)).toArray), 196, 1568) := by kernel_rfl
/-- the numbers read so far -/
def aK (ls : List (List UInt8)) (k : Nat) : Nat → Nat := fun i => if i < k then beN (ls.getD i []) else 0
theorem aK_zero (n : Nat) (ls : List (List UInt8)) : List.replicate (n * 196) (Value.int .u64 0) = tmF n (aK ls 0) (fun _ => cw 192 0) := by
  rw [tmF_zero]
  exact tmF_congr _ _ _ _ _ fun i _ => ⟨by unfold aK; rw [if_neg (Nat.not_lt_zero _)], rfl⟩
theorem aK_set (n : Nat) (ls : List (List UInt8)) (k : Nat) (l : List UInt8) (hl : ls.getD k [] = l) (h : k < n) : splice (tmF n (aK ls k) (fun _ => cw 192 0)) (k * 196) (cw 4 (beN l)) = tmF n (aK ls (k + 1)) (fun _ => cw 192 0) := by
  subst hl
  rw [tmF_setN n _ _ (fun _ => cw_len _ _) k _ h]
  refine tmF_congr _ _ _ _ _ fun i _ => ⟨?_, rfl⟩
  unfold upN aK
  by_cases e : i = k
  · rw [if_pos e, if_pos (by omega), e]
  · rw [if_neg e]
    by_cases e2 : i < k
    · rw [if_pos e2, if_pos (by omega)]
    · rw [if_neg e2, if_neg (by omega)]
theorem tmF_lenC (n : Nat) (a : Nat → Nat) : (tmF n a (fun _ => cw 192 0)).length = n * 196 := tmF_len n a _ (fun _ => cw_len _ _)
attribute [local irreducible] limbs lw mix cw cSub cAdd cMul foldC valFrom beN laid be32 powm montT mstep elN mdL numB rtN rtV rtOk gXn gYn PT.L addT dblT mulT tbL tmR tmL dbN innT outT sumT dig rdT rdOk rdPt ptL ptsL rdsB wrPt tmF tkT tmsT aK
set_option maxHeartbeats 8000000 in
set_option maxRecDepth 1000000 in
theorem Sum_ok (al : Option Addr) (n cl : Nat) (vs : List Value) (ln : List (List UInt8)) (bl : Option Addr) (dl : Nat) (us : List Value) (lp : List (List UInt8)) (w : World) (hv : Rd w al n vs) (hp : BParts w vs ln) (hu : Rd w bl n us) (hq : BParts w us lp) (hn : n ≤ 512) (hg : numsB mQ ln = true) (hr : rdsB lp = true) :
    Calls Try.prog 25 #[.slice al n cl, .slice bl n dl] w fun e w' => ∃ sv, e = .returned (.tuple #[sv, .int .i64 0]) ∧ Own w' w.heap.size 5 1 sv 33 (bs (wrPt (sumT (tmsT (aK ln n) lp)).pt)) ∧ Fr Nob w w' := by
  have HV := Lib.hid hv
  have HP := Lib.hid hp
  have HU := Lib.hid hu
  have HQ := Lib.hid hq
  have HL := Lib.hid (show ln.length = n by rw [← hp.1, hv.len])
  have HL2 := Lib.hid (show lp.length = n by rw [← hq.1, hu.len])
  have HN := Lib.hid hn
  have hnI : ¬ ((512 : Int) < (n : Int)) := by omega
  clear hv hp hu hq
  have HGA := Lib.hid hg
  have HRA := Lib.hid hr
  clear hg hr hn
  have st0 := St.start Nob w
  go_enter Try.func25, Try.ntmps25
  go_wp2_with (with_reducible refine wl_stop (o := ⟨some 23, _, _, _, _, _⟩) ?_)
  refine wl_makeR rfl rfl Try.underlying94 info_term rfl (by decide) rfl rfl n n rfl rfl (Nat.le_refl _) (by have := HN.out; omega) (by have := HN.out; unfold maxLen; omega) ?_
  intro w1 hm hf
  rw [aK_zero n ln] at hm
  have st1 := st0.new hf hm (Nat.le_refl _)
  have hle : w.heap.size ≤ w.heap.size := Nat.le_refl _
  generalize hgT : w.heap.size = gT at st1 hle hm ⊢
  have HGS := Lib.hid hgT
  clear hgT hle hm hf st0
  go_wp2_with (with_reducible refine wl_stop (o := ⟨some 6, _, _, _, _, _⟩) ?_)
  refine wl_allocS st1 rfl rfl (z := .slice none 0 0) (by kernel_rfl) [.slice none 0 0] rfl ?_
  intro gb w2 st2
  clear st1
  obtain ⟨v6, c6, f6⟩ := (st2.at 1 rfl).ready (i := 0) (by decide)
  have st3 := st2.set 1 rfl 0 (.slice (some ⟨gT, 0, none⟩) n n)
  have st3 : St Nob w (w2.setCell ⟨gb, 0, none⟩ (.slice (some ⟨gT, 0, none⟩) n n)) [(gT, tmF n (aK ln (0)) (fun _ => cw 192 0), 98), (gb, [Value.slice (some ⟨gT, 0, none⟩) n n], 94)] := st3
  have ST3 := Lib.hid st3
  clear st2 st3
  go_wp2
  try clear c6 f6
  go_loopw [26] (fun i wr => ∃ k : Nat, k ≤ n ∧ i = .int .i64 (k : Int) ∧ numsB mQ (ln.take k) = true ∧ St Nob w wr [(gT, tmF n (aK ln (k)) (fun _ => cw 192 0), 98), (gb, [Value.slice (some ⟨gT, 0, none⟩) n n], 94)]) (fun i _ => n - (intOf i).toNat)
  case atStart => exact ⟨0, Nat.zero_le _, rfl, by rw [List.take_zero]; unfold numsB; rfl, ST3.out⟩
  case round =>
    obtain ⟨k, hk, rfl, hgood, st⟩ := hrel
    clear ST3
    by_cases hlt : k < n
    · have hltI : (k : Int) < (n : Int) := by omega
      have hk0 : (0 : Int) ≤ (k : Int) := by omega
      have hf := st.fr
      obtain ⟨b, o, rfl, hat⟩ := (HV.out.still hf).at (by omega)
      have hvl : k < vs.length := by rw [HV.out.len]; exact hlt
      obtain ⟨a, nn, c, hve, hcc, hrd⟩ := HP.out.2 k (vs[k]'hvl) (List.getElem?_eq_getElem hvl)
      have hc1 := hat k _ (List.getElem?_eq_getElem hvl)
      rw [hve] at hc1
      have hlk : k < ln.length := by rw [HL.out]; exact hlt
      have hts := numsB_take mQ ln k hlk
      have hbad := numsB_bad mQ ln k hlk
      generalize hLk : ln.getD k [] = l at *
      have HLL := Lib.hid hLk
      have HRD := Lib.hid (hrd.still hf)
      have HTS := Lib.hid hts
      have HBAD := Lib.hid hbad
      have HG := Lib.hid hgood
      have HLT := Lib.hid hlt
      clear hLk hrd hts hbad hgood hf hat hve hcc hlt hk
      have HK := Lib.hid (show numB mQ l = true by
        cases hh : numB mQ l
        · have := HBAD.out hh
          rw [HGA.out] at this
          cases this
        · rfl)
      go_wp2_with fail
      refine (scalar_t HK.out a nn c _ (HRD.out)).mono ?_
      rintro e' w3 ⟨rfl, hf3⟩
      have st3 := st.keep hf3
      clear st hf3
      go_wp2_with (with_reducible refine wl_stop (o := ⟨some 9, _, _, _, _, _⟩) ?_)
      refine wl_allocS st3 rfl rfl (z := .agg #[.int .u64 0, .int .u64 0, .int .u64 0, .int .u64 0]) (by kernel_rfl) (cw 4 0) (by rw [cw_zero]; rfl) ?_
      intro g9 w4 st4
      clear st3
      go_wp2_with (with_reducible refine wl_stop (o := ⟨none, _, _, _, _, _⟩) ?_)
      refine wl_storeS st4 2 rfl rfl rfl rfl rfl (by first | (simp only [cw_len]; done) | (simp only [List.length_append, cw_len, PT.len, ptL_len]; done)) (by first | (rw [cw_len]; kernel_rfl) | (rw [PT.len]; kernel_rfl) | (rw [ptL_len]; kernel_rfl) | (simp only [List.length_append, cw_len]; kernel_rfl) | (simp only [List.length_append, cw_len, PT.len, ptL_len]; kernel_rfl)) (cw_one _ _) ?_
      intro w5 st5
      clear st4
      have hc6 := (st5.at 1 rfl).cell (show [Value.slice (some ⟨gT, 0, none⟩) n n][0]? = _ from rfl)
      go_wp2_with (with_reducible refine wl_stop (o := ⟨some 40, _, _, _, _, _⟩) ?_)
      refine wl_loadS st5 2 rfl rfl rfl Try.underlying82 rfl (by first | (rw [cw_len]; kernel_rfl) | (rw [PT.len]; kernel_rfl) | (rw [ptL_len]; kernel_rfl) | (simp only [List.length_append, cw_len]; kernel_rfl) | (simp only [List.length_append, cw_len, PT.len, ptL_len]; kernel_rfl)) ?_
      go_wp2_with (with_reducible refine wl_stop (o := ⟨none, _, _, _, _, _⟩) ?_)
      refine wl_storeP st5 0 rfl rfl rfl rfl rfl (tmF n (aK ln (k + 1)) (fun _ => cw 192 0)) (aK_set n ln k l HLL.out HLT.out) (by rw [tmF_lenC, cw_len]; have := HLT.out; omega) (by first | (rw [cw_len]; kernel_rfl) | (rw [PT.len]; kernel_rfl) | (rw [ptL_len]; kernel_rfl) | (simp only [List.length_append, cw_len]; kernel_rfl) | (simp only [List.length_append, cw_len, PT.len, ptL_len]; kernel_rfl)) (cw_one _ _) ?_
      intro w6 st6
      clear st5 hc6
      go_wp2_with fail
      go_roundw
      case rel => exact ⟨k + 1, by have := HLT.out; omega, by go_num, by rw [HTS.out, HG.out, HK.out]; rfl, St.less st6 (by simp)⟩
      case measure => have := HLT.out; simp [intOf]; omega
    · have hge : ¬ ((k : Int) < (n : Int)) := by omega
      have hkn : k = n := by omega
      rw [hkn] at hgood st
      rw [List.take_of_length_le (by rw [HL.out]; exact Nat.le_refl _)] at hgood
      have hgl := (st.at 0 rfl).lt
      have HHT := Lib.hid (st.at 0 rfl)
      have HHB := Lib.hid (st.at 1 rfl)
      have HNE := Lib.hid (show gb ≠ gT from st.neAt (i := 1) (j := 0) rfl rfl (by decide))
      have HF := Lib.hid st.fr
      clear hkn hgood st hgl
      go_wp2_with fail
      refine (with_sum_ok gb bl n dl us lp _ (HU.out.still HF.out) (HQ.out.still HF.out) (by have := HN.out; omega) HRA.out gT _ HHT.out (sumT (tmsT (aK ln n) lp)) (fun ap cp wx hfx hoff hrd => by rw [HL2.out]; exact sum1_c n (aK ln n) lp HL2.out (by have := HN.out; omega) gb gT wx HNE.out (HHB.out.keep hfx id) (HHT.out.keep hfx id) ap cp hoff hrd)).mono ?_
      rintro e wE ⟨sv, rfl, hown, hfE⟩
      have ho := hown.mono HF.out.size
      have hfr := HF.out.new hfE (by rw [HGS.out]; exact Nat.le_refl _)
      clear hown hfE HF HHT HHB
      go_wp2_with fail
      go_ret2
      exact ⟨sv, rfl, ho, hfr⟩

set_option maxHeartbeats 8000000 in
set_option maxRecDepth 1000000 in
theorem Sum_badp (al : Option Addr) (n cl : Nat) (vs : List Value) (ln : List (List UInt8)) (bl : Option Addr) (dl : Nat) (us : List Value) (lp : List (List UInt8)) (w : World) (hv : Rd w al n vs) (hp : BParts w vs ln) (hu : Rd w bl n us) (hq : BParts w us lp) (hn : n ≤ 512) (hg : numsB mQ ln = true) (hr : rdsB lp = false) :
    Calls Try.prog 25 #[.slice al n cl, .slice bl n dl] w fun e w' => e = .returned (.tuple #[.slice none 0 0, .int .i64 4]) ∧ Fr Nob w w' := by
  have HV := Lib.hid hv
  have HP := Lib.hid hp
  have HU := Lib.hid hu
  have HQ := Lib.hid hq
  have HL := Lib.hid (show ln.length = n by rw [← hp.1, hv.len])
  have HL2 := Lib.hid (show lp.length = n by rw [← hq.1, hu.len])
  have HN := Lib.hid hn
  have hnI : ¬ ((512 : Int) < (n : Int)) := by omega
  clear hv hp hu hq
  have HGA := Lib.hid hg
  have HRA := Lib.hid hr
  clear hg hr hn
  have st0 := St.start Nob w
  go_enter Try.func25, Try.ntmps25
  go_wp2_with (with_reducible refine wl_stop (o := ⟨some 23, _, _, _, _, _⟩) ?_)
  refine wl_makeR rfl rfl Try.underlying94 info_term rfl (by decide) rfl rfl n n rfl rfl (Nat.le_refl _) (by have := HN.out; omega) (by have := HN.out; unfold maxLen; omega) ?_
  intro w1 hm hf
  rw [aK_zero n ln] at hm
  have st1 := st0.new hf hm (Nat.le_refl _)
  have hle : w.heap.size ≤ w.heap.size := Nat.le_refl _
  generalize hgT : w.heap.size = gT at st1 hle hm ⊢
  have HGS := Lib.hid hgT
  clear hgT hle hm hf st0
  go_wp2_with (with_reducible refine wl_stop (o := ⟨some 6, _, _, _, _, _⟩) ?_)
  refine wl_allocS st1 rfl rfl (z := .slice none 0 0) (by kernel_rfl) [.slice none 0 0] rfl ?_
  intro gb w2 st2
  clear st1
  obtain ⟨v6, c6, f6⟩ := (st2.at 1 rfl).ready (i := 0) (by decide)
  have st3 := st2.set 1 rfl 0 (.slice (some ⟨gT, 0, none⟩) n n)
  have st3 : St Nob w (w2.setCell ⟨gb, 0, none⟩ (.slice (some ⟨gT, 0, none⟩) n n)) [(gT, tmF n (aK ln (0)) (fun _ => cw 192 0), 98), (gb, [Value.slice (some ⟨gT, 0, none⟩) n n], 94)] := st3
  have ST3 := Lib.hid st3
  clear st2 st3
  go_wp2
  try clear c6 f6
  go_loopw [26] (fun i wr => ∃ k : Nat, k ≤ n ∧ i = .int .i64 (k : Int) ∧ numsB mQ (ln.take k) = true ∧ St Nob w wr [(gT, tmF n (aK ln (k)) (fun _ => cw 192 0), 98), (gb, [Value.slice (some ⟨gT, 0, none⟩) n n], 94)]) (fun i _ => n - (intOf i).toNat)
  case atStart => exact ⟨0, Nat.zero_le _, rfl, by rw [List.take_zero]; unfold numsB; rfl, ST3.out⟩
  case round =>
    obtain ⟨k, hk, rfl, hgood, st⟩ := hrel
    clear ST3
    by_cases hlt : k < n
    · have hltI : (k : Int) < (n : Int) := by omega
      have hk0 : (0 : Int) ≤ (k : Int) := by omega
      have hf := st.fr
      obtain ⟨b, o, rfl, hat⟩ := (HV.out.still hf).at (by omega)
      have hvl : k < vs.length := by rw [HV.out.len]; exact hlt
      obtain ⟨a, nn, c, hve, hcc, hrd⟩ := HP.out.2 k (vs[k]'hvl) (List.getElem?_eq_getElem hvl)
      have hc1 := hat k _ (List.getElem?_eq_getElem hvl)
      rw [hve] at hc1
      have hlk : k < ln.length := by rw [HL.out]; exact hlt
      have hts := numsB_take mQ ln k hlk
      have hbad := numsB_bad mQ ln k hlk
      generalize hLk : ln.getD k [] = l at *
      have HLL := Lib.hid hLk
      have HRD := Lib.hid (hrd.still hf)
      have HTS := Lib.hid hts
      have HBAD := Lib.hid hbad
      have HG := Lib.hid hgood
      have HLT := Lib.hid hlt
      clear hLk hrd hts hbad hgood hf hat hve hcc hlt hk
      have HK := Lib.hid (show numB mQ l = true by
        cases hh : numB mQ l
        · have := HBAD.out hh
          rw [HGA.out] at this
          cases this
        · rfl)
      go_wp2_with fail
      refine (scalar_t HK.out a nn c _ (HRD.out)).mono ?_
      rintro e' w3 ⟨rfl, hf3⟩
      have st3 := st.keep hf3
      clear st hf3
      go_wp2_with (with_reducible refine wl_stop (o := ⟨some 9, _, _, _, _, _⟩) ?_)
      refine wl_allocS st3 rfl rfl (z := .agg #[.int .u64 0, .int .u64 0, .int .u64 0, .int .u64 0]) (by kernel_rfl) (cw 4 0) (by rw [cw_zero]; rfl) ?_
      intro g9 w4 st4
      clear st3
      go_wp2_with (with_reducible refine wl_stop (o := ⟨none, _, _, _, _, _⟩) ?_)
      refine wl_storeS st4 2 rfl rfl rfl rfl rfl (by first | (simp only [cw_len]; done) | (simp only [List.length_append, cw_len, PT.len, ptL_len]; done)) (by first | (rw [cw_len]; kernel_rfl) | (rw [PT.len]; kernel_rfl) | (rw [ptL_len]; kernel_rfl) | (simp only [List.length_append, cw_len]; kernel_rfl) | (simp only [List.length_append, cw_len, PT.len, ptL_len]; kernel_rfl)) (cw_one _ _) ?_
      intro w5 st5
      clear st4
      have hc6 := (st5.at 1 rfl).cell (show [Value.slice (some ⟨gT, 0, none⟩) n n][0]? = _ from rfl)
      go_wp2_with (with_reducible refine wl_stop (o := ⟨some 40, _, _, _, _, _⟩) ?_)
      refine wl_loadS st5 2 rfl rfl rfl Try.underlying82 rfl (by first | (rw [cw_len]; kernel_rfl) | (rw [PT.len]; kernel_rfl) | (rw [ptL_len]; kernel_rfl) | (simp only [List.length_append, cw_len]; kernel_rfl) | (simp only [List.length_append, cw_len, PT.len, ptL_len]; kernel_rfl)) ?_
      go_wp2_with (with_reducible refine wl_stop (o := ⟨none, _, _, _, _, _⟩) ?_)
      refine wl_storeP st5 0 rfl rfl rfl rfl rfl (tmF n (aK ln (k + 1)) (fun _ => cw 192 0)) (aK_set n ln k l HLL.out HLT.out) (by rw [tmF_lenC, cw_len]; have := HLT.out; omega) (by first | (rw [cw_len]; kernel_rfl) | (rw [PT.len]; kernel_rfl) | (rw [ptL_len]; kernel_rfl) | (simp only [List.length_append, cw_len]; kernel_rfl) | (simp only [List.length_append, cw_len, PT.len, ptL_len]; kernel_rfl)) (cw_one _ _) ?_
      intro w6 st6
      clear st5 hc6
      go_wp2_with fail
      go_roundw
      case rel => exact ⟨k + 1, by have := HLT.out; omega, by go_num, by rw [HTS.out, HG.out, HK.out]; rfl, St.less st6 (by simp)⟩
      case measure => have := HLT.out; simp [intOf]; omega
    · have hge : ¬ ((k : Int) < (n : Int)) := by omega
      have hkn : k = n := by omega
      rw [hkn] at hgood st
      rw [List.take_of_length_le (by rw [HL.out]; exact Nat.le_refl _)] at hgood
      have hgl := (st.at 0 rfl).lt
      have HHT := Lib.hid (st.at 0 rfl)
      have HHB := Lib.hid (st.at 1 rfl)
      have HNE := Lib.hid (show gb ≠ gT from st.neAt (i := 1) (j := 0) rfl rfl (by decide))
      have HF := Lib.hid st.fr
      clear hkn hgood st hgl
      go_wp2_with fail
      refine (with_sum_bad gb bl n dl us lp _ (HU.out.still HF.out) (HQ.out.still HF.out) (by have := HN.out; omega) HRA.out).mono ?_
      rintro e wE ⟨rfl, hfE⟩
      have hfr := HF.out.then hfE
      clear hfE HF HHT HHB
      go_wp2_with fail
      go_ret2
      exact ⟨rfl, hfr⟩

set_option maxHeartbeats 8000000 in
set_option maxRecDepth 1000000 in
theorem Sum_badk (al : Option Addr) (n cl : Nat) (vs : List Value) (ln : List (List UInt8)) (bl : Option Addr) (dl : Nat) (us : List Value) (lp : List (List UInt8)) (w : World) (hv : Rd w al n vs) (hp : BParts w vs ln) (hu : Rd w bl n us) (hq : BParts w us lp) (hn : n ≤ 512) (hg : numsB mQ ln = false) :
    Calls Try.prog 25 #[.slice al n cl, .slice bl n dl] w fun e w' => e = .returned (.tuple #[.slice none 0 0, .int .i64 3]) ∧ Fr Nob w w' := by
  have HV := Lib.hid hv
  have HP := Lib.hid hp
  have HU := Lib.hid hu
  have HQ := Lib.hid hq
  have HL := Lib.hid (show ln.length = n by rw [← hp.1, hv.len])
  have HL2 := Lib.hid (show lp.length = n by rw [← hq.1, hu.len])
  have HN := Lib.hid hn
  have hnI : ¬ ((512 : Int) < (n : Int)) := by omega
  clear hv hp hu hq
  have HGA := Lib.hid hg
  clear hg hn
  have st0 := St.start Nob w
  go_enter Try.func25, Try.ntmps25
  go_wp2_with (with_reducible refine wl_stop (o := ⟨some 23, _, _, _, _, _⟩) ?_)
  refine wl_makeR rfl rfl Try.underlying94 info_term rfl (by decide) rfl rfl n n rfl rfl (Nat.le_refl _) (by have := HN.out; omega) (by have := HN.out; unfold maxLen; omega) ?_
  intro w1 hm hf
  rw [aK_zero n ln] at hm
  have st1 := st0.new hf hm (Nat.le_refl _)
  have hle : w.heap.size ≤ w.heap.size := Nat.le_refl _
  generalize hgT : w.heap.size = gT at st1 hle hm ⊢
  have HGS := Lib.hid hgT
  clear hgT hle hm hf st0
  go_wp2_with (with_reducible refine wl_stop (o := ⟨some 6, _, _, _, _, _⟩) ?_)
  refine wl_allocS st1 rfl rfl (z := .slice none 0 0) (by kernel_rfl) [.slice none 0 0] rfl ?_
  intro gb w2 st2
  clear st1
  obtain ⟨v6, c6, f6⟩ := (st2.at 1 rfl).ready (i := 0) (by decide)
  have st3 := st2.set 1 rfl 0 (.slice (some ⟨gT, 0, none⟩) n n)
  have st3 : St Nob w (w2.setCell ⟨gb, 0, none⟩ (.slice (some ⟨gT, 0, none⟩) n n)) [(gT, tmF n (aK ln (0)) (fun _ => cw 192 0), 98), (gb, [Value.slice (some ⟨gT, 0, none⟩) n n], 94)] := st3
  have ST3 := Lib.hid st3
  clear st2 st3
  go_wp2
  try clear c6 f6
  go_loopw [26] (fun i wr => ∃ k : Nat, k ≤ n ∧ i = .int .i64 (k : Int) ∧ numsB mQ (ln.take k) = true ∧ St Nob w wr [(gT, tmF n (aK ln (k)) (fun _ => cw 192 0), 98), (gb, [Value.slice (some ⟨gT, 0, none⟩) n n], 94)]) (fun i _ => n - (intOf i).toNat)
  case atStart => exact ⟨0, Nat.zero_le _, rfl, by rw [List.take_zero]; unfold numsB; rfl, ST3.out⟩
  case round =>
    obtain ⟨k, hk, rfl, hgood, st⟩ := hrel
    clear ST3
    by_cases hlt : k < n
    · have hltI : (k : Int) < (n : Int) := by omega
      have hk0 : (0 : Int) ≤ (k : Int) := by omega
      have hf := st.fr
      obtain ⟨b, o, rfl, hat⟩ := (HV.out.still hf).at (by omega)
      have hvl : k < vs.length := by rw [HV.out.len]; exact hlt
      obtain ⟨a, nn, c, hve, hcc, hrd⟩ := HP.out.2 k (vs[k]'hvl) (List.getElem?_eq_getElem hvl)
      have hc1 := hat k _ (List.getElem?_eq_getElem hvl)
      rw [hve] at hc1
      have hlk : k < ln.length := by rw [HL.out]; exact hlt
      have hts := numsB_take mQ ln k hlk
      have hbad := numsB_bad mQ ln k hlk
      generalize hLk : ln.getD k [] = l at *
      have HLL := Lib.hid hLk
      have HRD := Lib.hid (hrd.still hf)
      have HTS := Lib.hid hts
      have HBAD := Lib.hid hbad
      have HG := Lib.hid hgood
      have HLT := Lib.hid hlt
      clear hLk hrd hts hbad hgood hf hat hve hcc hlt hk
      rcases Bool.eq_false_or_eq_true (numB mQ l) with hh | hh
      · have HK := Lib.hid hh
        clear hh
        go_wp2_with fail
        refine (scalar_t HK.out a nn c _ (HRD.out)).mono ?_
        rintro e' w3 ⟨rfl, hf3⟩
        have st3 := st.keep hf3
        clear st hf3
        go_wp2_with (with_reducible refine wl_stop (o := ⟨some 9, _, _, _, _, _⟩) ?_)
        refine wl_allocS st3 rfl rfl (z := .agg #[.int .u64 0, .int .u64 0, .int .u64 0, .int .u64 0]) (by kernel_rfl) (cw 4 0) (by rw [cw_zero]; rfl) ?_
        intro g9 w4 st4
        clear st3
        go_wp2_with (with_reducible refine wl_stop (o := ⟨none, _, _, _, _, _⟩) ?_)
        refine wl_storeS st4 2 rfl rfl rfl rfl rfl (by first | (simp only [cw_len]; done) | (simp only [List.length_append, cw_len, PT.len, ptL_len]; done)) (by first | (rw [cw_len]; kernel_rfl) | (rw [PT.len]; kernel_rfl) | (rw [ptL_len]; kernel_rfl) | (simp only [List.length_append, cw_len]; kernel_rfl) | (simp only [List.length_append, cw_len, PT.len, ptL_len]; kernel_rfl)) (cw_one _ _) ?_
        intro w5 st5
        clear st4
        have hc6 := (st5.at 1 rfl).cell (show [Value.slice (some ⟨gT, 0, none⟩) n n][0]? = _ from rfl)
        go_wp2_with (with_reducible refine wl_stop (o := ⟨some 40, _, _, _, _, _⟩) ?_)
        refine wl_loadS st5 2 rfl rfl rfl Try.underlying82 rfl (by first | (rw [cw_len]; kernel_rfl) | (rw [PT.len]; kernel_rfl) | (rw [ptL_len]; kernel_rfl) | (simp only [List.length_append, cw_len]; kernel_rfl) | (simp only [List.length_append, cw_len, PT.len, ptL_len]; kernel_rfl)) ?_
        go_wp2_with (with_reducible refine wl_stop (o := ⟨none, _, _, _, _, _⟩) ?_)
        refine wl_storeP st5 0 rfl rfl rfl rfl rfl (tmF n (aK ln (k + 1)) (fun _ => cw 192 0)) (aK_set n ln k l HLL.out HLT.out) (by rw [tmF_lenC, cw_len]; have := HLT.out; omega) (by first | (rw [cw_len]; kernel_rfl) | (rw [PT.len]; kernel_rfl) | (rw [ptL_len]; kernel_rfl) | (simp only [List.length_append, cw_len]; kernel_rfl) | (simp only [List.length_append, cw_len, PT.len, ptL_len]; kernel_rfl)) (cw_one _ _) ?_
        intro w6 st6
        clear st5 hc6
        go_wp2_with fail
        go_roundw
        case rel => exact ⟨k + 1, by have := HLT.out; omega, by go_num, by rw [HTS.out, HG.out, HK.out]; rfl, St.less st6 (by simp)⟩
        case measure => have := HLT.out; simp [intOf]; omega
      · have HK := Lib.hid hh
        clear hh
        go_wp2_with fail
        refine (scalar_f HK.out a nn c _ (HRD.out)).mono ?_
        rintro e' w3 ⟨⟨N, rfl⟩, hf3⟩
        have st3 := st.keep hf3
        clear st hf3
        go_wp2_with (with_reducible refine wl_stop (o := ⟨some 9, _, _, _, _, _⟩) ?_)
        refine wl_allocS st3 rfl rfl (z := .agg #[.int .u64 0, .int .u64 0, .int .u64 0, .int .u64 0]) (by kernel_rfl) (cw 4 0) (by rw [cw_zero]; rfl) ?_
        intro g9 w4 st4
        clear st3
        go_wp2_with (with_reducible refine wl_stop (o := ⟨none, _, _, _, _, _⟩) ?_)
        refine wl_storeS st4 2 rfl rfl rfl rfl rfl (by first | (simp only [cw_len]; done) | (simp only [List.length_append, cw_len, PT.len, ptL_len]; done)) (by first | (rw [cw_len]; kernel_rfl) | (rw [PT.len]; kernel_rfl) | (rw [ptL_len]; kernel_rfl) | (simp only [List.length_append, cw_len]; kernel_rfl) | (simp only [List.length_append, cw_len, PT.len, ptL_len]; kernel_rfl)) (cw_one _ _) ?_
        intro w5 st5
        clear st4
        have hfr := st5.fr
        clear st5
        go_wp2_with fail
        go_ret2
        exact ⟨rfl, hfr⟩
    · exfalso
      have hkn : k = n := by omega
      rw [hkn] at hgood
      rw [List.take_of_length_le (by rw [HL.out]; exact Nat.le_refl _), HGA.out] at hgood
      cases hgood

set_option maxHeartbeats 8000000 in
set_option maxRecDepth 1000000 in
theorem Sum_form (al : Option Addr) (n cl : Nat) (bl : Option Addr) (m dl : Nat) (w : World) (h : n ≠ m) :
    Calls Try.prog 25 #[.slice al n cl, .slice bl m dl] w fun e w' => e = .returned (.tuple #[.slice none 0 0, .int .i64 2]) ∧ Fr Nob w w' := by
  have h1 : ((n : Int) != (m : Int)) = true := by simp; omega
  have h2 : (n != m) = true := by simpa using h
  go_enter Try.func25, Try.ntmps25
  go_wp2
  go_ret2
  exact ⟨rfl, Fr.refl _ _⟩
set_option maxHeartbeats 8000000 in
set_option maxRecDepth 1000000 in
theorem Sum_long (al : Option Addr) (n cl : Nat) (bl : Option Addr) (dl : Nat) (w : World) (h : 512 < n) :
    Calls Try.prog 25 #[.slice al n cl, .slice bl n dl] w fun e w' => e = .returned (.tuple #[.slice none 0 0, .int .i64 1]) ∧ Fr Nob w w' := by
  have h1 : (512 : Int) < (n : Int) := by omega
  go_enter Try.func25, Try.ntmps25
  go_wp2
  go_ret2
  exact ⟨rfl, Fr.refl _ _⟩
end Go.Proofs.Ytdbgddngapminaa

/- mintvaultref1.Still: is a list all as it was lent? -/
namespace Go.Proofs.Ytdbgddngapminaa
open Go.RowKit Go.Mv Mvp

end Go.Proofs.Ytdbgddngapminaa

/- The law NumReduces. -/
namespace Go.Proofs.Ytdbgddngapminaa
open Go.RowKit Go.Mv Mvp
attribute [local irreducible] limbs lw mix cw cSub cAdd cMul foldC valFrom beN laid be32 powm montT mstep elN mdL
end Go.Proofs.Ytdbgddngapminaa

/- The law NumReckons. -/
namespace Go.Proofs.Ytdbgddngapminaa
open Go.RowKit Go.Mv Mvp
theorem Number_t (m : Md) (hM : m.M < B64 ^ 4) (s : ByteArray) (w : World) (h : numB m s.data.toList = true) :
    Calls Try.prog 11 #[fv m.M, .string s] w fun e w' => e = .returned (.tuple #[i4 (beN s.data.toList), .bool true]) ∧ Fr Nob w w' := by
  unfold numB at h
  simp only [Bool.and_eq_true, decide_eq_true_eq] at h
  refine (Number_ok m.M s w (by have := h.1; simpa using this) hM).mono fun e w' he => ?_
  rw [decide_eq_true h.2] at he
  exact he
theorem Number_f (m : Md) (hM : m.M < B64 ^ 4) (s : ByteArray) (w : World) (h : numB m s.data.toList = false) :
    Calls Try.prog 11 #[fv m.M, .string s] w fun e w' => ∃ N, e = .returned (.tuple #[i4 N, .bool false]) ∧ Fr Nob w w' := by
  by_cases hs : s.size = 32
  · refine (Number_ok m.M s w hs hM).mono fun e w' he => ?_
    have h2 : ¬ beN s.data.toList < m.M := by
      intro hb
      unfold numB at h
      rw [decide_eq_true hb, decide_eq_true (by simpa using hs)] at h
      cases h
    rw [decide_eq_false h2] at he
    exact ⟨_, he⟩
  · exact (Number_bad m.M s w hs).mono fun e w' he => ⟨_, he⟩
attribute [local irreducible] limbs lw mix cw cSub cAdd cMul foldC valFrom beN laid be32 powm montT mstep elN mdL numB numsB
end Go.Proofs.Ytdbgddngapminaa

/- The reference's Sqrt. -/
namespace Mvp
theorem low_one (Q : Nat) (h : lw Q 0 + 1 < 18446744073709551616) : (limbs 4 Q).set 0 (lw Q 0 + 1) = limbs 4 (Q + 1) := by
  rw [limbs4, limbs4]
  have e0 : lw (Q + 1) 0 = lw Q 0 + 1 := by rw [word0] at h ⊢; rw [word0]; omega
  have e : (Q + 1) / 18446744073709551616 = Q / 18446744073709551616 := by rw [word0] at h; omega
  have ed : ∀ i, lw (Q + 1) (1 + i) = lw Q (1 + i) := by
    intro i
    rw [← lw_div, ← lw_div, Nat.pow_one, show B64 = 18446744073709551616 from rfl, e]
  have e1 := ed 0
  have e2 := ed 1
  have e3 := ed 2
  simp only [Nat.add_zero] at e1
  rw [e0, e1, show (2 : Nat) = 1 + 1 from rfl, show (3 : Nat) = 1 + 2 from rfl, e2, e3]
  rfl
theorem quarter_all (p : Nat) (h : p < B64 ^ 4) : p / 4 % 2 ^ 254 = p / 4 := Nat.mod_eq_of_lt (by
  rw [show B64 ^ 4 = 2 ^ 254 * 4 from rfl] at h
  generalize 2 ^ 254 = z at *
  omega)
end Mvp
namespace Go.Proofs.Ytdbgddngapminaa
open Go.RowKit Go.Mv Mvp
theorem bit_cell (q b k q' : Nat) (hb : b < 2) (hs : (limbs 4 q).set (k / 64) (lw q (k / 64) ||| b * 2 ^ (k % 64)) = limbs 4 q') :
    (cw 4 q).set (k / 64) (.int .u64 (bits .or .u64 (lw q (k / 64) : Nat) (IntKind.u64.wrap ((b : Int) * 2 ^ (k % 64))))) = cw 4 q' := by
  have h1 : b * 2 ^ (k % 64) < 18446744073709551616 := by
    have h2 : 2 ^ (k % 64) ≤ 2 ^ 63 := Nat.pow_le_pow_right (by decide) (by omega)
    have h3 := Nat.mul_le_mul_right (2 ^ (k % 64)) (show b ≤ 1 by omega)
    rw [Nat.one_mul] at h3
    have h4 : (2 : Nat) ^ 63 = 9223372036854775808 := by decide
    rw [h4] at h2
    generalize 2 ^ (k % 64) = z at *
    generalize b * z = y at *
    omega
  have h := bits_or_u64_nat (lw q (k / 64)) (b * 2 ^ (k % 64)) (lw_lt _ _) h1
  have hw : IntKind.u64.wrap ((b : Int) * 2 ^ (k % 64)) = ((b * 2 ^ (k % 64) : Nat) : Int) := by
    rw [show ((b : Int) * 2 ^ (k % 64)) = ((b * 2 ^ (k % 64) : Nat) : Int) by rw [Int.natCast_mul, Int.natCast_pow]; rfl, IntKind.wrap_u64]
    exact congrArg Int.ofNat (Nat.mod_eq_of_lt h1)
  rw [hw, h, cw, us_set, hs, cw]
theorem low_cells (Q : Nat) (h : lw Q 0 + 1 < 18446744073709551616) : (cw 4 Q).set 0 (.int .u64 ((lw Q 0 : Int) + 1)) = cw 4 (Q + 1) := by
  show (us (limbs 4 Q)).set 0 (.int .u64 ((lw Q 0 + 1 : Nat) : Int)) = us (limbs 4 (Q + 1))
  rw [us_set, low_one Q h]
theorem wp_neq4 (x y : Nat) (hx : x < B64 ^ 4) (hy : y < B64 ^ 4) (ty : TypeId) (hu : Try.prog.underlying ty = some (.array 4 22)) (hg : Try.prog.eqGuardType Try.prog.depth ty = false) {o : Oper} {a : Act} {w : World} {K : Act → World → Prop} {Q : Exit → Act → World → Prop} {p q : Operand} {T : TypeId}
    (ho : o.op = .binOp .neq ty p q T) (hp : a.eval p = i4 x) (hq : a.eval q = .agg (cw 4 y).toArray) {b : Bool} (hb : decide (x = y) = b) (hk : K (a.put o.dst (.bool !b)) w) : o.wp Try.prog a w K Q := by
  have h1 := eq_guard x y ty hg p q w
  have h2 : (binOp .neq ty (i4 x) (.agg (cw 4 y).toArray)).run Try.prog w = .ok (.bool !b) w := by
    show (do pure (Value.bool (!(← Op.equal ty (.agg (cw 4 x).toArray) (.agg (cw 4 y).toArray))))).run Try.prog w = _
    simp only [Sem.run_bind, run_eq4 hu Try.underlying22 size_u64 x y w, Result.andThen_ok]
    rw [Nat.mod_eq_of_lt hx, Nat.mod_eq_of_lt hy, hb]
    rfl
  unfold Oper.wp execOp
  simp only [ho, hp, hq, Sem.run_bind, h1, h2, Result.andThen_ok, Sem.run_pure]
  exact hk
attribute [local irreducible] limbs lw mix cw cSub cAdd cMul foldC valFrom beN laid be32 powm
set_option maxHeartbeats 4000000 in
set_option maxRecDepth 100000 in
theorem FSqrt_no (p a n R : Nat) (w : World) (hp0 : 0 < p) (hp : p < B64 ^ 4) (hn : p / 4 + 1 = n) (hn4 : n < B64 ^ 4) (ha : a < B64 ^ 4) (hlow : lw (p / 4) 0 + 1 < 18446744073709551616) (hR : R < p) (hpow : ∀ wx, Calls Try.prog 101 #[fv p, i4 a, i4 n] wx fun e w' => e = .returned (i4 R) ∧ Fr Nob wx w') (hb : decide (R * R % p = a) = false) :
    Calls Try.prog 80 #[fv p, i4 a] w fun e w' => e = .returned (.tuple #[i4 0, .bool false]) ∧ Fr Nob w w' := by
  have HP0 := Lib.hid hp0
  have HP := Lib.hid hp
  have HN4 := Lib.hid hn4
  have HA := Lib.hid ha
  have HLOW := Lib.hid hlow
  have HPOW := Lib.hid hpow
  have HB := Lib.hid hb
  have HR4 := Lib.hid (Nat.lt_trans hR hp)
  have HRP := Lib.hid (Nat.le_of_lt hR)
  have HRR := Lib.hid (show R * R % p < B64 ^ 4 from Nat.lt_trans (Nat.mod_lt _ hp0) hp)
  have hlc := low_cells (p / 4) hlow
  rw [hn] at hlc
  have HLC := Lib.hid hlc
  have HNE := Lib.hid hn
  
  clear hp0 hp hn4 ha hlow hpow hb hR hlc hn 
  have st0 := St.start Nob w
  go_enter Try.func80, Try.ntmps80
  go_wp2_with (with_reducible refine wl_stop (o := ⟨some 2, _, _, _, _, _⟩) ?_)
  refine wl_boxS st0 rfl rfl rfl (cw 4 p ++ cw 4 (B64 ^ 4 - p)) rfl ?_
  intro g2 w1 st1
  clear st0
  go_wp2_with (with_reducible refine wl_stop (o := ⟨some 3, _, _, _, _, _⟩) ?_)
  refine wl_boxS st1 rfl rfl rfl (cw 4 a) rfl ?_
  intro g3 w2 st2
  clear st1
  go_wp2_with (with_reducible refine wl_stop (o := ⟨some 4, _, _, _, _, _⟩) ?_)
  refine wl_allocS st2 rfl rfl (z := .agg #[.int .u64 0, .int .u64 0, .int .u64 0, .int .u64 0]) (by kernel_rfl) (cw 4 0) (by rw [cw_zero]; rfl) ?_
  intro g4 w3 st3
  clear st2
  go_wp2_with (with_reducible refine wl_stop (o := ⟨some 6, _, _, _, _, _⟩) ?_)
  refine wl_allocS st3 rfl rfl (z := .agg #[.int .u64 0, .int .u64 0, .int .u64 0, .int .u64 0]) (by kernel_rfl) (cw 4 0) (by rw [cw_zero]; rfl) ?_
  intro g6 w4 st4
  clear st3
  go_wp2
  go_loopw [7] (fun i wr => ∃ k : Nat, k ≤ 254 ∧ i = .int .i64 (k : Int) ∧ St Nob w wr [(g2, cw 4 p ++ cw 4 (B64 ^ 4 - p), 31), (g3, cw 4 a, 24), (g4, cw 4 0, 24), (g6, cw 4 (p / 4 % 2 ^ k), 24)]) (fun i _ => 254 - (intOf i).toNat)
  case atStart => exact ⟨0, by omega, rfl, by rw [Nat.pow_zero, Nat.mod_one]; exact st4⟩
  case round =>
    obtain ⟨k, hk, rfl, st⟩ := hrel
    clear st4
    by_cases hlt : k < 254
    · have hltI : (k : Int) < 254 := by omega
      have hstep := bit_step 4 (p / 4 % 2 ^ k) k (p / 2 ^ (k + 2) % 2) (Nat.mod_lt _ (Nat.pow_pos (by decide))) (Nat.mod_lt _ (by decide)) (by omega)
      rw [← quarter_step] at hstep
      have hbit := fun wx => RBit_any p (k + 2) wx (by omega)
      have hb2 : p / 2 ^ (k + 2) % 2 < 2 := Nat.mod_lt _ (by decide)
      generalize p / 2 ^ (k + 2) % 2 = b at *
      generalize hq' : p / 4 % 2 ^ (k + 1) = q' at *
      have HQ := Lib.hid hq'
      clear hq'
      generalize p / 4 % 2 ^ k = q at *
      have HCELL := Lib.hid (bit_cell q b k q' hb2 hstep)
      have HBIT := Lib.hid hbit
      clear hstep hbit hb2
      have hlo : (0 : Int) ≤ (k : Int) / 64 ∧ (k : Int) / 64 < 4 := by omega
      have hlo2 : (0 : Int) ≤ (k : Int) % 64 ∧ (k : Int) % 64 < 64 := by omega
      have e1 : IntKind.i64.wrap ((k : Int) / 64) = (k : Int) / 64 := IntWalk.i64_in _ (by omega)
      have e2 : (k : Int).tmod 64 = (k : Int) % 64 := Int.tmod_eq_emod_of_nonneg (by omega)
      have e3 : IntKind.i64.wrap ((k : Int) + 2) = (k : Int) + 2 := IntWalk.i64_in _ (by omega)
      have e4 : ((k : Int) / 64).toNat = k / 64 := by omega
      have e5 : ((k : Int) % 64).toNat = k % 64 := by omega
      go_wp2_with fail
      refine wp_region_noPanic ?_
      refine wp_region_plan (fun wx => St Nob w wx [(g2, cw 4 p ++ cw 4 (B64 ^ 4 - p), 31), (g3, cw 4 a, 24), (g4, cw 4 0, 24), (g6, cw 4 q, 24)]) 16 (.w 0 (.w 1 (.w 2 (.w 3 (.w 4 (.t 5 (.w 6 (.t 7 (.w 8 (.w 9 (.w 11 (.w 12 (.r 10 (.w 13 (.w 14 (.w 15 (.m 16 .nil))))))))))))))))) (by kernel_rfl) (by kernel_rfl) st.drew (fun _ _ _ _ _ h => h) ?_
      have hd4 := st.drew
      clear st
      refine plan_w (v := ?_) rfl rfl (fun wx => ?_) ?_
      rotate_left 1
      · (go_simp; with_reducible rfl)
      try simp only [Act.put, List.setIfInBounds_toArray, List.set_cons_zero, List.set_cons_succ]
      refine plan_w (v := ?_) rfl rfl (fun wx => ?_) ?_
      rotate_left 1
      · (go_simp; with_reducible rfl)
      try simp only [Act.put, List.setIfInBounds_toArray, List.set_cons_zero, List.set_cons_succ]
      refine plan_w (v := ?_) rfl rfl (fun wx => ?_) ?_
      rotate_left 1
      · (go_simp; with_reducible rfl)
      try simp only [Act.put, List.setIfInBounds_toArray, List.set_cons_zero, List.set_cons_succ]
      refine plan_w (v := ?_) rfl rfl (fun wx => ?_) ?_
      rotate_left 1
      · (go_simp; with_reducible rfl)
      try simp only [Act.put, List.setIfInBounds_toArray, List.set_cons_zero, List.set_cons_succ]
      refine plan_w (v := ?_) rfl rfl (fun wx => ?_) ?_
      rotate_left 1
      · (go_simp; with_reducible rfl)
      try simp only [Act.put, List.setIfInBounds_toArray, List.set_cons_zero, List.set_cons_succ]
      refine plan_t (v := ?_) rfl rfl (fun wx hS => ?_) ?_
      rotate_left 1
      · (have hc := (St.at hS 3 rfl).cell (cw_get 4 q (k / 64) (by omega)); clear hS; go_simp; with_reducible rfl)
      try simp only [Act.put, List.setIfInBounds_toArray, List.set_cons_zero, List.set_cons_succ]
      refine plan_w (v := ?_) rfl rfl (fun wx => ?_) ?_
      rotate_left 1
      · (go_simp; with_reducible rfl)
      try simp only [Act.put, List.setIfInBounds_toArray, List.set_cons_zero, List.set_cons_succ]
      refine plan_arr rfl rfl rfl rfl (cw 4 p) (fun wx hS => St.rangeL hS 0 rfl 0 _ (cw_left 4 4 _ _)) Try.underlying24 rfl (by first | (rw [cw_len]; kernel_rfl) | (simp only [List.length_append, cw_len]; kernel_rfl)) ?_
      try simp only [Act.put, List.setIfInBounds_toArray, List.set_cons_zero, List.set_cons_succ]
      refine plan_w (v := ?_) rfl rfl (fun wx => ?_) ?_
      rotate_left 1
      · (go_simp; with_reducible rfl)
      try simp only [Act.put, List.setIfInBounds_toArray, List.set_cons_zero, List.set_cons_succ]
      refine plan_w (v := ?_) rfl rfl (fun wx => ?_) ?_
      rotate_left 1
      · (go_simp; with_reducible rfl)
      try simp only [Act.put, List.setIfInBounds_toArray, List.set_cons_zero, List.set_cons_succ]
      refine plan_w (v := ?_) rfl rfl (fun wx => ?_) ?_
      rotate_left 1
      · (go_simp; with_reducible rfl)
      try simp only [Act.put, List.setIfInBounds_toArray, List.set_cons_zero, List.set_cons_succ]
      refine plan_w (v := ?_) rfl rfl (fun wx => ?_) ?_
      rotate_left 1
      · (go_simp; with_reducible rfl)
      try simp only [Act.put, List.setIfInBounds_toArray, List.set_cons_zero, List.set_cons_succ]
      refine plan_r rfl rfl ?_
      go_simp
      refine (HBIT.out _).mono ?_
      rintro e' w5 ⟨rfl, hf5⟩
      have st5 := hd4.keep hf5
      clear hf5
      clear hd4
      refine ⟨st5, ?_⟩
      try simp only [Act.put, List.setIfInBounds_toArray, List.set_cons_zero, List.set_cons_succ]
      refine plan_w (v := ?_) rfl rfl (fun wx => ?_) ?_
      rotate_left 1
      · (go_simp; with_reducible rfl)
      try simp only [Act.put, List.setIfInBounds_toArray, List.set_cons_zero, List.set_cons_succ]
      refine plan_w (v := ?_) rfl rfl (fun wx => ?_) ?_
      rotate_left 1
      · (go_simp; with_reducible rfl)
      try simp only [Act.put, List.setIfInBounds_toArray, List.set_cons_zero, List.set_cons_succ]
      refine plan_w (v := ?_) rfl rfl (fun wx => ?_) ?_
      rotate_left 1
      · (go_simp; with_reducible rfl)
      try simp only [Act.put, List.setIfInBounds_toArray, List.set_cons_zero, List.set_cons_succ]
      refine plan_m rfl rfl ?_
      have f1 := (st5.at 3 rfl).free (k / 64) (by rw [cw_len]; omega)
      have c1 := (st5.at 3 rfl).cell (cw_get 4 q (k / 64) (by omega))
      go_simp
      have st6 := st5.set 3 rfl (k / 64) (.int .u64 (bits .or .u64 (lw q (k / 64) : Nat) (IntKind.u64.wrap ((b : Int) * 2 ^ (k % 64)))))
      simp only [List.set_cons_zero, List.set_cons_succ] at st6
      rw [HCELL.out] at st6
      clear f1 c1 st5
      try simp only [Act.put, List.setIfInBounds_toArray, List.set_cons_zero, List.set_cons_succ]
      refine plan_end ?_
      refine NoPanic.normal ?_
      go_wp2
      go_roundw
      case rel => exact ⟨k + 1, by omega, by go_num, by rw [HQ.out]; exact st6⟩
      case measure => simp [intOf]; omega
    · have hge : ¬ ((k : Int) < 254) := by omega
      have hk2 : k = 254 := by omega
      rw [hk2, quarter_all p HP.out] at st
      clear hk2
      generalize p / 4 = Q at *
      have c1 := (st.at 3 rfl).cell (cw_get 4 Q 0 (by decide))
      have f1 := (st.at 3 rfl).free 0 (by rw [cw_len]; decide)
      have st9 := st.set 3 rfl 0 (.int .u64 ((lw Q 0 : Int) + 1))
      have hlow := HLOW.out
      have e1 : IntKind.u64.wrap ((lw Q 0 : Int) + 1) = (lw Q 0 : Int) + 1 := IntWalk.u64_in _ (by omega)
      clear st
      go_wp2_with (with_reducible refine wl_stop (o := ⟨some 33, _, _, _, _, _⟩) ?_)
      simp only [List.set_cons_zero, List.set_cons_succ] at st9
      rw [HLC.out] at st9
      clear c1 f1 hlow e1
      refine wl_loadSt st9 0 rfl rfl rfl Try.underlying31 rfl rfl (by first | (rw [cw_len]; kernel_rfl) | (simp only [List.length_append, cw_len]; kernel_rfl)) ?_
      go_wp2_with (with_reducible refine wl_stop (o := ⟨some 34, _, _, _, _, _⟩) ?_)
      refine wl_loadS st9 1 rfl rfl rfl Try.underlying24 rfl (by first | (rw [cw_len]; kernel_rfl) | (simp only [List.length_append, cw_len]; kernel_rfl)) ?_
      go_wp2_with (with_reducible refine wl_stop (o := ⟨some 35, _, _, _, _, _⟩) ?_)
      refine wl_loadS st9 3 rfl rfl rfl Try.underlying24 rfl (by first | (rw [cw_len]; kernel_rfl) | (simp only [List.length_append, cw_len]; kernel_rfl)) ?_
      go_wp2_with fail
      refine (HPOW.out _).mono ?_
      rintro e' w10 ⟨rfl, hf10⟩
      have st10 := st9.keep hf10
      clear st9 hf10
      go_wp2_with (with_reducible refine wl_stop (o := ⟨some 8, _, _, _, _, _⟩) ?_)
      refine wl_allocS st10 rfl rfl (z := .agg #[.int .u64 0, .int .u64 0, .int .u64 0, .int .u64 0]) (by kernel_rfl) (cw 4 0) (by rw [cw_zero]; rfl) ?_
      intro g8 w11 st11
      clear st10
      go_wp2_with (with_reducible refine wl_stop (o := ⟨none, _, _, _, _, _⟩) ?_)
      refine wl_storeS st11 4 rfl rfl rfl rfl rfl (by first | (simp only [cw_len]; done) | (simp only [List.length_append, cw_len]; done)) (by first | (rw [cw_len]; kernel_rfl) | (simp only [List.length_append, cw_len]; kernel_rfl)) (cw_one _ _) ?_
      intro w12 st12
      clear st11
      go_wp2_with fail
      refine wp_region_noPanic ?_
      refine wp_region_plan (fun wx => St Nob w wx [(g2, cw 4 p ++ cw 4 (B64 ^ 4 - p), 31), (g3, cw 4 a, 24), (g4, cw 4 0, 24), (g6, cw 4 n, 24), (g8, cw 4 R, 24)]) 5 (.t 0 (.t 1 (.t 2 (.t 4 (.r 3 (.m 5 .nil)))))) (by kernel_rfl) (by kernel_rfl) st12.drew (fun _ _ _ _ _ h => h) ?_
      have hd12 := st12.drew
      clear st12
      refine plan_arr rfl rfl rfl rfl (cw 4 p ++ cw 4 (B64 ^ 4 - p)) (fun wx hS => St.rangeL hS 0 rfl 0 _ (by rw [List.drop_zero, List.take_of_length_le (Nat.le_refl _)])) Try.underlying31 rfl (by first | (rw [cw_len]; kernel_rfl) | (simp only [List.length_append, cw_len]; kernel_rfl)) ?_
      try simp only [Act.put, List.setIfInBounds_toArray, List.set_cons_zero, List.set_cons_succ]
      refine plan_arr rfl rfl rfl rfl (cw 4 R) (fun wx hS => St.rangeL hS 4 rfl 0 _ (by rw [List.drop_zero, List.take_of_length_le (Nat.le_refl _)])) Try.underlying24 rfl (by first | (rw [cw_len]; kernel_rfl) | (simp only [List.length_append, cw_len]; kernel_rfl)) ?_
      try simp only [Act.put, List.setIfInBounds_toArray, List.set_cons_zero, List.set_cons_succ]
      refine plan_arr rfl rfl rfl rfl (cw 4 R) (fun wx hS => St.rangeL hS 4 rfl 0 _ (by rw [List.drop_zero, List.take_of_length_le (Nat.le_refl _)])) Try.underlying24 rfl (by first | (rw [cw_len]; kernel_rfl) | (simp only [List.length_append, cw_len]; kernel_rfl)) ?_
      try simp only [Act.put, List.setIfInBounds_toArray, List.set_cons_zero, List.set_cons_succ]
      refine plan_arr rfl rfl rfl rfl (cw 4 a) (fun wx hS => St.rangeL hS 1 rfl 0 _ (by rw [List.drop_zero, List.take_of_length_le (Nat.le_refl _)])) Try.underlying24 rfl (by first | (rw [cw_len]; kernel_rfl) | (simp only [List.length_append, cw_len]; kernel_rfl)) ?_
      try simp only [Act.put, List.setIfInBounds_toArray, List.set_cons_zero, List.set_cons_succ]
      refine plan_r rfl rfl ?_
      go_simp
      refine (Mul_any p R R _ HP0.out HP.out HR4.out HR4.out).mono ?_
      rintro e' w13 ⟨rfl, hf13⟩
      have st13 := hd12.keep hf13
      clear hf13
      clear hd12
      refine ⟨st13, ?_⟩
      try simp only [Act.put, List.setIfInBounds_toArray, List.set_cons_zero, List.set_cons_succ]
      refine plan_m rfl rfl ?_
      refine wp_neq4 (R * R % p) a HRR.out HA.out 24 Try.underlying24 Try.eqGuardType24 rfl rfl rfl HB.out ?_
      try simp only [Act.put, List.setIfInBounds_toArray, List.set_cons_zero, List.set_cons_succ]
      refine plan_end ?_
      refine NoPanic.normal ?_
      go_wp2_with (with_reducible refine wl_stop (o := ⟨none, _, _, _, _, _⟩) ?_)
      refine wl_storeS st13 2 rfl rfl rfl rfl (cs := cw 4 0) (by rw [cw_zero]; rfl) (by first | (simp only [cw_len]; done) | (simp only [List.length_append, cw_len]; done)) (by first | (rw [cw_len]; kernel_rfl) | (simp only [List.length_append, cw_len]; kernel_rfl)) (cw_one _ _) ?_
      intro w14 st14
      clear st13
      have hr := st14.at 2 rfl
      have hfr := st14.fr
      clear st14
      go_wp2_with fail
      exact bodyPost_ret (results_arr2 rfl rfl hr Try.underlying24 (by first | (rw [cw_len]; kernel_rfl) | (simp only [List.length_append, cw_len]; kernel_rfl)) rfl) rfl ⟨rfl, hfr⟩

set_option maxHeartbeats 4000000 in
set_option maxRecDepth 100000 in
theorem FSqrt_even (p a n R : Nat) (w : World) (hp0 : 0 < p) (hp : p < B64 ^ 4) (hn : p / 4 + 1 = n) (hn4 : n < B64 ^ 4) (ha : a < B64 ^ 4) (hlow : lw (p / 4) 0 + 1 < 18446744073709551616) (hR : R < p) (hpow : ∀ wx, Calls Try.prog 101 #[fv p, i4 a, i4 n] wx fun e w' => e = .returned (i4 R) ∧ Fr Nob wx w') (hb : decide (R * R % p = a) = true) (hpar : R % 2 = 0) :
    Calls Try.prog 80 #[fv p, i4 a] w fun e w' => e = .returned (.tuple #[i4 R, .bool true]) ∧ Fr Nob w w' := by
  have HP0 := Lib.hid hp0
  have HP := Lib.hid hp
  have HN4 := Lib.hid hn4
  have HA := Lib.hid ha
  have HLOW := Lib.hid hlow
  have HPOW := Lib.hid hpow
  have HB := Lib.hid hb
  have HR4 := Lib.hid (Nat.lt_trans hR hp)
  have HRP := Lib.hid (Nat.le_of_lt hR)
  have HRR := Lib.hid (show R * R % p < B64 ^ 4 from Nat.lt_trans (Nat.mod_lt _ hp0) hp)
  have hlc := low_cells (p / 4) hlow
  rw [hn] at hlc
  have HLC := Lib.hid hlc
  have HNE := Lib.hid hn
  have HPAR := Lib.hid hpar
  clear hp0 hp hn4 ha hlow hpow hb hR hlc hn hpar
  have st0 := St.start Nob w
  go_enter Try.func80, Try.ntmps80
  go_wp2_with (with_reducible refine wl_stop (o := ⟨some 2, _, _, _, _, _⟩) ?_)
  refine wl_boxS st0 rfl rfl rfl (cw 4 p ++ cw 4 (B64 ^ 4 - p)) rfl ?_
  intro g2 w1 st1
  clear st0
  go_wp2_with (with_reducible refine wl_stop (o := ⟨some 3, _, _, _, _, _⟩) ?_)
  refine wl_boxS st1 rfl rfl rfl (cw 4 a) rfl ?_
  intro g3 w2 st2
  clear st1
  go_wp2_with (with_reducible refine wl_stop (o := ⟨some 4, _, _, _, _, _⟩) ?_)
  refine wl_allocS st2 rfl rfl (z := .agg #[.int .u64 0, .int .u64 0, .int .u64 0, .int .u64 0]) (by kernel_rfl) (cw 4 0) (by rw [cw_zero]; rfl) ?_
  intro g4 w3 st3
  clear st2
  go_wp2_with (with_reducible refine wl_stop (o := ⟨some 6, _, _, _, _, _⟩) ?_)
  refine wl_allocS st3 rfl rfl (z := .agg #[.int .u64 0, .int .u64 0, .int .u64 0, .int .u64 0]) (by kernel_rfl) (cw 4 0) (by rw [cw_zero]; rfl) ?_
  intro g6 w4 st4
  clear st3
  go_wp2
  go_loopw [7] (fun i wr => ∃ k : Nat, k ≤ 254 ∧ i = .int .i64 (k : Int) ∧ St Nob w wr [(g2, cw 4 p ++ cw 4 (B64 ^ 4 - p), 31), (g3, cw 4 a, 24), (g4, cw 4 0, 24), (g6, cw 4 (p / 4 % 2 ^ k), 24)]) (fun i _ => 254 - (intOf i).toNat)
  case atStart => exact ⟨0, by omega, rfl, by rw [Nat.pow_zero, Nat.mod_one]; exact st4⟩
  case round =>
    obtain ⟨k, hk, rfl, st⟩ := hrel
    clear st4
    by_cases hlt : k < 254
    · have hltI : (k : Int) < 254 := by omega
      have hstep := bit_step 4 (p / 4 % 2 ^ k) k (p / 2 ^ (k + 2) % 2) (Nat.mod_lt _ (Nat.pow_pos (by decide))) (Nat.mod_lt _ (by decide)) (by omega)
      rw [← quarter_step] at hstep
      have hbit := fun wx => RBit_any p (k + 2) wx (by omega)
      have hb2 : p / 2 ^ (k + 2) % 2 < 2 := Nat.mod_lt _ (by decide)
      generalize p / 2 ^ (k + 2) % 2 = b at *
      generalize hq' : p / 4 % 2 ^ (k + 1) = q' at *
      have HQ := Lib.hid hq'
      clear hq'
      generalize p / 4 % 2 ^ k = q at *
      have HCELL := Lib.hid (bit_cell q b k q' hb2 hstep)
      have HBIT := Lib.hid hbit
      clear hstep hbit hb2
      have hlo : (0 : Int) ≤ (k : Int) / 64 ∧ (k : Int) / 64 < 4 := by omega
      have hlo2 : (0 : Int) ≤ (k : Int) % 64 ∧ (k : Int) % 64 < 64 := by omega
      have e1 : IntKind.i64.wrap ((k : Int) / 64) = (k : Int) / 64 := IntWalk.i64_in _ (by omega)
      have e2 : (k : Int).tmod 64 = (k : Int) % 64 := Int.tmod_eq_emod_of_nonneg (by omega)
      have e3 : IntKind.i64.wrap ((k : Int) + 2) = (k : Int) + 2 := IntWalk.i64_in _ (by omega)
      have e4 : ((k : Int) / 64).toNat = k / 64 := by omega
      have e5 : ((k : Int) % 64).toNat = k % 64 := by omega
      go_wp2_with fail
      refine wp_region_noPanic ?_
      refine wp_region_plan (fun wx => St Nob w wx [(g2, cw 4 p ++ cw 4 (B64 ^ 4 - p), 31), (g3, cw 4 a, 24), (g4, cw 4 0, 24), (g6, cw 4 q, 24)]) 16 (.w 0 (.w 1 (.w 2 (.w 3 (.w 4 (.t 5 (.w 6 (.t 7 (.w 8 (.w 9 (.w 11 (.w 12 (.r 10 (.w 13 (.w 14 (.w 15 (.m 16 .nil))))))))))))))))) (by kernel_rfl) (by kernel_rfl) st.drew (fun _ _ _ _ _ h => h) ?_
      have hd4 := st.drew
      clear st
      refine plan_w (v := ?_) rfl rfl (fun wx => ?_) ?_
      rotate_left 1
      · (go_simp; with_reducible rfl)
      try simp only [Act.put, List.setIfInBounds_toArray, List.set_cons_zero, List.set_cons_succ]
      refine plan_w (v := ?_) rfl rfl (fun wx => ?_) ?_
      rotate_left 1
      · (go_simp; with_reducible rfl)
      try simp only [Act.put, List.setIfInBounds_toArray, List.set_cons_zero, List.set_cons_succ]
      refine plan_w (v := ?_) rfl rfl (fun wx => ?_) ?_
      rotate_left 1
      · (go_simp; with_reducible rfl)
      try simp only [Act.put, List.setIfInBounds_toArray, List.set_cons_zero, List.set_cons_succ]
      refine plan_w (v := ?_) rfl rfl (fun wx => ?_) ?_
      rotate_left 1
      · (go_simp; with_reducible rfl)
      try simp only [Act.put, List.setIfInBounds_toArray, List.set_cons_zero, List.set_cons_succ]
      refine plan_w (v := ?_) rfl rfl (fun wx => ?_) ?_
      rotate_left 1
      · (go_simp; with_reducible rfl)
      try simp only [Act.put, List.setIfInBounds_toArray, List.set_cons_zero, List.set_cons_succ]
      refine plan_t (v := ?_) rfl rfl (fun wx hS => ?_) ?_
      rotate_left 1
      · (have hc := (St.at hS 3 rfl).cell (cw_get 4 q (k / 64) (by omega)); clear hS; go_simp; with_reducible rfl)
      try simp only [Act.put, List.setIfInBounds_toArray, List.set_cons_zero, List.set_cons_succ]
      refine plan_w (v := ?_) rfl rfl (fun wx => ?_) ?_
      rotate_left 1
      · (go_simp; with_reducible rfl)
      try simp only [Act.put, List.setIfInBounds_toArray, List.set_cons_zero, List.set_cons_succ]
      refine plan_arr rfl rfl rfl rfl (cw 4 p) (fun wx hS => St.rangeL hS 0 rfl 0 _ (cw_left 4 4 _ _)) Try.underlying24 rfl (by first | (rw [cw_len]; kernel_rfl) | (simp only [List.length_append, cw_len]; kernel_rfl)) ?_
      try simp only [Act.put, List.setIfInBounds_toArray, List.set_cons_zero, List.set_cons_succ]
      refine plan_w (v := ?_) rfl rfl (fun wx => ?_) ?_
      rotate_left 1
      · (go_simp; with_reducible rfl)
      try simp only [Act.put, List.setIfInBounds_toArray, List.set_cons_zero, List.set_cons_succ]
      refine plan_w (v := ?_) rfl rfl (fun wx => ?_) ?_
      rotate_left 1
      · (go_simp; with_reducible rfl)
      try simp only [Act.put, List.setIfInBounds_toArray, List.set_cons_zero, List.set_cons_succ]
      refine plan_w (v := ?_) rfl rfl (fun wx => ?_) ?_
      rotate_left 1
      · (go_simp; with_reducible rfl)
      try simp only [Act.put, List.setIfInBounds_toArray, List.set_cons_zero, List.set_cons_succ]
      refine plan_w (v := ?_) rfl rfl (fun wx => ?_) ?_
      rotate_left 1
      · (go_simp; with_reducible rfl)
      try simp only [Act.put, List.setIfInBounds_toArray, List.set_cons_zero, List.set_cons_succ]
      refine plan_r rfl rfl ?_
      go_simp
      refine (HBIT.out _).mono ?_
      rintro e' w5 ⟨rfl, hf5⟩
      have st5 := hd4.keep hf5
      clear hf5
      clear hd4
      refine ⟨st5, ?_⟩
      try simp only [Act.put, List.setIfInBounds_toArray, List.set_cons_zero, List.set_cons_succ]
      refine plan_w (v := ?_) rfl rfl (fun wx => ?_) ?_
      rotate_left 1
      · (go_simp; with_reducible rfl)
      try simp only [Act.put, List.setIfInBounds_toArray, List.set_cons_zero, List.set_cons_succ]
      refine plan_w (v := ?_) rfl rfl (fun wx => ?_) ?_
      rotate_left 1
      · (go_simp; with_reducible rfl)
      try simp only [Act.put, List.setIfInBounds_toArray, List.set_cons_zero, List.set_cons_succ]
      refine plan_w (v := ?_) rfl rfl (fun wx => ?_) ?_
      rotate_left 1
      · (go_simp; with_reducible rfl)
      try simp only [Act.put, List.setIfInBounds_toArray, List.set_cons_zero, List.set_cons_succ]
      refine plan_m rfl rfl ?_
      have f1 := (st5.at 3 rfl).free (k / 64) (by rw [cw_len]; omega)
      have c1 := (st5.at 3 rfl).cell (cw_get 4 q (k / 64) (by omega))
      go_simp
      have st6 := st5.set 3 rfl (k / 64) (.int .u64 (bits .or .u64 (lw q (k / 64) : Nat) (IntKind.u64.wrap ((b : Int) * 2 ^ (k % 64)))))
      simp only [List.set_cons_zero, List.set_cons_succ] at st6
      rw [HCELL.out] at st6
      clear f1 c1 st5
      try simp only [Act.put, List.setIfInBounds_toArray, List.set_cons_zero, List.set_cons_succ]
      refine plan_end ?_
      refine NoPanic.normal ?_
      go_wp2
      go_roundw
      case rel => exact ⟨k + 1, by omega, by go_num, by rw [HQ.out]; exact st6⟩
      case measure => simp [intOf]; omega
    · have hge : ¬ ((k : Int) < 254) := by omega
      have hk2 : k = 254 := by omega
      rw [hk2, quarter_all p HP.out] at st
      clear hk2
      generalize p / 4 = Q at *
      have c1 := (st.at 3 rfl).cell (cw_get 4 Q 0 (by decide))
      have f1 := (st.at 3 rfl).free 0 (by rw [cw_len]; decide)
      have st9 := st.set 3 rfl 0 (.int .u64 ((lw Q 0 : Int) + 1))
      have hlow := HLOW.out
      have e1 : IntKind.u64.wrap ((lw Q 0 : Int) + 1) = (lw Q 0 : Int) + 1 := IntWalk.u64_in _ (by omega)
      clear st
      go_wp2_with (with_reducible refine wl_stop (o := ⟨some 33, _, _, _, _, _⟩) ?_)
      simp only [List.set_cons_zero, List.set_cons_succ] at st9
      rw [HLC.out] at st9
      clear c1 f1 hlow e1
      refine wl_loadSt st9 0 rfl rfl rfl Try.underlying31 rfl rfl (by first | (rw [cw_len]; kernel_rfl) | (simp only [List.length_append, cw_len]; kernel_rfl)) ?_
      go_wp2_with (with_reducible refine wl_stop (o := ⟨some 34, _, _, _, _, _⟩) ?_)
      refine wl_loadS st9 1 rfl rfl rfl Try.underlying24 rfl (by first | (rw [cw_len]; kernel_rfl) | (simp only [List.length_append, cw_len]; kernel_rfl)) ?_
      go_wp2_with (with_reducible refine wl_stop (o := ⟨some 35, _, _, _, _, _⟩) ?_)
      refine wl_loadS st9 3 rfl rfl rfl Try.underlying24 rfl (by first | (rw [cw_len]; kernel_rfl) | (simp only [List.length_append, cw_len]; kernel_rfl)) ?_
      go_wp2_with fail
      refine (HPOW.out _).mono ?_
      rintro e' w10 ⟨rfl, hf10⟩
      have st10 := st9.keep hf10
      clear st9 hf10
      go_wp2_with (with_reducible refine wl_stop (o := ⟨some 8, _, _, _, _, _⟩) ?_)
      refine wl_allocS st10 rfl rfl (z := .agg #[.int .u64 0, .int .u64 0, .int .u64 0, .int .u64 0]) (by kernel_rfl) (cw 4 0) (by rw [cw_zero]; rfl) ?_
      intro g8 w11 st11
      clear st10
      go_wp2_with (with_reducible refine wl_stop (o := ⟨none, _, _, _, _, _⟩) ?_)
      refine wl_storeS st11 4 rfl rfl rfl rfl rfl (by first | (simp only [cw_len]; done) | (simp only [List.length_append, cw_len]; done)) (by first | (rw [cw_len]; kernel_rfl) | (simp only [List.length_append, cw_len]; kernel_rfl)) (cw_one _ _) ?_
      intro w12 st12
      clear st11
      go_wp2_with fail
      refine wp_region_noPanic ?_
      refine wp_region_plan (fun wx => St Nob w wx [(g2, cw 4 p ++ cw 4 (B64 ^ 4 - p), 31), (g3, cw 4 a, 24), (g4, cw 4 0, 24), (g6, cw 4 n, 24), (g8, cw 4 R, 24)]) 5 (.t 0 (.t 1 (.t 2 (.t 4 (.r 3 (.m 5 .nil)))))) (by kernel_rfl) (by kernel_rfl) st12.drew (fun _ _ _ _ _ h => h) ?_
      have hd12 := st12.drew
      clear st12
      refine plan_arr rfl rfl rfl rfl (cw 4 p ++ cw 4 (B64 ^ 4 - p)) (fun wx hS => St.rangeL hS 0 rfl 0 _ (by rw [List.drop_zero, List.take_of_length_le (Nat.le_refl _)])) Try.underlying31 rfl (by first | (rw [cw_len]; kernel_rfl) | (simp only [List.length_append, cw_len]; kernel_rfl)) ?_
      try simp only [Act.put, List.setIfInBounds_toArray, List.set_cons_zero, List.set_cons_succ]
      refine plan_arr rfl rfl rfl rfl (cw 4 R) (fun wx hS => St.rangeL hS 4 rfl 0 _ (by rw [List.drop_zero, List.take_of_length_le (Nat.le_refl _)])) Try.underlying24 rfl (by first | (rw [cw_len]; kernel_rfl) | (simp only [List.length_append, cw_len]; kernel_rfl)) ?_
      try simp only [Act.put, List.setIfInBounds_toArray, List.set_cons_zero, List.set_cons_succ]
      refine plan_arr rfl rfl rfl rfl (cw 4 R) (fun wx hS => St.rangeL hS 4 rfl 0 _ (by rw [List.drop_zero, List.take_of_length_le (Nat.le_refl _)])) Try.underlying24 rfl (by first | (rw [cw_len]; kernel_rfl) | (simp only [List.length_append, cw_len]; kernel_rfl)) ?_
      try simp only [Act.put, List.setIfInBounds_toArray, List.set_cons_zero, List.set_cons_succ]
      refine plan_arr rfl rfl rfl rfl (cw 4 a) (fun wx hS => St.rangeL hS 1 rfl 0 _ (by rw [List.drop_zero, List.take_of_length_le (Nat.le_refl _)])) Try.underlying24 rfl (by first | (rw [cw_len]; kernel_rfl) | (simp only [List.length_append, cw_len]; kernel_rfl)) ?_
      try simp only [Act.put, List.setIfInBounds_toArray, List.set_cons_zero, List.set_cons_succ]
      refine plan_r rfl rfl ?_
      go_simp
      refine (Mul_any p R R _ HP0.out HP.out HR4.out HR4.out).mono ?_
      rintro e' w13 ⟨rfl, hf13⟩
      have st13 := hd12.keep hf13
      clear hf13
      clear hd12
      refine ⟨st13, ?_⟩
      try simp only [Act.put, List.setIfInBounds_toArray, List.set_cons_zero, List.set_cons_succ]
      refine plan_m rfl rfl ?_
      refine wp_neq4 (R * R % p) a HRR.out HA.out 24 Try.underlying24 Try.eqGuardType24 rfl rfl rfl HB.out ?_
      try simp only [Act.put, List.setIfInBounds_toArray, List.set_cons_zero, List.set_cons_succ]
      refine plan_end ?_
      refine NoPanic.normal ?_
      have c1 := (st13.at 4 rfl).cell (cw_get 4 R 0 (by decide))
      have hla := low_and R
      rw [HPAR.out] at hla
      go_wp2_with (with_reducible refine wl_stop (o := ⟨some 51, _, _, _, _, _⟩) ?_)
      refine wl_loadS st13 4 rfl rfl rfl Try.underlying24 rfl (by first | (rw [cw_len]; kernel_rfl) | (simp only [List.length_append, cw_len]; kernel_rfl)) ?_
      go_wp2_with (with_reducible refine wl_stop (o := ⟨none, _, _, _, _, _⟩) ?_)
      refine wl_storeS st13 2 rfl rfl rfl rfl rfl (by first | (simp only [cw_len]; done) | (simp only [List.length_append, cw_len]; done)) (by first | (rw [cw_len]; kernel_rfl) | (simp only [List.length_append, cw_len]; kernel_rfl)) (cw_one _ _) ?_
      intro w14 st14
      clear st13
      have hr := st14.at 2 rfl
      have hfr := st14.fr
      clear st14
      go_wp2_with fail
      exact bodyPost_ret (results_arr2 rfl rfl hr Try.underlying24 (by first | (rw [cw_len]; kernel_rfl) | (simp only [List.length_append, cw_len]; kernel_rfl)) rfl) rfl ⟨rfl, hfr⟩

set_option maxHeartbeats 4000000 in
set_option maxRecDepth 100000 in
theorem FSqrt_odd (p a n R : Nat) (w : World) (hp0 : 0 < p) (hp : p < B64 ^ 4) (hn : p / 4 + 1 = n) (hn4 : n < B64 ^ 4) (ha : a < B64 ^ 4) (hlow : lw (p / 4) 0 + 1 < 18446744073709551616) (hR : R < p) (hpow : ∀ wx, Calls Try.prog 101 #[fv p, i4 a, i4 n] wx fun e w' => e = .returned (i4 R) ∧ Fr Nob wx w') (hb : decide (R * R % p = a) = true) (hpar : R % 2 = 1) :
    Calls Try.prog 80 #[fv p, i4 a] w fun e w' => e = .returned (.tuple #[i4 ((p - R) % p), .bool true]) ∧ Fr Nob w w' := by
  have HP0 := Lib.hid hp0
  have HP := Lib.hid hp
  have HN4 := Lib.hid hn4
  have HA := Lib.hid ha
  have HLOW := Lib.hid hlow
  have HPOW := Lib.hid hpow
  have HB := Lib.hid hb
  have HR4 := Lib.hid (Nat.lt_trans hR hp)
  have HRP := Lib.hid (Nat.le_of_lt hR)
  have HRR := Lib.hid (show R * R % p < B64 ^ 4 from Nat.lt_trans (Nat.mod_lt _ hp0) hp)
  have hlc := low_cells (p / 4) hlow
  rw [hn] at hlc
  have HLC := Lib.hid hlc
  have HNE := Lib.hid hn
  have HPAR := Lib.hid hpar
  clear hp0 hp hn4 ha hlow hpow hb hR hlc hn hpar
  have st0 := St.start Nob w
  go_enter Try.func80, Try.ntmps80
  go_wp2_with (with_reducible refine wl_stop (o := ⟨some 2, _, _, _, _, _⟩) ?_)
  refine wl_boxS st0 rfl rfl rfl (cw 4 p ++ cw 4 (B64 ^ 4 - p)) rfl ?_
  intro g2 w1 st1
  clear st0
  go_wp2_with (with_reducible refine wl_stop (o := ⟨some 3, _, _, _, _, _⟩) ?_)
  refine wl_boxS st1 rfl rfl rfl (cw 4 a) rfl ?_
  intro g3 w2 st2
  clear st1
  go_wp2_with (with_reducible refine wl_stop (o := ⟨some 4, _, _, _, _, _⟩) ?_)
  refine wl_allocS st2 rfl rfl (z := .agg #[.int .u64 0, .int .u64 0, .int .u64 0, .int .u64 0]) (by kernel_rfl) (cw 4 0) (by rw [cw_zero]; rfl) ?_
  intro g4 w3 st3
  clear st2
  go_wp2_with (with_reducible refine wl_stop (o := ⟨some 6, _, _, _, _, _⟩) ?_)
  refine wl_allocS st3 rfl rfl (z := .agg #[.int .u64 0, .int .u64 0, .int .u64 0, .int .u64 0]) (by kernel_rfl) (cw 4 0) (by rw [cw_zero]; rfl) ?_
  intro g6 w4 st4
  clear st3
  go_wp2
  go_loopw [7] (fun i wr => ∃ k : Nat, k ≤ 254 ∧ i = .int .i64 (k : Int) ∧ St Nob w wr [(g2, cw 4 p ++ cw 4 (B64 ^ 4 - p), 31), (g3, cw 4 a, 24), (g4, cw 4 0, 24), (g6, cw 4 (p / 4 % 2 ^ k), 24)]) (fun i _ => 254 - (intOf i).toNat)
  case atStart => exact ⟨0, by omega, rfl, by rw [Nat.pow_zero, Nat.mod_one]; exact st4⟩
  case round =>
    obtain ⟨k, hk, rfl, st⟩ := hrel
    clear st4
    by_cases hlt : k < 254
    · have hltI : (k : Int) < 254 := by omega
      have hstep := bit_step 4 (p / 4 % 2 ^ k) k (p / 2 ^ (k + 2) % 2) (Nat.mod_lt _ (Nat.pow_pos (by decide))) (Nat.mod_lt _ (by decide)) (by omega)
      rw [← quarter_step] at hstep
      have hbit := fun wx => RBit_any p (k + 2) wx (by omega)
      have hb2 : p / 2 ^ (k + 2) % 2 < 2 := Nat.mod_lt _ (by decide)
      generalize p / 2 ^ (k + 2) % 2 = b at *
      generalize hq' : p / 4 % 2 ^ (k + 1) = q' at *
      have HQ := Lib.hid hq'
      clear hq'
      generalize p / 4 % 2 ^ k = q at *
      have HCELL := Lib.hid (bit_cell q b k q' hb2 hstep)
      have HBIT := Lib.hid hbit
      clear hstep hbit hb2
      have hlo : (0 : Int) ≤ (k : Int) / 64 ∧ (k : Int) / 64 < 4 := by omega
      have hlo2 : (0 : Int) ≤ (k : Int) % 64 ∧ (k : Int) % 64 < 64 := by omega
      have e1 : IntKind.i64.wrap ((k : Int) / 64) = (k : Int) / 64 := IntWalk.i64_in _ (by omega)
      have e2 : (k : Int).tmod 64 = (k : Int) % 64 := Int.tmod_eq_emod_of_nonneg (by omega)
      have e3 : IntKind.i64.wrap ((k : Int) + 2) = (k : Int) + 2 := IntWalk.i64_in _ (by omega)
      have e4 : ((k : Int) / 64).toNat = k / 64 := by omega
      have e5 : ((k : Int) % 64).toNat = k % 64 := by omega
      go_wp2_with fail
      refine wp_region_noPanic ?_
      refine wp_region_plan (fun wx => St Nob w wx [(g2, cw 4 p ++ cw 4 (B64 ^ 4 - p), 31), (g3, cw 4 a, 24), (g4, cw 4 0, 24), (g6, cw 4 q, 24)]) 16 (.w 0 (.w 1 (.w 2 (.w 3 (.w 4 (.t 5 (.w 6 (.t 7 (.w 8 (.w 9 (.w 11 (.w 12 (.r 10 (.w 13 (.w 14 (.w 15 (.m 16 .nil))))))))))))))))) (by kernel_rfl) (by kernel_rfl) st.drew (fun _ _ _ _ _ h => h) ?_
      have hd4 := st.drew
      clear st
      refine plan_w (v := ?_) rfl rfl (fun wx => ?_) ?_
      rotate_left 1
      · (go_simp; with_reducible rfl)
      try simp only [Act.put, List.setIfInBounds_toArray, List.set_cons_zero, List.set_cons_succ]
      refine plan_w (v := ?_) rfl rfl (fun wx => ?_) ?_
      rotate_left 1
      · (go_simp; with_reducible rfl)
      try simp only [Act.put, List.setIfInBounds_toArray, List.set_cons_zero, List.set_cons_succ]
      refine plan_w (v := ?_) rfl rfl (fun wx => ?_) ?_
      rotate_left 1
      · (go_simp; with_reducible rfl)
      try simp only [Act.put, List.setIfInBounds_toArray, List.set_cons_zero, List.set_cons_succ]
      refine plan_w (v := ?_) rfl rfl (fun wx => ?_) ?_
      rotate_left 1
      · (go_simp; with_reducible rfl)
      try simp only [Act.put, List.setIfInBounds_toArray, List.set_cons_zero, List.set_cons_succ]
      refine plan_w (v := ?_) rfl rfl (fun wx => ?_) ?_
      rotate_left 1
      · (go_simp; with_reducible rfl)
      try simp only [Act.put, List.setIfInBounds_toArray, List.set_cons_zero, List.set_cons_succ]
      refine plan_t (v := ?_) rfl rfl (fun wx hS => ?_) ?_
      rotate_left 1
      · (have hc := (St.at hS 3 rfl).cell (cw_get 4 q (k / 64) (by omega)); clear hS; go_simp; with_reducible rfl)
      try simp only [Act.put, List.setIfInBounds_toArray, List.set_cons_zero, List.set_cons_succ]
      refine plan_w (v := ?_) rfl rfl (fun wx => ?_) ?_
      rotate_left 1
      · (go_simp; with_reducible rfl)
      try simp only [Act.put, List.setIfInBounds_toArray, List.set_cons_zero, List.set_cons_succ]
      refine plan_arr rfl rfl rfl rfl (cw 4 p) (fun wx hS => St.rangeL hS 0 rfl 0 _ (cw_left 4 4 _ _)) Try.underlying24 rfl (by first | (rw [cw_len]; kernel_rfl) | (simp only [List.length_append, cw_len]; kernel_rfl)) ?_
      try simp only [Act.put, List.setIfInBounds_toArray, List.set_cons_zero, List.set_cons_succ]
      refine plan_w (v := ?_) rfl rfl (fun wx => ?_) ?_
      rotate_left 1
      · (go_simp; with_reducible rfl)
      try simp only [Act.put, List.setIfInBounds_toArray, List.set_cons_zero, List.set_cons_succ]
      refine plan_w (v := ?_) rfl rfl (fun wx => ?_) ?_
      rotate_left 1
      · (go_simp; with_reducible rfl)
      try simp only [Act.put, List.setIfInBounds_toArray, List.set_cons_zero, List.set_cons_succ]
      refine plan_w (v := ?_) rfl rfl (fun wx => ?_) ?_
      rotate_left 1
      · (go_simp; with_reducible rfl)
      try simp only [Act.put, List.setIfInBounds_toArray, List.set_cons_zero, List.set_cons_succ]
      refine plan_w (v := ?_) rfl rfl (fun wx => ?_) ?_
      rotate_left 1
      · (go_simp; with_reducible rfl)
      try simp only [Act.put, List.setIfInBounds_toArray, List.set_cons_zero, List.set_cons_succ]
      refine plan_r rfl rfl ?_
      go_simp
      refine (HBIT.out _).mono ?_
      rintro e' w5 ⟨rfl, hf5⟩
      have st5 := hd4.keep hf5
      clear hf5
      clear hd4
      refine ⟨st5, ?_⟩
      try simp only [Act.put, List.setIfInBounds_toArray, List.set_cons_zero, List.set_cons_succ]
      refine plan_w (v := ?_) rfl rfl (fun wx => ?_) ?_
      rotate_left 1
      · (go_simp; with_reducible rfl)
      try simp only [Act.put, List.setIfInBounds_toArray, List.set_cons_zero, List.set_cons_succ]
      refine plan_w (v := ?_) rfl rfl (fun wx => ?_) ?_
      rotate_left 1
      · (go_simp; with_reducible rfl)
      try simp only [Act.put, List.setIfInBounds_toArray, List.set_cons_zero, List.set_cons_succ]
      refine plan_w (v := ?_) rfl rfl (fun wx => ?_) ?_
      rotate_left 1
      · (go_simp; with_reducible rfl)
      try simp only [Act.put, List.setIfInBounds_toArray, List.set_cons_zero, List.set_cons_succ]
      refine plan_m rfl rfl ?_
      have f1 := (st5.at 3 rfl).free (k / 64) (by rw [cw_len]; omega)
      have c1 := (st5.at 3 rfl).cell (cw_get 4 q (k / 64) (by omega))
      go_simp
      have st6 := st5.set 3 rfl (k / 64) (.int .u64 (bits .or .u64 (lw q (k / 64) : Nat) (IntKind.u64.wrap ((b : Int) * 2 ^ (k % 64)))))
      simp only [List.set_cons_zero, List.set_cons_succ] at st6
      rw [HCELL.out] at st6
      clear f1 c1 st5
      try simp only [Act.put, List.setIfInBounds_toArray, List.set_cons_zero, List.set_cons_succ]
      refine plan_end ?_
      refine NoPanic.normal ?_
      go_wp2
      go_roundw
      case rel => exact ⟨k + 1, by omega, by go_num, by rw [HQ.out]; exact st6⟩
      case measure => simp [intOf]; omega
    · have hge : ¬ ((k : Int) < 254) := by omega
      have hk2 : k = 254 := by omega
      rw [hk2, quarter_all p HP.out] at st
      clear hk2
      generalize p / 4 = Q at *
      have c1 := (st.at 3 rfl).cell (cw_get 4 Q 0 (by decide))
      have f1 := (st.at 3 rfl).free 0 (by rw [cw_len]; decide)
      have st9 := st.set 3 rfl 0 (.int .u64 ((lw Q 0 : Int) + 1))
      have hlow := HLOW.out
      have e1 : IntKind.u64.wrap ((lw Q 0 : Int) + 1) = (lw Q 0 : Int) + 1 := IntWalk.u64_in _ (by omega)
      clear st
      go_wp2_with (with_reducible refine wl_stop (o := ⟨some 33, _, _, _, _, _⟩) ?_)
      simp only [List.set_cons_zero, List.set_cons_succ] at st9
      rw [HLC.out] at st9
      clear c1 f1 hlow e1
      refine wl_loadSt st9 0 rfl rfl rfl Try.underlying31 rfl rfl (by first | (rw [cw_len]; kernel_rfl) | (simp only [List.length_append, cw_len]; kernel_rfl)) ?_
      go_wp2_with (with_reducible refine wl_stop (o := ⟨some 34, _, _, _, _, _⟩) ?_)
      refine wl_loadS st9 1 rfl rfl rfl Try.underlying24 rfl (by first | (rw [cw_len]; kernel_rfl) | (simp only [List.length_append, cw_len]; kernel_rfl)) ?_
      go_wp2_with (with_reducible refine wl_stop (o := ⟨some 35, _, _, _, _, _⟩) ?_)
      refine wl_loadS st9 3 rfl rfl rfl Try.underlying24 rfl (by first | (rw [cw_len]; kernel_rfl) | (simp only [List.length_append, cw_len]; kernel_rfl)) ?_
      go_wp2_with fail
      refine (HPOW.out _).mono ?_
      rintro e' w10 ⟨rfl, hf10⟩
      have st10 := st9.keep hf10
      clear st9 hf10
      go_wp2_with (with_reducible refine wl_stop (o := ⟨some 8, _, _, _, _, _⟩) ?_)
      refine wl_allocS st10 rfl rfl (z := .agg #[.int .u64 0, .int .u64 0, .int .u64 0, .int .u64 0]) (by kernel_rfl) (cw 4 0) (by rw [cw_zero]; rfl) ?_
      intro g8 w11 st11
      clear st10
      go_wp2_with (with_reducible refine wl_stop (o := ⟨none, _, _, _, _, _⟩) ?_)
      refine wl_storeS st11 4 rfl rfl rfl rfl rfl (by first | (simp only [cw_len]; done) | (simp only [List.length_append, cw_len]; done)) (by first | (rw [cw_len]; kernel_rfl) | (simp only [List.length_append, cw_len]; kernel_rfl)) (cw_one _ _) ?_
      intro w12 st12
      clear st11
      go_wp2_with fail
      refine wp_region_noPanic ?_
      refine wp_region_plan (fun wx => St Nob w wx [(g2, cw 4 p ++ cw 4 (B64 ^ 4 - p), 31), (g3, cw 4 a, 24), (g4, cw 4 0, 24), (g6, cw 4 n, 24), (g8, cw 4 R, 24)]) 5 (.t 0 (.t 1 (.t 2 (.t 4 (.r 3 (.m 5 .nil)))))) (by kernel_rfl) (by kernel_rfl) st12.drew (fun _ _ _ _ _ h => h) ?_
      have hd12 := st12.drew
      clear st12
      refine plan_arr rfl rfl rfl rfl (cw 4 p ++ cw 4 (B64 ^ 4 - p)) (fun wx hS => St.rangeL hS 0 rfl 0 _ (by rw [List.drop_zero, List.take_of_length_le (Nat.le_refl _)])) Try.underlying31 rfl (by first | (rw [cw_len]; kernel_rfl) | (simp only [List.length_append, cw_len]; kernel_rfl)) ?_
      try simp only [Act.put, List.setIfInBounds_toArray, List.set_cons_zero, List.set_cons_succ]
      refine plan_arr rfl rfl rfl rfl (cw 4 R) (fun wx hS => St.rangeL hS 4 rfl 0 _ (by rw [List.drop_zero, List.take_of_length_le (Nat.le_refl _)])) Try.underlying24 rfl (by first | (rw [cw_len]; kernel_rfl) | (simp only [List.length_append, cw_len]; kernel_rfl)) ?_
      try simp only [Act.put, List.setIfInBounds_toArray, List.set_cons_zero, List.set_cons_succ]
      refine plan_arr rfl rfl rfl rfl (cw 4 R) (fun wx hS => St.rangeL hS 4 rfl 0 _ (by rw [List.drop_zero, List.take_of_length_le (Nat.le_refl _)])) Try.underlying24 rfl (by first | (rw [cw_len]; kernel_rfl) | (simp only [List.length_append, cw_len]; kernel_rfl)) ?_
      try simp only [Act.put, List.setIfInBounds_toArray, List.set_cons_zero, List.set_cons_succ]
      refine plan_arr rfl rfl rfl rfl (cw 4 a) (fun wx hS => St.rangeL hS 1 rfl 0 _ (by rw [List.drop_zero, List.take_of_length_le (Nat.le_refl _)])) Try.underlying24 rfl (by first | (rw [cw_len]; kernel_rfl) | (simp only [List.length_append, cw_len]; kernel_rfl)) ?_
      try simp only [Act.put, List.setIfInBounds_toArray, List.set_cons_zero, List.set_cons_succ]
      refine plan_r rfl rfl ?_
      go_simp
      refine (Mul_any p R R _ HP0.out HP.out HR4.out HR4.out).mono ?_
      rintro e' w13 ⟨rfl, hf13⟩
      have st13 := hd12.keep hf13
      clear hf13
      clear hd12
      refine ⟨st13, ?_⟩
      try simp only [Act.put, List.setIfInBounds_toArray, List.set_cons_zero, List.set_cons_succ]
      refine plan_m rfl rfl ?_
      refine wp_neq4 (R * R % p) a HRR.out HA.out 24 Try.underlying24 Try.eqGuardType24 rfl rfl rfl HB.out ?_
      try simp only [Act.put, List.setIfInBounds_toArray, List.set_cons_zero, List.set_cons_succ]
      refine plan_end ?_
      refine NoPanic.normal ?_
      have c1 := (st13.at 4 rfl).cell (cw_get 4 R 0 (by decide))
      have hla := low_and R
      rw [HPAR.out] at hla
      go_wp2_with (with_reducible refine wl_stop (o := ⟨some 48, _, _, _, _, _⟩) ?_)
      refine wl_loadSt st13 0 rfl rfl rfl Try.underlying31 rfl rfl (by first | (rw [cw_len]; kernel_rfl) | (simp only [List.length_append, cw_len]; kernel_rfl)) ?_
      go_wp2_with (with_reducible refine wl_stop (o := ⟨some 49, _, _, _, _, _⟩) ?_)
      refine wl_loadS st13 4 rfl rfl rfl Try.underlying24 rfl (by first | (rw [cw_len]; kernel_rfl) | (simp only [List.length_append, cw_len]; kernel_rfl)) ?_
      go_wp2_with fail
      refine (Neg_any p R _ HRP.out HP.out HR4.out).mono ?_
      rintro e' w14 ⟨rfl, hf14⟩
      have st14 := st13.keep hf14
      clear st13 hf14
      go_wp2_with (with_reducible refine wl_stop (o := ⟨none, _, _, _, _, _⟩) ?_)
      refine wl_storeS st14 4 rfl rfl rfl rfl rfl (by first | (simp only [cw_len]; done) | (simp only [List.length_append, cw_len]; done)) (by first | (rw [cw_len]; kernel_rfl) | (simp only [List.length_append, cw_len]; kernel_rfl)) (cw_one _ _) ?_
      intro w15 st15
      clear st14
      go_wp2_with (with_reducible refine wl_stop (o := ⟨some 51, _, _, _, _, _⟩) ?_)
      refine wl_loadS st15 4 rfl rfl rfl Try.underlying24 rfl (by first | (rw [cw_len]; kernel_rfl) | (simp only [List.length_append, cw_len]; kernel_rfl)) ?_
      go_wp2_with (with_reducible refine wl_stop (o := ⟨none, _, _, _, _, _⟩) ?_)
      refine wl_storeS st15 2 rfl rfl rfl rfl rfl (by first | (simp only [cw_len]; done) | (simp only [List.length_append, cw_len]; done)) (by first | (rw [cw_len]; kernel_rfl) | (simp only [List.length_append, cw_len]; kernel_rfl)) (cw_one _ _) ?_
      intro w16 st16
      clear st15
      have hr := st16.at 2 rfl
      have hfr := st16.fr
      clear st16
      go_wp2_with fail
      exact bodyPost_ret (results_arr2 rfl rfl hr Try.underlying24 (by first | (rw [cw_len]; kernel_rfl) | (simp only [List.length_append, cw_len]; kernel_rfl)) rfl) rfl ⟨rfl, hfr⟩
end Go.Proofs.Ytdbgddngapminaa

/- The law NumRoots. -/
namespace Go.Proofs.Ytdbgddngapminaa
open Go.RowKit Go.Mv Mvp
theorem low_k {k : Int} {m : Md} (h : KindOf k m) : lw (m.M / 4) 0 + 1 < 18446744073709551616 := by
  cases h
  · decide
  · decide
theorem FSqrt_ok (p a : Nat) (w : World) (hp1 : 1 < p) (hp : p < B64 ^ 4) (ha : a < p) (hlow : lw (p / 4) 0 + 1 < 18446744073709551616) (hr : rtOk p a = true) :
    Calls Try.prog 80 #[fv p, i4 a] w fun e w' => e = .returned (.tuple #[i4 (rtV p a % p), .bool true]) ∧ Fr Nob w w' := by
  unfold rtOk at hr
  unfold rtV
  unfold rtN at *
  have hn4 : p / 4 + 1 < B64 ^ 4 := by omega
  generalize hn : p / 4 + 1 = n at *
  have hpow := fun wx => Pow_any p a n wx hp1 hp (Nat.lt_trans ha hp) hn4
  have hR : a ^ n % p < p := Nat.mod_lt _ (by omega)
  rw [Nat.mul_mod, Nat.mod_eq_of_lt ha] at hr
  have hsame : a ^ n % p = a ^ n % p % p := (Nat.mod_mod _ _).symm
  generalize hRR : a ^ n % p = R at *
  have hb : decide (R * R % p = a) = true := by simpa using hr
  by_cases hpar : R % 2 = 1
  · rw [if_pos hpar]
    exact FSqrt_odd p a n R w (by omega) hp hn hn4 (Nat.lt_trans ha hp) hlow hR hpow hb hpar
  · rw [if_neg hpar, hRR]
    exact FSqrt_even p a n R w (by omega) hp hn hn4 (Nat.lt_trans ha hp) hlow hR hpow hb (by omega)
theorem FSqrt_bad (p a : Nat) (w : World) (hp1 : 1 < p) (hp : p < B64 ^ 4) (ha : a < p) (hlow : lw (p / 4) 0 + 1 < 18446744073709551616) (hr : rtOk p a = false) :
    Calls Try.prog 80 #[fv p, i4 a] w fun e w' => e = .returned (.tuple #[i4 0, .bool false]) ∧ Fr Nob w w' := by
  unfold rtOk at hr
  unfold rtN at *
  have hn4 : p / 4 + 1 < B64 ^ 4 := by omega
  generalize hn : p / 4 + 1 = n at *
  have hpow := fun wx => Pow_any p a n wx hp1 hp (Nat.lt_trans ha hp) hn4
  have hR : a ^ n % p < p := Nat.mod_lt _ (by omega)
  rw [Nat.mul_mod, Nat.mod_eq_of_lt ha] at hr
  generalize hRR : a ^ n % p = R at *
  have hb : decide (R * R % p = a) = false := by simpa using hr
  exact FSqrt_no p a n R w (by omega) hp hn hn4 (Nat.lt_trans ha hp) hlow hR hpow hb
attribute [local irreducible] limbs lw mix cw cSub cAdd cMul foldC valFrom beN laid be32 powm montT mstep elN mdL numB numsB rtN rtOk rtV
end Go.Proofs.Ytdbgddngapminaa

/- zn.All; sigma.Extract. -/
namespace Go.Proofs.Ytdbgddngapminaa
open Go.RowKit Go.Mv Mvp
attribute [local irreducible] limbs lw mix cw cSub cAdd cMul foldC valFrom beN laid be32 powm montT mstep elN mdL numsB numB
end Go.Proofs.Ytdbgddngapminaa

/- sigma.Extract; the reference's Scalar, Q, Extract. -/
namespace Mvp
end Mvp
namespace Go.Proofs.Ytdbgddngapminaa
open Go.RowKit Go.Mv Mvp
attribute [local irreducible] limbs lw mix cw cSub cAdd cMul foldC valFrom beN laid be32 powm montT mstep elN mdL numsB numB
theorem BParts.four {w : World} {v1 v2 v3 v4 : Value} {l1 l2 l3 l4 : List UInt8} (h1 : BPart w v1 l1) (h2 : BPart w v2 l2) (h3 : BPart w v3 l3) (h4 : BPart w v4 l4) : BParts w [v1, v2, v3, v4] [l1, l2, l3, l4] := ⟨rfl, fun i x hx => by
  match i with
  | 0 => simp at hx; subst hx; exact h1
  | 1 => simp at hx; subst hx; exact h2
  | 2 => simp at hx; subst hx; exact h3
  | 3 => simp at hx; subst hx; exact h4
  | i + 4 => simp at hx⟩

end Go.Proofs.Ytdbgddngapminaa

/- The reference's Q, Scalar, Extract. -/
namespace Go.Proofs.Ytdbgddngapminaa
open Go.RowKit Go.Mv Mvp
theorem run_eqN (x y : Nat) (hx : x < B64 ^ 4) (hy : y < B64 ^ 4) (w : World) : (Op.equal 24 (.agg (cw 4 x).toArray) (.agg (cw 4 y).toArray)).run Try.prog w = .ok (x == y) w := by
  have h := run_eq4 (P := Try.prog) Try.underlying24 Try.underlying22 size_u64 x y w
  rw [Nat.mod_eq_of_lt hx, Nat.mod_eq_of_lt hy] at h
  rw [h]
  congr 1
attribute [local irreducible] limbs lw mix cw cSub cAdd cMul foldC valFrom beN laid be32 powm montT mstep elN mdL numsB numB
set_option maxHeartbeats 16000000 in
set_option maxRecDepth 1000000 in
theorem Q_any (m : Md) (hk : KindOf 1 m) (w : World) :
    Calls Try.prog 10 #[] w fun e w' => e = .returned (fv m.M) ∧ Fr Nob w w' := by
  have HK := Lib.hid hk
  have HOK := Lib.hid hk.ok
  clear hk
  have st0 := St.start Nob w
  go_enter Try.func10, Try.ntmps10
  go_wp2_with (with_reducible refine wl_stop (o := ⟨some 0, _, _, _, _, _⟩) ?_)
  refine wl_allocS st0 rfl rfl (z := .agg #[.int .u64 0, .int .u64 0, .int .u64 0, .int .u64 0, .int .u64 0, .int .u64 0, .int .u64 0, .int .u64 0]) (by kernel_rfl) (cw 8 0) (by rw [cw_zero]; rfl) ?_
  intro g0 w1 st1
  clear st0
  go_wp2_with fail
  refine (MakeK HK.out _).mono ?_
  rintro e' w2 ⟨rfl, hf2⟩
  have st2 := st1.keep hf2
  clear st1 hf2
  go_wp2_with (with_reducible refine wl_stop (o := ⟨none, _, _, _, _, _⟩) ?_)
  refine wl_storeS st2 0 rfl rfl rfl rfl rfl (by first | (simp only [cw_len]; done) | (simp only [List.length_append, cw_len]; done)) (by first | (rw [cw_len]; kernel_rfl) | (simp only [List.length_append, cw_len]; kernel_rfl)) (cw2_one _ _ _ _) ?_
  intro w3 st3
  clear st2
  have hr := st3.at 0 rfl
  have hfr := st3.fr
  clear st3
  go_wp2_with fail
  exact bodyPost_ret (results_st rfl rfl hr Try.underlying31 rfl (by first | (rw [cw_len]; kernel_rfl) | (simp only [List.length_append, cw_len]; kernel_rfl))) rfl ⟨rfl, hfr⟩

theorem Sub_v (p a b r : Nat) (w : World) (hp0 : 0 < p) (hp : p < B64 ^ 4) (ha : a < B64 ^ 4) (hb : b < B64 ^ 4) (hbp : b ≤ p) (hr : (a + (p - b)) % p = r) :
    Calls Try.prog 58 #[fv p, i4 a, i4 b] w fun e w' => e = .returned (i4 r) ∧ Fr Nob w w' := by
  refine (Sub_any p a b w hp0 hp ha hb hbp).mono fun e w' h => ?_
  rw [Nat.add_mod_mod, hr] at h
  exact h
theorem Inv_v (p a r : Nat) (w : World) (hp1 : 1 < p) (hp : p < B64 ^ 4) (ha : a < B64 ^ 4) (hr : a ^ (p - 2) % p = r) :
    Calls Try.prog 53 #[fv p, i4 a] w fun e w' => e = .returned (i4 r) ∧ Fr Nob w w' := by
  subst hr; exact Inv_any p a w hp1 hp ha
end Go.Proofs.Ytdbgddngapminaa

/- The reference's numbers modulo Prime, told by their classes. -/
namespace Go.Proofs.Ytdbgddngapminaa
open Go.RowKit Go.Mv Mvp Mvq
/-- the least number of a class -/
def kN (a : K) : Nat := a.val
theorem mPM : mP.M = fP := pP_fP
theorem kN_lt (a : K) : kN a < mP.M := by rw [mPM]; exact a.isLt
theorem kN_lt4 (a : K) : kN a < B64 ^ 4 := Nat.lt_trans (kN_lt a) mP_ok.lt
theorem kN_kc (n : Nat) : kN (kc n) = n % fP := rfl
theorem kc_kN (a : K) : kc (kN a) = a := by
  apply Fin.ext
  show a.val % fP = a.val
  exact Nat.mod_eq_of_lt a.isLt
theorem kN_inj {a b : K} (h : kN a = kN b) : a = b := Fin.ext h
theorem hK0 : KindOf 0 mP := .zero
theorem RF_any (w : World) : Calls Try.prog 36 #[] w fun e w' => e = .returned (fv mP.M) ∧ Fr Nob w w' := by
  go_enter Try.func36, Try.ntmps36
  have st0 := St.start Nob w
  go_wp2_with (with_reducible refine wl_stop (o := ⟨some 0, _, _, _, _, _⟩) ?_)
  refine wl_allocS st0 rfl rfl (z := .agg #[.int .u64 0, .int .u64 0, .int .u64 0, .int .u64 0, .int .u64 0, .int .u64 0, .int .u64 0, .int .u64 0]) (by kernel_rfl) (cw 8 0) (by rw [cw_zero]; rfl) ?_
  intro g0 w1 st1
  clear st0
  go_wp2_with fail
  refine (MakeK hK0 _).mono ?_
  rintro e' w2 ⟨rfl, hf2⟩
  have st2 := st1.keep hf2
  clear st1 hf2
  go_wp2_with (with_reducible refine wl_stop (o := ⟨none, _, _, _, _, _⟩) ?_)
  refine wl_storeS st2 0 rfl rfl rfl rfl (cs := cw 4 mP.M ++ cw 4 (B64 ^ 4 - mP.M)) rfl (by first | (simp only [cw_len]; done) | (simp only [List.length_append, cw_len]; done)) (by first | (rw [cw_len]; kernel_rfl) | (simp only [List.length_append, cw_len]; kernel_rfl)) (cw2_one _ _ _ _) ?_
  intro w3 st3
  clear st2
  have hr := st3.at 0 rfl
  have hfr := st3.fr
  clear st3
  go_wp2_with fail
  exact bodyPost_ret (results_st rfl rfl hr Try.underlying31 rfl (by first | (rw [cw_len]; kernel_rfl) | (simp only [List.length_append, cw_len]; kernel_rfl))) rfl ⟨rfl, hfr⟩
theorem KMul (a b r : K) (hr : a * b = r) (w : World) : Calls Try.prog 54 #[fv mP.M, i4 (kN a), i4 (kN b)] w fun e w' => e = .returned (i4 (kN r)) ∧ Fr Nob w w' := by
  have h := Mul_any mP.M (kN a) (kN b) w (by have := mP_ok.one; omega) mP_ok.lt (kN_lt4 a) (kN_lt4 b)
  have e : kN a * kN b % mP.M = kN r := by rw [mPM, ← kN_kc, kc_mul', kc_kN, kc_kN, hr]
  rwa [e] at h
theorem KAdd (a b r : K) (hr : a + b = r) (w : World) : Calls Try.prog 59 #[fv mP.M, i4 (kN a), i4 (kN b)] w fun e w' => e = .returned (i4 (kN r)) ∧ Fr Nob w w' := by
  have h := Add_any mP.M (kN a) (kN b) w (by have := mP_ok.one; omega) mP_ok.lt (kN_lt4 a) (kN_lt4 b)
  have e : (kN a + kN b) % mP.M = kN r := by rw [mPM, ← kN_kc, kc_addn, kc_kN, kc_kN, hr]
  rwa [e] at h
theorem KSub (a b r : K) (hr : a - b = r) (w : World) : Calls Try.prog 58 #[fv mP.M, i4 (kN a), i4 (kN b)] w fun e w' => e = .returned (i4 (kN r)) ∧ Fr Nob w w' := by
  have hb := Nat.mod_eq_of_lt (kN_lt b)
  refine Sub_v mP.M (kN a) (kN b) (kN r) w (by have := mP_ok.one; omega) mP_ok.lt (kN_lt4 a) (kN_lt4 b) (Nat.le_of_lt (kN_lt b)) ?_
  rw [← hb, mPM, ← kN_kc, kc_subn, kc_kN, kc_kN, hr]
theorem KNeg (a r : K) (hr : -a = r) (w : World) : Calls Try.prog 51 #[fv mP.M, i4 (kN a)] w fun e w' => e = .returned (i4 (kN r)) ∧ Fr Nob w w' := by
  have h := Neg_any mP.M (kN a) w (Nat.le_of_lt (kN_lt a)) mP_ok.lt (kN_lt4 a)
  have hb := Nat.mod_eq_of_lt (kN_lt a)
  have e : (mP.M - kN a) % mP.M = kN r := by
    rw [← hb, mPM, ← kN_kc, kc_negn, kc_kN, hr]
  rwa [e] at h
theorem KInv (a r : K) (hr : kinv a = r) (w : World) : Calls Try.prog 53 #[fv mP.M, i4 (kN a)] w fun e w' => e = .returned (i4 (kN r)) ∧ Fr Nob w w' := by
  refine Inv_v mP.M (kN a) (kN r) w mP_ok.one mP_ok.lt (kN_lt4 a) ?_
  rw [← hr, mPM]
  unfold kinv
  rw [kN_kc]
  unfold kN
  generalize fP - 2 = z
  rfl
theorem KZero (a : K) (b : Bool) (hb : decide (a = 0) = b) (w : World) : Calls Try.prog 56 #[i4 (kN a)] w fun e w' => e = .returned (.bool b) ∧ Fr Nob w w' := by
  have h := Zero_any (kN a) w (kN_lt4 a)
  have e : decide (kN a = 0) = b := by
    rw [← hb, Bool.eq_iff_iff, decide_eq_true_eq, decide_eq_true_eq]
    exact ⟨fun h => kN_inj (h.trans rfl), fun h => by rw [h]; rfl⟩
  rwa [e] at h
theorem KSmall1 (w : World) : Calls Try.prog 79 #[.int .u64 1] w fun e w' => e = .returned (i4 (kN 1)) ∧ Fr Nob w w' := Small_any 1 w (by decide)
theorem KSmall7 (w : World) : Calls Try.prog 79 #[.int .u64 7] w fun e w' => e = .returned (i4 (kN 7)) ∧ Fr Nob w w' := Small_any 7 w (by decide)
theorem run_eqK (x y : K) {b : Bool} (hb : decide (x = y) = b) (w : World) : (Op.equal 24 (.agg (cw 4 (kN x)).toArray) (.agg (cw 4 (kN y)).toArray)).run Try.prog w = .ok b w := by
  rw [run_eqN (kN x) (kN y) (kN_lt4 x) (kN_lt4 y) w]
  congr 1
  rw [← hb, Bool.eq_iff_iff, beq_iff_eq, decide_eq_true_eq]
  exact ⟨kN_inj, fun h => by rw [h]⟩
theorem exec_eqlK (x y : K) {o : Oper} {a : Act} {p q : Operand} {T : TypeId} (ho : o.op = .binOp .eql 24 p q T) (hp : a.eval p = i4 (kN x)) (hq : a.eval q = i4 (kN y)) {b : Bool} (hb : decide (x = y) = b) (w : World) :
    (execOp a.eval o).run Try.prog w = .ok (.value (.bool b)) w :=
  exec_binop ho hp hq w (run_eqGuard_agg w .eql 24 p q _ _ Try.eqGuardType24) (eql_of_equal w (run_eqK x y hb w))
theorem KSqrt_t (n : Nat) (hn : n < mP.M) (hr : rtOk fP n = true) (w : World) : Calls Try.prog 80 #[fv mP.M, i4 n] w fun e w' => e = .returned (.tuple #[i4 (kN (kc (rtV fP n))), .bool true]) ∧ Fr Nob w w' := by
  have h := FSqrt_ok mP.M n w mP_ok.one mP_ok.lt hn (low_k hK0) (by rw [mPM]; exact hr)
  rw [mPM, ← kN_kc, ← mPM] at h
  exact h
theorem KSqrt_f (n : Nat) (hn : n < mP.M) (hr : rtOk fP n = false) (w : World) : Calls Try.prog 80 #[fv mP.M, i4 n] w fun e w' => e = .returned (.tuple #[i4 (kN 0), .bool false]) ∧ Fr Nob w w' :=
  FSqrt_bad mP.M n w mP_ok.one mP_ok.lt hn (low_k hK0) (by rw [mPM]; exact hr)
end Go.Proofs.Ytdbgddngapminaa
