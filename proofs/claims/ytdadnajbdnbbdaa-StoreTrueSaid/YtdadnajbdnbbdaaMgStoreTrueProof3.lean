/- store: Arm, Len, Disk, Record, New; store: Record; Two blocks that were made in the other order; A region that draws its order, told as a chain of steps beside fresh blocks (allocs) that may be made at any time between their opening and their joint: each step is shown once; More makers of one block for the steps of a drawn region: slice literals, boxes; operations that only yield a value; A slice of bytes turned into its own type (a literal text's bytes): the block is marked behind its end, its cells stay; From a walk that turns nothing (Fr Nob) to what a law's row asks behind the call. -/
import Derived.Test.YtdadnajbdnbbdaaMgStoreTrueProof2
import Derived.Test.YtdadnajbdnbbdaaMgStoreTrueProof1
import Derived.Lib.SlBytesConst
import Derived.ProofKit
import Derived.OpenShut
import Derived.Carry
namespace Go.Mv
open Go.RowKit Mvp
variable {P : Program}
/-- max of two ints -/
theorem wl_max {w : World} {ops : Array Oper} {rest : List Oper} {o : Oper} {a : Act} {Q : Exit → Act → World → Prop} {x y : Operand} {ts : Array TypeId} (hgd : o.guard = none) (ho : o.op = .call { callee := .builtin .max, args := #[x, y], argTypes := ts })
    {k k' : IntKind} {xi yi : Int} (hx : a.eval x = .int k xi) (hy : a.eval y = .int k' yi) (r : Int) (hr : (if yi > xi then yi else xi) = r) (h : wpList P ops Q rest (a.put o.dst (.int k r)) w) : wpList P ops Q (o :: rest) a w := by
  refine wpList_plain hgd fun K hK => ?_
  have hrun : (Builtin.max_ ts o.type #[.int k xi, .int k' yi]).run P w = .ok (.int k r) w := by rw [run_max_int2, hr]
  unfold Oper.wp execOp
  simp only [ho, resolve, invoke, builtin, Sem.run_bind, Sem.run_pure, Result.andThen_ok, List.map_toArray, List.map_cons, List.map_nil, hx, hy, hrun]
  exact hK _ _ h
theorem lftI_arm (s : SM) (n : Int) : (if (-1 : Int) > n then -1 else n) = lftI (s.arm n) := by
  by_cases h : n < 0
  · have e : s.arm n = { s with left := none } := by unfold SM.arm; rw [if_pos h]
    rw [e]
    show (if (-1 : Int) > n then -1 else n) = -1
    split <;> omega
  · have e : s.arm n = { s with left := some n.toNat } := by unfold SM.arm; rw [if_neg h]
    rw [e, if_neg (by omega)]
    show n = ((n.toNat : Nat) : Int)
    omega
theorem exC_nil : exC [] = [] := rfl
theorem arm_lt {s : SM} {n : Int} (h : n < 9223372036854775808) : lftI (s.arm n) < 9223372036854775808 := by
  rw [← lftI_arm]; split <;> omega
/-- a store's cells are turned -/
theorem SA.wrote {TS TB TX : TypeId} {w w' : World} {base g lim : Nat} {s s' : SM} {v rv : Value} (h : SA TS TB TX w base g lim s v rv) (hB : TB ≠ TS) (hX : TX ≠ TS) (hf : Fr (One g) w w') (h1 : Has w' g [v, .int .i64 (lftI s'), .bool s'.off, .int .i64 (lim : Int), rv] TS) (hd : s'.d = s.d) (hr : s'.recs = s.recs) : SA TS TB TX w' base g lim s' v rv :=
  ⟨h.low, h1, by rw [hd]; exact h.bytes.offB h.has hB hf, by rw [hr]; exact h.exts.offB h.has hX hf⟩
end Go.Mv
namespace Go.Proofs.Ytdadnajbdnbbdaa
open Go.RowKit Go.Mv Mvp
theorem info_u8C : (Try.prog.info? 5).map (fun i => (i.zero, i.size, i.bytes)) = some (some (.int .u8 0), 1, 1) := by kernel_rfl
theorem built_disk : Try.prog.built 80 [(1, .int .i64 (-1))] = some #[.slice none 0 0, .int .i64 (-1), .bool false] := by kernel_rfl
theorem built_store (x : Int) : Try.prog.built 83 [(0, .agg #[.slice none 0 0, .int .i64 (-1), .bool false]), (1, .int .i64 x)] = some #[.slice none 0 0, .int .i64 (-1), .bool false, .int .i64 x, .slice none 0 0] := by kernel_rfl
attribute [local irreducible] permS permP toB turnsK squeeze permN spongeB feed frameL framesL tagL bigN bigJ numS frameB framesB ckS exC SM.put SM.add
set_option maxHeartbeats 1000000 in
set_option maxRecDepth 1000000 in
theorem bclone_big (a : Option Addr) (n c : Nat) (l : List UInt8) (w : World) (hn : n ≤ 100000000) (hb : RdB w a n l) (h0 : a = none → n = 0) :
    Calls Try.prog 31 #[.slice a n c] w fun e w' => ∃ v, e = .returned v ∧ Own w' w.heap.size 5 1 v n (bs l) ∧ Fr Nob w w' := by
  have hq : ∀ (w : World), (binOp .eql 22 (.slice a n c) (.slice none 0 0)).run Try.prog w = .ok (.bool a.isNone) w := fun w => Lib.run_eql_slice_nil w _ _ a n c 0 0 Try.underlying22
  cases a with
  | none =>
    obtain rfl := h0 rfl
    obtain rfl := List.eq_nil_of_length_eq_zero hb.len
    go_enter Try.func31, Try.ntmps31
    go_wp2_with fail
    go_ret
    exact ⟨_, rfl, Own.nil _ _ _ _, Fr.refl _ _⟩
  | some a =>
    clear h0
    go_enter Try.func31, Try.ntmps31
    go_wp2_with (with_reducible refine wl_stop (o := ⟨some 7, _, _, _, _, _⟩) ?_)
    unfold Stop
    have hf1 : Fr Nob w (w.alloc (.cells #[] 5)) := (Fr.refl Nob w).alloc _
    have hown1 : Own (w.alloc (.cells #[] 5)) w.heap.size 5 1 (.slice (some ⟨w.heap.size, 0, none⟩) 0 0) 0 [] := Own.made (Has.new w #[] 5) w.heap.size (Nat.le_refl _) 1 0 0 (Nat.le_refl _) (by decide) (by simp)
    refine wl_append rfl rfl Try.underlying22 info_u8C rfl (by decide) hown1 rfl rfl (by rw [Nat.mul_one]; exact hb.still hf1) (bs_one _) (by unfold maxLen; omega) (by omega) hf1.size ?_
    intro v3 w3 hown3 hf3 hb3
    have hfr := hown1.fr hf1 (Nat.le_refl _) hf3
    rw [Nat.zero_add, List.nil_append] at hown3
    clear hf3 hown1 hf1 hb3
    generalize hgw : w.heap.size = g at *
    have HG := Lib.hid hgw; clear hgw
    go_wp2_with fail
    go_ret
    rw [HG.out]
    exact ⟨_, rfl, hown3, hfr⟩
set_option maxRecDepth 100000 in
theorem sArm_any (g base lim : Nat) (s : SM) (v rv : Value) (n : Int) (w : World) (h : SAt1 w base g lim s v rv) :
    Calls Try.prog 20 #[.pointer (some ⟨g, 0, none⟩), .int .i64 n] w fun e w' => e = .returned (.tuple #[]) ∧ SAt1 w' base g lim (s.arm n) v rv ∧ Fr (StB g v rv) w w' := by
  have H := Lib.hid h
  have hp := h.has.put1 1 (.int .i64 (lftI (s.arm n)))
  have HP := Lib.hid hp
  obtain ⟨u, cu, fu⟩ := h.has.ready (i := 1) (by simp)
  have HA := Lib.hid (lftI_arm s n)
  generalize hx : lftI (s.arm n) = x at *
  have HX := Lib.hid hx
  clear h hp hx
  go_enter Try.func20, Try.ntmps20
  go_wp2_with (with_reducible refine wl_stop (o := ⟨some 6, _, _, _, _, _⟩) ?_)
  refine wl_max rfl rfl rfl rfl x HA.out ?_
  go_wp2_with fail
  go_end0
  exact ⟨rfl, SA.wrote H.out (by decide) (by decide) HP.out.2 (by rw [HX.out]; exact HP.out.1) rfl rfl, HP.out.2.mono fun k _ hk => .inl hk⟩
set_option maxRecDepth 100000 in
theorem sLen_any (g base lim : Nat) (s : SM) (v rv : Value) (w : World) (h : SAt1 w base g lim s v rv) :
    Calls Try.prog 26 #[.pointer (some ⟨g, 0, none⟩)] w fun e w' => e = .returned (.int .i64 (s.recs.length : Int)) ∧ w' = w := by
  obtain ⟨ar, cr, rfl, -⟩ := h.exts.form
  have c4 := h.has.cell (i := 4) (v := .slice ar s.recs.length cr) rfl
  clear h
  go_enter Try.func26, Try.ntmps26
  go_wp2_with fail
  go_ret
  exact ⟨rfl, rfl⟩
theorem own_none {w : World} {base : Nat} {T : TypeId} {sz : Nat} {a : Option Addr} {n c : Nat} {L : List Value} (h : Own w base T sz (.slice a n c) n L) (ha : a = none) : n = 0 := by
  rcases h.2 with ⟨-, h2⟩ | ⟨g, o, cap, B, h2, -⟩
  · exact h2
  · subst ha; cases h2
set_option maxRecDepth 100000 in
theorem sDisk_any (g base lim : Nat) (s : SM) (v rv : Value) (w : World) (h : SAt1 w base g lim s v rv) (hd : s.d.length ≤ 10000000) :
    Calls Try.prog 28 #[.pointer (some ⟨g, 0, none⟩)] w fun e w' => ∃ v', e = .returned v' ∧ Own w' w.heap.size 5 1 v' s.d.length (bs s.d) ∧ Fr Nob w w' := by
  have HN := Lib.hid (fun a c (e : v = .slice a s.d.length c) => own_none (a := a) (c := c) (e ▸ h.bytes))
  obtain ⟨av, cv, rfl, -, hr, -⟩ := h.bytes.form
  rw [Nat.mul_one] at hr
  have HR := Lib.hid hr
  have HD := Lib.hid hd
  have c0 := h.has.cell (i := 0) (v := .slice av s.d.length cv) rfl
  clear h hr hd
  go_enter Try.func28, Try.ntmps28
  go_wp2_with fail
  refine (bclone_big av s.d.length cv s.d w (by have := HD.out; omega) HR.out (HN.out av cv rfl)).mono ?_
  rintro e w2 ⟨v', rfl, ho, hf⟩
  have HO := Lib.hid ho
  have HF := Lib.hid hf
  clear ho hf c0
  go_wp2_with fail
  go_ret
  exact ⟨v', rfl, HO.out, HF.out⟩
set_option maxHeartbeats 1000000 in
set_option maxRecDepth 100000 in
theorem sNew_ok (n : Nat) (w : World) (h1 : 64 ≤ n) (h2 : n ≤ 1048576) :
    Calls Try.prog 16 #[.int .i64 (n : Int)] w fun e w' => ∃ g, e = .returned (.tuple #[.pointer (some ⟨g, 0, none⟩), .int .i64 0]) ∧ SAt1 w' w.heap.size g n SM.new (.slice none 0 0) (.slice none 0 0) ∧ Fr Nob w w' := by
  have h1I : ¬ (n : Int) < 64 := by omega
  have h2I : ¬ (1048576 : Int) < (n : Int) := by omega
  clear h1 h2
  go_enter Try.func16, Try.ntmps16
  go_wp2_with (with_reducible refine wl_stop (o := ⟨some 10, _, _, _, _, _⟩) ?_)
  refine wl_buildL rfl rfl _ built_disk ?_
  go_wp2_with (with_reducible refine wl_stop (o := ⟨some 12, _, _, _, _, _⟩) ?_)
  refine wl_buildL rfl rfl _ (built_store _) ?_
  try simp only [Act.put, List.setIfInBounds_toArray, List.set_cons_zero, List.set_cons_succ]
  refine wl_box rfl rfl rfl [.slice none 0 0, .int .i64 (-1), .bool false, .int .i64 (n : Int), .slice none 0 0] rfl ?_
  intro w4 hh4 hf4 hz4
  have HH := Lib.hid hh4
  have HF := Lib.hid hf4
  clear hh4 hf4 hz4
  go_wp2_with fail
  go_ret2
  exact ⟨w.heap.size, rfl, ⟨Nat.le_refl _, HH.out, Own.nil _ _ _ _, by show Own _ _ _ 2 _ 0 (exC []); rw [exC_nil]; exact Own.nil _ _ _ _⟩, HF.out⟩
end Go.Proofs.Ytdadnajbdnbbdaa

/- store: Record. -/
namespace Go.Mv
open Go.RowKit Mvp
theorem run_slice_midS {P : Program} (w : World) {ty e : TypeId} (hu : P.underlying ty = some (.slice e)) (hsz : (P.info? e).map (·.size) = some 1) (b o n c : Nat) (k : IntKind) (l h : Nat) (hl : l ≤ h) (hh : h ≤ c) (hlc : l < c) :
    (Instr.sliceAt ty (.slice (some ⟨b, o, none⟩) n c) (some (.int k (l : Int))) (some (.int k (h : Int))) none).run P w = .ok (.slice (some ⟨b, o + l, none⟩) (h - l) (c - l)) w := by
  obtain ⟨i, hi1, hi2⟩ : ∃ i, P.info? e = some i ∧ i.size = 1 := by simpa using hsz
  have h1 : ¬ c = l := by omega
  simp [Instr.sliceAt, Instr.slice, run_underlying hu, Instr.sliceBounds, run_sliceBound, hl, hh, sizeOf, typeInfo, hi1, hi2, h1, Addr.add]
theorem exL_room {c : Nat → List UInt8 → List UInt8} (hc : ∀ i b, 8 ≤ (c i b).length) : ∀ (l : List (List UInt8)) (p i k f t : Nat), (exL p l)[k]? = some (f, t) → t + 8 ≤ p + (framesB c i l).length
  | [], p, i, k, f, t, h => by simp [exL] at h
  | a :: l, p, i, 0, f, t, h => by
    simp only [exL, List.getElem?_cons_zero, Option.some.injEq, Prod.mk.injEq] at h
    rw [framesB, List.length_append, frameB_len hc]
    omega
  | a :: l, p, i, k + 1, f, t, h => by
    have h2 := exL_room hc l (p + 12 + a.length) (i + 1) k f t (by simpa [exL] using h)
    rw [framesB, List.length_append, frameB_len hc]
    omega
theorem RdB.mid {w : World} {b o n : Nat} {l : List UInt8} (h : RdB w (some ⟨b, o, none⟩) n l) (k m : Nat) (hk : k + m ≤ n) : RdB w (some ⟨b, o + k, none⟩) m ((l.drop k).take m) := by
  have hlen := h.len
  refine ⟨by simp [bs]; omega, ?_⟩
  rcases Nat.eq_zero_or_pos m with h0 | h0
  · exact .inl h0
  · obtain ⟨b', o', he, ha⟩ := Rd.at h (by omega)
    cases he
    refine .inr ⟨b, o + k, rfl, ?_⟩
    rw [← bs_take, ← bs_drop]
    exact ha.sub k m
end Go.Mv
namespace Go.Proofs.Ytdadnajbdnbbdaa
open Go.RowKit Go.Mv Mvp
attribute [local irreducible] permS permP toB turnsK squeeze permN spongeB feed frameL framesL tagL bigN bigJ numS frameB framesB ckS exC SM.put SM.add
theorem z_ext : (Try.prog.info? 88).map (·.zero) = some (some (.agg #[.int .i64 0, .int .i64 0])) := by kernel_rfl
set_option maxHeartbeats 2000000 in
set_option maxRecDepth 100000 in
theorem sRecord_ok (g base lim : Nat) (s : SM) (v rv : Value) (k : Nat) (b : List UInt8) (w : World) (h : SAt1 w base g lim s v rv) (hi : SInv ckS s) (hk : s.recs[k]? = some b) (hd : s.d.length ≤ 2000000) :
    Calls Try.prog 25 #[.pointer (some ⟨g, 0, none⟩), .int .i64 (k : Int)] w fun e w' => ∃ v', e = .returned (.tuple #[v', .int .i64 0]) ∧ Own w' w.heap.size 5 1 v' b.length (bs b) ∧ Fr Nob w w' := by
  obtain ⟨f, hf1, hf2, hf3⟩ := hi.record ckS_len hk
  have hroom : f + b.length + 8 ≤ s.d.length := by
    have h1 := exL_room ckS_len s.recs 0 0 k f _ hf1
    obtain ⟨-, p, hd2, -⟩ := hi
    rw [hd2, List.length_append]
    omega
  obtain ⟨t, ht⟩ : ∃ t, f + b.length = t := ⟨_, rfl⟩
  rw [ht] at hf1 hf2 hroom
  have hkl : k < s.recs.length := by rw [List.getElem?_eq_some_iff] at hk; exact hk.1
  have hex := exC_at s.recs k f t hf1
  have hcnt := hi.count ckS_len
  have hex2 := h.exts
  rcases hex2.2 with ⟨-, h0⟩ | ⟨gr, or, cr, B, rfl, hbr, hgr, hnr, -, hlr, htr⟩
  · omega
  have hby := h.bytes
  rcases hby.2 with ⟨-, h0⟩ | ⟨gb, ob, cb, B2, rfl, hbb, hgb, hnb, -, hlb, htb⟩
  · omega
  have hrd := Rd.ofHas hgb ob (n := s.d.length * 1) (by omega)
  rw [htb, Nat.mul_one] at hrd
  have HRD := Lib.hid (show RdB w (some ⟨gb, ob, none⟩) s.d.length s.d from hrd)
  have hat : At w gr (or + k * 2) [.int .i64 (f : Int), .int .i64 (t : Int)] := by
    have h1 := Rd.ofHas hgr or (n := s.recs.length * 2) (by omega)
    rw [htr] at h1
    obtain ⟨b', o', he, ha⟩ := h1.at (by omega)
    cases he
    have h2 := ha.sub (k * 2) 2
    rwa [hex] at h2
  have HAT := Lib.hid hat
  have c4 := h.has.cell (i := 4) (v := .slice (some ⟨gr, or, none⟩) s.recs.length cr) rfl
  have H := Lib.hid h
  have HF2 := Lib.hid hf2
  have HF3 := Lib.hid hf3
  have HRM := Lib.hid hroom
  have HT := Lib.hid ht
  have HD := Lib.hid hd
  have HNB := Lib.hid hnb
  have hk0 : ¬ ((k : Int) < 0) := by omega
  have hk1 : ¬ ((s.recs.length : Int) ≤ (k : Int)) := by omega
  have hk2 : (k : Int) < (s.recs.length : Int) := by omega
  clear h hi hk hroom ht hf1 hf2 hf3 hex hcnt hex2 hby hrd hat hd hbr hgr hnr hlr htr hbb hgb hnb hlb htb hkl
  go_enter Try.func25, Try.ntmps25
  go_wp2_with (with_reducible refine wl_stop (o := ⟨some 24, _, _, _, _, _⟩) ?_)
  have st0 := St.start Nob w
  refine wl_loadR rfl rfl Try.underlying88 rfl rfl (cs := [.int .i64 (f : Int), .int .i64 (t : Int)]) HAT.out (by kernel_rfl) ?_
  try simp only [Act.put, List.setIfInBounds_toArray, List.set_cons_zero, List.set_cons_succ]
  refine wl_allocS st0 rfl rfl z_ext [.int .i64 0, .int .i64 0] rfl ?_
  intro g6 w1 st1
  try simp only [Act.put, List.setIfInBounds_toArray, List.set_cons_zero, List.set_cons_succ]
  refine wl_storeS st1 0 rfl rfl rfl rfl rfl (cs := [.int .i64 (f : Int), .int .i64 (t : Int)]) rfl (by kernel_rfl) (by intro u hu; simp only [List.mem_cons, List.not_mem_nil, or_false] at hu; rcases hu with rfl | rfl <;> rfl) ?_
  intro w2 st2
  clear st0 st1 c4
  simp only [List.nil_append, List.set_cons_zero] at st2
  have HSS := Lib.hid (show SAt1 w2 base g lim s (.slice (some ⟨gb, ob, none⟩) s.d.length cb) (.slice (some ⟨gr, or, none⟩) s.recs.length cr) ∧ Has w2 g6 [.int .i64 (f : Int), .int .i64 (t : Int)] 88 from ⟨H.out.still st2.fr, st2.at 0 rfl⟩)
  have HFR := Lib.hid st2.fr
  clear st2
  go_wp2_with fail
  refine wp_region_noPanic ?_
  refine wp_region_plan (fun wx => SAt1 wx base g lim s (.slice (some ⟨gb, ob, none⟩) s.d.length cb) (.slice (some ⟨gr, or, none⟩) s.recs.length cr) ∧ Has wx g6 [.int .i64 (f : Int), .int .i64 (t : Int)] 88) 10 (.w 0 (.w 1 (.w 2 (.w 3 (.t 4 (.w 5 (.t 6 (.w 7 (.t 8 (.w 9 (.m 10 (.m 11 (.m 12 .nil))))))))))))) (by kernel_rfl) (by kernel_rfl) ⟨HSS.out.1.still (Fr.refl Nob _).drew, HSS.out.2.drew⟩ (fun _ _ _ _ _ h => h) ?_
  refine plan_w (v := ?_) rfl rfl (fun wx => ?_) ?_; rotate_left 1; (go_simp; with_reducible rfl)
  try simp only [Act.put, List.setIfInBounds_toArray, List.set_cons_zero, List.set_cons_succ]
  refine plan_w (v := ?_) rfl rfl (fun wx => ?_) ?_; rotate_left 1; (go_simp; with_reducible rfl)
  try simp only [Act.put, List.setIfInBounds_toArray, List.set_cons_zero, List.set_cons_succ]
  refine plan_w (v := ?_) rfl rfl (fun wx => ?_) ?_; rotate_left 1; (go_simp; with_reducible rfl)
  try simp only [Act.put, List.setIfInBounds_toArray, List.set_cons_zero, List.set_cons_succ]
  refine plan_w (v := ?_) rfl rfl (fun wx => ?_) ?_; rotate_left 1; (go_simp; with_reducible rfl)
  try simp only [Act.put, List.setIfInBounds_toArray, List.set_cons_zero, List.set_cons_succ]
  refine plan_t (v := .slice (some ⟨gb, ob, none⟩) s.d.length cb) rfl rfl (fun wx hS => ?_) ?_
  · have hc := hS.1.has.cell (i := 0) (v := .slice (some ⟨gb, ob, none⟩) s.d.length cb) rfl; clear hS; go_simp
  try simp only [Act.put, List.setIfInBounds_toArray, List.set_cons_zero, List.set_cons_succ]
  refine plan_w (v := ?_) rfl rfl (fun wx => ?_) ?_; rotate_left 1; (go_simp; with_reducible rfl)
  try simp only [Act.put, List.setIfInBounds_toArray, List.set_cons_zero, List.set_cons_succ]
  refine plan_t (v := .int .i64 (f : Int)) rfl rfl (fun wx hS => ?_) ?_
  · have hc := hS.2.cell (i := 0) (v := .int .i64 (f : Int)) rfl; clear hS; go_simp
  try simp only [Act.put, List.setIfInBounds_toArray, List.set_cons_zero, List.set_cons_succ]
  refine plan_w (v := ?_) rfl rfl (fun wx => ?_) ?_; rotate_left 1; (go_simp; with_reducible rfl)
  try simp only [Act.put, List.setIfInBounds_toArray, List.set_cons_zero, List.set_cons_succ]
  refine plan_t (v := .int .i64 (t : Int)) rfl rfl (fun wx hS => ?_) ?_
  · have hc := hS.2.cell (i := 1) (v := .int .i64 (t : Int)) rfl; clear hS; go_simp
  try simp only [Act.put, List.setIfInBounds_toArray, List.set_cons_zero, List.set_cons_succ]
  have hsl := fun wx => run_slice_midS (P := Try.prog) wx Try.underlying22 (by kernel_rfl) gb ob s.d.length cb .i64 f t (by have := HT.out; omega) (by have := HF2.out; have := HNB.out; omega) (by have := HRM.out; have := HT.out; have := HNB.out; omega)
  refine plan_w (v := ?_) rfl rfl (fun wx => ?_) ?_; rotate_left 1; (go_simp; with_reducible rfl)
  try simp only [Act.put, List.setIfInBounds_toArray, List.set_cons_zero, List.set_cons_succ]
  clear hsl
  refine plan_m rfl rfl ?_
  go_simp
  refine (bclone_big (some ⟨gb, ob + f, none⟩) (t - f) (cb - f) b _ (by have := HF2.out; have := HD.out; omega) ?_ (by intro h; cases h)).mono ?_
  · have h1 := RdB.mid HRD.out f (t - f) (by have := HF2.out; have := HT.out; omega)
    rw [show t - f = b.length by have := HT.out; omega] at h1 ⊢
    rw [HF3.out] at h1
    exact h1.still (HFR.out.then (Fr.refl Nob _).drew)
  rintro e w5 ⟨v', rfl, ho, hf⟩
  have HO := Lib.hid ho
  have HF := Lib.hid (HFR.out.then ((Fr.refl Nob _).drew.then hf))
  clear ho hf
  try simp only []
  refine plan_m rfl rfl ?_
  go_simp
  try simp only [Act.put, List.setIfInBounds_toArray, List.set_cons_zero, List.set_cons_succ]
  refine plan_m rfl rfl ?_
  go_simp
  try simp only [Act.put, List.setIfInBounds_toArray, List.set_cons_zero, List.set_cons_succ]
  refine plan_end ?_
  refine NoPanic.normal ?_
  go_wp2_with fail
  go_ret2
  exact ⟨v', rfl, by rw [show b.length = t - f by have := HT.out; omega]; exact HO.out.mono HFR.out.size, HF.out⟩
end Go.Proofs.Ytdadnajbdnbbdaa

/- Two blocks that were made in the other order. -/
namespace Go.Mv
open Go.RowKit
end Go.Mv

/- A region that draws its order, told as a chain of steps beside fresh blocks (allocs) that may be made at any time between their opening and their joint: each step is shown once. -/
namespace Go.Mv
open Go.RowKit
abbrev Blk := Nat × List Value × TypeId
/-- one place of a function turned -/
def upd (x : Nat → Value) (i : Nat) (v : Value) : Nat → Value := fun k => if k = i then v else x k
/-- w, t: taken ahead; c: carried out; o: from here on a block may be made; j: by here it is made -/
inductive LS where
  | w (i : Nat)
  | t (i : Nat)
  | c (i : Nat)
  | o (i : Nat)
  | j (i : Nat)
section
variable {P : Program} {ops : Array Oper} {md : Region.Mode} {Q : Exit → Act → World → Prop} {Sx : World → Prop} {m : Nat} {S : Nat → Prop} {w0 : World} {tl : Pl}
/-- what makes one block of its own, in whatever world -/
def Mk (P : Program) (e : Sem Next) (v : Nat → Value) (L : List Value) (T : TypeId) : Prop :=
  ∀ w, ∃ g w', e.run P w = .ok (.value (v g)) w' ∧ Fr Nob w w' ∧ w.heap.size ≤ g ∧ Has w' g L T
/-- an open block: the operation, its value, its cells -/
abbrev Flt := Nat × (Nat → Value) × List Value × TypeId
def dstNe (ops : Array Oper) (i : Nat) (opn : List Nat) : Bool := opn.all fun k => match ops[i]?, ops[k]? with | some a, some b => a.apart ops b | _, _ => false
theorem put_comm (a : Act) (d e : Option Tmp) (u v : Value) (h : e ≠ d ∨ e = none) : (a.put e u).put d v = (a.put d v).put e u := by
  cases d <;> cases e <;> simp only [Act.put]
  · rename_i x y
    have hn : y ≠ x := fun k => by subst k; rcases h with h | h; exact h rfl; cases h
    rw [Array.setIfInBounds_comm _ _ hn]
theorem dst_ap {i : Nat} {opn : List Nat} {o : Oper} (h : dstNe ops i opn = true) (ho : ops[i]? = some o) {k : Nat} {ok : Oper} (hk : k ∈ opn) (hok : ops[k]? = some ok) : o.apart ops ok = true := by
  have := List.all_eq_true.1 h k hk
  simp only [ho, hok] at this
  exact this
theorem ap_dst {o ok : Oper} (h : o.apart ops ok = true) : o.dst ≠ ok.dst ∨ o.dst = none := by
  obtain ⟨-, h2, -⟩ := Oper.apart_spec h
  cases hd : o.dst with
  | none => exact .inr rfl
  | some d => exact .inl fun e => h2 d hd e.symm
structure Fls (P : Program) (ops : Array Oper) (Γ : List Flt) (A : (Nat → Value) → Act) : Prop where
  nd : (Γ.map Prod.fst).Nodup
  ok : ∀ q ∈ Γ, ∃ o e, ops[q.1]? = some o ∧ o.guard = none ∧ (∀ x, execOp (A x).eval o = e) ∧ Mk P e q.2.1 q.2.2.1 q.2.2.2
  put : ∀ k ∈ Γ.map Prod.fst, ∀ o, ops[k]? = some o → ∀ x v, (A x).put o.dst v = A (upd x k v)
  not : ∀ k, k ∉ Γ.map Prod.fst → ∀ x v, A (upd x k v) = A x
theorem Fls.step {Γ : List Flt} {A : (Nat → Value) → Act} (h : Fls P ops Γ A) (hsel : Region.noSelect ops = true) {i : Nat} {o : Oper} (ho : ops[i]? = some o) (hd : dstNe ops i (Γ.map Prod.fst) = true) (v : Value) : Fls P ops Γ (fun x => (A x).put o.dst v) := by
  refine ⟨h.nd, fun q hq => ?_, fun k hk ok hok x u => ?_, fun k hk x u => by rw [h.not k hk]⟩
  · obtain ⟨o2, e, h1, h2, h3, h4⟩ := h.ok q hq
    have hap := dst_ap hd ho (List.mem_map_of_mem hq) h1
    refine ⟨o2, e, h1, h2, fun x => ?_, h4⟩
    rw [execOp_put (ops := ops) o2 (fun cs b => Region.noSelect_spec hsel q.1 o2 cs b h1) (A x) o.dst v (Oper.apart_spec hap).1]
    exact h3 x
  · rw [put_comm _ _ _ _ _ (ap_dst (dst_ap hd ho hk hok)), h.put k hk ok hok]
/- the steps -/
variable {l : List Oper} {i : Nat} {s : List LS} {Γ : List Flt} {BL : List Blk} {R : World → Prop} {A : (Nat → Value) → Act} {o : Oper}
variable {rest : List Oper} {a : Act} {w : World}
end
end Go.Mv

/- More makers of one block for the steps of a drawn region: slice literals, boxes; operations that only yield a value. -/
namespace Go.Mv
open Go.RowKit
section
variable {P : Program} {Q : Exit → Act → World → Prop} {Sx : World → Prop} {S : Nat → Prop} {w0 : World} {tl : Pl} {l : List Oper} {i : Nat} {s : List LS} {Γ : List Flt} {BL : List Blk} {R : World → Prop} {A : (Nat → Value) → Act} {o : Oper}
end
end Go.Mv

/- A slice of bytes turned into its own type (a literal text's bytes): the block is marked behind its end, its cells stay. -/
namespace Go.Mv
open Go.RowKit
variable {P : Program}
theorem run_conv_same {w : World} {g : Nat} {L : List Value} {t e : TypeId} (n c : Nat) (ht : P.underlying t = some (.slice e)) (he : P.underlying e = some (.int .u8)) (hg : Has w g L e) :
    ∃ w', (convert t t (.slice (some ⟨g, 0, none⟩) n c)).run P w = .ok (.slice (some ⟨g, 0, none⟩) n c) w' ∧ Has w' g L e ∧ Fr (One g) w w' ∧ w'.heap.size = w.heap.size := by
  obtain ⟨lo, hi, hh, hlh⟩ := hg
  have hsh : w.shape? g = some (e, L.toArray.size) := by unfold World.shape?; rw [hh]
  refine ⟨w.freeze ⟨g, L.toArray.size, none⟩ 1, ?_, ?_, ?_, ?_⟩
  · simp [convert, run_underlying ht, run_underlying he, Go.markStringish, hsh]
  · unfold World.freeze
    rw [if_neg (by decide)]
    have hm : ∀ lo2 hi2, (if lo == hi then (L.toArray.size, L.toArray.size + 1) else (min lo L.toArray.size, max hi (L.toArray.size + 1))) = (lo2, hi2) → (w.heap.modify g fun | .cells c elem (lo, hi) => .cells c elem (if lo == hi then (L.toArray.size, L.toArray.size + 1) else (min lo L.toArray.size, max hi (L.toArray.size + 1))) | o => o)[g]? = some (.cells L.toArray e (lo2, hi2)) := by
      intro lo2 hi2 h
      rw [Array.getElem?_modify, if_pos rfl, hh, ← h]
      rfl
    by_cases hq : (lo == hi) = true
    · exact ⟨_, _, hm _ _ (by rw [if_pos hq]), .inr (by simp)⟩
    · rcases hlh with h | h
      · exact absurd (by simpa using h) hq
      · exact ⟨_, _, hm _ _ (by rw [if_neg hq]), .inr (by simp; omega)⟩
  · unfold World.freeze
    rw [if_neg (by decide)]
    refine ⟨rfl, rfl, rfl, by simp, fun k hk hs => ?_⟩
    have hne : ¬ g = k := fun h => hs (show k = g from h.symm)
    show (w.heap.modify g _)[k]? = _
    rw [Array.getElem?_modify, if_neg hne]
  · unfold World.freeze
    rw [if_neg (by decide)]
    simp
theorem wl_conv_same {ops : Array Oper} {rest : List Oper} {o : Oper} {a : Act} {w : World} {Q : Exit → Act → World → Prop} {x : Operand} {g : Nat} {L : List Value} {t e : TypeId} {n c : Nat} (hgd : o.guard = none) (ho : o.op = .convert t t x) (ht : P.underlying t = some (.slice e)) (he : P.underlying e = some (.int .u8))
    (hx : a.eval x = .slice (some ⟨g, 0, none⟩) n c) (hg : Has w g L e) (h : ∀ w', Has w' g L e → Fr (One g) w w' → w'.heap.size = w.heap.size → wpList P ops Q rest (a.put o.dst (.slice (some ⟨g, 0, none⟩) n c)) w') : wpList P ops Q (o :: rest) a w := by
  refine wpList_plain hgd fun K hK => ?_
  obtain ⟨w', h1, h2, h3, h4⟩ := run_conv_same n c ht he hg
  unfold Oper.wp execOp
  simp only [ho, hx, Sem.run_bind, h1, Result.andThen_ok, Sem.run_pure]
  exact hK _ _ (h w' h2 h3 h4)
end Go.Mv

/- From a walk that turns nothing (Fr Nob) to what a law's row asks behind the call. -/
namespace Go.Mv
open Go.RowKit Go.ChangeShapes Go.WideShapes

/-- the arguments read behind the call as they read before -/
theorem Below.trodAll {H : Type} {enc : TypeId × Value → H} {P : Program} (hl : laidOutB P = true) {W W' : World} (hb : Below W.heap.size W W') :
    ∀ (ts : List TypeId) (vs : List Value) (ds : List (DataW H)) (ps : List MemPlace), (∀ t ∈ ts, P.readableRec t = true ∧ t < P.types.size) → DataW.TrodAll enc P W 0 (fun _ => true) true ts vs ds ps → (∀ x ∈ ps, x.block < W.heap.size) →
      DataW.TrodAll enc P W' 0 (fun b => decide (b < W.heap.size)) true ts vs ds ps
  | [], vs, ds, ps, _, h, _ => by
    obtain ⟨rfl, rfl, rfl⟩ := trodAll_nil h
    exact trodAll_mk0
  | t :: ts, vs, ds, ps, hr, h, hlt => by
    obtain ⟨v, vs', d, ds', p, q, rfl, rfl, rfl, h0, hs⟩ := trodAll_cons h
    have h1 := hr t (by simp)
    exact trodAll_cons_mk (Below.trod hl h1.1 h1.2 h0 hb (fun x hx => hlt x (by simp [hx]))) (Below.trodAll hl hb ts vs' ds' q (fun t ht => hr t (by simp [ht])) hs (fun x hx => hlt x (by simp [hx])))

/-- what a law's row asks behind the call -/
theorem law_post {H : Type} {enc : TypeId × Value → H} {P : Program} {f : Func} {s : ChangeSpec} {W W' : World} {args : Array Value} {ds gs : List (DataW H)} {before : List MemPlace}
    (hl : laidOutB P = true) (hr : ∀ t ∈ f.params.toList, P.readableRec t = true ∧ t < P.types.size) (hW : DataW.Whole enc P f.params.toList s.vars false W args.toList ds gs before)
    (hv : s.vars = []) (hres : (s.fn H (ds ++ gs)).results = [.lit (.bool true)]) (harg : (s.fn H (ds ++ gs)).args = ds) (hvar : (s.fn H (ds ++ gs)).vars = [])
    {tb : TypeId} (hrt : f.resultTypes = #[tb]) (hu : P.underlying tb = some .bool) (hf : Fr Nob W W') :
    s.post enc P f false true false false W args (.bool true) W' := by
  have hW' := hW
  obtain ⟨p, q, hA, hV, rfl, hfz, hnd⟩ := hW
  rw [hv] at hV
  obtain ⟨rfl, rfl⟩ := trodVars_none hV
  have hlt : ∀ x ∈ p ++ [], x.block < W.heap.size := fun x hx => hW'.lt x hx
  refine ⟨ds, [], p ++ [], [], p, [], hW', ?_, ?_, ?_, World.keptBut_mono (fun x hx => ⟨hx, ?_⟩) (hf.below.frame (· ∈ p ++ [])), fun h => by cases h⟩
  · rw [hres, hrt]
    exact trodAll_mk1 (shut_bool hu true)
  · rw [harg]
    exact Below.trodAll hl hf.below _ _ _ _ hr hA (fun x hx => hlt x (by simp [hx]))
  · rw [hvar, hv]; exact rfl
  · simp only [List.append_nil] at hx
    exact .inr (.inl hx)
end Go.Mv
