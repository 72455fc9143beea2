/- wire: the writer; number (printed by gen_wp2.py); wire: head (printed by gen_wp3.py); wire: must; wire: bytes.Compare; the map of shapes; what fits; wire: items in memory; the look-up of a shape; what fits; A region that draws its order, by facts that stay: each operation of the front is shown once, in every world in which the facts of those that it waits for hold; then a tail. -/
import Derived.Test.YtdadnajbdnbbdaaDoorMgWirePrintsProof1
import Derived.Test.YtdadnajbdnbbdaaDoorProg
import Derived.WalkLawsBesides
import Derived.Lib.Bytealg
import Derived.Lib.UnsafeStr
import Derived.MapKept
namespace Go.Mv
open Go.RowKit Mvp
theorem wp_appendW {P : Program} {w : World} {o : Oper} {a : Act} {K : Act → World → Prop} {Q : Exit → Act → World → Prop} {s x : Operand} {t : TypeId} {e : TypeId} {z : Value} {sz by_ : Nat} {v : Value} {n base : Nat} {L : List Value} (hown : Own w base e sz v n L) (ho : o.op = .call { callee := .builtin .append, args := #[s, x], argTypes := #[t, t] })
    (ht : P.underlying t = some (.slice e)) (hi0 : (P.info? e).map (fun i => (i.zero, i.size, i.bytes)) = some (some z, sz, by_))
    (hzs : z.cells.size = sz) (hsz : 0 < sz) (hs : a.eval s = v)
    {xa : Option Addr} {m c : Nat} {news : List Value} (hx : a.eval x = .slice xa m c) (hnews : Rd w xa (m * sz) news) (h1 : ∀ u ∈ news, u.oneCell' = true)
    (h63 : n + m ≤ maxLen) (hbytes : (n + m) * by_ ≤ 140737488355328) (hbase : base ≤ w.heap.size)
    (h : ∀ v' w', Own w' base e sz v' (n + m) (L ++ news) → Fr (OwnB v) w w' → Kept v n sz w w' → (((∃ x o cap, v = .slice (some ⟨x, o, none⟩) n cap ∧ v' = .slice (some ⟨x, o, none⟩) (n + m) cap) ∨ (m = 0 ∧ v' = v)) ∨ (v'.ownBlock = some w.heap.size ∧ Fr Nob w w')) → K (a.put o.dst v') w') : o.wp P a w K Q := by
  obtain ⟨v', w', hr, h2, h3, h4, h5⟩ := run_append3 (P := P) base t o.type e z sz by_ ht hi0 hzs hsz v n L hown xa m c news hnews h1 h63 hbytes hbase
  unfold Oper.wp execOp
  simp only [ho, resolve, invoke, builtin, Sem.run_bind, Sem.run_pure, Result.andThen_ok, List.map_toArray, List.map_cons, List.map_nil, hs, hx, hr]
  exact h v' w' h2 h3 h4 h5
/-- a reading that a writer does not spoil: it lies elsewhere, or ahead of the writer's end -/
def WrP (w : World) (gw : Nat) (v : Value) (n : Nat) (a : Option Addr) (m : Nat) (x : List UInt8) : Prop :=
  RdB w a m x ∧ (0 < m → ∀ g o, a = some ⟨g, o, none⟩ → g ≠ gw ∧ ∀ o' cap, v = .slice (some ⟨g, o', none⟩) n cap → o + m ≤ o' + n)
structure Gh where
  w : World
  v : Value
  n : Nat
/-- what was not to be spoiled then is not now; no other block has turned -/
structure Gr (q : Gh) (gw : Nat) (w : World) (v : Value) (n : Nat) : Prop where
  rd : ∀ a m x, WrP q.w gw q.v q.n a m x → WrP w gw v n a m x
  blk : ∀ g, g < q.w.heap.size → g ≠ gw → ¬ OwnB q.v g → w.heap[g]? = q.w.heap[g]? ∧ ¬ OwnB v g
theorem blk_lt {w w' : World} {g : Nat} (h : g < w.heap.size) (e : w'.heap[g]? = w.heap[g]?) : g < w'.heap.size := by
  rcases Nat.lt_or_ge g w'.heap.size with k | k
  · exact k
  · rw [Array.getElem?_eq_none k, Array.getElem?_eq_getElem h] at e; cases e
theorem Gr.refl (gw : Nat) (w : World) (v : Value) (n : Nat) : Gr ⟨w, v, n⟩ gw w v n := ⟨fun _ _ _ h => h, fun _ _ _ h => ⟨rfl, h⟩⟩
theorem Gr.trans {q : Gh} {gw : Nat} {w w' : World} {v v' : Value} {n n' : Nat} (h : Gr q gw w v n) (k : Gr ⟨w, v, n⟩ gw w' v' n') : Gr q gw w' v' n' :=
  ⟨fun a m x hx => k.rd a m x (h.rd a m x hx), fun g h1 h2 h3 => by
    have a1 := h.blk g h1 h2 h3
    have a2 := k.blk g (blk_lt h1 a1.1) h2 a1.2
    exact ⟨a2.1.trans a1.1, a2.2⟩⟩
theorem Gr.fr {q : Gh} {gw : Nat} {w w' : World} {v : Value} {n : Nat} (h : Gr q gw w v n) (hf : Fr Nob w w') : Gr q gw w' v n :=
  ⟨fun a m x hx => ⟨(h.rd a m x hx).1.still hf, (h.rd a m x hx).2⟩, fun g h1 h2 h3 => by
    have a1 := h.blk g h1 h2 h3
    exact ⟨(hf.block g (blk_lt h1 a1.1) id).trans a1.1, a1.2⟩⟩
theorem RdB.zero {w w' : World} {a : Option Addr} {m : Nat} {x : List UInt8} (h : RdB w a m x) (hm : m = 0) : RdB w' a m x := ⟨h.1, .inl hm⟩
theorem Gr.set {q : Gh} {gw : Nat} {w w' : World} {v : Value} {n : Nat} (h : Gr q gw w v n) (hf : Fr (One gw) w w') : Gr q gw w' v n := by
  refine ⟨fun a m x hx => ?_, fun g h1 h2 h3 => ?_⟩
  · have h1 := h.rd a m x hx
    refine ⟨?_, h1.2⟩
    rcases Nat.eq_zero_or_pos m with h0 | h0
    · exact h1.1.zero h0
    · obtain ⟨g, o, e, -⟩ := Rd.at h1.1 h0
      refine h1.1.keep hf fun y hy (e2 : y.block = gw) => ?_
      rw [e] at hy; cases hy
      exact (h1.2 h0 g o e).1 e2
  · have a1 := h.blk g h1 h2 h3
    exact ⟨(hf.block g (blk_lt h1 a1.1) h2).trans a1.1, a1.2⟩
theorem Gr.app {q : Gh} {gw : Nat} {w w' : World} {v v' : Value} {n k : Nat} (h : Gr q gw w v n) (hf : Fr (OwnB v) w w') (hk : Kept v n 1 w w') (hb : ((∃ x o cap, v = .slice (some ⟨x, o, none⟩) n cap ∧ v' = .slice (some ⟨x, o, none⟩) (n + k) cap) ∨ (k = 0 ∧ v' = v)) ∨ (v'.ownBlock = some w.heap.size ∧ Fr Nob w w')) : Gr q gw w' v' (n + k) := by
  refine ⟨fun a m x hx => ?_, fun g h1 h2 h3 => ?_⟩
  · have h1 := h.rd a m x hx
    rcases Nat.eq_zero_or_pos m with h0 | h0
    · exact ⟨h1.1.zero h0, fun h2 => by omega⟩
    · refine ⟨Kept.rd hk h1.1 fun b o o' cap e1 e2 => ?_, fun _ g o e1 => ⟨(h1.2 h0 g o e1).1, fun o' cap e2 => ?_⟩⟩
      · have := (h1.2 h0 b o e1).2 o' cap e2
        omega
      · have h2 := (h1.2 h0 g o e1).2
        rcases hb with (⟨y, o2, cap2, e3, e4⟩ | ⟨rfl, rfl⟩) | ⟨e3, -⟩
        · rw [e4] at e2; cases e2
          have := h2 _ _ e3
          omega
        · have := h2 _ _ e2
          omega
        · obtain ⟨b, o3, e4, hat⟩ := Rd.at h1.1 h0
          rw [e1] at e4; cases e4
          rw [e2] at e3
          have e5 : g = w.heap.size := by simpa [Value.ownBlock] using e3
          have hl : 0 < (bs x).length := by rw [h1.1.1]; exact h0
          have e6 : g < w.heap.size := block_lt_of_cell (hat.cell hl)
          omega
  · have a1 := h.blk g h1 h2 h3
    have hlt := blk_lt h1 a1.1
    refine ⟨(hf.block g hlt a1.2).trans a1.1, fun hv => ?_⟩
    rcases hb with (⟨y, o2, cap2, e3, e4⟩ | ⟨rfl, rfl⟩) | ⟨e3, -⟩
    · refine a1.2 ?_
      rw [e3]; rw [e4] at hv
      exact hv
    · exact a1.2 hv
    · unfold OwnB at hv
      rw [e3] at hv
      have : w.heap.size = g := Option.some.inj hv
      omega
theorem Own.offW {w w' : World} {base : Nat} {T : TypeId} {sz : Nat} {v : Value} {n : Nat} {L : List Value} (h : Own w base T sz v n L) {g : Nat} {L' : List Value} {T' : TypeId} (hg : Has w g L' T') (hT : T ≠ T') (hf : Fr (One g) w w') : Own w' base T sz v n L :=
  h.keep hf fun k hk (e : k = g) => h.ne hg hT (e ▸ hk)
theorem Has.offW {w w' : World} {base : Nat} {T : TypeId} {sz : Nat} {v : Value} {n : Nat} {L : List Value} (h : Own w base T sz v n L) {g : Nat} {L' : List Value} {T' : TypeId} (hg : Has w g L' T') (hT : T ≠ T') (hf : Fr (OwnB v) w w') : Has w' g L' T' :=
  hg.keep hf (h.ne hg hT)
theorem shr_natW (n k : Nat) (kI : Int) (hk : kI = (k : Int)) (hn : n < 18446744073709551616) : Op.shift .shr .u64 (n : Int) .i64 kI = pure (.int .u64 ((n / 2 ^ k : Nat) : Int)) := by
  subst hk
  have h := shr_run (UInt64.ofNat n) .i64 k
  rw [shr_toNat, UInt64.toNat_ofNat', Nat.mod_eq_of_lt (show n < 2 ^ 64 from hn)] at h
  exact h
theorem u8_wrapW (x : Int) : IntKind.u8.wrap x = x % 256 := by simp [IntKind.wrap, IntKind.bits, IntKind.signed]
end Go.Mv
namespace Go.Proofs.YtdadnajbdnbbdaaDoor
open Go.RowKit Go.Mv Mvp
theorem info_u8W : (Tryd.prog.info? 5).map (fun i => (i.zero, i.size, i.bytes)) = some (some (.int .u8 0), 1, 1) := by kernel_rfl
/-- a writer in memory: what is left of the count, what was written -/
structure WrS (q : Gh) (w0 w : World) (gw : Nat) (left : Int) (v : Value) (b : List UInt8) : Prop where
  h : Has w gw [.int .i64 left, v] 41
  o : Go.Mv.Own w w0.heap.size 5 1 v b.length (bs b)
  f : Fr Nob w0 w
  g : w0.heap.size ≤ gw
  k : Gr q gw w v b.length
set_option maxHeartbeats 4000000 in
set_option maxRecDepth 1000000 in
theorem number_any (q : Gh) (w0 w : World) (gw n z : Nat) (left : Int) (v : Value) (b : List UInt8) (h : WrS q w0 w gw left v b) (hn : n < 18446744073709551616) (hz : z ≤ 8) (hb : b.length ≤ 1000000) :
    Calls Tryd.prog 25 #[.pointer (some ⟨gw, 0, none⟩), .int .u64 (n : Int), .int .i64 (z : Int)] w fun e w' => e = .returned (.tuple #[]) ∧ ∃ v', WrS q w0 w' gw left v' (b ++ beW n z) := by
  have H := Lib.hid h
  have HB := Lib.hid hb
  have HN := Lib.hid hn
  have hzI : (z : Int) ≤ 8 := by omega
  clear h hb hn
  go_enter Tryd.func25, Tryd.ntmps25
  go_wp2_with fail
  go_loopw [2] (fun i wr => ∃ (k : Nat) (v' : Value) (b' : List UInt8), k ≤ 8 ∧ i = .int .i64 ((k : Int) - 1) ∧ Hid (b' ++ beW n k = b ++ beW n z) ∧ Hid (b'.length + k ≤ 1000008) ∧ Hid (WrS q w0 wr gw left v' b')) (fun i _ => (intOf i + 1).toNat)
  case atStart => exact ⟨z, v, b, hz, rfl, Lib.hid rfl, Lib.hid (by have := HB.out; omega), H⟩
  case round =>
    obtain ⟨k, v', b', hk, rfl, HE, HL, HW⟩ := hrel
    obtain rfl | rfl | rfl | rfl | rfl | rfl | rfl | rfl | rfl : k = 0 ∨ k = 1 ∨ k = 2 ∨ k = 3 ∨ k = 4 ∨ k = 5 ∨ k = 6 ∨ k = 7 ∨ k = 8 := by omega
    · have hk1 : ((0 : Nat) : Int) - 1 = -1 := rfl
      simp only [hk1]
      go_wp2_with fail
      go_end0
      exact ⟨rfl, v', by have h := HE.out; rw [show beW n 0 = [] from rfl, List.append_nil] at h; rw [← h]; exact HW.out⟩
    · have hk1 : ((1 : Nat) : Int) - 1 = 0 := rfl
      simp only [hk1]
      go_wp2_with fail
      refine wp_region_noPanic ?_
      refine wp_region_plan (fun wx => Has wx gw [.int .i64 left, v'] 41) 14 (.w 0 (.w 1 (.w 2 (.w 3 (.t 4 (.w 5 (.w 6 (.w 7 (.w 8 (.w 9 (.r 10 (.r 11 (.w 12 (.w 13 (.m 14 .nil))))))))))))))) (by kernel_rfl) (by kernel_rfl) HW.out.h.drew (fun _ _ _ _ _ h => h) ?_
      refine plan_w (v := ?_) rfl rfl (fun wx => ?_) ?_; rotate_left 1; (go_simp; with_reducible rfl)
      try simp only [Act.put, List.setIfInBounds_toArray, List.set_cons_zero, List.set_cons_succ]
      refine plan_w (v := ?_) rfl rfl (fun wx => ?_) ?_; rotate_left 1; (go_simp; with_reducible rfl)
      try simp only [Act.put, List.setIfInBounds_toArray, List.set_cons_zero, List.set_cons_succ]
      refine plan_w (v := ?_) rfl rfl (fun wx => ?_) ?_; rotate_left 1; (go_simp; with_reducible rfl)
      try simp only [Act.put, List.setIfInBounds_toArray, List.set_cons_zero, List.set_cons_succ]
      refine plan_w (v := ?_) rfl rfl (fun wx => ?_) ?_; rotate_left 1; (go_simp; with_reducible rfl)
      try simp only [Act.put, List.setIfInBounds_toArray, List.set_cons_zero, List.set_cons_succ]
      refine plan_t (v := v') rfl rfl (fun wx hS => ?_) ?_
      · have hc := hS.cell (i := 1) (v := v') rfl; clear hS; go_simp
      try simp only [Act.put, List.setIfInBounds_toArray, List.set_cons_zero, List.set_cons_succ]
      refine plan_w (v := ?_) rfl rfl (fun wx => ?_) ?_; rotate_left 1; (go_simp; with_reducible rfl)
      try simp only [Act.put, List.setIfInBounds_toArray, List.set_cons_zero, List.set_cons_succ]
      refine plan_w (v := ?_) rfl rfl (fun wx => ?_) ?_; rotate_left 1; (go_simp; with_reducible rfl)
      try simp only [Act.put, List.setIfInBounds_toArray, List.set_cons_zero, List.set_cons_succ]
      refine plan_w (v := .int .i64 0) rfl rfl (fun wx => ?_) ?_
      · go_simp <;> decide
      try simp only [Act.put, List.setIfInBounds_toArray, List.set_cons_zero, List.set_cons_succ]
      refine plan_w (v := .int .u64 ((n / 1 : Nat) : Int)) rfl rfl (fun wx => ?_) ?_
      · have hs := shr_natW n 0 0 rfl HN.out
        first | (go_simp; done) | (go_simp; rw [hs]; done) | (go_simp; rw [hs]; go_simp; done)
      try simp only [Act.put, List.setIfInBounds_toArray, List.set_cons_zero, List.set_cons_succ]
      refine plan_w (v := .int .u8 (((UInt8.ofNat (n / 1)).toNat : Nat) : Int)) rfl rfl (fun wx => ?_) ?_
      · rw [UInt8.toNat_ofNat']; go_simp; exact u8_wrapW _
      try simp only [Act.put, List.setIfInBounds_toArray, List.set_cons_zero, List.set_cons_succ]
      refine plan_r rfl rfl ?_
      refine wp_rows (St.start Nob wr.drew) rfl Tryd.underlying24 info_u8W [(.int .u8 (((UInt8.ofNat (n / 1)).toNat : Nat) : Int))] rfl (by intro u hu; simp only [List.mem_singleton] at hu; subst hu; rfl) rfl (bs [UInt8.ofNat (n / 1)]) rfl ?_
      intro gl w5 st5
      refine ⟨HW.out.h.keep ((Fr.refl Nob wr).drew.then st5.fr) id, ?_⟩
      try simp only [Act.put, List.setIfInBounds_toArray, List.set_cons_zero, List.set_cons_succ]
      have hd5 := (Fr.refl Nob wr).drew.then st5.fr
      have HO5 := Lib.hid (HW.out.o.still hd5)
      refine plan_r rfl rfl ?_
      refine wp_appendW HO5.out rfl Tryd.underlying24 info_u8W rfl (by decide) rfl (m := 1) (news := bs [UInt8.ofNat (n / 1)]) rfl (show Rd w5 (some ⟨gl, 0, none⟩) (1 * 1) (bs [UInt8.ofNat (n / 1)]) from Rd.whole (st5.at 0 rfl)) (bs_one _) (by unfold maxLen; have := HL.out; omega) (by have := HL.out; omega) (Nat.le_trans HW.out.f.size hd5.size) ?_
      intro v6 w6 ho6 hf6 hk6 hb6
      have ho6' : Go.Mv.Own w6 w0.heap.size 5 1 v6 (b' ++ [UInt8.ofNat (n / 1)]).length (bs (b' ++ [UInt8.ofNat (n / 1)])) := by
        rw [bs_append, List.length_append]; exact ho6
      have hh6 := Has.offW HO5.out (HW.out.h.keep hd5 id) (by decide) hf6
      refine ⟨hh6, ?_⟩
      try simp only [Act.put, List.setIfInBounds_toArray, List.set_cons_zero, List.set_cons_succ]
      have hg6 : Gr q gw w6 v6 (b' ++ [UInt8.ofNat (n / 1)]).length := by
        rw [List.length_append]; exact (HW.out.k.fr hd5).app hf6 hk6 hb6
      obtain ⟨a6, c6, rfl, -⟩ := id ho6'.form
      obtain ⟨u6, cu6, fu6⟩ := hh6.ready (i := 1) (by simp)
      have hs6 := hh6.set 1 (.slice a6 (b' ++ [UInt8.ofNat (n / 1)]).length c6)
      have hfs := (Fr.refl (One gw) w6).setCell gw 1 none (.slice a6 (b' ++ [UInt8.ofNat (n / 1)]).length c6) fun _ => rfl
      have HW6 := Lib.hid (show WrS q w0 _ gw left _ (b' ++ [UInt8.ofNat (n / 1)]) from ⟨hs6, ho6'.offW hh6 (by decide) hfs, (HO5.out.fr (HW.out.f.then hd5) (Nat.le_refl _) hf6).new hfs HW.out.g, HW.out.g, hg6.set hfs⟩)
      have HE6 := Lib.hid (show b' ++ [UInt8.ofNat (n / 1)] ++ beW n 0 = b ++ beW n z by rw [← HE.out, List.append_assoc]; rfl)
      clear hd5 st5 ho6 hf6 hb6 hh6 hs6 hfs ho6' hk6 hg6
      generalize (b' ++ [UInt8.ofNat (n / 1)]).length = nb at *
      refine plan_w (v := ?_) rfl rfl (fun wx => ?_) ?_; rotate_left 1; (go_simp; with_reducible rfl)
      try simp only [Act.put, List.setIfInBounds_toArray, List.set_cons_zero, List.set_cons_succ]
      refine plan_w (v := ?_) rfl rfl (fun wx => ?_) ?_; rotate_left 1; (go_simp; with_reducible rfl)
      try simp only [Act.put, List.setIfInBounds_toArray, List.set_cons_zero, List.set_cons_succ]
      refine plan_m rfl rfl ?_
      go_simp
      try simp only [Act.put, List.setIfInBounds_toArray, List.set_cons_zero, List.set_cons_succ]
      refine plan_end ?_
      refine NoPanic.normal ?_
      go_wp2_with fail
      go_roundw
      case rel => exact ⟨0, _, _, by omega, by go_num, HE6, Lib.hid (by have := HL.out; rw [List.length_append, List.length_singleton]; omega), HW6⟩
      case measure => simp [intOf]
    · have hk1 : ((2 : Nat) : Int) - 1 = 1 := rfl
      simp only [hk1]
      go_wp2_with fail
      refine wp_region_noPanic ?_
      refine wp_region_plan (fun wx => Has wx gw [.int .i64 left, v'] 41) 14 (.w 0 (.w 1 (.w 2 (.w 3 (.t 4 (.w 5 (.w 6 (.w 7 (.w 8 (.w 9 (.r 10 (.r 11 (.w 12 (.w 13 (.m 14 .nil))))))))))))))) (by kernel_rfl) (by kernel_rfl) HW.out.h.drew (fun _ _ _ _ _ h => h) ?_
      refine plan_w (v := ?_) rfl rfl (fun wx => ?_) ?_; rotate_left 1; (go_simp; with_reducible rfl)
      try simp only [Act.put, List.setIfInBounds_toArray, List.set_cons_zero, List.set_cons_succ]
      refine plan_w (v := ?_) rfl rfl (fun wx => ?_) ?_; rotate_left 1; (go_simp; with_reducible rfl)
      try simp only [Act.put, List.setIfInBounds_toArray, List.set_cons_zero, List.set_cons_succ]
      refine plan_w (v := ?_) rfl rfl (fun wx => ?_) ?_; rotate_left 1; (go_simp; with_reducible rfl)
      try simp only [Act.put, List.setIfInBounds_toArray, List.set_cons_zero, List.set_cons_succ]
      refine plan_w (v := ?_) rfl rfl (fun wx => ?_) ?_; rotate_left 1; (go_simp; with_reducible rfl)
      try simp only [Act.put, List.setIfInBounds_toArray, List.set_cons_zero, List.set_cons_succ]
      refine plan_t (v := v') rfl rfl (fun wx hS => ?_) ?_
      · have hc := hS.cell (i := 1) (v := v') rfl; clear hS; go_simp
      try simp only [Act.put, List.setIfInBounds_toArray, List.set_cons_zero, List.set_cons_succ]
      refine plan_w (v := ?_) rfl rfl (fun wx => ?_) ?_; rotate_left 1; (go_simp; with_reducible rfl)
      try simp only [Act.put, List.setIfInBounds_toArray, List.set_cons_zero, List.set_cons_succ]
      refine plan_w (v := ?_) rfl rfl (fun wx => ?_) ?_; rotate_left 1; (go_simp; with_reducible rfl)
      try simp only [Act.put, List.setIfInBounds_toArray, List.set_cons_zero, List.set_cons_succ]
      refine plan_w (v := .int .i64 8) rfl rfl (fun wx => ?_) ?_
      · go_simp <;> decide
      try simp only [Act.put, List.setIfInBounds_toArray, List.set_cons_zero, List.set_cons_succ]
      refine plan_w (v := .int .u64 ((n / 256 : Nat) : Int)) rfl rfl (fun wx => ?_) ?_
      · have hs := shr_natW n 8 8 rfl HN.out
        first | (go_simp; done) | (go_simp; rw [hs]; done) | (go_simp; rw [hs]; go_simp; done)
      try simp only [Act.put, List.setIfInBounds_toArray, List.set_cons_zero, List.set_cons_succ]
      refine plan_w (v := .int .u8 (((UInt8.ofNat (n / 256)).toNat : Nat) : Int)) rfl rfl (fun wx => ?_) ?_
      · rw [UInt8.toNat_ofNat']; go_simp; exact u8_wrapW _
      try simp only [Act.put, List.setIfInBounds_toArray, List.set_cons_zero, List.set_cons_succ]
      refine plan_r rfl rfl ?_
      refine wp_rows (St.start Nob wr.drew) rfl Tryd.underlying24 info_u8W [(.int .u8 (((UInt8.ofNat (n / 256)).toNat : Nat) : Int))] rfl (by intro u hu; simp only [List.mem_singleton] at hu; subst hu; rfl) rfl (bs [UInt8.ofNat (n / 256)]) rfl ?_
      intro gl w5 st5
      refine ⟨HW.out.h.keep ((Fr.refl Nob wr).drew.then st5.fr) id, ?_⟩
      try simp only [Act.put, List.setIfInBounds_toArray, List.set_cons_zero, List.set_cons_succ]
      have hd5 := (Fr.refl Nob wr).drew.then st5.fr
      have HO5 := Lib.hid (HW.out.o.still hd5)
      refine plan_r rfl rfl ?_
      refine wp_appendW HO5.out rfl Tryd.underlying24 info_u8W rfl (by decide) rfl (m := 1) (news := bs [UInt8.ofNat (n / 256)]) rfl (show Rd w5 (some ⟨gl, 0, none⟩) (1 * 1) (bs [UInt8.ofNat (n / 256)]) from Rd.whole (st5.at 0 rfl)) (bs_one _) (by unfold maxLen; have := HL.out; omega) (by have := HL.out; omega) (Nat.le_trans HW.out.f.size hd5.size) ?_
      intro v6 w6 ho6 hf6 hk6 hb6
      have ho6' : Go.Mv.Own w6 w0.heap.size 5 1 v6 (b' ++ [UInt8.ofNat (n / 256)]).length (bs (b' ++ [UInt8.ofNat (n / 256)])) := by
        rw [bs_append, List.length_append]; exact ho6
      have hh6 := Has.offW HO5.out (HW.out.h.keep hd5 id) (by decide) hf6
      refine ⟨hh6, ?_⟩
      try simp only [Act.put, List.setIfInBounds_toArray, List.set_cons_zero, List.set_cons_succ]
      have hg6 : Gr q gw w6 v6 (b' ++ [UInt8.ofNat (n / 256)]).length := by
        rw [List.length_append]; exact (HW.out.k.fr hd5).app hf6 hk6 hb6
      obtain ⟨a6, c6, rfl, -⟩ := id ho6'.form
      obtain ⟨u6, cu6, fu6⟩ := hh6.ready (i := 1) (by simp)
      have hs6 := hh6.set 1 (.slice a6 (b' ++ [UInt8.ofNat (n / 256)]).length c6)
      have hfs := (Fr.refl (One gw) w6).setCell gw 1 none (.slice a6 (b' ++ [UInt8.ofNat (n / 256)]).length c6) fun _ => rfl
      have HW6 := Lib.hid (show WrS q w0 _ gw left _ (b' ++ [UInt8.ofNat (n / 256)]) from ⟨hs6, ho6'.offW hh6 (by decide) hfs, (HO5.out.fr (HW.out.f.then hd5) (Nat.le_refl _) hf6).new hfs HW.out.g, HW.out.g, hg6.set hfs⟩)
      have HE6 := Lib.hid (show b' ++ [UInt8.ofNat (n / 256)] ++ beW n 1 = b ++ beW n z by rw [← HE.out, List.append_assoc]; rfl)
      clear hd5 st5 ho6 hf6 hb6 hh6 hs6 hfs ho6' hk6 hg6
      generalize (b' ++ [UInt8.ofNat (n / 256)]).length = nb at *
      refine plan_w (v := ?_) rfl rfl (fun wx => ?_) ?_; rotate_left 1; (go_simp; with_reducible rfl)
      try simp only [Act.put, List.setIfInBounds_toArray, List.set_cons_zero, List.set_cons_succ]
      refine plan_w (v := ?_) rfl rfl (fun wx => ?_) ?_; rotate_left 1; (go_simp; with_reducible rfl)
      try simp only [Act.put, List.setIfInBounds_toArray, List.set_cons_zero, List.set_cons_succ]
      refine plan_m rfl rfl ?_
      go_simp
      try simp only [Act.put, List.setIfInBounds_toArray, List.set_cons_zero, List.set_cons_succ]
      refine plan_end ?_
      refine NoPanic.normal ?_
      go_wp2_with fail
      go_roundw
      case rel => exact ⟨1, _, _, by omega, by go_num, HE6, Lib.hid (by have := HL.out; rw [List.length_append, List.length_singleton]; omega), HW6⟩
      case measure => simp [intOf]
    · have hk1 : ((3 : Nat) : Int) - 1 = 2 := rfl
      simp only [hk1]
      go_wp2_with fail
      refine wp_region_noPanic ?_
      refine wp_region_plan (fun wx => Has wx gw [.int .i64 left, v'] 41) 14 (.w 0 (.w 1 (.w 2 (.w 3 (.t 4 (.w 5 (.w 6 (.w 7 (.w 8 (.w 9 (.r 10 (.r 11 (.w 12 (.w 13 (.m 14 .nil))))))))))))))) (by kernel_rfl) (by kernel_rfl) HW.out.h.drew (fun _ _ _ _ _ h => h) ?_
      refine plan_w (v := ?_) rfl rfl (fun wx => ?_) ?_; rotate_left 1; (go_simp; with_reducible rfl)
      try simp only [Act.put, List.setIfInBounds_toArray, List.set_cons_zero, List.set_cons_succ]
      refine plan_w (v := ?_) rfl rfl (fun wx => ?_) ?_; rotate_left 1; (go_simp; with_reducible rfl)
      try simp only [Act.put, List.setIfInBounds_toArray, List.set_cons_zero, List.set_cons_succ]
      refine plan_w (v := ?_) rfl rfl (fun wx => ?_) ?_; rotate_left 1; (go_simp; with_reducible rfl)
      try simp only [Act.put, List.setIfInBounds_toArray, List.set_cons_zero, List.set_cons_succ]
      refine plan_w (v := ?_) rfl rfl (fun wx => ?_) ?_; rotate_left 1; (go_simp; with_reducible rfl)
      try simp only [Act.put, List.setIfInBounds_toArray, List.set_cons_zero, List.set_cons_succ]
      refine plan_t (v := v') rfl rfl (fun wx hS => ?_) ?_
      · have hc := hS.cell (i := 1) (v := v') rfl; clear hS; go_simp
      try simp only [Act.put, List.setIfInBounds_toArray, List.set_cons_zero, List.set_cons_succ]
      refine plan_w (v := ?_) rfl rfl (fun wx => ?_) ?_; rotate_left 1; (go_simp; with_reducible rfl)
      try simp only [Act.put, List.setIfInBounds_toArray, List.set_cons_zero, List.set_cons_succ]
      refine plan_w (v := ?_) rfl rfl (fun wx => ?_) ?_; rotate_left 1; (go_simp; with_reducible rfl)
      try simp only [Act.put, List.setIfInBounds_toArray, List.set_cons_zero, List.set_cons_succ]
      refine plan_w (v := .int .i64 16) rfl rfl (fun wx => ?_) ?_
      · go_simp <;> decide
      try simp only [Act.put, List.setIfInBounds_toArray, List.set_cons_zero, List.set_cons_succ]
      refine plan_w (v := .int .u64 ((n / 65536 : Nat) : Int)) rfl rfl (fun wx => ?_) ?_
      · have hs := shr_natW n 16 16 rfl HN.out
        first | (go_simp; done) | (go_simp; rw [hs]; done) | (go_simp; rw [hs]; go_simp; done)
      try simp only [Act.put, List.setIfInBounds_toArray, List.set_cons_zero, List.set_cons_succ]
      refine plan_w (v := .int .u8 (((UInt8.ofNat (n / 65536)).toNat : Nat) : Int)) rfl rfl (fun wx => ?_) ?_
      · rw [UInt8.toNat_ofNat']; go_simp; exact u8_wrapW _
      try simp only [Act.put, List.setIfInBounds_toArray, List.set_cons_zero, List.set_cons_succ]
      refine plan_r rfl rfl ?_
      refine wp_rows (St.start Nob wr.drew) rfl Tryd.underlying24 info_u8W [(.int .u8 (((UInt8.ofNat (n / 65536)).toNat : Nat) : Int))] rfl (by intro u hu; simp only [List.mem_singleton] at hu; subst hu; rfl) rfl (bs [UInt8.ofNat (n / 65536)]) rfl ?_
      intro gl w5 st5
      refine ⟨HW.out.h.keep ((Fr.refl Nob wr).drew.then st5.fr) id, ?_⟩
      try simp only [Act.put, List.setIfInBounds_toArray, List.set_cons_zero, List.set_cons_succ]
      have hd5 := (Fr.refl Nob wr).drew.then st5.fr
      have HO5 := Lib.hid (HW.out.o.still hd5)
      refine plan_r rfl rfl ?_
      refine wp_appendW HO5.out rfl Tryd.underlying24 info_u8W rfl (by decide) rfl (m := 1) (news := bs [UInt8.ofNat (n / 65536)]) rfl (show Rd w5 (some ⟨gl, 0, none⟩) (1 * 1) (bs [UInt8.ofNat (n / 65536)]) from Rd.whole (st5.at 0 rfl)) (bs_one _) (by unfold maxLen; have := HL.out; omega) (by have := HL.out; omega) (Nat.le_trans HW.out.f.size hd5.size) ?_
      intro v6 w6 ho6 hf6 hk6 hb6
      have ho6' : Go.Mv.Own w6 w0.heap.size 5 1 v6 (b' ++ [UInt8.ofNat (n / 65536)]).length (bs (b' ++ [UInt8.ofNat (n / 65536)])) := by
        rw [bs_append, List.length_append]; exact ho6
      have hh6 := Has.offW HO5.out (HW.out.h.keep hd5 id) (by decide) hf6
      refine ⟨hh6, ?_⟩
      try simp only [Act.put, List.setIfInBounds_toArray, List.set_cons_zero, List.set_cons_succ]
      have hg6 : Gr q gw w6 v6 (b' ++ [UInt8.ofNat (n / 65536)]).length := by
        rw [List.length_append]; exact (HW.out.k.fr hd5).app hf6 hk6 hb6
      obtain ⟨a6, c6, rfl, -⟩ := id ho6'.form
      obtain ⟨u6, cu6, fu6⟩ := hh6.ready (i := 1) (by simp)
      have hs6 := hh6.set 1 (.slice a6 (b' ++ [UInt8.ofNat (n / 65536)]).length c6)
      have hfs := (Fr.refl (One gw) w6).setCell gw 1 none (.slice a6 (b' ++ [UInt8.ofNat (n / 65536)]).length c6) fun _ => rfl
      have HW6 := Lib.hid (show WrS q w0 _ gw left _ (b' ++ [UInt8.ofNat (n / 65536)]) from ⟨hs6, ho6'.offW hh6 (by decide) hfs, (HO5.out.fr (HW.out.f.then hd5) (Nat.le_refl _) hf6).new hfs HW.out.g, HW.out.g, hg6.set hfs⟩)
      have HE6 := Lib.hid (show b' ++ [UInt8.ofNat (n / 65536)] ++ beW n 2 = b ++ beW n z by rw [← HE.out, List.append_assoc]; rfl)
      clear hd5 st5 ho6 hf6 hb6 hh6 hs6 hfs ho6' hk6 hg6
      generalize (b' ++ [UInt8.ofNat (n / 65536)]).length = nb at *
      refine plan_w (v := ?_) rfl rfl (fun wx => ?_) ?_; rotate_left 1; (go_simp; with_reducible rfl)
      try simp only [Act.put, List.setIfInBounds_toArray, List.set_cons_zero, List.set_cons_succ]
      refine plan_w (v := ?_) rfl rfl (fun wx => ?_) ?_; rotate_left 1; (go_simp; with_reducible rfl)
      try simp only [Act.put, List.setIfInBounds_toArray, List.set_cons_zero, List.set_cons_succ]
      refine plan_m rfl rfl ?_
      go_simp
      try simp only [Act.put, List.setIfInBounds_toArray, List.set_cons_zero, List.set_cons_succ]
      refine plan_end ?_
      refine NoPanic.normal ?_
      go_wp2_with fail
      go_roundw
      case rel => exact ⟨2, _, _, by omega, by go_num, HE6, Lib.hid (by have := HL.out; rw [List.length_append, List.length_singleton]; omega), HW6⟩
      case measure => simp [intOf]
    · have hk1 : ((4 : Nat) : Int) - 1 = 3 := rfl
      simp only [hk1]
      go_wp2_with fail
      refine wp_region_noPanic ?_
      refine wp_region_plan (fun wx => Has wx gw [.int .i64 left, v'] 41) 14 (.w 0 (.w 1 (.w 2 (.w 3 (.t 4 (.w 5 (.w 6 (.w 7 (.w 8 (.w 9 (.r 10 (.r 11 (.w 12 (.w 13 (.m 14 .nil))))))))))))))) (by kernel_rfl) (by kernel_rfl) HW.out.h.drew (fun _ _ _ _ _ h => h) ?_
      refine plan_w (v := ?_) rfl rfl (fun wx => ?_) ?_; rotate_left 1; (go_simp; with_reducible rfl)
      try simp only [Act.put, List.setIfInBounds_toArray, List.set_cons_zero, List.set_cons_succ]
      refine plan_w (v := ?_) rfl rfl (fun wx => ?_) ?_; rotate_left 1; (go_simp; with_reducible rfl)
      try simp only [Act.put, List.setIfInBounds_toArray, List.set_cons_zero, List.set_cons_succ]
      refine plan_w (v := ?_) rfl rfl (fun wx => ?_) ?_; rotate_left 1; (go_simp; with_reducible rfl)
      try simp only [Act.put, List.setIfInBounds_toArray, List.set_cons_zero, List.set_cons_succ]
      refine plan_w (v := ?_) rfl rfl (fun wx => ?_) ?_; rotate_left 1; (go_simp; with_reducible rfl)
      try simp only [Act.put, List.setIfInBounds_toArray, List.set_cons_zero, List.set_cons_succ]
      refine plan_t (v := v') rfl rfl (fun wx hS => ?_) ?_
      · have hc := hS.cell (i := 1) (v := v') rfl; clear hS; go_simp
      try simp only [Act.put, List.setIfInBounds_toArray, List.set_cons_zero, List.set_cons_succ]
      refine plan_w (v := ?_) rfl rfl (fun wx => ?_) ?_; rotate_left 1; (go_simp; with_reducible rfl)
      try simp only [Act.put, List.setIfInBounds_toArray, List.set_cons_zero, List.set_cons_succ]
      refine plan_w (v := ?_) rfl rfl (fun wx => ?_) ?_; rotate_left 1; (go_simp; with_reducible rfl)
      try simp only [Act.put, List.setIfInBounds_toArray, List.set_cons_zero, List.set_cons_succ]
      refine plan_w (v := .int .i64 24) rfl rfl (fun wx => ?_) ?_
      · go_simp <;> decide
      try simp only [Act.put, List.setIfInBounds_toArray, List.set_cons_zero, List.set_cons_succ]
      refine plan_w (v := .int .u64 ((n / 16777216 : Nat) : Int)) rfl rfl (fun wx => ?_) ?_
      · have hs := shr_natW n 24 24 rfl HN.out
        first | (go_simp; done) | (go_simp; rw [hs]; done) | (go_simp; rw [hs]; go_simp; done)
      try simp only [Act.put, List.setIfInBounds_toArray, List.set_cons_zero, List.set_cons_succ]
      refine plan_w (v := .int .u8 (((UInt8.ofNat (n / 16777216)).toNat : Nat) : Int)) rfl rfl (fun wx => ?_) ?_
      · rw [UInt8.toNat_ofNat']; go_simp; exact u8_wrapW _
      try simp only [Act.put, List.setIfInBounds_toArray, List.set_cons_zero, List.set_cons_succ]
      refine plan_r rfl rfl ?_
      refine wp_rows (St.start Nob wr.drew) rfl Tryd.underlying24 info_u8W [(.int .u8 (((UInt8.ofNat (n / 16777216)).toNat : Nat) : Int))] rfl (by intro u hu; simp only [List.mem_singleton] at hu; subst hu; rfl) rfl (bs [UInt8.ofNat (n / 16777216)]) rfl ?_
      intro gl w5 st5
      refine ⟨HW.out.h.keep ((Fr.refl Nob wr).drew.then st5.fr) id, ?_⟩
      try simp only [Act.put, List.setIfInBounds_toArray, List.set_cons_zero, List.set_cons_succ]
      have hd5 := (Fr.refl Nob wr).drew.then st5.fr
      have HO5 := Lib.hid (HW.out.o.still hd5)
      refine plan_r rfl rfl ?_
      refine wp_appendW HO5.out rfl Tryd.underlying24 info_u8W rfl (by decide) rfl (m := 1) (news := bs [UInt8.ofNat (n / 16777216)]) rfl (show Rd w5 (some ⟨gl, 0, none⟩) (1 * 1) (bs [UInt8.ofNat (n / 16777216)]) from Rd.whole (st5.at 0 rfl)) (bs_one _) (by unfold maxLen; have := HL.out; omega) (by have := HL.out; omega) (Nat.le_trans HW.out.f.size hd5.size) ?_
      intro v6 w6 ho6 hf6 hk6 hb6
      have ho6' : Go.Mv.Own w6 w0.heap.size 5 1 v6 (b' ++ [UInt8.ofNat (n / 16777216)]).length (bs (b' ++ [UInt8.ofNat (n / 16777216)])) := by
        rw [bs_append, List.length_append]; exact ho6
      have hh6 := Has.offW HO5.out (HW.out.h.keep hd5 id) (by decide) hf6
      refine ⟨hh6, ?_⟩
      try simp only [Act.put, List.setIfInBounds_toArray, List.set_cons_zero, List.set_cons_succ]
      have hg6 : Gr q gw w6 v6 (b' ++ [UInt8.ofNat (n / 16777216)]).length := by
        rw [List.length_append]; exact (HW.out.k.fr hd5).app hf6 hk6 hb6
      obtain ⟨a6, c6, rfl, -⟩ := id ho6'.form
      obtain ⟨u6, cu6, fu6⟩ := hh6.ready (i := 1) (by simp)
      have hs6 := hh6.set 1 (.slice a6 (b' ++ [UInt8.ofNat (n / 16777216)]).length c6)
      have hfs := (Fr.refl (One gw) w6).setCell gw 1 none (.slice a6 (b' ++ [UInt8.ofNat (n / 16777216)]).length c6) fun _ => rfl
      have HW6 := Lib.hid (show WrS q w0 _ gw left _ (b' ++ [UInt8.ofNat (n / 16777216)]) from ⟨hs6, ho6'.offW hh6 (by decide) hfs, (HO5.out.fr (HW.out.f.then hd5) (Nat.le_refl _) hf6).new hfs HW.out.g, HW.out.g, hg6.set hfs⟩)
      have HE6 := Lib.hid (show b' ++ [UInt8.ofNat (n / 16777216)] ++ beW n 3 = b ++ beW n z by rw [← HE.out, List.append_assoc]; rfl)
      clear hd5 st5 ho6 hf6 hb6 hh6 hs6 hfs ho6' hk6 hg6
      generalize (b' ++ [UInt8.ofNat (n / 16777216)]).length = nb at *
      refine plan_w (v := ?_) rfl rfl (fun wx => ?_) ?_; rotate_left 1; (go_simp; with_reducible rfl)
      try simp only [Act.put, List.setIfInBounds_toArray, List.set_cons_zero, List.set_cons_succ]
      refine plan_w (v := ?_) rfl rfl (fun wx => ?_) ?_; rotate_left 1; (go_simp; with_reducible rfl)
      try simp only [Act.put, List.setIfInBounds_toArray, List.set_cons_zero, List.set_cons_succ]
      refine plan_m rfl rfl ?_
      go_simp
      try simp only [Act.put, List.setIfInBounds_toArray, List.set_cons_zero, List.set_cons_succ]
      refine plan_end ?_
      refine NoPanic.normal ?_
      go_wp2_with fail
      go_roundw
      case rel => exact ⟨3, _, _, by omega, by go_num, HE6, Lib.hid (by have := HL.out; rw [List.length_append, List.length_singleton]; omega), HW6⟩
      case measure => simp [intOf]
    · have hk1 : ((5 : Nat) : Int) - 1 = 4 := rfl
      simp only [hk1]
      go_wp2_with fail
      refine wp_region_noPanic ?_
      refine wp_region_plan (fun wx => Has wx gw [.int .i64 left, v'] 41) 14 (.w 0 (.w 1 (.w 2 (.w 3 (.t 4 (.w 5 (.w 6 (.w 7 (.w 8 (.w 9 (.r 10 (.r 11 (.w 12 (.w 13 (.m 14 .nil))))))))))))))) (by kernel_rfl) (by kernel_rfl) HW.out.h.drew (fun _ _ _ _ _ h => h) ?_
      refine plan_w (v := ?_) rfl rfl (fun wx => ?_) ?_; rotate_left 1; (go_simp; with_reducible rfl)
      try simp only [Act.put, List.setIfInBounds_toArray, List.set_cons_zero, List.set_cons_succ]
      refine plan_w (v := ?_) rfl rfl (fun wx => ?_) ?_; rotate_left 1; (go_simp; with_reducible rfl)
      try simp only [Act.put, List.setIfInBounds_toArray, List.set_cons_zero, List.set_cons_succ]
      refine plan_w (v := ?_) rfl rfl (fun wx => ?_) ?_; rotate_left 1; (go_simp; with_reducible rfl)
      try simp only [Act.put, List.setIfInBounds_toArray, List.set_cons_zero, List.set_cons_succ]
      refine plan_w (v := ?_) rfl rfl (fun wx => ?_) ?_; rotate_left 1; (go_simp; with_reducible rfl)
      try simp only [Act.put, List.setIfInBounds_toArray, List.set_cons_zero, List.set_cons_succ]
      refine plan_t (v := v') rfl rfl (fun wx hS => ?_) ?_
      · have hc := hS.cell (i := 1) (v := v') rfl; clear hS; go_simp
      try simp only [Act.put, List.setIfInBounds_toArray, List.set_cons_zero, List.set_cons_succ]
      refine plan_w (v := ?_) rfl rfl (fun wx => ?_) ?_; rotate_left 1; (go_simp; with_reducible rfl)
      try simp only [Act.put, List.setIfInBounds_toArray, List.set_cons_zero, List.set_cons_succ]
      refine plan_w (v := ?_) rfl rfl (fun wx => ?_) ?_; rotate_left 1; (go_simp; with_reducible rfl)
      try simp only [Act.put, List.setIfInBounds_toArray, List.set_cons_zero, List.set_cons_succ]
      refine plan_w (v := .int .i64 32) rfl rfl (fun wx => ?_) ?_
      · go_simp <;> decide
      try simp only [Act.put, List.setIfInBounds_toArray, List.set_cons_zero, List.set_cons_succ]
      refine plan_w (v := .int .u64 ((n / 4294967296 : Nat) : Int)) rfl rfl (fun wx => ?_) ?_
      · have hs := shr_natW n 32 32 rfl HN.out
        first | (go_simp; done) | (go_simp; rw [hs]; done) | (go_simp; rw [hs]; go_simp; done)
      try simp only [Act.put, List.setIfInBounds_toArray, List.set_cons_zero, List.set_cons_succ]
      refine plan_w (v := .int .u8 (((UInt8.ofNat (n / 4294967296)).toNat : Nat) : Int)) rfl rfl (fun wx => ?_) ?_
      · rw [UInt8.toNat_ofNat']; go_simp; exact u8_wrapW _
      try simp only [Act.put, List.setIfInBounds_toArray, List.set_cons_zero, List.set_cons_succ]
      refine plan_r rfl rfl ?_
      refine wp_rows (St.start Nob wr.drew) rfl Tryd.underlying24 info_u8W [(.int .u8 (((UInt8.ofNat (n / 4294967296)).toNat : Nat) : Int))] rfl (by intro u hu; simp only [List.mem_singleton] at hu; subst hu; rfl) rfl (bs [UInt8.ofNat (n / 4294967296)]) rfl ?_
      intro gl w5 st5
      refine ⟨HW.out.h.keep ((Fr.refl Nob wr).drew.then st5.fr) id, ?_⟩
      try simp only [Act.put, List.setIfInBounds_toArray, List.set_cons_zero, List.set_cons_succ]
      have hd5 := (Fr.refl Nob wr).drew.then st5.fr
      have HO5 := Lib.hid (HW.out.o.still hd5)
      refine plan_r rfl rfl ?_
      refine wp_appendW HO5.out rfl Tryd.underlying24 info_u8W rfl (by decide) rfl (m := 1) (news := bs [UInt8.ofNat (n / 4294967296)]) rfl (show Rd w5 (some ⟨gl, 0, none⟩) (1 * 1) (bs [UInt8.ofNat (n / 4294967296)]) from Rd.whole (st5.at 0 rfl)) (bs_one _) (by unfold maxLen; have := HL.out; omega) (by have := HL.out; omega) (Nat.le_trans HW.out.f.size hd5.size) ?_
      intro v6 w6 ho6 hf6 hk6 hb6
      have ho6' : Go.Mv.Own w6 w0.heap.size 5 1 v6 (b' ++ [UInt8.ofNat (n / 4294967296)]).length (bs (b' ++ [UInt8.ofNat (n / 4294967296)])) := by
        rw [bs_append, List.length_append]; exact ho6
      have hh6 := Has.offW HO5.out (HW.out.h.keep hd5 id) (by decide) hf6
      refine ⟨hh6, ?_⟩
      try simp only [Act.put, List.setIfInBounds_toArray, List.set_cons_zero, List.set_cons_succ]
      have hg6 : Gr q gw w6 v6 (b' ++ [UInt8.ofNat (n / 4294967296)]).length := by
        rw [List.length_append]; exact (HW.out.k.fr hd5).app hf6 hk6 hb6
      obtain ⟨a6, c6, rfl, -⟩ := id ho6'.form
      obtain ⟨u6, cu6, fu6⟩ := hh6.ready (i := 1) (by simp)
      have hs6 := hh6.set 1 (.slice a6 (b' ++ [UInt8.ofNat (n / 4294967296)]).length c6)
      have hfs := (Fr.refl (One gw) w6).setCell gw 1 none (.slice a6 (b' ++ [UInt8.ofNat (n / 4294967296)]).length c6) fun _ => rfl
      have HW6 := Lib.hid (show WrS q w0 _ gw left _ (b' ++ [UInt8.ofNat (n / 4294967296)]) from ⟨hs6, ho6'.offW hh6 (by decide) hfs, (HO5.out.fr (HW.out.f.then hd5) (Nat.le_refl _) hf6).new hfs HW.out.g, HW.out.g, hg6.set hfs⟩)
      have HE6 := Lib.hid (show b' ++ [UInt8.ofNat (n / 4294967296)] ++ beW n 4 = b ++ beW n z by rw [← HE.out, List.append_assoc]; rfl)
      clear hd5 st5 ho6 hf6 hb6 hh6 hs6 hfs ho6' hk6 hg6
      generalize (b' ++ [UInt8.ofNat (n / 4294967296)]).length = nb at *
      refine plan_w (v := ?_) rfl rfl (fun wx => ?_) ?_; rotate_left 1; (go_simp; with_reducible rfl)
      try simp only [Act.put, List.setIfInBounds_toArray, List.set_cons_zero, List.set_cons_succ]
      refine plan_w (v := ?_) rfl rfl (fun wx => ?_) ?_; rotate_left 1; (go_simp; with_reducible rfl)
      try simp only [Act.put, List.setIfInBounds_toArray, List.set_cons_zero, List.set_cons_succ]
      refine plan_m rfl rfl ?_
      go_simp
      try simp only [Act.put, List.setIfInBounds_toArray, List.set_cons_zero, List.set_cons_succ]
      refine plan_end ?_
      refine NoPanic.normal ?_
      go_wp2_with fail
      go_roundw
      case rel => exact ⟨4, _, _, by omega, by go_num, HE6, Lib.hid (by have := HL.out; rw [List.length_append, List.length_singleton]; omega), HW6⟩
      case measure => simp [intOf]
    · have hk1 : ((6 : Nat) : Int) - 1 = 5 := rfl
      simp only [hk1]
      go_wp2_with fail
      refine wp_region_noPanic ?_
      refine wp_region_plan (fun wx => Has wx gw [.int .i64 left, v'] 41) 14 (.w 0 (.w 1 (.w 2 (.w 3 (.t 4 (.w 5 (.w 6 (.w 7 (.w 8 (.w 9 (.r 10 (.r 11 (.w 12 (.w 13 (.m 14 .nil))))))))))))))) (by kernel_rfl) (by kernel_rfl) HW.out.h.drew (fun _ _ _ _ _ h => h) ?_
      refine plan_w (v := ?_) rfl rfl (fun wx => ?_) ?_; rotate_left 1; (go_simp; with_reducible rfl)
      try simp only [Act.put, List.setIfInBounds_toArray, List.set_cons_zero, List.set_cons_succ]
      refine plan_w (v := ?_) rfl rfl (fun wx => ?_) ?_; rotate_left 1; (go_simp; with_reducible rfl)
      try simp only [Act.put, List.setIfInBounds_toArray, List.set_cons_zero, List.set_cons_succ]
      refine plan_w (v := ?_) rfl rfl (fun wx => ?_) ?_; rotate_left 1; (go_simp; with_reducible rfl)
      try simp only [Act.put, List.setIfInBounds_toArray, List.set_cons_zero, List.set_cons_succ]
      refine plan_w (v := ?_) rfl rfl (fun wx => ?_) ?_; rotate_left 1; (go_simp; with_reducible rfl)
      try simp only [Act.put, List.setIfInBounds_toArray, List.set_cons_zero, List.set_cons_succ]
      refine plan_t (v := v') rfl rfl (fun wx hS => ?_) ?_
      · have hc := hS.cell (i := 1) (v := v') rfl; clear hS; go_simp
      try simp only [Act.put, List.setIfInBounds_toArray, List.set_cons_zero, List.set_cons_succ]
      refine plan_w (v := ?_) rfl rfl (fun wx => ?_) ?_; rotate_left 1; (go_simp; with_reducible rfl)
      try simp only [Act.put, List.setIfInBounds_toArray, List.set_cons_zero, List.set_cons_succ]
      refine plan_w (v := ?_) rfl rfl (fun wx => ?_) ?_; rotate_left 1; (go_simp; with_reducible rfl)
      try simp only [Act.put, List.setIfInBounds_toArray, List.set_cons_zero, List.set_cons_succ]
      refine plan_w (v := .int .i64 40) rfl rfl (fun wx => ?_) ?_
      · go_simp <;> decide
      try simp only [Act.put, List.setIfInBounds_toArray, List.set_cons_zero, List.set_cons_succ]
      refine plan_w (v := .int .u64 ((n / 1099511627776 : Nat) : Int)) rfl rfl (fun wx => ?_) ?_
      · have hs := shr_natW n 40 40 rfl HN.out
        first | (go_simp; done) | (go_simp; rw [hs]; done) | (go_simp; rw [hs]; go_simp; done)
      try simp only [Act.put, List.setIfInBounds_toArray, List.set_cons_zero, List.set_cons_succ]
      refine plan_w (v := .int .u8 (((UInt8.ofNat (n / 1099511627776)).toNat : Nat) : Int)) rfl rfl (fun wx => ?_) ?_
      · rw [UInt8.toNat_ofNat']; go_simp; exact u8_wrapW _
      try simp only [Act.put, List.setIfInBounds_toArray, List.set_cons_zero, List.set_cons_succ]
      refine plan_r rfl rfl ?_
      refine wp_rows (St.start Nob wr.drew) rfl Tryd.underlying24 info_u8W [(.int .u8 (((UInt8.ofNat (n / 1099511627776)).toNat : Nat) : Int))] rfl (by intro u hu; simp only [List.mem_singleton] at hu; subst hu; rfl) rfl (bs [UInt8.ofNat (n / 1099511627776)]) rfl ?_
      intro gl w5 st5
      refine ⟨HW.out.h.keep ((Fr.refl Nob wr).drew.then st5.fr) id, ?_⟩
      try simp only [Act.put, List.setIfInBounds_toArray, List.set_cons_zero, List.set_cons_succ]
      have hd5 := (Fr.refl Nob wr).drew.then st5.fr
      have HO5 := Lib.hid (HW.out.o.still hd5)
      refine plan_r rfl rfl ?_
      refine wp_appendW HO5.out rfl Tryd.underlying24 info_u8W rfl (by decide) rfl (m := 1) (news := bs [UInt8.ofNat (n / 1099511627776)]) rfl (show Rd w5 (some ⟨gl, 0, none⟩) (1 * 1) (bs [UInt8.ofNat (n / 1099511627776)]) from Rd.whole (st5.at 0 rfl)) (bs_one _) (by unfold maxLen; have := HL.out; omega) (by have := HL.out; omega) (Nat.le_trans HW.out.f.size hd5.size) ?_
      intro v6 w6 ho6 hf6 hk6 hb6
      have ho6' : Go.Mv.Own w6 w0.heap.size 5 1 v6 (b' ++ [UInt8.ofNat (n / 1099511627776)]).length (bs (b' ++ [UInt8.ofNat (n / 1099511627776)])) := by
        rw [bs_append, List.length_append]; exact ho6
      have hh6 := Has.offW HO5.out (HW.out.h.keep hd5 id) (by decide) hf6
      refine ⟨hh6, ?_⟩
      try simp only [Act.put, List.setIfInBounds_toArray, List.set_cons_zero, List.set_cons_succ]
      have hg6 : Gr q gw w6 v6 (b' ++ [UInt8.ofNat (n / 1099511627776)]).length := by
        rw [List.length_append]; exact (HW.out.k.fr hd5).app hf6 hk6 hb6
      obtain ⟨a6, c6, rfl, -⟩ := id ho6'.form
      obtain ⟨u6, cu6, fu6⟩ := hh6.ready (i := 1) (by simp)
      have hs6 := hh6.set 1 (.slice a6 (b' ++ [UInt8.ofNat (n / 1099511627776)]).length c6)
      have hfs := (Fr.refl (One gw) w6).setCell gw 1 none (.slice a6 (b' ++ [UInt8.ofNat (n / 1099511627776)]).length c6) fun _ => rfl
      have HW6 := Lib.hid (show WrS q w0 _ gw left _ (b' ++ [UInt8.ofNat (n / 1099511627776)]) from ⟨hs6, ho6'.offW hh6 (by decide) hfs, (HO5.out.fr (HW.out.f.then hd5) (Nat.le_refl _) hf6).new hfs HW.out.g, HW.out.g, hg6.set hfs⟩)
      have HE6 := Lib.hid (show b' ++ [UInt8.ofNat (n / 1099511627776)] ++ beW n 5 = b ++ beW n z by rw [← HE.out, List.append_assoc]; rfl)
      clear hd5 st5 ho6 hf6 hb6 hh6 hs6 hfs ho6' hk6 hg6
      generalize (b' ++ [UInt8.ofNat (n / 1099511627776)]).length = nb at *
      refine plan_w (v := ?_) rfl rfl (fun wx => ?_) ?_; rotate_left 1; (go_simp; with_reducible rfl)
      try simp only [Act.put, List.setIfInBounds_toArray, List.set_cons_zero, List.set_cons_succ]
      refine plan_w (v := ?_) rfl rfl (fun wx => ?_) ?_; rotate_left 1; (go_simp; with_reducible rfl)
      try simp only [Act.put, List.setIfInBounds_toArray, List.set_cons_zero, List.set_cons_succ]
      refine plan_m rfl rfl ?_
      go_simp
      try simp only [Act.put, List.setIfInBounds_toArray, List.set_cons_zero, List.set_cons_succ]
      refine plan_end ?_
      refine NoPanic.normal ?_
      go_wp2_with fail
      go_roundw
      case rel => exact ⟨5, _, _, by omega, by go_num, HE6, Lib.hid (by have := HL.out; rw [List.length_append, List.length_singleton]; omega), HW6⟩
      case measure => simp [intOf]
    · have hk1 : ((7 : Nat) : Int) - 1 = 6 := rfl
      simp only [hk1]
      go_wp2_with fail
      refine wp_region_noPanic ?_
      refine wp_region_plan (fun wx => Has wx gw [.int .i64 left, v'] 41) 14 (.w 0 (.w 1 (.w 2 (.w 3 (.t 4 (.w 5 (.w 6 (.w 7 (.w 8 (.w 9 (.r 10 (.r 11 (.w 12 (.w 13 (.m 14 .nil))))))))))))))) (by kernel_rfl) (by kernel_rfl) HW.out.h.drew (fun _ _ _ _ _ h => h) ?_
      refine plan_w (v := ?_) rfl rfl (fun wx => ?_) ?_; rotate_left 1; (go_simp; with_reducible rfl)
      try simp only [Act.put, List.setIfInBounds_toArray, List.set_cons_zero, List.set_cons_succ]
      refine plan_w (v := ?_) rfl rfl (fun wx => ?_) ?_; rotate_left 1; (go_simp; with_reducible rfl)
      try simp only [Act.put, List.setIfInBounds_toArray, List.set_cons_zero, List.set_cons_succ]
      refine plan_w (v := ?_) rfl rfl (fun wx => ?_) ?_; rotate_left 1; (go_simp; with_reducible rfl)
      try simp only [Act.put, List.setIfInBounds_toArray, List.set_cons_zero, List.set_cons_succ]
      refine plan_w (v := ?_) rfl rfl (fun wx => ?_) ?_; rotate_left 1; (go_simp; with_reducible rfl)
      try simp only [Act.put, List.setIfInBounds_toArray, List.set_cons_zero, List.set_cons_succ]
      refine plan_t (v := v') rfl rfl (fun wx hS => ?_) ?_
      · have hc := hS.cell (i := 1) (v := v') rfl; clear hS; go_simp
      try simp only [Act.put, List.setIfInBounds_toArray, List.set_cons_zero, List.set_cons_succ]
      refine plan_w (v := ?_) rfl rfl (fun wx => ?_) ?_; rotate_left 1; (go_simp; with_reducible rfl)
      try simp only [Act.put, List.setIfInBounds_toArray, List.set_cons_zero, List.set_cons_succ]
      refine plan_w (v := ?_) rfl rfl (fun wx => ?_) ?_; rotate_left 1; (go_simp; with_reducible rfl)
      try simp only [Act.put, List.setIfInBounds_toArray, List.set_cons_zero, List.set_cons_succ]
      refine plan_w (v := .int .i64 48) rfl rfl (fun wx => ?_) ?_
      · go_simp <;> decide
      try simp only [Act.put, List.setIfInBounds_toArray, List.set_cons_zero, List.set_cons_succ]
      refine plan_w (v := .int .u64 ((n / 281474976710656 : Nat) : Int)) rfl rfl (fun wx => ?_) ?_
      · have hs := shr_natW n 48 48 rfl HN.out
        first | (go_simp; done) | (go_simp; rw [hs]; done) | (go_simp; rw [hs]; go_simp; done)
      try simp only [Act.put, List.setIfInBounds_toArray, List.set_cons_zero, List.set_cons_succ]
      refine plan_w (v := .int .u8 (((UInt8.ofNat (n / 281474976710656)).toNat : Nat) : Int)) rfl rfl (fun wx => ?_) ?_
      · rw [UInt8.toNat_ofNat']; go_simp; exact u8_wrapW _
      try simp only [Act.put, List.setIfInBounds_toArray, List.set_cons_zero, List.set_cons_succ]
      refine plan_r rfl rfl ?_
      refine wp_rows (St.start Nob wr.drew) rfl Tryd.underlying24 info_u8W [(.int .u8 (((UInt8.ofNat (n / 281474976710656)).toNat : Nat) : Int))] rfl (by intro u hu; simp only [List.mem_singleton] at hu; subst hu; rfl) rfl (bs [UInt8.ofNat (n / 281474976710656)]) rfl ?_
      intro gl w5 st5
      refine ⟨HW.out.h.keep ((Fr.refl Nob wr).drew.then st5.fr) id, ?_⟩
      try simp only [Act.put, List.setIfInBounds_toArray, List.set_cons_zero, List.set_cons_succ]
      have hd5 := (Fr.refl Nob wr).drew.then st5.fr
      have HO5 := Lib.hid (HW.out.o.still hd5)
      refine plan_r rfl rfl ?_
      refine wp_appendW HO5.out rfl Tryd.underlying24 info_u8W rfl (by decide) rfl (m := 1) (news := bs [UInt8.ofNat (n / 281474976710656)]) rfl (show Rd w5 (some ⟨gl, 0, none⟩) (1 * 1) (bs [UInt8.ofNat (n / 281474976710656)]) from Rd.whole (st5.at 0 rfl)) (bs_one _) (by unfold maxLen; have := HL.out; omega) (by have := HL.out; omega) (Nat.le_trans HW.out.f.size hd5.size) ?_
      intro v6 w6 ho6 hf6 hk6 hb6
      have ho6' : Go.Mv.Own w6 w0.heap.size 5 1 v6 (b' ++ [UInt8.ofNat (n / 281474976710656)]).length (bs (b' ++ [UInt8.ofNat (n / 281474976710656)])) := by
        rw [bs_append, List.length_append]; exact ho6
      have hh6 := Has.offW HO5.out (HW.out.h.keep hd5 id) (by decide) hf6
      refine ⟨hh6, ?_⟩
      try simp only [Act.put, List.setIfInBounds_toArray, List.set_cons_zero, List.set_cons_succ]
      have hg6 : Gr q gw w6 v6 (b' ++ [UInt8.ofNat (n / 281474976710656)]).length := by
        rw [List.length_append]; exact (HW.out.k.fr hd5).app hf6 hk6 hb6
      obtain ⟨a6, c6, rfl, -⟩ := id ho6'.form
      obtain ⟨u6, cu6, fu6⟩ := hh6.ready (i := 1) (by simp)
      have hs6 := hh6.set 1 (.slice a6 (b' ++ [UInt8.ofNat (n / 281474976710656)]).length c6)
      have hfs := (Fr.refl (One gw) w6).setCell gw 1 none (.slice a6 (b' ++ [UInt8.ofNat (n / 281474976710656)]).length c6) fun _ => rfl
      have HW6 := Lib.hid (show WrS q w0 _ gw left _ (b' ++ [UInt8.ofNat (n / 281474976710656)]) from ⟨hs6, ho6'.offW hh6 (by decide) hfs, (HO5.out.fr (HW.out.f.then hd5) (Nat.le_refl _) hf6).new hfs HW.out.g, HW.out.g, hg6.set hfs⟩)
      have HE6 := Lib.hid (show b' ++ [UInt8.ofNat (n / 281474976710656)] ++ beW n 6 = b ++ beW n z by rw [← HE.out, List.append_assoc]; rfl)
      clear hd5 st5 ho6 hf6 hb6 hh6 hs6 hfs ho6' hk6 hg6
      generalize (b' ++ [UInt8.ofNat (n / 281474976710656)]).length = nb at *
      refine plan_w (v := ?_) rfl rfl (fun wx => ?_) ?_; rotate_left 1; (go_simp; with_reducible rfl)
      try simp only [Act.put, List.setIfInBounds_toArray, List.set_cons_zero, List.set_cons_succ]
      refine plan_w (v := ?_) rfl rfl (fun wx => ?_) ?_; rotate_left 1; (go_simp; with_reducible rfl)
      try simp only [Act.put, List.setIfInBounds_toArray, List.set_cons_zero, List.set_cons_succ]
      refine plan_m rfl rfl ?_
      go_simp
      try simp only [Act.put, List.setIfInBounds_toArray, List.set_cons_zero, List.set_cons_succ]
      refine plan_end ?_
      refine NoPanic.normal ?_
      go_wp2_with fail
      go_roundw
      case rel => exact ⟨6, _, _, by omega, by go_num, HE6, Lib.hid (by have := HL.out; rw [List.length_append, List.length_singleton]; omega), HW6⟩
      case measure => simp [intOf]
    · have hk1 : ((8 : Nat) : Int) - 1 = 7 := rfl
      simp only [hk1]
      go_wp2_with fail
      refine wp_region_noPanic ?_
      refine wp_region_plan (fun wx => Has wx gw [.int .i64 left, v'] 41) 14 (.w 0 (.w 1 (.w 2 (.w 3 (.t 4 (.w 5 (.w 6 (.w 7 (.w 8 (.w 9 (.r 10 (.r 11 (.w 12 (.w 13 (.m 14 .nil))))))))))))))) (by kernel_rfl) (by kernel_rfl) HW.out.h.drew (fun _ _ _ _ _ h => h) ?_
      refine plan_w (v := ?_) rfl rfl (fun wx => ?_) ?_; rotate_left 1; (go_simp; with_reducible rfl)
      try simp only [Act.put, List.setIfInBounds_toArray, List.set_cons_zero, List.set_cons_succ]
      refine plan_w (v := ?_) rfl rfl (fun wx => ?_) ?_; rotate_left 1; (go_simp; with_reducible rfl)
      try simp only [Act.put, List.setIfInBounds_toArray, List.set_cons_zero, List.set_cons_succ]
      refine plan_w (v := ?_) rfl rfl (fun wx => ?_) ?_; rotate_left 1; (go_simp; with_reducible rfl)
      try simp only [Act.put, List.setIfInBounds_toArray, List.set_cons_zero, List.set_cons_succ]
      refine plan_w (v := ?_) rfl rfl (fun wx => ?_) ?_; rotate_left 1; (go_simp; with_reducible rfl)
      try simp only [Act.put, List.setIfInBounds_toArray, List.set_cons_zero, List.set_cons_succ]
      refine plan_t (v := v') rfl rfl (fun wx hS => ?_) ?_
      · have hc := hS.cell (i := 1) (v := v') rfl; clear hS; go_simp
      try simp only [Act.put, List.setIfInBounds_toArray, List.set_cons_zero, List.set_cons_succ]
      refine plan_w (v := ?_) rfl rfl (fun wx => ?_) ?_; rotate_left 1; (go_simp; with_reducible rfl)
      try simp only [Act.put, List.setIfInBounds_toArray, List.set_cons_zero, List.set_cons_succ]
      refine plan_w (v := ?_) rfl rfl (fun wx => ?_) ?_; rotate_left 1; (go_simp; with_reducible rfl)
      try simp only [Act.put, List.setIfInBounds_toArray, List.set_cons_zero, List.set_cons_succ]
      refine plan_w (v := .int .i64 56) rfl rfl (fun wx => ?_) ?_
      · go_simp <;> decide
      try simp only [Act.put, List.setIfInBounds_toArray, List.set_cons_zero, List.set_cons_succ]
      refine plan_w (v := .int .u64 ((n / 72057594037927936 : Nat) : Int)) rfl rfl (fun wx => ?_) ?_
      · have hs := shr_natW n 56 56 rfl HN.out
        first | (go_simp; done) | (go_simp; rw [hs]; done) | (go_simp; rw [hs]; go_simp; done)
      try simp only [Act.put, List.setIfInBounds_toArray, List.set_cons_zero, List.set_cons_succ]
      refine plan_w (v := .int .u8 (((UInt8.ofNat (n / 72057594037927936)).toNat : Nat) : Int)) rfl rfl (fun wx => ?_) ?_
      · rw [UInt8.toNat_ofNat']; go_simp; exact u8_wrapW _
      try simp only [Act.put, List.setIfInBounds_toArray, List.set_cons_zero, List.set_cons_succ]
      refine plan_r rfl rfl ?_
      refine wp_rows (St.start Nob wr.drew) rfl Tryd.underlying24 info_u8W [(.int .u8 (((UInt8.ofNat (n / 72057594037927936)).toNat : Nat) : Int))] rfl (by intro u hu; simp only [List.mem_singleton] at hu; subst hu; rfl) rfl (bs [UInt8.ofNat (n / 72057594037927936)]) rfl ?_
      intro gl w5 st5
      refine ⟨HW.out.h.keep ((Fr.refl Nob wr).drew.then st5.fr) id, ?_⟩
      try simp only [Act.put, List.setIfInBounds_toArray, List.set_cons_zero, List.set_cons_succ]
      have hd5 := (Fr.refl Nob wr).drew.then st5.fr
      have HO5 := Lib.hid (HW.out.o.still hd5)
      refine plan_r rfl rfl ?_
      refine wp_appendW HO5.out rfl Tryd.underlying24 info_u8W rfl (by decide) rfl (m := 1) (news := bs [UInt8.ofNat (n / 72057594037927936)]) rfl (show Rd w5 (some ⟨gl, 0, none⟩) (1 * 1) (bs [UInt8.ofNat (n / 72057594037927936)]) from Rd.whole (st5.at 0 rfl)) (bs_one _) (by unfold maxLen; have := HL.out; omega) (by have := HL.out; omega) (Nat.le_trans HW.out.f.size hd5.size) ?_
      intro v6 w6 ho6 hf6 hk6 hb6
      have ho6' : Go.Mv.Own w6 w0.heap.size 5 1 v6 (b' ++ [UInt8.ofNat (n / 72057594037927936)]).length (bs (b' ++ [UInt8.ofNat (n / 72057594037927936)])) := by
        rw [bs_append, List.length_append]; exact ho6
      have hh6 := Has.offW HO5.out (HW.out.h.keep hd5 id) (by decide) hf6
      refine ⟨hh6, ?_⟩
      try simp only [Act.put, List.setIfInBounds_toArray, List.set_cons_zero, List.set_cons_succ]
      have hg6 : Gr q gw w6 v6 (b' ++ [UInt8.ofNat (n / 72057594037927936)]).length := by
        rw [List.length_append]; exact (HW.out.k.fr hd5).app hf6 hk6 hb6
      obtain ⟨a6, c6, rfl, -⟩ := id ho6'.form
      obtain ⟨u6, cu6, fu6⟩ := hh6.ready (i := 1) (by simp)
      have hs6 := hh6.set 1 (.slice a6 (b' ++ [UInt8.ofNat (n / 72057594037927936)]).length c6)
      have hfs := (Fr.refl (One gw) w6).setCell gw 1 none (.slice a6 (b' ++ [UInt8.ofNat (n / 72057594037927936)]).length c6) fun _ => rfl
      have HW6 := Lib.hid (show WrS q w0 _ gw left _ (b' ++ [UInt8.ofNat (n / 72057594037927936)]) from ⟨hs6, ho6'.offW hh6 (by decide) hfs, (HO5.out.fr (HW.out.f.then hd5) (Nat.le_refl _) hf6).new hfs HW.out.g, HW.out.g, hg6.set hfs⟩)
      have HE6 := Lib.hid (show b' ++ [UInt8.ofNat (n / 72057594037927936)] ++ beW n 7 = b ++ beW n z by rw [← HE.out, List.append_assoc]; rfl)
      clear hd5 st5 ho6 hf6 hb6 hh6 hs6 hfs ho6' hk6 hg6
      generalize (b' ++ [UInt8.ofNat (n / 72057594037927936)]).length = nb at *
      refine plan_w (v := ?_) rfl rfl (fun wx => ?_) ?_; rotate_left 1; (go_simp; with_reducible rfl)
      try simp only [Act.put, List.setIfInBounds_toArray, List.set_cons_zero, List.set_cons_succ]
      refine plan_w (v := ?_) rfl rfl (fun wx => ?_) ?_; rotate_left 1; (go_simp; with_reducible rfl)
      try simp only [Act.put, List.setIfInBounds_toArray, List.set_cons_zero, List.set_cons_succ]
      refine plan_m rfl rfl ?_
      go_simp
      try simp only [Act.put, List.setIfInBounds_toArray, List.set_cons_zero, List.set_cons_succ]
      refine plan_end ?_
      refine NoPanic.normal ?_
      go_wp2_with fail
      go_roundw
      case rel => exact ⟨7, _, _, by omega, by go_num, HE6, Lib.hid (by have := HL.out; rw [List.length_append, List.length_singleton]; omega), HW6⟩
      case measure => simp [intOf]
end Go.Proofs.YtdadnajbdnbbdaaDoor

/- wire: head (printed by gen_wp3.py). -/
namespace Go.Proofs.YtdadnajbdnbbdaaDoor
open Go.RowKit Go.Mv Mvp
theorem results_noneW {P : Program} {fn : Func} {tmps : Array Value} {w : World} (h : fn.results = #[]) : (results fn tmps).run P w = .ok (.tuple #[]) w := by
  simp [results, h]
theorem orW : ∀ k : Fin 8, ∀ n : Fin 32, bits .or .u8 ((k.val * 32 : Nat) : Int) ((n.val : Nat) : Int) = ((k.val * 32 + n.val : Nat) : Int) := by decide
theorem or_natW (k n : Nat) (hk : k < 8) (hn : n < 32) : bits .or .u8 ((k * 32 : Nat) : Int) (n : Int) = ((k * 32 + n : Nat) : Int) := orW ⟨k, hk⟩ ⟨n, hn⟩
set_option maxHeartbeats 4000000 in
set_option maxRecDepth 1000000 in
theorem head_any (q : Gh) (w0 w : World) (gw kd n : Nat) (left : Int) (v : Value) (b : List UInt8) (h : WrS q w0 w gw left v b) (hk : kd < 8) (hn : n < 18446744073709551616) (hb : b.length ≤ 900000) :
    Calls Tryd.prog 17 #[.pointer (some ⟨gw, 0, none⟩), .int .i64 (kd : Int), .int .u64 (n : Int)] w fun e w' => e = .returned (.tuple #[]) ∧ ∃ v', WrS q w0 w' gw left v' (b ++ headW kd n) := by
  have H := Lib.hid h
  have HB := Lib.hid hb
  have HN := Lib.hid hn
  have hkI : (kd : Int) < 8 := by omega
  have hkI0 : (0 : Int) ≤ (kd : Int) := by omega
  clear h hb hn
  go_enter Tryd.func17, Tryd.ntmps17
  by_cases h24 : n < 24
  · have hI : (n : Int) < 24 := by omega
    have hor : bits .or .u8 ((kd : Int) * 32) (n : Int) = ((kd * 32 + n : Nat) : Int) := by
      have h := or_natW kd n hk (by omega)
      rw [Int.natCast_mul] at h
      exact h
    have hby : ((kd * 32 + n : Nat) : Int) = ((UInt8.ofNat (kd * 32 + n)).toNat : Int) := by rw [UInt8.toNat_ofNat', Nat.mod_eq_of_lt (by omega)]
    rw [hby] at hor
    obtain ⟨yb, hyb⟩ : ∃ yb, UInt8.ofNat (kd * 32 + n) = yb := ⟨_, rfl⟩
    rw [hyb] at hor
    have HYB := Lib.hid hyb
    have c1 := H.out.h.cell (i := 1) (v := v) rfl
    obtain ⟨av, cv, rfl, -⟩ := id H.out.o.form
    clear hby hyb
    go_wp2_with (with_reducible refine wl_stop (o := ⟨some 36, _, _, _, _, _⟩) ?_)
    unfold Stop
    refine wl_slit rfl rfl Tryd.underlying24 info_u8W [.int .u8 (yb.toNat : Int)] rfl (by simp [Value.cells]) rfl rfl ?_
    intro w1 hh1 hf1 hz1
    have HO1 := Lib.hid (H.out.o.still hf1)
    have HH1 := Lib.hid (H.out.h.keep hf1 id)
    have HF1 := Lib.hid (H.out.f.then hf1)
    clear hz1 c1
    go_wp2_with (with_reducible refine wl_stop (o := ⟨some 37, _, _, _, _, _⟩) ?_)
    unfold Stop
    refine wl_append_k rfl rfl Tryd.underlying24 info_u8W rfl (by decide) HO1.out rfl rfl (show Rd w1 (some ⟨w.heap.size, 0, none⟩) (1 * 1) (bs [yb]) from Rd.whole hh1) (bs_one _) (by unfold maxLen; have := HB.out; omega) (by have := HB.out; omega) HF1.out.size ?_
    intro v6 w6 ho6 hf6 hk6 hb6
    have ho6' : Go.Mv.Own w6 w0.heap.size 5 1 v6 (b ++ [yb]).length (bs (b ++ [yb])) := by
      rw [bs_append, List.length_append]; exact ho6
    have hh6 := Has.offW HO1.out HH1.out (by decide) hf6
    have hF6 := HO1.out.fr HF1.out (Nat.le_refl _) hf6
    have hg6 : Gr q gw w6 v6 (b ++ [yb]).length := by
      rw [List.length_append]; exact (H.out.k.fr hf1).app hf6 hk6 hb6
    obtain ⟨a6, c6, rfl, -⟩ := id ho6'.form
    obtain ⟨u6, cu6, fu6⟩ := hh6.ready (i := 1) (by simp)
    have hs6 := hh6.set 1 (.slice a6 (b ++ [yb]).length c6)
    have hfs := (Fr.refl (One gw) w6).setCell gw 1 none (.slice a6 (b ++ [yb]).length c6) fun _ => rfl
    have HW6 := Lib.hid (show WrS q w0 _ gw left _ (b ++ [yb]) from ⟨hs6, ho6'.offW hh6 (by decide) hfs, hF6.new hfs H.out.g, H.out.g, hg6.set hfs⟩)
    clear hh1 ho6 hf6 hb6 hh6 hs6 hfs ho6' hF6 hor hk6 hg6 hf1
    generalize hnb : (b ++ [yb]).length = nb at *
    have HNB := Lib.hid hnb
    clear hnb
    go_wp2_with fail
    refine bodyPost_ret (results_noneW rfl) rfl ⟨rfl, .slice a6 nb c6, ?_⟩
    have e : headW kd n = [yb] := by rw [← HYB.out]; unfold headW; rw [if_pos h24]
    rw [e]
    exact HW6.out
  have hI1 : ¬ (n : Int) < 24 := by omega
  by_cases h8 : n < 256
  · have hI : (n : Int) < 256 := by omega
    have hor : bits .or .u8 ((kd : Int) * 32) 24 = ((kd * 32 + 24 : Nat) : Int) := by
      have h := or_natW kd 24 hk (by omega)
      rw [Int.natCast_mul] at h
      exact h
    have hby : ((kd * 32 + 24 : Nat) : Int) = ((UInt8.ofNat (kd * 32 + 24)).toNat : Int) := by rw [UInt8.toNat_ofNat', Nat.mod_eq_of_lt (by omega)]
    rw [hby] at hor
    obtain ⟨yb, hyb⟩ : ∃ yb, UInt8.ofNat (kd * 32 + 24) = yb := ⟨_, rfl⟩
    rw [hyb] at hor
    have HYB := Lib.hid hyb
    have c1 := H.out.h.cell (i := 1) (v := v) rfl
    obtain ⟨av, cv, rfl, -⟩ := id H.out.o.form
    clear hby hyb
    go_wp2_with (with_reducible refine wl_stop (o := ⟨some 50, _, _, _, _, _⟩) ?_)
    unfold Stop
    refine wl_slit rfl rfl Tryd.underlying24 info_u8W [.int .u8 (yb.toNat : Int)] rfl (by simp [Value.cells]) rfl rfl ?_
    intro w1 hh1 hf1 hz1
    have HO1 := Lib.hid (H.out.o.still hf1)
    have HH1 := Lib.hid (H.out.h.keep hf1 id)
    have HF1 := Lib.hid (H.out.f.then hf1)
    clear hz1 c1
    go_wp2_with (with_reducible refine wl_stop (o := ⟨some 51, _, _, _, _, _⟩) ?_)
    unfold Stop
    refine wl_append_k rfl rfl Tryd.underlying24 info_u8W rfl (by decide) HO1.out rfl rfl (show Rd w1 (some ⟨w.heap.size, 0, none⟩) (1 * 1) (bs [yb]) from Rd.whole hh1) (bs_one _) (by unfold maxLen; have := HB.out; omega) (by have := HB.out; omega) HF1.out.size ?_
    intro v6 w6 ho6 hf6 hk6 hb6
    have ho6' : Go.Mv.Own w6 w0.heap.size 5 1 v6 (b ++ [yb]).length (bs (b ++ [yb])) := by
      rw [bs_append, List.length_append]; exact ho6
    have hh6 := Has.offW HO1.out HH1.out (by decide) hf6
    have hF6 := HO1.out.fr HF1.out (Nat.le_refl _) hf6
    have hg6 : Gr q gw w6 v6 (b ++ [yb]).length := by
      rw [List.length_append]; exact (H.out.k.fr hf1).app hf6 hk6 hb6
    obtain ⟨a6, c6, rfl, -⟩ := id ho6'.form
    obtain ⟨u6, cu6, fu6⟩ := hh6.ready (i := 1) (by simp)
    have hs6 := hh6.set 1 (.slice a6 (b ++ [yb]).length c6)
    have hfs := (Fr.refl (One gw) w6).setCell gw 1 none (.slice a6 (b ++ [yb]).length c6) fun _ => rfl
    have HW6 := Lib.hid (show WrS q w0 _ gw left _ (b ++ [yb]) from ⟨hs6, ho6'.offW hh6 (by decide) hfs, hF6.new hfs H.out.g, H.out.g, hg6.set hfs⟩)
    clear hh1 ho6 hf6 hb6 hh6 hs6 hfs ho6' hF6 hor hk6 hg6 hf1
    generalize hnb : (b ++ [yb]).length = nb at *
    have HNB := Lib.hid hnb
    clear hnb
    go_wp2_with fail
    refine (number_any q w0 _ gw n 1 left _ (b ++ [yb]) HW6.out HN.out (by omega) (by rw [HNB.out, ← HNB.out, List.length_append, List.length_singleton]; have := HB.out; omega)).mono ?_
    rintro e w7 ⟨rfl, v7, hw7⟩
    have HW7 := Lib.hid hw7
    clear hw7
    go_wp2_with fail
    go_end0
    refine ⟨rfl, v7, ?_⟩
    have e : headW kd n = [yb] ++ beW n 1 := by rw [← HYB.out]; unfold headW; rw [if_neg h24, if_pos h8]; rfl
    rw [e, ← List.append_assoc]
    exact HW7.out
  have hI2 : ¬ (n : Int) < 256 := by omega
  by_cases h16 : n < 65536
  · have hI : (n : Int) < 65536 := by omega
    have hor : bits .or .u8 ((kd : Int) * 32) 25 = ((kd * 32 + 25 : Nat) : Int) := by
      have h := or_natW kd 25 hk (by omega)
      rw [Int.natCast_mul] at h
      exact h
    have hby : ((kd * 32 + 25 : Nat) : Int) = ((UInt8.ofNat (kd * 32 + 25)).toNat : Int) := by rw [UInt8.toNat_ofNat', Nat.mod_eq_of_lt (by omega)]
    rw [hby] at hor
    obtain ⟨yb, hyb⟩ : ∃ yb, UInt8.ofNat (kd * 32 + 25) = yb := ⟨_, rfl⟩
    rw [hyb] at hor
    have HYB := Lib.hid hyb
    have c1 := H.out.h.cell (i := 1) (v := v) rfl
    obtain ⟨av, cv, rfl, -⟩ := id H.out.o.form
    clear hby hyb
    go_wp2_with (with_reducible refine wl_stop (o := ⟨some 67, _, _, _, _, _⟩) ?_)
    unfold Stop
    refine wl_slit rfl rfl Tryd.underlying24 info_u8W [.int .u8 (yb.toNat : Int)] rfl (by simp [Value.cells]) rfl rfl ?_
    intro w1 hh1 hf1 hz1
    have HO1 := Lib.hid (H.out.o.still hf1)
    have HH1 := Lib.hid (H.out.h.keep hf1 id)
    have HF1 := Lib.hid (H.out.f.then hf1)
    clear hz1 c1
    go_wp2_with (with_reducible refine wl_stop (o := ⟨some 68, _, _, _, _, _⟩) ?_)
    unfold Stop
    refine wl_append_k rfl rfl Tryd.underlying24 info_u8W rfl (by decide) HO1.out rfl rfl (show Rd w1 (some ⟨w.heap.size, 0, none⟩) (1 * 1) (bs [yb]) from Rd.whole hh1) (bs_one _) (by unfold maxLen; have := HB.out; omega) (by have := HB.out; omega) HF1.out.size ?_
    intro v6 w6 ho6 hf6 hk6 hb6
    have ho6' : Go.Mv.Own w6 w0.heap.size 5 1 v6 (b ++ [yb]).length (bs (b ++ [yb])) := by
      rw [bs_append, List.length_append]; exact ho6
    have hh6 := Has.offW HO1.out HH1.out (by decide) hf6
    have hF6 := HO1.out.fr HF1.out (Nat.le_refl _) hf6
    have hg6 : Gr q gw w6 v6 (b ++ [yb]).length := by
      rw [List.length_append]; exact (H.out.k.fr hf1).app hf6 hk6 hb6
    obtain ⟨a6, c6, rfl, -⟩ := id ho6'.form
    obtain ⟨u6, cu6, fu6⟩ := hh6.ready (i := 1) (by simp)
    have hs6 := hh6.set 1 (.slice a6 (b ++ [yb]).length c6)
    have hfs := (Fr.refl (One gw) w6).setCell gw 1 none (.slice a6 (b ++ [yb]).length c6) fun _ => rfl
    have HW6 := Lib.hid (show WrS q w0 _ gw left _ (b ++ [yb]) from ⟨hs6, ho6'.offW hh6 (by decide) hfs, hF6.new hfs H.out.g, H.out.g, hg6.set hfs⟩)
    clear hh1 ho6 hf6 hb6 hh6 hs6 hfs ho6' hF6 hor hk6 hg6 hf1
    generalize hnb : (b ++ [yb]).length = nb at *
    have HNB := Lib.hid hnb
    clear hnb
    go_wp2_with fail
    refine (number_any q w0 _ gw n 2 left _ (b ++ [yb]) HW6.out HN.out (by omega) (by rw [HNB.out, ← HNB.out, List.length_append, List.length_singleton]; have := HB.out; omega)).mono ?_
    rintro e w7 ⟨rfl, v7, hw7⟩
    have HW7 := Lib.hid hw7
    clear hw7
    go_wp2_with fail
    go_end0
    refine ⟨rfl, v7, ?_⟩
    have e : headW kd n = [yb] ++ beW n 2 := by rw [← HYB.out]; unfold headW; rw [if_neg h24, if_neg h8, if_pos h16]; rfl
    rw [e, ← List.append_assoc]
    exact HW7.out
  have hI3 : ¬ (n : Int) < 65536 := by omega
  by_cases h32 : n < 4294967296
  · have hI : (n : Int) < 4294967296 := by omega
    have hor : bits .or .u8 ((kd : Int) * 32) 26 = ((kd * 32 + 26 : Nat) : Int) := by
      have h := or_natW kd 26 hk (by omega)
      rw [Int.natCast_mul] at h
      exact h
    have hby : ((kd * 32 + 26 : Nat) : Int) = ((UInt8.ofNat (kd * 32 + 26)).toNat : Int) := by rw [UInt8.toNat_ofNat', Nat.mod_eq_of_lt (by omega)]
    rw [hby] at hor
    obtain ⟨yb, hyb⟩ : ∃ yb, UInt8.ofNat (kd * 32 + 26) = yb := ⟨_, rfl⟩
    rw [hyb] at hor
    have HYB := Lib.hid hyb
    have c1 := H.out.h.cell (i := 1) (v := v) rfl
    obtain ⟨av, cv, rfl, -⟩ := id H.out.o.form
    clear hby hyb
    go_wp2_with (with_reducible refine wl_stop (o := ⟨some 84, _, _, _, _, _⟩) ?_)
    unfold Stop
    refine wl_slit rfl rfl Tryd.underlying24 info_u8W [.int .u8 (yb.toNat : Int)] rfl (by simp [Value.cells]) rfl rfl ?_
    intro w1 hh1 hf1 hz1
    have HO1 := Lib.hid (H.out.o.still hf1)
    have HH1 := Lib.hid (H.out.h.keep hf1 id)
    have HF1 := Lib.hid (H.out.f.then hf1)
    clear hz1 c1
    go_wp2_with (with_reducible refine wl_stop (o := ⟨some 85, _, _, _, _, _⟩) ?_)
    unfold Stop
    refine wl_append_k rfl rfl Tryd.underlying24 info_u8W rfl (by decide) HO1.out rfl rfl (show Rd w1 (some ⟨w.heap.size, 0, none⟩) (1 * 1) (bs [yb]) from Rd.whole hh1) (bs_one _) (by unfold maxLen; have := HB.out; omega) (by have := HB.out; omega) HF1.out.size ?_
    intro v6 w6 ho6 hf6 hk6 hb6
    have ho6' : Go.Mv.Own w6 w0.heap.size 5 1 v6 (b ++ [yb]).length (bs (b ++ [yb])) := by
      rw [bs_append, List.length_append]; exact ho6
    have hh6 := Has.offW HO1.out HH1.out (by decide) hf6
    have hF6 := HO1.out.fr HF1.out (Nat.le_refl _) hf6
    have hg6 : Gr q gw w6 v6 (b ++ [yb]).length := by
      rw [List.length_append]; exact (H.out.k.fr hf1).app hf6 hk6 hb6
    obtain ⟨a6, c6, rfl, -⟩ := id ho6'.form
    obtain ⟨u6, cu6, fu6⟩ := hh6.ready (i := 1) (by simp)
    have hs6 := hh6.set 1 (.slice a6 (b ++ [yb]).length c6)
    have hfs := (Fr.refl (One gw) w6).setCell gw 1 none (.slice a6 (b ++ [yb]).length c6) fun _ => rfl
    have HW6 := Lib.hid (show WrS q w0 _ gw left _ (b ++ [yb]) from ⟨hs6, ho6'.offW hh6 (by decide) hfs, hF6.new hfs H.out.g, H.out.g, hg6.set hfs⟩)
    clear hh1 ho6 hf6 hb6 hh6 hs6 hfs ho6' hF6 hor hk6 hg6 hf1
    generalize hnb : (b ++ [yb]).length = nb at *
    have HNB := Lib.hid hnb
    clear hnb
    go_wp2_with fail
    refine (number_any q w0 _ gw n 4 left _ (b ++ [yb]) HW6.out HN.out (by omega) (by rw [HNB.out, ← HNB.out, List.length_append, List.length_singleton]; have := HB.out; omega)).mono ?_
    rintro e w7 ⟨rfl, v7, hw7⟩
    have HW7 := Lib.hid hw7
    clear hw7
    go_wp2_with fail
    go_end0
    refine ⟨rfl, v7, ?_⟩
    have e : headW kd n = [yb] ++ beW n 4 := by rw [← HYB.out]; unfold headW; rw [if_neg h24, if_neg h8, if_neg h16, if_pos h32]; rfl
    rw [e, ← List.append_assoc]
    exact HW7.out
  have hI4 : ¬ (n : Int) < 4294967296 := by omega
  have hor : bits .or .u8 ((kd : Int) * 32) 27 = ((kd * 32 + 27 : Nat) : Int) := by
    have h := or_natW kd 27 hk (by omega)
    rw [Int.natCast_mul] at h
    exact h
  have hby : ((kd * 32 + 27 : Nat) : Int) = ((UInt8.ofNat (kd * 32 + 27)).toNat : Int) := by rw [UInt8.toNat_ofNat', Nat.mod_eq_of_lt (by omega)]
  rw [hby] at hor
  obtain ⟨yb, hyb⟩ : ∃ yb, UInt8.ofNat (kd * 32 + 27) = yb := ⟨_, rfl⟩
  rw [hyb] at hor
  have HYB := Lib.hid hyb
  have c1 := H.out.h.cell (i := 1) (v := v) rfl
  obtain ⟨av, cv, rfl, -⟩ := id H.out.o.form
  clear hby hyb
  go_wp2_with (with_reducible refine wl_stop (o := ⟨some 17, _, _, _, _, _⟩) ?_)
  unfold Stop
  refine wl_slit rfl rfl Tryd.underlying24 info_u8W [.int .u8 (yb.toNat : Int)] rfl (by simp [Value.cells]) rfl rfl ?_
  intro w1 hh1 hf1 hz1
  have HO1 := Lib.hid (H.out.o.still hf1)
  have HH1 := Lib.hid (H.out.h.keep hf1 id)
  have HF1 := Lib.hid (H.out.f.then hf1)
  clear hz1 c1
  go_wp2_with (with_reducible refine wl_stop (o := ⟨some 18, _, _, _, _, _⟩) ?_)
  unfold Stop
  refine wl_append_k rfl rfl Tryd.underlying24 info_u8W rfl (by decide) HO1.out rfl rfl (show Rd w1 (some ⟨w.heap.size, 0, none⟩) (1 * 1) (bs [yb]) from Rd.whole hh1) (bs_one _) (by unfold maxLen; have := HB.out; omega) (by have := HB.out; omega) HF1.out.size ?_
  intro v6 w6 ho6 hf6 hk6 hb6
  have ho6' : Go.Mv.Own w6 w0.heap.size 5 1 v6 (b ++ [yb]).length (bs (b ++ [yb])) := by
    rw [bs_append, List.length_append]; exact ho6
  have hh6 := Has.offW HO1.out HH1.out (by decide) hf6
  have hF6 := HO1.out.fr HF1.out (Nat.le_refl _) hf6
  have hg6 : Gr q gw w6 v6 (b ++ [yb]).length := by
    rw [List.length_append]; exact (H.out.k.fr hf1).app hf6 hk6 hb6
  obtain ⟨a6, c6, rfl, -⟩ := id ho6'.form
  obtain ⟨u6, cu6, fu6⟩ := hh6.ready (i := 1) (by simp)
  have hs6 := hh6.set 1 (.slice a6 (b ++ [yb]).length c6)
  have hfs := (Fr.refl (One gw) w6).setCell gw 1 none (.slice a6 (b ++ [yb]).length c6) fun _ => rfl
  have HW6 := Lib.hid (show WrS q w0 _ gw left _ (b ++ [yb]) from ⟨hs6, ho6'.offW hh6 (by decide) hfs, hF6.new hfs H.out.g, H.out.g, hg6.set hfs⟩)
  clear hh1 ho6 hf6 hb6 hh6 hs6 hfs ho6' hF6 hor hk6 hg6 hf1
  generalize hnb : (b ++ [yb]).length = nb at *
  have HNB := Lib.hid hnb
  clear hnb
  go_wp2_with fail
  refine (number_any q w0 _ gw n 8 left _ (b ++ [yb]) HW6.out HN.out (by omega) (by rw [HNB.out, ← HNB.out, List.length_append, List.length_singleton]; have := HB.out; omega)).mono ?_
  rintro e w7 ⟨rfl, v7, hw7⟩
  have HW7 := Lib.hid hw7
  clear hw7
  go_wp2_with fail
  go_end0
  refine ⟨rfl, v7, ?_⟩
  have e : headW kd n = [yb] ++ beW n 8 := by rw [← HYB.out]; unfold headW; rw [if_neg h24, if_neg h8, if_neg h16, if_neg h32]; rfl
  rw [e, ← List.append_assoc]
  exact HW7.out
end Go.Proofs.YtdadnajbdnbbdaaDoor

/- wire: must. -/
namespace Go.Proofs.YtdadnajbdnbbdaaDoor
open Go.RowKit Go.Mv Mvp
set_option maxHeartbeats 4000000 in
set_option maxRecDepth 1000000 in
theorem must_ok (w : World) : Calls Tryd.prog 16 #[.bool true] w fun e w' => e = .returned (.tuple #[]) ∧ w' = w := by
  go_enter Tryd.func16, Tryd.ntmps16
  go_wp2_with fail
  go_end0
  exact ⟨rfl, rfl⟩
set_option maxHeartbeats 4000000 in
set_option maxRecDepth 1000000 in
theorem must_no (w : World) : Calls Tryd.prog 16 #[.bool false] w fun e w' => e = .panicked [{ v := .iface 48 (.agg #[]), recovered := false }] ∧ w' = w := by
  go_enter Tryd.func16, Tryd.ntmps16
  go_wp2_with fail
  first | exact ⟨rfl, rfl⟩ | (unfold bodyPost; exact ⟨rfl, rfl⟩) | (simp [bodyPost]; done) | (unfold bodyPost; simp)
/-- a writer, whatever was written -/
def WrX (q : Gh) (w0 w : World) (gw : Nat) : Prop := ∃ left v b, WrS q w0 w gw left v b
def brokenW : Ending := .panicked [{ v := .iface 48 (.agg #[]), recovered := false }]
set_option maxHeartbeats 4000000 in
set_option maxRecDepth 1000000 in
theorem one_zero (q : Gh) (w0 w : World) (gw : Nat) (deep : Int) (v : Value) (b : List UInt8) (h : WrS q w0 w gw 0 v b) :
    Calls Tryd.prog 14 #[.pointer (some ⟨gw, 0, none⟩), .int .i64 deep] w fun e w' => e = brokenW ∧ WrX q w0 w' gw := by
  obtain ⟨u, -, fu⟩ := h.h.ready (i := 0) (by simp)
  have c0 := h.h.cell (i := 0) (v := .int .i64 0) rfl
  have hfs := (Fr.refl (One gw) w).setCell gw 0 none (.int .i64 (-1)) fun _ => rfl
  have hs := h.h.set 0 (.int .i64 (-1))
  have HF := Lib.hid (show WrX q w0 (w.setCell ⟨gw, 0, none⟩ (.int .i64 (-1))) gw from ⟨_, v, b, hs, h.o.offW h.h (by decide) hfs, h.f.new hfs h.g, h.g, h.k.set hfs⟩)
  clear hs
  have c1 := (h.h.set 0 (.int .i64 (-1))).cell (i := 0) (v := .int .i64 (-1)) rfl
  clear hfs h
  go_enter Tryd.func14, Tryd.ntmps14
  go_wp2_with fail
  refine (must_no _).mono ?_
  rintro e w' ⟨rfl, rfl⟩
  first | exact ⟨rfl, HF.out⟩ | (go_wp2_with fail; first | exact ⟨rfl, HF.out⟩ | (unfold bodyPost; exact ⟨rfl, rfl, HF.out⟩))
set_option maxHeartbeats 4000000 in
set_option maxRecDepth 1000000 in
theorem one_deep (q : Gh) (w0 w : World) (gw m deep : Nat) (v : Value) (b : List UInt8) (h : WrS q w0 w gw ((m : Int) + 1) v b) (hm : m ≤ 5000) (hd : 16 < deep) :
    Calls Tryd.prog 14 #[.pointer (some ⟨gw, 0, none⟩), .int .i64 (deep : Int)] w fun e w' => e = brokenW ∧ WrX q w0 w' gw := by
  obtain ⟨u, -, fu⟩ := h.h.ready (i := 0) (by simp)
  have c0 := h.h.cell (i := 0) (v := .int .i64 ((m : Int) + 1)) rfl
  have hfs := (Fr.refl (One gw) w).setCell gw 0 none (.int .i64 (m : Int)) fun _ => rfl
  have hs := h.h.set 0 (.int .i64 (m : Int))
  have HF := Lib.hid (show WrX q w0 (w.setCell ⟨gw, 0, none⟩ (.int .i64 (m : Int))) gw from ⟨_, v, b, hs, h.o.offW h.h (by decide) hfs, h.f.new hfs h.g, h.g, h.k.set hfs⟩)
  clear hs
  have c1 := (h.h.set 0 (.int .i64 (m : Int))).cell (i := 0) (v := .int .i64 (m : Int)) rfl
  have hmI : (m : Int) ≤ 5000 := by omega
  have hdI : ¬ (deep : Int) ≤ 16 := by omega
  have hdI2 : (16 : Int) < (deep : Int) := by omega
  clear hfs h
  go_enter Tryd.func14, Tryd.ntmps14
  go_wp2_with fail
  refine (must_no _).mono ?_
  rintro e w' ⟨rfl, rfl⟩
  first | exact ⟨rfl, HF.out⟩ | (go_wp2_with fail; first | exact ⟨rfl, HF.out⟩ | (unfold bodyPost; exact ⟨rfl, rfl, HF.out⟩))
set_option maxHeartbeats 4000000 in
set_option maxRecDepth 1000000 in
theorem one_ok (q : Gh) (w0 w : World) (gw m deep : Nat) (v : Value) (b : List UInt8) (h : WrS q w0 w gw ((m : Int) + 1) v b) (hm : m ≤ 5000) (hd : deep ≤ 16) :
    Calls Tryd.prog 14 #[.pointer (some ⟨gw, 0, none⟩), .int .i64 (deep : Int)] w fun e w' => e = .returned (.tuple #[]) ∧ WrS q w0 w' gw (m : Int) v b := by
  obtain ⟨u, -, fu⟩ := h.h.ready (i := 0) (by simp)
  have c0 := h.h.cell (i := 0) (v := .int .i64 ((m : Int) + 1)) rfl
  have hfs := (Fr.refl (One gw) w).setCell gw 0 none (.int .i64 (m : Int)) fun _ => rfl
  have hs := h.h.set 0 (.int .i64 (m : Int))
  have HW := Lib.hid (show WrS q w0 (w.setCell ⟨gw, 0, none⟩ (.int .i64 (m : Int))) gw (m : Int) v b from ⟨hs, h.o.offW h.h (by decide) hfs, h.f.new hfs h.g, h.g, h.k.set hfs⟩)
  have c1 := hs.cell (i := 0) (v := .int .i64 (m : Int)) rfl
  have hmI : (m : Int) ≤ 5000 := by omega
  have hdI : (deep : Int) ≤ 16 := by omega
  clear hfs h hs
  go_enter Tryd.func14, Tryd.ntmps14
  go_wp2_with fail
  refine (must_ok _).mono ?_
  rintro e w' ⟨rfl, rfl⟩
  go_wp2_with fail
  go_end0
  exact ⟨rfl, HW.out⟩
end Go.Proofs.YtdadnajbdnbbdaaDoor

/- wire: bytes.Compare; the map of shapes; what fits. -/
namespace Go.Mv
open Go.RowKit
theorem cmp_ltW : ∀ a b : List UInt8, Lib.compareBytes a b < 0 ↔ ltW a b = true
  | [], [] => by simp [Lib.compareBytes, ltW]
  | [], _ :: _ => by simp [Lib.compareBytes, ltW]
  | _ :: _, [] => by simp [Lib.compareBytes, ltW]
  | x :: a, y :: b => by
    have ih := cmp_ltW a b
    unfold Lib.compareBytes ltW
    by_cases hxy : x = y
    · subst hxy
      have hlt : ¬ x < x := UInt8.lt_irrefl x
      simp only [hlt, if_true, if_false]
      exact ih
    · simp only [hxy, if_false]
      by_cases hlt : x < y
      · have h2 : x.toNat < y.toNat := UInt8.lt_iff_toNat_lt.1 hlt
        simp [hlt, h2]
      · have h3 : y < x := UInt8.lt_of_le_of_ne (UInt8.not_lt.1 hlt) (Ne.symm hxy)
        have h2 : ¬ x.toNat < y.toNat := fun h => hlt (UInt8.lt_iff_toNat_lt.2 h)
        simp [hlt, h3, h2]
/-- a map in memory -/
def MapAt (w : World) (g : Nat) (es : Array MapEntry) (c : Nat) : Prop := w.heap[g]? = some (.map es c)
theorem MapAt.lt {w : World} {g c : Nat} {es : Array MapEntry} (h : MapAt w g es c) : g < w.heap.size := by
  rcases Nat.lt_or_ge g w.heap.size with k | k
  · exact k
  · unfold MapAt at h; simp [Array.getElem?_eq_none k] at h
theorem MapAt.keep {S : Nat → Prop} {w w' : World} {g c : Nat} {es : Array MapEntry} (h : MapAt w g es c) (hf : Fr S w w') (hs : ¬ S g) : MapAt w' g es c := (hf.block g h.lt hs).trans h
variable {P : Program}
theorem run_loadW (w : World) : ∀ (l : List UInt8) (a : Addr) (acc : ByteArray), (∀ j x, l[j]? = some x → w.cell? (a.add j) = some (.int .u8 (x.toNat : Int))) →
    (Extern.Bytes.loadBytes a l.length acc).run P w = .ok ⟨acc.data ++ l.toArray⟩ w
  | [], a, acc, _ => by simp [Extern.Bytes.loadBytes]
  | x :: l, a, acc, h => by
    have h0 : w.cell? a = some (.int .u8 (x.toNat : Int)) := by
      have := h 0 x rfl
      simpa [Addr.add] using this
    have ih := run_loadW w l (a.add 1) (acc.push x) (fun j y hy => by
      have := h (j + 1) y (by simpa using hy)
      have e : (a.add 1).add j = a.add (j + 1) := by
        unfold Addr.add
        by_cases hj : j = 0
        · subst hj; simp
        · simp [hj]; omega
      rw [e]; exact this)
    have hx : (x.toNat : Int).toNat.toUInt8 = x := by simp
    simp only [List.length_cons, Extern.Bytes.loadBytes, Sem.run_bind, run_load, h0, Result.andThen, hx]
    rw [ih]
    congr 1
    apply ByteArray.ext
    simp [ByteArray.push]
theorem wl_insert {w : World} {ops : Array Oper} {rest : List Oper} {o : Oper} {a : Act} {Q : Exit → Act → World → Prop} {t kt e : TypeId} {m k x : Operand} (hgd : o.guard = none) (ho : o.op = .insert t m k x) (ht : P.underlying t = some (.map kt e)) (hkt : P.underlying kt = some (.int .i64))
    {g c : Nat} {es : Array MapEntry} {key : Int} {v : Value} (hm : a.eval m = .map (some g)) (hk : a.eval k = .int .i64 key) (hx : a.eval x = v) (hg : MapAt w g es c) (hf : Instr.findNow (.int .i64) (.int .i64 key) es.toList 0 = some none)
    (h : ∀ w', MapAt w' g (es.push { key := .int .i64 key, val := v, born := c }) (c + 1) → Fr (One g) w w' → wpList P ops Q rest (a.put o.dst undef) w') : wpList P ops Q (o :: rest) a w := by
  refine wpList_plain hgd fun K hK => ?_
  have hb : w.heap[g]? = some (.map es c) := hg
  have hr : (Instr.mapUpdate t (.map (some g)) (.int .i64 key) v).run P w = .ok () { w with heap := w.heap.setIfInBounds g (.map (es.push { key := .int .i64 key, val := v, born := c }) (c + 1)) } := by
    simp [Instr.mapUpdate, run_underlying ht, MapKept.run_getObj_map hb, MapKept.run_checkKey hkt (k := .int .i64 key) rfl, MapKept.run_findKey hkt hf, MapKept.run_setObj_map _ hb, Result.andThen]
  unfold Oper.wp execOp
  simp only [ho, hm, hk, hx, Sem.run_bind, Sem.run_pure, Result.andThen_ok, hr]
  have hs := MapKept.heap_set (o' := .map (es.push { key := .int .i64 key, val := v, born := c }) (c + 1)) hb
  exact hK _ _ (h _ hs.1 ⟨rfl, rfl, rfl, by simp, fun i _ hi => hs.2 i hi⟩)
end Go.Mv
namespace Go.Proofs.YtdadnajbdnbbdaaDoor
open Go.RowKit Go.Mv Mvp
theorem run_cmpB (l m : List UInt8) (a b : Option Addr) (n n' c c' : Nat) (w : World) (h1 : RdB w a n l) (h2 : RdB w b n' m) :
    (callFunc 28 #[.slice a n c, .slice b n' c']).run Tryd.prog w = .ok (.value (.int .i64 (Lib.compareBytes l m))) w := by
  have hl : ∀ (l : List UInt8) (a : Option Addr) (n c : Nat), RdB w a n l → (Extern.Bytes.bytesOf (.slice a n c)).run Tryd.prog w = .ok (mkS l) w := by
    intro l a n c h
    cases a with
    | none =>
      have : l = [] := List.eq_nil_of_length_eq_zero (by
        rcases h.2 with h0 | ⟨b, o, h0, _⟩
        · rw [h.len, h0]
        · cases h0)
      subst this; rfl
    | some ad =>
      have e : n = l.length := h.len.symm
      subst e
      show (Extern.Bytes.loadBytes ad l.length ByteArray.empty).run Tryd.prog w = _
      rcases Nat.eq_zero_or_pos l.length with h0 | h0
      · have : l = [] := List.eq_nil_of_length_eq_zero h0
        subst this
        rfl
      · obtain ⟨b, o, e, hat⟩ := Rd.at (w := w) (vs := bs l) h h0
        cases e
        rw [run_loadW w l _ _ (fun j x hx => hat.add j _ (by simp [bs, hx]))]
        congr 1
        apply ByteArray.ext
        show (#[] : Array UInt8) ++ l.toArray = l.toArray
        simp
  rw [run_callFunc_extern Tryd.func28 (by kernel_rfl) (by kernel_rfl) (by kernel_rfl) (e := Extern.BytealgCompare.compare) (by kernel_rfl)]
  show ((do pure (goInt (Extern.BytealgCompare.cmp (← Extern.Bytes.bytesOf (.slice a n c)) (← Extern.Bytes.bytesOf (.slice b n' c')))) : Sem Value).run Tryd.prog w).andThen _ = _
  simp only [Sem.run_bind, hl l a n c h1, hl m b n' c' h2, Result.andThen_ok, Sem.run_pure, Lib.cmp_eq, mkS_toList]
  rfl
set_option maxHeartbeats 4000000 in
set_option maxRecDepth 1000000 in
theorem Compare_any (l m : List UInt8) (a b : Option Addr) (n n' c c' : Nat) (w : World) (h1 : RdB w a n l) (h2 : RdB w b n' m) :
    Calls Tryd.prog 26 #[.slice a n c, .slice b n' c'] w fun e w' => e = .returned (.int .i64 (Lib.compareBytes l m)) ∧ w' = w := by
  have hr := run_cmpB l m a b n n' c c' w h1 h2
  clear h1 h2
  go_enter Tryd.func26, Tryd.ntmps26
  go_wp2_with fail
  go_ret
  exact ⟨rfl, rfl⟩
/-- a shape -/
def shV (a b c : Bool) (f : FuncId) : Value := .agg #[.bool a, .bool b, .bool c, .func (.func f) #[] #[]]
def shE : Array MapEntry := #[⟨.int .i64 0, shV true false false 21, 0⟩, ⟨.int .i64 1, shV true false false 21, 1⟩, ⟨.int .i64 2, shV false true false 21, 2⟩, ⟨.int .i64 3, shV false true false 22, 3⟩,
  ⟨.int .i64 4, shV false false true 21, 4⟩, ⟨.int .i64 5, shV false false true 23, 5⟩, ⟨.int .i64 7, shV true false false 24, 6⟩]
set_option maxHeartbeats 4000000 in
set_option maxRecDepth 1000000 in
theorem shapes_any (w : World) : Calls Tryd.prog 15 #[] w fun e w' => ∃ g, e = .returned (.map (some g)) ∧ MapAt w' g shE 7 ∧ Fr Nob w w' := by
  have hmm := @run_makeMap Tryd.prog
  go_enter Tryd.func15, Tryd.ntmps15
  go_wp2_with (with_reducible refine wl_stop (o := ⟨some 2, _, _, _, _, _⟩) ?_)
  unfold Stop
  have hf0 := (Fr.refl Nob w).alloc (.map #[] 0)
  have hm0 : MapAt (w.alloc (.map #[] 0)) w.heap.size #[] 0 := (MapKept.heap_alloc w (.map #[] 0)).1
  have hg0 : w.heap.size ≤ w.heap.size := Nat.le_refl _
  have hgS := hg0
  generalize hgw : w.heap.size = g at hm0 hg0 ⊢
  generalize hw1 : w.alloc (.map #[] 0) = w0 at *
  have HG := Lib.hid hgw
  have HM0 := Lib.hid hm0
  have HF0 := Lib.hid hf0
  clear hw1 hmm hgw hm0 hf0 hgS hg0
  refine wl_build rfl rfl #[.bool true, .bool false, .bool false, .func (.func 21) #[] #[]] (by kernel_rfl) ?_
  refine wl_insert rfl rfl Tryd.underlying55 Tryd.underlying3 rfl rfl rfl HM0.out rfl ?_
  intro w1 hm1 hf1
  have HM1 := Lib.hid hm1
  have HF1 := Lib.hid (HF0.out.new hf1 (by have := HG.out; omega))
  clear hm1 hf1 HM0 HF0
  refine wl_build rfl rfl #[.bool true, .bool false, .bool false, .func (.func 21) #[] #[]] (by kernel_rfl) ?_
  refine wl_insert rfl rfl Tryd.underlying55 Tryd.underlying3 rfl rfl rfl HM1.out rfl ?_
  intro w2 hm2 hf2
  have HM2 := Lib.hid hm2
  have HF2 := Lib.hid (HF1.out.new hf2 (by have := HG.out; omega))
  clear hm2 hf2 HM1 HF1
  refine wl_build rfl rfl #[.bool false, .bool true, .bool false, .func (.func 21) #[] #[]] (by kernel_rfl) ?_
  refine wl_insert rfl rfl Tryd.underlying55 Tryd.underlying3 rfl rfl rfl HM2.out rfl ?_
  intro w3 hm3 hf3
  have HM3 := Lib.hid hm3
  have HF3 := Lib.hid (HF2.out.new hf3 (by have := HG.out; omega))
  clear hm3 hf3 HM2 HF2
  refine wl_build rfl rfl #[.bool false, .bool true, .bool false, .func (.func 22) #[] #[]] (by kernel_rfl) ?_
  refine wl_insert rfl rfl Tryd.underlying55 Tryd.underlying3 rfl rfl rfl HM3.out rfl ?_
  intro w4 hm4 hf4
  have HM4 := Lib.hid hm4
  have HF4 := Lib.hid (HF3.out.new hf4 (by have := HG.out; omega))
  clear hm4 hf4 HM3 HF3
  refine wl_build rfl rfl #[.bool false, .bool false, .bool true, .func (.func 21) #[] #[]] (by kernel_rfl) ?_
  refine wl_insert rfl rfl Tryd.underlying55 Tryd.underlying3 rfl rfl rfl HM4.out rfl ?_
  intro w5 hm5 hf5
  have HM5 := Lib.hid hm5
  have HF5 := Lib.hid (HF4.out.new hf5 (by have := HG.out; omega))
  clear hm5 hf5 HM4 HF4
  refine wl_build rfl rfl #[.bool false, .bool false, .bool true, .func (.func 23) #[] #[]] (by kernel_rfl) ?_
  refine wl_insert rfl rfl Tryd.underlying55 Tryd.underlying3 rfl rfl rfl HM5.out rfl ?_
  intro w6 hm6 hf6
  have HM6 := Lib.hid hm6
  have HF6 := Lib.hid (HF5.out.new hf6 (by have := HG.out; omega))
  clear hm6 hf6 HM5 HF5
  refine wl_build rfl rfl #[.bool true, .bool false, .bool false, .func (.func 24) #[] #[]] (by kernel_rfl) ?_
  refine wl_insert rfl rfl Tryd.underlying55 Tryd.underlying3 rfl rfl rfl HM6.out rfl ?_
  intro w7 hm7 hf7
  have HM7 := Lib.hid hm7
  have HF7 := Lib.hid (HF6.out.new hf7 (by have := HG.out; omega))
  clear hm7 hf7 HM6 HF6
  go_wp2_with fail
  go_ret
  exact ⟨g, rfl, HM7.out, HF7.out⟩
end Go.Proofs.YtdadnajbdnbbdaaDoor

/- wire: items in memory; the look-up of a shape; what fits. -/
namespace Go.Mv
open Go.RowKit
/-- bytes, within their capacity -/
def RdC (w : World) (a : Option Addr) (n c : Nat) (l : List UInt8) : Prop := RdB w a n l ∧ n ≤ c
theorem RdC.still {w w' : World} {a : Option Addr} {n c : Nat} {l : List UInt8} (h : RdC w a n c l) (hf : Fr Nob w w') : RdC w' a n c l := ⟨h.1.still hf, h.2⟩
mutual
/-- four cells are an item -/
def ItV (w : World) (v : List Value) : It → Prop
  | .mk k n d l => ∃ da dc la lc, v = [.int .i64 k, .int .u64 (n : Int), .slice da d.length dc, .slice la l.length lc] ∧ RdC w da d.length dc d ∧ n < 18446744073709551616 ∧ d.length ≤ 1000000 ∧ l.length ≤ 1000 ∧ (l = [] ∨ ∃ lb lo, la = some ⟨lb, lo, none⟩ ∧ ItsM w lb lo l)
/-- items lie side by side -/
def ItsM (w : World) (b o : Nat) : List It → Prop
  | [] => True
  | t :: ts => (∃ v, v.length = 4 ∧ At w b o v ∧ ItV w v t) ∧ ItsM w b (o + 4) ts
end
mutual
theorem ItV.still : ∀ (t : It) {w w' : World} {v : List Value}, ItV w v t → Fr Nob w w' → ItV w' v t
  | .mk k n d l, w, w', v, h, hf => by
    unfold ItV at h ⊢
    obtain ⟨da, dc, la, lc, h1, h2, h3, h4, h5, h6⟩ := h
    refine ⟨da, dc, la, lc, h1, h2.still hf, h3, h4, h5, ?_⟩
    rcases h6 with h6 | ⟨lb, lo, h7, h8⟩
    · exact .inl h6
    · exact .inr ⟨lb, lo, h7, ItsM.still l h8 hf⟩
theorem ItsM.still : ∀ (ts : List It) {w w' : World} {b o : Nat}, ItsM w b o ts → Fr Nob w w' → ItsM w' b o ts
  | [], _, _, _, _, _, _ => by unfold ItsM; trivial
  | t :: ts, w, w', b, o, h, hf => by
    unfold ItsM at h ⊢
    obtain ⟨⟨v, h1, h2, h3⟩, h4⟩ := h
    exact ⟨⟨v, h1, h2.keep hf id, ItV.still t h3 hf⟩, ItsM.still ts h4 hf⟩
end
theorem ItsM.get : ∀ (ts : List It) {w : World} {b o k : Nat} {t : It}, ItsM w b o ts → ts[k]? = some t → ∃ v, v.length = 4 ∧ At w b (o + 4 * k) v ∧ ItV w v t
  | [], _, _, _, _, _, _, h => by simp at h
  | x :: ts, w, b, o, 0, t, h, e => by
    unfold ItsM at h
    simp at e; subst e
    exact h.1
  | x :: ts, w, b, o, k + 1, t, h, e => by
    unfold ItsM at h
    simp at e
    have := ItsM.get ts h.2 e
    rwa [show o + 4 + 4 * k = o + 4 * (k + 1) by omega] at this
/-- an item in memory -/
def ItP (w : World) (b o : Nat) (t : It) : Prop := ∃ v, At w b o v ∧ ItV w v t
theorem ItP.still {w w' : World} {b o : Nat} {t : It} (h : ItP w b o t) (hf : Fr Nob w w') : ItP w' b o t := by
  obtain ⟨v, h1, h2⟩ := h
  exact ⟨v, h1.keep hf id, ItV.still t h2 hf⟩
theorem ItsM.at {w : World} {b o k : Nat} {ts : List It} {t : It} (h : ItsM w b o ts) (e : ts[k]? = some t) : ItP w b (o + 4 * k) t := by
  obtain ⟨v, -, h2, h3⟩ := h.get ts e
  exact ⟨v, h2, h3⟩
/-- what is known of an item's cells -/
theorem ItP.open {w : World} {b o : Nat} {k : Int} {n : Nat} {d : List UInt8} {l : List It} (h : ItP w b o (.mk k n d l)) :
    ∃ da dc la lc, (w.cell? ⟨b, o, none⟩ = some (.int .i64 k) ∧ w.cell? ⟨b, o + 1, none⟩ = some (.int .u64 (n : Int)) ∧ w.cell? ⟨b, o + 2, none⟩ = some (.slice da d.length dc) ∧ w.cell? ⟨b, o + 3, none⟩ = some (.slice la l.length lc)) ∧
      RdC w da d.length dc d ∧ n < 18446744073709551616 ∧ d.length ≤ 1000000 ∧ l.length ≤ 1000 ∧ (l = [] ∨ ∃ lb lo, la = some ⟨lb, lo, none⟩ ∧ ItsM w lb lo l) := by
  obtain ⟨v, h1, h2⟩ := h
  unfold ItV at h2
  obtain ⟨da, dc, la, lc, rfl, h2⟩ := h2
  exact ⟨da, dc, la, lc, ⟨h1 0 _ rfl, h1 1 _ rfl, h1 2 _ rfl, h1 3 _ rfl⟩, h2⟩
def shN (k : Int) : Bool := k == 0 || k == 1 || k == 7
def shD (k : Int) : Bool := k == 2 || k == 3
def shL (k : Int) : Bool := k == 4 || k == 5
def shK (k : Int) : Bool := shN k || shD k || shL k
section
variable (u8 : List UInt8 → Bool)
def fitF (k : Int) (n : Nat) (d : List UInt8) (m : Nat) : Bool := (k != 3 || u8 d) && (k != 7 || (decide (20 ≤ n) && decide (n ≤ 22))) && (k != 5 || m % 2 == 0)
/-- the program's order of the tests -/
theorem fitW_eq (k : Int) (n : Nat) (d : List UInt8) (m : Nat) : fitW u8 k n d m = (shK k && fitF u8 k n d m && (shN k || n == 0) && (shD k || d.length == 0) && (shL k || m == 0)) := by
  unfold fitW shK fitF shN shD shL
  by_cases h0 : k = 0
  · subst h0; simp
  by_cases h1 : k = 1
  · subst h1; simp
  by_cases h2 : k = 2
  · subst h2; simp
  by_cases h3 : k = 3
  · subst h3; simp; cases u8 d <;> cases n == 0 <;> cases m == 0 <;> simp
  by_cases h4 : k = 4
  · subst h4; simp
  by_cases h5 : k = 5
  · subst h5; simp; cases m % 2 == 0 <;> cases n == 0 <;> cases d.length == 0 <;> simp
  by_cases h7 : k = 7
  · subst h7; simp; cases d.length == 0 <;> cases m == 0 <;> simp
  have e : ∀ j : Int, k ≠ j → (k == j) = false := fun j h => by simpa using h
  simp only [e _ h0, e _ h1, e _ h2, e _ h3, e _ h4, e _ h5, e _ h7, Bool.false_or, Bool.false_and]
end
end Go.Mv
namespace Go.Proofs.YtdadnajbdnbbdaaDoor
open Go.RowKit Go.Mv Mvp
def shFn (k : Int) : FuncId := if k = 3 then 22 else if k = 5 then 23 else if k = 7 then 24 else 21
def shFv (k : Int) : Value := if shK k = true then .func (.func (shFn k)) #[] #[] else .nilFunc
theorem find_sh (k : Int) : Instr.findNow (.int .i64) (.int .i64 k) shE.toList 0 = some (if shK k = true then some (if k = 7 then 6 else k.toNat, shV (shN k) (shD k) (shL k) (shFn k)) else none) := by
  by_cases h0 : k = 0
  · subst h0; rfl
  by_cases h1 : k = 1
  · subst h1; rfl
  by_cases h2 : k = 2
  · subst h2; rfl
  by_cases h3 : k = 3
  · subst h3; rfl
  by_cases h4 : k = 4
  · subst h4; rfl
  by_cases h5 : k = 5
  · subst h5; rfl
  by_cases h7 : k = 7
  · subst h7; rfl
  have e : ∀ j : Int, k ≠ j → (k == j) = false := fun j h => by simpa using h
  simp [Instr.findNow, Instr.sameNow, shE, shK, shN, shD, shL, e _ h0, e _ h1, e _ h2, e _ h3, e _ h4, e _ h5, e _ h7]
theorem zero_sh (w : World) : (zeroValue 53).run Tryd.prog w = .ok (.agg #[.bool false, .bool false, .bool false, .nilFunc]) w := by
  have h := Tryd.zeroValue53
  exact h w
theorem lookup_sh (g : Nat) (k : Int) (w : World) (h : MapAt w g shE 7) : (Instr.lookup 55 (.map (some g)) (.int .i64 k) true).run Tryd.prog w = .ok (.tuple #[.agg #[.bool (shN k), .bool (shD k), .bool (shL k), shFv k], .bool (shK k)]) w := by
  have hb : w.heap[g]? = some (.map shE 7) := h
  unfold Instr.lookup
  simp only [Sem.run_bind, run_underlying Tryd.underlying55, Result.andThen_ok, MapKept.run_getObj_map hb, Sem.run_pure, MapKept.run_checkKey Tryd.underlying3 (k := .int .i64 k) rfl, MapKept.run_findKey Tryd.underlying3 (find_sh k)]
  cases hk : shK k with
  | true => simp [shV, shFv, hk]
  | false =>
    have h1 : shN k = false ∧ shD k = false ∧ shL k = false := by
      unfold shK at hk
      simp only [Bool.or_eq_false_iff] at hk
      exact ⟨hk.1.1, hk.1.2, hk.2⟩
    simp [shFv, hk, h1.1, h1.2.1, h1.2.2]
/-- utf8.Valid answers by u8, whatever is asked behind w0 -/
def VOk (u8 : List UInt8 → Bool) (w0 : World) : Prop := ∀ (a : Option Addr) (n c : Nat) (l : List UInt8) (w : World), RdC w a n c l → n ≤ 1000000 → Fr Nob w0 w → Calls Tryd.prog 19 #[.slice a n c] w fun e w' => e = .returned (.bool (u8 l)) ∧ Fr Nob w w'
set_option maxHeartbeats 4000000 in
set_option maxRecDepth 1000000 in
theorem fits_any (u8 : List UInt8 → Bool) (w0 w : World) (hV : VOk u8 w0) (hf : Fr Nob w0 w) (b o n : Nat) (k : Int) (d : List UInt8) (l : List It) (h : ItP w b o (.mk k n d l)) :
    Calls Tryd.prog (shFn k) #[.pointer (some ⟨b, o, none⟩)] w fun e w' => e = .returned (.bool (fitF u8 k n d l.length)) ∧ Fr Nob w w' := by
  obtain ⟨da, dc, la, lc, ⟨c0, c1, c2, c3⟩, h2, hn, hd, hl, -⟩ := h.open
  clear h
  by_cases e3 : k = 3
  · subst e3
    have hc := hV da d.length dc d w h2 hd hf
    have hr : fitF u8 3 n d l.length = u8 d := by unfold fitF; simp
    rw [hr]
    clear hV hf h2 c0 c1 c3 hn hl hr
    show Calls Tryd.prog 22 _ w _
    go_enter Tryd.func22, Tryd.ntmps22
    go_wp2_with fail
    refine hc.mono ?_
    rintro e w' ⟨rfl, hfw⟩
    have HF := Lib.hid hfw
    clear hfw hc
    go_wp2_with fail
    go_ret
    exact ⟨rfl, HF.out⟩
  by_cases e5 : k = 5
  · subst e5
    have hr : fitF u8 5 n d l.length = (l.length % 2 == 0) := by unfold fitF; simp
    rw [hr]
    clear hV hf h2 c0 c1 c2 hn hr
    generalize l.length = m at *
    have hmI : (m : Int) ≤ 1000 := by omega
    have HR : Hid ((((m : Int) % 2) == 0) = (m % 2 == 0)) := Lib.hid (by
      rw [Bool.eq_iff_iff]; simp only [beq_iff_eq]; omega)
    show Calls Tryd.prog 23 _ w _
    go_enter Tryd.func23, Tryd.ntmps23
    go_wp2_with fail
    go_ret
    exact ⟨by rw [HR.out]; rfl, Fr.refl _ _⟩
  by_cases e7 : k = 7
  · subst e7
    have hr : fitF u8 7 n d l.length = (decide (20 ≤ n) && decide (n ≤ 22)) := by unfold fitF; simp
    rw [hr]
    clear hV hf h2 c0 c2 c3 hr
    show Calls Tryd.prog 24 _ w _
    by_cases h20 : 20 ≤ n
    · have hI : (20 : Int) ≤ (n : Int) := by omega
      have hI2 : decide ((20 : Int) ≤ (n : Int)) = true := decide_eq_true hI
      by_cases h22 : n ≤ 22
      · have hJ : (n : Int) ≤ 22 := by omega
        have hJ2 : decide ((n : Int) ≤ 22) = true := decide_eq_true hJ
        go_enter Tryd.func24, Tryd.ntmps24
        go_wp2_with fail
        go_ret
        exact ⟨by simp [h20, h22], Fr.refl _ _⟩
      · have hJ : ¬ (n : Int) ≤ 22 := by omega
        have hJ2 : decide ((n : Int) ≤ 22) = false := decide_eq_false hJ
        go_enter Tryd.func24, Tryd.ntmps24
        go_wp2_with fail
        go_ret
        exact ⟨by simp [], Fr.refl _ _⟩
    · have hI : ¬ (20 : Int) ≤ (n : Int) := by omega
      have hI2 : decide ((20 : Int) ≤ (n : Int)) = false := decide_eq_false hI
      go_enter Tryd.func24, Tryd.ntmps24
      go_wp2_with fail
      go_ret
      exact ⟨by simp [], Fr.refl _ _⟩
  · have hr : fitF u8 k n d l.length = true := by unfold fitF; simp [e3, e5, e7]
    rw [hr]
    have hfn : shFn k = 21 := by unfold shFn; rw [if_neg e3, if_neg e5, if_neg e7]
    rw [hfn]
    go_enter Tryd.func21, Tryd.ntmps21
    go_wp2_with fail
    go_ret
    exact ⟨rfl, Fr.refl _ _⟩
end Go.Proofs.YtdadnajbdnbbdaaDoor

/- A region that draws its order, by facts that stay: each operation of the front is shown once, in every world in which the facts of those that it waits for hold; then a tail. -/
namespace Go.Mv
open Go.RowKit
section
variable {P : Program} {ops : Array Oper} {md : Region.Mode} {Q : Exit → Act → World → Prop} {m : Nat} {S : Nat → Prop} {w0 : World} {tl : Pl}
/-- the values of some operations alone -/
def restr (l : List Nat) (x : Nat → Value) : Nat → Value := fun k => if l.contains k then x k else undef
theorem restr_upd {l : List Nat} {x : Nat → Value} {k : Nat} {v : Value} (h : l.contains k = false) : restr l (upd x k v) = restr l x := by
  funext j
  unfold restr
  by_cases e : l.contains j = true
  · rw [if_pos e, if_pos e, upd_other]
    cases h2 : (j == k) with
    | false => rfl
    | true => rw [eq_of_beq h2, h] at e; cases e
  · rw [if_neg e, if_neg e]
def putI (ops : Array Oper) (i : Nat) (a : Act) (v : Value) : Act := match ops[i]? with | some o => a.put o.dst v | none => a
theorem putI_some {i : Nat} {o : Oper} (ho : ops[i]? = some o) (a : Act) (v : Value) : putI ops i a v = a.put o.dst v := by unfold putI; rw [ho]
def puts (ops : Array Oper) : List Nat → Act → (Nat → Value) → Act
  | [], a, _ => a
  | i :: s, a, x => puts ops s (putI ops i a (x i)) x
theorem puts_comm {d : Option Tmp} {v : Value} (x : Nat → Value) : ∀ (s : List Nat) (a : Act), (∀ k ∈ s, ∀ ok, ops[k]? = some ok → ok.dst ≠ d ∨ ok.dst = none) → (puts ops s a x).put d v = puts ops s (a.put d v) x
  | [], _, _ => rfl
  | i :: s, a, h => by
    unfold puts
    rw [puts_comm x s _ fun k hk => h k (List.mem_cons_of_mem _ hk)]
    congr 1
    cases ho : ops[i]? with
    | none => unfold putI; simp only [ho]
    | some o => rw [putI_some ho, putI_some ho, put_comm _ _ _ _ _ (h i List.mem_cons_self o ho)]
theorem puts_upd {i : Nat} {v : Value} (x : Nat → Value) : ∀ (s : List Nat) (a : Act), i ∉ s → puts ops s a (upd x i v) = puts ops s a x
  | [], _, _ => rfl
  | j :: s, a, h => by
    simp only [List.mem_cons, not_or] at h
    unfold puts
    rw [puts_upd x s _ h.2, upd_other _ _ _ _ (by simpa using fun e => h.1 e.symm)]
/-- no two of them have one slot -/
def Apd (ops : Array Oper) (s : List Nat) : Prop := ∀ j ∈ s, ∀ k ∈ s, j ≠ k → ∀ oj ok, ops[j]? = some oj → ops[k]? = some ok → ok.dst ≠ oj.dst ∨ ok.dst = none
theorem Apd.tail {i : Nat} {s : List Nat} (h : Apd ops (i :: s)) : Apd ops s := fun j hj k hk => h j (List.mem_cons_of_mem _ hj) k (List.mem_cons_of_mem _ hk)
theorem puts_put {i : Nat} {v : Value} {o : Oper} (ho : ops[i]? = some o) (x : Nat → Value) : ∀ (s : List Nat) (a : Act), i ∈ s → s.Nodup → Apd ops s → (puts ops s a x).put o.dst v = puts ops s a (upd x i v)
  | [], _, h, _, _ => by cases h
  | j :: s, a, h, hn, hd => by
    rw [List.nodup_cons] at hn
    by_cases e : i = j
    · subst e
      unfold puts
      rw [puts_comm x s _ fun k hk ok hok => hd i List.mem_cons_self k (List.mem_cons_of_mem _ hk) (fun e => hn.1 (e ▸ hk)) o ok ho hok]
      rw [putI_some ho, putI_some ho, put_twice, puts_upd x s _ hn.1, upd_same]
    · have hi : i ∈ s := by
        rcases List.mem_cons.1 h with h | h
        · exact absurd h e
        · exact h
      unfold puts
      rw [puts_put ho x s _ hi hn.2 hd.tail, upd_other _ _ _ _ (by simpa using fun h => e h.symm)]
theorem puts_back : ∀ (s : List Nat) (a : Act), s.Nodup → ∃ x, puts ops s a x = a
  | [], _, _ => ⟨fun _ => undef, rfl⟩
  | i :: s, a, hn => by
    rw [List.nodup_cons] at hn
    obtain ⟨x, hx⟩ := puts_back s a hn.2
    cases ho : ops[i]? with
    | none => exact ⟨x, by unfold puts putI; simp only [ho]; exact hx⟩
    | some o =>
      obtain ⟨u, hu⟩ := put_back a o.dst
      refine ⟨upd x i u, ?_⟩
      unfold puts
      rw [putI_some ho, upd_same, hu, puts_upd x s _ hn.1, hx]
def apdB (ops : Array Oper) (s : List Nat) : Bool := s.all fun j => s.all fun k => j == k || match ops[j]?, ops[k]? with | some a, some b => decide (b.dst ≠ a.dst) || decide (b.dst = none) | _, _ => false
theorem apdB_spec {s : List Nat} (h : apdB ops s = true) : Apd ops s := by
  intro j hj k hk hne oj ok hoj hok
  have := List.all_eq_true.1 (List.all_eq_true.1 h j hj) k hk
  simp only [hoj, hok, Bool.or_eq_true, beq_iff_eq, decide_eq_true_eq] at this
  rcases this with h | h
  · exact absurd h hne
  · exact h
def nodupB : List Nat → Bool
  | [] => true
  | i :: s => !s.contains i && nodupB s
theorem nodupB_spec : ∀ {s : List Nat}, nodupB s = true → s.Nodup
  | [], _ => List.nodup_nil
  | i :: s, h => by
    simp only [nodupB, Bool.and_eq_true, Bool.not_eq_true'] at h
    exact List.nodup_cons.2 ⟨by simpa using h.1, nodupB_spec h.2⟩
/-- what is asked of the numbers -/
def posOk (md : Region.Mode) (ops : Array Oper) (m : Nat) (F Lz : List Nat) (pre : Nat → List Nat) (tl : Pl) : Bool :=
  (Lz.all fun i => match ops[i]? with | some o => decide (i ≠ m) && (List.range ops.size).all fun j => j == i || ancB md ops i ops.size j || (match ops[j]? with | some oj => (oj.after.any fun e => Region.binds md e && e.on == i) || o.apart ops oj | none => true) | none => false) && nodupB F && apdB ops F &&
  (F.all fun i => match ops[i]? with | some o => o.after.all fun e => !Region.binds md e || (F.contains e.on && decide (e.on < i)) | none => false) &&
  (F.all fun i => (pre i).all fun j => F.contains j && ancB md ops i ops.size j) &&
  ((List.range ops.size).all fun t => F.contains t || F.all fun i => Lz.contains i || ancB md ops t ops.size i) &&
  planOk md ops m tl (mark (Array.replicate ops.size false) F)
/-- what is asked of an operation: loose ones (taken as soon as they can come) only yield -/
def Obl (P : Program) (ops : Array Oper) (Q : Exit → Act → World → Prop) (G : World → Prop) (A : (Nat → Value) → Act) (pre : Nat → List Nat) (Φ : Nat → (Nat → Value) → World → Prop) (i : Nat) (o : Oper) : Bool → Prop
  | false => ∀ x w, G w → (∀ j ∈ pre i, Φ j (restr (j :: pre j) x) w) → (Region.wanted o (yielded ops (A x).tmps) = true ∧ o.wp P (A x) w (fun a' w' => ∃ v, a' = (A x).put o.dst v ∧ Fr Nob w w' ∧ Φ i (restr (i :: pre i) (upd x i v)) w') Q) ∨ (Region.wanted o (yielded ops (A x).tmps) = false ∧ Φ i (restr (i :: pre i) (upd x i undef)) w)
  | true => ∀ x w, G w → (∀ j ∈ pre i, Φ j (restr (j :: pre j) x) w) → Region.wanted o (yielded ops (A x).tmps) = true ∧ ∃ v, (∀ wx, (execOp (A x).eval o).run P wx = .ok (.value v) wx) ∧ Φ i (restr (i :: pre i) (upd x i v)) w
/-- what is asked of each operation -/
def Obls (P : Program) (ops : Array Oper) (Q : Exit → Act → World → Prop) (G : World → Prop) (A : (Nat → Value) → Act) (pre : Nat → List Nat) (Φ : Nat → (Nat → Value) → World → Prop) (Lz : List Nat) : List Nat → Prop
  | [] => True
  | i :: s => ((∀ o, ops[i]? = some o → Obl P ops Q G A pre Φ i o (Lz.contains i)) ∧
      ∀ y w w', Φ i (restr (i :: pre i) y) w → Fr Nob w w' → Φ i (restr (i :: pre i) y) w') ∧ Obls P ops Q G A pre Φ Lz s
theorem Obls.at {G : World → Prop} {A : (Nat → Value) → Act} {pre : Nat → List Nat} {Φ : Nat → (Nat → Value) → World → Prop} {Lz : List Nat} : ∀ {s : List Nat}, Obls P ops Q G A pre Φ Lz s → ∀ i ∈ s, (∀ o, ops[i]? = some o → Obl P ops Q G A pre Φ i o (Lz.contains i)) ∧
      ∀ y w w', Φ i (restr (i :: pre i) y) w → Fr Nob w w' → Φ i (restr (i :: pre i) y) w'
  | [], _, _, h => by cases h
  | _ :: _, h, i, hi => by
    rcases List.mem_cons.1 hi with rfl | hi
    · exact h.1
    · exact Obls.at h.2 i hi
/-- what is listed has what it waits for listed -/
theorem anc_listed {listed : Array Bool} (inv : Cl md ops listed) {k : Nat} : ∀ (f i : Nat), ancB md ops k f i = true → listed.getD k false = true → listed.getD i true = false → False
  | 0, i, h, _, _ => by cases h
  | f + 1, i, h, hk, hun => by
    obtain ⟨j, hj, hj2⟩ := List.any_eq_true.1 h
    simp only [Bool.and_eq_true, Bool.or_eq_true, decide_eq_true_eq] at hj2
    obtain ⟨oj, hoj, e, he, hb, hon⟩ := Region.waitsFor_spec hj2.1
    have hjl : listed.getD j false = true := by
      rcases hj2.2 with rfl | hja
      · exact hk
      · cases hl : listed.getD j false with
        | true => rfl
        | false =>
          have hjs : j < listed.size := by rw [inv.size]; exact (Array.getElem?_eq_some_iff.1 hoj).1
          exact (anc_listed inv f j hja hk (getD_in hjs hl)).elim
    have h2 := inv.closed j oj hoj hjl e he hb
    rw [hon, getD_both hun] at h2
    cases h2
def unl (F : List Nat) (listed : Array Bool) : List Nat := F.filter fun k => !listed.getD k false
theorem unl_set {F : List Nat} {listed : Array Bool} {i : Nat} (hi : i < listed.size) : unl F (listed.setIfInBounds i true) = (unl F listed).filter (· != i) := by
  unfold unl
  rw [List.filter_filter]
  refine List.filter_congr fun k _ => ?_
  by_cases e : i = k
  · subst e; simp [hi]
  · rw [getD_set_ne false e]
    have h2 : (k != i) = true := by simpa using fun h => e h.symm
    rw [h2, Bool.true_and]
theorem wpOp_want {i : Nat} {o : Oper} {a : Act} {w : World} {K : Act → World → Prop} (ho : ops[i]? = some o) (hg : Region.wanted o (yielded ops a.tmps) = true) (h : o.wp P a w K Q) : wpOp P ops Q i K a w := by
  unfold wpOp
  simp only [ho]
  rw [if_pos hg]
  exact .inl h
theorem wpP_of_pos {G : World → Prop} {F Lz : List Nat} {a : Act} {pre : Nat → List Nat} {Φ : Nat → (Nat → Value) → World → Prop} (hsel : Region.noSelect ops = true) (hm : m < ops.size) (hQ : ∀ c (d : Option Tmp) v a w, Q (.panic c) (Act.put a d v) w → Q (.panic c) a w)
    (hok : posOk md ops m F Lz pre tl = true) (hG : ∀ w w', G w → Fr Nob w w' → G w') (hob : Obls P ops Q G (puts ops F a) pre Φ Lz F)
    (hend : ∀ x w, G w → (∀ i ∈ F, Φ i (restr (i :: pre i) x) w) → wpPlan P ops Q (fun _ => True) tl (puts ops F a x) w) :
    ∀ (N : Nat) (listed : Array Bool) (x : Nat → Value) (w : World), (unl F listed).length = N → listed.size = ops.size → Cl md ops listed → (∀ k, listed.getD k false = true → k ∈ F) → G w → (∀ i ∈ F, listed.getD i false = true → Φ i (restr (i :: pre i) x) w) →
      wpP P md ops Q (fun _ => True) m (N + tl.len) listed (puts ops F a x) w := by
  simp only [posOk, Bool.and_eq_true] at hok
  obtain ⟨⟨⟨⟨⟨⟨hlz, hnd⟩, hap⟩, haf⟩, hpre⟩, htl⟩, hpl⟩ := hok
  have hnd := nodupB_spec hnd
  have hap := apdB_spec hap
  have hF : ∀ i ∈ F, ∃ o, ops[i]? = some o ∧ True ∧ ∀ e ∈ o.after, Region.binds md e = true → e.on ∈ F ∧ e.on < i := by
    intro i hi
    have := List.all_eq_true.1 haf i hi
    cases ho : ops[i]? with
    | none => simp only [ho] at this; cases this
    | some o =>
      simp only [ho] at this
      refine ⟨o, rfl, trivial, fun e he hb => ?_⟩
      have h2 := Array.all_eq_true'.1 this e he
      simpa [hb] using h2
  have hlt : ∀ i ∈ F, i < ops.size := fun i hi => by obtain ⟨o, ho, _⟩ := hF i hi; exact (Array.getElem?_eq_some_iff.1 ho).1
  intro N
  induction N with
  | zero =>
    intro listed x w hu hsz inv hLF hGw hfacts
    have hall : ∀ i ∈ F, listed.getD i false = true := by
      intro i hi
      cases h : listed.getD i false with
      | true => rfl
      | false =>
        have : i ∈ unl F listed := List.mem_filter.2 ⟨hi, by simp [h]⟩
        rw [List.eq_nil_of_length_eq_zero hu] at this
        cases this
    have he : listed = mark (Array.replicate ops.size false) F := by
      refine arr_ext (by simp [mark_size, hsz]) fun k hk => ?_
      rw [mark_get _ _ _ (by simpa [hsz] using hk)]
      have hk' : k < listed.size := hk
      by_cases hkF : k ∈ F
      · have h3 : listed.getD k true = true := by
          cases h : listed.getD k true with
          | true => rfl
          | false => have := hall k hkF; rw [getD_both h] at this; cases this
        rw [h3]; simp [hkF]
      · cases h : listed.getD k true with
        | true =>
          have h2 : listed.getD k false = true := by simpa [hk'] using h
          exact absurd (hLF k h2) hkF
        | false => simp [hkF, hsz ▸ hk']
    have := wpP_of_plan (md := md) (S := fun _ => True) hsel hm hQ tl listed (puts ops F a x) w inv (by rw [he]; exact hpl) (fun _ => trivial) (hend x w hGw fun i hi => hfacts i hi (hall i hi))
    simpa using this
  | succ N ih =>
    intro listed x w hu hsz inv hLF hGw hfacts
    -- something of the front can come
    have hsome : ∀ (b i : Nat), i < b → i ∈ F → listed.getD i false = false → ∃ k ∈ F, listed.getD k false = false ∧ k ∈ Region.ready md ops listed := by
      intro b
      induction b with
      | zero => intro i h; omega
      | succ b ihb =>
        intro i hib hi hun
        obtain ⟨o, ho, hg, hafter⟩ := hF i hi
        by_cases hall : ∀ e ∈ o.after, Region.binds md e = true → listed.getD e.on false = true
        · exact ⟨i, hi, hun, mem_ready.2 ⟨getD_in (by rw [hsz]; exact hlt i hi) hun, o, ho, hall⟩⟩
        · simp only [Classical.not_forall] at hall
          obtain ⟨e, he, hb, hl⟩ := hall
          obtain ⟨h1, h2⟩ := hafter e he hb
          exact ihb e.on (by omega) h1 (by simpa using hl)
    have hex : ∃ i, i ∈ F ∧ listed.getD i false = false := by
      cases h : unl F listed with
      | nil => rw [h] at hu; cases hu
      | cons i s =>
        have : i ∈ unl F listed := by rw [h]; exact List.mem_cons_self
        obtain ⟨h1, h2⟩ := List.mem_filter.1 this
        exact ⟨i, h1, by simpa using h2⟩
    obtain ⟨i00, hi00, hun00⟩ := hex
    obtain ⟨i0, hi0, hun0, hr0⟩ := hsome (i00 + 1) i00 (Nat.lt_succ_self _) hi00 hun00
    have e1 : N + 1 + tl.len = (N + tl.len) + 1 := by omega
    rw [e1]
    have hprel : ∀ i ∈ F, i ∈ Region.ready md ops listed → ∀ j ∈ pre i, j ∈ F ∧ listed.getD j false = true := by
      intro i hiF hi j hj
      have h := List.all_eq_true.1 (List.all_eq_true.1 hpre i hiF) j hj
      simp only [Bool.and_eq_true] at h
      have hjF : j ∈ F := by simpa using h.1
      refine ⟨hjF, ?_⟩
      cases hl : listed.getD j false with
      | true => rfl
      | false => exact absurd hi (anc_waits inv _ _ h.2 (getD_in (by rw [hsz]; exact hlt j hjF) hl))
    -- the state behind one of the front
    have next : ∀ i ∈ F, i ∈ Region.ready md ops listed → ∀ o, ops[i]? = some o → ∀ v w', Fr Nob w w' → Φ i (restr (i :: pre i) (upd x i v)) w' →
        wpP P md ops Q (fun _ => True) m (N + tl.len) (listed.setIfInBounds i true) ((puts ops F a x).put o.dst v) w' := by
      intro i hiF hi o ho v w' hfr hΦ
      obtain ⟨hiun, _⟩ := mem_ready.1 hi
      rw [puts_put ho x F a hiF hnd hap]
      have hil : i < listed.size := by rw [hsz]; exact hlt i hiF
      refine ih (listed.setIfInBounds i true) (upd x i v) w' ?_ (by simpa using hsz) (inv.set hi) ?_ (hG w w' hGw hfr) ?_
      · rw [unl_set hil]
        have hmem : i ∈ unl F listed := List.mem_filter.2 ⟨hiF, by
          cases h : listed.getD i false with
          | false => rfl
          | true => rw [getD_both hiun] at h; cases h⟩
        have := len_filter (l := unl F listed) (nd_filter hnd _) hmem
        omega
      · intro k hk
        by_cases e : i = k
        · subst e; exact hiF
        · rw [getD_set_ne false e] at hk; exact hLF k hk
      · intro k hkF hk
        by_cases e : i = k
        · subst e; exact hΦ
        · rw [getD_set_ne false e] at hk
          have h1 := (hob.at k hkF).2 _ _ _ (hfacts k hkF hk) hfr
          rwa [restr_upd]
          cases h : (k :: pre k).contains i with
          | false => rfl
          | true =>
            exfalso
            have hm : i ∈ k :: pre k := by simpa using h
            rcases List.mem_cons.1 hm with h2 | h2
            · exact e h2
            · have h3 := List.all_eq_true.1 (List.all_eq_true.1 hpre k hkF) i h2
              simp only [Bool.and_eq_true] at h3
              exact anc_listed inv _ _ h3.2 hk hiun
    by_cases hlo : ∃ i ∈ F, i ∈ Region.ready md ops listed ∧ i ∈ Lz
    · -- a loose one is taken at once
      obtain ⟨i, hiF, hir, hiL⟩ := hlo
      obtain ⟨o, ho, hg, -⟩ := hF i hiF
      have hO := (hob.at i hiF).1 o ho
      rw [show Lz.contains i = true by simpa using hiL] at hO
      obtain ⟨hg, v, hv, hΦ⟩ := hO x w hGw fun j hj => hfacts j (hprel i hiF hir j hj).1 (hprel i hiF hir j hj).2
      have hl := List.all_eq_true.1 hlz i hiL
      simp only [ho, Bool.and_eq_true, decide_eq_true_eq] at hl
      refine wpP_takeW ho (Region.noSelect_spec hsel) (fun c a w => hQ c o.dst v a w) hl.1 hm (N + tl.len) listed (puts ops F a x) w inv ?_ hir (.inl ⟨hg, fun wx _ => hv wx⟩) (fun _ => trivial) (next i hiF hir o ho v w (Fr.refl _ _) hΦ)
      intro j oj hoj hji hjun hno
      have h := List.all_eq_true.1 hl.2 j (List.mem_range.2 (Array.getElem?_eq_some_iff.1 hoj).1)
      simp only [hoj, Bool.or_eq_true, beq_iff_eq] at h
      rcases h with (h | h) | h | h
      · exact absurd h hji
      · exact absurd hir (anc_waits inv _ _ h hjun)
      · obtain ⟨k, hk, h2⟩ := Array.any_eq_true.1 h
        simp only [Bool.and_eq_true, beq_iff_eq] at h2
        exact absurd h2.2 (hno _ (Array.getElem_mem hk) h2.1)
      · exact h
    refine ⟨fun h => (by rw [h] at hr0; cases hr0), fun i hi => ?_⟩
    obtain ⟨hiun, oi, hoi, hiall⟩ := mem_ready.1 hi
    have hisz : i < ops.size := (Array.getElem?_eq_some_iff.1 hoi).1
    have hiF : i ∈ F := by
      have h := List.all_eq_true.1 htl i (List.mem_range.2 hisz)
      simp only [Bool.or_eq_true] at h
      rcases h with h | h
      · simpa using h
      · have h2 := List.all_eq_true.1 h i0 hi0
        simp only [Bool.or_eq_true] at h2
        rcases h2 with h2 | h2
        · exact absurd ⟨i0, hi0, hr0, by simpa using h2⟩ hlo
        · exact absurd hi (anc_waits inv _ _ h2 (getD_in (by rw [hsz]; exact hlt i0 hi0) hun0))
    obtain ⟨o, ho, hg, -⟩ := hF i hiF
    have hO := (hob.at i hiF).1 o ho
    have hnl : Lz.contains i = false := by
      cases h : Lz.contains i with
      | false => rfl
      | true => exact absurd ⟨i, hiF, hi, by simpa using h⟩ hlo
    rw [hnl] at hO
    rcases hO x w hGw fun j hj => hfacts j (hprel i hiF hi j hj).1 (hprel i hiF hi j hj).2 with ⟨hgd, hO⟩ | ⟨hgd, hO⟩
    rotate_left 1
    · unfold wpOp
      simp only [ho]
      rw [if_neg (by rw [hgd]; decide)]
      exact ⟨fun _ _ => trivial, next i hiF hi o ho undef w (Fr.refl _ _) hO⟩
    refine wpOp_want ho hgd (Oper.wp_mono (fun a' w' h' => ?_) hO)
    obtain ⟨v, rfl, hfr, hΦ⟩ := h'
    exact ⟨fun _ _ => trivial, next i hiF hi o ho v w' hfr hΦ⟩
/-- THE BEGINNING -/
theorem wp_region_pos {id : Nat} {a : Act} {w : World} {l : List Oper} (G : World → Prop) (F Lz : List Nat) (pre : Nat → List Nat) (Φ : Nat → (Nat → Value) → World → Prop) (m : Nat) (tl : Pl) (hm : P.follows .mixedOrders = true)
    (hB : (Region.noSelect l.toArray && decide (m < l.toArray.size) && decide (F.length + tl.len = l.toArray.size) && posOk .any l.toArray m F Lz pre tl) = true)
    (hQ : ∀ c (d : Option Tmp) v a w, Q (.panic c) (Act.put a d v) w → Q (.panic c) a w) (hG0 : G w.drew) (hG : ∀ w w', G w → Fr Nob w w' → G w') (hob : Obls P l.toArray Q G (puts l.toArray F a) pre Φ Lz F)
    (hend : ∀ x w, G w → (∀ i ∈ F, Φ i (restr (i :: pre i) x) w) → wpPlan P l.toArray Q (fun _ => True) tl (puts l.toArray F a x) w) : (Code.region id l.toArray true).wp P Q a w := by
  simp only [Bool.and_eq_true, decide_eq_true_eq] at hB
  obtain ⟨⟨⟨hsel, hms⟩, hlen⟩, hok⟩ := hB
  have inv0 : Cl .any l.toArray (Array.replicate l.toArray.size false) :=
    ⟨by simp, fun j oj _ hl => (by rw [getD_replicate_false] at hl; cases hl)⟩
  have hnd : F.Nodup := by
    have h := hok
    simp only [posOk, Bool.and_eq_true] at h
    exact nodupB_spec h.1.1.1.1.1.2
  obtain ⟨x0, hx0⟩ := puts_back (ops := l.toArray) F a hnd
  have hul : unl F (Array.replicate l.toArray.size false) = F := by
    unfold unl
    exact List.filter_eq_self.2 fun k _ => by rw [getD_replicate_false]; rfl
  have H := wpP_of_pos (md := .any) hsel hms hQ hok hG hob hend F.length (Array.replicate l.toArray.size false) x0 w.drew (by rw [hul]) (by simp) inv0 (fun k hk => by rw [getD_replicate_false] at hk; cases hk) hG0 (fun i _ hk => by rw [getD_replicate_false] at hk; cases hk)
  rw [hx0, hlen] at H
  exact wp_region_any hm (wpAny_of_P _ _ _ _ H)
/-- the same, the act spelled -/
theorem wp_region_posA {id : Nat} {a : Act} {w : World} {l : List Oper} (G : World → Prop) (F Lz : List Nat) (pre : Nat → List Nat) (Φ : Nat → (Nat → Value) → World → Prop) (m : Nat) (tl : Pl) (A : (Nat → Value) → Act) (hA : ∀ x, puts l.toArray F a x = A x) (hm : P.follows .mixedOrders = true)
    (hB : (Region.noSelect l.toArray && decide (m < l.toArray.size) && decide (F.length + tl.len = l.toArray.size) && posOk .any l.toArray m F Lz pre tl) = true)
    (hQ : ∀ c (d : Option Tmp) v a w, Q (.panic c) (Act.put a d v) w → Q (.panic c) a w) (hG0 : G w.drew) (hG : ∀ w w', G w → Fr Nob w w' → G w') (hob : Obls P l.toArray Q G A pre Φ Lz F)
    (hend : ∀ x w, G w → (∀ i ∈ F, Φ i (restr (i :: pre i) x) w) → wpPlan P l.toArray Q (fun _ => True) tl (A x) w) : (Code.region id l.toArray true).wp P Q a w := by
  obtain rfl : (puts l.toArray F a) = A := funext hA
  exact wp_region_pos G F Lz pre Φ m tl hm hB hQ hG0 hG hob hend
theorem obls_cons {G : World → Prop} {A : (Nat → Value) → Act} {pre : Nat → List Nat} {Φ : Nat → (Nat → Value) → World → Prop} {Lz : List Nat} {i : Nat} {s : List Nat} {o : Oper} (ho : ops[i]? = some o) (hl : Lz.contains i = false)
    (h : ∀ x w, G w → (∀ j ∈ pre i, Φ j (restr (j :: pre j) x) w) → o.wp P (A x) w (fun a' w' => ∃ v, a' = (A x).put o.dst v ∧ Fr Nob w w' ∧ Φ i (restr (i :: pre i) (upd x i v)) w') Q)
    (hm : ∀ y w w', Φ i (restr (i :: pre i) y) w → Fr Nob w w' → Φ i (restr (i :: pre i) y) w') (hs : Obls P ops Q G A pre Φ Lz s) (hg : o.guard = none := by rfl) : Obls P ops Q G A pre Φ Lz (i :: s) :=
  ⟨⟨fun o' ho' => by
    obtain rfl : o = o' := Option.some.inj (ho.symm.trans ho')
    rw [hl]
    exact fun x w h1 h2 => .inl ⟨by simp [Region.wanted, hg], h x w h1 h2⟩, hm⟩, hs⟩
theorem obls_loose {G : World → Prop} {A : (Nat → Value) → Act} {pre : Nat → List Nat} {Φ : Nat → (Nat → Value) → World → Prop} {Lz : List Nat} {i : Nat} {s : List Nat} {o : Oper} (ho : ops[i]? = some o) (hl : Lz.contains i = true)
    (h : ∀ x w, G w → (∀ j ∈ pre i, Φ j (restr (j :: pre j) x) w) → ∃ v, (∀ wx, (execOp (A x).eval o).run P wx = .ok (.value v) wx) ∧ Φ i (restr (i :: pre i) (upd x i v)) w)
    (hm : ∀ y w w', Φ i (restr (i :: pre i) y) w → Fr Nob w w' → Φ i (restr (i :: pre i) y) w') (hs : Obls P ops Q G A pre Φ Lz s) (hg : o.guard = none := by rfl) : Obls P ops Q G A pre Φ Lz (i :: s) :=
  ⟨⟨fun o' ho' => by
    obtain rfl : o = o' := Option.some.inj (ho.symm.trans ho')
    rw [hl]
    exact fun x w h1 h2 => ⟨by simp [Region.wanted, hg], h x w h1 h2⟩, hm⟩, hs⟩
variable {o : Oper} {a : Act} {w : World} {Ψ : Value → World → Prop}
/-- a yield -/
theorem pos_v {v : Value} (h : (execOp a.eval o).run P w = .ok (.value v) w) (hΨ : Ψ v w) : o.wp P a w (fun a' w' => ∃ v, a' = a.put o.dst v ∧ Fr Nob w w' ∧ Ψ v w') Q := by
  unfold Oper.wp
  rw [h]
  exact ⟨v, rfl, Fr.refl _ _, hΨ⟩
/-- a maker -/
theorem pos_mk {v : Nat → Value} {L : List Value} {T : TypeId} (hk : Mk P (execOp a.eval o) v L T) (h : ∀ g w', Fr Nob w w' → w.heap.size ≤ g → Has w' g L T → Ψ (v g) w') : o.wp P a w (fun a' w' => ∃ v, a' = a.put o.dst v ∧ Fr Nob w w' ∧ Ψ v w') Q := by
  obtain ⟨g, w', hr, hf, hle, hg⟩ := hk w
  unfold Oper.wp
  rw [hr]
  exact ⟨v g, rfl, hf, h g w' hf hle hg⟩
theorem pos_rows {t e : TypeId} {k : Nat} {parts : Array (Nat × Operand)} (hop : o.op = .buildSlice t k parts) (hu : P.underlying t = some (.slice e)) {z : Value} {sz by_ : Nat} (hi0 : (P.info? e).map (fun i => (i.zero, i.size, i.bytes)) = some (some z, sz, by_))
    (vs : List Value) (hp : (parts.toList.map fun p => (p.1, a.eval p.2)) = (vs.zipIdx 0).map fun x => (x.2, x.1)) (hv : ∀ v ∈ vs, v.cells.size = sz) (hk : vs.length = k) (L : List Value) (hL : (vs.flatMap fun v => v.cells.toList) = L)
    (h : ∀ g w', Fr Nob w w' → w.heap.size ≤ g → Has w' g L e → Ψ (.slice (some ⟨g, 0, none⟩) k k) w') (hk0 : 0 < k * sz := by decide) (hk24 : k * sz ≤ 16777216 := by decide) : o.wp P a w (fun a' w' => ∃ v, a' = a.put o.dst v ∧ Fr Nob w w' ∧ Ψ v w') Q :=
  pos_mk (v := fun g => .slice (some ⟨g, 0, none⟩) k k) (by unfold execOp; simp only [hop]; rw [parts_arr hp]; exact mk_rows hu hi0 vs rfl hv hk L hL hk0 hk24) h
theorem pos_alloc {e : TypeId} {z : Value} (hop : o.op = .alloc e) (hi : (P.info? e).map (·.zero) = some (some z)) (L : List Value) (hL : z.cells.toList = L)
    (h : ∀ g w', Fr Nob w w' → w.heap.size ≤ g → Has w' g L e → Ψ (.pointer (some ⟨g, 0, none⟩)) w') : o.wp P a w (fun a' w' => ∃ v, a' = a.put o.dst v ∧ Fr Nob w w' ∧ Ψ v w') Q :=
  pos_mk (v := fun g => .pointer (some ⟨g, 0, none⟩)) (mk_alloc hi hop L hL) h
/-- a call -/
theorem pos_go {f : FuncId} {xs : Array Operand} {ats : Array TypeId} (hop : o.op = .call { callee := .value (.func f), args := xs, argTypes := ats }) (hcl : ∀ us w, (callFunc f us).run P w = .ok (.enter f us) w)
    {vs : List Value} (hargs : xs.toList.map a.eval = vs) (h : Calls P f vs.toArray w fun e w' => ∃ v, e = .returned v ∧ Fr Nob w w' ∧ Ψ v w') : o.wp P a w (fun a' w' => ∃ v, a' = a.put o.dst v ∧ Fr Nob w w' ∧ Ψ v w') Q :=
  wp_go hop hcl hargs (h.mono fun _ _ ⟨v, h1, h2, h3⟩ => ⟨v, h1, v, rfl, h2, h3⟩)
end
end Go.Mv
