/- Walks inside a round: what is shown of operations as everywhere serves there; group: candidates, the iterator; group: candidates, hashTo; group: HashTo, Commit; GroupHomes: the law's both; contracts at points; The law GroupHomes. -/
import Derived.Test.YtdbgddngapminaaMgGroupHomesProof2
import Derived.RangeFuncNested
import Derived.RangeFuncBound
import Derived.RangeFuncCalls
import Derived.RangeFuncLeaves
import Derived.Test.YtdbgddngapminaaMgGroupHomesProof7
import Derived.Deep.DeepCutAuto
import Derived.Test.YtdbgddngapminaaMgGroupHomesProof8
namespace Go.Mv
open Go.RowKit
variable {P : Program} {ops : Array Oper} {Q : Exit → Act → World → Prop} {a : Act} {w : World} {rest : List Oper} {o : Oper} {n l : Nat}
/-- no operation is a defer statement -/
def noDefer (rest : List Oper) : Bool := rest.all fun o => match o.op with | .defer _ => false | _ => true
theorem noDefer_op {o : Oper} (h : (match o.op with | .defer _ => false | _ => true) = true) : ∀ c, o.op ≠ .defer c := by
  intro c e
  rw [e] at h
  cases h
theorem rowsIn_of {row : String} {args : Array Value} {R : Value → World → Prop} (h : Rows P row args w R) : RowsIn (Fence.wide.inRound l) n P row args w R :=
  fun c cs _ => let ⟨v, w', r, s⟩ := h c cs; ⟨v, w', r, stepsIn_wide.2 s⟩
theorem wpIn_of_wp {K : Act → World → Prop} (hd : ∀ c, o.op ≠ .defer c) (h : o.wp P a w K Q) : o.wpIn (Fence.wide.inRound l) n P a w K Q := by
  refine ⟨fun _ _ => trivial, ?_⟩
  have e : o.semAt (some l) a.eval = execOp a.eval o := Oper.semAt_eq _ _ _ hd
  show o.uponIn (Fence.wide.inRound l) n P a K Q ((o.semAt (some l) a.eval).run P w)
  rw [e]
  unfold Oper.wp at h
  generalize (execOp a.eval o).run P w = r at *
  cases r with
  | ok v w' =>
    cases v with
    | value v => exact h
    | skip => exact h
    | defer d => exact h
    | enter f args => exact ⟨fun h => by simp [Fence.wide] at h, CallsIn.inRound l (callsIn_wide.2 h)⟩
    | row row args => exact ⟨fun h => by simp [Fence.wide] at h, rowsIn_of h⟩
    | _ => exact h.elim
  | halt s w' =>
    cases s <;> first | exact h | exact h.elim
/-- a row of operations, inside a round -/
theorem listIn_of (hQ : ¬ LetsOut Q) : ∀ (rest : List Oper) (a : Act) (w : World), noDefer rest = true → wpList P ops Q rest a w → wpListIn (Fence.wide.inRound l) n P ops Q rest a w
  | [], _, _, _, h => h
  | o :: rest, a, w, hd, h => by
    unfold noDefer at hd
    rw [List.all_cons, Bool.and_eq_true] at hd
    unfold wpList at h
    unfold wpListIn
    by_cases hw : Region.wanted o (yielded ops a.tmps) = true
    · rw [if_pos hw] at h ⊢
      rcases h with h | h
      · exact wpIn_of_wp (noDefer_op hd.1) (Oper.wp_mono (fun a w k => listIn_of hQ rest a w hd.2 k) h)
      · exact absurd h.2 hQ
    · rw [if_neg hw] at h ⊢
      exact ⟨fun _ _ => trivial, listIn_of hQ rest _ w hd.2 h⟩
theorem regionIn_of {id : Nat} {rest : List Oper} (hQ : ¬ LetsOut Q) (hd : noDefer rest = true) (h : wpList P rest.toArray Q rest a w) : (Code.region id rest.toArray false).wpIn (Fence.wide.inRound l) n P Q a w :=
  wpIn_region_lit (listIn_of hQ rest a w hd h)
/- the wide fence, one operation at a time -/
theorem wlIn_v {v : Value} (hg : Region.wanted o (yielded ops a.tmps) = true) (_ : ∀ c, o.op ≠ .defer c) (hv : (execOp a.eval o).run P w = .ok (.value v) w) (h : wpListIn Fence.wide n P ops Q rest (a.put o.dst v) w) : wpListIn Fence.wide n P ops Q (o :: rest) a w := by
  unfold wpListIn
  rw [if_pos hg]
  refine ⟨fun _ _ => trivial, ?_⟩
  show o.uponIn Fence.wide n P a _ Q ((o.semAt none a.eval).run P w)
  rw [show o.semAt none a.eval = execOp a.eval o from Oper.semAt_none _ _, hv]
  exact h
/-- yield is called -/
theorem wlIn_yield {f : FuncId} {tmps : Array Value} {assign body : Code} {R : Ending → World → Prop} (hg : Region.wanted o (yielded ops a.tmps) = true) (hv : (execOp a.eval o).run P w = .ok (.round l f tmps assign body) w)
    (hR : RoundIn Fence.wide (n - 1) P l f tmps assign body w R) (h : ∀ e w', R e w' → ∃ b, e = .returned b ∧ wpListIn Fence.wide n P ops Q rest (a.put o.dst b) w') : wpListIn Fence.wide n P ops Q (o :: rest) a w := by
  unfold wpListIn
  rw [if_pos hg]
  refine ⟨fun _ _ => trivial, ?_⟩
  show o.uponIn Fence.wide n P a _ Q ((o.semAt none a.eval).run P w)
  rw [show o.semAt none a.eval = execOp a.eval o from Oper.semAt_none _ _, hv]
  refine ⟨fun h => by simp [Fence.wide] at h, hR.mono fun e w' k => ?_⟩
  obtain ⟨b, rfl, h2⟩ := h e w' k
  exact h2
/-- a region, by the wide fence -/
theorem wp_region_wide (n : Nat) {id : Nat} {rest : List Oper} (h : wpListIn Fence.wide n P rest.toArray Q rest a w) : (Code.region id rest.toArray false).wp P Q a w := wpIn_wide.1 (wpIn_region_lit h)
end Go.Mv

/- group: candidates, the iterator. -/
namespace Go.Mv
open Go.RowKit
theorem Fr.grown {a b : World} (h : Fr Nob a b) : a.grownBy b none := ⟨h.os, h.tape, h.output, h.size, fun k hk _ => h.block k hk id⟩
end Go.Mv
namespace Go.Proofs.Ytdbgddngapminaa
open Go.RowKit Go.Mv Mvp Mvq
theorem info_bsh : (Try.prog.info? 34).map (fun i => (i.zero, i.size, i.bytes)) = some (some (.slice none 0 0), 1, 24) := by kernel_rfl
theorem hN_is (lab b : List UInt8) (i : Nat) : hN lab b i = beN (tagL (kPoint ++ lab) [b, [UInt8.ofNat i]]) := by unfold hN hB; rfl
theorem tag_len (s : List UInt8) (ls : List (List UInt8)) (w : World) (base : Nat) (v : Value) (h : Go.Mv.Own w base 5 1 v 32 (bs (tagL s ls))) : ∃ a c, v = .slice a 32 c ∧ RdB w a 32 (tagL s ls) := by
  obtain ⟨a, c, rfl, -, hr, -⟩ := h.form
  rw [Nat.mul_one] at hr
  exact ⟨a, c, rfl, hr⟩
theorem h_lt (lab b : List UInt8) (i : Nat) (hl : (tagL (kPoint ++ lab) [b, [UInt8.ofNat i]]).length = 32) : hN lab b i < B64 ^ 4 := by
  rw [hN_is]
  exact beN_le32 _ (by omega)
theorem affT_LL (n y : Nat) (h : onC (.A (kc n) (kc y))) : (affT n y h).L = cw 4 (elN mP n) ++ (cw 4 (elN mP y) ++ cw 4 (elN mP 1)) := rfl
attribute [local irreducible] limbs lw mix cw cSub cAdd cMul beN laid be32 montT mstep elN mdL numB rtN rtV rtOk gXn gYn PT.L addT dblT mulT tbL tmR tmL dbN innT outT sumT dig rdT rdOk rdPt ptL ptsL rdsB wrPt permS permP toB turnsK squeeze permN spongeB feed frameL framesL tagL hB hN candT candL atY crvN affT
theorem exec_addS2 {o : Oper} {a : Act} {p q : Operand} {T U : TypeId} {s t : ByteArray} {r : List UInt8} (ho : o.op = .binOp .add T p q U) (hp : a.eval p = .string s) (hq : a.eval q = .string t) (_hT : Try.prog.underlying T = some .string) (h : s.size + t.size ≤ 10000000) (hr : s ++ t = mkS r) (w : World) :
    (execOp a.eval o).run Try.prog w = .ok (.value (.string (mkS r))) w := by
  have h3 : (binOp .add T (.string s) (.string t)).run Try.prog w = .ok (.string (s ++ t)) w := by
    have h4 : s.size + t.size ≤ 9223372036854775807 := by omega
    go_simp
  have h2 := exec_binop (P := Try.prog) ho hp hq w (by go_simp) h3
  rwa [hr] at h2
theorem part_cells {w : World} {v : Value} {l : List UInt8} (h : PartIs w v l) : v.cells = #[v] := by
  obtain ⟨a, n, c, rfl, -⟩ := h
  rfl
theorem exec_yield {l : Nat} {vs : List Value} {nx : Next} {o : Oper} {a : Act} {w : World} {x : Operand} {xs : Array Operand} {ats : Array TypeId} (ho : o.op = .call { callee := .value x, args := xs, argTypes := ats }) (hx : a.eval x = .func (.yield l) #[] #[]) (ha : xs.toList.map a.eval = vs)
    (hy : (Instr.yield l vs.toArray).run Try.prog w = .ok nx w) : (execOp a.eval o).run Try.prog w = .ok nx w := by
  have ha2 : xs.map a.eval = vs.toArray := by rw [← ha]; simp [← Array.toList_map]
  unfold execOp
  simp only [ho, resolve, hx, ha2]
  simp [invoke, hy, go_sem]

set_option maxHeartbeats 8000000 in
set_option maxRecDepth 1000000 in
theorem cand_stops (lab : ByteArray) (hsz : lab.size ≤ 100000) (g2 g3 : Nat) (va : Value) (b : List UInt8) (w : World) (h2 : Has w g2 [.string lab] 9) (h3 : Has w g3 [va] 34) (hb : PartIs w va b) :
    SeqStopsK Fence.wide 2 Try.prog 123 #[.pointer (some ⟨g2, 0, none⟩), .pointer (some ⟨g3, 0, none⟩)] (fun x : PT => #[.agg x.L.toArray]) (Below w.heap.size) (fun xs => xs = candL lab.data.toList b 256) (fun pre => ∃ k x, k < 256 ∧ candT lab.data.toList b k = some x ∧ pre = candL lab.data.toList b k ++ [x]) 256 w := by
  intro l J Jx W hW hJ hJx hY h0
  refine callsIn_wide.2 ?_
  show Calls Try.prog 123 #[.func (.yield l) #[] #[], .pointer (some ⟨g2, 0, none⟩), .pointer (some ⟨g3, 0, none⟩)] W _
  have HY := Lib.hid hY
  have HJ := Lib.hid hJ
  have HJX := Lib.hid hJx
  have H0 := Lib.hid h0
  have HW := Lib.hid (Fr.ofBelow hW)
  have H2 := Lib.hid h2
  have H3 := Lib.hid h3
  have HB := Lib.hid hb
  have HSZ := Lib.hid hsz
  clear hY hJ hJx h0 hW h2 h3 hb hsz
  go_enter Try.func123, Try.ntmps123
  go_wp2
  go_loopw [8] (fun v wr => ∃ k : Nat, k ≤ 256 ∧ v = .int .i64 (k : Int) ∧ J (candL lab.data.toList b k) wr ∧ Fr Nob w wr ∧ W.heap.size ≤ wr.heap.size) (fun v _ => 256 - (intOf v).toNat)
  case atStart => exact ⟨0, Nat.zero_le _, rfl, by rw [candL_zero]; exact H0.out, HW.out, Nat.le_refl _⟩
  case round =>
    obtain ⟨k, hk, rfl, hJk, hfk, hWk⟩ := hrel
    have HJK := Lib.hid hJk
    have HFK := Lib.hid hfk
    have HWK := Lib.hid hWk
    clear hJk hfk hWk
    by_cases hlt : k < 256
    · have hltI : (k : Int) < 256 := by omega
      have hk0 : (0 : Int) ≤ (k : Int) := by omega
      have hk8 : (k : Int) % 256 = (k : Int) := by omega
      have HLT := Lib.hid hlt
      clear hlt hk
      have hc2 := (H2.out.keep HFK.out id).cell (show [Value.string lab][0]? = _ from rfl)
      have hc3 := (H3.out.keep HFK.out id).cell (show [va][0]? = _ from rfl)
      go_wp2_with (with_reducible refine wl_stop (o := ⟨some 12, _, _, _, _, _⟩) ?_)
      refine wl_exec rfl (exec_addS2 rfl rfl rfl Try.underlying9 (by have h : (⟨#[112, 111, 105, 110, 116, 32]⟩ : ByteArray).size = 6 := rfl; rw [h]; have := HSZ.out; omega) (str_app lab) _) ?_
      go_wp2_with (with_reducible refine wl_stop (o := ⟨some 16, _, _, _, _, _⟩) ?_)
      refine wl_slit rfl rfl Try.underlying34 info_u8 [.int .u8 (k : Int)] rfl (by intro u hu; simp only [List.mem_singleton] at hu; subst hu; rfl) rfl rfl ?_
      intro wa hga hfa hza
      clear hza hc2 hc3
      have hgb : Has wa wr.heap.size (bs [UInt8.ofNat k]) 5 := by
        have e : [Value.int .u8 (k : Int)] = bs [UInt8.ofNat k] := by
          show _ = [Value.int .u8 ((UInt8.ofNat k).toNat : Int)]
          rw [UInt8.toNat_ofNat', Nat.mod_eq_of_lt HLT.out]
        rw [e] at hga
        exact hga
      have hpb : PartIs wa (.slice (some ⟨wr.heap.size, 0, none⟩) 1 1) [UInt8.ofNat k] := ⟨_, 1, 1, rfl, Nat.le_refl _, by omega, Rd.whole hgb, fun x hx => by simp only [Option.some.injEq] at hx; subst hx; exact hgb.lt⟩
      have HPB := Lib.hid hpb
      have HFA := Lib.hid hfa
      have HPA := Lib.hid (HB.out.still (HFK.out.then hfa))
      have HVC := Lib.hid (part_cells HB.out)
      clear hga hfa hgb hpb
      generalize hg16 : wr.heap.size = g16 at *
      have HG16 := Lib.hid hg16
      clear hg16
      go_wp2_with (with_reducible refine wl_stop (o := ⟨some 17, _, _, _, _, _⟩) ?_)
      refine wl_slit (vs := [va, .slice (some ⟨g16, 0, none⟩) 1 1]) (hgd := rfl) (ho := rfl) (hu := Try.underlying50) (hi0 := info_bsh) (hp := by rfl) (hv := fun u hu => by
        simp only [List.mem_cons, List.not_mem_nil, or_false] at hu
        rcases hu with rfl | rfl
        · exact HVC.out
        · rfl) (hk := by rfl) (hz := by rfl) (h := ?_)
      intro wb hgb hfb hzb
      clear hzb
      have hps : Parts wb [va, .slice (some ⟨g16, 0, none⟩) 1 1] [b, [UInt8.ofNat k]] := ⟨HPA.out.still hfb, HPB.out.still hfb, trivial⟩
      have HPS := Lib.hid (hps.at hgb)
      have HFB := Lib.hid (HFA.out.then hfb)
      clear hgb hfb hps HPA HPB HFA
      generalize wa.heap.size = g17 at *
      go_wp2_with fail
      refine (Tag_any (mkS (kPoint ++ lab.data.toList)) _ _ [b, [UInt8.ofNat k]] _ (by rw [mkS_size]; have := HSZ.out; simp [kPoint]; omega) (by simp) HPS.out).mono ?_
      rintro e wc ⟨vt, rfl, ho, hf⟩
      rw [mkS_toList] at ho
      obtain ⟨at_, ct, hvt, hrt⟩ := tag_len _ _ _ _ _ ho
      subst hvt
      have HRT := Lib.hid hrt
      have HFC := Lib.hid (HFB.out.then hf)
      clear ho hf hrt HFB HPS
      have hnl := h_lt lab.data.toList b k (by have := HRT.out.len; exact this)
      have hni := hN_is lab.data.toList b k
      generalize hn : hN lab.data.toList b k = n at *
      have HNL := Lib.hid hnl
      have HNN := Lib.hid hn
      have HNI := Lib.hid hni
      clear hnl hn hni
      go_wp2_with fail
      refine (FromBytes_any at_ 32 ct _ _ HRT.out (by decide)).mono ?_
      rintro e wd ⟨rfl, hf⟩
      rw [← HNI.out]
      have HFD := Lib.hid (HFC.out.then hf)
      clear hf HFC HRT
      have st0 := St.start Nob wd
      go_wp2_with (with_reducible refine wl_stop (o := ⟨some 5, _, _, _, _, _⟩) ?_)
      refine wl_allocS st0 rfl rfl (z := .agg #[.int .u64 0, .int .u64 0, .int .u64 0, .int .u64 0]) (by kernel_rfl) (cw 4 0) (by rw [cw_zero]; rfl) ?_
      intro g5 w1 st1
      clear st0
      go_wp2_with (with_reducible refine wl_stop (o := ⟨none, _, _, _, _, _⟩) ?_)
      refine wl_storeS st1 0 rfl rfl rfl rfl rfl (by first | (simp only [cw_len]; done) | (simp only [List.length_append, cw_len, PT.len, ptL_len]; done)) (by first | (rw [cw_len]; kernel_rfl) | (rw [PT.len]; kernel_rfl) | (rw [ptL_len]; kernel_rfl) | (simp only [List.length_append, cw_len]; kernel_rfl) | (simp only [List.length_append, cw_len, PT.len, ptL_len]; kernel_rfl)) (cw_one _ _) ?_
      intro w2 st2
      clear st1
      by_cases hd : n < mP.M
      · have HD := Lib.hid (show decide (n < mP.M) = true from decide_eq_true hd)
        have HLM := Lib.hid hd
        clear hd
        go_wp2_with fail
        refine wp_region_noPanic ?_
        refine wp_region_lad st2 9 [.t 0, .c 1, .w 2, .w 3, .c 4, .w 5, .w 6, .c 7, .c 8] (.m 9 .nil) (by kernel_rfl) (by kernel_rfl) (fun _ _ _ _ _ h => h) ?_
        clear st2
        refine lad_arr rfl rfl rfl (fun _ => rfl) (cw 4 n) (fun wx hS => St.rangeL hS 0 rfl 0 _ (by rw [List.drop_zero, List.take_of_length_le (Nat.le_refl _)])) Try.underlying82 rfl (by first | (rw [cw_len]; kernel_rfl) | (rw [PT.len]; kernel_rfl) | (rw [ptL_len]; kernel_rfl) | (simp only [List.length_append, cw_len]; kernel_rfl) | (simp only [List.length_append, cw_len, PT.len, ptL_len]; kernel_rfl)) ?_
        try simp only [Act.put, List.setIfInBounds_toArray, List.set_cons_zero, List.set_cons_succ]
        refine lad_callX (X := Nat × Nat) (fun y => .pointer (some ⟨y.1, 0, none⟩)) (fun y w => Has w y.1 (crvL mP y.2 gXn gYn) 93 ∧ Has w y.2 (mdL mP) 134) (fun _ _ _ h k => ⟨h.1.keep k id, h.2.keep k id⟩) rfl rfl rfl Try.call41 (fun w hS hR => k256_y _) (fun _ => rfl) fun y1 => ?_
        try simp only [Act.put, List.setIfInBounds_toArray, List.set_cons_zero, List.set_cons_succ]
        refine lad_w (v := ?_) rfl rfl (fun xq wx => ?_) ?_
        rotate_left 1
        · (go_simp; with_reducible rfl)
        try simp only [Act.put, List.setIfInBounds_toArray, List.set_cons_zero, List.set_cons_succ]
        refine lad_w (v := ?_) rfl rfl (fun xq wx => ?_) ?_
        rotate_left 1
        · (go_simp; with_reducible rfl)
        try simp only [Act.put, List.setIfInBounds_toArray, List.set_cons_zero, List.set_cons_succ]
        refine lad_v (v := ?_) rfl rfl (fun xq wx hS hR => ?_) ?_
        rotate_left 1
        · (have hc := (hR.2).1.cell (show (crvL mP y1.2 gXn gYn)[0]? = some (.pointer (some ⟨y1.2, 0, none⟩)) from rfl); clear hS hR; go_simp; with_reducible rfl)
        try simp only [Act.put, List.setIfInBounds_toArray, List.set_cons_zero, List.set_cons_succ]
        refine lad_w (v := ?_) rfl rfl (fun xq wx => ?_) ?_
        rotate_left 1
        · (go_simp; with_reducible rfl)
        try simp only [Act.put, List.setIfInBounds_toArray, List.set_cons_zero, List.set_cons_succ]
        refine lad_w (v := ?_) rfl rfl (fun xq wx => ?_) ?_
        rotate_left 1
        · (go_simp; with_reducible rfl)
        try simp only [Act.put, List.setIfInBounds_toArray, List.set_cons_zero, List.set_cons_succ]
        refine lad_v (v := ?_) rfl rfl (fun xq wx hS hR => ?_) ?_
        rotate_left 1
        · (refine exec_loadH (hR.2).2 (x := .tmp 26) (p := 0) ?_ ?_ (cw 4 mP.M) (md_M mP) Try.underlying82 rfl ?_; rfl; rfl; (rw [cw_len]; kernel_rfl))
        try simp only [Act.put, List.setIfInBounds_toArray, List.set_cons_zero, List.set_cons_succ]
        refine lad_call rfl rfl rfl Try.call90 (fun w hS hR => MLess_v n mP.M _ HNL.out mP_ok.lt true HD.out) (fun _ => rfl) ?_
        try simp only [Act.put, List.setIfInBounds_toArray, List.set_cons_zero, List.set_cons_succ]
        refine lad_end fun xq w3 st3 hR => ?_
        try dsimp only
        clear hR xq
        refine plan_m rfl rfl ?_
        go_simp
        try simp only [Act.put, List.setIfInBounds_toArray, List.set_cons_zero, List.set_cons_succ]
        refine plan_end ?_
        refine NoPanic.normal ?_
        rcases hr : rtOk mP.M (crvN n) with _ | _
        · have HR := Lib.hid hr
          have HC := Lib.hid (candT_no HNN.out (fun h => by rw [hr] at h; exact absurd h.2 (by decide)))
          clear hr
          go_wp2_with fail
          refine wp_region_noPanic ?_
          refine wp_region_lad st3 13 [.o 11, .t 5, .c 0, .c 1, .w 2, .w 3, .c 4, .c 6, .c 7, .w 8, .w 9, .w 10, .j 11] (.r 12 (.m 13 .nil)) (by kernel_rfl) (by kernel_rfl) (fun _ _ _ _ _ h => h) ?_
          clear st3
          refine lad_o rfl rfl rfl z_gp (cw 12 0) rfl ?_
          try simp only [Act.put, List.setIfInBounds_toArray, List.set_cons_zero, List.set_cons_succ]
          refine lad_arr rfl rfl rfl (fun _ => rfl) (cw 4 n) (fun wx hS => St.rangeL hS 0 rfl 0 _ (by rw [List.drop_zero, List.take_of_length_le (Nat.le_refl _)])) Try.underlying82 rfl (by first | (rw [cw_len]; kernel_rfl) | (rw [PT.len]; kernel_rfl) | (rw [ptL_len]; kernel_rfl) | (simp only [List.length_append, cw_len]; kernel_rfl) | (simp only [List.length_append, cw_len, PT.len, ptL_len]; kernel_rfl)) ?_
          try simp only [Act.put, List.setIfInBounds_toArray, List.set_cons_zero, List.set_cons_succ]
          refine lad_callX (X := Nat × Nat) (fun y => .pointer (some ⟨y.1, 0, none⟩)) (fun y w => Has w y.1 (crvL mP y.2 gXn gYn) 93 ∧ Has w y.2 (mdL mP) 134) (fun _ _ _ h k => ⟨h.1.keep k id, h.2.keep k id⟩) rfl rfl rfl Try.call41 (fun w hS hR => k256_y _) (fun _ => rfl) fun y2 => ?_
          try simp only [Act.put, List.setIfInBounds_toArray, List.set_cons_zero, List.set_cons_succ]
          refine lad_callX (X := Nat × Nat) (fun y => .pointer (some ⟨y.1, 0, none⟩)) (fun y w => Has w y.1 (crvL mP y.2 gXn gYn) 93 ∧ Has w y.2 (mdL mP) 134) (fun _ _ _ h k => ⟨h.1.keep k id, h.2.keep k id⟩) rfl rfl rfl Try.call41 (fun w hS hR => k256_y _) (fun _ => rfl) fun y3 => ?_
          try simp only [Act.put, List.setIfInBounds_toArray, List.set_cons_zero, List.set_cons_succ]
          refine lad_w (v := ?_) rfl rfl (fun xq wx => ?_) ?_
          rotate_left 1
          · (go_simp; with_reducible rfl)
          try simp only [Act.put, List.setIfInBounds_toArray, List.set_cons_zero, List.set_cons_succ]
          refine lad_w (v := ?_) rfl rfl (fun xq wx => ?_) ?_
          rotate_left 1
          · (go_simp; with_reducible rfl)
          try simp only [Act.put, List.setIfInBounds_toArray, List.set_cons_zero, List.set_cons_succ]
          refine lad_v (v := ?_) rfl rfl (fun xq wx hS hR => ?_) ?_
          rotate_left 1
          · (have hc := (hR.2).1.cell (show (crvL mP y3.2 gXn gYn)[0]? = some (.pointer (some ⟨y3.2, 0, none⟩)) from rfl); clear hS hR; go_simp; with_reducible rfl)
          try simp only [Act.put, List.setIfInBounds_toArray, List.set_cons_zero, List.set_cons_succ]
          refine lad_call rfl rfl rfl Try.call85 (fun w hS hR => MTo_any mP y3.2 _ mP_ok hR.2.2 n HNL.out) (fun _ => rfl) ?_
          try simp only [Act.put, List.setIfInBounds_toArray, List.set_cons_zero, List.set_cons_succ]
          refine lad_call rfl rfl rfl Try.call91 (fun w hS hR => at_u mP y2.1 y2.2 gXn gYn _ mP_ok hR.1.2.1 hR.1.2.2 n false HR.out) (fun _ => rfl) ?_
          try simp only [Act.put, List.setIfInBounds_toArray, List.set_cons_zero, List.set_cons_succ]
          refine lad_w (v := ?_) rfl rfl (fun xq wx => ?_) ?_
          rotate_left 1
          · (go_simp; with_reducible rfl)
          try simp only [Act.put, List.setIfInBounds_toArray, List.set_cons_zero, List.set_cons_succ]
          refine lad_w (v := ?_) rfl rfl (fun xq wx => ?_) ?_
          rotate_left 1
          · (go_simp; with_reducible rfl)
          try simp only [Act.put, List.setIfInBounds_toArray, List.set_cons_zero, List.set_cons_succ]
          refine lad_w (v := ?_) rfl rfl (fun xq wx => ?_) ?_
          rotate_left 1
          · (go_simp; with_reducible rfl)
          try simp only [Act.put, List.setIfInBounds_toArray, List.set_cons_zero, List.set_cons_succ]
          refine lad_j List.mem_cons_self fun g6 => ?_
          simp only [upd, reduceIte]
          try simp only [Nat.reduceEqDiff, reduceIte]
          refine lad_end fun xq w4 st4 hR => ?_
          try dsimp only
          clear hR xq
          refine plan_r rfl rfl ?_
          refine wp_storeS st4 1 rfl rfl rfl rfl (by first | (simp only [cw_len]; done) | (simp only [List.length_append, cw_len, PT.len, ptL_len]; done)) (by first | (rw [cw_len]; kernel_rfl) | (simp only [List.length_append, cw_len]; kernel_rfl)) (pt_one _ _ _) ?_
          intro w5 st5
          repeat (first | simp only [List.cons_append] at st5 | simp only [List.nil_append] at st5 | simp only [List.set_cons_succ] at st5 | simp only [List.set_cons_zero] at st5)
          clear st4
          refine ⟨by first | exact st5 | exact St.less st5 (by simp), ?_⟩
          try simp only [Act.put]
          refine plan_m rfl rfl ?_
          go_simp
          try simp only [Act.put, List.setIfInBounds_toArray, List.set_cons_zero, List.set_cons_succ]
          refine plan_end ?_
          refine NoPanic.normal ?_
          have HFE := Lib.hid (HFD.out.then st5.fr)
          clear st5
          go_wp2_with fail
          go_roundw
          case rel => exact ⟨k + 1, by have := HLT.out; omega, by go_num, by rw [candL_no HC.out]; exact HJ.out _ _ _ none HJK.out HFE.out.grown (fun r e => by cases e), HFK.out.then HFE.out, Nat.le_trans (by have h := HWK.out; rw [← HG16.out] at h; exact h) HFE.out.size⟩
          case measure => have := HLT.out; simp [intOf]; omega
        · have HR := Lib.hid hr
          have hon := h_on hr
          have HC := Lib.hid (show candT lab.data.toList b k = some (affT n (atY mP.M n) hon) from candT_yes HNN.out HLM.out hr)
          clear hr
          go_wp2_with fail
          refine wp_region_noPanic ?_
          refine wp_region_lad st3 13 [.o 11, .t 5, .c 0, .c 1, .w 2, .w 3, .c 4, .c 6, .c 7, .w 8, .w 9, .w 10, .j 11] (.r 12 (.m 13 .nil)) (by kernel_rfl) (by kernel_rfl) (fun _ _ _ _ _ h => h) ?_
          clear st3
          refine lad_o rfl rfl rfl z_gp (cw 12 0) rfl ?_
          try simp only [Act.put, List.setIfInBounds_toArray, List.set_cons_zero, List.set_cons_succ]
          refine lad_arr rfl rfl rfl (fun _ => rfl) (cw 4 n) (fun wx hS => St.rangeL hS 0 rfl 0 _ (by rw [List.drop_zero, List.take_of_length_le (Nat.le_refl _)])) Try.underlying82 rfl (by first | (rw [cw_len]; kernel_rfl) | (rw [PT.len]; kernel_rfl) | (rw [ptL_len]; kernel_rfl) | (simp only [List.length_append, cw_len]; kernel_rfl) | (simp only [List.length_append, cw_len, PT.len, ptL_len]; kernel_rfl)) ?_
          try simp only [Act.put, List.setIfInBounds_toArray, List.set_cons_zero, List.set_cons_succ]
          refine lad_callX (X := Nat × Nat) (fun y => .pointer (some ⟨y.1, 0, none⟩)) (fun y w => Has w y.1 (crvL mP y.2 gXn gYn) 93 ∧ Has w y.2 (mdL mP) 134) (fun _ _ _ h k => ⟨h.1.keep k id, h.2.keep k id⟩) rfl rfl rfl Try.call41 (fun w hS hR => k256_y _) (fun _ => rfl) fun y2 => ?_
          try simp only [Act.put, List.setIfInBounds_toArray, List.set_cons_zero, List.set_cons_succ]
          refine lad_callX (X := Nat × Nat) (fun y => .pointer (some ⟨y.1, 0, none⟩)) (fun y w => Has w y.1 (crvL mP y.2 gXn gYn) 93 ∧ Has w y.2 (mdL mP) 134) (fun _ _ _ h k => ⟨h.1.keep k id, h.2.keep k id⟩) rfl rfl rfl Try.call41 (fun w hS hR => k256_y _) (fun _ => rfl) fun y3 => ?_
          try simp only [Act.put, List.setIfInBounds_toArray, List.set_cons_zero, List.set_cons_succ]
          refine lad_w (v := ?_) rfl rfl (fun xq wx => ?_) ?_
          rotate_left 1
          · (go_simp; with_reducible rfl)
          try simp only [Act.put, List.setIfInBounds_toArray, List.set_cons_zero, List.set_cons_succ]
          refine lad_w (v := ?_) rfl rfl (fun xq wx => ?_) ?_
          rotate_left 1
          · (go_simp; with_reducible rfl)
          try simp only [Act.put, List.setIfInBounds_toArray, List.set_cons_zero, List.set_cons_succ]
          refine lad_v (v := ?_) rfl rfl (fun xq wx hS hR => ?_) ?_
          rotate_left 1
          · (have hc := (hR.2).1.cell (show (crvL mP y3.2 gXn gYn)[0]? = some (.pointer (some ⟨y3.2, 0, none⟩)) from rfl); clear hS hR; go_simp; with_reducible rfl)
          try simp only [Act.put, List.setIfInBounds_toArray, List.set_cons_zero, List.set_cons_succ]
          refine lad_call rfl rfl rfl Try.call85 (fun w hS hR => MTo_any mP y3.2 _ mP_ok hR.2.2 n HNL.out) (fun _ => rfl) ?_
          try simp only [Act.put, List.setIfInBounds_toArray, List.set_cons_zero, List.set_cons_succ]
          refine lad_call rfl rfl rfl Try.call91 (fun w hS hR => at_u mP y2.1 y2.2 gXn gYn _ mP_ok hR.1.2.1 hR.1.2.2 n true HR.out) (fun _ => rfl) ?_
          try simp only [Act.put, List.setIfInBounds_toArray, List.set_cons_zero, List.set_cons_succ]
          refine lad_w (v := ?_) rfl rfl (fun xq wx => ?_) ?_
          rotate_left 1
          · (go_simp; with_reducible rfl)
          try simp only [Act.put, List.setIfInBounds_toArray, List.set_cons_zero, List.set_cons_succ]
          refine lad_w (v := ?_) rfl rfl (fun xq wx => ?_) ?_
          rotate_left 1
          · (go_simp; with_reducible rfl)
          try simp only [Act.put, List.setIfInBounds_toArray, List.set_cons_zero, List.set_cons_succ]
          refine lad_w (v := ?_) rfl rfl (fun xq wx => ?_) ?_
          rotate_left 1
          · (go_simp; with_reducible rfl)
          try simp only [Act.put, List.setIfInBounds_toArray, List.set_cons_zero, List.set_cons_succ]
          refine lad_j List.mem_cons_self fun g6 => ?_
          simp only [upd, reduceIte]
          try simp only [Nat.reduceEqDiff, reduceIte]
          refine lad_end fun xq w4 st4 hR => ?_
          try dsimp only
          clear hR xq
          refine plan_r rfl rfl ?_
          refine wp_storeS st4 1 rfl rfl rfl rfl (by first | (simp only [cw_len]; done) | (simp only [List.length_append, cw_len, PT.len, ptL_len]; done)) (by first | (rw [cw_len]; kernel_rfl) | (simp only [List.length_append, cw_len]; kernel_rfl)) (pt_one _ _ _) ?_
          intro w5 st5
          repeat (first | simp only [List.cons_append] at st5 | simp only [List.nil_append] at st5 | simp only [List.set_cons_succ] at st5 | simp only [List.set_cons_zero] at st5)
          clear st4
          refine ⟨by first | exact st5 | exact St.less st5 (by simp), ?_⟩
          try simp only [Act.put]
          refine plan_m rfl rfl ?_
          go_simp
          try simp only [Act.put, List.setIfInBounds_toArray, List.set_cons_zero, List.set_cons_succ]
          refine plan_end ?_
          refine NoPanic.normal ?_
          have HAF := Lib.hid (affT_LL n (atY mP.M n) hon)
          have HFE := Lib.hid (HFD.out.then st5.fr)
          obtain ⟨fnn, tmps, assign, body, hy, hR⟩ := HY.out (candL lab.data.toList b k) (affT n (atY mP.M n) hon) w5 (HJ.out _ _ _ none HJK.out HFE.out.grown (fun r e => by cases e)) (Nat.lt_of_le_of_lt (candL_len _ _ _) HLT.out)
          rw [HAF.out] at hy
          have HHY := Lib.hid hy
          have HRR := Lib.hid hR
          have HPT := Lib.hid (st5.at 1 rfl)
          clear hy hR st5
          go_upto_region 6 with fail
          refine wp_region_wide 2 ?_
          refine wlIn_v rfl (fun c h => by cases h) (by go_simp; with_reducible rfl) ?_
          try simp only [Act.put, List.setIfInBounds_toArray, List.set_cons_zero, List.set_cons_succ]
          refine wlIn_v rfl (fun c h => by cases h) (by go_simp; with_reducible rfl) ?_
          try simp only [Act.put, List.setIfInBounds_toArray, List.set_cons_zero, List.set_cons_succ]
          refine wlIn_v rfl (fun c h => by cases h) (by go_simp; with_reducible rfl) ?_
          try simp only [Act.put, List.setIfInBounds_toArray, List.set_cons_zero, List.set_cons_succ]
          refine wlIn_v rfl (fun c h => by cases h) (exec_loadH HPT.out rfl rfl (cw 4 (elN mP n) ++ (cw 4 (elN mP (atY mP.M n)) ++ cw 4 (elN mP 1))) (by rw [List.drop_zero, List.take_of_length_le (Nat.le_refl _)]) Try.underlying72 rfl (by first | (rw [cw_len]; kernel_rfl) | (simp only [List.length_append, cw_len]; kernel_rfl))) ?_
          try simp only [Act.put, List.setIfInBounds_toArray, List.set_cons_zero, List.set_cons_succ]
          refine wlIn_yield rfl (exec_yield (vs := [.agg (cw 4 (elN mP n) ++ (cw 4 (elN mP (atY mP.M n)) ++ cw 4 (elN mP 1))).toArray]) rfl rfl rfl HHY.out) HRR.out ?_
          rintro e W3 (⟨rfl, hJ3, hK3⟩ | ⟨rfl, hJx3⟩)
          · refine ⟨_, rfl, ?_⟩
            try simp only [Act.put, List.setIfInBounds_toArray, List.set_cons_zero, List.set_cons_succ]
            refine wlIn_v rfl (fun c h => by cases h) (by go_simp; with_reducible rfl) ?_
            try simp only [Act.put, List.setIfInBounds_toArray, List.set_cons_zero, List.set_cons_succ]
            refine wlIn_v rfl (fun c h => by cases h) (by go_simp; with_reducible rfl) ?_
            try simp only [Act.put, List.setIfInBounds_toArray, List.set_cons_zero, List.set_cons_succ]
            refine wpListIn_nil ?_
            have hF3 : Fr Nob w W3 := Fr.ofBelow ((HFK.out.then HFE.out).below.trans hK3)
            have HF3 := Lib.hid hF3
            have HS3 := Lib.hid (Nat.le_trans (by have h := HWK.out; rw [← HG16.out] at h; exact h) (Nat.le_trans HFE.out.size hK3.size))
            have HJ3 := Lib.hid hJ3
            clear hJ3 hK3 hF3
            go_wp2_with fail
            go_roundw
            case rel => exact ⟨k + 1, by have := HLT.out; omega, by go_num, by rw [candL_yes HC.out]; exact HJ3.out, HF3.out, HS3.out⟩
            case measure => have := HLT.out; simp [intOf]; omega
          · refine ⟨_, rfl, ?_⟩
            try simp only [Act.put, List.setIfInBounds_toArray, List.set_cons_zero, List.set_cons_succ]
            refine wlIn_v rfl (fun c h => by cases h) (by go_simp; with_reducible rfl) ?_
            try simp only [Act.put, List.setIfInBounds_toArray, List.set_cons_zero, List.set_cons_succ]
            refine wlIn_v rfl (fun c h => by cases h) (by go_simp; with_reducible rfl) ?_
            try simp only [Act.put, List.setIfInBounds_toArray, List.set_cons_zero, List.set_cons_succ]
            refine wpListIn_nil ?_
            have HJX3 := Lib.hid hJx3
            clear hJx3
            go_wp2_with fail
            refine bodyPost_ret (results_none rfl _ _ _) rfl ?_
            exact ⟨⟨_, rfl⟩, .inr ⟨_, ⟨k, _, HLT.out, HC.out, rfl⟩, HJX3.out⟩⟩
      · have HD := Lib.hid (show decide (n < mP.M) = false from decide_eq_false hd)
        have HC := Lib.hid (candT_no HNN.out (fun h => hd h.1))
        clear hd
        go_wp2_with fail
        refine wp_region_noPanic ?_
        refine wp_region_lad st2 9 [.t 0, .c 1, .w 2, .w 3, .c 4, .w 5, .w 6, .c 7, .c 8] (.m 9 .nil) (by kernel_rfl) (by kernel_rfl) (fun _ _ _ _ _ h => h) ?_
        clear st2
        refine lad_arr rfl rfl rfl (fun _ => rfl) (cw 4 n) (fun wx hS => St.rangeL hS 0 rfl 0 _ (by rw [List.drop_zero, List.take_of_length_le (Nat.le_refl _)])) Try.underlying82 rfl (by first | (rw [cw_len]; kernel_rfl) | (rw [PT.len]; kernel_rfl) | (rw [ptL_len]; kernel_rfl) | (simp only [List.length_append, cw_len]; kernel_rfl) | (simp only [List.length_append, cw_len, PT.len, ptL_len]; kernel_rfl)) ?_
        try simp only [Act.put, List.setIfInBounds_toArray, List.set_cons_zero, List.set_cons_succ]
        refine lad_callX (X := Nat × Nat) (fun y => .pointer (some ⟨y.1, 0, none⟩)) (fun y w => Has w y.1 (crvL mP y.2 gXn gYn) 93 ∧ Has w y.2 (mdL mP) 134) (fun _ _ _ h k => ⟨h.1.keep k id, h.2.keep k id⟩) rfl rfl rfl Try.call41 (fun w hS hR => k256_y _) (fun _ => rfl) fun y1 => ?_
        try simp only [Act.put, List.setIfInBounds_toArray, List.set_cons_zero, List.set_cons_succ]
        refine lad_w (v := ?_) rfl rfl (fun xq wx => ?_) ?_
        rotate_left 1
        · (go_simp; with_reducible rfl)
        try simp only [Act.put, List.setIfInBounds_toArray, List.set_cons_zero, List.set_cons_succ]
        refine lad_w (v := ?_) rfl rfl (fun xq wx => ?_) ?_
        rotate_left 1
        · (go_simp; with_reducible rfl)
        try simp only [Act.put, List.setIfInBounds_toArray, List.set_cons_zero, List.set_cons_succ]
        refine lad_v (v := ?_) rfl rfl (fun xq wx hS hR => ?_) ?_
        rotate_left 1
        · (have hc := (hR.2).1.cell (show (crvL mP y1.2 gXn gYn)[0]? = some (.pointer (some ⟨y1.2, 0, none⟩)) from rfl); clear hS hR; go_simp; with_reducible rfl)
        try simp only [Act.put, List.setIfInBounds_toArray, List.set_cons_zero, List.set_cons_succ]
        refine lad_w (v := ?_) rfl rfl (fun xq wx => ?_) ?_
        rotate_left 1
        · (go_simp; with_reducible rfl)
        try simp only [Act.put, List.setIfInBounds_toArray, List.set_cons_zero, List.set_cons_succ]
        refine lad_w (v := ?_) rfl rfl (fun xq wx => ?_) ?_
        rotate_left 1
        · (go_simp; with_reducible rfl)
        try simp only [Act.put, List.setIfInBounds_toArray, List.set_cons_zero, List.set_cons_succ]
        refine lad_v (v := ?_) rfl rfl (fun xq wx hS hR => ?_) ?_
        rotate_left 1
        · (refine exec_loadH (hR.2).2 (x := .tmp 26) (p := 0) ?_ ?_ (cw 4 mP.M) (md_M mP) Try.underlying82 rfl ?_; rfl; rfl; (rw [cw_len]; kernel_rfl))
        try simp only [Act.put, List.setIfInBounds_toArray, List.set_cons_zero, List.set_cons_succ]
        refine lad_call rfl rfl rfl Try.call90 (fun w hS hR => MLess_v n mP.M _ HNL.out mP_ok.lt false HD.out) (fun _ => rfl) ?_
        try simp only [Act.put, List.setIfInBounds_toArray, List.set_cons_zero, List.set_cons_succ]
        refine lad_end fun xq w3 st3 hR => ?_
        try dsimp only
        clear hR xq
        refine plan_m rfl rfl ?_
        go_simp
        try simp only [Act.put, List.setIfInBounds_toArray, List.set_cons_zero, List.set_cons_succ]
        refine plan_end ?_
        refine NoPanic.normal ?_
        have HFE := Lib.hid (HFD.out.then st3.fr)
        clear st3
        go_wp2_with fail
        go_roundw
        case rel => exact ⟨k + 1, by have := HLT.out; omega, by go_num, by rw [candL_no HC.out]; exact HJ.out _ _ _ none HJK.out HFE.out.grown (fun r e => by cases e), HFK.out.then HFE.out, Nat.le_trans (by have h := HWK.out; rw [← HG16.out] at h; exact h) HFE.out.size⟩
        case measure => have := HLT.out; simp [intOf]; omega
    · have hge : ¬ ((k : Int) < 256) := by omega
      have hk6 : k = 256 := by omega
      subst hk6
      clear hk hlt
      go_wp2_with fail
      go_end0
      first | exact ⟨⟨_, rfl⟩, .inl HJK.out⟩ | exact ⟨⟨_, rfl⟩, .inl ⟨_, rfl, HJK.out⟩⟩
end Go.Proofs.Ytdbgddngapminaa

/- group: candidates, hashTo. -/
namespace Go.Mv
open Go.RowKit
theorem has_ownFrom {β : Type} (B g : Nat) (L : List Value) (T : TypeId) : OwnFrom B (fun (_ : β) W => Has W g L T) := fun _ X Y row hs hg hr =>
  Has.keep hs (Fr.ofGrown hg) (fun e => by
    obtain ⟨_, o, ho, hc⟩ := hr g e
    obtain ⟨lo, hi, h, -⟩ := hs
    rw [h] at ho
    cases ho
    cases hc)
theorem fr_ownFrom {β : Type} {B : Nat} {w : World} (hB : w.heap.size ≤ B) : OwnFrom B (fun (_ : β) W => Fr Nob w W) := fun _ X Y row hs hg hr =>
  hs.trans (Fr.ofGrown hg) (fun i hi t => by
    have h := (hr i t).1
    omega)
theorem size_ownFrom {β : Type} (B n : Nat) : OwnFrom B (fun (_ : β) (W : World) => n ≤ W.heap.size) := fun _ _ _ _ hs hg _ => Nat.le_trans hs hg.size
theorem keeps_fr {B : Nat} {W W' : World} (h : Fr Nob W W') : KeepsFrom B W W' :=
  ⟨h.size, fun k _ _ hk _ => (h.block k (Array.getElem?_eq_some_iff.1 hk).1 id).trans hk⟩
theorem keeps_one {B g : Nat} {W W' : World} (h : Fr (One g) W W') (hg : g < B) : KeepsFrom B W W' :=
  ⟨h.size, fun k o hB hk _ => (h.block k (Array.getElem?_eq_some_iff.1 hk).1 (fun e => by have : k = g := e; omega)).trans hk⟩
theorem zip_one (t : Array Value) (p : Tmp) (v : Value) : (#[p].zip #[v]).foldl (fun t (p, v) => t.setIfInBounds p v) t = t.setIfInBounds p v := by simp
theorem no_out {K : Act → World → Prop} {Q : Exit → Act → World → Prop} (h : ∀ a w, ¬ Q .outgrown a w) : ¬ LetsOut (Exit.then K Q) := by
  rintro ⟨a, w, k⟩
  exact h a w k
end Go.Mv
namespace Go.Proofs.Ytdbgddngapminaa
open Go.RowKit Go.Mv Mvp Mvq
theorem z_pt : (Try.prog.info? 72).map (·.zero) = some (some (.agg (List.replicate 12 (.int .u64 0)).toArray)) := by kernel_rfl
attribute [local irreducible] limbs lw mix cw cSub cAdd cMul beN laid be32 montT mstep elN mdL numB rtN rtV rtOk gXn gYn PT.L addT dblT mulT tbL tmR tmL dbN innT outT sumT dig rdT rdOk rdPt ptL ptsL rdsB wrPt tagL hB hN candT candL hashT atY crvN affT
set_option maxHeartbeats 4000000 in
set_option maxRecDepth 1000000 in
theorem cands_c (lab : ByteArray) (va : Value) (hva : va.cells = #[va]) (w : World) : Calls Try.prog 109 #[.string lab, va] w fun e w' => ∃ g2 g3, e = .returned (.func (.func 123) #[] #[.pointer (some ⟨g2, 0, none⟩), .pointer (some ⟨g3, 0, none⟩)]) ∧ Has w' g2 [.string lab] 9 ∧ Has w' g3 [va] 34 ∧ Fr Nob w w' := by
  have HVA := Lib.hid hva
  clear hva
  have st0 := St.start Nob w
  go_enter Try.func109, Try.ntmps109
  go_wp2_with (with_reducible refine wl_stop (o := ⟨some 2, _, _, _, _, _⟩) ?_)
  refine wl_boxS st0 rfl rfl rfl [.string lab] rfl ?_
  intro g2 w1 st1
  clear st0
  unfold Act.put
  go_wp2_with (with_reducible refine wl_stop (o := ⟨some 3, _, _, _, _, _⟩) ?_)
  refine wl_boxS st1 rfl rfl rfl [va] (by show va.cells.toList = [va]; rw [HVA.out]) ?_
  intro g3 w2 st2
  clear st1
  have H2 := Lib.hid (st2.at 0 rfl)
  have H3 := Lib.hid (st2.at 1 rfl)
  have HF := Lib.hid st2.fr
  clear st2
  go_wp2_with fail
  go_ret
  exact ⟨g2, g3, rfl, H2.out, H3.out, HF.out⟩
set_option maxHeartbeats 8000000 in
set_option maxRecDepth 1000000 in
theorem hashTo_c (lab : ByteArray) (hsz : lab.size ≤ 100000) (va : Value) (b : List UInt8) (w : World) (hb : PartIs w va b) :
    Calls Try.prog 65 #[.string lab, va] w fun e w' => e = .returned (.agg (hashT lab.data.toList b).L.toArray) ∧ Fr Nob w w' := by
  have HSZ := Lib.hid hsz
  have HB := Lib.hid hb
  have HVA := Lib.hid (part_cells hb)
  clear hsz hb
  have st0 := St.start Nob w
  refine (callsIn_wide (n := 3)).1 ?_
  refine callsIn_of_wp_marks Try.func65 rfl trivial ?_ rfl
  simp only [Try.ntmps65, List.size_toArray, List.length_cons, List.length_nil, Nat.reduceAdd, Nat.reduceSub, Array.replicate_succ, Array.replicate_zero, List.push_toArray, List.append_toArray, List.nil_append, List.cons_append]
  refine wpIn_wide.2 ?_
  go_wp2_with (with_reducible refine wl_stop (o := ⟨some 4, _, _, _, _, _⟩) ?_)
  refine wl_allocS st0 rfl rfl z_pt (cw 12 0) (by rw [cw_zero]; rfl) ?_
  intro g4 w1 st1
  clear st0
  go_wp2_with fail
  refine (cands_c lab va HVA.out _).mono ?_
  rintro e w2 ⟨g2, g3, rfl, hg2, hg3, hf2⟩
  have st2 := st1.keep hf2
  have HG2 := Lib.hid hg2
  have HG3 := Lib.hid hg3
  clear st1 hf2 hg2 hg3
  have H4 := Lib.hid (st2.at 0 rfl)
  have HGE := Lib.hid ((st2.own _ List.mem_cons_self).resolve_right (fun h => h.elim))
  have HF := Lib.hid st2.fr
  have HLT := Lib.hid (st2.at 0 rfl).lt
  clear st2
  go_wp2_with fail
  refine (wpIn_wide (n := 3)).1 ?_
  refine wpIn_rangeFunc_ownH (F := Fence.wide) rfl (by omega) (gf := 123) (lb := #[.pointer (some ⟨g2, 0, none⟩), .pointer (some ⟨g3, 0, none⟩)]) rfl trivial (enters_of Try.func123 (by kernel_rfl) rfl)
    (cand_stops lab HSZ.out g2 g3 va b w2 HG2.out HG3.out (HB.out.still HF.out)) belowK_t (belowK_b (Nat.le_refl _)) (Below.refl _ _) (fun _ => rfl)
    (fun pre W => pre = [] ∧ (Has W g4 (cw 12 0) 72 ∧ (Fr Nob w W ∧ w2.heap.size ≤ W.heap.size)))
    (fun c pre W => c = .ret ∧ ∃ x : PT, pre = [x] ∧ (Has W g4 x.L 72 ∧ Fr Nob w W))
    (OwnFrom.and (ownFrom_pure _ _) (OwnFrom.and (has_ownFrom _ _ _ _) (OwnFrom.and (fr_ownFrom HF.out.size) (size_ownFrom _ _))))
    (fun c s X Y row hs hg hr => by
      obtain ⟨h1, x, h2, h3, h4⟩ := hs
      exact ⟨h1, x, h2, has_ownFrom (β := Unit) _ g4 x.L _ () X Y row h3 hg hr, fr_ownFrom (β := Unit) HF.out.size () X Y row h4 hg hr⟩)
    ⟨rfl, H4.out, HF.out, Nat.le_refl _⟩
    (fun x a' W => ∃ Bx, Has W Bx x.L 72 ∧ a' = { tmps := #[.string lab, va, undef, undef, .pointer (some ⟨g4, 0, none⟩), .pointer (some ⟨Bx, 0, none⟩), .string lab, va, .func (.func 123) #[] #[.pointer (some ⟨g2, 0, none⟩), .pointer (some ⟨g3, 0, none⟩)], .agg x.L.toArray, undef, undef, undef, undef, undef], defers := [] })
    (fun x a' s X Y row hs hg hr => by
      obtain ⟨Bx, h1, h2⟩ := hs
      exact ⟨Bx, has_ownFrom (β := Unit) _ Bx x.L _ () X Y row h1 hg hr, h2⟩)
    ?assign ?body ?done ?stop
  case assign =>
    rintro l pre x W K ⟨rfl, h4, hfr, hsz⟩ hK
    refine regionIn_of (no_out fun _ _ h => h) rfl ?_
    have st := St.start Nob W
    have HK := Lib.hid hK
    have H4 := Lib.hid h4
    have HFR := Lib.hid hfr
    have HS := Lib.hid hsz
    clear hK h4 hfr hsz
    rw [zip_one]
    simp only [List.setIfInBounds_toArray, List.set_cons_zero, List.set_cons_succ]
    refine wl_allocS st rfl rfl z_pt (cw 12 0) (by rw [cw_zero]; rfl) ?_
    intro gx W1 s1
    try simp only [Act.put, List.setIfInBounds_toArray, List.set_cons_zero, List.set_cons_succ]
    refine wl_storeS s1 0 rfl rfl rfl rfl rfl (by rw [cw_len, PT.len]) (by rw [PT.len]; kernel_rfl) (PT.one _) ?_
    intro W2 s2
    try simp only [Act.put]
    refine wpList_nil ?_
    have hf := s2.fr
    exact HK.out _ _ (keeps_fr hf) (hf.below.mono HS.out) ⟨rfl, H4.out.keep hf id, HFR.out.then hf, Nat.le_trans HS.out hf.size⟩ ⟨gx, s2.at 0 rfl, rfl⟩
  case body =>
    rintro l pre x a' W hl hr ⟨rfl, h4, hfr, hsz⟩ ⟨Bx, hx, rfl⟩ hlt
    refine wpIn_block (wpIn_seq ?_)
    refine regionIn_of (no_out fun _ _ h => h) rfl ?_
    have st := St.one h4
    have HX := Lib.hid hx
    have HFR := Lib.hid hfr
    clear hr hx h4 hfr
    refine wl_loadR rfl rfl Try.underlying72 rfl rfl (cs := x.L) (fun i v hv => HX.out.range 0 _ (by rw [List.drop_zero, List.take_of_length_le (Nat.le_refl _)]) i v hv) (by rw [PT.len]; kernel_rfl) ?_
    try simp only [Act.put, List.setIfInBounds_toArray, List.set_cons_zero, List.set_cons_succ]
    refine wl_storeS st 0 rfl rfl rfl rfl rfl (by rw [cw_len, PT.len]) (by rw [PT.len]; kernel_rfl) (PT.one _) ?_
    intro W2 s2
    try simp only [Act.put]
    refine wpList_nil ?_
    refine wpIn_ret ?_
    exact ⟨keeps_one s2.fr HLT.out, rfl, x, rfl, s2.at 0 rfl, HFR.out.new s2.fr HGE.out⟩
  case done =>
    rintro D xs W hD hS ⟨rfl, h4, hfr, hsz⟩ hK
    have HS := Lib.hid (hashT_none hS.symm)
    have st := (St.start Nob w)
    have HFR := Lib.hid hfr
    have H4' := Lib.hid h4
    have HD := Lib.hid hK
    have HDD := Lib.hid hD
    clear hS h4 hfr hsz hK hD st
    go_wp2_with fail
    refine (k256_y _).mono ?_
    rintro e w3 ⟨y, rfl, ⟨hc, hm⟩, hf⟩
    have HC := Lib.hid hc
    have HF3 := Lib.hid hf
    clear hc hm hf
    go_wp2_with (with_reducible refine wl_stop (o := ⟨some 14, _, _, _, _, _⟩) ?_)
    refine wl_loadR rfl rfl Try.underlying72 rfl rfl (cs := baseT.L) (fun i v hv => HC.out.range 5 _ base_cells i v hv) (by rw [PT.len]; kernel_rfl) ?_
    have st := St.one (H4'.out.keep HF3.out id)
    go_wp2_with (with_reducible refine wl_stop (o := ⟨none, _, _, _, _, _⟩) ?_)
    refine wl_storeS st 0 rfl rfl rfl rfl rfl (by rw [cw_len, PT.len]) (by rw [PT.len]; kernel_rfl) (PT.one _) ?_
    intro w5 s5
    have HF5 := Lib.hid s5.fr
    have H5 := Lib.hid (s5.at 0 rfl)
    clear st s5
    go_wp2_with fail
    have hD3 := (keeps_fr (B := w2.heap.size) HF3.out).same D _ HDD.out HD.out rfl
    have hD5 := (keeps_one HF5.out HLT.out).same D _ HDD.out hD3 rfl
    refine ⟨by simp, .inl ⟨_, _, rfl, run_takeDeferred hD5, ?_⟩⟩
    have hfin := (has_ownFrom (β := Unit) 0 g4 _ _).putObj (s := ()) (.deferred none) H5.out (Nat.zero_le _) hD5 rfl
    refine ⟨_, results_st rfl rfl hfin Try.underlying72 rfl (by rw [PT.len]; kernel_rfl), by rw [HS.out], ?_⟩
    exact (fr_ownFrom (β := Unit) (B := w2.heap.size) HF.out.size).putObj (s := ()) (.deferred none) ((HFR.out.then HF3.out).new HF5.out HGE.out) HDD.out hD5 rfl
  case stop =>
    rintro D c pre W hD ⟨k, x', hk, hc, hp⟩ ⟨rfl, x, rfl, h4, hfr⟩ hK
    have hnil : candL lab.data.toList b k = [] := by
      cases hq : candL lab.data.toList b k with
      | nil => rfl
      | cons y ys =>
        rw [hq] at hp
        have := congrArg List.length hp
        simp at this
    rw [hnil] at hp
    have hxx : x = x' := by simpa using hp
    subst hxx
    have HS := Lib.hid (hashT_some hk hc hnil)
    refine wpIn_ret ?_
    refine ⟨by simp, .inl ⟨_, _, rfl, run_takeDeferred hK, ?_⟩⟩
    have hfin := (has_ownFrom (β := Unit) 0 g4 _ _).putObj (s := ()) (.deferred none) h4 (Nat.zero_le _) hK rfl
    refine ⟨_, results_st rfl rfl hfin Try.underlying72 rfl (by rw [PT.len]; kernel_rfl), by rw [HS.out], ?_⟩
    exact (fr_ownFrom (β := Unit) (B := w2.heap.size) HF.out.size).putObj (s := ()) (.deferred none) hfr hD hK rfl
end Go.Proofs.Ytdbgddngapminaa

/- group: HashTo, Commit. -/
namespace Go.Proofs.Ytdbgddngapminaa
open Go.RowKit Go.Mv Mvp Mvq
def kValue : List UInt8 := [118, 97, 108, 117, 101]
/-- the other base -/
noncomputable def hTT : PT := hashT kValue []
theorem hashTo_v (w : World) : Calls Try.prog 65 #[.string ⟨#[118, 97, 108, 117, 101]⟩, .slice none 0 0] w fun e w' => e = .returned (.agg hTT.L.toArray) ∧ Fr Nob w w' :=
  hashTo_c ⟨#[118, 97, 108, 117, 101]⟩ (by decide) (.slice none 0 0) [] w ⟨none, 0, 0, rfl, Nat.le_refl _, Nat.zero_le _, RdB.nil _ _, fun x h => by cases h⟩
theorem two_tm (a b : Nat × PT) : tmL [a, b] = tmR a ++ tmR b := by
  show (List.range 2).flatMap (fun k => tmR (tmAt [a, b] k)) = tmR a ++ tmR b
  simp [List.range_succ, tmAt]
theorem k256_z (w : World) : Calls Try.prog 41 #[] w fun e w' => ∃ gc : Nat, e = .returned (.pointer (some ⟨gc, 0, none⟩)) ∧ Cv w' gc ∧ Fr Nob w w' :=
  (k256_c w).mono fun _ _ ⟨gc, k1, _, k2, k3⟩ => ⟨gc, k1, k2, k3⟩
attribute [local irreducible] limbs lw mix cw cSub cAdd cMul beN laid be32 montT mstep elN mdL numB rtN rtV rtOk gXn gYn PT.L addT dblT mulT tbL tmR tmL dbN innT outT sumT dig rdT rdOk rdPt ptL ptsL rdsB wrPt tagL hB hN candT candL hashT atY crvN affT
set_option maxHeartbeats 8000000 in
set_option maxRecDepth 1000000 in
theorem HashTo_u (lab : ByteArray) (hsz : lab.size ≤ 100000) (va : Value) (b : List UInt8) (w : World) (hb : PartIs w va b) :
    Calls Try.prog 29 #[.string lab, va] w fun e w' => ∃ v, e = .returned (.tuple #[v, .int .i64 0]) ∧ OwnB1 w w' v (wrPt (hashT lab.data.toList b).pt) ∧ Fr Nob w w' := by
  have HSZ := Lib.hid hsz
  have HB := Lib.hid hb
  clear hsz hb
  go_enter Try.func29, Try.ntmps29
  go_wp2_with fail
  refine (k256_z _).mono ?_
  rintro e w1 ⟨gc, rfl, hcv, hf⟩
  have HCV := Lib.hid hcv
  have HF := Lib.hid hf
  clear hcv hf
  go_wp2_with fail
  refine (hashTo_c lab HSZ.out va b _ (HB.out.still HF.out)).mono ?_
  rintro e w2 ⟨rfl, hf⟩
  have HCV2 := Lib.hid (HCV.out.keep hf)
  have HF2 := Lib.hid (HF.out.then hf)
  clear hf HCV HF
  go_wp2_with fail
  refine (bytes_c _ gc _ HCV2.out).mono ?_
  rintro e w3 ⟨sv, rfl, hown, hf⟩
  have ho := Go.Mv.Own.mono hown HF2.out.size
  have hfr := HF2.out.then hf
  clear hf HCV2 HF2 hown
  go_wp2_with fail
  go_ret2
  exact ⟨sv, rfl, OwnB1.of ho (wrPt_len _), hfr⟩

set_option maxHeartbeats 8000000 in
set_option maxRecDepth 1000000 in
theorem Commit_tt (vv vr : Value) (lv lr : List UInt8) (w : World) (hpv : BPart w vv lv) (hpr : BPart w vr lr) (hv : numB mQ lv = true) (hr : numB mQ lr = true) :
    Calls Try.prog 27 #[vv, vr] w fun e w' => ∃ v, e = .returned (.tuple #[v, .int .i64 0]) ∧ Go.Mv.Own w' 0 5 1 v 33 (bs (wrPt (sumT [(beN lv, hTT), (beN lr, baseT)]).pt)) ∧ Fr Nob w w' := by
  obtain ⟨av, nv, cv, rfl, -, hrv⟩ := hpv
  obtain ⟨ar, nr, cr, rfl, -, hrr⟩ := hpr
  have HRv := Lib.hid hrv
  have HRr := Lib.hid hrr
  have HKv := Lib.hid hv
  have HKr := Lib.hid hr
  clear hrv hrr hv hr
  have st0 := St.start Nob w
  go_enter Try.func27, Try.ntmps27
  go_wp2_with fail
  refine (scalar_t HKv.out av nv cv _ (HRv.out.still st0.fr)).mono ?_
  rintro e' w1 ⟨rfl, hf1⟩
  have st1 := st0.keep hf1
  clear st0 hf1
  go_wp2_with (with_reducible refine wl_stop (o := ⟨some 6, _, _, _, _, _⟩) ?_)
  refine wl_allocS st1 rfl rfl (z := .agg #[.int .u64 0, .int .u64 0, .int .u64 0, .int .u64 0]) (by kernel_rfl) (cw 4 0) (by rw [cw_zero]; rfl) ?_
  intro g6 w2 st2
  clear st1
  go_wp2_with (with_reducible refine wl_stop (o := ⟨none, _, _, _, _, _⟩) ?_)
  refine wl_storeS st2 0 rfl rfl rfl rfl rfl (by first | (simp only [cw_len]; done) | (simp only [List.length_append, cw_len, PT.len, tbL_len, tmR_len, ptL_len]; done)) (by first | (rw [cw_len]; kernel_rfl) | (rw [PT.len]; kernel_rfl) | (rw [tbL_len]; kernel_rfl) | (rw [tmR_len]; kernel_rfl) | (rw [ptL_len]; kernel_rfl) | (simp only [List.length_append, cw_len]; kernel_rfl) | (simp only [List.length_append, cw_len, PT.len, tbL_len, tmR_len, ptL_len]; kernel_rfl)) (cw_one _ _) ?_
  intro w3 st3
  clear st2
  go_wp2_with fail
  refine (scalar_t HKr.out ar nr cr _ (HRr.out.still st3.fr)).mono ?_
  rintro e' w4 ⟨rfl, hf4⟩
  have st4 := st3.keep hf4
  clear st3 hf4
  go_wp2_with (with_reducible refine wl_stop (o := ⟨some 8, _, _, _, _, _⟩) ?_)
  refine wl_allocS st4 rfl rfl (z := .agg #[.int .u64 0, .int .u64 0, .int .u64 0, .int .u64 0]) (by kernel_rfl) (cw 4 0) (by rw [cw_zero]; rfl) ?_
  intro g8 w5 st5
  clear st4
  go_wp2_with (with_reducible refine wl_stop (o := ⟨none, _, _, _, _, _⟩) ?_)
  refine wl_storeS st5 1 rfl rfl rfl rfl rfl (by first | (simp only [cw_len]; done) | (simp only [List.length_append, cw_len, PT.len, tbL_len, tmR_len, ptL_len]; done)) (by first | (rw [cw_len]; kernel_rfl) | (rw [PT.len]; kernel_rfl) | (rw [tbL_len]; kernel_rfl) | (rw [tmR_len]; kernel_rfl) | (rw [ptL_len]; kernel_rfl) | (simp only [List.length_append, cw_len]; kernel_rfl) | (simp only [List.length_append, cw_len, PT.len, tbL_len, tmR_len, ptL_len]; kernel_rfl)) (cw_one _ _) ?_
  intro w6 st6
  clear st5
  go_wp2_with fail
  refine wp_region_noPanic ?_
  refine wp_region_lad st6 19 [.t 2, .t 7, .c 0, .c 1, .c 3, .c 4, .c 5, .w 6, .c 8, .c 9, .w 10, .w 11, .c 12, .c 13, .w 14, .o 15, .j 15] (.r 16 (.r 17 (.w 18 (.m 19 .nil)))) (by kernel_rfl) (by kernel_rfl) (fun _ _ _ _ _ h => h) ?_
  clear st6
  refine lad_arr rfl rfl rfl (fun _ => rfl) (cw 4 (beN lv)) (fun wx hS => St.rangeL hS 0 rfl 0 _ (by rw [List.drop_zero, List.take_of_length_le (Nat.le_refl _)])) Try.underlying82 rfl (by first | (rw [cw_len]; kernel_rfl) | (rw [PT.len]; kernel_rfl) | (rw [tbL_len]; kernel_rfl) | (rw [tmR_len]; kernel_rfl) | (rw [ptL_len]; kernel_rfl) | (simp only [List.length_append, cw_len]; kernel_rfl) | (simp only [List.length_append, cw_len, PT.len, tbL_len, tmR_len, ptL_len]; kernel_rfl)) ?_
  try simp only [Act.put, List.setIfInBounds_toArray, List.set_cons_zero, List.set_cons_succ]
  refine lad_arr rfl rfl rfl (fun _ => rfl) (cw 4 (beN lr)) (fun wx hS => St.rangeL hS 1 rfl 0 _ (by rw [List.drop_zero, List.take_of_length_le (Nat.le_refl _)])) Try.underlying82 rfl (by first | (rw [cw_len]; kernel_rfl) | (rw [PT.len]; kernel_rfl) | (rw [tbL_len]; kernel_rfl) | (rw [tmR_len]; kernel_rfl) | (rw [ptL_len]; kernel_rfl) | (simp only [List.length_append, cw_len]; kernel_rfl) | (simp only [List.length_append, cw_len, PT.len, tbL_len, tmR_len, ptL_len]; kernel_rfl)) ?_
  try simp only [Act.put, List.setIfInBounds_toArray, List.set_cons_zero, List.set_cons_succ]
  refine lad_callX (X := Nat) (fun gc => .pointer (some ⟨gc, 0, none⟩)) (fun gc w => Cv w gc) (fun _ _ _ h k => h.keep k) rfl rfl rfl Try.call41 (fun w hS hR => k256_z _) (fun _ => rfl) fun y26 => ?_
  try simp only [Act.put, List.setIfInBounds_toArray, List.set_cons_zero, List.set_cons_succ]
  refine lad_callX (X := Nat) (fun gc => .pointer (some ⟨gc, 0, none⟩)) (fun gc w => Cv w gc) (fun _ _ _ h k => h.keep k) rfl rfl rfl Try.call41 (fun w hS hR => k256_z _) (fun _ => rfl) fun y27 => ?_
  try simp only [Act.put, List.setIfInBounds_toArray, List.set_cons_zero, List.set_cons_succ]
  refine lad_callX (X := Nat) (fun gc => .pointer (some ⟨gc, 0, none⟩)) (fun gc w => Cv w gc) (fun _ _ _ h k => h.keep k) rfl rfl rfl Try.call41 (fun w hS hR => k256_z _) (fun _ => rfl) fun y29 => ?_
  try simp only [Act.put, List.setIfInBounds_toArray, List.set_cons_zero, List.set_cons_succ]
  refine lad_call rfl rfl rfl Try.call65 (fun w hS hR => hashTo_v _) (fun _ => rfl) ?_
  try simp only [Act.put, List.setIfInBounds_toArray, List.set_cons_zero, List.set_cons_succ]
  refine lad_call rfl rfl rfl Try.call63 (fun w hS hR => multiples_c hTT y29 _ hR.2) (fun _ => rfl) ?_
  try simp only [Act.put, List.setIfInBounds_toArray, List.set_cons_zero, List.set_cons_succ]
  refine lad_w rfl rfl (fun _ => exec_build rfl _ (built_tm _ _)) ?_
  try simp only [Act.put, List.setIfInBounds_toArray, List.set_cons_zero, List.set_cons_succ]
  refine lad_callX (X := Nat) (fun gc => .pointer (some ⟨gc, 0, none⟩)) (fun gc w => Cv w gc) (fun _ _ _ h k => h.keep k) rfl rfl rfl Try.call41 (fun w hS hR => k256_z _) (fun _ => rfl) fun y34 => ?_
  try simp only [Act.put, List.setIfInBounds_toArray, List.set_cons_zero, List.set_cons_succ]
  refine lad_callX (X := Nat × Nat) (fun y => .pointer (some ⟨y.1, 0, none⟩)) (fun y w => Has w y.1 (crvL mP y.2 gXn gYn) 93 ∧ Has w y.2 (mdL mP) 134) (fun _ _ _ h k => ⟨h.1.keep k id, h.2.keep k id⟩) rfl rfl rfl Try.call41 (fun w hS hR => k256_y _) (fun _ => rfl) fun y35 => ?_
  try simp only [Act.put, List.setIfInBounds_toArray, List.set_cons_zero, List.set_cons_succ]
  refine lad_w (v := ?_) rfl rfl (fun xq wx => ?_) ?_
  rotate_left 1
  · (go_simp; with_reducible rfl)
  try simp only [Act.put, List.setIfInBounds_toArray, List.set_cons_zero, List.set_cons_succ]
  refine lad_w (v := ?_) rfl rfl (fun xq wx => ?_) ?_
  rotate_left 1
  · (go_simp; with_reducible rfl)
  try simp only [Act.put, List.setIfInBounds_toArray, List.set_cons_zero, List.set_cons_succ]
  refine lad_v (v := ?_) rfl rfl (fun xq wx hS hR => ?_) ?_
  rotate_left 1
  · (refine exec_loadH (hR.2).1 (x := .tmp 37) (p := 5) ?_ ?_ baseT.L base_cells Try.underlying72 rfl ?_; rfl; rfl; (rw [PT.len]; kernel_rfl))
  try simp only [Act.put, List.setIfInBounds_toArray, List.set_cons_zero, List.set_cons_succ]
  refine lad_call rfl rfl rfl Try.call63 (fun w hS hR => multiples_c baseT y34 _ hR.1.2) (fun _ => rfl) ?_
  try simp only [Act.put, List.setIfInBounds_toArray, List.set_cons_zero, List.set_cons_succ]
  refine lad_w rfl rfl (fun _ => exec_build rfl _ (built_tm _ _)) ?_
  try simp only [Act.put, List.setIfInBounds_toArray, List.set_cons_zero, List.set_cons_succ]
  refine lad_rows rfl rfl rfl Try.underlying94 info_tm [.agg (tmR (beN lv, hTT)).toArray, .agg (tmR (beN lr, baseT)).toArray] (fun _ => rfl) (by intro v hv; simp only [List.mem_cons, List.not_mem_nil, or_false] at hv; rcases hv with rfl | rfl <;> exact (tmR_len _)) rfl (tmR (beN lv, hTT) ++ tmR (beN lr, baseT)) (by simp [Value.cells]) ?_
  try simp only [Act.put, List.setIfInBounds_toArray, List.set_cons_zero, List.set_cons_succ]
  refine lad_j List.mem_cons_self fun g41 => ?_
  simp only [upd, reduceIte]
  try simp only [Nat.reduceEqDiff, reduceIte]
  refine lad_end fun xq w7 st7 hR => ?_
  try dsimp only
  have HC27 := Lib.hid hR.1.1.1.2
  have HC26 := Lib.hid hR.1.1.1.1.2
  have HRD : Hid (Rd w7 (some ⟨g41, 0, none⟩) (([(beN lv, hTT), (beN lr, baseT)] : List (Nat × PT)).length * 196) (tmL [(beN lv, hTT), (beN lr, baseT)])) := Lib.hid (by rw [two_tm]; have h := Rd.whole (st7.at 2 rfl); rw [List.length_append, tmR_len, tmR_len] at h; exact h)
  clear hR xq
  refine plan_r rfl rfl ?_
  go_simp
  refine (sum_c [(beN lv, hTT), (beN lr, baseT)] y27 (some ⟨g41, 0, none⟩) 2 2 _ HC27.out rfl (by decide) HRD.out).mono ?_
  rintro e' w8 ⟨rfl, hf8⟩
  have st8 := st7.keep hf8
  have HC26b := Lib.hid (HC26.out.keep hf8)
  clear hf8
  clear st7
  refine ⟨by first | exact st8 | exact St.less st8 (by simp), ?_⟩
  try simp only [Act.put, List.setIfInBounds_toArray, List.set_cons_zero, List.set_cons_succ]
  refine plan_r rfl rfl ?_
  go_simp
  refine (bytes_c (sumT [(beN lv, hTT), (beN lr, baseT)]) y26 _ HC26b.out).mono ?_
  rintro e' w9 ⟨sv, rfl, ho, hf9⟩
  have st9 := st8.keep hf9
  have HO := Lib.hid ho
  clear ho
  clear hf9
  clear st8
  refine ⟨by first | exact st9 | exact St.less st9 (by simp), ?_⟩
  try simp only [Act.put, List.setIfInBounds_toArray, List.set_cons_zero, List.set_cons_succ]
  refine plan_w (v := ?_) rfl rfl (fun wx => ?_) ?_
  rotate_left 1
  · (go_simp; with_reducible rfl)
  try simp only [Act.put, List.setIfInBounds_toArray, List.set_cons_zero, List.set_cons_succ]
  refine plan_m rfl rfl ?_
  go_simp
  try simp only [Act.put, List.setIfInBounds_toArray, List.set_cons_zero, List.set_cons_succ]
  refine plan_end ?_
  refine NoPanic.normal ?_
  have hfr := st9.fr
  clear st9
  go_wp2_with fail
  go_ret2
  exact ⟨sv, rfl, Go.Mv.Own.mono HO.out (Nat.zero_le _), hfr⟩
end Go.Proofs.Ytdbgddngapminaa

/- GroupHomes: the law's both; contracts at points. -/
namespace Mvp
/-- two numbers' sum, digit by digit: what stands behind k -/
structure Adds (A B z : List UInt8) (k c : Nat) : Prop where
  len : z.length = 32
  low : z.take k = A.take k
  car : c ≤ 1
  val : beN (z.drop k) + c * 256 ^ (32 - k) = beN (A.drop k) + beN (B.drop k)
theorem drop_get (l : List UInt8) (k : Nat) (h : k < l.length) : l.drop k = l.getD k 0 :: l.drop (k + 1) := by
  rw [List.drop_eq_getElem_cons h]
  simp [List.getD_eq_getElem?_getD, h]
theorem Adds.step {A B z : List UInt8} {k c : Nat} (h : Adds A B z (k + 1) c) (hA : A.length = 32) (hB : B.length = 32) (hk : k < 32) :
    z.getD k 0 = A.getD k 0 ∧ Adds A B (z.set k (UInt8.ofNat (c + (A.getD k 0).toNat + (B.getD k 0).toNat))) k ((c + (A.getD k 0).toNat + (B.getD k 0).toNat) / 256) := by
  obtain ⟨h1, h2, h3, h4⟩ := h
  have ez : z.getD k 0 = A.getD k 0 := by
    have e1 : (z.take (k + 1)).getD k 0 = z.getD k 0 := by simp [List.getD_eq_getElem?_getD]
    have e2 : (A.take (k + 1)).getD k 0 = A.getD k 0 := by simp [List.getD_eq_getElem?_getD]
    rw [← e1, h2, e2]
  refine ⟨ez, ?_, ?_, ?_, ?_⟩
  · rw [List.length_set]; exact h1
  · rw [List.take_set_of_le (Nat.le_refl _)]
    have e3 : (z.take (k + 1)).take k = z.take k := by rw [List.take_take, Nat.min_eq_left (by omega)]
    have e4 : (A.take (k + 1)).take k = A.take k := by rw [List.take_take, Nat.min_eq_left (by omega)]
    rw [← e3, h2, e4]
  · have ha := (A.getD k 0).toNat_lt
    have hb := (B.getD k 0).toNat_lt
    omega
  · rw [drop_get _ k (by rw [List.length_set]; omega), drop_get A k (by omega), drop_get B k (by omega), beN_cons, beN_cons, beN_cons]
    have e5 : (z.set k (UInt8.ofNat (c + (A.getD k 0).toNat + (B.getD k 0).toNat))).drop (k + 1) = z.drop (k + 1) := by
      rw [List.drop_set_of_lt (by omega)]
    have e6 : (z.set k (UInt8.ofNat (c + (A.getD k 0).toNat + (B.getD k 0).toNat))).getD k 0 = UInt8.ofNat (c + (A.getD k 0).toNat + (B.getD k 0).toNat) := by
      simp [List.getD_eq_getElem?_getD, h1, hk]
    rw [e5, e6, List.length_drop, List.length_drop, List.length_drop, h1, hA, hB, UInt8.toNat_ofNat']
    rw [show 32 - k = 32 - (k + 1) + 1 by omega, show (256 : Nat) ^ (32 - (k + 1) + 1) = 256 ^ (32 - (k + 1)) * 256 from rfl]
    generalize 256 ^ (32 - (k + 1)) = P at *
    generalize (A.getD k 0).toNat = x at *
    generalize (B.getD k 0).toNat = y at *
    have hm := Nat.div_add_mod (c + x + y) 256
    have e7 : (c + x + y) % 2 ^ 8 * P + (c + x + y) / 256 * (P * 256) = (c + x + y) * P := by
      rw [show (2 : Nat) ^ 8 = 256 from rfl, Nat.mul_comm P 256, ← Nat.mul_assoc, ← Nat.add_mul]
      congr 1
      omega
    rw [Nat.add_mul, Nat.add_mul] at e7
    omega
theorem Adds.start (A B : List UInt8) (hA : A.length = 32) (hB : B.length = 32) : Adds A B A 32 0 :=
  ⟨hA, rfl, Nat.zero_le _, by rw [List.drop_of_length_le (by omega), List.drop_of_length_le (by omega)]; rfl⟩
theorem Adds.done {a b z : List UInt8} {c : Nat} (h : Adds (scB a) (scB b) z 0 c) : beN z = beN (scB a) + beN (scB b) := by
  have h4 := h.val
  rw [List.drop_zero, List.drop_zero, List.drop_zero] at h4
  have h1 := scB_lt a
  have h2 := scB_lt b
  have h3 : c = 0 := by
    rcases Nat.eq_zero_or_pos c with e | e
    · exact e
    · exfalso
      have e1 : c = 1 := by have := h.car; omega
      rw [e1] at h4
      have e2 : (256 : Nat) ^ 31 + 256 ^ 31 < 1 * 256 ^ (32 - 0) := by decide
      omega
  rw [h3, Nat.zero_mul] at h4
  exact h4
end Mvp
namespace Go.Proofs.Ytdbgddngapminaa
open Go.RowKit Go.Mv Mvp Mvq
set_option maxHeartbeats 8000000 in
set_option maxRecDepth 1000000 in
theorem both_c (a b : ByteArray) (w : World) : Calls Try.prog 28 #[.string a, .string b] w fun e w' => ∃ g z, e = .returned (.slice (some ⟨g, 0, none⟩) 32 32) ∧ z.length = 32 ∧ beN z = beN (scB a.data.toList) + beN (scB b.data.toList) ∧ BPart w' (.slice (some ⟨g, 0, none⟩) 32 32) z ∧ Fr Nob w w' := by
  go_enter Try.func28, Try.ntmps28
  go_wp2_with fail
  refine (LScalar_c a _).mono ?_
  rintro e w1 ⟨gx, rfl, hlx, hx, hf1⟩
  have HX := Lib.hid hx
  have HLX := Lib.hid hlx
  have HF1 := Lib.hid hf1
  clear hx hlx hf1
  go_wp2_with fail
  refine (LScalar_c b _).mono ?_
  rintro e w2 ⟨gy, rfl, hly, hy, hf2⟩
  have HY := Lib.hid hy
  have HX2 := Lib.hid (HX.out.keep hf2 id)
  have HNE := Lib.hid (show gx ≠ gy by have := HX.out.lt; omega)
  have HF2 := Lib.hid (HF1.out.then hf2)
  clear hy hly hf2 HX HF1
  go_wp2_with fail
  go_loopw [7, 8] (fun c v wr => ∃ (k cc : Nat) (z : List UInt8), k ≤ 32 ∧ v = .int .i64 ((k : Int) - 1) ∧ c = .int .i64 (cc : Int) ∧ Adds (scB a.data.toList) (scB b.data.toList) z k cc ∧ Has wr gx (bs z) 5 ∧ Has wr gy (bs (scB b.data.toList)) 5 ∧ Fr Nob w wr) (fun _ v _ => (intOf v + 1).toNat)
  case atStart => exact ⟨32, 0, _, Nat.le_refl _, rfl, rfl, Adds.start _ _ (scB_len _) (scB_len _), HX2.out, HY.out, HF2.out⟩
  case round =>
    obtain ⟨k, cc, z, hk, rfl, rfl, hadd, hx, hy, hfr⟩ := hrel
    clear HX2 HY HF2
    cases k with
    | zero =>
      have hge : ¬ ((0 : Int) ≤ ((0 : Nat) : Int) - 1) := by omega
      have HV := Lib.hid (Adds.done hadd)
      have HZ := Lib.hid hadd.len
      have HX := Lib.hid hx
      have HFR := Lib.hid hfr
      clear hadd hx hy hfr hk
      go_wp2_with fail
      go_ret
      exact ⟨gx, rfl, z, HZ.out, HV.out, ⟨_, 32, _, rfl, Nat.le_refl _, by have h := Rd.whole HX.out; rw [length_bs, HZ.out] at h; exact h⟩, HFR.out⟩
    | succ k =>
      have hk32 : k < 32 := by omega
      have hI : ((k + 1 : Nat) : Int) - 1 = (k : Int) := by omega
      rw [hI]
      have hge : (0 : Int) ≤ (k : Int) := by omega
      have hlt : (k : Int) < 32 := by omega
      obtain ⟨ez, hstep⟩ := hadd.step (scB_len _) (scB_len _) hk32
      have hcx := hx.cell (bs_get z k (by rw [hadd.len]; exact hk32))
      have hcy := hy.cell (bs_get (scB b.data.toList) k (by rw [scB_len]; exact hk32))
      obtain ⟨v0, hv0, hfz⟩ := hx.ready (i := k) (by rw [length_bs, hadd.len]; exact hk32)
      rw [ez] at hcx
      have hcar := hadd.car
      have hxa := ((scB a.data.toList).getD k 0).toNat_lt
      have hxb := ((scB b.data.toList).getD k 0).toNat_lt
      have hset := hx.set k (.int .u8 ((UInt8.ofNat (cc + ((scB a.data.toList).getD k 0).toNat + ((scB b.data.toList).getD k 0).toNat)).toNat : Int))
      rw [bs_set] at hset
      generalize (scB a.data.toList).getD k 0 = x at *
      generalize (scB b.data.toList).getD k 0 = y at *
      have hcc1 : (cc : Int) ≤ 1 := by omega
      have hx1 : (x.toNat : Int) < 256 := by omega
      have hy1 : (y.toNat : Int) < 256 := by omega
      have HFR := Lib.hid hfr
      have HST := Lib.hid hstep
      have HLT := Lib.hid hk32
      have HX := Lib.hid hx
      have HY := Lib.hid hy
      have HEN := Lib.hid (show ((cc : Int) + (x.toNat : Int) + (y.toNat : Int)) % 256 = ((UInt8.ofNat (cc + x.toNat + y.toNat)).toNat : Int) by rw [UInt8.toNat_ofNat', show (2 : Nat) ^ 8 = 256 from rfl]; omega)
      clear hadd hstep hv0 hk hk32 ez hI hcar hxa hxb hfr hx hy hset
      go_wp2_with fail
      go_quiet (fail)
      go_wp2_with fail
      have hf1 := (Fr.refl Nob wr).drewN nq
      refine ⟨⟨k, (cc + x.toNat + y.toNat) / 256, _, Nat.le_of_lt HLT.out, rfl, by go_num, HST.out, ?_, ?_, ?_⟩, ?_⟩
      · have h := (HX.out.keep hf1 id).set k (.int .u8 ((UInt8.ofNat (cc + x.toNat + y.toNat)).toNat : Int))
        rw [bs_set] at h
        rw [HEN.out]
        exact h
      · exact (HY.out.keep hf1 id).other k none _ HNE.out.symm
      · exact (HFR.out.then hf1).setCell gx k none _ fun h => absurd h (by have := HLX.out; omega)
      · simp [intOf]
end Go.Proofs.Ytdbgddngapminaa

/- The law GroupHomes. -/
namespace Go.Proofs.Ytdbgddngapminaa
open Go.RowKit Go.Mv Mvp Mvq
attribute [local irreducible] hTT hashT PT.pt
noncomputable def hHP : Pt := hTT.pt
theorem hHP_on : onC hHP := by unfold hHP; exact hTT.onP
theorem hHP_is : (hashT (⟨#[118, 97, 108, 117, 101]⟩ : ByteArray).data.toList []).pt = hHP := by unfold hHP hTT kValue; rfl
theorem PtB.ofU {w' : World} {v : Value} {p : Pt} (h : Go.Mv.Own w' 0 5 1 v 33 (bs (wrPt p))) : ∃ a c, v = .slice a 33 c ∧ PtB w' a c p := by
  obtain ⟨a, c, rfl, hc, hr, -⟩ := h.form
  rw [Nat.mul_one] at hr
  exact ⟨a, c, rfl, a, 33, c, rfl, hc, hr⟩
theorem Commit_p {lv lr : List UInt8} (hv : numB mQ lv = true) (hr : numB mQ lr = true) {p : Pt} (hp : padd (pmul (beN lv) hHP) (pmul (beN lr) gP) = p) (vv vr : Value) (w : World) (h1 : BPart w vv lv) (h2 : BPart w vr lr) :
    Calls Try.prog 27 #[vv, vr] w fun e w' => ∃ a c, e = .returned (.tuple #[.slice a 33 c, .int .i64 0]) ∧ PtB w' a c p ∧ Fr Nob w w' := by
  subst hp
  refine (Commit_tt vv vr lv lr w h1 h2 hv hr).mono ?_
  rintro e w' ⟨v, rfl, ho, hf⟩
  have e1 : (sumT [(beN lv, hTT), (beN lr, baseT)]).pt = padd (pmul (beN lv) hHP) (pmul (beN lr) gP) := by
    rw [sumT_pt _ (by
      intro t ht
      simp only [List.mem_cons, List.not_mem_nil, or_false] at ht
      rcases ht with rfl | rfl
      · exact Nat.lt_trans (numB_lt2 hv) q16
      · exact Nat.lt_trans (numB_lt2 hr) q16)]
    show padd (pmul (beN lv) hTT.pt) (padd (pmul (beN lr) baseT.pt) .O) = _
    rw [padd_zero, baseT_pt]
    unfold hHP
    rfl
  rw [e1] at ho
  obtain ⟨a, c, rfl, h⟩ := PtB.ofU ho
  exact ⟨a, c, rfl, h, hf⟩
theorem HashV_p (w : World) : Calls Try.prog 29 #[.string ⟨#[118, 97, 108, 117, 101]⟩, .slice none 0 0] w fun e w' => ∃ a c, e = .returned (.tuple #[.slice a 33 c, .int .i64 0]) ∧ PtB w' a c hHP ∧ Fr Nob w w' := by
  refine (HashTo_u ⟨#[118, 97, 108, 117, 101]⟩ (by decide) (.slice none 0 0) [] w ⟨none, 0, 0, rfl, Nat.le_refl _, Nat.zero_le _, RdB.nil _ _, fun x h => by cases h⟩).mono ?_
  rintro e w' ⟨v, rfl, ho, hf⟩
  rw [hHP_is] at ho
  obtain ⟨a, c, rfl, h⟩ := PtB.of ho
  exact ⟨a, c, rfl, h, hf⟩
theorem numB_le {l : List UInt8} {a b : List UInt8} (h : l.length = 32) (hn : beN l = beN (scB a) + beN (scB b)) : numB mQ l = true := by
  unfold numB
  have h1 := scB_lt a
  have h2 := scB_lt b
  have h3 : 256 ^ 31 + 256 ^ 31 < mQ.M := by decide
  rw [h, decide_eq_true rfl, decide_eq_true (by omega)]
  rfl
theorem Sum2_p {l1 l2 : List UInt8} {p q r : Pt} (h1 : numB mQ l1 = true) (h2 : numB mQ l2 = true) (hp : onC p) (hq : onC q) (hr : padd (pmul (beN l1) p) (pmul (beN l2) q) = r) (g1 c1 g2 c2 : Nat) (v1 v2 u1 u2 : Value) (w : World)
    (hg1 : Has w g1 [v1, v2] 34) (hg2 : Has w g2 [u1, u2] 34) (k1 : BPart w v1 l1) (k2 : BPart w v2 l2) (k3 : BPart w u1 (wrPt p)) (k4 : BPart w u2 (wrPt q)) :
    Calls Try.prog 25 #[.slice (some ⟨g1, 0, none⟩) 2 c1, .slice (some ⟨g2, 0, none⟩) 2 c2] w fun e w' => ∃ a c, e = .returned (.tuple #[.slice a 33 c, .int .i64 0]) ∧ PtB w' a c r ∧ Fr Nob w w' := by
  subst hr
  refine (Sum_all (some ⟨g1, 0, none⟩) c1 [v1, v2] [l1, l2] (some ⟨g2, 0, none⟩) c2 [u1, u2] [wrPt p, wrPt q] w (Rd.whole hg1) (BParts.two k1 k2) (Rd.whole hg2) (BParts.two k3 k4)).mono ?_
  rintro e w' ⟨v, rfl, ho, hf⟩
  have hn : numsB mQ [l1, l2] = true := by unfold numsB; simp only [List.all_cons, List.all_nil, h1, h2, Bool.and_self]
  have hb : rdsB [wrPt p, wrPt q] = true := by unfold rdsB; simp only [List.all_cons, List.all_nil, (rd_wr hp).1, (rd_wr hq).1, Bool.and_self]
  have e1 : [l1, l2].length = [wrPt p, wrPt q].length := rfl
  have e2 : [l1, l2].length ≤ 512 := by simp
  have hE : sumE [l1, l2] [wrPt p, wrPt q] = 0 := by unfold sumE; rw [if_pos e1, if_pos e2, hn, hb]; rfl
  have hS : sumS [l1, l2] [wrPt p, wrPt q] = wrPt (padd (pmul (beN l1) p) (pmul (beN l2) q)) := by
    unfold sumS
    rw [if_pos e1, if_pos e2, hn, hb]
    show wrPt (psum [(beN l1, rdPt (wrPt p)), (beN l2, rdPt (wrPt q))]) = _
    rw [(rd_wr hp).2, (rd_wr hq).2]
    show wrPt (padd (pmul (beN l1) p) (padd (pmul (beN l2) q) .O)) = _
    rw [padd_zero]
  rw [hS] at ho
  obtain ⟨a, c, rfl, h⟩ := PtB.of ho
  exact ⟨a, c, by rw [hE]; rfl, h, hf⟩
attribute [local irreducible] limbs lw mix cw cSub cAdd cMul beN laid be32 montT mstep elN mdL numB rtV rtOk kN kc kinv wrPt rdOk rdPt numsB rdsB sumE sumS pmul hHP
set_option maxHeartbeats 16000000 in
set_option maxRecDepth 1000000 in
theorem law_GroupHomes_k (v r x s : ByteArray) (w : World) (C D T : Pt) (oc : onC C) (od : onC D) (e1 : padd (pmul (beN (scB v.data.toList)) hHP) (pmul (beN (scB r.data.toList)) gP) = C) (e2 : padd (pmul (beN (scB x.data.toList)) hHP) (pmul (beN (scB s.data.toList)) gP) = D)
    (e3 : padd (pmul (beN (scB v.data.toList) + beN (scB x.data.toList)) hHP) (pmul (beN (scB r.data.toList) + beN (scB s.data.toList)) gP) = T) (e4 : padd C D = T) :
    Calls Try.prog 6 #[.string v, .string r, .string x, .string s] w fun e w' => e = .returned (.bool true) ∧ Fr Nob w w' := by
  have OC := Lib.hid oc
  have OD := Lib.hid od
  have E1 := Lib.hid e1
  have E2 := Lib.hid e2
  have E3 := Lib.hid e3
  have E4 := Lib.hid e4
  have FF := Lib.hid (Fr.refl Nob w)
  clear oc od e1 e2 e3 e4
  go_enter Try.func6, Try.ntmps6
  go_wp2_with fail
  refine (LScalar_c v _).mono ?_
  rintro e' w1 ⟨g1, rfl, hle, hh, hf⟩
  replace FF := Lib.hid (FF.out.then hf)
  clear hle
  have hb : BPart w1 (.slice (some ⟨g1, 0, none⟩) 32 32) (scB v.data.toList) := ⟨_, 32, _, rfl, Nat.le_refl _, by have h := Rd.whole hh; rw [length_bs, scB_len] at h; exact h⟩
  clear hh
  have S1 := Lib.hid hb
  clear hf hb
  go_wp2_with fail
  refine (LScalar_c r _).mono ?_
  rintro e' w2 ⟨g2, rfl, hle, hh, hf⟩
  replace S1 := Lib.hid (S1.out.still hf)
  replace FF := Lib.hid (FF.out.then hf)
  clear hle
  have hb : BPart w2 (.slice (some ⟨g2, 0, none⟩) 32 32) (scB r.data.toList) := ⟨_, 32, _, rfl, Nat.le_refl _, by have h := Rd.whole hh; rw [length_bs, scB_len] at h; exact h⟩
  clear hh
  have S2 := Lib.hid hb
  clear hf hb
  go_wp2_with fail
  refine (Commit_p (numB_sc _) (numB_sc _) E1.out _ _ _ S1.out S2.out).mono ?_
  rintro e' w3 ⟨ac, cc, rfl, hc, hf⟩
  replace S1 := Lib.hid (S1.out.still hf)
  replace S2 := Lib.hid (S2.out.still hf)
  replace FF := Lib.hid (FF.out.then hf)
  have Bc := Lib.hid hc
  clear hf hc
  clear S1 S2
  go_wp2_with fail
  refine (LScalar_c x _).mono ?_
  rintro e' w4 ⟨g3, rfl, hle, hh, hf⟩
  replace Bc := Lib.hid (Bc.out.still hf)
  replace FF := Lib.hid (FF.out.then hf)
  clear hle
  have hb : BPart w4 (.slice (some ⟨g3, 0, none⟩) 32 32) (scB x.data.toList) := ⟨_, 32, _, rfl, Nat.le_refl _, by have h := Rd.whole hh; rw [length_bs, scB_len] at h; exact h⟩
  clear hh
  have S3 := Lib.hid hb
  clear hf hb
  go_wp2_with fail
  refine (LScalar_c s _).mono ?_
  rintro e' w5 ⟨g4, rfl, hle, hh, hf⟩
  replace Bc := Lib.hid (Bc.out.still hf)
  replace S3 := Lib.hid (S3.out.still hf)
  replace FF := Lib.hid (FF.out.then hf)
  clear hle
  have hb : BPart w5 (.slice (some ⟨g4, 0, none⟩) 32 32) (scB s.data.toList) := ⟨_, 32, _, rfl, Nat.le_refl _, by have h := Rd.whole hh; rw [length_bs, scB_len] at h; exact h⟩
  clear hh
  have S4 := Lib.hid hb
  clear hf hb
  go_wp2_with fail
  refine (Commit_p (numB_sc _) (numB_sc _) E2.out _ _ _ S3.out S4.out).mono ?_
  rintro e' w6 ⟨ad, cd, rfl, hd, hf⟩
  replace Bc := Lib.hid (Bc.out.still hf)
  replace S3 := Lib.hid (S3.out.still hf)
  replace S4 := Lib.hid (S4.out.still hf)
  replace FF := Lib.hid (FF.out.then hf)
  have Bd := Lib.hid hd
  clear hf hd
  clear S3 S4
  go_wp2_with fail
  refine (both_c v x _).mono ?_
  rintro e' w7 ⟨g5, z1, rfl, hl, hv, hb, hf⟩
  replace Bc := Lib.hid (Bc.out.still hf)
  replace Bd := Lib.hid (Bd.out.still hf)
  replace FF := Lib.hid (FF.out.then hf)
  have L1 := Lib.hid (numB_le hl hv)
  have V1 := Lib.hid hv
  clear hl hv
  have S5 := Lib.hid hb
  clear hf hb
  go_wp2_with fail
  refine (both_c r s _).mono ?_
  rintro e' w8 ⟨g6, z2, rfl, hl, hv, hb, hf⟩
  replace Bc := Lib.hid (Bc.out.still hf)
  replace Bd := Lib.hid (Bd.out.still hf)
  replace S5 := Lib.hid (S5.out.still hf)
  replace FF := Lib.hid (FF.out.then hf)
  have L2 := Lib.hid (numB_le hl hv)
  have V2 := Lib.hid hv
  clear hl hv
  have S6 := Lib.hid hb
  clear hf hb
  go_wp2_with fail
  refine (Commit_p L1.out L2.out (show padd (pmul (beN z1) hHP) (pmul (beN z2) gP) = T from by rw [V1.out, V2.out]; exact E3.out) _ _ _ S5.out S6.out).mono ?_
  rintro e' w9 ⟨at_, ct, rfl, ht, hf⟩
  replace Bc := Lib.hid (Bc.out.still hf)
  replace Bd := Lib.hid (Bd.out.still hf)
  replace S5 := Lib.hid (S5.out.still hf)
  replace S6 := Lib.hid (S6.out.still hf)
  replace FF := Lib.hid (FF.out.then hf)
  have Bt := Lib.hid ht
  clear hf ht
  clear S5 S6
  go_wp2_with fail
  refine (Plus_p OC.out OD.out E4.out _ _ _ _ _ Bc.out Bd.out).mono ?_
  rintro e' w10 ⟨au, cu, rfl, hu, hf⟩
  replace Bc := Lib.hid (Bc.out.still hf)
  replace Bd := Lib.hid (Bd.out.still hf)
  replace Bt := Lib.hid (Bt.out.still hf)
  replace FF := Lib.hid (FF.out.then hf)
  have Bu := Lib.hid hu
  clear hf hu
  clear Bd
  go_wp2_with fail
  refine (HashV_p _).mono ?_
  rintro e' w11 ⟨ah, ch, rfl, hh, hf⟩
  replace Bc := Lib.hid (Bc.out.still hf)
  replace Bt := Lib.hid (Bt.out.still hf)
  replace Bu := Lib.hid (Bu.out.still hf)
  replace FF := Lib.hid (FF.out.then hf)
  have Bh := Lib.hid hh
  clear hf hh
  go_wp2_with fail
  refine (LScalar_c v _).mono ?_
  rintro e' w12 ⟨g7, rfl, hle, hh, hf⟩
  replace Bc := Lib.hid (Bc.out.still hf)
  replace Bt := Lib.hid (Bt.out.still hf)
  replace Bu := Lib.hid (Bu.out.still hf)
  replace Bh := Lib.hid (Bh.out.still hf)
  replace FF := Lib.hid (FF.out.then hf)
  clear hle
  have hb : BPart w12 (.slice (some ⟨g7, 0, none⟩) 32 32) (scB v.data.toList) := ⟨_, 32, _, rfl, Nat.le_refl _, by have h := Rd.whole hh; rw [length_bs, scB_len] at h; exact h⟩
  clear hh
  have S7 := Lib.hid hb
  clear hf hb
  go_wp2_with fail
  refine (LScalar_c r _).mono ?_
  rintro e' w13 ⟨g8, rfl, hle, hh, hf⟩
  replace Bc := Lib.hid (Bc.out.still hf)
  replace Bt := Lib.hid (Bt.out.still hf)
  replace Bu := Lib.hid (Bu.out.still hf)
  replace Bh := Lib.hid (Bh.out.still hf)
  replace S7 := Lib.hid (S7.out.still hf)
  replace FF := Lib.hid (FF.out.then hf)
  clear hle
  have hb : BPart w13 (.slice (some ⟨g8, 0, none⟩) 32 32) (scB r.data.toList) := ⟨_, 32, _, rfl, Nat.le_refl _, by have h := Rd.whole hh; rw [length_bs, scB_len] at h; exact h⟩
  clear hh
  have S8 := Lib.hid hb
  clear hf hb
  go_wp2_with (with_reducible refine wl_stop (o := ⟨some 80, _, _, _, _, _⟩) ?_)
  refine wl_slit (vs := [.slice (some ⟨g7, 0, none⟩) 32 32, .slice (some ⟨g8, 0, none⟩) 32 32]) (hgd := rfl) (ho := rfl) (hu := Try.underlying50) (hi0 := info_bsh) (hp := by rfl) (hv := fun u hu => by simp only [List.mem_cons, List.not_mem_nil, or_false] at hu; rcases hu with rfl | rfl <;> rfl) (hk := by rfl) (hz := by rfl) (h := ?_)
  intro w14 hm hf hz
  clear hz
  replace Bc := Lib.hid (Bc.out.still hf)
  replace Bt := Lib.hid (Bt.out.still hf)
  replace Bu := Lib.hid (Bu.out.still hf)
  replace Bh := Lib.hid (Bh.out.still hf)
  replace S7 := Lib.hid (S7.out.still hf)
  replace S8 := Lib.hid (S8.out.still hf)
  replace FF := Lib.hid (FF.out.then hf)
  have M1 := Lib.hid hm
  clear hm hf
  generalize w13.heap.size = g9 at *
  go_wp2_with fail
  refine (Base_p _).mono ?_
  rintro e' w15 ⟨ag, cg, rfl, hg, hf⟩
  replace Bc := Lib.hid (Bc.out.still hf)
  replace Bt := Lib.hid (Bt.out.still hf)
  replace Bu := Lib.hid (Bu.out.still hf)
  replace Bh := Lib.hid (Bh.out.still hf)
  replace S7 := Lib.hid (S7.out.still hf)
  replace S8 := Lib.hid (S8.out.still hf)
  replace FF := Lib.hid (FF.out.then hf)
  replace M1 := Lib.hid (M1.out.keep hf id)
  have Bg := Lib.hid hg
  clear hf hg
  go_wp2_with (with_reducible refine wl_stop (o := ⟨some 83, _, _, _, _, _⟩) ?_)
  refine wl_slit (vs := [.slice ah 33 ch, .slice ag 33 cg]) (hgd := rfl) (ho := rfl) (hu := Try.underlying50) (hi0 := info_bsh) (hp := by rfl) (hv := fun u hu => by simp only [List.mem_cons, List.not_mem_nil, or_false] at hu; rcases hu with rfl | rfl <;> rfl) (hk := by rfl) (hz := by rfl) (h := ?_)
  intro w16 hm hf hz
  clear hz
  replace Bc := Lib.hid (Bc.out.still hf)
  replace Bt := Lib.hid (Bt.out.still hf)
  replace Bu := Lib.hid (Bu.out.still hf)
  replace Bh := Lib.hid (Bh.out.still hf)
  replace S7 := Lib.hid (S7.out.still hf)
  replace S8 := Lib.hid (S8.out.still hf)
  replace Bg := Lib.hid (Bg.out.still hf)
  replace FF := Lib.hid (FF.out.then hf)
  replace M1 := Lib.hid (M1.out.keep hf id)
  have M2 := Lib.hid hm
  clear hm hf
  generalize w15.heap.size = g10 at *
  go_wp2_with fail
  refine (Sum2_p (numB_sc _) (numB_sc _) hHP_on gP_on E1.out _ _ _ _ _ _ _ _ _ M1.out M2.out S7.out S8.out Bh.out Bg.out).mono ?_
  rintro e' w17 ⟨ax, cx, rfl, hx, hf⟩
  replace Bc := Lib.hid (Bc.out.still hf)
  replace Bt := Lib.hid (Bt.out.still hf)
  replace Bu := Lib.hid (Bu.out.still hf)
  replace Bh := Lib.hid (Bh.out.still hf)
  replace S7 := Lib.hid (S7.out.still hf)
  replace S8 := Lib.hid (S8.out.still hf)
  replace Bg := Lib.hid (Bg.out.still hf)
  replace FF := Lib.hid (FF.out.then hf)
  have Bx := Lib.hid hx
  clear hf hx
  have st := run_string (P := Try.prog) (PtB.rd Bt.out) ct Try.underlying34 Try.underlying5 Try.underlying9
  have su := run_string (P := Try.prog) (PtB.rd Bu.out) cu Try.underlying34 Try.underlying5 Try.underlying9
  have sx := run_string (P := Try.prog) (PtB.rd Bx.out) cx Try.underlying34 Try.underlying5 Try.underlying9
  have sc := run_string (P := Try.prog) (PtB.rd Bc.out) cc Try.underlying34 Try.underlying5 Try.underlying9
  have hfr := FF.out
  clear M1 M2 S7 S8 Bh Bg Bx Bt Bu Bc
  go_wp2_with fail
  go_ret
  exact ⟨rfl, hfr⟩
theorem law_GroupHomes (v r x s : ByteArray) (w : World) : Calls Try.prog 6 #[.string v, .string r, .string x, .string s] w fun e w' => e = .returned (.bool true) ∧ Fr Nob w w' := by
  have hv := pmul_on hHP_on (beN (scB v.data.toList))
  have hx := pmul_on hHP_on (beN (scB x.data.toList))
  have hr := pmul_on gP_on (beN (scB r.data.toList))
  have hs := pmul_on gP_on (beN (scB s.data.toList))
  exact law_GroupHomes_k v r x s w _ _ _ (padd_on hv hr) (padd_on hx hs) rfl rfl rfl (by rw [pmul_add hHP_on, pmul_add gP_on]; exact padd_swap hv hr hx hs)
end Go.Proofs.Ytdbgddngapminaa
