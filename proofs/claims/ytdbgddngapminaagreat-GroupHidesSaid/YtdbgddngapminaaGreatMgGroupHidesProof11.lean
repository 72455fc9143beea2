/- Walks inside a round: what is shown of operations as everywhere serves there; group: candidates, the iterator; group: candidates, hashTo; group: HashTo, Commit; The reference's HashTo; The law GroupHides. -/
import Derived.Test.YtdbgddngapminaaGreatMgGroupHidesProof2
import Derived.RangeFuncNested
import Derived.RangeFuncBound
import Derived.RangeFuncCalls
import Derived.RangeFuncLeaves
import Derived.Test.YtdbgddngapminaaGreatMgGroupHidesProof8
import Derived.Deep.DeepCutAuto
import Derived.Test.YtdbgddngapminaaGreatMgGroupHidesProof7
import Derived.Test.YtdbgddngapminaaGreatMgGroupHidesProof9
import Derived.Test.YtdbgddngapminaaGreatMgGroupHidesProof10
import Derived.IntWalk
namespace Go.Mv
open Go.RowKit
variable {P : Program} {ops : Array Oper} {Q : Exit → Act → World → Prop} {a : Act} {w : World} {rest : List Oper} {o : Oper} {n l : Nat}
/-- no operation is a defer statement -/
def noDefer (rest : List Oper) : Bool := rest.all fun o => match o.op with | .defer _ => false | _ => true
theorem noDefer_op {o : Oper} (h : (match o.op with | .defer _ => false | _ => true) = true) : ∀ c, o.op ≠ .defer c := by
  intro c e
  rw [e] at h
  cases h
theorem rowsIn_of {row : String} {args : Array Value} {R : Value → World → Prop} (h : Rows P row args w R) : RowsIn (Fence.wide.inRound l) n P row args w R :=
  fun c cs _ => let ⟨v, w', r, s⟩ := h c cs; ⟨v, w', r, stepsIn_wide.2 s⟩
theorem wpIn_of_wp {K : Act → World → Prop} (hd : ∀ c, o.op ≠ .defer c) (h : o.wp P a w K Q) : o.wpIn (Fence.wide.inRound l) n P a w K Q := by
  refine ⟨fun _ _ => trivial, ?_⟩
  have e : o.semAt (some l) a.eval = execOp a.eval o := Oper.semAt_eq _ _ _ hd
  show o.uponIn (Fence.wide.inRound l) n P a K Q ((o.semAt (some l) a.eval).run P w)
  rw [e]
  unfold Oper.wp at h
  generalize (execOp a.eval o).run P w = r at *
  cases r with
  | ok v w' =>
    cases v with
    | value v => exact h
    | skip => exact h
    | defer d => exact h
    | enter f args => exact ⟨fun h => by simp [Fence.wide] at h, CallsIn.inRound l (callsIn_wide.2 h)⟩
    | row row args => exact ⟨fun h => by simp [Fence.wide] at h, rowsIn_of h⟩
    | _ => exact h.elim
  | halt s w' =>
    cases s <;> first | exact h | exact h.elim
/-- a row of operations, inside a round -/
theorem listIn_of (hQ : ¬ LetsOut Q) : ∀ (rest : List Oper) (a : Act) (w : World), noDefer rest = true → wpList P ops Q rest a w → wpListIn (Fence.wide.inRound l) n P ops Q rest a w
  | [], _, _, _, h => h
  | o :: rest, a, w, hd, h => by
    unfold noDefer at hd
    rw [List.all_cons, Bool.and_eq_true] at hd
    unfold wpList at h
    unfold wpListIn
    by_cases hw : Region.wanted o (yielded ops a.tmps) = true
    · rw [if_pos hw] at h ⊢
      rcases h with h | h
      · exact wpIn_of_wp (noDefer_op hd.1) (Oper.wp_mono (fun a w k => listIn_of hQ rest a w hd.2 k) h)
      · exact absurd h.2 hQ
    · rw [if_neg hw] at h ⊢
      exact ⟨fun _ _ => trivial, listIn_of hQ rest _ w hd.2 h⟩
theorem regionIn_of {id : Nat} {rest : List Oper} (hQ : ¬ LetsOut Q) (hd : noDefer rest = true) (h : wpList P rest.toArray Q rest a w) : (Code.region id rest.toArray false).wpIn (Fence.wide.inRound l) n P Q a w :=
  wpIn_region_lit (listIn_of hQ rest a w hd h)
/- the wide fence, one operation at a time -/
theorem wlIn_v {v : Value} (hg : Region.wanted o (yielded ops a.tmps) = true) (_ : ∀ c, o.op ≠ .defer c) (hv : (execOp a.eval o).run P w = .ok (.value v) w) (h : wpListIn Fence.wide n P ops Q rest (a.put o.dst v) w) : wpListIn Fence.wide n P ops Q (o :: rest) a w := by
  unfold wpListIn
  rw [if_pos hg]
  refine ⟨fun _ _ => trivial, ?_⟩
  show o.uponIn Fence.wide n P a _ Q ((o.semAt none a.eval).run P w)
  rw [show o.semAt none a.eval = execOp a.eval o from Oper.semAt_none _ _, hv]
  exact h
/-- yield is called -/
theorem wlIn_yield {f : FuncId} {tmps : Array Value} {assign body : Code} {R : Ending → World → Prop} (hg : Region.wanted o (yielded ops a.tmps) = true) (hv : (execOp a.eval o).run P w = .ok (.round l f tmps assign body) w)
    (hR : RoundIn Fence.wide (n - 1) P l f tmps assign body w R) (h : ∀ e w', R e w' → ∃ b, e = .returned b ∧ wpListIn Fence.wide n P ops Q rest (a.put o.dst b) w') : wpListIn Fence.wide n P ops Q (o :: rest) a w := by
  unfold wpListIn
  rw [if_pos hg]
  refine ⟨fun _ _ => trivial, ?_⟩
  show o.uponIn Fence.wide n P a _ Q ((o.semAt none a.eval).run P w)
  rw [show o.semAt none a.eval = execOp a.eval o from Oper.semAt_none _ _, hv]
  refine ⟨fun h => by simp [Fence.wide] at h, hR.mono fun e w' k => ?_⟩
  obtain ⟨b, rfl, h2⟩ := h e w' k
  exact h2
/-- a region, by the wide fence -/
theorem wp_region_wide (n : Nat) {id : Nat} {rest : List Oper} (h : wpListIn Fence.wide n P rest.toArray Q rest a w) : (Code.region id rest.toArray false).wp P Q a w := wpIn_wide.1 (wpIn_region_lit h)
end Go.Mv

/- group: candidates, the iterator. -/
namespace Go.Mv
open Go.RowKit
theorem Fr.grown {a b : World} (h : Fr Nob a b) : a.grownBy b none := ⟨h.os, h.tape, h.output, h.size, fun k hk _ => h.block k hk id⟩
end Go.Mv
namespace Go.Proofs.YtdbgddngapminaaGreat
open Go.RowKit Go.Mv Mvp Mvq
theorem info_bsh : (Tryz.prog.info? 22).map (fun i => (i.zero, i.size, i.bytes)) = some (some (.slice none 0 0), 1, 24) := by kernel_rfl
theorem hN_is (lab b : List UInt8) (i : Nat) : hN lab b i = beN (tagL (kPoint ++ lab) [b, [UInt8.ofNat i]]) := by unfold hN hB; rfl
theorem tag_len (s : List UInt8) (ls : List (List UInt8)) (w : World) (base : Nat) (v : Value) (h : Go.Mv.Own w base 5 1 v 32 (bs (tagL s ls))) : ∃ a c, v = .slice a 32 c ∧ RdB w a 32 (tagL s ls) := by
  obtain ⟨a, c, rfl, -, hr, -⟩ := h.form
  rw [Nat.mul_one] at hr
  exact ⟨a, c, rfl, hr⟩
theorem h_lt (lab b : List UInt8) (i : Nat) (hl : (tagL (kPoint ++ lab) [b, [UInt8.ofNat i]]).length = 32) : hN lab b i < B64 ^ 4 := by
  rw [hN_is]
  exact beN_le32 _ (by omega)
theorem affT_LL (n y : Nat) (h : onC (.A (kc n) (kc y))) : (affT n y h).L = cw 4 (elN mP n) ++ (cw 4 (elN mP y) ++ cw 4 (elN mP 1)) := rfl
attribute [local irreducible] limbs lw mix cw cSub cAdd cMul foldC valFrom beN laid be32 powm montT mstep elN mdL numB rtN rtV rtOk gXn gYn PT.L addT dblT mulT tbL tmR tmL dbN innT outT sumT dig rdOk rdPt ptL wrPt permS permP toB turnsK squeeze permN permB spongeB feed frameL framesL tagL hB hN candT candL atY crvN affT
theorem exec_addS2 {o : Oper} {a : Act} {p q : Operand} {T U : TypeId} {s t : ByteArray} {r : List UInt8} (ho : o.op = .binOp .add T p q U) (hp : a.eval p = .string s) (hq : a.eval q = .string t) (_hT : Tryz.prog.underlying T = some .string) (h : s.size + t.size ≤ 10000000) (hr : s ++ t = mkS r) (w : World) :
    (execOp a.eval o).run Tryz.prog w = .ok (.value (.string (mkS r))) w := by
  have h3 : (binOp .add T (.string s) (.string t)).run Tryz.prog w = .ok (.string (s ++ t)) w := by
    have h4 : s.size + t.size ≤ 9223372036854775807 := by omega
    go_simp
  have h2 := exec_binop (P := Tryz.prog) ho hp hq w (by go_simp) h3
  rwa [hr] at h2
theorem part_cells {w : World} {v : Value} {l : List UInt8} (h : PartIs w v l) : v.cells = #[v] := by
  obtain ⟨a, n, c, rfl, -⟩ := h
  rfl
theorem exec_yield {l : Nat} {vs : List Value} {nx : Next} {o : Oper} {a : Act} {w : World} {x : Operand} {xs : Array Operand} {ats : Array TypeId} (ho : o.op = .call { callee := .value x, args := xs, argTypes := ats }) (hx : a.eval x = .func (.yield l) #[] #[]) (ha : xs.toList.map a.eval = vs)
    (hy : (Instr.yield l vs.toArray).run Tryz.prog w = .ok nx w) : (execOp a.eval o).run Tryz.prog w = .ok nx w := by
  have ha2 : xs.map a.eval = vs.toArray := by rw [← ha]; simp [← Array.toList_map]
  unfold execOp
  simp only [ho, resolve, hx, ha2]
  simp [invoke, hy, go_sem]

set_option maxHeartbeats 8000000 in
set_option maxRecDepth 1000000 in
theorem cand_stops (lab : ByteArray) (hsz : lab.size ≤ 100000) (g2 g3 : Nat) (va : Value) (b : List UInt8) (w : World) (h2 : Has w g2 [.string lab] 9) (h3 : Has w g3 [va] 22) (hb : PartIs w va b) :
    SeqStopsK Fence.wide 2 Tryz.prog 104 #[.pointer (some ⟨g2, 0, none⟩), .pointer (some ⟨g3, 0, none⟩)] (fun x : PT => #[.agg x.L.toArray]) (Below w.heap.size) (fun xs => xs = candL lab.data.toList b 256) (fun pre => ∃ k x, k < 256 ∧ candT lab.data.toList b k = some x ∧ pre = candL lab.data.toList b k ++ [x]) 256 w := by
  intro l J Jx W hW hJ hJx hY h0
  refine callsIn_wide.2 ?_
  show Calls Tryz.prog 104 #[.func (.yield l) #[] #[], .pointer (some ⟨g2, 0, none⟩), .pointer (some ⟨g3, 0, none⟩)] W _
  have HY := Lib.hid hY
  have HJ := Lib.hid hJ
  have HJX := Lib.hid hJx
  have H0 := Lib.hid h0
  have HW := Lib.hid (Fr.ofBelow hW)
  have H2 := Lib.hid h2
  have H3 := Lib.hid h3
  have HB := Lib.hid hb
  have HSZ := Lib.hid hsz
  clear hY hJ hJx h0 hW h2 h3 hb hsz
  go_enter Tryz.func104, Tryz.ntmps104
  go_wp2
  go_loopw [8] (fun v wr => ∃ k : Nat, k ≤ 256 ∧ v = .int .i64 (k : Int) ∧ J (candL lab.data.toList b k) wr ∧ Fr Nob w wr ∧ W.heap.size ≤ wr.heap.size) (fun v _ => 256 - (intOf v).toNat)
  case atStart => exact ⟨0, Nat.zero_le _, rfl, by rw [candL_zero]; exact H0.out, HW.out, Nat.le_refl _⟩
  case round =>
    obtain ⟨k, hk, rfl, hJk, hfk, hWk⟩ := hrel
    have HJK := Lib.hid hJk
    have HFK := Lib.hid hfk
    have HWK := Lib.hid hWk
    clear hJk hfk hWk
    by_cases hlt : k < 256
    · have hltI : (k : Int) < 256 := by omega
      have hk0 : (0 : Int) ≤ (k : Int) := by omega
      have hk8 : (k : Int) % 256 = (k : Int) := by omega
      have HLT := Lib.hid hlt
      clear hlt hk
      have hc2 := (H2.out.keep HFK.out id).cell (show [Value.string lab][0]? = _ from rfl)
      have hc3 := (H3.out.keep HFK.out id).cell (show [va][0]? = _ from rfl)
      go_wp2_with (with_reducible refine wl_stop (o := ⟨some 12, _, _, _, _, _⟩) ?_)
      refine wl_exec rfl (exec_addS2 rfl rfl rfl Tryz.underlying9 (by have h : (⟨#[112, 111, 105, 110, 116, 32]⟩ : ByteArray).size = 6 := rfl; rw [h]; have := HSZ.out; omega) (str_app lab) _) ?_
      go_wp2_with (with_reducible refine wl_stop (o := ⟨some 16, _, _, _, _, _⟩) ?_)
      refine wl_slit rfl rfl Tryz.underlying22 info_u8 [.int .u8 (k : Int)] rfl (by intro u hu; simp only [List.mem_singleton] at hu; subst hu; rfl) rfl rfl ?_
      intro wa hga hfa hza
      clear hza hc2 hc3
      have hgb : Has wa wr.heap.size (bs [UInt8.ofNat k]) 5 := by
        have e : [Value.int .u8 (k : Int)] = bs [UInt8.ofNat k] := by
          show _ = [Value.int .u8 ((UInt8.ofNat k).toNat : Int)]
          rw [UInt8.toNat_ofNat', Nat.mod_eq_of_lt HLT.out]
        rw [e] at hga
        exact hga
      have hpb : PartIs wa (.slice (some ⟨wr.heap.size, 0, none⟩) 1 1) [UInt8.ofNat k] := ⟨_, 1, 1, rfl, Nat.le_refl _, by omega, Rd.whole hgb, fun x hx => by simp only [Option.some.injEq] at hx; subst hx; exact hgb.lt⟩
      have HPB := Lib.hid hpb
      have HFA := Lib.hid hfa
      have HPA := Lib.hid (HB.out.still (HFK.out.then hfa))
      have HVC := Lib.hid (part_cells HB.out)
      clear hga hfa hgb hpb
      generalize hg16 : wr.heap.size = g16 at *
      have HG16 := Lib.hid hg16
      clear hg16
      go_wp2_with (with_reducible refine wl_stop (o := ⟨some 17, _, _, _, _, _⟩) ?_)
      refine wl_slit (vs := [va, .slice (some ⟨g16, 0, none⟩) 1 1]) (hgd := rfl) (ho := rfl) (hu := Tryz.underlying138) (hi0 := info_bsh) (hp := by rfl) (hv := fun u hu => by
        simp only [List.mem_cons, List.not_mem_nil, or_false] at hu
        rcases hu with rfl | rfl
        · exact HVC.out
        · rfl) (hk := by rfl) (hz := by rfl) (h := ?_)
      intro wb hgb hfb hzb
      clear hzb
      have hps : Parts wb [va, .slice (some ⟨g16, 0, none⟩) 1 1] [b, [UInt8.ofNat k]] := ⟨HPA.out.still hfb, HPB.out.still hfb, trivial⟩
      have HPS := Lib.hid (hps.at hgb)
      have HFB := Lib.hid (HFA.out.then hfb)
      clear hgb hfb hps HPA HPB HFA
      generalize wa.heap.size = g17 at *
      go_wp2_with fail
      refine (Tag_any (mkS (kPoint ++ lab.data.toList)) _ _ [b, [UInt8.ofNat k]] _ (by rw [mkS_size]; have := HSZ.out; simp [kPoint]; omega) (by simp) HPS.out).mono ?_
      rintro e wc ⟨vt, rfl, ho, hf⟩
      rw [mkS_toList] at ho
      obtain ⟨at_, ct, hvt, hrt⟩ := tag_len _ _ _ _ _ ho
      subst hvt
      have HRT := Lib.hid hrt
      have HFC := Lib.hid (HFB.out.then hf)
      clear ho hf hrt HFB HPS
      have hnl := h_lt lab.data.toList b k (by have := HRT.out.len; exact this)
      have hni := hN_is lab.data.toList b k
      generalize hn : hN lab.data.toList b k = n at *
      have HNL := Lib.hid hnl
      have HNN := Lib.hid hn
      have HNI := Lib.hid hni
      clear hnl hn hni
      go_wp2_with fail
      refine (FromBytes_any at_ 32 ct _ _ HRT.out (by decide)).mono ?_
      rintro e wd ⟨rfl, hf⟩
      rw [← HNI.out]
      have HFD := Lib.hid (HFC.out.then hf)
      clear hf HFC HRT
      have st0 := St.start Nob wd
      go_wp2_with (with_reducible refine wl_stop (o := ⟨some 5, _, _, _, _, _⟩) ?_)
      refine wl_allocS st0 rfl rfl (z := .agg #[.int .u64 0, .int .u64 0, .int .u64 0, .int .u64 0]) (by kernel_rfl) (cw 4 0) (by rw [cw_zero]; rfl) ?_
      intro g5 w1 st1
      clear st0
      go_wp2_with (with_reducible refine wl_stop (o := ⟨none, _, _, _, _, _⟩) ?_)
      refine wl_storeS st1 0 rfl rfl rfl rfl rfl (by first | (simp only [cw_len]; done) | (simp only [List.length_append, cw_len, PT.len, ptL_len]; done)) (by first | (rw [cw_len]; kernel_rfl) | (rw [PT.len]; kernel_rfl) | (rw [ptL_len]; kernel_rfl) | (simp only [List.length_append, cw_len]; kernel_rfl) | (simp only [List.length_append, cw_len, PT.len, ptL_len]; kernel_rfl)) (cw_one _ _) ?_
      intro w2 st2
      clear st1
      by_cases hd : n < mP.M
      · have HD := Lib.hid (show decide (n < mP.M) = true from decide_eq_true hd)
        have HLM := Lib.hid hd
        clear hd
        go_wp2_with fail
        refine wp_region_noPanic ?_
        refine wp_region_lad st2 9 [.t 0, .c 1, .w 2, .w 3, .c 4, .w 5, .w 6, .c 7, .c 8] (.m 9 .nil) (by kernel_rfl) (by kernel_rfl) (fun _ _ _ _ _ h => h) ?_
        clear st2
        refine lad_arr rfl rfl rfl (fun _ => rfl) (cw 4 n) (fun wx hS => St.rangeL hS 0 rfl 0 _ (by rw [List.drop_zero, List.take_of_length_le (Nat.le_refl _)])) Tryz.underlying64 rfl (by first | (rw [cw_len]; kernel_rfl) | (rw [PT.len]; kernel_rfl) | (rw [ptL_len]; kernel_rfl) | (simp only [List.length_append, cw_len]; kernel_rfl) | (simp only [List.length_append, cw_len, PT.len, ptL_len]; kernel_rfl)) ?_
        try simp only [Act.put, List.setIfInBounds_toArray, List.set_cons_zero, List.set_cons_succ]
        refine lad_callX (X := Nat × Nat) (fun y => .pointer (some ⟨y.1, 0, none⟩)) (fun y w => Has w y.1 (crvL mP y.2 gXn gYn) 62 ∧ Has w y.2 (mdL mP) 112) (fun _ _ _ h k => ⟨h.1.keep k id, h.2.keep k id⟩) rfl rfl rfl Tryz.call24 (fun w hS hR => k256_y _) (fun _ => rfl) fun y1 => ?_
        try simp only [Act.put, List.setIfInBounds_toArray, List.set_cons_zero, List.set_cons_succ]
        refine lad_w (v := ?_) rfl rfl (fun xq wx => ?_) ?_
        rotate_left 1
        · (go_simp; with_reducible rfl)
        try simp only [Act.put, List.setIfInBounds_toArray, List.set_cons_zero, List.set_cons_succ]
        refine lad_w (v := ?_) rfl rfl (fun xq wx => ?_) ?_
        rotate_left 1
        · (go_simp; with_reducible rfl)
        try simp only [Act.put, List.setIfInBounds_toArray, List.set_cons_zero, List.set_cons_succ]
        refine lad_v (v := ?_) rfl rfl (fun xq wx hS hR => ?_) ?_
        rotate_left 1
        · (have hc := (hR.2).1.cell (show (crvL mP y1.2 gXn gYn)[0]? = some (.pointer (some ⟨y1.2, 0, none⟩)) from rfl); clear hS hR; go_simp; with_reducible rfl)
        try simp only [Act.put, List.setIfInBounds_toArray, List.set_cons_zero, List.set_cons_succ]
        refine lad_w (v := ?_) rfl rfl (fun xq wx => ?_) ?_
        rotate_left 1
        · (go_simp; with_reducible rfl)
        try simp only [Act.put, List.setIfInBounds_toArray, List.set_cons_zero, List.set_cons_succ]
        refine lad_w (v := ?_) rfl rfl (fun xq wx => ?_) ?_
        rotate_left 1
        · (go_simp; with_reducible rfl)
        try simp only [Act.put, List.setIfInBounds_toArray, List.set_cons_zero, List.set_cons_succ]
        refine lad_v (v := ?_) rfl rfl (fun xq wx hS hR => ?_) ?_
        rotate_left 1
        · (refine exec_loadH (hR.2).2 (x := .tmp 26) (p := 0) ?_ ?_ (cw 4 mP.M) (md_M mP) Tryz.underlying64 rfl ?_; rfl; rfl; (rw [cw_len]; kernel_rfl))
        try simp only [Act.put, List.setIfInBounds_toArray, List.set_cons_zero, List.set_cons_succ]
        refine lad_call rfl rfl rfl Tryz.call70 (fun w hS hR => MLess_v n mP.M _ HNL.out mP_ok.lt true HD.out) (fun _ => rfl) ?_
        try simp only [Act.put, List.setIfInBounds_toArray, List.set_cons_zero, List.set_cons_succ]
        refine lad_end fun xq w3 st3 hR => ?_
        try dsimp only
        clear hR xq
        refine plan_m rfl rfl ?_
        go_simp
        try simp only [Act.put, List.setIfInBounds_toArray, List.set_cons_zero, List.set_cons_succ]
        refine plan_end ?_
        refine NoPanic.normal ?_
        rcases hr : rtOk mP.M (crvN n) with _ | _
        · have HR := Lib.hid hr
          have HC := Lib.hid (candT_no HNN.out (fun h => by rw [hr] at h; exact absurd h.2 (by decide)))
          clear hr
          go_wp2_with fail
          refine wp_region_noPanic ?_
          refine wp_region_lad st3 13 [.o 11, .t 5, .c 0, .c 1, .w 2, .w 3, .c 4, .c 6, .c 7, .w 8, .w 9, .w 10, .j 11] (.r 12 (.m 13 .nil)) (by kernel_rfl) (by kernel_rfl) (fun _ _ _ _ _ h => h) ?_
          clear st3
          refine lad_o rfl rfl rfl z_gp (cw 12 0) rfl ?_
          try simp only [Act.put, List.setIfInBounds_toArray, List.set_cons_zero, List.set_cons_succ]
          refine lad_arr rfl rfl rfl (fun _ => rfl) (cw 4 n) (fun wx hS => St.rangeL hS 0 rfl 0 _ (by rw [List.drop_zero, List.take_of_length_le (Nat.le_refl _)])) Tryz.underlying64 rfl (by first | (rw [cw_len]; kernel_rfl) | (rw [PT.len]; kernel_rfl) | (rw [ptL_len]; kernel_rfl) | (simp only [List.length_append, cw_len]; kernel_rfl) | (simp only [List.length_append, cw_len, PT.len, ptL_len]; kernel_rfl)) ?_
          try simp only [Act.put, List.setIfInBounds_toArray, List.set_cons_zero, List.set_cons_succ]
          refine lad_callX (X := Nat × Nat) (fun y => .pointer (some ⟨y.1, 0, none⟩)) (fun y w => Has w y.1 (crvL mP y.2 gXn gYn) 62 ∧ Has w y.2 (mdL mP) 112) (fun _ _ _ h k => ⟨h.1.keep k id, h.2.keep k id⟩) rfl rfl rfl Tryz.call24 (fun w hS hR => k256_y _) (fun _ => rfl) fun y2 => ?_
          try simp only [Act.put, List.setIfInBounds_toArray, List.set_cons_zero, List.set_cons_succ]
          refine lad_callX (X := Nat × Nat) (fun y => .pointer (some ⟨y.1, 0, none⟩)) (fun y w => Has w y.1 (crvL mP y.2 gXn gYn) 62 ∧ Has w y.2 (mdL mP) 112) (fun _ _ _ h k => ⟨h.1.keep k id, h.2.keep k id⟩) rfl rfl rfl Tryz.call24 (fun w hS hR => k256_y _) (fun _ => rfl) fun y3 => ?_
          try simp only [Act.put, List.setIfInBounds_toArray, List.set_cons_zero, List.set_cons_succ]
          refine lad_w (v := ?_) rfl rfl (fun xq wx => ?_) ?_
          rotate_left 1
          · (go_simp; with_reducible rfl)
          try simp only [Act.put, List.setIfInBounds_toArray, List.set_cons_zero, List.set_cons_succ]
          refine lad_w (v := ?_) rfl rfl (fun xq wx => ?_) ?_
          rotate_left 1
          · (go_simp; with_reducible rfl)
          try simp only [Act.put, List.setIfInBounds_toArray, List.set_cons_zero, List.set_cons_succ]
          refine lad_v (v := ?_) rfl rfl (fun xq wx hS hR => ?_) ?_
          rotate_left 1
          · (have hc := (hR.2).1.cell (show (crvL mP y3.2 gXn gYn)[0]? = some (.pointer (some ⟨y3.2, 0, none⟩)) from rfl); clear hS hR; go_simp; with_reducible rfl)
          try simp only [Act.put, List.setIfInBounds_toArray, List.set_cons_zero, List.set_cons_succ]
          refine lad_call rfl rfl rfl Tryz.call59 (fun w hS hR => MTo_any mP y3.2 _ mP_ok hR.2.2 n HNL.out) (fun _ => rfl) ?_
          try simp only [Act.put, List.setIfInBounds_toArray, List.set_cons_zero, List.set_cons_succ]
          refine lad_call rfl rfl rfl Tryz.call106 (fun w hS hR => at_u mP y2.1 y2.2 gXn gYn _ mP_ok hR.1.2.1 hR.1.2.2 n false HR.out) (fun _ => rfl) ?_
          try simp only [Act.put, List.setIfInBounds_toArray, List.set_cons_zero, List.set_cons_succ]
          refine lad_w (v := ?_) rfl rfl (fun xq wx => ?_) ?_
          rotate_left 1
          · (go_simp; with_reducible rfl)
          try simp only [Act.put, List.setIfInBounds_toArray, List.set_cons_zero, List.set_cons_succ]
          refine lad_w (v := ?_) rfl rfl (fun xq wx => ?_) ?_
          rotate_left 1
          · (go_simp; with_reducible rfl)
          try simp only [Act.put, List.setIfInBounds_toArray, List.set_cons_zero, List.set_cons_succ]
          refine lad_w (v := ?_) rfl rfl (fun xq wx => ?_) ?_
          rotate_left 1
          · (go_simp; with_reducible rfl)
          try simp only [Act.put, List.setIfInBounds_toArray, List.set_cons_zero, List.set_cons_succ]
          refine lad_j List.mem_cons_self fun g6 => ?_
          simp only [upd, reduceIte]
          try simp only [Nat.reduceEqDiff, reduceIte]
          refine lad_end fun xq w4 st4 hR => ?_
          try dsimp only
          clear hR xq
          refine plan_r rfl rfl ?_
          refine wp_storeS st4 1 rfl rfl rfl rfl (by first | (simp only [cw_len]; done) | (simp only [List.length_append, cw_len, PT.len, ptL_len]; done)) (by first | (rw [cw_len]; kernel_rfl) | (simp only [List.length_append, cw_len]; kernel_rfl)) (pt_one _ _ _) ?_
          intro w5 st5
          repeat (first | simp only [List.cons_append] at st5 | simp only [List.nil_append] at st5 | simp only [List.set_cons_succ] at st5 | simp only [List.set_cons_zero] at st5)
          clear st4
          refine ⟨by first | exact st5 | exact St.less st5 (by simp), ?_⟩
          try simp only [Act.put]
          refine plan_m rfl rfl ?_
          go_simp
          try simp only [Act.put, List.setIfInBounds_toArray, List.set_cons_zero, List.set_cons_succ]
          refine plan_end ?_
          refine NoPanic.normal ?_
          have HFE := Lib.hid (HFD.out.then st5.fr)
          clear st5
          go_wp2_with fail
          go_roundw
          case rel => exact ⟨k + 1, by have := HLT.out; omega, by go_num, by rw [candL_no HC.out]; exact HJ.out _ _ _ none HJK.out HFE.out.grown (fun r e => by cases e), HFK.out.then HFE.out, Nat.le_trans (by have h := HWK.out; rw [← HG16.out] at h; exact h) HFE.out.size⟩
          case measure => have := HLT.out; simp [intOf]; omega
        · have HR := Lib.hid hr
          have hon := h_on hr
          have HC := Lib.hid (show candT lab.data.toList b k = some (affT n (atY mP.M n) hon) from candT_yes HNN.out HLM.out hr)
          clear hr
          go_wp2_with fail
          refine wp_region_noPanic ?_
          refine wp_region_lad st3 13 [.o 11, .t 5, .c 0, .c 1, .w 2, .w 3, .c 4, .c 6, .c 7, .w 8, .w 9, .w 10, .j 11] (.r 12 (.m 13 .nil)) (by kernel_rfl) (by kernel_rfl) (fun _ _ _ _ _ h => h) ?_
          clear st3
          refine lad_o rfl rfl rfl z_gp (cw 12 0) rfl ?_
          try simp only [Act.put, List.setIfInBounds_toArray, List.set_cons_zero, List.set_cons_succ]
          refine lad_arr rfl rfl rfl (fun _ => rfl) (cw 4 n) (fun wx hS => St.rangeL hS 0 rfl 0 _ (by rw [List.drop_zero, List.take_of_length_le (Nat.le_refl _)])) Tryz.underlying64 rfl (by first | (rw [cw_len]; kernel_rfl) | (rw [PT.len]; kernel_rfl) | (rw [ptL_len]; kernel_rfl) | (simp only [List.length_append, cw_len]; kernel_rfl) | (simp only [List.length_append, cw_len, PT.len, ptL_len]; kernel_rfl)) ?_
          try simp only [Act.put, List.setIfInBounds_toArray, List.set_cons_zero, List.set_cons_succ]
          refine lad_callX (X := Nat × Nat) (fun y => .pointer (some ⟨y.1, 0, none⟩)) (fun y w => Has w y.1 (crvL mP y.2 gXn gYn) 62 ∧ Has w y.2 (mdL mP) 112) (fun _ _ _ h k => ⟨h.1.keep k id, h.2.keep k id⟩) rfl rfl rfl Tryz.call24 (fun w hS hR => k256_y _) (fun _ => rfl) fun y2 => ?_
          try simp only [Act.put, List.setIfInBounds_toArray, List.set_cons_zero, List.set_cons_succ]
          refine lad_callX (X := Nat × Nat) (fun y => .pointer (some ⟨y.1, 0, none⟩)) (fun y w => Has w y.1 (crvL mP y.2 gXn gYn) 62 ∧ Has w y.2 (mdL mP) 112) (fun _ _ _ h k => ⟨h.1.keep k id, h.2.keep k id⟩) rfl rfl rfl Tryz.call24 (fun w hS hR => k256_y _) (fun _ => rfl) fun y3 => ?_
          try simp only [Act.put, List.setIfInBounds_toArray, List.set_cons_zero, List.set_cons_succ]
          refine lad_w (v := ?_) rfl rfl (fun xq wx => ?_) ?_
          rotate_left 1
          · (go_simp; with_reducible rfl)
          try simp only [Act.put, List.setIfInBounds_toArray, List.set_cons_zero, List.set_cons_succ]
          refine lad_w (v := ?_) rfl rfl (fun xq wx => ?_) ?_
          rotate_left 1
          · (go_simp; with_reducible rfl)
          try simp only [Act.put, List.setIfInBounds_toArray, List.set_cons_zero, List.set_cons_succ]
          refine lad_v (v := ?_) rfl rfl (fun xq wx hS hR => ?_) ?_
          rotate_left 1
          · (have hc := (hR.2).1.cell (show (crvL mP y3.2 gXn gYn)[0]? = some (.pointer (some ⟨y3.2, 0, none⟩)) from rfl); clear hS hR; go_simp; with_reducible rfl)
          try simp only [Act.put, List.setIfInBounds_toArray, List.set_cons_zero, List.set_cons_succ]
          refine lad_call rfl rfl rfl Tryz.call59 (fun w hS hR => MTo_any mP y3.2 _ mP_ok hR.2.2 n HNL.out) (fun _ => rfl) ?_
          try simp only [Act.put, List.setIfInBounds_toArray, List.set_cons_zero, List.set_cons_succ]
          refine lad_call rfl rfl rfl Tryz.call106 (fun w hS hR => at_u mP y2.1 y2.2 gXn gYn _ mP_ok hR.1.2.1 hR.1.2.2 n true HR.out) (fun _ => rfl) ?_
          try simp only [Act.put, List.setIfInBounds_toArray, List.set_cons_zero, List.set_cons_succ]
          refine lad_w (v := ?_) rfl rfl (fun xq wx => ?_) ?_
          rotate_left 1
          · (go_simp; with_reducible rfl)
          try simp only [Act.put, List.setIfInBounds_toArray, List.set_cons_zero, List.set_cons_succ]
          refine lad_w (v := ?_) rfl rfl (fun xq wx => ?_) ?_
          rotate_left 1
          · (go_simp; with_reducible rfl)
          try simp only [Act.put, List.setIfInBounds_toArray, List.set_cons_zero, List.set_cons_succ]
          refine lad_w (v := ?_) rfl rfl (fun xq wx => ?_) ?_
          rotate_left 1
          · (go_simp; with_reducible rfl)
          try simp only [Act.put, List.setIfInBounds_toArray, List.set_cons_zero, List.set_cons_succ]
          refine lad_j List.mem_cons_self fun g6 => ?_
          simp only [upd, reduceIte]
          try simp only [Nat.reduceEqDiff, reduceIte]
          refine lad_end fun xq w4 st4 hR => ?_
          try dsimp only
          clear hR xq
          refine plan_r rfl rfl ?_
          refine wp_storeS st4 1 rfl rfl rfl rfl (by first | (simp only [cw_len]; done) | (simp only [List.length_append, cw_len, PT.len, ptL_len]; done)) (by first | (rw [cw_len]; kernel_rfl) | (simp only [List.length_append, cw_len]; kernel_rfl)) (pt_one _ _ _) ?_
          intro w5 st5
          repeat (first | simp only [List.cons_append] at st5 | simp only [List.nil_append] at st5 | simp only [List.set_cons_succ] at st5 | simp only [List.set_cons_zero] at st5)
          clear st4
          refine ⟨by first | exact st5 | exact St.less st5 (by simp), ?_⟩
          try simp only [Act.put]
          refine plan_m rfl rfl ?_
          go_simp
          try simp only [Act.put, List.setIfInBounds_toArray, List.set_cons_zero, List.set_cons_succ]
          refine plan_end ?_
          refine NoPanic.normal ?_
          have HAF := Lib.hid (affT_LL n (atY mP.M n) hon)
          have HFE := Lib.hid (HFD.out.then st5.fr)
          obtain ⟨fnn, tmps, assign, body, hy, hR⟩ := HY.out (candL lab.data.toList b k) (affT n (atY mP.M n) hon) w5 (HJ.out _ _ _ none HJK.out HFE.out.grown (fun r e => by cases e)) (Nat.lt_of_le_of_lt (candL_len _ _ _) HLT.out)
          rw [HAF.out] at hy
          have HHY := Lib.hid hy
          have HRR := Lib.hid hR
          have HPT := Lib.hid (st5.at 1 rfl)
          clear hy hR st5
          go_upto_region 6 with fail
          refine wp_region_wide 2 ?_
          refine wlIn_v rfl (fun c h => by cases h) (by go_simp; with_reducible rfl) ?_
          try simp only [Act.put, List.setIfInBounds_toArray, List.set_cons_zero, List.set_cons_succ]
          refine wlIn_v rfl (fun c h => by cases h) (by go_simp; with_reducible rfl) ?_
          try simp only [Act.put, List.setIfInBounds_toArray, List.set_cons_zero, List.set_cons_succ]
          refine wlIn_v rfl (fun c h => by cases h) (by go_simp; with_reducible rfl) ?_
          try simp only [Act.put, List.setIfInBounds_toArray, List.set_cons_zero, List.set_cons_succ]
          refine wlIn_v rfl (fun c h => by cases h) (exec_loadH HPT.out rfl rfl (cw 4 (elN mP n) ++ (cw 4 (elN mP (atY mP.M n)) ++ cw 4 (elN mP 1))) (by rw [List.drop_zero, List.take_of_length_le (Nat.le_refl _)]) Tryz.underlying60 rfl (by first | (rw [cw_len]; kernel_rfl) | (simp only [List.length_append, cw_len]; kernel_rfl))) ?_
          try simp only [Act.put, List.setIfInBounds_toArray, List.set_cons_zero, List.set_cons_succ]
          refine wlIn_yield rfl (exec_yield (vs := [.agg (cw 4 (elN mP n) ++ (cw 4 (elN mP (atY mP.M n)) ++ cw 4 (elN mP 1))).toArray]) rfl rfl rfl HHY.out) HRR.out ?_
          rintro e W3 (⟨rfl, hJ3, hK3⟩ | ⟨rfl, hJx3⟩)
          · refine ⟨_, rfl, ?_⟩
            try simp only [Act.put, List.setIfInBounds_toArray, List.set_cons_zero, List.set_cons_succ]
            refine wlIn_v rfl (fun c h => by cases h) (by go_simp; with_reducible rfl) ?_
            try simp only [Act.put, List.setIfInBounds_toArray, List.set_cons_zero, List.set_cons_succ]
            refine wlIn_v rfl (fun c h => by cases h) (by go_simp; with_reducible rfl) ?_
            try simp only [Act.put, List.setIfInBounds_toArray, List.set_cons_zero, List.set_cons_succ]
            refine wpListIn_nil ?_
            have hF3 : Fr Nob w W3 := Fr.ofBelow ((HFK.out.then HFE.out).below.trans hK3)
            have HF3 := Lib.hid hF3
            have HS3 := Lib.hid (Nat.le_trans (by have h := HWK.out; rw [← HG16.out] at h; exact h) (Nat.le_trans HFE.out.size hK3.size))
            have HJ3 := Lib.hid hJ3
            clear hJ3 hK3 hF3
            go_wp2_with fail
            go_roundw
            case rel => exact ⟨k + 1, by have := HLT.out; omega, by go_num, by rw [candL_yes HC.out]; exact HJ3.out, HF3.out, HS3.out⟩
            case measure => have := HLT.out; simp [intOf]; omega
          · refine ⟨_, rfl, ?_⟩
            try simp only [Act.put, List.setIfInBounds_toArray, List.set_cons_zero, List.set_cons_succ]
            refine wlIn_v rfl (fun c h => by cases h) (by go_simp; with_reducible rfl) ?_
            try simp only [Act.put, List.setIfInBounds_toArray, List.set_cons_zero, List.set_cons_succ]
            refine wlIn_v rfl (fun c h => by cases h) (by go_simp; with_reducible rfl) ?_
            try simp only [Act.put, List.setIfInBounds_toArray, List.set_cons_zero, List.set_cons_succ]
            refine wpListIn_nil ?_
            have HJX3 := Lib.hid hJx3
            clear hJx3
            go_wp2_with fail
            refine bodyPost_ret (results_none rfl _ _ _) rfl ?_
            exact ⟨⟨_, rfl⟩, .inr ⟨_, ⟨k, _, HLT.out, HC.out, rfl⟩, HJX3.out⟩⟩
      · have HD := Lib.hid (show decide (n < mP.M) = false from decide_eq_false hd)
        have HC := Lib.hid (candT_no HNN.out (fun h => hd h.1))
        clear hd
        go_wp2_with fail
        refine wp_region_noPanic ?_
        refine wp_region_lad st2 9 [.t 0, .c 1, .w 2, .w 3, .c 4, .w 5, .w 6, .c 7, .c 8] (.m 9 .nil) (by kernel_rfl) (by kernel_rfl) (fun _ _ _ _ _ h => h) ?_
        clear st2
        refine lad_arr rfl rfl rfl (fun _ => rfl) (cw 4 n) (fun wx hS => St.rangeL hS 0 rfl 0 _ (by rw [List.drop_zero, List.take_of_length_le (Nat.le_refl _)])) Tryz.underlying64 rfl (by first | (rw [cw_len]; kernel_rfl) | (rw [PT.len]; kernel_rfl) | (rw [ptL_len]; kernel_rfl) | (simp only [List.length_append, cw_len]; kernel_rfl) | (simp only [List.length_append, cw_len, PT.len, ptL_len]; kernel_rfl)) ?_
        try simp only [Act.put, List.setIfInBounds_toArray, List.set_cons_zero, List.set_cons_succ]
        refine lad_callX (X := Nat × Nat) (fun y => .pointer (some ⟨y.1, 0, none⟩)) (fun y w => Has w y.1 (crvL mP y.2 gXn gYn) 62 ∧ Has w y.2 (mdL mP) 112) (fun _ _ _ h k => ⟨h.1.keep k id, h.2.keep k id⟩) rfl rfl rfl Tryz.call24 (fun w hS hR => k256_y _) (fun _ => rfl) fun y1 => ?_
        try simp only [Act.put, List.setIfInBounds_toArray, List.set_cons_zero, List.set_cons_succ]
        refine lad_w (v := ?_) rfl rfl (fun xq wx => ?_) ?_
        rotate_left 1
        · (go_simp; with_reducible rfl)
        try simp only [Act.put, List.setIfInBounds_toArray, List.set_cons_zero, List.set_cons_succ]
        refine lad_w (v := ?_) rfl rfl (fun xq wx => ?_) ?_
        rotate_left 1
        · (go_simp; with_reducible rfl)
        try simp only [Act.put, List.setIfInBounds_toArray, List.set_cons_zero, List.set_cons_succ]
        refine lad_v (v := ?_) rfl rfl (fun xq wx hS hR => ?_) ?_
        rotate_left 1
        · (have hc := (hR.2).1.cell (show (crvL mP y1.2 gXn gYn)[0]? = some (.pointer (some ⟨y1.2, 0, none⟩)) from rfl); clear hS hR; go_simp; with_reducible rfl)
        try simp only [Act.put, List.setIfInBounds_toArray, List.set_cons_zero, List.set_cons_succ]
        refine lad_w (v := ?_) rfl rfl (fun xq wx => ?_) ?_
        rotate_left 1
        · (go_simp; with_reducible rfl)
        try simp only [Act.put, List.setIfInBounds_toArray, List.set_cons_zero, List.set_cons_succ]
        refine lad_w (v := ?_) rfl rfl (fun xq wx => ?_) ?_
        rotate_left 1
        · (go_simp; with_reducible rfl)
        try simp only [Act.put, List.setIfInBounds_toArray, List.set_cons_zero, List.set_cons_succ]
        refine lad_v (v := ?_) rfl rfl (fun xq wx hS hR => ?_) ?_
        rotate_left 1
        · (refine exec_loadH (hR.2).2 (x := .tmp 26) (p := 0) ?_ ?_ (cw 4 mP.M) (md_M mP) Tryz.underlying64 rfl ?_; rfl; rfl; (rw [cw_len]; kernel_rfl))
        try simp only [Act.put, List.setIfInBounds_toArray, List.set_cons_zero, List.set_cons_succ]
        refine lad_call rfl rfl rfl Tryz.call70 (fun w hS hR => MLess_v n mP.M _ HNL.out mP_ok.lt false HD.out) (fun _ => rfl) ?_
        try simp only [Act.put, List.setIfInBounds_toArray, List.set_cons_zero, List.set_cons_succ]
        refine lad_end fun xq w3 st3 hR => ?_
        try dsimp only
        clear hR xq
        refine plan_m rfl rfl ?_
        go_simp
        try simp only [Act.put, List.setIfInBounds_toArray, List.set_cons_zero, List.set_cons_succ]
        refine plan_end ?_
        refine NoPanic.normal ?_
        have HFE := Lib.hid (HFD.out.then st3.fr)
        clear st3
        go_wp2_with fail
        go_roundw
        case rel => exact ⟨k + 1, by have := HLT.out; omega, by go_num, by rw [candL_no HC.out]; exact HJ.out _ _ _ none HJK.out HFE.out.grown (fun r e => by cases e), HFK.out.then HFE.out, Nat.le_trans (by have h := HWK.out; rw [← HG16.out] at h; exact h) HFE.out.size⟩
        case measure => have := HLT.out; simp [intOf]; omega
    · have hge : ¬ ((k : Int) < 256) := by omega
      have hk6 : k = 256 := by omega
      subst hk6
      clear hk hlt
      go_wp2_with fail
      go_end0
      first | exact ⟨⟨_, rfl⟩, .inl HJK.out⟩ | exact ⟨⟨_, rfl⟩, .inl ⟨_, rfl, HJK.out⟩⟩
end Go.Proofs.YtdbgddngapminaaGreat

/- group: candidates, hashTo. -/
namespace Go.Mv
open Go.RowKit
theorem has_ownFrom {β : Type} (B g : Nat) (L : List Value) (T : TypeId) : OwnFrom B (fun (_ : β) W => Has W g L T) := fun _ X Y row hs hg hr =>
  Has.keep hs (Fr.ofGrown hg) (fun e => by
    obtain ⟨_, o, ho, hc⟩ := hr g e
    obtain ⟨lo, hi, h, -⟩ := hs
    rw [h] at ho
    cases ho
    cases hc)
theorem fr_ownFrom {β : Type} {B : Nat} {w : World} (hB : w.heap.size ≤ B) : OwnFrom B (fun (_ : β) W => Fr Nob w W) := fun _ X Y row hs hg hr =>
  hs.trans (Fr.ofGrown hg) (fun i hi t => by
    have h := (hr i t).1
    omega)
theorem size_ownFrom {β : Type} (B n : Nat) : OwnFrom B (fun (_ : β) (W : World) => n ≤ W.heap.size) := fun _ _ _ _ hs hg _ => Nat.le_trans hs hg.size
theorem keeps_fr {B : Nat} {W W' : World} (h : Fr Nob W W') : KeepsFrom B W W' :=
  ⟨h.size, fun k _ _ hk _ => (h.block k (Array.getElem?_eq_some_iff.1 hk).1 id).trans hk⟩
theorem keeps_one {B g : Nat} {W W' : World} (h : Fr (One g) W W') (hg : g < B) : KeepsFrom B W W' :=
  ⟨h.size, fun k o hB hk _ => (h.block k (Array.getElem?_eq_some_iff.1 hk).1 (fun e => by have : k = g := e; omega)).trans hk⟩
theorem zip_one (t : Array Value) (p : Tmp) (v : Value) : (#[p].zip #[v]).foldl (fun t (p, v) => t.setIfInBounds p v) t = t.setIfInBounds p v := by simp
theorem no_out {K : Act → World → Prop} {Q : Exit → Act → World → Prop} (h : ∀ a w, ¬ Q .outgrown a w) : ¬ LetsOut (Exit.then K Q) := by
  rintro ⟨a, w, k⟩
  exact h a w k
end Go.Mv
namespace Go.Proofs.YtdbgddngapminaaGreat
open Go.RowKit Go.Mv Mvp Mvq
theorem z_pt : (Tryz.prog.info? 60).map (·.zero) = some (some (.agg (List.replicate 12 (.int .u64 0)).toArray)) := by kernel_rfl
attribute [local irreducible] limbs lw mix cw cSub cAdd cMul foldC valFrom beN laid be32 powm montT mstep elN mdL numB rtN rtV rtOk gXn gYn PT.L addT dblT mulT tbL tmR tmL dbN innT outT sumT dig rdOk rdPt ptL wrPt tagL hB hN candT candL hashT atY crvN affT
set_option maxHeartbeats 4000000 in
set_option maxRecDepth 1000000 in
theorem cands_c (lab : ByteArray) (va : Value) (hva : va.cells = #[va]) (w : World) : Calls Tryz.prog 67 #[.string lab, va] w fun e w' => ∃ g2 g3, e = .returned (.func (.func 104) #[] #[.pointer (some ⟨g2, 0, none⟩), .pointer (some ⟨g3, 0, none⟩)]) ∧ Has w' g2 [.string lab] 9 ∧ Has w' g3 [va] 22 ∧ Fr Nob w w' := by
  have HVA := Lib.hid hva
  clear hva
  have st0 := St.start Nob w
  go_enter Tryz.func67, Tryz.ntmps67
  go_wp2_with (with_reducible refine wl_stop (o := ⟨some 2, _, _, _, _, _⟩) ?_)
  refine wl_boxS st0 rfl rfl rfl [.string lab] rfl ?_
  intro g2 w1 st1
  clear st0
  unfold Act.put
  go_wp2_with (with_reducible refine wl_stop (o := ⟨some 3, _, _, _, _, _⟩) ?_)
  refine wl_boxS st1 rfl rfl rfl [va] (by show va.cells.toList = [va]; rw [HVA.out]) ?_
  intro g3 w2 st2
  clear st1
  have H2 := Lib.hid (st2.at 0 rfl)
  have H3 := Lib.hid (st2.at 1 rfl)
  have HF := Lib.hid st2.fr
  clear st2
  go_wp2_with fail
  go_ret
  exact ⟨g2, g3, rfl, H2.out, H3.out, HF.out⟩
set_option maxHeartbeats 8000000 in
set_option maxRecDepth 1000000 in
theorem hashTo_c (lab : ByteArray) (hsz : lab.size ≤ 100000) (va : Value) (b : List UInt8) (w : World) (hb : PartIs w va b) :
    Calls Tryz.prog 26 #[.string lab, va] w fun e w' => e = .returned (.agg (hashT lab.data.toList b).L.toArray) ∧ Fr Nob w w' := by
  have HSZ := Lib.hid hsz
  have HB := Lib.hid hb
  have HVA := Lib.hid (part_cells hb)
  clear hsz hb
  have st0 := St.start Nob w
  refine (callsIn_wide (n := 3)).1 ?_
  refine callsIn_of_wp_marks Tryz.func26 rfl trivial ?_ rfl
  simp only [Tryz.ntmps26, List.size_toArray, List.length_cons, List.length_nil, Nat.reduceAdd, Nat.reduceSub, Array.replicate_succ, Array.replicate_zero, List.push_toArray, List.append_toArray, List.nil_append, List.cons_append]
  refine wpIn_wide.2 ?_
  go_wp2_with (with_reducible refine wl_stop (o := ⟨some 4, _, _, _, _, _⟩) ?_)
  refine wl_allocS st0 rfl rfl z_pt (cw 12 0) (by rw [cw_zero]; rfl) ?_
  intro g4 w1 st1
  clear st0
  go_wp2_with fail
  refine (cands_c lab va HVA.out _).mono ?_
  rintro e w2 ⟨g2, g3, rfl, hg2, hg3, hf2⟩
  have st2 := st1.keep hf2
  have HG2 := Lib.hid hg2
  have HG3 := Lib.hid hg3
  clear st1 hf2 hg2 hg3
  have H4 := Lib.hid (st2.at 0 rfl)
  have HGE := Lib.hid ((st2.own _ List.mem_cons_self).resolve_right (fun h => h.elim))
  have HF := Lib.hid st2.fr
  have HLT := Lib.hid (st2.at 0 rfl).lt
  clear st2
  go_wp2_with fail
  refine (wpIn_wide (n := 3)).1 ?_
  refine wpIn_rangeFunc_ownH (F := Fence.wide) rfl (by omega) (gf := 104) (lb := #[.pointer (some ⟨g2, 0, none⟩), .pointer (some ⟨g3, 0, none⟩)]) rfl trivial (enters_of Tryz.func104 (by kernel_rfl) rfl)
    (cand_stops lab HSZ.out g2 g3 va b w2 HG2.out HG3.out (HB.out.still HF.out)) belowK_t (belowK_b (Nat.le_refl _)) (Below.refl _ _) (fun _ => rfl)
    (fun pre W => pre = [] ∧ (Has W g4 (cw 12 0) 60 ∧ (Fr Nob w W ∧ w2.heap.size ≤ W.heap.size)))
    (fun c pre W => c = .ret ∧ ∃ x : PT, pre = [x] ∧ (Has W g4 x.L 60 ∧ Fr Nob w W))
    (OwnFrom.and (ownFrom_pure _ _) (OwnFrom.and (has_ownFrom _ _ _ _) (OwnFrom.and (fr_ownFrom HF.out.size) (size_ownFrom _ _))))
    (fun c s X Y row hs hg hr => by
      obtain ⟨h1, x, h2, h3, h4⟩ := hs
      exact ⟨h1, x, h2, has_ownFrom (β := Unit) _ g4 x.L _ () X Y row h3 hg hr, fr_ownFrom (β := Unit) HF.out.size () X Y row h4 hg hr⟩)
    ⟨rfl, H4.out, HF.out, Nat.le_refl _⟩
    (fun x a' W => ∃ Bx, Has W Bx x.L 60 ∧ a' = { tmps := #[.string lab, va, undef, undef, .pointer (some ⟨g4, 0, none⟩), .pointer (some ⟨Bx, 0, none⟩), .string lab, va, .func (.func 104) #[] #[.pointer (some ⟨g2, 0, none⟩), .pointer (some ⟨g3, 0, none⟩)], .agg x.L.toArray, undef, undef, undef, undef, undef], defers := [] })
    (fun x a' s X Y row hs hg hr => by
      obtain ⟨Bx, h1, h2⟩ := hs
      exact ⟨Bx, has_ownFrom (β := Unit) _ Bx x.L _ () X Y row h1 hg hr, h2⟩)
    ?assign ?body ?done ?stop
  case assign =>
    rintro l pre x W K ⟨rfl, h4, hfr, hsz⟩ hK
    refine regionIn_of (no_out fun _ _ h => h) rfl ?_
    have st := St.start Nob W
    have HK := Lib.hid hK
    have H4 := Lib.hid h4
    have HFR := Lib.hid hfr
    have HS := Lib.hid hsz
    clear hK h4 hfr hsz
    rw [zip_one]
    simp only [List.setIfInBounds_toArray, List.set_cons_zero, List.set_cons_succ]
    refine wl_allocS st rfl rfl z_pt (cw 12 0) (by rw [cw_zero]; rfl) ?_
    intro gx W1 s1
    try simp only [Act.put, List.setIfInBounds_toArray, List.set_cons_zero, List.set_cons_succ]
    refine wl_storeS s1 0 rfl rfl rfl rfl rfl (by rw [cw_len, PT.len]) (by rw [PT.len]; kernel_rfl) (PT.one _) ?_
    intro W2 s2
    try simp only [Act.put]
    refine wpList_nil ?_
    have hf := s2.fr
    exact HK.out _ _ (keeps_fr hf) (hf.below.mono HS.out) ⟨rfl, H4.out.keep hf id, HFR.out.then hf, Nat.le_trans HS.out hf.size⟩ ⟨gx, s2.at 0 rfl, rfl⟩
  case body =>
    rintro l pre x a' W hl hr ⟨rfl, h4, hfr, hsz⟩ ⟨Bx, hx, rfl⟩ hlt
    refine wpIn_block (wpIn_seq ?_)
    refine regionIn_of (no_out fun _ _ h => h) rfl ?_
    have st := St.one h4
    have HX := Lib.hid hx
    have HFR := Lib.hid hfr
    clear hr hx h4 hfr
    refine wl_loadR rfl rfl Tryz.underlying60 rfl rfl (cs := x.L) (fun i v hv => HX.out.range 0 _ (by rw [List.drop_zero, List.take_of_length_le (Nat.le_refl _)]) i v hv) (by rw [PT.len]; kernel_rfl) ?_
    try simp only [Act.put, List.setIfInBounds_toArray, List.set_cons_zero, List.set_cons_succ]
    refine wl_storeS st 0 rfl rfl rfl rfl rfl (by rw [cw_len, PT.len]) (by rw [PT.len]; kernel_rfl) (PT.one _) ?_
    intro W2 s2
    try simp only [Act.put]
    refine wpList_nil ?_
    refine wpIn_ret ?_
    exact ⟨keeps_one s2.fr HLT.out, rfl, x, rfl, s2.at 0 rfl, HFR.out.new s2.fr HGE.out⟩
  case done =>
    rintro D xs W hD hS ⟨rfl, h4, hfr, hsz⟩ hK
    have HS := Lib.hid (hashT_none hS.symm)
    have st := (St.start Nob w)
    have HFR := Lib.hid hfr
    have H4' := Lib.hid h4
    have HD := Lib.hid hK
    have HDD := Lib.hid hD
    clear hS h4 hfr hsz hK hD st
    go_wp2_with fail
    refine (k256_y _).mono ?_
    rintro e w3 ⟨y, rfl, ⟨hc, hm⟩, hf⟩
    have HC := Lib.hid hc
    have HF3 := Lib.hid hf
    clear hc hm hf
    go_wp2_with (with_reducible refine wl_stop (o := ⟨some 14, _, _, _, _, _⟩) ?_)
    refine wl_loadR rfl rfl Tryz.underlying60 rfl rfl (cs := baseT.L) (fun i v hv => HC.out.range 5 _ base_cells i v hv) (by rw [PT.len]; kernel_rfl) ?_
    have st := St.one (H4'.out.keep HF3.out id)
    go_wp2_with (with_reducible refine wl_stop (o := ⟨none, _, _, _, _, _⟩) ?_)
    refine wl_storeS st 0 rfl rfl rfl rfl rfl (by rw [cw_len, PT.len]) (by rw [PT.len]; kernel_rfl) (PT.one _) ?_
    intro w5 s5
    have HF5 := Lib.hid s5.fr
    have H5 := Lib.hid (s5.at 0 rfl)
    clear st s5
    go_wp2_with fail
    have hD3 := (keeps_fr (B := w2.heap.size) HF3.out).same D _ HDD.out HD.out rfl
    have hD5 := (keeps_one HF5.out HLT.out).same D _ HDD.out hD3 rfl
    refine ⟨by simp, .inl ⟨_, _, rfl, run_takeDeferred hD5, ?_⟩⟩
    have hfin := (has_ownFrom (β := Unit) 0 g4 _ _).putObj (s := ()) (.deferred none) H5.out (Nat.zero_le _) hD5 rfl
    refine ⟨_, results_st rfl rfl hfin Tryz.underlying60 rfl (by rw [PT.len]; kernel_rfl), by rw [HS.out], ?_⟩
    exact (fr_ownFrom (β := Unit) (B := w2.heap.size) HF.out.size).putObj (s := ()) (.deferred none) ((HFR.out.then HF3.out).new HF5.out HGE.out) HDD.out hD5 rfl
  case stop =>
    rintro D c pre W hD ⟨k, x', hk, hc, hp⟩ ⟨rfl, x, rfl, h4, hfr⟩ hK
    have hnil : candL lab.data.toList b k = [] := by
      cases hq : candL lab.data.toList b k with
      | nil => rfl
      | cons y ys =>
        rw [hq] at hp
        have := congrArg List.length hp
        simp at this
    rw [hnil] at hp
    have hxx : x = x' := by simpa using hp
    subst hxx
    have HS := Lib.hid (hashT_some hk hc hnil)
    refine wpIn_ret ?_
    refine ⟨by simp, .inl ⟨_, _, rfl, run_takeDeferred hK, ?_⟩⟩
    have hfin := (has_ownFrom (β := Unit) 0 g4 _ _).putObj (s := ()) (.deferred none) h4 (Nat.zero_le _) hK rfl
    refine ⟨_, results_st rfl rfl hfin Tryz.underlying60 rfl (by rw [PT.len]; kernel_rfl), by rw [HS.out], ?_⟩
    exact (fr_ownFrom (β := Unit) (B := w2.heap.size) HF.out.size).putObj (s := ()) (.deferred none) hfr hD hK rfl
end Go.Proofs.YtdbgddngapminaaGreat

/- group: HashTo, Commit. -/
namespace Go.Proofs.YtdbgddngapminaaGreat
open Go.RowKit Go.Mv Mvp Mvq
def kValue : List UInt8 := [118, 97, 108, 117, 101]
/-- the other base -/
noncomputable def hTT : PT := hashT kValue []
theorem hashTo_v (w : World) : Calls Tryz.prog 26 #[.string ⟨#[118, 97, 108, 117, 101]⟩, .slice none 0 0] w fun e w' => e = .returned (.agg hTT.L.toArray) ∧ Fr Nob w w' :=
  hashTo_c ⟨#[118, 97, 108, 117, 101]⟩ (by decide) (.slice none 0 0) [] w ⟨none, 0, 0, rfl, Nat.le_refl _, Nat.zero_le _, RdB.nil _ _, fun x h => by cases h⟩
theorem two_tm (a b : Nat × PT) : tmL [a, b] = tmR a ++ tmR b := by
  show (List.range 2).flatMap (fun k => tmR (tmAt [a, b] k)) = tmR a ++ tmR b
  simp [List.range_succ, tmAt]
theorem k256_z (w : World) : Calls Tryz.prog 24 #[] w fun e w' => ∃ gc : Nat, e = .returned (.pointer (some ⟨gc, 0, none⟩)) ∧ Cv w' gc ∧ Fr Nob w w' :=
  (k256_c w).mono fun _ _ ⟨gc, k1, _, k2, k3⟩ => ⟨gc, k1, k2, k3⟩
attribute [local irreducible] limbs lw mix cw cSub cAdd cMul foldC valFrom beN laid be32 powm montT mstep elN mdL numB rtN rtV rtOk gXn gYn PT.L addT dblT mulT tbL tmR tmL dbN innT outT sumT dig rdOk rdPt ptL wrPt tagL hB hN candT candL hashT atY crvN affT
set_option maxHeartbeats 8000000 in
set_option maxRecDepth 1000000 in
theorem HashTo_u (lab : ByteArray) (hsz : lab.size ≤ 100000) (va : Value) (b : List UInt8) (w : World) (hb : PartIs w va b) :
    Calls Tryz.prog 8 #[.string lab, va] w fun e w' => ∃ v, e = .returned (.tuple #[v, .int .i64 0]) ∧ OwnB1 w w' v (wrPt (hashT lab.data.toList b).pt) ∧ Fr Nob w w' := by
  have HSZ := Lib.hid hsz
  have HB := Lib.hid hb
  clear hsz hb
  go_enter Tryz.func8, Tryz.ntmps8
  go_wp2_with fail
  refine (k256_z _).mono ?_
  rintro e w1 ⟨gc, rfl, hcv, hf⟩
  have HCV := Lib.hid hcv
  have HF := Lib.hid hf
  clear hcv hf
  go_wp2_with fail
  refine (hashTo_c lab HSZ.out va b _ (HB.out.still HF.out)).mono ?_
  rintro e w2 ⟨rfl, hf⟩
  have HCV2 := Lib.hid (HCV.out.keep hf)
  have HF2 := Lib.hid (HF.out.then hf)
  clear hf HCV HF
  go_wp2_with fail
  refine (bytes_c _ gc _ HCV2.out).mono ?_
  rintro e w3 ⟨sv, rfl, hown, hf⟩
  have ho := Go.Mv.Own.mono hown HF2.out.size
  have hfr := HF2.out.then hf
  clear hf HCV2 HF2 hown
  go_wp2_with fail
  go_ret2
  exact ⟨sv, rfl, OwnB1.of ho (wrPt_len _), hfr⟩

set_option maxHeartbeats 8000000 in
set_option maxRecDepth 1000000 in
theorem Commit_ff (vv vr : Value) (lv lr : List UInt8) (w : World) (hpv : BPart w vv lv) (hpr : BPart w vr lr) (hv : numB mQ lv = false) (hr : numB mQ lr = false) :
    Calls Tryz.prog 9 #[vv, vr] w fun e w' => e = .returned (.tuple #[.slice none 0 0, .int .i64 3]) ∧ Fr Nob w w' := by
  obtain ⟨av, nv, cv, rfl, -, hrv⟩ := hpv
  obtain ⟨ar, nr, cr, rfl, -, hrr⟩ := hpr
  have HRv := Lib.hid hrv
  have HRr := Lib.hid hrr
  have HKv := Lib.hid hv
  have HKr := Lib.hid hr
  clear hrv hrr hv hr
  have st0 := St.start Nob w
  go_enter Tryz.func9, Tryz.ntmps9
  go_wp2_with fail
  refine (scalar_f HKv.out av nv cv _ (HRv.out.still st0.fr)).mono ?_
  rintro e' w1 ⟨⟨N1, rfl⟩, hf1⟩
  have st1 := st0.keep hf1
  clear st0 hf1
  go_wp2_with (with_reducible refine wl_stop (o := ⟨some 6, _, _, _, _, _⟩) ?_)
  refine wl_allocS st1 rfl rfl (z := .agg #[.int .u64 0, .int .u64 0, .int .u64 0, .int .u64 0]) (by kernel_rfl) (cw 4 0) (by rw [cw_zero]; rfl) ?_
  intro g6 w2 st2
  clear st1
  go_wp2_with (with_reducible refine wl_stop (o := ⟨none, _, _, _, _, _⟩) ?_)
  refine wl_storeS st2 0 rfl rfl rfl rfl rfl (by first | (simp only [cw_len]; done) | (simp only [List.length_append, cw_len, PT.len, tbL_len, tmR_len, ptL_len]; done)) (by first | (rw [cw_len]; kernel_rfl) | (rw [PT.len]; kernel_rfl) | (rw [tbL_len]; kernel_rfl) | (rw [tmR_len]; kernel_rfl) | (rw [ptL_len]; kernel_rfl) | (simp only [List.length_append, cw_len]; kernel_rfl) | (simp only [List.length_append, cw_len, PT.len, tbL_len, tmR_len, ptL_len]; kernel_rfl)) (cw_one _ _) ?_
  intro w3 st3
  clear st2
  go_wp2_with fail
  refine (scalar_f HKr.out ar nr cr _ (HRr.out.still st3.fr)).mono ?_
  rintro e' w4 ⟨⟨N2, rfl⟩, hf4⟩
  have st4 := st3.keep hf4
  clear st3 hf4
  go_wp2_with (with_reducible refine wl_stop (o := ⟨some 8, _, _, _, _, _⟩) ?_)
  refine wl_allocS st4 rfl rfl (z := .agg #[.int .u64 0, .int .u64 0, .int .u64 0, .int .u64 0]) (by kernel_rfl) (cw 4 0) (by rw [cw_zero]; rfl) ?_
  intro g8 w5 st5
  clear st4
  go_wp2_with (with_reducible refine wl_stop (o := ⟨none, _, _, _, _, _⟩) ?_)
  refine wl_storeS st5 1 rfl rfl rfl rfl rfl (by first | (simp only [cw_len]; done) | (simp only [List.length_append, cw_len, PT.len, tbL_len, tmR_len, ptL_len]; done)) (by first | (rw [cw_len]; kernel_rfl) | (rw [PT.len]; kernel_rfl) | (rw [tbL_len]; kernel_rfl) | (rw [tmR_len]; kernel_rfl) | (rw [ptL_len]; kernel_rfl) | (simp only [List.length_append, cw_len]; kernel_rfl) | (simp only [List.length_append, cw_len, PT.len, tbL_len, tmR_len, ptL_len]; kernel_rfl)) (cw_one _ _) ?_
  intro w6 st6
  clear st5
  have hfr := st6.fr
  clear st6
  go_wp2_with fail
  go_ret2
  exact ⟨rfl, hfr⟩

set_option maxHeartbeats 8000000 in
set_option maxRecDepth 1000000 in
theorem Commit_ft (vv vr : Value) (lv lr : List UInt8) (w : World) (hpv : BPart w vv lv) (hpr : BPart w vr lr) (hv : numB mQ lv = false) (hr : numB mQ lr = true) :
    Calls Tryz.prog 9 #[vv, vr] w fun e w' => e = .returned (.tuple #[.slice none 0 0, .int .i64 3]) ∧ Fr Nob w w' := by
  obtain ⟨av, nv, cv, rfl, -, hrv⟩ := hpv
  obtain ⟨ar, nr, cr, rfl, -, hrr⟩ := hpr
  have HRv := Lib.hid hrv
  have HRr := Lib.hid hrr
  have HKv := Lib.hid hv
  have HKr := Lib.hid hr
  clear hrv hrr hv hr
  have st0 := St.start Nob w
  go_enter Tryz.func9, Tryz.ntmps9
  go_wp2_with fail
  refine (scalar_f HKv.out av nv cv _ (HRv.out.still st0.fr)).mono ?_
  rintro e' w1 ⟨⟨N1, rfl⟩, hf1⟩
  have st1 := st0.keep hf1
  clear st0 hf1
  go_wp2_with (with_reducible refine wl_stop (o := ⟨some 6, _, _, _, _, _⟩) ?_)
  refine wl_allocS st1 rfl rfl (z := .agg #[.int .u64 0, .int .u64 0, .int .u64 0, .int .u64 0]) (by kernel_rfl) (cw 4 0) (by rw [cw_zero]; rfl) ?_
  intro g6 w2 st2
  clear st1
  go_wp2_with (with_reducible refine wl_stop (o := ⟨none, _, _, _, _, _⟩) ?_)
  refine wl_storeS st2 0 rfl rfl rfl rfl rfl (by first | (simp only [cw_len]; done) | (simp only [List.length_append, cw_len, PT.len, tbL_len, tmR_len, ptL_len]; done)) (by first | (rw [cw_len]; kernel_rfl) | (rw [PT.len]; kernel_rfl) | (rw [tbL_len]; kernel_rfl) | (rw [tmR_len]; kernel_rfl) | (rw [ptL_len]; kernel_rfl) | (simp only [List.length_append, cw_len]; kernel_rfl) | (simp only [List.length_append, cw_len, PT.len, tbL_len, tmR_len, ptL_len]; kernel_rfl)) (cw_one _ _) ?_
  intro w3 st3
  clear st2
  go_wp2_with fail
  refine (scalar_t HKr.out ar nr cr _ (HRr.out.still st3.fr)).mono ?_
  rintro e' w4 ⟨rfl, hf4⟩
  have st4 := st3.keep hf4
  clear st3 hf4
  go_wp2_with (with_reducible refine wl_stop (o := ⟨some 8, _, _, _, _, _⟩) ?_)
  refine wl_allocS st4 rfl rfl (z := .agg #[.int .u64 0, .int .u64 0, .int .u64 0, .int .u64 0]) (by kernel_rfl) (cw 4 0) (by rw [cw_zero]; rfl) ?_
  intro g8 w5 st5
  clear st4
  go_wp2_with (with_reducible refine wl_stop (o := ⟨none, _, _, _, _, _⟩) ?_)
  refine wl_storeS st5 1 rfl rfl rfl rfl rfl (by first | (simp only [cw_len]; done) | (simp only [List.length_append, cw_len, PT.len, tbL_len, tmR_len, ptL_len]; done)) (by first | (rw [cw_len]; kernel_rfl) | (rw [PT.len]; kernel_rfl) | (rw [tbL_len]; kernel_rfl) | (rw [tmR_len]; kernel_rfl) | (rw [ptL_len]; kernel_rfl) | (simp only [List.length_append, cw_len]; kernel_rfl) | (simp only [List.length_append, cw_len, PT.len, tbL_len, tmR_len, ptL_len]; kernel_rfl)) (cw_one _ _) ?_
  intro w6 st6
  clear st5
  have hfr := st6.fr
  clear st6
  go_wp2_with fail
  go_ret2
  exact ⟨rfl, hfr⟩

set_option maxHeartbeats 8000000 in
set_option maxRecDepth 1000000 in
theorem Commit_tf (vv vr : Value) (lv lr : List UInt8) (w : World) (hpv : BPart w vv lv) (hpr : BPart w vr lr) (hv : numB mQ lv = true) (hr : numB mQ lr = false) :
    Calls Tryz.prog 9 #[vv, vr] w fun e w' => e = .returned (.tuple #[.slice none 0 0, .int .i64 3]) ∧ Fr Nob w w' := by
  obtain ⟨av, nv, cv, rfl, -, hrv⟩ := hpv
  obtain ⟨ar, nr, cr, rfl, -, hrr⟩ := hpr
  have HRv := Lib.hid hrv
  have HRr := Lib.hid hrr
  have HKv := Lib.hid hv
  have HKr := Lib.hid hr
  clear hrv hrr hv hr
  have st0 := St.start Nob w
  go_enter Tryz.func9, Tryz.ntmps9
  go_wp2_with fail
  refine (scalar_t HKv.out av nv cv _ (HRv.out.still st0.fr)).mono ?_
  rintro e' w1 ⟨rfl, hf1⟩
  have st1 := st0.keep hf1
  clear st0 hf1
  go_wp2_with (with_reducible refine wl_stop (o := ⟨some 6, _, _, _, _, _⟩) ?_)
  refine wl_allocS st1 rfl rfl (z := .agg #[.int .u64 0, .int .u64 0, .int .u64 0, .int .u64 0]) (by kernel_rfl) (cw 4 0) (by rw [cw_zero]; rfl) ?_
  intro g6 w2 st2
  clear st1
  go_wp2_with (with_reducible refine wl_stop (o := ⟨none, _, _, _, _, _⟩) ?_)
  refine wl_storeS st2 0 rfl rfl rfl rfl rfl (by first | (simp only [cw_len]; done) | (simp only [List.length_append, cw_len, PT.len, tbL_len, tmR_len, ptL_len]; done)) (by first | (rw [cw_len]; kernel_rfl) | (rw [PT.len]; kernel_rfl) | (rw [tbL_len]; kernel_rfl) | (rw [tmR_len]; kernel_rfl) | (rw [ptL_len]; kernel_rfl) | (simp only [List.length_append, cw_len]; kernel_rfl) | (simp only [List.length_append, cw_len, PT.len, tbL_len, tmR_len, ptL_len]; kernel_rfl)) (cw_one _ _) ?_
  intro w3 st3
  clear st2
  go_wp2_with fail
  refine (scalar_f HKr.out ar nr cr _ (HRr.out.still st3.fr)).mono ?_
  rintro e' w4 ⟨⟨N2, rfl⟩, hf4⟩
  have st4 := st3.keep hf4
  clear st3 hf4
  go_wp2_with (with_reducible refine wl_stop (o := ⟨some 8, _, _, _, _, _⟩) ?_)
  refine wl_allocS st4 rfl rfl (z := .agg #[.int .u64 0, .int .u64 0, .int .u64 0, .int .u64 0]) (by kernel_rfl) (cw 4 0) (by rw [cw_zero]; rfl) ?_
  intro g8 w5 st5
  clear st4
  go_wp2_with (with_reducible refine wl_stop (o := ⟨none, _, _, _, _, _⟩) ?_)
  refine wl_storeS st5 1 rfl rfl rfl rfl rfl (by first | (simp only [cw_len]; done) | (simp only [List.length_append, cw_len, PT.len, tbL_len, tmR_len, ptL_len]; done)) (by first | (rw [cw_len]; kernel_rfl) | (rw [PT.len]; kernel_rfl) | (rw [tbL_len]; kernel_rfl) | (rw [tmR_len]; kernel_rfl) | (rw [ptL_len]; kernel_rfl) | (simp only [List.length_append, cw_len]; kernel_rfl) | (simp only [List.length_append, cw_len, PT.len, tbL_len, tmR_len, ptL_len]; kernel_rfl)) (cw_one _ _) ?_
  intro w6 st6
  clear st5
  have hfr := st6.fr
  clear st6
  go_wp2_with fail
  go_ret2
  exact ⟨rfl, hfr⟩

set_option maxHeartbeats 8000000 in
set_option maxRecDepth 1000000 in
theorem Commit_tt (vv vr : Value) (lv lr : List UInt8) (w : World) (hpv : BPart w vv lv) (hpr : BPart w vr lr) (hv : numB mQ lv = true) (hr : numB mQ lr = true) :
    Calls Tryz.prog 9 #[vv, vr] w fun e w' => ∃ v, e = .returned (.tuple #[v, .int .i64 0]) ∧ Go.Mv.Own w' 0 5 1 v 33 (bs (wrPt (sumT [(beN lv, hTT), (beN lr, baseT)]).pt)) ∧ Fr Nob w w' := by
  obtain ⟨av, nv, cv, rfl, -, hrv⟩ := hpv
  obtain ⟨ar, nr, cr, rfl, -, hrr⟩ := hpr
  have HRv := Lib.hid hrv
  have HRr := Lib.hid hrr
  have HKv := Lib.hid hv
  have HKr := Lib.hid hr
  clear hrv hrr hv hr
  have st0 := St.start Nob w
  go_enter Tryz.func9, Tryz.ntmps9
  go_wp2_with fail
  refine (scalar_t HKv.out av nv cv _ (HRv.out.still st0.fr)).mono ?_
  rintro e' w1 ⟨rfl, hf1⟩
  have st1 := st0.keep hf1
  clear st0 hf1
  go_wp2_with (with_reducible refine wl_stop (o := ⟨some 6, _, _, _, _, _⟩) ?_)
  refine wl_allocS st1 rfl rfl (z := .agg #[.int .u64 0, .int .u64 0, .int .u64 0, .int .u64 0]) (by kernel_rfl) (cw 4 0) (by rw [cw_zero]; rfl) ?_
  intro g6 w2 st2
  clear st1
  go_wp2_with (with_reducible refine wl_stop (o := ⟨none, _, _, _, _, _⟩) ?_)
  refine wl_storeS st2 0 rfl rfl rfl rfl rfl (by first | (simp only [cw_len]; done) | (simp only [List.length_append, cw_len, PT.len, tbL_len, tmR_len, ptL_len]; done)) (by first | (rw [cw_len]; kernel_rfl) | (rw [PT.len]; kernel_rfl) | (rw [tbL_len]; kernel_rfl) | (rw [tmR_len]; kernel_rfl) | (rw [ptL_len]; kernel_rfl) | (simp only [List.length_append, cw_len]; kernel_rfl) | (simp only [List.length_append, cw_len, PT.len, tbL_len, tmR_len, ptL_len]; kernel_rfl)) (cw_one _ _) ?_
  intro w3 st3
  clear st2
  go_wp2_with fail
  refine (scalar_t HKr.out ar nr cr _ (HRr.out.still st3.fr)).mono ?_
  rintro e' w4 ⟨rfl, hf4⟩
  have st4 := st3.keep hf4
  clear st3 hf4
  go_wp2_with (with_reducible refine wl_stop (o := ⟨some 8, _, _, _, _, _⟩) ?_)
  refine wl_allocS st4 rfl rfl (z := .agg #[.int .u64 0, .int .u64 0, .int .u64 0, .int .u64 0]) (by kernel_rfl) (cw 4 0) (by rw [cw_zero]; rfl) ?_
  intro g8 w5 st5
  clear st4
  go_wp2_with (with_reducible refine wl_stop (o := ⟨none, _, _, _, _, _⟩) ?_)
  refine wl_storeS st5 1 rfl rfl rfl rfl rfl (by first | (simp only [cw_len]; done) | (simp only [List.length_append, cw_len, PT.len, tbL_len, tmR_len, ptL_len]; done)) (by first | (rw [cw_len]; kernel_rfl) | (rw [PT.len]; kernel_rfl) | (rw [tbL_len]; kernel_rfl) | (rw [tmR_len]; kernel_rfl) | (rw [ptL_len]; kernel_rfl) | (simp only [List.length_append, cw_len]; kernel_rfl) | (simp only [List.length_append, cw_len, PT.len, tbL_len, tmR_len, ptL_len]; kernel_rfl)) (cw_one _ _) ?_
  intro w6 st6
  clear st5
  go_wp2_with fail
  refine wp_region_noPanic ?_
  refine wp_region_lad st6 19 [.t 2, .t 7, .c 0, .c 1, .c 3, .c 4, .c 5, .w 6, .c 8, .c 9, .w 10, .w 11, .c 12, .c 13, .w 14, .o 15, .j 15] (.r 16 (.r 17 (.w 18 (.m 19 .nil)))) (by kernel_rfl) (by kernel_rfl) (fun _ _ _ _ _ h => h) ?_
  clear st6
  refine lad_arr rfl rfl rfl (fun _ => rfl) (cw 4 (beN lv)) (fun wx hS => St.rangeL hS 0 rfl 0 _ (by rw [List.drop_zero, List.take_of_length_le (Nat.le_refl _)])) Tryz.underlying64 rfl (by first | (rw [cw_len]; kernel_rfl) | (rw [PT.len]; kernel_rfl) | (rw [tbL_len]; kernel_rfl) | (rw [tmR_len]; kernel_rfl) | (rw [ptL_len]; kernel_rfl) | (simp only [List.length_append, cw_len]; kernel_rfl) | (simp only [List.length_append, cw_len, PT.len, tbL_len, tmR_len, ptL_len]; kernel_rfl)) ?_
  try simp only [Act.put, List.setIfInBounds_toArray, List.set_cons_zero, List.set_cons_succ]
  refine lad_arr rfl rfl rfl (fun _ => rfl) (cw 4 (beN lr)) (fun wx hS => St.rangeL hS 1 rfl 0 _ (by rw [List.drop_zero, List.take_of_length_le (Nat.le_refl _)])) Tryz.underlying64 rfl (by first | (rw [cw_len]; kernel_rfl) | (rw [PT.len]; kernel_rfl) | (rw [tbL_len]; kernel_rfl) | (rw [tmR_len]; kernel_rfl) | (rw [ptL_len]; kernel_rfl) | (simp only [List.length_append, cw_len]; kernel_rfl) | (simp only [List.length_append, cw_len, PT.len, tbL_len, tmR_len, ptL_len]; kernel_rfl)) ?_
  try simp only [Act.put, List.setIfInBounds_toArray, List.set_cons_zero, List.set_cons_succ]
  refine lad_callX (X := Nat) (fun gc => .pointer (some ⟨gc, 0, none⟩)) (fun gc w => Cv w gc) (fun _ _ _ h k => h.keep k) rfl rfl rfl Tryz.call24 (fun w hS hR => k256_z _) (fun _ => rfl) fun y26 => ?_
  try simp only [Act.put, List.setIfInBounds_toArray, List.set_cons_zero, List.set_cons_succ]
  refine lad_callX (X := Nat) (fun gc => .pointer (some ⟨gc, 0, none⟩)) (fun gc w => Cv w gc) (fun _ _ _ h k => h.keep k) rfl rfl rfl Tryz.call24 (fun w hS hR => k256_z _) (fun _ => rfl) fun y27 => ?_
  try simp only [Act.put, List.setIfInBounds_toArray, List.set_cons_zero, List.set_cons_succ]
  refine lad_callX (X := Nat) (fun gc => .pointer (some ⟨gc, 0, none⟩)) (fun gc w => Cv w gc) (fun _ _ _ h k => h.keep k) rfl rfl rfl Tryz.call24 (fun w hS hR => k256_z _) (fun _ => rfl) fun y29 => ?_
  try simp only [Act.put, List.setIfInBounds_toArray, List.set_cons_zero, List.set_cons_succ]
  refine lad_call rfl rfl rfl Tryz.call26 (fun w hS hR => hashTo_v _) (fun _ => rfl) ?_
  try simp only [Act.put, List.setIfInBounds_toArray, List.set_cons_zero, List.set_cons_succ]
  refine lad_call rfl rfl rfl Tryz.call29 (fun w hS hR => multiples_c hTT y29 _ hR.2) (fun _ => rfl) ?_
  try simp only [Act.put, List.setIfInBounds_toArray, List.set_cons_zero, List.set_cons_succ]
  refine lad_w rfl rfl (fun _ => exec_build rfl _ (built_tm _ _)) ?_
  try simp only [Act.put, List.setIfInBounds_toArray, List.set_cons_zero, List.set_cons_succ]
  refine lad_callX (X := Nat) (fun gc => .pointer (some ⟨gc, 0, none⟩)) (fun gc w => Cv w gc) (fun _ _ _ h k => h.keep k) rfl rfl rfl Tryz.call24 (fun w hS hR => k256_z _) (fun _ => rfl) fun y34 => ?_
  try simp only [Act.put, List.setIfInBounds_toArray, List.set_cons_zero, List.set_cons_succ]
  refine lad_callX (X := Nat × Nat) (fun y => .pointer (some ⟨y.1, 0, none⟩)) (fun y w => Has w y.1 (crvL mP y.2 gXn gYn) 62 ∧ Has w y.2 (mdL mP) 112) (fun _ _ _ h k => ⟨h.1.keep k id, h.2.keep k id⟩) rfl rfl rfl Tryz.call24 (fun w hS hR => k256_y _) (fun _ => rfl) fun y35 => ?_
  try simp only [Act.put, List.setIfInBounds_toArray, List.set_cons_zero, List.set_cons_succ]
  refine lad_w (v := ?_) rfl rfl (fun xq wx => ?_) ?_
  rotate_left 1
  · (go_simp; with_reducible rfl)
  try simp only [Act.put, List.setIfInBounds_toArray, List.set_cons_zero, List.set_cons_succ]
  refine lad_w (v := ?_) rfl rfl (fun xq wx => ?_) ?_
  rotate_left 1
  · (go_simp; with_reducible rfl)
  try simp only [Act.put, List.setIfInBounds_toArray, List.set_cons_zero, List.set_cons_succ]
  refine lad_v (v := ?_) rfl rfl (fun xq wx hS hR => ?_) ?_
  rotate_left 1
  · (refine exec_loadH (hR.2).1 (x := .tmp 37) (p := 5) ?_ ?_ baseT.L base_cells Tryz.underlying60 rfl ?_; rfl; rfl; (rw [PT.len]; kernel_rfl))
  try simp only [Act.put, List.setIfInBounds_toArray, List.set_cons_zero, List.set_cons_succ]
  refine lad_call rfl rfl rfl Tryz.call29 (fun w hS hR => multiples_c baseT y34 _ hR.1.2) (fun _ => rfl) ?_
  try simp only [Act.put, List.setIfInBounds_toArray, List.set_cons_zero, List.set_cons_succ]
  refine lad_w rfl rfl (fun _ => exec_build rfl _ (built_tm _ _)) ?_
  try simp only [Act.put, List.setIfInBounds_toArray, List.set_cons_zero, List.set_cons_succ]
  refine lad_rows rfl rfl rfl Tryz.underlying113 info_tm [.agg (tmR (beN lv, hTT)).toArray, .agg (tmR (beN lr, baseT)).toArray] (fun _ => rfl) (by intro v hv; simp only [List.mem_cons, List.not_mem_nil, or_false] at hv; rcases hv with rfl | rfl <;> exact (tmR_len _)) rfl (tmR (beN lv, hTT) ++ tmR (beN lr, baseT)) (by simp [Value.cells]) ?_
  try simp only [Act.put, List.setIfInBounds_toArray, List.set_cons_zero, List.set_cons_succ]
  refine lad_j List.mem_cons_self fun g41 => ?_
  simp only [upd, reduceIte]
  try simp only [Nat.reduceEqDiff, reduceIte]
  refine lad_end fun xq w7 st7 hR => ?_
  try dsimp only
  have HC27 := Lib.hid hR.1.1.1.2
  have HC26 := Lib.hid hR.1.1.1.1.2
  have HRD : Hid (Rd w7 (some ⟨g41, 0, none⟩) (([(beN lv, hTT), (beN lr, baseT)] : List (Nat × PT)).length * 196) (tmL [(beN lv, hTT), (beN lr, baseT)])) := Lib.hid (by rw [two_tm]; have h := Rd.whole (st7.at 2 rfl); rw [List.length_append, tmR_len, tmR_len] at h; exact h)
  clear hR xq
  refine plan_r rfl rfl ?_
  go_simp
  refine (sum_c [(beN lv, hTT), (beN lr, baseT)] y27 (some ⟨g41, 0, none⟩) 2 2 _ HC27.out rfl (by decide) HRD.out).mono ?_
  rintro e' w8 ⟨rfl, hf8⟩
  have st8 := st7.keep hf8
  have HC26b := Lib.hid (HC26.out.keep hf8)
  clear hf8
  clear st7
  refine ⟨by first | exact st8 | exact St.less st8 (by simp), ?_⟩
  try simp only [Act.put, List.setIfInBounds_toArray, List.set_cons_zero, List.set_cons_succ]
  refine plan_r rfl rfl ?_
  go_simp
  refine (bytes_c (sumT [(beN lv, hTT), (beN lr, baseT)]) y26 _ HC26b.out).mono ?_
  rintro e' w9 ⟨sv, rfl, ho, hf9⟩
  have st9 := st8.keep hf9
  have HO := Lib.hid ho
  clear ho
  clear hf9
  clear st8
  refine ⟨by first | exact st9 | exact St.less st9 (by simp), ?_⟩
  try simp only [Act.put, List.setIfInBounds_toArray, List.set_cons_zero, List.set_cons_succ]
  refine plan_w (v := ?_) rfl rfl (fun wx => ?_) ?_
  rotate_left 1
  · (go_simp; with_reducible rfl)
  try simp only [Act.put, List.setIfInBounds_toArray, List.set_cons_zero, List.set_cons_succ]
  refine plan_m rfl rfl ?_
  go_simp
  try simp only [Act.put, List.setIfInBounds_toArray, List.set_cons_zero, List.set_cons_succ]
  refine plan_end ?_
  refine NoPanic.normal ?_
  have hfr := st9.fr
  clear st9
  go_wp2_with fail
  go_ret2
  exact ⟨sv, rfl, Go.Mv.Own.mono HO.out (Nat.zero_le _), hfr⟩
end Go.Proofs.YtdbgddngapminaaGreat

/- The reference's HashTo. -/
namespace Go.Proofs.YtdbgddngapminaaGreat
open Go.RowKit Go.Mv Mvp Mvq
/-- a point on the curve as the reference has it -/
noncomputable def aR : (p : Pt) → onC p → RT
  | .A x y, h => affR x y h
  | .O, _ => noR
theorem aR_pt : ∀ (p : Pt) (h : onC p), (aR p h).pt = p
  | .A x y, h => affR_pt x y h
  | .O, _ => noR_pt
theorem aR_L {p : Pt} (h : onC p) {x y : K} (e : p = .A x y) : (aR p h).L = rpL x y 1 := by subst e; rfl
noncomputable def hashR (lab l : List UInt8) : RT := aR (hashT lab l).pt (hashT lab l).onP
theorem hashR_pt (lab l : List UInt8) : (hashR lab l).pt = (hashT lab l).pt := aR_pt _ _
theorem hashR_L {lab l : List UInt8} {x y : K} (e : (hashT lab l).pt = .A x y) : (hashR lab l).L = rpL x y 1 := aR_L _ e
theorem hashR_yes {lab l : List UInt8} {k n : Nat} (hk : k < 256) (hn : hN lab l k = n) (h1 : n < fP) (h2 : rtOk fP (crvN n) = true) (h0 : candL lab l k = []) : (hashR lab l).L = rpL (kc n) (kc (rtV fP (crvN n))) 1 := by
  have h2' : rtOk mP.M (crvN n) = true := by rw [mP_fP]; exact h2
  refine hashR_L ?_
  rw [hashT_some hk (candT_yes hn (by rw [mP_fP]; exact h1) h2') h0, affT_pt, hatY n h2']
theorem hashR_base {lab l : List UInt8} (h0 : candL lab l 256 = []) : (hashR lab l).L = rpL (kc gXn) (kc gYn) 1 := by
  refine hashR_L ?_
  rw [hashT_none h0, baseT_pt]
theorem rpL_oneH (x y z : K) : ∀ v ∈ rpL x y z, v.oneCell' = true := by unfold rpL; exact pt_one _ _ _
theorem RAt2_t (n : Nat) (hlt : n < fP) (hr : rtOk fP (crvN n) = true) (w : World) : Calls Tryz.prog 31 #[i4 n] w fun e w' => e = .returned (.tuple #[.agg (rpL (kc n) (kc (rtV fP (crvN n))) 1).toArray, .bool true]) ∧ Fr Nob w w' := by
  have h := RAt_t n hr w
  rwa [kN_kc, Nat.mod_eq_of_lt hlt] at h
theorem RAt2_f (n : Nat) (hlt : n < fP) (hr : rtOk fP (crvN n) = false) (w : World) : Calls Tryz.prog 31 #[i4 n] w fun e w' => e = .returned (.tuple #[.agg (rpL (kc n) 0 1).toArray, .bool false]) ∧ Fr Nob w w' := by
  have h := RAt_f n hr w
  rwa [kN_kc, Nat.mod_eq_of_lt hlt] at h
theorem RNumP_u (l : List UInt8) (w : World) : Calls Tryz.prog 15 #[fv mP.M, .string (mkS l)] w fun e w' => ∃ N : Nat, e = .returned (.tuple #[i4 N, .bool (numB mP l)]) ∧ (numB mP l = true → N = beN l) ∧ Fr Nob w w' := by
  cases h : numB mP l with
  | true =>
    refine (Number_t mP mP_ok.lt (mkS l) w (by rw [mkS_toList]; exact h)).mono ?_
    rintro e w' ⟨rfl, hf⟩
    rw [mkS_toList]
    exact ⟨_, rfl, fun _ => rfl, hf⟩
  | false =>
    refine (Number_f mP mP_ok.lt (mkS l) w (by rw [mkS_toList]; exact h)).mono ?_
    rintro e w' ⟨N, rfl, hf⟩
    exact ⟨N, rfl, fun h => (by cases h), hf⟩
theorem hN_hB (lab l : List UInt8) (k : Nat) : hN lab l k = beN (tagL (kPoint ++ lab) [l, [UInt8.ofNat k]]) := hN_is lab l k
theorem numB_yes {l : List UInt8} (h1 : l.length = 32) (h2 : beN l < mP.M) : numB mP l = true := by unfold numB; rw [decide_eq_true h1, decide_eq_true h2]; rfl
theorem mkS_nil : mkS [] = ⟨#[]⟩ := rfl
theorem info_strg : (Tryz.prog.info? 9).map (fun i => (i.zero, i.size, i.bytes)) = some (some (.string ⟨#[]⟩), 1, 16) := by kernel_rfl
attribute [local irreducible] limbs lw mix cw cSub cAdd cMul foldC valFrom beN laid be32 powm montT mstep elN mdL numB rtV rtOk kN kc kinv wrPt addR noR timesR tmsR RT.L tagL hB hN candT candL hashT atY crvN affT rpL mkS
set_option maxHeartbeats 16000000 in
set_option maxRecDepth 1000000 in
theorem RHashTo_c (lab : ByteArray) (l : List UInt8) (hsz : lab.size ≤ 40000) (hll : l.length ≤ 40000) (w : World) : Calls Tryz.prog 13 #[.string lab, .string (mkS l)] w fun e w' => e = .returned (.agg (hashR lab.data.toList l).L.toArray) ∧ Fr Nob w w' := by
  have HSZ := Lib.hid hsz
  have HLL := Lib.hid hll
  clear hsz hll
  have st0 := St.start Nob w
  go_enter Tryz.func13, Tryz.ntmps13
  go_wp2_with (with_reducible refine wl_stop (o := ⟨some 4, _, _, _, _, _⟩) ?_)
  refine wl_allocS st0 rfl rfl (z := .agg #[.int .u64 0, .int .u64 0, .int .u64 0, .int .u64 0, .int .u64 0, .int .u64 0, .int .u64 0, .int .u64 0, .int .u64 0, .int .u64 0, .int .u64 0, .int .u64 0]) (by kernel_rfl) (cw 12 0) (by rw [cw_zero]; rfl) ?_
  intro g4 w1 st1
  clear st0
  go_wp2
  go_loopw [5] (fun i wr => ∃ k : Nat, k ≤ 256 ∧ i = .int .i64 (k : Int) ∧ candL lab.data.toList l k = [] ∧ St Nob w wr [(g4, cw 12 0, 34)]) (fun i _ => 256 - (intOf i).toNat)
  case atStart => exact ⟨0, by omega, rfl, candL_zero _ _, st1⟩
  case round =>
    obtain ⟨k, hk, rfl, hnone, st⟩ := hrel
    clear st1
    have HN0 := Lib.hid hnone
    clear hnone
    rcases Nat.lt_or_ge k 256 with hk2 | hk2
    · have hltI : (k : Int) < 256 := by omega
      have hk0 : (0 : Int) ≤ (k : Int) := by omega
      have hk8 : (k : Int) % 256 = (k : Int) := by omega
      have HLT := Lib.hid hk2
      clear hk2 hk
      have hn := hN_hB lab.data.toList l k
      generalize hT : tagL (kPoint ++ lab.data.toList) [l, [UInt8.ofNat k]] = T at *
      have HT := Lib.hid hT
      have HTL := Lib.hid (show T.length = 32 by rw [← hT]; exact tagL_len _ _)
      have HN := Lib.hid hn
      clear hT hn
      have hbb : numB mP T = true → beN T < fP := fun h => by have := numB_lt mP T h; rwa [mP_fP] at this
      have HBB := Lib.hid hbb
      clear hbb
      generalize hb : numB mP T = b at *
      have HB := Lib.hid hb
      clear hb
      go_wp2_with fail
      refine wp_region_noPanic ?_
      have hd1 := st.drew
      clear st
      refine wp_region_posA (fun wx => St Nob w wx [(g4, cw 12 0, 34)] ∧ Fr Nob (World.drew _) wx) [0, 1, 2, 3, 4, 5, 6, 7, 8, 9, 10, 11, 12, 13, 14] [13] (fun i => match i with | 0 => [] | 1 => [] | 2 => [1] | 3 => [] | 4 => [] | 5 => [4] | 6 => [5] | 7 => [6] | 8 => [3, 7] | 9 => [2, 8] | 10 => [0, 9] | 11 => [10] | 12 => [11] | 13 => [11] | 14 => [] | _ => []) (fun i x wx => match i with | 0 => x 0 = fv mP.M | 1 => x 1 = .string lab | 2 => x 2 = .string (mkS (kPoint ++ lab.data.toList)) | 3 => x 3 = .string (mkS l) | 4 => x 4 = .int .i64 (k : Int) | 5 => x 5 = .int .u8 (k : Int) | 6 => ∃ g, x 6 = .slice (some ⟨g, 0, none⟩) 1 1 ∧ Has wx g (bs [UInt8.ofNat k]) 5 | 7 => x 7 = .string (mkS [UInt8.ofNat k]) | 8 => ∃ g, x 8 = .slice (some ⟨g, 0, none⟩) 2 2 ∧ Has wx g (ss [l, [UInt8.ofNat k]]) 9 | 9 => x 9 = .string (mkS T) | 10 => ∃ N : Nat, x 10 = .tuple #[i4 N, .bool b] ∧ (b = true → N = beN T) | 11 => ∃ N : Nat, x 11 = .tuple #[i4 N, .bool b] ∧ (b = true → N = beN T) | 12 => ∃ N : Nat, x 12 = i4 N ∧ (b = true → N = beN T) | 13 => x 13 = .bool b | 14 => ∃ g, x 14 = .pointer (some ⟨g, 0, none⟩) ∧ Has wx g (cw 4 0) 32 ∧ (World.drew wr).heap.size ≤ g | _ => True) 15 (.m 15 (.w 16 .nil)) ?_ (fun x => ?_) (by kernel_rfl) (by kernel_rfl) (fun _ _ _ _ _ h => h) ⟨hd1, Fr.refl _ _⟩ (fun _ _ h k => ⟨h.1.keep k, h.2.then k⟩) ?_ ?_
      rotate_left 1
      · simp only [puts, putI, Act.put, List.getElem?_toArray, List.getElem?_cons_zero, List.getElem?_cons_succ, List.setIfInBounds_toArray, List.set_cons_zero, List.set_cons_succ]
        exact rfl
      refine obls_cons rfl rfl (fun x wx hG hp => ?_) (fun y _ _ h k => h) ?_
      · try dsimp only
        clear hp
        refine pos_go rfl Tryz.call33 (vs := []) rfl ?_
        refine (RF_any _).mono ?_
        rintro e w' ⟨rfl, hf⟩
        exact ⟨_, rfl, hf, rfl⟩
      refine obls_cons rfl rfl (fun x wx hG hp => ?_) (fun y _ _ h k => h) ?_
      · try dsimp only
        clear hp
        exact pos_v (v := .string lab) (by go_simp; try with_reducible rfl) rfl
      refine obls_cons rfl rfl (fun x wx hG hp => ?_) (fun y _ _ h k => h) ?_
      · try dsimp only
        have e1 : x 1 = .string lab := hp 1 (by decide)
        generalize x 1 = v1 at e1 ⊢
        subst e1
        clear hp
        exact pos_v (exec_addS2 rfl rfl rfl Tryz.underlying9 (by have h : (⟨#[112, 111, 105, 110, 116, 32]⟩ : ByteArray).size = 6 := rfl; rw [h]; have := HSZ.out; omega) (str_app lab) _) rfl
      refine obls_cons rfl rfl (fun x wx hG hp => ?_) (fun y _ _ h k => h) ?_
      · try dsimp only
        clear hp
        exact pos_v (v := .string (mkS l)) (by go_simp; try with_reducible rfl) rfl
      refine obls_cons rfl rfl (fun x wx hG hp => ?_) (fun y _ _ h k => h) ?_
      · try dsimp only
        clear hp
        exact pos_v (v := .int .i64 (k : Int)) (by go_simp; try with_reducible rfl) rfl
      refine obls_cons rfl rfl (fun x wx hG hp => ?_) (fun y _ _ h k => h) ?_
      · try dsimp only
        have e4 : x 4 = .int .i64 (k : Int) := hp 4 (by decide)
        generalize x 4 = v4 at e4 ⊢
        subst e4
        clear hp
        exact pos_v (v := .int .u8 (k : Int)) (by go_simp; exact IntWalk.u8_in _ (by omega)) rfl
      refine obls_cons rfl rfl (fun x wx hG hp => ?_) (fun y _ _ h k => by obtain ⟨g, h1, h2⟩ := h; exact ⟨g, h1, h2.keep k id⟩) ?_
      · try dsimp only
        have e5 : x 5 = .int .u8 (k : Int) := hp 5 (by decide)
        generalize x 5 = v5 at e5 ⊢
        subst e5
        clear hp
        refine pos_rows rfl Tryz.underlying22 info_u8 [.int .u8 (k : Int)] rfl (by intro u hu; simp only [List.mem_singleton] at hu; subst hu; rfl) rfl (bs [UInt8.ofNat k]) (by show [Value.int .u8 (k : Int)] = [Value.int .u8 ((UInt8.ofNat k).toNat : Int)]; rw [UInt8.toNat_ofNat', Nat.mod_eq_of_lt HLT.out]) (fun g w' _ _ hg => ⟨g, rfl, hg⟩)
      refine obls_cons rfl rfl (fun x wx hG hp => ?_) (fun y _ _ h k => h) ?_
      · try dsimp only
        have e6 : ∃ g, x 6 = .slice (some ⟨g, 0, none⟩) 1 1 ∧ Has wx g (bs [UInt8.ofNat k]) 5 := hp 6 (by decide)
        obtain ⟨ga, e6, HGA⟩ := e6
        generalize x 6 = v6 at e6 ⊢
        subst e6
        clear hp
        exact pos_v (exec_str rfl Tryz.underlying22 Tryz.underlying5 Tryz.underlying9 rfl (show RdB _ _ 1 _ from Rd.whole HGA)) rfl
      refine obls_cons rfl rfl (fun x wx hG hp => ?_) (fun y _ _ h k => by obtain ⟨g, h1, h2⟩ := h; exact ⟨g, h1, h2.keep k id⟩) ?_
      · try dsimp only
        have e3 : x 3 = .string (mkS l) := hp 3 (by decide)
        generalize x 3 = v3 at e3 ⊢
        subst e3
        have e7 : x 7 = .string (mkS [UInt8.ofNat k]) := hp 7 (by decide)
        generalize x 7 = v7 at e7 ⊢
        subst e7
        clear hp
        refine pos_rows rfl Tryz.underlying126 info_strg [.string (mkS l), .string (mkS [UInt8.ofNat k])] rfl (by intro u hu; simp only [List.mem_cons, List.not_mem_nil, or_false] at hu; rcases hu with rfl | rfl <;> rfl) rfl (ss [l, [UInt8.ofNat k]]) rfl (fun g w' _ _ hg => ⟨g, rfl, hg⟩)
      refine obls_cons rfl rfl (fun x wx hG hp => ?_) (fun y _ _ h k => h) ?_
      · try dsimp only
        have e2 : x 2 = .string (mkS (kPoint ++ lab.data.toList)) := hp 2 (by decide)
        generalize x 2 = v2 at e2 ⊢
        subst e2
        have e8 : ∃ g, x 8 = .slice (some ⟨g, 0, none⟩) 2 2 ∧ Has wx g (ss [l, [UInt8.ofNat k]]) 9 := hp 8 (by decide)
        obtain ⟨gb, e8, HGB⟩ := e8
        generalize x 8 = v8 at e8 ⊢
        subst e8
        clear hp
        refine pos_go rfl Tryz.call37 (vs := [.string (mkS (kPoint ++ lab.data.toList)), .slice (some ⟨gb, 0, none⟩) 2 2]) rfl ?_
        refine (tagR_any (mkS (kPoint ++ lab.data.toList)) (some ⟨gb, 0, none⟩) 2 [l, [UInt8.ofNat k]] _ (by have := HSZ.out; have := HLL.out; rw [mkS_size]; simp only [List.length_append, sumL, List.map_cons, List.map_nil, List.foldr_cons, List.foldr_nil, List.length_cons, List.length_nil, kPoint, size_list]; omega) (by simp) (by have h := Rd.whole HGB; exact h)).mono ?_
        rintro e w' ⟨rfl, hf⟩
        exact ⟨_, rfl, hf, by show Value.string _ = Value.string _; rw [mkS_toList, HT.out]⟩
      refine obls_cons rfl rfl (fun x wx hG hp => ?_) (fun y _ _ h k => h) ?_
      · try dsimp only
        have e0 : x 0 = fv mP.M := hp 0 (by decide)
        generalize x 0 = v0 at e0 ⊢
        subst e0
        have e9 : x 9 = .string (mkS T) := hp 9 (by decide)
        generalize x 9 = v9 at e9 ⊢
        subst e9
        clear hp
        refine pos_go rfl Tryz.call15 (vs := [fv mP.M, .string (mkS T)]) rfl ?_
        refine (RNumP_u T _).mono ?_
        rintro e w' ⟨N, rfl, hN, hf⟩
        rw [HB.out] at hN ⊢
        exact ⟨_, rfl, hf, N, rfl, hN⟩
      refine obls_cons rfl rfl (fun x wx hG hp => ?_) (fun y _ _ h k => h) ?_
      · try dsimp only
        have e10 : ∃ N : Nat, x 10 = .tuple #[i4 N, .bool b] ∧ (b = true → N = beN T) := hp 10 (by decide)
        obtain ⟨N, e10, HNN⟩ := e10
        generalize x 10 = v10 at e10 ⊢
        subst e10
        clear hp
        exact pos_v (v := .tuple #[i4 N, .bool b]) (by go_simp; try with_reducible rfl) ⟨N, rfl, HNN⟩
      refine obls_cons rfl rfl (fun x wx hG hp => ?_) (fun y _ _ h k => h) ?_
      · try dsimp only
        have e11 : ∃ N : Nat, x 11 = .tuple #[i4 N, .bool b] ∧ (b = true → N = beN T) := hp 11 (by decide)
        obtain ⟨N, e11, HNN⟩ := e11
        generalize x 11 = v11 at e11 ⊢
        subst e11
        clear hp
        exact pos_v (v := i4 N) (by go_simp; try with_reducible rfl) ⟨N, rfl, HNN⟩
      refine obls_loose rfl rfl (fun x wx hG hp => ?_) (fun y _ _ h k => h) ?_
      · try dsimp only
        have e11 : ∃ N : Nat, x 11 = .tuple #[i4 N, .bool b] ∧ (b = true → N = beN T) := hp 11 (by decide)
        obtain ⟨N, e11, HNN⟩ := e11
        generalize x 11 = v11 at e11 ⊢
        subst e11
        clear hp
        exact ⟨.bool b, fun wx => by go_simp; try with_reducible rfl, rfl⟩
      refine obls_cons rfl rfl (fun x wx hG hp => ?_) (fun y _ _ h k => by obtain ⟨g, h1, h2, h3⟩ := h; exact ⟨g, h1, h2.keep k id, h3⟩) ?_
      · try dsimp only
        clear hp
        exact pos_alloc rfl z_rn (cw 4 0) rfl (fun g w' _ hle hg => ⟨g, rfl, hg, Nat.le_trans hG.2.size hle⟩)
      exact trivial
      intro x w2 hG hp
      try dsimp only
      have e12 : ∃ N : Nat, x 12 = i4 N ∧ (b = true → N = beN T) := hp 12 (by decide)
      obtain ⟨N, e12, HNN⟩ := e12
      generalize x 12 = v12 at e12 ⊢
      subst e12
      have e13 : x 13 = .bool b := hp 13 (by decide)
      generalize x 13 = v13 at e13 ⊢
      subst e13
      have e14 : ∃ g, x 14 = .pointer (some ⟨g, 0, none⟩) ∧ Has w2 g (cw 4 0) 32 ∧ (World.drew wr).heap.size ≤ g := hp 14 (by decide)
      obtain ⟨ga14, e14, HG14, HL14⟩ := e14
      generalize x 14 = v14 at e14 ⊢
      subst e14
      clear hp
      generalize x 0 = v0
      generalize x 1 = v1
      generalize x 2 = v2
      generalize x 3 = v3
      generalize x 4 = v4
      generalize x 5 = v5
      generalize x 6 = v6
      generalize x 7 = v7
      generalize x 8 = v8
      generalize x 9 = v9
      generalize x 10 = v10
      generalize x 11 = v11
      have st2 := hd1.new hG.2 HG14 HL14
      try simp only [List.cons_append, List.nil_append] at st2
      clear HL14 HG14
      clear hG hd1
      refine plan_m rfl rfl ?_
      refine wp_storeS st2 1 rfl rfl rfl rfl (by first | (simp only [cw_len]; done) | (simp only [List.length_append, cw_len, RT.len, rpL_len]; done)) (by first | (rw [cw_len]; kernel_rfl) | (rw [RT.len]; kernel_rfl) | (rw [rpL_len]; kernel_rfl) | (simp only [List.length_append, cw_len]; kernel_rfl) | (simp only [List.length_append, cw_len, RT.len, rpL_len]; kernel_rfl)) (cw_one _ _) ?_
      intro w3 st3
      try simp only [List.set_cons_zero, List.set_cons_succ] at st3
      clear st2
      try simp only [Act.put]
      refine plan_w (v := ?_) rfl rfl (fun wx => ?_) ?_
      rotate_left 1
      · (go_simp; with_reducible rfl)
      try simp only [Act.put, List.setIfInBounds_toArray, List.set_cons_zero, List.set_cons_succ]
      refine plan_end ?_
      refine NoPanic.normal ?_
      have HNE := Lib.hid HNN
      clear HNN
      rcases b with _ | _
      · skip
        have HC := Lib.hid (show candT lab.data.toList l k = none from candT_no HN.out fun h => by have h3 := numB_yes (HTL.out) h.1; rw [HB.out] at h3; cases h3)
        go_wp2_with fail
        go_roundw
        case rel => exact ⟨k + 1, by have := HLT.out; omega, by go_num, by rw [candL_no HC.out]; exact HN0.out, St.less st3 (by simp)⟩
        case measure => have := HLT.out; simp [intOf]; omega
      · have hlt := HBB.out rfl
        obtain rfl : N = beN T := HNE.out rfl
        clear HNE HBB
        generalize beN T = n at *
        have HLN := Lib.hid hlt
        clear hlt
        rcases hr : rtOk fP (crvN n) with _ | _
        · have HR := Lib.hid hr
          clear hr
          go_wp2_with (with_reducible refine wl_stop (o := ⟨some 30, _, _, _, _, _⟩) ?_)
          refine wl_loadS st3 1 rfl rfl rfl Tryz.underlying32 rfl (by first | (rw [cw_len]; kernel_rfl) | (rw [RT.len]; kernel_rfl) | (rw [rpL_len]; kernel_rfl) | (simp only [List.length_append, cw_len]; kernel_rfl) | (simp only [List.length_append, cw_len, RT.len, rpL_len]; kernel_rfl)) ?_
          go_wp2_with fail
          refine (RAt2_f n HLN.out HR.out _).mono ?_
          rintro e' w4 ⟨rfl, hf4⟩
          have st4 := st3.keep hf4
          clear st3 hf4
          go_wp2_with (with_reducible refine wl_stop (o := ⟨some 8, _, _, _, _, _⟩) ?_)
          refine wl_allocS st4 rfl rfl (z := .agg #[.int .u64 0, .int .u64 0, .int .u64 0, .int .u64 0, .int .u64 0, .int .u64 0, .int .u64 0, .int .u64 0, .int .u64 0, .int .u64 0, .int .u64 0, .int .u64 0]) (by kernel_rfl) (cw 12 0) (by rw [cw_zero]; rfl) ?_
          intro g8 w5 st5
          clear st4
          go_wp2_with (with_reducible refine wl_stop (o := ⟨none, _, _, _, _, _⟩) ?_)
          refine wl_storeS st5 2 rfl rfl rfl rfl rfl (by first | (simp only [cw_len]; done) | (simp only [List.length_append, cw_len, RT.len, rpL_len]; done)) (by first | (rw [cw_len]; kernel_rfl) | (simp only [rpL_len]; kernel_rfl)) (rpL_oneH _ _ _) ?_
          intro w6 st6
          clear st5
          have HC := Lib.hid (show candT lab.data.toList l k = none from candT_no HN.out fun h => by rw [mP_fP, HR.out] at h; exact absurd h.2 (by decide))
          go_wp2_with fail
          go_roundw
          case rel => exact ⟨k + 1, by have := HLT.out; omega, by go_num, by rw [candL_no HC.out]; exact HN0.out, St.less st6 (by simp)⟩
          case measure => have := HLT.out; simp [intOf]; omega
        · have HR := Lib.hid hr
          clear hr
          go_wp2_with (with_reducible refine wl_stop (o := ⟨some 30, _, _, _, _, _⟩) ?_)
          refine wl_loadS st3 1 rfl rfl rfl Tryz.underlying32 rfl (by first | (rw [cw_len]; kernel_rfl) | (rw [RT.len]; kernel_rfl) | (rw [rpL_len]; kernel_rfl) | (simp only [List.length_append, cw_len]; kernel_rfl) | (simp only [List.length_append, cw_len, RT.len, rpL_len]; kernel_rfl)) ?_
          go_wp2_with fail
          refine (RAt2_t n HLN.out HR.out _).mono ?_
          rintro e' w4 ⟨rfl, hf4⟩
          have st4 := st3.keep hf4
          clear st3 hf4
          go_wp2_with (with_reducible refine wl_stop (o := ⟨some 8, _, _, _, _, _⟩) ?_)
          refine wl_allocS st4 rfl rfl (z := .agg #[.int .u64 0, .int .u64 0, .int .u64 0, .int .u64 0, .int .u64 0, .int .u64 0, .int .u64 0, .int .u64 0, .int .u64 0, .int .u64 0, .int .u64 0, .int .u64 0]) (by kernel_rfl) (cw 12 0) (by rw [cw_zero]; rfl) ?_
          intro g8 w5 st5
          clear st4
          go_wp2_with (with_reducible refine wl_stop (o := ⟨none, _, _, _, _, _⟩) ?_)
          refine wl_storeS st5 2 rfl rfl rfl rfl rfl (by first | (simp only [cw_len]; done) | (simp only [List.length_append, cw_len, RT.len, rpL_len]; done)) (by first | (rw [cw_len]; kernel_rfl) | (simp only [rpL_len]; kernel_rfl)) (rpL_oneH _ _ _) ?_
          intro w6 st6
          clear st5
          have HH := Lib.hid (hashR_yes HLT.out HN.out HLN.out HR.out HN0.out)
          go_wp2_with (with_reducible refine wl_stop (o := ⟨some 35, _, _, _, _, _⟩) ?_)
          refine wl_loadSt st6 2 rfl rfl rfl Tryz.underlying34 rfl rfl (by first | (rw [cw_len]; kernel_rfl) | (simp only [rpL_len]; kernel_rfl)) ?_
          go_wp2_with (with_reducible refine wl_stop (o := ⟨none, _, _, _, _, _⟩) ?_)
          refine wl_storeS st6 0 rfl rfl rfl rfl rfl (by first | (simp only [cw_len]; done) | (simp only [List.length_append, cw_len, RT.len, rpL_len]; done)) (by first | (rw [cw_len]; kernel_rfl) | (simp only [rpL_len]; kernel_rfl)) (rpL_oneH _ _ _) ?_
          intro w7 st7
          clear st6
          have hr := st7.at 0 rfl
          have hfr := st7.fr
          clear st7
          go_wp2_with fail
          exact bodyPost_ret (results_st rfl rfl hr Tryz.underlying34 rfl (by first | (rw [cw_len]; kernel_rfl) | (simp only [rpL_len]; kernel_rfl))) rfl ⟨by rw [HH.out], hfr⟩
    · have hk3 : k = 256 := by omega
      subst hk3
      have hge : ¬ (((256 : Nat) : Int) < 256) := by omega
      have HH := Lib.hid (hashR_base HN0.out)
      go_wp2_with fail
      refine (RG_c _).mono ?_
      rintro e' w2 ⟨rfl, hf2⟩
      have st2 := st.keep hf2
      clear st hf2
      go_wp2_with (with_reducible refine wl_stop (o := ⟨none, _, _, _, _, _⟩) ?_)
      refine wl_storeS st2 0 rfl rfl rfl rfl rfl (by first | (simp only [cw_len]; done) | (simp only [List.length_append, cw_len, RT.len, rpL_len]; done)) (by first | (rw [cw_len]; kernel_rfl) | (simp only [RT.len]; kernel_rfl)) (RT.one _) ?_
      intro w3 st3
      clear st2
      have hr := st3.at 0 rfl
      have hfr := st3.fr
      clear st3
      go_wp2_with fail
      exact bodyPost_ret (results_st rfl rfl hr Tryz.underlying34 rfl (by first | (rw [cw_len]; kernel_rfl) | (simp only [RT.len]; kernel_rfl))) rfl ⟨by rw [HH.out, baseR_L], hfr⟩

attribute [local irreducible] hashR
noncomputable def hRR : RT := hashR kValue []
theorem RH_s (w : World) : Calls Tryz.prog 13 #[.string ⟨#[118, 97, 108, 117, 101]⟩, .string ⟨#[]⟩] w fun e w' => e = .returned (.agg hRR.L.toArray) ∧ Fr Nob w w' := by
  have h := RHashTo_c ⟨#[118, 97, 108, 117, 101]⟩ [] (by decide) (by decide) w
  rw [mkS_nil, show (⟨#[118, 97, 108, 117, 101]⟩ : ByteArray).data.toList = kValue from rfl] at h
  unfold hRR
  exact h

set_option maxHeartbeats 16000000 in
set_option maxRecDepth 1000000 in
theorem RH_c (w : World) : Calls Tryz.prog 42 #[] w fun e w' => e = .returned (.agg hRR.L.toArray) ∧ Fr Nob w w' := by
  have st0 := St.start Nob w
  go_enter Tryz.func42, Tryz.ntmps42
  go_wp2_with (with_reducible refine wl_stop (o := ⟨some 0, _, _, _, _, _⟩) ?_)
  refine wl_allocS st0 rfl rfl (z := .agg #[.int .u64 0, .int .u64 0, .int .u64 0, .int .u64 0, .int .u64 0, .int .u64 0, .int .u64 0, .int .u64 0, .int .u64 0, .int .u64 0, .int .u64 0, .int .u64 0]) (by kernel_rfl) (cw 12 0) (by rw [cw_zero]; rfl) ?_
  intro g0 w1 st1
  clear st0
  go_wp2_with fail
  refine (RH_s _).mono ?_
  rintro e' w2 ⟨rfl, hf2⟩
  have st2 := st1.keep hf2
  clear st1 hf2
  go_wp2_with (with_reducible refine wl_stop (o := ⟨none, _, _, _, _, _⟩) ?_)
  refine wl_storeS st2 0 rfl rfl rfl rfl rfl (by first | (simp only [cw_len]; done) | (simp only [List.length_append, cw_len, RT.len, rpL_len]; done)) (by first | (rw [cw_len]; kernel_rfl) | (simp only [RT.len]; kernel_rfl)) (RT.one _) ?_
  intro w3 st3
  clear st2
  have hr := st3.at 0 rfl
  have hfr := st3.fr
  clear st3
  go_wp2_with fail
  exact bodyPost_ret (results_st rfl rfl hr Tryz.underlying34 rfl (by first | (rw [cw_len]; kernel_rfl) | (simp only [RT.len]; kernel_rfl))) rfl ⟨rfl, hfr⟩

set_option maxHeartbeats 16000000 in
set_option maxRecDepth 1000000 in
theorem RCommit_c (a b : Nat) (w : World) : Calls Tryz.prog 16 #[i4 a, i4 b] w fun e w' => e = .returned (.agg (addR (timesR a hRR) (timesR b baseR)).L.toArray) ∧ Fr Nob w w' := by
  have st0 := St.start Nob w
  go_enter Tryz.func16, Tryz.ntmps16
  go_wp2_with (with_reducible refine wl_stop (o := ⟨some 2, _, _, _, _, _⟩) ?_)
  refine wl_boxS st0 rfl rfl rfl (cw 4 a) rfl ?_
  intro g2 w1 st1
  clear st0
  go_wp2_with (with_reducible refine wl_stop (o := ⟨some 3, _, _, _, _, _⟩) ?_)
  refine wl_boxS st1 rfl rfl rfl (cw 4 b) rfl ?_
  intro g3 w2 st2
  clear st1
  go_wp2_with (with_reducible refine wl_stop (o := ⟨some 4, _, _, _, _, _⟩) ?_)
  refine wl_allocS st2 rfl rfl (z := .agg #[.int .u64 0, .int .u64 0, .int .u64 0, .int .u64 0, .int .u64 0, .int .u64 0, .int .u64 0, .int .u64 0, .int .u64 0, .int .u64 0, .int .u64 0, .int .u64 0]) (by kernel_rfl) (cw 12 0) (by rw [cw_zero]; rfl) ?_
  intro g4 w3 st3
  clear st2
  go_wp2_with fail
  refine wp_region_noPanic ?_
  refine wp_region_lad st3 7 [.t 0, .t 3, .c 1, .c 2, .c 4, .c 5, .c 6] (.m 7 .nil) (by kernel_rfl) (by kernel_rfl) (fun _ _ _ _ _ h => h) ?_
  clear st3
  refine lad_arr rfl rfl rfl (fun _ => rfl) (cw 4 a) (fun wx hS => St.rangeL hS 0 rfl 0 _ (by rw [List.drop_zero, List.take_of_length_le (Nat.le_refl _)])) Tryz.underlying32 rfl (by first | (rw [cw_len]; kernel_rfl) | (rw [RT.len]; kernel_rfl) | (rw [rpL_len]; kernel_rfl) | (simp only [List.length_append, cw_len]; kernel_rfl) | (simp only [List.length_append, cw_len, RT.len, rpL_len]; kernel_rfl)) ?_
  try simp only [Act.put, List.setIfInBounds_toArray, List.set_cons_zero, List.set_cons_succ]
  refine lad_arr rfl rfl rfl (fun _ => rfl) (cw 4 b) (fun wx hS => St.rangeL hS 1 rfl 0 _ (by rw [List.drop_zero, List.take_of_length_le (Nat.le_refl _)])) Tryz.underlying32 rfl (by first | (rw [cw_len]; kernel_rfl) | (rw [RT.len]; kernel_rfl) | (rw [rpL_len]; kernel_rfl) | (simp only [List.length_append, cw_len]; kernel_rfl) | (simp only [List.length_append, cw_len, RT.len, rpL_len]; kernel_rfl)) ?_
  try simp only [Act.put, List.setIfInBounds_toArray, List.set_cons_zero, List.set_cons_succ]
  refine lad_call rfl rfl rfl Tryz.call42 (fun w hS hR => RH_c _) (fun _ => rfl) ?_
  try simp only [Act.put, List.setIfInBounds_toArray, List.set_cons_zero, List.set_cons_succ]
  refine lad_call rfl rfl rfl Tryz.call41 (fun w hS hR => RTimes_c a hRR _) (fun _ => rfl) ?_
  try simp only [Act.put, List.setIfInBounds_toArray, List.set_cons_zero, List.set_cons_succ]
  refine lad_call rfl rfl rfl Tryz.call11 (fun w hS hR => RG_c _) (fun _ => rfl) ?_
  try simp only [Act.put, List.setIfInBounds_toArray, List.set_cons_zero, List.set_cons_succ]
  refine lad_call rfl rfl rfl Tryz.call41 (fun w hS hR => RTimes_c b baseR _) (fun _ => rfl) ?_
  try simp only [Act.put, List.setIfInBounds_toArray, List.set_cons_zero, List.set_cons_succ]
  refine lad_call rfl rfl rfl Tryz.call40 (fun w hS hR => RPlus_c (timesR a hRR) (timesR b baseR) _) (fun _ => rfl) ?_
  try simp only [Act.put, List.setIfInBounds_toArray, List.set_cons_zero, List.set_cons_succ]
  refine lad_end fun xq w4 st4 hR => ?_
  try dsimp only
  clear hR xq
  refine plan_m rfl rfl ?_
  refine wp_storeS st4 2 rfl rfl rfl rfl (by first | (simp only [cw_len]; done) | (simp only [List.length_append, cw_len, RT.len, rpL_len]; done)) (by first | (rw [cw_len]; kernel_rfl) | (simp only [RT.len]; kernel_rfl)) (RT.one _) ?_
  intro w5 st5
  repeat (first | simp only [List.cons_append] at st5 | simp only [List.nil_append] at st5 | simp only [List.set_cons_succ] at st5 | simp only [List.set_cons_zero] at st5)
  clear st4
  try simp only [Act.put]
  refine plan_end ?_
  refine NoPanic.normal ?_
  have hr := st5.at 2 rfl
  have hfr := st5.fr
  clear st5
  go_wp2_with fail
  exact bodyPost_ret (results_st rfl rfl hr Tryz.underlying34 rfl (by first | (rw [cw_len]; kernel_rfl) | (simp only [RT.len]; kernel_rfl))) rfl ⟨rfl, hfr⟩
end Go.Proofs.YtdbgddngapminaaGreat

/- The law GroupHides. -/
namespace Go.Proofs.YtdbgddngapminaaGreat
open Go.RowKit Go.Mv Mvp Mvq
def cmE (lv lr : List UInt8) : Int := if numB mQ lv && numB mQ lr then 0 else 3
noncomputable def cmS (lv lr : List UInt8) : List UInt8 := if numB mQ lv && numB mQ lr then wrPt (padd (pmul (beN lv) hTT.pt) (pmul (beN lr) gP)) else []
theorem cm_ok {lv lr : List UInt8} (h1 : numB mQ lv = true) (h2 : numB mQ lr = true) : cmE lv lr = 0 ∧ cmS lv lr = wrPt (padd (pmul (beN lv) hTT.pt) (pmul (beN lr) gP)) := by unfold cmE cmS; rw [h1, h2]; exact ⟨rfl, rfl⟩
theorem cm_no {lv lr : List UInt8} (h : (numB mQ lv && numB mQ lr) = false) : cmE lv lr = 3 ∧ cmS lv lr = [] := by unfold cmE cmS; rw [h]; exact ⟨rfl, rfl⟩
attribute [local irreducible] hTT hRR hashT hashR PT.pt baseT
theorem Commit_u (vv vr : Value) (lv lr : List UInt8) (w : World) (h1 : BPart w vv lv) (h2 : BPart w vr lr) :
    Calls Tryz.prog 9 #[vv, vr] w fun e w' => ∃ v, e = .returned (.tuple #[v, .int .i64 (cmE lv lr)]) ∧ BPart w' v (cmS lv lr) ∧ Fr Nob w w' := by
  have hno : ∀ {w w' : World}, (numB mQ lv && numB mQ lr) = false → BPart w' (.slice none 0 0) (cmS lv lr) := fun h => by
    rw [(cm_no h).2]
    exact ⟨none, 0, 0, rfl, Nat.le_refl _, RdB.nil _ _⟩
  cases hv : numB mQ lv with
  | false => cases hr : numB mQ lr with
    | false =>
      have hn : (numB mQ lv && numB mQ lr) = false := by rw [hv]; rfl
      refine (Commit_ff vv vr lv lr w h1 h2 hv hr).mono ?_
      rintro e w' ⟨rfl, hf⟩
      exact ⟨_, by rw [(cm_no hn).1], hno (w := w) hn, hf⟩
    | true =>
      have hn : (numB mQ lv && numB mQ lr) = false := by rw [hv]; rfl
      refine (Commit_ft vv vr lv lr w h1 h2 hv hr).mono ?_
      rintro e w' ⟨rfl, hf⟩
      exact ⟨_, by rw [(cm_no hn).1], hno (w := w) hn, hf⟩
  | true => cases hr : numB mQ lr with
    | false =>
      have hn : (numB mQ lv && numB mQ lr) = false := by rw [hv, hr]; rfl
      refine (Commit_tf vv vr lv lr w h1 h2 hv hr).mono ?_
      rintro e w' ⟨rfl, hf⟩
      exact ⟨_, by rw [(cm_no hn).1], hno (w := w) hn, hf⟩
    | true =>
      refine (Commit_tt vv vr lv lr w h1 h2 hv hr).mono ?_
      rintro e w' ⟨v, rfl, ho, hf⟩
      have e1 : (sumT [(beN lv, hTT), (beN lr, baseT)]).pt = padd (pmul (beN lv) hTT.pt) (pmul (beN lr) gP) := by
        rw [sumT_pt _ (by
          intro t ht
          simp only [List.mem_cons, List.not_mem_nil, or_false] at ht
          rcases ht with rfl | rfl
          · exact Nat.lt_trans (numB_lt2 hv) (by decide)
          · exact Nat.lt_trans (numB_lt2 hr) (by decide))]
        show padd (pmul (beN lv) hTT.pt) (padd (pmul (beN lr) baseT.pt) .O) = _
        rw [padd_zero, baseT_pt]
        rfl
      rw [e1] at ho
      refine ⟨v, by rw [(cm_ok hv hr).1], ?_, hf⟩
      rw [(cm_ok hv hr).2]
      exact BPart.ofOwn ho
theorem cm_pt {lv lr : List UInt8} (hv : numB mQ lv = true) (hr : numB mQ lr = true) : (addR (timesR (beN lv) hRR) (timesR (beN lr) baseR)).pt = padd (pmul (beN lv) hTT.pt) (pmul (beN lr) gP) := by
  rw [addR_pt, timesR_pt _ (Nat.lt_trans (numB_lt2 hv) (by decide)), timesR_pt _ (Nat.lt_trans (numB_lt2 hr) (by decide)), baseR_pt]
  unfold hRR hTT
  rw [hashR_pt]
  rfl
theorem RHashTo_s (lab s : ByteArray) (h1 : lab.size ≤ 4096) (h2 : s.size ≤ 4096) (w : World) : Calls Tryz.prog 13 #[.string lab, .string s] w fun e w' => e = .returned (.agg (hashR lab.data.toList s.data.toList).L.toArray) ∧ Fr Nob w w' := by
  have h := RHashTo_c lab s.data.toList (by omega) (by rw [size_list]; omega) w
  rwa [mkS_data] at h
attribute [local irreducible] limbs lw mix cw cSub cAdd cMul foldC valFrom beN laid be32 powm montT mstep elN mdL numB rtV rtOk kN kc kinv wrPt addR noR timesR tmsR RT.L gXn gYn rpL rdOk rdPt tagL hB hN candT candL mkS cmS cmE
set_option maxHeartbeats 16000000 in
set_option maxRecDepth 1000000 in
theorem law_GroupHides_k (lab s v r : ByteArray) (w : World) (hl : lab.size ≤ 4096) (hs : s.size ≤ 4096) (hv : v.size ≤ 4096) (hr : r.size ≤ 4096) :
    Calls Tryz.prog 3 #[.string lab, .string s, .string v, .string r] w fun e w' => e = .returned (.bool true) ∧ Fr Nob w w' := by
  have hIl : ¬ ((4096 : Int) < (lab.size : Int)) := by omega
  have hIs : ¬ ((4096 : Int) < (s.size : Int)) := by omega
  have hIv : ¬ ((4096 : Int) < (v.size : Int)) := by omega
  have hIr : ¬ ((4096 : Int) < (r.size : Int)) := by omega
  have HSl := Lib.hid hl
  have HSs := Lib.hid hs
  have HSv := Lib.hid hv
  have HSr := Lib.hid hr
  clear hl hs hv hr
  have st0 := St.start Nob w
  go_enter Tryz.func3, Tryz.ntmps3
  go_wp2_with fail
  refine (lent_any s _ (by have := HSs.out; omega)).mono ?_
  rintro e' w1 ⟨rfl, hgs, hfs, hzs⟩
  have st1 := st0.keep hfs
  clear hzs st0
  generalize w.heap.size = gi at *
  have hrds : RdB w1 (some ⟨gi, 0, none⟩) (s.size + 160) (lentL s.data.toList) := by
    have := Rd.whole hgs
    rwa [length_bs, lentL_len, size_list] at this
  have HR := Lib.hid hrds
  have hltg := hgs.lt
  have HP : Hid (PartIs w1 (.slice (some ⟨gi, 0, none⟩) s.size (s.size + 160)) s.data.toList) := Lib.hid ⟨_, _, _, rfl, by omega, by have := HSs.out; omega, by
    have h := RdB.front HR.out s.size (by omega)
    rwa [lentL_take] at h, fun x hx => by simp only [Option.some.injEq] at hx; subst hx; exact hltg⟩
  clear hgs hrds hfs hltg
  have k1 := fun wx => run_slice_hi (P := Tryz.prog) wx Tryz.underlying22 size_u8 (some ⟨gi, 0, none⟩) (s.size + 160) (s.size + 160) .i64 s.size (by omega)
  have hci : (s.size : Int) ≤ (s.size : Int) + 160 := by omega
  go_wp2_with fail
  refine (GBase_u _).mono ?_
  rintro e' w2 ⟨v0, rfl, ho, hf⟩
  have st2 := st1.keep hf
  replace HR := Lib.hid (HR.out.still hf)
  replace HP := Lib.hid (HP.out.still hf)
  have HV0 := Lib.hid ho.part
  clear ho
  clear hf st1
  go_wp2_with fail
  refine (HashTo_u lab (by have := HSl.out; omega) _ s.data.toList _ HP.out).mono ?_
  rintro e' w3 ⟨v1, rfl, ho, hf⟩
  have st3 := st2.keep hf
  replace HR := Lib.hid (HR.out.still hf)
  replace HP := Lib.hid (HP.out.still hf)
  replace HV0 := Lib.hid (HV0.out.still hf)
  have HV1 := Lib.hid ho.part
  clear ho
  clear hf st2
  go_wp2_with (with_reducible refine wl_stop (o := ⟨some 57, _, _, _, _, _⟩) ?_)
  refine wl_bytes (q := v) rfl rfl Tryz.underlying9 Tryz.underlying22 Tryz.underlying5 rfl (by have := HSv.out; unfold maxLen; omega) 0 (Nat.zero_le _) ?_
  intro capv w4 ho hf hz
  have st4 := st3.keep hf
  replace HR := Lib.hid (HR.out.still hf)
  replace HV0 := Lib.hid (HV0.out.still hf)
  replace HV1 := Lib.hid (HV1.out.still hf)
  clear hz
  have HPv := Lib.hid (BPart.ofOwn ho)
  clear ho
  clear hf st3
  go_wp2_with (with_reducible refine wl_stop (o := ⟨some 59, _, _, _, _, _⟩) ?_)
  refine wl_bytes (q := r) rfl rfl Tryz.underlying9 Tryz.underlying22 Tryz.underlying5 rfl (by have := HSr.out; unfold maxLen; omega) 0 (Nat.zero_le _) ?_
  intro capr w5 ho hf hz
  have st5 := st4.keep hf
  replace HR := Lib.hid (HR.out.still hf)
  replace HV0 := Lib.hid (HV0.out.still hf)
  replace HV1 := Lib.hid (HV1.out.still hf)
  replace HPv := Lib.hid (HPv.out.still hf)
  clear hz
  have HPr := Lib.hid (BPart.ofOwn ho)
  clear ho
  clear hf st4
  go_wp2_with fail
  refine (Commit_u _ _ v.data.toList r.data.toList _ HPv.out HPr.out).mono ?_
  rintro e' w6 ⟨v2, rfl, ho, hf⟩
  have st6 := st5.keep hf
  replace HR := Lib.hid (HR.out.still hf)
  replace HV0 := Lib.hid (HV0.out.still hf)
  replace HV1 := Lib.hid (HV1.out.still hf)
  replace HPv := Lib.hid (HPv.out.still hf)
  replace HPr := Lib.hid (HPr.out.still hf)
  have HV2 := Lib.hid ho
  clear ho
  clear hf st5
  clear HPv HPr HP
  go_wp2_with fail
  refine (still_any _ _ _ _ s _ (by have := HSs.out; omega) HR.out).mono ?_
  rintro e' w7 ⟨rfl, hf⟩
  have st7 := st6.keep hf
  replace HV0 := Lib.hid (HV0.out.still hf)
  replace HV1 := Lib.hid (HV1.out.still hf)
  replace HV2 := Lib.hid (HV2.out.still hf)
  rw [decide_eq_true rfl]
  clear hf st6
  clear HR k1 hci
  replace HV0 := Lib.hid (HV0.out.still (Fr.refl Nob _).drew)
  go_wp2_with fail
  refine wp_region_noPanic ?_
  have hd7 := st7.drew
  clear st7
  refine wp_region_posA (fun wx => St Nob w wx [] ∧ Fr Nob (World.drew _) wx) [0, 1, 2, 3, 4, 5] [] (fun i => match i with | 0 => [] | 1 => [0] | 2 => [] | 3 => [2] | 4 => [1, 3] | 5 => [4] | _ => []) (fun i x wx => match i with | 0 => x 0 = v0 | 1 => x 1 = .string (mkS (wrPt gP)) | 2 => x 2 = .agg baseR.L.toArray | 3 => x 3 = .string (mkS (wrPt gP)) | 4 => x 4 = .bool false | 5 => x 5 = .bool false | _ => True) 8 (.w 6 (.w 7 (.m 8 .nil))) ?_ (fun x => ?_) (by kernel_rfl) (by kernel_rfl) (fun _ _ _ _ _ h => h) ⟨hd7, Fr.refl _ _⟩ (fun _ _ h k => ⟨h.1.keep k, h.2.then k⟩) ?_ ?_
  rotate_left 1
  · simp only [puts, putI, Act.put, List.getElem?_toArray, List.getElem?_cons_zero, List.getElem?_cons_succ, List.setIfInBounds_toArray, List.set_cons_zero, List.set_cons_succ]
    exact rfl
  refine obls_cons rfl rfl (fun x wx hG hp => ?_) (fun y _ _ h k => h) ?_
  · try dsimp only
    clear hp
    exact pos_v (v := v0) (by go_simp; try with_reducible rfl) rfl
  refine obls_cons rfl rfl (fun x wx hG hp => ?_) (fun y _ _ h k => h) ?_
  · try dsimp only
    have e0 : x 0 = v0 := hp 0 (by decide)
    generalize x 0 = v0 at e0 ⊢
    subst e0
    clear hp
    obtain ⟨a0, n0, c0, rfl, -, hr0⟩ := HV0.out.still hG.2
    exact pos_v (exec_str rfl Tryz.underlying22 Tryz.underlying5 Tryz.underlying9 rfl hr0) rfl
  refine obls_cons rfl rfl (fun x wx hG hp => ?_) (fun y _ _ h k => h) ?_
  · try dsimp only
    clear hp
    refine pos_go rfl Tryz.call11 (vs := []) rfl ?_
    refine (RG_c _).mono ?_
    rintro e w' ⟨rfl, hf⟩
    exact ⟨_, rfl, hf, rfl⟩
  refine obls_cons rfl rfl (fun x wx hG hp => ?_) (fun y _ _ h k => h) ?_
  · try dsimp only
    have e2 : x 2 = .agg baseR.L.toArray := hp 2 (by decide)
    generalize x 2 = v2 at e2 ⊢
    subst e2
    clear hp
    refine pos_go rfl Tryz.call12 (vs := [.agg baseR.L.toArray]) rfl ?_
    refine (RWritten_c baseR _).mono ?_
    rintro e w' ⟨rfl, hf⟩
    exact ⟨_, rfl, hf, by rw [baseR_pt]; rfl⟩
  refine obls_cons rfl rfl (fun x wx hG hp => ?_) (fun y _ _ h k => h) ?_
  · try dsimp only
    have e1 : x 1 = .string (mkS (wrPt gP)) := hp 1 (by decide)
    generalize x 1 = v1 at e1 ⊢
    subst e1
    have e3 : x 3 = .string (mkS (wrPt gP)) := hp 3 (by decide)
    generalize x 3 = v3 at e3 ⊢
    subst e3
    clear hp
    exact pos_v (v := .bool false) (by go_simp; try simp) rfl
  refine obls_cons rfl rfl (fun x wx hG hp => ?_) (fun y _ _ h k => h) ?_
  · try dsimp only
    have e4 : x 4 = .bool false := hp 4 (by decide)
    generalize x 4 = v4 at e4 ⊢
    subst e4
    clear hp
    exact pos_v (v := .bool false) (by go_simp; try with_reducible rfl) rfl
  exact trivial
  intro x w8 hG hp
  try dsimp only
  have e5 : x 5 = .bool false := hp 5 (by decide)
  generalize x 5 = v5 at e5 ⊢
  subst e5
  clear hp
  generalize x 0 = v0
  generalize x 1 = v1
  generalize x 2 = v2
  generalize x 3 = v3
  generalize x 4 = v4
  have st8 := hG.1
  have FZ := Lib.hid hG.2
  clear hG hd7
  refine plan_g (v := ?_) rfl (by rfl) (fun wx => ?_) ?_
  rotate_left 1
  · (go_simp; with_reducible rfl)
  try simp only [Act.put, List.setIfInBounds_toArray, List.set_cons_zero, List.set_cons_succ]
  refine plan_g (v := ?_) rfl (by rfl) (fun wx => ?_) ?_
  rotate_left 1
  · (go_simp; with_reducible rfl)
  try simp only [Act.put, List.setIfInBounds_toArray, List.set_cons_zero, List.set_cons_succ]
  refine plan_m rfl rfl ?_
  go_simp
  try simp only [Act.put, List.setIfInBounds_toArray, List.set_cons_zero, List.set_cons_succ]
  refine plan_end ?_
  refine NoPanic.normal ?_
  replace HV1 := Lib.hid ((HV1.out.still (Fr.refl Nob _).drew).still FZ.out)
  replace HV2 := Lib.hid ((HV2.out.still (Fr.refl Nob _).drew).still FZ.out)
  clear FZ HV0
  have FW := Lib.hid st8.fr
  clear st8
  have stB := St.start Nob w8
  go_wp2_with fail
  refine (RHashTo_s lab s HSl.out HSs.out _).mono ?_
  rintro e' w9 ⟨rfl, hf9⟩
  have st9 := stB.keep hf9
  clear stB hf9
  go_wp2_with (with_reducible refine wl_stop (o := ⟨some 16, _, _, _, _, _⟩) ?_)
  refine wl_allocS st9 rfl rfl (z := .agg #[.int .u64 0, .int .u64 0, .int .u64 0, .int .u64 0, .int .u64 0, .int .u64 0, .int .u64 0, .int .u64 0, .int .u64 0, .int .u64 0, .int .u64 0, .int .u64 0]) (by kernel_rfl) (cw 12 0) (by rw [cw_zero]; rfl) ?_
  intro g16 w10 st10
  clear st9
  go_wp2_with (with_reducible refine wl_stop (o := ⟨none, _, _, _, _, _⟩) ?_)
  refine wl_storeS st10 0 rfl rfl rfl rfl rfl (by first | (simp only [cw_len]; done) | (simp only [List.length_append, cw_len, RT.len, rpL_len]; done)) (by first | (rw [cw_len]; kernel_rfl) | (simp only [RT.len]; kernel_rfl)) (RT.one _) ?_
  intro w11 st11
  clear st10
  go_wp2_with fail
  refine (RQ_u _).mono ?_
  rintro e' w12 ⟨rfl, hf12⟩
  have st12 := st11.keep hf12
  clear st11 hf12
  go_wp2_with fail
  refine (RNumQ_u v _).mono ?_
  rintro e' w13 ⟨Nv, rfl, hn, hf13⟩
  have st13 := st12.keep hf13
  have HNv := Lib.hid hn
  clear hn
  clear st12 hf13
  go_wp2_with (with_reducible refine wl_stop (o := ⟨some 18, _, _, _, _, _⟩) ?_)
  refine wl_allocS st13 rfl rfl (z := .agg #[.int .u64 0, .int .u64 0, .int .u64 0, .int .u64 0]) (by kernel_rfl) (cw 4 0) (by rw [cw_zero]; rfl) ?_
  intro g18 w14 st14
  clear st13
  go_wp2_with (with_reducible refine wl_stop (o := ⟨none, _, _, _, _, _⟩) ?_)
  refine wl_storeS st14 1 rfl rfl rfl rfl rfl (by first | (simp only [cw_len]; done) | (simp only [List.length_append, cw_len, RT.len, rpL_len]; done)) (by first | (rw [cw_len]; kernel_rfl) | (rw [RT.len]; kernel_rfl) | (rw [rpL_len]; kernel_rfl) | (simp only [List.length_append, cw_len]; kernel_rfl) | (simp only [List.length_append, cw_len, RT.len, rpL_len]; kernel_rfl)) (cw_one _ _) ?_
  intro w15 st15
  clear st14
  go_wp2_with fail
  refine (RQ_u _).mono ?_
  rintro e' w16 ⟨rfl, hf16⟩
  have st16 := st15.keep hf16
  clear st15 hf16
  go_wp2_with fail
  refine (RNumQ_u r _).mono ?_
  rintro e' w17 ⟨Nr, rfl, hn, hf17⟩
  have st17 := st16.keep hf17
  have HNr := Lib.hid hn
  clear hn
  clear st16 hf17
  go_wp2_with (with_reducible refine wl_stop (o := ⟨some 20, _, _, _, _, _⟩) ?_)
  refine wl_allocS st17 rfl rfl (z := .agg #[.int .u64 0, .int .u64 0, .int .u64 0, .int .u64 0]) (by kernel_rfl) (cw 4 0) (by rw [cw_zero]; rfl) ?_
  intro g20 w18 st18
  clear st17
  go_wp2_with (with_reducible refine wl_stop (o := ⟨none, _, _, _, _, _⟩) ?_)
  refine wl_storeS st18 2 rfl rfl rfl rfl rfl (by first | (simp only [cw_len]; done) | (simp only [List.length_append, cw_len, RT.len, rpL_len]; done)) (by first | (rw [cw_len]; kernel_rfl) | (rw [RT.len]; kernel_rfl) | (rw [rpL_len]; kernel_rfl) | (simp only [List.length_append, cw_len]; kernel_rfl) | (simp only [List.length_append, cw_len, RT.len, rpL_len]; kernel_rfl)) (cw_one _ _) ?_
  intro w19 st19
  clear st18
  have st := st19
  clear st19
  rcases hbv : numB mQ v.data.toList with _ | _
  all_goals
    have HBV := Lib.hid hbv
    clear hbv
    rcases hbr : numB mQ r.data.toList with _ | _
    all_goals
      have HBR := Lib.hid hbr
      clear hbr
      try (rw [HNv.out HBV.out] at st)
      try (rw [HNr.out HBR.out] at st)
      try (go_wp2_with (with_reducible refine wl_stop (o := ⟨some 94, _, _, _, _, _⟩) ?_); refine wl_loadS st 1 rfl rfl rfl Tryz.underlying32 rfl (by kernel_rfl) ?_; go_wp2_with (with_reducible refine wl_stop (o := ⟨some 95, _, _, _, _, _⟩) ?_); refine wl_loadS st 2 rfl rfl rfl Tryz.underlying32 rfl (by kernel_rfl) ?_; go_wp2_with fail; refine (RCommit_c (beN v.data.toList) (beN r.data.toList) _).mono ?_; rintro e' w' ⟨rfl, hf⟩; replace st := st.keep hf; clear hf; go_wp2_with fail; refine (RWritten_c (addR (timesR (beN v.data.toList) hRR) (timesR (beN r.data.toList) baseR)) _).mono ?_; rintro e' w' ⟨rfl, hf⟩; replace st := st.keep hf; clear hf)
      go_wp2_with (with_reducible refine wl_stop (o := ⟨some 100, _, _, _, _, _⟩) ?_)
      refine wl_loadSt st 0 rfl rfl rfl Tryz.underlying34 rfl rfl (by kernel_rfl) ?_
      go_wp2_with fail
      refine (RWritten_c (hashR lab.data.toList s.data.toList) _).mono ?_
      rintro e' w' ⟨rfl, hf⟩
      replace st := st.keep hf
      clear hf
      go_wp2_with fail
      refine (told3_u _ _ _ _ _ _ (HV1.out.still st.fr) (.inl ⟨rfl, rfl, by rw [hashR_pt]⟩)).mono ?_
      rintro e' w' ⟨rfl, hf⟩
      replace st := st.keep hf
      clear hf
      go_wp2_with fail
      refine (told3_u _ _ _ _ _ _ (HV2.out.still st.fr) (by first | exact .inl ⟨rfl, (cm_ok HBV.out HBR.out).1, by rw [(cm_ok HBV.out HBR.out).2, cm_pt HBV.out HBR.out]⟩ | exact .inr ⟨rfl, (cm_no (by rw [HBV.out, HBR.out]; rfl)).1, (cm_no (by rw [HBV.out, HBR.out]; rfl)).2⟩)).mono ?_
      rintro e' w' ⟨rfl, hf⟩
      replace st := st.keep hf
      clear hf
      have hfr := FW.out.then st.fr
      clear st
      go_wp2_with fail
      go_ret
      exact ⟨rfl, hfr⟩


set_option maxHeartbeats 16000000 in
set_option maxRecDepth 1000000 in
theorem law_GroupHides (lab s v r : ByteArray) (w : World) :
    Calls Tryz.prog 3 #[.string lab, .string s, .string v, .string r] w fun e w' => e = .returned (.bool true) ∧ Fr Nob w w' := by
  by_cases hl : 4096 < lab.size
  · have hJ : (4096 : Int) < (lab.size : Int) := by omega
    go_enter Tryz.func3, Tryz.ntmps3
    go_wp2
    go_ret
    exact ⟨rfl, Fr.refl _ _⟩
  by_cases hs : 4096 < s.size
  · have hIl : ¬ ((4096 : Int) < (lab.size : Int)) := by omega
    have hJ : (4096 : Int) < (s.size : Int) := by omega
    go_enter Tryz.func3, Tryz.ntmps3
    go_wp2
    go_ret
    exact ⟨rfl, Fr.refl _ _⟩
  by_cases hv : 4096 < v.size
  · have hIl : ¬ ((4096 : Int) < (lab.size : Int)) := by omega
    have hIs : ¬ ((4096 : Int) < (s.size : Int)) := by omega
    have hJ : (4096 : Int) < (v.size : Int) := by omega
    go_enter Tryz.func3, Tryz.ntmps3
    go_wp2
    go_ret
    exact ⟨rfl, Fr.refl _ _⟩
  by_cases hr : 4096 < r.size
  · have hIl : ¬ ((4096 : Int) < (lab.size : Int)) := by omega
    have hIs : ¬ ((4096 : Int) < (s.size : Int)) := by omega
    have hIv : ¬ ((4096 : Int) < (v.size : Int)) := by omega
    have hJ : (4096 : Int) < (r.size : Int) := by omega
    go_enter Tryz.func3, Tryz.ntmps3
    go_wp2
    go_ret
    exact ⟨rfl, Fr.refl _ _⟩
  exact law_GroupHides_k lab s v r w (by omega) (by omega) (by omega) (by omega)
end Go.Proofs.YtdbgddngapminaaGreat
