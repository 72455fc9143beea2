/- Walks inside a round: what is shown of operations as everywhere serves there; group: candidates, the iterator; group: candidates, hashTo; group: HashTo, Commit; blind: lifted, Lift; chains that ended; blind: Blind, Valid; The reference's HashTo; The law GroupHides; blind's reference: Secret, Lift, Blind, Valid; The laws BlindHides and BlindValid. -/
import Derived.Test.YtdbgddngapminaaGreatMgBlindValidProof6
import Derived.RangeFuncNested
import Derived.RangeFuncBound
import Derived.RangeFuncCalls
import Derived.RangeFuncLeaves
import Derived.Test.YtdbgddngapminaaGreatMgBlindValidProof7
import Derived.Deep.DeepCutAuto
import Derived.Test.YtdbgddngapminaaGreatMgBlindValidProof5
import Derived.IntWalk
namespace Go.Mv
open Go.RowKit
variable {P : Program} {ops : Array Oper} {Q : Exit → Act → World → Prop} {a : Act} {w : World} {rest : List Oper} {o : Oper} {n l : Nat}
/-- no operation is a defer statement -/
def noDefer (rest : List Oper) : Bool := rest.all fun o => match o.op with | .defer _ => false | _ => true
theorem noDefer_op {o : Oper} (h : (match o.op with | .defer _ => false | _ => true) = true) : ∀ c, o.op ≠ .defer c := by
  intro c e
  rw [e] at h
  cases h
theorem rowsIn_of {row : String} {args : Array Value} {R : Value → World → Prop} (h : Rows P row args w R) : RowsIn (Fence.wide.inRound l) n P row args w R :=
  fun c cs _ => let ⟨v, w', r, s⟩ := h c cs; ⟨v, w', r, stepsIn_wide.2 s⟩
theorem wpIn_of_wp {K : Act → World → Prop} (hd : ∀ c, o.op ≠ .defer c) (h : o.wp P a w K Q) : o.wpIn (Fence.wide.inRound l) n P a w K Q := by
  refine ⟨fun _ _ => trivial, ?_⟩
  have e : o.semAt (some l) a.eval = execOp a.eval o := Oper.semAt_eq _ _ _ hd
  show o.uponIn (Fence.wide.inRound l) n P a K Q ((o.semAt (some l) a.eval).run P w)
  rw [e]
  unfold Oper.wp at h
  generalize (execOp a.eval o).run P w = r at *
  cases r with
  | ok v w' =>
    cases v with
    | value v => exact h
    | skip => exact h
    | defer d => exact h
    | enter f args => exact ⟨fun h => by simp [Fence.wide] at h, CallsIn.inRound l (callsIn_wide.2 h)⟩
    | row row args => exact ⟨fun h => by simp [Fence.wide] at h, rowsIn_of h⟩
    | _ => exact h.elim
  | halt s w' =>
    cases s <;> first | exact h | exact h.elim
/-- a row of operations, inside a round -/
theorem listIn_of (hQ : ¬ LetsOut Q) : ∀ (rest : List Oper) (a : Act) (w : World), noDefer rest = true → wpList P ops Q rest a w → wpListIn (Fence.wide.inRound l) n P ops Q rest a w
  | [], _, _, _, h => h
  | o :: rest, a, w, hd, h => by
    unfold noDefer at hd
    rw [List.all_cons, Bool.and_eq_true] at hd
    unfold wpList at h
    unfold wpListIn
    by_cases hw : Region.wanted o (yielded ops a.tmps) = true
    · rw [if_pos hw] at h ⊢
      rcases h with h | h
      · exact wpIn_of_wp (noDefer_op hd.1) (Oper.wp_mono (fun a w k => listIn_of hQ rest a w hd.2 k) h)
      · exact absurd h.2 hQ
    · rw [if_neg hw] at h ⊢
      exact ⟨fun _ _ => trivial, listIn_of hQ rest _ w hd.2 h⟩
theorem regionIn_of {id : Nat} {rest : List Oper} (hQ : ¬ LetsOut Q) (hd : noDefer rest = true) (h : wpList P rest.toArray Q rest a w) : (Code.region id rest.toArray false).wpIn (Fence.wide.inRound l) n P Q a w :=
  wpIn_region_lit (listIn_of hQ rest a w hd h)
/- the wide fence, one operation at a time -/
theorem wlIn_v {v : Value} (hg : Region.wanted o (yielded ops a.tmps) = true) (_ : ∀ c, o.op ≠ .defer c) (hv : (execOp a.eval o).run P w = .ok (.value v) w) (h : wpListIn Fence.wide n P ops Q rest (a.put o.dst v) w) : wpListIn Fence.wide n P ops Q (o :: rest) a w := by
  unfold wpListIn
  rw [if_pos hg]
  refine ⟨fun _ _ => trivial, ?_⟩
  show o.uponIn Fence.wide n P a _ Q ((o.semAt none a.eval).run P w)
  rw [show o.semAt none a.eval = execOp a.eval o from Oper.semAt_none _ _, hv]
  exact h
/-- yield is called -/
theorem wlIn_yield {f : FuncId} {tmps : Array Value} {assign body : Code} {R : Ending → World → Prop} (hg : Region.wanted o (yielded ops a.tmps) = true) (hv : (execOp a.eval o).run P w = .ok (.round l f tmps assign body) w)
    (hR : RoundIn Fence.wide (n - 1) P l f tmps assign body w R) (h : ∀ e w', R e w' → ∃ b, e = .returned b ∧ wpListIn Fence.wide n P ops Q rest (a.put o.dst b) w') : wpListIn Fence.wide n P ops Q (o :: rest) a w := by
  unfold wpListIn
  rw [if_pos hg]
  refine ⟨fun _ _ => trivial, ?_⟩
  show o.uponIn Fence.wide n P a _ Q ((o.semAt none a.eval).run P w)
  rw [show o.semAt none a.eval = execOp a.eval o from Oper.semAt_none _ _, hv]
  refine ⟨fun h => by simp [Fence.wide] at h, hR.mono fun e w' k => ?_⟩
  obtain ⟨b, rfl, h2⟩ := h e w' k
  exact h2
/-- a region, by the wide fence -/
theorem wp_region_wide (n : Nat) {id : Nat} {rest : List Oper} (h : wpListIn Fence.wide n P rest.toArray Q rest a w) : (Code.region id rest.toArray false).wp P Q a w := wpIn_wide.1 (wpIn_region_lit h)
end Go.Mv

/- group: candidates, the iterator. -/
namespace Go.Mv
open Go.RowKit
theorem Fr.grown {a b : World} (h : Fr Nob a b) : a.grownBy b none := ⟨h.os, h.tape, h.output, h.size, fun k hk _ => h.block k hk id⟩
end Go.Mv
namespace Go.Proofs.YtdbgddngapminaaGreat
open Go.RowKit Go.Mv Mvp Mvq
theorem info_bsh : (Tryz.prog.info? 22).map (fun i => (i.zero, i.size, i.bytes)) = some (some (.slice none 0 0), 1, 24) := by kernel_rfl
theorem hN_is (lab b : List UInt8) (i : Nat) : hN lab b i = beN (tagL (kPoint ++ lab) [b, [UInt8.ofNat i]]) := by unfold hN hB; rfl
theorem tag_len (s : List UInt8) (ls : List (List UInt8)) (w : World) (base : Nat) (v : Value) (h : Go.Mv.Own w base 5 1 v 32 (bs (tagL s ls))) : ∃ a c, v = .slice a 32 c ∧ RdB w a 32 (tagL s ls) := by
  obtain ⟨a, c, rfl, -, hr, -⟩ := h.form
  rw [Nat.mul_one] at hr
  exact ⟨a, c, rfl, hr⟩
theorem h_lt (lab b : List UInt8) (i : Nat) (hl : (tagL (kPoint ++ lab) [b, [UInt8.ofNat i]]).length = 32) : hN lab b i < B64 ^ 4 := by
  rw [hN_is]
  exact beN_le32 _ (by omega)
theorem affT_LL (n y : Nat) (h : onC (.A (kc n) (kc y))) : (affT n y h).L = cw 4 (elN mP n) ++ (cw 4 (elN mP y) ++ cw 4 (elN mP 1)) := rfl
attribute [local irreducible] limbs lw mix cw cSub cAdd cMul foldC valFrom beN laid be32 powm montT mstep elN mdL numB rtN rtV rtOk gXn gYn PT.L addT dblT mulT tbL tmR tmL dbN innT outT sumT dig rdT rdOk rdPt ptL ptsL rdsB wrPt permS permP toB turnsK squeeze permN permB spongeB feed frameL framesL tagL hB hN candT candL atY crvN affT
theorem exec_addS2 {o : Oper} {a : Act} {p q : Operand} {T U : TypeId} {s t : ByteArray} {r : List UInt8} (ho : o.op = .binOp .add T p q U) (hp : a.eval p = .string s) (hq : a.eval q = .string t) (_hT : Tryz.prog.underlying T = some .string) (h : s.size + t.size ≤ 10000000) (hr : s ++ t = mkS r) (w : World) :
    (execOp a.eval o).run Tryz.prog w = .ok (.value (.string (mkS r))) w := by
  have h3 : (binOp .add T (.string s) (.string t)).run Tryz.prog w = .ok (.string (s ++ t)) w := by
    have h4 : s.size + t.size ≤ 9223372036854775807 := by omega
    go_simp
  have h2 := exec_binop (P := Tryz.prog) ho hp hq w (by go_simp) h3
  rwa [hr] at h2
theorem part_cells {w : World} {v : Value} {l : List UInt8} (h : PartIs w v l) : v.cells = #[v] := by
  obtain ⟨a, n, c, rfl, -⟩ := h
  rfl
theorem exec_yield {l : Nat} {vs : List Value} {nx : Next} {o : Oper} {a : Act} {w : World} {x : Operand} {xs : Array Operand} {ats : Array TypeId} (ho : o.op = .call { callee := .value x, args := xs, argTypes := ats }) (hx : a.eval x = .func (.yield l) #[] #[]) (ha : xs.toList.map a.eval = vs)
    (hy : (Instr.yield l vs.toArray).run Tryz.prog w = .ok nx w) : (execOp a.eval o).run Tryz.prog w = .ok nx w := by
  have ha2 : xs.map a.eval = vs.toArray := by rw [← ha]; simp [← Array.toList_map]
  unfold execOp
  simp only [ho, resolve, hx, ha2]
  simp [invoke, hy, go_sem]

set_option maxHeartbeats 8000000 in
set_option maxRecDepth 1000000 in
theorem cand_stops (lab : ByteArray) (hsz : lab.size ≤ 100000) (g2 g3 : Nat) (va : Value) (b : List UInt8) (w : World) (h2 : Has w g2 [.string lab] 9) (h3 : Has w g3 [va] 22) (hb : PartIs w va b) :
    SeqStopsK Fence.wide 2 Tryz.prog 104 #[.pointer (some ⟨g2, 0, none⟩), .pointer (some ⟨g3, 0, none⟩)] (fun x : PT => #[.agg x.L.toArray]) (Below w.heap.size) (fun xs => xs = candL lab.data.toList b 256) (fun pre => ∃ k x, k < 256 ∧ candT lab.data.toList b k = some x ∧ pre = candL lab.data.toList b k ++ [x]) 256 w := by
  intro l J Jx W hW hJ hJx hY h0
  refine callsIn_wide.2 ?_
  show Calls Tryz.prog 104 #[.func (.yield l) #[] #[], .pointer (some ⟨g2, 0, none⟩), .pointer (some ⟨g3, 0, none⟩)] W _
  have HY := Lib.hid hY
  have HJ := Lib.hid hJ
  have HJX := Lib.hid hJx
  have H0 := Lib.hid h0
  have HW := Lib.hid (Fr.ofBelow hW)
  have H2 := Lib.hid h2
  have H3 := Lib.hid h3
  have HB := Lib.hid hb
  have HSZ := Lib.hid hsz
  clear hY hJ hJx h0 hW h2 h3 hb hsz
  go_enter Tryz.func104, Tryz.ntmps104
  go_wp2
  go_loopw [8] (fun v wr => ∃ k : Nat, k ≤ 256 ∧ v = .int .i64 (k : Int) ∧ J (candL lab.data.toList b k) wr ∧ Fr Nob w wr ∧ W.heap.size ≤ wr.heap.size) (fun v _ => 256 - (intOf v).toNat)
  case atStart => exact ⟨0, Nat.zero_le _, rfl, by rw [candL_zero]; exact H0.out, HW.out, Nat.le_refl _⟩
  case round =>
    obtain ⟨k, hk, rfl, hJk, hfk, hWk⟩ := hrel
    have HJK := Lib.hid hJk
    have HFK := Lib.hid hfk
    have HWK := Lib.hid hWk
    clear hJk hfk hWk
    by_cases hlt : k < 256
    · have hltI : (k : Int) < 256 := by omega
      have hk0 : (0 : Int) ≤ (k : Int) := by omega
      have hk8 : (k : Int) % 256 = (k : Int) := by omega
      have HLT := Lib.hid hlt
      clear hlt hk
      have hc2 := (H2.out.keep HFK.out id).cell (show [Value.string lab][0]? = _ from rfl)
      have hc3 := (H3.out.keep HFK.out id).cell (show [va][0]? = _ from rfl)
      go_wp2_with (with_reducible refine wl_stop (o := ⟨some 12, _, _, _, _, _⟩) ?_)
      refine wl_exec rfl (exec_addS2 rfl rfl rfl Tryz.underlying9 (by have h : (⟨#[112, 111, 105, 110, 116, 32]⟩ : ByteArray).size = 6 := rfl; rw [h]; have := HSZ.out; omega) (str_app lab) _) ?_
      go_wp2_with (with_reducible refine wl_stop (o := ⟨some 16, _, _, _, _, _⟩) ?_)
      refine wl_slit rfl rfl Tryz.underlying22 info_u8 [.int .u8 (k : Int)] rfl (by intro u hu; simp only [List.mem_singleton] at hu; subst hu; rfl) rfl rfl ?_
      intro wa hga hfa hza
      clear hza hc2 hc3
      have hgb : Has wa wr.heap.size (bs [UInt8.ofNat k]) 5 := by
        have e : [Value.int .u8 (k : Int)] = bs [UInt8.ofNat k] := by
          show _ = [Value.int .u8 ((UInt8.ofNat k).toNat : Int)]
          rw [UInt8.toNat_ofNat', Nat.mod_eq_of_lt HLT.out]
        rw [e] at hga
        exact hga
      have hpb : PartIs wa (.slice (some ⟨wr.heap.size, 0, none⟩) 1 1) [UInt8.ofNat k] := ⟨_, 1, 1, rfl, Nat.le_refl _, by omega, Rd.whole hgb, fun x hx => by simp only [Option.some.injEq] at hx; subst hx; exact hgb.lt⟩
      have HPB := Lib.hid hpb
      have HFA := Lib.hid hfa
      have HPA := Lib.hid (HB.out.still (HFK.out.then hfa))
      have HVC := Lib.hid (part_cells HB.out)
      clear hga hfa hgb hpb
      generalize hg16 : wr.heap.size = g16 at *
      have HG16 := Lib.hid hg16
      clear hg16
      go_wp2_with (with_reducible refine wl_stop (o := ⟨some 17, _, _, _, _, _⟩) ?_)
      refine wl_slit (vs := [va, .slice (some ⟨g16, 0, none⟩) 1 1]) (hgd := rfl) (ho := rfl) (hu := Tryz.underlying138) (hi0 := info_bsh) (hp := by rfl) (hv := fun u hu => by
        simp only [List.mem_cons, List.not_mem_nil, or_false] at hu
        rcases hu with rfl | rfl
        · exact HVC.out
        · rfl) (hk := by rfl) (hz := by rfl) (h := ?_)
      intro wb hgb hfb hzb
      clear hzb
      have hps : Parts wb [va, .slice (some ⟨g16, 0, none⟩) 1 1] [b, [UInt8.ofNat k]] := ⟨HPA.out.still hfb, HPB.out.still hfb, trivial⟩
      have HPS := Lib.hid (hps.at hgb)
      have HFB := Lib.hid (HFA.out.then hfb)
      clear hgb hfb hps HPA HPB HFA
      generalize wa.heap.size = g17 at *
      go_wp2_with fail
      refine (Tag_any (mkS (kPoint ++ lab.data.toList)) _ _ [b, [UInt8.ofNat k]] _ (by rw [mkS_size]; have := HSZ.out; simp [kPoint]; omega) (by simp) HPS.out).mono ?_
      rintro e wc ⟨vt, rfl, ho, hf⟩
      rw [mkS_toList] at ho
      obtain ⟨at_, ct, hvt, hrt⟩ := tag_len _ _ _ _ _ ho
      subst hvt
      have HRT := Lib.hid hrt
      have HFC := Lib.hid (HFB.out.then hf)
      clear ho hf hrt HFB HPS
      have hnl := h_lt lab.data.toList b k (by have := HRT.out.len; exact this)
      have hni := hN_is lab.data.toList b k
      generalize hn : hN lab.data.toList b k = n at *
      have HNL := Lib.hid hnl
      have HNN := Lib.hid hn
      have HNI := Lib.hid hni
      clear hnl hn hni
      go_wp2_with fail
      refine (FromBytes_any at_ 32 ct _ _ HRT.out (by decide)).mono ?_
      rintro e wd ⟨rfl, hf⟩
      rw [← HNI.out]
      have HFD := Lib.hid (HFC.out.then hf)
      clear hf HFC HRT
      have st0 := St.start Nob wd
      go_wp2_with (with_reducible refine wl_stop (o := ⟨some 5, _, _, _, _, _⟩) ?_)
      refine wl_allocS st0 rfl rfl (z := .agg #[.int .u64 0, .int .u64 0, .int .u64 0, .int .u64 0]) (by kernel_rfl) (cw 4 0) (by rw [cw_zero]; rfl) ?_
      intro g5 w1 st1
      clear st0
      go_wp2_with (with_reducible refine wl_stop (o := ⟨none, _, _, _, _, _⟩) ?_)
      refine wl_storeS st1 0 rfl rfl rfl rfl rfl (by first | (simp only [cw_len]; done) | (simp only [List.length_append, cw_len, PT.len, ptL_len]; done)) (by first | (rw [cw_len]; kernel_rfl) | (rw [PT.len]; kernel_rfl) | (rw [ptL_len]; kernel_rfl) | (simp only [List.length_append, cw_len]; kernel_rfl) | (simp only [List.length_append, cw_len, PT.len, ptL_len]; kernel_rfl)) (cw_one _ _) ?_
      intro w2 st2
      clear st1
      by_cases hd : n < mP.M
      · have HD := Lib.hid (show decide (n < mP.M) = true from decide_eq_true hd)
        have HLM := Lib.hid hd
        clear hd
        go_wp2_with fail
        refine wp_region_noPanic ?_
        refine wp_region_lad st2 9 [.t 0, .c 1, .w 2, .w 3, .c 4, .w 5, .w 6, .c 7, .c 8] (.m 9 .nil) (by kernel_rfl) (by kernel_rfl) (fun _ _ _ _ _ h => h) ?_
        clear st2
        refine lad_arr rfl rfl rfl (fun _ => rfl) (cw 4 n) (fun wx hS => St.rangeL hS 0 rfl 0 _ (by rw [List.drop_zero, List.take_of_length_le (Nat.le_refl _)])) Tryz.underlying64 rfl (by first | (rw [cw_len]; kernel_rfl) | (rw [PT.len]; kernel_rfl) | (rw [ptL_len]; kernel_rfl) | (simp only [List.length_append, cw_len]; kernel_rfl) | (simp only [List.length_append, cw_len, PT.len, ptL_len]; kernel_rfl)) ?_
        try simp only [Go.Mv.clL]
        refine lad_callX (X := Nat × Nat) (fun y => .pointer (some ⟨y.1, 0, none⟩)) (fun y w => Has w y.1 (crvL mP y.2 gXn gYn) 62 ∧ Has w y.2 (mdL mP) 112) (fun _ _ _ h k => ⟨h.1.keep k id, h.2.keep k id⟩) rfl rfl rfl Tryz.call24 (fun w hS hR => k256_y _) (fun _ => rfl) fun y1 => ?_
        try simp only [Go.Mv.clL]
        refine lad_w (v := ?_) rfl rfl (fun xq wx => ?_) ?_
        rotate_left 1
        · (go_simp; with_reducible rfl)
        try simp only [Go.Mv.clL]
        refine lad_w (v := ?_) rfl rfl (fun xq wx => ?_) ?_
        rotate_left 1
        · (go_simp; with_reducible rfl)
        try simp only [Go.Mv.clL]
        refine lad_v (v := ?_) rfl rfl (fun xq wx hS hR => ?_) ?_
        rotate_left 1
        · (have hc := (hR.2).1.cell (show (crvL mP y1.2 gXn gYn)[0]? = some (.pointer (some ⟨y1.2, 0, none⟩)) from rfl); clear hS hR; go_simp; with_reducible rfl)
        try simp only [Go.Mv.clL]
        refine lad_w (v := ?_) rfl rfl (fun xq wx => ?_) ?_
        rotate_left 1
        · (go_simp; with_reducible rfl)
        try simp only [Go.Mv.clL]
        refine lad_w (v := ?_) rfl rfl (fun xq wx => ?_) ?_
        rotate_left 1
        · (go_simp; with_reducible rfl)
        try simp only [Go.Mv.clL]
        refine lad_v (v := ?_) rfl rfl (fun xq wx hS hR => ?_) ?_
        rotate_left 1
        · (refine exec_loadH (hR.2).2 (x := .tmp 26) (p := 0) ?_ ?_ (cw 4 mP.M) (md_M mP) Tryz.underlying64 rfl ?_; rfl; rfl; (rw [cw_len]; kernel_rfl))
        try simp only [Go.Mv.clL]
        refine lad_call rfl rfl rfl Tryz.call70 (fun w hS hR => MLess_v n mP.M _ HNL.out mP_ok.lt true HD.out) (fun _ => rfl) ?_
        try simp only [Go.Mv.clL]
        refine lad_end fun xq w3 st3 hR => ?_
        try dsimp only
        clear hR xq
        refine plan_m rfl rfl ?_
        go_simp
        try simp only [Go.Mv.clL]
        refine plan_end ?_
        refine NoPanic.normal ?_
        rcases hr : rtOk mP.M (crvN n) with _ | _
        · have HR := Lib.hid hr
          have HC := Lib.hid (candT_no HNN.out (fun h => by rw [hr] at h; exact absurd h.2 (by decide)))
          clear hr
          go_wp2_with fail
          refine wp_region_noPanic ?_
          refine wp_region_lad st3 13 [.o 11, .t 5, .c 0, .c 1, .w 2, .w 3, .c 4, .c 6, .c 7, .w 8, .w 9, .w 10, .j 11] (.r 12 (.m 13 .nil)) (by kernel_rfl) (by kernel_rfl) (fun _ _ _ _ _ h => h) ?_
          clear st3
          refine lad_o rfl rfl rfl z_gp (cw 12 0) rfl ?_
          try simp only [Go.Mv.clL]
          refine lad_arr rfl rfl rfl (fun _ => rfl) (cw 4 n) (fun wx hS => St.rangeL hS 0 rfl 0 _ (by rw [List.drop_zero, List.take_of_length_le (Nat.le_refl _)])) Tryz.underlying64 rfl (by first | (rw [cw_len]; kernel_rfl) | (rw [PT.len]; kernel_rfl) | (rw [ptL_len]; kernel_rfl) | (simp only [List.length_append, cw_len]; kernel_rfl) | (simp only [List.length_append, cw_len, PT.len, ptL_len]; kernel_rfl)) ?_
          try simp only [Go.Mv.clL]
          refine lad_callX (X := Nat × Nat) (fun y => .pointer (some ⟨y.1, 0, none⟩)) (fun y w => Has w y.1 (crvL mP y.2 gXn gYn) 62 ∧ Has w y.2 (mdL mP) 112) (fun _ _ _ h k => ⟨h.1.keep k id, h.2.keep k id⟩) rfl rfl rfl Tryz.call24 (fun w hS hR => k256_y _) (fun _ => rfl) fun y2 => ?_
          try simp only [Go.Mv.clL]
          refine lad_callX (X := Nat × Nat) (fun y => .pointer (some ⟨y.1, 0, none⟩)) (fun y w => Has w y.1 (crvL mP y.2 gXn gYn) 62 ∧ Has w y.2 (mdL mP) 112) (fun _ _ _ h k => ⟨h.1.keep k id, h.2.keep k id⟩) rfl rfl rfl Tryz.call24 (fun w hS hR => k256_y _) (fun _ => rfl) fun y3 => ?_
          try simp only [Go.Mv.clL]
          refine lad_w (v := ?_) rfl rfl (fun xq wx => ?_) ?_
          rotate_left 1
          · (go_simp; with_reducible rfl)
          try simp only [Go.Mv.clL]
          refine lad_w (v := ?_) rfl rfl (fun xq wx => ?_) ?_
          rotate_left 1
          · (go_simp; with_reducible rfl)
          try simp only [Go.Mv.clL]
          refine lad_v (v := ?_) rfl rfl (fun xq wx hS hR => ?_) ?_
          rotate_left 1
          · (have hc := (hR.2).1.cell (show (crvL mP y3.2 gXn gYn)[0]? = some (.pointer (some ⟨y3.2, 0, none⟩)) from rfl); clear hS hR; go_simp; with_reducible rfl)
          try simp only [Go.Mv.clL]
          refine lad_call rfl rfl rfl Tryz.call59 (fun w hS hR => MTo_any mP y3.2 _ mP_ok hR.2.2 n HNL.out) (fun _ => rfl) ?_
          try simp only [Go.Mv.clL]
          refine lad_call rfl rfl rfl Tryz.call106 (fun w hS hR => at_u mP y2.1 y2.2 gXn gYn _ mP_ok hR.1.2.1 hR.1.2.2 n false HR.out) (fun _ => rfl) ?_
          try simp only [Go.Mv.clL]
          refine lad_w (v := ?_) rfl rfl (fun xq wx => ?_) ?_
          rotate_left 1
          · (go_simp; with_reducible rfl)
          try simp only [Go.Mv.clL]
          refine lad_w (v := ?_) rfl rfl (fun xq wx => ?_) ?_
          rotate_left 1
          · (go_simp; with_reducible rfl)
          try simp only [Go.Mv.clL]
          refine lad_w (v := ?_) rfl rfl (fun xq wx => ?_) ?_
          rotate_left 1
          · (go_simp; with_reducible rfl)
          try simp only [Go.Mv.clL]
          refine lad_j List.mem_cons_self fun g6 => ?_
          simp only [upd, reduceIte]
          try simp only [Nat.reduceEqDiff, reduceIte]
          refine lad_end fun xq w4 st4 hR => ?_
          try dsimp only
          clear hR xq
          refine plan_r rfl rfl ?_
          refine wp_storeS st4 1 rfl rfl rfl rfl (by first | (simp only [cw_len]; done) | (simp only [List.length_append, cw_len, PT.len, ptL_len]; done)) (by first | (rw [cw_len]; kernel_rfl) | (simp only [List.length_append, cw_len]; kernel_rfl)) (pt_one _ _ _) ?_
          intro w5 st5
          repeat (first | simp only [List.cons_append] at st5 | simp only [List.nil_append] at st5 | simp only [List.set_cons_succ] at st5 | simp only [List.set_cons_zero] at st5)
          clear st4
          refine ⟨by first | exact st5 | exact St.less st5 (by simp), ?_⟩
          try simp only [Act.put]
          refine plan_m rfl rfl ?_
          go_simp
          try simp only [Go.Mv.clL]
          refine plan_end ?_
          refine NoPanic.normal ?_
          have HFE := Lib.hid (HFD.out.then st5.fr)
          clear st5
          go_wp2_with fail
          go_roundw
          case rel => exact ⟨k + 1, by have := HLT.out; omega, by go_num, by rw [candL_no HC.out]; exact HJ.out _ _ _ none HJK.out HFE.out.grown (fun r e => by cases e), HFK.out.then HFE.out, Nat.le_trans (by have h := HWK.out; rw [← HG16.out] at h; exact h) HFE.out.size⟩
          case measure => have := HLT.out; simp [intOf]; omega
        · have HR := Lib.hid hr
          have hon := h_on hr
          have HC := Lib.hid (show candT lab.data.toList b k = some (affT n (atY mP.M n) hon) from candT_yes HNN.out HLM.out hr)
          clear hr
          go_wp2_with fail
          refine wp_region_noPanic ?_
          refine wp_region_lad st3 13 [.o 11, .t 5, .c 0, .c 1, .w 2, .w 3, .c 4, .c 6, .c 7, .w 8, .w 9, .w 10, .j 11] (.r 12 (.m 13 .nil)) (by kernel_rfl) (by kernel_rfl) (fun _ _ _ _ _ h => h) ?_
          clear st3
          refine lad_o rfl rfl rfl z_gp (cw 12 0) rfl ?_
          try simp only [Go.Mv.clL]
          refine lad_arr rfl rfl rfl (fun _ => rfl) (cw 4 n) (fun wx hS => St.rangeL hS 0 rfl 0 _ (by rw [List.drop_zero, List.take_of_length_le (Nat.le_refl _)])) Tryz.underlying64 rfl (by first | (rw [cw_len]; kernel_rfl) | (rw [PT.len]; kernel_rfl) | (rw [ptL_len]; kernel_rfl) | (simp only [List.length_append, cw_len]; kernel_rfl) | (simp only [List.length_append, cw_len, PT.len, ptL_len]; kernel_rfl)) ?_
          try simp only [Go.Mv.clL]
          refine lad_callX (X := Nat × Nat) (fun y => .pointer (some ⟨y.1, 0, none⟩)) (fun y w => Has w y.1 (crvL mP y.2 gXn gYn) 62 ∧ Has w y.2 (mdL mP) 112) (fun _ _ _ h k => ⟨h.1.keep k id, h.2.keep k id⟩) rfl rfl rfl Tryz.call24 (fun w hS hR => k256_y _) (fun _ => rfl) fun y2 => ?_
          try simp only [Go.Mv.clL]
          refine lad_callX (X := Nat × Nat) (fun y => .pointer (some ⟨y.1, 0, none⟩)) (fun y w => Has w y.1 (crvL mP y.2 gXn gYn) 62 ∧ Has w y.2 (mdL mP) 112) (fun _ _ _ h k => ⟨h.1.keep k id, h.2.keep k id⟩) rfl rfl rfl Tryz.call24 (fun w hS hR => k256_y _) (fun _ => rfl) fun y3 => ?_
          try simp only [Go.Mv.clL]
          refine lad_w (v := ?_) rfl rfl (fun xq wx => ?_) ?_
          rotate_left 1
          · (go_simp; with_reducible rfl)
          try simp only [Go.Mv.clL]
          refine lad_w (v := ?_) rfl rfl (fun xq wx => ?_) ?_
          rotate_left 1
          · (go_simp; with_reducible rfl)
          try simp only [Go.Mv.clL]
          refine lad_v (v := ?_) rfl rfl (fun xq wx hS hR => ?_) ?_
          rotate_left 1
          · (have hc := (hR.2).1.cell (show (crvL mP y3.2 gXn gYn)[0]? = some (.pointer (some ⟨y3.2, 0, none⟩)) from rfl); clear hS hR; go_simp; with_reducible rfl)
          try simp only [Go.Mv.clL]
          refine lad_call rfl rfl rfl Tryz.call59 (fun w hS hR => MTo_any mP y3.2 _ mP_ok hR.2.2 n HNL.out) (fun _ => rfl) ?_
          try simp only [Go.Mv.clL]
          refine lad_call rfl rfl rfl Tryz.call106 (fun w hS hR => at_u mP y2.1 y2.2 gXn gYn _ mP_ok hR.1.2.1 hR.1.2.2 n true HR.out) (fun _ => rfl) ?_
          try simp only [Go.Mv.clL]
          refine lad_w (v := ?_) rfl rfl (fun xq wx => ?_) ?_
          rotate_left 1
          · (go_simp; with_reducible rfl)
          try simp only [Go.Mv.clL]
          refine lad_w (v := ?_) rfl rfl (fun xq wx => ?_) ?_
          rotate_left 1
          · (go_simp; with_reducible rfl)
          try simp only [Go.Mv.clL]
          refine lad_w (v := ?_) rfl rfl (fun xq wx => ?_) ?_
          rotate_left 1
          · (go_simp; with_reducible rfl)
          try simp only [Go.Mv.clL]
          refine lad_j List.mem_cons_self fun g6 => ?_
          simp only [upd, reduceIte]
          try simp only [Nat.reduceEqDiff, reduceIte]
          refine lad_end fun xq w4 st4 hR => ?_
          try dsimp only
          clear hR xq
          refine plan_r rfl rfl ?_
          refine wp_storeS st4 1 rfl rfl rfl rfl (by first | (simp only [cw_len]; done) | (simp only [List.length_append, cw_len, PT.len, ptL_len]; done)) (by first | (rw [cw_len]; kernel_rfl) | (simp only [List.length_append, cw_len]; kernel_rfl)) (pt_one _ _ _) ?_
          intro w5 st5
          repeat (first | simp only [List.cons_append] at st5 | simp only [List.nil_append] at st5 | simp only [List.set_cons_succ] at st5 | simp only [List.set_cons_zero] at st5)
          clear st4
          refine ⟨by first | exact st5 | exact St.less st5 (by simp), ?_⟩
          try simp only [Act.put]
          refine plan_m rfl rfl ?_
          go_simp
          try simp only [Go.Mv.clL]
          refine plan_end ?_
          refine NoPanic.normal ?_
          have HAF := Lib.hid (affT_LL n (atY mP.M n) hon)
          have HFE := Lib.hid (HFD.out.then st5.fr)
          obtain ⟨fnn, tmps, assign, body, hy, hR⟩ := HY.out (candL lab.data.toList b k) (affT n (atY mP.M n) hon) w5 (HJ.out _ _ _ none HJK.out HFE.out.grown (fun r e => by cases e)) (Nat.lt_of_le_of_lt (candL_len _ _ _) HLT.out)
          rw [HAF.out] at hy
          have HHY := Lib.hid hy
          have HRR := Lib.hid hR
          have HPT := Lib.hid (st5.at 1 rfl)
          clear hy hR st5
          go_upto_region 6 with fail
          refine wp_region_wide 2 ?_
          refine wlIn_v rfl (fun c h => by cases h) (by go_simp; with_reducible rfl) ?_
          try simp only [Go.Mv.clL]
          refine wlIn_v rfl (fun c h => by cases h) (by go_simp; with_reducible rfl) ?_
          try simp only [Go.Mv.clL]
          refine wlIn_v rfl (fun c h => by cases h) (by go_simp; with_reducible rfl) ?_
          try simp only [Go.Mv.clL]
          refine wlIn_v rfl (fun c h => by cases h) (exec_loadH HPT.out rfl rfl (cw 4 (elN mP n) ++ (cw 4 (elN mP (atY mP.M n)) ++ cw 4 (elN mP 1))) (by rw [List.drop_zero, List.take_of_length_le (Nat.le_refl _)]) Tryz.underlying60 rfl (by first | (rw [cw_len]; kernel_rfl) | (simp only [List.length_append, cw_len]; kernel_rfl))) ?_
          try simp only [Go.Mv.clL]
          refine wlIn_yield rfl (exec_yield (vs := [.agg (cw 4 (elN mP n) ++ (cw 4 (elN mP (atY mP.M n)) ++ cw 4 (elN mP 1))).toArray]) rfl rfl rfl HHY.out) HRR.out ?_
          rintro e W3 (⟨rfl, hJ3, hK3⟩ | ⟨rfl, hJx3⟩)
          · refine ⟨_, rfl, ?_⟩
            try simp only [Go.Mv.clL]
            refine wlIn_v rfl (fun c h => by cases h) (by go_simp; with_reducible rfl) ?_
            try simp only [Go.Mv.clL]
            refine wlIn_v rfl (fun c h => by cases h) (by go_simp; with_reducible rfl) ?_
            try simp only [Go.Mv.clL]
            refine wpListIn_nil ?_
            have hF3 : Fr Nob w W3 := Fr.ofBelow ((HFK.out.then HFE.out).below.trans hK3)
            have HF3 := Lib.hid hF3
            have HS3 := Lib.hid (Nat.le_trans (by have h := HWK.out; rw [← HG16.out] at h; exact h) (Nat.le_trans HFE.out.size hK3.size))
            have HJ3 := Lib.hid hJ3
            clear hJ3 hK3 hF3
            go_wp2_with fail
            go_roundw
            case rel => exact ⟨k + 1, by have := HLT.out; omega, by go_num, by rw [candL_yes HC.out]; exact HJ3.out, HF3.out, HS3.out⟩
            case measure => have := HLT.out; simp [intOf]; omega
          · refine ⟨_, rfl, ?_⟩
            try simp only [Go.Mv.clL]
            refine wlIn_v rfl (fun c h => by cases h) (by go_simp; with_reducible rfl) ?_
            try simp only [Go.Mv.clL]
            refine wlIn_v rfl (fun c h => by cases h) (by go_simp; with_reducible rfl) ?_
            try simp only [Go.Mv.clL]
            refine wpListIn_nil ?_
            have HJX3 := Lib.hid hJx3
            clear hJx3
            go_wp2_with fail
            refine bodyPost_ret (results_none rfl _ _ _) rfl ?_
            exact ⟨⟨_, rfl⟩, .inr ⟨_, ⟨k, _, HLT.out, HC.out, rfl⟩, HJX3.out⟩⟩
      · have HD := Lib.hid (show decide (n < mP.M) = false from decide_eq_false hd)
        have HC := Lib.hid (candT_no HNN.out (fun h => hd h.1))
        clear hd
        go_wp2_with fail
        refine wp_region_noPanic ?_
        refine wp_region_lad st2 9 [.t 0, .c 1, .w 2, .w 3, .c 4, .w 5, .w 6, .c 7, .c 8] (.m 9 .nil) (by kernel_rfl) (by kernel_rfl) (fun _ _ _ _ _ h => h) ?_
        clear st2
        refine lad_arr rfl rfl rfl (fun _ => rfl) (cw 4 n) (fun wx hS => St.rangeL hS 0 rfl 0 _ (by rw [List.drop_zero, List.take_of_length_le (Nat.le_refl _)])) Tryz.underlying64 rfl (by first | (rw [cw_len]; kernel_rfl) | (rw [PT.len]; kernel_rfl) | (rw [ptL_len]; kernel_rfl) | (simp only [List.length_append, cw_len]; kernel_rfl) | (simp only [List.length_append, cw_len, PT.len, ptL_len]; kernel_rfl)) ?_
        try simp only [Go.Mv.clL]
        refine lad_callX (X := Nat × Nat) (fun y => .pointer (some ⟨y.1, 0, none⟩)) (fun y w => Has w y.1 (crvL mP y.2 gXn gYn) 62 ∧ Has w y.2 (mdL mP) 112) (fun _ _ _ h k => ⟨h.1.keep k id, h.2.keep k id⟩) rfl rfl rfl Tryz.call24 (fun w hS hR => k256_y _) (fun _ => rfl) fun y1 => ?_
        try simp only [Go.Mv.clL]
        refine lad_w (v := ?_) rfl rfl (fun xq wx => ?_) ?_
        rotate_left 1
        · (go_simp; with_reducible rfl)
        try simp only [Go.Mv.clL]
        refine lad_w (v := ?_) rfl rfl (fun xq wx => ?_) ?_
        rotate_left 1
        · (go_simp; with_reducible rfl)
        try simp only [Go.Mv.clL]
        refine lad_v (v := ?_) rfl rfl (fun xq wx hS hR => ?_) ?_
        rotate_left 1
        · (have hc := (hR.2).1.cell (show (crvL mP y1.2 gXn gYn)[0]? = some (.pointer (some ⟨y1.2, 0, none⟩)) from rfl); clear hS hR; go_simp; with_reducible rfl)
        try simp only [Go.Mv.clL]
        refine lad_w (v := ?_) rfl rfl (fun xq wx => ?_) ?_
        rotate_left 1
        · (go_simp; with_reducible rfl)
        try simp only [Go.Mv.clL]
        refine lad_w (v := ?_) rfl rfl (fun xq wx => ?_) ?_
        rotate_left 1
        · (go_simp; with_reducible rfl)
        try simp only [Go.Mv.clL]
        refine lad_v (v := ?_) rfl rfl (fun xq wx hS hR => ?_) ?_
        rotate_left 1
        · (refine exec_loadH (hR.2).2 (x := .tmp 26) (p := 0) ?_ ?_ (cw 4 mP.M) (md_M mP) Tryz.underlying64 rfl ?_; rfl; rfl; (rw [cw_len]; kernel_rfl))
        try simp only [Go.Mv.clL]
        refine lad_call rfl rfl rfl Tryz.call70 (fun w hS hR => MLess_v n mP.M _ HNL.out mP_ok.lt false HD.out) (fun _ => rfl) ?_
        try simp only [Go.Mv.clL]
        refine lad_end fun xq w3 st3 hR => ?_
        try dsimp only
        clear hR xq
        refine plan_m rfl rfl ?_
        go_simp
        try simp only [Go.Mv.clL]
        refine plan_end ?_
        refine NoPanic.normal ?_
        have HFE := Lib.hid (HFD.out.then st3.fr)
        clear st3
        go_wp2_with fail
        go_roundw
        case rel => exact ⟨k + 1, by have := HLT.out; omega, by go_num, by rw [candL_no HC.out]; exact HJ.out _ _ _ none HJK.out HFE.out.grown (fun r e => by cases e), HFK.out.then HFE.out, Nat.le_trans (by have h := HWK.out; rw [← HG16.out] at h; exact h) HFE.out.size⟩
        case measure => have := HLT.out; simp [intOf]; omega
    · have hge : ¬ ((k : Int) < 256) := by omega
      have hk6 : k = 256 := by omega
      subst hk6
      clear hk hlt
      go_wp2_with fail
      go_end0
      first | exact ⟨⟨_, rfl⟩, .inl HJK.out⟩ | exact ⟨⟨_, rfl⟩, .inl ⟨_, rfl, HJK.out⟩⟩
end Go.Proofs.YtdbgddngapminaaGreat

/- group: candidates, hashTo. -/
namespace Go.Mv
open Go.RowKit
theorem has_ownFrom {β : Type} (B g : Nat) (L : List Value) (T : TypeId) : OwnFrom B (fun (_ : β) W => Has W g L T) := fun _ X Y row hs hg hr =>
  Has.keep hs (Fr.ofGrown hg) (fun e => by
    obtain ⟨_, o, ho, hc⟩ := hr g e
    obtain ⟨lo, hi, h, -⟩ := hs
    rw [h] at ho
    cases ho
    cases hc)
theorem fr_ownFrom {β : Type} {B : Nat} {w : World} (hB : w.heap.size ≤ B) : OwnFrom B (fun (_ : β) W => Fr Nob w W) := fun _ X Y row hs hg hr =>
  hs.trans (Fr.ofGrown hg) (fun i hi t => by
    have h := (hr i t).1
    omega)
theorem size_ownFrom {β : Type} (B n : Nat) : OwnFrom B (fun (_ : β) (W : World) => n ≤ W.heap.size) := fun _ _ _ _ hs hg _ => Nat.le_trans hs hg.size
theorem keeps_fr {B : Nat} {W W' : World} (h : Fr Nob W W') : KeepsFrom B W W' :=
  ⟨h.size, fun k _ _ hk _ => (h.block k (Array.getElem?_eq_some_iff.1 hk).1 id).trans hk⟩
theorem keeps_one {B g : Nat} {W W' : World} (h : Fr (One g) W W') (hg : g < B) : KeepsFrom B W W' :=
  ⟨h.size, fun k o hB hk _ => (h.block k (Array.getElem?_eq_some_iff.1 hk).1 (fun e => by have : k = g := e; omega)).trans hk⟩
theorem zip_one (t : Array Value) (p : Tmp) (v : Value) : (#[p].zip #[v]).foldl (fun t (p, v) => t.setIfInBounds p v) t = t.setIfInBounds p v := by simp
theorem no_out {K : Act → World → Prop} {Q : Exit → Act → World → Prop} (h : ∀ a w, ¬ Q .outgrown a w) : ¬ LetsOut (Exit.then K Q) := by
  rintro ⟨a, w, k⟩
  exact h a w k
end Go.Mv
namespace Go.Proofs.YtdbgddngapminaaGreat
open Go.RowKit Go.Mv Mvp Mvq
theorem z_pt : (Tryz.prog.info? 60).map (·.zero) = some (some (.agg (List.replicate 12 (.int .u64 0)).toArray)) := by kernel_rfl
attribute [local irreducible] limbs lw mix cw cSub cAdd cMul foldC valFrom beN laid be32 powm montT mstep elN mdL numB rtN rtV rtOk gXn gYn PT.L addT dblT mulT tbL tmR tmL dbN innT outT sumT dig rdT rdOk rdPt ptL ptsL rdsB wrPt tagL hB hN candT candL hashT atY crvN affT
set_option maxHeartbeats 4000000 in
set_option maxRecDepth 1000000 in
theorem cands_c (lab : ByteArray) (va : Value) (hva : va.cells = #[va]) (w : World) : Calls Tryz.prog 67 #[.string lab, va] w fun e w' => ∃ g2 g3, e = .returned (.func (.func 104) #[] #[.pointer (some ⟨g2, 0, none⟩), .pointer (some ⟨g3, 0, none⟩)]) ∧ Has w' g2 [.string lab] 9 ∧ Has w' g3 [va] 22 ∧ Fr Nob w w' := by
  have HVA := Lib.hid hva
  clear hva
  have st0 := St.start Nob w
  go_enter Tryz.func67, Tryz.ntmps67
  go_wp2_with (with_reducible refine wl_stop (o := ⟨some 2, _, _, _, _, _⟩) ?_)
  refine wl_boxS st0 rfl rfl rfl [.string lab] rfl ?_
  intro g2 w1 st1
  clear st0
  unfold Act.put
  go_wp2_with (with_reducible refine wl_stop (o := ⟨some 3, _, _, _, _, _⟩) ?_)
  refine wl_boxS st1 rfl rfl rfl [va] (by show va.cells.toList = [va]; rw [HVA.out]) ?_
  intro g3 w2 st2
  clear st1
  have H2 := Lib.hid (st2.at 0 rfl)
  have H3 := Lib.hid (st2.at 1 rfl)
  have HF := Lib.hid st2.fr
  clear st2
  go_wp2_with fail
  go_ret
  exact ⟨g2, g3, rfl, H2.out, H3.out, HF.out⟩
set_option maxHeartbeats 8000000 in
set_option maxRecDepth 1000000 in
theorem hashTo_c (lab : ByteArray) (hsz : lab.size ≤ 100000) (va : Value) (b : List UInt8) (w : World) (hb : PartIs w va b) :
    Calls Tryz.prog 26 #[.string lab, va] w fun e w' => e = .returned (.agg (hashT lab.data.toList b).L.toArray) ∧ Fr Nob w w' := by
  have HSZ := Lib.hid hsz
  have HB := Lib.hid hb
  have HVA := Lib.hid (part_cells hb)
  clear hsz hb
  have st0 := St.start Nob w
  refine (callsIn_wide (n := 3)).1 ?_
  refine callsIn_of_wp_marks Tryz.func26 rfl trivial ?_ rfl
  simp only [Tryz.ntmps26, List.size_toArray, List.length_cons, List.length_nil, Nat.reduceAdd, Nat.reduceSub, Array.replicate_succ, Array.replicate_zero, List.push_toArray, List.append_toArray, List.nil_append, List.cons_append]
  refine wpIn_wide.2 ?_
  go_wp2_with (with_reducible refine wl_stop (o := ⟨some 4, _, _, _, _, _⟩) ?_)
  refine wl_allocS st0 rfl rfl z_pt (cw 12 0) (by rw [cw_zero]; rfl) ?_
  intro g4 w1 st1
  clear st0
  go_wp2_with fail
  refine (cands_c lab va HVA.out _).mono ?_
  rintro e w2 ⟨g2, g3, rfl, hg2, hg3, hf2⟩
  have st2 := st1.keep hf2
  have HG2 := Lib.hid hg2
  have HG3 := Lib.hid hg3
  clear st1 hf2 hg2 hg3
  have H4 := Lib.hid (st2.at 0 rfl)
  have HGE := Lib.hid ((st2.own _ List.mem_cons_self).resolve_right (fun h => h.elim))
  have HF := Lib.hid st2.fr
  have HLT := Lib.hid (st2.at 0 rfl).lt
  clear st2
  go_wp2_with fail
  refine (wpIn_wide (n := 3)).1 ?_
  refine wpIn_rangeFunc_ownH (F := Fence.wide) rfl (by omega) (gf := 104) (lb := #[.pointer (some ⟨g2, 0, none⟩), .pointer (some ⟨g3, 0, none⟩)]) rfl trivial (enters_of Tryz.func104 (by kernel_rfl) rfl)
    (cand_stops lab HSZ.out g2 g3 va b w2 HG2.out HG3.out (HB.out.still HF.out)) belowK_t (belowK_b (Nat.le_refl _)) (Below.refl _ _) (fun _ => rfl)
    (fun pre W => pre = [] ∧ (Has W g4 (cw 12 0) 60 ∧ (Fr Nob w W ∧ w2.heap.size ≤ W.heap.size)))
    (fun c pre W => c = .ret ∧ ∃ x : PT, pre = [x] ∧ (Has W g4 x.L 60 ∧ Fr Nob w W))
    (OwnFrom.and (ownFrom_pure _ _) (OwnFrom.and (has_ownFrom _ _ _ _) (OwnFrom.and (fr_ownFrom HF.out.size) (size_ownFrom _ _))))
    (fun c s X Y row hs hg hr => by
      obtain ⟨h1, x, h2, h3, h4⟩ := hs
      exact ⟨h1, x, h2, has_ownFrom (β := Unit) _ g4 x.L _ () X Y row h3 hg hr, fr_ownFrom (β := Unit) HF.out.size () X Y row h4 hg hr⟩)
    ⟨rfl, H4.out, HF.out, Nat.le_refl _⟩
    (fun x a' W => ∃ Bx, Has W Bx x.L 60 ∧ a' = { tmps := #[.string lab, va, undef, undef, .pointer (some ⟨g4, 0, none⟩), .pointer (some ⟨Bx, 0, none⟩), .string lab, va, .func (.func 104) #[] #[.pointer (some ⟨g2, 0, none⟩), .pointer (some ⟨g3, 0, none⟩)], .agg x.L.toArray, undef, undef, undef, undef, undef], defers := [] })
    (fun x a' s X Y row hs hg hr => by
      obtain ⟨Bx, h1, h2⟩ := hs
      exact ⟨Bx, has_ownFrom (β := Unit) _ Bx x.L _ () X Y row h1 hg hr, h2⟩)
    ?assign ?body ?done ?stop
  case assign =>
    rintro l pre x W K ⟨rfl, h4, hfr, hsz⟩ hK
    refine regionIn_of (no_out fun _ _ h => h) rfl ?_
    have st := St.start Nob W
    have HK := Lib.hid hK
    have H4 := Lib.hid h4
    have HFR := Lib.hid hfr
    have HS := Lib.hid hsz
    clear hK h4 hfr hsz
    rw [zip_one]
    simp only [List.setIfInBounds_toArray, List.set_cons_zero, List.set_cons_succ]
    refine wl_allocS st rfl rfl z_pt (cw 12 0) (by rw [cw_zero]; rfl) ?_
    intro gx W1 s1
    try simp only [Go.Mv.clL]
    refine wl_storeS s1 0 rfl rfl rfl rfl rfl (by rw [cw_len, PT.len]) (by rw [PT.len]; kernel_rfl) (PT.one _) ?_
    intro W2 s2
    try simp only [Act.put]
    refine wpList_nil ?_
    have hf := s2.fr
    exact HK.out _ _ (keeps_fr hf) (hf.below.mono HS.out) ⟨rfl, H4.out.keep hf id, HFR.out.then hf, Nat.le_trans HS.out hf.size⟩ ⟨gx, s2.at 0 rfl, rfl⟩
  case body =>
    rintro l pre x a' W hl hr ⟨rfl, h4, hfr, hsz⟩ ⟨Bx, hx, rfl⟩ hlt
    refine wpIn_block (wpIn_seq ?_)
    refine regionIn_of (no_out fun _ _ h => h) rfl ?_
    have st := St.one h4
    have HX := Lib.hid hx
    have HFR := Lib.hid hfr
    clear hr hx h4 hfr
    refine wl_loadR rfl rfl Tryz.underlying60 rfl rfl (cs := x.L) (fun i v hv => HX.out.range 0 _ (by rw [List.drop_zero, List.take_of_length_le (Nat.le_refl _)]) i v hv) (by rw [PT.len]; kernel_rfl) ?_
    try simp only [Go.Mv.clL]
    refine wl_storeS st 0 rfl rfl rfl rfl rfl (by rw [cw_len, PT.len]) (by rw [PT.len]; kernel_rfl) (PT.one _) ?_
    intro W2 s2
    try simp only [Act.put]
    refine wpList_nil ?_
    refine wpIn_ret ?_
    exact ⟨keeps_one s2.fr HLT.out, rfl, x, rfl, s2.at 0 rfl, HFR.out.new s2.fr HGE.out⟩
  case done =>
    rintro D xs W hD hS ⟨rfl, h4, hfr, hsz⟩ hK
    have HS := Lib.hid (hashT_none hS.symm)
    have st := (St.start Nob w)
    have HFR := Lib.hid hfr
    have H4' := Lib.hid h4
    have HD := Lib.hid hK
    have HDD := Lib.hid hD
    clear hS h4 hfr hsz hK hD st
    go_wp2_with fail
    refine (k256_y _).mono ?_
    rintro e w3 ⟨y, rfl, ⟨hc, hm⟩, hf⟩
    have HC := Lib.hid hc
    have HF3 := Lib.hid hf
    clear hc hm hf
    go_wp2_with (with_reducible refine wl_stop (o := ⟨some 14, _, _, _, _, _⟩) ?_)
    refine wl_loadR rfl rfl Tryz.underlying60 rfl rfl (cs := baseT.L) (fun i v hv => HC.out.range 5 _ base_cells i v hv) (by rw [PT.len]; kernel_rfl) ?_
    have st := St.one (H4'.out.keep HF3.out id)
    go_wp2_with (with_reducible refine wl_stop (o := ⟨none, _, _, _, _, _⟩) ?_)
    refine wl_storeS st 0 rfl rfl rfl rfl rfl (by rw [cw_len, PT.len]) (by rw [PT.len]; kernel_rfl) (PT.one _) ?_
    intro w5 s5
    have HF5 := Lib.hid s5.fr
    have H5 := Lib.hid (s5.at 0 rfl)
    clear st s5
    go_wp2_with fail
    have hD3 := (keeps_fr (B := w2.heap.size) HF3.out).same D _ HDD.out HD.out rfl
    have hD5 := (keeps_one HF5.out HLT.out).same D _ HDD.out hD3 rfl
    refine ⟨by simp, .inl ⟨_, _, rfl, run_takeDeferred hD5, ?_⟩⟩
    have hfin := (has_ownFrom (β := Unit) 0 g4 _ _).putObj (s := ()) (.deferred none) H5.out (Nat.zero_le _) hD5 rfl
    refine ⟨_, results_st rfl rfl hfin Tryz.underlying60 rfl (by rw [PT.len]; kernel_rfl), by rw [HS.out], ?_⟩
    exact (fr_ownFrom (β := Unit) (B := w2.heap.size) HF.out.size).putObj (s := ()) (.deferred none) ((HFR.out.then HF3.out).new HF5.out HGE.out) HDD.out hD5 rfl
  case stop =>
    rintro D c pre W hD ⟨k, x', hk, hc, hp⟩ ⟨rfl, x, rfl, h4, hfr⟩ hK
    have hnil : candL lab.data.toList b k = [] := by
      cases hq : candL lab.data.toList b k with
      | nil => rfl
      | cons y ys =>
        rw [hq] at hp
        have := congrArg List.length hp
        simp at this
    rw [hnil] at hp
    have hxx : x = x' := by simpa using hp
    subst hxx
    have HS := Lib.hid (hashT_some hk hc hnil)
    refine wpIn_ret ?_
    refine ⟨by simp, .inl ⟨_, _, rfl, run_takeDeferred hK, ?_⟩⟩
    have hfin := (has_ownFrom (β := Unit) 0 g4 _ _).putObj (s := ()) (.deferred none) h4 (Nat.zero_le _) hK rfl
    refine ⟨_, results_st rfl rfl hfin Tryz.underlying60 rfl (by rw [PT.len]; kernel_rfl), by rw [HS.out], ?_⟩
    exact (fr_ownFrom (β := Unit) (B := w2.heap.size) HF.out.size).putObj (s := ()) (.deferred none) hfr hD hK rfl
end Go.Proofs.YtdbgddngapminaaGreat

/- group: HashTo, Commit. -/
namespace Go.Proofs.YtdbgddngapminaaGreat
open Go.RowKit Go.Mv Mvp Mvq
def kValue : List UInt8 := [118, 97, 108, 117, 101]
theorem k256_z (w : World) : Calls Tryz.prog 24 #[] w fun e w' => ∃ gc : Nat, e = .returned (.pointer (some ⟨gc, 0, none⟩)) ∧ Cv w' gc ∧ Fr Nob w w' :=
  (k256_c w).mono fun _ _ ⟨gc, k1, _, k2, k3⟩ => ⟨gc, k1, k2, k3⟩
attribute [local irreducible] limbs lw mix cw cSub cAdd cMul foldC valFrom beN laid be32 powm montT mstep elN mdL numB rtN rtV rtOk gXn gYn PT.L addT dblT mulT tbL tmR tmL dbN innT outT sumT dig rdT rdOk rdPt ptL ptsL rdsB wrPt tagL hB hN candT candL hashT atY crvN affT
set_option maxHeartbeats 8000000 in
set_option maxRecDepth 1000000 in
theorem HashTo_u (lab : ByteArray) (hsz : lab.size ≤ 100000) (va : Value) (b : List UInt8) (w : World) (hb : PartIs w va b) :
    Calls Tryz.prog 8 #[.string lab, va] w fun e w' => ∃ v, e = .returned (.tuple #[v, .int .i64 0]) ∧ OwnB1 w w' v (wrPt (hashT lab.data.toList b).pt) ∧ Fr Nob w w' := by
  have HSZ := Lib.hid hsz
  have HB := Lib.hid hb
  clear hsz hb
  go_enter Tryz.func8, Tryz.ntmps8
  go_wp2_with fail
  refine (k256_z _).mono ?_
  rintro e w1 ⟨gc, rfl, hcv, hf⟩
  have HCV := Lib.hid hcv
  have HF := Lib.hid hf
  clear hcv hf
  go_wp2_with fail
  refine (hashTo_c lab HSZ.out va b _ (HB.out.still HF.out)).mono ?_
  rintro e w2 ⟨rfl, hf⟩
  have HCV2 := Lib.hid (HCV.out.keep hf)
  have HF2 := Lib.hid (HF.out.then hf)
  clear hf HCV HF
  go_wp2_with fail
  refine (bytes_c _ gc _ HCV2.out).mono ?_
  rintro e w3 ⟨sv, rfl, hown, hf⟩
  have ho := Go.Mv.Own.mono hown HF2.out.size
  have hfr := HF2.out.then hf
  clear hf HCV2 HF2 hown
  go_wp2_with fail
  go_ret2
  exact ⟨sv, rfl, OwnB1.of ho (wrPt_len _), hfr⟩

end Go.Proofs.YtdbgddngapminaaGreat

/- blind: lifted, Lift; chains that ended. -/
namespace Go.Proofs.YtdbgddngapminaaGreat
open Go.RowKit Go.Mv Mvp Mvq
def kToken : List UInt8 := [116, 111, 107, 101, 110]
/-- the point of a secret -/
noncomputable def lfP (b : List UInt8) : Pt := (hashT kToken b).pt
theorem lfP_on (b : List UInt8) : onC (lfP b) := by unfold lfP; exact PT.onP _
attribute [local irreducible] hashT lfP
/-- is it a secret? -/
def secOk (b : List UInt8) : Bool := decide (1 ≤ b.length) && decide (b.length ≤ 64)
theorem built_ch0 : Tryz.prog.built 86 [] = some ([Value.slice none 0 0, .int .i64 0]).toArray := by kernel_rfl
theorem built_chE : Tryz.prog.built 86 [(1, .int .i64 2)] = some ([Value.slice none 0 0, .int .i64 2]).toArray := by kernel_rfl
theorem OwnU.of1 {w w' : World} {v : Value} {l : List UInt8} (h : OwnB1 w w' v l) : OwnU w' v l := Own.mono h (Nat.zero_le _)
attribute [local irreducible] limbs lw mix cw cSub cAdd cMul foldC valFrom beN laid be32 powm montT mstep elN mdL numB rtV rtOk wrPt rdOk rdPt rdsB pmul tagL hB hN candT candL
set_option maxHeartbeats 8000000 in
set_option maxRecDepth 1000000 in
theorem lifted1_c (v0 : Value) (g1 : Nat) (va : Value) (b : List UInt8) (w : World) (h1 : Has w g1 [va] 22) (hb : PartIs w va b) :
    Calls Tryz.prog 89 #[v0, .pointer (some ⟨g1, 0, none⟩)] w fun e w' => ∃ v, e = .returned (.tuple #[v, .int .i64 0]) ∧ OwnU w' v (wrPt (lfP b)) ∧ Fr Nob w w' := by
  have hc := h1.cell (show [va][0]? = _ from rfl)
  have HB := Lib.hid hb
  clear h1 hb
  go_enter Tryz.func89, Tryz.ntmps89
  go_wp2_with fail
  refine (HashTo_u ⟨#[116, 111, 107, 101, 110]⟩ (by decide) va b _ HB.out).mono ?_
  rintro e w1 ⟨v, rfl, ho, hf⟩
  have ho2 := OwnU.of1 ho
  have HO := Lib.hid (show OwnU w1 v (wrPt (lfP b)) by unfold lfP kToken; exact ho2)
  have HF := Lib.hid hf
  clear ho ho2 hf hc HB
  go_wp2_with fail
  go_ret2
  exact ⟨v, rfl, HO.out, HF.out⟩

set_option maxHeartbeats 8000000 in
set_option maxRecDepth 1000000 in
theorem then_lift (g1 : Nat) (a : Option Addr) (n c : Nat) (w : World) (l : List UInt8) (z : Int) (hop : ∀ wx, Fr Nob w wx → Calls Tryz.prog 89 #[.slice a n c, .pointer (some ⟨g1, 0, none⟩)] wx fun e w' => ∃ v, e = .returned (.tuple #[v, .int .i64 z]) ∧ OwnU w' v l ∧ Fr Nob wx w') :
    Calls Tryz.prog 47 #[chV a n c 0, .func (.func 89) #[] #[.pointer (some ⟨g1, 0, none⟩)]] w fun e w' => ∃ a' c', e = .returned (chV a' l.length c' z) ∧ OwnU w' (.slice a' l.length c') l ∧ Fr Nob w w' := by
  have HOP := Lib.hid hop
  clear hop
  have st0 := St.start Nob w
  go_enter Tryz.func47, Tryz.ntmps47
  go_wp2_with (with_reducible refine wl_stop (o := ⟨some 2, _, _, _, _, _⟩) ?_)
  refine wl_boxS st0 rfl rfl rfl [.slice a n c, .int .i64 0] rfl ?_
  intro g2 w1 st1
  clear st0
  go_wp2_with (with_reducible refine wl_stop (o := ⟨some 4, _, _, _, _, _⟩) ?_)
  refine wl_allocS st1 rfl rfl z_ch [.slice none 0 0, .int .i64 0] rfl ?_
  intro g4 w2 st2
  clear st1
  have hc0 := (st2.at 0 rfl).cell (show [Value.slice a n c, .int .i64 0][0]? = _ from rfl)
  have hc1 := (st2.at 0 rfl).cell (show [Value.slice a n c, .int .i64 0][1]? = _ from rfl)
  go_wp2_with fail
  refine (HOP.out _ st2.fr).mono ?_
  rintro e' w3 ⟨v, rfl, ho, hf⟩
  have st3 := st2.keep hf
  clear hf st2 hc0 hc1
  obtain ⟨a', c', hv, -⟩ := Own.form ho
  subst hv
  have h4 := st3.at 1 rfl
  have HNE := Lib.hid (Own.ne ho h4 (by decide))
  have HO := Lib.hid ho
  have H4 := Lib.hid h4
  have HF := Lib.hid st3.fr
  have HGE := Lib.hid (st3.own _ (List.mem_cons_of_mem _ List.mem_cons_self))
  clear ho h4 st3
  go_wp2_with (with_reducible refine wl_stop (o := ⟨some 20, _, _, _, _, _⟩) ?_)
  refine wl_buildL rfl rfl _ (built_ch2 a' l.length c' z) ?_
  go_wp2_with (with_reducible refine wl_stop (o := ⟨none, _, _, _, _, _⟩) ?_)
  refine wl_storeA (cs := [.slice a' l.length c', .int .i64 z]) rfl rfl rfl rfl H4.out (by simp) (by kernel_rfl) (one_ch _ _ _ _) ?_
  intro w9 hg9 hf9 hz9
  clear hz9
  have ho9 : OwnU w9 (.slice a' l.length c') l := Own.keep HO.out hf9 (fun k hk e => HNE.out (by have e2 : k = g4 := e; rw [← e2]; exact hk))
  have HO9 := Lib.hid ho9
  have HF9 := Lib.hid (HF.out.new hf9 (HGE.out.resolve_right (fun h => h.elim)))
  clear hf9 ho9
  go_wp2_with fail
  exact bodyPost_ret (results_st rfl rfl hg9 Tryz.underlying86 rfl (by kernel_rfl)) rfl ⟨a', c', rfl, HO9.out, HF9.out⟩

set_option maxHeartbeats 8000000 in
set_option maxRecDepth 1000000 in
theorem then_valid (g1 : Nat) (a : Option Addr) (n c : Nat) (w : World) (l : List UInt8) (z : Int) (hop : ∀ wx, Fr Nob w wx → Calls Tryz.prog 48 #[.slice a n c, .pointer (some ⟨g1, 0, none⟩)] wx fun e w' => ∃ v, e = .returned (.tuple #[v, .int .i64 z]) ∧ OwnU w' v l ∧ Fr Nob wx w') :
    Calls Tryz.prog 47 #[chV a n c 0, .func (.func 48) #[] #[.pointer (some ⟨g1, 0, none⟩)]] w fun e w' => ∃ a' c', e = .returned (chV a' l.length c' z) ∧ OwnU w' (.slice a' l.length c') l ∧ Fr Nob w w' := by
  have HOP := Lib.hid hop
  clear hop
  have st0 := St.start Nob w
  go_enter Tryz.func47, Tryz.ntmps47
  go_wp2_with (with_reducible refine wl_stop (o := ⟨some 2, _, _, _, _, _⟩) ?_)
  refine wl_boxS st0 rfl rfl rfl [.slice a n c, .int .i64 0] rfl ?_
  intro g2 w1 st1
  clear st0
  go_wp2_with (with_reducible refine wl_stop (o := ⟨some 4, _, _, _, _, _⟩) ?_)
  refine wl_allocS st1 rfl rfl z_ch [.slice none 0 0, .int .i64 0] rfl ?_
  intro g4 w2 st2
  clear st1
  have hc0 := (st2.at 0 rfl).cell (show [Value.slice a n c, .int .i64 0][0]? = _ from rfl)
  have hc1 := (st2.at 0 rfl).cell (show [Value.slice a n c, .int .i64 0][1]? = _ from rfl)
  go_wp2_with fail
  refine (HOP.out _ st2.fr).mono ?_
  rintro e' w3 ⟨v, rfl, ho, hf⟩
  have st3 := st2.keep hf
  clear hf st2 hc0 hc1
  obtain ⟨a', c', hv, -⟩ := Own.form ho
  subst hv
  have h4 := st3.at 1 rfl
  have HNE := Lib.hid (Own.ne ho h4 (by decide))
  have HO := Lib.hid ho
  have H4 := Lib.hid h4
  have HF := Lib.hid st3.fr
  have HGE := Lib.hid (st3.own _ (List.mem_cons_of_mem _ List.mem_cons_self))
  clear ho h4 st3
  go_wp2_with (with_reducible refine wl_stop (o := ⟨some 20, _, _, _, _, _⟩) ?_)
  refine wl_buildL rfl rfl _ (built_ch2 a' l.length c' z) ?_
  go_wp2_with (with_reducible refine wl_stop (o := ⟨none, _, _, _, _, _⟩) ?_)
  refine wl_storeA (cs := [.slice a' l.length c', .int .i64 z]) rfl rfl rfl rfl H4.out (by simp) (by kernel_rfl) (one_ch _ _ _ _) ?_
  intro w9 hg9 hf9 hz9
  clear hz9
  have ho9 : OwnU w9 (.slice a' l.length c') l := Own.keep HO.out hf9 (fun k hk e => HNE.out (by have e2 : k = g4 := e; rw [← e2]; exact hk))
  have HO9 := Lib.hid ho9
  have HF9 := Lib.hid (HF.out.new hf9 (HGE.out.resolve_right (fun h => h.elim)))
  clear hf9 ho9
  go_wp2_with fail
  exact bodyPost_ret (results_st rfl rfl hg9 Tryz.underlying86 rfl (by kernel_rfl)) rfl ⟨a', c', rfl, HO9.out, HF9.out⟩

set_option maxHeartbeats 8000000 in
set_option maxRecDepth 1000000 in
theorem then_bad (f : Value) (a : Option Addr) (n c : Nat) (z : Int) (hz : (z != 0) = true) (w : World) :
    Calls Tryz.prog 47 #[chV a n c z, f] w fun e w' => e = .returned (chV a n c z) ∧ Fr Nob w w' := by
  have st0 := St.start Nob w
  go_enter Tryz.func47, Tryz.ntmps47
  go_wp2_with (with_reducible refine wl_stop (o := ⟨some 2, _, _, _, _, _⟩) ?_)
  refine wl_boxS st0 rfl rfl rfl [.slice a n c, .int .i64 z] rfl ?_
  intro g2 w1 st1
  clear st0
  go_wp2_with (with_reducible refine wl_stop (o := ⟨some 4, _, _, _, _, _⟩) ?_)
  refine wl_allocS st1 rfl rfl z_ch [.slice none 0 0, .int .i64 0] rfl ?_
  intro g4 w2 st2
  clear st1
  have hc1 := (st2.at 0 rfl).cell (show [Value.slice a n c, .int .i64 z][1]? = _ from rfl)
  go_wp2_with (with_reducible refine wl_stop (o := ⟨some 10, _, _, _, _, _⟩) ?_)
  refine wl_loadSt st2 0 rfl rfl rfl Tryz.underlying86 rfl rfl (by kernel_rfl) ?_
  go_wp2_with (with_reducible refine wl_stop (o := ⟨none, _, _, _, _, _⟩) ?_)
  refine wl_storeS st2 1 rfl rfl rfl rfl rfl (by first | rfl | simp) (by kernel_rfl) (one_ch _ _ _ _) ?_
  intro w3 st3
  clear st2 hc1
  have hr := st3.at 1 rfl
  have hfr := st3.fr
  clear st3
  go_wp2_with fail
  exact bodyPost_ret (results_st rfl rfl hr Tryz.underlying86 rfl (by kernel_rfl)) rfl ⟨rfl, hfr⟩

set_option maxHeartbeats 8000000 in
set_option maxRecDepth 1000000 in
theorem lifted_lo (a : Option Addr) (n c : Nat) (w : World) (hn : n < 1) :
    Calls Tryz.prog 43 #[.slice a n c] w fun e w' => e = .returned (chV none 0 0 2) ∧ Fr Nob w w' := by
  have hI : (n : Int) < 1 := by omega
  clear hn
  have st0 := St.start Nob w
  go_enter Tryz.func43, Tryz.ntmps43
  go_wp2_with (with_reducible refine wl_stop (o := ⟨some 1, _, _, _, _, _⟩) ?_)
  refine wl_boxS st0 rfl rfl rfl [.slice a n c] rfl ?_
  intro g1 w1 st1
  clear st0
  go_wp2_with (with_reducible refine wl_stop (o := ⟨some 2, _, _, _, _, _⟩) ?_)
  refine wl_allocS st1 rfl rfl z_ch [.slice none 0 0, .int .i64 0] rfl ?_
  intro g2 w2 st2
  clear st1
  have hc0 := (st2.at 0 rfl).cell (show [Value.slice a n c][0]? = _ from rfl)
  go_wp2_with (with_reducible refine wl_stop (o := ⟨some 11, _, _, _, _, _⟩) ?_)
  refine wl_buildL rfl rfl _ built_chE ?_
  clear hc0
  go_wp2_with (with_reducible refine wl_stop (o := ⟨none, _, _, _, _, _⟩) ?_)
  refine wl_storeS st2 1 rfl rfl rfl rfl rfl (by first | rfl | simp) (by kernel_rfl) (one_ch _ _ _ _) ?_
  intro w3 st3
  clear st2
  have hr := st3.at 1 rfl
  have hfr := st3.fr
  clear st3
  go_wp2_with fail
  exact bodyPost_ret (results_st rfl rfl hr Tryz.underlying86 rfl (by kernel_rfl)) rfl ⟨rfl, hfr⟩

set_option maxHeartbeats 8000000 in
set_option maxRecDepth 1000000 in
theorem lifted_hi (a : Option Addr) (n c : Nat) (w : World) (hn : 64 < n) :
    Calls Tryz.prog 43 #[.slice a n c] w fun e w' => e = .returned (chV none 0 0 2) ∧ Fr Nob w w' := by
  have hI0 : ¬ ((n : Int) < 1) := by omega
  have hI : (64 : Int) < (n : Int) := by omega
  clear hn
  have st0 := St.start Nob w
  go_enter Tryz.func43, Tryz.ntmps43
  go_wp2_with (with_reducible refine wl_stop (o := ⟨some 1, _, _, _, _, _⟩) ?_)
  refine wl_boxS st0 rfl rfl rfl [.slice a n c] rfl ?_
  intro g1 w1 st1
  clear st0
  go_wp2_with (with_reducible refine wl_stop (o := ⟨some 2, _, _, _, _, _⟩) ?_)
  refine wl_allocS st1 rfl rfl z_ch [.slice none 0 0, .int .i64 0] rfl ?_
  intro g2 w2 st2
  clear st1
  have hc0 := (st2.at 0 rfl).cell (show [Value.slice a n c][0]? = _ from rfl)
  go_wp2_with (with_reducible refine wl_stop (o := ⟨some 11, _, _, _, _, _⟩) ?_)
  refine wl_buildL rfl rfl _ built_chE ?_
  clear hc0
  go_wp2_with (with_reducible refine wl_stop (o := ⟨none, _, _, _, _, _⟩) ?_)
  refine wl_storeS st2 1 rfl rfl rfl rfl rfl (by first | rfl | simp) (by kernel_rfl) (one_ch _ _ _ _) ?_
  intro w3 st3
  clear st2
  have hr := st3.at 1 rfl
  have hfr := st3.fr
  clear st3
  go_wp2_with fail
  exact bodyPost_ret (results_st rfl rfl hr Tryz.underlying86 rfl (by kernel_rfl)) rfl ⟨rfl, hfr⟩

set_option maxHeartbeats 8000000 in
set_option maxRecDepth 1000000 in
theorem lifted_ok (a : Option Addr) (n c : Nat) (b : List UInt8) (w : World) (hb : PartIs w (.slice a n c) b) (hn : 1 ≤ n) (hn2 : n ≤ 64) :
    Calls Tryz.prog 43 #[.slice a n c] w fun e w' => ∃ a' c', e = .returned (chV a' (wrPt (lfP b)).length c' 0) ∧ OwnU w' (.slice a' (wrPt (lfP b)).length c') (wrPt (lfP b)) ∧ Fr Nob w w' := by
  have hI0 : ¬ ((n : Int) < 1) := by omega
  have hI : ¬ ((64 : Int) < (n : Int)) := by omega
  have HB := Lib.hid hb
  clear hn hn2 hb
  have st0 := St.start Nob w
  go_enter Tryz.func43, Tryz.ntmps43
  go_wp2_with (with_reducible refine wl_stop (o := ⟨some 1, _, _, _, _, _⟩) ?_)
  refine wl_boxS st0 rfl rfl rfl [.slice a n c] rfl ?_
  intro g1 w1 st1
  clear st0
  go_wp2_with (with_reducible refine wl_stop (o := ⟨some 2, _, _, _, _, _⟩) ?_)
  refine wl_allocS st1 rfl rfl z_ch [.slice none 0 0, .int .i64 0] rfl ?_
  intro g2 w2 st2
  clear st1
  have hc0 := (st2.at 0 rfl).cell (show [Value.slice a n c][0]? = _ from rfl)
  go_wp2_with (with_reducible refine wl_stop (o := ⟨some 12, _, _, _, _, _⟩) ?_)
  refine wl_buildL rfl rfl _ built_ch0 ?_
  clear hc0
  have HG1 := Lib.hid (st2.at 0 rfl)
  have HB2 := Lib.hid (HB.out.still st2.fr)
  go_wp2_with fail
  refine (then_lift g1 none 0 0 _ (wrPt (lfP b)) 0 (fun wx hfx => lifted1_c _ g1 _ b wx (HG1.out.keep hfx id) (HB2.out.still hfx))).mono ?_
  rintro e' w3 ⟨a', c', rfl, ho, hf⟩
  have st3 := st2.keep hf
  have HO := Lib.hid ho
  clear st2 hf ho HG1 HB2
  unfold chV
  have h4 := st3.at 1 rfl
  have HNE := Lib.hid (Own.ne HO.out h4 (by decide))
  have H4 := Lib.hid h4
  have HF := Lib.hid st3.fr
  have HGE := Lib.hid (st3.own _ (List.mem_cons_of_mem _ List.mem_cons_self))
  clear h4 st3
  go_wp2_with (with_reducible refine wl_stop (o := ⟨none, _, _, _, _, _⟩) ?_)
  refine wl_storeA (cs := [.slice a' (wrPt (lfP b)).length c', .int .i64 0]) rfl rfl rfl rfl H4.out (by simp) (by kernel_rfl) (one_ch _ _ _ _) ?_
  intro w9 hg9 hf9 hz9
  clear hz9
  have ho9 : OwnU w9 (.slice a' (wrPt (lfP b)).length c') (wrPt (lfP b)) := Own.keep HO.out hf9 (fun k hk e => HNE.out (by have e2 : k = g2 := e; rw [← e2]; exact hk))
  have HO9 := Lib.hid ho9
  have HF9 := Lib.hid (HF.out.new hf9 (HGE.out.resolve_right (fun h => h.elim)))
  clear hf9 ho9
  go_wp2_with fail
  exact bodyPost_ret (results_st rfl rfl hg9 Tryz.underlying86 rfl (by kernel_rfl)) rfl ⟨a', c', rfl, HO9.out, HF9.out⟩

def lfE (b : List UInt8) : Int := if secOk b = true then 0 else 2
noncomputable def lfS (b : List UInt8) : List UInt8 := if secOk b = true then wrPt (lfP b) else []
theorem lf_ok {b : List UInt8} (h : secOk b = true) : lfE b = 0 ∧ lfS b = wrPt (lfP b) := by unfold lfE lfS; rw [if_pos h, if_pos h]; exact ⟨rfl, rfl⟩
theorem lf_no {b : List UInt8} (h : secOk b = false) : lfE b = 2 ∧ lfS b = [] := by unfold lfE lfS; rw [h]; exact ⟨rfl, rfl⟩
theorem lifted_no (a : Option Addr) (n c : Nat) (b : List UInt8) (w : World) (hb : PartIs w (.slice a n c) b) (h : secOk b = false) :
    Calls Tryz.prog 43 #[.slice a n c] w fun e w' => e = .returned (chV none 0 0 2) ∧ Fr Nob w w' := by
  have hl : b.length = n := by
    obtain ⟨a', n', c', he, -, -, hr, -⟩ := hb
    cases he
    exact hr.len
  unfold secOk at h
  rw [hl] at h
  by_cases h1 : n < 1
  · exact lifted_lo a n c w h1
  · have h2 : 64 < n := by
      have h3 : decide (1 ≤ n) = true := decide_eq_true (by omega)
      rw [h3, Bool.true_and] at h
      have := of_decide_eq_false h
      omega
    exact lifted_hi a n c w h2
theorem lifted_yes (a : Option Addr) (n c : Nat) (b : List UInt8) (w : World) (hb : PartIs w (.slice a n c) b) (h : secOk b = true) :
    Calls Tryz.prog 43 #[.slice a n c] w fun e w' => ∃ a' c', e = .returned (chV a' (wrPt (lfP b)).length c' 0) ∧ OwnU w' (.slice a' (wrPt (lfP b)).length c') (wrPt (lfP b)) ∧ Fr Nob w w' := by
  have hl : b.length = n := by
    obtain ⟨a', n', c', he, -, -, hr, -⟩ := hb
    cases he
    exact hr.len
  unfold secOk at h
  rw [hl] at h
  simp only [Bool.and_eq_true, decide_eq_true_eq] at h
  exact lifted_ok a n c b w hb h.1 h.2

set_option maxHeartbeats 8000000 in
set_option maxRecDepth 1000000 in
theorem Lift_yes (a : Option Addr) (n c : Nat) (b : List UInt8) (w : World) (hb : PartIs w (.slice a n c) b) (h : secOk b = true) :
    Calls Tryz.prog 18 #[.slice a n c] w fun e w' => ∃ v, e = .returned (.tuple #[v, .int .i64 0]) ∧ OwnU w' v (wrPt (lfP b)) ∧ Fr Nob w w' := by
  have HB := Lib.hid hb
  have HK := Lib.hid h
  clear hb h
  go_enter Tryz.func18, Tryz.ntmps18
  go_wp2_with fail
  refine (lifted_yes a n c b _ HB.out HK.out).mono ?_
  rintro e w1 ⟨a', c', rfl, ho, hf⟩
  have HF := Lib.hid hf
  have HO := Lib.hid ho
  clear hf ho HB
  go_wp2_with fail
  refine (btold_ok _ _ _ _).mono ?_
  rintro e w2 ⟨rfl, hf⟩
  have hfr := HF.out.then hf
  have HO2 := Lib.hid (HO.out.still hf)
  clear hf HF HO
  go_wp2_with fail
  go_ret2
  exact ⟨_, rfl, HO2.out, hfr⟩
end Go.Proofs.YtdbgddngapminaaGreat

/- blind: Blind, Valid. -/
namespace Go.Proofs.YtdbgddngapminaaGreat
open Go.RowKit Go.Mv Mvp Mvq
open Classical in
noncomputable def vaB (key b sg : List UInt8) : Bool := numB mQ key && !decide (beN key = 0) && secOk b && decide (wrPt (pmul (beN key) (lfP b)) = sg)
theorem va_t {key b sg : List UInt8} (h1 : numB mQ key = true) (h2 : beN key ≠ 0) (h3 : secOk b = true) : vaB key b sg = decide (wrPt (pmul (beN key) (lfP b)) = sg) := by
  unfold vaB
  rw [h1, h3, decide_eq_false h2]
  simp
theorem va_k {key b sg : List UInt8} (h1 : numB mQ key = false) : vaB key b sg = false := by unfold vaB; rw [h1]; rfl
theorem va_z {key b sg : List UInt8} (h1 : beN key = 0) : vaB key b sg = false := by unfold vaB; rw [decide_eq_true h1]; simp
theorem va_s {key b sg : List UInt8} (h1 : secOk b = false) : vaB key b sg = false := by unfold vaB; rw [h1]; simp
attribute [local irreducible] limbs lw mix cw cSub cAdd cMul foldC valFrom beN laid be32 powm montT mstep elN mdL numB rtV rtOk wrPt rdOk rdPt rdsB pmul tagL hB hN candT candL vaB lfE lfS secOk tC tS
theorem wl_loadG {S : Nat → Prop} {w0 w : World} {bl : List (Nat × List Value × TypeId)} {P : Program} {ops : Array Oper} {rest : List Oper} {o : Oper} {a : Act} {Q : Exit → Act → World → Prop} (hst : St S w0 w bl) (i : Nat) {g : Nat} {L : List Value} {T : TypeId} (hb : bl[i]? = some (g, L, T)) {ty : TypeId} {x : Operand} (hw : Region.wanted o (yielded ops a.tmps) = true) (ho : o.op = .load ty x) {d : TypeDesc} (hu : P.underlying ty = some d) (hd : d.isRow = true) (hx : a.eval x = .pointer (some ⟨g, 0, none⟩))
    (hi : (P.info? ty).map (·.size) = some L.length) (h : wpList P ops Q rest (a.put o.dst (.agg L.toArray)) w) : wpList P ops Q (o :: rest) a w := by
  unfold wpList
  rw [if_pos hw]
  exact .inl (wp_load_mid ty x ho g 0 hx L _ ((hst.at i hb).range 0 L (by rw [List.drop_zero, List.take_of_length_le (Nat.le_refl _)])) hu hd hi h)

set_option maxHeartbeats 8000000 in
set_option maxRecDepth 1000000 in
theorem valid1_c (g1 : Nat) (vk : Value) (key : List UInt8) (va : Value) (l : List UInt8) (w : World) (h1 : Has w g1 [vk] 22) (hk : BPart w vk key) (hp : BPart w va l) :
    Calls Tryz.prog 48 #[va, .pointer (some ⟨g1, 0, none⟩)] w fun e w' => ∃ v, e = .returned (.tuple #[v, .int .i64 (tC key l)]) ∧ OwnU w' v (tS key l) ∧ Fr Nob w w' := by
  have hc := h1.cell (show [vk][0]? = _ from rfl)
  have HK := Lib.hid hk
  have HP := Lib.hid hp
  clear h1 hk hp
  go_enter Tryz.func48, Tryz.ntmps48
  go_wp2_with fail
  refine (GTimes_u vk va key l _ HK.out HP.out).mono ?_
  rintro e w1 ⟨v, rfl, ho, hf⟩
  have HO := Lib.hid (OwnU.of1 ho)
  have HF := Lib.hid hf
  clear ho hf hc HK HP
  go_wp2_with fail
  go_ret2
  exact ⟨v, rfl, HO.out, HF.out⟩
theorem tim_ok {key b : List UInt8} (h : numB mQ key = true) : tC key (wrPt (lfP b)) = 0 ∧ tS key (wrPt (lfP b)) = wrPt (pmul (beN key) (lfP b)) := by
  have h2 := t_ok h (rd_wr (lfP_on b)).1
  rw [(rd_wr (lfP_on b)).2] at h2
  exact h2

set_option maxHeartbeats 8000000 in
set_option maxRecDepth 1000000 in
theorem Valid_k (ak : Option Addr) (nk ck : Nat) (key : List UInt8) (a : Option Addr) (n c : Nat) (b : List UInt8) (sa : Option Addr) (sn sc : Nat) (sg : List UInt8) (w : World) (hkey : RdB w ak nk key) (_hkc : nk ≤ ck) (_hb : PartIs w (.slice a n c) b) (_hs : RdB w sa sn sg) (hq : numB mQ key = false) : Calls Tryz.prog 19 #[.slice ak nk ck, .slice a n c, .slice sa sn sc] w fun e w' => e = .returned (.bool false) ∧ Fr Nob w w' := by
  clear _hb _hs
  have HKY := Lib.hid hkey
  have HN := Lib.hid hq
  clear hkey hq
  have st0 := St.start Nob w
  go_enter Tryz.func19, Tryz.ntmps19
  go_wp2_with (with_reducible refine wl_stop (o := ⟨some 3, _, _, _, _, _⟩) ?_)
  refine wl_boxS st0 rfl rfl rfl [.slice ak nk ck] rfl ?_
  intro g3 w1 st1
  clear st0
  have hc3 := (st1.at 0 rfl).cell (show [Value.slice ak nk ck][0]? = _ from rfl)
  go_wp2_with fail
  refine (Zof_f mQ .one ak nk ck key _ (HKY.out.still st1.fr) HN.out).mono ?_
  rintro e' w2 ⟨rfl, hf2⟩
  have st2 := st1.keep hf2
  clear st1 hf2
  clear hc3
  go_wp2_with (with_reducible refine wl_stop (o := ⟨some 7, _, _, _, _, _⟩) ?_)
  refine wl_allocS st2 rfl rfl (z := .agg #[.int .u64 0, .int .u64 0, .int .u64 0, .int .u64 0]) (by kernel_rfl) (cw 4 0) (by rw [cw_zero]; rfl) ?_
  intro g7 w3 st3
  clear st2
  go_wp2_with (with_reducible refine wl_stop (o := ⟨none, _, _, _, _, _⟩) ?_)
  refine wl_storeS st3 1 rfl rfl rfl rfl rfl (by first | (simp only [cw_len]; done) | (simp only [List.length_append, cw_len]; done)) (by first | (rw [cw_len]; kernel_rfl) | (simp only [List.length_append, cw_len]; kernel_rfl)) (cw_one _ _) ?_
  intro w4 st4
  clear st3
  have hfr := st4.fr
  clear st4
  go_wp2_with fail
  go_ret
  exact ⟨rfl, hfr⟩

set_option maxHeartbeats 8000000 in
set_option maxRecDepth 1000000 in
theorem Valid_z (ak : Option Addr) (nk ck : Nat) (key : List UInt8) (a : Option Addr) (n c : Nat) (b : List UInt8) (sa : Option Addr) (sn sc : Nat) (sg : List UInt8) (w : World) (hkey : RdB w ak nk key) (_hkc : nk ≤ ck) (_hb : PartIs w (.slice a n c) b) (_hs : RdB w sa sn sg) (hq : numB mQ key = true) (hz : (beN key % mQ.M == 0) = true) : Calls Tryz.prog 19 #[.slice ak nk ck, .slice a n c, .slice sa sn sc] w fun e w' => e = .returned (.bool false) ∧ Fr Nob w w' := by
  clear _hb _hs
  have HZ := Lib.hid hz
  clear hz
  have HKY := Lib.hid hkey
  have HN := Lib.hid hq
  clear hkey hq
  have st0 := St.start Nob w
  go_enter Tryz.func19, Tryz.ntmps19
  go_wp2_with (with_reducible refine wl_stop (o := ⟨some 3, _, _, _, _, _⟩) ?_)
  refine wl_boxS st0 rfl rfl rfl [.slice ak nk ck] rfl ?_
  intro g3 w1 st1
  clear st0
  have hc3 := (st1.at 0 rfl).cell (show [Value.slice ak nk ck][0]? = _ from rfl)
  go_wp2_with fail
  refine (Zof_t mQ .one ak nk ck key _ (HKY.out.still st1.fr) HN.out).mono ?_
  rintro e' w2 ⟨rfl, hf2⟩
  have st2 := st1.keep hf2
  clear st1 hf2
  clear hc3
  go_wp2_with (with_reducible refine wl_stop (o := ⟨some 7, _, _, _, _, _⟩) ?_)
  refine wl_allocS st2 rfl rfl (z := .agg #[.int .u64 0, .int .u64 0, .int .u64 0, .int .u64 0]) (by kernel_rfl) (cw 4 0) (by rw [cw_zero]; rfl) ?_
  intro g7 w3 st3
  clear st2
  go_wp2_with (with_reducible refine wl_stop (o := ⟨none, _, _, _, _, _⟩) ?_)
  refine wl_storeS st3 1 rfl rfl rfl rfl rfl (by first | (simp only [cw_len]; done) | (simp only [List.length_append, cw_len]; done)) (by first | (rw [cw_len]; kernel_rfl) | (simp only [List.length_append, cw_len]; kernel_rfl)) (cw_one _ _) ?_
  intro w4 st4
  clear st3
  go_wp2_with (with_reducible refine wl_stop (o := ⟨some 19, _, _, _, _, _⟩) ?_)
  refine wl_loadG st4 1 rfl rfl rfl Tryz.underlying90 rfl rfl (by first | (rw [cw_len]; kernel_rfl) | (simp only [List.length_append, cw_len]; kernel_rfl)) ?_
  go_wp2_with fail
  refine (ZZero_any mQ mQ_ok (beN key) true HZ.out _).mono ?_
  rintro e' w5 ⟨rfl, hf5⟩
  have st5 := st4.keep hf5
  clear st4 hf5
  have hfr := st5.fr
  clear st5
  go_wp2_with fail
  go_ret
  exact ⟨rfl, hfr⟩

set_option maxHeartbeats 8000000 in
set_option maxRecDepth 1000000 in
theorem Valid_s (ak : Option Addr) (nk ck : Nat) (key : List UInt8) (a : Option Addr) (n c : Nat) (b : List UInt8) (sa : Option Addr) (sn sc : Nat) (sg : List UInt8) (w : World) (hkey : RdB w ak nk key) (_hkc : nk ≤ ck) (hb : PartIs w (.slice a n c) b) (hs : RdB w sa sn sg) (hq : numB mQ key = true) (hz : (beN key % mQ.M == 0) = false) (hk : secOk b = false) : Calls Tryz.prog 19 #[.slice ak nk ck, .slice a n c, .slice sa sn sc] w fun e w' => e = .returned (.bool false) ∧ Fr Nob w w' := by
  have HKY := Lib.hid hkey
  have HN := Lib.hid hq
  clear hkey hq
  have HZ := Lib.hid hz
  have HK := Lib.hid hk
  have HB := Lib.hid hb
  have HS := Lib.hid hs
  clear hz hk hb hs
  clear HS
  have st0 := St.start Nob w
  go_enter Tryz.func19, Tryz.ntmps19
  go_wp2_with (with_reducible refine wl_stop (o := ⟨some 3, _, _, _, _, _⟩) ?_)
  refine wl_boxS st0 rfl rfl rfl [.slice ak nk ck] rfl ?_
  intro g3 w1 st1
  clear st0
  have hc3 := (st1.at 0 rfl).cell (show [Value.slice ak nk ck][0]? = _ from rfl)
  go_wp2_with fail
  refine (Zof_t mQ .one ak nk ck key _ (HKY.out.still st1.fr) HN.out).mono ?_
  rintro e' w2 ⟨rfl, hf2⟩
  have st2 := st1.keep hf2
  clear st1 hf2
  clear hc3
  go_wp2_with (with_reducible refine wl_stop (o := ⟨some 7, _, _, _, _, _⟩) ?_)
  refine wl_allocS st2 rfl rfl (z := .agg #[.int .u64 0, .int .u64 0, .int .u64 0, .int .u64 0]) (by kernel_rfl) (cw 4 0) (by rw [cw_zero]; rfl) ?_
  intro g7 w3 st3
  clear st2
  go_wp2_with (with_reducible refine wl_stop (o := ⟨none, _, _, _, _, _⟩) ?_)
  refine wl_storeS st3 1 rfl rfl rfl rfl rfl (by first | (simp only [cw_len]; done) | (simp only [List.length_append, cw_len]; done)) (by first | (rw [cw_len]; kernel_rfl) | (simp only [List.length_append, cw_len]; kernel_rfl)) (cw_one _ _) ?_
  intro w4 st4
  clear st3
  go_wp2_with (with_reducible refine wl_stop (o := ⟨some 19, _, _, _, _, _⟩) ?_)
  refine wl_loadG st4 1 rfl rfl rfl Tryz.underlying90 rfl rfl (by first | (rw [cw_len]; kernel_rfl) | (simp only [List.length_append, cw_len]; kernel_rfl)) ?_
  go_wp2_with fail
  refine (ZZero_any mQ mQ_ok (beN key) false HZ.out _).mono ?_
  rintro e' w5 ⟨rfl, hf5⟩
  have st5 := st4.keep hf5
  clear st4 hf5
  go_wp2_with fail
  refine (lifted_no a n c b _ (HB.out.still st5.fr) HK.out).mono ?_
  rintro e' w6 ⟨rfl, hf6⟩
  have st6 := st5.keep hf6
  clear st5 hf6
  go_wp2_with fail
  refine (then_bad _ none 0 0 2 (by decide) _).mono ?_
  rintro e' w7 ⟨rfl, hf7⟩
  have st7 := st6.keep hf7
  clear st6 hf7
  go_wp2_with fail
  refine (btold_bad none 0 0 2 (by decide) _).mono ?_
  rintro e' w8 ⟨rfl, hf8⟩
  have st8 := st7.keep hf8
  clear st7 hf8
  have hfr := st8.fr
  clear st8
  go_wp2_with fail
  go_ret
  exact ⟨rfl, hfr⟩

set_option maxHeartbeats 8000000 in
set_option maxRecDepth 1000000 in
theorem Valid_ok (ak : Option Addr) (nk ck : Nat) (key : List UInt8) (a : Option Addr) (n c : Nat) (b : List UInt8) (sa : Option Addr) (sn sc : Nat) (sg : List UInt8) (w : World) (hkey : RdB w ak nk key) (hkc : nk ≤ ck) (hb : PartIs w (.slice a n c) b) (hs : RdB w sa sn sg) (hq : numB mQ key = true) (hz : (beN key % mQ.M == 0) = false) (hk : secOk b = true) : Calls Tryz.prog 19 #[.slice ak nk ck, .slice a n c, .slice sa sn sc] w fun e w' => e = .returned (.bool (decide ((wrPt (pmul (beN key) (lfP b))) = sg))) ∧ Fr Nob w w' := by
  have HKY := Lib.hid hkey
  have HN := Lib.hid hq
  clear hkey hq
  have HZ := Lib.hid hz
  have HK := Lib.hid hk
  have HB := Lib.hid hb
  have HS := Lib.hid hs
  clear hz hk hb hs
  have st0 := St.start Nob w
  go_enter Tryz.func19, Tryz.ntmps19
  go_wp2_with (with_reducible refine wl_stop (o := ⟨some 3, _, _, _, _, _⟩) ?_)
  refine wl_boxS st0 rfl rfl rfl [.slice ak nk ck] rfl ?_
  intro g3 w1 st1
  clear st0
  have hc3 := (st1.at 0 rfl).cell (show [Value.slice ak nk ck][0]? = _ from rfl)
  go_wp2_with fail
  refine (Zof_t mQ .one ak nk ck key _ (HKY.out.still st1.fr) HN.out).mono ?_
  rintro e' w2 ⟨rfl, hf2⟩
  have st2 := st1.keep hf2
  clear st1 hf2
  clear hc3
  go_wp2_with (with_reducible refine wl_stop (o := ⟨some 7, _, _, _, _, _⟩) ?_)
  refine wl_allocS st2 rfl rfl (z := .agg #[.int .u64 0, .int .u64 0, .int .u64 0, .int .u64 0]) (by kernel_rfl) (cw 4 0) (by rw [cw_zero]; rfl) ?_
  intro g7 w3 st3
  clear st2
  go_wp2_with (with_reducible refine wl_stop (o := ⟨none, _, _, _, _, _⟩) ?_)
  refine wl_storeS st3 1 rfl rfl rfl rfl rfl (by first | (simp only [cw_len]; done) | (simp only [List.length_append, cw_len]; done)) (by first | (rw [cw_len]; kernel_rfl) | (simp only [List.length_append, cw_len]; kernel_rfl)) (cw_one _ _) ?_
  intro w4 st4
  clear st3
  go_wp2_with (with_reducible refine wl_stop (o := ⟨some 19, _, _, _, _, _⟩) ?_)
  refine wl_loadG st4 1 rfl rfl rfl Tryz.underlying90 rfl rfl (by first | (rw [cw_len]; kernel_rfl) | (simp only [List.length_append, cw_len]; kernel_rfl)) ?_
  go_wp2_with fail
  refine (ZZero_any mQ mQ_ok (beN key) false HZ.out _).mono ?_
  rintro e' w5 ⟨rfl, hf5⟩
  have st5 := st4.keep hf5
  clear st4 hf5
  go_wp2_with fail
  refine (lifted_yes a n c b _ (HB.out.still st5.fr) HK.out).mono ?_
  rintro e' w6 ⟨a1, c1, rfl, ho, hf6⟩
  have st6 := st5.keep hf6
  have HL1 := Lib.hid ho
  clear ho
  clear st5 hf6
  have HG3 := Lib.hid (st6.at 0 rfl)
  have HKP := Lib.hid (show BPart _ (.slice ak nk ck) key from ⟨ak, nk, ck, rfl, hkc, HKY.out.still st6.fr⟩)
  go_wp2_with fail
  have ht := fun wy => then_valid g3 a1 (wrPt (lfP b)).length c1 wy (tS key (wrPt (lfP b))) (tC key (wrPt (lfP b)))
  have HTK := Lib.hid (tim_ok (b := b) HN.out)
  rw [HTK.out.1, HTK.out.2] at ht
  have HT := Lib.hid ht
  clear ht
  refine (HT.out _ (fun wy hfx => ?_)).mono ?_
  · have hv := valid1_c g3 (.slice ak nk ck) key (.slice a1 (wrPt (lfP b)).length c1) (wrPt (lfP b)) wy (HG3.out.keep hfx id) (HKP.out.still hfx) ((OwnU.part HL1.out).still hfx)
    rw [HTK.out.1, HTK.out.2] at hv
    exact hv
  rintro e' w7 ⟨a5, c5, rfl, ho, hf⟩
  have st7 := st6.keep hf
  have HL5 := Lib.hid ho
  clear st6 hf ho HG3 HKP HL1 HT HTK
  go_wp2_with fail
  refine (btold_ok _ _ _ _).mono ?_
  rintro e' w8 ⟨rfl, hf8⟩
  have st8 := st7.keep hf8
  have HL6 := Lib.hid (HL5.out.still hf8)
  clear HL5
  clear st7 hf8
  have HS2 := Lib.hid (HS.out.still st8.fr)
  obtain ⟨a7, n7, c7, h7, -, h77⟩ := OwnU.part HL6.out
  cases h7
  have HR7 := Lib.hid h77
  clear h77
  go_wp2_with fail
  refine (equal_any _ _ _ _ _ _ _ _ _ HR7.out HS2.out).mono ?_
  rintro e' w' ⟨rfl, rfl⟩
  have hfr := st8.fr
  clear st8 HR7 HS2 HL6
  go_wp2_with fail
  go_ret
  exact ⟨rfl, hfr⟩

open Classical in
theorem Valid_u (ak : Option Addr) (nk ck : Nat) (key : List UInt8) (a : Option Addr) (n c : Nat) (b : List UInt8) (sa : Option Addr) (sn sc : Nat) (sg : List UInt8) (w : World) (hkey : RdB w ak nk key) (hkc : nk ≤ ck) (hb : PartIs w (.slice a n c) b) (hs : RdB w sa sn sg) : Calls Tryz.prog 19 #[.slice ak nk ck, .slice a n c, .slice sa sn sc] w fun e w' => e = .returned (.bool (vaB key b sg)) ∧ Fr Nob w w' := by
  cases hq : numB mQ key with
  | false => rw [va_k hq]; exact Valid_k ak nk ck key a n c b sa sn sc sg w hkey hkc hb hs hq
  | true =>
    have hlt := numB_lt2 hq
    cases hz : (beN key % mQ.M == 0) with
    | true =>
      have h0 : beN key = 0 := by rw [Nat.mod_eq_of_lt hlt] at hz; exact eq_of_beq hz
      rw [va_z h0]; exact Valid_z ak nk ck key a n c b sa sn sc sg w hkey hkc hb hs hq hz
    | false =>
      have h0 : beN key ≠ 0 := by rw [Nat.mod_eq_of_lt hlt] at hz; simpa using hz
      cases hk : secOk b with
      | false => rw [va_s hk]; exact Valid_s ak nk ck key a n c b sa sn sc sg w hkey hkc hb hs hq hz hk
      | true =>
        rw [va_t hq h0 hk]
        have h := Valid_ok ak nk ck key a n c b sa sn sc sg w hkey hkc hb hs hq hz hk
        refine h.mono fun e w' k => ⟨?_, k.2⟩
        rw [k.1]
end Go.Proofs.YtdbgddngapminaaGreat

/- The reference's HashTo. -/
namespace Go.Proofs.YtdbgddngapminaaGreat
open Go.RowKit Go.Mv Mvp Mvq
/-- a point on the curve as the reference has it -/
noncomputable def aR : (p : Pt) → onC p → RT
  | .A x y, h => affR x y h
  | .O, _ => noR
theorem aR_pt : ∀ (p : Pt) (h : onC p), (aR p h).pt = p
  | .A x y, h => affR_pt x y h
  | .O, _ => noR_pt
theorem aR_L {p : Pt} (h : onC p) {x y : K} (e : p = .A x y) : (aR p h).L = rpL x y 1 := by subst e; rfl
noncomputable def hashR (lab l : List UInt8) : RT := aR (hashT lab l).pt (hashT lab l).onP
theorem hashR_pt (lab l : List UInt8) : (hashR lab l).pt = (hashT lab l).pt := aR_pt _ _
theorem hashR_L {lab l : List UInt8} {x y : K} (e : (hashT lab l).pt = .A x y) : (hashR lab l).L = rpL x y 1 := aR_L _ e
theorem hashR_yes {lab l : List UInt8} {k n : Nat} (hk : k < 256) (hn : hN lab l k = n) (h1 : n < fP) (h2 : rtOk fP (crvN n) = true) (h0 : candL lab l k = []) : (hashR lab l).L = rpL (kc n) (kc (rtV fP (crvN n))) 1 := by
  have h2' : rtOk mP.M (crvN n) = true := by rw [mP_fP]; exact h2
  refine hashR_L ?_
  rw [hashT_some hk (candT_yes hn (by rw [mP_fP]; exact h1) h2') h0, affT_pt, hatY n h2']
theorem hashR_base {lab l : List UInt8} (h0 : candL lab l 256 = []) : (hashR lab l).L = rpL (kc gXn) (kc gYn) 1 := by
  refine hashR_L ?_
  rw [hashT_none h0, baseT_pt]
theorem rpL_oneH (x y z : K) : ∀ v ∈ rpL x y z, v.oneCell' = true := by unfold rpL; exact pt_one _ _ _
theorem RAt2_t (n : Nat) (hlt : n < fP) (hr : rtOk fP (crvN n) = true) (w : World) : Calls Tryz.prog 31 #[i4 n] w fun e w' => e = .returned (.tuple #[.agg (rpL (kc n) (kc (rtV fP (crvN n))) 1).toArray, .bool true]) ∧ Fr Nob w w' := by
  have h := RAt_t n hr w
  rwa [kN_kc, Nat.mod_eq_of_lt hlt] at h
theorem RAt2_f (n : Nat) (hlt : n < fP) (hr : rtOk fP (crvN n) = false) (w : World) : Calls Tryz.prog 31 #[i4 n] w fun e w' => e = .returned (.tuple #[.agg (rpL (kc n) 0 1).toArray, .bool false]) ∧ Fr Nob w w' := by
  have h := RAt_f n hr w
  rwa [kN_kc, Nat.mod_eq_of_lt hlt] at h
theorem RNumP_u (l : List UInt8) (w : World) : Calls Tryz.prog 15 #[fv mP.M, .string (mkS l)] w fun e w' => ∃ N : Nat, e = .returned (.tuple #[i4 N, .bool (numB mP l)]) ∧ (numB mP l = true → N = beN l) ∧ Fr Nob w w' := by
  cases h : numB mP l with
  | true =>
    refine (Number_t mP mP_ok.lt (mkS l) w (by rw [mkS_toList]; exact h)).mono ?_
    rintro e w' ⟨rfl, hf⟩
    rw [mkS_toList]
    exact ⟨_, rfl, fun _ => rfl, hf⟩
  | false =>
    refine (Number_f mP mP_ok.lt (mkS l) w (by rw [mkS_toList]; exact h)).mono ?_
    rintro e w' ⟨N, rfl, hf⟩
    exact ⟨N, rfl, fun h => (by cases h), hf⟩
theorem hN_hB (lab l : List UInt8) (k : Nat) : hN lab l k = beN (tagL (kPoint ++ lab) [l, [UInt8.ofNat k]]) := hN_is lab l k
theorem numB_yes {l : List UInt8} (h1 : l.length = 32) (h2 : beN l < mP.M) : numB mP l = true := by unfold numB; rw [decide_eq_true h1, decide_eq_true h2]; rfl
theorem info_strg : (Tryz.prog.info? 9).map (fun i => (i.zero, i.size, i.bytes)) = some (some (.string ⟨#[]⟩), 1, 16) := by kernel_rfl
attribute [local irreducible] limbs lw mix cw cSub cAdd cMul foldC valFrom beN laid be32 powm montT mstep elN mdL numB rtV rtOk kN kc kinv wrPt addR noR timesR tmsR RT.L tagL hB hN candT candL hashT atY crvN affT rpL mkS
set_option maxHeartbeats 16000000 in
set_option maxRecDepth 1000000 in
theorem RHashTo_c (lab : ByteArray) (l : List UInt8) (hsz : lab.size ≤ 40000) (hll : l.length ≤ 40000) (w : World) : Calls Tryz.prog 13 #[.string lab, .string (mkS l)] w fun e w' => e = .returned (.agg (hashR lab.data.toList l).L.toArray) ∧ Fr Nob w w' := by
  have HSZ := Lib.hid hsz
  have HLL := Lib.hid hll
  clear hsz hll
  have st0 := St.start Nob w
  go_enter Tryz.func13, Tryz.ntmps13
  go_wp2_with (with_reducible refine wl_stop (o := ⟨some 4, _, _, _, _, _⟩) ?_)
  refine wl_allocS st0 rfl rfl (z := .agg #[.int .u64 0, .int .u64 0, .int .u64 0, .int .u64 0, .int .u64 0, .int .u64 0, .int .u64 0, .int .u64 0, .int .u64 0, .int .u64 0, .int .u64 0, .int .u64 0]) (by kernel_rfl) (cw 12 0) (by rw [cw_zero]; rfl) ?_
  intro g4 w1 st1
  clear st0
  go_wp2
  go_loopw [5] (fun i wr => ∃ k : Nat, k ≤ 256 ∧ i = .int .i64 (k : Int) ∧ candL lab.data.toList l k = [] ∧ St Nob w wr [(g4, cw 12 0, 34)]) (fun i _ => 256 - (intOf i).toNat)
  case atStart => exact ⟨0, by omega, rfl, candL_zero _ _, st1⟩
  case round =>
    obtain ⟨k, hk, rfl, hnone, st⟩ := hrel
    clear st1
    have HN0 := Lib.hid hnone
    clear hnone
    rcases Nat.lt_or_ge k 256 with hk2 | hk2
    · have hltI : (k : Int) < 256 := by omega
      have hk0 : (0 : Int) ≤ (k : Int) := by omega
      have hk8 : (k : Int) % 256 = (k : Int) := by omega
      have HLT := Lib.hid hk2
      clear hk2 hk
      have hn := hN_hB lab.data.toList l k
      generalize hT : tagL (kPoint ++ lab.data.toList) [l, [UInt8.ofNat k]] = T at *
      have HT := Lib.hid hT
      have HTL := Lib.hid (show T.length = 32 by rw [← hT]; exact tagL_len _ _)
      have HN := Lib.hid hn
      clear hT hn
      have hbb : numB mP T = true → beN T < fP := fun h => by have := numB_lt mP T h; rwa [mP_fP] at this
      have HBB := Lib.hid hbb
      clear hbb
      generalize hb : numB mP T = b at *
      have HB := Lib.hid hb
      clear hb
      go_wp2_with fail
      refine wp_region_noPanic ?_
      have hd1 := st.drew
      clear st
      refine wp_region_posA (fun wx => St Nob w wx [(g4, cw 12 0, 34)] ∧ Fr Nob (World.drew _) wx) [0, 1, 2, 3, 4, 5, 6, 7, 8, 9, 10, 11, 12, 13, 14] [13] (fun i => match i with | 0 => [] | 1 => [] | 2 => [1] | 3 => [] | 4 => [] | 5 => [4] | 6 => [5] | 7 => [6] | 8 => [3, 7] | 9 => [2, 8] | 10 => [0, 9] | 11 => [10] | 12 => [11] | 13 => [11] | 14 => [] | _ => []) (fun i x wx => match i with | 0 => x 0 = fv mP.M | 1 => x 1 = .string lab | 2 => x 2 = .string (mkS (kPoint ++ lab.data.toList)) | 3 => x 3 = .string (mkS l) | 4 => x 4 = .int .i64 (k : Int) | 5 => x 5 = .int .u8 (k : Int) | 6 => ∃ g, x 6 = .slice (some ⟨g, 0, none⟩) 1 1 ∧ Has wx g (bs [UInt8.ofNat k]) 5 | 7 => x 7 = .string (mkS [UInt8.ofNat k]) | 8 => ∃ g, x 8 = .slice (some ⟨g, 0, none⟩) 2 2 ∧ Has wx g (ss [l, [UInt8.ofNat k]]) 9 | 9 => x 9 = .string (mkS T) | 10 => ∃ N : Nat, x 10 = .tuple #[i4 N, .bool b] ∧ (b = true → N = beN T) | 11 => ∃ N : Nat, x 11 = .tuple #[i4 N, .bool b] ∧ (b = true → N = beN T) | 12 => ∃ N : Nat, x 12 = i4 N ∧ (b = true → N = beN T) | 13 => x 13 = .bool b | 14 => ∃ g, x 14 = .pointer (some ⟨g, 0, none⟩) ∧ Has wx g (cw 4 0) 32 ∧ (World.drew wr).heap.size ≤ g | _ => True) 15 (.m 15 (.w 16 .nil)) ?_ (fun x => ?_) (by kernel_rfl) (by kernel_rfl) (fun _ _ _ _ _ h => h) ⟨hd1, Fr.refl _ _⟩ (fun _ _ h k => ⟨h.1.keep k, h.2.then k⟩) ?_ ?_
      rotate_left 1
      · simp only [puts, putI, Act.put, List.getElem?_toArray, List.getElem?_cons_zero, List.getElem?_cons_succ, List.setIfInBounds_toArray, List.set_cons_zero, List.set_cons_succ]
        exact rfl
      refine obls_cons rfl rfl (fun x wx hG hp => ?_) (fun y _ _ h k => h) ?_
      · try dsimp only
        clear hp
        refine pos_go rfl Tryz.call33 (vs := []) rfl ?_
        refine (RF_any _).mono ?_
        rintro e w' ⟨rfl, hf⟩
        exact ⟨_, rfl, hf, rfl⟩
      refine obls_cons rfl rfl (fun x wx hG hp => ?_) (fun y _ _ h k => h) ?_
      · try dsimp only
        clear hp
        exact pos_v (v := .string lab) (by go_simp; try with_reducible rfl) rfl
      refine obls_cons rfl rfl (fun x wx hG hp => ?_) (fun y _ _ h k => h) ?_
      · try dsimp only
        have e1 : x 1 = .string lab := hp 1 (by decide)
        generalize x 1 = v1 at e1 ⊢
        subst e1
        clear hp
        exact pos_v (exec_addS2 rfl rfl rfl Tryz.underlying9 (by have h : (⟨#[112, 111, 105, 110, 116, 32]⟩ : ByteArray).size = 6 := rfl; rw [h]; have := HSZ.out; omega) (str_app lab) _) rfl
      refine obls_cons rfl rfl (fun x wx hG hp => ?_) (fun y _ _ h k => h) ?_
      · try dsimp only
        clear hp
        exact pos_v (v := .string (mkS l)) (by go_simp; try with_reducible rfl) rfl
      refine obls_cons rfl rfl (fun x wx hG hp => ?_) (fun y _ _ h k => h) ?_
      · try dsimp only
        clear hp
        exact pos_v (v := .int .i64 (k : Int)) (by go_simp; try with_reducible rfl) rfl
      refine obls_cons rfl rfl (fun x wx hG hp => ?_) (fun y _ _ h k => h) ?_
      · try dsimp only
        have e4 : x 4 = .int .i64 (k : Int) := hp 4 (by decide)
        generalize x 4 = v4 at e4 ⊢
        subst e4
        clear hp
        exact pos_v (v := .int .u8 (k : Int)) (by go_simp; exact IntWalk.u8_in _ (by omega)) rfl
      refine obls_cons rfl rfl (fun x wx hG hp => ?_) (fun y _ _ h k => by obtain ⟨g, h1, h2⟩ := h; exact ⟨g, h1, h2.keep k id⟩) ?_
      · try dsimp only
        have e5 : x 5 = .int .u8 (k : Int) := hp 5 (by decide)
        generalize x 5 = v5 at e5 ⊢
        subst e5
        clear hp
        refine pos_rows rfl Tryz.underlying22 info_u8 [.int .u8 (k : Int)] rfl (by intro u hu; simp only [List.mem_singleton] at hu; subst hu; rfl) rfl (bs [UInt8.ofNat k]) (by show [Value.int .u8 (k : Int)] = [Value.int .u8 ((UInt8.ofNat k).toNat : Int)]; rw [UInt8.toNat_ofNat', Nat.mod_eq_of_lt HLT.out]) (fun g w' _ _ hg => ⟨g, rfl, hg⟩)
      refine obls_cons rfl rfl (fun x wx hG hp => ?_) (fun y _ _ h k => h) ?_
      · try dsimp only
        have e6 : ∃ g, x 6 = .slice (some ⟨g, 0, none⟩) 1 1 ∧ Has wx g (bs [UInt8.ofNat k]) 5 := hp 6 (by decide)
        obtain ⟨ga, e6, HGA⟩ := e6
        generalize x 6 = v6 at e6 ⊢
        subst e6
        clear hp
        exact pos_v (exec_str rfl Tryz.underlying22 Tryz.underlying5 Tryz.underlying9 rfl (show RdB _ _ 1 _ from Rd.whole HGA)) rfl
      refine obls_cons rfl rfl (fun x wx hG hp => ?_) (fun y _ _ h k => by obtain ⟨g, h1, h2⟩ := h; exact ⟨g, h1, h2.keep k id⟩) ?_
      · try dsimp only
        have e3 : x 3 = .string (mkS l) := hp 3 (by decide)
        generalize x 3 = v3 at e3 ⊢
        subst e3
        have e7 : x 7 = .string (mkS [UInt8.ofNat k]) := hp 7 (by decide)
        generalize x 7 = v7 at e7 ⊢
        subst e7
        clear hp
        refine pos_rows rfl Tryz.underlying126 info_strg [.string (mkS l), .string (mkS [UInt8.ofNat k])] rfl (by intro u hu; simp only [List.mem_cons, List.not_mem_nil, or_false] at hu; rcases hu with rfl | rfl <;> rfl) rfl (ss [l, [UInt8.ofNat k]]) rfl (fun g w' _ _ hg => ⟨g, rfl, hg⟩)
      refine obls_cons rfl rfl (fun x wx hG hp => ?_) (fun y _ _ h k => h) ?_
      · try dsimp only
        have e2 : x 2 = .string (mkS (kPoint ++ lab.data.toList)) := hp 2 (by decide)
        generalize x 2 = v2 at e2 ⊢
        subst e2
        have e8 : ∃ g, x 8 = .slice (some ⟨g, 0, none⟩) 2 2 ∧ Has wx g (ss [l, [UInt8.ofNat k]]) 9 := hp 8 (by decide)
        obtain ⟨gb, e8, HGB⟩ := e8
        generalize x 8 = v8 at e8 ⊢
        subst e8
        clear hp
        refine pos_go rfl Tryz.call37 (vs := [.string (mkS (kPoint ++ lab.data.toList)), .slice (some ⟨gb, 0, none⟩) 2 2]) rfl ?_
        refine (tagR_any (mkS (kPoint ++ lab.data.toList)) (some ⟨gb, 0, none⟩) 2 [l, [UInt8.ofNat k]] _ (by have := HSZ.out; have := HLL.out; rw [mkS_size]; simp only [List.length_append, sumL, List.map_cons, List.map_nil, List.foldr_cons, List.foldr_nil, List.length_cons, List.length_nil, kPoint, size_list]; omega) (by simp) (by have h := Rd.whole HGB; exact h)).mono ?_
        rintro e w' ⟨rfl, hf⟩
        exact ⟨_, rfl, hf, by show Value.string _ = Value.string _; rw [mkS_toList, HT.out]⟩
      refine obls_cons rfl rfl (fun x wx hG hp => ?_) (fun y _ _ h k => h) ?_
      · try dsimp only
        have e0 : x 0 = fv mP.M := hp 0 (by decide)
        generalize x 0 = v0 at e0 ⊢
        subst e0
        have e9 : x 9 = .string (mkS T) := hp 9 (by decide)
        generalize x 9 = v9 at e9 ⊢
        subst e9
        clear hp
        refine pos_go rfl Tryz.call15 (vs := [fv mP.M, .string (mkS T)]) rfl ?_
        refine (RNumP_u T _).mono ?_
        rintro e w' ⟨N, rfl, hN, hf⟩
        rw [HB.out] at hN ⊢
        exact ⟨_, rfl, hf, N, rfl, hN⟩
      refine obls_cons rfl rfl (fun x wx hG hp => ?_) (fun y _ _ h k => h) ?_
      · try dsimp only
        have e10 : ∃ N : Nat, x 10 = .tuple #[i4 N, .bool b] ∧ (b = true → N = beN T) := hp 10 (by decide)
        obtain ⟨N, e10, HNN⟩ := e10
        generalize x 10 = v10 at e10 ⊢
        subst e10
        clear hp
        exact pos_v (v := .tuple #[i4 N, .bool b]) (by go_simp; try with_reducible rfl) ⟨N, rfl, HNN⟩
      refine obls_cons rfl rfl (fun x wx hG hp => ?_) (fun y _ _ h k => h) ?_
      · try dsimp only
        have e11 : ∃ N : Nat, x 11 = .tuple #[i4 N, .bool b] ∧ (b = true → N = beN T) := hp 11 (by decide)
        obtain ⟨N, e11, HNN⟩ := e11
        generalize x 11 = v11 at e11 ⊢
        subst e11
        clear hp
        exact pos_v (v := i4 N) (by go_simp; try with_reducible rfl) ⟨N, rfl, HNN⟩
      refine obls_loose rfl rfl (fun x wx hG hp => ?_) (fun y _ _ h k => h) ?_
      · try dsimp only
        have e11 : ∃ N : Nat, x 11 = .tuple #[i4 N, .bool b] ∧ (b = true → N = beN T) := hp 11 (by decide)
        obtain ⟨N, e11, HNN⟩ := e11
        generalize x 11 = v11 at e11 ⊢
        subst e11
        clear hp
        exact ⟨.bool b, fun wx => by go_simp; try with_reducible rfl, rfl⟩
      refine obls_cons rfl rfl (fun x wx hG hp => ?_) (fun y _ _ h k => by obtain ⟨g, h1, h2, h3⟩ := h; exact ⟨g, h1, h2.keep k id, h3⟩) ?_
      · try dsimp only
        clear hp
        exact pos_alloc rfl z_rn (cw 4 0) rfl (fun g w' _ hle hg => ⟨g, rfl, hg, Nat.le_trans hG.2.size hle⟩)
      exact trivial
      intro x w2 hG hp
      try dsimp only
      have e12 : ∃ N : Nat, x 12 = i4 N ∧ (b = true → N = beN T) := hp 12 (by decide)
      obtain ⟨N, e12, HNN⟩ := e12
      generalize x 12 = v12 at e12 ⊢
      subst e12
      have e13 : x 13 = .bool b := hp 13 (by decide)
      generalize x 13 = v13 at e13 ⊢
      subst e13
      have e14 : ∃ g, x 14 = .pointer (some ⟨g, 0, none⟩) ∧ Has w2 g (cw 4 0) 32 ∧ (World.drew wr).heap.size ≤ g := hp 14 (by decide)
      obtain ⟨ga14, e14, HG14, HL14⟩ := e14
      generalize x 14 = v14 at e14 ⊢
      subst e14
      clear hp
      generalize x 0 = v0
      generalize x 1 = v1
      generalize x 2 = v2
      generalize x 3 = v3
      generalize x 4 = v4
      generalize x 5 = v5
      generalize x 6 = v6
      generalize x 7 = v7
      generalize x 8 = v8
      generalize x 9 = v9
      generalize x 10 = v10
      generalize x 11 = v11
      have st2 := hd1.new hG.2 HG14 HL14
      try simp only [List.cons_append, List.nil_append] at st2
      clear HL14 HG14
      clear hG hd1
      refine plan_m rfl rfl ?_
      refine wp_storeS st2 1 rfl rfl rfl rfl (by first | (simp only [cw_len]; done) | (simp only [List.length_append, cw_len, RT.len, rpL_len]; done)) (by first | (rw [cw_len]; kernel_rfl) | (rw [RT.len]; kernel_rfl) | (rw [rpL_len]; kernel_rfl) | (simp only [List.length_append, cw_len]; kernel_rfl) | (simp only [List.length_append, cw_len, RT.len, rpL_len]; kernel_rfl)) (cw_one _ _) ?_
      intro w3 st3
      try simp only [List.set_cons_zero, List.set_cons_succ] at st3
      clear st2
      try simp only [Act.put]
      refine plan_w (v := ?_) rfl rfl (fun wx => ?_) ?_
      rotate_left 1
      · (go_simp; with_reducible rfl)
      try simp only [Go.Mv.clL]
      refine plan_end ?_
      refine NoPanic.normal ?_
      have HNE := Lib.hid HNN
      clear HNN
      rcases b with _ | _
      · skip
        have HC := Lib.hid (show candT lab.data.toList l k = none from candT_no HN.out fun h => by have h3 := numB_yes (HTL.out) h.1; rw [HB.out] at h3; cases h3)
        go_wp2_with fail
        go_roundw
        case rel => exact ⟨k + 1, by have := HLT.out; omega, by go_num, by rw [candL_no HC.out]; exact HN0.out, St.less st3 (by simp)⟩
        case measure => have := HLT.out; simp [intOf]; omega
      · have hlt := HBB.out rfl
        obtain rfl : N = beN T := HNE.out rfl
        clear HNE HBB
        generalize beN T = n at *
        have HLN := Lib.hid hlt
        clear hlt
        rcases hr : rtOk fP (crvN n) with _ | _
        · have HR := Lib.hid hr
          clear hr
          go_wp2_with (with_reducible refine wl_stop (o := ⟨some 30, _, _, _, _, _⟩) ?_)
          refine wl_loadS st3 1 rfl rfl rfl Tryz.underlying32 rfl (by first | (rw [cw_len]; kernel_rfl) | (rw [RT.len]; kernel_rfl) | (rw [rpL_len]; kernel_rfl) | (simp only [List.length_append, cw_len]; kernel_rfl) | (simp only [List.length_append, cw_len, RT.len, rpL_len]; kernel_rfl)) ?_
          go_wp2_with fail
          refine (RAt2_f n HLN.out HR.out _).mono ?_
          rintro e' w4 ⟨rfl, hf4⟩
          have st4 := st3.keep hf4
          clear st3 hf4
          go_wp2_with (with_reducible refine wl_stop (o := ⟨some 8, _, _, _, _, _⟩) ?_)
          refine wl_allocS st4 rfl rfl (z := .agg #[.int .u64 0, .int .u64 0, .int .u64 0, .int .u64 0, .int .u64 0, .int .u64 0, .int .u64 0, .int .u64 0, .int .u64 0, .int .u64 0, .int .u64 0, .int .u64 0]) (by kernel_rfl) (cw 12 0) (by rw [cw_zero]; rfl) ?_
          intro g8 w5 st5
          clear st4
          go_wp2_with (with_reducible refine wl_stop (o := ⟨none, _, _, _, _, _⟩) ?_)
          refine wl_storeS st5 2 rfl rfl rfl rfl rfl (by first | (simp only [cw_len]; done) | (simp only [List.length_append, cw_len, RT.len, rpL_len]; done)) (by first | (rw [cw_len]; kernel_rfl) | (simp only [rpL_len]; kernel_rfl)) (rpL_oneH _ _ _) ?_
          intro w6 st6
          clear st5
          have HC := Lib.hid (show candT lab.data.toList l k = none from candT_no HN.out fun h => by rw [mP_fP, HR.out] at h; exact absurd h.2 (by decide))
          go_wp2_with fail
          go_roundw
          case rel => exact ⟨k + 1, by have := HLT.out; omega, by go_num, by rw [candL_no HC.out]; exact HN0.out, St.less st6 (by simp)⟩
          case measure => have := HLT.out; simp [intOf]; omega
        · have HR := Lib.hid hr
          clear hr
          go_wp2_with (with_reducible refine wl_stop (o := ⟨some 30, _, _, _, _, _⟩) ?_)
          refine wl_loadS st3 1 rfl rfl rfl Tryz.underlying32 rfl (by first | (rw [cw_len]; kernel_rfl) | (rw [RT.len]; kernel_rfl) | (rw [rpL_len]; kernel_rfl) | (simp only [List.length_append, cw_len]; kernel_rfl) | (simp only [List.length_append, cw_len, RT.len, rpL_len]; kernel_rfl)) ?_
          go_wp2_with fail
          refine (RAt2_t n HLN.out HR.out _).mono ?_
          rintro e' w4 ⟨rfl, hf4⟩
          have st4 := st3.keep hf4
          clear st3 hf4
          go_wp2_with (with_reducible refine wl_stop (o := ⟨some 8, _, _, _, _, _⟩) ?_)
          refine wl_allocS st4 rfl rfl (z := .agg #[.int .u64 0, .int .u64 0, .int .u64 0, .int .u64 0, .int .u64 0, .int .u64 0, .int .u64 0, .int .u64 0, .int .u64 0, .int .u64 0, .int .u64 0, .int .u64 0]) (by kernel_rfl) (cw 12 0) (by rw [cw_zero]; rfl) ?_
          intro g8 w5 st5
          clear st4
          go_wp2_with (with_reducible refine wl_stop (o := ⟨none, _, _, _, _, _⟩) ?_)
          refine wl_storeS st5 2 rfl rfl rfl rfl rfl (by first | (simp only [cw_len]; done) | (simp only [List.length_append, cw_len, RT.len, rpL_len]; done)) (by first | (rw [cw_len]; kernel_rfl) | (simp only [rpL_len]; kernel_rfl)) (rpL_oneH _ _ _) ?_
          intro w6 st6
          clear st5
          have HH := Lib.hid (hashR_yes HLT.out HN.out HLN.out HR.out HN0.out)
          go_wp2_with (with_reducible refine wl_stop (o := ⟨some 35, _, _, _, _, _⟩) ?_)
          refine wl_loadSt st6 2 rfl rfl rfl Tryz.underlying34 rfl rfl (by first | (rw [cw_len]; kernel_rfl) | (simp only [rpL_len]; kernel_rfl)) ?_
          go_wp2_with (with_reducible refine wl_stop (o := ⟨none, _, _, _, _, _⟩) ?_)
          refine wl_storeS st6 0 rfl rfl rfl rfl rfl (by first | (simp only [cw_len]; done) | (simp only [List.length_append, cw_len, RT.len, rpL_len]; done)) (by first | (rw [cw_len]; kernel_rfl) | (simp only [rpL_len]; kernel_rfl)) (rpL_oneH _ _ _) ?_
          intro w7 st7
          clear st6
          have hr := st7.at 0 rfl
          have hfr := st7.fr
          clear st7
          go_wp2_with fail
          exact bodyPost_ret (results_st rfl rfl hr Tryz.underlying34 rfl (by first | (rw [cw_len]; kernel_rfl) | (simp only [rpL_len]; kernel_rfl))) rfl ⟨by rw [HH.out], hfr⟩
    · have hk3 : k = 256 := by omega
      subst hk3
      have hge : ¬ (((256 : Nat) : Int) < 256) := by omega
      have HH := Lib.hid (hashR_base HN0.out)
      go_wp2_with fail
      refine (RG_c _).mono ?_
      rintro e' w2 ⟨rfl, hf2⟩
      have st2 := st.keep hf2
      clear st hf2
      go_wp2_with (with_reducible refine wl_stop (o := ⟨none, _, _, _, _, _⟩) ?_)
      refine wl_storeS st2 0 rfl rfl rfl rfl rfl (by first | (simp only [cw_len]; done) | (simp only [List.length_append, cw_len, RT.len, rpL_len]; done)) (by first | (rw [cw_len]; kernel_rfl) | (simp only [RT.len]; kernel_rfl)) (RT.one _) ?_
      intro w3 st3
      clear st2
      have hr := st3.at 0 rfl
      have hfr := st3.fr
      clear st3
      go_wp2_with fail
      exact bodyPost_ret (results_st rfl rfl hr Tryz.underlying34 rfl (by first | (rw [cw_len]; kernel_rfl) | (simp only [RT.len]; kernel_rfl))) rfl ⟨by rw [HH.out, baseR_L], hfr⟩

attribute [local irreducible] hashR
noncomputable def hRR : RT := hashR kValue []
end Go.Proofs.YtdbgddngapminaaGreat

/- The law GroupHides. -/
namespace Go.Proofs.YtdbgddngapminaaGreat
open Go.RowKit Go.Mv Mvp Mvq
attribute [local irreducible] hRR hashT hashR PT.pt baseT
theorem RHashTo_s (lab s : ByteArray) (h1 : lab.size ≤ 4096) (h2 : s.size ≤ 4096) (w : World) : Calls Tryz.prog 13 #[.string lab, .string s] w fun e w' => e = .returned (.agg (hashR lab.data.toList s.data.toList).L.toArray) ∧ Fr Nob w w' := by
  have h := RHashTo_c lab s.data.toList (by omega) (by rw [size_list]; omega) w
  rwa [mkS_data] at h
attribute [local irreducible] limbs lw mix cw cSub cAdd cMul foldC valFrom beN laid be32 powm montT mstep elN mdL numB rtV rtOk kN kc kinv wrPt addR noR timesR tmsR RT.L gXn gYn rpL rdOk rdPt tagL hB hN candT candL mkS
end Go.Proofs.YtdbgddngapminaaGreat

/- blind's reference: Secret, Lift, Blind, Valid. -/
namespace Go.Proofs.YtdbgddngapminaaGreat
open Go.RowKit Go.Mv Mvp Mvq
noncomputable def lfR (b : List UInt8) : RT := if secOk b = true then hashR kToken b else noR
theorem lfR_pt {b : List UInt8} (h : secOk b = true) : (lfR b).pt = lfP b := by unfold lfR lfP; rw [if_pos h, hashR_pt]
theorem sec_size (s : ByteArray) : secOk s.data.toList = (decide (1 ≤ s.size) && decide (s.size ≤ 64)) := by unfold secOk; rw [size_list]
theorem RHash_tok (s : ByteArray) (h2 : s.size ≤ 4096) (w : World) : Calls Tryz.prog 13 #[.string ⟨#[116, 111, 107, 101, 110]⟩, .string s] w fun e w' => e = .returned (.agg (hashR kToken s.data.toList).L.toArray) ∧ Fr Nob w w' := by
  have h := RHashTo_s ⟨#[116, 111, 107, 101, 110]⟩ s (by decide) h2 w
  rw [show (⟨#[116, 111, 107, 101, 110]⟩ : ByteArray).data.toList = kToken from rfl] at h
  exact h
theorem RNZ_c (N : Nat) (w : World) : Calls Tryz.prog 78 #[i4 N] w fun e w' => e = .returned (.bool (decide (N % B64 ^ 4 = 0))) ∧ Fr Nob w w' := by
  have h := Zero_any (N % B64 ^ 4) w (Nat.mod_lt _ (by decide))
  unfold i4 at h ⊢
  rwa [cw_mod] at h
attribute [local irreducible] limbs lw mix cw cSub cAdd cMul foldC valFrom beN laid be32 powm montT mstep elN mdL numB rtV rtOk kN kc kinv wrPt addR noR timesR tmsR RT.L tagL hB hN candT candL rpL mkS lfR lfE lfS vaB secOk
set_option maxHeartbeats 16000000 in
set_option maxRecDepth 1000000 in
theorem RSec_c (s : ByteArray) (hs : s.size ≤ 4096) (w : World) : Calls Tryz.prog 53 #[.string s] w fun e w' => e = .returned (.bool (secOk s.data.toList)) ∧ Fr Nob w w' := by
  rw [sec_size]
  by_cases h1 : 1 ≤ s.size
  · by_cases h2 : s.size ≤ 64
    · rw [decide_eq_true h1, decide_eq_true h2]
      have hI : (1 : Int) ≤ (s.size : Int) := by omega
      have hJ : (s.size : Int) ≤ 64 := by omega
      go_enter Tryz.func53, Tryz.ntmps53
      go_wp2
      go_ret
      exact ⟨rfl, Fr.refl _ _⟩
    · rw [decide_eq_true h1, decide_eq_false h2]
      have hI : (1 : Int) ≤ (s.size : Int) := by omega
      have hJ : ¬ ((s.size : Int) ≤ 64) := by omega
      go_enter Tryz.func53, Tryz.ntmps53
      go_wp2
      go_ret
      exact ⟨rfl, Fr.refl _ _⟩
  · rw [decide_eq_false h1, Bool.false_and]
    have hI : ¬ ((1 : Int) ≤ (s.size : Int)) := by omega
    go_enter Tryz.func53, Tryz.ntmps53
    go_wp2
    go_ret
    exact ⟨rfl, Fr.refl _ _⟩

set_option maxHeartbeats 16000000 in
set_option maxRecDepth 1000000 in
theorem RLift_t (s : ByteArray) (hs : s.size ≤ 4096) (hk : secOk s.data.toList = true) (w : World) : Calls Tryz.prog 22 #[.string s] w fun e w' => e = .returned (.tuple #[.agg (hashR kToken s.data.toList).L.toArray, .int .i64 0]) ∧ Fr Nob w w' := by
  have HS := Lib.hid hs
  have HK := Lib.hid hk
  clear hs hk
  have st0 := St.start Nob w
  go_enter Tryz.func22, Tryz.ntmps22
  go_wp2_with (with_reducible refine wl_stop (o := ⟨some 2, _, _, _, _, _⟩) ?_)
  refine wl_allocS st0 rfl rfl (z := .agg #[.int .u64 0, .int .u64 0, .int .u64 0, .int .u64 0, .int .u64 0, .int .u64 0, .int .u64 0, .int .u64 0, .int .u64 0, .int .u64 0, .int .u64 0, .int .u64 0]) (by kernel_rfl) (cw 12 0) (by rw [cw_zero]; rfl) ?_
  intro g2 w1 st1
  clear st0
  have hsec := fun wx => RSec_c s HS.out wx
  rw [HK.out] at hsec
  have HSEC := Lib.hid hsec
  clear hsec
  go_wp2_with fail
  refine (HSEC.out _).mono ?_
  rintro e' w2 ⟨rfl, hf2⟩
  have st2 := st1.keep hf2
  clear st1 hf2
  clear HSEC
  go_wp2_with fail
  refine (RHash_tok s HS.out _).mono ?_
  rintro e' w3 ⟨rfl, hf3⟩
  have st3 := st2.keep hf3
  clear st2 hf3
  go_wp2_with (with_reducible refine wl_stop (o := ⟨none, _, _, _, _, _⟩) ?_)
  refine wl_storeS st3 0 rfl rfl rfl rfl rfl (by first | (simp only [cw_len]; done) | (simp only [List.length_append, cw_len, RT.len, rpL_len]; done)) (by first | (rw [cw_len]; kernel_rfl) | (simp only [RT.len]; kernel_rfl)) (RT.one _) ?_
  intro w4 st4
  clear st3
  have hr := st4.at 0 rfl
  have hfr := st4.fr
  clear st4
  go_wp2_with fail
  exact bodyPost_ret (results_st2 rfl rfl hr Tryz.underlying34 rfl (by first | (rw [cw_len]; kernel_rfl) | (simp only [RT.len]; kernel_rfl)) rfl) rfl ⟨rfl, hfr⟩

set_option maxHeartbeats 16000000 in
set_option maxRecDepth 1000000 in
theorem RLift_f (s : ByteArray) (hs : s.size ≤ 4096) (hk : secOk s.data.toList = false) (w : World) : Calls Tryz.prog 22 #[.string s] w fun e w' => e = .returned (.tuple #[.agg noR.L.toArray, .int .i64 2]) ∧ Fr Nob w w' := by
  have HS := Lib.hid hs
  have HK := Lib.hid hk
  clear hs hk
  have st0 := St.start Nob w
  go_enter Tryz.func22, Tryz.ntmps22
  go_wp2_with (with_reducible refine wl_stop (o := ⟨some 2, _, _, _, _, _⟩) ?_)
  refine wl_allocS st0 rfl rfl (z := .agg #[.int .u64 0, .int .u64 0, .int .u64 0, .int .u64 0, .int .u64 0, .int .u64 0, .int .u64 0, .int .u64 0, .int .u64 0, .int .u64 0, .int .u64 0, .int .u64 0]) (by kernel_rfl) (cw 12 0) (by rw [cw_zero]; rfl) ?_
  intro g2 w1 st1
  clear st0
  have hsec := fun wx => RSec_c s HS.out wx
  rw [HK.out] at hsec
  have HSEC := Lib.hid hsec
  clear hsec
  go_wp2_with fail
  refine (HSEC.out _).mono ?_
  rintro e' w2 ⟨rfl, hf2⟩
  have st2 := st1.keep hf2
  clear st1 hf2
  clear HSEC
  go_wp2_with fail
  refine (RNone_c _).mono ?_
  rintro e' w3 ⟨rfl, hf3⟩
  have st3 := st2.keep hf3
  clear st2 hf3
  go_wp2_with (with_reducible refine wl_stop (o := ⟨none, _, _, _, _, _⟩) ?_)
  refine wl_storeS st3 0 rfl rfl rfl rfl rfl (by first | (simp only [cw_len]; done) | (simp only [List.length_append, cw_len, RT.len, rpL_len]; done)) (by first | (rw [cw_len]; kernel_rfl) | (simp only [RT.len]; kernel_rfl)) (RT.one _) ?_
  intro w4 st4
  clear st3
  have hr := st4.at 0 rfl
  have hfr := st4.fr
  clear st4
  go_wp2_with fail
  exact bodyPost_ret (results_st2 rfl rfl hr Tryz.underlying34 rfl (by first | (rw [cw_len]; kernel_rfl) | (simp only [RT.len]; kernel_rfl)) rfl) rfl ⟨rfl, hfr⟩

theorem RLift_u (s : ByteArray) (hs : s.size ≤ 4096) (w : World) : Calls Tryz.prog 22 #[.string s] w fun e w' => e = .returned (.tuple #[.agg (lfR s.data.toList).L.toArray, .int .i64 (lfE s.data.toList)]) ∧ Fr Nob w w' := by
  cases hk : secOk s.data.toList with
  | true =>
    rw [(lf_ok hk).1, show lfR s.data.toList = hashR kToken s.data.toList from by unfold lfR; rw [if_pos hk]]
    exact RLift_t s hs hk w
  | false =>
    rw [(lf_no hk).1, show lfR s.data.toList = noR from by unfold lfR; rw [hk]; rfl]
    exact RLift_f s hs hk w
set_option maxHeartbeats 16000000 in
set_option maxRecDepth 1000000 in
theorem RSec5_f (s : ByteArray) (hq : numB mQ s.data.toList = false) (w : World) : Calls Tryz.prog 51 #[.string s] w fun e w' => ∃ N : Nat, e = .returned (.tuple #[i4 N, .bool false]) ∧ (numB mQ s.data.toList = true → N = beN s.data.toList) ∧ Fr Nob w w' := by
  have HQ := Lib.hid hq
  clear hq
  have st0 := St.start Nob w
  go_enter Tryz.func51, Tryz.ntmps51
  go_wp2_with (with_reducible refine wl_stop (o := ⟨some 2, _, _, _, _, _⟩) ?_)
  refine wl_allocS st0 rfl rfl (z := .agg #[.int .u64 0, .int .u64 0, .int .u64 0, .int .u64 0]) (by kernel_rfl) (cw 4 0) (by rw [cw_zero]; rfl) ?_
  intro g2 w1 st1
  clear st0
  go_wp2_with fail
  refine (RQ_u _).mono ?_
  rintro e' w2 ⟨rfl, hf2⟩
  have st2 := st1.keep hf2
  clear st1 hf2
  go_wp2_with fail
  refine (RNumQ_u s _).mono ?_
  rintro e' w3 ⟨N, rfl, hn, hf3⟩
  have st3 := st2.keep hf3
  have HN := Lib.hid hn
  clear hn
  clear st2 hf3
  go_wp2_with (with_reducible refine wl_stop (o := ⟨some 4, _, _, _, _, _⟩) ?_)
  refine wl_allocS st3 rfl rfl (z := .agg #[.int .u64 0, .int .u64 0, .int .u64 0, .int .u64 0]) (by kernel_rfl) (cw 4 0) (by rw [cw_zero]; rfl) ?_
  intro g4 w4 st4
  clear st3
  go_wp2_with (with_reducible refine wl_stop (o := ⟨none, _, _, _, _, _⟩) ?_)
  refine wl_storeS st4 1 rfl rfl rfl rfl rfl (by first | (simp only [cw_len]; done) | (simp only [List.length_append, cw_len, RT.len, rpL_len]; done)) (by first | (rw [cw_len]; kernel_rfl) | (rw [RT.len]; kernel_rfl) | (rw [rpL_len]; kernel_rfl) | (simp only [List.length_append, cw_len]; kernel_rfl) | (simp only [List.length_append, cw_len, RT.len, rpL_len]; kernel_rfl)) (cw_one _ _) ?_
  intro w5 st5
  clear st4
  rw [HQ.out]
  go_wp2_with (with_reducible refine wl_stop (o := ⟨some 13, _, _, _, _, _⟩) ?_)
  refine wl_loadS st5 1 rfl rfl rfl Tryz.underlying32 rfl (by first | (rw [cw_len]; kernel_rfl) | (rw [RT.len]; kernel_rfl) | (rw [rpL_len]; kernel_rfl) | (simp only [List.length_append, cw_len]; kernel_rfl) | (simp only [List.length_append, cw_len, RT.len, rpL_len]; kernel_rfl)) ?_
  go_wp2_with fail
  refine (RNZ_c N _).mono ?_
  rintro e' w6 ⟨rfl, hf6⟩
  have st6 := st5.keep hf6
  clear st5 hf6
  generalize hz : decide (N % B64 ^ 4 = 0) = z at *
  have HZ := Lib.hid hz
  clear hz
  go_wp2_with (with_reducible refine wl_stop (o := ⟨some 15, _, _, _, _, _⟩) ?_)
  refine wl_loadS st6 1 rfl rfl rfl Tryz.underlying32 rfl (by first | (rw [cw_len]; kernel_rfl) | (rw [RT.len]; kernel_rfl) | (rw [rpL_len]; kernel_rfl) | (simp only [List.length_append, cw_len]; kernel_rfl) | (simp only [List.length_append, cw_len, RT.len, rpL_len]; kernel_rfl)) ?_
  go_wp2_with (with_reducible refine wl_stop (o := ⟨none, _, _, _, _, _⟩) ?_)
  refine wl_storeS st6 0 rfl rfl rfl rfl rfl (by first | (simp only [cw_len]; done) | (simp only [List.length_append, cw_len, RT.len, rpL_len]; done)) (by first | (rw [cw_len]; kernel_rfl) | (rw [RT.len]; kernel_rfl) | (rw [rpL_len]; kernel_rfl) | (simp only [List.length_append, cw_len]; kernel_rfl) | (simp only [List.length_append, cw_len, RT.len, rpL_len]; kernel_rfl)) (cw_one _ _) ?_
  intro w7 st7
  clear st6
  have hr := st7.at 0 rfl
  have hfr := st7.fr
  clear st7
  go_wp2_with fail
  exact bodyPost_ret (results_st2 rfl rfl hr Tryz.underlying32 rfl (by first | (rw [cw_len]; kernel_rfl) | (rw [RT.len]; kernel_rfl) | (rw [rpL_len]; kernel_rfl) | (simp only [List.length_append, cw_len]; kernel_rfl) | (simp only [List.length_append, cw_len, RT.len, rpL_len]; kernel_rfl)) rfl) rfl ⟨N, rfl, HN.out, hfr⟩

set_option maxHeartbeats 16000000 in
set_option maxRecDepth 1000000 in
theorem RSec5_t (s : ByteArray) (hq : numB mQ s.data.toList = true) (w : World) : Calls Tryz.prog 51 #[.string s] w fun e w' => ∃ N : Nat, e = .returned (.tuple #[i4 N, .bool (!decide (N % B64 ^ 4 = 0))]) ∧ (numB mQ s.data.toList = true → N = beN s.data.toList) ∧ Fr Nob w w' := by
  have HQ := Lib.hid hq
  clear hq
  have st0 := St.start Nob w
  go_enter Tryz.func51, Tryz.ntmps51
  go_wp2_with (with_reducible refine wl_stop (o := ⟨some 2, _, _, _, _, _⟩) ?_)
  refine wl_allocS st0 rfl rfl (z := .agg #[.int .u64 0, .int .u64 0, .int .u64 0, .int .u64 0]) (by kernel_rfl) (cw 4 0) (by rw [cw_zero]; rfl) ?_
  intro g2 w1 st1
  clear st0
  go_wp2_with fail
  refine (RQ_u _).mono ?_
  rintro e' w2 ⟨rfl, hf2⟩
  have st2 := st1.keep hf2
  clear st1 hf2
  go_wp2_with fail
  refine (RNumQ_u s _).mono ?_
  rintro e' w3 ⟨N, rfl, hn, hf3⟩
  have st3 := st2.keep hf3
  have HN := Lib.hid hn
  clear hn
  clear st2 hf3
  go_wp2_with (with_reducible refine wl_stop (o := ⟨some 4, _, _, _, _, _⟩) ?_)
  refine wl_allocS st3 rfl rfl (z := .agg #[.int .u64 0, .int .u64 0, .int .u64 0, .int .u64 0]) (by kernel_rfl) (cw 4 0) (by rw [cw_zero]; rfl) ?_
  intro g4 w4 st4
  clear st3
  go_wp2_with (with_reducible refine wl_stop (o := ⟨none, _, _, _, _, _⟩) ?_)
  refine wl_storeS st4 1 rfl rfl rfl rfl rfl (by first | (simp only [cw_len]; done) | (simp only [List.length_append, cw_len, RT.len, rpL_len]; done)) (by first | (rw [cw_len]; kernel_rfl) | (rw [RT.len]; kernel_rfl) | (rw [rpL_len]; kernel_rfl) | (simp only [List.length_append, cw_len]; kernel_rfl) | (simp only [List.length_append, cw_len, RT.len, rpL_len]; kernel_rfl)) (cw_one _ _) ?_
  intro w5 st5
  clear st4
  rw [HQ.out]
  go_wp2_with (with_reducible refine wl_stop (o := ⟨some 13, _, _, _, _, _⟩) ?_)
  refine wl_loadS st5 1 rfl rfl rfl Tryz.underlying32 rfl (by first | (rw [cw_len]; kernel_rfl) | (rw [RT.len]; kernel_rfl) | (rw [rpL_len]; kernel_rfl) | (simp only [List.length_append, cw_len]; kernel_rfl) | (simp only [List.length_append, cw_len, RT.len, rpL_len]; kernel_rfl)) ?_
  go_wp2_with fail
  refine (RNZ_c N _).mono ?_
  rintro e' w6 ⟨rfl, hf6⟩
  have st6 := st5.keep hf6
  clear st5 hf6
  generalize hz : decide (N % B64 ^ 4 = 0) = z at *
  have HZ := Lib.hid hz
  clear hz
  rcases z with _ | _
  · skip
    go_wp2_with (with_reducible refine wl_stop (o := ⟨some 15, _, _, _, _, _⟩) ?_)
    refine wl_loadS st6 1 rfl rfl rfl Tryz.underlying32 rfl (by first | (rw [cw_len]; kernel_rfl) | (rw [RT.len]; kernel_rfl) | (rw [rpL_len]; kernel_rfl) | (simp only [List.length_append, cw_len]; kernel_rfl) | (simp only [List.length_append, cw_len, RT.len, rpL_len]; kernel_rfl)) ?_
    go_wp2_with (with_reducible refine wl_stop (o := ⟨none, _, _, _, _, _⟩) ?_)
    refine wl_storeS st6 0 rfl rfl rfl rfl rfl (by first | (simp only [cw_len]; done) | (simp only [List.length_append, cw_len, RT.len, rpL_len]; done)) (by first | (rw [cw_len]; kernel_rfl) | (rw [RT.len]; kernel_rfl) | (rw [rpL_len]; kernel_rfl) | (simp only [List.length_append, cw_len]; kernel_rfl) | (simp only [List.length_append, cw_len, RT.len, rpL_len]; kernel_rfl)) (cw_one _ _) ?_
    intro w7 st7
    clear st6
    have hr := st7.at 0 rfl
    have hfr := st7.fr
    clear st7
    go_wp2_with fail
    exact bodyPost_ret (results_st2 rfl rfl hr Tryz.underlying32 rfl (by first | (rw [cw_len]; kernel_rfl) | (rw [RT.len]; kernel_rfl) | (rw [rpL_len]; kernel_rfl) | (simp only [List.length_append, cw_len]; kernel_rfl) | (simp only [List.length_append, cw_len, RT.len, rpL_len]; kernel_rfl)) rfl) rfl ⟨N, by rw [HZ.out]; rfl, HN.out, hfr⟩
  · skip
    go_wp2_with (with_reducible refine wl_stop (o := ⟨some 15, _, _, _, _, _⟩) ?_)
    refine wl_loadS st6 1 rfl rfl rfl Tryz.underlying32 rfl (by first | (rw [cw_len]; kernel_rfl) | (rw [RT.len]; kernel_rfl) | (rw [rpL_len]; kernel_rfl) | (simp only [List.length_append, cw_len]; kernel_rfl) | (simp only [List.length_append, cw_len, RT.len, rpL_len]; kernel_rfl)) ?_
    go_wp2_with (with_reducible refine wl_stop (o := ⟨none, _, _, _, _, _⟩) ?_)
    refine wl_storeS st6 0 rfl rfl rfl rfl rfl (by first | (simp only [cw_len]; done) | (simp only [List.length_append, cw_len, RT.len, rpL_len]; done)) (by first | (rw [cw_len]; kernel_rfl) | (rw [RT.len]; kernel_rfl) | (rw [rpL_len]; kernel_rfl) | (simp only [List.length_append, cw_len]; kernel_rfl) | (simp only [List.length_append, cw_len, RT.len, rpL_len]; kernel_rfl)) (cw_one _ _) ?_
    intro w7 st7
    clear st6
    have hr := st7.at 0 rfl
    have hfr := st7.fr
    clear st7
    go_wp2_with fail
    exact bodyPost_ret (results_st2 rfl rfl hr Tryz.underlying32 rfl (by first | (rw [cw_len]; kernel_rfl) | (rw [RT.len]; kernel_rfl) | (rw [rpL_len]; kernel_rfl) | (simp only [List.length_append, cw_len]; kernel_rfl) | (simp only [List.length_append, cw_len, RT.len, rpL_len]; kernel_rfl)) rfl) rfl ⟨N, by rw [HZ.out]; rfl, HN.out, hfr⟩

theorem RSec5_u (s : ByteArray) (w : World) : Calls Tryz.prog 51 #[.string s] w fun e w' => ∃ N : Nat, e = .returned (.tuple #[i4 N, .bool (numB mQ s.data.toList && !decide (beN s.data.toList = 0))]) ∧ (numB mQ s.data.toList = true → N = beN s.data.toList) ∧ Fr Nob w w' := by
  cases hq : numB mQ s.data.toList with
  | false =>
    refine (RSec5_f s hq w).mono ?_
    rintro e w' ⟨N, rfl, h, hf⟩
    exact ⟨N, rfl, fun h => (by cases h), hf⟩
  | true =>
    refine (RSec5_t s hq w).mono ?_
    rintro e w' ⟨N, rfl, h, hf⟩
    have hN := h hq
    subst hN
    rw [Nat.mod_eq_of_lt (Nat.lt_trans (numB_lt2 hq) mQ_ok.lt)]
    exact ⟨_, rfl, fun _ => rfl, hf⟩
end Go.Proofs.YtdbgddngapminaaGreat

/- The laws BlindHides and BlindValid. -/
namespace Go.Proofs.YtdbgddngapminaaGreat
open Go.RowKit Go.Mv Mvp Mvq
def kOne : List UInt8 := List.replicate 31 0 ++ [1]
theorem kOne_is : (List.replicate 32 (Value.int .u8 0)).set 31 (.int .u8 1) = bs kOne := rfl
theorem kOne_ok : numB mQ kOne = true ∧ beN kOne = 1 := by decide
theorem kA_ok : secOk [97] = true := by decide
theorem beq_mkSx (l : List UInt8) (s : ByteArray) : ((mkS l).toList == s.toList) = decide (l = s.data.toList) := by
  have := beq_mkS l s.data.toList
  rwa [mkS_data] at this
theorem va_pt {key b : List UInt8} (h1 : numB mQ key = true) (h3 : secOk b = true) : (timesR (beN key) (lfR b)).pt = pmul (beN key) (lfP b) := by
  rw [timesR_pt _ (Nat.lt_trans (numB_lt2 h1) (by decide)), lfR_pt h3]
attribute [local irreducible] limbs lw mix cw cSub cAdd cMul foldC valFrom beN laid be32 powm montT mstep elN mdL numB rtV rtOk kN kc kinv wrPt addR noR timesR tmsR RT.L tagL hB hN candT candL rpL mkS lfR lfE lfS vaB secOk
set_option maxHeartbeats 16000000 in
set_option maxRecDepth 1000000 in
theorem RValid_k (key s sg : ByteArray) (hs : s.size ≤ 4096) (hb : (numB mQ key.data.toList && !decide (beN key.data.toList = 0)) = false) (w : World) : Calls Tryz.prog 20 #[.string key, .string s, .string sg] w fun e w' => e = .returned (.bool false) ∧ Fr Nob w w' := by
  have HS := Lib.hid hs
  have HB := Lib.hid hb
  clear hs hb
  have st0 := St.start Nob w
  go_enter Tryz.func20, Tryz.ntmps20
  go_wp2_with fail
  refine (RSec5_u key _).mono ?_
  rintro e' w1 ⟨N, rfl, hn, hf1⟩
  have st1 := st0.keep hf1
  have HN := Lib.hid hn
  clear hn
  clear st0 hf1
  go_wp2_with (with_reducible refine wl_stop (o := ⟨some 7, _, _, _, _, _⟩) ?_)
  refine wl_allocS st1 rfl rfl (z := .agg #[.int .u64 0, .int .u64 0, .int .u64 0, .int .u64 0]) (by kernel_rfl) (cw 4 0) (by rw [cw_zero]; rfl) ?_
  intro g7 w2 st2
  clear st1
  go_wp2_with (with_reducible refine wl_stop (o := ⟨none, _, _, _, _, _⟩) ?_)
  refine wl_storeS st2 0 rfl rfl rfl rfl rfl (by first | (simp only [cw_len]; done) | (simp only [List.length_append, cw_len, RT.len, rpL_len]; done)) (by first | (rw [cw_len]; kernel_rfl) | (rw [RT.len]; kernel_rfl) | (rw [rpL_len]; kernel_rfl) | (simp only [List.length_append, cw_len]; kernel_rfl) | (simp only [List.length_append, cw_len, RT.len, rpL_len]; kernel_rfl)) (cw_one _ _) ?_
  intro w3 st3
  clear st2
  go_wp2_with fail
  refine (RLift_u s HS.out _).mono ?_
  rintro e' w4 ⟨rfl, hf4⟩
  have st4 := st3.keep hf4
  clear st3 hf4
  go_wp2_with (with_reducible refine wl_stop (o := ⟨some 9, _, _, _, _, _⟩) ?_)
  refine wl_allocS st4 rfl rfl (z := .agg #[.int .u64 0, .int .u64 0, .int .u64 0, .int .u64 0, .int .u64 0, .int .u64 0, .int .u64 0, .int .u64 0, .int .u64 0, .int .u64 0, .int .u64 0, .int .u64 0]) (by kernel_rfl) (cw 12 0) (by rw [cw_zero]; rfl) ?_
  intro g9 w5 st5
  clear st4
  go_wp2_with (with_reducible refine wl_stop (o := ⟨none, _, _, _, _, _⟩) ?_)
  refine wl_storeS st5 1 rfl rfl rfl rfl rfl (by first | (simp only [cw_len]; done) | (simp only [List.length_append, cw_len, RT.len, rpL_len]; done)) (by first | (rw [cw_len]; kernel_rfl) | (simp only [RT.len]; kernel_rfl)) (RT.one _) ?_
  intro w6 st6
  clear st5
  rw [HB.out]
  generalize lfE s.data.toList = le at *
  have hfr := st6.fr
  clear st6
  go_wp2_with fail
  go_ret
  exact ⟨rfl, hfr⟩

set_option maxHeartbeats 16000000 in
set_option maxRecDepth 1000000 in
theorem RValid_s (key s sg : ByteArray) (hs : s.size ≤ 4096) (hb : (numB mQ key.data.toList && !decide (beN key.data.toList = 0)) = true) (hk : secOk s.data.toList = false) (w : World) : Calls Tryz.prog 20 #[.string key, .string s, .string sg] w fun e w' => e = .returned (.bool false) ∧ Fr Nob w w' := by
  have HS := Lib.hid hs
  have HB := Lib.hid hb
  have HK := Lib.hid hk
  clear hs hb hk
  have st0 := St.start Nob w
  go_enter Tryz.func20, Tryz.ntmps20
  go_wp2_with fail
  refine (RSec5_u key _).mono ?_
  rintro e' w1 ⟨N, rfl, hn, hf1⟩
  have st1 := st0.keep hf1
  have HN := Lib.hid hn
  clear hn
  clear st0 hf1
  go_wp2_with (with_reducible refine wl_stop (o := ⟨some 7, _, _, _, _, _⟩) ?_)
  refine wl_allocS st1 rfl rfl (z := .agg #[.int .u64 0, .int .u64 0, .int .u64 0, .int .u64 0]) (by kernel_rfl) (cw 4 0) (by rw [cw_zero]; rfl) ?_
  intro g7 w2 st2
  clear st1
  go_wp2_with (with_reducible refine wl_stop (o := ⟨none, _, _, _, _, _⟩) ?_)
  refine wl_storeS st2 0 rfl rfl rfl rfl rfl (by first | (simp only [cw_len]; done) | (simp only [List.length_append, cw_len, RT.len, rpL_len]; done)) (by first | (rw [cw_len]; kernel_rfl) | (rw [RT.len]; kernel_rfl) | (rw [rpL_len]; kernel_rfl) | (simp only [List.length_append, cw_len]; kernel_rfl) | (simp only [List.length_append, cw_len, RT.len, rpL_len]; kernel_rfl)) (cw_one _ _) ?_
  intro w3 st3
  clear st2
  go_wp2_with fail
  refine (RLift_u s HS.out _).mono ?_
  rintro e' w4 ⟨rfl, hf4⟩
  have st4 := st3.keep hf4
  clear st3 hf4
  go_wp2_with (with_reducible refine wl_stop (o := ⟨some 9, _, _, _, _, _⟩) ?_)
  refine wl_allocS st4 rfl rfl (z := .agg #[.int .u64 0, .int .u64 0, .int .u64 0, .int .u64 0, .int .u64 0, .int .u64 0, .int .u64 0, .int .u64 0, .int .u64 0, .int .u64 0, .int .u64 0, .int .u64 0]) (by kernel_rfl) (cw 12 0) (by rw [cw_zero]; rfl) ?_
  intro g9 w5 st5
  clear st4
  go_wp2_with (with_reducible refine wl_stop (o := ⟨none, _, _, _, _, _⟩) ?_)
  refine wl_storeS st5 1 rfl rfl rfl rfl rfl (by first | (simp only [cw_len]; done) | (simp only [List.length_append, cw_len, RT.len, rpL_len]; done)) (by first | (rw [cw_len]; kernel_rfl) | (simp only [RT.len]; kernel_rfl)) (RT.one _) ?_
  intro w6 st6
  clear st5
  rw [HB.out, (lf_no HK.out).1]
  have hfr := st6.fr
  clear st6
  go_wp2_with fail
  go_ret
  exact ⟨rfl, hfr⟩

set_option maxHeartbeats 16000000 in
set_option maxRecDepth 1000000 in
theorem RValid_ok (key s sg : ByteArray) (hs : s.size ≤ 4096) (hb : (numB mQ key.data.toList && !decide (beN key.data.toList = 0)) = true) (hk : secOk s.data.toList = true) (w : World) : Calls Tryz.prog 20 #[.string key, .string s, .string sg] w fun e w' => e = .returned (.bool (decide (wrPt (pmul (beN key.data.toList) (lfP s.data.toList)) = sg.data.toList))) ∧ Fr Nob w w' := by
  have HS := Lib.hid hs
  have HB := Lib.hid hb
  have HK := Lib.hid hk
  clear hs hb hk
  have st0 := St.start Nob w
  go_enter Tryz.func20, Tryz.ntmps20
  go_wp2_with fail
  refine (RSec5_u key _).mono ?_
  rintro e' w1 ⟨N, rfl, hn, hf1⟩
  have st1 := st0.keep hf1
  have HN := Lib.hid hn
  clear hn
  clear st0 hf1
  go_wp2_with (with_reducible refine wl_stop (o := ⟨some 7, _, _, _, _, _⟩) ?_)
  refine wl_allocS st1 rfl rfl (z := .agg #[.int .u64 0, .int .u64 0, .int .u64 0, .int .u64 0]) (by kernel_rfl) (cw 4 0) (by rw [cw_zero]; rfl) ?_
  intro g7 w2 st2
  clear st1
  go_wp2_with (with_reducible refine wl_stop (o := ⟨none, _, _, _, _, _⟩) ?_)
  refine wl_storeS st2 0 rfl rfl rfl rfl rfl (by first | (simp only [cw_len]; done) | (simp only [List.length_append, cw_len, RT.len, rpL_len]; done)) (by first | (rw [cw_len]; kernel_rfl) | (rw [RT.len]; kernel_rfl) | (rw [rpL_len]; kernel_rfl) | (simp only [List.length_append, cw_len]; kernel_rfl) | (simp only [List.length_append, cw_len, RT.len, rpL_len]; kernel_rfl)) (cw_one _ _) ?_
  intro w3 st3
  clear st2
  go_wp2_with fail
  refine (RLift_u s HS.out _).mono ?_
  rintro e' w4 ⟨rfl, hf4⟩
  have st4 := st3.keep hf4
  clear st3 hf4
  go_wp2_with (with_reducible refine wl_stop (o := ⟨some 9, _, _, _, _, _⟩) ?_)
  refine wl_allocS st4 rfl rfl (z := .agg #[.int .u64 0, .int .u64 0, .int .u64 0, .int .u64 0, .int .u64 0, .int .u64 0, .int .u64 0, .int .u64 0, .int .u64 0, .int .u64 0, .int .u64 0, .int .u64 0]) (by kernel_rfl) (cw 12 0) (by rw [cw_zero]; rfl) ?_
  intro g9 w5 st5
  clear st4
  go_wp2_with (with_reducible refine wl_stop (o := ⟨none, _, _, _, _, _⟩) ?_)
  refine wl_storeS st5 1 rfl rfl rfl rfl rfl (by first | (simp only [cw_len]; done) | (simp only [List.length_append, cw_len, RT.len, rpL_len]; done)) (by first | (rw [cw_len]; kernel_rfl) | (simp only [RT.len]; kernel_rfl)) (RT.one _) ?_
  intro w6 st6
  clear st5
  rw [HB.out, (lf_ok HK.out).1]
  have HQ := Lib.hid (show numB mQ key.data.toList = true by have h := HB.out; rw [Bool.and_eq_true] at h; exact h.1)
  rw [HN.out HQ.out] at st6
  clear HN HB
  go_wp2_with (with_reducible refine wl_stop (o := ⟨some 27, _, _, _, _, _⟩) ?_)
  refine wl_loadS st6 0 rfl rfl rfl Tryz.underlying32 rfl (by first | (rw [cw_len]; kernel_rfl) | (rw [RT.len]; kernel_rfl) | (rw [rpL_len]; kernel_rfl) | (simp only [List.length_append, cw_len]; kernel_rfl) | (simp only [List.length_append, cw_len, RT.len, rpL_len]; kernel_rfl)) ?_
  go_wp2_with (with_reducible refine wl_stop (o := ⟨some 28, _, _, _, _, _⟩) ?_)
  refine wl_loadSt st6 1 rfl rfl rfl Tryz.underlying34 rfl rfl (by first | (rw [cw_len]; kernel_rfl) | (simp only [RT.len]; kernel_rfl)) ?_
  go_wp2_with fail
  refine (RTimes_c (beN key.data.toList) (lfR s.data.toList) _).mono ?_
  rintro e' w7 ⟨rfl, hf7⟩
  have st7 := st6.keep hf7
  clear st6 hf7
  go_wp2_with fail
  refine (RWritten_c (timesR (beN key.data.toList) (lfR s.data.toList)) _).mono ?_
  rintro e' w8 ⟨rfl, hf8⟩
  have st8 := st7.keep hf8
  clear st7 hf8
  have HPT := Lib.hid (va_pt (b := s.data.toList) HQ.out HK.out)
  rw [HPT.out]
  have hfr := st8.fr
  clear st8
  go_wp2_with fail
  go_ret
  exact ⟨by rw [← beq_mkSx]; rfl, hfr⟩

theorem RValid_u (key s sg : ByteArray) (hs : s.size ≤ 4096) (w : World) : Calls Tryz.prog 20 #[.string key, .string s, .string sg] w fun e w' => e = .returned (.bool (vaB key.data.toList s.data.toList sg.data.toList)) ∧ Fr Nob w w' := by
  cases hb : (numB mQ key.data.toList && !decide (beN key.data.toList = 0)) with
  | false =>
    have h : vaB key.data.toList s.data.toList sg.data.toList = false := by unfold vaB; rw [hb]; rfl
    rw [h]; exact RValid_k key s sg hs hb w
  | true =>
    have hq := hb
    rw [Bool.and_eq_true] at hq
    have h0 : beN key.data.toList ≠ 0 := by simpa using hq.2
    cases hk : secOk s.data.toList with
    | false => rw [va_s hk]; exact RValid_s key s sg hs hb hk w
    | true =>
      rw [va_t hq.1 h0 hk]
      refine (RValid_ok key s sg hs hb hk w).mono fun e w' k => ⟨?_, k.2⟩
      rw [k.1]

theorem one_va : vaB kOne [97] (wrPt (lfP [97])) = true := by
  rw [va_t kOne_ok.1 (by rw [kOne_ok.2]; decide) kA_ok, kOne_ok.2, pmul_1]
  simp
theorem bs_one1 : [Value.int .u8 97] = bs [97] := rfl

set_option maxHeartbeats 16000000 in
set_option maxRecDepth 1000000 in
theorem law_BlindValid (key s sg : ByteArray) (w : World) : Calls Tryz.prog 4 #[.string key, .string s, .string sg] w fun e w' => e = .returned (.bool true) ∧ Fr Nob w w' := by
  go_enter Tryz.func4, Tryz.ntmps4
  go_wp2_with (first | (at_make; refine wl_make rfl rfl Tryz.underlying22 info_u8 rfl rfl rfl 32 32 (by simp) (by simp) (by omega) (by omega) (by unfold maxLen; omega) ?_; intro w1 hw1 hf1 hz1) | (with_reducible refine wl_stop (o := ⟨some 15, _, _, _, _, _⟩) ?_))
  clear hz1
  have hsz : w.heap.size ≤ w.heap.size := Nat.le_refl _
  generalize hg0 : w.heap.size = g at hw1 hsz ⊢
  have HG0 := Lib.hid hg0
  have HF1 := Lib.hid hf1
  clear hg0 hsz hf1
  obtain ⟨v, hc, hfz⟩ := hw1.ready (i := 31) (by simp)
  have hst := hw1.set 31 (.int .u8 1)
  rw [kOne_is] at hst
  have HST := Lib.hid hst
  have hfr : Fr Nob w (w1.setCell ⟨g, 31, none⟩ (.int .u8 1)) := HF1.out.setCell g 31 none _ (fun h => absurd h (by rw [HG0.out]; exact Nat.lt_irrefl _))
  have FF := Lib.hid hfr
  clear hst hfr hw1
  unfold Stop
  go_wp2_with (with_reducible refine wl_stop (o := ⟨some 17, _, _, _, _, _⟩) ?_)
  have HONE := Lib.hid (show RdB _ (some ⟨g, 0, none⟩) 32 kOne from Rd.whole HST.out)
  clear HST hc hfz
  generalize w1.setCell ⟨g, 31, none⟩ (.int .u8 1) = w2 at *
  go_wp2_with (with_reducible refine wl_stop (o := ⟨some 17, _, _, _, _, _⟩) ?_)
  refine wl_slit rfl rfl Tryz.underlying22 info_u8 [.int .u8 97] rfl (by intro u hu; simp only [List.mem_singleton] at hu; subst hu; rfl) rfl rfl ?_
  intro w3a hg0 hf0 hz
  clear hz
  rw [bs_one1] at hg0
  go_wp2_with (with_reducible refine wl_stop (o := ⟨some 18, _, _, _, _, _⟩) ?_)
  refine wl_conv_same rfl rfl Tryz.underlying22 Tryz.underlying5 rfl hg0 ?_
  intro w3 hg hf1 hz
  clear hz
  have hf := hf0.new hf1 (Nat.le_refl _)
  clear hf0 hf1 hg0
  have HP3 := Lib.hid (show PartIs w3 (.slice (some ⟨_, 0, none⟩) 1 1) [97] from ⟨_, 1, 1, rfl, Nat.le_refl _, by omega, Rd.whole hg, fun x hx => by simp only [Option.some.injEq] at hx; subst hx; exact hg.lt⟩)
  replace HONE := Lib.hid (HONE.out.still hf)
  replace FF := Lib.hid (FF.out.then hf)
  clear hg hf
  generalize w2.heap.size = ga at *
  go_wp2_with fail
  refine (Lift_yes _ 1 1 [97] _ HP3.out kA_ok).mono ?_
  rintro e' w4 ⟨v4, rfl, ho, hf⟩
  have HL4 := Lib.hid ho
  replace HONE := Lib.hid (HONE.out.still hf)
  replace FF := Lib.hid (FF.out.then hf)
  clear ho hf HP3
  go_wp2_with (with_reducible refine wl_stop (o := ⟨some 23, _, _, _, _, _⟩) ?_)
  refine wl_slit rfl rfl Tryz.underlying22 info_u8 [.int .u8 97] rfl (by intro u hu; simp only [List.mem_singleton] at hu; subst hu; rfl) rfl rfl ?_
  intro w5a hg0 hf0 hz
  clear hz
  rw [bs_one1] at hg0
  go_wp2_with (with_reducible refine wl_stop (o := ⟨some 24, _, _, _, _, _⟩) ?_)
  refine wl_conv_same rfl rfl Tryz.underlying22 Tryz.underlying5 rfl hg0 ?_
  intro w5 hg hf1 hz
  clear hz
  have hf := hf0.new hf1 (Nat.le_refl _)
  clear hf0 hf1 hg0
  have HP5 := Lib.hid (show PartIs w5 (.slice (some ⟨_, 0, none⟩) 1 1) [97] from ⟨_, 1, 1, rfl, Nat.le_refl _, by omega, Rd.whole hg, fun x hx => by simp only [Option.some.injEq] at hx; subst hx; exact hg.lt⟩)
  replace HONE := Lib.hid (HONE.out.still hf)
  replace HL4 := Lib.hid (HL4.out.still hf)
  replace FF := Lib.hid (FF.out.then hf)
  clear hg hf
  generalize w4.heap.size = gb at *
  obtain ⟨a4, n4, c4, rfl, -, hr4⟩ := OwnU.part HL4.out
  have HR4 := Lib.hid hr4
  clear hr4 HL4
  go_wp2_with fail
  have hv := Valid_u (some ⟨g, 0, none⟩) 32 32 kOne (some ⟨gb, 0, none⟩) 1 1 [97] a4 n4 c4 (wrPt (lfP [97])) _ HONE.out (Nat.le_refl _) HP5.out HR4.out
  rw [one_va] at hv
  refine hv.mono ?_
  clear hv
  rintro e' w6 ⟨rfl, hf⟩
  replace FF := Lib.hid (FF.out.then hf)
  clear hf HONE HP5 HR4
  by_cases hz1 : 4096 < key.size
  · have hJ : (4096 : Int) < (key.size : Int) := by omega
    have hfr := FF.out
    go_wp2_with fail
    go_ret
    exact ⟨rfl, hfr⟩
  have hI1 : ¬ ((4096 : Int) < (key.size : Int)) := by omega
  have HZ1 := Lib.hid hz1
  clear hz1
  by_cases hz2 : 4096 < s.size
  · have hJ : (4096 : Int) < (s.size : Int) := by omega
    have hfr := FF.out
    go_wp2_with fail
    go_ret
    exact ⟨rfl, hfr⟩
  have hI2 : ¬ ((4096 : Int) < (s.size : Int)) := by omega
  have HZ2 := Lib.hid hz2
  clear hz2
  by_cases hz3 : 4096 < sg.size
  · have hJ : (4096 : Int) < (sg.size : Int) := by omega
    have hfr := FF.out
    go_wp2_with fail
    go_ret
    exact ⟨rfl, hfr⟩
  have hI3 : ¬ ((4096 : Int) < (sg.size : Int)) := by omega
  have HZ3 := Lib.hid hz3
  clear hz3
  go_wp2_with (with_reducible refine wl_stop (o := ⟨some 47, _, _, _, _, _⟩) ?_)
  refine wl_bytes (q := key) rfl rfl Tryz.underlying9 Tryz.underlying22 Tryz.underlying5 rfl (by have := HZ1.out; unfold maxLen; omega) 0 (Nat.zero_le _) ?_
  intro cap1 w7 ho hf hz
  clear hz
  replace FF := Lib.hid (FF.out.then hf)
  have B1 := Lib.hid (BPart.ofOwn ho)
  clear hf ho
  generalize w6.heap.size = gb1 at *
  go_wp2_with (with_reducible refine wl_stop (o := ⟨some 49, _, _, _, _, _⟩) ?_)
  refine wl_bytes (q := s) rfl rfl Tryz.underlying9 Tryz.underlying22 Tryz.underlying5 rfl (by have := HZ2.out; unfold maxLen; omega) 0 (Nat.zero_le _) ?_
  intro cap2 w8 ho hf hz
  clear hz
  replace B1 := Lib.hid (B1.out.still hf)
  replace FF := Lib.hid (FF.out.then hf)
  have B2 := Lib.hid (own_part ho (by have := HZ2.out; omega))
  clear hf ho
  generalize w7.heap.size = gb2 at *
  go_wp2_with (with_reducible refine wl_stop (o := ⟨some 51, _, _, _, _, _⟩) ?_)
  refine wl_bytes (q := sg) rfl rfl Tryz.underlying9 Tryz.underlying22 Tryz.underlying5 rfl (by have := HZ3.out; unfold maxLen; omega) 0 (Nat.zero_le _) ?_
  intro cap3 w9 ho hf hz
  clear hz
  replace B1 := Lib.hid (B1.out.still hf)
  replace B2 := Lib.hid (B2.out.still hf)
  replace FF := Lib.hid (FF.out.then hf)
  have B3 := Lib.hid (BPart.ofOwn ho)
  clear hf ho
  generalize w8.heap.size = gb3 at *
  obtain ⟨ak, nk, ck, hek, hck, hrk⟩ := B1.out
  cases hek
  have HRK := Lib.hid hrk
  have HCK := Lib.hid hck
  obtain ⟨as_, ns, cs, hes, -, hrs⟩ := B3.out
  cases hes
  have HRS := Lib.hid hrs
  clear hrk hck hrs B1 B3
  go_wp2_with fail
  refine (Valid_u _ _ _ key.data.toList _ _ _ s.data.toList _ _ _ sg.data.toList _ HRK.out HCK.out B2.out HRS.out).mono ?_
  rintro e' w10 ⟨rfl, hf⟩
  replace FF := Lib.hid (FF.out.then hf)
  clear hf HRK HCK B2 HRS hI1 hI2 hI3
  go_wp2_with fail
  refine (RValid_u key s sg (by have := HZ2.out; omega) _).mono ?_
  rintro e' w11 ⟨rfl, hf⟩
  have hfr := FF.out.then hf
  clear hf FF
  generalize vaB key.data.toList s.data.toList sg.data.toList = q at *
  cases q <;> (go_wp2_with fail; go_ret; exact ⟨rfl, hfr⟩)

end Go.Proofs.YtdbgddngapminaaGreat
