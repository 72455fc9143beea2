/- mintvaultlaw10: steps; two journals side by side; StorePlays: the law's walk. -/
import Derived.Test.YtdadnajbdnbbdaaMgStorePlaysProof5
import Derived.Test.YtdadnajbdnbbdaaMgStorePlaysProof4
namespace Go.Proofs.Ytdadnajbdnbbdaa
open Go.RowKit Go.Mv Mvp
abbrev Sn := Int × Int × List UInt8
def snC (s : Sn) : List Value := [.int .i64 s.1, .int .i64 s.2.1, .string (mkS s.2.2)]
def snsC (l : List Sn) : List Value := l.flatMap snC
theorem snsC_row : ∀ (l : List Sn) (j : Nat) (x : Sn), l[j]? = some x → ((snsC l).drop (j * 3)).take 3 = snC x
  | [], j, x, h => by simp at h
  | a :: l, 0, x, h => by
    simp only [List.getElem?_cons_zero, Option.some.injEq] at h
    subst h
    rw [Nat.zero_mul, List.drop_zero]
    unfold snsC
    rw [List.flatMap_cons]
    rfl
  | a :: l, j + 1, x, h => by
    have ih := snsC_row l j x (by simpa using h)
    unfold snsC at *
    rw [List.flatMap_cons, show (j + 1) * 3 = 3 + j * 3 by omega, ← List.drop_drop]
    exact ih
theorem cellsSt_step : Try.prog.cellsOf 52 = 3 := by kernel_rfl
theorem cellsSt_int : Try.prog.cellsOf 3 = 1 := by kernel_rfl
theorem cellsSt_str : Try.prog.cellsOf 9 = 1 := by kernel_rfl
set_option maxRecDepth 100000 in
open Go.ChangeShapes Go.WideShapes in
theorem open_sns {H : Type} {enc : TypeId × Value → H} {w : World} {base : Nat} {held : Bool} {spare : Nat → Bool} {v : Value} {d : DataW H} {ps : List MemPlace} (hv : Value.okWide Try.prog w .any base 44 v) (h : DataW.Trod enc Try.prog w 0 spare held 44 v d ps) (hfit : Fits Try.prog 44 d) :
    ∃ (a : Option Addr) (c : Nat) (l : List Sn), v = .slice a l.length c ∧ Rd w a (l.length * 3) (snsC l) ∧ ∀ x ∈ l, x.2.1 < 9223372036854775808 := by
  obtain ⟨a, c, css, rfl, hr, hx, -, -, -⟩ := open_list Try.underlying44 cellsSt_step (by decide) hv h hfit
  have hs : ∀ x ∈ css, ∃ s : {s : Sn // s.2.1 < 9223372036854775808}, x = snC s.1 := by
    intro x hxm
    obtain ⟨hl, hrd⟩ := hx x hxm
    obtain ⟨-, hf⟩ := hrd.struct Try.underlying52
    match x, hl with
    | [x0, x1, x2], _ =>
      obtain ⟨n0, e0, -⟩ := Reads.int Try.underlying3 (hf 0 _ rfl _ 0 1 rfl rfl cellsSt_int)
      obtain ⟨n1, e1, b1⟩ := Reads.int Try.underlying3 (hf 1 _ rfl _ 1 1 rfl rfl cellsSt_int)
      obtain ⟨l2, e2, -⟩ := Reads.string Try.underlying9 (hf 2 _ rfl _ 2 1 rfl rfl cellsSt_str)
      simp only [List.drop_zero, List.take_succ_cons, List.take_zero, List.drop_succ_cons, List.cons.injEq, and_true] at e0 e1 e2
      subst e0 e1 e2
      have hb := i64_wf b1
      exact ⟨⟨(n0, n1, l2), by show n1 < _; omega⟩, rfl⟩
  obtain ⟨l, rfl⟩ := map_of_each hs
  refine ⟨a, c, l.map (·.1), by rw [List.length_map, List.length_map], ?_, ?_⟩
  · rw [List.length_map] at hr ⊢
    have e : snsC (l.map (·.1)) = (l.map fun s => snC s.1).flatten := by unfold snsC; rw [List.flatMap_map, List.flatMap_def]
    rw [e]
    exact hr
  · intro x hx
    obtain ⟨s, -, rfl⟩ := List.mem_map.1 hx
    exact s.2
/-- two journals that are alike -/
structure PSt (w : World) (base g gb lim : Nat) (s : SM) (v rv rv2 : Value) : Prop where
  sa : SAt1 w base g lim s v rv
  ra : RA1 w base gb lim s rv2
  inv : SInv ckS s
  dl : s.d.length ≤ lim
  lm : lim ≤ 1048576
  lf : lftI s < 9223372036854775808
theorem PSt.still {w w' : World} {base g gb lim : Nat} {s : SM} {v rv rv2 : Value} (h : PSt w base g gb lim s v rv rv2) (hf : Fr Nob w w') : PSt w' base g gb lim s v rv rv2 := ⟨h.sa.still hf, h.ra.still hf, h.inv, h.dl, h.lm, h.lf⟩
theorem rOpen_limF (l : ByteArray) (lim : Int) (w : World) (h : lim < 64 ∨ 1048576 < lim) :
    Calls Try.prog 37 #[.string l, .int .i64 lim] w fun e w' => e = .returned (.tuple #[.pointer none, .int .i64 7]) ∧ Fr Nob w w' :=
  (rOpen_lim l lim w h).mono fun _ _ ⟨h1, h2⟩ => ⟨h1, h2 ▸ Fr.refl _ _⟩
theorem lopen_any (l : List UInt8) (lim : Int) (w : World) (hl : l.length ≤ 10000000) :
    Calls Try.prog 22 #[.string (mkS l), .int .i64 lim] w fun e w' => (e = .returned (.tuple #[.pointer none, .pointer none, .bool true]) ∨ ∃ g gb L s v rv rv2, e = .returned (.tuple #[.pointer (some ⟨g, 0, none⟩), .pointer (some ⟨gb, 0, none⟩), .bool true]) ∧ PSt w' w.heap.size g gb L s v rv rv2) ∧ Fr Nob w w' := by
  by_cases h : lim < 64 ∨ 1048576 < lim
  · exact (lopen_bad l lim 7 w hl (fun a c W => sOpen_lim a l.length c lim W h) (fun W => rOpen_limF _ lim W h)).mono fun _ _ ⟨h1, h2⟩ => ⟨.inl h1, h2⟩
  · obtain ⟨L, rfl⟩ : ∃ n : Nat, lim = (n : Int) := ⟨lim.toNat, by omega⟩
    by_cases hn : l.length ≤ L
    · refine (lopen_ok l L w (by omega) (by omega) hn).mono ?_
      rintro e w' ⟨g, gb, rfl, ⟨v, rv, rv2, h1, h2⟩, hf⟩
      exact ⟨.inr ⟨g, gb, L, _, v, rv, rv2, rfl, h1, h2, SInv.ofDisk _ _, Nat.le_trans (SM.ofDisk_lim ckS_len l) hn, by omega, by show (-1 : Int) < _; decide⟩, hf⟩
    · exact (lopen_bad l L 1 w hl (fun a c W => sOpen_long a l.length c L W (by omega) (by omega) (by omega)) (fun W => rOpen_long _ L W (by omega) (by omega) (by rw [mkS_size]; omega))).mono fun _ _ ⟨h1, h2⟩ => ⟨.inl h1, h2⟩
theorem PSt.mono {w : World} {base base' g gb lim : Nat} {s : SM} {v rv rv2 : Value} (h : PSt w base g gb lim s v rv rv2) (hb : base' ≤ base) : PSt w base' g gb lim s v rv rv2 := ⟨h.sa.mono hb, h.ra.mono hb, h.inv, h.dl, h.lm, h.lf⟩
theorem z_sn : (Try.prog.info? 52).map (·.zero) = some (some (.agg #[.int .i64 0, .int .i64 0, .string ⟨#[]⟩])) := by kernel_rfl
end Go.Proofs.Ytdadnajbdnbbdaa

/- StorePlays: the law's walk. -/
namespace Go.Proofs.Ytdadnajbdnbbdaa
open Go.RowKit Go.Mv Mvp
attribute [local irreducible] permS permP toB turnsK squeeze permN permB spongeB feed frameL framesL tagL bigN bigJ numS frameB framesB ckS exC SM.put SM.add SM.arm SM.ofDisk unframe OpenI lftI snC
theorem PSt.new {w w' w'' : World} {base g gb lim : Nat} {v rv rv2 : Value} (h1 : SAt1 w'' base g lim SM.new v rv) (h2 : RA1 w'' base gb lim SM.new rv2) (hl : 64 ≤ lim) (hm : lim ≤ 1048576) : PSt w'' base g gb lim SM.new v rv rv2 := ⟨h1, h2, SInv.new ckS, Nat.zero_le _, hm, by unfold lftI SM.new; decide⟩
theorem RB.ne {W : World} {base gb lim : Nat} {s : SM} {rv : Value} (h : RA1 W base gb lim s rv) {gx : Nat} {L : List Value} {T : TypeId} (hg : Has W gx L T) (h1 : 58 ≠ T) (h2 : 9 ≠ T) (k : Nat) (hk : RB gb rv k) : k ≠ gx := by
  rcases hk with rfl | hk
  · intro e
    subst e
    obtain ⟨_, _, e1, _⟩ := hg
    obtain ⟨_, _, e2, _⟩ := h.has
    rw [e1] at e2
    cases e2
    exact h1 rfl
  · exact fun e => h.recs.ne hg h2 (e ▸ hk)
theorem PSt.cells {w : World} {base g gb lim : Nat} {s : SM} {v rv rv2 : Value} (h : PSt w base g gb lim s v rv rv2) : base ≤ w.heap.size := h.sa.size
set_option maxHeartbeats 8000000 in
set_option maxRecDepth 1000000 in
theorem law_StorePlays (limI : Int) (a : Option Addr) (c : Nat) (l : List Sn) (w : World) (hr : Rd w a (l.length * 3) (snsC l)) (hb : ∀ x ∈ l, x.2.1 < 9223372036854775808) :
    Calls Try.prog 4 #[.int .i64 limI, .slice a l.length c] w fun e w' => e = .returned (.bool true) ∧ Fr Nob w w' := by
  have HR := Lib.hid hr
  have HB := Lib.hid hb
  clear hr hb
  by_cases hlen : 128 < l.length
  · have hI : (128 : Int) < (l.length : Int) := by omega
    clear hlen
    go_enter Try.func4, Try.ntmps4
    go_wp2_with fail
    go_ret
    exact ⟨rfl, Fr.refl _ _⟩
  have hI : ¬ (128 : Int) < (l.length : Int) := by omega
  have HLN := Lib.hid hlen
  clear hlen
  by_cases hlim : limI < 64 ∨ 1048576 < limI
  · have HLI := Lib.hid hlim
    clear hlim
    go_enter Try.func4, Try.ntmps4
    go_wp2_with fail
    refine (sNew_no limI w HLI.out).mono ?_
    rintro e1 w1 ⟨rfl, rfl⟩
    go_wp2_with fail
    refine (rNew_no limI w1 HLI.out).mono ?_
    rintro e2 w2 ⟨rfl, rfl⟩
    go_wp2_with fail
    go_ret
    exact ⟨rfl, Fr.refl _ _⟩
  obtain ⟨lim0, rfl⟩ : ∃ n : Nat, limI = (n : Int) := ⟨limI.toNat, by omega⟩
  have HL1 := Lib.hid (show 64 ≤ lim0 by omega)
  have HL2 := Lib.hid (show lim0 ≤ 1048576 by omega)
  clear hlim
  go_enter Try.func4, Try.ntmps4
  go_wp2_with fail
  refine (sNew_ok lim0 w HL1.out HL2.out).mono ?_
  rintro e1 w1 ⟨g1, rfl, hs1, hf1⟩
  go_wp2_with fail
  refine (rNew_ok lim0 w1 HL1.out HL2.out).mono ?_
  rintro e2 w2 ⟨g2, rfl, hs2, hf2⟩
  have HP2 := Lib.hid (PSt.new (w := w) (w' := w) (hs1.still hf2) (hs2.mono hf1.size) HL1.out HL2.out)
  have HF2 := Lib.hid (hf1.then hf2)
  clear hs1 hs2 hf1 hf2
  go_wp2_with fail
  clear hI
  have hln : (l.length : Int) ≤ 128 := by have := HLN.out; omega
  go_loopw [9, 5, 7] (fun i va vb wr => ∃ (j g gb lim : Nat) (s : SM) (v rv rv2 : Value), j ≤ l.length ∧ i = .int .i64 (j : Int) ∧ va = .pointer (some ⟨g, 0, none⟩) ∧ vb = .pointer (some ⟨gb, 0, none⟩) ∧ PSt wr w.heap.size g gb lim s v rv rv2 ∧ Fr Nob w wr) (fun i _ _ _ => l.length - (intOf i).toNat)
  case atStart => exact ⟨0, g1, g2, lim0, SM.new, _, _, _, Nat.zero_le _, rfl, rfl, rfl, HP2.out, HF2.out⟩
  case round =>
    clear HP2 HF2
    obtain ⟨j, g, gb, lim, s, v, rv, rv2, hj, rfl, rfl, rfl, hp, hf⟩ := hrel
    have HP := Lib.hid hp
    have HF := Lib.hid hf
    clear hp hf
    by_cases hlt : j < l.length
    · have hltI : (j : Int) < (l.length : Int) := by omega
      have HLT := Lib.hid hlt
      obtain ⟨⟨sd, sn, sx⟩, hx⟩ : ∃ x, l[j]? = some x := ⟨_, List.getElem?_eq_getElem hlt⟩
      have hnb : sn < 9223372036854775808 := HB.out _ (List.mem_of_getElem? hx)
      obtain ⟨b, o, rfl, hat⟩ := (HR.out.still HF.out).at (by omega)
      have hrow := hat.sub (j * 3) 3
      rw [snsC_row l j _ hx] at hrow
      have hsn : snC (sd, sn, sx) = [.int .i64 sd, .int .i64 sn, .string (mkS sx)] := by unfold snC; rfl
      rw [hsn] at hrow
      have HROW := Lib.hid hrow
      have HNB := Lib.hid hnb
      have HQX := Lib.hid (mkS_size sx)
      clear hat hrow hx hsn hnb hj hlt
      go_wp2_with (with_reducible refine wl_stop (o := ⟨some 59, _, _, _, _, _⟩) ?_)
      refine wl_loadR rfl rfl Try.underlying52 rfl rfl (cs := [.int .i64 sd, .int .i64 sn, .string (mkS sx)]) HROW.out (by kernel_rfl) ?_
      try simp only [Act.put, List.setIfInBounds_toArray, List.set_cons_zero, List.set_cons_succ]
      refine wl_allocS (St.start Nob wr) rfl rfl z_sn [.int .i64 0, .int .i64 0, .string ⟨#[]⟩] rfl ?_
      intro gs w3 st3
      try simp only [Act.put, List.setIfInBounds_toArray, List.set_cons_zero, List.set_cons_succ]
      refine wl_storeS st3 0 rfl rfl rfl rfl rfl (cs := [.int .i64 sd, .int .i64 sn, .string (mkS sx)]) rfl (by kernel_rfl) (by intro u hu; simp only [List.mem_cons, List.not_mem_nil, or_false] at hu; rcases hu with rfl | rfl | rfl <;> rfl) ?_
      intro w4 st4
      simp only [List.nil_append, List.set_cons_zero] at st4
      have HG4 := Lib.hid (st4.at 0 rfl)
      have HP4 := Lib.hid (HP.out.still st4.fr)
      have HF4 := Lib.hid (HF.out.then st4.fr)
      have d0 := HG4.out.cell (i := 0) (v := .int .i64 sd) rfl
      have d1 := HG4.out.cell (i := 1) (v := .int .i64 sn) rfl
      have d2 := HG4.out.cell (i := 2) (v := .string (mkS sx)) rfl
      clear st3 st4
      have HMX := Lib.hid (mkS_toList sx)
      generalize hqx : mkS sx = qx at *
      have HQQ := Lib.hid hqx
      clear hqx
      by_cases hbig : 131072 < qx.size
      · have hbI : (131072 : Int) < (qx.size : Int) := by omega
        clear hbig
        go_wp2_with fail
        go_roundw
        case rel => exact ⟨j + 1, g, gb, lim, s, v, rv, rv2, by have := HLT.out; omega, by go_num, rfl, rfl, HP4.out, HF4.out⟩
        case measure => have := HLT.out; simp [intOf]; omega
      · have hbI : ¬ (131072 : Int) < (qx.size : Int) := by omega
        have HBG := Lib.hid hbig
        clear hbig
        by_cases h1 : sd = 1
        · subst h1
          have hq1 : (qx.size : Int) ≤ 131072 := by omega
          have HLE := Lib.hid (lent_big qx w4 (by have := HBG.out; omega))
          go_wp2_with fail
          refine HLE.out.mono ?_
          rintro e5 w5 ⟨rfl, hh5, hf5, hz5⟩
          rw [HMX.out] at hh5
          have HH5 := Lib.hid hh5
          have HP5 := Lib.hid (HP4.out.still hf5)
          have HF5 := Lib.hid (HF4.out.then hf5)
          have HG5 := Lib.hid (HG4.out.keep hf5 id)
          have HSB := Lib.hid (fun k (hk : StB g v rv k) => (HP4.out.sa.lt hk).2)
          have HRB := Lib.hid (fun k (hk : RB gb rv2 k) => (HP4.out.ra.lt hk).2)
          have HBL := Lib.hid HF4.out.size
          clear hh5 hf5 hz5 d0 d1 d2 HP4 HF4 HG4 HLE
          have hsl := fun wx => run_slice_hi (P := Try.prog) wx Try.underlying22 info_bsl_1 (some ⟨w4.heap.size, 0, none⟩) (qx.size + 160) (qx.size + 160) .i64 qx.size (by omega)
          generalize w4.heap.size = gi at *
          have d2 := HG5.out.cell (i := 2) (v := .string qx) rfl
          go_wp2_with fail
          have hpi : PartIs w5 (.slice (some ⟨gi, 0, none⟩) qx.size (qx.size + 160)) sx := ⟨_, _, _, rfl, by omega, by have := HBG.out; omega, (by rw [HQX.out]; exact lent_rdS HH5.out), Old.has HH5.out 0⟩
          refine (sAdd_any g w.heap.size lim s v rv _ qx.size (qx.size + 160) sx w5 HP5.out.sa hpi HP5.out.inv (by have := HP5.out.dl; have := HP5.out.lm; omega) (by have := HP5.out.lm; omega) HP5.out.lf).mono ?_
          clear hpi hsl d2
          rintro e6 w6 ⟨rfl, v', rv', hs6, hf6'⟩
          have hf6 := hf6'.toFr
          have HN6 := Lib.hid (show ∀ k, StB g v' rv' k → ¬ k = gi from fun k h e => (hf6'.new k h).elim (fun q => by have := HSB.out _ q; omega) fun q => by have := HH5.out.lt; omega)
          clear hf6'
          have HS6 := Lib.hid hs6
          have HR6 := Lib.hid (ra_offS HP5.out.sa HP5.out.ra hf6)
          have HH6 := Lib.hid (HH5.out.keep hf6 fun hk => by have := HSB.out _ hk; omega)
          have HG6 := Lib.hid (HG5.out.keep hf6 fun hk => StB.ne HP5.out.sa HG5.out (by decide) (by decide) (by decide) gs hk rfl)
          have HF6 := Lib.hid (HF5.out.stb HP5.out.sa (Nat.le_refl _) hf6)
          clear hs6 hf6
          have d2 := HG6.out.cell (i := 2) (v := .string qx) rfl
          go_wp2_with fail
          rw [← HQQ.out]
          refine (rAdd_any gb w.heap.size lim s rv2 sx w6 HR6.out (by have := HP5.out.dl; have := HP5.out.lm; omega) (by have := HP5.out.inv.count ckS_len; have := HP5.out.dl; have := HP5.out.lm; omega) (by have := HQX.out; have := HBG.out; omega) HP5.out.lf).mono ?_
          rintro e7 w7 ⟨rfl, rv2', hr7, hf7⟩
          rw [HQQ.out]
          have HR7 := Lib.hid hr7
          have HS7 := Lib.hid (sa_offR HS6.out HR6.out hf7)
          have HH7 := Lib.hid (HH6.out.keep hf7 fun hk => by have := HRB.out _ hk; omega)
          have HG7 := Lib.hid (HG6.out.keep hf7 fun hk => RB.ne HR6.out HG6.out (by decide) (by decide) gs hk rfl)
          have HF7 := Lib.hid (HF6.out.rb HR6.out (Nat.le_refl _) hf7)
          have HP7 := Lib.hid (show PSt w7 w.heap.size g gb lim (s.add ckS lim sx).1 v' rv' rv2' from ⟨HS7.out, HR7.out, HP5.out.inv.add ckS_len _ _, add_bnd s lim sx HP5.out.dl, HP5.out.lm, add_left s lim sx HP5.out.lf⟩)
          have HNR := Lib.hid (fun k (hk : RB gb rv2' k) => RB.ne HR7.out HH7.out (by decide) (by decide) k hk)
          clear hr7 hf7 d2 HS6 HR6 HH6 HG6 HF6 HR7 HS7 HH5 HG5 HP5 HF5
          have d2 := HG7.out.cell (i := 2) (v := .string qx) rfl
          go_wp2_with fail
          have hst := still_bigT (some ⟨gi, 0, none⟩) (qx.size + 160) (qx.size + 160) sx w7 (by have := HQX.out; have := HBG.out; omega) (by rw [HQX.out]; exact lent_allS HH7.out)
          rw [HQQ.out] at hst
          refine hst.mono ?_
          clear hst
          rintro e8 w8 ⟨rfl, hf8⟩
          have HO8 := Lib.hid (show Go.Mv.Own w8 w.heap.size 5 1 (.slice (some ⟨gi, 0, none⟩) (qx.size + 160) (qx.size + 160)) (qx.size + 160) (bs (lentL sx)) by rw [HQX.out]; exact lent_ownS (HH7.out.keep hf8 id) _ HBL.out (by have := HQX.out; have := HBG.out; omega))
          have HP8 := Lib.hid (HP7.out.still hf8)
          have HF8 := Lib.hid (HF7.out.then hf8)
          clear hf8 HH7 HG7 HP7 HF7 d2
          obtain ⟨s2, hs2⟩ : ∃ s2, (s.add ckS lim sx).1 = s2 := ⟨_, rfl⟩
          rw [hs2] at HP8
          obtain ⟨er, her⟩ : ∃ er, (s.add ckS lim sx).2 = er := ⟨_, rfl⟩
          rw [her]
          clear hs2 her
          go_wp2_with fail
          obtain ⟨n9, hn9⟩ : ∃ n9, qx.size + 160 = n9 := ⟨_, rfl⟩
          try simp only [hn9]
          rw [hn9] at HO8
          have hn9b : (n9 : Int) ≤ 20000000 := by omega
          clear hn9
          go_loopw [16] (fun i wr => ∃ (k : Nat) (L : List Value), k ≤ n9 ∧ i = .int .i64 (k : Int) ∧ Go.Mv.Own wr w.heap.size 5 1 (.slice (some ⟨gi, 0, none⟩) n9 n9) n9 L ∧ PSt wr w.heap.size g gb lim s2 v' rv' rv2' ∧ Fr Nob w wr) (fun i _ => n9 - (intOf i).toNat)
          case atStart => exact ⟨0, _, Nat.zero_le _, rfl, HO8.out, HP8.out, HF8.out⟩
          case round =>
            obtain ⟨k, L, hk, rfl, ho, hp, hf⟩ := hrel
            by_cases hlt : k < n9
            · have hltI : (k : Int) < (n9 : Int) := by omega
              have HKT := Lib.hid hlt
              obtain ⟨⟨u, cu, fu⟩, ho2⟩ := own_cellS ho hlt (.int .u8 7)
              have HO2 := Lib.hid ho2
              have HF2 := Lib.hid (hf.setCell gi (0 + k) none (.int .u8 7) fun h => absurd h (by have := (ho.lt (k := gi) rfl).1; omega))
              have hone := fun W => (Fr.refl (Mv.One gi) W).setCell gi (0 + k) none (.int .u8 7) fun _ => rfl
              have HP2 := Lib.hid (show PSt (World.setCell _ ⟨gi, 0 + k, none⟩ (.int .u8 7)) w.heap.size g gb lim s2 v' rv' rv2' from ⟨hp.sa.keep (hone _) fun q hq e => HN6.out q hq e, hp.ra.keep (hone _) fun q hq e => HNR.out q hq e, hp.inv, hp.dl, hp.lm, hp.lf⟩)
              rw [Nat.zero_add] at cu fu HO2 HF2 HP2
              clear ho hf ho2 hlt hk hp hone
              go_wp2_with fail
              go_roundw
              case rel => exact ⟨k + 1, _, by have := HKT.out; omega, by go_num, HO2.out, HP2.out, HF2.out⟩
              case measure => have := HKT.out; simp [intOf]; omega
            · have hge : ¬ ((k : Int) < (n9 : Int)) := by omega
              have HF2 := Lib.hid hf
              have HP2 := Lib.hid hp
              clear ho hf hlt hk hp
              go_wp2_with fail
              refine (same_true g gb w.heap.size lim s2 v' rv' rv2' _ HP2.out.sa HP2.out.ra (Nat.le_trans HP2.out.dl HP2.out.lm)).mono ?_
              rintro e9 w9 ⟨rfl, hf9⟩
              have HP9 := Lib.hid (HP2.out.still hf9)
              have HF9 := Lib.hid (HF2.out.then hf9)
              clear hf9
              go_wp2_with fail
              go_roundw
              case rel => exact ⟨j + 1, g, gb, lim, s2, v', rv', rv2', by have := HLT.out; omega, by go_num, rfl, rfl, HP9.out, HF9.out⟩
              case measure => have := HLT.out; simp [intOf]; omega
        · have n1 : (sd == 1) = false := by simpa using h1
          clear h1
          by_cases h2 : sd = 2
          · subst h2
            have HLF := Lib.hid (arm_lt (s := s) HNB.out)
            go_wp2_with fail
            refine (sArm_any g w.heap.size lim s v rv sn w4 HP4.out.sa).mono ?_
            rintro e5 w5 ⟨rfl, hs5, hf5⟩
            have HS5 := Lib.hid hs5
            have HR5 := Lib.hid (ra_offS HP4.out.sa HP4.out.ra hf5)
            have HG5 := Lib.hid (HG4.out.keep hf5 fun hk => StB.ne HP4.out.sa HG4.out (by decide) (by decide) (by decide) gs hk rfl)
            have HF5 := Lib.hid (HF4.out.stb HP4.out.sa (Nat.le_refl _) hf5)
            clear hs5 hf5 d0 d1 d2
            have d1 := HG5.out.cell (i := 1) (v := .int .i64 sn) rfl
            go_wp2_with fail
            refine (rArm_any gb w.heap.size lim s rv2 sn w5 HR5.out).mono ?_
            rintro e6 w6 ⟨rfl, hr6, hf6⟩
            have HP6 := Lib.hid (show PSt w6 w.heap.size g gb lim (s.arm sn) v rv rv2 from ⟨sa_offR HS5.out HR5.out hf6, hr6, HP4.out.inv.arm sn, (by have h := HP4.out.dl; unfold SM.arm; exact h), HP4.out.lm, HLF.out⟩)
            have HF6 := Lib.hid (HF5.out.rb HR5.out (Nat.le_refl _) hf6)
            clear hr6 hf6 d1 HS5 HR5 HG5 HF5 HP4 HF4 HG4 HLF
            obtain ⟨s2, hs2⟩ : ∃ s2, s.arm sn = s2 := ⟨_, rfl⟩
            rw [hs2] at HP6
            clear hs2
            go_wp2_with fail
            refine (same_true g gb w.heap.size lim s2 v rv rv2 _ HP6.out.sa HP6.out.ra (Nat.le_trans HP6.out.dl HP6.out.lm)).mono ?_
            rintro e9 w9 ⟨rfl, hf9⟩
            have HP9 := Lib.hid (HP6.out.still hf9)
            have HF9 := Lib.hid (HF6.out.then hf9)
            clear hf9
            go_wp2_with fail
            go_roundw
            case rel => exact ⟨j + 1, g, gb, lim, s2, v, rv, rv2, by have := HLT.out; omega, by go_num, rfl, rfl, HP9.out, HF9.out⟩
            case measure => have := HLT.out; simp [intOf]; omega
          · have n2 : (sd == 2) = false := by simpa using h2
            clear h2
            by_cases h3 : sd = 3
            · subst h3
              have c1 := HP4.out.ra.has.cell (i := 1) (v := .string (mkS s.d)) rfl
              obtain ⟨qd, hqd⟩ : ∃ qd, mkS s.d = qd := ⟨_, rfl⟩
              rw [hqd] at c1
              have HQD := Lib.hid hqd
              have HQS := Lib.hid (show qd.size = s.d.length by rw [← hqd, mkS_size])
              clear hqd
              by_cases hz : sn = 0
              · subst hz
                go_wp2_with fail
                refine (show Calls Try.prog 22 #[.string qd, .int .i64 (lim0 : Int)] w4 _ from (by have h := lopen_any s.d (lim0 : Int) w4 (by have := HP4.out.dl; have := HP4.out.lm; omega); rw [HQD.out] at h; exact h)).mono ?_
                clear d0 d1 d2 c1
                rintro e6 w6 ⟨hres, hf6⟩
                rcases hres with rfl | ⟨g', gb', L', s', v', rv', rv2', rfl, hp6⟩
                · have HP6 := Lib.hid (HP4.out.still hf6)
                  have HF6 := Lib.hid (HF4.out.then hf6)
                  clear hf6 HP4 HF4 HG4
                  go_wp2_with fail
                  refine (same_true g gb w.heap.size lim s v rv rv2 _ HP6.out.sa HP6.out.ra (Nat.le_trans HP6.out.dl HP6.out.lm)).mono ?_
                  rintro e9 w9 ⟨rfl, hf9⟩
                  have HP9 := Lib.hid (HP6.out.still hf9)
                  have HF9 := Lib.hid (HF6.out.then hf9)
                  clear hf9
                  go_wp2_with fail
                  go_roundw
                  case rel => exact ⟨j + 1, g, gb, lim, s, v, rv, rv2, by have := HLT.out; omega, by go_num, rfl, rfl, HP9.out, HF9.out⟩
                  case measure => have := HLT.out; simp [intOf]; omega
                · have HP6 := Lib.hid (hp6.mono HF4.out.size)
                  have HF6 := Lib.hid (HF4.out.then hf6)
                  clear hf6 hp6 HP4 HF4 HG4
                  go_wp2_with fail
                  refine (same_true g' gb' w.heap.size L' s' v' rv' rv2' _ HP6.out.sa HP6.out.ra (Nat.le_trans HP6.out.dl HP6.out.lm)).mono ?_
                  rintro e9 w9 ⟨rfl, hf9⟩
                  have HP9 := Lib.hid (HP6.out.still hf9)
                  have HF9 := Lib.hid (HF6.out.then hf9)
                  clear hf9
                  go_wp2_with fail
                  go_roundw
                  case rel => exact ⟨j + 1, g', gb', L', s', v', rv', rv2', by have := HLT.out; omega, by go_num, rfl, rfl, HP9.out, HF9.out⟩
                  case measure => have := HLT.out; simp [intOf]; omega
              · have hz1 : (sn == 0) = false := by simpa using hz
                clear hz
                go_wp2_with fail
                refine (show Calls Try.prog 22 #[.string qd, .int .i64 sn] w4 _ from (by have h := lopen_any s.d sn w4 (by have := HP4.out.dl; have := HP4.out.lm; omega); rw [HQD.out] at h; exact h)).mono ?_
                clear d0 d1 d2 c1 hz1
                rintro e6 w6 ⟨hres, hf6⟩
                rcases hres with rfl | ⟨g', gb', L', s', v', rv', rv2', rfl, hp6⟩
                · have HP6 := Lib.hid (HP4.out.still hf6)
                  have HF6 := Lib.hid (HF4.out.then hf6)
                  clear hf6 HP4 HF4 HG4
                  go_wp2_with fail
                  refine (same_true g gb w.heap.size lim s v rv rv2 _ HP6.out.sa HP6.out.ra (Nat.le_trans HP6.out.dl HP6.out.lm)).mono ?_
                  rintro e9 w9 ⟨rfl, hf9⟩
                  have HP9 := Lib.hid (HP6.out.still hf9)
                  have HF9 := Lib.hid (HF6.out.then hf9)
                  clear hf9
                  go_wp2_with fail
                  go_roundw
                  case rel => exact ⟨j + 1, g, gb, lim, s, v, rv, rv2, by have := HLT.out; omega, by go_num, rfl, rfl, HP9.out, HF9.out⟩
                  case measure => have := HLT.out; simp [intOf]; omega
                · have HP6 := Lib.hid (hp6.mono HF4.out.size)
                  have HF6 := Lib.hid (HF4.out.then hf6)
                  clear hf6 hp6 HP4 HF4 HG4
                  go_wp2_with fail
                  refine (same_true g' gb' w.heap.size L' s' v' rv' rv2' _ HP6.out.sa HP6.out.ra (Nat.le_trans HP6.out.dl HP6.out.lm)).mono ?_
                  rintro e9 w9 ⟨rfl, hf9⟩
                  have HP9 := Lib.hid (HP6.out.still hf9)
                  have HF9 := Lib.hid (HF6.out.then hf9)
                  clear hf9
                  go_wp2_with fail
                  go_roundw
                  case rel => exact ⟨j + 1, g', gb', L', s', v', rv', rv2', by have := HLT.out; omega, by go_num, rfl, rfl, HP9.out, HF9.out⟩
                  case measure => have := HLT.out; simp [intOf]; omega
            · have n3 : (sd == 3) = false := by simpa using h3
              clear h3
              by_cases h4 : sd = 4
              · subst h4
                have c1 := HP4.out.ra.has.cell (i := 1) (v := .string (mkS s.d)) rfl
                obtain ⟨qd, hqd⟩ : ∃ qd, mkS s.d = qd := ⟨_, rfl⟩
                rw [hqd] at c1
                have HQD := Lib.hid hqd
                have HQS := Lib.hid (show qd.size = s.d.length by rw [← hqd, mkS_size])
                clear hqd
                by_cases hz : sn = 0
                · subst hz
                  go_wp2_with fail
                  refine (show Calls Try.prog 22 #[.string qx, .int .i64 (lim0 : Int)] w4 _ from (by have h := lopen_any sx (lim0 : Int) w4 (by have := HQX.out; have := HBG.out; omega); rw [HQQ.out] at h; exact h)).mono ?_
                  clear d0 d1 d2 c1
                  rintro e6 w6 ⟨hres, hf6⟩
                  rcases hres with rfl | ⟨g', gb', L', s', v', rv', rv2', rfl, hp6⟩
                  · have HP6 := Lib.hid (HP4.out.still hf6)
                    have HF6 := Lib.hid (HF4.out.then hf6)
                    clear hf6 HP4 HF4 HG4
                    go_wp2_with fail
                    refine (same_true g gb w.heap.size lim s v rv rv2 _ HP6.out.sa HP6.out.ra (Nat.le_trans HP6.out.dl HP6.out.lm)).mono ?_
                    rintro e9 w9 ⟨rfl, hf9⟩
                    have HP9 := Lib.hid (HP6.out.still hf9)
                    have HF9 := Lib.hid (HF6.out.then hf9)
                    clear hf9
                    go_wp2_with fail
                    go_roundw
                    case rel => exact ⟨j + 1, g, gb, lim, s, v, rv, rv2, by have := HLT.out; omega, by go_num, rfl, rfl, HP9.out, HF9.out⟩
                    case measure => have := HLT.out; simp [intOf]; omega
                  · have HP6 := Lib.hid (hp6.mono HF4.out.size)
                    have HF6 := Lib.hid (HF4.out.then hf6)
                    clear hf6 hp6 HP4 HF4 HG4
                    go_wp2_with fail
                    refine (same_true g' gb' w.heap.size L' s' v' rv' rv2' _ HP6.out.sa HP6.out.ra (Nat.le_trans HP6.out.dl HP6.out.lm)).mono ?_
                    rintro e9 w9 ⟨rfl, hf9⟩
                    have HP9 := Lib.hid (HP6.out.still hf9)
                    have HF9 := Lib.hid (HF6.out.then hf9)
                    clear hf9
                    go_wp2_with fail
                    go_roundw
                    case rel => exact ⟨j + 1, g', gb', L', s', v', rv', rv2', by have := HLT.out; omega, by go_num, rfl, rfl, HP9.out, HF9.out⟩
                    case measure => have := HLT.out; simp [intOf]; omega
                · have hz1 : (sn == 0) = false := by simpa using hz
                  clear hz
                  go_wp2_with fail
                  refine (show Calls Try.prog 22 #[.string qx, .int .i64 sn] w4 _ from (by have h := lopen_any sx sn w4 (by have := HQX.out; have := HBG.out; omega); rw [HQQ.out] at h; exact h)).mono ?_
                  clear d0 d1 d2 c1 hz1
                  rintro e6 w6 ⟨hres, hf6⟩
                  rcases hres with rfl | ⟨g', gb', L', s', v', rv', rv2', rfl, hp6⟩
                  · have HP6 := Lib.hid (HP4.out.still hf6)
                    have HF6 := Lib.hid (HF4.out.then hf6)
                    clear hf6 HP4 HF4 HG4
                    go_wp2_with fail
                    refine (same_true g gb w.heap.size lim s v rv rv2 _ HP6.out.sa HP6.out.ra (Nat.le_trans HP6.out.dl HP6.out.lm)).mono ?_
                    rintro e9 w9 ⟨rfl, hf9⟩
                    have HP9 := Lib.hid (HP6.out.still hf9)
                    have HF9 := Lib.hid (HF6.out.then hf9)
                    clear hf9
                    go_wp2_with fail
                    go_roundw
                    case rel => exact ⟨j + 1, g, gb, lim, s, v, rv, rv2, by have := HLT.out; omega, by go_num, rfl, rfl, HP9.out, HF9.out⟩
                    case measure => have := HLT.out; simp [intOf]; omega
                  · have HP6 := Lib.hid (hp6.mono HF4.out.size)
                    have HF6 := Lib.hid (HF4.out.then hf6)
                    clear hf6 hp6 HP4 HF4 HG4
                    go_wp2_with fail
                    refine (same_true g' gb' w.heap.size L' s' v' rv' rv2' _ HP6.out.sa HP6.out.ra (Nat.le_trans HP6.out.dl HP6.out.lm)).mono ?_
                    rintro e9 w9 ⟨rfl, hf9⟩
                    have HP9 := Lib.hid (HP6.out.still hf9)
                    have HF9 := Lib.hid (HF6.out.then hf9)
                    clear hf9
                    go_wp2_with fail
                    go_roundw
                    case rel => exact ⟨j + 1, g', gb', L', s', v', rv', rv2', by have := HLT.out; omega, by go_num, rfl, rfl, HP9.out, HF9.out⟩
                    case measure => have := HLT.out; simp [intOf]; omega
              · have n4 : (sd == 4) = false := by simpa using h4
                clear h4
                by_cases h6 : sd = 6
                · subst h6
                  have c1 := HP4.out.ra.has.cell (i := 1) (v := .string (mkS s.d)) rfl
                  obtain ⟨qd, hqd⟩ : ∃ qd, mkS s.d = qd := ⟨_, rfl⟩
                  rw [hqd] at c1
                  have HQD := Lib.hid hqd
                  have HQS := Lib.hid (show qd.size = s.d.length by rw [← hqd, mkS_size])
                  clear hqd
                  have hqb : (qd.size : Int) ≤ 1048576 := by have := HQS.out; have := HP4.out.dl; have := HP4.out.lm; omega
                  have hc0 : ∀ wx, (Instr.sliceAt 9 (.string qd) none (some (.int .i64 0)) none).run Try.prog wx = .ok (.string (mkS (s.d.take 0))) wx := fun wx => by
                    have h := run_cutS wx Try.underlying9 qd 0 (Nat.zero_le _)
                    rw [← HQD.out, ext_hiS, HQD.out] at h
                    exact h
                  by_cases hn0 : sn < 0
                  · obtain ⟨qt, hqt⟩ : ∃ qt, mkS (s.d.take 0) = qt := ⟨_, rfl⟩
                    rw [hqt] at hc0
                    have HQT := Lib.hid hqt
                    clear hqt
                    go_wp2_with fail
                    refine (show Calls Try.prog 22 #[.string qt, .int .i64 (lim0 : Int)] w4 _ from (by have h := lopen_any (s.d.take 0) (lim0 : Int) w4 (by have := HP4.out.dl; have := HP4.out.lm; simp only [List.length_take]; omega); rw [HQT.out] at h; exact h)).mono ?_
                    clear d0 d1 d2 c1
                    rintro e6 w6 ⟨hres, hf6⟩
                    rcases hres with rfl | ⟨g', gb', L', s', v', rv', rv2', rfl, hp6⟩
                    · have HP6 := Lib.hid (HP4.out.still hf6)
                      have HF6 := Lib.hid (HF4.out.then hf6)
                      clear hf6 HP4 HF4 HG4
                      go_wp2_with fail
                      refine (same_true g gb w.heap.size lim s v rv rv2 _ HP6.out.sa HP6.out.ra (Nat.le_trans HP6.out.dl HP6.out.lm)).mono ?_
                      rintro e9 w9 ⟨rfl, hf9⟩
                      have HP9 := Lib.hid (HP6.out.still hf9)
                      have HF9 := Lib.hid (HF6.out.then hf9)
                      clear hf9
                      go_wp2_with fail
                      go_roundw
                      case rel => exact ⟨j + 1, g, gb, lim, s, v, rv, rv2, by have := HLT.out; omega, by go_num, rfl, rfl, HP9.out, HF9.out⟩
                      case measure => have := HLT.out; simp [intOf]; omega
                    · have HP6 := Lib.hid (hp6.mono HF4.out.size)
                      have HF6 := Lib.hid (HF4.out.then hf6)
                      clear hf6 hp6 HP4 HF4 HG4
                      go_wp2_with fail
                      refine (same_true g' gb' w.heap.size L' s' v' rv' rv2' _ HP6.out.sa HP6.out.ra (Nat.le_trans HP6.out.dl HP6.out.lm)).mono ?_
                      rintro e9 w9 ⟨rfl, hf9⟩
                      have HP9 := Lib.hid (HP6.out.still hf9)
                      have HF9 := Lib.hid (HF6.out.then hf9)
                      clear hf9
                      go_wp2_with fail
                      go_roundw
                      case rel => exact ⟨j + 1, g', gb', L', s', v', rv', rv2', by have := HLT.out; omega, by go_num, rfl, rfl, HP9.out, HF9.out⟩
                      case measure => have := HLT.out; simp [intOf]; omega
                  · by_cases hn1 : (qd.size : Int) < sn
                    · obtain ⟨qt, hqt⟩ : ∃ qt, mkS (s.d.take 0) = qt := ⟨_, rfl⟩
                      rw [hqt] at hc0
                      have HQT := Lib.hid hqt
                      clear hqt
                      go_wp2_with fail
                      refine (show Calls Try.prog 22 #[.string qt, .int .i64 (lim0 : Int)] w4 _ from (by have h := lopen_any (s.d.take 0) (lim0 : Int) w4 (by have := HP4.out.dl; have := HP4.out.lm; simp only [List.length_take]; omega); rw [HQT.out] at h; exact h)).mono ?_
                      clear d0 d1 d2 c1
                      rintro e6 w6 ⟨hres, hf6⟩
                      rcases hres with rfl | ⟨g', gb', L', s', v', rv', rv2', rfl, hp6⟩
                      · have HP6 := Lib.hid (HP4.out.still hf6)
                        have HF6 := Lib.hid (HF4.out.then hf6)
                        clear hf6 HP4 HF4 HG4
                        go_wp2_with fail
                        refine (same_true g gb w.heap.size lim s v rv rv2 _ HP6.out.sa HP6.out.ra (Nat.le_trans HP6.out.dl HP6.out.lm)).mono ?_
                        rintro e9 w9 ⟨rfl, hf9⟩
                        have HP9 := Lib.hid (HP6.out.still hf9)
                        have HF9 := Lib.hid (HF6.out.then hf9)
                        clear hf9
                        go_wp2_with fail
                        go_roundw
                        case rel => exact ⟨j + 1, g, gb, lim, s, v, rv, rv2, by have := HLT.out; omega, by go_num, rfl, rfl, HP9.out, HF9.out⟩
                        case measure => have := HLT.out; simp [intOf]; omega
                      · have HP6 := Lib.hid (hp6.mono HF4.out.size)
                        have HF6 := Lib.hid (HF4.out.then hf6)
                        clear hf6 hp6 HP4 HF4 HG4
                        go_wp2_with fail
                        refine (same_true g' gb' w.heap.size L' s' v' rv' rv2' _ HP6.out.sa HP6.out.ra (Nat.le_trans HP6.out.dl HP6.out.lm)).mono ?_
                        rintro e9 w9 ⟨rfl, hf9⟩
                        have HP9 := Lib.hid (HP6.out.still hf9)
                        have HF9 := Lib.hid (HF6.out.then hf9)
                        clear hf9
                        go_wp2_with fail
                        go_roundw
                        case rel => exact ⟨j + 1, g', gb', L', s', v', rv', rv2', by have := HLT.out; omega, by go_num, rfl, rfl, HP9.out, HF9.out⟩
                        case measure => have := HLT.out; simp [intOf]; omega
                    · obtain ⟨K, hK⟩ : ∃ K : Nat, (qd.size : Int) - sn = (K : Int) := ⟨((qd.size : Int) - sn).toNat, by omega⟩
                      obtain ⟨x, hx⟩ : ∃ x : Int, (qd.size : Int) - sn = x := ⟨_, rfl⟩
                      have hcx : ∀ wx, (Instr.sliceAt 9 (.string qd) none (some (.int .i64 ((qd.size : Int) - sn))) none).run Try.prog wx = .ok (.string (mkS (s.d.take K))) wx := fun wx => by
                        have h := run_cutS wx Try.underlying9 qd K (by omega)
                        rw [← HQD.out, ext_hiS, HQD.out, ← hK] at h
                        exact h
                      obtain ⟨qt, hqt⟩ : ∃ qt, mkS (s.d.take K) = qt := ⟨_, rfl⟩
                      rw [hqt] at hcx
                      have HQT := Lib.hid hqt
                      have hn2 : decide ((qd.size : Int) < sn) = false := by simpa using hn1
                      have hlo : (0 : Int) ≤ sn := by omega
                      have hhi : sn ≤ (qd.size : Int) := by omega
                      clear hqt hc0 hK hx hn1
                      go_wp2_with fail
                      refine (show Calls Try.prog 22 #[.string qt, .int .i64 (lim0 : Int)] w4 _ from (by have h := lopen_any (s.d.take K) (lim0 : Int) w4 (by have := HP4.out.dl; have := HP4.out.lm; simp only [List.length_take]; omega); rw [HQT.out] at h; exact h)).mono ?_
                      clear d0 d1 d2 c1
                      rintro e6 w6 ⟨hres, hf6⟩
                      rcases hres with rfl | ⟨g', gb', L', s', v', rv', rv2', rfl, hp6⟩
                      · have HP6 := Lib.hid (HP4.out.still hf6)
                        have HF6 := Lib.hid (HF4.out.then hf6)
                        clear hf6 HP4 HF4 HG4
                        go_wp2_with fail
                        refine (same_true g gb w.heap.size lim s v rv rv2 _ HP6.out.sa HP6.out.ra (Nat.le_trans HP6.out.dl HP6.out.lm)).mono ?_
                        rintro e9 w9 ⟨rfl, hf9⟩
                        have HP9 := Lib.hid (HP6.out.still hf9)
                        have HF9 := Lib.hid (HF6.out.then hf9)
                        clear hf9
                        go_wp2_with fail
                        go_roundw
                        case rel => exact ⟨j + 1, g, gb, lim, s, v, rv, rv2, by have := HLT.out; omega, by go_num, rfl, rfl, HP9.out, HF9.out⟩
                        case measure => have := HLT.out; simp [intOf]; omega
                      · have HP6 := Lib.hid (hp6.mono HF4.out.size)
                        have HF6 := Lib.hid (HF4.out.then hf6)
                        clear hf6 hp6 HP4 HF4 HG4
                        go_wp2_with fail
                        refine (same_true g' gb' w.heap.size L' s' v' rv' rv2' _ HP6.out.sa HP6.out.ra (Nat.le_trans HP6.out.dl HP6.out.lm)).mono ?_
                        rintro e9 w9 ⟨rfl, hf9⟩
                        have HP9 := Lib.hid (HP6.out.still hf9)
                        have HF9 := Lib.hid (HF6.out.then hf9)
                        clear hf9
                        go_wp2_with fail
                        go_roundw
                        case rel => exact ⟨j + 1, g', gb', L', s', v', rv', rv2', by have := HLT.out; omega, by go_num, rfl, rfl, HP9.out, HF9.out⟩
                        case measure => have := HLT.out; simp [intOf]; omega
                · have n6 : (sd == 6) = false := by simpa using h6
                  clear h6
                  by_cases h5 : sd = 5
                  · subst h5
                    have hrc := show Calls Try.prog 23 #[.pointer (some ⟨g, 0, none⟩), .pointer (some ⟨gb, 0, none⟩), .int .i64 sn] w4 (fun e w' => e = .returned (.bool true) ∧ Fr Nob w4 w') from (by
                      by_cases hn : sn < 0 ∨ (s.recs.length : Int) ≤ sn
                      · exact record_no g gb w.heap.size lim s v rv rv2 sn w4 HP4.out.sa HP4.out.ra hn
                      · obtain ⟨k, rfl⟩ : ∃ k : Nat, sn = (k : Int) := ⟨sn.toNat, by omega⟩
                        exact record_ok g gb w.heap.size lim s v rv rv2 k w4 HP4.out.sa HP4.out.ra HP4.out.inv (Nat.le_trans HP4.out.dl HP4.out.lm) (by omega))
                    have HRC := Lib.hid hrc
                    clear hrc
                    go_wp2_with fail
                    refine HRC.out.mono ?_
                    rintro e6 w6 ⟨rfl, hf6⟩
                    have HP6 := Lib.hid (HP4.out.still hf6)
                    have HF6 := Lib.hid (HF4.out.then hf6)
                    clear hf6 HP4 HF4 HG4 d0 d1 d2 HRC
                    go_wp2_with fail
                    refine (same_true g gb w.heap.size lim s v rv rv2 _ HP6.out.sa HP6.out.ra (Nat.le_trans HP6.out.dl HP6.out.lm)).mono ?_
                    rintro e9 w9 ⟨rfl, hf9⟩
                    have HP9 := Lib.hid (HP6.out.still hf9)
                    have HF9 := Lib.hid (HF6.out.then hf9)
                    clear hf9
                    go_wp2_with fail
                    go_roundw
                    case rel => exact ⟨j + 1, g, gb, lim, s, v, rv, rv2, by have := HLT.out; omega, by go_num, rfl, rfl, HP9.out, HF9.out⟩
                    case measure => have := HLT.out; simp [intOf]; omega
                  · have n5 : (sd == 5) = false := by simpa using h5
                    clear h5
                    go_wp2_with fail
                    refine (same_true g gb w.heap.size lim s v rv rv2 _ HP4.out.sa HP4.out.ra (Nat.le_trans HP4.out.dl HP4.out.lm)).mono ?_
                    rintro e9 w9 ⟨rfl, hf9⟩
                    have HP9 := Lib.hid (HP4.out.still hf9)
                    have HF9 := Lib.hid (HF4.out.then hf9)
                    clear hf9
                    go_wp2_with fail
                    go_roundw
                    case rel => exact ⟨j + 1, g, gb, lim, s, v, rv, rv2, by have := HLT.out; omega, by go_num, rfl, rfl, HP9.out, HF9.out⟩
                    case measure => have := HLT.out; simp [intOf]; omega
    · have hge : ¬ ((j : Int) < (l.length : Int)) := by omega
      have HFE := Lib.hid HF.out
      have HPE := Lib.hid HP.out
      clear hj hlt HP HF
      have hrl : (s.recs.length : Int) ≤ 1000000 := by have := HPE.out.inv.count ckS_len; have := HPE.out.dl; have := HPE.out.lm; omega
      go_wp2_with fail
      go_loopw [23] (fun i wr2 => ∃ x : Int, -1 ≤ x ∧ x ≤ (s.recs.length : Int) + 1 ∧ i = .int .i64 x ∧ PSt wr2 w.heap.size g gb lim s v rv rv2 ∧ Fr Nob w wr2) (fun i _ => ((s.recs.length : Int) + 1 - intOf i).toNat)
      case atStart => exact ⟨-1, by omega, by omega, rfl, HPE.out, HFE.out⟩
      case round =>
        obtain ⟨x, hx1, hx2, rfl, hp, hf⟩ := hrel
        have HP := Lib.hid hp
        have HF := Lib.hid hf
        obtain ⟨ar, cr, hrv, -⟩ := hp.ra.recs.form
        have c2 := hp.ra.has.cell (i := 2) (v := .slice ar s.recs.length cr) (by rw [hrv]; rfl)
        clear hp hf hrv
        by_cases hle : x ≤ (s.recs.length : Int)
        · have HLE := Lib.hid hle
          have HX1 := Lib.hid hx1
          have hrc : ∀ W, PSt W w.heap.size g gb lim s v rv rv2 → Calls Try.prog 23 #[.pointer (some ⟨g, 0, none⟩), .pointer (some ⟨gb, 0, none⟩), .int .i64 x] W (fun e w' => e = .returned (.bool true) ∧ Fr Nob W w') := fun W hW => by
            by_cases hn : x < 0 ∨ (s.recs.length : Int) ≤ x
            · exact record_no g gb w.heap.size lim s v rv rv2 x W hW.sa hW.ra hn
            · obtain ⟨k, rfl⟩ : ∃ k : Nat, x = (k : Int) := ⟨x.toNat, by omega⟩
              exact record_ok g gb w.heap.size lim s v rv rv2 k W hW.sa hW.ra hW.inv (Nat.le_trans hW.dl hW.lm) (by omega)
          have HRC := Lib.hid (hrc _ HP.out)
          clear hrc
          go_wp2_with fail
          refine HRC.out.mono ?_
          rintro e6 w6 ⟨rfl, hf6⟩
          have HP6 := Lib.hid (HP.out.still hf6)
          have HF6 := Lib.hid (HF.out.then hf6)
          clear hf6 c2 HRC
          go_wp2_with fail
          go_roundw
          case rel => exact ⟨x + 1, by have := HX1.out; omega, by have := HLE.out; omega, rfl, HP6.out, HF6.out⟩
          case measure => simp only [intOf]; have := HLE.out; omega
        · have HFF := Lib.hid HF.out
          go_wp2_with fail
          go_ret
          exact ⟨rfl, HFF.out⟩
end Go.Proofs.Ytdadnajbdnbbdaa
