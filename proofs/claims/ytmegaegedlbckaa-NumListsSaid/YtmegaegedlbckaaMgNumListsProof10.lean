/- num.reckon, over an operation's contract; num: Add, Sub, Mul, Inv; num.Add, Sub, Mul, Inv: what they answer. -/
import Derived.Test.YtmegaegedlbckaaMgNumListsProof9
import Derived.Test.YtmegaegedlbckaaMgNumListsProof5
namespace Go.Proofs.Ytmegaegedlbckaa
open Go.RowKit Go.Mv Mvp
attribute [local irreducible] limbs lw mix cw cSub cAdd cMul foldC valFrom beN laid be32 powm montT mstep elN mdL elCells numsB numB

set_option maxHeartbeats 8000000 in
set_option maxRecDepth 1000000 in
theorem reckon_two_ok (k : Int) (m : Md) (hk : KindOf k m) (gc : Nat) (al : Option Addr) (n cl : Nat) (vs : List Value) (ls : List (List UInt8)) (w : World) (hv : Rd w al n vs) (hp : BParts w vs ls) (hn : n ≤ 100000) (hg : numsB m ls = true) (x : Nat)
    (hop : ∀ gp ae ce wx, Fr Nob w wx → Has wx gp (mdL m) 68 → Rd wx ae (ls.length * 4) (elCells m ls) → Calls Try.prog 73 #[.pointer (some ⟨gp, 0, none⟩), .slice ae ls.length ce, .pointer (some ⟨gc, 0, none⟩)] wx fun e w' => e = .returned (.tuple #[i4 (elN m x), .bool true]) ∧ Fr Nob wx w') :
    Calls Try.prog 49 #[.int .i64 k, .func (.func 73) #[] #[.pointer (some ⟨gc, 0, none⟩)], .slice al n cl] w fun e w' => ∃ v, e = .returned (.tuple #[v, .int .i64 0]) ∧ Own w' w.heap.size 5 1 v 32 (bs (be32 (x % m.M))) ∧ Fr Nob w w' := by
  have HK := Lib.hid hk
  have HV := Lib.hid hv
  have HP := Lib.hid hp
  have HG := Lib.hid hg
  have HOP := Lib.hid hop
  clear hk hv hp hg hop
  go_enter Try.func49, Try.ntmps49
  go_wp2_with fail
  refine (OfK HK.out _).mono ?_
  rintro e w1 ⟨gp, rfl, hgg, hm, hf⟩
  clear hgg
  have HM := Lib.hid hm
  have HF := Lib.hid hf
  clear hm hf
  go_wp2_with fail
  refine (read_any m gp al n cl vs ls _ HK.out.ok HM.out (HV.out.still HF.out) (HP.out.still HF.out) hn).mono ?_
  rintro e w2 ⟨hgood, -, hf2⟩
  obtain ⟨v, rfl, hown⟩ := hgood HG.out
  obtain ⟨ae, ce, rfl, -, hre, -⟩ := hown.form
  have HRE := Lib.hid hre
  have HM2 := Lib.hid (HM.out.keep hf2 id)
  have HF2 := Lib.hid (HF.out.then hf2)
  clear hgood hown hre hf2
  go_wp2_with fail
  refine (HOP.out gp ae ce _ HF2.out HM2.out HRE.out).mono ?_
  rintro e w3 ⟨rfl, hf3⟩
  have HM3 := Lib.hid (HM2.out.keep hf3 id)
  have HF3 := Lib.hid (HF2.out.then hf3)
  have st0 := St.start Nob w3
  clear hf3
  go_wp2_with (with_reducible refine wl_stop (o := ⟨some 11, _, _, _, _, _⟩) ?_)
  refine wl_allocS st0 rfl rfl (z := .agg #[.int .u64 0, .int .u64 0, .int .u64 0, .int .u64 0]) (by kernel_rfl) (cw 4 0) (by rw [cw_zero]; rfl) ?_
  intro g11 w4 st1
  clear st0
  go_wp2_with (with_reducible refine wl_stop (o := ⟨none, _, _, _, _, _⟩) ?_)
  refine wl_storeS st1 0 rfl rfl rfl rfl (cs := cw 4 (elN m x)) rfl (by rw [cw_len, cw_len]) (by rw [cw_len]; kernel_rfl) (cw_one _ _) ?_
  intro w5 st2
  clear st1
  go_wp2_with (with_reducible refine wl_stop (o := ⟨some 37, _, _, _, _, _⟩) ?_)
  refine wl_loadS st2 0 rfl rfl rfl Try.underlying81 rfl (by rw [cw_len]; kernel_rfl) ?_
  have HM5 := Lib.hid (HM3.out.keep st2.fr id)
  have HF5 := Lib.hid (HF3.out.then st2.fr)
  clear st2
  go_wp2_with fail
  refine (MFrom_any m gp _ HK.out.ok HM5.out x).mono ?_
  rintro e w6 ⟨rfl, hf6⟩
  have HF6 := Lib.hid (HF5.out.then hf6)
  clear hf6
  go_wp2_with fail
  refine (MBytes_any (x % m.M) _).mono ?_
  rintro e w7 ⟨v, rfl, hown7, hf7⟩
  have h2 := HF6.out.then hf7
  have ho := hown7.mono HF6.out.size
  clear hown7 hf7 HF6 HF5 HM5 HF3 HM3 HF2 HM2 HRE HM HF
  go_wp2_with fail
  go_ret2
  exact ⟨v, rfl, ho, h2⟩
set_option maxHeartbeats 8000000 in
set_option maxRecDepth 1000000 in
theorem reckon_two_bad (k : Int) (m : Md) (hk : KindOf k m) (gc : Nat) (al : Option Addr) (n cl : Nat) (vs : List Value) (ls : List (List UInt8)) (w : World) (hv : Rd w al n vs) (hp : BParts w vs ls) (hn : n ≤ 100000) (hg : numsB m ls = false) :
    Calls Try.prog 49 #[.int .i64 k, .func (.func 73) #[] #[.pointer (some ⟨gc, 0, none⟩)], .slice al n cl] w fun e w' => e = .returned (.tuple #[.slice none 0 0, .int .i64 3]) ∧ Fr Nob w w' := by
  have HK := Lib.hid hk
  have HV := Lib.hid hv
  have HP := Lib.hid hp
  have HG := Lib.hid hg
  clear hk hv hp hg
  go_enter Try.func49, Try.ntmps49
  go_wp2_with fail
  refine (OfK HK.out _).mono ?_
  rintro e w1 ⟨gp, rfl, hgg, hm, hf⟩
  clear hgg
  have HM := Lib.hid hm
  have HF := Lib.hid hf
  clear hm hf
  go_wp2_with fail
  refine (read_any m gp al n cl vs ls _ HK.out.ok HM.out (HV.out.still HF.out) (HP.out.still HF.out) hn).mono ?_
  rintro e w2 ⟨-, hbad, hf2⟩
  obtain rfl := hbad HG.out
  have HF2 := Lib.hid (HF.out.then hf2)
  clear hbad hf2
  go_wp2_with fail
  go_ret2
  exact ⟨rfl, HF2.out⟩
set_option maxHeartbeats 8000000 in
set_option maxRecDepth 1000000 in
theorem reckon_two_x (k : Int) (gc : Nat) (v : Value) (w : World) (h0 : (k == 0) = false) (h1 : (k == 1) = false) :
    Calls Try.prog 49 #[.int .i64 k, .func (.func 73) #[] #[.pointer (some ⟨gc, 0, none⟩)], v] w fun e w' => e = .returned (.tuple #[.slice none 0 0, .int .i64 2]) ∧ w = w' := by
  have H0 := Lib.hid h0
  have H1 := Lib.hid h1
  clear h0 h1
  go_enter Try.func49, Try.ntmps49
  go_wp2_with fail
  refine (Of2 k _ H0.out H1.out).mono ?_
  rintro e w1 ⟨rfl, rfl⟩
  go_wp2_with fail
  go_ret2
  exact ⟨rfl, rfl⟩

set_option maxHeartbeats 8000000 in
set_option maxRecDepth 1000000 in
theorem reckon_inv_ok (k : Int) (m : Md) (hk : KindOf k m) (al : Option Addr) (n cl : Nat) (vs : List Value) (ls : List (List UInt8)) (w : World) (hv : Rd w al n vs) (hp : BParts w vs ls) (hn : n ≤ 100000) (hg : numsB m ls = true) (x : Nat)
    (hop : ∀ gp ae ce wx, Fr Nob w wx → Has wx gp (mdL m) 68 → Rd wx ae (ls.length * 4) (elCells m ls) → Calls Try.prog 52 #[.pointer (some ⟨gp, 0, none⟩), .slice ae ls.length ce] wx fun e w' => e = .returned (.tuple #[i4 (elN m x), .bool true]) ∧ Fr Nob wx w') :
    Calls Try.prog 49 #[.int .i64 k, .func (.func 52) #[] #[], .slice al n cl] w fun e w' => ∃ v, e = .returned (.tuple #[v, .int .i64 0]) ∧ Own w' w.heap.size 5 1 v 32 (bs (be32 (x % m.M))) ∧ Fr Nob w w' := by
  have HK := Lib.hid hk
  have HV := Lib.hid hv
  have HP := Lib.hid hp
  have HG := Lib.hid hg
  have HOP := Lib.hid hop
  clear hk hv hp hg hop
  go_enter Try.func49, Try.ntmps49
  go_wp2_with fail
  refine (OfK HK.out _).mono ?_
  rintro e w1 ⟨gp, rfl, hgg, hm, hf⟩
  clear hgg
  have HM := Lib.hid hm
  have HF := Lib.hid hf
  clear hm hf
  go_wp2_with fail
  refine (read_any m gp al n cl vs ls _ HK.out.ok HM.out (HV.out.still HF.out) (HP.out.still HF.out) hn).mono ?_
  rintro e w2 ⟨hgood, -, hf2⟩
  obtain ⟨v, rfl, hown⟩ := hgood HG.out
  obtain ⟨ae, ce, rfl, -, hre, -⟩ := hown.form
  have HRE := Lib.hid hre
  have HM2 := Lib.hid (HM.out.keep hf2 id)
  have HF2 := Lib.hid (HF.out.then hf2)
  clear hgood hown hre hf2
  go_wp2_with fail
  refine (HOP.out gp ae ce _ HF2.out HM2.out HRE.out).mono ?_
  rintro e w3 ⟨rfl, hf3⟩
  have HM3 := Lib.hid (HM2.out.keep hf3 id)
  have HF3 := Lib.hid (HF2.out.then hf3)
  have st0 := St.start Nob w3
  clear hf3
  go_wp2_with (with_reducible refine wl_stop (o := ⟨some 11, _, _, _, _, _⟩) ?_)
  refine wl_allocS st0 rfl rfl (z := .agg #[.int .u64 0, .int .u64 0, .int .u64 0, .int .u64 0]) (by kernel_rfl) (cw 4 0) (by rw [cw_zero]; rfl) ?_
  intro g11 w4 st1
  clear st0
  go_wp2_with (with_reducible refine wl_stop (o := ⟨none, _, _, _, _, _⟩) ?_)
  refine wl_storeS st1 0 rfl rfl rfl rfl (cs := cw 4 (elN m x)) rfl (by rw [cw_len, cw_len]) (by rw [cw_len]; kernel_rfl) (cw_one _ _) ?_
  intro w5 st2
  clear st1
  go_wp2_with (with_reducible refine wl_stop (o := ⟨some 37, _, _, _, _, _⟩) ?_)
  refine wl_loadS st2 0 rfl rfl rfl Try.underlying81 rfl (by rw [cw_len]; kernel_rfl) ?_
  have HM5 := Lib.hid (HM3.out.keep st2.fr id)
  have HF5 := Lib.hid (HF3.out.then st2.fr)
  clear st2
  go_wp2_with fail
  refine (MFrom_any m gp _ HK.out.ok HM5.out x).mono ?_
  rintro e w6 ⟨rfl, hf6⟩
  have HF6 := Lib.hid (HF5.out.then hf6)
  clear hf6
  go_wp2_with fail
  refine (MBytes_any (x % m.M) _).mono ?_
  rintro e w7 ⟨v, rfl, hown7, hf7⟩
  have h2 := HF6.out.then hf7
  have ho := hown7.mono HF6.out.size
  clear hown7 hf7 HF6 HF5 HM5 HF3 HM3 HF2 HM2 HRE HM HF
  go_wp2_with fail
  go_ret2
  exact ⟨v, rfl, ho, h2⟩
set_option maxHeartbeats 8000000 in
set_option maxRecDepth 1000000 in
theorem reckon_inv_bad (k : Int) (m : Md) (hk : KindOf k m) (al : Option Addr) (n cl : Nat) (vs : List Value) (ls : List (List UInt8)) (w : World) (hv : Rd w al n vs) (hp : BParts w vs ls) (hn : n ≤ 100000) (hg : numsB m ls = false) :
    Calls Try.prog 49 #[.int .i64 k, .func (.func 52) #[] #[], .slice al n cl] w fun e w' => e = .returned (.tuple #[.slice none 0 0, .int .i64 3]) ∧ Fr Nob w w' := by
  have HK := Lib.hid hk
  have HV := Lib.hid hv
  have HP := Lib.hid hp
  have HG := Lib.hid hg
  clear hk hv hp hg
  go_enter Try.func49, Try.ntmps49
  go_wp2_with fail
  refine (OfK HK.out _).mono ?_
  rintro e w1 ⟨gp, rfl, hgg, hm, hf⟩
  clear hgg
  have HM := Lib.hid hm
  have HF := Lib.hid hf
  clear hm hf
  go_wp2_with fail
  refine (read_any m gp al n cl vs ls _ HK.out.ok HM.out (HV.out.still HF.out) (HP.out.still HF.out) hn).mono ?_
  rintro e w2 ⟨-, hbad, hf2⟩
  obtain rfl := hbad HG.out
  have HF2 := Lib.hid (HF.out.then hf2)
  clear hbad hf2
  go_wp2_with fail
  go_ret2
  exact ⟨rfl, HF2.out⟩
set_option maxHeartbeats 8000000 in
set_option maxRecDepth 1000000 in
theorem reckon_inv_x (k : Int) (v : Value) (w : World) (h0 : (k == 0) = false) (h1 : (k == 1) = false) :
    Calls Try.prog 49 #[.int .i64 k, .func (.func 52) #[] #[], v] w fun e w' => e = .returned (.tuple #[.slice none 0 0, .int .i64 2]) ∧ w = w' := by
  have H0 := Lib.hid h0
  have H1 := Lib.hid h1
  clear h0 h1
  go_enter Try.func49, Try.ntmps49
  go_wp2_with fail
  refine (Of2 k _ H0.out H1.out).mono ?_
  rintro e w1 ⟨rfl, rfl⟩
  go_wp2_with fail
  go_ret2
  exact ⟨rfl, rfl⟩

set_option maxHeartbeats 8000000 in
set_option maxRecDepth 1000000 in
theorem reckon_sqrt_ok (k : Int) (m : Md) (hk : KindOf k m) (al : Option Addr) (n cl : Nat) (vs : List Value) (ls : List (List UInt8)) (w : World) (hv : Rd w al n vs) (hp : BParts w vs ls) (hn : n ≤ 100000) (hg : numsB m ls = true) (x : Nat)
    (hop : ∀ gp ae ce wx, Fr Nob w wx → Has wx gp (mdL m) 68 → Rd wx ae (ls.length * 4) (elCells m ls) → Calls Try.prog 59 #[.pointer (some ⟨gp, 0, none⟩), .slice ae ls.length ce] wx fun e w' => e = .returned (.tuple #[i4 (elN m x), .bool true]) ∧ Fr Nob wx w') :
    Calls Try.prog 49 #[.int .i64 k, .func (.func 59) #[] #[], .slice al n cl] w fun e w' => ∃ v, e = .returned (.tuple #[v, .int .i64 0]) ∧ Own w' w.heap.size 5 1 v 32 (bs (be32 (x % m.M))) ∧ Fr Nob w w' := by
  have HK := Lib.hid hk
  have HV := Lib.hid hv
  have HP := Lib.hid hp
  have HG := Lib.hid hg
  have HOP := Lib.hid hop
  clear hk hv hp hg hop
  go_enter Try.func49, Try.ntmps49
  go_wp2_with fail
  refine (OfK HK.out _).mono ?_
  rintro e w1 ⟨gp, rfl, hgg, hm, hf⟩
  clear hgg
  have HM := Lib.hid hm
  have HF := Lib.hid hf
  clear hm hf
  go_wp2_with fail
  refine (read_any m gp al n cl vs ls _ HK.out.ok HM.out (HV.out.still HF.out) (HP.out.still HF.out) hn).mono ?_
  rintro e w2 ⟨hgood, -, hf2⟩
  obtain ⟨v, rfl, hown⟩ := hgood HG.out
  obtain ⟨ae, ce, rfl, -, hre, -⟩ := hown.form
  have HRE := Lib.hid hre
  have HM2 := Lib.hid (HM.out.keep hf2 id)
  have HF2 := Lib.hid (HF.out.then hf2)
  clear hgood hown hre hf2
  go_wp2_with fail
  refine (HOP.out gp ae ce _ HF2.out HM2.out HRE.out).mono ?_
  rintro e w3 ⟨rfl, hf3⟩
  have HM3 := Lib.hid (HM2.out.keep hf3 id)
  have HF3 := Lib.hid (HF2.out.then hf3)
  have st0 := St.start Nob w3
  clear hf3
  go_wp2_with (with_reducible refine wl_stop (o := ⟨some 11, _, _, _, _, _⟩) ?_)
  refine wl_allocS st0 rfl rfl (z := .agg #[.int .u64 0, .int .u64 0, .int .u64 0, .int .u64 0]) (by kernel_rfl) (cw 4 0) (by rw [cw_zero]; rfl) ?_
  intro g11 w4 st1
  clear st0
  go_wp2_with (with_reducible refine wl_stop (o := ⟨none, _, _, _, _, _⟩) ?_)
  refine wl_storeS st1 0 rfl rfl rfl rfl (cs := cw 4 (elN m x)) rfl (by rw [cw_len, cw_len]) (by rw [cw_len]; kernel_rfl) (cw_one _ _) ?_
  intro w5 st2
  clear st1
  go_wp2_with (with_reducible refine wl_stop (o := ⟨some 37, _, _, _, _, _⟩) ?_)
  refine wl_loadS st2 0 rfl rfl rfl Try.underlying81 rfl (by rw [cw_len]; kernel_rfl) ?_
  have HM5 := Lib.hid (HM3.out.keep st2.fr id)
  have HF5 := Lib.hid (HF3.out.then st2.fr)
  clear st2
  go_wp2_with fail
  refine (MFrom_any m gp _ HK.out.ok HM5.out x).mono ?_
  rintro e w6 ⟨rfl, hf6⟩
  have HF6 := Lib.hid (HF5.out.then hf6)
  clear hf6
  go_wp2_with fail
  refine (MBytes_any (x % m.M) _).mono ?_
  rintro e w7 ⟨v, rfl, hown7, hf7⟩
  have h2 := HF6.out.then hf7
  have ho := hown7.mono HF6.out.size
  clear hown7 hf7 HF6 HF5 HM5 HF3 HM3 HF2 HM2 HRE HM HF
  go_wp2_with fail
  go_ret2
  exact ⟨v, rfl, ho, h2⟩
set_option maxHeartbeats 8000000 in
set_option maxRecDepth 1000000 in
theorem reckon_sqrt_bad (k : Int) (m : Md) (hk : KindOf k m) (al : Option Addr) (n cl : Nat) (vs : List Value) (ls : List (List UInt8)) (w : World) (hv : Rd w al n vs) (hp : BParts w vs ls) (hn : n ≤ 100000) (hg : numsB m ls = false) :
    Calls Try.prog 49 #[.int .i64 k, .func (.func 59) #[] #[], .slice al n cl] w fun e w' => e = .returned (.tuple #[.slice none 0 0, .int .i64 3]) ∧ Fr Nob w w' := by
  have HK := Lib.hid hk
  have HV := Lib.hid hv
  have HP := Lib.hid hp
  have HG := Lib.hid hg
  clear hk hv hp hg
  go_enter Try.func49, Try.ntmps49
  go_wp2_with fail
  refine (OfK HK.out _).mono ?_
  rintro e w1 ⟨gp, rfl, hgg, hm, hf⟩
  clear hgg
  have HM := Lib.hid hm
  have HF := Lib.hid hf
  clear hm hf
  go_wp2_with fail
  refine (read_any m gp al n cl vs ls _ HK.out.ok HM.out (HV.out.still HF.out) (HP.out.still HF.out) hn).mono ?_
  rintro e w2 ⟨-, hbad, hf2⟩
  obtain rfl := hbad HG.out
  have HF2 := Lib.hid (HF.out.then hf2)
  clear hbad hf2
  go_wp2_with fail
  go_ret2
  exact ⟨rfl, HF2.out⟩
set_option maxHeartbeats 8000000 in
set_option maxRecDepth 1000000 in
theorem reckon_sqrt_x (k : Int) (v : Value) (w : World) (h0 : (k == 0) = false) (h1 : (k == 1) = false) :
    Calls Try.prog 49 #[.int .i64 k, .func (.func 59) #[] #[], v] w fun e w' => e = .returned (.tuple #[.slice none 0 0, .int .i64 2]) ∧ w = w' := by
  have H0 := Lib.hid h0
  have H1 := Lib.hid h1
  clear h0 h1
  go_enter Try.func49, Try.ntmps49
  go_wp2_with fail
  refine (Of2 k _ H0.out H1.out).mono ?_
  rintro e w1 ⟨rfl, rfl⟩
  go_wp2_with fail
  go_ret2
  exact ⟨rfl, rfl⟩

set_option maxHeartbeats 8000000 in
set_option maxRecDepth 1000000 in
theorem reckon_sqrt_none (k : Int) (m : Md) (hk : KindOf k m) (al : Option Addr) (n cl : Nat) (vs : List Value) (ls : List (List UInt8)) (w : World) (hv : Rd w al n vs) (hp : BParts w vs ls) (hn : n ≤ 100000) (hg : numsB m ls = true)
    (hop : ∀ gp ae ce wx, Fr Nob w wx → Has wx gp (mdL m) 68 → Rd wx ae (ls.length * 4) (elCells m ls) → Calls Try.prog 59 #[.pointer (some ⟨gp, 0, none⟩), .slice ae ls.length ce] wx fun e w' => e = .returned (.tuple #[i4 0, .bool false]) ∧ Fr Nob wx w') :
    Calls Try.prog 49 #[.int .i64 k, .func (.func 59) #[] #[], .slice al n cl] w fun e w' => e = .returned (.tuple #[.slice none 0 0, .int .i64 6]) ∧ Fr Nob w w' := by
  have HK := Lib.hid hk
  have HV := Lib.hid hv
  have HP := Lib.hid hp
  have HG := Lib.hid hg
  have HOP := Lib.hid hop
  clear hk hv hp hg hop
  go_enter Try.func49, Try.ntmps49
  go_wp2_with fail
  refine (OfK HK.out _).mono ?_
  rintro e w1 ⟨gp, rfl, hgg, hm, hf⟩
  clear hgg
  have HM := Lib.hid hm
  have HF := Lib.hid hf
  clear hm hf
  go_wp2_with fail
  refine (read_any m gp al n cl vs ls _ HK.out.ok HM.out (HV.out.still HF.out) (HP.out.still HF.out) hn).mono ?_
  rintro e w2 ⟨hgood, -, hf2⟩
  obtain ⟨v, rfl, hown⟩ := hgood HG.out
  obtain ⟨ae, ce, rfl, -, hre, -⟩ := hown.form
  have HRE := Lib.hid hre
  have HM2 := Lib.hid (HM.out.keep hf2 id)
  have HF2 := Lib.hid (HF.out.then hf2)
  clear hgood hown hre hf2
  go_wp2_with fail
  refine (HOP.out gp ae ce _ HF2.out HM2.out HRE.out).mono ?_
  rintro e w3 ⟨rfl, hf3⟩
  have HF3 := Lib.hid (HF2.out.then hf3)
  have st0 := St.start Nob w3
  clear hf3
  go_wp2_with (with_reducible refine wl_stop (o := ⟨some 11, _, _, _, _, _⟩) ?_)
  refine wl_allocS st0 rfl rfl (z := .agg #[.int .u64 0, .int .u64 0, .int .u64 0, .int .u64 0]) (by kernel_rfl) (cw 4 0) (by rw [cw_zero]; rfl) ?_
  intro g11 w4 st1
  clear st0
  go_wp2_with (with_reducible refine wl_stop (o := ⟨none, _, _, _, _, _⟩) ?_)
  refine wl_storeS st1 0 rfl rfl rfl rfl (cs := cw 4 0) rfl (by rw [cw_len]) (by rw [cw_len]; kernel_rfl) (cw_one _ _) ?_
  intro w5 st2
  have HF5 := Lib.hid (HF3.out.then st2.fr)
  clear st1 st2
  go_wp2_with fail
  go_ret2
  exact ⟨rfl, HF5.out⟩
end Go.Proofs.Ytmegaegedlbckaa

/- num: Add, Sub, Mul, Inv. -/
namespace Go.Mv
open Go.RowKit
theorem rd_at {w : World} {b o n : Nat} {vs : List Value} (h : Rd w (some ⟨b, o, none⟩) n vs) (k : Nat) (cs : List Value) (hcs : (vs.drop k).take cs.length = cs) : At w b (o + k) cs := by
  intro i v hv
  rcases h.2 with h0 | ⟨b', o', he, hc⟩
  · have hl := h.len
    rw [h0] at hl
    rw [List.length_eq_zero_iff.1 hl] at hcs
    simp at hcs
    subst hcs
    simp at hv
  · simp only [Option.some.injEq, Addr.mk.injEq] at he
    obtain ⟨rfl, rfl, -⟩ := he
    have := hc.sub k cs.length
    rw [hcs] at this
    exact this i v hv
theorem rd_range {w : World} {b o n : Nat} {vs : List Value} (h : Rd w (some ⟨b, o, none⟩) n vs) (k : Nat) (cs : List Value) (hcs : (vs.drop k).take cs.length = cs) : w.rangeAt b (o + k) cs :=
  fun i v hv => rd_at h k cs hcs i v hv
end Go.Mv
namespace Go.Proofs.Ytmegaegedlbckaa
open Go.RowKit Go.Mv Mvp
theorem el_first (m : Md) (l : List UInt8) (ls : List (List UInt8)) : ((elCells m (l :: ls)).drop 0).take (cw 4 (elN m (beN l))).length = cw 4 (elN m (beN l)) := by
  rw [cw_len]; exact elCells_at m (l :: ls) 0 (by simp)
theorem el_second (m : Md) (l k : List UInt8) (ls : List (List UInt8)) : ((elCells m (l :: k :: ls)).drop 4).take (cw 4 (elN m (beN k))).length = cw 4 (elN m (beN k)) := by
  rw [cw_len]; exact elCells_at m (l :: k :: ls) 1 (by simp)
attribute [local irreducible] limbs lw mix cw cSub cAdd cMul foldC valFrom beN laid be32 powm montT mstep elN mdL elCells numsB numB

set_option maxHeartbeats 8000000 in
set_option maxRecDepth 1000000 in
theorem two_any (f : Value) (w : World) :
    Calls Try.prog 50 #[f] w fun e w' => ∃ g, e = .returned (.func (.func 73) #[] #[.pointer (some ⟨g, 0, none⟩)]) ∧ Has w' g f.cells.toList 90 ∧ Fr Nob w w' := by
  have st0 := St.start Nob w
  go_enter Try.func50, Try.ntmps50
  go_wp2_with (with_reducible refine wl_stop (o := ⟨some 1, _, _, _, _, _⟩) ?_)
  refine wl_boxS st0 rfl rfl rfl f.cells.toList rfl ?_
  intro g w1 st1
  have hg := st1.at 0 rfl
  have hf := st1.fr
  clear st0 st1
  go_wp2_with fail
  go_ret
  exact ⟨g, rfl, hg, hf⟩

set_option maxHeartbeats 8000000 in
set_option maxRecDepth 1000000 in
theorem twoAdd_any (m : Md) (gp : Nat) (w : World) (hok : m.Ok) (hpm : Has w gp (mdL m) 68) (gc : Nat) (hc : Has w gc [.func (.func 47) #[] #[]] 90) (ae : Option Addr) (ce : Nat) (la lb : List UInt8) (hre : Rd w ae (2 * 4) (elCells m [la, lb])) :
    Calls Try.prog 73 #[.pointer (some ⟨gp, 0, none⟩), .slice ae 2 ce, .pointer (some ⟨gc, 0, none⟩)] w fun e w' => e = .returned (.tuple #[i4 (elN m (beN la + beN lb)), .bool true]) ∧ Fr Nob w w' := by
  obtain ⟨b, o, rfl, -⟩ := hre.at (by omega)
  have HOK := Lib.hid hok
  have HPM := Lib.hid hpm
  have HCP := Lib.hid hc
  have HRE := Lib.hid hre
  clear hok hpm hc hre
  have st0 := St.start Nob w
  go_enter Try.func73, Try.ntmps73
  go_wp2_with (with_reducible refine wl_stop (o := ⟨some 5, _, _, _, _, _⟩) ?_)
  refine wl_allocS st0 rfl rfl (z := .agg #[.int .u64 0, .int .u64 0, .int .u64 0, .int .u64 0]) (by kernel_rfl) (cw 4 0) (by rw [cw_zero]; rfl) ?_
  intro g5 w1 st1
  clear st0
  go_wp2_with fail
  refine wp_region_noPanic ?_
  refine wp_region_plan (fun wx => St Nob w wx [(g5, cw 4 0, 81)]) 9 (.t 0 (.w 1 (.w 2 (.w 3 (.t 4 (.w 5 (.w 6 (.t 7 (.r 8 (.m 9 (.w 10 .nil))))))))))) (by kernel_rfl) (by kernel_rfl) st1.drew (fun _ _ _ _ _ h => h) ?_
  have hd1 := st1.drew
  clear st1
  refine plan_t (v := ?_) rfl rfl (fun wx hS => ?_) ?_
  rotate_left 1
  · (have hc := (HCP.out.keep (St.fr hS) id).cell (i := 0) rfl; clear hS; go_simp; with_reducible rfl)
  try simp only [Act.put, List.setIfInBounds_toArray, List.set_cons_zero, List.set_cons_succ]
  refine plan_w (v := ?_) rfl rfl (fun wx => ?_) ?_
  rotate_left 1
  · (go_simp; with_reducible rfl)
  try simp only [Act.put, List.setIfInBounds_toArray, List.set_cons_zero, List.set_cons_succ]
  refine plan_w (v := ?_) rfl rfl (fun wx => ?_) ?_
  rotate_left 1
  · (go_simp; with_reducible rfl)
  try simp only [Act.put, List.setIfInBounds_toArray, List.set_cons_zero, List.set_cons_succ]
  refine plan_w (v := ?_) rfl rfl (fun wx => ?_) ?_
  rotate_left 1
  · (go_simp; with_reducible rfl)
  try simp only [Act.put, List.setIfInBounds_toArray, List.set_cons_zero, List.set_cons_succ]
  refine plan_arr rfl rfl rfl rfl (cw 4 (elN m (beN la))) (fun wx hS => (rd_range (HRE.out.still (St.fr hS)) 0 _ (el_first m la [lb]))) Try.underlying81 rfl (by first | (rw [cw_len]; kernel_rfl) | (simp only [List.length_append, cw_len]; kernel_rfl)) ?_
  try simp only [Act.put, List.setIfInBounds_toArray, List.set_cons_zero, List.set_cons_succ]
  refine plan_w (v := ?_) rfl rfl (fun wx => ?_) ?_
  rotate_left 1
  · (go_simp; with_reducible rfl)
  try simp only [Act.put, List.setIfInBounds_toArray, List.set_cons_zero, List.set_cons_succ]
  refine plan_w (v := ?_) rfl rfl (fun wx => ?_) ?_
  rotate_left 1
  · (go_simp; with_reducible rfl)
  try simp only [Act.put, List.setIfInBounds_toArray, List.set_cons_zero, List.set_cons_succ]
  refine plan_arr rfl rfl rfl rfl (cw 4 (elN m (beN lb))) (fun wx hS => (rd_range (HRE.out.still (St.fr hS)) 4 _ (el_second m la lb []))) Try.underlying81 rfl (by first | (rw [cw_len]; kernel_rfl) | (simp only [List.length_append, cw_len]; kernel_rfl)) ?_
  try simp only [Act.put, List.setIfInBounds_toArray, List.set_cons_zero, List.set_cons_succ]
  refine plan_r rfl rfl ?_
  go_simp
  refine (MAdd_any m gp _ HOK.out (HPM.out.keep hd1.fr id) (beN la) (beN lb)).mono ?_
  rintro e' w2 ⟨rfl, hf2⟩
  have st2 := hd1.keep hf2
  clear hf2
  clear hd1
  refine ⟨st2, ?_⟩
  try simp only [Act.put, List.setIfInBounds_toArray, List.set_cons_zero, List.set_cons_succ]
  refine plan_m rfl rfl ?_
  refine wp_storeS st2 0 rfl rfl rfl rfl (by first | (simp only [cw_len]; done) | (simp only [List.length_append, cw_len]; done)) (by first | (rw [cw_len]; kernel_rfl) | (simp only [List.length_append, cw_len]; kernel_rfl)) (cw_one _ _) ?_
  intro w3 st3
  clear st2
  try simp only [Act.put]
  refine plan_w (v := ?_) rfl rfl (fun wx => ?_) ?_
  rotate_left 1
  · (go_simp; with_reducible rfl)
  try simp only [Act.put, List.setIfInBounds_toArray, List.set_cons_zero, List.set_cons_succ]
  refine plan_end ?_
  refine NoPanic.normal ?_
  have hr := st3.at 0 rfl
  have hfr := st3.fr
  clear st3
  go_wp2_with fail
  exact bodyPost_ret (results_arr2 rfl rfl hr Try.underlying81 (by first | (rw [cw_len]; kernel_rfl) | (simp only [List.length_append, cw_len]; kernel_rfl)) rfl) rfl ⟨rfl, hfr⟩

set_option maxHeartbeats 8000000 in
set_option maxRecDepth 1000000 in
theorem twoSub_any (m : Md) (gp : Nat) (w : World) (hok : m.Ok) (hpm : Has w gp (mdL m) 68) (gc : Nat) (hc : Has w gc [.func (.func 51) #[] #[]] 90) (ae : Option Addr) (ce : Nat) (la lb : List UInt8) (hre : Rd w ae (2 * 4) (elCells m [la, lb])) :
    Calls Try.prog 73 #[.pointer (some ⟨gp, 0, none⟩), .slice ae 2 ce, .pointer (some ⟨gc, 0, none⟩)] w fun e w' => e = .returned (.tuple #[i4 (elN m (beN la + (m.M - beN lb % m.M))), .bool true]) ∧ Fr Nob w w' := by
  obtain ⟨b, o, rfl, -⟩ := hre.at (by omega)
  have HOK := Lib.hid hok
  have HPM := Lib.hid hpm
  have HCP := Lib.hid hc
  have HRE := Lib.hid hre
  clear hok hpm hc hre
  have st0 := St.start Nob w
  go_enter Try.func73, Try.ntmps73
  go_wp2_with (with_reducible refine wl_stop (o := ⟨some 5, _, _, _, _, _⟩) ?_)
  refine wl_allocS st0 rfl rfl (z := .agg #[.int .u64 0, .int .u64 0, .int .u64 0, .int .u64 0]) (by kernel_rfl) (cw 4 0) (by rw [cw_zero]; rfl) ?_
  intro g5 w1 st1
  clear st0
  go_wp2_with fail
  refine wp_region_noPanic ?_
  refine wp_region_plan (fun wx => St Nob w wx [(g5, cw 4 0, 81)]) 9 (.t 0 (.w 1 (.w 2 (.w 3 (.t 4 (.w 5 (.w 6 (.t 7 (.r 8 (.m 9 (.w 10 .nil))))))))))) (by kernel_rfl) (by kernel_rfl) st1.drew (fun _ _ _ _ _ h => h) ?_
  have hd1 := st1.drew
  clear st1
  refine plan_t (v := ?_) rfl rfl (fun wx hS => ?_) ?_
  rotate_left 1
  · (have hc := (HCP.out.keep (St.fr hS) id).cell (i := 0) rfl; clear hS; go_simp; with_reducible rfl)
  try simp only [Act.put, List.setIfInBounds_toArray, List.set_cons_zero, List.set_cons_succ]
  refine plan_w (v := ?_) rfl rfl (fun wx => ?_) ?_
  rotate_left 1
  · (go_simp; with_reducible rfl)
  try simp only [Act.put, List.setIfInBounds_toArray, List.set_cons_zero, List.set_cons_succ]
  refine plan_w (v := ?_) rfl rfl (fun wx => ?_) ?_
  rotate_left 1
  · (go_simp; with_reducible rfl)
  try simp only [Act.put, List.setIfInBounds_toArray, List.set_cons_zero, List.set_cons_succ]
  refine plan_w (v := ?_) rfl rfl (fun wx => ?_) ?_
  rotate_left 1
  · (go_simp; with_reducible rfl)
  try simp only [Act.put, List.setIfInBounds_toArray, List.set_cons_zero, List.set_cons_succ]
  refine plan_arr rfl rfl rfl rfl (cw 4 (elN m (beN la))) (fun wx hS => (rd_range (HRE.out.still (St.fr hS)) 0 _ (el_first m la [lb]))) Try.underlying81 rfl (by first | (rw [cw_len]; kernel_rfl) | (simp only [List.length_append, cw_len]; kernel_rfl)) ?_
  try simp only [Act.put, List.setIfInBounds_toArray, List.set_cons_zero, List.set_cons_succ]
  refine plan_w (v := ?_) rfl rfl (fun wx => ?_) ?_
  rotate_left 1
  · (go_simp; with_reducible rfl)
  try simp only [Act.put, List.setIfInBounds_toArray, List.set_cons_zero, List.set_cons_succ]
  refine plan_w (v := ?_) rfl rfl (fun wx => ?_) ?_
  rotate_left 1
  · (go_simp; with_reducible rfl)
  try simp only [Act.put, List.setIfInBounds_toArray, List.set_cons_zero, List.set_cons_succ]
  refine plan_arr rfl rfl rfl rfl (cw 4 (elN m (beN lb))) (fun wx hS => (rd_range (HRE.out.still (St.fr hS)) 4 _ (el_second m la lb []))) Try.underlying81 rfl (by first | (rw [cw_len]; kernel_rfl) | (simp only [List.length_append, cw_len]; kernel_rfl)) ?_
  try simp only [Act.put, List.setIfInBounds_toArray, List.set_cons_zero, List.set_cons_succ]
  refine plan_r rfl rfl ?_
  go_simp
  refine (MSub_any m gp _ HOK.out (HPM.out.keep hd1.fr id) (beN la) (beN lb)).mono ?_
  rintro e' w2 ⟨rfl, hf2⟩
  have st2 := hd1.keep hf2
  clear hf2
  clear hd1
  refine ⟨st2, ?_⟩
  try simp only [Act.put, List.setIfInBounds_toArray, List.set_cons_zero, List.set_cons_succ]
  refine plan_m rfl rfl ?_
  refine wp_storeS st2 0 rfl rfl rfl rfl (by first | (simp only [cw_len]; done) | (simp only [List.length_append, cw_len]; done)) (by first | (rw [cw_len]; kernel_rfl) | (simp only [List.length_append, cw_len]; kernel_rfl)) (cw_one _ _) ?_
  intro w3 st3
  clear st2
  try simp only [Act.put]
  refine plan_w (v := ?_) rfl rfl (fun wx => ?_) ?_
  rotate_left 1
  · (go_simp; with_reducible rfl)
  try simp only [Act.put, List.setIfInBounds_toArray, List.set_cons_zero, List.set_cons_succ]
  refine plan_end ?_
  refine NoPanic.normal ?_
  have hr := st3.at 0 rfl
  have hfr := st3.fr
  clear st3
  go_wp2_with fail
  exact bodyPost_ret (results_arr2 rfl rfl hr Try.underlying81 (by first | (rw [cw_len]; kernel_rfl) | (simp only [List.length_append, cw_len]; kernel_rfl)) rfl) rfl ⟨rfl, hfr⟩

set_option maxHeartbeats 8000000 in
set_option maxRecDepth 1000000 in
theorem twoMul_any (m : Md) (gp : Nat) (w : World) (hok : m.Ok) (hpm : Has w gp (mdL m) 68) (gc : Nat) (hc : Has w gc [.func (.func 45) #[] #[]] 90) (ae : Option Addr) (ce : Nat) (la lb : List UInt8) (hre : Rd w ae (2 * 4) (elCells m [la, lb])) :
    Calls Try.prog 73 #[.pointer (some ⟨gp, 0, none⟩), .slice ae 2 ce, .pointer (some ⟨gc, 0, none⟩)] w fun e w' => e = .returned (.tuple #[i4 (elN m (beN la * beN lb)), .bool true]) ∧ Fr Nob w w' := by
  obtain ⟨b, o, rfl, -⟩ := hre.at (by omega)
  have HOK := Lib.hid hok
  have HPM := Lib.hid hpm
  have HCP := Lib.hid hc
  have HRE := Lib.hid hre
  clear hok hpm hc hre
  have st0 := St.start Nob w
  go_enter Try.func73, Try.ntmps73
  go_wp2_with (with_reducible refine wl_stop (o := ⟨some 5, _, _, _, _, _⟩) ?_)
  refine wl_allocS st0 rfl rfl (z := .agg #[.int .u64 0, .int .u64 0, .int .u64 0, .int .u64 0]) (by kernel_rfl) (cw 4 0) (by rw [cw_zero]; rfl) ?_
  intro g5 w1 st1
  clear st0
  go_wp2_with fail
  refine wp_region_noPanic ?_
  refine wp_region_plan (fun wx => St Nob w wx [(g5, cw 4 0, 81)]) 9 (.t 0 (.w 1 (.w 2 (.w 3 (.t 4 (.w 5 (.w 6 (.t 7 (.r 8 (.m 9 (.w 10 .nil))))))))))) (by kernel_rfl) (by kernel_rfl) st1.drew (fun _ _ _ _ _ h => h) ?_
  have hd1 := st1.drew
  clear st1
  refine plan_t (v := ?_) rfl rfl (fun wx hS => ?_) ?_
  rotate_left 1
  · (have hc := (HCP.out.keep (St.fr hS) id).cell (i := 0) rfl; clear hS; go_simp; with_reducible rfl)
  try simp only [Act.put, List.setIfInBounds_toArray, List.set_cons_zero, List.set_cons_succ]
  refine plan_w (v := ?_) rfl rfl (fun wx => ?_) ?_
  rotate_left 1
  · (go_simp; with_reducible rfl)
  try simp only [Act.put, List.setIfInBounds_toArray, List.set_cons_zero, List.set_cons_succ]
  refine plan_w (v := ?_) rfl rfl (fun wx => ?_) ?_
  rotate_left 1
  · (go_simp; with_reducible rfl)
  try simp only [Act.put, List.setIfInBounds_toArray, List.set_cons_zero, List.set_cons_succ]
  refine plan_w (v := ?_) rfl rfl (fun wx => ?_) ?_
  rotate_left 1
  · (go_simp; with_reducible rfl)
  try simp only [Act.put, List.setIfInBounds_toArray, List.set_cons_zero, List.set_cons_succ]
  refine plan_arr rfl rfl rfl rfl (cw 4 (elN m (beN la))) (fun wx hS => (rd_range (HRE.out.still (St.fr hS)) 0 _ (el_first m la [lb]))) Try.underlying81 rfl (by first | (rw [cw_len]; kernel_rfl) | (simp only [List.length_append, cw_len]; kernel_rfl)) ?_
  try simp only [Act.put, List.setIfInBounds_toArray, List.set_cons_zero, List.set_cons_succ]
  refine plan_w (v := ?_) rfl rfl (fun wx => ?_) ?_
  rotate_left 1
  · (go_simp; with_reducible rfl)
  try simp only [Act.put, List.setIfInBounds_toArray, List.set_cons_zero, List.set_cons_succ]
  refine plan_w (v := ?_) rfl rfl (fun wx => ?_) ?_
  rotate_left 1
  · (go_simp; with_reducible rfl)
  try simp only [Act.put, List.setIfInBounds_toArray, List.set_cons_zero, List.set_cons_succ]
  refine plan_arr rfl rfl rfl rfl (cw 4 (elN m (beN lb))) (fun wx hS => (rd_range (HRE.out.still (St.fr hS)) 4 _ (el_second m la lb []))) Try.underlying81 rfl (by first | (rw [cw_len]; kernel_rfl) | (simp only [List.length_append, cw_len]; kernel_rfl)) ?_
  try simp only [Act.put, List.setIfInBounds_toArray, List.set_cons_zero, List.set_cons_succ]
  refine plan_r rfl rfl ?_
  go_simp
  refine (MMulE m gp _ HOK.out (HPM.out.keep hd1.fr id) (beN la) (beN lb)).mono ?_
  rintro e' w2 ⟨rfl, hf2⟩
  have st2 := hd1.keep hf2
  clear hf2
  clear hd1
  refine ⟨st2, ?_⟩
  try simp only [Act.put, List.setIfInBounds_toArray, List.set_cons_zero, List.set_cons_succ]
  refine plan_m rfl rfl ?_
  refine wp_storeS st2 0 rfl rfl rfl rfl (by first | (simp only [cw_len]; done) | (simp only [List.length_append, cw_len]; done)) (by first | (rw [cw_len]; kernel_rfl) | (simp only [List.length_append, cw_len]; kernel_rfl)) (cw_one _ _) ?_
  intro w3 st3
  clear st2
  try simp only [Act.put]
  refine plan_w (v := ?_) rfl rfl (fun wx => ?_) ?_
  rotate_left 1
  · (go_simp; with_reducible rfl)
  try simp only [Act.put, List.setIfInBounds_toArray, List.set_cons_zero, List.set_cons_succ]
  refine plan_end ?_
  refine NoPanic.normal ?_
  have hr := st3.at 0 rfl
  have hfr := st3.fr
  clear st3
  go_wp2_with fail
  exact bodyPost_ret (results_arr2 rfl rfl hr Try.underlying81 (by first | (rw [cw_len]; kernel_rfl) | (simp only [List.length_append, cw_len]; kernel_rfl)) rfl) rfl ⟨rfl, hfr⟩

set_option maxHeartbeats 8000000 in
set_option maxRecDepth 1000000 in
theorem inv1_any (m : Md) (gp : Nat) (w : World) (hok : m.Ok) (hpm : Has w gp (mdL m) 68) (ae : Option Addr) (ce : Nat) (la : List UInt8) (hre : Rd w ae (1 * 4) (elCells m [la])) :
    Calls Try.prog 52 #[.pointer (some ⟨gp, 0, none⟩), .slice ae 1 ce] w fun e w' => e = .returned (.tuple #[i4 (elN m (beN la ^ (m.M - 2))), .bool true]) ∧ Fr Nob w w' := by
  obtain ⟨b, o, rfl, -⟩ := hre.at (by omega)
  have HOK := Lib.hid hok
  have HPM := Lib.hid hpm
  have HRE := Lib.hid hre
  clear hok hpm hre
  have st0 := St.start Nob w
  go_enter Try.func52, Try.ntmps52
  go_wp2_with (with_reducible refine wl_stop (o := ⟨some 4, _, _, _, _, _⟩) ?_)
  refine wl_allocS st0 rfl rfl (z := .agg #[.int .u64 0, .int .u64 0, .int .u64 0, .int .u64 0]) (by kernel_rfl) (cw 4 0) (by rw [cw_zero]; rfl) ?_
  intro g4 w1 st1
  clear st0
  go_wp2_with (with_reducible refine wl_stop (o := ⟨some 9, _, _, _, _, _⟩) ?_)
  refine wl_loadR rfl rfl Try.underlying81 rfl rfl (rd_at (HRE.out.still st1.fr) 0 (cw 4 (elN m (beN la))) (el_first m la [])) (by first | (rw [cw_len]; kernel_rfl) | (simp only [List.length_append, cw_len]; kernel_rfl)) ?_
  go_wp2_with fail
  refine (MInv_any m gp _ HOK.out (HPM.out.keep st1.fr id) (beN la)).mono ?_
  rintro e' w2 ⟨rfl, hf2⟩
  have st2 := st1.keep hf2
  clear st1 hf2
  go_wp2_with (with_reducible refine wl_stop (o := ⟨none, _, _, _, _, _⟩) ?_)
  refine wl_storeS st2 0 rfl rfl rfl rfl rfl (by first | (simp only [cw_len]; done) | (simp only [List.length_append, cw_len]; done)) (by first | (rw [cw_len]; kernel_rfl) | (simp only [List.length_append, cw_len]; kernel_rfl)) (cw_one _ _) ?_
  intro w3 st3
  clear st2
  have hr := st3.at 0 rfl
  have hfr := st3.fr
  clear st3
  go_wp2_with fail
  exact bodyPost_ret (results_arr2 rfl rfl hr Try.underlying81 (by first | (rw [cw_len]; kernel_rfl) | (simp only [List.length_append, cw_len]; kernel_rfl)) rfl) rfl ⟨rfl, hfr⟩
end Go.Proofs.Ytmegaegedlbckaa

/- num.Add, Sub, Mul, Inv: what they answer. -/
namespace Go.Proofs.Ytmegaegedlbckaa
open Go.RowKit Go.Mv Mvp
attribute [local irreducible] limbs lw mix cw cSub cAdd cMul foldC valFrom beN laid be32 powm montT mstep elN mdL elCells numsB numB
theorem info_bsl : (Try.prog.info? 29).map (fun i => (i.zero, i.size, i.bytes)) = some (some (.slice none 0 0), 1, 24) := by kernel_rfl

set_option maxHeartbeats 8000000 in
set_option maxRecDepth 1000000 in
theorem NAdd_ok (k : Int) (m : Md) (hk : KindOf k m) (va vb : Value) (la lb : List UInt8) (w : World) (hpa : BPart w va la) (hpb : BPart w vb lb) (hg : numsB m [la, lb] = true) :
    Calls Try.prog 25 #[.int .i64 k, va, vb] w fun e w' => ∃ v, e = .returned (.tuple #[v, .int .i64 0]) ∧ Own w' w.heap.size 5 1 v 32 (bs (be32 ((beN la + beN lb) % m.M))) ∧ Fr Nob w w' := by
  have HA1 := Lib.hid (BPart.one hpa)
  have HB1 := Lib.hid (BPart.one hpb)
  have HK := Lib.hid hk
  have HP := Lib.hid (BParts.two hpa hpb)
  have HG := Lib.hid hg
  clear hk hpa hpb hg
  go_enter Try.func25, Try.ntmps25
  go_wp2_with fail
  refine (two_any (.func (.func 47) #[] #[]) _).mono ?_
  rintro e w1 ⟨gc, rfl, hgc, hf1⟩
  have HGC := Lib.hid hgc
  have HF1 := Lib.hid hf1
  clear hgc hf1
  go_wp2_with (with_reducible refine wl_stop (o := ⟨some 12, _, _, _, _, _⟩) ?_)
  unfold Stop
  refine wl_slit (vs := [va, vb]) (hgd := rfl) (ho := rfl) (hu := Try.underlying47) (hi0 := info_bsl) (hp := by rfl) (hv := (fun v hv => by simp at hv; rcases hv with rfl | rfl; exact HA1.out; exact HB1.out)) (hk := by rfl) (hz := by rfl) (h := ?_)
  intro w2 hg2 hf2 hz2
  clear hz2
  generalize w1.heap.size = gl at *
  have HGC2 := Lib.hid (HGC.out.keep hf2 id)
  have HF2 := Lib.hid (HF1.out.then hf2)
  have HRD := Lib.hid (show Rd w2 (some ⟨gl, 0, none⟩) 2 [va, vb] from Rd.whole hg2)
  clear hg2 hf2 HGC
  go_wp2_with fail
  refine (reckon_two_ok k m HK.out gc _ 2 2 [va, vb] [la, lb] _ HRD.out (HP.out.still HF2.out) (by decide) HG.out (beN la + beN lb) (fun gp ae ce wx hfx hmx hrx => twoAdd_any m gp wx HK.out.ok hmx gc (HGC2.out.keep hfx id) ae ce la lb hrx)).mono ?_
  rintro e w3 ⟨v, rfl, hown, hf3⟩
  have h3 := HF2.out.then hf3
  have ho := hown.mono HF2.out.size
  clear hown hf3 HF2 HF1
  go_wp2_with fail
  go_ret2
  exact ⟨v, rfl, ho, h3⟩
set_option maxHeartbeats 8000000 in
set_option maxRecDepth 1000000 in
theorem NAdd_bad (k : Int) (m : Md) (hk : KindOf k m) (va vb : Value) (la lb : List UInt8) (w : World) (hpa : BPart w va la) (hpb : BPart w vb lb) (hg : numsB m [la, lb] = false) :
    Calls Try.prog 25 #[.int .i64 k, va, vb] w fun e w' => e = .returned (.tuple #[.slice none 0 0, .int .i64 3]) ∧ Fr Nob w w' := by
  have HA1 := Lib.hid (BPart.one hpa)
  have HB1 := Lib.hid (BPart.one hpb)
  have HK := Lib.hid hk
  have HP := Lib.hid (BParts.two hpa hpb)
  have HG := Lib.hid hg
  clear hk hpa hpb hg
  go_enter Try.func25, Try.ntmps25
  go_wp2_with fail
  refine (two_any (.func (.func 47) #[] #[]) _).mono ?_
  rintro e w1 ⟨gc, rfl, hgc, hf1⟩
  have HGC := Lib.hid hgc
  have HF1 := Lib.hid hf1
  clear hgc hf1
  go_wp2_with (with_reducible refine wl_stop (o := ⟨some 12, _, _, _, _, _⟩) ?_)
  unfold Stop
  refine wl_slit (vs := [va, vb]) (hgd := rfl) (ho := rfl) (hu := Try.underlying47) (hi0 := info_bsl) (hp := by rfl) (hv := (fun v hv => by simp at hv; rcases hv with rfl | rfl; exact HA1.out; exact HB1.out)) (hk := by rfl) (hz := by rfl) (h := ?_)
  intro w2 hg2 hf2 hz2
  clear hz2
  generalize w1.heap.size = gl at *
  have HGC2 := Lib.hid (HGC.out.keep hf2 id)
  have HF2 := Lib.hid (HF1.out.then hf2)
  have HRD := Lib.hid (show Rd w2 (some ⟨gl, 0, none⟩) 2 [va, vb] from Rd.whole hg2)
  clear hg2 hf2 HGC
  go_wp2_with fail
  refine (reckon_two_bad k m HK.out gc _ 2 2 [va, vb] [la, lb] _ HRD.out (HP.out.still HF2.out) (by decide) HG.out).mono ?_
  rintro e w3 ⟨rfl, hf3⟩
  have h3 := HF2.out.then hf3
  clear hf3 HF2 HF1
  go_wp2_with fail
  go_ret2
  exact ⟨rfl, h3⟩
set_option maxHeartbeats 8000000 in
set_option maxRecDepth 1000000 in
theorem NAdd_x (k : Int) (va vb : Value) (la lb : List UInt8) (w : World) (hpa : BPart w va la) (hpb : BPart w vb lb) (h0 : (k == 0) = false) (h1 : (k == 1) = false) :
    Calls Try.prog 25 #[.int .i64 k, va, vb] w fun e w' => e = .returned (.tuple #[.slice none 0 0, .int .i64 2]) ∧ Fr Nob w w' := by
  have HA1 := Lib.hid (BPart.one hpa)
  have HB1 := Lib.hid (BPart.one hpb)
  have H0 := Lib.hid h0
  have H1 := Lib.hid h1
  clear hpa hpb h0 h1
  go_enter Try.func25, Try.ntmps25
  go_wp2_with fail
  refine (two_any (.func (.func 47) #[] #[]) _).mono ?_
  rintro e w1 ⟨gc, rfl, hgc, hf1⟩
  have HGC := Lib.hid hgc
  have HF1 := Lib.hid hf1
  clear hgc hf1
  go_wp2_with (with_reducible refine wl_stop (o := ⟨some 12, _, _, _, _, _⟩) ?_)
  unfold Stop
  refine wl_slit (vs := [va, vb]) (hgd := rfl) (ho := rfl) (hu := Try.underlying47) (hi0 := info_bsl) (hp := by rfl) (hv := (fun v hv => by simp at hv; rcases hv with rfl | rfl; exact HA1.out; exact HB1.out)) (hk := by rfl) (hz := by rfl) (h := ?_)
  intro w2 hg2 hf2 hz2
  clear hz2
  generalize w1.heap.size = gl at *
  have HGC2 := Lib.hid (HGC.out.keep hf2 id)
  have HF2 := Lib.hid (HF1.out.then hf2)
  have HRD := Lib.hid (show Rd w2 (some ⟨gl, 0, none⟩) 2 [va, vb] from Rd.whole hg2)
  clear hg2 hf2 HGC
  go_wp2_with fail
  refine (reckon_two_x k gc _ _ H0.out H1.out).mono ?_
  rintro e w3 ⟨rfl, rfl⟩
  have h3 := HF2.out
  clear HF2 HF1
  go_wp2_with fail
  go_ret2
  exact ⟨rfl, h3⟩

set_option maxHeartbeats 8000000 in
set_option maxRecDepth 1000000 in
theorem NSub_ok (k : Int) (m : Md) (hk : KindOf k m) (va vb : Value) (la lb : List UInt8) (w : World) (hpa : BPart w va la) (hpb : BPart w vb lb) (hg : numsB m [la, lb] = true) :
    Calls Try.prog 26 #[.int .i64 k, va, vb] w fun e w' => ∃ v, e = .returned (.tuple #[v, .int .i64 0]) ∧ Own w' w.heap.size 5 1 v 32 (bs (be32 ((beN la + (m.M - beN lb % m.M)) % m.M))) ∧ Fr Nob w w' := by
  have HA1 := Lib.hid (BPart.one hpa)
  have HB1 := Lib.hid (BPart.one hpb)
  have HK := Lib.hid hk
  have HP := Lib.hid (BParts.two hpa hpb)
  have HG := Lib.hid hg
  clear hk hpa hpb hg
  go_enter Try.func26, Try.ntmps26
  go_wp2_with fail
  refine (two_any (.func (.func 51) #[] #[]) _).mono ?_
  rintro e w1 ⟨gc, rfl, hgc, hf1⟩
  have HGC := Lib.hid hgc
  have HF1 := Lib.hid hf1
  clear hgc hf1
  go_wp2_with (with_reducible refine wl_stop (o := ⟨some 12, _, _, _, _, _⟩) ?_)
  unfold Stop
  refine wl_slit (vs := [va, vb]) (hgd := rfl) (ho := rfl) (hu := Try.underlying47) (hi0 := info_bsl) (hp := by rfl) (hv := (fun v hv => by simp at hv; rcases hv with rfl | rfl; exact HA1.out; exact HB1.out)) (hk := by rfl) (hz := by rfl) (h := ?_)
  intro w2 hg2 hf2 hz2
  clear hz2
  generalize w1.heap.size = gl at *
  have HGC2 := Lib.hid (HGC.out.keep hf2 id)
  have HF2 := Lib.hid (HF1.out.then hf2)
  have HRD := Lib.hid (show Rd w2 (some ⟨gl, 0, none⟩) 2 [va, vb] from Rd.whole hg2)
  clear hg2 hf2 HGC
  go_wp2_with fail
  refine (reckon_two_ok k m HK.out gc _ 2 2 [va, vb] [la, lb] _ HRD.out (HP.out.still HF2.out) (by decide) HG.out (beN la + (m.M - beN lb % m.M)) (fun gp ae ce wx hfx hmx hrx => twoSub_any m gp wx HK.out.ok hmx gc (HGC2.out.keep hfx id) ae ce la lb hrx)).mono ?_
  rintro e w3 ⟨v, rfl, hown, hf3⟩
  have h3 := HF2.out.then hf3
  have ho := hown.mono HF2.out.size
  clear hown hf3 HF2 HF1
  go_wp2_with fail
  go_ret2
  exact ⟨v, rfl, ho, h3⟩
set_option maxHeartbeats 8000000 in
set_option maxRecDepth 1000000 in
theorem NSub_bad (k : Int) (m : Md) (hk : KindOf k m) (va vb : Value) (la lb : List UInt8) (w : World) (hpa : BPart w va la) (hpb : BPart w vb lb) (hg : numsB m [la, lb] = false) :
    Calls Try.prog 26 #[.int .i64 k, va, vb] w fun e w' => e = .returned (.tuple #[.slice none 0 0, .int .i64 3]) ∧ Fr Nob w w' := by
  have HA1 := Lib.hid (BPart.one hpa)
  have HB1 := Lib.hid (BPart.one hpb)
  have HK := Lib.hid hk
  have HP := Lib.hid (BParts.two hpa hpb)
  have HG := Lib.hid hg
  clear hk hpa hpb hg
  go_enter Try.func26, Try.ntmps26
  go_wp2_with fail
  refine (two_any (.func (.func 51) #[] #[]) _).mono ?_
  rintro e w1 ⟨gc, rfl, hgc, hf1⟩
  have HGC := Lib.hid hgc
  have HF1 := Lib.hid hf1
  clear hgc hf1
  go_wp2_with (with_reducible refine wl_stop (o := ⟨some 12, _, _, _, _, _⟩) ?_)
  unfold Stop
  refine wl_slit (vs := [va, vb]) (hgd := rfl) (ho := rfl) (hu := Try.underlying47) (hi0 := info_bsl) (hp := by rfl) (hv := (fun v hv => by simp at hv; rcases hv with rfl | rfl; exact HA1.out; exact HB1.out)) (hk := by rfl) (hz := by rfl) (h := ?_)
  intro w2 hg2 hf2 hz2
  clear hz2
  generalize w1.heap.size = gl at *
  have HGC2 := Lib.hid (HGC.out.keep hf2 id)
  have HF2 := Lib.hid (HF1.out.then hf2)
  have HRD := Lib.hid (show Rd w2 (some ⟨gl, 0, none⟩) 2 [va, vb] from Rd.whole hg2)
  clear hg2 hf2 HGC
  go_wp2_with fail
  refine (reckon_two_bad k m HK.out gc _ 2 2 [va, vb] [la, lb] _ HRD.out (HP.out.still HF2.out) (by decide) HG.out).mono ?_
  rintro e w3 ⟨rfl, hf3⟩
  have h3 := HF2.out.then hf3
  clear hf3 HF2 HF1
  go_wp2_with fail
  go_ret2
  exact ⟨rfl, h3⟩
set_option maxHeartbeats 8000000 in
set_option maxRecDepth 1000000 in
theorem NSub_x (k : Int) (va vb : Value) (la lb : List UInt8) (w : World) (hpa : BPart w va la) (hpb : BPart w vb lb) (h0 : (k == 0) = false) (h1 : (k == 1) = false) :
    Calls Try.prog 26 #[.int .i64 k, va, vb] w fun e w' => e = .returned (.tuple #[.slice none 0 0, .int .i64 2]) ∧ Fr Nob w w' := by
  have HA1 := Lib.hid (BPart.one hpa)
  have HB1 := Lib.hid (BPart.one hpb)
  have H0 := Lib.hid h0
  have H1 := Lib.hid h1
  clear hpa hpb h0 h1
  go_enter Try.func26, Try.ntmps26
  go_wp2_with fail
  refine (two_any (.func (.func 51) #[] #[]) _).mono ?_
  rintro e w1 ⟨gc, rfl, hgc, hf1⟩
  have HGC := Lib.hid hgc
  have HF1 := Lib.hid hf1
  clear hgc hf1
  go_wp2_with (with_reducible refine wl_stop (o := ⟨some 12, _, _, _, _, _⟩) ?_)
  unfold Stop
  refine wl_slit (vs := [va, vb]) (hgd := rfl) (ho := rfl) (hu := Try.underlying47) (hi0 := info_bsl) (hp := by rfl) (hv := (fun v hv => by simp at hv; rcases hv with rfl | rfl; exact HA1.out; exact HB1.out)) (hk := by rfl) (hz := by rfl) (h := ?_)
  intro w2 hg2 hf2 hz2
  clear hz2
  generalize w1.heap.size = gl at *
  have HGC2 := Lib.hid (HGC.out.keep hf2 id)
  have HF2 := Lib.hid (HF1.out.then hf2)
  have HRD := Lib.hid (show Rd w2 (some ⟨gl, 0, none⟩) 2 [va, vb] from Rd.whole hg2)
  clear hg2 hf2 HGC
  go_wp2_with fail
  refine (reckon_two_x k gc _ _ H0.out H1.out).mono ?_
  rintro e w3 ⟨rfl, rfl⟩
  have h3 := HF2.out
  clear HF2 HF1
  go_wp2_with fail
  go_ret2
  exact ⟨rfl, h3⟩

set_option maxHeartbeats 8000000 in
set_option maxRecDepth 1000000 in
theorem NMul_ok (k : Int) (m : Md) (hk : KindOf k m) (va vb : Value) (la lb : List UInt8) (w : World) (hpa : BPart w va la) (hpb : BPart w vb lb) (hg : numsB m [la, lb] = true) :
    Calls Try.prog 27 #[.int .i64 k, va, vb] w fun e w' => ∃ v, e = .returned (.tuple #[v, .int .i64 0]) ∧ Own w' w.heap.size 5 1 v 32 (bs (be32 ((beN la * beN lb) % m.M))) ∧ Fr Nob w w' := by
  have HA1 := Lib.hid (BPart.one hpa)
  have HB1 := Lib.hid (BPart.one hpb)
  have HK := Lib.hid hk
  have HP := Lib.hid (BParts.two hpa hpb)
  have HG := Lib.hid hg
  clear hk hpa hpb hg
  go_enter Try.func27, Try.ntmps27
  go_wp2_with fail
  refine (two_any (.func (.func 45) #[] #[]) _).mono ?_
  rintro e w1 ⟨gc, rfl, hgc, hf1⟩
  have HGC := Lib.hid hgc
  have HF1 := Lib.hid hf1
  clear hgc hf1
  go_wp2_with (with_reducible refine wl_stop (o := ⟨some 12, _, _, _, _, _⟩) ?_)
  unfold Stop
  refine wl_slit (vs := [va, vb]) (hgd := rfl) (ho := rfl) (hu := Try.underlying47) (hi0 := info_bsl) (hp := by rfl) (hv := (fun v hv => by simp at hv; rcases hv with rfl | rfl; exact HA1.out; exact HB1.out)) (hk := by rfl) (hz := by rfl) (h := ?_)
  intro w2 hg2 hf2 hz2
  clear hz2
  generalize w1.heap.size = gl at *
  have HGC2 := Lib.hid (HGC.out.keep hf2 id)
  have HF2 := Lib.hid (HF1.out.then hf2)
  have HRD := Lib.hid (show Rd w2 (some ⟨gl, 0, none⟩) 2 [va, vb] from Rd.whole hg2)
  clear hg2 hf2 HGC
  go_wp2_with fail
  refine (reckon_two_ok k m HK.out gc _ 2 2 [va, vb] [la, lb] _ HRD.out (HP.out.still HF2.out) (by decide) HG.out (beN la * beN lb) (fun gp ae ce wx hfx hmx hrx => twoMul_any m gp wx HK.out.ok hmx gc (HGC2.out.keep hfx id) ae ce la lb hrx)).mono ?_
  rintro e w3 ⟨v, rfl, hown, hf3⟩
  have h3 := HF2.out.then hf3
  have ho := hown.mono HF2.out.size
  clear hown hf3 HF2 HF1
  go_wp2_with fail
  go_ret2
  exact ⟨v, rfl, ho, h3⟩
set_option maxHeartbeats 8000000 in
set_option maxRecDepth 1000000 in
theorem NMul_bad (k : Int) (m : Md) (hk : KindOf k m) (va vb : Value) (la lb : List UInt8) (w : World) (hpa : BPart w va la) (hpb : BPart w vb lb) (hg : numsB m [la, lb] = false) :
    Calls Try.prog 27 #[.int .i64 k, va, vb] w fun e w' => e = .returned (.tuple #[.slice none 0 0, .int .i64 3]) ∧ Fr Nob w w' := by
  have HA1 := Lib.hid (BPart.one hpa)
  have HB1 := Lib.hid (BPart.one hpb)
  have HK := Lib.hid hk
  have HP := Lib.hid (BParts.two hpa hpb)
  have HG := Lib.hid hg
  clear hk hpa hpb hg
  go_enter Try.func27, Try.ntmps27
  go_wp2_with fail
  refine (two_any (.func (.func 45) #[] #[]) _).mono ?_
  rintro e w1 ⟨gc, rfl, hgc, hf1⟩
  have HGC := Lib.hid hgc
  have HF1 := Lib.hid hf1
  clear hgc hf1
  go_wp2_with (with_reducible refine wl_stop (o := ⟨some 12, _, _, _, _, _⟩) ?_)
  unfold Stop
  refine wl_slit (vs := [va, vb]) (hgd := rfl) (ho := rfl) (hu := Try.underlying47) (hi0 := info_bsl) (hp := by rfl) (hv := (fun v hv => by simp at hv; rcases hv with rfl | rfl; exact HA1.out; exact HB1.out)) (hk := by rfl) (hz := by rfl) (h := ?_)
  intro w2 hg2 hf2 hz2
  clear hz2
  generalize w1.heap.size = gl at *
  have HGC2 := Lib.hid (HGC.out.keep hf2 id)
  have HF2 := Lib.hid (HF1.out.then hf2)
  have HRD := Lib.hid (show Rd w2 (some ⟨gl, 0, none⟩) 2 [va, vb] from Rd.whole hg2)
  clear hg2 hf2 HGC
  go_wp2_with fail
  refine (reckon_two_bad k m HK.out gc _ 2 2 [va, vb] [la, lb] _ HRD.out (HP.out.still HF2.out) (by decide) HG.out).mono ?_
  rintro e w3 ⟨rfl, hf3⟩
  have h3 := HF2.out.then hf3
  clear hf3 HF2 HF1
  go_wp2_with fail
  go_ret2
  exact ⟨rfl, h3⟩
set_option maxHeartbeats 8000000 in
set_option maxRecDepth 1000000 in
theorem NMul_x (k : Int) (va vb : Value) (la lb : List UInt8) (w : World) (hpa : BPart w va la) (hpb : BPart w vb lb) (h0 : (k == 0) = false) (h1 : (k == 1) = false) :
    Calls Try.prog 27 #[.int .i64 k, va, vb] w fun e w' => e = .returned (.tuple #[.slice none 0 0, .int .i64 2]) ∧ Fr Nob w w' := by
  have HA1 := Lib.hid (BPart.one hpa)
  have HB1 := Lib.hid (BPart.one hpb)
  have H0 := Lib.hid h0
  have H1 := Lib.hid h1
  clear hpa hpb h0 h1
  go_enter Try.func27, Try.ntmps27
  go_wp2_with fail
  refine (two_any (.func (.func 45) #[] #[]) _).mono ?_
  rintro e w1 ⟨gc, rfl, hgc, hf1⟩
  have HGC := Lib.hid hgc
  have HF1 := Lib.hid hf1
  clear hgc hf1
  go_wp2_with (with_reducible refine wl_stop (o := ⟨some 12, _, _, _, _, _⟩) ?_)
  unfold Stop
  refine wl_slit (vs := [va, vb]) (hgd := rfl) (ho := rfl) (hu := Try.underlying47) (hi0 := info_bsl) (hp := by rfl) (hv := (fun v hv => by simp at hv; rcases hv with rfl | rfl; exact HA1.out; exact HB1.out)) (hk := by rfl) (hz := by rfl) (h := ?_)
  intro w2 hg2 hf2 hz2
  clear hz2
  generalize w1.heap.size = gl at *
  have HGC2 := Lib.hid (HGC.out.keep hf2 id)
  have HF2 := Lib.hid (HF1.out.then hf2)
  have HRD := Lib.hid (show Rd w2 (some ⟨gl, 0, none⟩) 2 [va, vb] from Rd.whole hg2)
  clear hg2 hf2 HGC
  go_wp2_with fail
  refine (reckon_two_x k gc _ _ H0.out H1.out).mono ?_
  rintro e w3 ⟨rfl, rfl⟩
  have h3 := HF2.out
  clear HF2 HF1
  go_wp2_with fail
  go_ret2
  exact ⟨rfl, h3⟩

set_option maxHeartbeats 8000000 in
set_option maxRecDepth 1000000 in
theorem NInv_ok (k : Int) (m : Md) (hk : KindOf k m) (va : Value) (la : List UInt8) (w : World) (hpa : BPart w va la) (hg : numsB m [la] = true) :
    Calls Try.prog 28 #[.int .i64 k, va] w fun e w' => ∃ v, e = .returned (.tuple #[v, .int .i64 0]) ∧ Own w' w.heap.size 5 1 v 32 (bs (be32 (beN la ^ (m.M - 2) % m.M))) ∧ Fr Nob w w' := by
  have HA1 := Lib.hid (BPart.one hpa)
  have HK := Lib.hid hk
  have HP := Lib.hid (BParts.one hpa)
  have HG := Lib.hid hg
  clear hk hpa hg
  go_enter Try.func28, Try.ntmps28
  go_wp2_with (with_reducible refine wl_stop (o := ⟨some 8, _, _, _, _, _⟩) ?_)
  unfold Stop
  refine wl_slit (vs := [va]) (hgd := rfl) (ho := rfl) (hu := Try.underlying47) (hi0 := info_bsl) (hp := by rfl) (hv := fun v hv => by simp at hv; subst hv; exact HA1.out) (hk := by rfl) (hz := by rfl) (h := ?_)
  intro w2 hg2 hf2 hz2
  clear hz2
  have hbz : w.heap.size ≤ w.heap.size := Nat.le_refl _
  generalize hgl : w.heap.size = gl at *
  have HGL := Lib.hid hgl
  have HF2 := Lib.hid hf2
  have HRD := Lib.hid (show Rd w2 (some ⟨gl, 0, none⟩) 1 [va] from Rd.whole hg2)
  clear hg2 hf2 hgl hbz
  go_wp2_with fail
  refine (reckon_inv_ok k m HK.out _ 1 1 [va] [la] _ HRD.out (HP.out.still HF2.out) (by decide) HG.out (beN la ^ (m.M - 2)) (fun gp ae ce wx hfx hmx hrx => inv1_any m gp wx HK.out.ok hmx ae ce la hrx)).mono ?_
  rintro e w3 ⟨v, rfl, hown, hf3⟩
  have h3 := HF2.out.then hf3
  have hsz := HF2.out.size
  rw [HGL.out] at hsz
  have ho := hown.mono hsz
  clear hown hf3 HF2 hsz
  go_wp2_with fail
  go_ret2
  exact ⟨v, rfl, by rw [HGL.out]; exact ho, h3⟩
set_option maxHeartbeats 8000000 in
set_option maxRecDepth 1000000 in
theorem NInv_bad (k : Int) (m : Md) (hk : KindOf k m) (va : Value) (la : List UInt8) (w : World) (hpa : BPart w va la) (hg : numsB m [la] = false) :
    Calls Try.prog 28 #[.int .i64 k, va] w fun e w' => e = .returned (.tuple #[.slice none 0 0, .int .i64 3]) ∧ Fr Nob w w' := by
  have HA1 := Lib.hid (BPart.one hpa)
  have HK := Lib.hid hk
  have HP := Lib.hid (BParts.one hpa)
  have HG := Lib.hid hg
  clear hk hpa hg
  go_enter Try.func28, Try.ntmps28
  go_wp2_with (with_reducible refine wl_stop (o := ⟨some 8, _, _, _, _, _⟩) ?_)
  unfold Stop
  refine wl_slit (vs := [va]) (hgd := rfl) (ho := rfl) (hu := Try.underlying47) (hi0 := info_bsl) (hp := by rfl) (hv := fun v hv => by simp at hv; subst hv; exact HA1.out) (hk := by rfl) (hz := by rfl) (h := ?_)
  intro w2 hg2 hf2 hz2
  clear hz2
  have hbz : w.heap.size ≤ w.heap.size := Nat.le_refl _
  generalize hgl : w.heap.size = gl at *
  have HGL := Lib.hid hgl
  have HF2 := Lib.hid hf2
  have HRD := Lib.hid (show Rd w2 (some ⟨gl, 0, none⟩) 1 [va] from Rd.whole hg2)
  clear hg2 hf2 hgl hbz
  go_wp2_with fail
  refine (reckon_inv_bad k m HK.out _ 1 1 [va] [la] _ HRD.out (HP.out.still HF2.out) (by decide) HG.out).mono ?_
  rintro e w3 ⟨rfl, hf3⟩
  have h3 := HF2.out.then hf3
  clear hf3 HF2
  go_wp2_with fail
  go_ret2
  exact ⟨rfl, h3⟩
set_option maxHeartbeats 8000000 in
set_option maxRecDepth 1000000 in
theorem NInv_x (k : Int) (va : Value) (la : List UInt8) (w : World) (hpa : BPart w va la) (h0 : (k == 0) = false) (h1 : (k == 1) = false) :
    Calls Try.prog 28 #[.int .i64 k, va] w fun e w' => e = .returned (.tuple #[.slice none 0 0, .int .i64 2]) ∧ Fr Nob w w' := by
  have HA1 := Lib.hid (BPart.one hpa)
  have H0 := Lib.hid h0
  have H1 := Lib.hid h1
  clear hpa h0 h1
  go_enter Try.func28, Try.ntmps28
  go_wp2_with (with_reducible refine wl_stop (o := ⟨some 8, _, _, _, _, _⟩) ?_)
  unfold Stop
  refine wl_slit (vs := [va]) (hgd := rfl) (ho := rfl) (hu := Try.underlying47) (hi0 := info_bsl) (hp := by rfl) (hv := fun v hv => by simp at hv; subst hv; exact HA1.out) (hk := by rfl) (hz := by rfl) (h := ?_)
  intro w2 hg2 hf2 hz2
  clear hz2
  have hbz : w.heap.size ≤ w.heap.size := Nat.le_refl _
  generalize hgl : w.heap.size = gl at *
  have HGL := Lib.hid hgl
  have HF2 := Lib.hid hf2
  have HRD := Lib.hid (show Rd w2 (some ⟨gl, 0, none⟩) 1 [va] from Rd.whole hg2)
  clear hg2 hf2 hgl hbz
  go_wp2_with fail
  refine (reckon_inv_x k _ _ H0.out H1.out).mono ?_
  rintro e w3 ⟨rfl, rfl⟩
  have h3 := HF2.out
  clear HF2
  go_wp2_with fail
  go_ret2
  exact ⟨rfl, h3⟩
end Go.Proofs.Ytmegaegedlbckaa
