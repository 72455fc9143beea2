/- num.reckon, over an operation's contract. -/
import Derived.Test.YtmegaegedlbckaaNm20
namespace Go.Proofs.Ytmegaegedlbckaa
open Go.RowKit Go.Mv Mvp
attribute [local irreducible] limbs lw mix cw cSub cAdd cMul foldC valFrom beN laid be32 powm montT mstep elN mdL elCells numsB numB

set_option maxHeartbeats 8000000 in
set_option maxRecDepth 1000000 in
theorem reckon_two_ok (k : Int) (m : Md) (hk : KindOf k m) (gc : Nat) (al : Option Addr) (n cl : Nat) (vs : List Value) (ls : List (List UInt8)) (w : World) (hv : Rd w al n vs) (hp : BParts w vs ls) (hn : n ≤ 100000) (hg : numsB m ls = true) (x : Nat)
    (hop : ∀ gp ae ce wx, Fr Nob w wx → Has wx gp (mdL m) 68 → Rd wx ae (ls.length * 4) (elCells m ls) → Calls Try.prog 73 #[.pointer (some ⟨gp, 0, none⟩), .slice ae ls.length ce, .pointer (some ⟨gc, 0, none⟩)] wx fun e w' => e = .returned (.tuple #[i4 (elN m x), .bool true]) ∧ Fr Nob wx w') :
    Calls Try.prog 49 #[.int .i64 k, .func (.func 73) #[] #[.pointer (some ⟨gc, 0, none⟩)], .slice al n cl] w fun e w' => ∃ v, e = .returned (.tuple #[v, .int .i64 0]) ∧ Own w' w.heap.size 5 1 v 32 (bs (be32 (x % m.M))) ∧ Fr Nob w w' := by
  have HK := Lib.hid hk
  have HV := Lib.hid hv
  have HP := Lib.hid hp
  have HG := Lib.hid hg
  have HOP := Lib.hid hop
  clear hk hv hp hg hop
  go_enter Try.func49, Try.ntmps49
  go_wp2_with fail
  refine (OfK HK.out _).mono ?_
  rintro e w1 ⟨gp, rfl, hgg, hm, hf⟩
  clear hgg
  have HM := Lib.hid hm
  have HF := Lib.hid hf
  clear hm hf
  go_wp2_with fail
  refine (read_any m gp al n cl vs ls _ HK.out.ok HM.out (HV.out.still HF.out) (HP.out.still HF.out) hn).mono ?_
  rintro e w2 ⟨hgood, -, hf2⟩
  obtain ⟨v, rfl, hown⟩ := hgood HG.out
  obtain ⟨ae, ce, rfl, -, hre, -⟩ := hown.form
  have HRE := Lib.hid hre
  have HM2 := Lib.hid (HM.out.keep hf2 id)
  have HF2 := Lib.hid (HF.out.then hf2)
  clear hgood hown hre hf2
  go_wp2_with fail
  refine (HOP.out gp ae ce _ HF2.out HM2.out HRE.out).mono ?_
  rintro e w3 ⟨rfl, hf3⟩
  have HM3 := Lib.hid (HM2.out.keep hf3 id)
  have HF3 := Lib.hid (HF2.out.then hf3)
  have st0 := St.start Nob w3
  clear hf3
  go_wp2_with (with_reducible refine wl_stop (o := ⟨some 11, _, _, _, _, _⟩) ?_)
  refine wl_allocS st0 rfl rfl (z := .agg #[.int .u64 0, .int .u64 0, .int .u64 0, .int .u64 0]) (by kernel_rfl) (cw 4 0) (by rw [cw_zero]; rfl) ?_
  intro g11 w4 st1
  clear st0
  go_wp2_with (with_reducible refine wl_stop (o := ⟨none, _, _, _, _, _⟩) ?_)
  refine wl_storeS st1 0 rfl rfl rfl rfl (cs := cw 4 (elN m x)) rfl (by rw [cw_len, cw_len]) (by rw [cw_len]; kernel_rfl) (cw_one _ _) ?_
  intro w5 st2
  clear st1
  go_wp2_with (with_reducible refine wl_stop (o := ⟨some 37, _, _, _, _, _⟩) ?_)
  refine wl_loadS st2 0 rfl rfl rfl Try.underlying81 rfl (by rw [cw_len]; kernel_rfl) ?_
  have HM5 := Lib.hid (HM3.out.keep st2.fr id)
  have HF5 := Lib.hid (HF3.out.then st2.fr)
  clear st2
  go_wp2_with fail
  refine (MFrom_any m gp _ HK.out.ok HM5.out x).mono ?_
  rintro e w6 ⟨rfl, hf6⟩
  have HF6 := Lib.hid (HF5.out.then hf6)
  clear hf6
  go_wp2_with fail
  refine (MBytes_any (x % m.M) _).mono ?_
  rintro e w7 ⟨v, rfl, hown7, hf7⟩
  have h2 := HF6.out.then hf7
  have ho := hown7.mono HF6.out.size
  clear hown7 hf7 HF6 HF5 HM5 HF3 HM3 HF2 HM2 HRE HM HF
  go_wp2_with fail
  go_ret2
  exact ⟨v, rfl, ho, h2⟩
set_option maxHeartbeats 8000000 in
set_option maxRecDepth 1000000 in
theorem reckon_two_bad (k : Int) (m : Md) (hk : KindOf k m) (gc : Nat) (al : Option Addr) (n cl : Nat) (vs : List Value) (ls : List (List UInt8)) (w : World) (hv : Rd w al n vs) (hp : BParts w vs ls) (hn : n ≤ 100000) (hg : numsB m ls = false) :
    Calls Try.prog 49 #[.int .i64 k, .func (.func 73) #[] #[.pointer (some ⟨gc, 0, none⟩)], .slice al n cl] w fun e w' => e = .returned (.tuple #[.slice none 0 0, .int .i64 3]) ∧ Fr Nob w w' := by
  have HK := Lib.hid hk
  have HV := Lib.hid hv
  have HP := Lib.hid hp
  have HG := Lib.hid hg
  clear hk hv hp hg
  go_enter Try.func49, Try.ntmps49
  go_wp2_with fail
  refine (OfK HK.out _).mono ?_
  rintro e w1 ⟨gp, rfl, hgg, hm, hf⟩
  clear hgg
  have HM := Lib.hid hm
  have HF := Lib.hid hf
  clear hm hf
  go_wp2_with fail
  refine (read_any m gp al n cl vs ls _ HK.out.ok HM.out (HV.out.still HF.out) (HP.out.still HF.out) hn).mono ?_
  rintro e w2 ⟨-, hbad, hf2⟩
  obtain rfl := hbad HG.out
  have HF2 := Lib.hid (HF.out.then hf2)
  clear hbad hf2
  go_wp2_with fail
  go_ret2
  exact ⟨rfl, HF2.out⟩
set_option maxHeartbeats 8000000 in
set_option maxRecDepth 1000000 in
theorem reckon_two_x (k : Int) (gc : Nat) (v : Value) (w : World) (h0 : (k == 0) = false) (h1 : (k == 1) = false) :
    Calls Try.prog 49 #[.int .i64 k, .func (.func 73) #[] #[.pointer (some ⟨gc, 0, none⟩)], v] w fun e w' => e = .returned (.tuple #[.slice none 0 0, .int .i64 2]) ∧ w = w' := by
  have H0 := Lib.hid h0
  have H1 := Lib.hid h1
  clear h0 h1
  go_enter Try.func49, Try.ntmps49
  go_wp2_with fail
  refine (Of2 k _ H0.out H1.out).mono ?_
  rintro e w1 ⟨rfl, rfl⟩
  go_wp2_with fail
  go_ret2
  exact ⟨rfl, rfl⟩

set_option maxHeartbeats 8000000 in
set_option maxRecDepth 1000000 in
theorem reckon_inv_ok (k : Int) (m : Md) (hk : KindOf k m) (al : Option Addr) (n cl : Nat) (vs : List Value) (ls : List (List UInt8)) (w : World) (hv : Rd w al n vs) (hp : BParts w vs ls) (hn : n ≤ 100000) (hg : numsB m ls = true) (x : Nat)
    (hop : ∀ gp ae ce wx, Fr Nob w wx → Has wx gp (mdL m) 68 → Rd wx ae (ls.length * 4) (elCells m ls) → Calls Try.prog 52 #[.pointer (some ⟨gp, 0, none⟩), .slice ae ls.length ce] wx fun e w' => e = .returned (.tuple #[i4 (elN m x), .bool true]) ∧ Fr Nob wx w') :
    Calls Try.prog 49 #[.int .i64 k, .func (.func 52) #[] #[], .slice al n cl] w fun e w' => ∃ v, e = .returned (.tuple #[v, .int .i64 0]) ∧ Own w' w.heap.size 5 1 v 32 (bs (be32 (x % m.M))) ∧ Fr Nob w w' := by
  have HK := Lib.hid hk
  have HV := Lib.hid hv
  have HP := Lib.hid hp
  have HG := Lib.hid hg
  have HOP := Lib.hid hop
  clear hk hv hp hg hop
  go_enter Try.func49, Try.ntmps49
  go_wp2_with fail
  refine (OfK HK.out _).mono ?_
  rintro e w1 ⟨gp, rfl, hgg, hm, hf⟩
  clear hgg
  have HM := Lib.hid hm
  have HF := Lib.hid hf
  clear hm hf
  go_wp2_with fail
  refine (read_any m gp al n cl vs ls _ HK.out.ok HM.out (HV.out.still HF.out) (HP.out.still HF.out) hn).mono ?_
  rintro e w2 ⟨hgood, -, hf2⟩
  obtain ⟨v, rfl, hown⟩ := hgood HG.out
  obtain ⟨ae, ce, rfl, -, hre, -⟩ := hown.form
  have HRE := Lib.hid hre
  have HM2 := Lib.hid (HM.out.keep hf2 id)
  have HF2 := Lib.hid (HF.out.then hf2)
  clear hgood hown hre hf2
  go_wp2_with fail
  refine (HOP.out gp ae ce _ HF2.out HM2.out HRE.out).mono ?_
  rintro e w3 ⟨rfl, hf3⟩
  have HM3 := Lib.hid (HM2.out.keep hf3 id)
  have HF3 := Lib.hid (HF2.out.then hf3)
  have st0 := St.start Nob w3
  clear hf3
  go_wp2_with (with_reducible refine wl_stop (o := ⟨some 11, _, _, _, _, _⟩) ?_)
  refine wl_allocS st0 rfl rfl (z := .agg #[.int .u64 0, .int .u64 0, .int .u64 0, .int .u64 0]) (by kernel_rfl) (cw 4 0) (by rw [cw_zero]; rfl) ?_
  intro g11 w4 st1
  clear st0
  go_wp2_with (with_reducible refine wl_stop (o := ⟨none, _, _, _, _, _⟩) ?_)
  refine wl_storeS st1 0 rfl rfl rfl rfl (cs := cw 4 (elN m x)) rfl (by rw [cw_len, cw_len]) (by rw [cw_len]; kernel_rfl) (cw_one _ _) ?_
  intro w5 st2
  clear st1
  go_wp2_with (with_reducible refine wl_stop (o := ⟨some 37, _, _, _, _, _⟩) ?_)
  refine wl_loadS st2 0 rfl rfl rfl Try.underlying81 rfl (by rw [cw_len]; kernel_rfl) ?_
  have HM5 := Lib.hid (HM3.out.keep st2.fr id)
  have HF5 := Lib.hid (HF3.out.then st2.fr)
  clear st2
  go_wp2_with fail
  refine (MFrom_any m gp _ HK.out.ok HM5.out x).mono ?_
  rintro e w6 ⟨rfl, hf6⟩
  have HF6 := Lib.hid (HF5.out.then hf6)
  clear hf6
  go_wp2_with fail
  refine (MBytes_any (x % m.M) _).mono ?_
  rintro e w7 ⟨v, rfl, hown7, hf7⟩
  have h2 := HF6.out.then hf7
  have ho := hown7.mono HF6.out.size
  clear hown7 hf7 HF6 HF5 HM5 HF3 HM3 HF2 HM2 HRE HM HF
  go_wp2_with fail
  go_ret2
  exact ⟨v, rfl, ho, h2⟩
set_option maxHeartbeats 8000000 in
set_option maxRecDepth 1000000 in
theorem reckon_inv_bad (k : Int) (m : Md) (hk : KindOf k m) (al : Option Addr) (n cl : Nat) (vs : List Value) (ls : List (List UInt8)) (w : World) (hv : Rd w al n vs) (hp : BParts w vs ls) (hn : n ≤ 100000) (hg : numsB m ls = false) :
    Calls Try.prog 49 #[.int .i64 k, .func (.func 52) #[] #[], .slice al n cl] w fun e w' => e = .returned (.tuple #[.slice none 0 0, .int .i64 3]) ∧ Fr Nob w w' := by
  have HK := Lib.hid hk
  have HV := Lib.hid hv
  have HP := Lib.hid hp
  have HG := Lib.hid hg
  clear hk hv hp hg
  go_enter Try.func49, Try.ntmps49
  go_wp2_with fail
  refine (OfK HK.out _).mono ?_
  rintro e w1 ⟨gp, rfl, hgg, hm, hf⟩
  clear hgg
  have HM := Lib.hid hm
  have HF := Lib.hid hf
  clear hm hf
  go_wp2_with fail
  refine (read_any m gp al n cl vs ls _ HK.out.ok HM.out (HV.out.still HF.out) (HP.out.still HF.out) hn).mono ?_
  rintro e w2 ⟨-, hbad, hf2⟩
  obtain rfl := hbad HG.out
  have HF2 := Lib.hid (HF.out.then hf2)
  clear hbad hf2
  go_wp2_with fail
  go_ret2
  exact ⟨rfl, HF2.out⟩
set_option maxHeartbeats 8000000 in
set_option maxRecDepth 1000000 in
theorem reckon_inv_x (k : Int) (v : Value) (w : World) (h0 : (k == 0) = false) (h1 : (k == 1) = false) :
    Calls Try.prog 49 #[.int .i64 k, .func (.func 52) #[] #[], v] w fun e w' => e = .returned (.tuple #[.slice none 0 0, .int .i64 2]) ∧ w = w' := by
  have H0 := Lib.hid h0
  have H1 := Lib.hid h1
  clear h0 h1
  go_enter Try.func49, Try.ntmps49
  go_wp2_with fail
  refine (Of2 k _ H0.out H1.out).mono ?_
  rintro e w1 ⟨rfl, rfl⟩
  go_wp2_with fail
  go_ret2
  exact ⟨rfl, rfl⟩

set_option maxHeartbeats 8000000 in
set_option maxRecDepth 1000000 in
theorem reckon_sqrt_ok (k : Int) (m : Md) (hk : KindOf k m) (al : Option Addr) (n cl : Nat) (vs : List Value) (ls : List (List UInt8)) (w : World) (hv : Rd w al n vs) (hp : BParts w vs ls) (hn : n ≤ 100000) (hg : numsB m ls = true) (x : Nat)
    (hop : ∀ gp ae ce wx, Fr Nob w wx → Has wx gp (mdL m) 68 → Rd wx ae (ls.length * 4) (elCells m ls) → Calls Try.prog 59 #[.pointer (some ⟨gp, 0, none⟩), .slice ae ls.length ce] wx fun e w' => e = .returned (.tuple #[i4 (elN m x), .bool true]) ∧ Fr Nob wx w') :
    Calls Try.prog 49 #[.int .i64 k, .func (.func 59) #[] #[], .slice al n cl] w fun e w' => ∃ v, e = .returned (.tuple #[v, .int .i64 0]) ∧ Own w' w.heap.size 5 1 v 32 (bs (be32 (x % m.M))) ∧ Fr Nob w w' := by
  have HK := Lib.hid hk
  have HV := Lib.hid hv
  have HP := Lib.hid hp
  have HG := Lib.hid hg
  have HOP := Lib.hid hop
  clear hk hv hp hg hop
  go_enter Try.func49, Try.ntmps49
  go_wp2_with fail
  refine (OfK HK.out _).mono ?_
  rintro e w1 ⟨gp, rfl, hgg, hm, hf⟩
  clear hgg
  have HM := Lib.hid hm
  have HF := Lib.hid hf
  clear hm hf
  go_wp2_with fail
  refine (read_any m gp al n cl vs ls _ HK.out.ok HM.out (HV.out.still HF.out) (HP.out.still HF.out) hn).mono ?_
  rintro e w2 ⟨hgood, -, hf2⟩
  obtain ⟨v, rfl, hown⟩ := hgood HG.out
  obtain ⟨ae, ce, rfl, -, hre, -⟩ := hown.form
  have HRE := Lib.hid hre
  have HM2 := Lib.hid (HM.out.keep hf2 id)
  have HF2 := Lib.hid (HF.out.then hf2)
  clear hgood hown hre hf2
  go_wp2_with fail
  refine (HOP.out gp ae ce _ HF2.out HM2.out HRE.out).mono ?_
  rintro e w3 ⟨rfl, hf3⟩
  have HM3 := Lib.hid (HM2.out.keep hf3 id)
  have HF3 := Lib.hid (HF2.out.then hf3)
  have st0 := St.start Nob w3
  clear hf3
  go_wp2_with (with_reducible refine wl_stop (o := ⟨some 11, _, _, _, _, _⟩) ?_)
  refine wl_allocS st0 rfl rfl (z := .agg #[.int .u64 0, .int .u64 0, .int .u64 0, .int .u64 0]) (by kernel_rfl) (cw 4 0) (by rw [cw_zero]; rfl) ?_
  intro g11 w4 st1
  clear st0
  go_wp2_with (with_reducible refine wl_stop (o := ⟨none, _, _, _, _, _⟩) ?_)
  refine wl_storeS st1 0 rfl rfl rfl rfl (cs := cw 4 (elN m x)) rfl (by rw [cw_len, cw_len]) (by rw [cw_len]; kernel_rfl) (cw_one _ _) ?_
  intro w5 st2
  clear st1
  go_wp2_with (with_reducible refine wl_stop (o := ⟨some 37, _, _, _, _, _⟩) ?_)
  refine wl_loadS st2 0 rfl rfl rfl Try.underlying81 rfl (by rw [cw_len]; kernel_rfl) ?_
  have HM5 := Lib.hid (HM3.out.keep st2.fr id)
  have HF5 := Lib.hid (HF3.out.then st2.fr)
  clear st2
  go_wp2_with fail
  refine (MFrom_any m gp _ HK.out.ok HM5.out x).mono ?_
  rintro e w6 ⟨rfl, hf6⟩
  have HF6 := Lib.hid (HF5.out.then hf6)
  clear hf6
  go_wp2_with fail
  refine (MBytes_any (x % m.M) _).mono ?_
  rintro e w7 ⟨v, rfl, hown7, hf7⟩
  have h2 := HF6.out.then hf7
  have ho := hown7.mono HF6.out.size
  clear hown7 hf7 HF6 HF5 HM5 HF3 HM3 HF2 HM2 HRE HM HF
  go_wp2_with fail
  go_ret2
  exact ⟨v, rfl, ho, h2⟩
set_option maxHeartbeats 8000000 in
set_option maxRecDepth 1000000 in
theorem reckon_sqrt_bad (k : Int) (m : Md) (hk : KindOf k m) (al : Option Addr) (n cl : Nat) (vs : List Value) (ls : List (List UInt8)) (w : World) (hv : Rd w al n vs) (hp : BParts w vs ls) (hn : n ≤ 100000) (hg : numsB m ls = false) :
    Calls Try.prog 49 #[.int .i64 k, .func (.func 59) #[] #[], .slice al n cl] w fun e w' => e = .returned (.tuple #[.slice none 0 0, .int .i64 3]) ∧ Fr Nob w w' := by
  have HK := Lib.hid hk
  have HV := Lib.hid hv
  have HP := Lib.hid hp
  have HG := Lib.hid hg
  clear hk hv hp hg
  go_enter Try.func49, Try.ntmps49
  go_wp2_with fail
  refine (OfK HK.out _).mono ?_
  rintro e w1 ⟨gp, rfl, hgg, hm, hf⟩
  clear hgg
  have HM := Lib.hid hm
  have HF := Lib.hid hf
  clear hm hf
  go_wp2_with fail
  refine (read_any m gp al n cl vs ls _ HK.out.ok HM.out (HV.out.still HF.out) (HP.out.still HF.out) hn).mono ?_
  rintro e w2 ⟨-, hbad, hf2⟩
  obtain rfl := hbad HG.out
  have HF2 := Lib.hid (HF.out.then hf2)
  clear hbad hf2
  go_wp2_with fail
  go_ret2
  exact ⟨rfl, HF2.out⟩
set_option maxHeartbeats 8000000 in
set_option maxRecDepth 1000000 in
theorem reckon_sqrt_x (k : Int) (v : Value) (w : World) (h0 : (k == 0) = false) (h1 : (k == 1) = false) :
    Calls Try.prog 49 #[.int .i64 k, .func (.func 59) #[] #[], v] w fun e w' => e = .returned (.tuple #[.slice none 0 0, .int .i64 2]) ∧ w = w' := by
  have H0 := Lib.hid h0
  have H1 := Lib.hid h1
  clear h0 h1
  go_enter Try.func49, Try.ntmps49
  go_wp2_with fail
  refine (Of2 k _ H0.out H1.out).mono ?_
  rintro e w1 ⟨rfl, rfl⟩
  go_wp2_with fail
  go_ret2
  exact ⟨rfl, rfl⟩

set_option maxHeartbeats 8000000 in
set_option maxRecDepth 1000000 in
theorem reckon_sqrt_none (k : Int) (m : Md) (hk : KindOf k m) (al : Option Addr) (n cl : Nat) (vs : List Value) (ls : List (List UInt8)) (w : World) (hv : Rd w al n vs) (hp : BParts w vs ls) (hn : n ≤ 100000) (hg : numsB m ls = true)
    (hop : ∀ gp ae ce wx, Fr Nob w wx → Has wx gp (mdL m) 68 → Rd wx ae (ls.length * 4) (elCells m ls) → Calls Try.prog 59 #[.pointer (some ⟨gp, 0, none⟩), .slice ae ls.length ce] wx fun e w' => e = .returned (.tuple #[i4 0, .bool false]) ∧ Fr Nob wx w') :
    Calls Try.prog 49 #[.int .i64 k, .func (.func 59) #[] #[], .slice al n cl] w fun e w' => e = .returned (.tuple #[.slice none 0 0, .int .i64 6]) ∧ Fr Nob w w' := by
  have HK := Lib.hid hk
  have HV := Lib.hid hv
  have HP := Lib.hid hp
  have HG := Lib.hid hg
  have HOP := Lib.hid hop
  clear hk hv hp hg hop
  go_enter Try.func49, Try.ntmps49
  go_wp2_with fail
  refine (OfK HK.out _).mono ?_
  rintro e w1 ⟨gp, rfl, hgg, hm, hf⟩
  clear hgg
  have HM := Lib.hid hm
  have HF := Lib.hid hf
  clear hm hf
  go_wp2_with fail
  refine (read_any m gp al n cl vs ls _ HK.out.ok HM.out (HV.out.still HF.out) (HP.out.still HF.out) hn).mono ?_
  rintro e w2 ⟨hgood, -, hf2⟩
  obtain ⟨v, rfl, hown⟩ := hgood HG.out
  obtain ⟨ae, ce, rfl, -, hre, -⟩ := hown.form
  have HRE := Lib.hid hre
  have HM2 := Lib.hid (HM.out.keep hf2 id)
  have HF2 := Lib.hid (HF.out.then hf2)
  clear hgood hown hre hf2
  go_wp2_with fail
  refine (HOP.out gp ae ce _ HF2.out HM2.out HRE.out).mono ?_
  rintro e w3 ⟨rfl, hf3⟩
  have HF3 := Lib.hid (HF2.out.then hf3)
  have st0 := St.start Nob w3
  clear hf3
  go_wp2_with (with_reducible refine wl_stop (o := ⟨some 11, _, _, _, _, _⟩) ?_)
  refine wl_allocS st0 rfl rfl (z := .agg #[.int .u64 0, .int .u64 0, .int .u64 0, .int .u64 0]) (by kernel_rfl) (cw 4 0) (by rw [cw_zero]; rfl) ?_
  intro g11 w4 st1
  clear st0
  go_wp2_with (with_reducible refine wl_stop (o := ⟨none, _, _, _, _, _⟩) ?_)
  refine wl_storeS st1 0 rfl rfl rfl rfl (cs := cw 4 0) rfl (by rw [cw_len]) (by rw [cw_len]; kernel_rfl) (cw_one _ _) ?_
  intro w5 st2
  have HF5 := Lib.hid (HF3.out.then st2.fr)
  clear st1 st2
  go_wp2_with fail
  go_ret2
  exact ⟨rfl, HF5.out⟩
end Go.Proofs.Ytmegaegedlbckaa
