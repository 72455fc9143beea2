/- utf8.Valid of bytes (printed by gen_wp12.py); wire: the reference's head (printed by gen_wp13.py); wire: the reference's valid (printed by gen_wp14.py); wire: the reference's write, Print (printed by gen_wp15.py). -/
import Derived.Test.YtdadnajbdnbbdaaDoorMgWirePrintsProof3
import Derived.Shelf.Unicode.ValidAny
import Derived.Test.YtdadnajbdnbbdaaDoorMgWirePrintsProof2
import Derived.Test.YtdadnajbdnbbdaaDoorMgWirePrintsProof1
import Derived.Deep.DeepCutAuto
namespace Go.Mv
open Go.RowKit
def slen : Value → Nat
  | .slice _ n _ => n
  | _ => 0
theorem run_slice_hmW {P : Program} (w : World) {ty e : TypeId} (hu : P.underlying ty = some (.slice e)) (hsz : (P.info? e).map (·.size) = some 1) (p : Option Addr) (n c : Nat) (k : IntKind) (h m : Nat) (hh : h ≤ m) (hm : m ≤ c) :
    (Instr.sliceAt ty (.slice p n c) none (some (.int k (h : Int))) (some (.int k (m : Int)))).run P w = .ok (.slice p h m) w := by
  obtain ⟨i, hi1, hi2⟩ : ∃ i, P.info? e = some i ∧ i.size = 1 := by simpa using hsz
  simp [Instr.sliceAt, Instr.slice, run_underlying hu, Instr.sliceBounds, run_sliceBound, hh, hm, sizeOf, typeInfo, hi1, Addr.add]
theorem cutS {P : Program} {w : World} {ty e : TypeId} (hu : P.underlying ty = some (.slice e)) (hsz : (P.info? e).map (·.size) = some 1) {a : Option Addr} {n : Nat} {l : List UInt8} (h : RdB w a n l) (k : Nat) (hk : k ≤ n) :
    ∃ a' n' l', (∀ wx, (Instr.sliceAt ty (.slice a n n) (some (.int .i64 (k : Int))) none none).run P wx = .ok (.slice a' n' n') wx) ∧ RdB w a' n' l' ∧ n' + k = n ∧ l' = l.drop k :=
  ⟨_, _, _, fun wx => run_slice_lo wx hu hsz a n n .i64 k hk, h.cut hk, by omega, rfl⟩
theorem asc8 {l : List UInt8} (h : 8 ≤ l.length) (hm : w8 l &&& 9259542123273814144 = 0) : Lib.validD (l.drop 8) = Lib.validD l := (Lib.validD_ascii 8 l ((w8_asc l h).1 hm)).symm
theorem asc16 {l l8 : List UInt8} (h : 16 ≤ l.length) (e : l8 = l.drop 8) (hm : (w8 l ||| w8 l8) &&& 9259542123273814144 = 0) : Lib.validD (l.drop 16) = Lib.validD l := by
  subst e
  obtain ⟨h1, h2⟩ := (Lib.or_mask _ _ _).1 hm
  rw [← asc8 (by omega) h1, ← asc8 (l := l.drop 8) (by rw [List.length_drop]; omega) h2, List.drop_drop]
theorem asc32 {l l8 l16 l24 : List UInt8} (h : 32 ≤ l.length) (e8 : l8 = l.drop 8) (e16 : l16 = l.drop 16) (e24 : l24 = l.drop 24) (hm : ((w8 l ||| w8 l8) ||| (w8 l16 ||| w8 l24)) &&& 9259542123273814144 = 0) : Lib.validD (l.drop 32) = Lib.validD l := by
  subst e16 e24
  obtain ⟨h1, h2⟩ := (Lib.or_mask _ _ _).1 hm
  rw [← asc16 (by omega) e8 h1, ← asc16 (l := l.drop 16) (l8 := l.drop 24) (by rw [List.length_drop]; omega) (by rw [List.drop_drop]) h2, List.drop_drop]
end Go.Mv
namespace Go.Proofs.YtdadnajbdnbbdaaDoor
open Go.RowKit Go.Mv Mvp
set_option maxHeartbeats 16000000 in
set_option maxRecDepth 1000000 in
theorem Valid_any (a : Option Addr) (n c : Nat) (l : List UInt8) (w : World) (h : RdC w a n c l) (hn : n ≤ 1000000) (hT : Lib.Utf8Tabs 0 1 w) :
    Calls Tryd.prog 19 #[.slice a n c] w fun e w' => e = .returned (.bool (Lib.validD l)) ∧ Fr Nob w w' := by
  obtain ⟨ANS, hANS⟩ : ∃ ANS, Lib.validD l = ANS := ⟨_, rfl⟩
  rw [hANS]
  have HA := Lib.hid hANS
  have HR := Lib.hid h.1
  have HT := Lib.hid hT
  have k0 := fun wx => run_slice_hmW (P := Tryd.prog) wx Tryd.underlying24 size_u8W a n c .i64 n n (Nat.le_refl _) h.2
  clear hANS h hT
  go_enter Tryd.func19, Tryd.ntmps19
  go_wp2_with fail
  clear k0
  go_loopw [0] (fun s wx => ∃ (a : Option Addr) (n : Nat) (l : List UInt8), s = .slice a n n ∧ Hid (RdB w a n l) ∧ Hid (Lib.validD l = ANS) ∧ n ≤ 1000000 ∧ Hid (Fr Nob w wx)) (fun s _ => slen s)
  case atStart => exact ⟨a, n, l, rfl, HR, HA, hn, Lib.hid (Fr.refl _ _)⟩
  case round =>
    clear HR HA hn
    obtain ⟨a, n, l, rfl, HRa, HV, hn, HF⟩ := hrel
    rcases Nat.eq_zero_or_pos n with h0 | h0
    · subst h0
      have hl : l = [] := List.eq_nil_of_length_eq_zero HRa.out.len
      have HA : ANS = true := by rw [← HV.out, hl]; rfl
      subst HA
      go_wp2_with fail
      go_ret
      exact ⟨rfl, HF.out⟩
    · have h0z : (0 : Int) < (n : Int) := by omega
      obtain ⟨g, o, rfl, -⟩ := RdB.at HRa.out h0
      have hlen := HRa.out.len
      have c0 : wr.cell? ⟨g, o, none⟩ = some (.int .u8 ((l.getD 0 0).toNat : Int)) := (HRa.out.still HF.out).cellAt (i := 0) h0
      by_cases hasc : (l.getD 0 0).toNat < 128
      · as_aux_lemma =>
          have hascI : ((l.getD 0 0).toNat : Int) < 128 := by omega
          have hascB : decide (((l.getD 0 0).toNat : Int) < 128) = true := decide_eq_true hascI
          have hv1 : Lib.validD (l.drop 1) = ANS := by
            rw [← HV.out]
            refine (Lib.validD_ascii 1 l fun b hb => ?_).symm
            match l, hlen with
            | x :: r, _ => simp at hb; subst hb; simpa using hasc
          generalize l.getD 0 0 = x0 at *
          obtain ⟨a1, n1, l1, hka1, hra1, hma1, hea1⟩ := cutS (P := Tryd.prog) Tryd.underlying24 size_u8W HRa.out 1 (by omega)
          have HRa1 := Lib.hid hra1
          have HEa1 := Lib.hid hea1
          have hka1' : ∀ wx, (Instr.sliceAt 24 (.slice (some ⟨g, o, none⟩) n n) (some (.int .i64 1)) none none).run Tryd.prog wx = .ok (.slice a1 n1 n1) wx := hka1
          clear hka1 hra1 hea1
          have HV1 := Lib.hid (show Lib.validD l1 = ANS by rw [HEa1.out]; exact hv1)
          clear hv1 hlen
          rcases Nat.lt_or_ge 8 n1 with c8 | c8
          · have c8I : (8 : Int) < (n1 : Int) := by omega
            have c8B : decide ((8 : Int) < (n1 : Int)) = true := decide_eq_true c8I
            have HL1 := Lib.hid HRa1.out.len
            have cw1 := fun (wx : World) (hf : Fr Nob w wx) => word_any a1 n1 n1 l1 wx (HRa1.out.still hf) (by omega)
            have hz := fun h => asc8 (l := l1) (by rw [HL1.out]; omega) h
            have hA := w8_lt l1
            generalize w8 l1 = A1 at *
            have hand1 : bits .and .u64 (A1 : Int) 9259542123273814144 = ((A1 &&& 9259542123273814144 : Nat) : Int) := u64_and_nat A1 9259542123273814144 hA (by omega)
            generalize A1 &&& 9259542123273814144 = Z1 at *
            have HZ := Lib.hid hz
            have HA1 := Lib.hid hA
            clear hz hA
            by_cases hz1 : Z1 = 0
            · have hz1B : ((Z1 : Int) == 0) = true := by simp [hz1]
              obtain ⟨a2, n2, l2, hka2, hra2, hma2, hea2⟩ := cutS (P := Tryd.prog) Tryd.underlying24 size_u8W HRa1.out 8 (by omega)
              have HRa2 := Lib.hid hra2
              have HEa2 := Lib.hid hea2
              have hka2' : ∀ wx, (Instr.sliceAt 24 (.slice a1 n1 n1) (some (.int .i64 8)) none none).run Tryd.prog wx = .ok (.slice a2 n2 n2) wx := hka2
              clear hka2 hra2 hea2
              have HV2 := Lib.hid (show Lib.validD l2 = ANS by rw [HEa2.out, HZ.out hz1]; exact HV1.out)
              clear hz1
              go_wp2_with (go_at_call 27; refine (cw1 _ HF.out).mono ?_; rintro e W1 ⟨rfl, q1, rfl⟩)
              have HF1 := Lib.hid (HF.out.drewN q1)
              generalize wr.drewN q1 = wq at *
              clear cw1 c0
              rcases Nat.lt_or_ge 16 n2 with c16 | c16
              · have c16I : (16 : Int) < (n2 : Int) := by omega
                have c16B : decide ((16 : Int) < (n2 : Int)) = true := decide_eq_true c16I
                have HL2 := Lib.hid HRa2.out.len
                obtain ⟨b2, m2, q2, hkb2, hrb2, hmb2, heb2⟩ := cutS (P := Tryd.prog) Tryd.underlying24 size_u8W HRa2.out 8 (by omega)
                have HRb2 := Lib.hid hrb2
                have HEb2 := Lib.hid heb2
                have hkb2' : ∀ wx, (Instr.sliceAt 24 (.slice a2 n2 n2) (some (.int .i64 8)) none none).run Tryd.prog wx = .ok (.slice b2 m2 m2) wx := hkb2
                clear hkb2 hrb2 heb2
                have cw2 := fun (wx : World) (hf : Fr Nob w wx) => word_any a2 n2 n2 l2 wx (HRa2.out.still hf) (by omega)
                have cw3 := fun (wx : World) (hf : Fr Nob w wx) => word_any b2 m2 m2 q2 wx (HRb2.out.still hf) (by omega)
                have hz := fun h => asc16 (l := l2) (by rw [HL2.out]; omega) HEb2.out h
                have hA2 := w8_lt l2
                have hA3 := w8_lt q2
                generalize w8 l2 = A2 at *
                generalize w8 q2 = A3 at *
                have hor2 : bits .or .u64 (A2 : Int) (A3 : Int) = ((A2 ||| A3 : Nat) : Int) := u64_or_nat A2 A3 hA2 hA3
                have lor2 : A2 ||| A3 < 18446744073709551616 := Nat.or_lt_two_pow (n := 64) hA2 hA3
                generalize A2 ||| A3 = O2 at *
                have hand2 : bits .and .u64 (O2 : Int) 9259542123273814144 = ((O2 &&& 9259542123273814144 : Nat) : Int) := u64_and_nat O2 9259542123273814144 lor2 (by omega)
                generalize O2 &&& 9259542123273814144 = Z2 at *
                have HZ2 := Lib.hid hz
                clear hz hA2 hA3 lor2
                have CW2 := Lib.hid cw2
                have CW3 := Lib.hid cw3
                clear cw2 cw3
                by_cases hz2 : Z2 = 0
                · have hz2B : ((Z2 : Int) == 0) = true := by simp [hz2]
                  obtain ⟨a3, n3, l3, hka3, hra3, hma3, hea3⟩ := cutS (P := Tryd.prog) Tryd.underlying24 size_u8W HRa2.out 16 (by omega)
                  have HRa3 := Lib.hid hra3
                  have HEa3 := Lib.hid hea3
                  have hka3' : ∀ wx, (Instr.sliceAt 24 (.slice a2 n2 n2) (some (.int .i64 16)) none none).run Tryd.prog wx = .ok (.slice a3 n3 n3) wx := hka3
                  clear hka3 hra3 hea3
                  have HV3 := Lib.hid (show Lib.validD l3 = ANS by rw [HEa3.out, HZ2.out hz2]; exact HV2.out)
                  clear hz2
                  go_big_quiet (first | (go_at_call_of 27 (Value.slice a2 n2 n2); refine Calls.quiet_of (CW2.out _ (HF1.out.drewN _))) | (go_at_call_of 27 (Value.slice b2 m2 m2); refine Calls.quiet_of (CW3.out _ (HF1.out.drewN _))))
                  have HF2 := Lib.hid (HF1.out.drewN nq)
                  generalize wq.drewN nq = wq2 at *
                  clear CW2 CW3 hor2 hand2 hand1 hka2' hkb2' hka1'
                  go_wp2_with fail
                  clear hka3'
                  go_loopw [0] (fun s wx => ∃ (a : Option Addr) (n : Nat) (l : List UInt8), s = .slice a n n ∧ Hid (RdB w a n l) ∧ Hid (Lib.validD l = ANS) ∧ n ≤ 1000000 ∧ n ≤ n3 ∧ Hid (Fr Nob w wx)) (fun s _ => slen s)
                  case atStart => exact ⟨a3, n3, l3, rfl, HRa3, HV3, by omega, Nat.le_refl _, HF2⟩
                  case round =>
                    obtain ⟨au, nu, lu, rfl, HRau, HVu, hnu, hle, HFu⟩ := hrel
                    rcases Nat.lt_or_ge 32 nu with c32 | c32
                    · have c32I : (32 : Int) < (nu : Int) := by omega
                      have c32B : decide ((32 : Int) < (nu : Int)) = true := decide_eq_true c32I
                      have HLu := Lib.hid HRau.out.len
                      obtain ⟨ub, nb, lb, hkub, hrub, hmub, heub⟩ := cutS (P := Tryd.prog) Tryd.underlying24 size_u8W HRau.out 8 (by omega)
                      have HRub := Lib.hid hrub
                      have HEub := Lib.hid heub
                      have hkub' : ∀ wx, (Instr.sliceAt 24 (.slice au nu nu) (some (.int .i64 8)) none none).run Tryd.prog wx = .ok (.slice ub nb nb) wx := hkub
                      clear hkub hrub heub
                      obtain ⟨uc, nc, lc, hkuc, hruc, hmuc, heuc⟩ := cutS (P := Tryd.prog) Tryd.underlying24 size_u8W HRau.out 16 (by omega)
                      have HRuc := Lib.hid hruc
                      have HEuc := Lib.hid heuc
                      have hkuc' : ∀ wx, (Instr.sliceAt 24 (.slice au nu nu) (some (.int .i64 16)) none none).run Tryd.prog wx = .ok (.slice uc nc nc) wx := hkuc
                      clear hkuc hruc heuc
                      obtain ⟨ud, nd, ld, hkud, hrud, hmud, heud⟩ := cutS (P := Tryd.prog) Tryd.underlying24 size_u8W HRau.out 24 (by omega)
                      have HRud := Lib.hid hrud
                      have HEud := Lib.hid heud
                      have hkud' : ∀ wx, (Instr.sliceAt 24 (.slice au nu nu) (some (.int .i64 24)) none none).run Tryd.prog wx = .ok (.slice ud nd nd) wx := hkud
                      clear hkud hrud heud
                      have CWa := Lib.hid fun (wx : World) (hf : Fr Nob w wx) => word_any au nu nu lu wx (HRau.out.still hf) (by omega)
                      have CWb := Lib.hid fun (wx : World) (hf : Fr Nob w wx) => word_any ub nb nb lb wx (HRub.out.still hf) (by omega)
                      have CWc := Lib.hid fun (wx : World) (hf : Fr Nob w wx) => word_any uc nc nc lc wx (HRuc.out.still hf) (by omega)
                      have CWd := Lib.hid fun (wx : World) (hf : Fr Nob w wx) => word_any ud nd nd ld wx (HRud.out.still hf) (by omega)
                      have HZ3 := Lib.hid fun h => asc32 (l := lu) (by rw [HLu.out]; omega) HEub.out HEuc.out HEud.out h
                      have lBa := w8_lt lu
                      have lBb := w8_lt lb
                      have lBc := w8_lt lc
                      have lBd := w8_lt ld
                      generalize w8 lu = Ba at *
                      generalize w8 lb = Bb at *
                      generalize w8 lc = Bc at *
                      generalize w8 ld = Bd at *
                      have ho1 : bits .or .u64 (Ba : Int) (Bb : Int) = ((Ba ||| Bb : Nat) : Int) := u64_or_nat Ba Bb lBa lBb
                      have ho2 : bits .or .u64 (Bc : Int) (Bd : Int) = ((Bc ||| Bd : Nat) : Int) := u64_or_nat Bc Bd lBc lBd
                      have lo1 : Ba ||| Bb < 18446744073709551616 := Nat.or_lt_two_pow (n := 64) lBa lBb
                      have lo2 : Bc ||| Bd < 18446744073709551616 := Nat.or_lt_two_pow (n := 64) lBc lBd
                      generalize Ba ||| Bb = P1 at *
                      generalize Bc ||| Bd = P2 at *
                      have ho3 : bits .or .u64 (P1 : Int) (P2 : Int) = ((P1 ||| P2 : Nat) : Int) := u64_or_nat P1 P2 lo1 lo2
                      have lo3 : P1 ||| P2 < 18446744073709551616 := Nat.or_lt_two_pow (n := 64) lo1 lo2
                      generalize P1 ||| P2 = P3 at *
                      have hand3 : bits .and .u64 (P3 : Int) 9259542123273814144 = ((P3 &&& 9259542123273814144 : Nat) : Int) := u64_and_nat P3 9259542123273814144 lo3 (by omega)
                      generalize P3 &&& 9259542123273814144 = Z3 at *
                      clear lBa lBb lBc lBd lo1 lo2 lo3
                      by_cases hz3 : Z3 = 0
                      · have hz3B : ((Z3 : Int) == 0) = true := by simp [hz3]
                        obtain ⟨ue, ne, le, hkue, hrue, hmue, heue⟩ := cutS (P := Tryd.prog) Tryd.underlying24 size_u8W HRau.out 32 (by omega)
                        have HRue := Lib.hid hrue
                        have HEue := Lib.hid heue
                        have hkue' : ∀ wx, (Instr.sliceAt 24 (.slice au nu nu) (some (.int .i64 32)) none none).run Tryd.prog wx = .ok (.slice ue ne ne) wx := hkue
                        clear hkue hrue heue
                        have HV4 := Lib.hid (show Lib.validD le = ANS by rw [HEue.out, HZ3.out hz3]; exact HVu.out)
                        clear hz3
                        go_wp2_with fail
                        go_big_quiet (first | (go_at_call_of 27 (Value.slice au nu nu); refine Calls.quiet_of (CWa.out _ (HFu.out.drewN _))) | (go_at_call_of 27 (Value.slice ub nb nb); refine Calls.quiet_of (CWb.out _ (HFu.out.drewN _))) | (go_at_call_of 27 (Value.slice uc nc nc); refine Calls.quiet_of (CWc.out _ (HFu.out.drewN _))) | (go_at_call_of 27 (Value.slice ud nd nd); refine Calls.quiet_of (CWd.out _ (HFu.out.drewN _))))
                        have HF4 := Lib.hid (HFu.out.drewN nq)
                        clear CWa CWb CWc CWd ho1 ho2 ho3 hand3
                        go_wp2_with fail
                        go_roundw
                        case rel => exact ⟨ue, ne, le, rfl, HRue, HV4, by omega, by omega, HF4⟩
                        case measure => show ne < nu; omega
                      · have hz3B : ((Z3 : Int) == 0) = false := by rw [beq_eq_false_iff_ne]; omega
                        clear hz3
                        go_wp2_with fail
                        go_big_quiet (first | (go_at_call_of 27 (Value.slice au nu nu); refine Calls.quiet_of (CWa.out _ (HFu.out.drewN _))) | (go_at_call_of 27 (Value.slice ub nb nb); refine Calls.quiet_of (CWb.out _ (HFu.out.drewN _))) | (go_at_call_of 27 (Value.slice uc nc nc); refine Calls.quiet_of (CWc.out _ (HFu.out.drewN _))) | (go_at_call_of 27 (Value.slice ud nd nd); refine Calls.quiet_of (CWd.out _ (HFu.out.drewN _))))
                        have HF4 := Lib.hid (HFu.out.drewN nq)
                        clear CWa CWb CWc CWd ho1 ho2 ho3 hand3
                        go_wp2_with fail
                        go_roundw
                        case rel => exact ⟨au, nu, lu, rfl, HRau, HVu, by omega, HF4⟩
                        case measure => show nu < n; omega
                    · have c32I : ¬ (32 : Int) < (nu : Int) := by omega
                      have c32B : decide ((32 : Int) < (nu : Int)) = false := decide_eq_false c32I
                      go_wp2_with fail
                      go_big_quiet (fail)
                      have HF4 := Lib.hid (HFu.out.drewN nq)
                      go_wp2_with fail
                      go_roundw
                      case rel => exact ⟨au, nu, lu, rfl, HRau, HVu, by omega, HF4⟩
                      case measure => show nu < n; omega
                · have hz2B : ((Z2 : Int) == 0) = false := by rw [beq_eq_false_iff_ne]; omega
                  clear hz2
                  go_big_quiet (first | (go_at_call_of 27 (Value.slice a2 n2 n2); refine Calls.quiet_of (CW2.out _ (HF1.out.drewN _))) | (go_at_call_of 27 (Value.slice b2 m2 m2); refine Calls.quiet_of (CW3.out _ (HF1.out.drewN _))))
                  have HF2 := Lib.hid (HF1.out.drewN nq)
                  clear CW2 CW3 hor2 hand2 hand1
                  go_wp2_with fail
                  go_roundw
                  case rel => exact ⟨a2, n2, l2, rfl, HRa2, HV2, by omega, HF2⟩
                  case measure => show n2 < n; omega
              · have c16I : ¬ (16 : Int) < (n2 : Int) := by omega
                have c16B : decide ((16 : Int) < (n2 : Int)) = false := decide_eq_false c16I
                go_big_quiet (fail)
                have HF2 := Lib.hid (HF1.out.drewN nq)
                go_wp2_with fail
                go_roundw
                case rel => exact ⟨a2, n2, l2, rfl, HRa2, HV2, by omega, HF2⟩
                case measure => show n2 < n; omega
            · have hz1B : ((Z1 : Int) == 0) = false := by rw [beq_eq_false_iff_ne]; omega
              clear hz1
              go_wp2_with (go_at_call 27; refine (cw1 _ HF.out).mono ?_; rintro e W1 ⟨rfl, q1, rfl⟩)
              have HF1 := Lib.hid (HF.out.drewN q1)
              go_roundw
              case rel => exact ⟨a1, n1, l1, rfl, HRa1, HV1, by omega, HF1⟩
              case measure => show n1 < n; omega
          · have c8I : ¬ (8 : Int) < (n1 : Int) := by omega
            have c8B : decide ((8 : Int) < (n1 : Int)) = false := decide_eq_false c8I
            go_wp2_with fail
            go_roundw
            case rel => exact ⟨a1, n1, l1, rfl, HRa1, HV1, by omega, HF⟩
            case measure => show n1 < n; omega
      · as_aux_lemma =>
          have hge : 128 ≤ (l.getD 0 0).toNat := by omega
          have hascI : ¬ ((l.getD 0 0).toNat : Int) < 128 := by omega
          have hascB : decide (((l.getD 0 0).toNat : Int) < 128) = false := decide_eq_false hascI
          have hne : l ≠ [] := fun h => by subst h; simp at hlen; omega
          have hx0 := (l.getD 0 0).toNat_lt
          have hlead := Lib.validD_lead l hne hge
          rw [HV.out, hlen] at hlead
          have hTr := HT.out
          have hc0 := HF.out.cell id (hTr.1 (l.getD 0 0).toNat hx0)
          have hXlt : Lib.firstT (l.getD 0 0).toNat < 256 := by rcases Lib.firstT_cases (l.getD 0 0).toNat with h | h | h | h | h | h | h | h | h <;> omega
          generalize Lib.firstT (l.getD 0 0).toNat = X at *
          have h7 := and7 ⟨X, hXlt⟩
          simp only at h7
          have ha0 : wr.cell? ⟨1, X / 16 * 2, none⟩ = some (.int .u8 (Lib.accLo (X / 16))) := by rw [Nat.mul_comm]; exact HF.out.cell id (hTr.2 (X / 16) (by omega)).1
          have ha1 : wr.cell? ⟨1, X / 16 * 2 + 1, none⟩ = some (.int .u8 (Lib.accHi (X / 16))) := by rw [Nat.mul_comm]; exact HF.out.cell id (hTr.2 (X / 16) (by omega)).2
          generalize Lib.accLo (X / 16) = LO at *
          generalize Lib.accHi (X / 16) = HI at *
          have HX1 := Lib.hid (fun h : 1 < n => (HRa.out.still HF.out).cellAt (i := 1) h)
          have HX2 := Lib.hid (fun h : 2 < n => (HRa.out.still HF.out).cellAt (i := 2) h)
          have HX3 := Lib.hid (fun h : 3 < n => (HRa.out.still HF.out).cellAt (i := 3) h)
          have l1 := (l.getD 1 0).toNat_lt
          have l2 := (l.getD 2 0).toNat_lt
          have l3 := (l.getD 3 0).toNat_lt
          generalize l.getD 0 0 = x0 at *
          generalize l.getD 1 0 = x1 at *
          generalize l.getD 2 0 = x2 at *
          generalize l.getD 3 0 = x3 at *
          have HLD := Lib.hid hlead
          clear hlead hge hne hTr hlen
          have hx16 : ((X : Int) / 16) < 16 := by omega
          have HXL := Lib.hid hXlt
          have hb := Has.new wr #[.int .u8 (LO : Int), .int .u8 (HI : Int)] 68
          have HF5 := Lib.hid (HF.out.alloc (.cells #[.int .u8 (LO : Int), .int .u8 (HI : Int)] 68))
          have HE := Lib.hid (show Fr Nob wr (wr.alloc (.cells #[.int .u8 (LO : Int), .int .u8 (HI : Int)] 68)) from (Fr.refl Nob wr).alloc _)
          have HHB := Lib.hid hb
          clear hb hXlt
          by_cases s2 : X % 8 = 2
          · skip
            have hS : (X : Int) % 8 = 2 := by omega
            have HSZ := Lib.hid s2
            clear s2
            go_wp2_with fail
            have e0 := HHB.out.cell (i := 0) (v := .int .u8 (LO : Int)) rfl
            have e1 := HHB.out.cell (i := 1) (v := .int .u8 (HI : Int)) rfl
            clear ha0 ha1 c0 hc0 h7
            generalize wr.alloc (.cells #[.int .u8 (LO : Int), .int .u8 (HI : Int)] 68) = wa at *
            generalize wr.heap.size = gs at *
            by_cases q0 : n < 2
            · have q0I : (n : Int) < 2 := by omega
              have q0B : decide ((n : Int) < 2) = true := decide_eq_true q0I
              go_big_quiet (fail)
              have HF6 := Lib.hid (HF5.out.drewN nq)
              have hA : ANS = false := by
                rw [HLD.out, HSZ.out]
                simp only [Lib.checkN, Nat.reduceEqDiff, if_true, if_false]
                rw [if_pos (by omega)]
              subst hA
              go_wp2_with fail
              go_ret
              exact ⟨rfl, HF6.out⟩
            · have q0I : ¬ ((n : Int) < 2) := by omega
              have q0B : decide ((n : Int) < 2) = false := decide_eq_false q0I
              have hz1 : (1 : Int) < (n : Int) := by omega
              have d1 := HE.out.cell id (HX1.out (by omega))
              clear HX1
              by_cases q1 : x1.toNat < LO
              · have q1I : (x1.toNat : Int) < (LO : Int) := by omega
                have q1B : decide ((x1.toNat : Int) < (LO : Int)) = true := decide_eq_true q1I
                go_big_quiet (fail)
                have HF6 := Lib.hid (HF5.out.drewN nq)
                have hA : ANS = false := by
                  rw [HLD.out, HSZ.out]
                  simp only [Lib.checkN, Nat.reduceEqDiff, if_true, if_false]
                  rw [if_pos (by omega)]
                subst hA
                go_wp2_with fail
                go_ret
                exact ⟨rfl, HF6.out⟩
              · have q1I : ¬ ((x1.toNat : Int) < (LO : Int)) := by omega
                have q1B : decide ((x1.toNat : Int) < (LO : Int)) = false := decide_eq_false q1I
                by_cases q2 : HI < x1.toNat
                · have q2I : (HI : Int) < (x1.toNat : Int) := by omega
                  have q2B : decide ((HI : Int) < (x1.toNat : Int)) = true := decide_eq_true q2I
                  go_big_quiet (fail)
                  have HF6 := Lib.hid (HF5.out.drewN nq)
                  have hA : ANS = false := by
                    rw [HLD.out, HSZ.out]
                    simp only [Lib.checkN, Nat.reduceEqDiff, if_true, if_false]
                    rw [if_pos (by omega)]
                  subst hA
                  go_wp2_with fail
                  go_ret
                  exact ⟨rfl, HF6.out⟩
                · have q2I : ¬ ((HI : Int) < (x1.toNat : Int)) := by omega
                  have q2B : decide ((HI : Int) < (x1.toNat : Int)) = false := decide_eq_false q2I
                  obtain ⟨a2, n2, l2, hka2, hra2, hma2, hea2⟩ := cutS (P := Tryd.prog) Tryd.underlying24 size_u8W HRa.out 2 (by omega)
                  have HRa2 := Lib.hid hra2
                  have HEa2 := Lib.hid hea2
                  have hka2' : ∀ wx, (Instr.sliceAt 24 (.slice (some ⟨g, o, none⟩) n n) (some (.int .i64 2)) none none).run Tryd.prog wx = .ok (.slice a2 n2 n2) wx := hka2
                  clear hka2 hra2 hea2
                  go_big_quiet (fail)
                  have HF6 := Lib.hid (HF5.out.drewN nq)
                  have HV2 := Lib.hid (show Lib.validD l2 = ANS by
                    rw [HLD.out, HSZ.out]
                    simp only [Lib.checkN, Nat.reduceEqDiff, if_true, if_false]
                    rw [if_neg (by omega), HEa2.out])
                  go_wp2_with fail
                  go_roundw
                  case rel => exact ⟨a2, n2, l2, rfl, HRa2, HV2, by omega, HF6⟩
                  case measure => show n2 < n; omega
          by_cases s3 : X % 8 = 3
          · skip
            have hS : (X : Int) % 8 = 3 := by omega
            have HSZ := Lib.hid s3
            clear s3
            go_wp2_with fail
            have e0 := HHB.out.cell (i := 0) (v := .int .u8 (LO : Int)) rfl
            have e1 := HHB.out.cell (i := 1) (v := .int .u8 (HI : Int)) rfl
            clear ha0 ha1 c0 hc0 h7
            generalize wr.alloc (.cells #[.int .u8 (LO : Int), .int .u8 (HI : Int)] 68) = wa at *
            generalize wr.heap.size = gs at *
            by_cases q0 : n < 3
            · have q0I : (n : Int) < 3 := by omega
              have q0B : decide ((n : Int) < 3) = true := decide_eq_true q0I
              go_big_quiet (fail)
              have HF6 := Lib.hid (HF5.out.drewN nq)
              have hA : ANS = false := by
                rw [HLD.out, HSZ.out]
                simp only [Lib.checkN, Nat.reduceEqDiff, if_true, if_false]
                rw [if_pos (by omega)]
              subst hA
              go_wp2_with fail
              go_ret
              exact ⟨rfl, HF6.out⟩
            · have q0I : ¬ ((n : Int) < 3) := by omega
              have q0B : decide ((n : Int) < 3) = false := decide_eq_false q0I
              have hz1 : (1 : Int) < (n : Int) := by omega
              have d1 := HE.out.cell id (HX1.out (by omega))
              clear HX1
              have hz2 : (2 : Int) < (n : Int) := by omega
              have d2 := HE.out.cell id (HX2.out (by omega))
              clear HX2
              by_cases q1 : x1.toNat < LO
              · have q1I : (x1.toNat : Int) < (LO : Int) := by omega
                have q1B : decide ((x1.toNat : Int) < (LO : Int)) = true := decide_eq_true q1I
                go_big_quiet (fail)
                have HF6 := Lib.hid (HF5.out.drewN nq)
                have hA : ANS = false := by
                  rw [HLD.out, HSZ.out]
                  simp only [Lib.checkN, Nat.reduceEqDiff, if_true, if_false]
                  rw [if_pos (by omega)]
                subst hA
                go_wp2_with fail
                go_ret
                exact ⟨rfl, HF6.out⟩
              · have q1I : ¬ ((x1.toNat : Int) < (LO : Int)) := by omega
                have q1B : decide ((x1.toNat : Int) < (LO : Int)) = false := decide_eq_false q1I
                by_cases q2 : HI < x1.toNat
                · have q2I : (HI : Int) < (x1.toNat : Int) := by omega
                  have q2B : decide ((HI : Int) < (x1.toNat : Int)) = true := decide_eq_true q2I
                  go_big_quiet (fail)
                  have HF6 := Lib.hid (HF5.out.drewN nq)
                  have hA : ANS = false := by
                    rw [HLD.out, HSZ.out]
                    simp only [Lib.checkN, Nat.reduceEqDiff, if_true, if_false]
                    rw [if_pos (by omega)]
                  subst hA
                  go_wp2_with fail
                  go_ret
                  exact ⟨rfl, HF6.out⟩
                · have q2I : ¬ ((HI : Int) < (x1.toNat : Int)) := by omega
                  have q2B : decide ((HI : Int) < (x1.toNat : Int)) = false := decide_eq_false q2I
                  by_cases q3 : x2.toNat < 128
                  · have q3I : (x2.toNat : Int) < 128 := by omega
                    have q3B : decide ((x2.toNat : Int) < 128) = true := decide_eq_true q3I
                    go_big_quiet (fail)
                    have HF6 := Lib.hid (HF5.out.drewN nq)
                    have hA : ANS = false := by
                      rw [HLD.out, HSZ.out]
                      simp only [Lib.checkN, Nat.reduceEqDiff, if_true, if_false]
                      rw [if_pos (by omega)]
                    subst hA
                    go_wp2_with fail
                    go_ret
                    exact ⟨rfl, HF6.out⟩
                  · have q3I : ¬ ((x2.toNat : Int) < 128) := by omega
                    have q3B : decide ((x2.toNat : Int) < 128) = false := decide_eq_false q3I
                    by_cases q4 : 191 < x2.toNat
                    · have q4I : (191 : Int) < (x2.toNat : Int) := by omega
                      have q4B : decide ((191 : Int) < (x2.toNat : Int)) = true := decide_eq_true q4I
                      go_big_quiet (fail)
                      have HF6 := Lib.hid (HF5.out.drewN nq)
                      have hA : ANS = false := by
                        rw [HLD.out, HSZ.out]
                        simp only [Lib.checkN, Nat.reduceEqDiff, if_true, if_false]
                        rw [if_pos (by omega)]
                      subst hA
                      go_wp2_with fail
                      go_ret
                      exact ⟨rfl, HF6.out⟩
                    · have q4I : ¬ ((191 : Int) < (x2.toNat : Int)) := by omega
                      have q4B : decide ((191 : Int) < (x2.toNat : Int)) = false := decide_eq_false q4I
                      obtain ⟨a2, n2, l2, hka2, hra2, hma2, hea2⟩ := cutS (P := Tryd.prog) Tryd.underlying24 size_u8W HRa.out 3 (by omega)
                      have HRa2 := Lib.hid hra2
                      have HEa2 := Lib.hid hea2
                      have hka2' : ∀ wx, (Instr.sliceAt 24 (.slice (some ⟨g, o, none⟩) n n) (some (.int .i64 3)) none none).run Tryd.prog wx = .ok (.slice a2 n2 n2) wx := hka2
                      clear hka2 hra2 hea2
                      go_big_quiet (fail)
                      have HF6 := Lib.hid (HF5.out.drewN nq)
                      have HV2 := Lib.hid (show Lib.validD l2 = ANS by
                        rw [HLD.out, HSZ.out]
                        simp only [Lib.checkN, Nat.reduceEqDiff, if_true, if_false]
                        rw [if_neg (by omega), HEa2.out])
                      go_wp2_with fail
                      go_roundw
                      case rel => exact ⟨a2, n2, l2, rfl, HRa2, HV2, by omega, HF6⟩
                      case measure => show n2 < n; omega
          by_cases s4 : X % 8 = 4
          · skip
            have hS : (X : Int) % 8 = 4 := by omega
            have HSZ := Lib.hid s4
            clear s4
            go_wp2_with fail
            have e0 := HHB.out.cell (i := 0) (v := .int .u8 (LO : Int)) rfl
            have e1 := HHB.out.cell (i := 1) (v := .int .u8 (HI : Int)) rfl
            clear ha0 ha1 c0 hc0 h7
            generalize wr.alloc (.cells #[.int .u8 (LO : Int), .int .u8 (HI : Int)] 68) = wa at *
            generalize wr.heap.size = gs at *
            by_cases q0 : n < 4
            · have q0I : (n : Int) < 4 := by omega
              have q0B : decide ((n : Int) < 4) = true := decide_eq_true q0I
              go_big_quiet (fail)
              have HF6 := Lib.hid (HF5.out.drewN nq)
              have hA : ANS = false := by
                rw [HLD.out, HSZ.out]
                simp only [Lib.checkN, Nat.reduceEqDiff, if_true, if_false]
                rw [if_pos (by omega)]
              subst hA
              go_wp2_with fail
              go_ret
              exact ⟨rfl, HF6.out⟩
            · have q0I : ¬ ((n : Int) < 4) := by omega
              have q0B : decide ((n : Int) < 4) = false := decide_eq_false q0I
              have hz1 : (1 : Int) < (n : Int) := by omega
              have d1 := HE.out.cell id (HX1.out (by omega))
              clear HX1
              have hz2 : (2 : Int) < (n : Int) := by omega
              have d2 := HE.out.cell id (HX2.out (by omega))
              clear HX2
              have hz3 : (3 : Int) < (n : Int) := by omega
              have d3 := HE.out.cell id (HX3.out (by omega))
              clear HX3
              by_cases q1 : x1.toNat < LO
              · have q1I : (x1.toNat : Int) < (LO : Int) := by omega
                have q1B : decide ((x1.toNat : Int) < (LO : Int)) = true := decide_eq_true q1I
                go_big_quiet (fail)
                have HF6 := Lib.hid (HF5.out.drewN nq)
                have hA : ANS = false := by
                  rw [HLD.out, HSZ.out]
                  simp only [Lib.checkN, Nat.reduceEqDiff, if_true, if_false]
                  rw [if_pos (by omega)]
                subst hA
                go_wp2_with fail
                go_ret
                exact ⟨rfl, HF6.out⟩
              · have q1I : ¬ ((x1.toNat : Int) < (LO : Int)) := by omega
                have q1B : decide ((x1.toNat : Int) < (LO : Int)) = false := decide_eq_false q1I
                by_cases q2 : HI < x1.toNat
                · have q2I : (HI : Int) < (x1.toNat : Int) := by omega
                  have q2B : decide ((HI : Int) < (x1.toNat : Int)) = true := decide_eq_true q2I
                  go_big_quiet (fail)
                  have HF6 := Lib.hid (HF5.out.drewN nq)
                  have hA : ANS = false := by
                    rw [HLD.out, HSZ.out]
                    simp only [Lib.checkN, Nat.reduceEqDiff, if_true, if_false]
                    rw [if_pos (by omega)]
                  subst hA
                  go_wp2_with fail
                  go_ret
                  exact ⟨rfl, HF6.out⟩
                · have q2I : ¬ ((HI : Int) < (x1.toNat : Int)) := by omega
                  have q2B : decide ((HI : Int) < (x1.toNat : Int)) = false := decide_eq_false q2I
                  by_cases q3 : x2.toNat < 128
                  · have q3I : (x2.toNat : Int) < 128 := by omega
                    have q3B : decide ((x2.toNat : Int) < 128) = true := decide_eq_true q3I
                    go_big_quiet (fail)
                    have HF6 := Lib.hid (HF5.out.drewN nq)
                    have hA : ANS = false := by
                      rw [HLD.out, HSZ.out]
                      simp only [Lib.checkN, Nat.reduceEqDiff, if_true, if_false]
                      rw [if_pos (by omega)]
                    subst hA
                    go_wp2_with fail
                    go_ret
                    exact ⟨rfl, HF6.out⟩
                  · have q3I : ¬ ((x2.toNat : Int) < 128) := by omega
                    have q3B : decide ((x2.toNat : Int) < 128) = false := decide_eq_false q3I
                    by_cases q4 : 191 < x2.toNat
                    · have q4I : (191 : Int) < (x2.toNat : Int) := by omega
                      have q4B : decide ((191 : Int) < (x2.toNat : Int)) = true := decide_eq_true q4I
                      go_big_quiet (fail)
                      have HF6 := Lib.hid (HF5.out.drewN nq)
                      have hA : ANS = false := by
                        rw [HLD.out, HSZ.out]
                        simp only [Lib.checkN, Nat.reduceEqDiff, if_true, if_false]
                        rw [if_pos (by omega)]
                      subst hA
                      go_wp2_with fail
                      go_ret
                      exact ⟨rfl, HF6.out⟩
                    · have q4I : ¬ ((191 : Int) < (x2.toNat : Int)) := by omega
                      have q4B : decide ((191 : Int) < (x2.toNat : Int)) = false := decide_eq_false q4I
                      by_cases q5 : x3.toNat < 128
                      · have q5I : (x3.toNat : Int) < 128 := by omega
                        have q5B : decide ((x3.toNat : Int) < 128) = true := decide_eq_true q5I
                        go_big_quiet (fail)
                        have HF6 := Lib.hid (HF5.out.drewN nq)
                        have hA : ANS = false := by
                          rw [HLD.out, HSZ.out]
                          simp only [Lib.checkN, Nat.reduceEqDiff, if_true, if_false]
                          rw [if_pos (by omega)]
                        subst hA
                        go_wp2_with fail
                        go_ret
                        exact ⟨rfl, HF6.out⟩
                      · have q5I : ¬ ((x3.toNat : Int) < 128) := by omega
                        have q5B : decide ((x3.toNat : Int) < 128) = false := decide_eq_false q5I
                        by_cases q6 : 191 < x3.toNat
                        · have q6I : (191 : Int) < (x3.toNat : Int) := by omega
                          have q6B : decide ((191 : Int) < (x3.toNat : Int)) = true := decide_eq_true q6I
                          go_big_quiet (fail)
                          have HF6 := Lib.hid (HF5.out.drewN nq)
                          have hA : ANS = false := by
                            rw [HLD.out, HSZ.out]
                            simp only [Lib.checkN, Nat.reduceEqDiff, if_true, if_false]
                            rw [if_pos (by omega)]
                          subst hA
                          go_wp2_with fail
                          go_ret
                          exact ⟨rfl, HF6.out⟩
                        · have q6I : ¬ ((191 : Int) < (x3.toNat : Int)) := by omega
                          have q6B : decide ((191 : Int) < (x3.toNat : Int)) = false := decide_eq_false q6I
                          obtain ⟨a2, n2, l2, hka2, hra2, hma2, hea2⟩ := cutS (P := Tryd.prog) Tryd.underlying24 size_u8W HRa.out 4 (by omega)
                          have HRa2 := Lib.hid hra2
                          have HEa2 := Lib.hid hea2
                          have hka2' : ∀ wx, (Instr.sliceAt 24 (.slice (some ⟨g, o, none⟩) n n) (some (.int .i64 4)) none none).run Tryd.prog wx = .ok (.slice a2 n2 n2) wx := hka2
                          clear hka2 hra2 hea2
                          go_big_quiet (fail)
                          have HF6 := Lib.hid (HF5.out.drewN nq)
                          have HV2 := Lib.hid (show Lib.validD l2 = ANS by
                            rw [HLD.out, HSZ.out]
                            simp only [Lib.checkN, Nat.reduceEqDiff, if_true, if_false]
                            rw [if_neg (by omega), HEa2.out])
                          go_wp2_with fail
                          go_roundw
                          case rel => exact ⟨a2, n2, l2, rfl, HRa2, HV2, by omega, HF6⟩
                          case measure => show n2 < n; omega
          have e2b : (((X : Int) % 8) == 2) = false := by rw [beq_eq_false_iff_ne]; omega
          have e3b : (((X : Int) % 8) == 3) = false := by rw [beq_eq_false_iff_ne]; omega
          have e4b : (((X : Int) % 8) == 4) = false := by rw [beq_eq_false_iff_ne]; omega
          have hA : ANS = false := by
            rw [HLD.out]
            simp only [Lib.checkN, s2, s3, s4, if_false]
          subst hA
          clear s2 s3 s4
          go_wp2_with fail
          go_ret
          exact ⟨rfl, HF5.out⟩
end Go.Proofs.YtdadnajbdnbbdaaDoor


/- wire: the reference's head (printed by gen_wp13.py). -/
namespace Go.Proofs.YtdadnajbdnbbdaaDoor
open Go.RowKit Go.Mv Mvp
theorem mkS_app (a b : List UInt8) : mkS a ++ mkS b = mkS (a ++ b) := by
  apply ByteArray.ext
  simp [mkS]
theorem orW8 (kd n : Nat) (hk : kd < 8) (hn : n < 32) : bits .or .u8 ((kd : Int) * 32) (n : Int) = ((kd * 32 + n : Nat) : Int) := by
  have h := or_natW kd n hk hn
  rw [Int.natCast_mul] at h
  exact h
set_option maxHeartbeats 4000000 in
set_option maxRecDepth 1000000 in
theorem RHead_lo (kd n : Nat) (hk : kd < 8) (hn : n < 24) (w : World) : Calls Tryd.prog 20 #[.int .i64 (kd : Int), .int .u64 (n : Int)] w fun e w' => e = .returned (.string (mkS (headW kd n))) ∧ Fr Nob w w' := by
  have hkI : (kd : Int) < 8 := by omega
  have hnI : (n : Int) < 24 := by omega
  have hor := orW8 kd n hk (by omega)
  have hby : ((kd * 32 + n : Nat) : Int) = ((UInt8.ofNat (kd * 32 + n)).toNat : Int) := by rw [UInt8.toNat_ofNat', Nat.mod_eq_of_lt (by omega)]
  rw [hby] at hor
  obtain ⟨yb, hyb⟩ : ∃ yb, UInt8.ofNat (kd * 32 + n) = yb := ⟨_, rfl⟩
  rw [hyb] at hor
  have HYB := Lib.hid hyb
  have HN := Lib.hid hn
  clear hby hyb hk hn
  go_enter Tryd.func20, Tryd.ntmps20
  go_wp2_with (with_reducible refine wl_stop (o := ⟨some 21, _, _, _, _, _⟩) ?_)
  unfold Stop
  refine wl_slit rfl rfl Tryd.underlying24 info_u8W [.int .u8 (yb.toNat : Int)] rfl (by simp [Value.cells]) rfl rfl ?_
  intro w1 hh1 hf1 hz1
  clear hz1 hor
  have hs := run_string (P := Tryd.prog) (show RdB w1 (some ⟨w.heap.size, 0, none⟩) 1 [yb] from Rd.whole hh1) 1 Tryd.underlying24 Tryd.underlying5 Tryd.underlying9
  have HF := Lib.hid hf1
  clear hh1 hf1
  go_wp2_with fail
  go_ret
  refine ⟨?_, HF.out⟩
  have e : headW kd n = [yb] := by rw [← HYB.out]; unfold headW; rw [if_pos HN.out]
  rw [e]
  rfl
set_option maxHeartbeats 4000000 in
set_option maxRecDepth 1000000 in
theorem RHead_1 (kd n : Nat) (hk : kd < 8) (hlo : 24 ≤ n) (hn : n < 256) (w : World) : Calls Tryd.prog 20 #[.int .i64 (kd : Int), .int .u64 (n : Int)] w fun e w' => e = .returned (.string (mkS (headW kd n))) ∧ Fr Nob w w' := by
  have hkI : (kd : Int) < 8 := by omega
  have hk0 : (0 : Int) ≤ (kd : Int) := by omega
  have hI24 : ¬ (n : Int) < 24 := by omega
  have hIh : (n : Int) < 256 := by omega
  have hor := orW8 kd 24 hk (by omega)
  have hor2 : bits .or .u8 ((kd : Int) * 32) 24 = (kd : Int) * 32 + 24 := by rw [show ((24 : Int)) = ((24 : Nat) : Int) from rfl, hor]; omega
  clear hor
  obtain ⟨H, hH⟩ : ∃ H, headW kd n = H := ⟨_, rfl⟩
  have hby : ((kd : Int) * 32 + 24) = ((UInt8.ofNat (kd * 32 + 24)).toNat : Int) := by
    have h : (UInt8.ofNat (kd * 32 + 24)).toNat = kd * 32 + 24 := by rw [UInt8.toNat_ofNat', Nat.mod_eq_of_lt (by omega)]
    omega
  have HN := Lib.hid hn
  have HH := Lib.hid (show UInt8.ofNat (kd * 32 + 24) :: beW n 1 = H by rw [← hH]; unfold headW; rw [if_neg (by omega), if_pos HN.out]; try rfl)
  have HN64 := Lib.hid (show n < 18446744073709551616 by omega)
  rw [hH]
  obtain ⟨yb, hyb⟩ : ∃ yb, UInt8.ofNat (kd * 32 + 24) = yb := ⟨_, rfl⟩
  rw [hyb] at hby HH
  have HBY := Lib.hid hby
  clear hH hyb hby hk hn hlo
  go_enter Tryd.func20, Tryd.ntmps20
  go_wp2_with fail
  go_loopw [8, 7] (fun s f wr => wr = w ∧ ((s = .int .i64 1 ∧ f = .int .u8 ((kd : Int) * 32 + 24)))) (fun s _ _ => (intOf s).toNat)
  case atStart => exact ⟨rfl, ⟨rfl, rfl⟩⟩
  case round =>
    obtain ⟨rfl, ⟨rfl, rfl⟩⟩ := hrel
    · simp only [HBY.out]
      go_wp2_with (with_reducible refine wl_stop (o := ⟨some 42, _, _, _, _, _⟩) ?_)
      unfold Stop
      refine wl_slit rfl rfl Tryd.underlying24 info_u8W [.int .u8 (yb.toNat : Int)] rfl (by simp [Value.cells]) rfl rfl ?_
      intro w1 hh1 hf1 hz1
      clear hz1
      have hs := run_string (P := Tryd.prog) (show RdB w1 (some ⟨wr.heap.size, 0, none⟩) 1 [yb] from Rd.whole hh1) 1 Tryd.underlying24 Tryd.underlying5 Tryd.underlying9
      have HF := Lib.hid hf1
      clear hh1 hf1
      go_wp2_with fail
      clear hs
      go_loopw [10, 9] (fun i o wx => ∃ (k : Nat) (b' : List UInt8), k ≤ 1 ∧ i = .int .i64 ((k : Int) - 1) ∧ o = .string (mkS b') ∧ Hid (b' ++ beW n k = H) ∧ Hid (b'.length ≤ 9 - k) ∧ Hid (Fr Nob wr wx)) (fun i _ _ => (intOf i + 1).toNat)
      case atStart => exact ⟨1, [yb], by omega, rfl, rfl, HH, Lib.hid (by simp), HF⟩
      case round =>
        clear HH HF
        obtain ⟨k, b', hk, rfl, rfl, HE, HL, HF⟩ := hrel
        obtain rfl | rfl : k = 0 ∨ k = 1 := by omega
        · have hk1 : ((0 : Nat) : Int) - 1 = -1 := rfl
          simp only [hk1]
          go_wp2_with fail
          go_ret
          refine ⟨?_, HF.out⟩
          have h := HE.out
          rw [show beW n 0 = [] from rfl, List.append_nil] at h
          rw [← h]; rfl
        · have hk1 : ((1 : Nat) : Int) - 1 = 0 := rfl
          simp only [hk1]
          have hs := shr_natW n 0 0 rfl HN64.out
          obtain ⟨xb, hxb⟩ : ∃ xb, UInt8.ofNat (n / 1) = xb := ⟨_, rfl⟩
          have hw : ((n / 1 : Nat) : Int) % 256 = (xb.toNat : Int) := by rw [← hxb, UInt8.toNat_ofNat']; omega
          have hw2 : ((n : Int) / 1) % 256 = (xb.toNat : Int) := by rw [← hw]; omega
          have HXB := Lib.hid hxb
          clear hxb
          go_wp2_with (with_reducible refine wl_stop (o := ⟨some 56, _, _, _, _, _⟩) ?_)
          unfold Stop
          refine wl_slit rfl rfl Tryd.underlying24 info_u8W [.int .u8 (xb.toNat : Int)] (by simp [Act.eval]; omega) (by simp [Value.cells]) rfl rfl ?_
          intro w2 hh2 hf2 hz2
          clear hz2 hs hw hw2
          have hs := run_string (P := Tryd.prog) (show RdB w2 (some ⟨wr.heap.size, 0, none⟩) 1 [xb] from Rd.whole hh2) 1 Tryd.underlying24 Tryd.underlying5 Tryd.underlying9
          have HF2 := Lib.hid (HF.out.then hf2)
          have hsz : ((mkS b').size : Int) ≤ 9 := by rw [mkS_size]; have := HL.out; omega
          have hsz1 : ((mkS [xb]).size : Int) = 1 := by rw [mkS_size]; rfl
          clear hh2 hf2
          go_wp2_with fail
          go_roundw
          case rel => exact ⟨0, b' ++ [xb], by omega, by go_num, by rw [← mkS_app], Lib.hid (by rw [← HE.out, ← HXB.out, List.append_assoc]; rfl), Lib.hid (by have := HL.out; rw [List.length_append, List.length_singleton]; omega), HF2⟩
          case measure => simp [intOf]
set_option maxHeartbeats 4000000 in
set_option maxRecDepth 1000000 in
theorem RHead_2 (kd n : Nat) (hk : kd < 8) (hlo : 256 ≤ n) (hn : n < 65536) (w : World) : Calls Tryd.prog 20 #[.int .i64 (kd : Int), .int .u64 (n : Int)] w fun e w' => e = .returned (.string (mkS (headW kd n))) ∧ Fr Nob w w' := by
  have hkI : (kd : Int) < 8 := by omega
  have hk0 : (0 : Int) ≤ (kd : Int) := by omega
  have hI24 : ¬ (n : Int) < 24 := by omega
  have hI256 : ¬ (n : Int) < 256 := by omega
  have hIh : (n : Int) < 65536 := by omega
  have hor := orW8 kd 24 hk (by omega)
  have hor2 : bits .or .u8 ((kd : Int) * 32) 24 = (kd : Int) * 32 + 24 := by rw [show ((24 : Int)) = ((24 : Nat) : Int) from rfl, hor]; omega
  clear hor
  obtain ⟨H, hH⟩ : ∃ H, headW kd n = H := ⟨_, rfl⟩
  have hby : ((kd : Int) * 32 + 25) = ((UInt8.ofNat (kd * 32 + 25)).toNat : Int) := by
    have h : (UInt8.ofNat (kd * 32 + 25)).toNat = kd * 32 + 25 := by rw [UInt8.toNat_ofNat', Nat.mod_eq_of_lt (by omega)]
    omega
  have HN := Lib.hid hn
  have HH := Lib.hid (show UInt8.ofNat (kd * 32 + 25) :: beW n 2 = H by rw [← hH]; unfold headW; rw [if_neg (by omega), if_neg (by omega), if_pos HN.out]; try rfl)
  have HN64 := Lib.hid (show n < 18446744073709551616 by omega)
  rw [hH]
  obtain ⟨yb, hyb⟩ : ∃ yb, UInt8.ofNat (kd * 32 + 25) = yb := ⟨_, rfl⟩
  rw [hyb] at hby HH
  have HBY := Lib.hid hby
  clear hH hyb hby hk hn hlo
  go_enter Tryd.func20, Tryd.ntmps20
  go_wp2_with fail
  go_loopw [8, 7] (fun s f wr => wr = w ∧ ((s = .int .i64 2 ∧ f = .int .u8 ((kd : Int) * 32 + 24)) ∨ (s = .int .i64 1 ∧ f = .int .u8 ((kd : Int) * 32 + 25)))) (fun s _ _ => (intOf s).toNat)
  case atStart => exact ⟨rfl, .inl ⟨rfl, rfl⟩⟩
  case round =>
    obtain ⟨rfl, ⟨rfl, rfl⟩ | ⟨rfl, rfl⟩⟩ := hrel
    · go_wp2_with fail
      go_roundw
      case rel => simp; try omega
      case measure => simp [intOf]
    · simp only [HBY.out]
      go_wp2_with (with_reducible refine wl_stop (o := ⟨some 42, _, _, _, _, _⟩) ?_)
      unfold Stop
      refine wl_slit rfl rfl Tryd.underlying24 info_u8W [.int .u8 (yb.toNat : Int)] rfl (by simp [Value.cells]) rfl rfl ?_
      intro w1 hh1 hf1 hz1
      clear hz1
      have hs := run_string (P := Tryd.prog) (show RdB w1 (some ⟨wr.heap.size, 0, none⟩) 1 [yb] from Rd.whole hh1) 1 Tryd.underlying24 Tryd.underlying5 Tryd.underlying9
      have HF := Lib.hid hf1
      clear hh1 hf1
      go_wp2_with fail
      clear hs
      go_loopw [10, 9] (fun i o wx => ∃ (k : Nat) (b' : List UInt8), k ≤ 2 ∧ i = .int .i64 ((k : Int) - 1) ∧ o = .string (mkS b') ∧ Hid (b' ++ beW n k = H) ∧ Hid (b'.length ≤ 9 - k) ∧ Hid (Fr Nob wr wx)) (fun i _ _ => (intOf i + 1).toNat)
      case atStart => exact ⟨2, [yb], by omega, rfl, rfl, HH, Lib.hid (by simp), HF⟩
      case round =>
        clear HH HF
        obtain ⟨k, b', hk, rfl, rfl, HE, HL, HF⟩ := hrel
        obtain rfl | rfl | rfl : k = 0 ∨ k = 1 ∨ k = 2 := by omega
        · have hk1 : ((0 : Nat) : Int) - 1 = -1 := rfl
          simp only [hk1]
          go_wp2_with fail
          go_ret
          refine ⟨?_, HF.out⟩
          have h := HE.out
          rw [show beW n 0 = [] from rfl, List.append_nil] at h
          rw [← h]; rfl
        · have hk1 : ((1 : Nat) : Int) - 1 = 0 := rfl
          simp only [hk1]
          have hs := shr_natW n 0 0 rfl HN64.out
          obtain ⟨xb, hxb⟩ : ∃ xb, UInt8.ofNat (n / 1) = xb := ⟨_, rfl⟩
          have hw : ((n / 1 : Nat) : Int) % 256 = (xb.toNat : Int) := by rw [← hxb, UInt8.toNat_ofNat']; omega
          have hw2 : ((n : Int) / 1) % 256 = (xb.toNat : Int) := by rw [← hw]; omega
          have HXB := Lib.hid hxb
          clear hxb
          go_wp2_with (with_reducible refine wl_stop (o := ⟨some 56, _, _, _, _, _⟩) ?_)
          unfold Stop
          refine wl_slit rfl rfl Tryd.underlying24 info_u8W [.int .u8 (xb.toNat : Int)] (by simp [Act.eval]; omega) (by simp [Value.cells]) rfl rfl ?_
          intro w2 hh2 hf2 hz2
          clear hz2 hs hw hw2
          have hs := run_string (P := Tryd.prog) (show RdB w2 (some ⟨wr.heap.size, 0, none⟩) 1 [xb] from Rd.whole hh2) 1 Tryd.underlying24 Tryd.underlying5 Tryd.underlying9
          have HF2 := Lib.hid (HF.out.then hf2)
          have hsz : ((mkS b').size : Int) ≤ 9 := by rw [mkS_size]; have := HL.out; omega
          have hsz1 : ((mkS [xb]).size : Int) = 1 := by rw [mkS_size]; rfl
          clear hh2 hf2
          go_wp2_with fail
          go_roundw
          case rel => exact ⟨0, b' ++ [xb], by omega, by go_num, by rw [← mkS_app], Lib.hid (by rw [← HE.out, ← HXB.out, List.append_assoc]; rfl), Lib.hid (by have := HL.out; rw [List.length_append, List.length_singleton]; omega), HF2⟩
          case measure => simp [intOf]
        · have hk1 : ((2 : Nat) : Int) - 1 = 1 := rfl
          simp only [hk1]
          have hs := shr_natW n 8 8 rfl HN64.out
          obtain ⟨xb, hxb⟩ : ∃ xb, UInt8.ofNat (n / 256) = xb := ⟨_, rfl⟩
          have hw : ((n / 256 : Nat) : Int) % 256 = (xb.toNat : Int) := by rw [← hxb, UInt8.toNat_ofNat']; omega
          have hw2 : ((n : Int) / 256) % 256 = (xb.toNat : Int) := by rw [← hw]; omega
          have HXB := Lib.hid hxb
          clear hxb
          go_wp2_with (with_reducible refine wl_stop (o := ⟨some 56, _, _, _, _, _⟩) ?_)
          unfold Stop
          refine wl_slit rfl rfl Tryd.underlying24 info_u8W [.int .u8 (xb.toNat : Int)] (by simp [Act.eval]; omega) (by simp [Value.cells]) rfl rfl ?_
          intro w2 hh2 hf2 hz2
          clear hz2 hs hw hw2
          have hs := run_string (P := Tryd.prog) (show RdB w2 (some ⟨wr.heap.size, 0, none⟩) 1 [xb] from Rd.whole hh2) 1 Tryd.underlying24 Tryd.underlying5 Tryd.underlying9
          have HF2 := Lib.hid (HF.out.then hf2)
          have hsz : ((mkS b').size : Int) ≤ 9 := by rw [mkS_size]; have := HL.out; omega
          have hsz1 : ((mkS [xb]).size : Int) = 1 := by rw [mkS_size]; rfl
          clear hh2 hf2
          go_wp2_with fail
          go_roundw
          case rel => exact ⟨1, b' ++ [xb], by omega, by go_num, by rw [← mkS_app], Lib.hid (by rw [← HE.out, ← HXB.out, List.append_assoc]; rfl), Lib.hid (by have := HL.out; rw [List.length_append, List.length_singleton]; omega), HF2⟩
          case measure => simp [intOf]
set_option maxHeartbeats 4000000 in
set_option maxRecDepth 1000000 in
theorem RHead_4 (kd n : Nat) (hk : kd < 8) (hlo : 65536 ≤ n) (hn : n < 4294967296) (w : World) : Calls Tryd.prog 20 #[.int .i64 (kd : Int), .int .u64 (n : Int)] w fun e w' => e = .returned (.string (mkS (headW kd n))) ∧ Fr Nob w w' := by
  have hkI : (kd : Int) < 8 := by omega
  have hk0 : (0 : Int) ≤ (kd : Int) := by omega
  have hI24 : ¬ (n : Int) < 24 := by omega
  have hI256 : ¬ (n : Int) < 256 := by omega
  have hI65536 : ¬ (n : Int) < 65536 := by omega
  have hIh : (n : Int) < 4294967296 := by omega
  have hor := orW8 kd 24 hk (by omega)
  have hor2 : bits .or .u8 ((kd : Int) * 32) 24 = (kd : Int) * 32 + 24 := by rw [show ((24 : Int)) = ((24 : Nat) : Int) from rfl, hor]; omega
  clear hor
  obtain ⟨H, hH⟩ : ∃ H, headW kd n = H := ⟨_, rfl⟩
  have hby : ((kd : Int) * 32 + 26) = ((UInt8.ofNat (kd * 32 + 26)).toNat : Int) := by
    have h : (UInt8.ofNat (kd * 32 + 26)).toNat = kd * 32 + 26 := by rw [UInt8.toNat_ofNat', Nat.mod_eq_of_lt (by omega)]
    omega
  have HN := Lib.hid hn
  have HH := Lib.hid (show UInt8.ofNat (kd * 32 + 26) :: beW n 4 = H by rw [← hH]; unfold headW; rw [if_neg (by omega), if_neg (by omega), if_neg (by omega), if_pos HN.out]; try rfl)
  have HN64 := Lib.hid (show n < 18446744073709551616 by omega)
  rw [hH]
  obtain ⟨yb, hyb⟩ : ∃ yb, UInt8.ofNat (kd * 32 + 26) = yb := ⟨_, rfl⟩
  rw [hyb] at hby HH
  have HBY := Lib.hid hby
  clear hH hyb hby hk hn hlo
  go_enter Tryd.func20, Tryd.ntmps20
  go_wp2_with fail
  go_loopw [8, 7] (fun s f wr => wr = w ∧ ((s = .int .i64 4 ∧ f = .int .u8 ((kd : Int) * 32 + 24)) ∨ (s = .int .i64 2 ∧ f = .int .u8 ((kd : Int) * 32 + 25)) ∨ (s = .int .i64 1 ∧ f = .int .u8 ((kd : Int) * 32 + 26)))) (fun s _ _ => (intOf s).toNat)
  case atStart => exact ⟨rfl, .inl ⟨rfl, rfl⟩⟩
  case round =>
    obtain ⟨rfl, ⟨rfl, rfl⟩ | ⟨rfl, rfl⟩ | ⟨rfl, rfl⟩⟩ := hrel
    · go_wp2_with fail
      go_roundw
      case rel => simp; try omega
      case measure => simp [intOf]
    · go_wp2_with fail
      go_roundw
      case rel => simp; try omega
      case measure => simp [intOf]
    · simp only [HBY.out]
      go_wp2_with (with_reducible refine wl_stop (o := ⟨some 42, _, _, _, _, _⟩) ?_)
      unfold Stop
      refine wl_slit rfl rfl Tryd.underlying24 info_u8W [.int .u8 (yb.toNat : Int)] rfl (by simp [Value.cells]) rfl rfl ?_
      intro w1 hh1 hf1 hz1
      clear hz1
      have hs := run_string (P := Tryd.prog) (show RdB w1 (some ⟨wr.heap.size, 0, none⟩) 1 [yb] from Rd.whole hh1) 1 Tryd.underlying24 Tryd.underlying5 Tryd.underlying9
      have HF := Lib.hid hf1
      clear hh1 hf1
      go_wp2_with fail
      clear hs
      go_loopw [10, 9] (fun i o wx => ∃ (k : Nat) (b' : List UInt8), k ≤ 4 ∧ i = .int .i64 ((k : Int) - 1) ∧ o = .string (mkS b') ∧ Hid (b' ++ beW n k = H) ∧ Hid (b'.length ≤ 9 - k) ∧ Hid (Fr Nob wr wx)) (fun i _ _ => (intOf i + 1).toNat)
      case atStart => exact ⟨4, [yb], by omega, rfl, rfl, HH, Lib.hid (by simp), HF⟩
      case round =>
        clear HH HF
        obtain ⟨k, b', hk, rfl, rfl, HE, HL, HF⟩ := hrel
        obtain rfl | rfl | rfl | rfl | rfl : k = 0 ∨ k = 1 ∨ k = 2 ∨ k = 3 ∨ k = 4 := by omega
        · have hk1 : ((0 : Nat) : Int) - 1 = -1 := rfl
          simp only [hk1]
          go_wp2_with fail
          go_ret
          refine ⟨?_, HF.out⟩
          have h := HE.out
          rw [show beW n 0 = [] from rfl, List.append_nil] at h
          rw [← h]; rfl
        · have hk1 : ((1 : Nat) : Int) - 1 = 0 := rfl
          simp only [hk1]
          have hs := shr_natW n 0 0 rfl HN64.out
          obtain ⟨xb, hxb⟩ : ∃ xb, UInt8.ofNat (n / 1) = xb := ⟨_, rfl⟩
          have hw : ((n / 1 : Nat) : Int) % 256 = (xb.toNat : Int) := by rw [← hxb, UInt8.toNat_ofNat']; omega
          have hw2 : ((n : Int) / 1) % 256 = (xb.toNat : Int) := by rw [← hw]; omega
          have HXB := Lib.hid hxb
          clear hxb
          go_wp2_with (with_reducible refine wl_stop (o := ⟨some 56, _, _, _, _, _⟩) ?_)
          unfold Stop
          refine wl_slit rfl rfl Tryd.underlying24 info_u8W [.int .u8 (xb.toNat : Int)] (by simp [Act.eval]; omega) (by simp [Value.cells]) rfl rfl ?_
          intro w2 hh2 hf2 hz2
          clear hz2 hs hw hw2
          have hs := run_string (P := Tryd.prog) (show RdB w2 (some ⟨wr.heap.size, 0, none⟩) 1 [xb] from Rd.whole hh2) 1 Tryd.underlying24 Tryd.underlying5 Tryd.underlying9
          have HF2 := Lib.hid (HF.out.then hf2)
          have hsz : ((mkS b').size : Int) ≤ 9 := by rw [mkS_size]; have := HL.out; omega
          have hsz1 : ((mkS [xb]).size : Int) = 1 := by rw [mkS_size]; rfl
          clear hh2 hf2
          go_wp2_with fail
          go_roundw
          case rel => exact ⟨0, b' ++ [xb], by omega, by go_num, by rw [← mkS_app], Lib.hid (by rw [← HE.out, ← HXB.out, List.append_assoc]; rfl), Lib.hid (by have := HL.out; rw [List.length_append, List.length_singleton]; omega), HF2⟩
          case measure => simp [intOf]
        · have hk1 : ((2 : Nat) : Int) - 1 = 1 := rfl
          simp only [hk1]
          have hs := shr_natW n 8 8 rfl HN64.out
          obtain ⟨xb, hxb⟩ : ∃ xb, UInt8.ofNat (n / 256) = xb := ⟨_, rfl⟩
          have hw : ((n / 256 : Nat) : Int) % 256 = (xb.toNat : Int) := by rw [← hxb, UInt8.toNat_ofNat']; omega
          have hw2 : ((n : Int) / 256) % 256 = (xb.toNat : Int) := by rw [← hw]; omega
          have HXB := Lib.hid hxb
          clear hxb
          go_wp2_with (with_reducible refine wl_stop (o := ⟨some 56, _, _, _, _, _⟩) ?_)
          unfold Stop
          refine wl_slit rfl rfl Tryd.underlying24 info_u8W [.int .u8 (xb.toNat : Int)] (by simp [Act.eval]; omega) (by simp [Value.cells]) rfl rfl ?_
          intro w2 hh2 hf2 hz2
          clear hz2 hs hw hw2
          have hs := run_string (P := Tryd.prog) (show RdB w2 (some ⟨wr.heap.size, 0, none⟩) 1 [xb] from Rd.whole hh2) 1 Tryd.underlying24 Tryd.underlying5 Tryd.underlying9
          have HF2 := Lib.hid (HF.out.then hf2)
          have hsz : ((mkS b').size : Int) ≤ 9 := by rw [mkS_size]; have := HL.out; omega
          have hsz1 : ((mkS [xb]).size : Int) = 1 := by rw [mkS_size]; rfl
          clear hh2 hf2
          go_wp2_with fail
          go_roundw
          case rel => exact ⟨1, b' ++ [xb], by omega, by go_num, by rw [← mkS_app], Lib.hid (by rw [← HE.out, ← HXB.out, List.append_assoc]; rfl), Lib.hid (by have := HL.out; rw [List.length_append, List.length_singleton]; omega), HF2⟩
          case measure => simp [intOf]
        · have hk1 : ((3 : Nat) : Int) - 1 = 2 := rfl
          simp only [hk1]
          have hs := shr_natW n 16 16 rfl HN64.out
          obtain ⟨xb, hxb⟩ : ∃ xb, UInt8.ofNat (n / 65536) = xb := ⟨_, rfl⟩
          have hw : ((n / 65536 : Nat) : Int) % 256 = (xb.toNat : Int) := by rw [← hxb, UInt8.toNat_ofNat']; omega
          have hw2 : ((n : Int) / 65536) % 256 = (xb.toNat : Int) := by rw [← hw]; omega
          have HXB := Lib.hid hxb
          clear hxb
          go_wp2_with (with_reducible refine wl_stop (o := ⟨some 56, _, _, _, _, _⟩) ?_)
          unfold Stop
          refine wl_slit rfl rfl Tryd.underlying24 info_u8W [.int .u8 (xb.toNat : Int)] (by simp [Act.eval]; omega) (by simp [Value.cells]) rfl rfl ?_
          intro w2 hh2 hf2 hz2
          clear hz2 hs hw hw2
          have hs := run_string (P := Tryd.prog) (show RdB w2 (some ⟨wr.heap.size, 0, none⟩) 1 [xb] from Rd.whole hh2) 1 Tryd.underlying24 Tryd.underlying5 Tryd.underlying9
          have HF2 := Lib.hid (HF.out.then hf2)
          have hsz : ((mkS b').size : Int) ≤ 9 := by rw [mkS_size]; have := HL.out; omega
          have hsz1 : ((mkS [xb]).size : Int) = 1 := by rw [mkS_size]; rfl
          clear hh2 hf2
          go_wp2_with fail
          go_roundw
          case rel => exact ⟨2, b' ++ [xb], by omega, by go_num, by rw [← mkS_app], Lib.hid (by rw [← HE.out, ← HXB.out, List.append_assoc]; rfl), Lib.hid (by have := HL.out; rw [List.length_append, List.length_singleton]; omega), HF2⟩
          case measure => simp [intOf]
        · have hk1 : ((4 : Nat) : Int) - 1 = 3 := rfl
          simp only [hk1]
          have hs := shr_natW n 24 24 rfl HN64.out
          obtain ⟨xb, hxb⟩ : ∃ xb, UInt8.ofNat (n / 16777216) = xb := ⟨_, rfl⟩
          have hw : ((n / 16777216 : Nat) : Int) % 256 = (xb.toNat : Int) := by rw [← hxb, UInt8.toNat_ofNat']; omega
          have hw2 : ((n : Int) / 16777216) % 256 = (xb.toNat : Int) := by rw [← hw]; omega
          have HXB := Lib.hid hxb
          clear hxb
          go_wp2_with (with_reducible refine wl_stop (o := ⟨some 56, _, _, _, _, _⟩) ?_)
          unfold Stop
          refine wl_slit rfl rfl Tryd.underlying24 info_u8W [.int .u8 (xb.toNat : Int)] (by simp [Act.eval]; omega) (by simp [Value.cells]) rfl rfl ?_
          intro w2 hh2 hf2 hz2
          clear hz2 hs hw hw2
          have hs := run_string (P := Tryd.prog) (show RdB w2 (some ⟨wr.heap.size, 0, none⟩) 1 [xb] from Rd.whole hh2) 1 Tryd.underlying24 Tryd.underlying5 Tryd.underlying9
          have HF2 := Lib.hid (HF.out.then hf2)
          have hsz : ((mkS b').size : Int) ≤ 9 := by rw [mkS_size]; have := HL.out; omega
          have hsz1 : ((mkS [xb]).size : Int) = 1 := by rw [mkS_size]; rfl
          clear hh2 hf2
          go_wp2_with fail
          go_roundw
          case rel => exact ⟨3, b' ++ [xb], by omega, by go_num, by rw [← mkS_app], Lib.hid (by rw [← HE.out, ← HXB.out, List.append_assoc]; rfl), Lib.hid (by have := HL.out; rw [List.length_append, List.length_singleton]; omega), HF2⟩
          case measure => simp [intOf]
set_option maxHeartbeats 4000000 in
set_option maxRecDepth 1000000 in
theorem RHead_8 (kd n : Nat) (hk : kd < 8) (hlo : 4294967296 ≤ n) (hn : n < 18446744073709551616) (w : World) : Calls Tryd.prog 20 #[.int .i64 (kd : Int), .int .u64 (n : Int)] w fun e w' => e = .returned (.string (mkS (headW kd n))) ∧ Fr Nob w w' := by
  have hkI : (kd : Int) < 8 := by omega
  have hk0 : (0 : Int) ≤ (kd : Int) := by omega
  have hI24 : ¬ (n : Int) < 24 := by omega
  have hI256 : ¬ (n : Int) < 256 := by omega
  have hI65536 : ¬ (n : Int) < 65536 := by omega
  have hI4294967296 : ¬ (n : Int) < 4294967296 := by omega
  have hor := orW8 kd 24 hk (by omega)
  have hor2 : bits .or .u8 ((kd : Int) * 32) 24 = (kd : Int) * 32 + 24 := by rw [show ((24 : Int)) = ((24 : Nat) : Int) from rfl, hor]; omega
  clear hor
  obtain ⟨H, hH⟩ : ∃ H, headW kd n = H := ⟨_, rfl⟩
  have hby : ((kd : Int) * 32 + 27) = ((UInt8.ofNat (kd * 32 + 27)).toNat : Int) := by
    have h : (UInt8.ofNat (kd * 32 + 27)).toNat = kd * 32 + 27 := by rw [UInt8.toNat_ofNat', Nat.mod_eq_of_lt (by omega)]
    omega
  have HN := Lib.hid hn
  have HH := Lib.hid (show UInt8.ofNat (kd * 32 + 27) :: beW n 8 = H by rw [← hH]; unfold headW; rw [if_neg (by omega), if_neg (by omega), if_neg (by omega), if_neg (by omega)]; try rfl)
  have HN64 := Lib.hid (show n < 18446744073709551616 by omega)
  rw [hH]
  obtain ⟨yb, hyb⟩ : ∃ yb, UInt8.ofNat (kd * 32 + 27) = yb := ⟨_, rfl⟩
  rw [hyb] at hby HH
  have HBY := Lib.hid hby
  clear hH hyb hby hk hn hlo
  go_enter Tryd.func20, Tryd.ntmps20
  go_wp2_with fail
  go_loopw [8, 7] (fun s f wr => wr = w ∧ ((s = .int .i64 8 ∧ f = .int .u8 ((kd : Int) * 32 + 24)) ∨ (s = .int .i64 4 ∧ f = .int .u8 ((kd : Int) * 32 + 25)) ∨ (s = .int .i64 2 ∧ f = .int .u8 ((kd : Int) * 32 + 26)) ∨ (s = .int .i64 1 ∧ f = .int .u8 ((kd : Int) * 32 + 27)))) (fun s _ _ => (intOf s).toNat)
  case atStart => exact ⟨rfl, .inl ⟨rfl, rfl⟩⟩
  case round =>
    obtain ⟨rfl, ⟨rfl, rfl⟩ | ⟨rfl, rfl⟩ | ⟨rfl, rfl⟩ | ⟨rfl, rfl⟩⟩ := hrel
    · go_wp2_with fail
      go_roundw
      case rel => simp; try omega
      case measure => simp [intOf]
    · go_wp2_with fail
      go_roundw
      case rel => simp; try omega
      case measure => simp [intOf]
    · go_wp2_with fail
      go_roundw
      case rel => simp; try omega
      case measure => simp [intOf]
    · simp only [HBY.out]
      go_wp2_with (with_reducible refine wl_stop (o := ⟨some 42, _, _, _, _, _⟩) ?_)
      unfold Stop
      refine wl_slit rfl rfl Tryd.underlying24 info_u8W [.int .u8 (yb.toNat : Int)] rfl (by simp [Value.cells]) rfl rfl ?_
      intro w1 hh1 hf1 hz1
      clear hz1
      have hs := run_string (P := Tryd.prog) (show RdB w1 (some ⟨wr.heap.size, 0, none⟩) 1 [yb] from Rd.whole hh1) 1 Tryd.underlying24 Tryd.underlying5 Tryd.underlying9
      have HF := Lib.hid hf1
      clear hh1 hf1
      go_wp2_with fail
      clear hs
      go_loopw [10, 9] (fun i o wx => ∃ (k : Nat) (b' : List UInt8), k ≤ 8 ∧ i = .int .i64 ((k : Int) - 1) ∧ o = .string (mkS b') ∧ Hid (b' ++ beW n k = H) ∧ Hid (b'.length ≤ 9 - k) ∧ Hid (Fr Nob wr wx)) (fun i _ _ => (intOf i + 1).toNat)
      case atStart => exact ⟨8, [yb], by omega, rfl, rfl, HH, Lib.hid (by simp), HF⟩
      case round =>
        clear HH HF
        obtain ⟨k, b', hk, rfl, rfl, HE, HL, HF⟩ := hrel
        obtain rfl | rfl | rfl | rfl | rfl | rfl | rfl | rfl | rfl : k = 0 ∨ k = 1 ∨ k = 2 ∨ k = 3 ∨ k = 4 ∨ k = 5 ∨ k = 6 ∨ k = 7 ∨ k = 8 := by omega
        · have hk1 : ((0 : Nat) : Int) - 1 = -1 := rfl
          simp only [hk1]
          go_wp2_with fail
          go_ret
          refine ⟨?_, HF.out⟩
          have h := HE.out
          rw [show beW n 0 = [] from rfl, List.append_nil] at h
          rw [← h]; rfl
        · have hk1 : ((1 : Nat) : Int) - 1 = 0 := rfl
          simp only [hk1]
          have hs := shr_natW n 0 0 rfl HN64.out
          obtain ⟨xb, hxb⟩ : ∃ xb, UInt8.ofNat (n / 1) = xb := ⟨_, rfl⟩
          have hw : ((n / 1 : Nat) : Int) % 256 = (xb.toNat : Int) := by rw [← hxb, UInt8.toNat_ofNat']; omega
          have hw2 : ((n : Int) / 1) % 256 = (xb.toNat : Int) := by rw [← hw]; omega
          have HXB := Lib.hid hxb
          clear hxb
          go_wp2_with (with_reducible refine wl_stop (o := ⟨some 56, _, _, _, _, _⟩) ?_)
          unfold Stop
          refine wl_slit rfl rfl Tryd.underlying24 info_u8W [.int .u8 (xb.toNat : Int)] (by simp [Act.eval]; omega) (by simp [Value.cells]) rfl rfl ?_
          intro w2 hh2 hf2 hz2
          clear hz2 hs hw hw2
          have hs := run_string (P := Tryd.prog) (show RdB w2 (some ⟨wr.heap.size, 0, none⟩) 1 [xb] from Rd.whole hh2) 1 Tryd.underlying24 Tryd.underlying5 Tryd.underlying9
          have HF2 := Lib.hid (HF.out.then hf2)
          have hsz : ((mkS b').size : Int) ≤ 9 := by rw [mkS_size]; have := HL.out; omega
          have hsz1 : ((mkS [xb]).size : Int) = 1 := by rw [mkS_size]; rfl
          clear hh2 hf2
          go_wp2_with fail
          go_roundw
          case rel => exact ⟨0, b' ++ [xb], by omega, by go_num, by rw [← mkS_app], Lib.hid (by rw [← HE.out, ← HXB.out, List.append_assoc]; rfl), Lib.hid (by have := HL.out; rw [List.length_append, List.length_singleton]; omega), HF2⟩
          case measure => simp [intOf]
        · have hk1 : ((2 : Nat) : Int) - 1 = 1 := rfl
          simp only [hk1]
          have hs := shr_natW n 8 8 rfl HN64.out
          obtain ⟨xb, hxb⟩ : ∃ xb, UInt8.ofNat (n / 256) = xb := ⟨_, rfl⟩
          have hw : ((n / 256 : Nat) : Int) % 256 = (xb.toNat : Int) := by rw [← hxb, UInt8.toNat_ofNat']; omega
          have hw2 : ((n : Int) / 256) % 256 = (xb.toNat : Int) := by rw [← hw]; omega
          have HXB := Lib.hid hxb
          clear hxb
          go_wp2_with (with_reducible refine wl_stop (o := ⟨some 56, _, _, _, _, _⟩) ?_)
          unfold Stop
          refine wl_slit rfl rfl Tryd.underlying24 info_u8W [.int .u8 (xb.toNat : Int)] (by simp [Act.eval]; omega) (by simp [Value.cells]) rfl rfl ?_
          intro w2 hh2 hf2 hz2
          clear hz2 hs hw hw2
          have hs := run_string (P := Tryd.prog) (show RdB w2 (some ⟨wr.heap.size, 0, none⟩) 1 [xb] from Rd.whole hh2) 1 Tryd.underlying24 Tryd.underlying5 Tryd.underlying9
          have HF2 := Lib.hid (HF.out.then hf2)
          have hsz : ((mkS b').size : Int) ≤ 9 := by rw [mkS_size]; have := HL.out; omega
          have hsz1 : ((mkS [xb]).size : Int) = 1 := by rw [mkS_size]; rfl
          clear hh2 hf2
          go_wp2_with fail
          go_roundw
          case rel => exact ⟨1, b' ++ [xb], by omega, by go_num, by rw [← mkS_app], Lib.hid (by rw [← HE.out, ← HXB.out, List.append_assoc]; rfl), Lib.hid (by have := HL.out; rw [List.length_append, List.length_singleton]; omega), HF2⟩
          case measure => simp [intOf]
        · have hk1 : ((3 : Nat) : Int) - 1 = 2 := rfl
          simp only [hk1]
          have hs := shr_natW n 16 16 rfl HN64.out
          obtain ⟨xb, hxb⟩ : ∃ xb, UInt8.ofNat (n / 65536) = xb := ⟨_, rfl⟩
          have hw : ((n / 65536 : Nat) : Int) % 256 = (xb.toNat : Int) := by rw [← hxb, UInt8.toNat_ofNat']; omega
          have hw2 : ((n : Int) / 65536) % 256 = (xb.toNat : Int) := by rw [← hw]; omega
          have HXB := Lib.hid hxb
          clear hxb
          go_wp2_with (with_reducible refine wl_stop (o := ⟨some 56, _, _, _, _, _⟩) ?_)
          unfold Stop
          refine wl_slit rfl rfl Tryd.underlying24 info_u8W [.int .u8 (xb.toNat : Int)] (by simp [Act.eval]; omega) (by simp [Value.cells]) rfl rfl ?_
          intro w2 hh2 hf2 hz2
          clear hz2 hs hw hw2
          have hs := run_string (P := Tryd.prog) (show RdB w2 (some ⟨wr.heap.size, 0, none⟩) 1 [xb] from Rd.whole hh2) 1 Tryd.underlying24 Tryd.underlying5 Tryd.underlying9
          have HF2 := Lib.hid (HF.out.then hf2)
          have hsz : ((mkS b').size : Int) ≤ 9 := by rw [mkS_size]; have := HL.out; omega
          have hsz1 : ((mkS [xb]).size : Int) = 1 := by rw [mkS_size]; rfl
          clear hh2 hf2
          go_wp2_with fail
          go_roundw
          case rel => exact ⟨2, b' ++ [xb], by omega, by go_num, by rw [← mkS_app], Lib.hid (by rw [← HE.out, ← HXB.out, List.append_assoc]; rfl), Lib.hid (by have := HL.out; rw [List.length_append, List.length_singleton]; omega), HF2⟩
          case measure => simp [intOf]
        · have hk1 : ((4 : Nat) : Int) - 1 = 3 := rfl
          simp only [hk1]
          have hs := shr_natW n 24 24 rfl HN64.out
          obtain ⟨xb, hxb⟩ : ∃ xb, UInt8.ofNat (n / 16777216) = xb := ⟨_, rfl⟩
          have hw : ((n / 16777216 : Nat) : Int) % 256 = (xb.toNat : Int) := by rw [← hxb, UInt8.toNat_ofNat']; omega
          have hw2 : ((n : Int) / 16777216) % 256 = (xb.toNat : Int) := by rw [← hw]; omega
          have HXB := Lib.hid hxb
          clear hxb
          go_wp2_with (with_reducible refine wl_stop (o := ⟨some 56, _, _, _, _, _⟩) ?_)
          unfold Stop
          refine wl_slit rfl rfl Tryd.underlying24 info_u8W [.int .u8 (xb.toNat : Int)] (by simp [Act.eval]; omega) (by simp [Value.cells]) rfl rfl ?_
          intro w2 hh2 hf2 hz2
          clear hz2 hs hw hw2
          have hs := run_string (P := Tryd.prog) (show RdB w2 (some ⟨wr.heap.size, 0, none⟩) 1 [xb] from Rd.whole hh2) 1 Tryd.underlying24 Tryd.underlying5 Tryd.underlying9
          have HF2 := Lib.hid (HF.out.then hf2)
          have hsz : ((mkS b').size : Int) ≤ 9 := by rw [mkS_size]; have := HL.out; omega
          have hsz1 : ((mkS [xb]).size : Int) = 1 := by rw [mkS_size]; rfl
          clear hh2 hf2
          go_wp2_with fail
          go_roundw
          case rel => exact ⟨3, b' ++ [xb], by omega, by go_num, by rw [← mkS_app], Lib.hid (by rw [← HE.out, ← HXB.out, List.append_assoc]; rfl), Lib.hid (by have := HL.out; rw [List.length_append, List.length_singleton]; omega), HF2⟩
          case measure => simp [intOf]
        · have hk1 : ((5 : Nat) : Int) - 1 = 4 := rfl
          simp only [hk1]
          have hs := shr_natW n 32 32 rfl HN64.out
          obtain ⟨xb, hxb⟩ : ∃ xb, UInt8.ofNat (n / 4294967296) = xb := ⟨_, rfl⟩
          have hw : ((n / 4294967296 : Nat) : Int) % 256 = (xb.toNat : Int) := by rw [← hxb, UInt8.toNat_ofNat']; omega
          have hw2 : ((n : Int) / 4294967296) % 256 = (xb.toNat : Int) := by rw [← hw]; omega
          have HXB := Lib.hid hxb
          clear hxb
          go_wp2_with (with_reducible refine wl_stop (o := ⟨some 56, _, _, _, _, _⟩) ?_)
          unfold Stop
          refine wl_slit rfl rfl Tryd.underlying24 info_u8W [.int .u8 (xb.toNat : Int)] (by simp [Act.eval]; omega) (by simp [Value.cells]) rfl rfl ?_
          intro w2 hh2 hf2 hz2
          clear hz2 hs hw hw2
          have hs := run_string (P := Tryd.prog) (show RdB w2 (some ⟨wr.heap.size, 0, none⟩) 1 [xb] from Rd.whole hh2) 1 Tryd.underlying24 Tryd.underlying5 Tryd.underlying9
          have HF2 := Lib.hid (HF.out.then hf2)
          have hsz : ((mkS b').size : Int) ≤ 9 := by rw [mkS_size]; have := HL.out; omega
          have hsz1 : ((mkS [xb]).size : Int) = 1 := by rw [mkS_size]; rfl
          clear hh2 hf2
          go_wp2_with fail
          go_roundw
          case rel => exact ⟨4, b' ++ [xb], by omega, by go_num, by rw [← mkS_app], Lib.hid (by rw [← HE.out, ← HXB.out, List.append_assoc]; rfl), Lib.hid (by have := HL.out; rw [List.length_append, List.length_singleton]; omega), HF2⟩
          case measure => simp [intOf]
        · have hk1 : ((6 : Nat) : Int) - 1 = 5 := rfl
          simp only [hk1]
          have hs := shr_natW n 40 40 rfl HN64.out
          obtain ⟨xb, hxb⟩ : ∃ xb, UInt8.ofNat (n / 1099511627776) = xb := ⟨_, rfl⟩
          have hw : ((n / 1099511627776 : Nat) : Int) % 256 = (xb.toNat : Int) := by rw [← hxb, UInt8.toNat_ofNat']; omega
          have hw2 : ((n : Int) / 1099511627776) % 256 = (xb.toNat : Int) := by rw [← hw]; omega
          have HXB := Lib.hid hxb
          clear hxb
          go_wp2_with (with_reducible refine wl_stop (o := ⟨some 56, _, _, _, _, _⟩) ?_)
          unfold Stop
          refine wl_slit rfl rfl Tryd.underlying24 info_u8W [.int .u8 (xb.toNat : Int)] (by simp [Act.eval]; omega) (by simp [Value.cells]) rfl rfl ?_
          intro w2 hh2 hf2 hz2
          clear hz2 hs hw hw2
          have hs := run_string (P := Tryd.prog) (show RdB w2 (some ⟨wr.heap.size, 0, none⟩) 1 [xb] from Rd.whole hh2) 1 Tryd.underlying24 Tryd.underlying5 Tryd.underlying9
          have HF2 := Lib.hid (HF.out.then hf2)
          have hsz : ((mkS b').size : Int) ≤ 9 := by rw [mkS_size]; have := HL.out; omega
          have hsz1 : ((mkS [xb]).size : Int) = 1 := by rw [mkS_size]; rfl
          clear hh2 hf2
          go_wp2_with fail
          go_roundw
          case rel => exact ⟨5, b' ++ [xb], by omega, by go_num, by rw [← mkS_app], Lib.hid (by rw [← HE.out, ← HXB.out, List.append_assoc]; rfl), Lib.hid (by have := HL.out; rw [List.length_append, List.length_singleton]; omega), HF2⟩
          case measure => simp [intOf]
        · have hk1 : ((7 : Nat) : Int) - 1 = 6 := rfl
          simp only [hk1]
          have hs := shr_natW n 48 48 rfl HN64.out
          obtain ⟨xb, hxb⟩ : ∃ xb, UInt8.ofNat (n / 281474976710656) = xb := ⟨_, rfl⟩
          have hw : ((n / 281474976710656 : Nat) : Int) % 256 = (xb.toNat : Int) := by rw [← hxb, UInt8.toNat_ofNat']; omega
          have hw2 : ((n : Int) / 281474976710656) % 256 = (xb.toNat : Int) := by rw [← hw]; omega
          have HXB := Lib.hid hxb
          clear hxb
          go_wp2_with (with_reducible refine wl_stop (o := ⟨some 56, _, _, _, _, _⟩) ?_)
          unfold Stop
          refine wl_slit rfl rfl Tryd.underlying24 info_u8W [.int .u8 (xb.toNat : Int)] (by simp [Act.eval]; omega) (by simp [Value.cells]) rfl rfl ?_
          intro w2 hh2 hf2 hz2
          clear hz2 hs hw hw2
          have hs := run_string (P := Tryd.prog) (show RdB w2 (some ⟨wr.heap.size, 0, none⟩) 1 [xb] from Rd.whole hh2) 1 Tryd.underlying24 Tryd.underlying5 Tryd.underlying9
          have HF2 := Lib.hid (HF.out.then hf2)
          have hsz : ((mkS b').size : Int) ≤ 9 := by rw [mkS_size]; have := HL.out; omega
          have hsz1 : ((mkS [xb]).size : Int) = 1 := by rw [mkS_size]; rfl
          clear hh2 hf2
          go_wp2_with fail
          go_roundw
          case rel => exact ⟨6, b' ++ [xb], by omega, by go_num, by rw [← mkS_app], Lib.hid (by rw [← HE.out, ← HXB.out, List.append_assoc]; rfl), Lib.hid (by have := HL.out; rw [List.length_append, List.length_singleton]; omega), HF2⟩
          case measure => simp [intOf]
        · have hk1 : ((8 : Nat) : Int) - 1 = 7 := rfl
          simp only [hk1]
          have hs := shr_natW n 56 56 rfl HN64.out
          obtain ⟨xb, hxb⟩ : ∃ xb, UInt8.ofNat (n / 72057594037927936) = xb := ⟨_, rfl⟩
          have hw : ((n / 72057594037927936 : Nat) : Int) % 256 = (xb.toNat : Int) := by rw [← hxb, UInt8.toNat_ofNat']; omega
          have hw2 : ((n : Int) / 72057594037927936) % 256 = (xb.toNat : Int) := by rw [← hw]; omega
          have HXB := Lib.hid hxb
          clear hxb
          go_wp2_with (with_reducible refine wl_stop (o := ⟨some 56, _, _, _, _, _⟩) ?_)
          unfold Stop
          refine wl_slit rfl rfl Tryd.underlying24 info_u8W [.int .u8 (xb.toNat : Int)] (by simp [Act.eval]; omega) (by simp [Value.cells]) rfl rfl ?_
          intro w2 hh2 hf2 hz2
          clear hz2 hs hw hw2
          have hs := run_string (P := Tryd.prog) (show RdB w2 (some ⟨wr.heap.size, 0, none⟩) 1 [xb] from Rd.whole hh2) 1 Tryd.underlying24 Tryd.underlying5 Tryd.underlying9
          have HF2 := Lib.hid (HF.out.then hf2)
          have hsz : ((mkS b').size : Int) ≤ 9 := by rw [mkS_size]; have := HL.out; omega
          have hsz1 : ((mkS [xb]).size : Int) = 1 := by rw [mkS_size]; rfl
          clear hh2 hf2
          go_wp2_with fail
          go_roundw
          case rel => exact ⟨7, b' ++ [xb], by omega, by go_num, by rw [← mkS_app], Lib.hid (by rw [← HE.out, ← HXB.out, List.append_assoc]; rfl), Lib.hid (by have := HL.out; rw [List.length_append, List.length_singleton]; omega), HF2⟩
          case measure => simp [intOf]
theorem RHead_any (kd n : Nat) (hk : kd < 8) (hn : n < 18446744073709551616) (w : World) : Calls Tryd.prog 20 #[.int .i64 (kd : Int), .int .u64 (n : Int)] w fun e w' => e = .returned (.string (mkS (headW kd n))) ∧ Fr Nob w w' := by
  by_cases h1 : n < 24
  · exact RHead_lo kd n hk h1 w
  by_cases h2 : n < 256
  · exact RHead_1 kd n hk (by omega) h2 w
  by_cases h3 : n < 65536
  · exact RHead_2 kd n hk (by omega) h3 w
  by_cases h4 : n < 4294967296
  · exact RHead_4 kd n hk (by omega) h4 w
  · exact RHead_8 kd n hk (by omega) hn w
end Go.Proofs.YtdadnajbdnbbdaaDoor

/- wire: the reference's valid (printed by gen_wp14.py). -/
namespace Go.Mv
mutual
theorem vlW_most (u8 : List UInt8 → Bool) : ∀ (t : It) (deep left m : Nat), vlW u8 t deep left = some m → m ≤ left
  | .mk k n d l, deep, left, m, h => by
    unfold vlW at h
    split at h
    · cases h
    · rename_i h0
      simp only [Option.map_eq_some_iff] at h
      obtain ⟨x, hx, rfl⟩ := h
      have := vlWs_most u8 l deep (left - 1) x hx
      omega
theorem vlWs_most (u8 : List UInt8 → Bool) : ∀ (ts : List It) (deep left m : Nat), vlWs u8 ts deep left = some m → m ≤ left
  | [], _, _, m, h => by unfold vlWs at h; simp at h; omega
  | t :: ts, deep, left, m, h => by
    unfold vlWs at h
    split at h
    · cases h
    · rename_i x hx
      simp only [Option.map_eq_some_iff] at h
      obtain ⟨y, hy, rfl⟩ := h
      have h1 := vlW_most u8 t (deep + 1) left x hx
      have h2 := vlWs_most u8 ts deep (left - x) y hy
      omega
end
def isG (k : Int) : Bool := decide (k < 0) || decide (7 < k) || k == 6
theorem isG_eq (k : Int) : isG k = !shK k := by
  unfold isG shK shN shD shL
  by_cases h : k < 0 ∨ 7 < k
  · have e : ∀ j : Int, 0 ≤ j → j ≤ 7 → (k == j) = false := fun j h1 h2 => by rw [beq_eq_false_iff_ne]; omega
    rw [e 0 (by omega) (by omega), e 1 (by omega) (by omega), e 2 (by omega) (by omega), e 3 (by omega) (by omega), e 4 (by omega) (by omega), e 5 (by omega) (by omega), e 6 (by omega) (by omega), e 7 (by omega) (by omega)]
    rcases h with h | h
    · rw [decide_eq_true h]; rfl
    · rw [decide_eq_true h]; simp
  · have h2 : k = 0 ∨ k = 1 ∨ k = 2 ∨ k = 3 ∨ k = 4 ∨ k = 5 ∨ k = 6 ∨ k = 7 := by omega
    rcases h2 with rfl | rfl | rfl | rfl | rfl | rfl | rfl | rfl <;> rfl
/-- the reference's order of the tests -/
def rB (k : Int) (n : Nat) (d : List UInt8) (m : Nat) : Bool := (!(n == 0) && (shD k || shL k)) || (!(d.length == 0) && !shD k) || (!(m == 0) && !shL k)
def rC (u8 : List UInt8 → Bool) (k : Int) (n : Nat) (d : List UInt8) (m : Nat) : Bool := (k == 3 && !u8 d) || (k == 7 && (decide (n < 20) || decide (22 < n))) || (k == 5 && !(m % 2 == 0))
theorem fitW_r (u8 : List UInt8 → Bool) (k : Int) (n : Nat) (d : List UInt8) (m : Nat) : fitW u8 k n d m = (!isG k && !rB k n d m && !rC u8 k n d m) := by
  rw [fitW_eq, isG_eq, Bool.not_not]
  cases hk : shK k with
  | false => rfl
  | true =>
    have h2 : k = 0 ∨ k = 1 ∨ k = 2 ∨ k = 3 ∨ k = 4 ∨ k = 5 ∨ k = 7 := by
      unfold shK shN shD shL at hk
      simp only [Bool.or_eq_true, beq_iff_eq] at hk
      omega
    unfold fitF rB rC shN shD shL
    have h20 : decide (n < 20) = !decide (20 ≤ n) := by by_cases h : n < 20 <;> simp [h] <;> omega
    have h22 : decide (22 < n) = !decide (n ≤ 22) := by by_cases h : n ≤ 22 <;> simp [h] <;> omega
    rw [h20, h22]
    generalize decide (20 ≤ n) = b1
    generalize decide (n ≤ 22) = b2
    generalize (n == 0) = b3
    generalize (d.length == 0) = b4
    generalize (m == 0) = b5
    generalize (m % 2 == 0) = b6
    generalize u8 d = b7
    rcases h2 with rfl | rfl | rfl | rfl | rfl | rfl | rfl <;> revert b1 b2 b3 b4 b5 b6 b7 <;> decide
end Go.Mv
namespace Go.Mv
theorem vlW_no {u8 : List UInt8 → Bool} {k : Int} {n deep left : Nat} {d : List UInt8} {l : List It} (h : fitW u8 k n d l.length = false) : vlW u8 (.mk k n d l) deep left = none := by
  unfold vlW; rw [if_pos (.inr (.inr h))]
end Go.Mv
namespace Go.Proofs.YtdadnajbdnbbdaaDoor
open Go.RowKit Go.Mv Mvp
def vlA (r : Option Nat) : Value := .tuple #[.int .i64 ((r.getD 0 : Nat) : Int), .bool r.isSome]
def vlT (u8 : List UInt8 → Bool) (w0 : World) (t : It) : Prop := ∀ (deep left : Nat) (lf : Int) (vs : List Value) (w : World), lf = (left : Int) → deep ≤ 17 → left ≤ 4096 → vs.length = 4 → ItV w vs t → Fr Nob w0 w →
    Calls Tryd.prog 11 #[.agg vs.toArray, .int .i64 (deep : Int), .int .i64 lf] w fun e w' => e = .returned (vlA (vlW u8 t deep left)) ∧ Fr Nob w w'
set_option maxHeartbeats 4000000 in
set_option maxRecDepth 1000000 in
theorem valid_step (u8 : List UInt8 → Bool) (w0 : World) (hV : VOk u8 w0) (k : Int) (n : Nat) (d : List UInt8) (l : List It) (ih : ∀ (i : Nat) (t : It), l[i]? = some t → vlT u8 w0 t) : vlT u8 w0 (.mk k n d l) := by
  intro deep left lf vs w hlf hd hm hvs hit hfw
  subst hlf
  unfold ItV at hit
  obtain ⟨da, dc, la, lc, rfl, hrd, hn, hdl, hll, hlst⟩ := hit
  have HRD := Lib.hid hrd
  have HN := Lib.hid hn
  have HDL := Lib.hid hdl
  have HLL := Lib.hid hll
  have HLS := Lib.hid hlst
  have HV := Lib.hid hV
  have HIH := Lib.hid ih
  have HFW := Lib.hid hfw
  have HM := Lib.hid hm
  have HD := Lib.hid hd
  have st0 := St.start Nob w
  have hdI : (deep : Int) ≤ 17 := by omega
  have hlI : (left : Int) ≤ 4096 := by omega
  have hllI : (l.length : Int) ≤ 1000 := by omega
  obtain ⟨R, hR⟩ : ∃ R, vlW u8 (.mk k n d l) deep left = R := ⟨_, rfl⟩
  rw [hR]
  have HR := Lib.hid hR
  clear hR hvs hrd hn hdl hll hlst hV ih hfw hm hd
  by_cases hl1 : left < 1
  · have hl1I : ((left : Nat) : Int) < 1 := by omega
    have hl1B : decide (((left : Nat) : Int) < 1) = true := decide_eq_true hl1I
    have HP : R = none := by rw [← HR.out]; unfold vlW; rw [if_pos (.inl (by omega))]
    subst HP
    go_enter Tryd.func11, Tryd.ntmps11
    go_wp2_with (with_reducible refine wl_stop (o := ⟨some 3, _, _, _, _, _⟩) ?_)
    unfold Stop
    refine wl_boxS st0 rfl rfl rfl [.int .i64 k, .int .u64 (n : Int), .slice da d.length dc, .slice la l.length lc] rfl ?_
    intro gb wb st
    have HF := Lib.hid st.fr
    clear st0 st
    go_wp2_with fail
    go_ret2
    exact ⟨rfl, HF.out⟩
  have hl1I : ¬ ((left : Nat) : Int) < 1 := by omega
  have hl1B : decide (((left : Nat) : Int) < 1) = false := decide_eq_false hl1I
  by_cases hd1 : 16 < deep
  · have hd1I : (16 : Int) < (deep : Int) := by omega
    have hd1B : decide ((16 : Int) < (deep : Int)) = true := decide_eq_true hd1I
    have HP : R = none := by rw [← HR.out]; unfold vlW; rw [if_pos (.inr (.inl hd1))]
    subst HP
    go_enter Tryd.func11, Tryd.ntmps11
    go_wp2_with (with_reducible refine wl_stop (o := ⟨some 3, _, _, _, _, _⟩) ?_)
    unfold Stop
    refine wl_boxS st0 rfl rfl rfl [.int .i64 k, .int .u64 (n : Int), .slice da d.length dc, .slice la l.length lc] rfl ?_
    intro gb wb st
    have HF := Lib.hid st.fr
    clear st0 st
    go_wp2_with fail
    go_ret2
    exact ⟨rfl, HF.out⟩
  have hd1I : ¬ (16 : Int) < (deep : Int) := by omega
  have hd1B : decide ((16 : Int) < (deep : Int)) = false := decide_eq_false hd1I
  have HL1 := Lib.hid (show 1 ≤ left by omega)
  have HD1 := Lib.hid (show deep ≤ 16 by omega)
  clear hl1 hd1
  go_enter Tryd.func11, Tryd.ntmps11
  go_wp2_with (with_reducible refine wl_stop (o := ⟨some 3, _, _, _, _, _⟩) ?_)
  unfold Stop
  refine wl_boxS st0 rfl rfl rfl [.int .i64 k, .int .u64 (n : Int), .slice da d.length dc, .slice la l.length lc] rfl ?_
  intro gb wb st
  clear st0
  have b0 := (st.at 0 rfl).cell (i := 0) rfl
  have b1 := (st.at 0 rfl).cell (i := 1) rfl
  have b2 := (st.at 0 rfl).cell (i := 2) rfl
  have b3 := (st.at 0 rfl).cell (i := 3) rfl
  have ST := Lib.hid st
  clear st
  go_upto_region 3 with fail
  go_cut [8] (fun u wx => u = .bool (shD k) ∧ wb = wx)
  case first =>
    by_cases q2 : k = 2
    · skip
      have q2b : (k == 2) = true := by simp [q2]
      go_wp2_with fail
      go_meet
      exact ⟨by simp [shD, q2], rfl⟩
    · skip
      have q2b : (k == 2) = false := by rw [beq_eq_false_iff_ne]; exact q2
      by_cases q3 : k = 3
      · skip
        have q3b : (k == 3) = true := by simp [q3]
        go_wp2_with fail
        go_meet
        exact ⟨by simp [shD, q3], rfl⟩
      · skip
        have q3b : (k == 3) = false := by rw [beq_eq_false_iff_ne]; exact q3
        go_wp2_with fail
        go_meet
        exact ⟨by simp [shD, q2, q3], rfl⟩
  case rest =>
  obtain ⟨rfl, rfl⟩ := hcut
  go_upto_region 4 with fail
  go_cut [9] (fun u wx => u = .bool (shL k) ∧ wb = wx)
  case first =>
    by_cases q4 : k = 4
    · skip
      have q4b : (k == 4) = true := by simp [q4]
      go_wp2_with fail
      go_meet
      exact ⟨by simp [shL, q4], rfl⟩
    · skip
      have q4b : (k == 4) = false := by rw [beq_eq_false_iff_ne]; exact q4
      by_cases q5 : k = 5
      · skip
        have q5b : (k == 5) = true := by simp [q5]
        go_wp2_with fail
        go_meet
        exact ⟨by simp [shL, q5], rfl⟩
      · skip
        have q5b : (k == 5) = false := by rw [beq_eq_false_iff_ne]; exact q5
        go_wp2_with fail
        go_meet
        exact ⟨by simp [shL, q4, q5], rfl⟩
  case rest =>
  obtain ⟨rfl, rfl⟩ := hcut
  generalize hsd : shD k = sD at *
  generalize hsl : shL k = sL at *
  have HSD := Lib.hid hsd
  have HSL := Lib.hid hsl
  clear hsd hsl
  go_wp2_with fail
  refine (HV.out da d.length dc d _ (HRD.out.still ST.out.fr) HDL.out (HFW.out.then ST.out.fr)).mono ?_
  rintro e w2 ⟨rfl, hf2⟩
  have ST2 := Lib.hid (ST.out.keep hf2)
  have b0 := (ST2.out.at 0 rfl).cell (i := 0) rfl
  have b1 := (ST2.out.at 0 rfl).cell (i := 1) rfl
  have b2 := (ST2.out.at 0 rfl).cell (i := 2) rfl
  have b3 := (ST2.out.at 0 rfl).cell (i := 3) rfl
  have HF := Lib.hid ST2.out.fr
  clear hf2 ST
  generalize htu : u8 d = tU at *
  have HTU := Lib.hid htu
  clear htu
  go_upto_region 6 with fail
  go_cut [40] (fun u wx => u = .bool (isG k) ∧ w2 = wx)
  case first =>
    by_cases q0 : k < 0
    · skip
      have q0b : decide (k < 0) = true := decide_eq_true q0
      go_wp2_with fail
      go_meet
      exact ⟨by unfold isG; simp [q0], rfl⟩
    · skip
      have q0b : decide (k < 0) = false := decide_eq_false q0
      by_cases q7 : 7 < k
      · skip
        have q7b : decide (7 < k) = true := decide_eq_true q7
        go_wp2_with fail
        go_meet
        exact ⟨by unfold isG; simp [q7], rfl⟩
      · skip
        have q7b : decide (7 < k) = false := decide_eq_false q7
        by_cases q6 : k = 6
        · skip
          have q6b : (k == 6) = true := by simp [q6]
          clear q6
          go_wp2_with fail
          go_meet
          exact ⟨by unfold isG; rw [q0b, q7b, q6b]; rfl, rfl⟩
        · skip
          have q6b : (k == 6) = false := by rw [beq_eq_false_iff_ne]; exact q6
          clear q6
          go_wp2_with fail
          go_meet
          exact ⟨by unfold isG; rw [q0b, q7b, q6b]; rfl, rfl⟩
  case rest =>
  obtain ⟨rfl, rfl⟩ := hcut
  cases gG : (isG k) with
  | true =>
    have HgG := Lib.hid gG
    clear gG
    have HP : R = none := by
      rw [← HR.out]
      refine vlW_no ?_
      rw [fitW_r]; unfold rB rC; rw [HSD.out, HSL.out, HTU.out]; simp only [HgG.out, Bool.not_true, Bool.false_and]
    subst HP
    go_wp2_with fail
    go_ret2
    exact ⟨rfl, HF.out⟩
  | false =>
    have HgG := Lib.hid gG
    clear gG
    go_upto_region 8 with fail
    go_cut [54] (fun u wx => u = .bool (!(n == 0) && (sD || sL)) ∧ w2 = wx)
    case first =>
      by_cases z0 : n = 0
      · skip
        have z0b : (((n : Nat) : Int) == 0) = true := by simp [z0]
        have z0c : (((n : Nat) : Int) != 0) = false := by simp [z0]
        have Hz0 := Lib.hid z0
        clear z0
        go_wp2_with fail
        go_meet
        exact ⟨by have ez0 := Hz0.out; simp [ez0], rfl⟩
      · skip
        have z0b : (((n : Nat) : Int) == 0) = false := by rw [beq_eq_false_iff_ne]; omega
        have z0c : (((n : Nat) : Int) != 0) = true := by simp [bne, z0b]
        have Hz0 := Lib.hid z0
        clear z0
        cases sD with
        | true =>
          go_wp2_with fail
          go_meet
          exact ⟨by have ez0 := Hz0.out; simp [ez0], rfl⟩
        | false =>
          cases sL with
          | true =>
            go_wp2_with fail
            go_meet
            exact ⟨by have ez0 := Hz0.out; simp [ez0], rfl⟩
          | false =>
            go_wp2_with fail
            go_meet
            exact ⟨by have ez0 := Hz0.out; simp [], rfl⟩
    case rest =>
    obtain ⟨rfl, rfl⟩ := hcut
    cases gA : (!(n == 0) && (sD || sL)) with
    | true =>
      have HgA := Lib.hid gA
      clear gA
      have HP : R = none := by
        rw [← HR.out]
        refine vlW_no ?_
        rw [fitW_r]; unfold rB rC; rw [HSD.out, HSL.out, HTU.out]; simp only [HgG.out, HgA.out, Bool.not_true, Bool.true_or, Bool.and_false, Bool.false_and]
      subst HP
      go_wp2_with fail
      go_ret2
      exact ⟨rfl, HF.out⟩
    | false =>
      have HgA := Lib.hid gA
      clear gA
      go_upto_region 9 with fail
      go_cut [54] (fun u wx => u = .bool (!(d.length == 0) && !sD) ∧ w2 = wx)
      case first =>
        by_cases z0 : d.length = 0
        · skip
          have z0b : (((d.length : Nat) : Int) == 0) = true := by simp [z0]
          have z0c : (((d.length : Nat) : Int) != 0) = false := by simp [z0]
          have Hz0 := Lib.hid z0
          clear z0
          go_wp2_with fail
          go_meet
          exact ⟨by have ez0 := Hz0.out; simp [ez0], rfl⟩
        · skip
          have z0b : (((d.length : Nat) : Int) == 0) = false := by rw [beq_eq_false_iff_ne]; omega
          have z0c : (((d.length : Nat) : Int) != 0) = true := by simp [bne, z0b]
          have Hz0 := Lib.hid z0
          clear z0
          cases sD with
          | true =>
            go_wp2_with fail
            go_meet
            exact ⟨by have ez0 := Hz0.out; simp [], rfl⟩
          | false =>
            go_wp2_with fail
            go_meet
            exact ⟨by have ez0 := Hz0.out; simp [ez0], rfl⟩
      case rest =>
      obtain ⟨rfl, rfl⟩ := hcut
      cases gB : (!(d.length == 0) && !sD) with
      | true =>
        have HgB := Lib.hid gB
        clear gB
        have HP : R = none := by
          rw [← HR.out]
          refine vlW_no ?_
          rw [fitW_r]; unfold rB rC; rw [HSD.out, HSL.out, HTU.out]; simp only [HgG.out, HgA.out, HgB.out, Bool.not_true, Bool.true_or, Bool.or_true, Bool.and_false, Bool.false_and]
        subst HP
        go_wp2_with fail
        go_ret2
        exact ⟨rfl, HF.out⟩
      | false =>
        have HgB := Lib.hid gB
        clear gB
        go_upto_region 10 with fail
        go_cut [54] (fun u wx => u = .bool (!(l.length == 0) && !sL) ∧ w2 = wx)
        case first =>
          by_cases z0 : l.length = 0
          · skip
            have z0b : (((l.length : Nat) : Int) == 0) = true := by simp [z0]
            have z0c : (((l.length : Nat) : Int) != 0) = false := by simp [z0]
            have Hz0 := Lib.hid z0
            clear z0
            go_wp2_with fail
            go_meet
            exact ⟨by have ez0 := Hz0.out; simp [ez0], rfl⟩
          · skip
            have z0b : (((l.length : Nat) : Int) == 0) = false := by rw [beq_eq_false_iff_ne]; omega
            have z0c : (((l.length : Nat) : Int) != 0) = true := by simp [bne, z0b]
            have Hz0 := Lib.hid z0
            clear z0
            cases sL with
            | true =>
              go_wp2_with fail
              go_meet
              exact ⟨by have ez0 := Hz0.out; simp [], rfl⟩
            | false =>
              go_wp2_with fail
              go_meet
              exact ⟨by have ez0 := Hz0.out; simp [ez0], rfl⟩
        case rest =>
        obtain ⟨rfl, rfl⟩ := hcut
        cases gC : (!(l.length == 0) && !sL) with
        | true =>
          have HgC := Lib.hid gC
          clear gC
          have HP : R = none := by
            rw [← HR.out]
            refine vlW_no ?_
            rw [fitW_r]; unfold rB rC; rw [HSD.out, HSL.out, HTU.out]; simp only [HgG.out, HgA.out, HgB.out, HgC.out, Bool.not_true, Bool.or_true, Bool.and_false, Bool.false_and]
          subst HP
          go_wp2_with fail
          go_ret2
          exact ⟨rfl, HF.out⟩
        | false =>
          have HgC := Lib.hid gC
          clear gC
          go_upto_region 12 with fail
          go_cut [80] (fun u wx => u = .bool (k == 3 && !tU) ∧ w2 = wx)
          case first =>
            by_cases q3 : k = 3
            · skip
              have q3b : (k == 3) = true := by simp [q3]
              have Hq3 := Lib.hid q3
              clear q3
              cases tU with
              | true =>
                go_wp2_with fail
                go_meet
                exact ⟨by have eq3 := Hq3.out; simp [eq3], rfl⟩
              | false =>
                go_wp2_with fail
                go_meet
                exact ⟨by have eq3 := Hq3.out; simp [eq3], rfl⟩
            · skip
              have q3b : (k == 3) = false := by rw [beq_eq_false_iff_ne]; exact q3
              have Hq3 := Lib.hid q3
              clear q3
              go_wp2_with fail
              go_meet
              exact ⟨by have eq3 := Hq3.out; simp [eq3], rfl⟩
          case rest =>
          obtain ⟨rfl, rfl⟩ := hcut
          cases gD : (k == 3 && !tU) with
          | true =>
            have HgD := Lib.hid gD
            clear gD
            have HP : R = none := by
              rw [← HR.out]
              refine vlW_no ?_
              rw [fitW_r]; unfold rB rC; rw [HSD.out, HSL.out, HTU.out]; simp only [HgG.out, HgA.out, HgB.out, HgC.out, HgD.out, Bool.not_true, Bool.true_or, Bool.and_false]
            subst HP
            go_wp2_with fail
            go_ret2
            exact ⟨rfl, HF.out⟩
          | false =>
            have HgD := Lib.hid gD
            clear gD
            go_upto_region 13 with fail
            go_cut [80] (fun u wx => u = .bool (k == 7 && (decide (n < 20) || decide (22 < n))) ∧ w2 = wx)
            case first =>
              by_cases q7 : k = 7
              · skip
                have q7b : (k == 7) = true := by simp [q7]
                have Hq7 := Lib.hid q7
                clear q7
                by_cases n1 : n < 20
                · skip
                  have n1I : ((n : Nat) : Int) < 20 := by omega
                  have n1b : decide (((n : Nat) : Int) < 20) = true := decide_eq_true n1I
                  have Hn1 := Lib.hid n1
                  clear n1
                  go_wp2_with fail
                  go_meet
                  exact ⟨by have eq7 := Hq7.out; have en1 := Hn1.out; simp [eq7, en1], rfl⟩
                · skip
                  have n1I : ¬ (((n : Nat) : Int) < 20) := by omega
                  have n1b : decide (((n : Nat) : Int) < 20) = false := decide_eq_false n1I
                  have Hn1 := Lib.hid n1
                  clear n1
                  by_cases n2 : 22 < n
                  · skip
                    have n2I : (22 : Int) < ((n : Nat) : Int) := by omega
                    have n2b : decide ((22 : Int) < ((n : Nat) : Int)) = true := decide_eq_true n2I
                    have Hn2 := Lib.hid n2
                    clear n2
                    go_wp2_with fail
                    go_meet
                    exact ⟨by have eq7 := Hq7.out; have en2 := Hn2.out; simp [eq7, en2], rfl⟩
                  · skip
                    have n2I : ¬ ((22 : Int) < ((n : Nat) : Int)) := by omega
                    have n2b : decide ((22 : Int) < ((n : Nat) : Int)) = false := decide_eq_false n2I
                    have Hn2 := Lib.hid n2
                    clear n2
                    go_wp2_with fail
                    go_meet
                    exact ⟨by have eq7 := Hq7.out; have en1 := Hn1.out; have en2 := Hn2.out; simp [eq7, en1, en2], rfl⟩
              · skip
                have q7b : (k == 7) = false := by rw [beq_eq_false_iff_ne]; exact q7
                have Hq7 := Lib.hid q7
                clear q7
                go_wp2_with fail
                go_meet
                exact ⟨by have eq7 := Hq7.out; simp [eq7], rfl⟩
            case rest =>
            obtain ⟨rfl, rfl⟩ := hcut
            cases gE : (k == 7 && (decide (n < 20) || decide (22 < n))) with
            | true =>
              have HgE := Lib.hid gE
              clear gE
              have HP : R = none := by
                rw [← HR.out]
                refine vlW_no ?_
                rw [fitW_r]; unfold rB rC; rw [HSD.out, HSL.out, HTU.out]; simp only [HgG.out, HgA.out, HgB.out, HgC.out, HgD.out, HgE.out, Bool.not_true, Bool.true_or, Bool.or_true, Bool.and_false]
              subst HP
              go_wp2_with fail
              go_ret2
              exact ⟨rfl, HF.out⟩
            | false =>
              have HgE := Lib.hid gE
              clear gE
              go_upto_region 14 with fail
              go_cut [80] (fun u wx => u = .bool (k == 5 && !(l.length % 2 == 0)) ∧ w2 = wx)
              case first =>
                by_cases q5 : k = 5
                · skip
                  have q5b : (k == 5) = true := by simp [q5]
                  have Hq5 := Lib.hid q5
                  clear q5
                  by_cases m2 : l.length % 2 = 0
                  · skip
                    have m2b : ((((l.length : Nat) : Int) % 2) == 0) = true := by simp; omega
                    have m2c : ((((l.length : Nat) : Int) % 2) != 0) = false := by simp [bne, m2b]
                    have Hm2 := Lib.hid m2
                    clear m2
                    go_wp2_with fail
                    go_meet
                    exact ⟨by have eq5 := Hq5.out; have em2 := Hm2.out; simp [eq5, em2], rfl⟩
                  · skip
                    have m2b : ((((l.length : Nat) : Int) % 2) == 0) = false := by rw [beq_eq_false_iff_ne]; omega
                    have m2c : ((((l.length : Nat) : Int) % 2) != 0) = true := by simp [bne, m2b]
                    have Hm2 := Lib.hid m2
                    clear m2
                    go_wp2_with fail
                    go_meet
                    exact ⟨by have eq5 := Hq5.out; have em2 := Hm2.out; simp [eq5, em2], rfl⟩
                · skip
                  have q5b : (k == 5) = false := by rw [beq_eq_false_iff_ne]; exact q5
                  have Hq5 := Lib.hid q5
                  clear q5
                  go_wp2_with fail
                  go_meet
                  exact ⟨by have eq5 := Hq5.out; simp [eq5], rfl⟩
              case rest =>
              obtain ⟨rfl, rfl⟩ := hcut
              cases gF : (k == 5 && !(l.length % 2 == 0)) with
              | true =>
                have HgF := Lib.hid gF
                clear gF
                have HP : R = none := by
                  rw [← HR.out]
                  refine vlW_no ?_
                  rw [fitW_r]; unfold rB rC; rw [HSD.out, HSL.out, HTU.out]; simp only [HgG.out, HgA.out, HgB.out, HgC.out, HgD.out, HgE.out, HgF.out, Bool.not_true, Bool.or_true, Bool.and_false]
                subst HP
                go_wp2_with fail
                go_ret2
                exact ⟨rfl, HF.out⟩
              | false =>
                have HgF := Lib.hid gF
                clear gF
                have HFIT := Lib.hid (show fitW u8 k n d l.length = true by
                  rw [fitW_r]; unfold rB rC; rw [HSD.out, HSL.out, HTU.out]; simp only [HgG.out, HgA.out, HgB.out, HgC.out, HgD.out, HgE.out, HgF.out, Bool.or_self, Bool.not_false, Bool.and_self])
                have HRR := Lib.hid (show (vlWs u8 l deep (left - 1)).map (· + 1) = R by
                  rw [← HR.out]; unfold vlW; rw [if_neg]
                  rw [HFIT.out]; have h1 := HL1.out; have h2 := HD1.out; simp; omega)
                clear HgG HgA HgB HgC HgD HgE HgF b0 b1 b2 HSD HSL HTU HFIT HR
                go_wp2_with fail
                clear b3
                go_loopw [11, 12] (fun cv kv wx => ∃ (c i : Nat), cv = .int .i64 (c : Int) ∧ kv = .int .i64 (i : Int) ∧ i ≤ l.length ∧ 1 ≤ c ∧ c ≤ left ∧ Hid ((vlWs u8 (l.drop i) deep (left - c)).map (· + c) = R) ∧ Hid (Fr Nob w2 wx)) (fun _ kv _ => l.length - (intOf kv).toNat)
                case atStart => exact ⟨1, 0, rfl, rfl, by omega, by omega, HL1.out, HRR, Lib.hid (Fr.refl _ _)⟩
                case round =>
                  clear HRR
                  obtain ⟨c, i, rfl, rfl, hi, hc1, hc, HX, HFX⟩ := hrel
                  have b3 := ((ST2.out.keep HFX.out).at 0 rfl).cell (i := 3) rfl
                  rcases Nat.lt_or_ge i l.length with hil | hil
                  · have hiI : (i : Int) < (l.length : Int) := by omega
                    have hi0 : (0 : Int) ≤ (i : Int) := by omega
                    obtain ⟨t, ht⟩ : ∃ t, l[i]? = some t := ⟨l[i], List.getElem?_eq_getElem hil⟩
                    have hdrop : l.drop i = t :: l.drop (i + 1) := by
                      obtain ⟨hk2, e⟩ := List.getElem?_eq_some_iff.1 ht
                      rw [← e]; exact List.drop_eq_getElem_cons hk2
                    obtain ⟨lb, lof, rfl, hits⟩ := HLS.out.resolve_left (fun h => by subst h; simp at hil)
                    obtain ⟨vs, hvl, hat, hiv⟩ := hits.get l ht
                    rw [Nat.mul_comm] at hat
                    have HAT := Lib.hid ((hat.keep HF.out id).keep HFX.out id)
                    have HIV := Lib.hid (ItV.still t (ItV.still t hiv HF.out) HFX.out)
                    have HVL := Lib.hid hvl
                    have HT := Lib.hid ht
                    have HDR := Lib.hid hdrop
                    have HIL := Lib.hid hil
                    have hlfe : ((left : Nat) : Int) - ((c : Nat) : Int) = ((left - c : Nat) : Int) := by omega
                    generalize hlf : left - c = lf at *
                    have HLF := Lib.hid hlf
                    have HC := Lib.hid (And.intro hc1 hc)
                    have hcI : (c : Int) ≤ 4096 := by have := HM.out; omega
                    have hlfI : (lf : Int) ≤ 4096 := by have := HM.out; omega
                    clear hits ht hdrop hil hi hlf hat hiv hvl hc1 hc
                    go_wp2_with (with_reducible refine wl_stop (o := ⟨some 123, _, _, _, _, _⟩) ?_)
                    unfold Stop
                    refine wl_loadR rfl rfl Tryd.underlying31 rfl rfl HAT.out (by rw [HVL.out]; kernel_rfl) ?_
                    go_wp2_with fail
                    refine (HIH.out i t HT.out (deep + 1) lf lf vs _ rfl (by have := HD1.out; omega) (by have := HM.out; have := HLF.out; omega) HVL.out HIV.out ((HFW.out.then HF.out).then HFX.out)).mono ?_
                    rintro e w3 ⟨rfl, hf3⟩
                    have HF3 := Lib.hid (HFX.out.then hf3)
                    clear hf3 hlfe
                    cases hr : vlW u8 t (deep + 1) lf with
                    | none =>
                      have HP : R = none := by
                        rw [← HX.out, HDR.out]; unfold vlWs; rw [hr]; rfl
                      subst HP
                      clear hr
                      unfold vlA
                      simp only [Option.getD_none, Option.isSome_none]
                      go_wp2_with fail
                      go_ret2
                      exact ⟨rfl, HF.out.then HF3.out⟩
                    | some m =>
                      have HRM := Lib.hid hr
                      have hm2 := vlW_most u8 t (deep + 1) lf m hr
                      have hmI : (m : Int) ≤ 4096 := by omega
                      have HM2 := Lib.hid hm2
                      clear hr hm2
                      unfold vlA
                      simp only [Option.getD_some, Option.isSome_some]
                      go_wp2_with fail
                      go_roundw
                      case rel => exact ⟨c + m, i + 1, by go_num, by go_num, by have := HIL.out; omega, by have := HC.out; omega, by have h1 := HLF.out; have h2 := HM2.out; have h3 := HC.out; omega, Lib.hid (by
                        rw [← HX.out, HDR.out]; conv => rhs; unfold vlWs
                        rw [HRM.out, ← HLF.out, Option.map_map, Nat.sub_sub]
                        congr 1
                        funext x
                        simp only [Function.comp]
                        omega), HF3⟩
                      case measure => have := HIL.out; simp [intOf]; omega
                  · have hie : i = l.length := by omega
                    subst hie
                    have hiI : ¬ ((l.length : Nat) : Int) < (l.length : Int) := by omega
                    have HP : R = some c := by
                      rw [← HX.out, List.drop_length]; unfold vlWs; simp
                    subst HP
                    go_wp2_with fail
                    go_ret2
                    exact ⟨rfl, HF.out.then HFX.out⟩
mutual
theorem valid_rec (u8 : List UInt8 → Bool) (w0 : World) (hV : VOk u8 w0) : ∀ t : It, vlT u8 w0 t
  | .mk k n d l => valid_step u8 w0 hV k n d l (valids_rec u8 w0 hV l)
theorem valids_rec (u8 : List UInt8 → Bool) (w0 : World) (hV : VOk u8 w0) : ∀ (l : List It) (i : Nat) (t : It), l[i]? = some t → vlT u8 w0 t
  | [], _, _, h => by simp at h
  | x :: ts, 0, t, h => by
    have e : x = t := by simpa using h
    subst e
    exact valid_rec u8 w0 hV x
  | x :: ts, i + 1, t, h => valids_rec u8 w0 hV ts i t (by simpa using h)
end
end Go.Proofs.YtdadnajbdnbbdaaDoor

/- wire: the reference's write, Print (printed by gen_wp15.py). -/
namespace Go.Mv
mutual
/-- what is asked of an item that is written: kinds, all the way down -/
def okW : It → Prop
  | .mk k _ _ l => shK k = true ∧ oksW l
def oksW : List It → Prop
  | [] => True
  | t :: ts => okW t ∧ oksW ts
end
theorem oksW_get : ∀ (l : List It) (i : Nat) (t : It), oksW l → l[i]? = some t → okW t
  | [], _, _, _, h => by simp at h
  | x :: ts, 0, t, h, e => by
    unfold oksW at h
    have e2 : x = t := by simpa using e
    subst e2; exact h.1
  | x :: ts, i + 1, t, h, e => by
    unfold oksW at h
    exact oksW_get ts i t h.2 (by simpa using e)
mutual
theorem ok_of_vl (u8 : List UInt8 → Bool) : ∀ (t : It) (deep left m : Nat), vlW u8 t deep left = some m → okW t
  | .mk k n d l, deep, left, m, h => by
    unfold vlW at h
    split at h
    · cases h
    · rename_i h0
      simp only [Option.map_eq_some_iff] at h
      obtain ⟨x, hx, -⟩ := h
      unfold okW
      refine ⟨?_, oks_of_vl u8 l _ _ x hx⟩
      have hf : fitW u8 k n d l.length = true := by
        cases hf : fitW u8 k n d l.length with
        | true => rfl
        | false => exact absurd (.inr (.inr hf)) h0
      rw [fitW_eq] at hf
      simp only [Bool.and_eq_true] at hf
      exact hf.1.1.1.1
theorem oks_of_vl (u8 : List UInt8 → Bool) : ∀ (ts : List It) (deep left m : Nat), vlWs u8 ts deep left = some m → oksW ts
  | [], _, _, _, _ => by unfold oksW; trivial
  | t :: ts, deep, left, m, h => by
    unfold vlWs at h
    split at h
    · cases h
    · rename_i x hx
      simp only [Option.map_eq_some_iff] at h
      obtain ⟨y, hy, -⟩ := h
      unfold oksW
      exact ⟨ok_of_vl u8 t _ _ x hx, oks_of_vl u8 ts _ _ y hy⟩
end
/-- not above: the other is not below -/
theorem leqW : ∀ a b : List UInt8, (Op.bytesLess a b || a == b) = !ltW b a
  | [], [] => rfl
  | _ :: _, [] => rfl
  | [], _ :: _ => rfl
  | x :: a, y :: b => by
    have ih := leqW a b
    unfold Op.bytesLess ltW
    by_cases h : x = y
    · subst h
      have h0 : ¬ x < x := UInt8.lt_irrefl x
      rw [if_pos rfl, ← ih]
      simp [h0]
    · have hb : (x == y) = false := by simpa using h
      have hb2 : (x :: a == y :: b) = false := by simp [h]
      have hne : ¬ y = x := fun e => h e.symm
      rw [if_neg hne, hb, hb2, Bool.false_and, Bool.or_false, Bool.or_false]
      by_cases hl : x < y
      · have h1 : ¬ y.toNat < x.toNat := by have := UInt8.lt_iff_toNat_lt.1 hl; omega
        simp [hl, h1]
      · have h3 : y < x := UInt8.lt_of_le_of_ne (UInt8.not_lt.1 hl) (fun e => h e.symm)
        have h1 : y.toNat < x.toNat := UInt8.lt_iff_toNat_lt.1 h3
        simp [hl, h1]
end Go.Mv
namespace Go.Proofs.YtdadnajbdnbbdaaDoor
open Go.RowKit Go.Mv Mvp
/-- the text is whatever, where it failed -/
def wrP (r : Option (List UInt8)) (e : Ending) : Prop := match r with
  | some s => e = .returned (.tuple #[.string (mkS s), .bool true])
  | none => ∃ s, e = .returned (.tuple #[.string s, .bool false])
def wrT (t : It) : Prop := ∀ (vs : List Value) (w : World), vs.length = 4 → ItV w vs t → okW t →
    Calls Tryd.prog 12 #[.agg vs.toArray] w fun e w' => wrP (wrW t) e ∧ Fr Nob w w'
theorem exec_strW {o : Oper} {a : Act} {x : Operand} (ho : o.op = .convert 24 9 x) {sa : Option Addr} {m c : Nat} {l : List UInt8} (hx : a.eval x = .slice sa m c) {w : World} (h : RdB w sa m l) : (execOp a.eval o).run Tryd.prog w = .ok (.value (.string (mkS l))) w := by
  unfold execOp
  simp only [ho, hx, Sem.run_bind, run_string h c Tryd.underlying24 Tryd.underlying5 Tryd.underlying9, Result.andThen_ok, Sem.run_pure]
theorem exec_addW {o : Oper} {a : Act} {p q : Operand} {T U : TypeId} {s t : List UInt8} (ho : o.op = .binOp .add T p q U) (hp : a.eval p = .string (mkS s)) (hq : a.eval q = .string (mkS t)) (h : s.length + t.length ≤ 2000000) (w : World) :
    (execOp a.eval o).run Tryd.prog w = .ok (.value (.string (mkS (s ++ t)))) w := by
  have h1 : (mkS s).size + (mkS t).size ≤ 2000000 := by rw [mkS_size, mkS_size]; exact h
  unfold execOp
  simp only [ho, hp, hq]
  go_simp
  rw [mkS_app, if_neg (by omega)]
set_option maxHeartbeats 4000000 in
set_option maxRecDepth 1000000 in
theorem write_N (k : Int) (n : Nat) (d : List UInt8) (l : List It) (ih : ∀ (i : Nat) (t : It), l[i]? = some t → wrT t) (hcl : k = 0 ∨ k = 1 ∨ k = 7) : wrT (.mk k n d l) := by
  intro vs w hvs hit hok
  unfold ItV at hit
  unfold okW at hok
  obtain ⟨da, dc, la, lc, rfl, hrd, hn, hdl, hll, hlst⟩ := hit
  obtain ⟨hk, hoks⟩ := hok
  obtain ⟨kd, rfl, hk8⟩ : ∃ kd : Nat, k = (kd : Int) ∧ kd < 8 := by
    unfold shK shN shD shL at hk
    simp only [Bool.or_eq_true, beq_iff_eq] at hk
    exact ⟨k.toNat, by omega, by omega⟩
  have HRD := Lib.hid hrd
  have HN := Lib.hid hn
  have HDL := Lib.hid hdl
  have HLL := Lib.hid hll
  have HLS := Lib.hid hlst
  have HOK := Lib.hid hoks
  have HK8 := Lib.hid hk8
  have HIH := Lib.hid ih
  have st0 := St.start Nob w
  have hllI : (l.length : Int) ≤ 1000 := by omega
  have hdlI : (d.length : Int) ≤ 1000000 := by omega
  have HC := Lib.hid hcl
  obtain ⟨R, hR⟩ : ∃ R, wrW (.mk (kd : Int) n d l) = R := ⟨_, rfl⟩
  rw [hR]
  have HR := Lib.hid hR
  clear hvs hrd hn hdl hll hlst hk hoks ih hk8 hcl hR
  go_enter Tryd.func12, Tryd.ntmps12
  go_wp2_with (with_reducible refine wl_stop (o := ⟨some 1, _, _, _, _, _⟩) ?_)
  unfold Stop
  refine wl_boxS st0 rfl rfl rfl [.int .i64 (kd : Int), .int .u64 (n : Int), .slice da d.length dc, .slice la l.length lc] rfl ?_
  intro gb wb st
  clear st0
  have b0 := (st.at 0 rfl).cell (i := 0) rfl
  have b1 := (st.at 0 rfl).cell (i := 1) rfl
  have b2 := (st.at 0 rfl).cell (i := 2) rfl
  have b3 := (st.at 0 rfl).cell (i := 3) rfl
  have ST := Lib.hid st
  clear st
  have he : R = some (headW kd n) := by rw [← HR.out]; unfold wrW; rw [if_pos HC.out]; rfl
  subst he
  by_cases h2 : kd < 2
  · have h2I : (kd : Int) < 2 := by omega
    have h2B : decide ((kd : Int) < 2) = true := decide_eq_true h2I
    clear h2
    go_wp2_with fail
    refine (RHead_any kd n HK8.out HN.out _).mono ?_
    rintro e w2 ⟨rfl, hf2⟩
    have HF := Lib.hid (ST.out.fr.then hf2)
    clear hf2
    go_wp2_with fail
    go_ret2
    exact ⟨rfl, HF.out⟩
  · have h2I : ¬ (kd : Int) < 2 := by omega
    have h2B : decide ((kd : Int) < 2) = false := decide_eq_false h2I
    have h7 : ((kd : Int) == 7) = true := by have := HC.out; rw [beq_iff_eq]; omega
    clear h2
    go_wp2_with fail
    refine (RHead_any kd n HK8.out HN.out _).mono ?_
    rintro e w2 ⟨rfl, hf2⟩
    have HF := Lib.hid (ST.out.fr.then hf2)
    clear hf2
    go_wp2_with fail
    go_ret2
    exact ⟨rfl, HF.out⟩
set_option maxHeartbeats 4000000 in
set_option maxRecDepth 1000000 in
theorem write_D (k : Int) (n : Nat) (d : List UInt8) (l : List It) (ih : ∀ (i : Nat) (t : It), l[i]? = some t → wrT t) (hcl : k = 2 ∨ k = 3) : wrT (.mk k n d l) := by
  intro vs w hvs hit hok
  unfold ItV at hit
  unfold okW at hok
  obtain ⟨da, dc, la, lc, rfl, hrd, hn, hdl, hll, hlst⟩ := hit
  obtain ⟨hk, hoks⟩ := hok
  obtain ⟨kd, rfl, hk8⟩ : ∃ kd : Nat, k = (kd : Int) ∧ kd < 8 := by
    unfold shK shN shD shL at hk
    simp only [Bool.or_eq_true, beq_iff_eq] at hk
    exact ⟨k.toNat, by omega, by omega⟩
  have HRD := Lib.hid hrd
  have HN := Lib.hid hn
  have HDL := Lib.hid hdl
  have HLL := Lib.hid hll
  have HLS := Lib.hid hlst
  have HOK := Lib.hid hoks
  have HK8 := Lib.hid hk8
  have HIH := Lib.hid ih
  have st0 := St.start Nob w
  have hllI : (l.length : Int) ≤ 1000 := by omega
  have hdlI : (d.length : Int) ≤ 1000000 := by omega
  have HC := Lib.hid hcl
  obtain ⟨R, hR⟩ : ∃ R, wrW (.mk (kd : Int) n d l) = R := ⟨_, rfl⟩
  rw [hR]
  have HR := Lib.hid hR
  clear hvs hrd hn hdl hll hlst hk hoks ih hk8 hcl hR
  go_enter Tryd.func12, Tryd.ntmps12
  go_wp2_with (with_reducible refine wl_stop (o := ⟨some 1, _, _, _, _, _⟩) ?_)
  unfold Stop
  refine wl_boxS st0 rfl rfl rfl [.int .i64 (kd : Int), .int .u64 (n : Int), .slice da d.length dc, .slice la l.length lc] rfl ?_
  intro gb wb st
  clear st0
  have b0 := (st.at 0 rfl).cell (i := 0) rfl
  have b1 := (st.at 0 rfl).cell (i := 1) rfl
  have b2 := (st.at 0 rfl).cell (i := 2) rfl
  have b3 := (st.at 0 rfl).cell (i := 3) rfl
  have ST := Lib.hid st
  clear st
  have he : R = if (headW kd d.length ++ d).length ≤ 65536 then some (headW kd d.length ++ d) else none := by
    rw [← HR.out]; unfold wrW; rw [if_neg (by have := HC.out; omega), if_pos HC.out]; rfl
  have HE := Lib.hid he
  clear he
  have h2I : ¬ (kd : Int) < 2 := by have := HC.out; omega
  have h2B : decide ((kd : Int) < 2) = false := decide_eq_false h2I
  have h7 : ((kd : Int) == 7) = false := by have := HC.out; rw [beq_eq_false_iff_ne]; omega
  have h4I : (kd : Int) < 4 := by have := HC.out; omega
  have h4B : decide ((kd : Int) < 4) = true := decide_eq_true h4I
  go_wp2_with fail
  refine wp_region_noPanic ?_
  refine wp_region_plan (fun wx => Has wx gb [.int .i64 (kd : Int), .int .u64 (n : Int), .slice da d.length dc, .slice la l.length lc] 31 ∧ RdB wx da d.length d ∧ Fr Nob wb wx) 10 (.w 0 (.t 1 (.w 2 (.t 3 (.w 4 (.w 5 (.w 7 (.t 8 (.t 9 (.r 6 (.m 10 (.w 11 .nil)))))))))))) (by kernel_rfl) (by kernel_rfl) ⟨(ST.out.at 0 rfl).drew, (HRD.out.1.still ST.out.fr).still (Fr.refl Nob _).drew, (Fr.refl Nob _).drew⟩ (fun _ _ _ _ _ h => h) ?_
  clear b0 b1 b2 b3
  refine plan_w (v := ?_) rfl rfl (fun wx => ?_) ?_; rotate_left 1; (go_simp; with_reducible rfl)
  try simp only [Act.put, List.setIfInBounds_toArray, List.set_cons_zero, List.set_cons_succ]
  refine plan_t (v := .int .i64 (kd : Int)) rfl rfl (fun wx hS => ?_) ?_
  · have hc := hS.1.cell (i := 0) rfl; clear hS; go_simp
  try simp only [Act.put, List.setIfInBounds_toArray, List.set_cons_zero, List.set_cons_succ]
  refine plan_w (v := ?_) rfl rfl (fun wx => ?_) ?_; rotate_left 1; (go_simp; with_reducible rfl)
  try simp only [Act.put, List.setIfInBounds_toArray, List.set_cons_zero, List.set_cons_succ]
  refine plan_t (v := .slice da d.length dc) rfl rfl (fun wx hS => ?_) ?_
  · have hc := hS.1.cell (i := 2) rfl; clear hS; go_simp
  try simp only [Act.put, List.setIfInBounds_toArray, List.set_cons_zero, List.set_cons_succ]
  refine plan_w (v := ?_) rfl rfl (fun wx => ?_) ?_; rotate_left 1; (go_simp; with_reducible rfl)
  try simp only [Act.put, List.setIfInBounds_toArray, List.set_cons_zero, List.set_cons_succ]
  have hwr : IntKind.u64.wrap ((d.length : Nat) : Int) = ((d.length : Nat) : Int) := by simp [IntKind.wrap, IntKind.bits, IntKind.signed]; omega
  refine plan_w (v := .int .u64 ((d.length : Nat) : Int)) rfl rfl (fun wx => ?_) ?_
  · go_simp
  try simp only [Act.put, List.setIfInBounds_toArray, List.set_cons_zero, List.set_cons_succ]
  refine plan_w (v := ?_) rfl rfl (fun wx => ?_) ?_; rotate_left 1; (go_simp; with_reducible rfl)
  try simp only [Act.put, List.setIfInBounds_toArray, List.set_cons_zero, List.set_cons_succ]
  refine plan_t (v := .slice da d.length dc) rfl rfl (fun wx hS => ?_) ?_
  · have hc := hS.1.cell (i := 2) rfl; clear hS; go_simp
  try simp only [Act.put, List.setIfInBounds_toArray, List.set_cons_zero, List.set_cons_succ]
  refine plan_t (v := .string (mkS d)) rfl rfl (fun wx hS => exec_strW rfl rfl hS.2.1) ?_
  try simp only [Act.put, List.setIfInBounds_toArray, List.set_cons_zero, List.set_cons_succ]
  refine plan_r rfl rfl ?_
  go_simp
  refine (RHead_any kd d.length HK8.out (by have := HDL.out; omega) _).mono ?_
  rintro e w2 ⟨rfl, hf2⟩
  have HF := Lib.hid (ST.out.fr.drew.then hf2)
  refine ⟨⟨((ST.out.at 0 rfl).drew).keep hf2 id, ((HRD.out.1.still ST.out.fr).still (Fr.refl Nob _).drew).still hf2, (Fr.refl Nob _).drew.then hf2⟩, ?_⟩
  clear hf2
  try simp only [Act.put, List.setIfInBounds_toArray, List.set_cons_zero, List.set_cons_succ]
  refine plan_m rfl rfl ?_
  refine wp_val (exec_addW rfl rfl rfl (by have := headW_len kd d.length; have := HDL.out; omega) _) ?_
  try simp only [Act.put, List.setIfInBounds_toArray, List.set_cons_zero, List.set_cons_succ]
  refine plan_w (v := ?_) rfl rfl (fun wx => ?_) ?_; rotate_left 1; (go_simp; with_reducible rfl)
  try simp only [Act.put, List.setIfInBounds_toArray, List.set_cons_zero, List.set_cons_succ]
  refine plan_end ?_
  refine NoPanic.normal ?_
  generalize hX : headW kd d.length ++ d = X at *
  have hsz : ((mkS X).size : Int) = (X.length : Int) := by rw [mkS_size]
  clear hX
  by_cases hle : X.length ≤ 65536
  · have hleI : ((X.length : Nat) : Int) ≤ 65536 := by omega
    have hleB : decide (((X.length : Nat) : Int) ≤ 65536) = true := decide_eq_true hleI
    have HP : R = some X := by rw [HE.out, if_pos hle]
    subst HP
    go_wp2_with fail
    go_ret2
    exact ⟨rfl, HF.out⟩
  · have hleI : ¬ ((X.length : Nat) : Int) ≤ 65536 := by omega
    have hleB : decide (((X.length : Nat) : Int) ≤ 65536) = false := decide_eq_false hleI
    have HP : R = none := by rw [HE.out, if_neg hle]
    subst HP
    go_wp2_with fail
    go_ret2
    exact ⟨⟨_, rfl⟩, HF.out⟩
set_option maxHeartbeats 4000000 in
set_option maxRecDepth 1000000 in
theorem write_4 (n : Nat) (d : List UInt8) (l : List It) (ih : ∀ (i : Nat) (t : It), l[i]? = some t → wrT t) : wrT (.mk 4 n d l) := by
  have hcl : True := trivial
  intro vs w hvs hit hok
  unfold ItV at hit
  unfold okW at hok
  obtain ⟨da, dc, la, lc, rfl, hrd, hn, hdl, hll, hlst⟩ := hit
  obtain ⟨hk, hoks⟩ := hok
  have hk8 : True := trivial
  have HRD := Lib.hid hrd
  have HN := Lib.hid hn
  have HDL := Lib.hid hdl
  have HLL := Lib.hid hll
  have HLS := Lib.hid hlst
  have HOK := Lib.hid hoks
  have HK8 := Lib.hid hk8
  have HIH := Lib.hid ih
  have st0 := St.start Nob w
  have hllI : (l.length : Int) ≤ 1000 := by omega
  have hdlI : (d.length : Int) ≤ 1000000 := by omega
  have HC := Lib.hid hcl
  obtain ⟨R, hR⟩ : ∃ R, wrW (.mk 4 n d l) = R := ⟨_, rfl⟩
  rw [hR]
  have HR := Lib.hid hR
  clear hvs hrd hn hdl hll hlst hk hoks ih hk8 hcl hR
  go_enter Tryd.func12, Tryd.ntmps12
  go_wp2_with (with_reducible refine wl_stop (o := ⟨some 1, _, _, _, _, _⟩) ?_)
  unfold Stop
  refine wl_boxS st0 rfl rfl rfl [.int .i64 4, .int .u64 (n : Int), .slice da d.length dc, .slice la l.length lc] rfl ?_
  intro gb wb st
  clear st0
  have b0 := (st.at 0 rfl).cell (i := 0) rfl
  have b1 := (st.at 0 rfl).cell (i := 1) rfl
  have b2 := (st.at 0 rfl).cell (i := 2) rfl
  have b3 := (st.at 0 rfl).cell (i := 3) rfl
  have ST := Lib.hid st
  clear st
  have he : wrWs l false true (headW 4 (l.length)) none = R := by
    rw [← HR.out]; conv => rhs; unfold wrW
    rfl
  have HE := Lib.hid he
  clear he
  go_wp2_with fail
  refine (RHead_any 4 (l.length) (by decide) (by have := HLL.out; omega) _).mono ?_
  rintro e w2 ⟨rfl, hf2⟩
  have HF2 := Lib.hid hf2
  clear hf2 b0 b1 b2 b3
  go_wp2_with fail
  go_loopw [6, 7, 8] (fun ov lv kv wx => ∃ (i : Nat) (o : List UInt8) (lo : Option (List UInt8)), ov = .string (mkS o) ∧ lv = .string (mkS (lo.getD [])) ∧ kv = .int .i64 (i : Int) ∧ i ≤ l.length ∧ Hid (o.length ≤ 65545) ∧ Hid (wrWs (l.drop i) false true o lo = R) ∧ Hid (Fr Nob wb wx) ∧ Hid (lo = none ↔ i = 0 ∨ false = false)) (fun _ _ kv _ => l.length - (intOf kv).toNat)
  case atStart => exact ⟨0, headW 4 (l.length), none, rfl, rfl, rfl, by omega, Lib.hid (by have := headW_len 4 (l.length); omega), HE, HF2, Lib.hid (by simp)⟩
  case round =>
    clear HE HF2
    obtain ⟨i, o, lo, rfl, hlv, rfl, hi, HOL, HR2, HFX, HLO⟩ := hrel
    have HLV := Lib.hid hlv
    subst hlv
    have b0 := ((ST.out.keep HFX.out).at 0 rfl).cell (i := 0) rfl
    have b3 := ((ST.out.keep HFX.out).at 0 rfl).cell (i := 3) rfl
    rcases Nat.lt_or_ge i l.length with hil | hil
    · have hiI : (i : Int) < (l.length : Int) := by omega
      have hi0 : (0 : Int) ≤ (i : Int) := by omega
      obtain ⟨t, ht⟩ : ∃ t, l[i]? = some t := ⟨l[i], List.getElem?_eq_getElem hil⟩
      have hdrop : l.drop i = t :: l.drop (i + 1) := by
        obtain ⟨hk2, e⟩ := List.getElem?_eq_some_iff.1 ht
        rw [← e]; exact List.drop_eq_getElem_cons hk2
      obtain ⟨lb, lof, rfl, hits⟩ := HLS.out.resolve_left (fun h => by subst h; simp at hil)
      obtain ⟨vs, hvl, hat, hiv⟩ := hits.get l ht
      rw [Nat.mul_comm] at hat
      have HFA := Lib.hid (ST.out.fr.then HFX.out)
      have HAT := Lib.hid (hat.keep HFA.out id)
      have HIV := Lib.hid (ItV.still t hiv HFA.out)
      have HVL := Lib.hid hvl
      have HOT := Lib.hid (oksW_get l i t HOK.out ht)
      have HT := Lib.hid ht
      have HDR := Lib.hid hdrop
      have HIL := Lib.hid hil
      clear hits ht hdrop hil hi hat hiv hvl
      go_wp2_with (with_reducible refine wl_stop (o := ⟨some 69, _, _, _, _, _⟩) ?_)
      unfold Stop
      refine wl_loadR rfl rfl Tryd.underlying31 rfl rfl HAT.out (by rw [HVL.out]; kernel_rfl) ?_
      go_wp2_with fail
      refine (HIH.out i t HT.out vs _ HVL.out HIV.out HOT.out).mono ?_
      rintro e w3 ⟨he3, hf3⟩
      have HF3 := Lib.hid (HFX.out.then hf3)
      have b0 := ((ST.out.keep HF3.out).at 0 rfl).cell (i := 0) rfl
      clear hf3
      cases hr : wrW t with
      | none =>
        rw [hr] at he3
        obtain ⟨s, rfl⟩ := he3
        have HP : R = none := by
          rw [← HR2.out, HDR.out]; unfold wrWs; rw [hr]
        subst HP
        clear hr
        go_wp2_with fail
        go_ret2
        exact ⟨⟨_, rfl⟩, ST.out.fr.then HF3.out⟩
      | some s =>
        rw [hr] at he3
        obtain rfl : e = .returned (.tuple #[.string (mkS s), .bool true]) := he3
        have HRS := Lib.hid hr
        have hsl := wrW_le t s hr
        have hs1 : ((mkS o).size : Int) = (o.length : Int) := by rw [mkS_size]
        have hs2 : ((mkS s).size : Int) = (s.length : Int) := by rw [mkS_size]
        have hs3 : (mkS o).size ≤ 70000 := by rw [mkS_size]; have := HOL.out; omega
        have hs4 : (mkS s).size ≤ 70000 := by rw [mkS_size]; omega
        have ho1 : ((o.length : Nat) : Int) ≤ 65545 := by have := HOL.out; omega
        have ho2 : ((s.length : Nat) : Int) ≤ 65536 := by omega
        clear hr hsl
        by_cases hbig : 65536 < o.length + s.length
        · have hbI : (65536 : Int) < ((o.length : Nat) : Int) + ((s.length : Nat) : Int) := by omega
          have hbB : decide ((65536 : Int) < ((o.length : Nat) : Int) + ((s.length : Nat) : Int)) = true := decide_eq_true hbI
          have HP : R = none := by
            rw [← HR2.out, HDR.out]; unfold wrWs; rw [HRS.out]; simp only [if_pos hbig]
          subst HP
          clear hbig
          go_wp2_with fail
          go_ret2
          exact ⟨⟨_, rfl⟩, ST.out.fr.then HF3.out⟩
        · have hbI : ¬ (65536 : Int) < ((o.length : Nat) : Int) + ((s.length : Nat) : Int) := by omega
          have hbB : decide ((65536 : Int) < ((o.length : Nat) : Int) + ((s.length : Nat) : Int)) = false := decide_eq_false hbI
          have HSM := Lib.hid hbig
          clear hbig
          have HP := Lib.hid (show wrWs (l.drop (i + 1)) false true (o ++ s) lo = R by
            rw [← HR2.out, HDR.out]; conv => rhs; unfold wrWs
            rw [HRS.out]; simp only [if_neg HSM.out]; rfl)
          go_wp2_with fail
          go_roundw
          case rel => exact ⟨i + 1, o ++ s, lo, by rw [← mkS_app], rfl, by go_num, by have := HIL.out; omega, Lib.hid (by rw [List.length_append]; have := HSM.out; omega), HP, HF3, Lib.hid (by have h1 := HLO.out; simp at h1; simp [h1])⟩
          case measure => have := HIL.out; simp [intOf]; omega
    · have hie : i = l.length := by omega
      subst hie
      have hiI : ¬ ((l.length : Nat) : Int) < (l.length : Int) := by omega
      have HP : R = some o := by rw [← HR2.out, List.drop_length]; unfold wrWs; rfl
      subst HP
      go_wp2_with fail
      go_ret2
      exact ⟨rfl, ST.out.fr.then HFX.out⟩
set_option maxHeartbeats 4000000 in
set_option maxRecDepth 1000000 in
theorem write_5 (n : Nat) (d : List UInt8) (l : List It) (ih : ∀ (i : Nat) (t : It), l[i]? = some t → wrT t) : wrT (.mk 5 n d l) := by
  have hcl : True := trivial
  intro vs w hvs hit hok
  unfold ItV at hit
  unfold okW at hok
  obtain ⟨da, dc, la, lc, rfl, hrd, hn, hdl, hll, hlst⟩ := hit
  obtain ⟨hk, hoks⟩ := hok
  have hk8 : True := trivial
  have HRD := Lib.hid hrd
  have HN := Lib.hid hn
  have HDL := Lib.hid hdl
  have HLL := Lib.hid hll
  have HLS := Lib.hid hlst
  have HOK := Lib.hid hoks
  have HK8 := Lib.hid hk8
  have HIH := Lib.hid ih
  have st0 := St.start Nob w
  have hllI : (l.length : Int) ≤ 1000 := by omega
  have hdlI : (d.length : Int) ≤ 1000000 := by omega
  have HC := Lib.hid hcl
  obtain ⟨R, hR⟩ : ∃ R, wrW (.mk 5 n d l) = R := ⟨_, rfl⟩
  rw [hR]
  have HR := Lib.hid hR
  clear hvs hrd hn hdl hll hlst hk hoks ih hk8 hcl hR
  go_enter Tryd.func12, Tryd.ntmps12
  go_wp2_with (with_reducible refine wl_stop (o := ⟨some 1, _, _, _, _, _⟩) ?_)
  unfold Stop
  refine wl_boxS st0 rfl rfl rfl [.int .i64 5, .int .u64 (n : Int), .slice da d.length dc, .slice la l.length lc] rfl ?_
  intro gb wb st
  clear st0
  have b0 := (st.at 0 rfl).cell (i := 0) rfl
  have b1 := (st.at 0 rfl).cell (i := 1) rfl
  have b2 := (st.at 0 rfl).cell (i := 2) rfl
  have b3 := (st.at 0 rfl).cell (i := 3) rfl
  have ST := Lib.hid st
  clear st
  have he : wrWs l true true (headW 5 (l.length / 2)) none = R := by
    rw [← HR.out]; conv => rhs; unfold wrW
    rfl
  have HE := Lib.hid he
  clear he
  go_wp2_with fail
  refine (RHead_any 5 (l.length / 2) (by decide) (by have := HLL.out; omega) _).mono ?_
  rintro e w2 ⟨rfl, hf2⟩
  have HF2 := Lib.hid hf2
  clear hf2 b0 b1 b2 b3
  go_wp2_with fail
  go_loopw [6, 7, 8] (fun ov lv kv wx => ∃ (i : Nat) (o : List UInt8) (lo : Option (List UInt8)), ov = .string (mkS o) ∧ lv = .string (mkS (lo.getD [])) ∧ kv = .int .i64 (i : Int) ∧ i ≤ l.length ∧ Hid (o.length ≤ 65545) ∧ Hid (wrWs (l.drop i) true (i % 2 == 0) o lo = R) ∧ Hid (Fr Nob wb wx) ∧ Hid (lo = none ↔ i = 0 ∨ true = false)) (fun _ _ kv _ => l.length - (intOf kv).toNat)
  case atStart => exact ⟨0, headW 5 (l.length / 2), none, rfl, rfl, rfl, by omega, Lib.hid (by have := headW_len 5 (l.length / 2); omega), HE, HF2, Lib.hid (by simp)⟩
  case round =>
    clear HE HF2
    obtain ⟨i, o, lo, rfl, hlv, rfl, hi, HOL, HR2, HFX, HLO⟩ := hrel
    have HLV := Lib.hid hlv
    subst hlv
    have b0 := ((ST.out.keep HFX.out).at 0 rfl).cell (i := 0) rfl
    have b3 := ((ST.out.keep HFX.out).at 0 rfl).cell (i := 3) rfl
    rcases Nat.lt_or_ge i l.length with hil | hil
    · have hiI : (i : Int) < (l.length : Int) := by omega
      have hi0 : (0 : Int) ≤ (i : Int) := by omega
      obtain ⟨t, ht⟩ : ∃ t, l[i]? = some t := ⟨l[i], List.getElem?_eq_getElem hil⟩
      have hdrop : l.drop i = t :: l.drop (i + 1) := by
        obtain ⟨hk2, e⟩ := List.getElem?_eq_some_iff.1 ht
        rw [← e]; exact List.drop_eq_getElem_cons hk2
      obtain ⟨lb, lof, rfl, hits⟩ := HLS.out.resolve_left (fun h => by subst h; simp at hil)
      obtain ⟨vs, hvl, hat, hiv⟩ := hits.get l ht
      rw [Nat.mul_comm] at hat
      have HFA := Lib.hid (ST.out.fr.then HFX.out)
      have HAT := Lib.hid (hat.keep HFA.out id)
      have HIV := Lib.hid (ItV.still t hiv HFA.out)
      have HVL := Lib.hid hvl
      have HOT := Lib.hid (oksW_get l i t HOK.out ht)
      have HT := Lib.hid ht
      have HDR := Lib.hid hdrop
      have HIL := Lib.hid hil
      clear hits ht hdrop hil hi hat hiv hvl
      go_wp2_with (with_reducible refine wl_stop (o := ⟨some 69, _, _, _, _, _⟩) ?_)
      unfold Stop
      refine wl_loadR rfl rfl Tryd.underlying31 rfl rfl HAT.out (by rw [HVL.out]; kernel_rfl) ?_
      go_wp2_with fail
      refine (HIH.out i t HT.out vs _ HVL.out HIV.out HOT.out).mono ?_
      rintro e w3 ⟨he3, hf3⟩
      have HF3 := Lib.hid (HFX.out.then hf3)
      have b0 := ((ST.out.keep HF3.out).at 0 rfl).cell (i := 0) rfl
      clear hf3
      cases hr : wrW t with
      | none =>
        rw [hr] at he3
        obtain ⟨s, rfl⟩ := he3
        have HP : R = none := by
          rw [← HR2.out, HDR.out]; unfold wrWs; rw [hr]
        subst HP
        clear hr
        go_wp2_with fail
        go_ret2
        exact ⟨⟨_, rfl⟩, ST.out.fr.then HF3.out⟩
      | some s =>
        rw [hr] at he3
        obtain rfl : e = .returned (.tuple #[.string (mkS s), .bool true]) := he3
        have HRS := Lib.hid hr
        have hsl := wrW_le t s hr
        have hs1 : ((mkS o).size : Int) = (o.length : Int) := by rw [mkS_size]
        have hs2 : ((mkS s).size : Int) = (s.length : Int) := by rw [mkS_size]
        have hs3 : (mkS o).size ≤ 70000 := by rw [mkS_size]; have := HOL.out; omega
        have hs4 : (mkS s).size ≤ 70000 := by rw [mkS_size]; omega
        have ho1 : ((o.length : Nat) : Int) ≤ 65545 := by have := HOL.out; omega
        have ho2 : ((s.length : Nat) : Int) ≤ 65536 := by omega
        clear hr hsl
        by_cases hbig : 65536 < o.length + s.length
        · have hbI : (65536 : Int) < ((o.length : Nat) : Int) + ((s.length : Nat) : Int) := by omega
          have hbB : decide ((65536 : Int) < ((o.length : Nat) : Int) + ((s.length : Nat) : Int)) = true := decide_eq_true hbI
          have HP : R = none := by
            rw [← HR2.out, HDR.out]; unfold wrWs; rw [HRS.out]; simp only [if_pos hbig]
          subst HP
          clear hbig
          go_wp2_with fail
          go_ret2
          exact ⟨⟨_, rfl⟩, ST.out.fr.then HF3.out⟩
        · have hbI : ¬ (65536 : Int) < ((o.length : Nat) : Int) + ((s.length : Nat) : Int) := by omega
          have hbB : decide ((65536 : Int) < ((o.length : Nat) : Int) + ((s.length : Nat) : Int)) = false := decide_eq_false hbI
          have HSM := Lib.hid hbig
          clear hbig
          rcases Nat.mod_two_eq_zero_or_one i with hp | hp
          · have hp2 : ((((i : Nat) : Int) % 2) == 0) = true := by rw [beq_iff_eq]; omega
            have hp3 : (((i : Nat) : Int) % 2) = 0 := by omega
            have HP0 := Lib.hid (show ((i % 2 == 0) = true) ∧ (((i + 1) % 2 == 0) = false) by constructor <;> simp <;> omega)
            clear hp
            by_cases hz : i = 0
            · have hzI : ¬ (0 : Int) < (i : Int) := by omega
              have hzB : decide ((0 : Int) < (i : Int)) = false := decide_eq_false hzI
              have hlo : lo = none := HLO.out.2 (.inl hz)
              have HP := Lib.hid (show wrWs (l.drop (i + 1)) true ((i + 1) % 2 == 0) (o ++ s) (some s) = R by
                rw [← HR2.out, HDR.out, HP0.out.1, HP0.out.2]; conv => rhs; unfold wrWs
                rw [HRS.out]; simp only [if_neg HSM.out, hlo, Bool.and_self, if_true, Option.all_none])
              clear hz hlo
              go_wp2_with fail
              go_roundw
              case rel => exact ⟨i + 1, o ++ s, some s, by rw [← mkS_app], rfl, by go_num, by have := HIL.out; omega, Lib.hid (by rw [List.length_append]; have := HSM.out; omega), HP, HF3, Lib.hid (by simp)⟩
              case measure => have := HIL.out; simp [intOf]; omega
            · have hzI : (0 : Int) < (i : Int) := by omega
              have hzB : decide ((0 : Int) < (i : Int)) = true := decide_eq_true hzI
              obtain ⟨x, hx⟩ : ∃ x, lo = some x := by
                cases hlo : lo with
                | none => have := HLO.out.1 hlo; simp at this; exact absurd this hz
                | some x => exact ⟨x, rfl⟩
              have HX := Lib.hid hx
              subst hx
              have hleq := leqW s x
              rw [← mkS_list s, ← mkS_list x] at hleq
              generalize hA : Op.bytesLess (mkS s).toList (mkS x).toList = bA at hleq
              generalize hB : ((mkS s).toList == (mkS x).toList) = bB at hleq
              rw [mkS_list, mkS_list] at hleq
              simp only [Option.getD_some]
              clear hz
              cases hlt : ltW x s with
              | true =>
                have HP := Lib.hid (show wrWs (l.drop (i + 1)) true ((i + 1) % 2 == 0) (o ++ s) (some s) = R by
                  rw [← HR2.out, HDR.out, HP0.out.1, HP0.out.2]; conv => rhs; unfold wrWs
                  rw [HRS.out]; simp only [if_neg HSM.out, Bool.and_self, if_true, Option.all_some, hlt])
                rw [hlt] at hleq
                obtain ⟨rfl, rfl⟩ : bA = false ∧ bB = false := by simpa using hleq
                clear hlt hleq
                go_wp2_with fail
                go_roundw
                case rel => exact ⟨i + 1, o ++ s, some s, by rw [← mkS_app], rfl, by go_num, by have := HIL.out; omega, Lib.hid (by rw [List.length_append]; have := HSM.out; omega), HP, HF3, Lib.hid (by simp)⟩
                case measure => have := HIL.out; simp [intOf]; omega
              | false =>
                have HP : R = none := by
                  rw [← HR2.out, HDR.out, HP0.out.1]; unfold wrWs
                  rw [HRS.out]; simp only [if_neg HSM.out, Bool.and_self, if_true, Option.all_some, hlt]
                  rfl
                subst HP
                rw [hlt] at hleq
                clear hlt
                cases bA with
                | true =>
                  clear hleq
                  go_wp2_with fail
                  go_ret2
                  exact ⟨⟨_, rfl⟩, ST.out.fr.then HF3.out⟩
                | false =>
                  obtain rfl : bB = true := by simpa using hleq
                  clear hleq
                  go_wp2_with fail
                  go_ret2
                  exact ⟨⟨_, rfl⟩, ST.out.fr.then HF3.out⟩
          · have hp2 : ((((i : Nat) : Int) % 2) == 0) = false := by rw [beq_eq_false_iff_ne]; omega
            have hp3 : (((i : Nat) : Int) % 2) = 1 := by omega
            have HP0 := Lib.hid (show ((i % 2 == 0) = false) ∧ (((i + 1) % 2 == 0) = true) by constructor <;> simp <;> omega)
            have HKN := Lib.hid (show i ≠ 0 by omega)
            clear hp
            have HP := Lib.hid (show wrWs (l.drop (i + 1)) true ((i + 1) % 2 == 0) (o ++ s) lo = R by
              rw [← HR2.out, HDR.out, HP0.out.1, HP0.out.2]; conv => rhs; unfold wrWs
              rw [HRS.out]; simp only [if_neg HSM.out]; rfl)
            go_wp2_with fail
            go_roundw
            case rel => exact ⟨i + 1, o ++ s, lo, by rw [← mkS_app], rfl, by go_num, by have := HIL.out; omega, Lib.hid (by rw [List.length_append]; have := HSM.out; omega), HP, HF3, Lib.hid (by have h1 := HLO.out; have h2 := HKN.out; simp [h2] at h1; simp [h1])⟩
            case measure => have := HIL.out; simp [intOf]; omega
    · have hie : i = l.length := by omega
      subst hie
      have hiI : ¬ ((l.length : Nat) : Int) < (l.length : Int) := by omega
      have HP : R = some o := by rw [← HR2.out, List.drop_length]; unfold wrWs; rfl
      subst HP
      go_wp2_with fail
      go_ret2
      exact ⟨rfl, ST.out.fr.then HFX.out⟩
theorem write_step (k : Int) (n : Nat) (d : List UInt8) (l : List It) (ih : ∀ (i : Nat) (t : It), l[i]? = some t → wrT t) : wrT (.mk k n d l) := by
  intro vs w hvs hit hok
  have hk : shK k = true := by unfold okW at hok; exact hok.1
  by_cases h1 : k = 0 ∨ k = 1 ∨ k = 7
  · exact write_N k n d l ih h1 vs w hvs hit hok
  by_cases h2 : k = 2 ∨ k = 3
  · exact write_D k n d l ih h2 vs w hvs hit hok
  have h3 : k = 4 ∨ k = 5 := by
    unfold shK shN shD shL at hk
    simp only [Bool.or_eq_true, beq_iff_eq] at hk
    omega
  rcases h3 with rfl | rfl
  · exact write_4 n d l ih vs w hvs hit hok
  · exact write_5 n d l ih vs w hvs hit hok
mutual
theorem write_rec : ∀ t : It, wrT t
  | .mk k n d l => write_step k n d l (writes_rec l)
theorem writes_rec : ∀ (l : List It) (i : Nat) (t : It), l[i]? = some t → wrT t
  | [], _, _, h => by simp at h
  | x :: ts, 0, t, h => by
    have e : x = t := by simpa using h
    subst e
    exact write_rec x
  | x :: ts, i + 1, t, h => writes_rec ts i t (by simpa using h)
end
/-- the reference's Print -/
def rpP (r : Option (List UInt8)) (e : Ending) : Prop := match r with
  | some s => e = .returned (.tuple #[.string (mkS s), .bool true])
  | none => e = .returned (.tuple #[.string (mkS []), .bool false])
set_option maxHeartbeats 4000000 in
set_option maxRecDepth 1000000 in
theorem RPrint_any (u8 : List UInt8 → Bool) (t : It) (vs : List Value) (w : World) (hV : VOk u8 w) (hvs : vs.length = 4) (hit : ItV w vs t) :
    Calls Tryd.prog 7 #[.agg vs.toArray] w fun e w' => rpP (if (vlW u8 t 1 4096).isSome then wrW t else none) e ∧ Fr Nob w w' := by
  have hv := valid_rec u8 w hV t 1 4096 4096 vs
  have HV := Lib.hid hv
  obtain ⟨x0, x1, x2, x3, rfl⟩ : ∃ x0 x1 x2 x3, vs = [x0, x1, x2, x3] := by
    match vs, hvs with
    | [a, b, c, d], _ => exact ⟨a, b, c, d, rfl⟩
  have HI := Lib.hid hit
  have st0 := St.start Nob w
  have HOK := Lib.hid (fun m (h : vlW u8 t 1 4096 = some m) => ok_of_vl u8 t 1 4096 m h)
  clear hv hvs hit hV
  generalize hr : vlW u8 t 1 4096 = r at *
  clear hr
  go_enter Tryd.func7, Tryd.ntmps7
  go_wp2_with (with_reducible refine wl_stop (o := ⟨some 1, _, _, _, _, _⟩) ?_)
  unfold Stop
  refine wl_boxS st0 rfl rfl rfl [x0, x1, x2, x3] rfl ?_
  intro gi w1 st1
  clear st0
  have HST := Lib.hid st1
  clear st1
  go_wp2_with (with_reducible refine wl_stop (o := ⟨some 8, _, _, _, _, _⟩) ?_)
  unfold Stop
  refine wl_loadSt HST.out 0 rfl rfl rfl Tryd.underlying31 rfl rfl (by kernel_rfl) ?_
  go_wp2_with fail
  refine (HV.out _ rfl (by omega) (by omega) rfl (ItV.still t HI.out HST.out.fr) HST.out.fr).mono ?_
  rintro e w2 ⟨rfl, hf2⟩
  have HST2 := Lib.hid (HST.out.keep hf2)
  clear hf2
  cases r with
  | none =>
    unfold vlA
    simp only [Option.getD_none, Option.isSome_none]
    go_wp2_with fail
    go_ret2
    exact ⟨rfl, HST2.out.fr⟩
  | some m =>
    unfold vlA
    simp only [Option.getD_some, Option.isSome_some]
    go_wp2_with (with_reducible refine wl_stop (o := ⟨some 15, _, _, _, _, _⟩) ?_)
    unfold Stop
    refine wl_loadSt HST2.out 0 rfl rfl rfl Tryd.underlying31 rfl rfl (by kernel_rfl) ?_
    go_wp2_with fail
    refine (write_rec t [x0, x1, x2, x3] _ rfl (ItV.still t HI.out HST2.out.fr) (HOK.out m rfl)).mono ?_
    rintro e w3 ⟨he3, hf3⟩
    have HF3 := Lib.hid (HST2.out.fr.then hf3)
    clear hf3
    cases hw : wrW t with
    | none =>
      rw [hw] at he3
      obtain ⟨s, rfl⟩ := he3
      have HWR := Lib.hid hw
      clear hw
      go_wp2_with fail
      go_ret2
      exact ⟨by rw [HWR.out]; rfl, HF3.out⟩
    | some s =>
      rw [hw] at he3
      obtain rfl : e = .returned (.tuple #[.string (mkS s), .bool true]) := he3
      have HWR := Lib.hid hw
      clear hw
      go_wp2_with fail
      go_ret2
      exact ⟨by rw [HWR.out]; rfl, HF3.out⟩
end Go.Proofs.YtdadnajbdnbbdaaDoor
