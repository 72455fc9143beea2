/- wire.Letters. -/
import Derived.Test.YtgkakddldobpkaaLet2
import Derived.Test.YtgkakddldobpkaaBld
import Derived.Test.YtgkakddldobpkaaBox3
import Derived.Test.YtgkakddldobpkaaCuts
import Derived.IntWalk
namespace Go.Mv
open Go.RowKit Mvp
/-- of a word: the six bits above b -/
theorem six (u b : Nat) (h : b ≤ 58) : u % 18446744073709551616 / 2 ^ b % 64 = u / 2 ^ b % 64 := by
  obtain ⟨c, hc⟩ : ∃ c, 58 = b + c := ⟨58 - b, by omega⟩
  have e : 18446744073709551616 = 2 ^ b * (2 ^ c * 64) := by
    rw [show (64 : Nat) = 2 ^ 6 from rfl, ← Nat.pow_add, ← Nat.pow_add, show b + (c + 6) = 64 by omega]
  rw [e, Nat.mod_mul_right_div_self, Nat.mul_comm, Nat.mod_mul_right_mod]
theorem shl_or8 (x : UInt64) (y : UInt8) (u : Nat) (h : x.toNat = u % 18446744073709551616) : (wo (shl x 8) (wid y)).toNat = (u * 2 ^ 8 + y.toNat) % 18446744073709551616 := by
  have hy := y.toNat_lt
  have h1 : (wo (shl x 8) (wid y)).toNat = (x.toNat * 2 ^ 8 % 18446744073709551616) ||| y.toNat := by simp [wo, shl_toNat, wid]
  have h2 : x.toNat * 2 ^ 8 % 18446744073709551616 = 2 ^ 8 * (x.toNat % 72057594037927936) := by
    rw [Nat.mul_comm, show 18446744073709551616 = 2 ^ 8 * 72057594037927936 from rfl, Nat.mul_mod_mul_left]
  rw [h1, h2, ← Nat.two_pow_add_eq_or_of_lt (by simpa using hy), h]
  omega
section
variable {P : Program} {w : World} {ops : Array Oper} {rest : List Oper} {o : Oper} {a : Act} {Q : Exit → Act → World → Prop}
/-- a new variable, its world written out -/
theorem wl_allocW {e : TypeId} (hgd : o.guard = none) (ho : o.op = .alloc e) {z : Value} (hi : (P.info? e).map (·.zero) = some (some z))
    (h : wpList P ops Q rest (a.put o.dst (.pointer (some ⟨w.heap.size, 0, none⟩))) (w.alloc (.cells z.cells e))) : wpList P ops Q (o :: rest) a w := by
  refine wpList_plain hgd fun K hK => ?_
  obtain ⟨i, hi1, hz⟩ : ∃ i, P.info? e = some i ∧ i.zero = some z := by simpa using hi
  have hr : (Instr.alloc e true (.tuple #[])).run P w = .ok (.pointer (some ⟨w.heap.size, 0, none⟩)) (w.alloc (.cells z.cells e)) := by
    simp [Instr.alloc, zeroValue, typeInfo, hi1, hz, newVar, newRow]
  unfold Oper.wp execOp
  simp only [ho, Sem.run_bind, Sem.run_pure, Result.andThen_ok, hr]
  exact hK _ _ h
end
end Go.Mv
namespace Go.Proofs.Ytgkakddldobpkaa
open Go.RowKit Go.Mv Mvp Mvl

theorem letters_eq : (⟨#[65, 66, 67, 68, 69, 70, 71, 72, 73, 74, 75, 76, 77, 78, 79, 80, 81, 82, 83, 84, 85, 86, 87, 88, 89, 90, 97, 98, 99, 100, 101, 102, 103, 104, 105, 106, 107, 108, 109, 110, 111, 112, 113, 114, 115, 116, 117, 118, 119, 120, 121, 122, 48, 49, 50, 51, 52, 53, 54, 55, 56, 57, 45, 95]⟩ : ByteArray) = mkS table := rfl
theorem zero_bld : (Try.prog.info? 113).map (·.zero) = some (some (.agg #[.pointer none, .slice none 0 0])) := by kernel_rfl

/-- a builder of the call's own that holds these bytes -/
def Bl (B b : Nat) (l : List UInt8) (w : World) : Prop := Lib.IsBuilder 113 5 B b (Lib.byteCells l) w
theorem Bl_write (B b : Nat) (l : List UInt8) (c : UInt8) (w : World) (h : Bl B b l w) (hl : l.length ≤ 1000000000) (hB : B ≤ w.heap.size) :
    Calls Try.prog 68 #[.pointer (some ⟨b, 0, none⟩), .int .u8 (c.toNat : Int)] w fun e w' => e = .returned .nilIface ∧ Bl B b (l ++ [c]) w' ∧ Below B w w' := by
  refine (Try.WriteByte B b _ (c.toNat : Int) w h (by simp [Lib.byteCells]; omega) hB).mono ?_
  rintro e w' ⟨rfl, h1, h2⟩
  refine ⟨rfl, Or.inr ?_, h2⟩
  have : Lib.byteCells (l ++ [c]) = Lib.byteCells l ++ [.int .u8 (c.toNat : Int)] := by simp [Lib.byteCells]
  rw [this]; exact h1

set_option maxHeartbeats 1000000 in
set_option maxRecDepth 1000000 in
theorem Letters_any (a : Option Addr) (n c : Nat) (l : List UInt8) (w : World) (hn : n ≤ 1000000) (hb : RdB w a n l) :
    Calls Try.prog 35 #[.slice a n c] w fun r w' => r = .returned (.string (mkS (lettersL l))) ∧ Fr Nob w w' := by
  have hlen := hb.len
  go_enter Try.func35, Try.ntmps35
  go_wp2_with (with_reducible refine wl_stop (o := ⟨some 3, _, _, _, _, _⟩) ?_)
  refine wl_allocW rfl rfl zero_bld ?_
  have hbl : Bl w.heap.size w.heap.size [] (w.alloc (.cells (Value.agg #[.pointer none, .slice none 0 0]).cells 113)) := Lib.fresh_isBuilder _ _ w
  have hf1 : Fr Nob w (w.alloc (.cells (Value.agg #[.pointer none, .slice none 0 0]).cells 113)) := (Fr.refl Nob w).alloc _
  generalize w.alloc (.cells (Value.agg #[.pointer none, .slice none 0 0]).cells 113) = w1 at *
  have hB0 : w.heap.size ≤ w.heap.size := Nat.le_refl _
  generalize hgw : w.heap.size = B at *
  have HG := Lib.hid hgw; clear hgw
  have HLE := Lib.hid hB0; clear hB0
  go_wp2_with fail
  go_loopw [10, 4, 5] (fun i h b wr => ∃ (k : Nat) (hv : UInt64), k ≤ n ∧ i = .int .i64 (k : Int) ∧ h = .int .u64 (hv.toNat : Int) ∧ b = .int .i64 ((8 * k % 6 : Nat) : Int) ∧ hv.toNat = bigN (l.take k) % 18446744073709551616 ∧ Bl B B ((stream 6 (8 * k) (bigN (l.take k))).map letter) wr ∧ Fr Nob w wr) (fun i _ _ _ => (n - intOf i).toNat)
  case atStart => exact ⟨0, 0, by omega, rfl, rfl, rfl, rfl, hbl, hf1⟩
  case round =>
    clear hbl hf1 w1
    obtain ⟨k, hv, hk, rfl, rfl, rfl, hhv, hB, hfr⟩ := hrel
    have HHV := Lib.hid hhv; clear hhv
    by_cases hlt : k < n
    · have hltI : (k : Int) < (n : Int) := by omega
      obtain ⟨b, o, rfl, hat⟩ := (hb.still hfr).at (by omega)
      have hc := hat k hlt
      have hsu := bigN_succ l k (by omega)
      have hsx := shl_or8 hv (l.getD k 0) _ HHV.out
      rw [← hsu] at hsx
      generalize l.getD k 0 = y at *
      have HSX := Lib.hid hsx; clear hsx hat
      have HSU := Lib.hid hsu; clear hsu
      have hy := y.toNat_lt
      have hpre := stream_pre 6 (8 * k) (bigN (l.take k)) 8 y.toNat (by decide) hy
      rw [← HSU.out] at hpre
      have HPRE := Lib.hid hpre; clear hpre hy
      have hll : (stream 6 (8 * k + 8) (bigN (l.take (k + 1)))).length = (8 * k + 8) / 6 := stream_len _ _ _
      have HLL := Lib.hid hll; clear hll
      have hr6 : 8 * k % 6 < 6 := Nat.mod_lt _ (by decide)
      generalize hr : 8 * k % 6 = r at *
      have HR := Lib.hid hr; clear hr
      go_wp2_with fail
      generalize wo (shl hv 8) (wid y) = h2 at *
      clear hc
      go_loopw [5] (fun b wr => ∃ j m : Nat, m + 6 * j = 8 * k + 8 ∧ 8 * k / 6 ≤ j ∧ b = .int .i64 (m : Int) ∧ Bl B B (((stream 6 (8 * k + 8) (bigN (l.take (k + 1)))).take j).map letter) wr ∧ Fr Nob w wr) (fun b _ => (intOf b).toNat)
      case atStart => exact ⟨8 * k / 6, r + 8, by have := HR.out; omega, Nat.le_refl _, by go_num, by rw [HPRE.out]; exact hB, hfr⟩
      case round =>
        clear hB hfr
        rename_i wq
        obtain ⟨j, m, hm, hj, rfl, hB, hfr⟩ := hrel
        by_cases h6 : 6 ≤ m
        · obtain ⟨m', rfl⟩ : ∃ m', m = m' + 6 := ⟨m - 6, by omega⟩
          have h6I : (6 : Int) ≤ ((m' + 6 : Nat) : Int) := by omega
          have e6 : ((m' + 6 : Nat) : Int) - 6 = (m' : Int) := by omega
          go_wp2_with (with_reducible refine wl_stop (o := ⟨some 29, _, _, _, _, _⟩) ?_)
          unfold Stop
          have hx64 : (shr h2 m').toNat % 64 < 64 := Nat.mod_lt _ (by decide)
          have hxe : (shr h2 m').toNat % 64 = bigN (l.take (k + 1)) / 2 ^ (8 * k + 8 - 6 * (j + 1)) % 2 ^ 6 := by
            rw [shr_toNat, HSX.out, six _ _ (by omega), show 8 * k + 8 - 6 * (j + 1) = m' by omega]
          have hst := stream_step 6 (8 * k + 8) (bigN (l.take (k + 1))) j (by decide) (by omega)
          rw [← hxe] at hst
          have HST := Lib.hid hst; clear hst hxe
          rw [letters_eq]
          refine wl_index_str (y := letter ((shr h2 m').toNat % 64)) rfl rfl Try.underlying9 rfl rfl ((shr h2 m').toNat % 64) rfl (by rw [mkS_size]; exact hx64) (by rw [mkS_toList]; rfl) ?_
          have hll2 : ((stream 6 (8 * k + 8) (bigN (l.take (k + 1)))).take j |>.map letter).length ≤ 1000000000 := by
            rw [List.length_map, List.length_take]; have := HLL.out; omega
          generalize (shr h2 m').toNat % 64 = x at *
          go_wp2_with fail
          refine (Bl_write B B _ (letter x) _ hB hll2 (Nat.le_trans (by rw [← HG.out]; exact Nat.le_refl _) hfr.size)).mono ?_
          rintro e w3 ⟨rfl, hB3, hb3⟩
          have hfr3 : Fr Nob w w3 := hfr.trans (T := fun i => B ≤ i) ⟨hb3.os, hb3.tape, hb3.output, hb3.size, fun i _ hi => hb3.block i (by omega)⟩ (fun i hi t => by have := HG.out; omega)
          have hB4 : Bl B B (((stream 6 (8 * k + 8) (bigN (l.take (k + 1)))).take (j + 1)).map letter) w3 := by
            rw [HST.out, List.map_append]; exact hB3
          clear hB3 hB hb3 hfr hll2 hx64
          go_wp2_with fail
          go_roundw
          case rel => exact ⟨j + 1, m', by omega, by omega, rfl, hB4, hfr3⟩
          case measure => simp [intOf]; omega
        · have h6I : ¬ (6 : Int) ≤ (m : Int) := by omega
          have hme : m = 8 * (k + 1) % 6 := by omega
          subst hme
          have hB4 : Bl B B ((stream 6 (8 * (k + 1)) (bigN (l.take (k + 1)))).map letter) wr := by
            rw [List.take_of_length_le (by have := HLL.out; omega)] at hB
            exact hB
          clear hB
          go_wp2_with fail
          go_roundw
          case rel => exact ⟨k + 1, h2, by omega, by go_num, rfl, rfl, HSX.out, hB4, hfr⟩
          case measure => simp [intOf]; omega
    · have hge : ¬ ((k : Int) < (n : Int)) := by omega
      obtain rfl : k = n := by omega
      rw [List.take_of_length_le (by omega)] at hB HHV
      have hns := nums_stream l
      rw [hlen] at hns
      have hmlt : 8 * k % 6 < 6 := Nat.mod_lt _ (by decide)
      generalize hm : 8 * k % 6 = m at *
      have HM := Lib.hid hm; clear hm
      have HNS := Lib.hid hns; clear hns
      have hsl : ((stream 6 (8 * k) (bigN l)).map letter).length ≤ 1000000000 := by rw [List.length_map, stream_len]; omega
      have HSL := Lib.hid hsl; clear hsl
      have hBw : B ≤ wr.heap.size := Nat.le_trans (by rw [← HG.out]; exact Nat.le_refl _) hfr.size
      by_cases h0 : m = 0
      · subst h0
        have hfin : (stream 6 (8 * k) (bigN l)).map letter = lettersL l := by
          have := HNS.out
          rw [if_pos rfl, List.append_nil] at this
          rw [lettersL, this]
        rw [hfin] at hB
        have HF := Lib.hid hfin; clear hfin
        go_wp2_with fail
        refine (Try.String_any B B _ wr hB hBw).mono ?_
        rintro e w3 ⟨rfl, hb3⟩
        go_wp2_with fail
        go_ret
        exact ⟨rfl, hfr.trans (T := fun i => B ≤ i) ⟨hb3.os, hb3.tape, hb3.output, hb3.size, fun i _ hi => hb3.block i (by omega)⟩ (fun i hi t => by have := HG.out; omega)⟩
      · have h0I : (0 : Int) < (m : Int) := by omega
        have e6 : (6 : Int) - (m : Int) = ((6 - m : Nat) : Int) := by omega
        have hx64 : (shl hv (6 - m)).toNat % 64 < 64 := Nat.mod_lt _ (by decide)
        have hxe : (shl hv (6 - m)).toNat % 64 = bigN l * 2 ^ (6 - m) % 64 := by
          have h1 := HHV.out
          rw [shl_toNat, h1, show 18446744073709551616 = 64 * 288230376151711744 from rfl, Nat.mod_mul_right_mod, Nat.mul_mod, Nat.mod_mul_right_mod, ← Nat.mul_mod]
        have hfin : (stream 6 (8 * k) (bigN l)).map letter ++ [letter ((shl hv (6 - m)).toNat % 64)] = lettersL l := by
          have := HNS.out
          rw [if_neg h0] at this
          rw [lettersL, this, hxe, List.map_append]; rfl
        have HF := Lib.hid hfin; clear hfin hxe
        go_wp2_with (with_reducible refine wl_stop (o := ⟨some 39, _, _, _, _, _⟩) ?_)
        unfold Stop
        rw [letters_eq]
        refine wl_index_str (y := letter ((shl hv (6 - m)).toNat % 64)) rfl rfl Try.underlying9 rfl rfl ((shl hv (6 - m)).toNat % 64) rfl (by rw [mkS_size]; exact hx64) (by rw [mkS_toList]; rfl) ?_
        generalize (shl hv (6 - m)).toNat % 64 = x at *
        go_wp2_with fail
        refine (Bl_write B B _ (letter x) _ hB HSL.out hBw).mono ?_
        rintro e w3 ⟨rfl, hB3, hb3⟩
        rw [HF.out] at hB3
        have hbw3 : B ≤ w3.heap.size := Nat.le_trans hBw hb3.size
        go_wp2_with fail
        refine (Try.String_any B B _ w3 hB3 hbw3).mono ?_
        rintro e w4 ⟨rfl, hb4⟩
        go_wp2_with fail
        go_ret
        refine ⟨rfl, hfr.trans (T := fun i => B ≤ i) ⟨hb4.os.trans hb3.os, hb4.tape.trans hb3.tape, hb4.output.trans hb3.output, Nat.le_trans hb3.size hb4.size, fun i _ hi => (hb4.block i (by omega)).trans (hb3.block i (by omega))⟩ (fun i hi t => by have := HG.out; omega)⟩
end Go.Proofs.Ytgkakddldobpkaa
