/- keys.Place of a denomination, keys.Split, the reference's Split. -/
import Derived.Test.YtgkakddldobpkaaDoorKeys1
import Derived.Test.YtgkakddldobpkaaDoorKeys2
import Derived.Test.YtgkakddldobpkaaDoorUp
namespace Go.Proofs.YtgkakddldobpkaaDoor
open Go.RowKit Go.Mv Mvk

theorem TabAt.still {w w' : World} {g : Nat} {l : List Nat} (h : TabAt g l w) (hf : Fr Nob w w') : TabAt g l w' := fun j hj => hf.cell id (h j hj)
set_option maxRecDepth 100000 in
theorem place_ok (k : Nat) (w : World) (hk : k ≤ 19) (hT : TabAt 0 Lib.deBruijn64tab w) :
    Calls Tryd.prog 20 #[.int .u64 ((2 ^ k : Nat) : Int)] w fun e w' => ∃ n : Nat, e = .returned (.tuple #[.int .i64 (n : Int), .int .i64 0]) ∧ w' = w := by
  have hp : 2 ^ k ≤ 524288 := by
    have : 2 ^ k ≤ 2 ^ 19 := Nat.pow_le_pow_right (by decide) hk
    simpa using this
  have h1 := pcn_pow 64 k (by omega)
  generalize 2 ^ k = x at *
  have ho := ones_any x w (by omega)
  rw [h1] at ho
  have hpI : ¬ (524288 : Int) < (x : Int) := by omega
  have htz := tz64_any x (by omega) w hT
  generalize Lib.ctz 64 x = z at *
  have HO := Lib.hid ho
  have HT := Lib.hid htz
  clear ho htz h1 hT
  go_enter Tryd.func20, Tryd.ntmps20
  go_wp2_with fail
  refine HO.out.mono ?_
  rintro e w' ⟨rfl, rfl⟩
  go_wp2_with fail
  refine HT.out.mono ?_
  rintro e w' ⟨rfl, rfl⟩
  go_wp2_with fail
  go_ret2
  exact ⟨z, rfl, rfl⟩

/-- numbers of 64 bits, as cells -/
def nu (l : List Nat) : List Value := l.map fun (x : Nat) => .int .u64 (x : Int)
theorem nu_len (l : List Nat) : (nu l).length = l.length := by simp [nu]
theorem nu_get (l : List Nat) (i : Nat) (hi : i < l.length) : (nu l)[i]? = some (.int .u64 ((l.getD i 0 : Nat) : Int)) := by
  simp [nu, List.getElem?_eq_getElem hi, List.getD_eq_getElem?_getD]
theorem nu_append (a b : List Nat) : nu (a ++ b) = nu a ++ nu b := by simp [nu]
theorem info_u64 : (Tryd.prog.info? 40).map (fun i => (i.zero, i.size, i.bytes)) = some (some (.int .u64 0), 1, 8) := by kernel_rfl

set_option maxHeartbeats 400000 in
set_option maxRecDepth 100000 in
theorem split_err (x : Nat) (w : World) (hx : x < 18446744073709551616) (h : 64 < x / 524288 + pcn 64 (x % 524288)) :
    Calls Tryd.prog 18 #[.int .u64 (x : Int)] w fun e w' => e = .returned (.tuple #[.slice none 0 0, .int .i64 1]) ∧ w = w' := by
  have ho := ones_any (x % 524288) w (by omega)
  have hp := pcn_le 64 (x % 524288)
  have e1 : (x : Int) % 524288 = ((x % 524288 : Nat) : Int) := by omega
  have e2 : (x : Int) / 524288 = ((x / 524288 : Nat) : Int) := by omega
  have hqn : x / 524288 ≤ 35184372088832 := by omega
  generalize pcn 64 (x % 524288) = c at *
  generalize x % 524288 = low at *
  generalize x / 524288 = q at *
  have hb0 : decide ((64 : Int) < (q : Int) + (c : Int)) = true := by simp; omega
  have HO := Lib.hid ho
  clear ho h
  go_enter Tryd.func18, Tryd.ntmps18
  go_wp2_with fail
  refine HO.out.mono ?_
  rintro e w' ⟨rfl, rfl⟩
  go_wp2_with (with_reducible refine wl_stop (o := ⟨some 14, _, _, _, _, _⟩) ?_)
  unfold Stop
  clear hqn hp e1 e2 HO
  go_wp2_with fail
  go_ret2
  exact ⟨rfl, rfl⟩

set_option maxHeartbeats 2000000 in
set_option maxRecDepth 100000 in
theorem split_ok (x : Nat) (w : World) (hx : x < 18446744073709551616) (h : x / 524288 + pcn 64 (x % 524288) ≤ 64) :
    Calls Tryd.prog 18 #[.int .u64 (x : Int)] w fun e w' => ∃ v, e = .returned (.tuple #[v, .int .i64 0]) ∧ Own w' w.heap.size 40 1 v (splitL x).length (nu (splitL x)) ∧ Fr Nob w w' := by
  have ho := ones_any (x % 524288) w (by omega)
  have h19 : pcn 64 (x % 524288) = pcn 19 (x % 524288) := pcn_small 19 45 _ (by omega)
  rw [h19] at ho h
  have HS : Hid (splitL x = up (x % 524288) 19 ++ List.replicate (x / 524288) 524288) := Lib.hid rfl
  have HUL := Lib.hid (up_len (x % 524288))
  have hlo : x % 524288 < 524288 := by omega
  have e1 : (x : Int) % 524288 = ((x % 524288 : Nat) : Int) := by omega
  have e2 : (x : Int) / 524288 = ((x / 524288 : Nat) : Int) := by omega
  have HO := Lib.hid ho
  generalize pcn 19 (x % 524288) = c at *
  generalize x % 524288 = low at *
  generalize x / 524288 = q at *
  have hb0 : decide ((64 : Int) < (q : Int) + (c : Int)) = false := by simp; omega
  have hqn : q ≤ 64 := by omega
  have hcb : c ≤ 64 := by omega
  have HQN := Lib.hid hqn
  have HLO := Lib.hid hlo
  clear ho h19 h hx hlo
  go_enter Tryd.func18, Tryd.ntmps18
  go_wp2_with fail
  refine HO.out.mono ?_
  rintro e w' ⟨rfl, rfl⟩
  go_wp2_with (with_reducible refine wl_stop (o := ⟨some 14, _, _, _, _, _⟩) ?_)
  unfold Stop
  clear hqn hcb HO e1
  go_wp2_with fail
  go_loopw [4, 5] (fun l v wr => ∃ i : Nat, i ≤ 19 ∧ l = .int .u64 ((low / 2 ^ i * 2 ^ i : Nat) : Int) ∧ Own wr w.heap.size 40 1 v (up low i).length (nu (up low i)) ∧ Fr Nob w wr) (fun l _ _ => (intOf l).toNat)
  case atStart => exact ⟨0, by omega, by simp, Own.nil _ _ _ _, Fr.refl _ _⟩
  case round =>
    clear hb0
    obtain ⟨i, hi, rfl, hown, hfr⟩ := hrel
    have hle : low / 2 ^ i * 2 ^ i ≤ low := Nat.div_mul_le_self _ _
    have hlo := HLO.out
    by_cases h0 : low / 2 ^ i = 0
    · have hz : ((low / 2 ^ i * 2 ^ i : Nat) : Int) = 0 := by rw [h0, Nat.zero_mul]; rfl
      have hup := up_end low i 19 h0 hi
      rw [hz]
      rw [← hup] at hown
      have HUP := Lib.hid hup
      clear hup hz h0 hle hlo hi
      have hqn := HQN.out
      go_wp2_with fail
      clear hqn
      go_loopw [30, 5] (fun n v wr => ∃ k : Nat, k ≤ q ∧ n = .int .u64 (k : Int) ∧ Own wr w.heap.size 40 1 v (up low 19 ++ List.replicate k 524288).length (nu (up low 19 ++ List.replicate k 524288)) ∧ Fr Nob w wr) (fun n _ _ => (q - intOf n).toNat)
      case atStart => exact ⟨0, by omega, rfl, by simpa using hown, hfr⟩
      case round =>
        clear hown hfr
        obtain ⟨k, hk, rfl, hown, hfr⟩ := hrel
        by_cases hlt : k < q
        · have hltI : (k : Int) < (q : Int) := by omega
          have hll : (up low 19 ++ List.replicate k 524288).length ≤ 200 := by
            rw [List.length_append, List.length_replicate, HUL.out]
            have := pcn_le 19 low
            have := HQN.out
            omega
          have hb2 : decide ((k : Int) < (q : Int)) = true := by simp; omega
          have hb3 : decide (k < q) = true := by simp; omega
          have HLT := Lib.hid hlt
          clear e2 hk hlt hltI
          have hrep : up low 19 ++ List.replicate (k + 1) 524288 = (up low 19 ++ List.replicate k 524288) ++ [524288] := by
            rw [List.replicate_succ', List.append_assoc]
          have HREP := Lib.hid hrep
          have HLL := Lib.hid hll
          clear hrep hll
          generalize up low 19 ++ List.replicate k 524288 = L at *
          go_wp2_with (with_reducible refine wl_stop (o := ⟨some 33, _, _, _, _, _⟩) ?_)
          refine wl_slit rfl rfl Tryd.underlying41 info_u64 (nu [524288]) rfl (by simp [nu]; rfl) rfl rfl ?_
          intro w2 hh2 hf2 hz2
          clear hz2
          have hown2 := hown.still hf2
          have hfr2 := hfr.then hf2
          clear hown hfr hf2
          generalize wr.heap.size = g2 at *
          go_wp2_with (with_reducible refine wl_stop (o := ⟨some 34, _, _, _, _, _⟩) ?_)
          refine wl_append rfl rfl Tryd.underlying41 info_u64 rfl (by decide) hown2 rfl rfl (Rd.whole hh2) (fun u hu => by simp [nu] at hu; subst hu; rfl) (by have := HLL.out; unfold maxLen; omega) (by have := HLL.out; omega) hfr2.size ?_
          intro v3 w3 hown3 hf3 hb3
          clear hb3
          have hfr3 := hown2.fr hfr2 (Nat.le_refl _) hf3
          clear hown2 hfr2 hf3 hh2
          have hkb : (k : Int) ≤ 64 := by have := HQN.out; have := HLT.out; omega
          go_wp2_with fail
          go_roundw
          case rel => exact ⟨k + 1, by have := HLT.out; omega, by go_num, by rw [HREP.out, nu_append, List.length_append]; exact hown3, hfr3⟩
          case measure => have := HLT.out; simp [intOf]; omega
        · have hge : ¬ ((k : Int) < (q : Int)) := by omega
          have hb2 : decide ((k : Int) < (q : Int)) = false := by simp; omega
          have hb3 : decide (k < q) = false := by simp; omega
          obtain rfl : k = q := by omega
          go_wp2_with fail
          go_ret2
          exact ⟨_, rfl, by rw [HS.out]; exact hown, hfr⟩
    · obtain ⟨k, z, z2, hik, hk19, hval, hpos, hzb, hless, hlow, hclr, hn1, hnew⟩ := up_step low i hlo h0
      rw [hval]
      have HN := Lib.hid hn1
      have HNW := Lib.hid hnew
      have HLOW := Lib.hid hlow
      have HCLR := Lib.hid hclr
      have HUL2 : (up low i).length ≤ 19 := by rw [HUL.out]; exact Nat.le_trans (pcn_le i low) hi
      clear hn1 hnew hlow hclr hval hle h0
      have e3 : IntKind.u64.wrap (-(z : Int)) = ((18446744073709551616 - z : Nat) : Int) := by rw [IntKind.wrap_u64]; omega
      have e4 : bits .and .u64 (z : Int) ((18446744073709551616 - z : Nat) : Int) = ((2 ^ k : Nat) : Int) := by rw [and_u64 _ _ (by omega) (by omega), HLOW.out]
      have e5 : bits .and .u64 (z : Int) ((z : Int) - 1) = (z2 : Int) := by
        rw [show ((z : Int) - 1) = ((z - 1 : Nat) : Int) by omega, and_u64 _ _ (by omega) (by omega), HCLR.out]
      generalize (18446744073709551616 - z : Nat) = zn at e3 e4
      have hb1 : decide ((0 : Int) < (z : Int)) = true := by simp; omega
      have hb2 : decide (0 < z) = true := by simp; omega
      have hI : (0 : Int) < (z : Int) := by omega
      have hzI : (z : Int) ≤ 524288 := by omega
      have HLS := Lib.hid hless
      have HK := Lib.hid hk19
      have HULB := Lib.hid HUL2
      clear hk19 hpos hless hlo hi HUL2 hik hzb e2 HLOW HCLR
      generalize up low i = L at *
      generalize hpp : (2 ^ k : Nat) = pp at *
      have HPP := Lib.hid hpp; clear hpp
      go_wp2_with (with_reducible refine wl_stop (o := ⟨some 26, _, _, _, _, _⟩) ?_)
      refine wl_slit rfl rfl Tryd.underlying41 info_u64 (nu [pp]) rfl (by simp [nu]; rfl) rfl rfl ?_
      intro w2 hh2 hf2 hz2
      clear hz2
      have hown2 := hown.still hf2
      have hfr2 := hfr.then hf2
      clear hown hfr hf2
      generalize wr.heap.size = g2 at *
      go_wp2_with (with_reducible refine wl_stop (o := ⟨some 27, _, _, _, _, _⟩) ?_)
      refine wl_append rfl rfl Tryd.underlying41 info_u64 rfl (by decide) hown2 rfl rfl (Rd.whole hh2) (fun u hu => by simp [nu] at hu; subst hu; rfl) (by have := HULB.out; unfold maxLen; omega) (by have := HULB.out; omega) hfr2.size ?_
      intro v3 w3 hown3 hf3 hb3
      clear hb3
      have hfr3 := hown2.fr hfr2 (Nat.le_refl _) hf3
      clear hown2 hfr2 hf3 hh2 e3 e4
      go_wp2_with fail
      go_roundw
      case rel => exact ⟨k + 1, by have := HK.out; omega, by rw [HNW.out], by rw [HN.out, nu_append, List.length_append]; exact hown3, hfr3⟩
      case measure => have := HLS.out; simp [intOf]; omega
end Go.Proofs.YtgkakddldobpkaaDoor
