/- mont: Reduce. -/
import Derived.Test.YtmegaegedlbckaaNm16
import Derived.Test.YtmegaegedlbckaaLent
namespace Go.Proofs.Ytmegaegedlbckaa
open Go.RowKit Go.Mv Mvp
attribute [local irreducible] limbs lw mix cw cSub cAdd cMul foldC valFrom beN laid be32 powm montT mstep elN

theorem el_mulsq (m : Md) (h : m.Ok) (x : Nat) : elN m x * (B64 ^ 4 * B64 ^ 4 % m.M) * m.Ri % m.M = elN m (x * B64 ^ 4) := by
  rw [el_to m h]
  refine el_congr m ?_
  unfold elN
  rw [Nat.mod_mod]
theorem MMulSq (m : Md) (gp : Nat) (w : World) (hok : m.Ok) (hpm : Has w gp (mdL m) 68) (x : Nat) :
    Calls Try.prog 45 #[.pointer (some ⟨gp, 0, none⟩), i4 (elN m x), i4 (B64 ^ 4 * B64 ^ 4 % m.M)] w fun e w' => e = .returned (i4 (elN m (x * B64 ^ 4))) ∧ Fr Nob w w' := by
  have h := MMul_any m gp (elN m x) (B64 ^ 4 * B64 ^ 4 % m.M) w hok hpm (el_lt4 m hok x) (Nat.mod_lt _ (by have := hok.one; omega))
  rwa [el_mulsq m hok] at h
def lnV : Value → Nat
  | .slice _ n _ => n
  | _ => 0
theorem RdB.front {w : World} {a : Option Addr} {n : Nat} {l : List UInt8} (h : RdB w a n l) (k : Nat) (hk : k ≤ n) : RdB w a k (l.take k) := by
  have h' : Rd w a n (bs l) := h
  refine ⟨by rw [length_bs, List.length_take, h.len]; omega, ?_⟩
  rcases h'.2 with h0 | ⟨b, o, rfl, hc⟩
  · exact .inl (by omega)
  · refine .inr ⟨b, o, rfl, fun i v hv => hc i v ?_⟩
    rw [← bs_take, List.getElem?_take] at hv
    split at hv
    · exact hv
    · cases hv
theorem RdB.behind {w : World} {a : Option Addr} {n c : Nat} {l : List UInt8} (h : RdB w a n l) (k : Nat) (hk : k ≤ n) (hc : n ≤ c) : RdB w (cutAt a k c) (n - k) (l.drop k) := by
  have h1 := cutAt_rd (m := c) h k n hk hc (Nat.le_refl _)
  unfold RdB
  rw [bs_drop] at h1
  rwa [List.take_of_length_le (by rw [length_bs, List.length_drop, h.len]; exact Nat.le_refl _)] at h1

set_option maxHeartbeats 8000000 in
set_option maxRecDepth 100000 in
theorem MReduce_any (m : Md) (gp : Nat) (w : World) (hok : m.Ok) (hpm : Has w gp (mdL m) 68) (a : Option Addr) (n c : Nat) (l : List UInt8) (hb : RdB w a n l) (hc : n ≤ c) (hn : n ≤ 1000000) :
    Calls Try.prog 38 #[.pointer (some ⟨gp, 0, none⟩), .slice a n c] w fun e w' => e = .returned (i4 (beN l % m.M)) ∧ Fr Nob w w' := by
  have HOK := Lib.hid hok
  have HPM := Lib.hid hpm
  clear hok hpm
  have HC := Lib.hid hc
  have HN := Lib.hid hn
  have HBB := Lib.hid hb
  have HL := Lib.hid hb.len
  clear hb
  clear hc hn
  have st0 := St.start Nob w
  go_enter Try.func38, Try.ntmps38
  go_wp2_with (with_reducible refine wl_stop (o := ⟨some 4, _, _, _, _, _⟩) ?_)
  refine wl_allocS st0 rfl rfl (z := .agg #[.int .u64 0, .int .u64 0, .int .u64 0, .int .u64 0]) (by kernel_rfl) (cw 4 0) (by rw [cw_zero]; rfl) ?_
  intro g4 w1 st1
  clear st0
  go_wp2_with (with_reducible refine wl_stop (o := ⟨some 5, _, _, _, _, _⟩) ?_)
  refine wl_allocS st1 rfl rfl (z := .agg #[.int .u64 0, .int .u64 0, .int .u64 0, .int .u64 0]) (by kernel_rfl) (cw 4 0) (by rw [cw_zero]; rfl) ?_
  intro g5 w2 st2
  clear st1
  go_wp2
  go_frame
  go_loopw [1] (fun b wr => ∃ (r : Nat) (ar : Option Addr) (cr : Nat), r ≤ n ∧ (r = 0 ∨ (n - r) % 32 = 0) ∧ b = .slice ar (n - r) cr ∧ n - r ≤ cr ∧ RdB w ar (n - r) (l.drop r) ∧ St Nob w wr [(g4, cw 4 0, 66), (g5, cw 4 (elN m (beN (l.take r))), 81)]) (fun b _ => lnV b % 32)
  case atStart => exact ⟨0, a, c, by omega, .inl rfl, rfl, HC.out, HBB.out, by rw [List.take_zero, beN_nil, el_zero]; exact st2⟩
  case round =>
    obtain ⟨r, ar, cr, hr, hcond, rfl, hcr, hrd, st⟩ := hrel
    clear st2
    have HCR := Lib.hid hcr
    have HRD := Lib.hid hrd
    have hn6 : n ≤ 1000000 := HN.out
    clear hcr hrd
    by_cases hm : (n - r) % 32 = 0
    · have hne : ((((n - r : Nat) : Int) % 32) != 0) = false := by simp; omega
      have hcond2 : (n - r) % 32 = 0 := hm
      have HM := Lib.hid hm
      have HC2 := Lib.hid hcond2
      clear hm hcond hcond2
      generalize hk : n - r = k at *
      have HK := Lib.hid hk; clear hk
      go_wp2_with fail
      clear hne
      obtain ⟨wo, rfl⟩ : ∃ wo : World, wo = wr := ⟨_, rfl⟩
      go_loopw [1] (fun b wr => ∃ (r : Nat) (ar : Option Addr) (cr : Nat), r ≤ n ∧ (n - r) % 32 = 0 ∧ b = .slice ar (n - r) cr ∧ n - r ≤ cr ∧ RdB w ar (n - r) (l.drop r) ∧ St Nob w wr [(g4, cw 4 0, 66), (g5, cw 4 (elN m (beN (l.take r))), 81)]) (fun b _ => lnV b)
      case atStart => exact ⟨r, ar, cr, hr, by rw [HK.out]; exact HC2.out, by rw [HK.out], by rw [HK.out]; exact HCR.out, by rw [HK.out]; exact HRD.out, st⟩
      case round =>
        clear hr HCR HRD st HM HC2 HK
        obtain ⟨r, ar, cr, hr, hcond, rfl, hcr, hrd, st⟩ := hrel
        have HCR := Lib.hid hcr
        have HRD := Lib.hid hrd
        have HCO := Lib.hid hcond
        clear hcr hrd
        by_cases hz : r = n
        · have HZ := Lib.hid hz
          have hkz : ((n - r : Nat) : Int) = 0 := by omega
          have hgt : (0 < ((n - r : Nat) : Int)) = False := by simp; omega
          clear hz hcond
          generalize n - r = k at *
          have hgt2 : ¬ (0 < (k : Int)) := by omega
          clear hgt hkz
          go_wp2_with (with_reducible refine wl_stop (o := ⟨some 41, _, _, _, _, _⟩) ?_)
          refine wl_loadS st 1 rfl rfl rfl Try.underlying81 rfl (by simp only [List.length_append, cw_len]; kernel_rfl) ?_
          go_wp2_with fail
          refine (MFrom_any m gp _ HOK.out (HPM.out.keep st.fr id) (beN (l.take r))).mono ?_
          rintro e' w3 ⟨rfl, hf3⟩
          have st3 := st.keep hf3
          clear st hf3
          go_wp2_with (with_reducible refine wl_stop (o := ⟨none, _, _, _, _, _⟩) ?_)
          refine wl_storeS st3 0 rfl rfl rfl rfl rfl (by simp only [List.length_append, cw_len]) (by simp only [List.length_append, cw_len]; kernel_rfl) (cw_one _ _) ?_
          intro w4 st4
          clear st3
          have hr := st4.at 0 rfl
          have hfr := st4.fr
          clear st4
          go_wp2_with fail
          exact bodyPost_ret (results_arr rfl rfl hr Try.underlying66 (by simp only [List.length_append, cw_len]; kernel_rfl)) rfl ⟨by rw [HZ.out, List.take_of_length_le (by rw [HL.out]; exact Nat.le_refl _)]; rfl, hfr⟩
        · have hk32 : 32 ≤ n - r := by omega
          obtain ⟨gb, ob, hAR, -⟩ := HRD.out.at (by omega)
          have hcut : cutAt ar 32 cr = if cr = 32 then ar else some ⟨gb, ob + 32, none⟩ := by rw [hAR]; simp [cutAt, addr_add]
          have HAR := Lib.hid hAR; clear hAR
          have HCUT := Lib.hid hcut; clear hcut
          have hfr := RdB.front HRD.out 32 hk32
          have hbe := RdB.behind HRD.out 32 hk32 HCR.out
          have htk := beN_take_add l r 32 (by rw [HL.out]; omega)
          rw [show (256 : Nat) ^ 32 = B64 ^ 4 by decide] at htk
          have HFR := Lib.hid hfr
          have HBE := Lib.hid hbe
          have HTK := Lib.hid htk
          have hcr := HCR.out
          have k1 := fun wx => run_slice_hi (P := Try.prog) wx Try.underlying29 size_u8 ar (n - r) cr .i64 32 (by omega)
          have k2 := fun wx => run_slice_lo (P := Try.prog) wx Try.underlying29 size_u8 ar (n - r) cr .i64 32 (by omega)
          clear hz hcond hfr hbe htk hcr
          have hgt : (0 < ((n - r : Nat) : Int)) := by omega
          have hk3 : 32 ≤ n - r := hk32
          have hci : (32 : Int) ≤ (cr : Int) := by have := HCR.out; omega
          clear hk32
          generalize hkk : n - r = k at *
          have HKK := Lib.hid hkk; clear hkk
          go_wp2_with fail
          refine wp_region_noPanic ?_
          refine wp_region_plan (fun wx => St Nob w wx [(g4, cw 4 0, 66), (g5, cw 4 (elN m (beN (l.take r))), 81)]) 13 (.w 0 (.w 1 (.t 2 (.w 3 (.w 4 (.w 5 (.t 6 (.w 8 (.w 9 (.w 10 (.r 7 (.r 11 (.r 12 (.m 13 .nil)))))))))))))) (by kernel_rfl) (by kernel_rfl) st.drew (fun _ _ _ _ _ h => h) ?_
          have hd2 := st.drew
          clear st
          refine plan_w (v := ?_) rfl rfl (fun wx => ?_) ?_
          rotate_left 1
          · (go_simp; with_reducible rfl)
          try simp only [Act.put, List.setIfInBounds_toArray, List.set_cons_zero, List.set_cons_succ]
          refine plan_w (v := ?_) rfl rfl (fun wx => ?_) ?_
          rotate_left 1
          · (go_simp; with_reducible rfl)
          try simp only [Act.put, List.setIfInBounds_toArray, List.set_cons_zero, List.set_cons_succ]
          refine plan_arr rfl rfl rfl rfl (cw 4 (elN m (beN (l.take r)))) (fun wx hS => St.rangeL hS 1 rfl 0 _ (by rw [List.drop_zero, List.take_of_length_le (Nat.le_refl _)])) Try.underlying81 rfl (by simp only [List.length_append, cw_len]; kernel_rfl) ?_
          try simp only [Act.put, List.setIfInBounds_toArray, List.set_cons_zero, List.set_cons_succ]
          refine plan_w (v := ?_) rfl rfl (fun wx => ?_) ?_
          rotate_left 1
          · (go_simp; with_reducible rfl)
          try simp only [Act.put, List.setIfInBounds_toArray, List.set_cons_zero, List.set_cons_succ]
          refine plan_w (v := ?_) rfl rfl (fun wx => ?_) ?_
          rotate_left 1
          · (go_simp; with_reducible rfl)
          try simp only [Act.put, List.setIfInBounds_toArray, List.set_cons_zero, List.set_cons_succ]
          refine plan_w (v := ?_) rfl rfl (fun wx => ?_) ?_
          rotate_left 1
          · (go_simp; with_reducible rfl)
          try simp only [Act.put, List.setIfInBounds_toArray, List.set_cons_zero, List.set_cons_succ]
          refine plan_arr rfl rfl rfl rfl (cw 4 (B64 ^ 4 * B64 ^ 4 % m.M)) (fun wx hS => (HPM.out.keep (St.fr hS) id).range 9 _ (md_sq m)) Try.underlying66 rfl (by simp only [List.length_append, cw_len]; kernel_rfl) ?_
          try simp only [Act.put, List.setIfInBounds_toArray, List.set_cons_zero, List.set_cons_succ]
          refine plan_w (v := ?_) rfl rfl (fun wx => ?_) ?_
          rotate_left 1
          · (go_simp; with_reducible rfl)
          try simp only [Act.put, List.setIfInBounds_toArray, List.set_cons_zero, List.set_cons_succ]
          refine plan_w (v := ?_) rfl rfl (fun wx => ?_) ?_
          rotate_left 1
          · (go_simp; with_reducible rfl)
          try simp only [Act.put, List.setIfInBounds_toArray, List.set_cons_zero, List.set_cons_succ]
          refine plan_w (v := ?_) rfl rfl (fun wx => ?_) ?_
          rotate_left 1
          · (go_simp; with_reducible rfl)
          try simp only [Act.put, List.setIfInBounds_toArray, List.set_cons_zero, List.set_cons_succ]
          refine plan_r rfl rfl ?_
          go_simp
          refine (MMulSq m gp _ HOK.out (HPM.out.keep hd2.fr id) (beN (l.take r))).mono ?_
          rintro e' w3 ⟨rfl, hf3⟩
          have st3 := hd2.keep hf3
          clear hf3
          clear hd2
          refine ⟨st3, ?_⟩
          try simp only [Act.put, List.setIfInBounds_toArray, List.set_cons_zero, List.set_cons_succ]
          refine plan_r rfl rfl ?_
          go_simp
          refine (Mfold_any m gp _ HOK.out (HPM.out.keep st3.fr id) ar 32 cr ((l.drop r).take 32) (HFR.out.still st3.fr) (by decide)).mono ?_
          rintro e' w4 ⟨rfl, hf4⟩
          have st4 := st3.keep hf4
          clear hf4
          clear st3
          refine ⟨st4, ?_⟩
          try simp only [Act.put, List.setIfInBounds_toArray, List.set_cons_zero, List.set_cons_succ]
          refine plan_r rfl rfl ?_
          go_simp
          refine (MAdd_any m gp _ HOK.out (HPM.out.keep st4.fr id) ((beN (l.take r)) * B64 ^ 4) (beN ((l.drop r).take 32))).mono ?_
          rintro e' w5 ⟨rfl, hf5⟩
          have st5 := st4.keep hf5
          clear hf5
          clear st4
          refine ⟨st5, ?_⟩
          try simp only [Act.put, List.setIfInBounds_toArray, List.set_cons_zero, List.set_cons_succ]
          refine plan_m rfl rfl ?_
          refine wp_storeS st5 1 rfl rfl rfl rfl (by simp only [List.length_append, cw_len]) (by simp only [List.length_append, cw_len]; kernel_rfl) (cw_one _ _) ?_
          intro w6 st6
          clear st5
          try simp only [Act.put, List.setIfInBounds_toArray, List.set_cons_zero, List.set_cons_succ]
          refine plan_end ?_
          refine NoPanic.normal ?_
          have hst := st6
          rw [← HTK.out] at hst
          clear st6
          go_wp2_with fail
          go_roundw
          case rel =>
            refine ⟨r + 32, cutAt ar 32 cr, cr - 32, ?_, ?_, ?_, ?_, ?_, hst⟩
            · have := HKK.out; omega
            · have h1 := HCO.out; have h2 := HKK.out; omega
            · have h2 := HKK.out; rw [show n - (r + 32) = k - 32 by omega, HCUT.out, HAR.out]; rfl
            · have h2 := HKK.out; have h3 := HCR.out; omega
            · have h2 := HKK.out
              have h3 := HBE.out
              rw [List.drop_drop] at h3
              rw [show n - (r + 32) = k - 32 by omega]
              exact h3
          case measure => simp [lnV]; omega
    · have hne : ((((n - r : Nat) : Int) % 32) != 0) = true := by simp; omega
      have hr0 : r = 0 := by rcases hcond with h | h <;> omega
      subst hr0
      have hk32 : n % 32 ≤ n - 0 := by omega
      have hfr := RdB.front HRD.out (n % 32) hk32
      have hbe := RdB.behind HRD.out (n % 32) hk32 HCR.out
      have hcr := HCR.out
      have k1 := fun wx => run_slice_hi (P := Try.prog) wx Try.underlying29 size_u8 ar (n - 0) cr .i64 (n % 32) (by omega)
      have k2 := fun wx => run_slice_lo (P := Try.prog) wx Try.underlying29 size_u8 ar (n - 0) cr .i64 (n % 32) (by omega)
      have hm32 : n % 32 < 32 := Nat.mod_lt _ (by decide)
      have hmod : ((n % 32 : Nat) : Int) = (n : Int) % 32 := by omega
      simp only [List.drop_zero, Nat.sub_zero] at hfr hbe k1 k2 hne hm
      rw [hmod] at k1 k2
      have HFR := Lib.hid hfr
      have HBE := Lib.hid hbe
      have HM := Lib.hid hm
      have HM32 := Lib.hid hm32
      clear hm hfr hbe hcond hcr hk32 hr hmod hm32
      simp only [Nat.sub_zero]
      go_wp2_with fail
      refine (Mfold_any m gp _ HOK.out (HPM.out.keep st.fr id) ar (n % 32) cr (l.take (n % 32)) (HFR.out.still st.fr) (Nat.le_of_lt HM32.out)).mono ?_
      rintro e' w3 ⟨rfl, hf3⟩
      have st3 := st.keep hf3
      clear st hf3
      go_wp2_with (with_reducible refine wl_stop (o := ⟨none, _, _, _, _, _⟩) ?_)
      refine wl_storeS st3 1 rfl rfl rfl rfl rfl (by simp only [List.length_append, cw_len]) (by simp only [List.length_append, cw_len]; kernel_rfl) (cw_one _ _) ?_
      intro w4 st4
      clear st3
      have hst := st4
      clear st4
      go_wp2_with fail
      go_roundw
      case rel => exact ⟨n % 32, cutAt ar (n % 32) cr, cr - n % 32, by omega, .inr (by omega), rfl, by have := HCR.out; omega, HBE.out, hst⟩
      case measure => have := HM.out; simp [lnV]; omega
end Go.Proofs.Ytmegaegedlbckaa
