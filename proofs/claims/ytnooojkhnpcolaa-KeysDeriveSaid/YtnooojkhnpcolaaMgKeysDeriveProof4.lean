/- mont: Reduce; mont.Of; num.Modulus, num.Reduce; the law's told; append onto an owned slice, once more: what lay ahead of the new cells is kept, in the old block too; An empty slice literal; num.read: lists of numbers; zn: scalars: order, Of, the methods, Wide, Small; num.reckon, over an operation's contract; num: Add, Sub, Mul, Inv; Arrays of words compared; a number shifted down; bits laid one by one; mont.Int.shift by two bits; mont: Sqrt; num.Sqrt's operation; zn: Zero, Small, Bytes; scalars compared; mintvaultref1.Still: is a list all as it was lent?; Pure sponge: what the program's and the reference's permutation compute, and that the two are one; word functions of the sponge; the constants of the rounds, and how far the lanes are turned; how far the lanes are turned; the state: bytes are added, and given; the state's bytes; Permute; the permutation of the program. -/
import Derived.Test.YtnooojkhnpcolaaMgKeysDeriveProof3
import Derived.Test.YtnooojkhnpcolaaMgKeysDeriveProof2
import Derived.Test.YtnooojkhnpcolaaMgKeysDeriveProof1
import Derived.ChangeKeysEq
import Derived.StillTailTactics
import Derived.KernelRfl
namespace Go.Proofs.Ytnooojkhnpcolaa
open Go.RowKit Go.Mv Mvp
attribute [local irreducible] limbs lw mix cw cSub cAdd cMul foldC valFrom beN laid be32 powm montT mstep elN

theorem el_mulsq (m : Md) (h : m.Ok) (x : Nat) : elN m x * (B64 ^ 4 * B64 ^ 4 % m.M) * m.Ri % m.M = elN m (x * B64 ^ 4) := by
  rw [el_to m h]
  refine el_congr m ?_
  unfold elN
  rw [Nat.mod_mod]
theorem MMulSq (m : Md) (gp : Nat) (w : World) (hok : m.Ok) (hpm : Has w gp (mdL m) 159) (x : Nat) :
    Calls Try.prog 72 #[.pointer (some ⟨gp, 0, none⟩), i4 (elN m x), i4 (B64 ^ 4 * B64 ^ 4 % m.M)] w fun e w' => e = .returned (i4 (elN m (x * B64 ^ 4))) ∧ Fr Nob w w' := by
  have h := MMul_any m gp (elN m x) (B64 ^ 4 * B64 ^ 4 % m.M) w hok hpm (el_lt4 m hok x) (Nat.mod_lt _ (by have := hok.one; omega))
  rwa [el_mulsq m hok] at h
def lnV : Value → Nat
  | .slice _ n _ => n
  | _ => 0
theorem RdB.front {w : World} {a : Option Addr} {n : Nat} {l : List UInt8} (h : RdB w a n l) (k : Nat) (hk : k ≤ n) : RdB w a k (l.take k) := by
  have h' : Rd w a n (bs l) := h
  refine ⟨by rw [length_bs, List.length_take, h.len]; omega, ?_⟩
  rcases h'.2 with h0 | ⟨b, o, rfl, hc⟩
  · exact .inl (by omega)
  · refine .inr ⟨b, o, rfl, fun i v hv => hc i v ?_⟩
    rw [← bs_take, List.getElem?_take] at hv
    split at hv
    · exact hv
    · cases hv
theorem RdB.behind {w : World} {a : Option Addr} {n c : Nat} {l : List UInt8} (h : RdB w a n l) (k : Nat) (hk : k ≤ n) (hc : n ≤ c) : RdB w (cutAt a k c) (n - k) (l.drop k) := by
  have h1 := cutAt_rd (m := c) h k n hk hc (Nat.le_refl _)
  unfold RdB
  rw [bs_drop] at h1
  rwa [List.take_of_length_le (by rw [length_bs, List.length_drop, h.len]; exact Nat.le_refl _)] at h1

set_option maxHeartbeats 8000000 in
set_option maxRecDepth 100000 in
theorem MReduce_any (m : Md) (gp : Nat) (w : World) (hok : m.Ok) (hpm : Has w gp (mdL m) 159) (a : Option Addr) (n c : Nat) (l : List UInt8) (hb : RdB w a n l) (hc : n ≤ c) (hn : n ≤ 1000000) :
    Calls Try.prog 87 #[.pointer (some ⟨gp, 0, none⟩), .slice a n c] w fun e w' => e = .returned (i4 (beN l % m.M)) ∧ Fr Nob w w' := by
  have HOK := Lib.hid hok
  have HPM := Lib.hid hpm
  clear hok hpm
  have HC := Lib.hid hc
  have HN := Lib.hid hn
  have HBB := Lib.hid hb
  have HL := Lib.hid hb.len
  clear hb
  clear hc hn
  have st0 := St.start Nob w
  go_enter Try.func87, Try.ntmps87
  go_wp2_with (with_reducible refine wl_stop (o := ⟨some 4, _, _, _, _, _⟩) ?_)
  refine wl_allocS st0 rfl rfl (z := .agg #[.int .u64 0, .int .u64 0, .int .u64 0, .int .u64 0]) (by kernel_rfl) (cw 4 0) (by rw [cw_zero]; rfl) ?_
  intro g4 w1 st1
  clear st0
  go_wp2_with (with_reducible refine wl_stop (o := ⟨some 5, _, _, _, _, _⟩) ?_)
  refine wl_allocS st1 rfl rfl (z := .agg #[.int .u64 0, .int .u64 0, .int .u64 0, .int .u64 0]) (by kernel_rfl) (cw 4 0) (by rw [cw_zero]; rfl) ?_
  intro g5 w2 st2
  clear st1
  go_wp2
  go_frame
  go_loopw [1] (fun b wr => ∃ (r : Nat) (ar : Option Addr) (cr : Nat), r ≤ n ∧ (r = 0 ∨ (n - r) % 32 = 0) ∧ b = .slice ar (n - r) cr ∧ n - r ≤ cr ∧ RdB w ar (n - r) (l.drop r) ∧ St Nob w wr [(g4, cw 4 0, 135), (g5, cw 4 (elN m (beN (l.take r))), 92)]) (fun b _ => lnV b % 32)
  case atStart => exact ⟨0, a, c, by omega, .inl rfl, rfl, HC.out, HBB.out, by rw [List.take_zero, beN_nil, el_zero]; exact st2⟩
  case round =>
    obtain ⟨r, ar, cr, hr, hcond, rfl, hcr, hrd, st⟩ := hrel
    clear st2
    have HCR := Lib.hid hcr
    have HRD := Lib.hid hrd
    have hn6 : n ≤ 1000000 := HN.out
    clear hcr hrd
    by_cases hm : (n - r) % 32 = 0
    · have hne : ((((n - r : Nat) : Int) % 32) != 0) = false := by simp; omega
      have hcond2 : (n - r) % 32 = 0 := hm
      have HM := Lib.hid hm
      have HC2 := Lib.hid hcond2
      clear hm hcond hcond2
      generalize hk : n - r = k at *
      have HK := Lib.hid hk; clear hk
      go_wp2_with fail
      clear hne
      obtain ⟨wo, rfl⟩ : ∃ wo : World, wo = wr := ⟨_, rfl⟩
      go_loopw [1] (fun b wr => ∃ (r : Nat) (ar : Option Addr) (cr : Nat), r ≤ n ∧ (n - r) % 32 = 0 ∧ b = .slice ar (n - r) cr ∧ n - r ≤ cr ∧ RdB w ar (n - r) (l.drop r) ∧ St Nob w wr [(g4, cw 4 0, 135), (g5, cw 4 (elN m (beN (l.take r))), 92)]) (fun b _ => lnV b)
      case atStart => exact ⟨r, ar, cr, hr, by rw [HK.out]; exact HC2.out, by rw [HK.out], by rw [HK.out]; exact HCR.out, by rw [HK.out]; exact HRD.out, st⟩
      case round =>
        clear hr HCR HRD st HM HC2 HK
        obtain ⟨r, ar, cr, hr, hcond, rfl, hcr, hrd, st⟩ := hrel
        have HCR := Lib.hid hcr
        have HRD := Lib.hid hrd
        have HCO := Lib.hid hcond
        clear hcr hrd
        by_cases hz : r = n
        · have HZ := Lib.hid hz
          have hkz : ((n - r : Nat) : Int) = 0 := by omega
          have hgt : (0 < ((n - r : Nat) : Int)) = False := by simp; omega
          clear hz hcond
          generalize n - r = k at *
          have hgt2 : ¬ (0 < (k : Int)) := by omega
          clear hgt hkz
          go_wp2_with (with_reducible refine wl_stop (o := ⟨some 41, _, _, _, _, _⟩) ?_)
          refine wl_loadS st 1 rfl rfl rfl Try.underlying92 rfl (by first | (rw [cw_len]; kernel_rfl) | (simp only [List.length_append, cw_len]; kernel_rfl)) ?_
          go_wp2_with fail
          refine (MFrom_any m gp _ HOK.out (HPM.out.keep st.fr id) (beN (l.take r))).mono ?_
          rintro e' w3 ⟨rfl, hf3⟩
          have st3 := st.keep hf3
          clear st hf3
          go_wp2_with (with_reducible refine wl_stop (o := ⟨none, _, _, _, _, _⟩) ?_)
          refine wl_storeS st3 0 rfl rfl rfl rfl rfl (by first | (simp only [cw_len]; done) | (simp only [List.length_append, cw_len]; done)) (by first | (rw [cw_len]; kernel_rfl) | (simp only [List.length_append, cw_len]; kernel_rfl)) (cw_one _ _) ?_
          intro w4 st4
          clear st3
          have hr := st4.at 0 rfl
          have hfr := st4.fr
          clear st4
          go_wp2_with fail
          exact bodyPost_ret (results_arr rfl rfl hr Try.underlying135 (by first | (rw [cw_len]; kernel_rfl) | (simp only [List.length_append, cw_len]; kernel_rfl))) rfl ⟨by rw [HZ.out, List.take_of_length_le (by rw [HL.out]; exact Nat.le_refl _)]; rfl, hfr⟩
        · have hk32 : 32 ≤ n - r := by omega
          obtain ⟨gb, ob, hAR, -⟩ := HRD.out.at (by omega)
          have hcut : cutAt ar 32 cr = if cr = 32 then ar else some ⟨gb, ob + 32, none⟩ := by rw [hAR]; simp [cutAt, addr_add]
          have HAR := Lib.hid hAR; clear hAR
          have HCUT := Lib.hid hcut; clear hcut
          have hfr := RdB.front HRD.out 32 hk32
          have hbe := RdB.behind HRD.out 32 hk32 HCR.out
          have htk := beN_take_add l r 32 (by rw [HL.out]; omega)
          rw [show (256 : Nat) ^ 32 = B64 ^ 4 by decide] at htk
          have HFR := Lib.hid hfr
          have HBE := Lib.hid hbe
          have HTK := Lib.hid htk
          have hcr := HCR.out
          have k1 := fun wx => run_slice_hi (P := Try.prog) wx Try.underlying22 size_u8 ar (n - r) cr .i64 32 (by omega)
          have k2 := fun wx => run_slice_lo (P := Try.prog) wx Try.underlying22 size_u8 ar (n - r) cr .i64 32 (by omega)
          clear hz hcond hfr hbe htk hcr
          have hgt : (0 < ((n - r : Nat) : Int)) := by omega
          have hk3 : 32 ≤ n - r := hk32
          have hci : (32 : Int) ≤ (cr : Int) := by have := HCR.out; omega
          clear hk32
          generalize hkk : n - r = k at *
          have HKK := Lib.hid hkk; clear hkk
          go_wp2_with fail
          refine wp_region_noPanic ?_
          refine wp_region_plan (fun wx => St Nob w wx [(g4, cw 4 0, 135), (g5, cw 4 (elN m (beN (l.take r))), 92)]) 13 (.w 0 (.w 1 (.t 2 (.w 3 (.w 4 (.w 5 (.t 6 (.w 8 (.w 9 (.w 10 (.r 7 (.r 11 (.r 12 (.m 13 .nil)))))))))))))) (by kernel_rfl) (by kernel_rfl) st.drew (fun _ _ _ _ _ h => h) ?_
          have hd2 := st.drew
          clear st
          refine plan_w (v := ?_) rfl rfl (fun wx => ?_) ?_
          rotate_left 1
          · (go_simp; with_reducible rfl)
          try simp only [Act.put, List.setIfInBounds_toArray, List.set_cons_zero, List.set_cons_succ]
          refine plan_w (v := ?_) rfl rfl (fun wx => ?_) ?_
          rotate_left 1
          · (go_simp; with_reducible rfl)
          try simp only [Act.put, List.setIfInBounds_toArray, List.set_cons_zero, List.set_cons_succ]
          refine plan_arr rfl rfl rfl rfl (cw 4 (elN m (beN (l.take r)))) (fun wx hS => St.rangeL hS 1 rfl 0 _ (by rw [List.drop_zero, List.take_of_length_le (Nat.le_refl _)])) Try.underlying92 rfl (by first | (rw [cw_len]; kernel_rfl) | (simp only [List.length_append, cw_len]; kernel_rfl)) ?_
          try simp only [Act.put, List.setIfInBounds_toArray, List.set_cons_zero, List.set_cons_succ]
          refine plan_w (v := ?_) rfl rfl (fun wx => ?_) ?_
          rotate_left 1
          · (go_simp; with_reducible rfl)
          try simp only [Act.put, List.setIfInBounds_toArray, List.set_cons_zero, List.set_cons_succ]
          refine plan_w (v := ?_) rfl rfl (fun wx => ?_) ?_
          rotate_left 1
          · (go_simp; with_reducible rfl)
          try simp only [Act.put, List.setIfInBounds_toArray, List.set_cons_zero, List.set_cons_succ]
          refine plan_w (v := ?_) rfl rfl (fun wx => ?_) ?_
          rotate_left 1
          · (go_simp; with_reducible rfl)
          try simp only [Act.put, List.setIfInBounds_toArray, List.set_cons_zero, List.set_cons_succ]
          refine plan_arr rfl rfl rfl rfl (cw 4 (B64 ^ 4 * B64 ^ 4 % m.M)) (fun wx hS => (HPM.out.keep (St.fr hS) id).range 9 _ (md_sq m)) Try.underlying135 rfl (by first | (rw [cw_len]; kernel_rfl) | (simp only [List.length_append, cw_len]; kernel_rfl)) ?_
          try simp only [Act.put, List.setIfInBounds_toArray, List.set_cons_zero, List.set_cons_succ]
          refine plan_w (v := ?_) rfl rfl (fun wx => ?_) ?_
          rotate_left 1
          · (go_simp; with_reducible rfl)
          try simp only [Act.put, List.setIfInBounds_toArray, List.set_cons_zero, List.set_cons_succ]
          refine plan_w (v := ?_) rfl rfl (fun wx => ?_) ?_
          rotate_left 1
          · (go_simp; with_reducible rfl)
          try simp only [Act.put, List.setIfInBounds_toArray, List.set_cons_zero, List.set_cons_succ]
          refine plan_w (v := ?_) rfl rfl (fun wx => ?_) ?_
          rotate_left 1
          · (go_simp; with_reducible rfl)
          try simp only [Act.put, List.setIfInBounds_toArray, List.set_cons_zero, List.set_cons_succ]
          refine plan_r rfl rfl ?_
          go_simp
          refine (MMulSq m gp _ HOK.out (HPM.out.keep hd2.fr id) (beN (l.take r))).mono ?_
          rintro e' w3 ⟨rfl, hf3⟩
          have st3 := hd2.keep hf3
          clear hf3
          clear hd2
          refine ⟨st3, ?_⟩
          try simp only [Act.put, List.setIfInBounds_toArray, List.set_cons_zero, List.set_cons_succ]
          refine plan_r rfl rfl ?_
          go_simp
          refine (Mfold_any m gp _ HOK.out (HPM.out.keep st3.fr id) ar 32 cr ((l.drop r).take 32) (HFR.out.still st3.fr) (by decide)).mono ?_
          rintro e' w4 ⟨rfl, hf4⟩
          have st4 := st3.keep hf4
          clear hf4
          clear st3
          refine ⟨st4, ?_⟩
          try simp only [Act.put, List.setIfInBounds_toArray, List.set_cons_zero, List.set_cons_succ]
          refine plan_r rfl rfl ?_
          go_simp
          refine (MAdd_any m gp _ HOK.out (HPM.out.keep st4.fr id) ((beN (l.take r)) * B64 ^ 4) (beN ((l.drop r).take 32))).mono ?_
          rintro e' w5 ⟨rfl, hf5⟩
          have st5 := st4.keep hf5
          clear hf5
          clear st4
          refine ⟨st5, ?_⟩
          try simp only [Act.put, List.setIfInBounds_toArray, List.set_cons_zero, List.set_cons_succ]
          refine plan_m rfl rfl ?_
          refine wp_storeS st5 1 rfl rfl rfl rfl (by first | (simp only [cw_len]; done) | (simp only [List.length_append, cw_len]; done)) (by first | (rw [cw_len]; kernel_rfl) | (simp only [List.length_append, cw_len]; kernel_rfl)) (cw_one _ _) ?_
          intro w6 st6
          clear st5
          try simp only [Act.put]
          refine plan_end ?_
          refine NoPanic.normal ?_
          have hst := st6
          rw [← HTK.out] at hst
          clear st6
          go_wp2_with fail
          go_roundw
          case rel =>
            refine ⟨r + 32, cutAt ar 32 cr, cr - 32, ?_, ?_, ?_, ?_, ?_, hst⟩
            · have := HKK.out; omega
            · have h1 := HCO.out; have h2 := HKK.out; omega
            · have h2 := HKK.out; rw [show n - (r + 32) = k - 32 by omega, HCUT.out, HAR.out]; rfl
            · have h2 := HKK.out; have h3 := HCR.out; omega
            · have h2 := HKK.out
              have h3 := HBE.out
              rw [List.drop_drop] at h3
              rw [show n - (r + 32) = k - 32 by omega]
              exact h3
          case measure => simp [lnV]; omega
    · have hne : ((((n - r : Nat) : Int) % 32) != 0) = true := by simp; omega
      have hr0 : r = 0 := by rcases hcond with h | h <;> omega
      subst hr0
      have hk32 : n % 32 ≤ n - 0 := by omega
      have hfr := RdB.front HRD.out (n % 32) hk32
      have hbe := RdB.behind HRD.out (n % 32) hk32 HCR.out
      have hcr := HCR.out
      have k1 := fun wx => run_slice_hi (P := Try.prog) wx Try.underlying22 size_u8 ar (n - 0) cr .i64 (n % 32) (by omega)
      have k2 := fun wx => run_slice_lo (P := Try.prog) wx Try.underlying22 size_u8 ar (n - 0) cr .i64 (n % 32) (by omega)
      have hm32 : n % 32 < 32 := Nat.mod_lt _ (by decide)
      have hmod : ((n % 32 : Nat) : Int) = (n : Int) % 32 := by omega
      simp only [List.drop_zero, Nat.sub_zero] at hfr hbe k1 k2 hne hm
      rw [hmod] at k1 k2
      have HFR := Lib.hid hfr
      have HBE := Lib.hid hbe
      have HM := Lib.hid hm
      have HM32 := Lib.hid hm32
      clear hm hfr hbe hcond hcr hk32 hr hmod hm32
      simp only [Nat.sub_zero]
      go_wp2_with fail
      refine (Mfold_any m gp _ HOK.out (HPM.out.keep st.fr id) ar (n % 32) cr (l.take (n % 32)) (HFR.out.still st.fr) (Nat.le_of_lt HM32.out)).mono ?_
      rintro e' w3 ⟨rfl, hf3⟩
      have st3 := st.keep hf3
      clear st hf3
      go_wp2_with (with_reducible refine wl_stop (o := ⟨none, _, _, _, _, _⟩) ?_)
      refine wl_storeS st3 1 rfl rfl rfl rfl rfl (by first | (simp only [cw_len]; done) | (simp only [List.length_append, cw_len]; done)) (by first | (rw [cw_len]; kernel_rfl) | (simp only [List.length_append, cw_len]; kernel_rfl)) (cw_one _ _) ?_
      intro w4 st4
      clear st3
      have hst := st4
      clear st4
      go_wp2_with fail
      go_roundw
      case rel => exact ⟨n % 32, cutAt ar (n % 32) cr, cr - n % 32, by omega, .inr (by omega), rfl, by have := HCR.out; omega, HBE.out, hst⟩
      case measure => have := HM.out; simp [lnV]; omega
end Go.Proofs.Ytnooojkhnpcolaa

/- mont.Of. -/
namespace Go.Proofs.Ytnooojkhnpcolaa
open Go.RowKit Go.Mv Mvp
theorem cells_mP : [Value.int .u64 18446744069414583343, .int .u64 18446744073709551615, .int .u64 18446744073709551615, .int .u64 18446744073709551615, .int .u64 15580212934572586289, .int .u64 4294968273, .int .u64 0, .int .u64 0, .int .u64 0, .int .u64 8392367050913, .int .u64 1, .int .u64 0, .int .u64 0] = mdL mP := by kernel_rfl
theorem cells_mQ : [Value.int .u64 13822214165235122497, .int .u64 13451932020343611451, .int .u64 18446744073709551614, .int .u64 18446744073709551615, .int .u64 5408259542528602431, .int .u64 4624529908474429119, .int .u64 4994812053365940164, .int .u64 1, .int .u64 0, .int .u64 9902555850136342848, .int .u64 8364476168144746616, .int .u64 16616019711348246470, .int .u64 11342065889886772165] = mdL mQ := by kernel_rfl

set_option maxHeartbeats 2000000 in
set_option maxRecDepth 100000 in
theorem Of0 (w : World) : Calls Try.prog 101 #[.int .i64 0] w fun e w' => ∃ g, e = .returned (.tuple #[.pointer (some ⟨g, 0, none⟩), .bool true]) ∧ w.heap.size ≤ g ∧ Has w' g (mdL mP) 159 ∧ Fr Nob w w' := by
  go_enter Try.func101, Try.ntmps101
  go_wp2
  go_ret2
  exact ⟨_, rfl, Nat.le_refl _, by rw [← cells_mP]; exact Has.new w _ _, (Fr.refl Nob w).alloc _⟩
set_option maxHeartbeats 2000000 in
set_option maxRecDepth 100000 in
theorem Of1 (w : World) : Calls Try.prog 101 #[.int .i64 1] w fun e w' => ∃ g, e = .returned (.tuple #[.pointer (some ⟨g, 0, none⟩), .bool true]) ∧ w.heap.size ≤ g ∧ Has w' g (mdL mQ) 159 ∧ Fr Nob w w' := by
  go_enter Try.func101, Try.ntmps101
  go_wp2
  go_ret2
  exact ⟨_, rfl, Nat.le_refl _, by rw [← cells_mQ]; exact Has.new w _ _, (Fr.refl Nob w).alloc _⟩
set_option maxHeartbeats 2000000 in
set_option maxRecDepth 100000 in
theorem Of2 (k : Int) (w : World) (h0 : (k == 0) = false) (h1 : (k == 1) = false) : Calls Try.prog 101 #[.int .i64 k] w fun e w' => e = .returned (.tuple #[.pointer none, .bool false]) ∧ w = w' := by
  go_enter Try.func101, Try.ntmps101
  go_wp2
  go_ret2
  exact ⟨rfl, rfl⟩
end Go.Proofs.Ytnooojkhnpcolaa

/- num.Modulus, num.Reduce; the law's told. -/
namespace Go.Proofs.Ytnooojkhnpcolaa
open Go.RowKit Go.Mv Mvp

/-- the known kinds -/
inductive KindOf : Int → Md → Prop where
  | zero : KindOf 0 mP
  | one : KindOf 1 mQ
theorem KindOf.ok {k : Int} {m : Md} (h : KindOf k m) : m.Ok := by cases h; exact mP_ok; exact mQ_ok
theorem kind_cases (k : Int) : (∃ m, KindOf k m) ∨ ((k == 0) = false ∧ (k == 1) = false) := by
  by_cases h0 : k = 0
  · subst h0; exact .inl ⟨_, .zero⟩
  · by_cases h1 : k = 1
    · subst h1; exact .inl ⟨_, .one⟩
    · exact .inr ⟨by simpa using h0, by simpa using h1⟩
theorem OfK {k : Int} {m : Md} (hk : KindOf k m) (w : World) : Calls Try.prog 101 #[.int .i64 k] w fun e w' => ∃ g, e = .returned (.tuple #[.pointer (some ⟨g, 0, none⟩), .bool true]) ∧ w.heap.size ≤ g ∧ Has w' g (mdL m) 159 ∧ Fr Nob w w' := by
  cases hk
  · exact Of0 w
  · exact Of1 w
theorem MakeK {k : Int} {m : Md} (hk : KindOf k m) (w : World) : Calls Try.prog 77 #[.int .i64 k] w fun e w' => e = .returned (fv m.M) ∧ Fr Nob w w' := by
  cases hk
  · exact Make0 w
  · exact Make1 w
attribute [local irreducible] limbs lw mix cw cSub cAdd cMul foldC valFrom beN laid be32 powm montT mstep elN mdL

end Go.Proofs.Ytnooojkhnpcolaa

/- append onto an owned slice, once more: what lay ahead of the new cells is kept, in the old block too. -/
namespace Go.Mv
open Go.RowKit
variable {P : Program}

/-- all cells of old blocks are as they were, but those of v's block behind its n elements -/
def Kept (v : Value) (n sz : Nat) (w w' : World) : Prop :=
  ∀ b i, b < w.heap.size → (∀ o cap, v = .slice (some ⟨b, o, none⟩) n cap → i < o + n * sz) → w'.cell? ⟨b, i, none⟩ = w.cell? ⟨b, i, none⟩

theorem Kept.refl (v : Value) (n sz : Nat) (w : World) : Kept v n sz w w := fun _ _ _ _ => rfl
theorem Kept.ofFr {v : Value} {n sz : Nat} {w w' : World} (h : Fr Nob w w') : Kept v n sz w w' := fun b _ hb _ => World.cell?_of_block (a := ⟨b, _, none⟩) (h.block b hb id)
theorem Kept.rd {v : Value} {n sz : Nat} {w w' : World} (h : Kept v n sz w w') {a : Option Addr} {m : Nat} {L : List Value} (hr : Rd w a m L) (ha : ∀ b o o' cap, a = some ⟨b, o, none⟩ → v = .slice (some ⟨b, o', none⟩) n cap → o + m ≤ o' + n * sz) : Rd w' a m L := by
  refine ⟨hr.1, hr.2.imp id ?_⟩
  rintro ⟨b, o, rfl, hat⟩
  refine ⟨b, o, rfl, fun i u hu => ?_⟩
  have hc := hat i u hu
  have hi : i < m := by
    rcases Nat.lt_or_ge i m with k | k
    · exact k
    · rw [List.getElem?_eq_none (by rw [hr.1]; exact k)] at hu; cases hu
  rw [h b (o + i) (block_lt_of_cell hc) (fun o' cap hv => by have := ha b o o' cap rfl hv; omega)]
  exact hc

theorem run_append3 {w : World} (base : Nat) (t ty e : TypeId) (z : Value) (sz by_ : Nat) (ht : P.underlying t = some (.slice e)) (hi0 : (P.info? e).map (fun i => (i.zero, i.size, i.bytes)) = some (some z, sz, by_))
    (hzs : z.cells.size = sz) (hsz : 0 < sz)
    (v : Value) (n : Nat) (L : List Value) (hown : Own w base e sz v n L)
    (a : Option Addr) (m c : Nat) (news : List Value) (hnews : Rd w a (m * sz) news) (h1 : ∀ u ∈ news, u.oneCell' = true)
    (h63 : n + m ≤ maxLen) (hbytes : (n + m) * by_ ≤ 140737488355328) (hbase : base ≤ w.heap.size) :
    ∃ v' w', (Builtin.append_ #[t, t] ty #[v, .slice a m c]).run P w = .ok v' w' ∧ Own w' base e sz v' (n + m) (L ++ news) ∧ Fr (OwnB v) w w' ∧ Kept v n sz w w' ∧
      (((∃ x o cap, v = .slice (some ⟨x, o, none⟩) n cap ∧ v' = .slice (some ⟨x, o, none⟩) (n + m) cap) ∨ (m = 0 ∧ v' = v)) ∨ (v'.ownBlock = some w.heap.size ∧ Fr Nob w w')) := by
  obtain ⟨i, hi, hz, hsize, hby⟩ := info_parts hi0
  subst hsize
  subst hby
  rcases Nat.eq_zero_or_pos m with rfl | hm
  · obtain ⟨s, cap, rfl, hc, -, -⟩ := hown.form
    have hn : news = [] := List.eq_nil_of_length_eq_zero (by rw [hnews.len]; simp)
    subst hn
    exact ⟨_, w, run_append_zero t ty e i ht hi s n cap hc a c, by simpa using hown, Fr.refl _ _, Kept.refl _ _ _ _, .inl (.inr ⟨rfl, rfl⟩)⟩
  have hms : 0 < m * i.size := Nat.mul_pos hm hsz
  obtain ⟨b, o', rfl, hat⟩ := hnews.at hms
  have hlen : (L ++ news).length = (n + m) * i.size := by rw [List.length_append, hown.1, hnews.len, Nat.add_mul]
  have hsmall : n + m ≤ 9223372036854775807 := by simp only [maxLen] at h63; omega
  have grown : ∀ (old : Nat), old < n + m →
      Own (w.drew.alloc (.cells (L.toArray ++ news.toArray ++ Builtin.zeroCells z.cells (grownCap w (n + m) old e - (n + m))) e)) base e i.size
        (.slice (some ⟨w.heap.size, 0, none⟩) (n + m) (grownCap w (n + m) old e)) (n + m) (L ++ news) ∧
      Fr Nob w (w.drew.alloc (.cells (L.toArray ++ news.toArray ++ Builtin.zeroCells z.cells (grownCap w (n + m) old e - (n + m))) e)) := by
    intro old ho
    have hge := grownCap_ge w (n + m) old e
    have hcm : grownCap w (n + m) old e ≤ maxLen := grownCap_le_maxLen w (n + m) old e h63
    have hz' : (Builtin.zeroCells z.cells (grownCap w (n + m) old e - (n + m))).size = (grownCap w (n + m) old e - (n + m)) * i.size := by simp [size_zeroCells, hzs]
    have hmul : (n + m) * i.size + (grownCap w (n + m) old e - (n + m)) * i.size = grownCap w (n + m) old e * i.size := by rw [← Nat.add_mul]; congr 1; omega
    refine ⟨⟨hlen, .inr ⟨w.heap.size, 0, _, _, rfl, hbase, Has.new w.drew _ e, hge, hcm, ?_, ?_⟩⟩, ((Fr.refl _ w).drew).alloc _⟩
    · rw [List.length_append] at hlen
      simp only [Array.toList_append, List.length_append, Array.length_toList, hz', Nat.zero_add]
      omega
    · simp only [Array.toList_append, List.drop_zero]
      rw [← hlen]
      exact List.take_left
  rcases hown.2 with ⟨rfl, rfl⟩ | ⟨g, o, cap, B, rfl, hbg, hg, hnc, hcm, hl, htake⟩
  · have hx : L = [] := List.eq_nil_of_length_eq_zero (by simpa using hown.1)
    subst hx
    have hr := run_append_nil (P := P) w t ty e i z ht hi hz ⟨b, o', none⟩ m c news hnews.len hat.add hm (by omega) (by have hb := hbytes; simp only [Nat.zero_add] at hb; omega)
    have hgr := grown 0 (by omega)
    simp only [Nat.zero_add, List.nil_append, Array.empty_append] at hgr ⊢
    exact ⟨_, _, hr, hgr.1, hgr.2.mono (fun _ _ t => t.elim), Kept.ofFr hgr.2, .inr ⟨rfl, hgr.2⟩⟩
  · by_cases hroom : n + m ≤ cap
    · have hle : (n + m) * i.size ≤ cap * i.size := Nat.mul_le_mul_right _ hroom
      have hnl := hnews.len
      have hfit : o + n * i.size + news.length ≤ B.length := by rw [Nat.add_mul] at hle; omega
      obtain ⟨w', hr, hh, hf, hzz⟩ := run_append_room2 (P := P) t ty e i ht hi g o n cap B e hg _ m c news hnews h1 hroom hfit
      refine ⟨_, _, hr, ⟨hlen, .inr ⟨g, o, cap, _, rfl, hbg, hh, hroom, hcm, ?_, ?_⟩⟩, hf.mono (fun k _ t => by have e : k = g := t; subst e; rfl), ?_, .inl (.inl ⟨g, o, cap, rfl, rfl⟩)⟩
      · rw [splice_length _ _ _ hfit]; exact hl
      · have := splice_take B o (n * i.size) news hfit
        rw [htake] at this
        rw [← this, hnl, Nat.add_mul]
      · intro b' j hb' hj
        by_cases hbg' : b' = g
        · subst hbg'
          have hj' := hj o cap rfl
          rw [hg.get, hh.get]
          unfold splice
          rw [List.getElem?_append_left (by simp; omega), List.getElem?_take, if_pos hj']
        · exact World.cell?_of_block (a := ⟨b', j, none⟩) (hf.block b' hb' hbg')
    · have hle : n * i.size ≤ cap * i.size := Nat.mul_le_mul_right _ hnc
      have hrd : Rd w (some ⟨g, o, none⟩) (n * i.size) L := by rw [← htake]; exact Rd.ofHas hg o (by omega)
      have holds : ∀ j u, L[j]? = some u → w.cell? ((⟨g, o, none⟩ : Addr).add j) = some u := by
        rcases Nat.eq_zero_or_pos (n * i.size) with h0 | h0
        · have : L = [] := List.eq_nil_of_length_eq_zero (by rw [hown.1, h0])
          subst this; intro j u hu; simp at hu
        · obtain ⟨b2, o2, he, hc2⟩ := hrd.at h0
          simp only [Option.some.injEq, Addr.mk.injEq] at he
          obtain ⟨rfl, rfl, -⟩ := he
          exact hc2.add
      have hr := run_append_grow (P := P) w t ty e i z ht hi hz ⟨g, o, none⟩ n cap L hown.1 holds ⟨b, o', none⟩ m c news hnews.len hat.add (by omega) (by omega) (growslice_fits (by omega) hbytes)
      have hgr := grown cap (by omega)
      exact ⟨_, _, hr, hgr.1, hgr.2.mono (fun _ _ t => t.elim), Kept.ofFr hgr.2, .inr ⟨rfl, hgr.2⟩⟩

section
variable {w : World} {ops : Array Oper} {rest : List Oper} {o : Oper} {a : Act} {Q : Exit → Act → World → Prop}
/-- append(s, x...), x a slice; what stood ahead of the end is kept -/
theorem wl_append_k {s x : Operand} {t : TypeId} (hgd : o.guard = none) (ho : o.op = .call { callee := .builtin .append, args := #[s, x], argTypes := #[t, t] })
    {e : TypeId} {z : Value} {sz by_ : Nat} (ht : P.underlying t = some (.slice e)) (hi0 : (P.info? e).map (fun i => (i.zero, i.size, i.bytes)) = some (some z, sz, by_))
    (hzs : z.cells.size = sz) (hsz : 0 < sz)
    {v : Value} {n base : Nat} {L : List Value} (hown : Own w base e sz v n L) (hs : a.eval s = v)
    {xa : Option Addr} {m c : Nat} {news : List Value} (hx : a.eval x = .slice xa m c) (hnews : Rd w xa (m * sz) news) (h1 : ∀ u ∈ news, u.oneCell' = true)
    (h63 : n + m ≤ maxLen) (hbytes : (n + m) * by_ ≤ 140737488355328) (hbase : base ≤ w.heap.size)
    (h : ∀ v' w', Own w' base e sz v' (n + m) (L ++ news) → Fr (OwnB v) w w' → Kept v n sz w w' → (((∃ x o cap, v = .slice (some ⟨x, o, none⟩) n cap ∧ v' = .slice (some ⟨x, o, none⟩) (n + m) cap) ∨ (m = 0 ∧ v' = v)) ∨ (v'.ownBlock = some w.heap.size ∧ Fr Nob w w')) → wpList P ops Q rest (a.put o.dst v') w') : wpList P ops Q (o :: rest) a w := by
  refine wpList_plain hgd fun K hK => ?_
  obtain ⟨v', w', hr, h2, h3, h4, h5⟩ := run_append3 (P := P) base t o.type e z sz by_ ht hi0 hzs hsz v n L hown xa m c news hnews h1 h63 hbytes hbase
  unfold Oper.wp execOp
  simp only [ho, resolve, invoke, builtin, Sem.run_bind, Sem.run_pure, Result.andThen_ok, List.map_toArray, List.map_cons, List.map_nil, hs, hx, hr]
  exact hK _ _ (h v' w' h2 h3 h4 h5)
end
end Go.Mv
namespace Go.Mv
open Go.RowKit
section
variable {P : Program} {w : World} {ops : Array Oper} {o : Oper} {a : Act} {K : Act → World → Prop} {Q : Exit → Act → World → Prop} {E : Prop}
/-- append(s, x...) inside a region that draws: for the third argument of go_region_held3 -/
theorem step_append {s x : Operand} {t : TypeId} (hgd : o.guard = none) (ho : o.op = .call { callee := .builtin .append, args := #[s, x], argTypes := #[t, t] })
    {e : TypeId} {z : Value} {sz by_ : Nat} (ht : P.underlying t = some (.slice e)) (hi0 : (P.info? e).map (fun i => (i.zero, i.size, i.bytes)) = some (some z, sz, by_))
    (hzs : z.cells.size = sz) (hsz : 0 < sz)
    {v : Value} {n base : Nat} {L : List Value} (hown : Own w base e sz v n L) (hs : a.eval s = v)
    {xa : Option Addr} {m c : Nat} {news : List Value} (hx : a.eval x = .slice xa m c) (hnews : Rd w xa (m * sz) news) (h1 : ∀ u ∈ news, u.oneCell' = true)
    (h63 : n + m ≤ maxLen) (hbytes : (n + m) * by_ ≤ 140737488355328) (hbase : base ≤ w.heap.size)
    (h : ∀ v' w', Own w' base e sz v' (n + m) (L ++ news) → Fr (OwnB v) w w' → K (a.put o.dst v') w') :
    if Region.wanted o (yielded ops a.tmps) = true then Oper.wp P o a w K Q else E := by
  have hw : Region.wanted o (yielded ops a.tmps) = true := by simp [Region.wanted, hgd]
  rw [if_pos hw]
  obtain ⟨v', w', hr, h2, h3, h4⟩ := run_append2 (P := P) base t o.type e z sz by_ ht hi0 hzs hsz v n L hown xa m c news hnews h1 h63 hbytes hbase
  unfold Oper.wp execOp
  simp only [ho, resolve, invoke, builtin, Sem.run_bind, Sem.run_pure, Result.andThen_ok, List.map_toArray, List.map_cons, List.map_nil, hs, hx, hr]
  exact h v' w' h2 h3
end
end Go.Mv

/- An empty slice literal. -/
namespace Go.Mv
open Go.RowKit
variable {P : Program}
theorem wl_slit0 {w : World} {ops : Array Oper} {rest : List Oper} {o : Oper} {a : Act} {Q : Exit → Act → World → Prop} {t e : TypeId} (hgd : o.guard = none) (ho : o.op = .buildSlice t 0 #[])
    (hu : P.underlying t = some (.slice e)) {z : Option Value} {sz by_ : Nat} (hi0 : (P.info? e).map (fun i => (i.zero, i.size, i.bytes)) = some (z, sz, by_))
    (h : ∀ w', Own w' w.heap.size e sz (.slice (some ⟨w.heap.size, 0, none⟩) 0 0) 0 [] → Fr Nob w w' → w'.heap.size = w.heap.size + 1 → wpList P ops Q rest (a.put o.dst (.slice (some ⟨w.heap.size, 0, none⟩) 0 0)) w') : wpList P ops Q (o :: rest) a w := by
  obtain ⟨i, hi, hz0⟩ : ∃ i, P.info? e = some i ∧ (i.zero, i.size, i.bytes) = (z, sz, by_) := by simpa using hi0
  simp only [Prod.mk.injEq] at hz0
  obtain ⟨hz1, hsz, hby⟩ := hz0
  refine wpList_plain hgd fun K hK => ?_
  have hr : (Instr.buildSlice t 0 #[]).run P w = .ok (.slice (some ⟨w.heap.size, 0, none⟩) 0 0) (w.alloc (.cells #[] e)) := by
    simp [Instr.buildSlice, run_underlying hu, sizeOf, typeInfo, hi, Instr.fill, newRow]
    exact congrArg (fun c => w.alloc (Obj.cells c e)) (Array.eq_empty_of_size_eq_zero (by simp))
  unfold Oper.wp execOp
  simp only [ho, Sem.run_bind, List.map_toArray, List.map_nil, hr, Result.andThen_ok]
  refine hK _ _ (h _ ?_ ((Fr.refl _ w).alloc _) (by simp))
  have := Own.made (Has.new w #[] e) w.heap.size (Nat.le_refl _) sz 0 0 (Nat.le_refl _) (by decide) (by simp)
  simpa using this
end Go.Mv
namespace Go.Mv
open Go.RowKit
variable {P : Program}
/-- n rows in a row: a slice literal of structs -/
theorem wl_slitR {w : World} {ops : Array Oper} {rest : List Oper} {o : Oper} {a : Act} {Q : Exit → Act → World → Prop} {t e : TypeId} {k : Nat} {parts : Array (Nat × Operand)} (hgd : o.guard = none) (ho : o.op = .buildSlice t k parts)
    (hu : P.underlying t = some (.slice e)) {z : Value} {sz by_ : Nat} (hi0 : (P.info? e).map (fun i => (i.zero, i.size, i.bytes)) = some (some z, sz, by_)) (vs : List Value) (hp : (parts.toList.map fun p => (p.1, a.eval p.2)) = (vs.zipIdx 0).map fun x => (x.2, x.1))
    (hv : ∀ v ∈ vs, v.cells.size = sz) (hk : vs.length = k) (L : List Value) (hL : (vs.flatMap fun v => v.cells.toList) = L)
    (h : ∀ w', Has w' w.heap.size L e → Fr Nob w w' → w'.heap.size = w.heap.size + 1 → wpList P ops Q rest (a.put o.dst (.slice (some ⟨w.heap.size, 0, none⟩) k k)) w') (hk0 : 0 < k * sz := by decide) (hk24 : k * sz ≤ 16777216 := by decide) : wpList P ops Q (o :: rest) a w := by
  obtain ⟨i, hi, hz0⟩ : ∃ i, P.info? e = some i ∧ (i.zero, i.size, i.bytes) = (some z, sz, by_) := by simpa using hi0
  simp only [Prod.mk.injEq] at hz0
  obtain ⟨hz1, hsz, hby⟩ := hz0
  have hs0 : 0 < sz := Nat.pos_of_mul_pos_left hk0
  have hf : Instr.fill (fun j => some (j * i.size, i.size)) ((Array.range (k * i.size)).map (z.cells[· % z.cells.size]!)) (parts.map fun (i, x) => (i, a.eval x)).toList = some L.toArray := by
    rw [show (parts.map fun (i, x) => (i, a.eval x)).toList = (parts.toList.map fun p => (p.1, a.eval p.2)) by simp, hp, hsz, ← hL]
    exact Great.fill_whole hs0 vs _ hv (by simp [hk])
  exact wpList_buildSlice hgd t e k _ ho _ i _ hu hi hz1 (by rw [hsz]; omega) (by rw [hsz]; omega) hf (h _ (Has.new w L.toArray e) ((Fr.refl _ w).alloc _) (by simp))
end Go.Mv
namespace Go.Mv
open Go.RowKit
variable {P : Program}
theorem wl_index_arr {w : World} {ops : Array Oper} {rest : List Oper} {o : Oper} {a : Act} {Q : Exit → Act → World → Prop} {t e e' : TypeId} {n : Nat} {x i : Operand} (hgd : o.guard = none) (ho : o.op = .index t x i) (ht : P.underlying t = some (.array n e)) (he : P.underlying e = some (.slice e'))
    (hi0 : (P.info? e).map (·.size) = some 1) {cs : Array Value} {ki : IntKind} {k : Nat} {v : Value} (hx : a.eval x = .agg cs) (hi : a.eval i = .int ki (k : Int)) (hk : k < n) (hv : cs[k]? = some v)
    (h : wpList P ops Q rest (a.put o.dst v) w) : wpList P ops Q (o :: rest) a w := by
  obtain ⟨j, hj, hsz⟩ : ∃ j, P.info? e = some j ∧ j.size = 1 := by simpa using hi0
  refine wpList_plain hgd fun K hK => ?_
  have hr : (Instr.index t (.agg cs) (.int ki (k : Int))).run P w = .ok v w := by
    have h1 : (0 : Int) ≤ (k : Int) ∧ (k : Int) < (n : Int) := by omega
    simp [Instr.index, asIntOf, run_underlying ht, sizeOf, typeInfo, hj, hsz, part, isAgg, run_underlying he, h1, hv]
    intro h; omega
  unfold Oper.wp execOp
  simp only [ho, hx, hi, Sem.run_bind, hr, Result.andThen_ok]
  exact hK _ _ h
end Go.Mv

/- num.read: lists of numbers. -/
namespace Go.Mv
open Go.RowKit Mvp
/-- a slice of bytes, and what it reads as -/
def BPart (w : World) (v : Value) (l : List UInt8) : Prop := ∃ a n c, v = .slice a n c ∧ n ≤ c ∧ RdB w a n l
def BParts (w : World) (vs : List Value) (ls : List (List UInt8)) : Prop := vs.length = ls.length ∧ ∀ i v, vs[i]? = some v → BPart w v (ls.getD i [])
theorem BPart.still {w w' : World} {v : Value} {l : List UInt8} (h : BPart w v l) (hf : Fr Nob w w') : BPart w' v l := by
  obtain ⟨a, n, c, e, hc, hr⟩ := h
  exact ⟨a, n, c, e, hc, hr.still hf⟩
theorem BPart.one {w : World} {v : Value} {l : List UInt8} (h : BPart w v l) : v.cells = #[v] := by
  obtain ⟨a, n, c, rfl, -, -⟩ := h
  rfl
theorem BParts.still {w w' : World} {vs : List Value} {ls : List (List UInt8)} (h : BParts w vs ls) (hf : Fr Nob w w') : BParts w' vs ls := ⟨h.1, fun i v hv => (h.2 i v hv).still hf⟩
theorem BParts.one {w : World} {v : Value} {l : List UInt8} (h : BPart w v l) : BParts w [v] [l] := ⟨rfl, fun i u hu => by
  cases i with
  | zero => simp at hu; subst hu; exact h
  | succ i => simp at hu⟩
theorem BParts.two {w : World} {v u : Value} {l k : List UInt8} (h : BPart w v l) (h2 : BPart w u k) : BParts w [v, u] [l, k] := ⟨rfl, fun i x hx => by
  match i with
  | 0 => simp at hx; subst hx; exact h
  | 1 => simp at hx; subst hx; exact h2
  | i + 2 => simp at hx⟩
end Go.Mv
namespace Mvp
/-- is it a number of the modulus? -/
def numB (m : Md) (l : List UInt8) : Bool := decide (l.length = 32) && decide (beN l < m.M)
def numsB (m : Md) (ls : List (List UInt8)) : Bool := ls.all (numB m)
/-- the elements of a list of numbers, as cells -/
def elCells (m : Md) (ls : List (List UInt8)) : List Go.Value := ls.flatMap fun l => Go.Mv.cw 4 (elN m (beN l))
theorem elCells_len (m : Md) (ls : List (List UInt8)) : (elCells m ls).length = ls.length * 4 := by
  induction ls with
  | nil => rfl
  | cons l ls ih => rw [elCells, List.flatMap_cons, List.length_append, Go.Mv.cw_len, ← elCells, ih, List.length_cons]; omega
theorem elCells_snoc (m : Md) (ls : List (List UInt8)) (l : List UInt8) : elCells m (ls ++ [l]) = elCells m ls ++ Go.Mv.cw 4 (elN m (beN l)) := by
  simp [elCells]
theorem elCells_at (m : Md) (ls : List (List UInt8)) (i : Nat) (h : i < ls.length) : ((elCells m ls).drop (i * 4)).take 4 = Go.Mv.cw 4 (elN m (beN (ls.getD i []))) := by
  induction ls generalizing i with
  | nil => simp at h
  | cons l ls ih =>
    rw [elCells, List.flatMap_cons, ← elCells]
    cases i with
    | zero =>
      rw [Nat.zero_mul, List.drop_zero, List.take_append_of_le_length (by rw [Go.Mv.cw_len]; exact Nat.le_refl _), List.take_of_length_le (by rw [Go.Mv.cw_len]; exact Nat.le_refl _)]
      rfl
    | succ i =>
      rw [List.drop_append, Go.Mv.cw_len, List.drop_of_length_le (by rw [Go.Mv.cw_len]; omega), List.nil_append, show (i + 1) * 4 - 4 = i * 4 by omega, ih i (by simpa using h)]
      rfl
theorem numsB_take (m : Md) (ls : List (List UInt8)) (k : Nat) (h : k < ls.length) : numsB m (ls.take (k + 1)) = (numsB m (ls.take k) && numB m (ls.getD k [])) := by
  rw [List.take_succ_eq_append_getElem h, numsB, List.all_append, ← numsB]
  simp [List.getD_eq_getElem?_getD, h]
theorem numsB_bad (m : Md) (ls : List (List UInt8)) (k : Nat) (h : k < ls.length) (hb : numB m (ls.getD k []) = false) : numsB m ls = false := by
  rw [numsB, List.all_eq_false]
  refine ⟨ls.getD k [], ?_, by simpa using hb⟩
  rw [List.getD_eq_getElem?_getD, List.getElem?_eq_getElem h]
  exact List.getElem_mem h
end Mvp
namespace Go.Proofs.Ytnooojkhnpcolaa
open Go.RowKit Go.Mv Mvp
theorem info_el : (Try.prog.info? 92).map (fun i => (i.zero, i.size, i.bytes)) = some (some (.agg #[.int .u64 0, .int .u64 0, .int .u64 0, .int .u64 0]), 4, 32) := by kernel_rfl
/-- how num.read answers -/
def ReadPost (m : Md) (ls : List (List UInt8)) (w : World) (e : Ending) (w' : World) : Prop :=
  (numsB m ls = true → ∃ v, e = .returned (.tuple #[v, .bool true]) ∧ Own w' w.heap.size 92 4 v ls.length (elCells m ls)) ∧
  (numsB m ls = false → e = .returned (.tuple #[.slice none 0 0, .bool false])) ∧ Fr Nob w w'
theorem ReadPost.bad {m : Md} {ls : List (List UInt8)} {w w' : World} {e : Ending} (h : numsB m ls = false) (he : e = .returned (.tuple #[.slice none 0 0, .bool false])) (hf : Fr Nob w w') : ReadPost m ls w e w' :=
  ⟨fun h1 => (by rw [h] at h1; cases h1), fun _ => he, hf⟩
theorem ReadPost.good {m : Md} {ls : List (List UInt8)} {w w' : World} {e : Ending} {v : Value} (h : numsB m ls = true) (he : e = .returned (.tuple #[v, .bool true])) (ho : Own w' w.heap.size 92 4 v ls.length (elCells m ls)) (hf : Fr Nob w w') : ReadPost m ls w e w' :=
  ⟨fun _ => ⟨v, he, ho⟩, fun h1 => (by rw [h] at h1; cases h1), hf⟩
attribute [local irreducible] limbs lw mix cw cSub cAdd cMul foldC valFrom beN laid be32 powm montT mstep elN mdL elCells numsB numB

end Go.Proofs.Ytnooojkhnpcolaa

/- zn: scalars: order, Of, the methods, Wide, Small. -/
namespace Go.Proofs.Ytnooojkhnpcolaa
open Go.RowKit Go.Mv Mvp
attribute [local irreducible] limbs lw mix cw cSub cAdd cMul foldC valFrom beN laid be32 powm montT mstep elN mdL numB
theorem exec_build {P : Program} {o : Oper} {a : Act} {t : TypeId} {parts : Array (Nat × Operand)} (ho : o.op = .build t parts) (cells : Array Value)
    (hb : P.built t (parts.toList.map fun p => (p.1, a.eval p.2)) = some cells) (w : World) : (execOp a.eval o).run P w = .ok (.value (.agg cells)) w := by
  have hr := run_build (P := P) w t (parts.map fun (i, x) => (i, a.eval x)) cells (by
    have : (parts.map fun (i, x) => (i, a.eval x)).toList = (parts.toList.map fun p => (p.1, a.eval p.2)) := by simp
    rw [this]; exact hb)
  unfold execOp
  simp only [ho, Sem.run_bind, Sem.run_pure, Result.andThen_ok, hr]
theorem results_st2 {P : Program} {fn : Func} {p : Tmp} {ty : TypeId} {s : Tmp} (h : fn.results = #[.cell p ty, .tmp s]) {tmps : Array Value} {w : World} {g : Nat} {L : List Value} {T : TypeId}
    (hp : tmps.getD p undef = .pointer (some ⟨g, 0, none⟩)) (hg : Has w g L T) {d : TypeDesc} (hu : P.underlying ty = some d) (hd : (match d with | .struct _ | .array _ _ => true | _ => false) = true) (hi : (P.info? ty).map (·.size) = some L.length) {v : Value} (hv : tmps.getD s undef = v) :
    (results fn tmps).run P w = .ok (.tuple #[.agg L.toArray, v]) w := by
  obtain ⟨lo, hi', hh, -⟩ := hg
  have hp' : tmps[p]?.getD undef = .pointer (some ⟨g, 0, none⟩) := by simpa using hp
  have hv' : tmps[s]?.getD undef = v := by simpa using hv
  simp [results, h, hp', hv', asAddr, run_loadVar_row w g T ty L.toArray _ _ hh hu (by cases d <;> first | rfl | (simp at hd)) (by simpa using hi)]
theorem info_Z : (Try.prog.info? 94).map (fun i => (i.zero, i.size, i.bytes)) = some (some (.agg #[.int .u64 0, .int .u64 0, .int .u64 0, .int .u64 0]), 4, 32) := by kernel_rfl
theorem built_Z (a : Nat) : Try.prog.built 94 [(0, i4 a)] = some (cw 4 a).toArray := by kernel_rfl
theorem order_any (m : Md) (hk : KindOf 1 m) (w : World) : Calls Try.prog 70 #[] w fun e w' => ∃ gp, e = .returned (.pointer (some ⟨gp, 0, none⟩)) ∧ w.heap.size ≤ gp ∧ Has w' gp (mdL m) 159 ∧ Fr Nob w w' := by
  have HK := Lib.hid hk
  clear hk
  go_enter Try.func70, Try.ntmps70
  go_wp2_with fail
  refine (OfK HK.out _).mono ?_
  rintro e w1 ⟨gp, rfl, hle, hm, hf⟩
  have HL := Lib.hid hle
  have HM := Lib.hid hm
  have HF := Lib.hid hf
  clear hm hf hle
  go_wp2_with fail
  go_ret
  exact ⟨gp, rfl, HL.out, HM.out, HF.out⟩

set_option maxHeartbeats 8000000 in
set_option maxRecDepth 100000 in
theorem ZSub_any (m : Md) (hk : KindOf 1 m) (x y : Nat) (w : World) :
    Calls Try.prog 44 #[i4 (elN m x), i4 (elN m y)] w fun e w' => e = .returned (i4 (elN m (x + (m.M - y % m.M)))) ∧ Fr Nob w w' := by
  have HK := Lib.hid hk
  have HOK := Lib.hid hk.ok
  clear hk
  have st0 := St.start Nob w
  go_enter Try.func44, Try.ntmps44
  go_wp2_with (with_reducible refine wl_stop (o := ⟨some 2, _, _, _, _, _⟩) ?_)
  refine wl_boxS st0 rfl rfl rfl (cw 4 (elN m x)) rfl ?_
  intro g2 w1 st1
  clear st0
  go_wp2_with (with_reducible refine wl_stop (o := ⟨some 3, _, _, _, _, _⟩) ?_)
  refine wl_boxS st1 rfl rfl rfl (cw 4 (elN m y)) rfl ?_
  intro g3 w2 st2
  clear st1
  go_wp2_with (with_reducible refine wl_stop (o := ⟨some 4, _, _, _, _, _⟩) ?_)
  refine wl_allocS st2 rfl rfl (z := .agg #[.int .u64 0, .int .u64 0, .int .u64 0, .int .u64 0]) (by kernel_rfl) (cw 4 0) (by rw [cw_zero]; rfl) ?_
  intro g4 w3 st3
  clear st2
  go_wp2_with fail
  refine wp_region_noPanic ?_
  refine wp_region_plan (fun wx => St Nob w wx [(g2, cw 4 (elN m x), 94), (g3, cw 4 (elN m y), 94), (g4, cw 4 0, 94)]) 7 (.w 1 (.t 2 (.w 3 (.t 4 (.r 0 (.r 5 (.w 6 (.m 7 .nil)))))))) (by kernel_rfl) (by kernel_rfl) st3.drew (fun _ _ _ _ _ h => h) ?_
  have hd3 := st3.drew
  clear st3
  refine plan_w (v := ?_) rfl rfl (fun wx => ?_) ?_
  rotate_left 1
  · (go_simp; with_reducible rfl)
  try simp only [Act.put, List.setIfInBounds_toArray, List.set_cons_zero, List.set_cons_succ]
  refine plan_arr rfl rfl rfl rfl (cw 4 (elN m x)) (fun wx hS => St.rangeL hS 0 rfl 0 _ (by rw [List.drop_zero, List.take_of_length_le (Nat.le_refl _)])) Try.underlying92 rfl (by first | (rw [cw_len]; kernel_rfl) | (simp only [List.length_append, cw_len]; kernel_rfl)) ?_
  try simp only [Act.put, List.setIfInBounds_toArray, List.set_cons_zero, List.set_cons_succ]
  refine plan_w (v := ?_) rfl rfl (fun wx => ?_) ?_
  rotate_left 1
  · (go_simp; with_reducible rfl)
  try simp only [Act.put, List.setIfInBounds_toArray, List.set_cons_zero, List.set_cons_succ]
  refine plan_arr rfl rfl rfl rfl (cw 4 (elN m y)) (fun wx hS => St.rangeL hS 1 rfl 0 _ (by rw [List.drop_zero, List.take_of_length_le (Nat.le_refl _)])) Try.underlying92 rfl (by first | (rw [cw_len]; kernel_rfl) | (simp only [List.length_append, cw_len]; kernel_rfl)) ?_
  try simp only [Act.put, List.setIfInBounds_toArray, List.set_cons_zero, List.set_cons_succ]
  refine plan_r rfl rfl ?_
  go_simp
  refine (order_any m HK.out _).mono ?_
  rintro e' w4 ⟨gp, rfl, hle, hm, hf4⟩
  have st4 : St Nob w w4 [(g2, cw 4 (elN m x), 94), (g3, cw 4 (elN m y), 94), (g4, cw 4 0, 94), (gp, mdL m, 159)] := hd3.new hf4 hm hle
  clear hf4 hm hle
  clear hd3
  refine ⟨St.less st4 (by simp), ?_⟩
  try simp only [Act.put, List.setIfInBounds_toArray, List.set_cons_zero, List.set_cons_succ]
  refine plan_r rfl rfl ?_
  go_simp
  refine (MSub_any m gp _ HOK.out (st4.at 3 rfl) x y).mono ?_
  rintro e' w5 ⟨rfl, hf5⟩
  have st5 := st4.keep hf5
  clear hf5
  clear st4
  refine ⟨St.less st5 (by simp), ?_⟩
  try simp only [Act.put, List.setIfInBounds_toArray, List.set_cons_zero, List.set_cons_succ]
  refine plan_w rfl rfl (exec_build rfl _ (built_Z _)) ?_
  try simp only [Act.put, List.setIfInBounds_toArray, List.set_cons_zero, List.set_cons_succ]
  refine plan_m rfl rfl ?_
  refine wp_storeS st5 2 rfl rfl rfl rfl (by first | (simp only [cw_len]; done) | (simp only [List.length_append, cw_len]; done)) (by first | (rw [cw_len]; kernel_rfl) | (simp only [List.length_append, cw_len]; kernel_rfl)) (cw_one _ _) ?_
  intro w6 st6
  clear st5
  try simp only [Act.put]
  refine plan_end ?_
  refine NoPanic.normal ?_
  have hr := st6.at 2 rfl
  have hfr := st6.fr
  clear st6
  go_wp2_with fail
  exact bodyPost_ret (results_st rfl rfl hr Try.underlying94 rfl (by first | (rw [cw_len]; kernel_rfl) | (simp only [List.length_append, cw_len]; kernel_rfl))) rfl ⟨rfl, hfr⟩

set_option maxHeartbeats 8000000 in
set_option maxRecDepth 100000 in
theorem ZMul_any (m : Md) (hk : KindOf 1 m) (x y : Nat) (w : World) :
    Calls Try.prog 45 #[i4 (elN m x), i4 (elN m y)] w fun e w' => e = .returned (i4 (elN m (x * y))) ∧ Fr Nob w w' := by
  have HK := Lib.hid hk
  have HOK := Lib.hid hk.ok
  clear hk
  have st0 := St.start Nob w
  go_enter Try.func45, Try.ntmps45
  go_wp2_with (with_reducible refine wl_stop (o := ⟨some 2, _, _, _, _, _⟩) ?_)
  refine wl_boxS st0 rfl rfl rfl (cw 4 (elN m x)) rfl ?_
  intro g2 w1 st1
  clear st0
  go_wp2_with (with_reducible refine wl_stop (o := ⟨some 3, _, _, _, _, _⟩) ?_)
  refine wl_boxS st1 rfl rfl rfl (cw 4 (elN m y)) rfl ?_
  intro g3 w2 st2
  clear st1
  go_wp2_with (with_reducible refine wl_stop (o := ⟨some 4, _, _, _, _, _⟩) ?_)
  refine wl_allocS st2 rfl rfl (z := .agg #[.int .u64 0, .int .u64 0, .int .u64 0, .int .u64 0]) (by kernel_rfl) (cw 4 0) (by rw [cw_zero]; rfl) ?_
  intro g4 w3 st3
  clear st2
  go_wp2_with fail
  refine wp_region_noPanic ?_
  refine wp_region_plan (fun wx => St Nob w wx [(g2, cw 4 (elN m x), 94), (g3, cw 4 (elN m y), 94), (g4, cw 4 0, 94)]) 7 (.w 1 (.t 2 (.w 3 (.t 4 (.r 0 (.r 5 (.w 6 (.m 7 .nil)))))))) (by kernel_rfl) (by kernel_rfl) st3.drew (fun _ _ _ _ _ h => h) ?_
  have hd3 := st3.drew
  clear st3
  refine plan_w (v := ?_) rfl rfl (fun wx => ?_) ?_
  rotate_left 1
  · (go_simp; with_reducible rfl)
  try simp only [Act.put, List.setIfInBounds_toArray, List.set_cons_zero, List.set_cons_succ]
  refine plan_arr rfl rfl rfl rfl (cw 4 (elN m x)) (fun wx hS => St.rangeL hS 0 rfl 0 _ (by rw [List.drop_zero, List.take_of_length_le (Nat.le_refl _)])) Try.underlying92 rfl (by first | (rw [cw_len]; kernel_rfl) | (simp only [List.length_append, cw_len]; kernel_rfl)) ?_
  try simp only [Act.put, List.setIfInBounds_toArray, List.set_cons_zero, List.set_cons_succ]
  refine plan_w (v := ?_) rfl rfl (fun wx => ?_) ?_
  rotate_left 1
  · (go_simp; with_reducible rfl)
  try simp only [Act.put, List.setIfInBounds_toArray, List.set_cons_zero, List.set_cons_succ]
  refine plan_arr rfl rfl rfl rfl (cw 4 (elN m y)) (fun wx hS => St.rangeL hS 1 rfl 0 _ (by rw [List.drop_zero, List.take_of_length_le (Nat.le_refl _)])) Try.underlying92 rfl (by first | (rw [cw_len]; kernel_rfl) | (simp only [List.length_append, cw_len]; kernel_rfl)) ?_
  try simp only [Act.put, List.setIfInBounds_toArray, List.set_cons_zero, List.set_cons_succ]
  refine plan_r rfl rfl ?_
  go_simp
  refine (order_any m HK.out _).mono ?_
  rintro e' w4 ⟨gp, rfl, hle, hm, hf4⟩
  have st4 : St Nob w w4 [(g2, cw 4 (elN m x), 94), (g3, cw 4 (elN m y), 94), (g4, cw 4 0, 94), (gp, mdL m, 159)] := hd3.new hf4 hm hle
  clear hf4 hm hle
  clear hd3
  refine ⟨St.less st4 (by simp), ?_⟩
  try simp only [Act.put, List.setIfInBounds_toArray, List.set_cons_zero, List.set_cons_succ]
  refine plan_r rfl rfl ?_
  go_simp
  refine (MMulE m gp _ HOK.out (st4.at 3 rfl) x y).mono ?_
  rintro e' w5 ⟨rfl, hf5⟩
  have st5 := st4.keep hf5
  clear hf5
  clear st4
  refine ⟨St.less st5 (by simp), ?_⟩
  try simp only [Act.put, List.setIfInBounds_toArray, List.set_cons_zero, List.set_cons_succ]
  refine plan_w rfl rfl (exec_build rfl _ (built_Z _)) ?_
  try simp only [Act.put, List.setIfInBounds_toArray, List.set_cons_zero, List.set_cons_succ]
  refine plan_m rfl rfl ?_
  refine wp_storeS st5 2 rfl rfl rfl rfl (by first | (simp only [cw_len]; done) | (simp only [List.length_append, cw_len]; done)) (by first | (rw [cw_len]; kernel_rfl) | (simp only [List.length_append, cw_len]; kernel_rfl)) (cw_one _ _) ?_
  intro w6 st6
  clear st5
  try simp only [Act.put]
  refine plan_end ?_
  refine NoPanic.normal ?_
  have hr := st6.at 2 rfl
  have hfr := st6.fr
  clear st6
  go_wp2_with fail
  exact bodyPost_ret (results_st rfl rfl hr Try.underlying94 rfl (by first | (rw [cw_len]; kernel_rfl) | (simp only [List.length_append, cw_len]; kernel_rfl))) rfl ⟨rfl, hfr⟩

set_option maxHeartbeats 8000000 in
set_option maxRecDepth 100000 in
theorem ZInv_any (m : Md) (hk : KindOf 1 m) (x : Nat) (w : World) :
    Calls Try.prog 46 #[i4 (elN m x)] w fun e w' => e = .returned (i4 (elN m (x ^ (m.M - 2)))) ∧ Fr Nob w w' := by
  have HK := Lib.hid hk
  have HOK := Lib.hid hk.ok
  clear hk
  have st0 := St.start Nob w
  go_enter Try.func46, Try.ntmps46
  go_wp2_with (with_reducible refine wl_stop (o := ⟨some 1, _, _, _, _, _⟩) ?_)
  refine wl_boxS st0 rfl rfl rfl (cw 4 (elN m x)) rfl ?_
  intro g1 w1 st1
  clear st0
  go_wp2_with (with_reducible refine wl_stop (o := ⟨some 2, _, _, _, _, _⟩) ?_)
  refine wl_allocS st1 rfl rfl (z := .agg #[.int .u64 0, .int .u64 0, .int .u64 0, .int .u64 0]) (by kernel_rfl) (cw 4 0) (by rw [cw_zero]; rfl) ?_
  intro g2 w2 st2
  clear st1
  go_wp2_with fail
  refine wp_region_noPanic ?_
  refine wp_region_plan (fun wx => St Nob w wx [(g1, cw 4 (elN m x), 94), (g2, cw 4 0, 94)]) 5 (.w 1 (.t 2 (.r 0 (.r 3 (.w 4 (.m 5 .nil)))))) (by kernel_rfl) (by kernel_rfl) st2.drew (fun _ _ _ _ _ h => h) ?_
  have hd2 := st2.drew
  clear st2
  refine plan_w (v := ?_) rfl rfl (fun wx => ?_) ?_
  rotate_left 1
  · (go_simp; with_reducible rfl)
  try simp only [Act.put, List.setIfInBounds_toArray, List.set_cons_zero, List.set_cons_succ]
  refine plan_arr rfl rfl rfl rfl (cw 4 (elN m x)) (fun wx hS => St.rangeL hS 0 rfl 0 _ (by rw [List.drop_zero, List.take_of_length_le (Nat.le_refl _)])) Try.underlying92 rfl (by first | (rw [cw_len]; kernel_rfl) | (simp only [List.length_append, cw_len]; kernel_rfl)) ?_
  try simp only [Act.put, List.setIfInBounds_toArray, List.set_cons_zero, List.set_cons_succ]
  refine plan_r rfl rfl ?_
  go_simp
  refine (order_any m HK.out _).mono ?_
  rintro e' w3 ⟨gp, rfl, hle, hm, hf3⟩
  have st3 : St Nob w w3 [(g1, cw 4 (elN m x), 94), (g2, cw 4 0, 94), (gp, mdL m, 159)] := hd2.new hf3 hm hle
  clear hf3 hm hle
  clear hd2
  refine ⟨St.less st3 (by simp), ?_⟩
  try simp only [Act.put, List.setIfInBounds_toArray, List.set_cons_zero, List.set_cons_succ]
  refine plan_r rfl rfl ?_
  go_simp
  refine (MInv_any m gp _ HOK.out (st3.at 2 rfl) x).mono ?_
  rintro e' w4 ⟨rfl, hf4⟩
  have st4 := st3.keep hf4
  clear hf4
  clear st3
  refine ⟨St.less st4 (by simp), ?_⟩
  try simp only [Act.put, List.setIfInBounds_toArray, List.set_cons_zero, List.set_cons_succ]
  refine plan_w rfl rfl (exec_build rfl _ (built_Z _)) ?_
  try simp only [Act.put, List.setIfInBounds_toArray, List.set_cons_zero, List.set_cons_succ]
  refine plan_m rfl rfl ?_
  refine wp_storeS st4 1 rfl rfl rfl rfl (by first | (simp only [cw_len]; done) | (simp only [List.length_append, cw_len]; done)) (by first | (rw [cw_len]; kernel_rfl) | (simp only [List.length_append, cw_len]; kernel_rfl)) (cw_one _ _) ?_
  intro w5 st5
  clear st4
  try simp only [Act.put]
  refine plan_end ?_
  refine NoPanic.normal ?_
  have hr := st5.at 1 rfl
  have hfr := st5.fr
  clear st5
  go_wp2_with fail
  exact bodyPost_ret (results_st rfl rfl hr Try.underlying94 rfl (by first | (rw [cw_len]; kernel_rfl) | (simp only [List.length_append, cw_len]; kernel_rfl))) rfl ⟨rfl, hfr⟩

set_option maxHeartbeats 8000000 in
set_option maxRecDepth 100000 in
theorem Zof_len (m : Md) (hk : KindOf 1 m) (a : Option Addr) (n c : Nat) (l : List UInt8) (w : World) (hb : RdB w a n l) (h32 : l.length ≠ 32) :
    Calls Try.prog 69 #[.slice a n c] w fun e w' => e = .returned (.tuple #[i4 0, .bool false]) ∧ Fr Nob w w' := by
  have HK := Lib.hid hk
  have HOK := Lib.hid hk.ok
  clear hk
  have HB := Lib.hid hb
  have HN := Lib.hid (show l.length = n from hb.len)
  clear hb
  have hne : ((n : Int) != 32) = true := by have := HN.out; simp; omega
  clear h32
  have st0 := St.start Nob w
  go_enter Try.func69, Try.ntmps69
  go_wp2_with (with_reducible refine wl_stop (o := ⟨some 2, _, _, _, _, _⟩) ?_)
  refine wl_allocS st0 rfl rfl (z := .agg #[.int .u64 0, .int .u64 0, .int .u64 0, .int .u64 0]) (by kernel_rfl) (cw 4 0) (by rw [cw_zero]; rfl) ?_
  intro g2 w1 st1
  clear st0
  go_wp2_with (with_reducible refine wl_stop (o := ⟨some 9, _, _, _, _, _⟩) ?_)
  refine wl_loadSt st1 0 rfl rfl rfl Try.underlying94 rfl rfl (by first | (rw [cw_len]; kernel_rfl) | (simp only [List.length_append, cw_len]; kernel_rfl)) ?_
  go_wp2_with (with_reducible refine wl_stop (o := ⟨none, _, _, _, _, _⟩) ?_)
  refine wl_storeS st1 0 rfl rfl rfl rfl rfl (by first | (simp only [cw_len]; done) | (simp only [List.length_append, cw_len]; done)) (by first | (rw [cw_len]; kernel_rfl) | (simp only [List.length_append, cw_len]; kernel_rfl)) (cw_one _ _) ?_
  intro w2 st2
  clear st1
  have hr := st2.at 0 rfl
  have hfr := st2.fr
  clear st2
  go_wp2_with fail
  exact bodyPost_ret (results_st2 rfl rfl hr Try.underlying94 rfl (by first | (rw [cw_len]; kernel_rfl) | (simp only [List.length_append, cw_len]; kernel_rfl)) rfl) rfl ⟨rfl, hfr⟩

set_option maxHeartbeats 8000000 in
set_option maxRecDepth 100000 in
theorem Zof_ok (m : Md) (hk : KindOf 1 m) (a : Option Addr) (n c : Nat) (l : List UInt8) (w : World) (hb : RdB w a n l) (h32 : l.length = 32) (hlt : beN l < m.M) :
    Calls Try.prog 69 #[.slice a n c] w fun e w' => e = .returned (.tuple #[i4 (elN m (beN l)), .bool true]) ∧ Fr Nob w w' := by
  have HK := Lib.hid hk
  have HOK := Lib.hid hk.ok
  clear hk
  have hbl := beN_le32 l (by omega)
  have HBL := Lib.hid hbl
  have h32' : n = 32 := by have := hb.len; omega
  subst h32'
  have HB := Lib.hid hb
  have hne : (((32 : Nat) : Int) != 32) = false := by rfl
  clear hb hbl h32
  have HLT := Lib.hid hlt
  clear hlt
  have st0 := St.start Nob w
  go_enter Try.func69, Try.ntmps69
  go_wp2_with (with_reducible refine wl_stop (o := ⟨some 2, _, _, _, _, _⟩) ?_)
  refine wl_allocS st0 rfl rfl (z := .agg #[.int .u64 0, .int .u64 0, .int .u64 0, .int .u64 0]) (by kernel_rfl) (cw 4 0) (by rw [cw_zero]; rfl) ?_
  intro g2 w1 st1
  clear st0
  go_wp2_with fail
  refine (order_any m HK.out _).mono ?_
  rintro e' w2 ⟨gp, rfl, hle, hm, hf2⟩
  have st2 : St Nob w w2 [(g2, cw 4 0, 94), (gp, mdL m, 159)] := st1.new hf2 hm hle
  clear st1 hf2 hm hle
  go_wp2_with fail
  refine (FromBytes_any a 32 c l _ (HB.out.still st2.fr) (by decide)).mono ?_
  rintro e' w3 ⟨rfl, hf3⟩
  have st3 := st2.keep hf3
  clear st2 hf3
  go_wp2_with (with_reducible refine wl_stop (o := ⟨some 5, _, _, _, _, _⟩) ?_)
  refine wl_allocS st3 rfl rfl (z := .agg #[.int .u64 0, .int .u64 0, .int .u64 0, .int .u64 0]) (by kernel_rfl) (cw 4 0) (by rw [cw_zero]; rfl) ?_
  intro g5 w4 st4
  clear st3
  go_wp2_with (with_reducible refine wl_stop (o := ⟨none, _, _, _, _, _⟩) ?_)
  refine wl_storeS st4 2 rfl rfl rfl rfl rfl (by first | (simp only [cw_len]; done) | (simp only [List.length_append, cw_len]; done)) (by first | (rw [cw_len]; kernel_rfl) | (simp only [List.length_append, cw_len]; kernel_rfl)) (cw_one _ _) ?_
  intro w5 st5
  clear st4
  go_wp2_with fail
  refine wp_region_noPanic ?_
  refine wp_region_plan (fun wx => St Nob w wx [(g2, cw 4 0, 94), (gp, mdL m, 159), (g5, cw 4 (beN l), 135)]) 6 (.t 0 (.w 1 (.w 2 (.w 3 (.t 4 (.r 5 (.m 6 .nil))))))) (by kernel_rfl) (by kernel_rfl) st5.drew (fun _ _ _ _ _ h => h) ?_
  have hd5 := st5.drew
  clear st5
  refine plan_arr rfl rfl rfl rfl (cw 4 (beN l)) (fun wx hS => St.rangeL hS 2 rfl 0 _ (by rw [List.drop_zero, List.take_of_length_le (Nat.le_refl _)])) Try.underlying135 rfl (by first | (rw [cw_len]; kernel_rfl) | (simp only [List.length_append, cw_len]; kernel_rfl)) ?_
  try simp only [Act.put, List.setIfInBounds_toArray, List.set_cons_zero, List.set_cons_succ]
  refine plan_w (v := ?_) rfl rfl (fun wx => ?_) ?_
  rotate_left 1
  · (go_simp; with_reducible rfl)
  try simp only [Act.put, List.setIfInBounds_toArray, List.set_cons_zero, List.set_cons_succ]
  refine plan_w (v := ?_) rfl rfl (fun wx => ?_) ?_
  rotate_left 1
  · (go_simp; with_reducible rfl)
  try simp only [Act.put, List.setIfInBounds_toArray, List.set_cons_zero, List.set_cons_succ]
  refine plan_w (v := ?_) rfl rfl (fun wx => ?_) ?_
  rotate_left 1
  · (go_simp; with_reducible rfl)
  try simp only [Act.put, List.setIfInBounds_toArray, List.set_cons_zero, List.set_cons_succ]
  refine plan_arr rfl rfl rfl rfl (cw 4 m.M) (fun wx hS => St.rangeL hS 1 rfl 0 _ (md_M m)) Try.underlying135 rfl (by first | (rw [cw_len]; kernel_rfl) | (simp only [List.length_append, cw_len]; kernel_rfl)) ?_
  try simp only [Act.put, List.setIfInBounds_toArray, List.set_cons_zero, List.set_cons_succ]
  refine plan_r rfl rfl ?_
  go_simp
  refine (MLess_any (beN l) m.M _ HBL.out HOK.out.lt).mono ?_
  rintro e' w6 ⟨rfl, hf6⟩
  have st6 := hd5.keep hf6
  clear hf6
  clear hd5
  refine ⟨st6, ?_⟩
  try simp only [Act.put, List.setIfInBounds_toArray, List.set_cons_zero, List.set_cons_succ]
  refine plan_m rfl rfl ?_
  go_simp
  try simp only [Act.put, List.setIfInBounds_toArray, List.set_cons_zero, List.set_cons_succ]
  refine plan_end ?_
  refine NoPanic.normal ?_
  rw [decide_eq_true HLT.out]
  go_wp2_with (with_reducible refine wl_stop (o := ⟨some 22, _, _, _, _, _⟩) ?_)
  refine wl_loadS st6 2 rfl rfl rfl Try.underlying135 rfl (by first | (rw [cw_len]; kernel_rfl) | (simp only [List.length_append, cw_len]; kernel_rfl)) ?_
  go_wp2_with fail
  refine (MTo_any m gp _ HOK.out (st6.at 1 rfl) (beN l) HBL.out).mono ?_
  rintro e' w7 ⟨rfl, hf7⟩
  have st7 := st6.keep hf7
  clear st6 hf7
  go_wp2_with (with_reducible refine wl_stop (o := ⟨some 24, _, _, _, _, _⟩) ?_)
  refine wl_buildL rfl rfl _ (built_Z _) ?_
  go_wp2_with (with_reducible refine wl_stop (o := ⟨none, _, _, _, _, _⟩) ?_)
  refine wl_storeS st7 0 rfl rfl rfl rfl rfl (by first | (simp only [cw_len]; done) | (simp only [List.length_append, cw_len]; done)) (by first | (rw [cw_len]; kernel_rfl) | (simp only [List.length_append, cw_len]; kernel_rfl)) (cw_one _ _) ?_
  intro w8 st8
  clear st7
  have hr := st8.at 0 rfl
  have hfr := st8.fr
  clear st8
  go_wp2_with fail
  exact bodyPost_ret (results_st2 rfl rfl hr Try.underlying94 rfl (by first | (rw [cw_len]; kernel_rfl) | (simp only [List.length_append, cw_len]; kernel_rfl)) rfl) rfl ⟨rfl, hfr⟩

set_option maxHeartbeats 8000000 in
set_option maxRecDepth 100000 in
theorem Zof_big (m : Md) (hk : KindOf 1 m) (a : Option Addr) (n c : Nat) (l : List UInt8) (w : World) (hb : RdB w a n l) (h32 : l.length = 32) (hlt : ¬ beN l < m.M) :
    Calls Try.prog 69 #[.slice a n c] w fun e w' => e = .returned (.tuple #[i4 0, .bool false]) ∧ Fr Nob w w' := by
  have HK := Lib.hid hk
  have HOK := Lib.hid hk.ok
  clear hk
  have hbl := beN_le32 l (by omega)
  have HBL := Lib.hid hbl
  have h32' : n = 32 := by have := hb.len; omega
  subst h32'
  have HB := Lib.hid hb
  have hne : (((32 : Nat) : Int) != 32) = false := by rfl
  clear hb hbl h32
  have HLT := Lib.hid hlt
  clear hlt
  have st0 := St.start Nob w
  go_enter Try.func69, Try.ntmps69
  go_wp2_with (with_reducible refine wl_stop (o := ⟨some 2, _, _, _, _, _⟩) ?_)
  refine wl_allocS st0 rfl rfl (z := .agg #[.int .u64 0, .int .u64 0, .int .u64 0, .int .u64 0]) (by kernel_rfl) (cw 4 0) (by rw [cw_zero]; rfl) ?_
  intro g2 w1 st1
  clear st0
  go_wp2_with fail
  refine (order_any m HK.out _).mono ?_
  rintro e' w2 ⟨gp, rfl, hle, hm, hf2⟩
  have st2 : St Nob w w2 [(g2, cw 4 0, 94), (gp, mdL m, 159)] := st1.new hf2 hm hle
  clear st1 hf2 hm hle
  go_wp2_with fail
  refine (FromBytes_any a 32 c l _ (HB.out.still st2.fr) (by decide)).mono ?_
  rintro e' w3 ⟨rfl, hf3⟩
  have st3 := st2.keep hf3
  clear st2 hf3
  go_wp2_with (with_reducible refine wl_stop (o := ⟨some 5, _, _, _, _, _⟩) ?_)
  refine wl_allocS st3 rfl rfl (z := .agg #[.int .u64 0, .int .u64 0, .int .u64 0, .int .u64 0]) (by kernel_rfl) (cw 4 0) (by rw [cw_zero]; rfl) ?_
  intro g5 w4 st4
  clear st3
  go_wp2_with (with_reducible refine wl_stop (o := ⟨none, _, _, _, _, _⟩) ?_)
  refine wl_storeS st4 2 rfl rfl rfl rfl rfl (by first | (simp only [cw_len]; done) | (simp only [List.length_append, cw_len]; done)) (by first | (rw [cw_len]; kernel_rfl) | (simp only [List.length_append, cw_len]; kernel_rfl)) (cw_one _ _) ?_
  intro w5 st5
  clear st4
  go_wp2_with fail
  refine wp_region_noPanic ?_
  refine wp_region_plan (fun wx => St Nob w wx [(g2, cw 4 0, 94), (gp, mdL m, 159), (g5, cw 4 (beN l), 135)]) 6 (.t 0 (.w 1 (.w 2 (.w 3 (.t 4 (.r 5 (.m 6 .nil))))))) (by kernel_rfl) (by kernel_rfl) st5.drew (fun _ _ _ _ _ h => h) ?_
  have hd5 := st5.drew
  clear st5
  refine plan_arr rfl rfl rfl rfl (cw 4 (beN l)) (fun wx hS => St.rangeL hS 2 rfl 0 _ (by rw [List.drop_zero, List.take_of_length_le (Nat.le_refl _)])) Try.underlying135 rfl (by first | (rw [cw_len]; kernel_rfl) | (simp only [List.length_append, cw_len]; kernel_rfl)) ?_
  try simp only [Act.put, List.setIfInBounds_toArray, List.set_cons_zero, List.set_cons_succ]
  refine plan_w (v := ?_) rfl rfl (fun wx => ?_) ?_
  rotate_left 1
  · (go_simp; with_reducible rfl)
  try simp only [Act.put, List.setIfInBounds_toArray, List.set_cons_zero, List.set_cons_succ]
  refine plan_w (v := ?_) rfl rfl (fun wx => ?_) ?_
  rotate_left 1
  · (go_simp; with_reducible rfl)
  try simp only [Act.put, List.setIfInBounds_toArray, List.set_cons_zero, List.set_cons_succ]
  refine plan_w (v := ?_) rfl rfl (fun wx => ?_) ?_
  rotate_left 1
  · (go_simp; with_reducible rfl)
  try simp only [Act.put, List.setIfInBounds_toArray, List.set_cons_zero, List.set_cons_succ]
  refine plan_arr rfl rfl rfl rfl (cw 4 m.M) (fun wx hS => St.rangeL hS 1 rfl 0 _ (md_M m)) Try.underlying135 rfl (by first | (rw [cw_len]; kernel_rfl) | (simp only [List.length_append, cw_len]; kernel_rfl)) ?_
  try simp only [Act.put, List.setIfInBounds_toArray, List.set_cons_zero, List.set_cons_succ]
  refine plan_r rfl rfl ?_
  go_simp
  refine (MLess_any (beN l) m.M _ HBL.out HOK.out.lt).mono ?_
  rintro e' w6 ⟨rfl, hf6⟩
  have st6 := hd5.keep hf6
  clear hf6
  clear hd5
  refine ⟨st6, ?_⟩
  try simp only [Act.put, List.setIfInBounds_toArray, List.set_cons_zero, List.set_cons_succ]
  refine plan_m rfl rfl ?_
  go_simp
  try simp only [Act.put, List.setIfInBounds_toArray, List.set_cons_zero, List.set_cons_succ]
  refine plan_end ?_
  refine NoPanic.normal ?_
  rw [decide_eq_false HLT.out]
  go_wp2_with (with_reducible refine wl_stop (o := ⟨some 20, _, _, _, _, _⟩) ?_)
  refine wl_loadSt st6 0 rfl rfl rfl Try.underlying94 rfl rfl (by first | (rw [cw_len]; kernel_rfl) | (simp only [List.length_append, cw_len]; kernel_rfl)) ?_
  go_wp2_with (with_reducible refine wl_stop (o := ⟨none, _, _, _, _, _⟩) ?_)
  refine wl_storeS st6 0 rfl rfl rfl rfl rfl (by first | (simp only [cw_len]; done) | (simp only [List.length_append, cw_len]; done)) (by first | (rw [cw_len]; kernel_rfl) | (simp only [List.length_append, cw_len]; kernel_rfl)) (cw_one _ _) ?_
  intro w7 st7
  clear st6
  have hr := st7.at 0 rfl
  have hfr := st7.fr
  clear st7
  go_wp2_with fail
  exact bodyPost_ret (results_st2 rfl rfl hr Try.underlying94 rfl (by first | (rw [cw_len]; kernel_rfl) | (simp only [List.length_append, cw_len]; kernel_rfl)) rfl) rfl ⟨rfl, hfr⟩

theorem Zof_t (m : Md) (hk : KindOf 1 m) (a : Option Addr) (n c : Nat) (l : List UInt8) (w : World) (hb : RdB w a n l) (h : numB m l = true) :
    Calls Try.prog 69 #[.slice a n c] w fun e w' => e = .returned (.tuple #[i4 (elN m (beN l)), .bool true]) ∧ Fr Nob w w' := by
  unfold numB at h
  simp only [Bool.and_eq_true, decide_eq_true_eq] at h
  exact Zof_ok m hk a n c l w hb h.1 h.2
theorem Zof_f (m : Md) (hk : KindOf 1 m) (a : Option Addr) (n c : Nat) (l : List UInt8) (w : World) (hb : RdB w a n l) (h : numB m l = false) :
    Calls Try.prog 69 #[.slice a n c] w fun e w' => e = .returned (.tuple #[i4 0, .bool false]) ∧ Fr Nob w w' := by
  unfold numB at h
  simp only [Bool.and_eq_false_iff, decide_eq_false_iff_not] at h
  by_cases h32 : l.length = 32
  · exact Zof_big m hk a n c l w hb h32 (by rcases h with h | h; exact absurd h32 h; exact h)
  · exact Zof_len m hk a n c l w hb h32

set_option maxHeartbeats 8000000 in
set_option maxRecDepth 100000 in
theorem Zwide_any (m : Md) (hk : KindOf 1 m) (a : Option Addr) (n c : Nat) (l : List UInt8) (w : World) (hb : RdB w a n l) (hc : n ≤ c) (hn : n ≤ 1000000) :
    Calls Try.prog 57 #[.slice a n c] w fun e w' => e = .returned (i4 (elN m (beN l))) ∧ Fr Nob w w' := by
  have HK := Lib.hid hk
  have HOK := Lib.hid hk.ok
  clear hk
  have HB := Lib.hid hb
  have HN := Lib.hid (show l.length = n from hb.len)
  clear hb
  have HC := Lib.hid hc
  have HNN := Lib.hid hn
  have HLM := Lib.hid (Nat.lt_trans (Nat.mod_lt (beN l) (by have := HOK.out.one; omega)) HOK.out.lt)
  clear hc hn
  have st0 := St.start Nob w
  go_enter Try.func57, Try.ntmps57
  go_wp2_with (with_reducible refine wl_stop (o := ⟨some 2, _, _, _, _, _⟩) ?_)
  refine wl_allocS st0 rfl rfl (z := .agg #[.int .u64 0, .int .u64 0, .int .u64 0, .int .u64 0]) (by kernel_rfl) (cw 4 0) (by rw [cw_zero]; rfl) ?_
  intro g2 w1 st1
  clear st0
  go_wp2_with fail
  refine (order_any m HK.out _).mono ?_
  rintro e' w2 ⟨gp, rfl, hle, hm, hf2⟩
  have st2 : St Nob w w2 [(g2, cw 4 0, 94), (gp, mdL m, 159)] := st1.new hf2 hm hle
  clear st1 hf2 hm hle
  go_wp2_with fail
  refine (MReduce_any m gp _ HOK.out (st2.at 1 rfl) a n c l (HB.out.still st2.fr) HC.out HNN.out).mono ?_
  rintro e' w3 ⟨rfl, hf3⟩
  have st3 := st2.keep hf3
  clear st2 hf3
  go_wp2_with fail
  refine (MTo_any m gp _ HOK.out (st3.at 1 rfl) (beN l % m.M) HLM.out).mono ?_
  rintro e' w4 ⟨rfl, hf4⟩
  have st4 := st3.keep hf4
  clear st3 hf4
  go_wp2_with (with_reducible refine wl_stop (o := ⟨some 10, _, _, _, _, _⟩) ?_)
  refine wl_buildL rfl rfl _ (built_Z _) ?_
  go_wp2_with (with_reducible refine wl_stop (o := ⟨none, _, _, _, _, _⟩) ?_)
  refine wl_storeS st4 0 rfl rfl rfl rfl rfl (by first | (simp only [cw_len]; done) | (simp only [List.length_append, cw_len]; done)) (by first | (rw [cw_len]; kernel_rfl) | (simp only [List.length_append, cw_len]; kernel_rfl)) (cw_one _ _) ?_
  intro w5 st5
  clear st4
  have hr := st5.at 0 rfl
  have hfr := st5.fr
  clear st5
  go_wp2_with fail
  exact bodyPost_ret (results_st rfl rfl hr Try.underlying94 rfl (by first | (rw [cw_len]; kernel_rfl) | (simp only [List.length_append, cw_len]; kernel_rfl))) rfl ⟨by rw [el_mod]; rfl, hfr⟩
end Go.Proofs.Ytnooojkhnpcolaa

/- num.reckon, over an operation's contract. -/
namespace Go.Proofs.Ytnooojkhnpcolaa
open Go.RowKit Go.Mv Mvp
attribute [local irreducible] limbs lw mix cw cSub cAdd cMul foldC valFrom beN laid be32 powm montT mstep elN mdL elCells numsB numB

end Go.Proofs.Ytnooojkhnpcolaa

/- num: Add, Sub, Mul, Inv. -/
namespace Go.Mv
open Go.RowKit
theorem rd_at {w : World} {b o n : Nat} {vs : List Value} (h : Rd w (some ⟨b, o, none⟩) n vs) (k : Nat) (cs : List Value) (hcs : (vs.drop k).take cs.length = cs) : At w b (o + k) cs := by
  intro i v hv
  rcases h.2 with h0 | ⟨b', o', he, hc⟩
  · have hl := h.len
    rw [h0] at hl
    rw [List.length_eq_zero_iff.1 hl] at hcs
    simp at hcs
    subst hcs
    simp at hv
  · simp only [Option.some.injEq, Addr.mk.injEq] at he
    obtain ⟨rfl, rfl, -⟩ := he
    have := hc.sub k cs.length
    rw [hcs] at this
    exact this i v hv
theorem rd_range {w : World} {b o n : Nat} {vs : List Value} (h : Rd w (some ⟨b, o, none⟩) n vs) (k : Nat) (cs : List Value) (hcs : (vs.drop k).take cs.length = cs) : w.rangeAt b (o + k) cs :=
  fun i v hv => rd_at h k cs hcs i v hv
end Go.Mv
namespace Go.Proofs.Ytnooojkhnpcolaa
open Go.RowKit Go.Mv Mvp
theorem el_first (m : Md) (l : List UInt8) (ls : List (List UInt8)) : ((elCells m (l :: ls)).drop 0).take (cw 4 (elN m (beN l))).length = cw 4 (elN m (beN l)) := by
  rw [cw_len]; exact elCells_at m (l :: ls) 0 (by simp)
theorem el_second (m : Md) (l k : List UInt8) (ls : List (List UInt8)) : ((elCells m (l :: k :: ls)).drop 4).take (cw 4 (elN m (beN k))).length = cw 4 (elN m (beN k)) := by
  rw [cw_len]; exact elCells_at m (l :: k :: ls) 1 (by simp)
attribute [local irreducible] limbs lw mix cw cSub cAdd cMul foldC valFrom beN laid be32 powm montT mstep elN mdL elCells numsB numB

end Go.Proofs.Ytnooojkhnpcolaa

/- Arrays of words compared; a number shifted down; bits laid one by one. -/
namespace Mvp
theorem half_word (N i : Nat) : lw (N / 2) i = lw N i / 2 ||| (lw N (i + 1) * 9223372036854775808 % 18446744073709551616) := by
  have h1 : lw N (i + 1) * 9223372036854775808 % 18446744073709551616 = 2 ^ 63 * (lw N (i + 1) % 2) := by
    have : (18446744073709551616 : Nat) = 9223372036854775808 * 2 := by decide
    rw [this, Nat.mul_comm, Nat.mul_mod_mul_left]
  have h2 : lw N i / 2 < 2 ^ 63 := by have := lw_lt N i; omega
  rw [h1, Nat.or_comm, ← Nat.two_pow_add_eq_or_of_lt h2]
  have e1 : lw N (i + 1) = N / B64 ^ i / 18446744073709551616 % 18446744073709551616 := by
    unfold lw
    rw [Nat.pow_succ, ← Nat.div_div_eq_div_mul]
  have e2 : lw (N / 2) i = N / B64 ^ i / 2 % 18446744073709551616 := by
    unfold lw
    rw [Nat.div_div_eq_div_mul, Nat.mul_comm, ← Nat.div_div_eq_div_mul]
  have e3 : lw N i = N / B64 ^ i % 18446744073709551616 := rfl
  rw [e1, e2, e3]
  generalize N / B64 ^ i = x
  omega
/-- a bit is laid -/
theorem bit_step (n q k b : Nat) (hq : q < 2 ^ k) (hb : b < 2) (hk : k / 64 < n) : (limbs n q).set (k / 64) (lw q (k / 64) ||| b * 2 ^ (k % 64)) = limbs n (q + b * 2 ^ k) := by
  have e0 : 2 ^ k = B64 ^ (k / 64) * 2 ^ (k % 64) := by
    rw [show B64 = 2 ^ 64 from rfl, ← Nat.pow_mul, ← Nat.pow_add]
    congr 1; omega
  have hj : q / B64 ^ (k / 64) < 2 ^ (k % 64) := Nat.div_lt_of_lt_mul (by rw [← e0]; exact hq)
  have hr : 2 ^ (k % 64) * 2 ≤ B64 := by
    rw [← Nat.pow_succ, show B64 = 2 ^ 64 from rfl]
    exact Nat.pow_le_pow_right (by decide) (by omega)
  have hy : b * 2 ^ (k % 64) ≤ 2 ^ (k % 64) := by
    have := Nat.mul_le_mul_right (2 ^ (k % 64)) (show b ≤ 1 by omega)
    rwa [Nat.one_mul] at this
  rw [e0, Nat.mul_left_comm b]
  apply List.ext_getElem?
  intro i
  rw [List.getElem?_set, limbs_length]
  rcases Nat.lt_or_ge i n with hi | hi
  · rw [limbs_get _ _ _ hi, limbs_get _ _ _ hi]
    rcases Nat.lt_trichotomy i (k / 64) with h | h | h
    · rw [if_neg (by omega), lw_shift_lo _ _ _ _ h]
    · subst h
      rw [if_pos rfl, if_pos hi]
      congr 1
      have h2 := lw_shift_hi q (b * 2 ^ (k % 64)) (k / 64) 0
      rw [Nat.add_zero] at h2
      rw [h2]
      rw [Nat.mul_comm b] at hy h2 ⊢
      have h3 : lw q (k / 64) = q / B64 ^ (k / 64) := Nat.mod_eq_of_lt (by generalize q / B64 ^ (k / 64) = y at *; generalize 2 ^ (k % 64) = z at *; omega)
      rw [h3, Nat.or_comm, ← Nat.two_pow_add_eq_or_of_lt hj]
      simp only [lw, Nat.pow_zero, Nat.div_one]
      generalize q / B64 ^ (k / 64) = y at *
      generalize 2 ^ (k % 64) * b = u at *
      generalize 2 ^ (k % 64) = z at *
      rw [Nat.add_comm]
      exact (Nat.mod_eq_of_lt (by omega)).symm
    · rw [if_neg (by omega)]
      congr 1
      obtain ⟨j, rfl⟩ : ∃ j, i = k / 64 + (1 + j) := ⟨i - k / 64 - 1, by omega⟩
      rw [lw_shift_hi, ← lw_div q]
      rw [lw_top (q / B64 ^ (k / 64)) 1 _ (by rw [Nat.pow_one]; omega) (by omega), lw_top _ 1 _ (by rw [Nat.pow_one]; omega) (by omega)]
  · rw [if_neg (by omega), List.getElem?_eq_none (by rw [limbs_length]; exact hi), List.getElem?_eq_none (by rw [limbs_length]; exact hi)]
theorem quarter_step (P k : Nat) : P / 4 % 2 ^ (k + 1) = P / 4 % 2 ^ k + (P / 2 ^ (k + 2) % 2) * 2 ^ k := by
  have e : P / 2 ^ (k + 2) = P / 4 / 2 ^ k := by
    rw [Nat.div_div_eq_div_mul, Nat.pow_add, Nat.mul_comm]
  rw [e, Nat.pow_succ, Nat.mod_mul, Nat.mul_comm (2 ^ k)]
end Mvp
namespace Go.Mv
open Go.RowKit Mvp
variable {P : Program}
theorem run_eq4 {t e : TypeId} (hu : P.underlying t = some (.array 4 e)) (he : P.underlying e = some (.int .u64)) (hi0 : (P.info? e).map (·.size) = some 1) (a b : Nat) (w : World) :
    (Op.equal t (.agg (cw 4 a).toArray) (.agg (cw 4 b).toArray)).run P w = .ok (decide (a % B64 ^ 4 = b % B64 ^ 4)) w := by
  obtain ⟨j, hj, hsz⟩ : ∃ j, P.info? e = some j ∧ j.size = 1 := by simpa using hi0
  have hc : P.cellsOf e = 1 := by simp [Program.cellsOf, hj, hsz]
  have hp : ∀ (x k : Nat), k < 4 → (part e (cw 4 x).toArray k).run P w = .ok (.int .u64 (lw x k : Nat)) w := by
    intro x k hk
    have hv := cw_get 4 x k hk
    simp [part, isAgg, run_underlying he, sizeOf, typeInfo, hj, hsz, hv]
  have hq0 : ∀ (d : Nat) (x y : Int), (Op.equalIn (d + 1) e (.int .u64 x) (.int .u64 y)).run P w = .ok (x == y) w := fun d x y => by
    simp [Op.equalIn, run_underlying he]
  have hq : ∀ x y : Int, (Op.equalIn 9999 e (.int .u64 x) (.int .u64 y)).run P w = .ok (x == y) w := hq0 9998
  have hbe : ∀ k, ((lw a k : Int) == (lw b k : Int)) = decide (lw a k = lw b k) := by
    intro k
    rw [Bool.eq_iff_iff]; simp; omega
  show (Op.equalIn (9999 + 1) t _ _).run P w = _
  rw [run_equalIn_array w 9999 _ _ hu hj, hc]
  have hfin : decide (a % B64 ^ 4 = b % B64 ^ 4) = (decide (lw a 0 = lw b 0) && (decide (lw a 1 = lw b 1) && (decide (lw a 2 = lw b 2) && decide (lw a 3 = lw b 3)))) := by
    rw [Bool.eq_iff_iff]
    simp only [decide_eq_true_eq, Bool.and_eq_true]
    constructor
    · intro h
      refine ⟨?_, ?_, ?_, ?_⟩ <;> (rw [← lw_mod a _ 4 (by decide), h, lw_mod b _ 4 (by decide)])
    · rintro ⟨h0, h1, h2, h3⟩
      refine limbs_mod_inj (limbs_ext fun i hi => ?_)
      have : i = 0 ∨ i = 1 ∨ i = 2 ∨ i = 3 := by omega
      rcases this with rfl | rfl | rfl | rfl <;> assumption
  rw [hfin]
  show (Op.eqItems 9999 e 1 _ _ [0, 1, 2, 3]).run P w = _
  have p0 := fun x => hp x 0 (by decide)
  have p1 := fun x => hp x 1 (by decide)
  have p2 := fun x => hp x 2 (by decide)
  have p3 := fun x => hp x 3 (by decide)
  clear hp hq0 hfin
  by_cases h0 : lw a 0 = lw b 0 <;> by_cases h1 : lw a 1 = lw b 1 <;> by_cases h2 : lw a 2 = lw b 2 <;> by_cases h3 : lw a 3 = lw b 3 <;> simp [Op.eqItems, p0, p1, p2, p3, hq, hbe, h0, h1, h2, h3, -beq_iff_eq]
end Go.Mv

/- mont.Int.shift by two bits. -/
namespace Go.Proofs.Ytnooojkhnpcolaa
open Go.RowKit Go.Mv Mvp
attribute [local irreducible] limbs lw mix cw cSub cAdd cMul foldC valFrom beN laid be32 powm montT mstep elN

end Go.Proofs.Ytnooojkhnpcolaa

/- mont: Sqrt; num.Sqrt's operation. -/
namespace Mvp
/-- the number whose square is asked for -/
def rtN (M x : Nat) : Nat := x ^ (M / 4 + 1)
def rtOk (M x : Nat) : Bool := rtN M x * rtN M x % M == x % M
def rtV (M x : Nat) : Nat := if rtN M x % M % 2 = 1 then M - rtN M x % M else rtN M x
end Mvp
namespace Go.Proofs.Ytnooojkhnpcolaa
open Go.RowKit Go.Mv Mvp
theorem el_eq (m : Md) (h : m.Ok) (x y : Nat) (ty : TypeId) (hu : Try.prog.underlying ty = some (.array 4 90)) (w : World) :
    (Op.equal ty (i4 (elN m x)) (.agg (cw 4 (elN m y)).toArray)).run Try.prog w = .ok (x % m.M == y % m.M) w := by
  have hb : decide (elN m x % B64 ^ 4 = elN m y % B64 ^ 4) = (x % m.M == y % m.M) := by
    rw [Nat.mod_eq_of_lt (el_lt4 m h x), Nat.mod_eq_of_lt (el_lt4 m h y), Bool.eq_iff_iff]
    simp only [decide_eq_true_eq, beq_iff_eq]
    exact ⟨el_inj m h, el_congr m⟩
  rw [← hb]
  exact run_eq4 hu Try.underlying90 size_u64 _ _ w
theorem eq_guard (x y : Nat) (ty : TypeId) (hg : Try.prog.eqGuardType Try.prog.depth ty = false) (a b : Operand) (w : World) :
    (eqGuard .neq ty a b (i4 x) (.agg (cw 4 y).toArray)).run Try.prog w = .ok () w := run_eqGuard_agg w .neq ty a b _ _ hg
theorem el_neq (m : Md) (h : m.Ok) (x y : Nat) (ty : TypeId) (hu : Try.prog.underlying ty = some (.array 4 90)) (w : World) :
    (binOp .neq ty (i4 (elN m x)) (.agg (cw 4 (elN m y)).toArray)).run Try.prog w = .ok (.bool !(x % m.M == y % m.M)) w := by
  show (do pure (Value.bool (!(← Op.equal ty (i4 (elN m x)) (.agg (cw 4 (elN m y)).toArray))))).run Try.prog w = _
  simp only [Sem.run_bind, el_eq m h x y ty hu, Result.andThen_ok]
  rfl
theorem wp_elneq (m : Md) (h : m.Ok) (x y : Nat) (ty : TypeId) (hu : Try.prog.underlying ty = some (.array 4 90)) (hg : Try.prog.eqGuardType Try.prog.depth ty = false) {o : Oper} {a : Act} {w : World} {K : Act → World → Prop} {Q : Exit → Act → World → Prop} {p q : Operand} {T : TypeId}
    (ho : o.op = .binOp .neq ty p q T) (hp : a.eval p = i4 (elN m x)) (hq : a.eval q = .agg (cw 4 (elN m y)).toArray) {b : Bool} (hb : (x % m.M == y % m.M) = b) (hk : K (a.put o.dst (.bool !b)) w) : o.wp Try.prog a w K Q := by
  have h1 := eq_guard (elN m x) (elN m y) ty hg p q w
  have h2 := el_neq m h x y ty hu w
  rw [hb] at h2
  unfold Oper.wp execOp
  simp only [ho, hp, hq, Sem.run_bind, h1, h2, Result.andThen_ok, Sem.run_pure]
  exact hk
theorem low_word (v : Nat) (w : World) : (Instr.index 135 (i4 v) (.int .i64 0)).run Try.prog w = .ok (.int .u64 (lw v 0 : Nat)) w :=
  run_index_cw (P := Try.prog) Try.underlying135 Try.underlying90 size_u64 v 0 (by decide) .i64 w
theorem low_and (v : Nat) : bits .and .u64 (lw v 0 : Nat) 1 = ((v % 2 : Nat) : Int) := by
  have ha := bits_and_u64_nat (lw v 0) 1 (lw_lt _ _) (by omega)
  rw [Nat.and_one_is_mod, word0] at ha
  rw [word0]
  refine Eq.trans ha ?_
  congr 1
  omega
attribute [local irreducible] limbs lw mix cw cSub cAdd cMul foldC valFrom beN laid be32 powm montT mstep elN

end Go.Proofs.Ytnooojkhnpcolaa

/- zn: Zero, Small, Bytes; scalars compared. -/
namespace Go.Mv
open Go.RowKit Mvp
variable {P : Program}
/-- arrays of four words compared, at any depth -/
theorem run_eq4d {t e : TypeId} (hu : P.underlying t = some (.array 4 e)) (he : P.underlying e = some (.int .u64)) (hi0 : (P.info? e).map (·.size) = some 1) (d : Nat) (a b : Nat) (w : World) :
    (Op.equalIn (d + 2) t (.agg (cw 4 a).toArray) (.agg (cw 4 b).toArray)).run P w = .ok (decide (a % B64 ^ 4 = b % B64 ^ 4)) w := by
  obtain ⟨j, hj, hsz⟩ : ∃ j, P.info? e = some j ∧ j.size = 1 := by simpa using hi0
  have hc : P.cellsOf e = 1 := by simp [Program.cellsOf, hj, hsz]
  have hp : ∀ (x k : Nat), k < 4 → (part e (cw 4 x).toArray k).run P w = .ok (.int .u64 (lw x k : Nat)) w := by
    intro x k hk
    have hv := cw_get 4 x k hk
    simp [part, isAgg, run_underlying he, sizeOf, typeInfo, hj, hsz, hv]
  have hq : ∀ (x y : Int), (Op.equalIn (d + 1) e (.int .u64 x) (.int .u64 y)).run P w = .ok (x == y) w := fun x y => by
    simp [Op.equalIn, run_underlying he]
  have hbe : ∀ k, ((lw a k : Int) == (lw b k : Int)) = decide (lw a k = lw b k) := by
    intro k
    rw [Bool.eq_iff_iff]; simp; omega
  show (Op.equalIn (d + 1 + 1) t _ _).run P w = _
  rw [run_equalIn_array w (d + 1) _ _ hu hj, hc]
  have hfin : decide (a % B64 ^ 4 = b % B64 ^ 4) = (decide (lw a 0 = lw b 0) && (decide (lw a 1 = lw b 1) && (decide (lw a 2 = lw b 2) && decide (lw a 3 = lw b 3)))) := by
    rw [Bool.eq_iff_iff]
    simp only [decide_eq_true_eq, Bool.and_eq_true]
    constructor
    · intro h
      refine ⟨?_, ?_, ?_, ?_⟩ <;> (rw [← lw_mod a _ 4 (by decide), h, lw_mod b _ 4 (by decide)])
    · rintro ⟨h0, h1, h2, h3⟩
      refine limbs_mod_inj (limbs_ext fun i hi => ?_)
      have : i = 0 ∨ i = 1 ∨ i = 2 ∨ i = 3 := by omega
      rcases this with rfl | rfl | rfl | rfl <;> assumption
  rw [hfin]
  show (Op.eqItems (d + 1) e 1 _ _ [0, 1, 2, 3]).run P w = _
  have p0 := fun x => hp x 0 (by decide)
  have p1 := fun x => hp x 1 (by decide)
  have p2 := fun x => hp x 2 (by decide)
  have p3 := fun x => hp x 3 (by decide)
  clear hp hfin
  by_cases h0 : lw a 0 = lw b 0 <;> by_cases h1 : lw a 1 = lw b 1 <;> by_cases h2 : lw a 2 = lw b 2 <;> by_cases h3 : lw a 3 = lw b 3 <;> simp [Op.eqItems, p0, p1, p2, p3, hq, hbe, h0, h1, h2, h3, -beq_iff_eq]
/-- a whole row, taken as a part of itself -/
theorem run_part_whole {t : TypeId} {d : TypeDesc} (hu : P.underlying t = some d) (hd : (match d with | .struct _ | .array _ _ => true | _ => false) = true) (cs : List Value) (hi : (P.info? t).map (·.size) = some cs.length) (w : World) :
    (part t cs.toArray 0).run P w = .ok (.agg cs.toArray) w := by
  obtain ⟨j, hj, hsz⟩ : ∃ j, P.info? t = some j ∧ j.size = cs.length := by simpa using hi
  cases d <;> simp at hd <;> simp [part, isAgg, run_underlying hu, sizeOf, typeInfo, hj, hsz]
end Go.Mv
namespace Go.Proofs.Ytnooojkhnpcolaa
open Go.RowKit Go.Mv Mvp
theorem fields_Z : Try.prog.fieldsOf 94 = #[{ name := "e", type := 92, offset := 0, embedded := false, tag := "", pkgPath := "mintvault/zn", byteOffset := 0 }] := by kernel_rfl
/-- scalars compared -/
theorem run_eqZ (m : Md) (h : m.Ok) (x y : Nat) (d : Nat) (w : World) : (Op.equalIn (d + 3) 94 (i4 (elN m x)) (i4 (elN m y))).run Try.prog w = .ok (x % m.M == y % m.M) w := by
  have hb : decide (elN m x % B64 ^ 4 = elN m y % B64 ^ 4) = (x % m.M == y % m.M) := by
    rw [Nat.mod_eq_of_lt (el_lt4 m h x), Nat.mod_eq_of_lt (el_lt4 m h y), Bool.eq_iff_iff]
    simp only [decide_eq_true_eq, beq_iff_eq]
    exact ⟨el_inj m h, el_congr m⟩
  have h1 : ∀ v, (part 92 (cw 4 v).toArray 0).run Try.prog w = .ok (i4 v) w := fun v => run_part_whole Try.underlying92 rfl (cw 4 v) (by rw [cw_len]; kernel_rfl) w
  have h2 := run_eq4d (P := Try.prog) Try.underlying92 Try.underlying90 size_u64 d (elN m x) (elN m y) w
  rw [hb] at h2
  have h2' : (Op.equalIn (d + 2) 92 (i4 (elN m x)) (i4 (elN m y))).run Try.prog w = .ok (x % m.M == y % m.M) w := h2
  show (Op.equalIn (d + 2 + 1) 94 (.agg (cw 4 (elN m x)).toArray) (.agg (cw 4 (elN m y)).toArray)).run Try.prog w = _
  rw [run_equalIn_struct w (d + 2) 94 _ _ (by rw [fields_Z]; exact Try.underlying94) (by kernel_rfl), fields_Z]
  generalize (x % m.M == y % m.M) = b at *
  have h3 := h1 (elN m x)
  have h4 := h1 (elN m y)
  generalize (cw 4 (elN m x)).toArray = xs at *
  generalize (cw 4 (elN m y)).toArray = ys at *
  have hne : ("e" : String) ≠ "_" := by decide
  show (Op.eqFields (d + 2) xs ys [_]).run _ w = _
  unfold Op.eqFields
  rw [if_pos hne]
  simp only [Sem.run_bind]
  rw [h3, Result.andThen_ok, h4, Result.andThen_ok, h2', Result.andThen_ok]
  cases b <;> simp [Op.eqFields]
theorem eqZ_guard (op : BinOp) (a b : Operand) (x y : Nat) (w : World) : (eqGuard op 94 a b (i4 x) (i4 y)).run Try.prog w = .ok () w := run_eqGuard_agg w op 94 a b _ _ Try.eqGuardType94
theorem eql_of_equal {P : Program} {ty : TypeId} {xs ys : Array Value} {b : Bool} (w : World) (h : (Op.equal ty (.agg xs) (.agg ys)).run P w = .ok b w) : (binOp .eql ty (.agg xs) (.agg ys)).run P w = .ok (.bool b) w := by
  show (do pure (Value.bool (← Op.equal ty (.agg xs) (.agg ys)))).run P w = _
  simp only [Sem.run_bind, h, Result.andThen_ok]
  rfl
theorem eqlZ (m : Md) (h : m.Ok) (x y : Nat) (w : World) : (binOp .eql 94 (i4 (elN m x)) (i4 (elN m y))).run Try.prog w = .ok (.bool (x % m.M == y % m.M)) w := by
  have h1 := run_eqZ m h x y 9997 w
  exact eql_of_equal w h1
theorem exec_binop {P : Program} {op : BinOp} {ty : TypeId} {o : Oper} {a : Act} {p q : Operand} {T : TypeId} {x y v : Value} (ho : o.op = .binOp op ty p q T) (hp : a.eval p = x) (hq : a.eval q = y) (w : World)
    (h1 : (eqGuard op ty p q x y).run P w = .ok () w) (h2 : (binOp op ty x y).run P w = .ok v w) : (execOp a.eval o).run P w = .ok (.value v) w := by
  subst hp hq
  unfold execOp
  simp only [ho, Sem.run_bind, h1, h2, Result.andThen_ok, Sem.run_pure]
theorem exec_eqlZ (m : Md) (h : m.Ok) (x y : Nat) {o : Oper} {a : Act} {p q : Operand} {T : TypeId} (ho : o.op = .binOp .eql 94 p q T) (hp : a.eval p = i4 (elN m x)) (hq : a.eval q = i4 (elN m y)) {b : Bool} (hb : (x % m.M == y % m.M) = b) (w : World) :
    (execOp a.eval o).run Try.prog w = .ok (.value (.bool b)) w := by
  subst hb
  exact exec_binop ho hp hq w (eqZ_guard .eql p q (elN m x) (elN m y) w) (eqlZ m h x y w)
theorem exec_eqlE (m : Md) (h : m.Ok) (x y : Nat) {o : Oper} {a : Act} {p q : Operand} {T ty : TypeId} (hu : Try.prog.underlying ty = some (.array 4 90)) (hg : Try.prog.eqGuardType Try.prog.depth ty = false) (ho : o.op = .binOp .eql ty p q T) (hp : a.eval p = i4 (elN m x)) (hq : a.eval q = i4 (elN m y)) {b : Bool} (hb : (x % m.M == y % m.M) = b) (w : World) :
    (execOp a.eval o).run Try.prog w = .ok (.value (.bool b)) w := by
  subst hb
  exact exec_binop ho hp hq w (run_eqGuard_agg w .eql ty p q _ _ hg) (eql_of_equal w (el_eq m h x y ty hu w))
theorem wl_exec {o : Oper} {a : Act} {w : World} {P : Program} {ops : Array Oper} {rest : List Oper} {Q : Exit → Act → World → Prop} {v : Value} (hgd : o.guard = none) (hx : (execOp a.eval o).run P w = .ok (.value v) w) (h : wpList P ops Q rest (a.put o.dst v) w) : wpList P ops Q (o :: rest) a w := by
  refine wpList_plain hgd fun K hK => ?_
  unfold Oper.wp
  rw [hx]
  exact hK _ _ h
attribute [local irreducible] limbs lw mix cw cSub cAdd cMul foldC valFrom beN laid be32 powm montT mstep elN mdL numB
theorem words_z4 : (Value.agg #[.int .u64 0, .int .u64 0, .int .u64 0, .int .u64 0]) = i4 0 := by rw [i4, cw_zero]; rfl
theorem built_E0 : Try.prog.built 92 [] = some #[.int .u64 0, .int .u64 0, .int .u64 0, .int .u64 0] := by kernel_rfl

set_option maxHeartbeats 8000000 in
set_option maxRecDepth 100000 in
theorem EZero_any (m : Md) (hok : m.Ok) (x : Nat) (b : Bool) (hb : (x % m.M == 0) = b) (w : World) :
    Calls Try.prog 88 #[i4 (elN m x)] w fun e w' => e = .returned (.bool b) ∧ Fr Nob w w' := by
  have HOK := Lib.hid hok
  have HB := Lib.hid (show (x % m.M == 0 % m.M) = b by rw [Nat.zero_mod]; exact hb)
  have HZ := Lib.hid (show i4 0 = i4 (elN m 0) by rw [el_zero])
  clear hok hb
  have st0 := St.start Nob w
  go_enter Try.func88, Try.ntmps88
  go_wp2_with (with_reducible refine wl_stop (o := ⟨some 1, _, _, _, _, _⟩) ?_)
  refine wl_boxS st0 rfl rfl rfl (cw 4 (elN m x)) rfl ?_
  intro g1 w1 st1
  clear st0
  go_wp2_with (with_reducible refine wl_stop (o := ⟨some 3, _, _, _, _, _⟩) ?_)
  refine wl_loadS st1 0 rfl rfl rfl Try.underlying92 rfl (by first | (rw [cw_len]; kernel_rfl) | (simp only [List.length_append, cw_len]; kernel_rfl)) ?_
  go_wp2_with (with_reducible refine wl_stop (o := ⟨some 4, _, _, _, _, _⟩) ?_)
  refine wl_build0 rfl rfl _ built_E0 ?_
  rw [words_z4, HZ.out]
  go_wp2_with (with_reducible refine wl_stop (o := ⟨some 5, _, _, _, _, _⟩) ?_)
  refine wl_exec rfl (exec_eqlE m HOK.out x 0 Try.underlying92 Try.eqGuardType92 rfl rfl rfl HB.out _) ?_
  have hfr := st1.fr
  clear st1
  go_wp2_with fail
  go_ret
  exact ⟨rfl, hfr⟩

set_option maxHeartbeats 8000000 in
set_option maxRecDepth 100000 in
theorem ZZero_any (m : Md) (hok : m.Ok) (x : Nat) (b : Bool) (hb : (x % m.M == 0) = b) (w : World) :
    Calls Try.prog 58 #[i4 (elN m x)] w fun e w' => e = .returned (.bool b) ∧ Fr Nob w w' := by
  have HOK := Lib.hid hok
  have HB := Lib.hid hb
  clear hok hb
  have st0 := St.start Nob w
  go_enter Try.func58, Try.ntmps58
  go_wp2_with (with_reducible refine wl_stop (o := ⟨some 1, _, _, _, _, _⟩) ?_)
  refine wl_boxS st0 rfl rfl rfl (cw 4 (elN m x)) rfl ?_
  intro g1 w1 st1
  clear st0
  go_wp2_with (with_reducible refine wl_stop (o := ⟨some 4, _, _, _, _, _⟩) ?_)
  refine wl_loadS st1 0 rfl rfl rfl Try.underlying92 rfl (by first | (rw [cw_len]; kernel_rfl) | (simp only [List.length_append, cw_len]; kernel_rfl)) ?_
  go_wp2_with fail
  refine (EZero_any m HOK.out x b HB.out _).mono ?_
  rintro e' w2 ⟨rfl, hf2⟩
  have st2 := st1.keep hf2
  clear st1 hf2
  have hfr := st2.fr
  clear st2
  go_wp2_with fail
  go_ret
  exact ⟨rfl, hfr⟩

theorem built_int1 (v : Int) : Try.prog.built 135 [(0, .int .u64 v)] = some #[.int .u64 v, .int .u64 0, .int .u64 0, .int .u64 0] := by kernel_rfl

set_option maxHeartbeats 8000000 in
set_option maxRecDepth 100000 in
theorem MSmall_any (m : Md) (gp : Nat) (w : World) (hok : m.Ok) (hpm : Has w gp (mdL m) 159) (k : Nat) (hk : k < 18446744073709551616) :
    Calls Try.prog 89 #[.pointer (some ⟨gp, 0, none⟩), .int .u64 (k : Int)] w fun e w' => e = .returned (i4 (elN m k)) ∧ Fr Nob w w' := by
  have HOK := Lib.hid hok
  have HPM := Lib.hid hpm
  have HW := Lib.hid (small_words k hk)
  have HK4 := Lib.hid (show k < B64 ^ 4 by have : (18446744073709551616 : Nat) ≤ B64 ^ 4 := by decide
                                           omega)
  clear hok hpm hk
  have st0 := St.start Nob w
  go_enter Try.func89, Try.ntmps89
  go_wp2_with (with_reducible refine wl_stop (o := ⟨some 4, _, _, _, _, _⟩) ?_)
  refine wl_allocS st0 rfl rfl (z := .agg #[.int .u64 0, .int .u64 0, .int .u64 0, .int .u64 0]) (by kernel_rfl) (cw 4 0) (by rw [cw_zero]; rfl) ?_
  intro g4 w1 st1
  clear st0
  go_wp2_with (with_reducible refine wl_stop (o := ⟨some 7, _, _, _, _, _⟩) ?_)
  refine wl_buildL rfl rfl _ (built_int1 (k : Int)) ?_
  rw [HW.out]
  go_wp2_with fail
  refine (MTo_any m gp _ HOK.out (HPM.out.keep st1.fr id) k HK4.out).mono ?_
  rintro e' w2 ⟨rfl, hf2⟩
  have st2 := st1.keep hf2
  clear st1 hf2
  go_wp2_with (with_reducible refine wl_stop (o := ⟨none, _, _, _, _, _⟩) ?_)
  refine wl_storeS st2 0 rfl rfl rfl rfl rfl (by first | (simp only [cw_len]; done) | (simp only [List.length_append, cw_len]; done)) (by first | (rw [cw_len]; kernel_rfl) | (simp only [List.length_append, cw_len]; kernel_rfl)) (cw_one _ _) ?_
  intro w3 st3
  clear st2
  have hr := st3.at 0 rfl
  have hfr := st3.fr
  clear st3
  go_wp2_with fail
  exact bodyPost_ret (results_arr rfl rfl hr Try.underlying92 (by first | (rw [cw_len]; kernel_rfl) | (simp only [List.length_append, cw_len]; kernel_rfl))) rfl ⟨rfl, hfr⟩

set_option maxHeartbeats 8000000 in
set_option maxRecDepth 100000 in
theorem Zsmall_any (m : Md) (hk : KindOf 1 m) (k : Nat) (hk4 : k < 18446744073709551616) (w : World) :
    Calls Try.prog 59 #[.int .u64 (k : Int)] w fun e w' => e = .returned (i4 (elN m k)) ∧ Fr Nob w w' := by
  have HK := Lib.hid hk
  have HOK := Lib.hid hk.ok
  clear hk
  have HK4 := Lib.hid hk4
  clear hk4
  have st0 := St.start Nob w
  go_enter Try.func59, Try.ntmps59
  go_wp2_with (with_reducible refine wl_stop (o := ⟨some 2, _, _, _, _, _⟩) ?_)
  refine wl_allocS st0 rfl rfl (z := .agg #[.int .u64 0, .int .u64 0, .int .u64 0, .int .u64 0]) (by kernel_rfl) (cw 4 0) (by rw [cw_zero]; rfl) ?_
  intro g2 w1 st1
  clear st0
  go_wp2_with fail
  refine (order_any m HK.out _).mono ?_
  rintro e' w2 ⟨gp, rfl, hle, hm, hf2⟩
  have st2 : St Nob w w2 [(g2, cw 4 0, 94), (gp, mdL m, 159)] := st1.new hf2 hm hle
  clear st1 hf2 hm hle
  go_wp2_with fail
  refine (MSmall_any m gp _ HOK.out (st2.at 1 rfl) k HK4.out).mono ?_
  rintro e' w3 ⟨rfl, hf3⟩
  have st3 := st2.keep hf3
  clear st2 hf3
  go_wp2_with (with_reducible refine wl_stop (o := ⟨some 6, _, _, _, _, _⟩) ?_)
  refine wl_buildL rfl rfl _ (built_Z _) ?_
  go_wp2_with (with_reducible refine wl_stop (o := ⟨none, _, _, _, _, _⟩) ?_)
  refine wl_storeS st3 0 rfl rfl rfl rfl rfl (by first | (simp only [cw_len]; done) | (simp only [List.length_append, cw_len]; done)) (by first | (rw [cw_len]; kernel_rfl) | (simp only [List.length_append, cw_len]; kernel_rfl)) (cw_one _ _) ?_
  intro w4 st4
  clear st3
  have hr := st4.at 0 rfl
  have hfr := st4.fr
  clear st4
  go_wp2_with fail
  exact bodyPost_ret (results_st rfl rfl hr Try.underlying94 rfl (by first | (rw [cw_len]; kernel_rfl) | (simp only [List.length_append, cw_len]; kernel_rfl))) rfl ⟨rfl, hfr⟩

set_option maxHeartbeats 8000000 in
set_option maxRecDepth 100000 in
theorem ZBytes_any (m : Md) (hk : KindOf 1 m) (x : Nat) (w : World) :
    Calls Try.prog 47 #[i4 (elN m x)] w fun e w' => ∃ v, e = .returned v ∧ Own w' w.heap.size 5 1 v 32 (bs (be32 (x % m.M))) ∧ Fr Nob w w' := by
  have HK := Lib.hid hk
  have HOK := Lib.hid hk.ok
  clear hk
  have st0 := St.start Nob w
  go_enter Try.func47, Try.ntmps47
  go_wp2_with (with_reducible refine wl_stop (o := ⟨some 1, _, _, _, _, _⟩) ?_)
  refine wl_boxS st0 rfl rfl rfl (cw 4 (elN m x)) rfl ?_
  intro g1 w1 st1
  clear st0
  go_wp2_with fail
  refine wp_region_noPanic ?_
  refine wp_region_plan (fun wx => St Nob w wx [(g1, cw 4 (elN m x), 94)]) 5 (.w 1 (.t 2 (.r 0 (.r 3 (.r 4 (.m 5 .nil)))))) (by kernel_rfl) (by kernel_rfl) st1.drew (fun _ _ _ _ _ h => h) ?_
  have hd1 := st1.drew
  clear st1
  refine plan_w (v := ?_) rfl rfl (fun wx => ?_) ?_
  rotate_left 1
  · (go_simp; with_reducible rfl)
  try simp only [Act.put, List.setIfInBounds_toArray, List.set_cons_zero, List.set_cons_succ]
  refine plan_arr rfl rfl rfl rfl (cw 4 (elN m x)) (fun wx hS => St.rangeL hS 0 rfl 0 _ (by rw [List.drop_zero, List.take_of_length_le (Nat.le_refl _)])) Try.underlying92 rfl (by first | (rw [cw_len]; kernel_rfl) | (simp only [List.length_append, cw_len]; kernel_rfl)) ?_
  try simp only [Act.put, List.setIfInBounds_toArray, List.set_cons_zero, List.set_cons_succ]
  refine plan_r rfl rfl ?_
  go_simp
  refine (order_any m HK.out _).mono ?_
  rintro e' w2 ⟨gp, rfl, hle, hm, hf2⟩
  have st2 : St Nob w w2 [(g1, cw 4 (elN m x), 94), (gp, mdL m, 159)] := hd1.new hf2 hm hle
  clear hf2 hm hle
  clear hd1
  refine ⟨St.less st2 (by simp), ?_⟩
  try simp only [Act.put, List.setIfInBounds_toArray, List.set_cons_zero, List.set_cons_succ]
  refine plan_r rfl rfl ?_
  go_simp
  refine (MFrom_any m gp _ HOK.out (st2.at 1 rfl) x).mono ?_
  rintro e' w3 ⟨rfl, hf3⟩
  have st3 := st2.keep hf3
  clear hf3
  clear st2
  refine ⟨St.less st3 (by simp), ?_⟩
  try simp only [Act.put, List.setIfInBounds_toArray, List.set_cons_zero, List.set_cons_succ]
  refine plan_r rfl rfl ?_
  go_simp
  refine (MBytes_any (x % m.M) _).mono ?_
  rintro e' w4 ⟨v, rfl, hown, hf4⟩
  have st4 := st3.keep hf4
  have HSZ := st3.fr.size
  obtain ⟨av, cv, hve, hcv, hrv, -⟩ := hown.form
  subst hve
  have HOWN := Lib.hid (hown.mono (HSZ))
  clear hown hrv
  clear hf4
  clear st3
  refine ⟨St.less st4 (by simp), ?_⟩
  try simp only [Act.put, List.setIfInBounds_toArray, List.set_cons_zero, List.set_cons_succ]
  refine plan_m rfl rfl ?_
  go_simp
  try simp only [Act.put, List.setIfInBounds_toArray, List.set_cons_zero, List.set_cons_succ]
  refine plan_end ?_
  refine NoPanic.normal ?_
  have hfr := st4.fr
  clear st4
  go_wp2_with fail
  go_ret
  exact ⟨_, rfl, HOWN.out, hfr⟩
end Go.Proofs.Ytnooojkhnpcolaa

/- mintvaultref1.Still: is a list all as it was lent? -/
namespace Go.Proofs.Ytnooojkhnpcolaa
open Go.RowKit Go.Mv Mvp

theorem ret_bool {a b : Bool} (h : a = b) : Ending.returned (.bool a) = .returned (.bool b) := by rw [h]

set_option maxHeartbeats 400000 in
set_option maxRecDepth 100000 in
theorem still_any (b : Option Addr) (n c : Nat) (l : List UInt8) (s : ByteArray) (w : World) (hs : s.size ≤ 1000000) (hb : RdB w b n l) :
    Calls Try.prog 13 #[.slice b n c, .string s] w fun e w' => e = .returned (.bool (decide (l = lentL s.data.toList))) ∧ Fr Nob w w' := by
  go_enter Try.func13, Try.ntmps13
  go_wp2_with fail
  refine (lent_any s _ hs).mono ?_
  rintro e w1 ⟨rfl, hh, hf, hz⟩
  have hb1 := hb.still hf
  have hc1 : RdB w1 (some ⟨w.heap.size, 0, none⟩) (s.size + 160) (lentL s.data.toList) := by
    have := Rd.whole hh
    rwa [length_bs, lentL_len, size_list] at this
  go_wp2_with (first
    | (with_reducible refine wl_stop (o := ⟨some 9, _, _, _, _, _⟩) ?_))
  refine wl_string rfl rfl Try.underlying22 Try.underlying5 Try.underlying9 rfl hb1 ?_
  go_wp2_with (first
    | (with_reducible refine wl_stop (o := ⟨some 11, _, _, _, _, _⟩) ?_))
  refine wl_string rfl rfl Try.underlying22 Try.underlying5 Try.underlying9 rfl hc1 ?_
  go_wp2_with fail
  go_ret
  exact ⟨ret_bool (beq_mkS _ _), hf⟩
end Go.Proofs.Ytnooojkhnpcolaa

/- Pure sponge: what the program's and the reference's permutation compute, and that the two are one. -/
namespace Mvp


def goesTo (i : Nat) : Nat := i / 5 + 5 * ((2 * (i % 5) + 3 * (i / 5)) % 5)

/- the program -/
def colStep (s c : List UInt64) (i : Nat) : List UInt64 := c.set (i % 5) (c.getD (i % 5) 0 ^^^ s.getD i 0)
def colP (s : List UInt64) (k : Nat) : List UInt64 := (List.range k).foldl (colStep s) [0, 0, 0, 0, 0]
def movStep (s col : List UInt64) (by_ : List Nat) (m : List UInt64) (i : Nat) : List UInt64 :=
  m.set (goesTo i) (rotl (s.getD i 0 ^^^ (col.getD ((i + 4) % 5) 0 ^^^ rotl (col.getD ((i + 1) % 5) 0) 1)) (by_.getD i 0))
def movP (s col : List UInt64) (by_ : List Nat) (k : Nat) : List UInt64 := (List.range k).foldl (movStep s col by_) (List.replicate 25 0)
def chiStep (m : List UInt64) (y : Nat) (s : List UInt64) (x : Nat) : List UInt64 :=
  s.set (y + x) (m.getD (y + x) 0 ^^^ (~~~ (m.getD (y + (x + 1) % 5) 0) &&& m.getD (y + (x + 2) % 5) 0))
def chiRow (m s : List UInt64) (y k : Nat) : List UInt64 := (List.range k).foldl (chiStep m y) s
def chiP (m s : List UInt64) (k : Nat) : List UInt64 := (List.range k).foldl (fun s y => chiRow m s (5 * y) 5) s
def roundP (by_ : List Nat) (s : List UInt64) (c : UInt64) : List UInt64 :=
  let t := chiP (movP s (colP s 25) by_ 25) s 5
  t.set 0 (t.getD 0 0 ^^^ c)
def permP (by_ : List Nat) (rc : Nat → UInt64) (s : List UInt64) (k : Nat) : List UInt64 := (List.range k).foldl (fun s r => roundP by_ s (rc r)) s

/- the reference -/
def place (x y : Nat) : Nat := x % 5 + 5 * (y % 5)
def colRstep (s : List UInt64) (x : Nat) (c : List UInt64) (y : Nat) : List UInt64 := c.set x (c.getD x 0 ^^^ s.getD (place x y) 0)
def colRrow (s c : List UInt64) (x k : Nat) : List UInt64 := (List.range k).foldl (colRstep s x) c
def colR (s : List UInt64) (k : Nat) : List UInt64 := (List.range k).foldl (fun c x => colRrow s c x 5) [0, 0, 0, 0, 0]
def movRstep (s : List UInt64) (turn : List Nat) (x : Nat) (d : UInt64) (m : List UInt64) (y : Nat) : List UInt64 :=
  m.set (place y (2 * x + 3 * y)) (rotl (s.getD (place x y) 0 ^^^ d) (turn.getD (place x y) 0))
def movRrow (s : List UInt64) (turn : List Nat) (m : List UInt64) (x : Nat) (d : UInt64) (k : Nat) : List UInt64 := (List.range k).foldl (movRstep s turn x d) m
def dR (col : List UInt64) (x : Nat) : UInt64 := col.getD ((x + 4) % 5) 0 ^^^ rotl (col.getD ((x + 1) % 5) 0) 1
def movR (s : List UInt64) (turn : List Nat) (col : List UInt64) (k : Nat) : List UInt64 := (List.range k).foldl (fun m x => movRrow s turn m x (dR col x) 5) (List.replicate 25 0)
def chiRstep (m : List UInt64) (x : Nat) (o : List UInt64) (y : Nat) : List UInt64 :=
  o.set (place x y) (m.getD (place x y) 0 ^^^ (~~~ (m.getD (place (x + 1) y) 0) &&& m.getD (place (x + 2) y) 0))
def chiRrow (m o : List UInt64) (x k : Nat) : List UInt64 := (List.range k).foldl (chiRstep m x) o
def chiR (m : List UInt64) (k : Nat) : List UInt64 := (List.range k).foldl (fun o x => chiRrow m o x 5) (List.replicate 25 0)
def roundR (turn : List Nat) (s : List UInt64) (c : UInt64) : List UInt64 :=
  let t := chiR (movR s turn (colR s 5) 5) 5
  t.set 0 (t.getD 0 0 ^^^ c)
def permR (turn : List Nat) (rc : Nat → UInt64) (s : List UInt64) (k : Nat) : List UInt64 := (List.range k).foldl (fun s r => roundR turn s (rc r)) s

theorem len25 (s : List UInt64) (h : s.length = 25) : ∃ a0 a1 a2 a3 a4 a5 a6 a7 a8 a9 a10 a11 a12 a13 a14 a15 a16 a17 a18 a19 a20 a21 a22 a23 a24, s = [a0, a1, a2, a3, a4, a5, a6, a7, a8, a9, a10, a11, a12, a13, a14, a15, a16, a17, a18, a19, a20, a21, a22, a23, a24] := by
  match s, h with
  | [a0, a1, a2, a3, a4, a5, a6, a7, a8, a9, a10, a11, a12, a13, a14, a15, a16, a17, a18, a19, a20, a21, a22, a23, a24], _ => exact ⟨_, _, _, _, _, _, _, _, _, _, _, _, _, _, _, _, _, _, _, _, _, _, _, _, _, rfl⟩

theorem col_same (s : List UInt64) (h : s.length = 25) : colP s 25 = colR s 5 := by
  obtain ⟨a0, a1, a2, a3, a4, a5, a6, a7, a8, a9, a10, a11, a12, a13, a14, a15, a16, a17, a18, a19, a20, a21, a22, a23, a24, rfl⟩ := len25 s h
  kernel_rfl

theorem mov_same (s col : List UInt64) (t : List Nat) : movP s col t 25 = movR s t col 5 := by
  kernel_rfl

theorem chi_same (m s : List UInt64) (h : s.length = 25) : chiP m s 5 = chiR m 5 := by
  obtain ⟨a0, a1, a2, a3, a4, a5, a6, a7, a8, a9, a10, a11, a12, a13, a14, a15, a16, a17, a18, a19, a20, a21, a22, a23, a24, rfl⟩ := len25 s h
  kernel_rfl

theorem round_same (t : List Nat) (s : List UInt64) (c : UInt64) (h : s.length = 25) : roundP t s c = roundR t s c := by
  unfold roundP roundR
  rw [col_same s h, mov_same, chi_same _ s h]

theorem foldl_inv {α β : Type} (P : α → Prop) (f : α → β → α) (hf : ∀ a b, P a → P (f a b)) (l : List β) : ∀ a, P a → P (l.foldl f a) := by
  induction l with
  | nil => intro a h; exact h
  | cons b l ih => intro a h; exact ih _ (hf _ _ h)

theorem chiP_len (m s : List UInt64) (k : Nat) : (chiP m s k).length = s.length := by
  refine foldl_inv (fun l : List UInt64 => l.length = s.length) _ (fun a y h => ?_) _ _ rfl
  refine foldl_inv (fun l : List UInt64 => l.length = s.length) _ (fun b x h => ?_) _ _ h
  simp [chiStep, h]

theorem roundP_len (t : List Nat) (s : List UInt64) (c : UInt64) : (roundP t s c).length = s.length := by simp [roundP, chiP_len]

theorem permP_succ (t : List Nat) (rc : Nat → UInt64) (s : List UInt64) (k : Nat) : permP t rc s (k + 1) = roundP t (permP t rc s k) (rc k) := by
  simp [permP, List.range_succ]
theorem permR_succ (t : List Nat) (rc : Nat → UInt64) (s : List UInt64) (k : Nat) : permR t rc s (k + 1) = roundR t (permR t rc s k) (rc k) := by
  simp [permR, List.range_succ]
theorem permP_len (t : List Nat) (rc : Nat → UInt64) (s : List UInt64) (k : Nat) : (permP t rc s k).length = s.length := by
  induction k with
  | zero => simp [permP]
  | succ k ih => rw [permP_succ, roundP_len, ih]
theorem perm_same (t : List Nat) (rc rc' : Nat → UInt64) (s : List UInt64) (h : s.length = 25) (n : Nat) (hrc : ∀ r, r < n → rc r = rc' r) : permP t rc s n = permR t rc' s n := by
  induction n with
  | zero => simp [permP, permR]
  | succ k ih =>
    rw [permP_succ, permR_succ, ← ih (fun r hr => hrc r (by omega)), hrc k (by omega)]
    exact round_same _ _ _ (by rw [permP_len, h])

/- the constants of the rounds -/
def lfsr : Nat → Nat
  | 0 => 1
  | n + 1 => if 2 * lfsr n > 255 then (2 * lfsr n) ^^^ 369 else 2 * lfsr n
theorem lfsr_lt (n : Nat) : lfsr n < 256 := by
  have h : ∀ r, r < 256 → (if 2 * r > 255 then (2 * r) ^^^ 369 else 2 * r) < 256 := by decide +kernel
  induction n with
  | zero => decide
  | succ n ih => exact h _ ih
def bitR (t : Nat) : Nat := lfsr t % 2
def bitW (t : Nat) : UInt64 := UInt64.ofNat (bitR t)
def rcStep (r : Nat) (out : UInt64) (j : Nat) : UInt64 := out ||| shl (bitW (j + 7 * r)) (2 ^ j - 1)
def rcR (r k : Nat) : UInt64 := (List.range k).foldl (rcStep r) 0

def rcBytes : List Nat := [
  0, 0, 0, 0, 0, 0, 0, 1, 0, 0, 0, 0, 0, 0, 0x80, 0x82, 0x80, 0, 0, 0, 0, 0, 0x80, 0x8a, 0x80, 0, 0, 0, 0x80, 0, 0x80, 0,
  0, 0, 0, 0, 0, 0, 0x80, 0x8b, 0, 0, 0, 0, 0x80, 0, 0, 1, 0x80, 0, 0, 0, 0x80, 0, 0x80, 0x81, 0x80, 0, 0, 0, 0, 0, 0x80, 9,
  0, 0, 0, 0, 0, 0, 0, 0x8a, 0, 0, 0, 0, 0, 0, 0, 0x88, 0, 0, 0, 0, 0x80, 0, 0x80, 9, 0, 0, 0, 0, 0x80, 0, 0, 0xa,
  0, 0, 0, 0, 0x80, 0, 0x80, 0x8b, 0x80, 0, 0, 0, 0, 0, 0, 0x8b, 0x80, 0, 0, 0, 0, 0, 0x80, 0x89, 0x80, 0, 0, 0, 0, 0, 0x80, 3,
  0x80, 0, 0, 0, 0, 0, 0x80, 2, 0x80, 0, 0, 0, 0, 0, 0, 0x80, 0, 0, 0, 0, 0, 0, 0x80, 0xa, 0x80, 0, 0, 0, 0x80, 0, 0, 0xa,
  0x80, 0, 0, 0, 0x80, 0, 0x80, 0x81, 0x80, 0, 0, 0, 0, 0, 0x80, 0x80, 0, 0, 0, 0, 0x80, 0, 0, 1, 0x80, 0, 0, 0, 0x80, 0, 0x80, 8]
def rcPstep (r : Nat) (c : UInt64) (n : Nat) : UInt64 := shl c 8 ||| (UInt8.ofNat (rcBytes.getD (8 * r + n) 0)).toUInt64
def rcP (r k : Nat) : UInt64 := (List.range k).foldl (rcPstep r) 0

theorem rc_same : ∀ r, r < 24 → rcP r 8 = rcR r 7 := by decide +kernel

/- how far the lanes are turned -/
def xy : Nat → Nat × Nat
  | 0 => (1, 0)
  | t + 1 => ((xy t).2, (2 * (xy t).1 + 3 * (xy t).2) % 5)
def turnStep (l : List Nat) (t : Nat) : List Nat := l.set ((xy t).1 + 5 * (xy t).2) ((t + 1) * (t + 2) / 2 % 64)
def turnsK (k : Nat) : List Nat := (List.range k).foldl turnStep (List.replicate 25 0)
theorem xy_lt (t : Nat) : (xy t).1 < 5 ∧ (xy t).2 < 5 := by
  induction t with
  | zero => decide
  | succ t ih => exact ⟨ih.2, Nat.mod_lt _ (by decide)⟩

/- bytes into words, and back -/
def xorStep (s : List UInt64) (i : Nat) (x : UInt8) : List UInt64 := s.set (i / 8) (wx (s.getD (i / 8) 0) (shl (wid x) (8 * (i % 8))))
/-- the first k bytes of b are added to s -/
def xorB (s : List UInt64) (b : List UInt8) (k : Nat) : List UInt64 := (List.range k).foldl (fun s i => xorStep s i (b.getD i 0)) s
def sByte (s : List UInt64) (i : Nat) : UInt8 := lo8 (shr (s.getD (i / 8) 0) (8 * (i % 8)))
def toB (s : List UInt64) (n : Nat) : List UInt8 := (List.range n).map (sByte s)
theorem xorB_succ (s : List UInt64) (b : List UInt8) (k : Nat) : xorB s b (k + 1) = xorStep (xorB s b k) k (b.getD k 0) := by simp [xorB, List.range_succ]
theorem xorB_len (s : List UInt64) (b : List UInt8) (k : Nat) : (xorB s b k).length = s.length := by
  induction k with
  | zero => simp [xorB]
  | succ k ih => rw [xorB_succ]; simp [xorStep, ih]
theorem toB_len (s : List UInt64) (n : Nat) : (toB s n).length = n := by simp [toB]
end Mvp

/- word functions of the sponge -/
namespace Go.Proofs.Ytnooojkhnpcolaa
open Go.RowKit Go.Mv Mvp

theorem ret_int {k : IntKind} {a b : Int} (h : a = b) : Ending.returned (.int k a) = .returned (.int k b) := by rw [h]

theorem rot_form (x : UInt64) (k : Nat) (hk : k < 64) : wo (shl x (k % 64)) (shr x (64 - k % 64)) = rotl x k := by
  rw [Nat.mod_eq_of_lt hk]; rfl
theorem rot_any (x : UInt64) (k : Nat) (hk : k < 64) (w : World) :
    Calls Try.prog 134 #[.int .u64 (x.toNat : Int), .int .i64 (k : Int)] w fun e w' => e = .returned (.int .u64 ((rotl x k).toNat : Int)) ∧ w = w' := by
  go_enter Try.func134, Try.ntmps134
  go_wp2
  go_ret
  exact ⟨ret_int (by rw [← rot_form x k hk]), rfl⟩
theorem left_any (x : UInt64) (k : Nat) (hk : k < 64) (w : World) :
    Calls Try.prog 138 #[.int .u64 (x.toNat : Int), .int .i64 (k : Int)] w fun e w' => e = .returned (.int .u64 ((rotl x k).toNat : Int)) ∧ ∃ n, w' = w.drewN n := by
  go_enter Try.func138, Try.ntmps138
  go_wp2
  go_quiet (fail)
  go_wp2
  go_ret
  exact ⟨rfl, nq, rfl⟩
theorem place_any (x y : Int) (w : World) (hx : 0 ≤ x) (hx' : x ≤ 1000) (hy : 0 ≤ y) (hy' : y ≤ 1000) :
    Calls Try.prog 137 #[.int .i64 x, .int .i64 y] w fun e w' => e = .returned (.int .i64 ((place x.toNat y.toNat : Nat) : Int)) ∧ w = w' := by
  go_enter Try.func137, Try.ntmps137
  go_wp2
  go_ret
  exact ⟨ret_int (by unfold place; omega), rfl⟩
theorem goesTo_any (i : Nat) (w : World) (hi : i ≤ 1000) :
    Calls Try.prog 135 #[.int .i64 (i : Int)] w fun e w' => e = .returned (.int .i64 ((goesTo i : Nat) : Int)) ∧ w = w' := by
  go_enter Try.func135, Try.ntmps135
  go_wp2
  go_ret
  exact ⟨ret_int (by unfold goesTo; omega), rfl⟩
set_option maxHeartbeats 400000 in
theorem bit_any (t : Int) (w : World) (hx : 0 ≤ t) (hx' : t ≤ 1000) :
    Calls Try.prog 139 #[.int .i64 t] w fun e w' => e = .returned (.int .u64 ((bitW t.toNat).toNat : Int)) ∧ w = w' := by
  go_enter Try.func139, Try.ntmps139
  go_wp2
  go_loop [3, 4] (fun r i => ∃ k : Nat, (k : Int) ≤ t ∧ i = .int .i64 k ∧ r = .int .i64 (lfsr k : Nat)) (fun _ i => (t - intOf i).toNat)
  case atStart => exact ⟨0, by omega, rfl, rfl⟩
  case round =>
    obtain ⟨k, hk, rfl, rfl⟩ := hrel
    have hb := lfsr_lt k
    by_cases hlt : (k : Int) < t
    · by_cases hc : 255 < 2 * lfsr k
      · go_wp2
        go_round
        case rel =>
          refine ⟨k + 1, by omega, by go_num, ?_⟩
          have e := xor_i64 (2 * lfsr k) 369 (by omega) (by omega)
          have e2 : lfsr (k + 1) = (2 * lfsr k) ^^^ 369 := by rw [lfsr, if_pos hc]
          rw [e2, ← e]; rfl
        case measure => simp [intOf]; omega
      · go_wp2
        go_round
        case rel =>
          refine ⟨k + 1, by omega, by go_num, ?_⟩
          have e2 : lfsr (k + 1) = 2 * lfsr k := by rw [lfsr, if_neg hc]
          rw [e2]; simp
        case measure => simp [intOf]; omega
    · go_wp2
      go_ret
      have hkt : t.toNat = k := by omega
      refine ⟨ret_int ?_, rfl⟩
      have e := and_i64 (lfsr k) 1 (by omega) (by omega)
      rw [show (1 : Int) = ((1 : Nat) : Int) from rfl, e, IntKind.wrap_u64, hkt, bitW, bitR, nat_mask1]
      simp
end Go.Proofs.Ytnooojkhnpcolaa

/- the constants of the rounds, and how far the lanes are turned -/
namespace Go.Proofs.Ytnooojkhnpcolaa
open Go.RowKit Go.Mv Mvp

theorem rcP_succ (r k : Nat) : rcP r (k + 1) = rcPstep r (rcP r k) k := by simp [rcP, List.range_succ]
theorem rcR_succ (r k : Nat) : rcR r (k + 1) = rcStep r (rcR r k) k := by simp [rcR, List.range_succ]

set_option maxHeartbeats 400000 in
theorem constP_any (r : Nat) (hr : r < 24) (w : World) :
    Calls Try.prog 136 #[.int .i64 (r : Int)] w fun e w' => e = .returned (.int .u64 ((rcP r 8).toNat : Int)) ∧ w = w' := by
  go_enter Try.func136, Try.ntmps136
  go_wp2
  go_loop [2, 4] (fun c i => ∃ k : Nat, k ≤ 8 ∧ i = .int .i64 k ∧ c = .int .u64 ((rcP r k).toNat : Int)) (fun _ i => (8 - intOf i).toNat)
  case atStart => exact ⟨0, by omega, rfl, rfl⟩
  case round =>
    obtain ⟨k, hk, rfl, rfl⟩ := hrel
    by_cases hlt : k < 8
    · go_wp2_with (first | (with_reducible refine wl_stop (o := ⟨some 13, _, _, _, _, _⟩) ?_))
      refine wl_index_str rfl rfl Try.underlying9 rfl rfl (8 * r + k) (by simp) ?_ (UInt8.ofNat (rcBytes.getD (8 * r + k) 0)) ?_ ?_
      · exact Nat.lt_of_lt_of_le (show 8 * r + k < 192 by omega) (by decide +kernel)
      · generalize hj : 8 * r + k = j
        have hj' : j < 192 := by omega
        clear hj
        revert j
        decide +kernel
      generalize hy : UInt8.ofNat (rcBytes.getD (8 * r + k) 0) = y
      have HY := Lib.hid hy; clear hy
      go_wp2
      go_round
      case rel => exact ⟨k + 1, by omega, by go_num, by rw [rcP_succ, rcPstep, HY.out]; rfl⟩
      case measure => simp [intOf]; omega
    · go_wp2
      go_ret
      have : k = 8 := by omega
      subst this
      exact ⟨rfl, rfl⟩

set_option maxHeartbeats 400000 in
theorem constR_any (r : Nat) (hr : r < 24) (w : World) :
    Calls Try.prog 132 #[.int .i64 (r : Int)] w fun e w' => e = .returned (.int .u64 ((rcR r 7).toNat : Int)) ∧ w = w' := by
  go_enter Try.func132, Try.ntmps132
  go_wp2
  go_loop [3, 4] (fun c i => ∃ k : Nat, k ≤ 7 ∧ i = .int .i64 k ∧ c = .int .u64 ((rcR r k).toNat : Int)) (fun _ i => (7 - intOf i).toNat)
  case atStart => exact ⟨0, by omega, rfl, rfl⟩
  case round =>
    obtain ⟨k, hk, rfl, rfl⟩ := hrel
    by_cases hlt : k < 7
    · obtain rfl | rfl | rfl | rfl | rfl | rfl | rfl : k = 0 ∨ k = 1 ∨ k = 2 ∨ k = 3 ∨ k = 4 ∨ k = 5 ∨ k = 6 := by omega
      all_goals
        go_wp2_with fail
        refine (bit_any _ _ (by omega) (by omega)).mono ?_
        rintro e w' ⟨rfl, rfl⟩
        go_wp2
        go_round
      case rel => exact ⟨1, by omega, by go_num, by rw [rcR_succ, rcStep, Nat.zero_add]; rfl⟩
      case measure => simp [intOf]
      case rel => exact ⟨2, by omega, by go_num, by rw [rcR_succ, rcStep]; rfl⟩
      case measure => simp [intOf]
      case rel => exact ⟨3, by omega, by go_num, by rw [rcR_succ, rcStep]; rfl⟩
      case measure => simp [intOf]
      case rel => exact ⟨4, by omega, by go_num, by rw [rcR_succ, rcStep]; rfl⟩
      case measure => simp [intOf]
      case rel => exact ⟨5, by omega, by go_num, by rw [rcR_succ, rcStep]; rfl⟩
      case measure => simp [intOf]
      case rel => exact ⟨6, by omega, by go_num, by rw [rcR_succ, rcStep]; rfl⟩
      case measure => simp [intOf]
      case rel => exact ⟨7, by omega, by go_num, by rw [rcR_succ, rcStep]; rfl⟩
      case measure => simp [intOf]
    · go_wp2
      go_ret
      have : k = 7 := by omega
      subst this
      exact ⟨rfl, rfl⟩
end Go.Proofs.Ytnooojkhnpcolaa

/- how far the lanes are turned -/
namespace Go.Proofs.Ytnooojkhnpcolaa
open Go.RowKit Go.Mv Mvp

theorem size_a25i : (Try.prog.info? 194).map (·.size) = some 25 := by kernel_rfl
theorem info_int : (Try.prog.info? 3).map (fun i => (i.zero, i.size, i.bytes)) = some (some (.int .i64 0), 1, 8) := by kernel_rfl
theorem turnsK_succ (k : Nat) : turnsK (k + 1) = turnStep (turnsK k) k := by simp [turnsK, List.range_succ]
theorem turnsK_len (k : Nat) : (turnsK k).length = 25 := by
  induction k with
  | zero => simp [turnsK]
  | succ k ih => rw [turnsK_succ]; simp [turnStep, ih]

set_option maxHeartbeats 800000 in
theorem turns_any (w : World) :
    Calls Try.prog 133 #[] w fun e w' => e = .returned (.agg (is (turnsK 24)).toArray) ∧ Fr Nob w w' := by
  go_enter Try.func133, Try.ntmps133
  go_wp2
  go_loopw [1, 2, 4] (fun x y i wr => ∃ k : Nat, k ≤ 24 ∧ i = .int .i64 k ∧ x = .int .i64 ((xy k).1 : Nat) ∧ y = .int .i64 ((xy k).2 : Nat) ∧ Has wr w.heap.size (is (turnsK k)) 194 ∧ Fr Nob w wr) (fun _ _ i _ => (24 - intOf i).toNat)
  case atStart =>
    refine ⟨0, by omega, rfl, rfl, rfl, ?_, (Fr.refl _ _).alloc _⟩
    exact Has.new w _ _
  case round =>
    obtain ⟨k, hk, rfl, rfl, rfl, hh, hf⟩ := hrel
    have hxy := xy_lt k
    by_cases hlt : k < 24
    · obtain ⟨v0, hc, hfr⟩ := hh.ready (i := (xy k).1 + 5 * (xy k).2) (by rw [length_is, turnsK_len]; omega)
      have hp : (0 : Int) ≤ ((k : Int) + 1) * ((k : Int) + 2) ∧ ((k : Int) + 1) * ((k : Int) + 2) ≤ 650 := by
        refine ⟨Int.mul_nonneg (by omega) (by omega), ?_⟩
        have := Int.mul_le_mul (show (k : Int) + 1 ≤ 24 by omega) (show (k : Int) + 2 ≤ 25 by omega) (by omega) (by omega)
        omega
      go_wp2
      go_roundw
      case rel =>
        refine ⟨k + 1, by omega, by go_num, rfl, by simp [xy], ?_, hf.setCell _ _ _ _ (fun h => absurd h (Nat.lt_irrefl _))⟩
        have e : ((k : Int) + 1) * ((k : Int) + 2) / 2 % 64 = (((k + 1) * (k + 2) / 2 % 64 : Nat) : Int) := by simp
        rw [e, turnsK_succ, turnStep, ← is_set]
        exact hh.set _ _
      case measure => simp [intOf]; omega
    · go_wp2_with (first | (with_reducible refine wl_stop (o := ⟨some 27, _, _, _, _, _⟩) ?_))
      have hk24 : k = 24 := by omega
      subst hk24
      refine wl_loadA rfl rfl Try.underlying194 rfl hh (is (turnsK 24)) (by simp) (by rw [length_is, turnsK_len]; exact size_a25i) ?_
      go_wp2_with (first | (with_reducible refine wl_stop (o := ⟨none, .store 194 _ _, _, _, _, _⟩) ?_))
      refine wl_storeA rfl rfl rfl rfl hh (by simp) (by rw [length_is, turnsK_len]; exact size_a25i) ?_ ?_
      · intro v hv; simp [is] at hv; obtain ⟨x, _, rfl⟩ := hv; rfl
      intro w2 hh2 hf2 hz2
      go_wp2
      rw [splice_whole _ _ rfl] at hh2
      exact bodyPost_ret (results_arr rfl rfl hh2 Try.underlying194 (by rw [length_is, turnsK_len]; exact size_a25i)) rfl ⟨rfl, hf.new hf2 (Nat.le_refl _)⟩

set_option maxHeartbeats 800000 in
theorem offsets_any (w : World) :
    Calls Try.prog 130 #[] w fun e w' => e = .returned (.slice (some ⟨w.heap.size, 0, none⟩) 25 25) ∧ Has w' w.heap.size (is (turnsK 24)) 3 ∧ Fr Nob w w' := by
  go_enter Try.func130, Try.ntmps130
  go_wp2_with (at_make; refine wl_make rfl rfl Try.underlying190 info_int rfl rfl rfl 25 25 (by simp) (by simp) (by omega) (by omega) (by unfold maxLen; omega) ?_; intro w1 hw1 hf1 hz1)
  go_loopw [2, 3, 4] (fun x y i wr => ∃ k : Nat, k ≤ 24 ∧ i = .int .i64 k ∧ x = .int .i64 ((xy k).1 : Nat) ∧ y = .int .i64 ((xy k).2 : Nat) ∧ Has wr w.heap.size (is (turnsK k)) 3 ∧ Fr Nob w wr) (fun _ _ i _ => (24 - intOf i).toNat)
  case atStart => exact ⟨0, by omega, rfl, rfl, rfl, hw1, hf1⟩
  case round =>
    obtain ⟨k, hk, rfl, rfl, rfl, hh, hf⟩ := hrel
    have hxy := xy_lt k
    by_cases hlt : k < 24
    · have hpl : place (xy k).1 (xy k).2 = (xy k).1 + 5 * (xy k).2 := by unfold place; rw [Nat.mod_eq_of_lt hxy.1, Nat.mod_eq_of_lt hxy.2]
      have HP := Lib.hid hpl; clear hpl
      have hpb : place (xy k).1 (xy k).2 < 25 := by rw [HP.out]; omega
      obtain ⟨v0, hc, hfr⟩ := hh.ready (i := place (xy k).1 (xy k).2) (by rw [length_is, turnsK_len]; omega)
      have hp : (0 : Int) ≤ ((k : Int) + 1) * ((k : Int) + 2) ∧ ((k : Int) + 1) * ((k : Int) + 2) ≤ 650 := by
        refine ⟨Int.mul_nonneg (by omega) (by omega), ?_⟩
        have := Int.mul_le_mul (show (k : Int) + 1 ≤ 24 by omega) (show (k : Int) + 2 ≤ 25 by omega) (by omega) (by omega)
        omega
      go_wp2_with (go_at_call 137; refine (place_any _ _ _ (by omega) (by omega) (by omega) (by omega)).mono ?_; rintro e w' ⟨rfl, rfl⟩)
      go_roundw
      case rel =>
        refine ⟨k + 1, by omega, by go_num, rfl, by simp [xy], ?_, hf.setCell _ _ _ _ (fun h => absurd h (Nat.lt_irrefl _))⟩
        have e : ((k : Int) + 1) * ((k : Int) + 2) / 2 % 64 = (((k + 1) * (k + 2) / 2 % 64 : Nat) : Int) := by simp
        rw [e, turnsK_succ, turnStep, ← is_set, ← HP.out]
        exact hh.set _ _
      case measure => simp [intOf]; omega
    · go_wp2
      have hk24 : k = 24 := by omega
      subst hk24
      go_ret
      exact ⟨rfl, hh, hf⟩
end Go.Proofs.Ytnooojkhnpcolaa

/- the state: bytes are added, and given -/
namespace Go.Proofs.Ytnooojkhnpcolaa
open Go.RowKit Go.Mv Mvp

set_option maxHeartbeats 800000 in
/-- xor: the state lies at the beginning of block g -/
theorem xor_any (g : Nat) (S : List UInt64) (tail : List Value) (T : TypeId) (b : Option Addr) (n c : Nat) (l : List UInt8) (w : World) (hS : S.length = 25) (hn : n ≤ 200) (hg : Has w g (ws S ++ tail) T) (hb : RdB w b n l) (hbg : Off (One g) b) :
    Calls Try.prog 127 #[.pointer (some ⟨g, 0, none⟩), .slice b n c] w fun e w' => e = .returned (.tuple #[]) ∧ Has w' g (ws (xorB S l n) ++ tail) T ∧ Fr (One g) w w' ∧ w'.heap.size = w.heap.size := by
  go_enter Try.func127, Try.ntmps127
  go_wp2
  go_loopw [8] (fun i wr => ∃ k : Nat, k ≤ n ∧ i = .int .i64 k ∧ Has wr g (ws (xorB S l k) ++ tail) T ∧ Fr (One g) w wr ∧ wr.heap.size = w.heap.size) (fun i _ => (n - intOf i).toNat)
  case atStart => exact ⟨0, by omega, rfl, hg, Fr.refl _ _, rfl⟩
  case round =>
    obtain ⟨k, hk, rfl, hh, hf, hz⟩ := hrel
    by_cases hlt : k < n
    · obtain ⟨bb, o, rfl, hcb0⟩ := (hb.keep hf hbg).at (by omega)
      have hcb := hcb0 k hlt
      clear hcb0
      have hlen := xorB_len S l k
      have hi8 : k / 8 < (ws (xorB S l k)).length := by rw [length_ws, hlen]; omega
      have hc : wr.cell? ⟨g, k / 8, none⟩ = some (.int .u64 (((xorB S l k).getD (k / 8) 0).toNat : Int)) := hh.cell (by rw [List.getElem?_append_left hi8]; exact ws_get _ _ (by rw [hlen]; omega))
      have hfr : wr.frozen? ⟨g, k / 8, none⟩ = false := hh.free _ (by rw [List.length_append]; omega)
      have hlo : (0 : Int) ≤ (k : Int) / 8 ∧ (k : Int) / 8 < 25 := by omega
      generalize hy : (xorB S l k).getD (k / 8) 0 = y at hc
      generalize hx : l.getD k 0 = x at hcb
      have HY := Lib.hid hy; clear hy
      have HX := Lib.hid hx; clear hx
      have HL := Lib.hid hlen; clear hlen hi8
      have HZ := Lib.hid hz; clear hz
      go_wp2
      go_region
      all_goals go_wp2
      go_roundw
      case rel =>
        refine ⟨k + 1, by omega, by go_num, ?_, (hf.setCell _ _ _ _ (fun _ => rfl)).drew, by have := HZ.out; simpa [World.setCell] using this⟩
        have h1 := (hh.set (k / 8) (.int .u64 ((wx y (shl (wid x) (8 * (k % 8)))).toNat : Int))).drew
        rw [List.set_append_left _ _ (by rw [length_ws, HL.out]; omega), ws_set, ← HY.out, ← HX.out] at h1
        rw [xorB_succ, xorStep, ← HY.out, ← HX.out]
        exact h1
      case measure => simp [intOf]; omega
    · go_wp2
      go_end0
      have : k = n := by omega
      subst this
      exact ⟨rfl, hh, hf, hz⟩
end Go.Proofs.Ytnooojkhnpcolaa

/- the state's bytes; Permute -/
namespace Go.Proofs.Ytnooojkhnpcolaa
open Go.RowKit Go.Mv Mvp

theorem toB_at (S : List UInt64) (n i : Nat) (h : i < n) : (toB S n).getD i 0 = sByte S i := by
  simp [toB, List.getD_eq_getElem?_getD, List.getElem?_range h]

set_option maxHeartbeats 800000 in
theorem bytes_any (g : Nat) (S : List UInt64) (tail : List Value) (T : TypeId) (n : Nat) (w : World) (hS : S.length = 25) (hn : n ≤ 200) (hg : Has w g (ws S ++ tail) T) :
    Calls Try.prog 129 #[.pointer (some ⟨g, 0, none⟩), .int .i64 (n : Int)] w fun e w' => e = .returned (.slice (some ⟨w.heap.size, 0, none⟩) n n) ∧ Has w' w.heap.size (bs (toB S n)) 5 ∧ Fr Nob w w' ∧ w'.heap.size = w.heap.size + 1 := by
  go_enter Try.func129, Try.ntmps129
  go_wp2_with (at_make; refine wl_make rfl rfl Try.underlying22 info_u8 rfl rfl rfl n n rfl rfl (by omega) (by omega) (by unfold maxLen; omega) ?_; intro w1 hw1 hf1 hz1)
  have hgl := hg.lt
  go_loopw [11] (fun i wr => ∃ k : Nat, k ≤ n ∧ i = .int .i64 k ∧ Has wr w.heap.size (bs (fill (toB S n) (List.replicate n 0) k)) 5 ∧ Has wr g (ws S ++ tail) T ∧ Fr Nob w wr ∧ wr.heap.size = w.heap.size + 1) (fun i _ => (n - intOf i).toNat)
  case atStart =>
    refine ⟨0, by omega, rfl, ?_, hg.keep hf1 id, hf1, hz1⟩
    rw [fill_zero]; simpa [bs] using hw1
  case round =>
    obtain ⟨k, hk, rfl, hh, hg2, hf, hz⟩ := hrel
    by_cases hlt : k < n
    · obtain ⟨v0, hc0, hfr0⟩ := hh.ready (i := k) (by rw [length_bs, fill_length _ _ _ (by simp [toB_len])]; simpa using hlt)
      have hi8 : k / 8 < (ws S).length := by rw [length_ws, hS]; omega
      have hc : wr.cell? ⟨g, k / 8, none⟩ = some (.int .u64 ((S.getD (k / 8) 0).toNat : Int)) := hg2.cell (by rw [List.getElem?_append_left hi8]; exact ws_get _ _ (by rw [hS]; omega))
      have hlo : (0 : Int) ≤ (k : Int) / 8 ∧ (k : Int) / 8 < 25 := by omega
      generalize hy : S.getD (k / 8) 0 = y at hc
      have HY := Lib.hid hy; clear hy
      have HS := Lib.hid hS; clear hS hi8
      have HZ := Lib.hid hz; clear hz hz1 hw1
      go_wp2
      go_roundw
      case rel =>
        have e : (toB S n).getD k 0 = lo8 (shr y (8 * (k % 8))) := by rw [toB_at S n k hlt, sByte, HY.out]
        refine ⟨k + 1, by omega, by go_num, ?_, hg2.other _ _ _ (by omega), hf.setCell _ _ _ _ (fun h => absurd h (Nat.lt_irrefl _)), by have := HZ.out; simpa [World.setCell] using this⟩
        rw [← e]
        exact hh.fillB (by simp [toB_len]) (by simpa [toB_len] using hlt)
      case measure => simp [intOf]; omega
    · go_wp2
      go_ret
      obtain rfl : k = n := by omega
      rw [fill_all _ _ _ (by simp [toB_len]) (by simp [toB_len])] at hh
      exact ⟨rfl, hh, hf, hz⟩
end Go.Proofs.Ytnooojkhnpcolaa

/- the permutation of the program -/
namespace Go.Proofs.Ytnooojkhnpcolaa
open Go.RowKit Go.Mv Mvp

theorem colP_succ (s : List UInt64) (k : Nat) : colP s (k + 1) = colStep s (colP s k) k := by simp [colP, List.range_succ]
theorem colP_len (s : List UInt64) (k : Nat) : (colP s k).length = 5 := by
  induction k with
  | zero => simp [colP]
  | succ k ih => rw [colP_succ]; simp [colStep, ih]
theorem movP_succ (s c : List UInt64) (t : List Nat) (k : Nat) : movP s c t (k + 1) = movStep s c t (movP s c t k) k := by simp [movP, List.range_succ]
theorem movP_len (s c : List UInt64) (t : List Nat) (k : Nat) : (movP s c t k).length = 25 := by
  induction k with
  | zero => simp [movP]
  | succ k ih => rw [movP_succ]; simp [movStep, ih]

theorem size_a25 : (Try.prog.info? 179).map (·.size) = some 25 := by kernel_rfl
theorem zero_a25i : (Try.prog.info? 194).map (·.zero) = some (some (.agg (is (List.replicate 25 0)).toArray)) := by kernel_rfl
theorem zero_state : (Try.prog.info? 180).map (·.zero) = some (some (.agg (ws (List.replicate 25 0)).toArray)) := by kernel_rfl
theorem zero_a5 : (Try.prog.info? 196).map (·.zero) = some (some (.agg (ws (List.replicate 5 0)).toArray)) := by kernel_rfl

theorem size_u64w : (Try.prog.info? 90).map (·.size) = some 1 := by kernel_rfl
theorem permP_zero (t : List Nat) (rc : Nat → UInt64) (s : List UInt64) : permP t rc s 0 = s := by simp [permP]

theorem chiP_zero (m s : List UInt64) : chiP m s 0 = s := by simp [chiP]
theorem chiP_succ (m s : List UInt64) (k : Nat) : chiP m s (k + 1) = chiRow m (chiP m s k) (5 * k) 5 := by simp [chiP, List.range_succ]
theorem chiRow_zero (m s : List UInt64) (y : Nat) : chiRow m s y 0 = s := by simp [chiRow]
theorem chiRow_succ (m s : List UInt64) (y k : Nat) : chiRow m s y (k + 1) = chiStep m y (chiRow m s y k) k := by simp [chiRow, List.range_succ]
theorem chiRow_len (m s : List UInt64) (y k : Nat) : (chiRow m s y k).length = s.length := by
  induction k with
  | zero => simp [chiRow]
  | succ k ih => rw [chiRow_succ]; simp [chiStep, ih]
theorem turns_lt (k : Nat) : (turnsK 24).getD k 0 < 64 := by
  have h : ∀ k, k < 25 → (turnsK 24).getD k 0 < 64 := by decide +kernel
  rcases Nat.lt_or_ge k 25 with hk | hk
  · exact h k hk
  · rw [List.getD_eq_getElem?_getD, List.getElem?_eq_none (by rw [turnsK_len]; exact hk)]; simp
theorem goesTo_lt (k : Nat) (hk : k < 25) : goesTo k < 25 := by
  have h : ∀ k, k < 25 → goesTo k < 25 := by decide +kernel
  exact h k hk

theorem goesTo_same (k : Nat) (w : World) (hk : k ≤ 25) : Calls Try.prog 135 #[.int .i64 (k : Int)] w fun e w' => e = .returned (.int .i64 ((goesTo k : Nat) : Int)) ∧ w' = w :=
  (goesTo_any k w (by omega)).mono (fun _ _ h => ⟨h.1, h.2.symm⟩)
theorem rot_same (x : UInt64) (n : Nat) (hn : n < 64) (w : World) : Calls Try.prog 134 #[.int .u64 (x.toNat : Int), .int .i64 (n : Int)] w fun e w' => e = .returned (.int .u64 ((rotl x n).toNat : Int)) ∧ w' = w :=
  (rot_any x n hn w).mono (fun _ _ h => ⟨h.1, h.2.symm⟩)
theorem constP_same (r : Nat) (hr : r < 24) (w : World) : Calls Try.prog 136 #[.int .i64 (r : Int)] w fun e w' => e = .returned (.int .u64 ((rcP r 8).toNat : Int)) ∧ w' = w :=
  (constP_any r hr w).mono (fun _ _ h => ⟨h.1, h.2.symm⟩)
theorem rot1_any (x : UInt64) (w : World) : Calls Try.prog 134 #[.int .u64 (x.toNat : Int), .int .i64 1] w fun e w' => e = .returned (.int .u64 ((rotl x 1).toNat : Int)) ∧ w' = w :=
  (rot_any x 1 (by omega) w).mono (fun _ _ h => ⟨h.1, h.2.symm⟩)

set_option maxHeartbeats 4000000 in
set_option maxRecDepth 1000000 in
theorem permute_any (g : Nat) (S : List UInt64) (tail : List Value) (T : TypeId) (w : World) (hS : S.length = 25) (hg : Has w g (ws S ++ tail) T) :
    Calls Try.prog 128 #[.pointer (some ⟨g, 0, none⟩)] w fun e w' => e = .returned (.tuple #[]) ∧ Has w' g (ws (permP (turnsK 24) (fun r => rcP r 8) S 24) ++ tail) T ∧ Fr (One g) w w' := by
  go_enter Try.func128, Try.ntmps128
  go_wp2_with (first
    | (go_at_call 133; refine (turns_any _).mono ?_; rintro e w1 ⟨rfl, hf1⟩)
    | (with_reducible refine wl_stop (o := ⟨_, .alloc 194, _, _, _, _⟩) ?_))
  have hgl := hg.lt
  refine wl_alloc rfl rfl zero_a25i (is (List.replicate 25 0)) (by simp [Value.cells]) ?_
  intro w2 hb2 hf2 hz2
  have hg2 := (hg.keep hf1 id).keep hf2 id
  have hgs := hf1.size
  generalize hbt : w1.heap.size = bt at *
  go_wp2_with (with_reducible refine wl_stop (o := ⟨none, .store 194 _ _, _, _, _, _⟩) ?_)
  refine wl_storeA rfl rfl rfl rfl hb2 (by simp [length_is, turnsK_len]) (by rw [length_is, turnsK_len]; exact size_a25i) ?_ ?_
  · intro v hv; simp [is] at hv; obtain ⟨x, _, rfl⟩ := hv; rfl
  intro w3 hb3 hf3 hz3
  rw [splice_whole _ _ (by simp [length_is, turnsK_len])] at hb3
  have hg3 := hg2.keep hf3 (fun (h : g = bt) => by omega)
  have hfr : Fr (One g) w w3 := ((Fr.refl (One g) w).same hf1).same hf2 |>.new hf3 (by omega)
  clear hb2 hg2 hf1 hf2 hf3 hg
  go_wp2_with fail
  go_loopw [15] (fun i wr => ∃ r : Nat, r ≤ 24 ∧ i = .int .i64 r ∧ Has wr g (ws (permP (turnsK 24) (fun r => rcP r 8) S r) ++ tail) T ∧ Has wr bt (is (turnsK 24)) 194 ∧ Fr (One g) w wr) (fun i _ => (24 - intOf i).toNat)
  case atStart => exact ⟨0, by omega, rfl, by rw [permP_zero]; exact hg3, hb3, hfr⟩
  case round =>
    obtain ⟨r, hr, rfl, hgr, hbr, hf⟩ := hrel
    clear hg3 hb3 hfr
    by_cases hlt : r < 24
    · have hltI : (r : Int) < 24 := by omega
      have hpl := permP_len (turnsK 24) (fun r => rcP r 8) S r
      rw [hS] at hpl
      generalize hrs : permP (turnsK 24) (fun r => rcP r 8) S r = s at *
      have HR := Lib.hid hrs; clear hrs
      go_wp2_with (with_reducible refine wl_stop (o := ⟨_, .alloc 196, _, _, _, _⟩) ?_)
      refine wl_alloc rfl rfl zero_a5 (ws (List.replicate 5 0)) (by simp [Value.cells]) ?_
      intro w4 hc4 hf4 hz4
      have hg4 := hgr.keep hf4 id
      have hb4 := hbr.keep hf4 id
      have hfr4 := hf.same hf4
      have hgc := hgr.lt
      have hbc := hbr.lt
      have hwc := hf.size
      generalize wr.heap.size = gc at *
      clear hgr hbr hf hf4 hz4
      go_wp2_with fail
      go_loopw [19] (fun i wr => ∃ k : Nat, k ≤ 25 ∧ i = .int .i64 k ∧ Has wr gc (ws (colP s k)) 196 ∧ Has wr g (ws s ++ tail) T ∧ Has wr bt (is (turnsK 24)) 194 ∧ Fr (One g) w wr) (fun i _ => (25 - intOf i).toNat)
      case atStart => exact ⟨0, by omega, rfl, hc4, hg4, hb4, hfr4⟩
      case round =>
        obtain ⟨k, hk, rfl, hck, hgk, hbk, hf⟩ := hrel
        clear hc4 hg4 hb4 hfr4
        by_cases hlt2 : k < 25
        · have hs : wr.cell? ⟨g, k, none⟩ = some (.int .u64 ((s.getD k 0).toNat : Int)) := hgk.cell (by rw [List.getElem?_append_left (by rw [length_ws, hpl]; exact hlt2)]; exact ws_get _ _ (by rw [hpl]; exact hlt2))
          have hc : wr.cell? ⟨gc, k % 5, none⟩ = some (.int .u64 (((colP s k).getD (k % 5) 0).toNat : Int)) := hck.cell (ws_get _ _ (by rw [colP_len]; omega))
          have hfc : wr.frozen? ⟨gc, k % 5, none⟩ = false := hck.free _ (by rw [length_ws, colP_len]; omega)
          have hlo : (0 : Int) ≤ (k : Int) ∧ (k : Int) < 25 ∧ (0 : Int) ≤ (k : Int) % 5 ∧ (k : Int) % 5 < 5 := by omega
          generalize hx : s.getD k 0 = x at hs
          generalize hy : (colP s k).getD (k % 5) 0 = y at hc
          have HX := Lib.hid hx; clear hx
          have HY := Lib.hid hy; clear hy
          have HS := Lib.hid hpl; clear hpl
          have HS2 := Lib.hid hS; clear hS
          go_wp2
          go_region
          all_goals go_wp2
          go_roundw
          case rel =>
            have e : colP s (k + 1) = (colP s k).set (k % 5) (wx y x) := by rw [colP_succ, colStep, HX.out, HY.out]; rfl
            refine ⟨k + 1, by omega, by go_num, ?_, (hgk.other _ _ _ (by omega)).drew, (hbk.other _ _ _ (by omega)).drew, (hf.setCell _ _ _ _ (fun h => by omega)).drew⟩
            rw [e, ← ws_set]
            exact (hck.set _ _).drew
          case measure => simp [intOf]; omega
        · have hk25 : k = 25 := by omega
          subst hk25
          go_wp2_with (with_reducible refine wl_stop (o := ⟨_, .alloc 180, _, _, _, _⟩) ?_)
          refine wl_alloc rfl rfl zero_state (ws (List.replicate 25 0)) (by simp [Value.cells]) ?_
          intro w5 hm5 hf5 hz5
          have hc5 := hck.keep hf5 id
          have hg5 := hgk.keep hf5 id
          have hb5 := hbk.keep hf5 id
          have hfr5 := hf.same hf5
          have hcm := hck.lt
          have hgm := hgk.lt
          have hbm := hbk.lt
          have hwm := hf.size
          generalize wr.heap.size = gm at *
          generalize hcol : colP s 25 = col at *
          clear hck hgk hbk hf hf5 hz5
          have hcl : col.length = 5 := by rw [← hcol, colP_len]
          have HC := Lib.hid hcol; clear hcol
          have HCL := Lib.hid hcl; clear hcl
          go_wp2_with fail
          go_loopw [34] (fun i wr => ∃ k : Nat, k ≤ 25 ∧ i = .int .i64 k ∧ Has wr gm (ws (movP s col (turnsK 24) k)) 180 ∧ Has wr gc (ws col) 196 ∧ Has wr g (ws s ++ tail) T ∧ Has wr bt (is (turnsK 24)) 194 ∧ Fr (One g) w wr) (fun i _ => (25 - intOf i).toNat)
          case atStart => exact ⟨0, by omega, rfl, hm5, hc5, hg5, hb5, hfr5⟩
          case round =>
            obtain ⟨k, hk, rfl, hmk, hck, hgk, hbk, hf⟩ := hrel
            clear hm5 hc5 hg5 hb5 hfr5
            by_cases hlt3 : k < 25
            · have hs : wr.cell? ⟨g, k, none⟩ = some (.int .u64 ((s.getD k 0).toNat : Int)) := hgk.cell (by rw [List.getElem?_append_left (by rw [length_ws, hpl]; exact hlt3)]; exact ws_get _ _ (by rw [hpl]; exact hlt3))
              have hc4 : wr.cell? ⟨gc, (k + 4) % 5, none⟩ = some (.int .u64 ((col.getD ((k + 4) % 5) 0).toNat : Int)) := hck.cell (ws_get _ _ (by rw [HCL.out]; omega))
              have hc1 : wr.cell? ⟨gc, (k + 1) % 5, none⟩ = some (.int .u64 ((col.getD ((k + 1) % 5) 0).toNat : Int)) := hck.cell (ws_get _ _ (by rw [HCL.out]; omega))
              have hby : wr.cell? ⟨bt, k, none⟩ = some (.int .i64 (((turnsK 24).getD k 0 : Nat) : Int)) := hbk.cell (is_get _ _ (by rw [turnsK_len]; exact hlt3))
              have hbl : (turnsK 24).getD k 0 < 64 := turns_lt k
              have hgt : goesTo k < 25 := goesTo_lt k hlt3
              obtain ⟨v0, hcm0, hfm0⟩ := hmk.ready (i := goesTo k) (by rw [length_ws, movP_len]; exact hgt)
              have hlo : (0 : Int) ≤ (k : Int) ∧ (k : Int) < 25 ∧ (0 : Int) ≤ ((k : Int) + 4) % 5 ∧ ((k : Int) + 4) % 5 < 5 ∧ (0 : Int) ≤ ((k : Int) + 1) % 5 ∧ ((k : Int) + 1) % 5 < 5 := by omega
              generalize hx : s.getD k 0 = x at hs
              generalize hy4 : col.getD ((k + 4) % 5) 0 = y4 at hc4
              generalize hy1 : col.getD ((k + 1) % 5) 0 = y1 at hc1
              generalize hn : (turnsK 24).getD k 0 = n at hby hbl
              have HX := Lib.hid hx; clear hx
              have HY4 := Lib.hid hy4; clear hy4
              have HY1 := Lib.hid hy1; clear hy1
              have HN := Lib.hid hn; clear hn
              have HS := Lib.hid hpl; clear hpl
              have HS2 := Lib.hid hS; clear hS
              go_wp2
              go_region
              all_goals go_wp2
              have e1 : IntKind.i64.wrap ((k : Int) + 4) = (k : Int) + 4 := IntWalk.i64_in _ (by omega)
              have e2 : ((k : Int) + 4).tmod 5 = ((k : Int) + 4) % 5 := Int.tmod_eq_emod_of_nonneg (by omega)
              have e3 : (((k : Int) + 4) % 5).toNat = (k + 4) % 5 := by omega
              have e4 : IntKind.i64.wrap ((k : Int) + 1) = (k : Int) + 1 := IntWalk.i64_in _ (by omega)
              have e5 : ((k : Int) + 1).tmod 5 = ((k : Int) + 1) % 5 := Int.tmod_eq_emod_of_nonneg (by omega)
              have e6 : (((k : Int) + 1) % 5).toNat = (k + 1) % 5 := by omega
              go_quiet ((go_at_call 134; exact quiet_more (rot1_any _ _)))
              clear e1 e2 e3 e4 e5 e6
              go_wp2_with fail
              have HG := Lib.hid hgt; clear hgt
              have hgi : (0 : Int) ≤ (goesTo k : Int) ∧ (goesTo k : Int) < 25 := by have := HG.out; omega
              have hmz := hmk.drew.drewN nq
              have hcz := hck.drew.drewN nq
              have hgz := hgk.drew.drewN nq
              have hbz := hbk.drew.drewN nq
              have hfz := hf.drew.drewN nq
              have hbyz : (wr.drew.drewN nq).cell? ⟨bt, k, none⟩ = some (.int .i64 (n : Int)) := hby
              have hmcz : (wr.drew.drewN nq).cell? ⟨gm, goesTo k, none⟩ = some v0 := hcm0
              have hmfz : (wr.drew.drewN nq).frozen? ⟨gm, goesTo k, none⟩ = false := hfm0
              clear hmk hck hgk hbk hf hby hcm0 hfm0 hs hc4 hc1
              generalize wr.drew.drewN nq = wz at *
              clear wr
              refine wp_region_still_tail 8 (by kernel_rfl) (by kernel_rfl) ?_
              simp only [List.take_succ_cons, List.take_zero, List.drop_succ_cons, List.drop_zero]
              repeat still_step
              still_call (goesTo_same k _ hk)
              repeat still_step
              still_call (rot_same _ n hbl _)
              repeat still_step
              refine wpStill_nil ?_
              go_wp2
              go_roundw
              case rel =>
                have e : movP s col (turnsK 24) (k + 1) = (movP s col (turnsK 24) k).set (goesTo k) (rotl (wx x (wx y4 (rotl y1 1))) n) := by
                  rw [movP_succ, movStep, HX.out, HY4.out, HY1.out, HN.out]; rfl
                refine ⟨k + 1, by omega, by go_num, ?_, (hcz.other _ _ _ (by omega)).drew, (hgz.other _ _ _ (by omega)).drew, (hbz.other _ _ _ (by omega)).drew, (hfz.setCell _ _ _ _ (fun h => by omega)).drew⟩
                rw [e, ← ws_set]
                exact (hmz.set _ _).drew
              case measure => simp [intOf]; omega
            · obtain rfl : k = 25 := by omega
              have hml := movP_len s col (turnsK 24) 25
              have hmw : movP s col (turnsK 24) 25 = movP s (colP s 25) (turnsK 24) 25 := by rw [HC.out]
              generalize hmv : movP s col (turnsK 24) 25 = mv at *
              have HM := Lib.hid hmw; clear hmw hmv
              have HML := Lib.hid hml; clear hml
              have HPL := Lib.hid hpl; clear hpl
              have HS2 := Lib.hid hS; clear hS
              clear hck
              go_wp2_with fail
              go_loopw [10] (fun i wr => ∃ j : Nat, j ≤ 5 ∧ i = .int .i64 ((5 * j : Nat) : Int) ∧ Has wr gm (ws mv) 180 ∧ Has wr g (ws (chiP mv s j) ++ tail) T ∧ Has wr bt (is (turnsK 24)) 194 ∧ Fr (One g) w wr) (fun i _ => (25 - intOf i).toNat)
              case atStart => exact ⟨0, by omega, rfl, hmk, by rw [chiP_zero]; exact hgk, hbk, hf⟩
              case round =>
                obtain ⟨j, hj, rfl, hmj, hgj, hbj, hfj⟩ := hrel
                clear hmk hgk hbk hf
                by_cases hlt4 : j < 5
                · have hlo : (0 : Int) ≤ 5 * (j : Int) ∧ 5 * (j : Int) < 25 ∧ 5 * (j : Int) ≤ 20 := by omega
                  obtain ⟨wo, rfl⟩ : ∃ wo : World, wo = wr := ⟨_, rfl⟩
                  go_wp2_with (with_reducible refine wl_stop (o := ⟨some 72, _, _, _, _, _⟩) ?_)
                  refine wl_cutA rfl rfl Try.underlying180 size_u64w rfl rfl rfl rfl (5 * j) (5 * j + 5) (5 * j + 5) (by simp) (by simp) (by simp) (by omega) (by omega) (by omega) (by omega) ?_
                  have e5 : 5 * j + 5 - 5 * j = 5 := by omega
                  rw [e5]
                  clear e5
                  go_wp2_with fail
                  go_loopw [75] (fun i wr => ∃ x : Nat, x ≤ 5 ∧ i = .int .i64 x ∧ Has wr gm (ws mv) 180 ∧ Has wr g (ws (chiRow mv (chiP mv s j) (5 * j) x) ++ tail) T ∧ Has wr bt (is (turnsK 24)) 194 ∧ Fr (One g) w wr) (fun i _ => (5 - intOf i).toNat)
                  case atStart => exact ⟨0, by omega, rfl, hmj, by rw [chiRow_zero]; exact hgj, hbj, hfj⟩
                  case round =>
                    obtain ⟨x, hx, rfl, hmx, hgx, hbx, hfx⟩ := hrel
                    clear hmj hgj hbj hfj
                    by_cases hlt5 : x < 5
                    · have hml : mv.length = 25 := HML.out
                      have hsl : (chiRow mv (chiP mv s j) (5 * j) x).length = 25 := by rw [chiRow_len, chiP_len]; exact HPL.out
                      have hx0 : wr.cell? ⟨gm, 5 * j + x, none⟩ = some (.int .u64 ((mv.getD (5 * j + x) 0).toNat : Int)) := hmx.cell (ws_get _ _ (by omega))
                      have hx1 : wr.cell? ⟨gm, 5 * j + (x + 1) % 5, none⟩ = some (.int .u64 ((mv.getD (5 * j + (x + 1) % 5) 0).toNat : Int)) := hmx.cell (ws_get _ _ (by omega))
                      have hx2 : wr.cell? ⟨gm, 5 * j + (x + 2) % 5, none⟩ = some (.int .u64 ((mv.getD (5 * j + (x + 2) % 5) 0).toNat : Int)) := hmx.cell (ws_get _ _ (by omega))
                      obtain ⟨v0, hc0, hf0⟩ := hgx.ready (i := 5 * j + x) (by rw [List.length_append, length_ws, hsl]; omega)
                      have hlo5 : (0 : Int) ≤ (x : Int) ∧ (x : Int) < 5 ∧ (0 : Int) ≤ ((x : Int) + 1) % 5 ∧ ((x : Int) + 1) % 5 < 5 ∧ (0 : Int) ≤ ((x : Int) + 2) % 5 ∧ ((x : Int) + 2) % 5 < 5 := by omega
                      have hlo6 : (0 : Int) ≤ 5 * (j : Int) + (x : Int) ∧ 5 * (j : Int) + (x : Int) < 25 := by omega
                      generalize hy0 : mv.getD (5 * j + x) 0 = y0 at hx0
                      generalize hy1 : mv.getD (5 * j + (x + 1) % 5) 0 = y1 at hx1
                      generalize hy2 : mv.getD (5 * j + (x + 2) % 5) 0 = y2 at hx2
                      have HY0 := Lib.hid hy0; clear hy0
                      have HY1 := Lib.hid hy1; clear hy1
                      have HY2 := Lib.hid hy2; clear hy2
                      have HSL := Lib.hid hsl; clear hsl hml
                      go_wp2_with fail
                      have e1 : IntKind.i64.wrap ((x : Int) + 1) = (x : Int) + 1 := IntWalk.i64_in _ (by omega)
                      have e2 : ((x : Int) + 1).tmod 5 = ((x : Int) + 1) % 5 := Int.tmod_eq_emod_of_nonneg (by omega)
                      have e3 : (((x : Int) + 1) % 5).toNat = (x + 1) % 5 := by omega
                      have e4 : IntKind.i64.wrap ((x : Int) + 2) = (x : Int) + 2 := IntWalk.i64_in _ (by omega)
                      have e5 : ((x : Int) + 2).tmod 5 = ((x : Int) + 2) % 5 := Int.tmod_eq_emod_of_nonneg (by omega)
                      have e6 : (((x : Int) + 2) % 5).toNat = (x + 2) % 5 := by omega
                      have e7 : IntKind.i64.wrap (5 * (j : Int) + (x : Int)) = 5 * (j : Int) + (x : Int) := IntWalk.i64_in _ (by omega)
                      have e8 : (5 * (j : Int) + (x : Int)).toNat = 5 * j + x := by omega
                      refine wp_region_still_tail 22 (by kernel_rfl) (by kernel_rfl) ?_
                      simp only [List.take_succ_cons, List.take_zero, List.drop_succ_cons, List.drop_zero]
                      repeat still_step
                      refine wpStill_nil ?_
                      go_wp2
                      go_roundw
                      case rel =>
                        have e : chiRow mv (chiP mv s j) (5 * j) (x + 1) = (chiRow mv (chiP mv s j) (5 * j) x).set (5 * j + x) (wx y0 (wa (wn y1) y2)) := by
                          rw [chiRow_succ, chiStep, HY0.out, HY1.out, HY2.out]; rfl
                        refine ⟨x + 1, by omega, by go_num, (hmx.other _ _ _ (by omega)).drew, ?_, (hbx.other _ _ _ (by omega)).drew, (hfx.setCell _ _ _ _ (fun _ => rfl)).drew⟩
                        rw [e, ← ws_set, ← List.set_append_left _ _ (by rw [length_ws, HSL.out]; omega)]
                        exact (hgx.set _ _).drew
                      case measure => simp [intOf]; omega
                    · have hge : ¬ ((x : Int) < 5) := by omega
                      have hx5 : x = 5 := by omega
                      have HX5 := Lib.hid hx5; clear hx5
                      go_wp2_with fail
                      go_roundw
                      case rel => exact ⟨j + 1, by omega, by omega, by rw [chiP_succ]; rw [HX5.out] at hgx; exact hgx⟩
                      case measure => simp [intOf]; omega
                · have hge : ¬ (5 * (j : Int) < 25) := by omega
                  have hj5 : j = 5 := by omega
                  have HJ5 := Lib.hid hj5; clear hj5
                  have hsl : (chiP mv s j).length = 25 := by rw [chiP_len]; exact HPL.out
                  have hc0 : wr.cell? ⟨g, 0, none⟩ = some (.int .u64 (((chiP mv s j).getD 0 0).toNat : Int)) := hgj.cell (by rw [List.getElem?_append_left (by rw [length_ws, hsl]; omega)]; exact ws_get _ _ (by rw [hsl]; omega))
                  have hf0 : wr.frozen? ⟨g, 0, none⟩ = false := hgj.free _ (by rw [List.length_append, length_ws, hsl]; omega)
                  generalize hy : (chiP mv s j).getD 0 0 = y at hc0
                  have HY := Lib.hid hy; clear hy
                  have HSL := Lib.hid hsl; clear hsl
                  go_wp2_with fail
                  refine wp_region_still_tail 9 (by kernel_rfl) (by kernel_rfl) ?_
                  simp only [List.take_succ_cons, List.take_zero, List.drop_succ_cons, List.drop_zero]
                  repeat still_step
                  still_call (constP_same r hlt _)
                  repeat still_step
                  refine wpStill_nil ?_
                  go_wp2
                  go_roundw
                  case rel =>
                    have e : permP (turnsK 24) (fun r => rcP r 8) S (r + 1) = (chiP mv s j).set 0 (wx y (rcP r 8)) := by
                      rw [permP_succ, HR.out, roundP, ← HM.out, ← HJ5.out, HY.out]; rfl
                    refine ⟨r + 1, by omega, by go_num, ?_, (hbj.other _ _ _ (by omega)).drew, (hfj.setCell _ _ _ _ (fun _ => rfl)).drew⟩
                    rw [e, ← ws_set, ← List.set_append_left _ _ (by rw [length_ws, HSL.out]; omega)]
                    exact (hgj.set _ _).drew
                  case measure => simp [intOf]; omega
    · obtain rfl : r = 24 := by omega
      go_wp2_with fail
      go_end0
      exact ⟨rfl, hgr, hf⟩
end Go.Proofs.Ytnooojkhnpcolaa
