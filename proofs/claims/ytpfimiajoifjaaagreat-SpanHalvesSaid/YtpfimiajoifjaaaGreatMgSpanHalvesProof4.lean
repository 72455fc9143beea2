/- ; ; ; ; ; ; ; ; ; ; ; ; ; ; ; ; ; ; ; ; ; ; . -/
import Derived.Test.YtpfimiajoifjaaaGreatMgSpanHalvesProof3
import Derived.Test.YtpfimiajoifjaaaGreatMgSpanHalvesProof2
import Derived.ChangeKeysEq
import Derived.StillTailTactics
import Derived.Test.YtpfimiajoifjaaaGreatMgSpanHalvesProof1
set_option maxHeartbeats 16000000
set_option maxRecDepth 1000000

namespace Go.Proofs.YtpfimiajoifjaaaGreat
section
open Go.RowKit Go.Mv Mvp
attribute [local irreducible] a0v lw mix cw b0e b0f b0a beN b0l b0b a0z a0F elN
theorem s0N (m : Md) (h : m.Ok) (x : Nat) : elN m x * (B64 ^ 4 * B64 ^ 4 % m.M) * m.Ri % m.M = elN m (x * B64 ^ 4) := by
 rw [y0g m h]
 refine j0r m ?_
 unfold elN
 rw [Nat.mod_mod]
theorem y0m (m : Md) (gp : Nat) (w : World) (hok : m.Ok) (hpm : Has w gp (mdL m) 234) (x : Nat) :
  Calls Tryz.prog 180 #[.pointer (some ⟨gp, 0, none⟩), i4 (elN m x), i4 (B64 ^ 4 * B64 ^ 4 % m.M)] w fun e w' => e = .returned (i4 (elN m (x * B64 ^ 4))) ∧ Fr Nob w w' := by
 have h := g0E m gp (elN m x) (B64 ^ 4 * B64 ^ 4 % m.M) w hok hpm (k0y m hok x) (Nat.mod_lt _ (by have := hok.one; omega))
 rwa [s0N m hok] at h
def lnV : Value → Nat
 | .slice _ n _ => n
 | _ => 0
theorem RdB.front {w : World} {a : Option Addr} {n : Nat} {l : List UInt8} (h : RdB w a n l) (k : Nat) (hk : k ≤ n) : RdB w a k (l.take k) := by
 have h' : Rd w a n (bs l) := h
 refine ⟨by rw [a0C, List.length_take, h.len]; omega, ?_⟩
 rcases h'.2 with h0 | ⟨b, o, rfl, hc⟩
 ·exact .inl ap1
 ·refine .inr ⟨b, o, rfl, fun i v hv => hc i v ?_⟩
  rw [← e0O, List.getElem?_take] at hv
  split at hv
  ·exact hv
  ·cases hv
theorem RdB.behind {w : World} {a : Option Addr} {n c : Nat} {l : List UInt8} (h : RdB w a n l) (k : Nat) (hk : k ≤ n) (hc : n ≤ c) : RdB w (c0q a k c) (n - k) (l.drop k) := by
 have h1 := i0V (m := c) h k n hk hc (Nat.le_refl _)
 unfold RdB
 rw [l0D] at h1
 rwa [List.take_of_length_le (by rw [a0C, List.length_drop, h.len]; exact Nat.le_refl _)] at h1
theorem m0g (m : Md) (gp : Nat) (w : World) (hok : m.Ok) (hpm : Has w gp (mdL m) 234) (a : Option Addr) (n c : Nat) (l : List UInt8) (hb : RdB w a n l) (hc : n ≤ c) (hn : n ≤ 1000000) :
  Calls Tryz.prog 264 #[.pointer (some ⟨gp, 0, none⟩), .slice a n c] w fun e w' => e = .returned (i4 (beN l % m.M)) ∧ Fr Nob w w' := by
 have HOK := qH hok
 have HPM := qH hpm
 clear hok hpm
 have HC := qH hc
 have HN := qH hn
 have HBB := qH hb
 have HL := qH hb.len
 clear hb
 clear hc hn
 have st0 := St.start Nob w
 go_enter Tryz.func264, Tryz.ntmps264
 go_wp2_with (with_reducible refine wSk 4 ?_)
 refine a0b st0 rfl rfl (z := zAd) ap0 (cw 4 0) ap5 ?_
 intro g4 w1 st1
 clear st0
 go_wp2_with (with_reducible refine wSk 5 ?_)
 refine a0b st1 rfl rfl (z := zAd) ap0 (cw 4 0) ap5 ?_
 intro g5 w2 st2
 clear st1
 go_wp2
 go_frame
 go_loopw [1] (fun b wr => ∃ (r : Nat) (ar : Option Addr) (cr : Nat), r ≤ n ∧ (r = 0 ∨ (n - r) % 32 = 0) ∧ b = .slice ar (n - r) cr ∧ n - r ≤ cr ∧ RdB w ar (n - r) (l.drop r) ∧ St Nob w wr [(g4, cw 4 0, 167), (g5, cw 4 (elN m (beN (l.take r))), 123)]) (fun b _ => lnV b % 32)
 case atStart => exact ⟨0, a, c, by omega, .inl rfl, rfl, HC.out, HBB.out, by rw [List.take_zero, m0c, d0u]; exact st2⟩
 case round =>
  obtain ⟨r, ar, cr, hr, hcond, rfl, hcr, hrd, st⟩ := hrel
  clear st2
  have HCR := qH hcr
  have HRD := qH hrd
  have hn6 : n ≤ 1000000 := HN.out
  clear hcr hrd
  by_cases hm : (n - r) % 32 = 0
  ·have hne : ((((n - r : Nat) : Int) % 32) != 0) = false := by simp; omega
   have hcond2 : (n - r) % 32 = 0 := hm
   have HM := qH hm
   have HC2 := qH hcond2
   clear hm hcond hcond2
   generalize hk : n - r = k at *
   have HK := qH hk; clear hk
   go_wp2_with fail
   clear hne
   obtain ⟨wo, rfl⟩ : ∃ wo : World, wo = wr := ⟨_, rfl⟩
   go_loopw [1] (fun b wr => ∃ (r : Nat) (ar : Option Addr) (cr : Nat), r ≤ n ∧ (n - r) % 32 = 0 ∧ b = .slice ar (n - r) cr ∧ n - r ≤ cr ∧ RdB w ar (n - r) (l.drop r) ∧ St Nob w wr [(g4, cw 4 0, 167), (g5, cw 4 (elN m (beN (l.take r))), 123)]) (fun b _ => lnV b)
   case atStart => exact ⟨r, ar, cr, hr, by rw [HK.out]; exact HC2.out, by rw [HK.out], by rw [HK.out]; exact HCR.out, by rw [HK.out]; exact HRD.out, st⟩
   case round =>
    clear hr HCR HRD st HM HC2 HK
    obtain ⟨r, ar, cr, hr, hcond, rfl, hcr, hrd, st⟩ := hrel
    have HCR := qH hcr
    have HRD := qH hrd
    have HCO := qH hcond
    clear hcr hrd
    by_cases hz : r = n
    ·have HZ := qH hz
     have hkz : ((n - r : Nat) : Int) = 0 := by omega
     have hgt : (0 < ((n - r : Nat) : Int)) = False := by simp; omega
     clear hz hcond
     generalize n - r = k at *
     have hgt2 : ¬ (0 < (k : Int)) := by omega
     clear hgt hkz
     go_wp2_with (with_reducible refine wSk 41 ?_)
     refine a0m st 1 rfl rfl rfl Tryz.underlying123 rfl ap3 ?_
     go_wp2_with fail
     refine (e0o m gp _ HOK.out (HPM.out.keep st.fr id) (beN (l.take r))).mono ?_
     rintro e' w3 ⟨rfl, hf3⟩
     have st3 := st.keep hf3
     clear st hf3
     go_wp2_with (with_reducible refine wSn ?_)
     refine a0c st3 0 rfl rfl rfl rfl rfl ap6 ap3 (a0f _ _) ?_
     intro w4 st4
     clear st3
     have hr := st4.at 0 rfl
     have hfr := st4.fr
     clear st4
     go_wp2_with fail
     exact bodyPost_ret (a0B rfl rfl hr Tryz.underlying167 ap3) rfl ⟨by rw [HZ.out, List.take_of_length_le (by rw [HL.out]; exact Nat.le_refl _)]; rfl, hfr⟩
    ·have hk32 : 32 ≤ n - r := by omega
     obtain ⟨gb, ob, hAR, -⟩ := HRD.out.at ap1
     have hcut : c0q ar 32 cr = if cr = 32 then ar else some ⟨gb, ob + 32, none⟩ := by rw [hAR]; simp [c0q, c0V]
     have HAR := qH hAR; clear hAR
     have HCUT := qH hcut; clear hcut
     have hfr := RdB.front HRD.out 32 hk32
     have hbe := RdB.behind HRD.out 32 hk32 HCR.out
     have htk := k0v l r 32 (by rw [HL.out]; omega)
     rw [show (256 : Nat) ^ 32 = B64 ^ 4 by decide] at htk
     have HFR := qH hfr
     have HBE := qH hbe
     have HTK := qH htk
     have hcr := HCR.out
     have k1 := fun wx => e0k (P := Tryz.prog) wx Tryz.underlying23 c0E ar (n - r) cr .i64 32 ap1
     have k2 := fun wx => g0h (P := Tryz.prog) wx Tryz.underlying23 c0E ar (n - r) cr .i64 32 ap1
     clear hz hcond hfr hbe htk hcr
     have hgt : (0 < ((n - r : Nat) : Int)) := by omega
     have hk3 : 32 ≤ n - r := hk32
     have hci : (32 : Int) ≤ (cr : Int) := by have := HCR.out; omega
     clear hk32
     generalize hkk : n - r = k at *
     have HKK := qH hkk; clear hkk
     go_wp2_with fail
     refine wp_region_noPanic ?_
     refine a0d (fun wx => St Nob w wx [(g4, cw 4 0, 167), (g5, cw 4 (elN m (beN (l.take r))), 123)]) 13 (.w 0 (.w 1 (.t 2 (.w 3 (.w 4 (.w 5 (.t 6 (.w 8 (.w 9 (.w 10 (.r 7 (.r 11 (.r 12 (.m 13 .nil)))))))))))))) ap0 ap0 st.drew (fun _ _ _ _ _ h => h) ?_
     have hd2 := st.drew
     clear st
     refine a0a rfl rfl apW ?_
     try simp only [clL]
     refine a0a rfl rfl apW ?_
     try simp only [clL]
     refine a0h rfl rfl rfl rfl (cw 4 (elN m (beN (l.take r)))) (fun wx hS => St.rangeL hS 1 rfl 0 _ dZl) Tryz.underlying123 rfl ap3 ?_
     try simp only [clL]
     refine a0a rfl rfl apW ?_
     try simp only [clL]
     refine a0a rfl rfl apW ?_
     try simp only [clL]
     refine a0a rfl rfl apW ?_
     try simp only [clL]
     refine a0h rfl rfl rfl rfl (cw 4 (B64 ^ 4 * B64 ^ 4 % m.M)) (fun wx hS => (HPM.out.keep (St.fr hS) id).range 9 _ (y0a m)) Tryz.underlying167 rfl ap3 ?_
     try simp only [clL]
     refine a0a rfl rfl apW ?_
     try simp only [clL]
     refine a0a rfl rfl apW ?_
     try simp only [clL]
     refine a0a rfl rfl apW ?_
     try simp only [clL]
     refine a0q rfl rfl ?_
     go_simp
     refine (y0m m gp _ HOK.out (HPM.out.keep hd2.fr id) (beN (l.take r))).mono ?_
     rintro e' w3 ⟨rfl, hf3⟩
     have st3 := hd2.keep hf3
     clear hf3
     clear hd2
     refine ⟨st3, ?_⟩
     try simp only [clL]
     refine a0q rfl rfl ?_
     go_simp
     refine (k0B m gp _ HOK.out (HPM.out.keep st3.fr id) ar 32 cr ((l.drop r).take 32) (HFR.out.still st3.fr) ap2).mono ?_
     rintro e' w4 ⟨rfl, hf4⟩
     have st4 := st3.keep hf4
     clear hf4
     clear st3
     refine ⟨st4, ?_⟩
     try simp only [clL]
     refine a0q rfl rfl ?_
     go_simp
     refine (f0s m gp _ HOK.out (HPM.out.keep st4.fr id) ((beN (l.take r)) * B64 ^ 4) (beN ((l.drop r).take 32))).mono ?_
     rintro e' w5 ⟨rfl, hf5⟩
     have st5 := st4.keep hf5
     clear hf5
     clear st4
     refine ⟨st5, ?_⟩
     try simp only [clL]
     refine a0o rfl rfl ?_
     refine a0i st5 1 rfl rfl rfl rfl ap6 ap3 (a0f _ _) ?_
     intro w6 st6
     clear st5
     try simp only [Act.put]
     refine a0e ?_
     refine NoPanic.normal ?_
     have hst := st6
     rw [← HTK.out] at hst
     clear st6
     go_wp2_with fail
     go_roundw
     case rel =>
      refine ⟨r + 32, c0q ar 32 cr, cr - 32, ?_, ?_, ?_, ?_, ?_, hst⟩
      ·have := HKK.out; omega
      ·have h1 := HCO.out; have h2 := HKK.out; omega
      ·have h2 := HKK.out; rw [show n - (r + 32) = k - 32 by omega, HCUT.out, HAR.out]; rfl
      ·have h2 := HKK.out; have h3 := HCR.out; omega
      ·have h2 := HKK.out
       have h3 := HBE.out
       rw [List.drop_drop] at h3
       rw [show n - (r + 32) = k - 32 by omega]
       exact h3
     case measure => simp [lnV]; omega
  ·have hne : ((((n - r : Nat) : Int) % 32) != 0) = true := by simp; omega
   have hr0 : r = 0 := by rcases hcond with h | h <;> omega
   subst hr0
   have hk32 : n % 32 ≤ n - 0 := by omega
   have hfr := RdB.front HRD.out (n % 32) hk32
   have hbe := RdB.behind HRD.out (n % 32) hk32 HCR.out
   have hcr := HCR.out
   have k1 := fun wx => e0k (P := Tryz.prog) wx Tryz.underlying23 c0E ar (n - 0) cr .i64 (n % 32) ap1
   have k2 := fun wx => g0h (P := Tryz.prog) wx Tryz.underlying23 c0E ar (n - 0) cr .i64 (n % 32) ap1
   have hm32 : n % 32 < 32 := Nat.mod_lt _ ap2
   have hmod : ((n % 32 : Nat) : Int) = (n : Int) % 32 := by omega
   simp only [List.drop_zero, Nat.sub_zero] at hfr hbe k1 k2 hne hm
   rw [hmod] at k1 k2
   have HFR := qH hfr
   have HBE := qH hbe
   have HM := qH hm
   have HM32 := qH hm32
   clear hm hfr hbe hcond hcr hk32 hr hmod hm32
   simp only [Nat.sub_zero]
   go_wp2_with fail
   refine (k0B m gp _ HOK.out (HPM.out.keep st.fr id) ar (n % 32) cr (l.take (n % 32)) (HFR.out.still st.fr) (Nat.le_of_lt HM32.out)).mono ?_
   rintro e' w3 ⟨rfl, hf3⟩
   have st3 := st.keep hf3
   clear st hf3
   go_wp2_with (with_reducible refine wSn ?_)
   refine a0c st3 1 rfl rfl rfl rfl rfl ap6 ap3 (a0f _ _) ?_
   intro w4 st4
   clear st3
   have hst := st4
   clear st4
   go_wp2_with fail
   go_roundw
   case rel => exact ⟨n % 32, c0q ar (n % 32) cr, cr - n % 32, by omega, .inr ap1, rfl, by have := HCR.out; omega, HBE.out, hst⟩
   case measure => have := HM.out; simp [lnV]; omega
end
section
open Go.RowKit Go.Mv Mvp
theorem n0n : [Value.int .u64 18446744069414583343, .int .u64 18446744073709551615, .int .u64 18446744073709551615, .int .u64 18446744073709551615, .int .u64 15580212934572586289, .int .u64 4294968273, .int .u64 0, .int .u64 0, .int .u64 0, .int .u64 8392367050913, .int .u64 1, .int .u64 0, .int .u64 0] = mdL mP := by kernel_rfl
theorem s0O : [Value.int .u64 13822214165235122497, .int .u64 13451932020343611451, .int .u64 18446744073709551614, .int .u64 18446744073709551615, .int .u64 5408259542528602431, .int .u64 4624529908474429119, .int .u64 4994812053365940164, .int .u64 1, .int .u64 0, .int .u64 9902555850136342848, .int .u64 8364476168144746616, .int .u64 16616019711348246470, .int .u64 11342065889886772165] = mdL mQ := by kernel_rfl
theorem Of0 (w : World) : Calls Tryz.prog 185 #[.int .i64 0] w fun e w' => ∃ g, e = .returned (.tuple #[.pointer (some ⟨g, 0, none⟩), .bool true]) ∧ w.heap.size ≤ g ∧ Has w' g (mdL mP) 234 ∧ Fr Nob w w' := by
 go_enter Tryz.func185, Tryz.ntmps185
 go_wp2
 go_ret2
 exact ⟨_, rfl, Nat.le_refl _, by rw [← n0n]; exact Has.new w _ _, (Fr.refl Nob w).alloc _⟩
theorem Of1 (w : World) : Calls Tryz.prog 185 #[.int .i64 1] w fun e w' => ∃ g, e = .returned (.tuple #[.pointer (some ⟨g, 0, none⟩), .bool true]) ∧ w.heap.size ≤ g ∧ Has w' g (mdL mQ) 234 ∧ Fr Nob w w' := by
 go_enter Tryz.func185, Tryz.ntmps185
 go_wp2
 go_ret2
 exact ⟨_, rfl, Nat.le_refl _, by rw [← s0O]; exact Has.new w _ _, (Fr.refl Nob w).alloc _⟩
end
section
open Go.RowKit Go.Mv Mvp
inductive KindOf : Int → Md → Prop where
 | zero : KindOf 0 mP
 | one : KindOf 1 mQ
theorem KindOf.ok {k : Int} {m : Md} (h : KindOf k m) : m.Ok := by cases h; exact c0N; exact v0W
theorem OfK {k : Int} {m : Md} (hk : KindOf k m) (w : World) : Calls Tryz.prog 185 #[.int .i64 k] w fun e w' => ∃ g, e = .returned (.tuple #[.pointer (some ⟨g, 0, none⟩), .bool true]) ∧ w.heap.size ≤ g ∧ Has w' g (mdL m) 234 ∧ Fr Nob w w' := by
 cases hk
 ·exact Of0 w
 ·exact Of1 w
attribute [local irreducible] a0v lw mix cw b0e b0f b0a beN b0l b0b a0z a0F elN mdL
end
end Go.Proofs.YtpfimiajoifjaaaGreat
namespace Go.Mv
open Go.RowKit Mvp
def BPart (w : World) (v : Value) (l : List UInt8) : Prop := ∃ a n c, v = .slice a n c ∧ n ≤ c ∧ RdB w a n l
def BParts (w : World) (vs : List Value) (ls : List (List UInt8)) : Prop := vs.length = ls.length ∧ ∀ i v, vs[i]? = some v → BPart w v (ls.getD i [])
theorem BPart.still {w w' : World} {v : Value} {l : List UInt8} (h : BPart w v l) (hf : Fr Nob w w') : BPart w' v l := by
 obtain ⟨a, n, c, e, hc, hr⟩ := h
 exact ⟨a, n, c, e, hc, hr.still hf⟩
theorem BPart.one {w : World} {v : Value} {l : List UInt8} (h : BPart w v l) : v.cells = #[v] := by
 obtain ⟨a, n, c, rfl, -, -⟩ := h
 rfl
theorem BParts.still {w w' : World} {vs : List Value} {ls : List (List UInt8)} (h : BParts w vs ls) (hf : Fr Nob w w') : BParts w' vs ls := ⟨h.1, fun i v hv => (h.2 i v hv).still hf⟩
theorem BParts.one {w : World} {v : Value} {l : List UInt8} (h : BPart w v l) : BParts w [v] [l] := ⟨rfl, fun i u hu => by
 cases i with
 | zero => simp at hu; subst hu; exact h
 | succ i => simp at hu⟩
theorem BParts.two {w : World} {v u : Value} {l k : List UInt8} (h : BPart w v l) (h2 : BPart w u k) : BParts w [v, u] [l, k] := ⟨rfl, fun i x hx => by
 match i with
 | 0 => simp at hx; subst hx; exact h
 | 1 => simp at hx; subst hx; exact h2
 | i + 2 => simp at hx⟩
end Go.Mv
namespace Mvp
def b0m (m : Md) (l : List UInt8) : Bool := decide (l.length = 32) && decide (beN l < m.M)
def a0D (m : Md) (ls : List (List UInt8)) : Bool := ls.all (b0m m)
def a0I (m : Md) (ls : List (List UInt8)) : List Go.Value := ls.flatMap fun l => Go.Mv.cw 4 (elN m (beN l))
theorem k0C (m : Md) (ls : List (List UInt8)) (l : List UInt8) : a0I m (ls ++ [l]) = a0I m ls ++ Go.Mv.cw 4 (elN m (beN l)) := by
 simp [a0I]
theorem e0x (m : Md) (ls : List (List UInt8)) (k : Nat) (h : k < ls.length) : a0D m (ls.take (k + 1)) = (a0D m (ls.take k) && b0m m (ls.getD k [])) := by
 rw [List.take_succ_eq_append_getElem h, a0D, List.all_append, ← a0D]
 simp [List.getD_eq_getElem?_getD, h]
theorem f0t (m : Md) (ls : List (List UInt8)) (k : Nat) (h : k < ls.length) (hb : b0m m (ls.getD k []) = false) : a0D m ls = false := by
 rw [a0D, List.all_eq_false]
 refine ⟨ls.getD k [], ?_, by simpa using hb⟩
 rw [List.getD_eq_getElem?_getD, List.getElem?_eq_getElem h]
 exact List.getElem_mem h
end Mvp
namespace Go.Proofs.YtpfimiajoifjaaaGreat
section
open Go.RowKit Go.Mv Mvp
def ReadPost (m : Md) (ls : List (List UInt8)) (w : World) (e : Ending) (w' : World) : Prop :=
 (a0D m ls = true → ∃ v, e = .returned (.tuple #[v, .bool true]) ∧ Own w' w.heap.size 123 4 v ls.length (a0I m ls)) ∧
 (a0D m ls = false → e = .returned (.tuple #[.slice none 0 0, .bool false])) ∧ Fr Nob w w'
theorem ReadPost.bad {m : Md} {ls : List (List UInt8)} {w w' : World} {e : Ending} (h : a0D m ls = false) (he : e = .returned (.tuple #[.slice none 0 0, .bool false])) (hf : Fr Nob w w') : ReadPost m ls w e w' :=
 ⟨fun h1 => (by rw [h] at h1; cases h1), fun _ => he, hf⟩
theorem ReadPost.good {m : Md} {ls : List (List UInt8)} {w w' : World} {e : Ending} {v : Value} (h : a0D m ls = true) (he : e = .returned (.tuple #[v, .bool true])) (ho : Own w' w.heap.size 123 4 v ls.length (a0I m ls)) (hf : Fr Nob w w') : ReadPost m ls w e w' :=
 ⟨fun _ => ⟨v, he, ho⟩, fun h1 => (by rw [h] at h1; cases h1), hf⟩
attribute [local irreducible] a0v lw mix cw b0e b0f b0a beN b0l b0b a0z a0F elN mdL a0I a0D b0m
end
section
open Go.RowKit Go.Mv Mvp
attribute [local irreducible] a0v lw mix cw b0e b0f b0a beN b0l b0b a0z a0F elN mdL b0m
theorem b0v {P : Program} {o : Oper} {a : Act} {t : TypeId} {parts : Array (Nat × Operand)} (ho : o.op = .build t parts) (cells : Array Value)
  (hb : P.built t (parts.toList.map fun p => (p.1, a.eval p.2)) = some cells) (w : World) : (execOp a.eval o).run P w = .ok (.value (.agg cells)) w := by
 have hr := run_build (P := P) w t (parts.map fun (i, x) => (i, a.eval x)) cells (by
  have : (parts.map fun (i, x) => (i, a.eval x)).toList = (parts.toList.map fun p => (p.1, a.eval p.2)) := by simp
  rw [this]; exact hb)
 unfold execOp
 simp only [ho, Sem.run_bind, Sem.run_pure, Result.andThen_ok, hr]
theorem b0i {P : Program} {fn : Func} {p : Tmp} {ty : TypeId} {s : Tmp} (h : fn.results = #[.cell p ty, .tmp s]) {tmps : Array Value} {w : World} {g : Nat} {L : List Value} {T : TypeId}
  (hp : tmps.getD p undef = .pointer (some ⟨g, 0, none⟩)) (hg : Has w g L T) {d : TypeDesc} (hu : P.underlying ty = some d) (hd : (match d with | .struct _ | .array _ _ => true | _ => false) = true) (hi : (P.info? ty).map (·.size) = some L.length) {v : Value} (hv : tmps.getD s undef = v) :
  (results fn tmps).run P w = .ok (.tuple #[.agg L.toArray, v]) w := by
 obtain ⟨lo, hi', hh, -⟩ := hg
 have hp' : tmps[p]?.getD undef = .pointer (some ⟨g, 0, none⟩) := by simpa using hp
 have hv' : tmps[s]?.getD undef = v := by simpa using hv
 simp [results, h, hp', hv', asAddr, run_loadVar_row w g T ty L.toArray _ _ hh hu (by cases d <;> first | rfl | (simp at hd)) (by simpa using hi)]
theorem d0s : (Tryz.prog.info? 125).map (fun i => (i.zero, i.size, i.bytes)) = some (some (.agg #[.int .u64 0, .int .u64 0, .int .u64 0, .int .u64 0]), 4, 32) := by kernel_rfl
theorem e0W (a : Nat) : Tryz.prog.built 125 [(0, i4 a)] = some (cw 4 a).toArray := by kernel_rfl
theorem c0v (m : Md) (hk : KindOf 1 m) (w : World) : Calls Tryz.prog 154 #[] w fun e w' => ∃ gp, e = .returned (.pointer (some ⟨gp, 0, none⟩)) ∧ w.heap.size ≤ gp ∧ Has w' gp (mdL m) 234 ∧ Fr Nob w w' := by
 have HK := qH hk
 clear hk
 go_enter Tryz.func154, Tryz.ntmps154
 go_wp2_with fail
 refine (OfK HK.out _).mono ?_
 rintro e w1 ⟨gp, rfl, hle, hm, hf⟩
 have HL := qH hle
 have HM := qH hm
 have HF := qH hf
 clear hm hf hle
 go_wp2_with fail
 go_ret
 exact ⟨gp, rfl, HL.out, HM.out, HF.out⟩
theorem n0o (m : Md) (hk : KindOf 1 m) (x y : Nat) (w : World) :
  Calls Tryz.prog 95 #[i4 (elN m x), i4 (elN m y)] w fun e w' => e = .returned (i4 (elN m (x * y))) ∧ Fr Nob w w' := by
 have HK := qH hk
 have HOK := qH hk.ok
 clear hk
 have st0 := St.start Nob w
 go_enter Tryz.func95, Tryz.ntmps95
 go_wp2_with (with_reducible refine wSk 2 ?_)
 refine a0r st0 rfl rfl rfl (cw 4 (elN m x)) rfl ?_
 intro g2 w1 st1
 clear st0
 go_wp2_with (with_reducible refine wSk 3 ?_)
 refine a0r st1 rfl rfl rfl (cw 4 (elN m y)) rfl ?_
 intro g3 w2 st2
 clear st1
 go_wp2_with (with_reducible refine wSk 4 ?_)
 refine a0b st2 rfl rfl (z := zAd) ap0 (cw 4 0) ap5 ?_
 intro g4 w3 st3
 clear st2
 go_wp2_with fail
 refine wp_region_noPanic ?_
 refine a0d (fun wx => St Nob w wx [(g2, cw 4 (elN m x), 125), (g3, cw 4 (elN m y), 125), (g4, cw 4 0, 125)]) 7 (.w 1 (.t 2 (.w 3 (.t 4 (.r 0 (.r 5 (.w 6 (.m 7 .nil)))))))) ap0 ap0 st3.drew (fun _ _ _ _ _ h => h) ?_
 have hd3 := st3.drew
 clear st3
 refine a0a rfl rfl apW ?_
 try simp only [clL]
 refine a0h rfl rfl rfl rfl (cw 4 (elN m x)) (fun wx hS => St.rangeL hS 0 rfl 0 _ dZl) Tryz.underlying123 rfl ap3 ?_
 try simp only [clL]
 refine a0a rfl rfl apW ?_
 try simp only [clL]
 refine a0h rfl rfl rfl rfl (cw 4 (elN m y)) (fun wx hS => St.rangeL hS 1 rfl 0 _ dZl) Tryz.underlying123 rfl ap3 ?_
 try simp only [clL]
 refine a0q rfl rfl ?_
 go_simp
 refine (c0v m HK.out _).mono ?_
 rintro e' w4 ⟨gp, rfl, hle, hm, hf4⟩
 have st4 : St Nob w w4 [(g2, cw 4 (elN m x), 125), (g3, cw 4 (elN m y), 125), (g4, cw 4 0, 125), (gp, mdL m, 234)] := hd3.new hf4 hm hle
 clear hf4 hm hle
 clear hd3
 refine ⟨St.less st4 ap4, ?_⟩
 try simp only [clL]
 refine a0q rfl rfl ?_
 go_simp
 refine (s0M m gp _ HOK.out (st4.at 3 rfl) x y).mono ?_
 rintro e' w5 ⟨rfl, hf5⟩
 have st5 := st4.keep hf5
 clear hf5
 clear st4
 refine ⟨St.less st5 ap4, ?_⟩
 try simp only [clL]
 refine a0a rfl rfl (b0v rfl _ (e0W _)) ?_
 try simp only [clL]
 refine a0o rfl rfl ?_
 refine a0i st5 2 rfl rfl rfl rfl ap6 ap3 (a0f _ _) ?_
 intro w6 st6
 clear st5
 try simp only [Act.put]
 refine a0e ?_
 refine NoPanic.normal ?_
 have hr := st6.at 2 rfl
 have hfr := st6.fr
 clear st6
 go_wp2_with fail
 exact bodyPost_ret (a0y rfl rfl hr Tryz.underlying125 rfl ap3) rfl ⟨rfl, hfr⟩
theorem s0P (m : Md) (hk : KindOf 1 m) (x : Nat) (w : World) :
  Calls Tryz.prog 94 #[i4 (elN m x)] w fun e w' => e = .returned (i4 (elN m (x ^ (m.M - 2)))) ∧ Fr Nob w w' := by
 have HK := qH hk
 have HOK := qH hk.ok
 clear hk
 have st0 := St.start Nob w
 go_enter Tryz.func94, Tryz.ntmps94
 go_wp2_with (with_reducible refine wSk 1 ?_)
 refine a0r st0 rfl rfl rfl (cw 4 (elN m x)) rfl ?_
 intro g1 w1 st1
 clear st0
 go_wp2_with (with_reducible refine wSk 2 ?_)
 refine a0b st1 rfl rfl (z := zAd) ap0 (cw 4 0) ap5 ?_
 intro g2 w2 st2
 clear st1
 go_wp2_with fail
 refine wp_region_noPanic ?_
 refine a0d (fun wx => St Nob w wx [(g1, cw 4 (elN m x), 125), (g2, cw 4 0, 125)]) 5 (.w 1 (.t 2 (.r 0 (.r 3 (.w 4 (.m 5 .nil)))))) ap0 ap0 st2.drew (fun _ _ _ _ _ h => h) ?_
 have hd2 := st2.drew
 clear st2
 refine a0a rfl rfl apW ?_
 try simp only [clL]
 refine a0h rfl rfl rfl rfl (cw 4 (elN m x)) (fun wx hS => St.rangeL hS 0 rfl 0 _ dZl) Tryz.underlying123 rfl ap3 ?_
 try simp only [clL]
 refine a0q rfl rfl ?_
 go_simp
 refine (c0v m HK.out _).mono ?_
 rintro e' w3 ⟨gp, rfl, hle, hm, hf3⟩
 have st3 : St Nob w w3 [(g1, cw 4 (elN m x), 125), (g2, cw 4 0, 125), (gp, mdL m, 234)] := hd2.new hf3 hm hle
 clear hf3 hm hle
 clear hd2
 refine ⟨St.less st3 ap4, ?_⟩
 try simp only [clL]
 refine a0q rfl rfl ?_
 go_simp
 refine (n0m m gp _ HOK.out (st3.at 2 rfl) x).mono ?_
 rintro e' w4 ⟨rfl, hf4⟩
 have st4 := st3.keep hf4
 clear hf4
 clear st3
 refine ⟨St.less st4 ap4, ?_⟩
 try simp only [clL]
 refine a0a rfl rfl (b0v rfl _ (e0W _)) ?_
 try simp only [clL]
 refine a0o rfl rfl ?_
 refine a0i st4 1 rfl rfl rfl rfl ap6 ap3 (a0f _ _) ?_
 intro w5 st5
 clear st4
 try simp only [Act.put]
 refine a0e ?_
 refine NoPanic.normal ?_
 have hr := st5.at 1 rfl
 have hfr := st5.fr
 clear st5
 go_wp2_with fail
 exact bodyPost_ret (a0y rfl rfl hr Tryz.underlying125 rfl ap3) rfl ⟨rfl, hfr⟩
theorem w0c (m : Md) (hk : KindOf 1 m) (a : Option Addr) (n c : Nat) (l : List UInt8) (w : World) (hb : RdB w a n l) (h32 : l.length ≠ 32) :
  Calls Tryz.prog 70 #[.slice a n c] w fun e w' => e = .returned (.tuple #[i4 0, .bool false]) ∧ Fr Nob w w' := by
 have HK := qH hk
 have HOK := qH hk.ok
 clear hk
 have HB := qH hb
 have HN := qH (show l.length = n from hb.len)
 clear hb
 have hne : ((n : Int) != 32) = true := by have := HN.out; simp; omega
 clear h32
 have st0 := St.start Nob w
 go_enter Tryz.func70, Tryz.ntmps70
 go_wp2_with (with_reducible refine wSk 2 ?_)
 refine a0b st0 rfl rfl (z := zAd) ap0 (cw 4 0) ap5 ?_
 intro g2 w1 st1
 clear st0
 go_wp2_with (with_reducible refine wSk 9 ?_)
 refine a0s st1 0 rfl rfl rfl Tryz.underlying125 rfl rfl ap3 ?_
 go_wp2_with (with_reducible refine wSn ?_)
 refine a0c st1 0 rfl rfl rfl rfl rfl ap6 ap3 (a0f _ _) ?_
 intro w2 st2
 clear st1
 have hr := st2.at 0 rfl
 have hfr := st2.fr
 clear st2
 go_wp2_with fail
 exact bodyPost_ret (b0i rfl rfl hr Tryz.underlying125 rfl ap3 rfl) rfl ⟨rfl, hfr⟩
theorem y0n (m : Md) (hk : KindOf 1 m) (a : Option Addr) (n c : Nat) (l : List UInt8) (w : World) (hb : RdB w a n l) (h32 : l.length = 32) (hlt : beN l < m.M) :
  Calls Tryz.prog 70 #[.slice a n c] w fun e w' => e = .returned (.tuple #[i4 (elN m (beN l)), .bool true]) ∧ Fr Nob w w' := by
 have HK := qH hk
 have HOK := qH hk.ok
 clear hk
 have hbl := e0w l ap1
 have HBL := qH hbl
 have h32' : n = 32 := by have := hb.len; omega
 subst h32'
 have HB := qH hb
 have hne : (((32 : Nat) : Int) != 32) = false := by rfl
 clear hb hbl h32
 have HLT := qH hlt
 clear hlt
 have st0 := St.start Nob w
 go_enter Tryz.func70, Tryz.ntmps70
 go_wp2_with (with_reducible refine wSk 2 ?_)
 refine a0b st0 rfl rfl (z := zAd) ap0 (cw 4 0) ap5 ?_
 intro g2 w1 st1
 clear st0
 go_wp2_with fail
 refine (c0v m HK.out _).mono ?_
 rintro e' w2 ⟨gp, rfl, hle, hm, hf2⟩
 have st2 : St Nob w w2 [(g2, cw 4 0, 125), (gp, mdL m, 234)] := st1.new hf2 hm hle
 clear st1 hf2 hm hle
 go_wp2_with fail
 refine (b0T a 32 c l _ (HB.out.still st2.fr) ap2).mono ?_
 rintro e' w3 ⟨rfl, hf3⟩
 have st3 := st2.keep hf3
 clear st2 hf3
 go_wp2_with (with_reducible refine wSk 5 ?_)
 refine a0b st3 rfl rfl (z := zAd) ap0 (cw 4 0) ap5 ?_
 intro g5 w4 st4
 clear st3
 go_wp2_with (with_reducible refine wSn ?_)
 refine a0c st4 2 rfl rfl rfl rfl rfl ap6 ap3 (a0f _ _) ?_
 intro w5 st5
 clear st4
 go_wp2_with fail
 refine wp_region_noPanic ?_
 refine a0d (fun wx => St Nob w wx [(g2, cw 4 0, 125), (gp, mdL m, 234), (g5, cw 4 (beN l), 167)]) 6 (.t 0 (.w 1 (.w 2 (.w 3 (.t 4 (.r 5 (.m 6 .nil))))))) ap0 ap0 st5.drew (fun _ _ _ _ _ h => h) ?_
 have hd5 := st5.drew
 clear st5
 refine a0h rfl rfl rfl rfl (cw 4 (beN l)) (fun wx hS => St.rangeL hS 2 rfl 0 _ dZl) Tryz.underlying167 rfl ap3 ?_
 try simp only [clL]
 refine a0a rfl rfl apW ?_
 try simp only [clL]
 refine a0a rfl rfl apW ?_
 try simp only [clL]
 refine a0a rfl rfl apW ?_
 try simp only [clL]
 refine a0h rfl rfl rfl rfl (cw 4 m.M) (fun wx hS => St.rangeL hS 1 rfl 0 _ (j0U m)) Tryz.underlying167 rfl ap3 ?_
 try simp only [clL]
 refine a0q rfl rfl ?_
 go_simp
 refine (f0r (beN l) m.M _ HBL.out HOK.out.lt).mono ?_
 rintro e' w6 ⟨rfl, hf6⟩
 have st6 := hd5.keep hf6
 clear hf6
 clear hd5
 refine ⟨st6, ?_⟩
 try simp only [clL]
 refine a0o rfl rfl ?_
 go_simp
 try simp only [clL]
 refine a0e ?_
 refine NoPanic.normal ?_
 rw [decide_eq_true HLT.out]
 go_wp2_with (with_reducible refine wSk 22 ?_)
 refine a0m st6 2 rfl rfl rfl Tryz.underlying167 rfl ap3 ?_
 go_wp2_with fail
 refine (c0O m gp _ HOK.out (st6.at 1 rfl) (beN l) HBL.out).mono ?_
 rintro e' w7 ⟨rfl, hf7⟩
 have st7 := st6.keep hf7
 clear st6 hf7
 go_wp2_with (with_reducible refine wSk 24 ?_)
 refine b0M rfl rfl _ (e0W _) ?_
 go_wp2_with (with_reducible refine wSn ?_)
 refine a0c st7 0 rfl rfl rfl rfl rfl ap6 ap3 (a0f _ _) ?_
 intro w8 st8
 clear st7
 have hr := st8.at 0 rfl
 have hfr := st8.fr
 clear st8
 go_wp2_with fail
 exact bodyPost_ret (b0i rfl rfl hr Tryz.underlying125 rfl ap3 rfl) rfl ⟨rfl, hfr⟩
theorem w0d (m : Md) (hk : KindOf 1 m) (a : Option Addr) (n c : Nat) (l : List UInt8) (w : World) (hb : RdB w a n l) (h32 : l.length = 32) (hlt : ¬ beN l < m.M) :
  Calls Tryz.prog 70 #[.slice a n c] w fun e w' => e = .returned (.tuple #[i4 0, .bool false]) ∧ Fr Nob w w' := by
 have HK := qH hk
 have HOK := qH hk.ok
 clear hk
 have hbl := e0w l ap1
 have HBL := qH hbl
 have h32' : n = 32 := by have := hb.len; omega
 subst h32'
 have HB := qH hb
 have hne : (((32 : Nat) : Int) != 32) = false := by rfl
 clear hb hbl h32
 have HLT := qH hlt
 clear hlt
 have st0 := St.start Nob w
 go_enter Tryz.func70, Tryz.ntmps70
 go_wp2_with (with_reducible refine wSk 2 ?_)
 refine a0b st0 rfl rfl (z := zAd) ap0 (cw 4 0) ap5 ?_
 intro g2 w1 st1
 clear st0
 go_wp2_with fail
 refine (c0v m HK.out _).mono ?_
 rintro e' w2 ⟨gp, rfl, hle, hm, hf2⟩
 have st2 : St Nob w w2 [(g2, cw 4 0, 125), (gp, mdL m, 234)] := st1.new hf2 hm hle
 clear st1 hf2 hm hle
 go_wp2_with fail
 refine (b0T a 32 c l _ (HB.out.still st2.fr) ap2).mono ?_
 rintro e' w3 ⟨rfl, hf3⟩
 have st3 := st2.keep hf3
 clear st2 hf3
 go_wp2_with (with_reducible refine wSk 5 ?_)
 refine a0b st3 rfl rfl (z := zAd) ap0 (cw 4 0) ap5 ?_
 intro g5 w4 st4
 clear st3
 go_wp2_with (with_reducible refine wSn ?_)
 refine a0c st4 2 rfl rfl rfl rfl rfl ap6 ap3 (a0f _ _) ?_
 intro w5 st5
 clear st4
 go_wp2_with fail
 refine wp_region_noPanic ?_
 refine a0d (fun wx => St Nob w wx [(g2, cw 4 0, 125), (gp, mdL m, 234), (g5, cw 4 (beN l), 167)]) 6 (.t 0 (.w 1 (.w 2 (.w 3 (.t 4 (.r 5 (.m 6 .nil))))))) ap0 ap0 st5.drew (fun _ _ _ _ _ h => h) ?_
 have hd5 := st5.drew
 clear st5
 refine a0h rfl rfl rfl rfl (cw 4 (beN l)) (fun wx hS => St.rangeL hS 2 rfl 0 _ dZl) Tryz.underlying167 rfl ap3 ?_
 try simp only [clL]
 refine a0a rfl rfl apW ?_
 try simp only [clL]
 refine a0a rfl rfl apW ?_
 try simp only [clL]
 refine a0a rfl rfl apW ?_
 try simp only [clL]
 refine a0h rfl rfl rfl rfl (cw 4 m.M) (fun wx hS => St.rangeL hS 1 rfl 0 _ (j0U m)) Tryz.underlying167 rfl ap3 ?_
 try simp only [clL]
 refine a0q rfl rfl ?_
 go_simp
 refine (f0r (beN l) m.M _ HBL.out HOK.out.lt).mono ?_
 rintro e' w6 ⟨rfl, hf6⟩
 have st6 := hd5.keep hf6
 clear hf6
 clear hd5
 refine ⟨st6, ?_⟩
 try simp only [clL]
 refine a0o rfl rfl ?_
 go_simp
 try simp only [clL]
 refine a0e ?_
 refine NoPanic.normal ?_
 rw [decide_eq_false HLT.out]
 go_wp2_with (with_reducible refine wSk 20 ?_)
 refine a0s st6 0 rfl rfl rfl Tryz.underlying125 rfl rfl ap3 ?_
 go_wp2_with (with_reducible refine wSn ?_)
 refine a0c st6 0 rfl rfl rfl rfl rfl ap6 ap3 (a0f _ _) ?_
 intro w7 st7
 clear st6
 have hr := st7.at 0 rfl
 have hfr := st7.fr
 clear st7
 go_wp2_with fail
 exact bodyPost_ret (b0i rfl rfl hr Tryz.underlying125 rfl ap3 rfl) rfl ⟨rfl, hfr⟩
theorem A0a (m : Md) (hk : KindOf 1 m) (a : Option Addr) (n c : Nat) (l : List UInt8) (w : World) (hb : RdB w a n l) (h : b0m m l = true) :
  Calls Tryz.prog 70 #[.slice a n c] w fun e w' => e = .returned (.tuple #[i4 (elN m (beN l)), .bool true]) ∧ Fr Nob w w' := by
 unfold b0m at h
 simp only [Bool.and_eq_true, decide_eq_true_eq] at h
 exact y0n m hk a n c l w hb h.1 h.2
theorem A0b (m : Md) (hk : KindOf 1 m) (a : Option Addr) (n c : Nat) (l : List UInt8) (w : World) (hb : RdB w a n l) (h : b0m m l = false) :
  Calls Tryz.prog 70 #[.slice a n c] w fun e w' => e = .returned (.tuple #[i4 0, .bool false]) ∧ Fr Nob w w' := by
 unfold b0m at h
 simp only [Bool.and_eq_false_iff, decide_eq_false_iff_not] at h
 by_cases h32 : l.length = 32
 ·exact w0d m hk a n c l w hb h32 (by rcases h with h | h; exact absurd h32 h; exact h)
 ·exact w0c m hk a n c l w hb h32
theorem q0y (m : Md) (hk : KindOf 1 m) (a : Option Addr) (n c : Nat) (l : List UInt8) (w : World) (hb : RdB w a n l) (hc : n ≤ c) (hn : n ≤ 1000000) :
  Calls Tryz.prog 252 #[.slice a n c] w fun e w' => e = .returned (i4 (elN m (beN l))) ∧ Fr Nob w w' := by
 have HK := qH hk
 have HOK := qH hk.ok
 clear hk
 have HB := qH hb
 have HN := qH (show l.length = n from hb.len)
 clear hb
 have HC := qH hc
 have HNN := qH hn
 have HLM := qH (Nat.lt_trans (Nat.mod_lt (beN l) (by have := HOK.out.one; omega)) HOK.out.lt)
 clear hc hn
 have st0 := St.start Nob w
 go_enter Tryz.func252, Tryz.ntmps252
 go_wp2_with (with_reducible refine wSk 2 ?_)
 refine a0b st0 rfl rfl (z := zAd) ap0 (cw 4 0) ap5 ?_
 intro g2 w1 st1
 clear st0
 go_wp2_with fail
 refine (c0v m HK.out _).mono ?_
 rintro e' w2 ⟨gp, rfl, hle, hm, hf2⟩
 have st2 : St Nob w w2 [(g2, cw 4 0, 125), (gp, mdL m, 234)] := st1.new hf2 hm hle
 clear st1 hf2 hm hle
 go_wp2_with fail
 refine (m0g m gp _ HOK.out (st2.at 1 rfl) a n c l (HB.out.still st2.fr) HC.out HNN.out).mono ?_
 rintro e' w3 ⟨rfl, hf3⟩
 have st3 := st2.keep hf3
 clear st2 hf3
 go_wp2_with fail
 refine (c0O m gp _ HOK.out (st3.at 1 rfl) (beN l % m.M) HLM.out).mono ?_
 rintro e' w4 ⟨rfl, hf4⟩
 have st4 := st3.keep hf4
 clear st3 hf4
 go_wp2_with (with_reducible refine wSk 10 ?_)
 refine b0M rfl rfl _ (e0W _) ?_
 go_wp2_with (with_reducible refine wSn ?_)
 refine a0c st4 0 rfl rfl rfl rfl rfl ap6 ap3 (a0f _ _) ?_
 intro w5 st5
 clear st4
 have hr := st5.at 0 rfl
 have hfr := st5.fr
 clear st5
 go_wp2_with fail
 exact bodyPost_ret (a0y rfl rfl hr Tryz.underlying125 rfl ap3) rfl ⟨by rw [n0j]; rfl, hfr⟩
end
section
open Go.RowKit Go.Mv Mvp
attribute [local irreducible] a0v lw mix cw b0e b0f b0a beN b0l b0b a0z a0F elN mdL a0I a0D b0m
end
end Go.Proofs.YtpfimiajoifjaaaGreat
namespace Go.Mv
open Go.RowKit
theorem o0D {w : World} {b o n : Nat} {vs : List Value} (h : Rd w (some ⟨b, o, none⟩) n vs) (k : Nat) (cs : List Value) (hcs : (vs.drop k).take cs.length = cs) : At w b (o + k) cs := by
 intro i v hv
 rcases h.2 with h0 | ⟨b', o', he, hc⟩
 ·have hl := h.len
  rw [h0] at hl
  rw [List.length_eq_zero_iff.1 hl] at hcs
  simp at hcs
  subst hcs
  simp at hv
 ·simp only [Option.some.injEq, Addr.mk.injEq] at he
  obtain ⟨rfl, rfl, -⟩ := he
  have := hc.sub k cs.length
  rw [hcs] at this
  exact this i v hv
theorem b0y {w : World} {b o n : Nat} {vs : List Value} (h : Rd w (some ⟨b, o, none⟩) n vs) (k : Nat) (cs : List Value) (hcs : (vs.drop k).take cs.length = cs) : w.rangeAt b (o + k) cs :=
 fun i v hv => o0D h k cs hcs i v hv
end Go.Mv
namespace Go.Proofs.YtpfimiajoifjaaaGreat
open Go.RowKit Go.Mv Mvp
attribute [local irreducible] a0v lw mix cw b0e b0f b0a beN b0l b0b a0z a0F elN mdL a0I a0D b0m
end Go.Proofs.YtpfimiajoifjaaaGreat
namespace Mvp
theorem q0z (N i : Nat) : lw (N / 2) i = lw N i / 2 ||| (lw N (i + 1) * 9223372036854775808 % 18446744073709551616) := by
 have h1 : lw N (i + 1) * 9223372036854775808 % 18446744073709551616 = 2 ^ 63 * (lw N (i + 1) % 2) := by
  have : (18446744073709551616 : Nat) = 9223372036854775808 * 2 := by decide
  rw [this, Nat.mul_comm, Nat.mul_mod_mul_left]
 have h2 : lw N i / 2 < 2 ^ 63 := by have := f0S N i; omega
 rw [h1, Nat.or_comm, ← Nat.two_pow_add_eq_or_of_lt h2]
 have e1 : lw N (i + 1) = N / B64 ^ i / 18446744073709551616 % 18446744073709551616 := by
  unfold lw
  rw [Nat.pow_succ, ← Nat.div_div_eq_div_mul]
 have e2 : lw (N / 2) i = N / B64 ^ i / 2 % 18446744073709551616 := by
  unfold lw
  rw [Nat.div_div_eq_div_mul, Nat.mul_comm, ← Nat.div_div_eq_div_mul]
 have e3 : lw N i = N / B64 ^ i % 18446744073709551616 := rfl
 rw [e1, e2, e3]
 generalize N / B64 ^ i = x
 omega
end Mvp
namespace Go.Mv
open Go.RowKit Mvp
variable {P : Program}
theorem q0A {t e : TypeId} (hu : P.underlying t = some (.array 4 e)) (he : P.underlying e = some (.int .u64)) (hi0 : (P.info? e).map (·.size) = some 1) (a b : Nat) (w : World) :
  (Op.equal t (.agg (cw 4 a).toArray) (.agg (cw 4 b).toArray)).run P w = .ok (decide (a % B64 ^ 4 = b % B64 ^ 4)) w := by
 obtain ⟨j, hj, hsz⟩ : ∃ j, P.info? e = some j ∧ j.size = 1 := by simpa using hi0
 have hc : P.cellsOf e = 1 := by simp [Program.cellsOf, hj, hsz]
 have hp : ∀ (x k : Nat), k < 4 → (part e (cw 4 x).toArray k).run P w = .ok (.int .u64 (lw x k : Nat)) w := by
  intro x k hk
  have hv := c0d 4 x k hk
  simp [part, isAgg, run_underlying he, sizeOf, typeInfo, hj, hsz, hv]
 have hq0 : ∀ (d : Nat) (x y : Int), (Op.equalIn (d + 1) e (.int .u64 x) (.int .u64 y)).run P w = .ok (x == y) w := fun d x y => by
  simp [Op.equalIn, run_underlying he]
 have hq : ∀ x y : Int, (Op.equalIn 9999 e (.int .u64 x) (.int .u64 y)).run P w = .ok (x == y) w := hq0 9998
 have hbe : ∀ k, ((lw a k : Int) == (lw b k : Int)) = decide (lw a k = lw b k) := by
  intro k
  rw [Bool.eq_iff_iff]; simp; omega
 show (Op.equalIn (9999 + 1) t _ _).run P w = _
 rw [run_equalIn_array w 9999 _ _ hu hj, hc]
 have hfin : decide (a % B64 ^ 4 = b % B64 ^ 4) = (decide (lw a 0 = lw b 0) && (decide (lw a 1 = lw b 1) && (decide (lw a 2 = lw b 2) && decide (lw a 3 = lw b 3)))) := by
  rw [Bool.eq_iff_iff]
  simp only [decide_eq_true_eq, Bool.and_eq_true]
  constructor
  ·intro h
   refine ⟨?_, ?_, ?_, ?_⟩ <;> (rw [← h0l a _ 4 ap2, h, h0l b _ 4 ap2])
  ·rintro ⟨h0, h1, h2, h3⟩
   refine j0i (h0n fun i hi => ?_)
   have : i = 0 ∨ i = 1 ∨ i = 2 ∨ i = 3 := by omega
   rcases this with rfl | rfl | rfl | rfl <;> assumption
 rw [hfin]
 show (Op.eqItems 9999 e 1 _ _ [0, 1, 2, 3]).run P w = _
 have p0 := fun x => hp x 0 ap2
 have p1 := fun x => hp x 1 ap2
 have p2 := fun x => hp x 2 ap2
 have p3 := fun x => hp x 3 ap2
 clear hp hq0 hfin
 by_cases h0 : lw a 0 = lw b 0 <;> by_cases h1 : lw a 1 = lw b 1 <;> by_cases h2 : lw a 2 = lw b 2 <;> by_cases h3 : lw a 3 = lw b 3 <;> simp [Op.eqItems, p0, p1, p2, p3, hq, hbe, h0, h1, h2, h3, -beq_iff_eq]
end Go.Mv
namespace Go.Proofs.YtpfimiajoifjaaaGreat
open Go.RowKit Go.Mv Mvp
attribute [local irreducible] a0v lw mix cw b0e b0f b0a beN b0l b0b a0z a0F elN
theorem h0r (N : Nat) (w : World) (hN : N < B64 ^ 4) :
  Calls Tryz.prog 270 #[i4 N, .int .i64 2] w fun e w' => e = .returned (i4 (N / 4)) ∧ Fr Nob w w' := by
 have HN := qH hN; clear hN
 have st0 := St.start Nob w
 go_enter Tryz.func270, Tryz.ntmps270
 go_wp2_with (with_reducible refine wSk 2 ?_)
 refine a0r st0 rfl rfl rfl (cw 4 N) rfl ?_
 intro g2 w1 st1
 clear st0
 go_wp2_with (with_reducible refine wSk 4 ?_)
 refine a0b st1 rfl rfl (z := zAd) ap0 (cw 4 0) ap5 ?_
 intro g4 w2 st2
 clear st1
 go_wp2
 go_loopw [7] (fun i wr => ∃ j : Nat, j ≤ 2 ∧ i = .int .i64 (j : Int) ∧ St Nob w wr [(g2, cw 4 (N / 2 ^ j), 167), (g4, cw 4 0, 167)]) (fun i _ => 2 - (intOf i).toNat)
 case atStart => exact ⟨0, by omega, rfl, by rw [Nat.pow_zero, Nat.div_one]; exact st2⟩
 case round =>
  obtain ⟨j, hj, rfl, st⟩ := hrel
  clear st2
  by_cases hlt : j < 2
  ·have hltJ : (j : Int) < 2 := by omega
   have hV : N / 2 ^ j < B64 ^ 4 := Nat.lt_of_le_of_lt (Nat.div_le_self _ _) HN.out
   have hnext : N / 2 ^ (j + 1) = N / 2 ^ j / 2 := by rw [Nat.pow_succ, Nat.div_div_eq_div_mul]
   generalize hVe : N / 2 ^ j = V at *
   have HNEXT := qH hnext; have HV := qH hV; clear hnext hV hVe
   go_wp2
   go_loopw [9] (fun i wr => ∃ k : Nat, k ≤ 4 ∧ i = .int .i64 (k : Int) ∧ St Nob w wr [(g2, cw 4 (mix (V / 2) V k), 167), (g4, cw 4 0, 167)]) (fun i _ => 4 - (intOf i).toNat)
   case atStart => exact ⟨0, by omega, rfl, by rw [g0B]; exact st⟩
   case round =>
    obtain ⟨k, hk, rfl, stk⟩ := hrel
    clear st
    by_cases hltk : k < 4
    ·have hltK : (k : Int) < 4 := by omega
     have c1 : wr.cell? ⟨g2, k, none⟩ = some (.int .u64 (lw V k : Nat)) := by have h := (stk.at 0 rfl).cell (c0d 4 (mix (V / 2) V k) k hltk); rwa [i0v, if_neg (Nat.lt_irrefl k)] at h
     have f1 := (stk.at 0 rfl).free k (by rw [a0g]; exact hltk)
     have stm := stk.set 0 rfl k (.int .u64 ((lw V k : Int) / 2))
     have hhw := q0z V k
     have hor : bits .or .u64 ((lw V k : Int) / 2) (IntKind.u64.wrap ((lw V (k + 1) : Int) * 9223372036854775808)) = ((lw (V / 2) k : Nat) : Int) := by
      have h := bits_or_u64_nat (lw V k / 2) (lw V (k + 1) * 9223372036854775808 % 18446744073709551616) (Nat.lt_of_le_of_lt (Nat.div_le_self _ _) (f0S _ _)) (Nat.mod_lt _ ap2)
      rw [hhw, ← h, IntKind.wrap_u64]
      rfl
     have HOR := qH hor
     clear hor
     have STM := qH stm
     have HSET := qH (g0j 4 (V / 2) V k hltk)
     by_cases h3 : k < 3
     ·have h3I : (k : Int) < 3 := by omega
      have c2 := (stm.at 0 rfl).cell (i := k) (v := .int .u64 ((lw V k : Int) / 2)) (by rw [List.getElem?_set_self (by rw [a0g]; exact hltk)])
      have c3 := (stm.at 0 rfl).cell (i := k + 1) (v := .int .u64 (lw V (k + 1) : Nat)) (by rw [List.getElem?_set_ne ap1, c0d 4 _ (k + 1) ap1, i0v, if_neg ap1])
      have f2 := (stm.at 0 rfl).free k (by rw [List.length_set, a0g]; exact hltk)
      have e1 : IntKind.i64.wrap ((k : Int) + 1) = (k : Int) + 1 := IntWalk.i64_in _ ap1
      have e4 : ((k : Int) + 1).toNat = k + 1 := by omega
      have hlo : (0 : Int) ≤ (k : Int) + 1 ∧ (k : Int) + 1 < 4 := by omega
      clear stm stk
      go_wp2_with fail
      generalize hwm : wr.setCell ⟨g2, k, none⟩ (.int .u64 ((lw V k : Int) / 2)) = wm at *
      clear hwm c1 f1
      refine wp_region_still_tail 10 ap0 ap0 ?_
      simp only [List.take_succ_cons, List.take_zero, List.drop_succ_cons, List.drop_zero]
      repeat still_step
      refine wpStill_nil ?_
      have hst := (STM.out.set 0 rfl k (.int .u64 (bits .or .u64 ((lw V k : Int) / 2) (IntKind.u64.wrap ((lw V (k + 1) : Int) * 9223372036854775808))))).drew
      rw [HOR.out] at hst
      simp only [List.set_cons_zero, List.set_set] at hst
      rw [HSET.out] at hst
      have HST := qH hst
      clear hst
      go_wp2
      go_roundw
      case rel => exact ⟨k + 1, by omega, by go_num, by rw [HOR.out]; exact HST.out⟩
      case measure => simp [intOf]; omega
     ·have h3I : ¬ ((k : Int) < 3) := by omega
      have hk3 : k = 3 := by omega
      have hz : lw V (k + 1) = 0 := g0i V 4 _ HV.out ap1
      have hst := STM.out
      rw [hz, Nat.zero_mul, Nat.zero_mod, Nat.or_zero] at hhw
      rw [show ((lw V k : Int) / 2) = ((lw (V / 2) k : Nat) : Int) by rw [hhw]; rfl] at hst
      simp only [List.set_cons_zero] at hst
      rw [HSET.out] at hst
      rw [show ((lw (V / 2) k : Nat) : Int) = ((lw V k : Int) / 2) by rw [hhw]; rfl] at hst
      have HST := qH hst
      clear hst stm hhw hz hk3 stk
      go_wp2
      go_roundw
      case rel => exact ⟨k + 1, by omega, by go_num, HST.out⟩
      case measure => simp [intOf]; omega
    ·have hge : ¬ ((k : Int) < 4) := by omega
     have hk4 : k = 4 := by omega
     rw [hk4, j0j, ← HNEXT.out] at stk
     clear hk4
     go_wp2
     go_roundw
     case rel => exact ⟨j + 1, by omega, by go_num, stk⟩
     case measure => simp [intOf]; omega
  ·have hge : ¬ ((j : Int) < 2) := by omega
   have hj2 : j = 2 := by omega
   rw [hj2] at st
   clear hj2
   go_wp2_with (with_reducible refine wSk 31 ?_)
   refine a0m st 0 rfl rfl rfl Tryz.underlying167 rfl (by rw [a0g]; kernel_rfl) ?_
   go_wp2_with (with_reducible refine wSn ?_)
   refine a0c st 1 rfl rfl rfl rfl rfl (by rw [a0g, a0g]) (by rw [a0g]; kernel_rfl) (a0f _ _) ?_
   intro w9 st9
   clear st
   have hr := st9.at 1 rfl
   have hfr := st9.fr
   clear st9
   go_wp2
   exact bodyPost_ret (a0B rfl rfl hr Tryz.underlying167 (by rw [a0g]; kernel_rfl)) rfl ⟨rfl, hfr⟩
end Go.Proofs.YtpfimiajoifjaaaGreat
namespace Mvp
def rtN (M x : Nat) : Nat := x ^ (M / 4 + 1)
def b0J (M x : Nat) : Bool := rtN M x * rtN M x % M == x % M
def rtV (M x : Nat) : Nat := if rtN M x % M % 2 = 1 then M - rtN M x % M else rtN M x
end Mvp
namespace Go.Proofs.YtpfimiajoifjaaaGreat
open Go.RowKit Go.Mv Mvp
theorem y0o (m : Md) (h : m.Ok) (x y : Nat) (ty : TypeId) (hu : Tryz.prog.underlying ty = some (.array 4 44)) (w : World) :
  (Op.equal ty (i4 (elN m x)) (.agg (cw 4 (elN m y)).toArray)).run Tryz.prog w = .ok (x % m.M == y % m.M) w := by
 have hb : decide (elN m x % B64 ^ 4 = elN m y % B64 ^ 4) = (x % m.M == y % m.M) := by
  rw [Nat.mod_eq_of_lt (k0y m h x), Nat.mod_eq_of_lt (k0y m h y), Bool.eq_iff_iff]
  simp only [decide_eq_true_eq, beq_iff_eq]
  exact ⟨y0h m h, j0r m⟩
 rw [← hb]
 exact q0A hu Tryz.underlying44 d0r _ _ w
theorem s0Q (x y : Nat) (ty : TypeId) (hg : Tryz.prog.eqGuardType Tryz.prog.depth ty = false) (a b : Operand) (w : World) :
  (eqGuard .neq ty a b (i4 x) (.agg (cw 4 y).toArray)).run Tryz.prog w = .ok () w := run_eqGuard_agg w .neq ty a b _ _ hg
theorem y0p (m : Md) (h : m.Ok) (x y : Nat) (ty : TypeId) (hu : Tryz.prog.underlying ty = some (.array 4 44)) (w : World) :
  (binOp .neq ty (i4 (elN m x)) (.agg (cw 4 (elN m y)).toArray)).run Tryz.prog w = .ok (.bool !(x % m.M == y % m.M)) w := by
 show (do pure (Value.bool (!(← Op.equal ty (i4 (elN m x)) (.agg (cw 4 (elN m y)).toArray))))).run Tryz.prog w = _
 simp only [Sem.run_bind, y0o m h x y ty hu, Result.andThen_ok]
 rfl
theorem j0t (m : Md) (h : m.Ok) (x y : Nat) (ty : TypeId) (hu : Tryz.prog.underlying ty = some (.array 4 44)) (hg : Tryz.prog.eqGuardType Tryz.prog.depth ty = false) {o : Oper} {a : Act} {w : World} {K : Act → World → Prop} {Q : Exit → Act → World → Prop} {p q : Operand} {T : TypeId}
  (ho : o.op = .binOp .neq ty p q T) (hp : a.eval p = i4 (elN m x)) (hq : a.eval q = .agg (cw 4 (elN m y)).toArray) {b : Bool} (hb : (x % m.M == y % m.M) = b) (hk : K (a.put o.dst (.bool !b)) w) : o.wp Tryz.prog a w K Q := by
 have h1 := s0Q (elN m x) (elN m y) ty hg p q w
 have h2 := y0p m h x y ty hu w
 rw [hb] at h2
 unfold Oper.wp execOp
 simp only [ho, hp, hq, Sem.run_bind, h1, h2, Result.andThen_ok, Sem.run_pure]
 exact hk
theorem n0p (v : Nat) (w : World) : (Instr.index 167 (i4 v) (.int .i64 0)).run Tryz.prog w = .ok (.int .u64 (lw v 0 : Nat)) w :=
 e0m (P := Tryz.prog) Tryz.underlying167 Tryz.underlying44 d0r v 0 ap2 .i64 w
theorem m0h (v : Nat) : bits .and .u64 (lw v 0 : Nat) 1 = ((v % 2 : Nat) : Int) := by
 have ha := bits_and_u64_nat (lw v 0) 1 (f0S _ _) ap1
 rw [Nat.and_one_is_mod, v0V] at ha
 rw [v0V]
 refine Eq.trans ha ?_
 congr 1
 omega
attribute [local irreducible] a0v lw mix cw b0e b0f b0a beN b0l b0b a0z a0F elN
theorem o0E (m : Md) (gp : Nat) (w : World) (hok : m.Ok) (hpm : Has w gp (mdL m) 234) (x n : Nat) (hn : m.M / 4 + 1 = n) (hr : ((x ^ n) * (x ^ n) % m.M == x % m.M) = false) :
  Calls Tryz.prog 260 #[.pointer (some ⟨gp, 0, none⟩), i4 (elN m x)] w fun e w' => e = .returned (.tuple #[i4 0, .bool false]) ∧ Fr Nob w w' := by
 have HOK := qH hok
 have HPM := qH hpm
 clear hok hpm
 have HE4 := qH (show n < B64 ^ 4 by subst hn; have := HOK.out.lt; have := HOK.out.one; omega)
 have h1p := fun wx => f0n (m.M / 4) 1 wx
 rw [← c0k 1 ap2, hn] at h1p
 clear hn
 have H1P := qH h1p
 clear h1p
 have HR := qH hr
 clear hr
 have st0 := St.start Nob w
 go_enter Tryz.func260, Tryz.ntmps260
 go_wp2_with (with_reducible refine wSk 3 ?_)
 refine a0r st0 rfl rfl rfl (cw 4 (elN m x)) rfl ?_
 intro g3 w1 st1
 clear st0
 go_wp2_with (with_reducible refine wSk 4 ?_)
 refine a0b st1 rfl rfl (z := zAd) ap0 (cw 4 0) ap5 ?_
 intro g4 w2 st2
 clear st1
 go_wp2_with (with_reducible refine wSk 13 ?_)
 refine c0H rfl rfl Tryz.underlying167 rfl (HPM.out.keep st2.fr id) (cw 4 m.M) (j0U m) ap3 ?_
 go_wp2_with fail
 refine (h0r m.M _ HOK.out.lt).mono ?_
 rintro e' w3 ⟨rfl, hf3⟩
 have st3 := st2.keep hf3
 clear st2 hf3
 go_wp2_with fail
 refine (H1P.out _).mono ?_
 rintro e' w4 ⟨rfl, hf4⟩
 have st4 := st3.keep hf4
 clear st3 hf4
 go_wp2_with (with_reducible refine wSk 6 ?_)
 refine a0b st4 rfl rfl (z := zAd) ap0 (cw 4 0) ap5 ?_
 intro g6 w5 st5
 clear st4
 go_wp2_with (with_reducible refine wSn ?_)
 refine a0c st5 2 rfl rfl rfl rfl rfl ap6 ap3 (a0f _ _) ?_
 intro w6 st6
 clear st5
 go_wp2_with (with_reducible refine wSk 20 ?_)
 refine a0m st6 0 rfl rfl rfl Tryz.underlying123 rfl ap3 ?_
 go_wp2_with (with_reducible refine wSk 21 ?_)
 refine a0m st6 2 rfl rfl rfl Tryz.underlying167 rfl ap3 ?_
 go_wp2_with fail
 refine (g0F m gp _ HOK.out (HPM.out.keep st6.fr id) x n HE4.out).mono ?_
 rintro e' w7 ⟨rfl, hf7⟩
 have st7 := st6.keep hf7
 clear st6 hf7
 go_wp2_with (with_reducible refine wSk 8 ?_)
 refine a0b st7 rfl rfl (z := zAd) ap0 (cw 4 0) ap5 ?_
 intro g8 w8 st8
 clear st7
 go_wp2_with (with_reducible refine wSn ?_)
 refine a0c st8 3 rfl rfl rfl rfl rfl ap6 ap3 (a0f _ _) ?_
 intro w9 st9
 clear st8
 go_wp2_with fail
 refine wp_region_noPanic ?_
 refine a0d (fun wx => St Nob w wx [(g3, cw 4 (elN m x), 123), (g4, cw 4 0, 123), (g6, cw 4 n, 167), (g8, cw 4 (elN m (x ^ n)), 123)]) 4 (.w 0 (.t 1 (.t 3 (.r 2 (.m 4 .nil))))) ap0 ap0 st9.drew (fun _ _ _ _ _ h => h) ?_
 have hd9 := st9.drew
 clear st9
 refine a0a rfl rfl apW ?_
 try simp only [clL]
 refine a0h rfl rfl rfl rfl (cw 4 (elN m (x ^ n))) (fun wx hS => St.rangeL hS 3 rfl 0 _ dZl) Tryz.underlying123 rfl ap3 ?_
 try simp only [clL]
 refine a0h rfl rfl rfl rfl (cw 4 (elN m x)) (fun wx hS => St.rangeL hS 0 rfl 0 _ dZl) Tryz.underlying123 rfl ap3 ?_
 try simp only [clL]
 refine a0q rfl rfl ?_
 go_simp
 refine (d0j m gp _ HOK.out (HPM.out.keep hd9.fr id) (x ^ n)).mono ?_
 rintro e' w10 ⟨rfl, hf10⟩
 have st10 := hd9.keep hf10
 clear hf10
 clear hd9
 refine ⟨st10, ?_⟩
 try simp only [clL]
 refine a0o rfl rfl ?_
 refine j0t m HOK.out ((x ^ n) * (x ^ n)) x 123 Tryz.underlying123 Tryz.eqGuardType123 rfl rfl rfl HR.out ?_
 try simp only [clL]
 refine a0e ?_
 refine NoPanic.normal ?_
 go_wp2_with (with_reducible refine wSn ?_)
 refine a0c st10 1 rfl rfl rfl rfl (cs := cw 4 0) ap5 ap6 ap3 (a0f _ _) ?_
 intro w11 st11
 clear st10
 have hr := st11.at 1 rfl
 have hfr := st11.fr
 clear st11
 go_wp2_with fail
 exact bodyPost_ret (b0O rfl rfl hr Tryz.underlying123 ap3 rfl) rfl ⟨rfl, hfr⟩
theorem o0F (m : Md) (gp : Nat) (w : World) (hok : m.Ok) (hpm : Has w gp (mdL m) 234) (x n : Nat) (hn : m.M / 4 + 1 = n) (hr : ((x ^ n) * (x ^ n) % m.M == x % m.M) = true) (hb : (x ^ n) % m.M % 2 = 0) :
  Calls Tryz.prog 260 #[.pointer (some ⟨gp, 0, none⟩), i4 (elN m x)] w fun e w' => e = .returned (.tuple #[i4 (elN m (x ^ n)), .bool true]) ∧ Fr Nob w w' := by
 have HOK := qH hok
 have HPM := qH hpm
 clear hok hpm
 have HB := qH hb
 have HE4 := qH (show n < B64 ^ 4 by subst hn; have := HOK.out.lt; have := HOK.out.one; omega)
 have h1p := fun wx => f0n (m.M / 4) 1 wx
 rw [← c0k 1 ap2, hn] at h1p
 clear hn
 have H1P := qH h1p
 clear h1p
 have HR := qH hr
 clear hr
 clear hb
 have st0 := St.start Nob w
 go_enter Tryz.func260, Tryz.ntmps260
 go_wp2_with (with_reducible refine wSk 3 ?_)
 refine a0r st0 rfl rfl rfl (cw 4 (elN m x)) rfl ?_
 intro g3 w1 st1
 clear st0
 go_wp2_with (with_reducible refine wSk 4 ?_)
 refine a0b st1 rfl rfl (z := zAd) ap0 (cw 4 0) ap5 ?_
 intro g4 w2 st2
 clear st1
 go_wp2_with (with_reducible refine wSk 13 ?_)
 refine c0H rfl rfl Tryz.underlying167 rfl (HPM.out.keep st2.fr id) (cw 4 m.M) (j0U m) ap3 ?_
 go_wp2_with fail
 refine (h0r m.M _ HOK.out.lt).mono ?_
 rintro e' w3 ⟨rfl, hf3⟩
 have st3 := st2.keep hf3
 clear st2 hf3
 go_wp2_with fail
 refine (H1P.out _).mono ?_
 rintro e' w4 ⟨rfl, hf4⟩
 have st4 := st3.keep hf4
 clear st3 hf4
 go_wp2_with (with_reducible refine wSk 6 ?_)
 refine a0b st4 rfl rfl (z := zAd) ap0 (cw 4 0) ap5 ?_
 intro g6 w5 st5
 clear st4
 go_wp2_with (with_reducible refine wSn ?_)
 refine a0c st5 2 rfl rfl rfl rfl rfl ap6 ap3 (a0f _ _) ?_
 intro w6 st6
 clear st5
 go_wp2_with (with_reducible refine wSk 20 ?_)
 refine a0m st6 0 rfl rfl rfl Tryz.underlying123 rfl ap3 ?_
 go_wp2_with (with_reducible refine wSk 21 ?_)
 refine a0m st6 2 rfl rfl rfl Tryz.underlying167 rfl ap3 ?_
 go_wp2_with fail
 refine (g0F m gp _ HOK.out (HPM.out.keep st6.fr id) x n HE4.out).mono ?_
 rintro e' w7 ⟨rfl, hf7⟩
 have st7 := st6.keep hf7
 clear st6 hf7
 go_wp2_with (with_reducible refine wSk 8 ?_)
 refine a0b st7 rfl rfl (z := zAd) ap0 (cw 4 0) ap5 ?_
 intro g8 w8 st8
 clear st7
 go_wp2_with (with_reducible refine wSn ?_)
 refine a0c st8 3 rfl rfl rfl rfl rfl ap6 ap3 (a0f _ _) ?_
 intro w9 st9
 clear st8
 go_wp2_with fail
 refine wp_region_noPanic ?_
 refine a0d (fun wx => St Nob w wx [(g3, cw 4 (elN m x), 123), (g4, cw 4 0, 123), (g6, cw 4 n, 167), (g8, cw 4 (elN m (x ^ n)), 123)]) 4 (.w 0 (.t 1 (.t 3 (.r 2 (.m 4 .nil))))) ap0 ap0 st9.drew (fun _ _ _ _ _ h => h) ?_
 have hd9 := st9.drew
 clear st9
 refine a0a rfl rfl apW ?_
 try simp only [clL]
 refine a0h rfl rfl rfl rfl (cw 4 (elN m (x ^ n))) (fun wx hS => St.rangeL hS 3 rfl 0 _ dZl) Tryz.underlying123 rfl ap3 ?_
 try simp only [clL]
 refine a0h rfl rfl rfl rfl (cw 4 (elN m x)) (fun wx hS => St.rangeL hS 0 rfl 0 _ dZl) Tryz.underlying123 rfl ap3 ?_
 try simp only [clL]
 refine a0q rfl rfl ?_
 go_simp
 refine (d0j m gp _ HOK.out (HPM.out.keep hd9.fr id) (x ^ n)).mono ?_
 rintro e' w10 ⟨rfl, hf10⟩
 have st10 := hd9.keep hf10
 clear hf10
 clear hd9
 refine ⟨st10, ?_⟩
 try simp only [clL]
 refine a0o rfl rfl ?_
 refine j0t m HOK.out ((x ^ n) * (x ^ n)) x 123 Tryz.underlying123 Tryz.eqGuardType123 rfl rfl rfl HR.out ?_
 try simp only [clL]
 refine a0e ?_
 refine NoPanic.normal ?_
 have hix := fun wx => n0p ((x ^ n) % m.M) wx
 have hla := m0h ((x ^ n) % m.M)
 rw [HB.out] at hla
 go_wp2_with (with_reducible refine wSk 30 ?_)
 refine a0m st10 3 rfl rfl rfl Tryz.underlying123 rfl ap3 ?_
 go_wp2_with fail
 refine (e0o m gp _ HOK.out (HPM.out.keep st10.fr id) (x ^ n)).mono ?_
 rintro e' w11 ⟨rfl, hf11⟩
 have st11 := st10.keep hf11
 clear st10 hf11
 go_wp2_with (with_reducible refine wSk 38 ?_)
 refine a0m st11 3 rfl rfl rfl Tryz.underlying123 rfl ap3 ?_
 go_wp2_with (with_reducible refine wSn ?_)
 refine a0c st11 1 rfl rfl rfl rfl rfl ap6 ap3 (a0f _ _) ?_
 intro w12 st12
 clear st11
 have hr := st12.at 1 rfl
 have hfr := st12.fr
 clear st12
 go_wp2_with fail
 exact bodyPost_ret (b0O rfl rfl hr Tryz.underlying123 ap3 rfl) rfl ⟨rfl, hfr⟩
theorem q0B (m : Md) (gp : Nat) (w : World) (hok : m.Ok) (hpm : Has w gp (mdL m) 234) (x n : Nat) (hn : m.M / 4 + 1 = n) (hr : ((x ^ n) * (x ^ n) % m.M == x % m.M) = true) (hb : (x ^ n) % m.M % 2 = 1) :
  Calls Tryz.prog 260 #[.pointer (some ⟨gp, 0, none⟩), i4 (elN m x)] w fun e w' => e = .returned (.tuple #[i4 (elN m (m.M - (x ^ n) % m.M)), .bool true]) ∧ Fr Nob w w' := by
 have HOK := qH hok
 have HPM := qH hpm
 clear hok hpm
 have HB := qH hb
 have HE4 := qH (show n < B64 ^ 4 by subst hn; have := HOK.out.lt; have := HOK.out.one; omega)
 have h1p := fun wx => f0n (m.M / 4) 1 wx
 rw [← c0k 1 ap2, hn] at h1p
 clear hn
 have H1P := qH h1p
 clear h1p
 have HR := qH hr
 clear hr
 clear hb
 have st0 := St.start Nob w
 go_enter Tryz.func260, Tryz.ntmps260
 go_wp2_with (with_reducible refine wSk 3 ?_)
 refine a0r st0 rfl rfl rfl (cw 4 (elN m x)) rfl ?_
 intro g3 w1 st1
 clear st0
 go_wp2_with (with_reducible refine wSk 4 ?_)
 refine a0b st1 rfl rfl (z := zAd) ap0 (cw 4 0) ap5 ?_
 intro g4 w2 st2
 clear st1
 go_wp2_with (with_reducible refine wSk 13 ?_)
 refine c0H rfl rfl Tryz.underlying167 rfl (HPM.out.keep st2.fr id) (cw 4 m.M) (j0U m) ap3 ?_
 go_wp2_with fail
 refine (h0r m.M _ HOK.out.lt).mono ?_
 rintro e' w3 ⟨rfl, hf3⟩
 have st3 := st2.keep hf3
 clear st2 hf3
 go_wp2_with fail
 refine (H1P.out _).mono ?_
 rintro e' w4 ⟨rfl, hf4⟩
 have st4 := st3.keep hf4
 clear st3 hf4
 go_wp2_with (with_reducible refine wSk 6 ?_)
 refine a0b st4 rfl rfl (z := zAd) ap0 (cw 4 0) ap5 ?_
 intro g6 w5 st5
 clear st4
 go_wp2_with (with_reducible refine wSn ?_)
 refine a0c st5 2 rfl rfl rfl rfl rfl ap6 ap3 (a0f _ _) ?_
 intro w6 st6
 clear st5
 go_wp2_with (with_reducible refine wSk 20 ?_)
 refine a0m st6 0 rfl rfl rfl Tryz.underlying123 rfl ap3 ?_
 go_wp2_with (with_reducible refine wSk 21 ?_)
 refine a0m st6 2 rfl rfl rfl Tryz.underlying167 rfl ap3 ?_
 go_wp2_with fail
 refine (g0F m gp _ HOK.out (HPM.out.keep st6.fr id) x n HE4.out).mono ?_
 rintro e' w7 ⟨rfl, hf7⟩
 have st7 := st6.keep hf7
 clear st6 hf7
 go_wp2_with (with_reducible refine wSk 8 ?_)
 refine a0b st7 rfl rfl (z := zAd) ap0 (cw 4 0) ap5 ?_
 intro g8 w8 st8
 clear st7
 go_wp2_with (with_reducible refine wSn ?_)
 refine a0c st8 3 rfl rfl rfl rfl rfl ap6 ap3 (a0f _ _) ?_
 intro w9 st9
 clear st8
 go_wp2_with fail
 refine wp_region_noPanic ?_
 refine a0d (fun wx => St Nob w wx [(g3, cw 4 (elN m x), 123), (g4, cw 4 0, 123), (g6, cw 4 n, 167), (g8, cw 4 (elN m (x ^ n)), 123)]) 4 (.w 0 (.t 1 (.t 3 (.r 2 (.m 4 .nil))))) ap0 ap0 st9.drew (fun _ _ _ _ _ h => h) ?_
 have hd9 := st9.drew
 clear st9
 refine a0a rfl rfl apW ?_
 try simp only [clL]
 refine a0h rfl rfl rfl rfl (cw 4 (elN m (x ^ n))) (fun wx hS => St.rangeL hS 3 rfl 0 _ dZl) Tryz.underlying123 rfl ap3 ?_
 try simp only [clL]
 refine a0h rfl rfl rfl rfl (cw 4 (elN m x)) (fun wx hS => St.rangeL hS 0 rfl 0 _ dZl) Tryz.underlying123 rfl ap3 ?_
 try simp only [clL]
 refine a0q rfl rfl ?_
 go_simp
 refine (d0j m gp _ HOK.out (HPM.out.keep hd9.fr id) (x ^ n)).mono ?_
 rintro e' w10 ⟨rfl, hf10⟩
 have st10 := hd9.keep hf10
 clear hf10
 clear hd9
 refine ⟨st10, ?_⟩
 try simp only [clL]
 refine a0o rfl rfl ?_
 refine j0t m HOK.out ((x ^ n) * (x ^ n)) x 123 Tryz.underlying123 Tryz.eqGuardType123 rfl rfl rfl HR.out ?_
 try simp only [clL]
 refine a0e ?_
 refine NoPanic.normal ?_
 have hix := fun wx => n0p ((x ^ n) % m.M) wx
 have hla := m0h ((x ^ n) % m.M)
 rw [HB.out] at hla
 go_wp2_with (with_reducible refine wSk 30 ?_)
 refine a0m st10 3 rfl rfl rfl Tryz.underlying123 rfl ap3 ?_
 go_wp2_with fail
 refine (e0o m gp _ HOK.out (HPM.out.keep st10.fr id) (x ^ n)).mono ?_
 rintro e' w11 ⟨rfl, hf11⟩
 have st11 := st10.keep hf11
 clear st10 hf11
 go_wp2_with (with_reducible refine wSk 36 ?_)
 refine a0m st11 3 rfl rfl rfl Tryz.underlying123 rfl ap3 ?_
 go_wp2_with fail
 refine (j0s m gp _ HOK.out (HPM.out.keep st11.fr id) (x ^ n)).mono ?_
 rintro e' w12 ⟨rfl, hf12⟩
 have st12 := st11.keep hf12
 clear st11 hf12
 go_wp2_with (with_reducible refine wSn ?_)
 refine a0c st12 3 rfl rfl rfl rfl rfl ap6 ap3 (a0f _ _) ?_
 intro w13 st13
 clear st12
 go_wp2_with (with_reducible refine wSk 38 ?_)
 refine a0m st13 3 rfl rfl rfl Tryz.underlying123 rfl ap3 ?_
 go_wp2_with (with_reducible refine wSn ?_)
 refine a0c st13 1 rfl rfl rfl rfl rfl ap6 ap3 (a0f _ _) ?_
 intro w14 st14
 clear st13
 have hr := st14.at 1 rfl
 have hfr := st14.fr
 clear st14
 go_wp2_with fail
 exact bodyPost_ret (b0O rfl rfl hr Tryz.underlying123 ap3 rfl) rfl ⟨rfl, hfr⟩
end Go.Proofs.YtpfimiajoifjaaaGreat
namespace Go.Mv
open Go.RowKit Mvp
variable {P : Program}
end Go.Mv
namespace Go.Proofs.YtpfimiajoifjaaaGreat
open Go.RowKit Go.Mv Mvp
theorem g0l {P : Program} {ty : TypeId} {xs ys : Array Value} {b : Bool} (w : World) (h : (Op.equal ty (.agg xs) (.agg ys)).run P w = .ok b w) : (binOp .eql ty (.agg xs) (.agg ys)).run P w = .ok (.bool b) w := by
 show (do pure (Value.bool (← Op.equal ty (.agg xs) (.agg ys)))).run P w = _
 simp only [Sem.run_bind, h, Result.andThen_ok]
 rfl
theorem f0U {P : Program} {op : BinOp} {ty : TypeId} {o : Oper} {a : Act} {p q : Operand} {T : TypeId} {x y v : Value} (ho : o.op = .binOp op ty p q T) (hp : a.eval p = x) (hq : a.eval q = y) (w : World)
  (h1 : (eqGuard op ty p q x y).run P w = .ok () w) (h2 : (binOp op ty x y).run P w = .ok v w) : (execOp a.eval o).run P w = .ok (.value v) w := by
 subst hp hq
 unfold execOp
 simp only [ho, Sem.run_bind, h1, h2, Result.andThen_ok, Sem.run_pure]
theorem q0C (m : Md) (h : m.Ok) (x y : Nat) {o : Oper} {a : Act} {p q : Operand} {T ty : TypeId} (hu : Tryz.prog.underlying ty = some (.array 4 44)) (hg : Tryz.prog.eqGuardType Tryz.prog.depth ty = false) (ho : o.op = .binOp .eql ty p q T) (hp : a.eval p = i4 (elN m x)) (hq : a.eval q = i4 (elN m y)) {b : Bool} (hb : (x % m.M == y % m.M) = b) (w : World) :
  (execOp a.eval o).run Tryz.prog w = .ok (.value (.bool b)) w := by
 subst hb
 exact f0U ho hp hq w (run_eqGuard_agg w .eql ty p q _ _ hg) (g0l w (y0o m h x y ty hu w))
theorem m0i {o : Oper} {a : Act} {w : World} {P : Program} {ops : Array Oper} {rest : List Oper} {Q : Exit → Act → World → Prop} {v : Value} (hgd : o.guard = none) (hx : (execOp a.eval o).run P w = .ok (.value v) w) (h : wpList P ops Q rest (a.put o.dst v) w) : wpList P ops Q (o :: rest) a w := by
 refine wpList_plain hgd fun K hK => ?_
 unfold Oper.wp
 rw [hx]
 exact hK _ _ h
attribute [local irreducible] a0v lw mix cw b0e b0f b0a beN b0l b0b a0z a0F elN mdL b0m
theorem s0R : (Value.agg #[.int .u64 0, .int .u64 0, .int .u64 0, .int .u64 0]) = i4 0 := by rw [i4, e0l]; rfl
theorem s0S : Tryz.prog.built 123 [] = some #[.int .u64 0, .int .u64 0, .int .u64 0, .int .u64 0] := by kernel_rfl
theorem d0k (m : Md) (hok : m.Ok) (x : Nat) (b : Bool) (hb : (x % m.M == 0) = b) (w : World) :
  Calls Tryz.prog 245 #[i4 (elN m x)] w fun e w' => e = .returned (.bool b) ∧ Fr Nob w w' := by
 have HOK := qH hok
 have HB := qH (show (x % m.M == 0 % m.M) = b by rw [Nat.zero_mod]; exact hb)
 have HZ := qH (show i4 0 = i4 (elN m 0) by rw [d0u])
 clear hok hb
 have st0 := St.start Nob w
 go_enter Tryz.func245, Tryz.ntmps245
 go_wp2_with (with_reducible refine wSk 1 ?_)
 refine a0r st0 rfl rfl rfl (cw 4 (elN m x)) rfl ?_
 intro g1 w1 st1
 clear st0
 go_wp2_with (with_reducible refine wSk 3 ?_)
 refine a0m st1 0 rfl rfl rfl Tryz.underlying123 rfl ap3 ?_
 go_wp2_with (with_reducible refine wSk 4 ?_)
 refine c0r rfl rfl _ s0S ?_
 rw [s0R, HZ.out]
 go_wp2_with (with_reducible refine wSk 5 ?_)
 refine m0i rfl (q0C m HOK.out x 0 Tryz.underlying123 Tryz.eqGuardType123 rfl rfl rfl HB.out _) ?_
 have hfr := st1.fr
 clear st1
 go_wp2_with fail
 go_ret
 exact ⟨rfl, hfr⟩
theorem q0D (m : Md) (hok : m.Ok) (x : Nat) (b : Bool) (hb : (x % m.M == 0) = b) (w : World) :
  Calls Tryz.prog 220 #[i4 (elN m x)] w fun e w' => e = .returned (.bool b) ∧ Fr Nob w w' := by
 have HOK := qH hok
 have HB := qH hb
 clear hok hb
 have st0 := St.start Nob w
 go_enter Tryz.func220, Tryz.ntmps220
 go_wp2_with (with_reducible refine wSk 1 ?_)
 refine a0r st0 rfl rfl rfl (cw 4 (elN m x)) rfl ?_
 intro g1 w1 st1
 clear st0
 go_wp2_with (with_reducible refine wSk 4 ?_)
 refine a0m st1 0 rfl rfl rfl Tryz.underlying123 rfl ap3 ?_
 go_wp2_with fail
 refine (d0k m HOK.out x b HB.out _).mono ?_
 rintro e' w2 ⟨rfl, hf2⟩
 have st2 := st1.keep hf2
 clear st1 hf2
 have hfr := st2.fr
 clear st2
 go_wp2_with fail
 go_ret
 exact ⟨rfl, hfr⟩
theorem o0G (v : Int) : Tryz.prog.built 167 [(0, .int .u64 v)] = some #[.int .u64 v, .int .u64 0, .int .u64 0, .int .u64 0] := by kernel_rfl
theorem i0C (m : Md) (gp : Nat) (w : World) (hok : m.Ok) (hpm : Has w gp (mdL m) 234) (k : Nat) (hk : k < 18446744073709551616) :
  Calls Tryz.prog 155 #[.pointer (some ⟨gp, 0, none⟩), .int .u64 (k : Int)] w fun e w' => e = .returned (i4 (elN m k)) ∧ Fr Nob w w' := by
 have HOK := qH hok
 have HPM := qH hpm
 have HW := qH (c0k k hk)
 have HK4 := qH (show k < B64 ^ 4 from Nat.lt_of_lt_of_le hk ap2)
 clear hok hpm hk
 have st0 := St.start Nob w
 go_enter Tryz.func155, Tryz.ntmps155
 go_wp2_with (with_reducible refine wSk 4 ?_)
 refine a0b st0 rfl rfl (z := zAd) ap0 (cw 4 0) ap5 ?_
 intro g4 w1 st1
 clear st0
 go_wp2_with (with_reducible refine wSk 7 ?_)
 refine b0M rfl rfl _ (o0G (k : Int)) ?_
 rw [HW.out]
 go_wp2_with fail
 refine (c0O m gp _ HOK.out (HPM.out.keep st1.fr id) k HK4.out).mono ?_
 rintro e' w2 ⟨rfl, hf2⟩
 have st2 := st1.keep hf2
 clear st1 hf2
 go_wp2_with (with_reducible refine wSn ?_)
 refine a0c st2 0 rfl rfl rfl rfl rfl ap6 ap3 (a0f _ _) ?_
 intro w3 st3
 clear st2
 have hr := st3.at 0 rfl
 have hfr := st3.fr
 clear st3
 go_wp2_with fail
 exact bodyPost_ret (a0B rfl rfl hr Tryz.underlying123 ap3) rfl ⟨rfl, hfr⟩
theorem o0H (m : Md) (hk : KindOf 1 m) (k : Nat) (hk4 : k < 18446744073709551616) (w : World) :
  Calls Tryz.prog 64 #[.int .u64 (k : Int)] w fun e w' => e = .returned (i4 (elN m k)) ∧ Fr Nob w w' := by
 have HK := qH hk
 have HOK := qH hk.ok
 clear hk
 have HK4 := qH hk4
 clear hk4
 have st0 := St.start Nob w
 go_enter Tryz.func64, Tryz.ntmps64
 go_wp2_with (with_reducible refine wSk 2 ?_)
 refine a0b st0 rfl rfl (z := zAd) ap0 (cw 4 0) ap5 ?_
 intro g2 w1 st1
 clear st0
 go_wp2_with fail
 refine (c0v m HK.out _).mono ?_
 rintro e' w2 ⟨gp, rfl, hle, hm, hf2⟩
 have st2 : St Nob w w2 [(g2, cw 4 0, 125), (gp, mdL m, 234)] := st1.new hf2 hm hle
 clear st1 hf2 hm hle
 go_wp2_with fail
 refine (i0C m gp _ HOK.out (st2.at 1 rfl) k HK4.out).mono ?_
 rintro e' w3 ⟨rfl, hf3⟩
 have st3 := st2.keep hf3
 clear st2 hf3
 go_wp2_with (with_reducible refine wSk 6 ?_)
 refine b0M rfl rfl _ (e0W _) ?_
 go_wp2_with (with_reducible refine wSn ?_)
 refine a0c st3 0 rfl rfl rfl rfl rfl ap6 ap3 (a0f _ _) ?_
 intro w4 st4
 clear st3
 have hr := st4.at 0 rfl
 have hfr := st4.fr
 clear st4
 go_wp2_with fail
 exact bodyPost_ret (a0y rfl rfl hr Tryz.underlying125 rfl ap3) rfl ⟨rfl, hfr⟩
theorem i0D (m : Md) (hk : KindOf 1 m) (x : Nat) (w : World) :
  Calls Tryz.prog 119 #[i4 (elN m x)] w fun e w' => ∃ v, e = .returned v ∧ Own w' w.heap.size 5 1 v 32 (bs (b0b (x % m.M))) ∧ Fr Nob w w' := by
 have HK := qH hk
 have HOK := qH hk.ok
 clear hk
 have st0 := St.start Nob w
 go_enter Tryz.func119, Tryz.ntmps119
 go_wp2_with (with_reducible refine wSk 1 ?_)
 refine a0r st0 rfl rfl rfl (cw 4 (elN m x)) rfl ?_
 intro g1 w1 st1
 clear st0
 go_wp2_with fail
 refine wp_region_noPanic ?_
 refine a0d (fun wx => St Nob w wx [(g1, cw 4 (elN m x), 125)]) 5 (.w 1 (.t 2 (.r 0 (.r 3 (.r 4 (.m 5 .nil)))))) ap0 ap0 st1.drew (fun _ _ _ _ _ h => h) ?_
 have hd1 := st1.drew
 clear st1
 refine a0a rfl rfl apW ?_
 try simp only [clL]
 refine a0h rfl rfl rfl rfl (cw 4 (elN m x)) (fun wx hS => St.rangeL hS 0 rfl 0 _ dZl) Tryz.underlying123 rfl ap3 ?_
 try simp only [clL]
 refine a0q rfl rfl ?_
 go_simp
 refine (c0v m HK.out _).mono ?_
 rintro e' w2 ⟨gp, rfl, hle, hm, hf2⟩
 have st2 : St Nob w w2 [(g1, cw 4 (elN m x), 125), (gp, mdL m, 234)] := hd1.new hf2 hm hle
 clear hf2 hm hle
 clear hd1
 refine ⟨St.less st2 ap4, ?_⟩
 try simp only [clL]
 refine a0q rfl rfl ?_
 go_simp
 refine (e0o m gp _ HOK.out (st2.at 1 rfl) x).mono ?_
 rintro e' w3 ⟨rfl, hf3⟩
 have st3 := st2.keep hf3
 clear hf3
 clear st2
 refine ⟨St.less st3 ap4, ?_⟩
 try simp only [clL]
 refine a0q rfl rfl ?_
 go_simp
 refine (i0y (x % m.M) _).mono ?_
 rintro e' w4 ⟨v, rfl, hown, hf4⟩
 have st4 := st3.keep hf4
 have HSZ := st3.fr.size
 obtain ⟨av, cv, hve, hcv, hrv, -⟩ := hown.form
 subst hve
 have HOWN := qH (hown.mono (HSZ))
 clear hown hrv
 clear hf4
 clear st3
 refine ⟨St.less st4 ap4, ?_⟩
 try simp only [clL]
 refine a0o rfl rfl ?_
 go_simp
 try simp only [clL]
 refine a0e ?_
 refine NoPanic.normal ?_
 have hfr := st4.fr
 clear st4
 go_wp2_with fail
 go_ret
 exact ⟨_, rfl, HOWN.out, hfr⟩
end Go.Proofs.YtpfimiajoifjaaaGreat
namespace Go.Mv
open Go.RowKit
end Go.Mv
namespace Go.Proofs.YtpfimiajoifjaaaGreat
section
open Go.RowKit Go.Mv Mvp
def ptL (m : Md) (x y z : Nat) : List Value := cw 4 (elN m x) ++ (cw 4 (elN m y) ++ cw 4 (elN m z))
def ptV (m : Md) (x y z : Nat) : Value := .agg (ptL m x y z).toArray
def d0v (m : Md) (gp bx by_ : Nat) : List Value := [.pointer (some ⟨gp, 0, none⟩)] ++ (cw 4 (elN m 7) ++ ptL m bx by_ 1)
theorem e0p (m : Md) (x y z : Nat) : (ptL m x y z).length = 12 := by simp [ptL, a0g]
theorem k0D (m : Md) (gp bx by_ : Nat) : ((d0v m gp bx by_).drop 1).take (cw 4 (elN m 7)).length = cw 4 (elN m 7) := by
 unfold d0v
 rw [List.singleton_append, List.drop_succ_cons, List.drop_zero, List.take_left]
theorem s0T (m : Md) (gp bx by_ : Nat) : ((d0v m gp bx by_).drop 5).take (ptL m bx by_ 1).length = ptL m bx by_ 1 := by
 have h : ([Value.pointer (some ⟨gp, 0, none⟩)] ++ cw 4 (elN m 7)).length = 5 := by rw [List.length_append, a0g]; rfl
 unfold d0v
 rw [← List.append_assoc, List.drop_append_of_le_length ap1, List.drop_of_length_le ap1, List.nil_append, List.take_of_length_le (Nat.le_refl _)]
theorem x0H (a b c : Nat) : ((cw 4 a ++ (cw 4 b ++ cw 4 c)).drop 0).take (cw 4 a).length = cw 4 a := by
 rw [List.drop_zero, List.take_left]
theorem x0I (a b c : Nat) : ((cw 4 a ++ (cw 4 b ++ cw 4 c)).drop 4).take (cw 4 b).length = cw 4 b := by
 have h : (cw 4 a).length = 4 := a0g _ _
 rw [List.drop_append_of_le_length ap1, List.drop_of_length_le ap1, List.nil_append, List.take_left]
theorem s0k (a b c : Nat) : ((cw 4 a ++ (cw 4 b ++ cw 4 c)).drop 8).take (cw 4 c).length = cw 4 c := by
 have h : (cw 4 a ++ cw 4 b).length = 8 := by rw [List.length_append, a0g, a0g]
 rw [← List.append_assoc, List.drop_append_of_le_length ap1, List.drop_of_length_le ap1, List.nil_append, List.take_of_length_le (Nat.le_refl _)]
theorem b0p (a b c : Nat) : ∀ v ∈ cw 4 a ++ (cw 4 b ++ cw 4 c), v.oneCell' = true := by
 intro v hv
 simp only [List.mem_append] at hv
 rcases hv with h | h | h <;> exact a0f _ _ v h
theorem e0y (a b c : Nat) : Tryz.prog.built 174 [(0, i4 a), (1, i4 b), (2, i4 c)] = some (cw 4 a ++ (cw 4 b ++ cw 4 c)).toArray := by kernel_rfl
theorem q0E (a b : Nat) : Tryz.prog.built 174 [(0, i4 a), (1, i4 b)] = some (cw 4 a ++ (cw 4 b ++ cw 4 0)).toArray := by kernel_rfl
attribute [local irreducible] a0v lw mix cw b0e b0f b0a beN b0l b0b a0z a0F elN mdL b0m
theorem c0Z (m : Md) (hok : m.Ok) (x y z : Nat) (b : Bool) (hb : (z % m.M == 0) = b) (w : World) :
  Calls Tryz.prog 188 #[ptV m x y z] w fun e w' => e = .returned (.bool b) ∧ Fr Nob w w' := by
 have HOK := qH hok
 have HB := qH hb
 clear hok hb
 unfold ptV ptL
 have st0 := St.start Nob w
 go_enter Tryz.func188, Tryz.ntmps188
 go_wp2_with (with_reducible refine wSk 1 ?_)
 refine a0r st0 rfl rfl rfl (cw 4 (elN m x) ++ (cw 4 (elN m y) ++ cw 4 (elN m z))) rfl ?_
 intro g1 w1 st1
 clear st0
 go_wp2_with (with_reducible refine wSk 4 ?_)
 refine c0H rfl rfl Tryz.underlying123 rfl (st1.at 0 rfl) (cw 4 (elN m z)) (s0k _ _ _) ap3 ?_
 go_wp2_with fail
 refine (d0k m HOK.out z b HB.out _).mono ?_
 rintro e' w2 ⟨rfl, hf2⟩
 have st2 := st1.keep hf2
 clear st1 hf2
 have hfr := st2.fr
 clear st2
 go_wp2_with fail
 go_ret
 exact ⟨rfl, hfr⟩
theorem k0E (m : Md) (gc gp bx by_ : Nat) (w : World) (hok : m.Ok) (hcv : Has w gc (d0v m gp bx by_) 184) (hpm : Has w gp (mdL m) 234) (x y z : Nat) :
  Calls Tryz.prog 226 #[.pointer (some ⟨gc, 0, none⟩), ptV m x y z] w fun e w' => e = .returned (ptV m x (m.M - y % m.M) z) ∧ Fr Nob w w' := by
 have HOK := qH hok
 have HCV := qH hcv
 have HPM := qH hpm
 clear hok hcv hpm
 unfold ptV ptL
 have st0 := St.start Nob w
 go_enter Tryz.func226, Tryz.ntmps226
 go_wp2_with (with_reducible refine wSk 3 ?_)
 refine a0r st0 rfl rfl rfl (cw 4 (elN m x) ++ (cw 4 (elN m y) ++ cw 4 (elN m z))) rfl ?_
 intro g3 w1 st1
 clear st0
 go_wp2_with (with_reducible refine wSk 4 ?_)
 refine a0b st1 rfl rfl (z := zAc) ap0 (cw 12 0) ap5 ?_
 intro g4 w2 st2
 clear st1
 go_wp2_with fail
 refine wp_region_noPanic ?_
 refine a0d (fun wx => St Nob w wx [(g3, cw 4 (elN m x) ++ (cw 4 (elN m y) ++ cw 4 (elN m z)), 174), (g4, cw 12 0, 174)]) 12 (.w 0 (.t 1 (.w 2 (.w 3 (.w 4 (.t 5 (.w 6 (.t 7 (.w 9 (.t 10 (.r 8 (.w 11 (.m 12 .nil))))))))))))) ap0 ap0 st2.drew (fun _ _ _ _ _ h => h) ?_
 have hd2 := st2.drew
 clear st2
 refine a0a rfl rfl apW ?_
 try simp only [clL]
 refine a0h rfl rfl rfl rfl (cw 4 (elN m x)) (fun wx hS => St.rangeL hS 0 rfl 0 _ (x0H _ _ _)) Tryz.underlying123 rfl ap3 ?_
 try simp only [clL]
 refine a0a rfl rfl apW ?_
 try simp only [clL]
 refine a0a rfl rfl apW ?_
 try simp only [clL]
 refine a0a rfl rfl apW ?_
 try simp only [clL]
 refine a0L (v := ?_) rfl rfl (fun wx hS => ?_) ?_
 rotate_left 1
 ·(have hc := (HCV.out.keep (St.fr hS) id).cell (i := 0) rfl; clear hS; go_simp; with_reducible rfl)
 try simp only [clL]
 refine a0a rfl rfl apW ?_
 try simp only [clL]
 refine a0h rfl rfl rfl rfl (cw 4 (elN m y)) (fun wx hS => St.rangeL hS 0 rfl 4 _ (x0I _ _ _)) Tryz.underlying123 rfl ap3 ?_
 try simp only [clL]
 refine a0a rfl rfl apW ?_
 try simp only [clL]
 refine a0h rfl rfl rfl rfl (cw 4 (elN m z)) (fun wx hS => St.rangeL hS 0 rfl 8 _ (s0k _ _ _)) Tryz.underlying123 rfl ap3 ?_
 try simp only [clL]
 refine a0q rfl rfl ?_
 go_simp
 refine (j0s m gp _ HOK.out (HPM.out.keep hd2.fr id) y).mono ?_
 rintro e' w3 ⟨rfl, hf3⟩
 have st3 := hd2.keep hf3
 clear hf3
 clear hd2
 refine ⟨st3, ?_⟩
 try simp only [clL]
 refine a0a rfl rfl (b0v rfl _ (e0y _ _ _)) ?_
 try simp only [clL]
 refine a0o rfl rfl ?_
 refine a0i st3 1 rfl rfl rfl rfl ap6 ap3 (b0p _ _ _) ?_
 intro w4 st4
 clear st3
 try simp only [Act.put]
 refine a0e ?_
 refine NoPanic.normal ?_
 have hr := st4.at 1 rfl
 have hfr := st4.fr
 clear st4
 go_wp2_with fail
 exact bodyPost_ret (a0y rfl rfl hr Tryz.underlying174 rfl ap3) rfl ⟨rfl, hfr⟩
end
section
open Go.RowKit Go.Mv Mvp
theorem A0E : (Tryz.prog.info? 174).map (·.zero) = some (some (.agg (cw 12 0).toArray)) := by kernel_rfl
theorem i0b : (Tryz.prog.info? 123).map (·.zero) = some (some (.agg (cw 4 0).toArray)) := by kernel_rfl
theorem b0C (m : Md) (gp : Nat) (w : World) (hok : m.Ok) (hpm : Has w gp (mdL m) 234) (x r : Nat) (hr : x * x = r) :
  Calls Tryz.prog 189 #[.pointer (some ⟨gp, 0, none⟩), i4 (elN m x)] w fun e w' => e = .returned (i4 (elN m r)) ∧ Fr Nob w w' := by
 subst hr; exact d0j m gp w hok hpm x
theorem b0Y (m : Md) (gp : Nat) (w : World) (hok : m.Ok) (hpm : Has w gp (mdL m) 234) (x y r : Nat) (hr : x * y = r) :
  Calls Tryz.prog 180 #[.pointer (some ⟨gp, 0, none⟩), i4 (elN m x), i4 (elN m y)] w fun e w' => e = .returned (i4 (elN m r)) ∧ Fr Nob w w' := by
 subst hr; exact s0M m gp w hok hpm x y
theorem d0t (m : Md) (gp : Nat) (w : World) (hok : m.Ok) (hpm : Has w gp (mdL m) 234) (x y r : Nat) (hr : x + y = r) :
  Calls Tryz.prog 207 #[.pointer (some ⟨gp, 0, none⟩), i4 (elN m x), i4 (elN m y)] w fun e w' => e = .returned (i4 (elN m r)) ∧ Fr Nob w w' := by
 subst hr; exact f0s m gp w hok hpm x y
theorem f0u (m : Md) (gp : Nat) (w : World) (hok : m.Ok) (hpm : Has w gp (mdL m) 234) (x y r : Nat) (hr : x + (m.M - y % m.M) = r) :
  Calls Tryz.prog 181 #[.pointer (some ⟨gp, 0, none⟩), i4 (elN m x), i4 (elN m y)] w fun e w' => e = .returned (i4 (elN m r)) ∧ Fr Nob w w' := by
 subst hr; exact n0l m gp w hok hpm x y
attribute [local irreducible] a0v lw mix cw b0e b0f b0a beN b0l b0b a0z a0F elN mdL b0m
theorem m0j (m : Md) (gc gp bx by_ : Nat) (w : World) (hok : m.Ok) (hcv : Has w gc (d0v m gp bx by_) 184) (hpm : Has w gp (mdL m) 234) (x y z : Nat) (hb : (z % m.M == 0) = true) :
  Calls Tryz.prog 193 #[.pointer (some ⟨gc, 0, none⟩), ptV m x y z] w fun e w' => e = .returned (ptV m x y z) ∧ Fr Nob w w' := by
 have HOK := qH hok
 have HCV := qH hcv
 have HPM := qH hpm
 clear hok hcv hpm
 have HB := qH hb
 clear hb
 unfold ptV ptL
 have st0 := St.start Nob w
 go_enter Tryz.func193, Tryz.ntmps193
 go_wp2_with (with_reducible refine wSk 3 ?_)
 refine a0r st0 rfl rfl rfl (cw 4 (elN m x) ++ (cw 4 (elN m y) ++ cw 4 (elN m z))) rfl ?_
 intro g3 w1 st1
 clear st0
 go_wp2_with (with_reducible refine wSk 4 ?_)
 refine a0b st1 rfl rfl (z := zAc) ap0 (cw 12 0) ap5 ?_
 intro g4 w2 st2
 clear st1
 go_wp2_with (with_reducible refine wSk 13 ?_)
 refine a0s st2 0 rfl rfl rfl Tryz.underlying174 rfl rfl ap0 ?_
 go_wp2_with fail
 refine (c0Z m HOK.out x y z true HB.out _).mono ?_
 rintro e' w3 ⟨rfl, hf3⟩
 have st3 := st2.keep hf3
 clear st2 hf3
 go_wp2_with (with_reducible refine wSk 15 ?_)
 refine a0s st3 0 rfl rfl rfl Tryz.underlying174 rfl rfl ap0 ?_
 go_wp2_with (with_reducible refine wSn ?_)
 refine a0c st3 1 rfl rfl rfl rfl rfl ap8 ap0 (b0p _ _ _) ?_
 intro w4 st4
 clear st3
 have hr := st4.at 1 rfl
 have hfr := st4.fr
 clear st4
 go_wp2_with fail
 exact bodyPost_ret (a0y rfl rfl hr Tryz.underlying174 rfl ap0) rfl ⟨rfl, hfr⟩
theorem s0U (m : Md) (gc gp bx by_ : Nat) (w : World) (hok : m.Ok) (hcv : Has w gc (d0v m gp bx by_) 184) (hpm : Has w gp (mdL m) 234) (x y z : Nat) (hb : (z % m.M == 0) = false) (a b bb s1 s2 s3 d1 d e1 ee f1 f2 X k1 k2 k3 z1 h1 h2 Y Z : Nat) (ea : x * x = a) (eb : y * y = b) (ebb : b * b = bb) (es1 : x + b = s1) (es2 : s1 * s1 = s2) (es3 : a + bb = s3) (ed1 : s2 + (m.M - s3 % m.M) = d1) (ed : d1 + d1 = d) (ee1 : a + a = e1) (eee : e1 + a = ee) (ef1 : ee * ee = f1) (ef2 : d + d = f2) (eX : f1 + (m.M - f2 % m.M) = X) (ek1 : bb + bb = k1) (ek2 : k1 + k1 = k2) (ek3 : k2 + k2 = k3) (ez1 : y * z = z1) (eh1 : d + (m.M - X % m.M) = h1) (eh2 : ee * h1 = h2) (eY : h2 + (m.M - k3 % m.M) = Y) (eZ : z1 + z1 = Z) :
  Calls Tryz.prog 193 #[.pointer (some ⟨gc, 0, none⟩), ptV m x y z] w fun e w' => e = .returned (ptV m X Y Z) ∧ Fr Nob w w' := by
 have HOK := qH hok
 have HCV := qH hcv
 have HPM := qH hpm
 clear hok hcv hpm
 have HB := qH hb
 have Ha := qH ea
 have Hb := qH eb
 have Hbb := qH ebb
 have Hs1 := qH es1
 have Hs2 := qH es2
 have Hs3 := qH es3
 have Hd1 := qH ed1
 have Hd := qH ed
 have He1 := qH ee1
 have Hee := qH eee
 have Hf1 := qH ef1
 have Hf2 := qH ef2
 have HX := qH eX
 have Hk1 := qH ek1
 have Hk2 := qH ek2
 have Hk3 := qH ek3
 have Hz1 := qH ez1
 have Hh1 := qH eh1
 have Hh2 := qH eh2
 have HY := qH eY
 have HZ := qH eZ
 clear hb ea eb ebb es1 es2 es3 ed1 ed ee1 eee ef1 ef2 eX ek1 ek2 ek3 ez1 eh1 eh2 eY eZ
 unfold ptV ptL
 have st0 := St.start Nob w
 go_enter Tryz.func193, Tryz.ntmps193
 go_wp2_with (with_reducible refine wSk 3 ?_)
 refine a0r st0 rfl rfl rfl (cw 4 (elN m x) ++ (cw 4 (elN m y) ++ cw 4 (elN m z))) rfl ?_
 intro g3 w1 st1
 clear st0
 go_wp2_with (with_reducible refine wSk 4 ?_)
 refine a0b st1 rfl rfl (z := zAc) ap0 (cw 12 0) ap5 ?_
 intro g4 w2 st2
 clear st1
 go_wp2_with (with_reducible refine wSk 13 ?_)
 refine a0s st2 0 rfl rfl rfl Tryz.underlying174 rfl rfl ap0 ?_
 go_wp2_with fail
 refine (c0Z m HOK.out x y z false HB.out _).mono ?_
 rintro e' w3 ⟨rfl, hf3⟩
 have st3 := st2.keep hf3
 clear st2 hf3
 go_wp2_with fail
 refine wp_region_noPanic ?_
 refine a0k st3 17 [.o 14, .o 15, .w 0, .w 1, .w 2, .t 3, .w 4, .t 5, .w 7, .w 8, .w 9, .t 10, .w 11, .t 12, .c 6, .c 13, .j 14, .j 15] (.r 16 (.m 17 .nil)) ap0 ap0 (fun _ _ _ _ _ h => h) ?_
 clear st3
 refine c0K rfl rfl rfl i0b (cw 4 0) rfl ?_
 try simp only [clL]
 refine c0K rfl rfl rfl i0b (cw 4 0) rfl ?_
 try simp only [clL]
 iterate 3 (refine a0n rfl rfl apX ?_; try simp only [clL])
 refine a0P (v := ?_) rfl rfl (fun xq wx hS => ?_) ?_
 rotate_left 1
 ·(have hc := (HCV.out.keep (St.fr hS) id).cell (i := 0) rfl; clear hS; go_simp; with_reducible rfl)
 try simp only [clL]
 refine a0n rfl rfl apX ?_
 try simp only [clL]
 refine a0j rfl rfl rfl (fun _ => rfl) (cw 4 (elN m x)) (fun wx hS => St.rangeL hS 0 rfl 0 _ (x0H _ _ _)) Tryz.underlying123 rfl ap0 ?_
 try simp only [clL]
 iterate 3 (refine a0n rfl rfl apX ?_; try simp only [clL])
 refine a0P (v := ?_) rfl rfl (fun xq wx hS => ?_) ?_
 rotate_left 1
 ·(have hc := (HCV.out.keep (St.fr hS) id).cell (i := 0) rfl; clear hS; go_simp; with_reducible rfl)
 try simp only [clL]
 refine a0n rfl rfl apX ?_
 try simp only [clL]
 refine a0j rfl rfl rfl (fun _ => rfl) (cw 4 (elN m y)) (fun wx hS => St.rangeL hS 0 rfl 4 _ (x0I _ _ _)) Tryz.underlying123 rfl ap0 ?_
 try simp only [clL]
 refine a0l rfl rfl rfl Tryz.call189 (fun w hS hR => b0C m gp _ HOK.out (HPM.out.keep hS.fr id) x a Ha.out) (fun _ => rfl) ?_
 try simp only [clL]
 refine a0l rfl rfl rfl Tryz.call189 (fun w hS hR => b0C m gp _ HOK.out (HPM.out.keep hS.fr id) y b Hb.out) (fun _ => rfl) ?_
 try simp only [clL]
 refine c0A (List.mem_cons_of_mem _ List.mem_cons_self) fun g5 => ?_
 simp only [upd, reduceIte]
 try simp only [Nat.reduceEqDiff, reduceIte]
 refine c0A List.mem_cons_self fun g6 => ?_
 simp only [upd, reduceIte]
 refine a0J fun xq w4 st4 hR => ?_
 try dsimp only
 clear hR xq
 refine a0q rfl rfl ?_
 refine a0i st4 2 rfl rfl rfl rfl ap8 ap0 (a0f _ _) ?_
 intro w5 st5
 repeat (first | simp only [List.cons_append] at st5 | simp only [List.nil_append] at st5 | simp only [List.set_cons_succ] at st5 | simp only [List.set_cons_zero] at st5)
 clear st4
 refine ⟨by first | exact st5 | exact St.less st5 ap4, ?_⟩
 try simp only [Act.put]
 refine a0o rfl rfl ?_
 refine a0i st5 3 rfl rfl rfl rfl ap8 ap0 (a0f _ _) ?_
 intro w6 st6
 try simp only [List.set_cons_zero, List.set_cons_succ] at st6
 clear st5
 try simp only [Act.put]
 refine a0e ?_
 refine NoPanic.normal ?_
 go_wp2_with fail
 refine wp_region_noPanic ?_
 refine a0k st6 7 [.o 6, .w 0, .w 1, .w 2, .t 3, .t 4, .c 5, .j 6] (.m 7 .nil) ap0 ap0 (fun _ _ _ _ _ h => h) ?_
 clear st6
 refine c0K rfl rfl rfl i0b (cw 4 0) rfl ?_
 try simp only [clL]
 iterate 3 (refine a0n rfl rfl apX ?_; try simp only [clL])
 refine a0P (v := ?_) rfl rfl (fun xq wx hS => ?_) ?_
 rotate_left 1
 ·(have hc := (HCV.out.keep (St.fr hS) id).cell (i := 0) rfl; clear hS; go_simp; with_reducible rfl)
 try simp only [clL]
 refine a0j rfl rfl rfl (fun _ => rfl) (cw 4 (elN m b)) (fun wx hS => St.rangeL hS 3 rfl 0 _ dZl) Tryz.underlying123 rfl ap0 ?_
 try simp only [clL]
 refine a0l rfl rfl rfl Tryz.call189 (fun w hS hR => b0C m gp _ HOK.out (HPM.out.keep hS.fr id) b bb Hbb.out) (fun _ => rfl) ?_
 try simp only [clL]
 refine c0A List.mem_cons_self fun g7 => ?_
 simp only [upd, reduceIte]
 refine a0J fun xq w7 st7 hR => ?_
 try dsimp only
 clear hR xq
 refine a0o rfl rfl ?_
 refine a0i st7 4 rfl rfl rfl rfl ap8 ap0 (a0f _ _) ?_
 intro w8 st8
 repeat (first | simp only [List.cons_append] at st8 | simp only [List.nil_append] at st8 | simp only [List.set_cons_succ] at st8 | simp only [List.set_cons_zero] at st8)
 clear st7
 try simp only [Act.put]
 refine a0e ?_
 refine NoPanic.normal ?_
 go_wp2_with fail
 refine wp_region_noPanic ?_
 refine a0k st8 26 [.o 25, .w 0, .w 1, .w 2, .t 3, .w 4, .w 5, .w 6, .t 7, .w 8, .w 9, .w 10, .t 11, .w 12, .t 13, .t 14, .w 17, .w 18, .w 19, .t 20, .t 21, .t 22, .c 15, .c 16, .c 23, .c 24, .j 25] (.m 26 .nil) ap0 ap0 (fun _ _ _ _ _ h => h) ?_
 clear st8
 refine c0K rfl rfl rfl i0b (cw 4 0) rfl ?_
 try simp only [clL]
 iterate 3 (refine a0n rfl rfl apX ?_; try simp only [clL])
 refine a0P (v := ?_) rfl rfl (fun xq wx hS => ?_) ?_
 rotate_left 1
 ·(have hc := (HCV.out.keep (St.fr hS) id).cell (i := 0) rfl; clear hS; go_simp; with_reducible rfl)
 try simp only [clL]
 iterate 3 (refine a0n rfl rfl apX ?_; try simp only [clL])
 refine a0P (v := ?_) rfl rfl (fun xq wx hS => ?_) ?_
 rotate_left 1
 ·(have hc := (HCV.out.keep (St.fr hS) id).cell (i := 0) rfl; clear hS; go_simp; with_reducible rfl)
 try simp only [clL]
 iterate 3 (refine a0n rfl rfl apX ?_; try simp only [clL])
 refine a0P (v := ?_) rfl rfl (fun xq wx hS => ?_) ?_
 rotate_left 1
 ·(have hc := (HCV.out.keep (St.fr hS) id).cell (i := 0) rfl; clear hS; go_simp; with_reducible rfl)
 try simp only [clL]
 refine a0n rfl rfl apX ?_
 try simp only [clL]
 refine a0j rfl rfl rfl (fun _ => rfl) (cw 4 (elN m x)) (fun wx hS => St.rangeL hS 0 rfl 0 _ (x0H _ _ _)) Tryz.underlying123 rfl ap0 ?_
 try simp only [clL]
 refine a0j rfl rfl rfl (fun _ => rfl) (cw 4 (elN m b)) (fun wx hS => St.rangeL hS 3 rfl 0 _ dZl) Tryz.underlying123 rfl ap0 ?_
 try simp only [clL]
 iterate 3 (refine a0n rfl rfl apX ?_; try simp only [clL])
 refine a0P (v := ?_) rfl rfl (fun xq wx hS => ?_) ?_
 rotate_left 1
 ·(have hc := (HCV.out.keep (St.fr hS) id).cell (i := 0) rfl; clear hS; go_simp; with_reducible rfl)
 try simp only [clL]
 refine a0j rfl rfl rfl (fun _ => rfl) (cw 4 (elN m a)) (fun wx hS => St.rangeL hS 2 rfl 0 _ dZl) Tryz.underlying123 rfl ap0 ?_
 try simp only [clL]
 refine a0j rfl rfl rfl (fun _ => rfl) (cw 4 (elN m bb)) (fun wx hS => St.rangeL hS 4 rfl 0 _ dZl) Tryz.underlying123 rfl ap0 ?_
 try simp only [clL]
 refine a0l rfl rfl rfl Tryz.call207 (fun w hS hR => d0t m gp _ HOK.out (HPM.out.keep hS.fr id) x b s1 Hs1.out) (fun _ => rfl) ?_
 try simp only [clL]
 refine a0l rfl rfl rfl Tryz.call189 (fun w hS hR => b0C m gp _ HOK.out (HPM.out.keep hS.fr id) s1 s2 Hs2.out) (fun _ => rfl) ?_
 try simp only [clL]
 refine a0l rfl rfl rfl Tryz.call207 (fun w hS hR => d0t m gp _ HOK.out (HPM.out.keep hS.fr id) a bb s3 Hs3.out) (fun _ => rfl) ?_
 try simp only [clL]
 refine a0l rfl rfl rfl Tryz.call181 (fun w hS hR => f0u m gp _ HOK.out (HPM.out.keep hS.fr id) s2 s3 d1 Hd1.out) (fun _ => rfl) ?_
 try simp only [clL]
 refine c0A List.mem_cons_self fun g8 => ?_
 simp only [upd, reduceIte]
 refine a0J fun xq w9 st9 hR => ?_
 try dsimp only
 clear hR xq
 refine a0o rfl rfl ?_
 refine a0i st9 5 rfl rfl rfl rfl ap8 ap0 (a0f _ _) ?_
 intro w10 st10
 repeat (first | simp only [List.cons_append] at st10 | simp only [List.nil_append] at st10 | simp only [List.set_cons_succ] at st10 | simp only [List.set_cons_zero] at st10)
 clear st9
 try simp only [Act.put]
 refine a0e ?_
 refine NoPanic.normal ?_
 go_wp2_with fail
 refine wp_region_noPanic ?_
 refine a0k st10 7 [.w 0, .w 1, .w 2, .t 3, .t 4, .t 5, .c 6] (.m 7 .nil) ap0 ap0 (fun _ _ _ _ _ h => h) ?_
 clear st10
 iterate 3 (refine a0n rfl rfl apX ?_; try simp only [clL])
 refine a0P (v := ?_) rfl rfl (fun xq wx hS => ?_) ?_
 rotate_left 1
 ·(have hc := (HCV.out.keep (St.fr hS) id).cell (i := 0) rfl; clear hS; go_simp; with_reducible rfl)
 try simp only [clL]
 refine a0j rfl rfl rfl (fun _ => rfl) (cw 4 (elN m d1)) (fun wx hS => St.rangeL hS 5 rfl 0 _ dZl) Tryz.underlying123 rfl ap0 ?_
 try simp only [clL]
 refine a0j rfl rfl rfl (fun _ => rfl) (cw 4 (elN m d1)) (fun wx hS => St.rangeL hS 5 rfl 0 _ dZl) Tryz.underlying123 rfl ap0 ?_
 try simp only [clL]
 refine a0l rfl rfl rfl Tryz.call207 (fun w hS hR => d0t m gp _ HOK.out (HPM.out.keep hS.fr id) d1 d1 d Hd.out) (fun _ => rfl) ?_
 try simp only [clL]
 refine a0J fun xq w11 st11 hR => ?_
 try dsimp only
 clear hR xq
 refine a0o rfl rfl ?_
 refine a0i st11 5 rfl rfl rfl rfl ap8 ap0 (a0f _ _) ?_
 intro w12 st12
 try simp only [List.set_cons_zero, List.set_cons_succ] at st12
 clear st11
 try simp only [Act.put]
 refine a0e ?_
 refine NoPanic.normal ?_
 go_wp2_with fail
 refine wp_region_noPanic ?_
 refine a0k st12 14 [.o 13, .w 0, .w 1, .w 2, .t 3, .w 4, .w 5, .w 6, .t 7, .t 8, .t 9, .t 11, .c 10, .c 12, .j 13] (.m 14 .nil) ap0 ap0 (fun _ _ _ _ _ h => h) ?_
 clear st12
 refine c0K rfl rfl rfl i0b (cw 4 0) rfl ?_
 try simp only [clL]
 iterate 3 (refine a0n rfl rfl apX ?_; try simp only [clL])
 refine a0P (v := ?_) rfl rfl (fun xq wx hS => ?_) ?_
 rotate_left 1
 ·(have hc := (HCV.out.keep (St.fr hS) id).cell (i := 0) rfl; clear hS; go_simp; with_reducible rfl)
 try simp only [clL]
 iterate 3 (refine a0n rfl rfl apX ?_; try simp only [clL])
 refine a0P (v := ?_) rfl rfl (fun xq wx hS => ?_) ?_
 rotate_left 1
 ·(have hc := (HCV.out.keep (St.fr hS) id).cell (i := 0) rfl; clear hS; go_simp; with_reducible rfl)
 try simp only [clL]
 refine a0j rfl rfl rfl (fun _ => rfl) (cw 4 (elN m a)) (fun wx hS => St.rangeL hS 2 rfl 0 _ dZl) Tryz.underlying123 rfl ap0 ?_
 try simp only [clL]
 refine a0j rfl rfl rfl (fun _ => rfl) (cw 4 (elN m a)) (fun wx hS => St.rangeL hS 2 rfl 0 _ dZl) Tryz.underlying123 rfl ap0 ?_
 try simp only [clL]
 refine a0j rfl rfl rfl (fun _ => rfl) (cw 4 (elN m a)) (fun wx hS => St.rangeL hS 2 rfl 0 _ dZl) Tryz.underlying123 rfl ap0 ?_
 try simp only [clL]
 refine a0l rfl rfl rfl Tryz.call207 (fun w hS hR => d0t m gp _ HOK.out (HPM.out.keep hS.fr id) a a e1 He1.out) (fun _ => rfl) ?_
 try simp only [clL]
 refine a0l rfl rfl rfl Tryz.call207 (fun w hS hR => d0t m gp _ HOK.out (HPM.out.keep hS.fr id) e1 a ee Hee.out) (fun _ => rfl) ?_
 try simp only [clL]
 refine c0A List.mem_cons_self fun g9 => ?_
 simp only [upd, reduceIte]
 refine a0J fun xq w13 st13 hR => ?_
 try dsimp only
 clear hR xq
 refine a0o rfl rfl ?_
 refine a0i st13 6 rfl rfl rfl rfl ap8 ap0 (a0f _ _) ?_
 intro w14 st14
 repeat (first | simp only [List.cons_append] at st14 | simp only [List.nil_append] at st14 | simp only [List.set_cons_succ] at st14 | simp only [List.set_cons_zero] at st14)
 clear st13
 try simp only [Act.put]
 refine a0e ?_
 refine NoPanic.normal ?_
 go_wp2_with fail
 refine wp_region_noPanic ?_
 refine a0k st14 19 [.o 18, .w 0, .w 1, .w 2, .t 3, .w 4, .w 5, .w 6, .t 7, .t 8, .w 10, .w 11, .w 12, .t 13, .t 14, .t 15, .c 9, .c 16, .c 17, .j 18] (.m 19 .nil) ap0 ap0 (fun _ _ _ _ _ h => h) ?_
 clear st14
 refine c0K rfl rfl rfl i0b (cw 4 0) rfl ?_
 try simp only [clL]
 iterate 3 (refine a0n rfl rfl apX ?_; try simp only [clL])
 refine a0P (v := ?_) rfl rfl (fun xq wx hS => ?_) ?_
 rotate_left 1
 ·(have hc := (HCV.out.keep (St.fr hS) id).cell (i := 0) rfl; clear hS; go_simp; with_reducible rfl)
 try simp only [clL]
 iterate 3 (refine a0n rfl rfl apX ?_; try simp only [clL])
 refine a0P (v := ?_) rfl rfl (fun xq wx hS => ?_) ?_
 rotate_left 1
 ·(have hc := (HCV.out.keep (St.fr hS) id).cell (i := 0) rfl; clear hS; go_simp; with_reducible rfl)
 try simp only [clL]
 refine a0j rfl rfl rfl (fun _ => rfl) (cw 4 (elN m ee)) (fun wx hS => St.rangeL hS 6 rfl 0 _ dZl) Tryz.underlying123 rfl ap0 ?_
 try simp only [clL]
 iterate 3 (refine a0n rfl rfl apX ?_; try simp only [clL])
 refine a0P (v := ?_) rfl rfl (fun xq wx hS => ?_) ?_
 rotate_left 1
 ·(have hc := (HCV.out.keep (St.fr hS) id).cell (i := 0) rfl; clear hS; go_simp; with_reducible rfl)
 try simp only [clL]
 refine a0j rfl rfl rfl (fun _ => rfl) (cw 4 (elN m d)) (fun wx hS => St.rangeL hS 5 rfl 0 _ dZl) Tryz.underlying123 rfl ap0 ?_
 try simp only [clL]
 refine a0j rfl rfl rfl (fun _ => rfl) (cw 4 (elN m d)) (fun wx hS => St.rangeL hS 5 rfl 0 _ dZl) Tryz.underlying123 rfl ap0 ?_
 try simp only [clL]
 refine a0l rfl rfl rfl Tryz.call189 (fun w hS hR => b0C m gp _ HOK.out (HPM.out.keep hS.fr id) ee f1 Hf1.out) (fun _ => rfl) ?_
 try simp only [clL]
 refine a0l rfl rfl rfl Tryz.call207 (fun w hS hR => d0t m gp _ HOK.out (HPM.out.keep hS.fr id) d d f2 Hf2.out) (fun _ => rfl) ?_
 try simp only [clL]
 refine a0l rfl rfl rfl Tryz.call181 (fun w hS hR => f0u m gp _ HOK.out (HPM.out.keep hS.fr id) f1 f2 X HX.out) (fun _ => rfl) ?_
 try simp only [clL]
 refine c0A List.mem_cons_self fun g10 => ?_
 simp only [upd, reduceIte]
 refine a0J fun xq w15 st15 hR => ?_
 try dsimp only
 clear hR xq
 refine a0o rfl rfl ?_
 refine a0i st15 7 rfl rfl rfl rfl ap8 ap0 (a0f _ _) ?_
 intro w16 st16
 repeat (first | simp only [List.cons_append] at st16 | simp only [List.nil_append] at st16 | simp only [List.set_cons_succ] at st16 | simp only [List.set_cons_zero] at st16)
 clear st15
 try simp only [Act.put]
 refine a0e ?_
 refine NoPanic.normal ?_
 go_wp2_with fail
 refine wp_region_noPanic ?_
 refine a0k st16 8 [.o 7, .w 0, .w 1, .w 2, .t 3, .t 4, .t 5, .c 6, .j 7] (.m 8 .nil) ap0 ap0 (fun _ _ _ _ _ h => h) ?_
 clear st16
 refine c0K rfl rfl rfl i0b (cw 4 0) rfl ?_
 try simp only [clL]
 iterate 3 (refine a0n rfl rfl apX ?_; try simp only [clL])
 refine a0P (v := ?_) rfl rfl (fun xq wx hS => ?_) ?_
 rotate_left 1
 ·(have hc := (HCV.out.keep (St.fr hS) id).cell (i := 0) rfl; clear hS; go_simp; with_reducible rfl)
 try simp only [clL]
 refine a0j rfl rfl rfl (fun _ => rfl) (cw 4 (elN m bb)) (fun wx hS => St.rangeL hS 4 rfl 0 _ dZl) Tryz.underlying123 rfl ap0 ?_
 try simp only [clL]
 refine a0j rfl rfl rfl (fun _ => rfl) (cw 4 (elN m bb)) (fun wx hS => St.rangeL hS 4 rfl 0 _ dZl) Tryz.underlying123 rfl ap0 ?_
 try simp only [clL]
 refine a0l rfl rfl rfl Tryz.call207 (fun w hS hR => d0t m gp _ HOK.out (HPM.out.keep hS.fr id) bb bb k1 Hk1.out) (fun _ => rfl) ?_
 try simp only [clL]
 refine c0A List.mem_cons_self fun g11 => ?_
 simp only [upd, reduceIte]
 refine a0J fun xq w17 st17 hR => ?_
 try dsimp only
 clear hR xq
 refine a0o rfl rfl ?_
 refine a0i st17 8 rfl rfl rfl rfl ap8 ap0 (a0f _ _) ?_
 intro w18 st18
 repeat (first | simp only [List.cons_append] at st18 | simp only [List.nil_append] at st18 | simp only [List.set_cons_succ] at st18 | simp only [List.set_cons_zero] at st18)
 clear st17
 try simp only [Act.put]
 refine a0e ?_
 refine NoPanic.normal ?_
 go_wp2_with fail
 refine wp_region_noPanic ?_
 refine a0k st18 7 [.w 0, .w 1, .w 2, .t 3, .t 4, .t 5, .c 6] (.m 7 .nil) ap0 ap0 (fun _ _ _ _ _ h => h) ?_
 clear st18
 iterate 3 (refine a0n rfl rfl apX ?_; try simp only [clL])
 refine a0P (v := ?_) rfl rfl (fun xq wx hS => ?_) ?_
 rotate_left 1
 ·(have hc := (HCV.out.keep (St.fr hS) id).cell (i := 0) rfl; clear hS; go_simp; with_reducible rfl)
 try simp only [clL]
 refine a0j rfl rfl rfl (fun _ => rfl) (cw 4 (elN m k1)) (fun wx hS => St.rangeL hS 8 rfl 0 _ dZl) Tryz.underlying123 rfl ap0 ?_
 try simp only [clL]
 refine a0j rfl rfl rfl (fun _ => rfl) (cw 4 (elN m k1)) (fun wx hS => St.rangeL hS 8 rfl 0 _ dZl) Tryz.underlying123 rfl ap0 ?_
 try simp only [clL]
 refine a0l rfl rfl rfl Tryz.call207 (fun w hS hR => d0t m gp _ HOK.out (HPM.out.keep hS.fr id) k1 k1 k2 Hk2.out) (fun _ => rfl) ?_
 try simp only [clL]
 refine a0J fun xq w19 st19 hR => ?_
 try dsimp only
 clear hR xq
 refine a0o rfl rfl ?_
 refine a0i st19 8 rfl rfl rfl rfl ap8 ap0 (a0f _ _) ?_
 intro w20 st20
 try simp only [List.set_cons_zero, List.set_cons_succ] at st20
 clear st19
 try simp only [Act.put]
 refine a0e ?_
 refine NoPanic.normal ?_
 go_wp2_with fail
 refine wp_region_noPanic ?_
 refine a0k st20 7 [.w 0, .w 1, .w 2, .t 3, .t 4, .t 5, .c 6] (.m 7 .nil) ap0 ap0 (fun _ _ _ _ _ h => h) ?_
 clear st20
 iterate 3 (refine a0n rfl rfl apX ?_; try simp only [clL])
 refine a0P (v := ?_) rfl rfl (fun xq wx hS => ?_) ?_
 rotate_left 1
 ·(have hc := (HCV.out.keep (St.fr hS) id).cell (i := 0) rfl; clear hS; go_simp; with_reducible rfl)
 try simp only [clL]
 refine a0j rfl rfl rfl (fun _ => rfl) (cw 4 (elN m k2)) (fun wx hS => St.rangeL hS 8 rfl 0 _ dZl) Tryz.underlying123 rfl ap0 ?_
 try simp only [clL]
 refine a0j rfl rfl rfl (fun _ => rfl) (cw 4 (elN m k2)) (fun wx hS => St.rangeL hS 8 rfl 0 _ dZl) Tryz.underlying123 rfl ap0 ?_
 try simp only [clL]
 refine a0l rfl rfl rfl Tryz.call207 (fun w hS hR => d0t m gp _ HOK.out (HPM.out.keep hS.fr id) k2 k2 k3 Hk3.out) (fun _ => rfl) ?_
 try simp only [clL]
 refine a0J fun xq w21 st21 hR => ?_
 try dsimp only
 clear hR xq
 refine a0o rfl rfl ?_
 refine a0i st21 8 rfl rfl rfl rfl ap8 ap0 (a0f _ _) ?_
 intro w22 st22
 try simp only [List.set_cons_zero, List.set_cons_succ] at st22
 clear st21
 try simp only [Act.put]
 refine a0e ?_
 refine NoPanic.normal ?_
 go_wp2_with fail
 refine wp_region_noPanic ?_
 refine a0k st22 10 [.o 9, .w 0, .w 1, .w 2, .t 3, .w 4, .t 5, .w 6, .t 7, .c 8, .j 9] (.m 10 .nil) ap0 ap0 (fun _ _ _ _ _ h => h) ?_
 clear st22
 refine c0K rfl rfl rfl i0b (cw 4 0) rfl ?_
 try simp only [clL]
 iterate 3 (refine a0n rfl rfl apX ?_; try simp only [clL])
 refine a0P (v := ?_) rfl rfl (fun xq wx hS => ?_) ?_
 rotate_left 1
 ·(have hc := (HCV.out.keep (St.fr hS) id).cell (i := 0) rfl; clear hS; go_simp; with_reducible rfl)
 try simp only [clL]
 refine a0n rfl rfl apX ?_
 try simp only [clL]
 refine a0j rfl rfl rfl (fun _ => rfl) (cw 4 (elN m y)) (fun wx hS => St.rangeL hS 0 rfl 4 _ (x0I _ _ _)) Tryz.underlying123 rfl ap0 ?_
 try simp only [clL]
 refine a0n rfl rfl apX ?_
 try simp only [clL]
 refine a0j rfl rfl rfl (fun _ => rfl) (cw 4 (elN m z)) (fun wx hS => St.rangeL hS 0 rfl 8 _ (s0k _ _ _)) Tryz.underlying123 rfl ap0 ?_
 try simp only [clL]
 refine a0l rfl rfl rfl Tryz.call180 (fun w hS hR => b0Y m gp _ HOK.out (HPM.out.keep hS.fr id) y z z1 Hz1.out) (fun _ => rfl) ?_
 try simp only [clL]
 refine c0A List.mem_cons_self fun g12 => ?_
 simp only [upd, reduceIte]
 refine a0J fun xq w23 st23 hR => ?_
 try dsimp only
 clear hR xq
 refine a0o rfl rfl ?_
 refine a0i st23 9 rfl rfl rfl rfl ap8 ap0 (a0f _ _) ?_
 intro w24 st24
 repeat (first | simp only [List.cons_append] at st24 | simp only [List.nil_append] at st24 | simp only [List.set_cons_succ] at st24 | simp only [List.set_cons_zero] at st24)
 clear st23
 try simp only [Act.put]
 refine a0e ?_
 refine NoPanic.normal ?_
 go_wp2_with fail
 refine wp_region_noPanic ?_
 refine a0k st24 28 [.t 0, .w 1, .w 2, .w 3, .t 4, .w 5, .w 6, .w 7, .t 8, .t 9, .w 10, .w 11, .w 12, .t 13, .t 14, .t 15, .t 18, .w 20, .w 21, .w 22, .t 23, .t 24, .t 25, .c 16, .c 17, .c 19, .c 26, .w 27] (.m 28 .nil) ap0 ap0 (fun _ _ _ _ _ h => h) ?_
 clear st24
 refine a0j rfl rfl rfl (fun _ => rfl) (cw 4 (elN m X)) (fun wx hS => St.rangeL hS 7 rfl 0 _ dZl) Tryz.underlying123 rfl ap0 ?_
 try simp only [clL]
 iterate 3 (refine a0n rfl rfl apX ?_; try simp only [clL])
 refine a0P (v := ?_) rfl rfl (fun xq wx hS => ?_) ?_
 rotate_left 1
 ·(have hc := (HCV.out.keep (St.fr hS) id).cell (i := 0) rfl; clear hS; go_simp; with_reducible rfl)
 try simp only [clL]
 iterate 3 (refine a0n rfl rfl apX ?_; try simp only [clL])
 refine a0P (v := ?_) rfl rfl (fun xq wx hS => ?_) ?_
 rotate_left 1
 ·(have hc := (HCV.out.keep (St.fr hS) id).cell (i := 0) rfl; clear hS; go_simp; with_reducible rfl)
 try simp only [clL]
 refine a0j rfl rfl rfl (fun _ => rfl) (cw 4 (elN m ee)) (fun wx hS => St.rangeL hS 6 rfl 0 _ dZl) Tryz.underlying123 rfl ap0 ?_
 try simp only [clL]
 iterate 3 (refine a0n rfl rfl apX ?_; try simp only [clL])
 refine a0P (v := ?_) rfl rfl (fun xq wx hS => ?_) ?_
 rotate_left 1
 ·(have hc := (HCV.out.keep (St.fr hS) id).cell (i := 0) rfl; clear hS; go_simp; with_reducible rfl)
 try simp only [clL]
 refine a0j rfl rfl rfl (fun _ => rfl) (cw 4 (elN m d)) (fun wx hS => St.rangeL hS 5 rfl 0 _ dZl) Tryz.underlying123 rfl ap0 ?_
 try simp only [clL]
 refine a0j rfl rfl rfl (fun _ => rfl) (cw 4 (elN m X)) (fun wx hS => St.rangeL hS 7 rfl 0 _ dZl) Tryz.underlying123 rfl ap0 ?_
 try simp only [clL]
 refine a0j rfl rfl rfl (fun _ => rfl) (cw 4 (elN m k3)) (fun wx hS => St.rangeL hS 8 rfl 0 _ dZl) Tryz.underlying123 rfl ap0 ?_
 try simp only [clL]
 iterate 3 (refine a0n rfl rfl apX ?_; try simp only [clL])
 refine a0P (v := ?_) rfl rfl (fun xq wx hS => ?_) ?_
 rotate_left 1
 ·(have hc := (HCV.out.keep (St.fr hS) id).cell (i := 0) rfl; clear hS; go_simp; with_reducible rfl)
 try simp only [clL]
 refine a0j rfl rfl rfl (fun _ => rfl) (cw 4 (elN m z1)) (fun wx hS => St.rangeL hS 9 rfl 0 _ dZl) Tryz.underlying123 rfl ap0 ?_
 try simp only [clL]
 refine a0j rfl rfl rfl (fun _ => rfl) (cw 4 (elN m z1)) (fun wx hS => St.rangeL hS 9 rfl 0 _ dZl) Tryz.underlying123 rfl ap0 ?_
 try simp only [clL]
 refine a0l rfl rfl rfl Tryz.call181 (fun w hS hR => f0u m gp _ HOK.out (HPM.out.keep hS.fr id) d X h1 Hh1.out) (fun _ => rfl) ?_
 try simp only [clL]
 refine a0l rfl rfl rfl Tryz.call180 (fun w hS hR => b0Y m gp _ HOK.out (HPM.out.keep hS.fr id) ee h1 h2 Hh2.out) (fun _ => rfl) ?_
 try simp only [clL]
 refine a0l rfl rfl rfl Tryz.call181 (fun w hS hR => f0u m gp _ HOK.out (HPM.out.keep hS.fr id) h2 k3 Y HY.out) (fun _ => rfl) ?_
 try simp only [clL]
 refine a0l rfl rfl rfl Tryz.call207 (fun w hS hR => d0t m gp _ HOK.out (HPM.out.keep hS.fr id) z1 z1 Z HZ.out) (fun _ => rfl) ?_
 try simp only [clL]
 refine a0n rfl rfl (fun _ => b0v rfl _ (e0y _ _ _)) ?_
 try simp only [clL]
 refine a0J fun xq w25 st25 hR => ?_
 try dsimp only
 clear hR xq
 refine a0o rfl rfl ?_
 refine a0i st25 1 rfl rfl rfl rfl ap8 ap0 (b0p _ _ _) ?_
 intro w26 st26
 try simp only [List.set_cons_zero, List.set_cons_succ] at st26
 clear st25
 try simp only [Act.put]
 refine a0e ?_
 refine NoPanic.normal ?_
 have hr := st26.at 1 rfl
 have hfr := st26.fr
 clear st26
 go_wp2_with fail
 exact bodyPost_ret (a0y rfl rfl hr Tryz.underlying174 rfl ap0) rfl ⟨rfl, hfr⟩
end
section
open Go.RowKit Go.Mv Mvp
attribute [local irreducible] a0v lw mix cw b0e b0f b0a beN b0l b0b a0z a0F elN mdL a0I a0D b0m
end
section
open Go.RowKit Go.Mv Mvp
theorem s0V (m : Md) (gp : Nat) (w : World) (hok : m.Ok) (hpm : Has w gp (mdL m) 234) (x : Nat) (hr : b0J m.M x = true) :
  Calls Tryz.prog 260 #[.pointer (some ⟨gp, 0, none⟩), i4 (elN m x)] w fun e w' => e = .returned (.tuple #[i4 (elN m (rtV m.M x)), .bool true]) ∧ Fr Nob w w' := by
 unfold b0J at hr
 unfold rtV
 unfold rtN at *
 generalize hn : m.M / 4 + 1 = n at *
 by_cases hb : x ^ n % m.M % 2 = 1
 ·rw [if_pos hb]; exact q0B m gp w hok hpm x n hn hr hb
 ·rw [if_neg hb]; exact o0F m gp w hok hpm x n hn hr ap1
theorem s0W (m : Md) (gp : Nat) (w : World) (hok : m.Ok) (hpm : Has w gp (mdL m) 234) (x : Nat) (hr : b0J m.M x = false) :
  Calls Tryz.prog 260 #[.pointer (some ⟨gp, 0, none⟩), i4 (elN m x)] w fun e w' => e = .returned (.tuple #[i4 0, .bool false]) ∧ Fr Nob w w' := by
 unfold b0J at hr
 unfold rtN at *
 exact o0E m gp w hok hpm x _ rfl hr
attribute [local irreducible] a0v lw mix cw b0e b0f b0a beN b0l b0b a0z a0F elN mdL a0I a0D b0m rtN b0J rtV
end
section
open Go.RowKit Go.Mv Mvp
attribute [local irreducible] a0v lw mix cw b0e b0f b0a beN b0l b0b a0z a0F elN mdL b0m rtN rtV b0J
theorem A0c (m : Md) (gc gp bx by_ : Nat) (w : World) (hok : m.Ok) (hcv : Has w gc (d0v m gp bx by_) 184) (hpm : Has w gp (mdL m) 234) (x xx x3 cv : Nat) (exx : x * x = xx) (ex3 : xx * x = x3) (ecv : x3 + 7 = cv) (hr : b0J m.M cv = true) :
  Calls Tryz.prog 225 #[.pointer (some ⟨gc, 0, none⟩), i4 (elN m x)] w fun e w' => e = .returned (.tuple #[ptV m x (rtV m.M cv) 1, .bool true]) ∧ Fr Nob w w' := by
 have HOK := qH hok
 have HCV := qH hcv
 have HPM := qH hpm
 clear hok hcv hpm
 have HR := qH hr
 have Hxx := qH exx
 have Hx3 := qH ex3
 have Hcv := qH ecv
 clear hr exx ex3 ecv
 have st0 := St.start Nob w
 go_enter Tryz.func225, Tryz.ntmps225
 go_wp2_with (with_reducible refine wSk 3 ?_)
 refine a0r st0 rfl rfl rfl (cw 4 (elN m x)) rfl ?_
 intro g3 w1 st1
 clear st0
 go_wp2_with (with_reducible refine wSk 4 ?_)
 refine a0b st1 rfl rfl (z := zAc) ap0 (cw 12 0) ap5 ?_
 intro g4 w2 st2
 clear st1
 go_wp2_with fail
 refine wp_region_noPanic ?_
 refine a0k st2 31 [.o 29, .w 0, .w 1, .w 2, .t 3, .w 4, .w 5, .w 6, .t 7, .w 8, .w 9, .w 10, .t 11, .w 12, .w 13, .w 14, .t 15, .t 16, .t 18, .w 20, .w 21, .w 22, .t 23, .c 17, .c 19, .c 24, .c 25, .w 26, .w 27, .w 28, .j 29] (.r 30 (.m 31 .nil)) ap0 ap0 (fun _ _ _ _ _ h => h) ?_
 clear st2
 refine c0K rfl rfl rfl i0b (cw 4 0) rfl ?_
 try simp only [clL]
 iterate 3 (refine a0n rfl rfl apX ?_; try simp only [clL])
 refine a0P (v := ?_) rfl rfl (fun xq wx hS => ?_) ?_
 rotate_left 1
 ·(have hc := (HCV.out.keep (St.fr hS) id).cell (i := 0) rfl; clear hS; go_simp; with_reducible rfl)
 try simp only [clL]
 iterate 3 (refine a0n rfl rfl apX ?_; try simp only [clL])
 refine a0P (v := ?_) rfl rfl (fun xq wx hS => ?_) ?_
 rotate_left 1
 ·(have hc := (HCV.out.keep (St.fr hS) id).cell (i := 0) rfl; clear hS; go_simp; with_reducible rfl)
 try simp only [clL]
 iterate 3 (refine a0n rfl rfl apX ?_; try simp only [clL])
 refine a0P (v := ?_) rfl rfl (fun xq wx hS => ?_) ?_
 rotate_left 1
 ·(have hc := (HCV.out.keep (St.fr hS) id).cell (i := 0) rfl; clear hS; go_simp; with_reducible rfl)
 try simp only [clL]
 iterate 3 (refine a0n rfl rfl apX ?_; try simp only [clL])
 refine a0P (v := ?_) rfl rfl (fun xq wx hS => ?_) ?_
 rotate_left 1
 ·(have hc := (HCV.out.keep (St.fr hS) id).cell (i := 0) rfl; clear hS; go_simp; with_reducible rfl)
 try simp only [clL]
 refine a0j rfl rfl rfl (fun _ => rfl) (cw 4 (elN m x)) (fun wx hS => St.rangeL hS 0 rfl 0 _ dZl) Tryz.underlying123 rfl ap0 ?_
 try simp only [clL]
 refine a0j rfl rfl rfl (fun _ => rfl) (cw 4 (elN m x)) (fun wx hS => St.rangeL hS 0 rfl 0 _ dZl) Tryz.underlying123 rfl ap0 ?_
 try simp only [clL]
 iterate 3 (refine a0n rfl rfl apX ?_; try simp only [clL])
 refine a0j rfl rfl rfl (fun _ => rfl) (cw 4 (elN m 7)) (fun wx hS => (HCV.out.keep (St.fr hS) id).range 1 _ (k0D m gp bx by_)) Tryz.underlying123 rfl ap0 ?_
 try simp only [clL]
 refine a0l rfl rfl rfl Tryz.call189 (fun w hS hR => b0C m gp _ HOK.out (HPM.out.keep hS.fr id) x xx Hxx.out) (fun _ => rfl) ?_
 try simp only [clL]
 refine a0l rfl rfl rfl Tryz.call180 (fun w hS hR => b0Y m gp _ HOK.out (HPM.out.keep hS.fr id) xx x x3 Hx3.out) (fun _ => rfl) ?_
 try simp only [clL]
 refine a0l rfl rfl rfl Tryz.call207 (fun w hS hR => d0t m gp _ HOK.out (HPM.out.keep hS.fr id) x3 7 cv Hcv.out) (fun _ => rfl) ?_
 try simp only [clL]
 refine a0l rfl rfl rfl Tryz.call260 (fun w hS hR => s0V m gp _ HOK.out (HPM.out.keep hS.fr id) cv HR.out) (fun _ => rfl) ?_
 try simp only [clL]
 iterate 3 (refine a0n rfl rfl apX ?_; try simp only [clL])
 refine c0A List.mem_cons_self fun g6 => ?_
 simp only [upd, reduceIte]
 refine a0J fun xq w3 st3 hR => ?_
 try dsimp only
 clear hR xq
 refine a0q rfl rfl ?_
 refine a0i st3 2 rfl rfl rfl rfl ap8 ap0 (a0f _ _) ?_
 intro w4 st4
 repeat (first | simp only [List.cons_append] at st4 | simp only [List.nil_append] at st4 | simp only [List.set_cons_succ] at st4 | simp only [List.set_cons_zero] at st4)
 clear st3
 refine ⟨by first | exact st4 | exact St.less st4 ap4, ?_⟩
 try simp only [Act.put]
 refine a0o rfl rfl ?_
 go_simp
 try simp only [clL]
 refine a0e ?_
 refine NoPanic.normal ?_
 go_wp2_with fail
 refine wp_region_noPanic ?_
 refine a0k st4 9 [.t 0, .t 1, .w 2, .w 3, .w 4, .t 5, .w 8, .c 6, .w 7] (.m 9 (.w 10 .nil)) ap0 ap0 (fun _ _ _ _ _ h => h) ?_
 clear st4
 refine a0j rfl rfl rfl (fun _ => rfl) (cw 4 (elN m x)) (fun wx hS => St.rangeL hS 0 rfl 0 _ dZl) Tryz.underlying123 rfl ap0 ?_
 try simp only [clL]
 refine a0j rfl rfl rfl (fun _ => rfl) (cw 4 (elN m (rtV m.M cv))) (fun wx hS => St.rangeL hS 2 rfl 0 _ dZl) Tryz.underlying123 rfl ap0 ?_
 try simp only [clL]
 iterate 3 (refine a0n rfl rfl apX ?_; try simp only [clL])
 refine a0P (v := ?_) rfl rfl (fun xq wx hS => ?_) ?_
 rotate_left 1
 ·(have hc := (HCV.out.keep (St.fr hS) id).cell (i := 0) rfl; clear hS; go_simp; with_reducible rfl)
 try simp only [clL]
 refine a0n rfl rfl apX ?_
 try simp only [clL]
 refine a0l rfl rfl rfl Tryz.call187 (fun w hS hR => d0O m gp _ HOK.out (HPM.out.keep hS.fr id)) (fun _ => rfl) ?_
 try simp only [clL]
 refine a0n rfl rfl (fun _ => b0v rfl _ (e0y _ _ _)) ?_
 try simp only [clL]
 refine a0J fun xq w5 st5 hR => ?_
 try dsimp only
 clear hR xq
 refine a0o rfl rfl ?_
 refine a0i st5 1 rfl rfl rfl rfl ap8 ap0 (b0p _ _ _) ?_
 intro w6 st6
 try simp only [List.set_cons_zero, List.set_cons_succ] at st6
 clear st5
 try simp only [Act.put]
 refine a0a rfl rfl apW ?_
 try simp only [clL]
 refine a0e ?_
 refine NoPanic.normal ?_
 have hr := st6.at 1 rfl
 have hfr := st6.fr
 clear st6
 go_wp2_with fail
 exact bodyPost_ret (b0i rfl rfl hr Tryz.underlying174 rfl ap0 rfl) rfl ⟨by unfold ptV ptL; rfl, hfr⟩
theorem A0d (m : Md) (gc gp bx by_ : Nat) (w : World) (hok : m.Ok) (hcv : Has w gc (d0v m gp bx by_) 184) (hpm : Has w gp (mdL m) 234) (x xx x3 cv : Nat) (exx : x * x = xx) (ex3 : xx * x = x3) (ecv : x3 + 7 = cv) (hr : b0J m.M cv = false) :
  Calls Tryz.prog 225 #[.pointer (some ⟨gc, 0, none⟩), i4 (elN m x)] w fun e w' => e = .returned (.tuple #[ptV m x (0) 1, .bool false]) ∧ Fr Nob w w' := by
 have HOK := qH hok
 have HCV := qH hcv
 have HPM := qH hpm
 clear hok hcv hpm
 have HR := qH hr
 have Hxx := qH exx
 have Hx3 := qH ex3
 have Hcv := qH ecv
 clear hr exx ex3 ecv
 have st0 := St.start Nob w
 go_enter Tryz.func225, Tryz.ntmps225
 go_wp2_with (with_reducible refine wSk 3 ?_)
 refine a0r st0 rfl rfl rfl (cw 4 (elN m x)) rfl ?_
 intro g3 w1 st1
 clear st0
 go_wp2_with (with_reducible refine wSk 4 ?_)
 refine a0b st1 rfl rfl (z := zAc) ap0 (cw 12 0) ap5 ?_
 intro g4 w2 st2
 clear st1
 go_wp2_with fail
 refine wp_region_noPanic ?_
 refine a0k st2 31 [.o 29, .w 0, .w 1, .w 2, .t 3, .w 4, .w 5, .w 6, .t 7, .w 8, .w 9, .w 10, .t 11, .w 12, .w 13, .w 14, .t 15, .t 16, .t 18, .w 20, .w 21, .w 22, .t 23, .c 17, .c 19, .c 24, .c 25, .w 26, .w 27, .w 28, .j 29] (.r 30 (.m 31 .nil)) ap0 ap0 (fun _ _ _ _ _ h => h) ?_
 clear st2
 refine c0K rfl rfl rfl i0b (cw 4 0) rfl ?_
 try simp only [clL]
 iterate 3 (refine a0n rfl rfl apX ?_; try simp only [clL])
 refine a0P (v := ?_) rfl rfl (fun xq wx hS => ?_) ?_
 rotate_left 1
 ·(have hc := (HCV.out.keep (St.fr hS) id).cell (i := 0) rfl; clear hS; go_simp; with_reducible rfl)
 try simp only [clL]
 iterate 3 (refine a0n rfl rfl apX ?_; try simp only [clL])
 refine a0P (v := ?_) rfl rfl (fun xq wx hS => ?_) ?_
 rotate_left 1
 ·(have hc := (HCV.out.keep (St.fr hS) id).cell (i := 0) rfl; clear hS; go_simp; with_reducible rfl)
 try simp only [clL]
 iterate 3 (refine a0n rfl rfl apX ?_; try simp only [clL])
 refine a0P (v := ?_) rfl rfl (fun xq wx hS => ?_) ?_
 rotate_left 1
 ·(have hc := (HCV.out.keep (St.fr hS) id).cell (i := 0) rfl; clear hS; go_simp; with_reducible rfl)
 try simp only [clL]
 iterate 3 (refine a0n rfl rfl apX ?_; try simp only [clL])
 refine a0P (v := ?_) rfl rfl (fun xq wx hS => ?_) ?_
 rotate_left 1
 ·(have hc := (HCV.out.keep (St.fr hS) id).cell (i := 0) rfl; clear hS; go_simp; with_reducible rfl)
 try simp only [clL]
 refine a0j rfl rfl rfl (fun _ => rfl) (cw 4 (elN m x)) (fun wx hS => St.rangeL hS 0 rfl 0 _ dZl) Tryz.underlying123 rfl ap0 ?_
 try simp only [clL]
 refine a0j rfl rfl rfl (fun _ => rfl) (cw 4 (elN m x)) (fun wx hS => St.rangeL hS 0 rfl 0 _ dZl) Tryz.underlying123 rfl ap0 ?_
 try simp only [clL]
 iterate 3 (refine a0n rfl rfl apX ?_; try simp only [clL])
 refine a0j rfl rfl rfl (fun _ => rfl) (cw 4 (elN m 7)) (fun wx hS => (HCV.out.keep (St.fr hS) id).range 1 _ (k0D m gp bx by_)) Tryz.underlying123 rfl ap0 ?_
 try simp only [clL]
 refine a0l rfl rfl rfl Tryz.call189 (fun w hS hR => b0C m gp _ HOK.out (HPM.out.keep hS.fr id) x xx Hxx.out) (fun _ => rfl) ?_
 try simp only [clL]
 refine a0l rfl rfl rfl Tryz.call180 (fun w hS hR => b0Y m gp _ HOK.out (HPM.out.keep hS.fr id) xx x x3 Hx3.out) (fun _ => rfl) ?_
 try simp only [clL]
 refine a0l rfl rfl rfl Tryz.call207 (fun w hS hR => d0t m gp _ HOK.out (HPM.out.keep hS.fr id) x3 7 cv Hcv.out) (fun _ => rfl) ?_
 try simp only [clL]
 refine a0l rfl rfl rfl Tryz.call260 (fun w hS hR => s0W m gp _ HOK.out (HPM.out.keep hS.fr id) cv HR.out) (fun _ => rfl) ?_
 try simp only [clL]
 iterate 3 (refine a0n rfl rfl apX ?_; try simp only [clL])
 refine c0A List.mem_cons_self fun g6 => ?_
 simp only [upd, reduceIte]
 refine a0J fun xq w3 st3 hR => ?_
 try dsimp only
 clear hR xq
 refine a0q rfl rfl ?_
 refine a0i st3 2 rfl rfl rfl rfl ap8 ap0 (a0f _ _) ?_
 intro w4 st4
 repeat (first | simp only [List.cons_append] at st4 | simp only [List.nil_append] at st4 | simp only [List.set_cons_succ] at st4 | simp only [List.set_cons_zero] at st4)
 clear st3
 refine ⟨by first | exact st4 | exact St.less st4 ap4, ?_⟩
 try simp only [Act.put]
 refine a0o rfl rfl ?_
 go_simp
 try simp only [clL]
 refine a0e ?_
 refine NoPanic.normal ?_
 go_wp2_with fail
 refine wp_region_noPanic ?_
 refine a0k st4 9 [.t 0, .t 1, .w 2, .w 3, .w 4, .t 5, .w 8, .c 6, .w 7] (.m 9 (.w 10 .nil)) ap0 ap0 (fun _ _ _ _ _ h => h) ?_
 clear st4
 refine a0j rfl rfl rfl (fun _ => rfl) (cw 4 (elN m x)) (fun wx hS => St.rangeL hS 0 rfl 0 _ dZl) Tryz.underlying123 rfl ap0 ?_
 try simp only [clL]
 refine a0j rfl rfl rfl (fun _ => rfl) (cw 4 0) (fun wx hS => St.rangeL hS 2 rfl 0 _ dZl) Tryz.underlying123 rfl ap0 ?_
 try simp only [clL]
 iterate 3 (refine a0n rfl rfl apX ?_; try simp only [clL])
 refine a0P (v := ?_) rfl rfl (fun xq wx hS => ?_) ?_
 rotate_left 1
 ·(have hc := (HCV.out.keep (St.fr hS) id).cell (i := 0) rfl; clear hS; go_simp; with_reducible rfl)
 try simp only [clL]
 refine a0n rfl rfl apX ?_
 try simp only [clL]
 refine a0l rfl rfl rfl Tryz.call187 (fun w hS hR => d0O m gp _ HOK.out (HPM.out.keep hS.fr id)) (fun _ => rfl) ?_
 try simp only [clL]
 refine a0n rfl rfl (fun _ => b0v rfl _ (e0y _ _ _)) ?_
 try simp only [clL]
 refine a0J fun xq w5 st5 hR => ?_
 try dsimp only
 clear hR xq
 refine a0o rfl rfl ?_
 refine a0i st5 1 rfl rfl rfl rfl ap8 ap0 (b0p _ _ _) ?_
 intro w6 st6
 try simp only [List.set_cons_zero, List.set_cons_succ] at st6
 clear st5
 try simp only [Act.put]
 refine a0a rfl rfl apW ?_
 try simp only [clL]
 refine a0e ?_
 refine NoPanic.normal ?_
 have hr := st6.at 1 rfl
 have hfr := st6.fr
 clear st6
 go_wp2_with fail
 exact bodyPost_ret (b0i rfl rfl hr Tryz.underlying174 rfl ap0 rfl) rfl ⟨by unfold ptV ptL; rw [d0u]; rfl, hfr⟩
end
end Go.Proofs.YtpfimiajoifjaaaGreat
namespace Mvq
def IsP (p : Nat) : Prop := 1 < p ∧ ∀ d, d ∣ p → d = 1 ∨ d = p
def chk (n : Nat) : Nat → Nat → Bool
 | 0, lo => n % lo != 0
 | k + 1, lo => chk n k lo && chk n k (lo + 2 ^ k)
theorem h0s (n : Nat) : ∀ (k lo : Nat), chk n k lo = true → ∀ d, lo ≤ d → d < lo + 2 ^ k → n % d ≠ 0
 | 0, lo, h, d, h1, h2 => by
  have : d = lo := by simp at h2; omega
  subst this; simpa [chk] using h
 | k + 1, lo, h, d, h1, h2 => by
  simp only [chk, Bool.and_eq_true] at h
  rw [Nat.pow_succ] at h2
  by_cases hd : d < lo + 2 ^ k
  ·exact h0s n k lo h.1 d h1 hd
  ·exact h0s n k _ h.2 d ap1 ap1
theorem c0I (n k : Nat) (h1 : 1 < n) (hc : chk n k 2 = true) (hn : n < (2 + 2 ^ k) * (2 + 2 ^ k)) : IsP n := by
 refine ⟨h1, fun d hd => ?_⟩
 obtain ⟨e, he⟩ := hd
 have key : ∀ x, 2 ≤ x → x < 2 + 2 ^ k → ¬ x ∣ n := fun x a b hx => h0s n k 2 hc x a b (Nat.mod_eq_zero_of_dvd hx)
 by_cases d1 : d = 1
 ·exact Or.inl d1
 by_cases e1 : e = 1
 ·right; subst e1; omega
 have d0 : d ≠ 0 := by intro h; subst h; omega
 have e0 : e ≠ 0 := by intro h; subst h; omega
 exfalso
 by_cases hde : d < 2 + 2 ^ k
 ·exact key d ap1 hde ⟨e, he⟩
 ·by_cases hee : e < 2 + 2 ^ k
  ·exact key e ap1 hee ⟨d, by rw [Nat.mul_comm]; exact he⟩
  ·have : (2 + 2 ^ k) * (2 + 2 ^ k) ≤ d * e := Nat.mul_le_mul ap1 ap1
   omega
theorem IsP.cop {p a : Nat} (hp : IsP p) (ha : ¬ p ∣ a) : Nat.Coprime p a := by
 rcases hp.2 (Nat.gcd p a) (Nat.gcd_dvd_left p a) with h | h
 ·exact h
 ·exact absurd (h ▸ Nat.gcd_dvd_right p a) ha
theorem IsP.euclid {p a b : Nat} (hp : IsP p) (h : p ∣ a * b) : p ∣ a ∨ p ∣ b := by
 by_cases ha : p ∣ a
 ·exact Or.inl ha
 ·exact Or.inr ((hp.cop ha).dvd_of_dvd_mul_left h)
def ch : Nat → Nat → Nat
 | _, 0 => 1
 | 0, _ + 1 => 0
 | n + 1, k + 1 => ch n k + ch n (k + 1)
theorem j0u (n : Nat) : ch n 0 = 1 := by cases n <;> rfl
theorem i0E : ∀ (n k : Nat), n < k → ch n k = 0
 | 0, 0, h => by omega
 | 0, _ + 1, _ => rfl
 | n + 1, 0, h => by omega
 | n + 1, k + 1, h => by rw [ch, i0E n k ap1, i0E n (k + 1) ap1]
theorem q0F : ∀ n : Nat, ch n n = 1
 | 0 => rfl
 | n + 1 => by rw [ch, q0F n, i0E n (n + 1) ap1]
theorem f0v : ∀ (n k : Nat), (k + 1) * ch (n + 1) (k + 1) = (n + 1) * ch n k
 | 0, 0 => rfl
 | 0, k + 1 => by rw [i0E (0 + 1) (k + 1 + 1) ap1, i0E 0 (k + 1) ap1]; simp
 | n + 1, 0 => by
  have h := f0v n 0
  have e : ch (n + 1 + 1) (0 + 1) = ch (n + 1) 0 + ch (n + 1) (0 + 1) := rfl
  rw [e, j0u]
  rw [j0u] at h
  omega
 | n + 1, k + 1 => by
  have h1 := f0v n k
  have h2 := f0v n (k + 1)
  have e : ch (n + 1 + 1) (k + 1 + 1) = ch (n + 1) (k + 1) + ch (n + 1) (k + 1 + 1) := rfl
  have e2 : ch (n + 1) (k + 1) = ch n k + ch n (k + 1) := rfl
  rw [e, Nat.mul_add]
  have h3 : (k + 1 + 1) * ch (n + 1) (k + 1) = (n + 1) * ch n k + ch (n + 1) (k + 1) := by rw [← h1, Nat.succ_mul]
  rw [h3, h2, Nat.succ_mul (n + 1)]
  have : (n + 1) * ch (n + 1) (k + 1) = (n + 1) * ch n k + (n + 1) * ch n (k + 1) := by rw [e2, Nat.mul_add]
  omega
def c0F : Nat → (Nat → Nat) → Nat
 | 0, _ => 0
 | n + 1, f => c0F n f + f n
theorem d0P (f : Nat → Nat) : ∀ n, c0F (n + 1) f = f 0 + c0F n (fun k => f (k + 1))
 | 0 => by simp [c0F]
 | n + 1 => by rw [c0F, d0P f n]; simp only [c0F]; omega
theorem k0F (f g : Nat → Nat) : ∀ n, c0F n (fun k => f k + g k) = c0F n f + c0F n g
 | 0 => rfl
 | n + 1 => by simp only [c0F]; rw [k0F f g n]; omega
theorem k0G (f : Nat → Nat) (a : Nat) : ∀ n, c0F n (fun k => f k * a) = c0F n f * a
 | 0 => by simp [c0F]
 | n + 1 => by simp only [c0F]; rw [k0G f a n, Nat.add_mul]
theorem h0t (f g : Nat → Nat) : ∀ n, (∀ k, k < n → f k = g k) → c0F n f = c0F n g
 | 0, _ => rfl
 | n + 1, h => by simp only [c0F]; rw [h0t f g n (fun k hk => h k ap1), h n ap1]
theorem k0H (f : Nat → Nat) (p : Nat) : ∀ n, (∀ k, k < n → p ∣ f k) → p ∣ c0F n f
 | 0, _ => ⟨0, rfl⟩
 | n + 1, h => Nat.dvd_add (k0H f p n (fun k hk => h k ap1)) (h n ap1)
theorem y0q (a : Nat) : ∀ n, (a + 1) ^ n = c0F (n + 1) (fun k => ch n k * a ^ k)
 | 0 => by simp [c0F, ch]
 | n + 1 => by
  rw [Nat.pow_succ, Nat.mul_add, Nat.mul_one, y0q a n]
  rw [d0P (fun k => ch (n + 1) k * a ^ k) (n + 1)]
  have e : c0F (n + 1) (fun k => ch (n + 1) (k + 1) * a ^ (k + 1)) = c0F (n + 1) (fun k => ch n k * a ^ k * a) + c0F (n + 1) (fun k => ch n (k + 1) * a ^ (k + 1)) := by
   rw [← k0F]
   refine h0t _ _ _ fun k _ => ?_
   rw [show ch (n + 1) (k + 1) = ch n k + ch n (k + 1) from rfl, Nat.add_mul, Nat.pow_succ, Nat.mul_assoc]
  have e2 := d0P (fun k => ch n k * a ^ k) (n + 1)
  have e3 : c0F (n + 1 + 1) (fun k => ch n k * a ^ k) = c0F (n + 1) (fun k => ch n k * a ^ k) := by
   rw [c0F, i0E n (n + 1) ap1, Nat.zero_mul, Nat.add_zero]
  rw [e, k0G]
  simp only [j0u, Nat.pow_zero] at e2 ⊢
  omega
theorem y0r {p k : Nat} (hp : IsP p) (h0 : 0 < k) (hk : k < p) : p ∣ ch p k := by
 obtain ⟨q, rfl⟩ : ∃ q, p = q + 1 := ⟨p - 1, by have := hp.1; omega⟩
 obtain ⟨j, rfl⟩ : ∃ j, k = j + 1 := ⟨k - 1, by omega⟩
 have h := f0v q j
 have hd : (q + 1) ∣ (j + 1) * ch (q + 1) (j + 1) := ⟨_, h⟩
 rcases hp.euclid hd with h1 | h1
 ·exact absurd (Nat.le_of_dvd ap1 h1) ap1
 ·exact h1
theorem A0R {p : Nat} (hp : IsP p) (a : Nat) : (a + 1) ^ p % p = (a ^ p + 1) % p := by
 obtain ⟨q, rfl⟩ : ∃ q, p = q + 1 := ⟨p - 1, by have := hp.1; omega⟩
 rw [y0q, c0F, q0F, Nat.one_mul, d0P]
 obtain ⟨c, hc⟩ := k0H (fun k => ch (q + 1) (k + 1) * a ^ (k + 1)) (q + 1) q (fun k hk => Nat.dvd_trans (y0r hp ap1 ap1) (Nat.dvd_mul_right _ _))
 rw [hc, j0u, Nat.pow_zero, Nat.one_mul]
 rw [show 1 + (q + 1) * c + a ^ (q + 1) = a ^ (q + 1) + 1 + (q + 1) * c by omega, Nat.add_mul_mod_self_left]
theorem m0k {p : Nat} (hp : IsP p) : ∀ a, a ^ p % p = a % p
 | 0 => by rw [Nat.zero_pow (by have := hp.1; omega)]
 | a + 1 => by rw [A0R hp, Nat.add_mod, m0k hp a, ← Nat.add_mod]
theorem y0s {p a x y : Nat} (hp : IsP p) (ha : ¬ p ∣ a) (h : a * x % p = a * y % p) : x % p = y % p := by
 have key : ∀ x y, x ≤ y → a * x % p = a * y % p → x % p = y % p := by
  intro x y hxy h
  have hd : p ∣ a * (y - x) := by
   have := Nat.sub_mod_eq_zero_of_mod_eq h.symm
   rw [← Nat.mul_sub] at this
   exact Nat.dvd_of_mod_eq_zero this
  obtain ⟨c, hc⟩ := (hp.euclid hd).resolve_left ha
  rw [show y = x + p * c by omega, Nat.add_mul_mod_self_left]
 rcases Nat.le_total x y with h1 | h1
 ·exact key x y h1 h
 ·exact (key y x h1 h.symm).symm
theorem k0I {p a : Nat} (hp : IsP p) (ha : ¬ p ∣ a) : a ^ (p - 1) % p = 1 := by
 have h1 : 1 % p = 1 := Nat.mod_eq_of_lt hp.1
 have h2 : a ^ (p - 1) % p = 1 % p := by
  refine y0s hp ha ?_
  rw [Nat.mul_one, Nat.mul_comm, ← Nat.pow_succ, show (p - 1).succ = p by have := hp.1; omega]
  exact m0k hp a
 rw [h2, h1]
def pm (N : Nat) : Nat → Nat → Nat → Nat
 | 0, _, _ => 1 % N
 | k + 1, a, e => if e % 2 = 1 then pm N k (a * a % N) (e / 2) * a % N else pm N k (a * a % N) (e / 2)
theorem s0X (N : Nat) : ∀ k a e, e < 2 ^ k → pm N k a e = a ^ e % N
  | 0, a, e, h => by have : e = 0 := by simp at h; omega
                     subst this; rfl
  | k + 1, a, e, h => by
    have h2 : e / 2 < 2 ^ k := by rw [Nat.pow_succ] at h; omega
    have e1 : pm N k (a * a % N) (e / 2) = a ^ (2 * (e / 2)) % N := by
      rw [s0X N k _ _ h2, ← Nat.pow_mod, ← Nat.pow_two, ← Nat.pow_mul]
    rw [pm, e1]
    split
    · rename_i ho
      rw [Nat.mod_mul_mod, ← Nat.pow_succ]
      congr 2; omega
    · congr 2; omega
theorem h0u {N b : Nat} (k : Nat) (h : b % N = 1 % N) : b ^ k % N = 1 % N := by
 rw [Nat.pow_mod, h, ← Nat.pow_mod, Nat.one_pow]
theorem w0e {N b : Nat} (m n : Nat) (hm : b ^ m % N = 1 % N) (hn : b ^ n % N = 1 % N) : b ^ Nat.gcd m n % N = 1 % N := by
 induction m, n using Nat.gcd.induction with
 | H0 n => rw [Nat.gcd_zero_left]; exact hn
 | H1 m n h ih =>
  rw [Nat.gcd_rec]
  refine ih ?_ hm
  have e : b ^ n = b ^ (n % m) * (b ^ m) ^ (n / m) := by
   rw [← Nat.pow_mul, ← Nat.pow_add]; congr 1; have := Nat.mod_add_div n m; omega
  rw [e, Nat.mul_mod, h0u (n / m) hm, ← Nat.mul_mod, Nat.mul_one] at hn
  exact hn
theorem A0e {N r a d : Nat} (hr : IsP r) (hd : IsP d) (hdN : d ∣ N) (hN : 1 < N) (hrN : (N - 1) % r = 0)
  (h1 : a ^ (N - 1) % N = 1) (h2 : Nat.gcd (a ^ ((N - 1) / r) % N + (N - 1)) N = 1) : r ∣ d - 1 := by
 refine Classical.byContradiction fun hn => ?_
 have hm1 : ∀ x, x % N = 1 → x % d = 1 % d := fun x hx => by
  obtain ⟨c, hc⟩ := hdN
  have h3 : x % N % d = x % d := Nat.mod_mod_of_dvd x ⟨c, hc⟩
  rw [← h3, hx]
 have hd0 : ¬ d ∣ a := by
  intro h
  have h3 := hm1 _ h1
  have hpw : a ∣ a ^ (N - 1) := by
   obtain ⟨k, hk⟩ : ∃ k, N - 1 = k + 1 := ⟨N - 2, by omega⟩
   rw [hk, Nat.pow_succ]; exact Nat.dvd_mul_left _ _
  have h4 : a ^ (N - 1) % d = 0 := Nat.mod_eq_zero_of_dvd (Nat.dvd_trans h hpw)
  rw [h4, Nat.mod_eq_of_lt hd.1] at h3
  omega
 have e1 : (a ^ ((N - 1) / r)) ^ r % d = 1 % d := by
  rw [← Nat.pow_mul, Nat.div_mul_cancel (Nat.dvd_of_mod_eq_zero hrN)]
  exact hm1 _ h1
 have e2 : (a ^ ((N - 1) / r)) ^ (d - 1) % d = 1 % d := by
  rw [← Nat.pow_mul, Nat.mul_comm, Nat.pow_mul]
  exact h0u _ (by rw [k0I hd hd0, Nat.mod_eq_of_lt hd.1])
 have e3 := w0e _ _ e1 e2
 rw [show Nat.gcd r (d - 1) = 1 from hr.cop hn, Nat.pow_one] at e3
 have e4 : d ∣ a ^ ((N - 1) / r) % N + (N - 1) := by
  refine Nat.dvd_of_mod_eq_zero ?_
  have e5 : (a ^ ((N - 1) / r) % N) % d = 1 % d := by rw [Nat.mod_mod_of_dvd _ hdN]; exact e3
  rw [Nat.add_mod, e5, ← Nat.add_mod, show 1 + (N - 1) = N by omega]
  exact Nat.mod_eq_zero_of_dvd hdN
 have e6 : d ∣ 1 := by rw [← h2]; exact Nat.dvd_gcd e4 hdN
 have := Nat.le_of_dvd ap1 e6
 have := hd.1
 omega
theorem g0m : ∀ (n : Nat), 1 < n → ∃ d, IsP d ∧ d ∣ n := by
 intro n
 induction n using Nat.strongRecOn with
 | _ n ih =>
  intro h
  by_cases hp : IsP n
  ·exact ⟨n, hp, Nat.dvd_refl n⟩
  ·have : ∃ d, d ∣ n ∧ d ≠ 1 ∧ d ≠ n := by
    refine Classical.byContradiction fun hn => hp ⟨h, fun d hd => ?_⟩
    by_cases d1 : d = 1
    ·exact Or.inl d1
    ·exact Or.inr (Classical.byContradiction fun d2 => hn ⟨d, hd, d1, d2⟩)
   obtain ⟨d, hd, d1, d2⟩ := this
   have hle := Nat.le_of_dvd ap1 hd
   have d0 : d ≠ 0 := by intro h0; subst h0; have := Nat.eq_zero_of_zero_dvd hd; omega
   obtain ⟨e, he, hed⟩ := ih d ap1 ap1
   exact ⟨e, he, Nat.dvd_trans hed hd⟩
theorem m0l {N : Nat} (h : 1 < N) (hn : ¬ IsP N) : ∃ d, IsP d ∧ d ∣ N ∧ d * d ≤ N := by
 have : ∃ d, d ∣ N ∧ d ≠ 1 ∧ d ≠ N := by
  refine Classical.byContradiction fun hx => hn ⟨h, fun d hd => ?_⟩
  by_cases d1 : d = 1
  ·exact Or.inl d1
  ·exact Or.inr (Classical.byContradiction fun d2 => hx ⟨d, hd, d1, d2⟩)
 obtain ⟨d, ⟨e, he⟩, d1, d2⟩ := this
 have d0 : d ≠ 0 := by intro h0; subst h0; omega
 have e0 : e ≠ 0 := by intro h0; subst h0; omega
 have e1 : e ≠ 1 := by intro h0; subst h0; omega
 rcases Nat.le_total d e with hde | hde
 ·obtain ⟨f, hf, hfd⟩ := g0m d ap1
  refine ⟨f, hf, Nat.dvd_trans hfd ⟨e, he⟩, ?_⟩
  have hle := Nat.le_of_dvd ap1 hfd
  rw [he]
  exact Nat.mul_le_mul hle ap1
 ·obtain ⟨f, hf, hfd⟩ := g0m e ap1
  refine ⟨f, hf, Nat.dvd_trans hfd ⟨d, by rw [Nat.mul_comm]; exact he⟩, ?_⟩
  have hle := Nat.le_of_dvd ap1 hfd
  rw [he]
  exact Nat.mul_le_mul ap1 hle
def stepB (N k r a : Nat) : Bool := (N - 1) % r == 0 && pm N k a (N - 1) == 1 && Nat.gcd (pm N k a ((N - 1) / r) + (N - 1)) N == 1
theorem s0Y {N k r a : Nat} (h1 : 1 < N) (hk : N < 2 ^ k) (h : stepB N k r a = true) : (N - 1) % r = 0 ∧ a ^ (N - 1) % N = 1 ∧ Nat.gcd (a ^ ((N - 1) / r) % N + (N - 1)) N = 1 := by
 simp only [stepB, Bool.and_eq_true, beq_iff_eq] at h
 rw [s0X N k a (N - 1) ap1, s0X N k a ((N - 1) / r) (by have := Nat.div_le_self (N - 1) r; omega)] at h
 exact ⟨h.1.1, h.1.2, h.2⟩
def prodL : List Nat → Nat
 | [] => 1
 | r :: l => r * prodL l
theorem k0J {x : Nat} : ∀ (l : List Nat), (∀ r, r ∈ l → IsP r) → l.Nodup → (∀ r, r ∈ l → r ∣ x) → prodL l ∣ x
 | [], _, _, _ => Nat.one_dvd _
 | r :: l, hp, hn, hd => by
  rw [List.nodup_cons] at hn
  have ih := k0J l (fun r hr => hp r (by simp [hr])) hn.2 (fun r hr => hd r (by simp [hr]))
  have hr := hp r ap4
  have hc : Nat.Coprime r (prodL l) := by
   refine hr.cop fun hx => ?_
   have : ∀ (l : List Nat), (∀ q, q ∈ l → IsP q) → r ∣ prodL l → r ∈ l := by
    intro l
    induction l with
    | nil => intro _ h; have := Nat.le_of_dvd ap2 h; have := hr.1; simp [prodL] at *; omega
    | cons q l ih2 =>
     intro hq h
     rcases hr.euclid h with h1 | h1
     ·rcases (hq q ap4).2 r h1 with h2 | h2
      ·have := hr.1; omega
      ·simp [h2]
     ·simp [ih2 (fun q hq' => hq q (by simp [hq'])) h1]
   exact hn.1 (this l (fun r hr => hp r (by simp [hr])) hx)
  exact hc.mul_dvd_of_dvd_of_dvd (hd r ap4) ih
theorem d0Q (N k : Nat) (l : List (Nat × Nat)) (h1 : 1 < N) (hk : N < 2 ^ k) (hp : ∀ x, x ∈ l → IsP x.1) (hn : (l.map (·.1)).Nodup)
  (hs : l.all (fun x => stepB N k x.1 x.2) = true) (hbig : N < prodL (l.map (·.1)) * prodL (l.map (·.1))) : IsP N := by
 refine Classical.byContradiction fun hno => ?_
 obtain ⟨d, hd, hdN, hdd⟩ := m0l h1 hno
 have hx : prodL (l.map (·.1)) ∣ d - 1 := by
  refine k0J _ (fun r hr => ?_) hn (fun r hr => ?_)
  ·obtain ⟨x, hx, rfl⟩ := List.mem_map.1 hr; exact hp x hx
  ·obtain ⟨x, hx, rfl⟩ := List.mem_map.1 hr
   have hst := s0Y h1 hk (List.all_eq_true.1 hs x hx)
   exact A0e (hp x hx) hd hdN h1 hst.1 hst.2.1 hst.2.2
 have hle := Nat.le_of_dvd (by have := hd.1; omega) hx
 have : prodL (l.map (·.1)) * prodL (l.map (·.1)) ≤ d * d := Nat.mul_le_mul ap1 ap1
 omega
end Mvq
namespace Mvq
theorem i0h : IsP 107590001 := c0I 107590001 14 ap2 (by decide +kernel) ap2
theorem k0K : IsP 7240687 := c0I 7240687 12 ap2 (by decide +kernel) ap2
theorem o0I : IsP 96557 := c0I 96557 9 ap2 (by decide +kernel) ap2
theorem b0E : IsP 255515944373312847190720520512484175977 := by
 refine d0Q 255515944373312847190720520512484175977 128 [(107590001, 2), (7240687, 2), (96557, 2)] ap2 ap2 (fun x hx => ?_) ap2 (by decide +kernel) (by decide +kernel)
 simp only [List.mem_cons, List.not_mem_nil, or_false] at hx
 rcases hx with rfl | rfl | rfl
 ·exact i0h
 ·exact k0K
 ·exact o0I
theorem a0K : IsP 205115282021455665897114700593932402728804164701536103180137503955397371 := by
 refine d0Q 205115282021455665897114700593932402728804164701536103180137503955397371 237 [(255515944373312847190720520512484175977, 2)] ap2 ap2 (fun x hx => ?_) ap2 (by decide +kernel) (by decide +kernel)
 simp only [List.mem_cons, List.not_mem_nil, or_false] at hx
 subst hx
 ·exact b0E
theorem u0I : IsP 115792089237316195423570985008687907853269984665640564039457584007908834671663 := by
 refine d0Q 115792089237316195423570985008687907853269984665640564039457584007908834671663 256 [(205115282021455665897114700593932402728804164701536103180137503955397371, 2)] ap2 ap2 (fun x hx => ?_) ap2 (by decide +kernel) (by decide +kernel)
 simp only [List.mem_cons, List.not_mem_nil, or_false] at hx
 subst hx
 ·exact a0K
theorem i0i : IsP 545358713 := c0I 545358713 15 ap2 (by decide +kernel) ap2
theorem m0m : IsP 305873 := c0I 305873 10 ap2 (by decide +kernel) ap2
theorem s0Z : IsP 293 := c0I 293 4 ap2 (by decide +kernel) ap2
theorem c0o : IsP 29047611873442575647497758179 := by
 refine d0Q 29047611873442575647497758179 95 [(545358713, 2), (305873, 2), (293, 2)] ap2 ap2 (fun x hx => ?_) ap2 (by decide +kernel) (by decide +kernel)
 simp only [List.mem_cons, List.not_mem_nil, or_false] at hx
 rcases hx with rfl | rfl | rfl
 ·exact i0i
 ·exact m0m
 ·exact s0Z
theorem b0V : IsP 341948486974166000522343609283189 := by
 refine d0Q 341948486974166000522343609283189 109 [(29047611873442575647497758179, 2)] ap2 ap2 (fun x hx => ?_) ap2 (by decide +kernel) (by decide +kernel)
 simp only [List.mem_cons, List.not_mem_nil, or_false] at hx
 subst hx
 ·exact c0o
theorem j0v : IsP 44706919 := c0I 44706919 13 ap2 (by decide +kernel) ap2
theorem m0n : IsP 120233 := c0I 120233 9 ap2 (by decide +kernel) ap2
theorem d0q : IsP 174723607534414371449 := by
 refine d0Q 174723607534414371449 68 [(44706919, 2), (120233, 2)] ap2 ap2 (fun x hx => ?_) ap2 (by decide +kernel) (by decide +kernel)
 simp only [List.mem_cons, List.not_mem_nil, or_false] at hx
 rcases hx with rfl | rfl
 ·exact j0v
 ·exact m0n
theorem u0J : IsP 115792089237316195423570985008687907852837564279074904382605163141518161494337 := by
 refine d0Q 115792089237316195423570985008687907852837564279074904382605163141518161494337 256 [(341948486974166000522343609283189, 2), (174723607534414371449, 2)] ap2 ap2 (fun x hx => ?_) ap2 (by decide +kernel) (by decide +kernel)
 simp only [List.mem_cons, List.not_mem_nil, or_false] at hx
 rcases hx with rfl | rfl
 ·exact b0V
 ·exact d0q
end Mvq
namespace Mvq
abbrev fP : Nat := 115792089237316195423570985008687907853269984665640564039457584007908834671663
instance : NeZero fP := ⟨by decide⟩
abbrev K := Fin fP
def kc (n : Nat) : K := Fin.ofNat fP n
theorem u0K (a b : Nat) : kc ((a + b) % fP) = kc a + kc b := by
 apply Fin.ext; simp [kc, Fin.ofNat, Fin.val_add]
theorem u0L (a b : Nat) : kc (a * b % fP) = kc a * kc b := by
 apply Fin.ext; simp [kc, Fin.ofNat, Fin.val_mul]
abbrev Pl := List (Nat × Nat)
def mo (x1 x2 x3 : K) (k : Nat) : K := x1 ^ (k % 1048576) * x2 ^ (k / 1048576 % 1048576) * x3 ^ (k / 1048576 / 1048576)
def o0J (d k : Nat) : Prop := k % 1048576 ≤ d ∧ k / 1048576 % 1048576 ≤ d ∧ k / 1048576 / 1048576 ≤ d
theorem k0L (x : K) (a b : Nat) : x ^ (a + b) = x ^ a * x ^ b := by
 induction b with
 | zero => simp only [Nat.add_zero]; grind -lia -linarith
 | succ b ih => rw [← Nat.add_assoc]; grind -lia -linarith
theorem y0t {d e k l : Nat} (hk : o0J d k) (hl : o0J e l) (h : d + e < 1048576) (x1 x2 x3 : K) : mo x1 x2 x3 (k + l) = mo x1 x2 x3 k * mo x1 x2 x3 l ∧ o0J (d + e) (k + l) := by
 obtain ⟨k1, k2, k3⟩ := hk
 obtain ⟨l1, l2, l3⟩ := hl
 have e1 : (k + l) % 1048576 = k % 1048576 + l % 1048576 := by omega
 have e2 : (k + l) / 1048576 = k / 1048576 + l / 1048576 := by omega
 have e3 : (k / 1048576 + l / 1048576) % 1048576 = k / 1048576 % 1048576 + l / 1048576 % 1048576 := by omega
 have e4 : (k / 1048576 + l / 1048576) / 1048576 = k / 1048576 / 1048576 + l / 1048576 / 1048576 := by omega
 constructor
 ·unfold mo
  rw [e1, e2, e3, e4]
  generalize k % 1048576 = a1; generalize l % 1048576 = b1; generalize k / 1048576 % 1048576 = a2; generalize l / 1048576 % 1048576 = b2; generalize k / 1048576 / 1048576 = a3; generalize l / 1048576 / 1048576 = b3
  rw [k0L, k0L, k0L]
  generalize x1 ^ a1 = u1; generalize x1 ^ b1 = v1; generalize x2 ^ a2 = u2; generalize x2 ^ b2 = v2; generalize x3 ^ a3 = u3; generalize x3 ^ b3 = v3
  grind -lia -linarith
 ·unfold o0J
  rw [e1, e2, e3, e4]; omega
def plv (x1 x2 x3 : K) : Pl → K
 | [] => 0
 | (k, c) :: l => kc c * mo x1 x2 x3 k + plv x1 x2 x3 l
def PBd (d : Nat) (a : Pl) : Prop := ∀ t ∈ a, o0J d t.1
def f0V : Nat → Pl → Pl → Pl
 | 0, a, b => a ++ b
 | _ + 1, [], b => b
 | _ + 1, a, [] => a
 | n + 1, (k, c) :: a, (l, d) :: b => match Nat.blt k l with
  | true => (k, c) :: f0V n a ((l, d) :: b)
  | false => match Nat.blt l k with
   | true => (l, d) :: f0V n ((k, c) :: a) b
   | false => (k, (c + d) % fP) :: f0V n a b
theorem w0f (x1 x2 x3 : K) (a b : Pl) : plv x1 x2 x3 (a ++ b) = plv x1 x2 x3 a + plv x1 x2 x3 b := by
 induction a with
 | nil => simp only [List.nil_append, plv]; grind -lia -linarith
 | cons t a ih =>
  obtain ⟨k, c⟩ := t
  simp only [List.cons_append, plv, ih]; grind -lia -linarith
theorem f0w (x1 x2 x3 : K) : ∀ (n : Nat) (a b : Pl), plv x1 x2 x3 (f0V n a b) = plv x1 x2 x3 a + plv x1 x2 x3 b
 | 0, a, b => w0f x1 x2 x3 a b
 | n + 1, [], b => by simp only [f0V, plv]; grind -lia -linarith
 | n + 1, t :: a, [] => by simp only [f0V, plv]; grind -lia -linarith
 | n + 1, (k, c) :: a, (l, d) :: b => by
  have h1 := f0w x1 x2 x3 n a ((l, d) :: b)
  have h2 := f0w x1 x2 x3 n ((k, c) :: a) b
  have h3 := f0w x1 x2 x3 n a b
  simp only [f0V]
  split
  ·simp only [plv] at *; grind -lia -linarith
  ·rename_i e1
   split
   ·simp only [plv] at *; grind -lia -linarith
   ·rename_i e2
    have hkl : k = l := by
     have : ¬ k < l := fun h => by rw [← Nat.blt_eq, e1] at h; cases h
     have : ¬ l < k := fun h => by rw [← Nat.blt_eq, e2] at h; cases h
     omega
    subst hkl
    simp only [plv, u0K, h3]
    generalize mo x1 x2 x3 k = m
    generalize kc c = u
    generalize kc d = v
    grind -lia -linarith
theorem f0x (d : Nat) : ∀ (n : Nat) (a b : Pl), PBd d a → PBd d b → PBd d (f0V n a b)
 | 0, a, b, ha, hb => fun t ht => by
  rcases List.mem_append.1 ht with h | h
  ·exact ha t h
  ·exact hb t h
 | n + 1, [], b, _, hb => by simpa only [f0V] using hb
 | n + 1, t :: a, [], ha, _ => by simpa only [f0V] using ha
 | n + 1, (k, c) :: a, (l, e) :: b, ha, hb => by
  have ha' : PBd d a := fun t ht => ha t (List.mem_cons_of_mem _ ht)
  have hb' : PBd d b := fun t ht => hb t (List.mem_cons_of_mem _ ht)
  simp only [f0V]
  split
  ·intro t ht
   rcases List.mem_cons.1 ht with h | h
   ·subst h; exact ha (k, c) ap4
   ·exact f0x d n a _ ha' hb t h
  ·split
   ·intro t ht
    rcases List.mem_cons.1 ht with h | h
    ·subst h; exact hb (l, e) ap4
    ·exact f0x d n _ b ha hb' t h
   ·intro t ht
    rcases List.mem_cons.1 ht with h | h
    ·subst h; exact ha (k, c) ap4
    ·exact f0x d n a b ha' hb' t h
def g0n (k c : Nat) : Pl → Pl
 | [] => []
 | (l, d) :: b => (k + l, c * d % fP) :: g0n k c b
theorem k0M (x1 x2 x3 : K) {d e k : Nat} (c : Nat) (hk : o0J d k) (h : d + e < 1048576) : ∀ (b : Pl), PBd e b → plv x1 x2 x3 (g0n k c b) = kc c * mo x1 x2 x3 k * plv x1 x2 x3 b ∧ PBd (d + e) (g0n k c b)
 | [], _ => by
  refine ⟨?_, fun t ht => absurd ht (by simp [g0n])⟩
  simp only [g0n, plv]; grind -lia -linarith
 | (l, f) :: b, hb => by
  have ih := k0M x1 x2 x3 c hk h b (fun t ht => hb t (List.mem_cons_of_mem _ ht))
  have hm := y0t hk (hb (l, f) ap4) h x1 x2 x3
  refine ⟨?_, fun t ht => ?_⟩
  ·simp only [g0n, plv, u0L, ih.1, hm.1]
   generalize mo x1 x2 x3 k = m; generalize mo x1 x2 x3 l = m2; generalize kc c = u; generalize kc f = v; generalize plv x1 x2 x3 b = q
   grind -lia -linarith
  ·simp only [g0n] at ht
   rcases List.mem_cons.1 ht with h1 | h1
   ·subst h1; exact hm.2
   ·exact ih.2 t h1
def m0o : Pl → Pl → Pl
 | [], _ => []
 | (k, c) :: a, b => f0V 100000 (g0n k c b) (m0o a b)
theorem n0q (x1 x2 x3 : K) {d e : Nat} (h : d + e < 1048576) : ∀ (a b : Pl), PBd d a → PBd e b → plv x1 x2 x3 (m0o a b) = plv x1 x2 x3 a * plv x1 x2 x3 b ∧ PBd (d + e) (m0o a b)
 | [], b, _, _ => by
  refine ⟨?_, fun t ht => absurd ht (by simp [m0o])⟩
  simp only [m0o, plv]; grind -lia -linarith
 | (k, c) :: a, b, ha, hb => by
  have ih := n0q x1 x2 x3 h a b (fun t ht => ha t (List.mem_cons_of_mem _ ht)) hb
  have ht := k0M x1 x2 x3 c (ha (k, c) ap4) h b hb
  refine ⟨?_, f0x _ _ _ _ ht.2 ih.2⟩
  simp only [m0o, f0w, plv, ht.1, ih.1]
  grind -lia -linarith
theorem PBd.mono {d e : Nat} {a : Pl} (h : PBd d a) (hd : d ≤ e) : PBd e a := fun t ht => by
 obtain ⟨h1, h2, h3⟩ := h t ht
 exact ⟨by omega, by omega, by omega⟩
structure Ops (α : Type) where
 add : α → α → α
 mul : α → α → α
structure Snd {α : Type} (o : Ops α) (val : α → K) (Bd : Nat → α → Prop) (c : Nat) : Prop where
 add : ∀ a b, val (o.add a b) = val a + val b
 addB : ∀ d a b, Bd d a → Bd d b → Bd d (o.add a b)
 mul : ∀ d e a b, Bd d a → Bd e b → d + e + c < 1048576 → val (o.mul a b) = val a * val b ∧ Bd (d + e + c) (o.mul a b)
 mono : ∀ d e a, Bd d a → d ≤ e → Bd e a
def y0u : Ops Pl := ⟨f0V 100000, m0o⟩
theorem A0f (x1 x2 x3 : K) : Snd y0u (plv x1 x2 x3) PBd 0 :=
 ⟨fun a b => f0w x1 x2 x3 _ a b, fun d a b ha hb => f0x d _ a b ha hb, fun d e a b ha hb h => n0q x1 x2 x3 (d := d) (e := e) h a b ha hb, fun _ _ _ h hd => h.mono hd⟩
def o0K {α : Type} (o : Ops α) (f : α) : Ops (α × α) :=
 ⟨fun p q => (o.add p.1 q.1, o.add p.2 q.2), fun p q => (o.add (o.mul p.1 q.1) (o.mul (o.mul p.2 q.2) f), o.add (o.mul p.1 q.2) (o.mul p.2 q.1))⟩
def e0b {α : Type} (val : α → K) (y : K) (p : α × α) : K := val p.1 + val p.2 * y
def w0g {α : Type} (Bd : Nat → α → Prop) (d : Nat) (p : α × α) : Prop := Bd d p.1 ∧ Bd d p.2
theorem w0h {α : Type} {o : Ops α} {val : α → K} {Bd : Nat → α → Prop} {c : Nat} (h : Snd o val Bd c) (f : α) (y : K) (hy : y * y = val f) (hf : Bd 3 f) : Snd (o0K o f) (e0b val y) (w0g Bd) (c + c + 3) := by
 refine ⟨fun a b => ?_, fun d a b ha hb => ⟨h.addB _ _ _ ha.1 hb.1, h.addB _ _ _ ha.2 hb.2⟩, fun d e a b ha hb hd => ?_, fun d e a ha hd => ⟨h.mono _ _ _ ha.1 hd, h.mono _ _ _ ha.2 hd⟩⟩
 ·simp only [e0b, o0K, h.add]; grind -lia -linarith
 ·have m11 := h.mul d e a.1 b.1 ha.1 hb.1 ap1
  have m22 := h.mul d e a.2 b.2 ha.2 hb.2 ap1
  have m12 := h.mul d e a.1 b.2 ha.1 hb.2 ap1
  have m21 := h.mul d e a.2 b.1 ha.2 hb.1 ap1
  have mf := h.mul _ 3 _ f m22.2 hf ap1
  refine ⟨?_, h.addB _ _ _ (h.mono _ _ _ m11.2 ap1) (h.mono _ _ _ mf.2 ap1), h.addB _ _ _ (h.mono _ _ _ m12.2 ap1) (h.mono _ _ _ m21.2 ap1)⟩
  simp only [e0b, o0K, h.add, m11.1, m12.1, m21.1, mf.1, m22.1, ← hy]
  grind -lia -linarith
end Mvq
namespace Mvq
def fPl (i : Nat) : Pl := [(0, 7), (3 * i, 1)]
abbrev T3 := ((Pl × Pl) × (Pl × Pl)) × ((Pl × Pl) × (Pl × Pl))
def o1 : Ops (Pl × Pl) := o0K y0u (fPl 1)
def o2 : Ops ((Pl × Pl) × (Pl × Pl)) := o0K o1 (fPl 1048576, [])
def o3 : Ops T3 := o0K o2 ((fPl 1099511627776, []), ([], []))
def v3 (x1 x2 x3 y1 y2 y3 : K) : T3 → K := e0b (e0b (e0b (plv x1 x2 x3) y1) y2) y3
def b3 : Nat → T3 → Prop := w0g (w0g (w0g PBd))
theorem c0U (d : Nat) (a : Pl) (h : (a.all fun t => decide (t.1 % 1048576 ≤ d) && decide (t.1 / 1048576 % 1048576 ≤ d) && decide (t.1 / 1048576 / 1048576 ≤ d)) = true) : PBd d a := fun t ht => by
 have h1 := List.all_eq_true.1 h t ht
 simp only [Bool.and_eq_true, decide_eq_true_eq] at h1
 exact ⟨h1.1.1, h1.1.2, h1.2⟩
theorem kc7 : kc 7 = 7 := by decide
theorem kc1 : kc 1 = 1 := by decide
theorem A0S (x1 x2 x3 y1 y2 y3 : K) (h1 : y1 * y1 = x1 * x1 * x1 + 7) (h2 : y2 * y2 = x2 * x2 * x2 + 7) (h3 : y3 * y3 = x3 * x3 * x3 + 7) : Snd o3 (v3 x1 x2 x3 y1 y2 y3) b3 21 := by
 have s1 : Snd o1 (e0b (plv x1 x2 x3) y1) (w0g PBd) 3 := w0h (A0f x1 x2 x3) _ y1 (by
  simp only [fPl, plv, mo, kc7, kc1]
  grind -lia -linarith) (c0U _ _ ap2)
 have s2 : Snd o2 (e0b (e0b (plv x1 x2 x3) y1) y2) (w0g (w0g PBd)) 9 := w0h s1 _ y2 (by
  simp only [fPl, e0b, plv, mo, kc7, kc1]
  grind -lia -linarith) ⟨c0U _ _ ap2, c0U _ _ ap2⟩
 exact w0h s2 _ y3 (by
  simp only [fPl, e0b, plv, mo, kc7, kc1]
  grind -lia -linarith) ⟨⟨c0U _ _ ap2, c0U _ _ ap2⟩, ⟨c0U _ _ ap2, c0U _ _ ap2⟩⟩
structure Rp (V : T3 → K) (d : Nat) (a : T3) (u : K) : Prop where
 val : V a = u
 bd : b3 d a
section
variable {V : T3 → K} (S : Snd o3 V b3 21)
include S
theorem Rp.add {d e : Nat} {a b : T3} {u v : K} (ha : Rp V d a u) (hb : Rp V e b v) : Rp V (d + e) (o3.add a b) (u + v) :=
 ⟨by rw [S.add, ha.val, hb.val], S.addB _ _ _ (S.mono _ _ _ ha.bd ap1) (S.mono _ _ _ hb.bd ap1)⟩
theorem Rp.mul {d e : Nat} {a b : T3} {u v : K} (ha : Rp V d a u) (hb : Rp V e b v) (h : d + e + 21 < 1048576) : Rp V (d + e + 21) (o3.mul a b) (u * v) := by
 have := S.mul d e a b ha.bd hb.bd h
 exact ⟨by rw [this.1, ha.val, hb.val], this.2⟩
end
def tc (n : Nat) : T3 := ((([(0, n)], []), ([], [])), (([], []), ([], [])))
def cX (X1 Y1 Z1 X2 Y2 Z2 : K) : K := (X1*Y2 + X2*Y1)*(Y1*Y2 + kc (fP - 21)*(Z1*Z2)) + kc (fP - 21)*((Y1*Z2 + Y2*Z1)*(X1*Z2 + X2*Z1))
def cY (X1 Y1 Z1 X2 Y2 Z2 : K) : K := (Y1*Y2 + kc 21*(Z1*Z2))*(Y1*Y2 + kc (fP - 21)*(Z1*Z2)) + kc 63*((X1*X2)*(X1*Z2 + X2*Z1))
def cZ (X1 Y1 Z1 X2 Y2 Z2 : K) : K := (Y1*Z2 + Y2*Z1)*(Y1*Y2 + kc 21*(Z1*Z2)) + kc 3*((X1*X2)*(X1*Y2 + X2*Y1))
def tX (X1 Y1 Z1 X2 Y2 Z2 : T3) : T3 := o3.add (o3.mul (o3.add (o3.mul X1 Y2) (o3.mul X2 Y1)) (o3.add (o3.mul Y1 Y2) (o3.mul (tc (fP - 21)) (o3.mul Z1 Z2)))) (o3.mul (tc (fP - 21)) (o3.mul (o3.add (o3.mul Y1 Z2) (o3.mul Y2 Z1)) (o3.add (o3.mul X1 Z2) (o3.mul X2 Z1))))
def tY (X1 Y1 Z1 X2 Y2 Z2 : T3) : T3 := o3.add (o3.mul (o3.add (o3.mul Y1 Y2) (o3.mul (tc 21) (o3.mul Z1 Z2))) (o3.add (o3.mul Y1 Y2) (o3.mul (tc (fP - 21)) (o3.mul Z1 Z2)))) (o3.mul (tc 63) (o3.mul (o3.mul X1 X2) (o3.add (o3.mul X1 Z2) (o3.mul X2 Z1))))
def tZ (X1 Y1 Z1 X2 Y2 Z2 : T3) : T3 := o3.add (o3.mul (o3.add (o3.mul Y1 Z2) (o3.mul Y2 Z1)) (o3.add (o3.mul Y1 Y2) (o3.mul (tc 21) (o3.mul Z1 Z2)))) (o3.mul (tc 3) (o3.mul (o3.mul X1 X2) (o3.add (o3.mul X1 Y2) (o3.mul X2 Y1))))
section
variable {V : T3 → K} (S : Snd o3 V b3 21) (hc : ∀ n, Rp V 0 (tc n) (kc n))
include S hc
omit hc in
theorem Rp.mono {d e : Nat} {a : T3} {u : K} (ha : Rp V d a u) (h : d ≤ e) : Rp V e a u := ⟨ha.val, S.mono _ _ _ ha.bd h⟩
theorem t_ok {d e : Nat} {A1 B1 C1 A2 B2 C2 : T3} {X1 Y1 Z1 X2 Y2 Z2 : K} (hA1 : Rp V d A1 X1) (hB1 : Rp V d B1 Y1) (hC1 : Rp V d C1 Z1) (hA2 : Rp V e A2 X2) (hB2 : Rp V e B2 Y2) (hC2 : Rp V e C2 Z2) (h : d + e < 10000) :
  Rp V (8 * (d + e) + 300) (tX A1 B1 C1 A2 B2 C2) (cX X1 Y1 Z1 X2 Y2 Z2) ∧ Rp V (8 * (d + e) + 300) (tY A1 B1 C1 A2 B2 C2) (cY X1 Y1 Z1 X2 Y2 Z2) ∧ Rp V (8 * (d + e) + 300) (tZ A1 B1 C1 A2 B2 C2) (cZ X1 Y1 Z1 X2 Y2 Z2) := by
 have m1 := Rp.add S (Rp.mul S hA1 hB2 ap1) (Rp.mul S hA2 hB1 ap1)
 have m2 := Rp.add S (Rp.mul S hB1 hB2 ap1) (Rp.mul S (hc (fP - 21)) (Rp.mul S hC1 hC2 ap1) ap1)
 have m6 := Rp.add S (Rp.mul S hB1 hB2 ap1) (Rp.mul S (hc 21) (Rp.mul S hC1 hC2 ap1) ap1)
 have m3 := Rp.add S (Rp.mul S hB1 hC2 ap1) (Rp.mul S hB2 hC1 ap1)
 have m4 := Rp.add S (Rp.mul S hA1 hC2 ap1) (Rp.mul S hA2 hC1 ap1)
 have m7 := Rp.mul S hA1 hA2 ap1
 have m5 := Rp.add S (Rp.mul S m1 m2 ap1) (Rp.mul S (hc (fP - 21)) (Rp.mul S m3 m4 ap1) ap1)
 have m8 := Rp.add S (Rp.mul S m6 m2 ap1) (Rp.mul S (hc 63) (Rp.mul S m7 m4 ap1) ap1)
 have m9 := Rp.add S (Rp.mul S m3 m6 ap1) (Rp.mul S (hc 3) (Rp.mul S m7 m1 ap1) ap1)
 exact ⟨m5.mono S ap1, m8.mono S ap1, m9.mono S ap1⟩
end
def e0 : Pl × Pl := ([], [])
def e1 : (Pl × Pl) × (Pl × Pl) := (e0, e0)
def tx1 : T3 := ((([(1, 1)], []), e0), e1)
def tx2 : T3 := ((([(1048576, 1)], []), e0), e1)
def tx3 : T3 := ((([(1099511627776, 1)], []), e0), e1)
def ty1 : T3 := ((([], [(0, 1)]), e0), e1)
def ty2 : T3 := ((e0, ([(0, 1)], [])), e1)
def ty3 : T3 := (e1, (([(0, 1)], []), e0))
def lX : T3 := tX (tX tx1 ty1 (tc 1) tx2 ty2 (tc 1)) (tY tx1 ty1 (tc 1) tx2 ty2 (tc 1)) (tZ tx1 ty1 (tc 1) tx2 ty2 (tc 1)) tx3 ty3 (tc 1)
def lY : T3 := tY (tX tx1 ty1 (tc 1) tx2 ty2 (tc 1)) (tY tx1 ty1 (tc 1) tx2 ty2 (tc 1)) (tZ tx1 ty1 (tc 1) tx2 ty2 (tc 1)) tx3 ty3 (tc 1)
def lZ : T3 := tZ (tX tx1 ty1 (tc 1) tx2 ty2 (tc 1)) (tY tx1 ty1 (tc 1) tx2 ty2 (tc 1)) (tZ tx1 ty1 (tc 1) tx2 ty2 (tc 1)) tx3 ty3 (tc 1)
def rX : T3 := tX tx1 ty1 (tc 1) (tX tx2 ty2 (tc 1) tx3 ty3 (tc 1)) (tY tx2 ty2 (tc 1) tx3 ty3 (tc 1)) (tZ tx2 ty2 (tc 1) tx3 ty3 (tc 1))
def rY : T3 := tY tx1 ty1 (tc 1) (tX tx2 ty2 (tc 1) tx3 ty3 (tc 1)) (tY tx2 ty2 (tc 1) tx3 ty3 (tc 1)) (tZ tx2 ty2 (tc 1) tx3 ty3 (tc 1))
def rZ : T3 := tZ tx1 ty1 (tc 1) (tX tx2 ty2 (tc 1) tx3 ty3 (tc 1)) (tY tx2 ty2 (tc 1) tx3 ty3 (tc 1)) (tZ tx2 ty2 (tc 1) tx3 ty3 (tc 1))
end Mvq
namespace Mvq
theorem t0a : (o3.mul lX rZ == o3.mul rX lZ) = true := by decide +kernel
end Mvq
namespace Mvq
theorem t0b : (o3.mul lY rZ == o3.mul rY lZ) = true := by decide +kernel
end Mvq
namespace Mvq
theorem bd0 : PBd 1 [] := c0U _ _ ap2
theorem A0g (x1 x2 x3 y1 y2 y3 : K) (n : Nat) : Rp (v3 x1 x2 x3 y1 y2 y3) 0 (tc n) (kc n) := by
 refine ⟨?_, ?_⟩
 ·simp only [tc, v3, e0b, plv, mo]; grind -lia -linarith
 ·have h0 : PBd 0 [] := c0U _ _ ap2
  have h1 : PBd 0 [(0, n)] := c0U _ _ ap4
  exact ⟨⟨⟨h1, h0⟩, ⟨h0, h0⟩⟩, ⟨⟨h0, h0⟩, ⟨h0, h0⟩⟩⟩
section
variable (x1 x2 x3 y1 y2 y3 : K)
theorem w0i : kc 1 = 1 := by decide
theorem y0v : Rp (v3 x1 x2 x3 y1 y2 y3) 1 tx1 x1 := by
 refine ⟨?_, ⟨⟨⟨c0U _ _ ap2, bd0⟩, ⟨bd0, bd0⟩⟩, ⟨⟨bd0, bd0⟩, ⟨bd0, bd0⟩⟩⟩⟩
 simp only [tx1, e0, e1, v3, e0b, plv, mo, w0i]; grind -lia -linarith
theorem y0w : Rp (v3 x1 x2 x3 y1 y2 y3) 1 tx2 x2 := by
 refine ⟨?_, ⟨⟨⟨c0U _ _ ap2, bd0⟩, ⟨bd0, bd0⟩⟩, ⟨⟨bd0, bd0⟩, ⟨bd0, bd0⟩⟩⟩⟩
 simp only [tx2, e0, e1, v3, e0b, plv, mo, w0i]; grind -lia -linarith
theorem y0x : Rp (v3 x1 x2 x3 y1 y2 y3) 1 tx3 x3 := by
 refine ⟨?_, ⟨⟨⟨c0U _ _ ap2, bd0⟩, ⟨bd0, bd0⟩⟩, ⟨⟨bd0, bd0⟩, ⟨bd0, bd0⟩⟩⟩⟩
 simp only [tx3, e0, e1, v3, e0b, plv, mo, w0i]; grind -lia -linarith
theorem y0y : Rp (v3 x1 x2 x3 y1 y2 y3) 1 ty1 y1 := by
 refine ⟨?_, ⟨⟨⟨bd0, c0U _ _ ap2⟩, ⟨bd0, bd0⟩⟩, ⟨⟨bd0, bd0⟩, ⟨bd0, bd0⟩⟩⟩⟩
 simp only [ty1, e0, e1, v3, e0b, plv, mo, w0i]; grind -lia -linarith
theorem y0z : Rp (v3 x1 x2 x3 y1 y2 y3) 1 ty2 y2 := by
 refine ⟨?_, ⟨⟨⟨bd0, bd0⟩, ⟨c0U _ _ ap2, bd0⟩⟩, ⟨⟨bd0, bd0⟩, ⟨bd0, bd0⟩⟩⟩⟩
 simp only [ty2, e0, e1, v3, e0b, plv, mo, w0i]; grind -lia -linarith
theorem y0A : Rp (v3 x1 x2 x3 y1 y2 y3) 1 ty3 y3 := by
 refine ⟨?_, ⟨⟨⟨bd0, bd0⟩, ⟨bd0, bd0⟩⟩, ⟨⟨c0U _ _ ap2, bd0⟩, ⟨bd0, bd0⟩⟩⟩⟩
 simp only [ty3, e0, e1, v3, e0b, plv, mo, w0i]; grind -lia -linarith
end
theorem A0h (x1 x2 x3 y1 y2 y3 : K) (h1 : y1 * y1 = x1 * x1 * x1 + 7) (h2 : y2 * y2 = x2 * x2 * x2 + 7) (h3 : y3 * y3 = x3 * x3 * x3 + 7) :
  cX (cX x1 y1 1 x2 y2 1) (cY x1 y1 1 x2 y2 1) (cZ x1 y1 1 x2 y2 1) x3 y3 1 * cZ x1 y1 1 (cX x2 y2 1 x3 y3 1) (cY x2 y2 1 x3 y3 1) (cZ x2 y2 1 x3 y3 1) =
   cX x1 y1 1 (cX x2 y2 1 x3 y3 1) (cY x2 y2 1 x3 y3 1) (cZ x2 y2 1 x3 y3 1) * cZ (cX x1 y1 1 x2 y2 1) (cY x1 y1 1 x2 y2 1) (cZ x1 y1 1 x2 y2 1) x3 y3 1 ∧
  cY (cX x1 y1 1 x2 y2 1) (cY x1 y1 1 x2 y2 1) (cZ x1 y1 1 x2 y2 1) x3 y3 1 * cZ x1 y1 1 (cX x2 y2 1 x3 y3 1) (cY x2 y2 1 x3 y3 1) (cZ x2 y2 1 x3 y3 1) =
   cY x1 y1 1 (cX x2 y2 1 x3 y3 1) (cY x2 y2 1 x3 y3 1) (cZ x2 y2 1 x3 y3 1) * cZ (cX x1 y1 1 x2 y2 1) (cY x1 y1 1 x2 y2 1) (cZ x1 y1 1 x2 y2 1) x3 y3 1 := by
 have S := A0S x1 x2 x3 y1 y2 y3 h1 h2 h3
 have hc := A0g x1 x2 x3 y1 y2 y3
 have c1 : Rp (v3 x1 x2 x3 y1 y2 y3) 1 (tc 1) 1 := (w0i ▸ hc 1).mono S ap1
 have A := t_ok S hc (y0v x1 x2 x3 y1 y2 y3) (y0y x1 x2 x3 y1 y2 y3) c1 (y0w x1 x2 x3 y1 y2 y3) (y0z x1 x2 x3 y1 y2 y3) c1 ap1
 have B := t_ok S hc (y0w x1 x2 x3 y1 y2 y3) (y0z x1 x2 x3 y1 y2 y3) c1 (y0x x1 x2 x3 y1 y2 y3) (y0A x1 x2 x3 y1 y2 y3) c1 ap1
 have L := t_ok S hc A.1 A.2.1 A.2.2 (y0x x1 x2 x3 y1 y2 y3) (y0A x1 x2 x3 y1 y2 y3) c1 ap1
 have R := t_ok S hc (y0v x1 x2 x3 y1 y2 y3) (y0y x1 x2 x3 y1 y2 y3) c1 B.1 B.2.1 B.2.2 ap1
 have m1 := Rp.mul S L.1 R.2.2 ap1
 have m2 := Rp.mul S R.1 L.2.2 ap1
 have m3 := Rp.mul S L.2.1 R.2.2 ap1
 have m4 := Rp.mul S R.2.1 L.2.2 ap1
 refine ⟨?_, ?_⟩
 ·rw [← m1.val, ← m2.val]; exact congrArg _ (eq_of_beq t0a)
 ·rw [← m3.val, ← m4.val]; exact congrArg _ (eq_of_beq t0b)
end Mvq
