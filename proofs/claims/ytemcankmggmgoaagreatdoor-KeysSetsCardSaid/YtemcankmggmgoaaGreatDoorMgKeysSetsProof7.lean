/- ; ; ; ; ; ; ; . -/
import Derived.Test.YtemcankmggmgoaaGreatDoorMgKeysSetsProof6
import Derived.Test.YtemcankmggmgoaaGreatDoorMgKeysSetsProof2
import Derived.Test.YtemcankmggmgoaaGreatDoorMgKeysSetsProof3
set_option maxHeartbeats 16000000
set_option maxRecDepth 1000000

namespace Mvp
theorem t0P (n j : Nat) : lw n (4 * j / 64) / 2 ^ (4 * j % 64) % 16 = n / 16 ^ j % 16 := by
 have h64 : (18446744073709551616 : Nat) = 2 ^ (4 * j % 64) * 2 ^ (64 - 4 * j % 64) := by
  rw [← Nat.pow_add, show 4 * j % 64 + (64 - 4 * j % 64) = 64 by omega]
 have hd : (16 : Nat) ∣ 2 ^ (64 - 4 * j % 64) := by
  have : 64 - 4 * j % 64 = 4 + (60 - 4 * j % 64) := by omega
  rw [this, Nat.pow_add]
  exact Nat.dvd_mul_right _ _
 have hp : B64 ^ (4 * j / 64) * 2 ^ (4 * j % 64) = 16 ^ j := by
  have h16 : (16 : Nat) ^ j = 2 ^ (4 * j) := by rw [Nat.pow_mul]
  have hB : B64 ^ (4 * j / 64) = 2 ^ (64 * (4 * j / 64)) := by rw [Nat.pow_mul]
  rw [h16, hB, ← Nat.pow_add, Nat.div_add_mod]
 show n / B64 ^ (4 * j / 64) % 18446744073709551616 / 2 ^ (4 * j % 64) % 16 = _
 rw [h64, Nat.mod_mul_right_div_self, Nat.mod_mod_of_dvd _ hd, Nat.div_div_eq_div_mul, hp]
end Mvp
namespace Go.Mv
open Go.RowKit
theorem w0y {L R : List Value} {a n : Nat} (h : (L.drop a).take n = R) (b : Nat) (cs : List Value) (hb : b + cs.length ≤ n) (hc : (R.drop b).take cs.length = cs) : (L.drop (a + b)).take cs.length = cs := by
 rw [← h, List.drop_take, List.drop_drop, List.take_take, Nat.min_eq_left (by omega)] at hc
 exact hc
end Go.Mv
namespace Go.Proofs.YtemcankmggmgoaaGreatDoor
open Go.RowKit Go.Mv Mvp Mvq
noncomputable def tmR (t : Nat × PT) : List Value := cw 4 t.1 ++ tbL t.2 16
theorem c0I (t : Nat × PT) : (tmR t).length = 196 := by unfold tmR; rw [List.length_append, a0a, c0l]
theorem t0Q (t : Nat × PT) (k : Nat) (h : k < 4) : (tmR t)[k]? = some (.int .u64 (lw t.1 k)) := by
 unfold tmR
 rw [List.getElem?_append_left (by rw [a0a]; exact h)]
 exact a0D 4 t.1 k h
theorem w0z (t : Nat × PT) (d : Nat) (h : d < 16) : ((tmR t).drop (4 + d * 12)).take (f0G t.2 d).L.length = (f0G t.2 d).L := by
 have e : (tmR t).drop (4 + d * 12) = (tbL t.2 16).drop (d * 12) := by
  unfold tmR
  rw [List.drop_append, List.drop_of_length_le (by rw [a0a]; omega), List.nil_append, a0a, show 4 + d * 12 - 4 = d * 12 by omega]
 rw [e]
 exact r0v t.2 16 d h (Nat.le_refl _)
def g0p (l : List (Nat × PT)) (k : Nat) : Nat × PT := l.getD k (0, noT)
noncomputable def tmL (l : List (Nat × PT)) : List Value := (List.range l.length).flatMap fun k => tmR (g0p l k)
theorem r0w (l : List (Nat × PT)) (k : Nat) (h : k < l.length) : ((tmL l).drop (k * 196)).take (tmR (g0p l k)).length = tmR (g0p l k) :=
 n0F (fun k => tmR (g0p l k)) 196 (fun _ => c0I _) l.length k h
theorem w0A (l : List (Nat × PT)) (k d : Nat) (h : k < l.length) (hd : d < 16) : ((tmL l).drop (k * 196 + (4 + d * 12))).take (f0G (g0p l k).2 d).L.length = (f0G (g0p l k).2 d).L := by
 refine w0y (r0w l k h) _ _ ?_ (w0z _ d hd)
 rw [c0I, PT.len]; omega
noncomputable def dbN (o : PT) : Nat → PT
 | 0 => o
 | q + 1 => o0Y (dbN o q)
theorem z0w (o : PT) (q gc : Nat) (w : World) (h : Cv w gc) : Calls Tryz.prog 101 #[.pointer (some ⟨gc, 0, none⟩), (.agg (dbN o q).L.toArray)] w fun e w' => e = .returned (.agg (dbN o (q + 1)).L.toArray) ∧ Fr Nob w w' := t0G (dbN o q) gc w h
theorem y0q (o : PT) (_ : o.pt = o.pt) : (dbN o 4).pt = b0D 16 o.pt := by
 show (o0Y (o0Y (o0Y (o0Y o)))).pt = _
 rw [j0w, j0w, j0w, j0w, w0t o.onP]
noncomputable def j0N (l : List (Nat × PT)) (i : Nat) (o : PT) : Nat → PT
 | 0 => o
 | k + 1 => p0s (j0N l i o k) (f0G (g0p l k).2 (dig (63 - i) (g0p l k).1))
theorem y0r (l : List (Nat × PT)) (i : Nat) (o : PT) (k d : Nat) (hd : dig (63 - i) (g0p l k).1 = d) (gc : Nat) (w : World) (h : Cv w gc) : Calls Tryz.prog 102 #[.pointer (some ⟨gc, 0, none⟩), (.agg (j0N l i o k).L.toArray), (.agg (f0G (g0p l k).2 d).L.toArray)] w fun e w' => e = .returned (.agg (j0N l i o (k + 1)).L.toArray) ∧ Fr Nob w w' := by
 subst hd
 exact v0c (j0N l i o k) _ gc w h
noncomputable def i0w (l : List (Nat × PT)) : Nat → PT
 | 0 => noT
 | i + 1 => j0N l i (dbN (i0w l i) 4) l.length
theorem r0x (l : List (Nat × PT)) (i : Nat) : j0N l i (dbN (i0w l i) 4) l.length = i0w l (i + 1) := rfl
theorem r0y (l : List (Nat × PT)) : noT = i0w l 0 := rfl
theorem t0R (o : PT) : dbN o 0 = o := rfl
theorem r0z (l : List (Nat × PT)) (i : Nat) (o : PT) : j0N l i o 0 = o := rfl
noncomputable def p0c (l : List (Nat × PT)) : PT := i0w l 64
theorem w0B (l : List (Nat × PT)) : i0w l 64 = p0c l := rfl
attribute [local irreducible] a0J lw mix cw b0t b0G b0q a0P a0u beN laid b0o b0H a0M a0V elN mdL b0R rtN rtV c0E gXn gYn PT.L p0s o0Y f0G tbL tmR tmL dbN j0N i0w p0c dig
theorem w0C (t : Nat × PT) (i d : Nat) (hi : i < 64) (hd : dig (63 - i) t.1 = d) (w : World) :
  Calls Tryz.prog 103 #[.agg (tmR t).toArray, .int .i64 (i : Int)] w fun e w' => e = .returned (.int .u64 (d : Int)) ∧ Fr Nob w w' := by
 obtain ⟨a, ha⟩ : ∃ a, 252 - 4 * i = a := ⟨_, rfl⟩
 have ha2 : 4 * (63 - i) = a := by omega
 have hdd : lw t.1 (a / 64) / 2 ^ (a % 64) % 16 = d := by
  have := t0P t.1 (63 - i)
  rw [ha2] at this
  rw [this]
  unfold dig at hd
  exact hd
 have HD := qH hdd
 clear hd hdd
 have hal : a < 256 := by omega
 have haI : (256 : Int) - 4 * ((i : Int) + 1) = (a : Int) := by omega
 have st0 := St.start Nob w
 go_enter Tryz.func103, Tryz.ntmps103
 go_wp2_with (with_reducible refine wSk 2 ?_)
 refine a0m st0 rfl rfl rfl (tmR t) rfl ?_
 intro g1 w1 st1
 clear st0
 have c1 := (st1.at 0 rfl).cell (t0Q t (a / 64) (by omega))
 have hlo : (0 : Int) ≤ (a : Int) / 64 ∧ (a : Int) / 64 < 4 := by omega
 have hlo2 : (0 : Int) ≤ (a : Int) % 64 ∧ (a : Int) % 64 < 64 := by omega
 have e4 : ((a : Int) / 64).toNat = a / 64 := by omega
 have e5 : ((a : Int) % 64).toNat = a % 64 := by omega
 have hiI : (i : Int) < 64 := by omega
 have e6 : IntKind.i64.wrap ((i : Int) + 1) = (i : Int) + 1 := IntWalk.i64_in _ (by omega)
 have e7 : IntKind.i64.wrap (4 * ((i : Int) + 1)) = 4 * ((i : Int) + 1) := IntWalk.i64_in _ (by omega)
 have e8 : IntKind.i64.wrap (256 - 4 * ((i : Int) + 1)) = (a : Int) := by rw [haI]; exact IntWalk.i64_in _ (by omega)
 have hfr := st1.fr
 clear st1 haI
 have hw : lw t.1 (a / 64) / 2 ^ (a % 64) < 18446744073709551616 := Nat.lt_of_le_of_lt (Nat.div_le_self _ _) (c0n _ _)
 have hb := bits_and_u64_nat (lw t.1 (a / 64) / 2 ^ (a % 64)) 15 hw (by omega)
 rw [show (15 : Nat) = 2 ^ 4 - 1 by decide, Nat.and_two_pow_sub_one_eq_mod, show (2 : Nat) ^ 4 - 1 = 15 by decide, show (2 : Nat) ^ 4 = 16 by decide] at hb
 simp only [Int.natCast_ediv, Int.natCast_pow, Int.cast_ofNat_Int] at hb
 clear ha ha2 hi
 go_wp2
 go_ret
 refine ⟨i0T ?_, hfr⟩
 rw [← HD.out]
 simp
theorem z0x (l : List (Nat × PT)) (gc : Nat) (a : Option Addr) (n c : Nat) (w : World) (h : Cv w gc) (hl : l.length = n) (hn : n ≤ 100000) (htm : Rd w a (l.length * 196) (tmL l)) :
  Calls Tryz.prog 72 #[.pointer (some ⟨gc, 0, none⟩), .slice a n c] w fun e w' => e = .returned (.agg (p0c l).L.toArray) ∧ Fr Nob w w' := by
 subst hl
 rw [← w0B]
 have HCV := qH h
 have HTM := qH htm
 clear h htm
 have st0 := St.start Nob w
 go_enter Tryz.func72, Tryz.ntmps72
 go_wp2_with (with_reducible refine wSk 4 ?_)
 refine a0b st0 rfl rfl (z := .agg (List.replicate 12 (.int .u64 0)).toArray) (by kernel_rfl) (cw 12 0) (by rw [a0f]; rfl) ?_
 intro g4 w1 st1
 clear st0
 go_wp2_with fail
 refine (l0b gc _ (HCV.out.keep st1.fr)).mono ?_
 rintro e' w2 ⟨rfl, hf2⟩
 have st2 := st1.keep hf2
 clear st1 hf2
 go_wp2_with (with_reducible refine wSk 5 ?_)
 refine a0b st2 rfl rfl (z := .agg (List.replicate 12 (.int .u64 0)).toArray) (by kernel_rfl) (cw 12 0) (by rw [a0f]; rfl) ?_
 intro g5 w3 st3
 clear st2
 go_wp2_with (with_reducible refine wSn ?_)
 refine a0d st3 1 rfl rfl rfl rfl rfl (by first | (simp only [a0a]; done) | (simp only [a0a, PT.len]; done)) (by first | (rw [a0a]; kernel_rfl) | (simp only [PT.len]; kernel_rfl)) (PT.one _) ?_
 intro w4 st4
 clear st3
 rw [r0y l] at st4
 go_wp2
 go_loopw [10] (fun x wr => ∃ i : Nat, i ≤ 64 ∧ x = .int .i64 (i : Int) ∧ St Nob w wr [(g4, cw 12 0, 78), (g5, (i0w l i).L, 78)]) (fun x _ => 64 - (intOf x).toNat)
 case atStart => exact ⟨0, by omega, rfl, st4⟩
 case round =>
  obtain ⟨i, hi, rfl, st⟩ := hrel
  clear st4
  by_cases hlt : i < 64
  ·have hltI : (i : Int) < 64 := by omega
   go_wp2
   go_loopw [13] (fun x wr => ∃ q : Nat, q ≤ 4 ∧ x = .int .i64 (q : Int) ∧ St Nob w wr [(g4, cw 12 0, 78), (g5, (dbN (i0w l i) q).L, 78)]) (fun x _ => 4 - (intOf x).toNat)
   case atStart => exact ⟨0, by omega, rfl, by rw [t0R]; exact st⟩
   case round =>
    obtain ⟨q, hq, rfl, st2⟩ := hrel
    clear st
    by_cases hq4 : q < 4
    ·have hqI : (q : Int) < 4 := by omega
     go_wp2_with (with_reducible refine wSk 16 ?_)
     refine a0o st2 1 rfl rfl rfl Tryz.underlying78 rfl rfl (by first | (rw [a0a]; kernel_rfl) | (simp only [PT.len]; kernel_rfl)) ?_
     go_wp2_with fail
     refine (z0w (i0w l i) q gc _ (HCV.out.keep st2.fr)).mono ?_
     rintro e' w5 ⟨rfl, hf5⟩
     have st5 := st2.keep hf5
     clear st2 hf5
     go_wp2_with (with_reducible refine wSn ?_)
     refine a0d st5 1 rfl rfl rfl rfl rfl (by first | (simp only [a0a]; done) | (simp only [PT.len]; done)) (by first | (rw [a0a]; kernel_rfl) | (simp only [PT.len]; kernel_rfl)) (PT.one _) ?_
     intro w6 st6
     clear st5
     go_wp2
     go_roundw
     case rel => exact ⟨q + 1, by omega, by go_num, st6⟩
     case measure => simp [intOf]; omega
    ·have hqI : ¬ ((q : Int) < 4) := by omega
     have hq5 : q = 4 := by omega
     rw [hq5] at st2
     clear hq5
     go_wp2
     go_loopw [21] (fun x wr => ∃ k : Nat, k ≤ l.length ∧ x = .int .i64 (k : Int) ∧ St Nob w wr [(g4, cw 12 0, 78), (g5, (j0N l i (dbN (i0w l i) 4) k).L, 78)]) (fun x _ => l.length - (intOf x).toNat)
     case atStart => exact ⟨0, by omega, rfl, by rw [r0z]; exact st2⟩
     case round =>
      obtain ⟨k, hk, rfl, st3⟩ := hrel
      clear st2
      by_cases hkl : k < l.length
      ·have hkI : (k : Int) < (l.length : Int) := by omega
       obtain ⟨ba, oa, hea, -⟩ := HTM.out.at (by omega)
       subst hea
       obtain ⟨d, hd⟩ : ∃ d, dig (63 - i) (g0p l k).1 = d := ⟨_, rfl⟩
       have hd16 : d < 16 := by rw [← hd]; unfold dig; exact Nat.mod_lt _ (by decide)
       have HD := qH hd
       have HIL := qH hlt
       have HKL := qH hkl
       clear hd hlt hkl
       have HD16 := qH hd16
       have hd1 : (0 : Int) ≤ (d : Int) := by omega
       have hd2 : (d : Int) < 16 := by omega
       go_wp2_with fail
       refine wp_region_noPanic ?_
       refine a0p (fun wx => St Nob w wx [(g4, cw 12 0, 78), (g5, (j0N l i (dbN (i0w l i) 4) k).L, 78)]) 15 (.w 0 (.t 1 (.w 2 (.w 3 (.w 4 (.w 5 (.w 6 (.t 7 (.w 8 (.w 10 (.w 11 (.r 9 (.w 12 (.t 13 (.r 14 (.m 15 .nil)))))))))))))))) (by kernel_rfl) (by kernel_rfl) st3.drew (fun _ _ _ _ _ h => h) ?_
       have hd4 := st3.drew
       clear st3
       refine a0l (v := ?_) rfl rfl (fun wx => ?_) ?_
       rotate_left 1
       ·(go_simp; with_reducible rfl)
       try simp only [clL]
       refine a0s rfl rfl rfl rfl ((j0N l i (dbN (i0w l i) 4) k).L) (fun wx hS => St.rangeL hS 1 rfl 0 _ dZl) Tryz.underlying78 rfl (by first | (rw [a0a]; kernel_rfl) | (simp only [PT.len]; kernel_rfl)) ?_
       try simp only [clL]
       refine a0l (v := ?_) rfl rfl (fun wx => ?_) ?_
       rotate_left 1
       ·(go_simp; with_reducible rfl)
       try simp only [clL]
       refine a0l (v := ?_) rfl rfl (fun wx => ?_) ?_
       rotate_left 1
       ·(go_simp; with_reducible rfl)
       try simp only [clL]
       refine a0l (v := ?_) rfl rfl (fun wx => ?_) ?_
       rotate_left 1
       ·(go_simp; with_reducible rfl)
       try simp only [clL]
       refine a0l (v := ?_) rfl rfl (fun wx => ?_) ?_
       rotate_left 1
       ·(go_simp; with_reducible rfl)
       try simp only [clL]
       refine a0l (v := ?_) rfl rfl (fun wx => ?_) ?_
       rotate_left 1
       ·(go_simp; with_reducible rfl)
       try simp only [clL]
       refine a0s rfl rfl rfl rfl (tmR (g0p l k)) (fun wx hS => (i0Z (HTM.out.still (St.fr hS)) (k * 196) _ (r0w l k HKL.out))) Tryz.underlying125 rfl (by first | (rw [a0a]; kernel_rfl) | (simp only [c0I]; kernel_rfl)) ?_
       try simp only [clL]
       refine a0l (v := ?_) rfl rfl (fun wx => ?_) ?_
       rotate_left 1
       ·(go_simp; with_reducible rfl)
       try simp only [clL]
       refine a0l (v := ?_) rfl rfl (fun wx => ?_) ?_
       rotate_left 1
       ·(go_simp; with_reducible rfl)
       try simp only [clL]
       refine a0l (v := ?_) rfl rfl (fun wx => ?_) ?_
       rotate_left 1
       ·(go_simp; with_reducible rfl)
       try simp only [clL]
       refine a0A rfl rfl ?_
       go_simp
       refine (w0C (g0p l k) i d HIL.out HD.out _).mono ?_
       rintro e' w5 ⟨rfl, hf5⟩
       have st5 := hd4.keep hf5
       clear hf5
       clear hd4
       refine ⟨st5, ?_⟩
       try simp only [clL]
       refine a0l (v := ?_) rfl rfl (fun wx => ?_) ?_
       rotate_left 1
       ·(go_simp; with_reducible rfl)
       try simp only [clL]
       refine a0s rfl rfl rfl rfl ((f0G (g0p l k).2 d).L) (fun wx hS => by have hr := i0Z (HTM.out.still (St.fr hS)) (k * 196 + (4 + d * 12)) _ (w0A l k d HKL.out HD16.out); rw [← Nat.add_assoc, ← Nat.add_assoc] at hr; exact hr) Tryz.underlying78 rfl (by first | (rw [a0a]; kernel_rfl) | (simp only [PT.len]; kernel_rfl)) ?_
       try simp only [clL]
       refine a0A rfl rfl ?_
       go_simp
       refine (y0r l i (dbN (i0w l i) 4) k d HD.out gc _ (HCV.out.keep st5.fr)).mono ?_
       rintro e' w6 ⟨rfl, hf6⟩
       have st6 := st5.keep hf6
       clear hf6
       clear st5
       refine ⟨st6, ?_⟩
       try simp only [clL]
       refine a0r rfl rfl ?_
       refine a0j st6 1 rfl rfl rfl rfl (by first | (simp only [a0a]; done) | (simp only [PT.len]; done)) (by first | (rw [a0a]; kernel_rfl) | (simp only [PT.len]; kernel_rfl)) (PT.one _) ?_
       intro w7 st7
       clear st6
       try simp only [Act.put]
       refine a0k ?_
       refine NoPanic.normal ?_
       go_wp2
       go_roundw
       case rel => exact ⟨k + 1, by have := HKL.out; omega, by go_num, st7⟩
       case measure => have := HKL.out; simp [intOf]; omega
      ·have hkI : ¬ ((k : Int) < (l.length : Int)) := by omega
       have hk2 : k = l.length := by omega
       rw [hk2, r0x] at st3
       clear hk2
       go_wp2
       go_roundw
       case rel => exact ⟨i + 1, by omega, by go_num, st3⟩
       case measure => simp [intOf]; omega
  ·have hltI : ¬ ((i : Int) < 64) := by omega
   have hi2 : i = 64 := by omega
   rw [hi2] at st
   clear hi2
   go_wp2_with (with_reducible refine wSk 41 ?_)
   refine a0o st 1 rfl rfl rfl Tryz.underlying78 rfl rfl (by first | (rw [a0a]; kernel_rfl) | (simp only [PT.len]; kernel_rfl)) ?_
   go_wp2_with (with_reducible refine wSn ?_)
   refine a0d st 0 rfl rfl rfl rfl rfl (by first | (simp only [a0a]; done) | (simp only [a0a, PT.len]; done)) (by first | (rw [a0a]; kernel_rfl) | (simp only [PT.len]; kernel_rfl)) (PT.one _) ?_
   intro w5 st5
   clear st
   have hr := st5.at 0 rfl
   have hfr := st5.fr
   clear st5
   go_wp2_with fail
   exact bodyPost_ret (a0F rfl rfl hr Tryz.underlying78 rfl (by first | (rw [a0a]; kernel_rfl) | (simp only [PT.len]; kernel_rfl))) rfl ⟨rfl, hfr⟩
end Go.Proofs.YtemcankmggmgoaaGreatDoor
namespace Go.Mv
open Go.RowKit
section
variable {P : Program} {w w0 : World} {ops : Array Oper} {rest : List Oper} {o : Oper} {a : Act} {Q : Exit → Act → World → Prop} {S : Nat → Prop} {bl : List (Nat × List Value × TypeId)} {K : Act → World → Prop}
theorem t0S (hst : St S w0 w bl) {t e : TypeId} {parts : Array (Nat × Operand)} (ho : o.op = .buildSlice t 1 parts) (hu : P.underlying t = some (.slice e)) {z : Value} {sz by_ : Nat} (hi0 : (P.info? e).map (fun i => (i.zero, i.size, i.bytes)) = some (some z, sz, by_)) (cs : List Value)
  (hp : (parts.toList.map fun p => (p.1, a.eval p.2)) = [(0, .agg cs.toArray)]) (hv : cs.length = sz) (h0 : 0 < sz) (h24 : sz ≤ 16777216)
  (h : ∀ g w', w.heap.size ≤ g → St S w0 w' (bl ++ [(g, cs, e)]) → K (a.put o.dst (.slice (some ⟨g, 0, none⟩) 1 1)) w') : o.wp P a w K Q := by
 obtain ⟨i, hi, hz0⟩ : ∃ i, P.info? e = some i ∧ (i.zero, i.size, i.bytes) = (some z, sz, by_) := by simpa using hi0
 simp only [Prod.mk.injEq] at hz0
 obtain ⟨hz1, hsz, hby⟩ := hz0
 have hf : Instr.fill (fun j => some (j * i.size, i.size)) ((Array.range (1 * i.size)).map (z.cells[· % z.cells.size]!)) (parts.map fun (i, x) => (i, a.eval x)).toList = some cs.toArray := by
  rw [show (parts.map fun (i, x) => (i, a.eval x)).toList = (parts.toList.map fun p => (p.1, a.eval p.2)) by simp, hp, hsz]
  have hfw := Great.fill_whole h0 [.agg cs.toArray] ((Array.range (1 * sz)).map (z.cells[· % z.cells.size]!)) (by intro v hv'; have h1 := List.mem_singleton.1 hv'; subst h1; show cs.toArray.size = sz; simpa using hv) (by simp)
  rw [show ([.agg cs.toArray] : List Value).flatMap (fun v => v.cells.toList) = cs by simp [Value.cells]] at hfw
  exact hfw
 exact wp_buildSlice t e 1 parts ho cs.toArray i z hu hi hz1 (by rw [hsz]; omega) (by rw [hsz]; omega) hf (h _ _ (Nat.le_refl _) (hst.new ((Fr.refl _ w).alloc _) (Has.new w cs.toArray e) (Nat.le_refl _)))
theorem h0B (hst : St S w0 w bl) (i : Nat) {g : Nat} {L : List Value} {T : TypeId} (hb : bl[i]? = some (g, L, T)) {s x : Operand} {t xt : TypeId} (hgd : o.guard = none) (ho : o.op = .call { callee := .builtin .append, args := #[s, x], argTypes := #[t, xt] })
  {e : TypeId} {k : IntKind} {z : Value} (ht : P.underlying t = some (.slice e)) (hxt : P.underlying xt = some (.int k)) (hi0 : (P.info? e).map (fun i => (i.zero, i.size, i.bytes)) = some (some z, 1, 1)) (hzc : z.cells = #[z]) (hone : z.oneCell' = true) {n m cap : Nat} (hs : a.eval s = .slice (some ⟨g, 0, none⟩) n cap) {kx : IntKind} (hx : a.eval x = .int kx (m : Int))
  (hfit : n + m ≤ cap) (hm : 0 < m) (hm2 : m ≤ 1000000) (hL : n + m ≤ L.length) (L' : List Value) (hL' : splice L n (List.replicate m z) = L')
  (h : ∀ w', St S w0 w' (bl.set i (g, L', T)) → wpList P ops Q rest (a.put o.dst (.slice (some ⟨g, 0, none⟩) (n + m) cap)) w') : wpList P ops Q (o :: rest) a w := by
 refine wpList_plain hgd fun K hK => ?_
 obtain ⟨j, hj, hz, hsize, hby⟩ := info_parts hi0
 obtain ⟨w', hst', hh, hfr, hz2⟩ := b0K (P := P) g n T (List.replicate m z) 0 L w (hst.at i hb) (by simp; omega) (by intro v hv; rw [List.eq_of_mem_replicate hv]; exact hone)
 have hzz : (Builtin.zeroCells z.cells m).toList = List.replicate m z := by
  apply List.ext_getElem?
  intro q
  unfold Builtin.zeroCells
  rw [hzc]
  by_cases hq : q < m
  ·simp [hq, Nat.mod_one]
  ·simp [hq]
 have hwrap : IntKind.i64.wrap (m : Int) = (m : Int) := IntWalk.i64_in _ (by omega)
 have h1 : ¬ ((m : Int) < 0) := by omega
 have h2 : ¬ ((m : Int) * (1 : Int) > 2 ^ 48) := by omega
 have h2' : ¬ (2 ^ 48 < (m : Int)) := by omega
 have h3 : ¬ (m * 1 = 0) := by omega
 have h3' : m ≠ 0 := by omega
 have h4 : ¬ ((m : Int) ≤ 0) := by omega
 have hr : (Builtin.append_ #[t, xt] o.type #[.slice (some ⟨g, 0, none⟩) n cap, .int kx (m : Int)]).run P w = .ok (.slice (some ⟨g, 0, none⟩) (n + m) cap) w' := by
  simp [Builtin.append_, run_underlying ht, run_underlying hxt, sizeOf, typeInfo, hj, hsize, hby, hwrap, h1, h3', hfit, zeroValue, hz, d0d, asInt, asIntOf, hzz, hst']
  intro hbig
  omega
 unfold Oper.wp execOp
 simp only [ho, resolve, invoke, builtin, Sem.run_bind, Sem.run_pure, Result.andThen_ok, List.map_toArray, List.map_cons, List.map_nil, hs, hx, hr]
 rw [Nat.add_zero, hL'] at hh
 exact hK _ _ (h w' (hst.put i hb hfr hh))
theorem l0d (hst : St S w0 w bl) (i : Nat) {g : Nat} {L : List Value} {T : TypeId} (hb : bl[i]? = some (g, L, T)) {s x : Operand} {t : TypeId} (ho : o.op = .call { callee := .builtin .append, args := #[s, x], argTypes := #[t, t] })
  {e : TypeId} {z : Value} (ht : P.underlying t = some (.slice e)) (hi0 : (P.info? e).map (fun i => (i.zero, i.size, i.bytes)) = some (some z, 1, 1)) {n m cap c : Nat} (hs : a.eval s = .slice (some ⟨g, 0, none⟩) n cap) {xa : Option Addr} (hx : a.eval x = .slice xa m c) {news : List Value} (hnews : Rd w xa m news) (h1 : ∀ u ∈ news, u.oneCell' = true)
  (hfit : n + m ≤ cap) (hL : n + m ≤ L.length) (L' : List Value) (hL' : splice L n news = L')
  (h : ∀ w', St S w0 w' (bl.set i (g, L', T)) → K (a.put o.dst (.slice (some ⟨g, 0, none⟩) (n + m) cap)) w') : o.wp P a w K Q := by
 obtain ⟨j, hj, hz, hsize, hby⟩ := info_parts hi0
 have hlen := hnews.len
 obtain ⟨w', hr, hh, hfr, -⟩ := c0F (P := P) t o.type e j ht hj g 0 n cap L T (hst.at i hb) xa m c news (by rw [hsize, Nat.mul_one]; exact hnews) h1 hfit (by rw [hsize]; omega)
 rw [hsize, Nat.mul_one, Nat.zero_add, hL'] at hh
 unfold Oper.wp execOp
 simp only [ho, resolve, invoke, builtin, Sem.run_bind, Sem.run_pure, Result.andThen_ok, List.map_toArray, List.map_cons, List.map_nil, hs, hx, hr]
 exact h w' (hst.put i hb hfr hh)
end
end Go.Mv
namespace Go.Proofs.YtemcankmggmgoaaGreatDoor
section
open Go.RowKit Go.Mv Mvp Mvq
theorem t0T (n : Nat) (s : PT) : Tryz.prog.built 125 [(0, i4 n), (1, .agg (tbL s 16).toArray)] = some (tmR (n, s)).toArray := by kernel_rfl
theorem w0D : (Tryz.prog.info? 125).map (fun i => (i.zero, i.size, i.bytes)) = some (some (.agg (List.replicate 196 (.int .u64 0)).toArray), 196, 1568) := by kernel_rfl
theorem w0E (t : Nat × PT) : tmL [t] = tmR t := by
 show (List.range 1).flatMap (fun k => tmR (g0p [t] k)) = tmR t
 simp [List.range_succ, g0p]
attribute [local irreducible] a0J lw mix cw b0t b0G b0q a0P a0u beN laid b0o b0H a0M a0V elN mdL b0R rtN rtV c0E gXn gYn PT.L p0s o0Y f0G tbL tmR tmL dbN j0N i0w p0c dig
theorem w0F (n : Nat) (s : PT) (gc : Nat) (w : World) (h : Cv w gc) :
  Calls Tryz.prog 38 #[.pointer (some ⟨gc, 0, none⟩), i4 n, .agg s.L.toArray] w fun e w' => e = .returned (.agg (p0c [(n, s)]).L.toArray) ∧ Fr Nob w w' := by
 have HCV := qH h
 clear h
 have st0 := St.start Nob w
 go_enter Tryz.func38, Tryz.ntmps38
 go_wp2_with (with_reducible refine wSk 4 ?_)
 refine a0m st0 rfl rfl rfl (cw 4 n) rfl ?_
 intro g4 w1 st1
 clear st0
 go_wp2_with (with_reducible refine wSk 5 ?_)
 refine a0m st1 rfl rfl rfl (s.L) rfl ?_
 intro g5 w2 st2
 clear st1
 go_wp2_with (with_reducible refine wSk 6 ?_)
 refine a0b st2 rfl rfl (z := .agg (List.replicate 12 (.int .u64 0)).toArray) (by kernel_rfl) (cw 12 0) (by rw [a0f]; rfl) ?_
 intro g6 w3 st3
 clear st2
 go_wp2_with fail
 refine wp_region_noPanic ?_
 refine a0p (fun wx => St Nob w wx [(g4, cw 4 n, 72), (g5, s.L, 78), (g6, cw 12 0, 78)]) 8 (.w 0 (.t 1 (.w 2 (.t 3 (.r 4 (.w 5 (.r 6 (.r 7 (.m 8 .nil))))))))) (by kernel_rfl) (by kernel_rfl) st3.drew (fun _ _ _ _ _ h => h) ?_
 have hd3 := st3.drew
 clear st3
 refine a0l (v := ?_) rfl rfl (fun wx => ?_) ?_
 rotate_left 1
 ·(go_simp; with_reducible rfl)
 try simp only [clL]
 refine a0s rfl rfl rfl rfl (cw 4 n) (fun wx hS => St.rangeL hS 0 rfl 0 _ dZl) Tryz.underlying72 rfl (by first | (rw [a0a]; kernel_rfl) | (rw [PT.len]; kernel_rfl) | (rw [c0l]; kernel_rfl) | (rw [c0I]; kernel_rfl) | (simp only [List.length_append, a0a]; kernel_rfl) | (simp only [List.length_append, a0a, PT.len, c0l, c0I]; kernel_rfl)) ?_
 try simp only [clL]
 refine a0l (v := ?_) rfl rfl (fun wx => ?_) ?_
 rotate_left 1
 ·(go_simp; with_reducible rfl)
 try simp only [clL]
 refine a0s rfl rfl rfl rfl (s.L) (fun wx hS => St.rangeL hS 1 rfl 0 _ dZl) Tryz.underlying78 rfl (by first | (rw [a0a]; kernel_rfl) | (simp only [PT.len]; kernel_rfl)) ?_
 try simp only [clL]
 refine a0A rfl rfl ?_
 go_simp
 refine (m0s s gc _ (HCV.out.keep hd3.fr)).mono ?_
 rintro e' w4 ⟨rfl, hf4⟩
 have st4 := hd3.keep hf4
 clear hf4
 clear hd3
 refine ⟨st4, ?_⟩
 try simp only [clL]
 refine a0l rfl rfl (b0z rfl _ (t0T _ _)) ?_
 try simp only [clL]
 refine a0A rfl rfl ?_
 refine t0S st4 rfl Tryz.underlying152 w0D (tmR (n, s)) rfl (c0I _) (by decide) (by decide) ?_
 intro g13 w5 hg13 st5
 clear hg13
 have HRD := qH (show Rd w5 (some ⟨g13, 0, none⟩) (([(n, s)] : List (Nat × PT)).length * 196) (tmL [(n, s)]) by rw [w0E]; have h := Rd.whole (st5.at 3 rfl); rw [c0I] at h; exact h)
 refine ⟨St.less st5 (by simp), ?_⟩
 try simp only [clL]
 refine a0A rfl rfl ?_
 go_simp
 refine (z0x [(n, s)] gc (some ⟨g13, 0, none⟩) 1 1 _ (HCV.out.keep st5.fr) rfl (by decide) HRD.out).mono ?_
 rintro e' w6 ⟨rfl, hf6⟩
 have st6 := st5.keep hf6
 clear hf6
 clear st5
 refine ⟨St.less st6 (by simp), ?_⟩
 try simp only [clL]
 refine a0r rfl rfl ?_
 refine a0j st6 2 rfl rfl rfl rfl (by first | (simp only [a0a]; done) | (simp only [a0a, PT.len]; done)) (by first | (rw [a0a]; kernel_rfl) | (simp only [PT.len]; kernel_rfl)) (PT.one _) ?_
 intro w7 st7
 clear st6
 try simp only [Act.put]
 refine a0k ?_
 refine NoPanic.normal ?_
 have hr := st7.at 2 rfl
 have hfr := st7.fr
 clear st7
 go_wp2_with fail
 exact bodyPost_ret (a0F rfl rfl hr Tryz.underlying78 rfl (by first | (rw [a0a]; kernel_rfl) | (simp only [PT.len]; kernel_rfl))) rfl ⟨rfl, hfr⟩
end
section
open Go.RowKit Go.Mv Mvp Mvq
theorem n0G (n : Nat) : List.replicate n (Value.int .u8 0) = bs (List.replicate n 0) := by simp [bs]
theorem r0A : splice (bs (List.replicate 33 0)) 1 (List.replicate 32 (Value.int .u8 0)) = bs (List.replicate 33 0) := by rfl
def bb1 (b : Nat) : List Value := bs ([UInt8.ofNat b] ++ List.replicate 32 0)
def bb2 (b X : Nat) : List Value := bs (UInt8.ofNat b :: b0o X)
theorem w0G (b : Nat) : (bb1 b).length = 33 := by unfold bb1; rw [a0H]; simp
theorem r0B (b X : Nat) : (bb2 b X).length = 33 := by unfold bb2; rw [a0H, List.length_cons, a0T]
theorem l0e (b X : Nat) : splice (bb1 b) 1 (bs (b0o X)) = bb2 b X := by
 unfold bb1 bb2
 rw [c0A, i0v _ _ _ 1 (by simp [bs]) (by rw [a0H, a0H, a0T]; rfl), ← c0A]; rfl
theorem r0C (b : Nat) (hb : b < 256) : (bs (List.replicate 33 0)).set 0 (.int .u8 (b : Int)) = bb1 b := by
 unfold bb1
 have h := e0J (List.replicate 33 0) 0 (UInt8.ofNat b)
 rw [show ((UInt8.ofNat b).toNat : Int) = (b : Int) by rw [UInt8.toNat_ofNat']; omega] at h
 rw [h]; rfl
theorem y0s (b : Nat) (h : b = 0 ∨ b = 1) : bits .or .u8 2 (b : Int) = ((2 + b : Nat) : Int) := by
 rcases h with rfl | rfl <;> decide
attribute [local irreducible] a0J lw mix cw b0t b0G b0q a0P a0u beN laid b0o b0H a0M a0V elN mdL b0R rtN rtV c0E gXn gYn bb1 bb2
theorem p0d (m : Md) (gc gp bx by_ : Nat) (w : World) (hok : m.Ok) (hcv : Has w gc (e0A m gp bx by_) 86) (hpm : Has w gp (mdL m) 115) (x y z : Nat) (hb : (z % m.M == 0) = true) :
  Calls Tryz.prog 39 #[.pointer (some ⟨gc, 0, none⟩), ptV m x y z] w fun e w' => ∃ sv, e = .returned sv ∧ Own w' w.heap.size 5 1 sv 33 (bs (List.replicate 33 0)) ∧ Fr Nob w w' := by
 have HOK := qH hok
 have HCV := qH hcv
 have HPM := qH hpm
 clear hok hcv hpm
 have HB := qH hb
 clear hb
 unfold ptV ptL
 have st0 := St.start Nob w
 go_enter Tryz.func39, Tryz.ntmps39
 go_wp2_with (with_reducible refine wSk 3 ?_)
 refine a0m st0 rfl rfl rfl (cw 4 (elN m x) ++ (cw 4 (elN m y) ++ cw 4 (elN m z))) rfl ?_
 intro g3 w1 st1
 clear st0
 go_wp2_with (with_reducible refine wSk 9 ?_)
 refine c0p rfl rfl Tryz.underlying24 b0w rfl rfl rfl 1 33 (by simp) (by simp) (by omega) (by omega) (by unfold maxLen; omega) ?_
 intro w2 hg2 hf2 hz2
 clear hz2
 have st2 := st1.new hf2 hg2 (Nat.le_refl _)
 have hb2 := st1.fr.size
 skip
 clear st1 hg2 hf2
 generalize w1.heap.size = gb at *
 have HBB := qH hb2
 clear hb2
 rw [n0G] at st2
 go_wp2_with (with_reducible refine wSk 10 ?_)
 refine a0o st2 0 rfl rfl rfl Tryz.underlying78 rfl rfl (by first | (rw [a0a]; kernel_rfl) | (simp only [List.length_append, a0a]; kernel_rfl)) ?_
 go_wp2_with fail
 refine (c0Q m HOK.out x y z true HB.out _).mono ?_
 rintro e' w3 ⟨rfl, hf3⟩
 have st3 := st2.keep hf3
 clear st2 hf3
 go_wp2_with (with_reducible refine wSk 13 ?_)
 refine h0B st3 1 rfl rfl rfl Tryz.underlying24 Tryz.underlying3 b0w rfl rfl (n := 1) (m := 32) (cap := 33) rfl rfl (by decide) (by decide) (by decide) (by rw [a0H, List.length_replicate]; decide) (bs (List.replicate 33 0)) r0A ?_
 intro w4 st4
 clear st3
 have hown : Own w4 w.heap.size 5 1 (.slice (some ⟨gb, 0, none⟩) 33 33) 33 (bs (List.replicate 33 0)) := by
  have h := st4.at 1 rfl
  exact Own.made h w.heap.size HBB.out 1 33 33 (Nat.le_refl _) (by unfold maxLen; omega) (by decide)
 have hfr := st4.fr
 clear st4
 go_wp2_with fail
 go_ret
 exact ⟨_, rfl, hown, hfr⟩
theorem v0e (m : Md) (gp : Nat) (w : World) (hok : m.Ok) (hpm : Has w gp (mdL m) 115) (x r : Nat) (hr : x ^ (m.M - 2) = r) :
  Calls Tryz.prog 75 #[.pointer (some ⟨gp, 0, none⟩), i4 (elN m x)] w fun e w' => e = .returned (i4 (elN m r)) ∧ Fr Nob w w' := by
 subst hr; exact s0M m gp w hok hpm x
theorem h0C (m : Md) (gp : Nat) (w : World) (hok : m.Ok) (hpm : Has w gp (mdL m) 115) (x r : Nat) (hr : x % m.M = r) :
  Calls Tryz.prog 58 #[.pointer (some ⟨gp, 0, none⟩), i4 (elN m x)] w fun e w' => e = .returned (i4 r) ∧ Fr Nob w w' := by
 subst hr; exact e0e m gp w hok hpm x
theorem w0H (m : Md) (gc gp bx by_ : Nat) (w : World) (hok : m.Ok) (hcv : Has w gc (e0A m gp bx by_) 86) (hpm : Has w gp (mdL m) 115) (x y z : Nat) (hb : (z % m.M == 0) = false) (i ii i3 yy v xx u : Nat) (ei : z ^ (m.M - 2) = i) (eii : i * i = ii) (ei3 : ii * i = i3) (eyy : y * i3 = yy) (ev : yy % m.M = v) (exx : x * ii = xx) (eu : xx % m.M = u) :
  Calls Tryz.prog 39 #[.pointer (some ⟨gc, 0, none⟩), ptV m x y z] w fun e w' => ∃ sv, e = .returned sv ∧ Own w' w.heap.size 5 1 sv 33 (bs (UInt8.ofNat (2 + v % 2) :: b0o u)) ∧ Fr Nob w w' := by
 have HOK := qH hok
 have HCV := qH hcv
 have HPM := qH hpm
 clear hok hcv hpm
 have HB := qH hb
 have Hi := qH ei
 have Hii := qH eii
 have Hi3 := qH ei3
 have Hyy := qH eyy
 have Hv := qH ev
 have Hxx := qH exx
 have Hu := qH eu
 clear hb ei eii ei3 eyy ev exx eu
 unfold ptV ptL
 have st0 := St.start Nob w
 go_enter Tryz.func39, Tryz.ntmps39
 go_wp2_with (with_reducible refine wSk 3 ?_)
 refine a0m st0 rfl rfl rfl (cw 4 (elN m x) ++ (cw 4 (elN m y) ++ cw 4 (elN m z))) rfl ?_
 intro g3 w1 st1
 clear st0
 go_wp2_with (with_reducible refine wSk 9 ?_)
 refine c0p rfl rfl Tryz.underlying24 b0w rfl rfl rfl 1 33 (by simp) (by simp) (by omega) (by omega) (by unfold maxLen; omega) ?_
 intro w2 hg2 hf2 hz2
 clear hz2
 have st2 := st1.new hf2 hg2 (Nat.le_refl _)
 have hb2 := st1.fr.size
 skip
 clear st1 hg2 hf2
 generalize w1.heap.size = gb at *
 have HBB := qH hb2
 clear hb2
 rw [n0G] at st2
 go_wp2_with (with_reducible refine wSk 10 ?_)
 refine a0o st2 0 rfl rfl rfl Tryz.underlying78 rfl rfl (by first | (rw [a0a]; kernel_rfl) | (simp only [List.length_append, a0a]; kernel_rfl)) ?_
 go_wp2_with fail
 refine (c0Q m HOK.out x y z false HB.out _).mono ?_
 rintro e' w3 ⟨rfl, hf3⟩
 have st3 := st2.keep hf3
 clear st2 hf3
 go_wp2_with fail
 refine wp_region_noPanic ?_
 refine a0p (fun wx => St Nob w wx [(g3, cw 4 (elN m x) ++ (cw 4 (elN m y) ++ cw 4 (elN m z)), 78), (gb, bs (List.replicate 33 0), 5)]) 8 (.w 0 (.w 1 (.w 2 (.t 3 (.w 4 (.t 5 (.b 6 7 (.r 7 (.m 8 .nil)) (.r 6 (.m 8 .nil))))))))) (by kernel_rfl) (by kernel_rfl) st3.drew (fun _ _ _ _ _ h => h) ?_
 have hd3 := st3.drew
 clear st3
 refine a0l (v := ?_) rfl rfl (fun wx => ?_) ?_
 rotate_left 1
 ·(go_simp; with_reducible rfl)
 try simp only [clL]
 refine a0l (v := ?_) rfl rfl (fun wx => ?_) ?_
 rotate_left 1
 ·(go_simp; with_reducible rfl)
 try simp only [clL]
 refine a0l (v := ?_) rfl rfl (fun wx => ?_) ?_
 rotate_left 1
 ·(go_simp; with_reducible rfl)
 try simp only [clL]
 refine d0i (v := ?_) rfl rfl (fun wx hS => ?_) ?_
 rotate_left 1
 ·(have hc := (HCV.out.keep (St.fr hS) id).cell (i := 0) rfl; clear hS; go_simp; with_reducible rfl)
 try simp only [clL]
 refine a0l (v := ?_) rfl rfl (fun wx => ?_) ?_
 rotate_left 1
 ·(go_simp; with_reducible rfl)
 try simp only [clL]
 refine a0s rfl rfl rfl rfl (cw 4 (elN m z)) (fun wx hS => St.rangeL hS 0 rfl 8 _ (f0g _ _ _)) Tryz.underlying59 rfl (by first | (rw [a0a]; kernel_rfl) | (simp only [List.length_append, a0a]; kernel_rfl)) ?_
 try simp only [clL]
 refine d0v (C := fun g6 wz => St Nob w wz [(g3, cw 4 (elN m x) ++ (cw 4 (elN m y) ++ cw 4 (elN m z)), 78), (gb, bs (List.replicate 33 0), 5), (g6, cw 4 (elN m i), 59)]) (F := ?_) (fun key => ?_) ?_
 rotate_left 1
 ·skip
  refine c0V rfl rfl rfl rfl ?_ ?_
  ·skip
   go_simp
   refine (v0e m gp _ HOK.out (HPM.out.keep hd3.fr id) z i Hi.out).mono ?_
   rintro e' w4 ⟨rfl, hf4⟩
   have st4 := hd3.keep hf4
   clear hf4
   refine ⟨st4, ?_⟩
   try simp only [clL]
   refine a0A rfl rfl ?_
   refine a0Y st4 rfl (z := zAd) (by kernel_rfl) (cw 4 0) (by rw [a0f]; rfl) ?_
   intro g6 w5 st5
   refine ⟨St.less st5 (by simp), ?_⟩
   try simp only [clL]
   refine a0r rfl rfl ?_
   refine a0j st5 2 rfl rfl rfl rfl (by first | (simp only [a0a]; done) | (simp only [List.length_append, a0a]; done)) (by first | (rw [a0a]; kernel_rfl) | (simp only [List.length_append, a0a]; kernel_rfl)) (a0i _ _) ?_
   intro w6 st6
   try simp only [Act.put]
   refine a0k ?_
   exact key g6 _ st6
  ·skip
   refine a0Y hd3 rfl (z := zAd) (by kernel_rfl) (cw 4 0) (by rw [a0f]; rfl) ?_
   intro g6 w7 st7
   refine ⟨St.less st7 (by simp), ?_⟩
   try simp only [clL]
   refine a0A rfl rfl ?_
   go_simp
   refine (v0e m gp _ HOK.out (HPM.out.keep st7.fr id) z i Hi.out).mono ?_
   rintro e' w8 ⟨rfl, hf8⟩
   have st8 := st7.keep hf8
   clear hf8
   refine ⟨St.less st8 (by simp), ?_⟩
   try simp only [clL]
   refine a0r rfl rfl ?_
   refine a0j st8 2 rfl rfl rfl rfl (by first | (simp only [a0a]; done) | (simp only [List.length_append, a0a]; done)) (by first | (rw [a0a]; kernel_rfl) | (simp only [List.length_append, a0a]; kernel_rfl)) (a0i _ _) ?_
   intro w9 st9
   try simp only [Act.put]
   refine a0k ?_
   exact key g6 _ st9
 intro g6 w10 st10
 have st10 : St Nob w w10 [(g3, cw 4 (elN m x) ++ (cw 4 (elN m y) ++ cw 4 (elN m z)), 78), (gb, bs (List.replicate 33 0), 5), (g6, cw 4 (elN m i), 59)] := st10
 clear hd3
 refine NoPanic.normal ?_
 go_wp2_with fail
 refine wp_region_noPanic ?_
 refine a0p (fun wx => St Nob w wx [(g3, cw 4 (elN m x) ++ (cw 4 (elN m y) ++ cw 4 (elN m z)), 78), (gb, bs (List.replicate 33 0), 5), (g6, cw 4 (elN m i), 59)]) 7 (.w 0 (.w 1 (.w 2 (.t 3 (.t 4 (.b 5 6 (.r 6 (.m 7 .nil)) (.r 5 (.m 7 .nil)))))))) (by kernel_rfl) (by kernel_rfl) st10.drew (fun _ _ _ _ _ h => h) ?_
 have hd10 := st10.drew
 clear st10
 refine a0l (v := ?_) rfl rfl (fun wx => ?_) ?_
 rotate_left 1
 ·(go_simp; with_reducible rfl)
 try simp only [clL]
 refine a0l (v := ?_) rfl rfl (fun wx => ?_) ?_
 rotate_left 1
 ·(go_simp; with_reducible rfl)
 try simp only [clL]
 refine a0l (v := ?_) rfl rfl (fun wx => ?_) ?_
 rotate_left 1
 ·(go_simp; with_reducible rfl)
 try simp only [clL]
 refine d0i (v := ?_) rfl rfl (fun wx hS => ?_) ?_
 rotate_left 1
 ·(have hc := (HCV.out.keep (St.fr hS) id).cell (i := 0) rfl; clear hS; go_simp; with_reducible rfl)
 try simp only [clL]
 refine a0s rfl rfl rfl rfl (cw 4 (elN m i)) (fun wx hS => St.rangeL hS 2 rfl 0 _ dZl) Tryz.underlying59 rfl (by first | (rw [a0a]; kernel_rfl) | (simp only [List.length_append, a0a]; kernel_rfl)) ?_
 try simp only [clL]
 refine d0v (C := fun g7 wz => St Nob w wz [(g3, cw 4 (elN m x) ++ (cw 4 (elN m y) ++ cw 4 (elN m z)), 78), (gb, bs (List.replicate 33 0), 5), (g6, cw 4 (elN m i), 59), (g7, cw 4 (elN m ii), 59)]) (F := ?_) (fun key => ?_) ?_
 rotate_left 1
 ·skip
  refine c0V rfl rfl rfl rfl ?_ ?_
  ·skip
   go_simp
   refine (b0A m gp _ HOK.out (HPM.out.keep hd10.fr id) i ii Hii.out).mono ?_
   rintro e' w11 ⟨rfl, hf11⟩
   have st11 := hd10.keep hf11
   clear hf11
   refine ⟨st11, ?_⟩
   try simp only [clL]
   refine a0A rfl rfl ?_
   refine a0Y st11 rfl (z := zAd) (by kernel_rfl) (cw 4 0) (by rw [a0f]; rfl) ?_
   intro g7 w12 st12
   refine ⟨St.less st12 (by simp), ?_⟩
   try simp only [clL]
   refine a0r rfl rfl ?_
   refine a0j st12 3 rfl rfl rfl rfl (by first | (simp only [a0a]; done) | (simp only [List.length_append, a0a]; done)) (by first | (rw [a0a]; kernel_rfl) | (simp only [List.length_append, a0a]; kernel_rfl)) (a0i _ _) ?_
   intro w13 st13
   try simp only [Act.put]
   refine a0k ?_
   exact key g7 _ st13
  ·skip
   refine a0Y hd10 rfl (z := zAd) (by kernel_rfl) (cw 4 0) (by rw [a0f]; rfl) ?_
   intro g7 w14 st14
   refine ⟨St.less st14 (by simp), ?_⟩
   try simp only [clL]
   refine a0A rfl rfl ?_
   go_simp
   refine (b0A m gp _ HOK.out (HPM.out.keep st14.fr id) i ii Hii.out).mono ?_
   rintro e' w15 ⟨rfl, hf15⟩
   have st15 := st14.keep hf15
   clear hf15
   refine ⟨St.less st15 (by simp), ?_⟩
   try simp only [clL]
   refine a0r rfl rfl ?_
   refine a0j st15 3 rfl rfl rfl rfl (by first | (simp only [a0a]; done) | (simp only [List.length_append, a0a]; done)) (by first | (rw [a0a]; kernel_rfl) | (simp only [List.length_append, a0a]; kernel_rfl)) (a0i _ _) ?_
   intro w16 st16
   try simp only [Act.put]
   refine a0k ?_
   exact key g7 _ st16
 intro g7 w17 st17
 have st17 : St Nob w w17 [(g3, cw 4 (elN m x) ++ (cw 4 (elN m y) ++ cw 4 (elN m z)), 78), (gb, bs (List.replicate 33 0), 5), (g6, cw 4 (elN m i), 59), (g7, cw 4 (elN m ii), 59)] := st17
 clear hd10
 refine NoPanic.normal ?_
 go_wp2_with fail
 refine wp_region_noPanic ?_
 refine a0p (fun wx => St Nob w wx [(g3, cw 4 (elN m x) ++ (cw 4 (elN m y) ++ cw 4 (elN m z)), 78), (gb, bs (List.replicate 33 0), 5), (g6, cw 4 (elN m i), 59), (g7, cw 4 (elN m ii), 59)]) 20 (.w 0 (.w 1 (.w 2 (.t 3 (.w 4 (.w 5 (.w 6 (.t 7 (.w 8 (.t 9 (.w 10 (.w 11 (.w 12 (.t 13 (.t 14 (.t 15 (.b 16 19 (.b 17 19 (.b 18 19 (.r 19 (.m 20 .nil)) (.r 18 (.m 20 .nil))) (.r 17 (.r 18 (.m 20 .nil)))) (.r 16 (.r 17 (.r 18 (.m 20 .nil))))))))))))))))))))) (by kernel_rfl) (by kernel_rfl) st17.drew (fun _ _ _ _ _ h => h) ?_
 have hd17 := st17.drew
 clear st17
 refine a0l (v := ?_) rfl rfl (fun wx => ?_) ?_
 rotate_left 1
 ·(go_simp; with_reducible rfl)
 try simp only [clL]
 refine a0l (v := ?_) rfl rfl (fun wx => ?_) ?_
 rotate_left 1
 ·(go_simp; with_reducible rfl)
 try simp only [clL]
 refine a0l (v := ?_) rfl rfl (fun wx => ?_) ?_
 rotate_left 1
 ·(go_simp; with_reducible rfl)
 try simp only [clL]
 refine d0i (v := ?_) rfl rfl (fun wx hS => ?_) ?_
 rotate_left 1
 ·(have hc := (HCV.out.keep (St.fr hS) id).cell (i := 0) rfl; clear hS; go_simp; with_reducible rfl)
 try simp only [clL]
 refine a0l (v := ?_) rfl rfl (fun wx => ?_) ?_
 rotate_left 1
 ·(go_simp; with_reducible rfl)
 try simp only [clL]
 refine a0l (v := ?_) rfl rfl (fun wx => ?_) ?_
 rotate_left 1
 ·(go_simp; with_reducible rfl)
 try simp only [clL]
 refine a0l (v := ?_) rfl rfl (fun wx => ?_) ?_
 rotate_left 1
 ·(go_simp; with_reducible rfl)
 try simp only [clL]
 refine d0i (v := ?_) rfl rfl (fun wx hS => ?_) ?_
 rotate_left 1
 ·(have hc := (HCV.out.keep (St.fr hS) id).cell (i := 0) rfl; clear hS; go_simp; with_reducible rfl)
 try simp only [clL]
 refine a0l (v := ?_) rfl rfl (fun wx => ?_) ?_
 rotate_left 1
 ·(go_simp; with_reducible rfl)
 try simp only [clL]
 refine a0s rfl rfl rfl rfl (cw 4 (elN m y)) (fun wx hS => St.rangeL hS 0 rfl 4 _ (l0A _ _ _)) Tryz.underlying59 rfl (by first | (rw [a0a]; kernel_rfl) | (simp only [List.length_append, a0a]; kernel_rfl)) ?_
 try simp only [clL]
 refine a0l (v := ?_) rfl rfl (fun wx => ?_) ?_
 rotate_left 1
 ·(go_simp; with_reducible rfl)
 try simp only [clL]
 refine a0l (v := ?_) rfl rfl (fun wx => ?_) ?_
 rotate_left 1
 ·(go_simp; with_reducible rfl)
 try simp only [clL]
 refine a0l (v := ?_) rfl rfl (fun wx => ?_) ?_
 rotate_left 1
 ·(go_simp; with_reducible rfl)
 try simp only [clL]
 refine d0i (v := ?_) rfl rfl (fun wx hS => ?_) ?_
 rotate_left 1
 ·(have hc := (HCV.out.keep (St.fr hS) id).cell (i := 0) rfl; clear hS; go_simp; with_reducible rfl)
 try simp only [clL]
 refine a0s rfl rfl rfl rfl (cw 4 (elN m ii)) (fun wx hS => St.rangeL hS 3 rfl 0 _ dZl) Tryz.underlying59 rfl (by first | (rw [a0a]; kernel_rfl) | (simp only [List.length_append, a0a]; kernel_rfl)) ?_
 try simp only [clL]
 refine a0s rfl rfl rfl rfl (cw 4 (elN m i)) (fun wx hS => St.rangeL hS 2 rfl 0 _ dZl) Tryz.underlying59 rfl (by first | (rw [a0a]; kernel_rfl) | (simp only [List.length_append, a0a]; kernel_rfl)) ?_
 try simp only [clL]
 refine d0v (C := fun g8 wz => St Nob w wz [(g3, cw 4 (elN m x) ++ (cw 4 (elN m y) ++ cw 4 (elN m z)), 78), (gb, bs (List.replicate 33 0), 5), (g6, cw 4 (elN m i), 59), (g7, cw 4 (elN m ii), 59), (g8, cw 4 v, 72)]) (F := ?_) (fun key => ?_) ?_
 rotate_left 1
 ·skip
  refine c0V rfl rfl rfl rfl ?_ ?_
  ·skip
   go_simp
   refine (b0Q m gp _ HOK.out (HPM.out.keep hd17.fr id) ii i i3 Hi3.out).mono ?_
   rintro e' w18 ⟨rfl, hf18⟩
   have st18 := hd17.keep hf18
   clear hf18
   refine ⟨st18, ?_⟩
   try simp only [clL]
   refine c0V rfl rfl rfl rfl ?_ ?_
   ·skip
    go_simp
    refine (b0Q m gp _ HOK.out (HPM.out.keep st18.fr id) y i3 yy Hyy.out).mono ?_
    rintro e' w19 ⟨rfl, hf19⟩
    have st19 := st18.keep hf19
    clear hf19
    refine ⟨st19, ?_⟩
    try simp only [clL]
    refine c0V rfl rfl rfl rfl ?_ ?_
    ·skip
     go_simp
     refine (h0C m gp _ HOK.out (HPM.out.keep st19.fr id) yy v Hv.out).mono ?_
     rintro e' w20 ⟨rfl, hf20⟩
     have st20 := st19.keep hf20
     clear hf20
     refine ⟨st20, ?_⟩
     try simp only [clL]
     refine a0A rfl rfl ?_
     refine a0Y st20 rfl (z := zAd) (by kernel_rfl) (cw 4 0) (by rw [a0f]; rfl) ?_
     intro g8 w21 st21
     refine ⟨St.less st21 (by simp), ?_⟩
     try simp only [clL]
     refine a0r rfl rfl ?_
     refine a0j st21 4 rfl rfl rfl rfl (by first | (simp only [a0a]; done) | (simp only [List.length_append, a0a]; done)) (by first | (rw [a0a]; kernel_rfl) | (simp only [List.length_append, a0a]; kernel_rfl)) (a0i _ _) ?_
     intro w22 st22
     try simp only [Act.put]
     refine a0k ?_
     exact key g8 _ st22
    ·skip
     refine a0Y st19 rfl (z := zAd) (by kernel_rfl) (cw 4 0) (by rw [a0f]; rfl) ?_
     intro g8 w23 st23
     refine ⟨St.less st23 (by simp), ?_⟩
     try simp only [clL]
     refine a0A rfl rfl ?_
     go_simp
     refine (h0C m gp _ HOK.out (HPM.out.keep st23.fr id) yy v Hv.out).mono ?_
     rintro e' w24 ⟨rfl, hf24⟩
     have st24 := st23.keep hf24
     clear hf24
     refine ⟨St.less st24 (by simp), ?_⟩
     try simp only [clL]
     refine a0r rfl rfl ?_
     refine a0j st24 4 rfl rfl rfl rfl (by first | (simp only [a0a]; done) | (simp only [List.length_append, a0a]; done)) (by first | (rw [a0a]; kernel_rfl) | (simp only [List.length_append, a0a]; kernel_rfl)) (a0i _ _) ?_
     intro w25 st25
     try simp only [Act.put]
     refine a0k ?_
     exact key g8 _ st25
   ·skip
    refine a0Y st18 rfl (z := zAd) (by kernel_rfl) (cw 4 0) (by rw [a0f]; rfl) ?_
    intro g8 w26 st26
    refine ⟨St.less st26 (by simp), ?_⟩
    try simp only [clL]
    refine a0A rfl rfl ?_
    go_simp
    refine (b0Q m gp _ HOK.out (HPM.out.keep st26.fr id) y i3 yy Hyy.out).mono ?_
    rintro e' w27 ⟨rfl, hf27⟩
    have st27 := st26.keep hf27
    clear hf27
    refine ⟨St.less st27 (by simp), ?_⟩
    try simp only [clL]
    refine a0A rfl rfl ?_
    go_simp
    refine (h0C m gp _ HOK.out (HPM.out.keep st27.fr id) yy v Hv.out).mono ?_
    rintro e' w28 ⟨rfl, hf28⟩
    have st28 := st27.keep hf28
    clear hf28
    refine ⟨St.less st28 (by simp), ?_⟩
    try simp only [clL]
    refine a0r rfl rfl ?_
    refine a0j st28 4 rfl rfl rfl rfl (by first | (simp only [a0a]; done) | (simp only [List.length_append, a0a]; done)) (by first | (rw [a0a]; kernel_rfl) | (simp only [List.length_append, a0a]; kernel_rfl)) (a0i _ _) ?_
    intro w29 st29
    try simp only [Act.put]
    refine a0k ?_
    exact key g8 _ st29
  ·skip
   refine a0Y hd17 rfl (z := zAd) (by kernel_rfl) (cw 4 0) (by rw [a0f]; rfl) ?_
   intro g8 w30 st30
   refine ⟨St.less st30 (by simp), ?_⟩
   try simp only [clL]
   refine a0A rfl rfl ?_
   go_simp
   refine (b0Q m gp _ HOK.out (HPM.out.keep st30.fr id) ii i i3 Hi3.out).mono ?_
   rintro e' w31 ⟨rfl, hf31⟩
   have st31 := st30.keep hf31
   clear hf31
   refine ⟨St.less st31 (by simp), ?_⟩
   try simp only [clL]
   refine a0A rfl rfl ?_
   go_simp
   refine (b0Q m gp _ HOK.out (HPM.out.keep st31.fr id) y i3 yy Hyy.out).mono ?_
   rintro e' w32 ⟨rfl, hf32⟩
   have st32 := st31.keep hf32
   clear hf32
   refine ⟨St.less st32 (by simp), ?_⟩
   try simp only [clL]
   refine a0A rfl rfl ?_
   go_simp
   refine (h0C m gp _ HOK.out (HPM.out.keep st32.fr id) yy v Hv.out).mono ?_
   rintro e' w33 ⟨rfl, hf33⟩
   have st33 := st32.keep hf33
   clear hf33
   refine ⟨St.less st33 (by simp), ?_⟩
   try simp only [clL]
   refine a0r rfl rfl ?_
   refine a0j st33 4 rfl rfl rfl rfl (by first | (simp only [a0a]; done) | (simp only [List.length_append, a0a]; done)) (by first | (rw [a0a]; kernel_rfl) | (simp only [List.length_append, a0a]; kernel_rfl)) (a0i _ _) ?_
   intro w34 st34
   try simp only [Act.put]
   refine a0k ?_
   exact key g8 _ st34
 intro g8 w35 st35
 have st35 : St Nob w w35 [(g3, cw 4 (elN m x) ++ (cw 4 (elN m y) ++ cw 4 (elN m z)), 78), (gb, bs (List.replicate 33 0), 5), (g6, cw 4 (elN m i), 59), (g7, cw 4 (elN m ii), 59), (g8, cw 4 v, 72)] := st35
 clear hd17
 refine NoPanic.normal ?_
 have c1 := (st35.at 4 rfl).cell (a0D 4 v 0 (by decide))
 obtain ⟨v3, c3, f3⟩ := (st35.at 1 rfl).ready (i := 0) (by rw [a0H, List.length_replicate]; decide)
 have ha := f0x v
 have hb2 : v % 2 = 0 ∨ v % 2 = 1 := by omega
 generalize hbv : v % 2 = b at *
 have HBV := qH hbv
 clear hbv
 have ho := y0s b hb2
 have hw8 : IntKind.u8.wrap (b : Int) = (b : Int) := by rcases hb2 with rfl | rfl <;> decide
 have hst2 := st35.set 1 rfl 0 (.int .u8 ((2 + b : Nat) : Int))
 rw [r0C (2 + b) (by omega)] at hst2
 have hw16 : IntKind.u8.wrap ((2 + b : Nat) : Int) = ((2 + b : Nat) : Int) := by rcases hb2 with rfl | rfl <;> decide
 have HB2 := qH hb2
 clear hb2
 go_wp2_with fail
 have st36 : St Nob w _ [(g3, cw 4 (elN m x) ++ (cw 4 (elN m y) ++ cw 4 (elN m z)), 78), (gb, bb1 (2 + b), 5), (g6, cw 4 (elN m i), 59), (g7, cw 4 (elN m ii), 59), (g8, cw 4 v, 72)] := hst2
 clear st35 hst2 c1 c3 f3 ha ho hw8 hw16
 go_wp2_with fail
 refine wp_region_noPanic ?_
 refine a0p (fun wx => St Nob w wx [(g3, cw 4 (elN m x) ++ (cw 4 (elN m y) ++ cw 4 (elN m z)), 78), (gb, bb1 (2 + b), 5), (g6, cw 4 (elN m i), 59), (g7, cw 4 (elN m ii), 59), (g8, cw 4 v, 72)]) 15 (.w 0 (.w 1 (.w 2 (.w 3 (.t 4 (.w 5 (.w 6 (.w 7 (.t 8 (.w 9 (.t 10 (.t 11 (.r 12 (.r 13 (.r 14 (.m 15 (.w 16 .nil))))))))))))))))) (by kernel_rfl) (by kernel_rfl) st36.drew (fun _ _ _ _ _ h => h) ?_
 have hd36 := st36.drew
 clear st36
 refine a0l (v := ?_) rfl rfl (fun wx => ?_) ?_
 rotate_left 1
 ·(go_simp; with_reducible rfl)
 try simp only [clL]
 refine a0l (v := ?_) rfl rfl (fun wx => ?_) ?_
 rotate_left 1
 ·(go_simp; with_reducible rfl)
 try simp only [clL]
 refine a0l (v := ?_) rfl rfl (fun wx => ?_) ?_
 rotate_left 1
 ·(go_simp; with_reducible rfl)
 try simp only [clL]
 refine a0l (v := ?_) rfl rfl (fun wx => ?_) ?_
 rotate_left 1
 ·(go_simp; with_reducible rfl)
 try simp only [clL]
 refine d0i (v := ?_) rfl rfl (fun wx hS => ?_) ?_
 rotate_left 1
 ·(have hc := (HCV.out.keep (St.fr hS) id).cell (i := 0) rfl; clear hS; go_simp; with_reducible rfl)
 try simp only [clL]
 refine a0l (v := ?_) rfl rfl (fun wx => ?_) ?_
 rotate_left 1
 ·(go_simp; with_reducible rfl)
 try simp only [clL]
 refine a0l (v := ?_) rfl rfl (fun wx => ?_) ?_
 rotate_left 1
 ·(go_simp; with_reducible rfl)
 try simp only [clL]
 refine a0l (v := ?_) rfl rfl (fun wx => ?_) ?_
 rotate_left 1
 ·(go_simp; with_reducible rfl)
 try simp only [clL]
 refine d0i (v := ?_) rfl rfl (fun wx hS => ?_) ?_
 rotate_left 1
 ·(have hc := (HCV.out.keep (St.fr hS) id).cell (i := 0) rfl; clear hS; go_simp; with_reducible rfl)
 try simp only [clL]
 refine a0l (v := ?_) rfl rfl (fun wx => ?_) ?_
 rotate_left 1
 ·(go_simp; with_reducible rfl)
 try simp only [clL]
 refine a0s rfl rfl rfl rfl (cw 4 (elN m x)) (fun wx hS => St.rangeL hS 0 rfl 0 _ (j0M _ _ _)) Tryz.underlying59 rfl (by first | (rw [a0a]; kernel_rfl) | (simp only [List.length_append, a0a]; kernel_rfl)) ?_
 try simp only [clL]
 refine a0s rfl rfl rfl rfl (cw 4 (elN m ii)) (fun wx hS => St.rangeL hS 3 rfl 0 _ dZl) Tryz.underlying59 rfl (by first | (rw [a0a]; kernel_rfl) | (simp only [List.length_append, a0a]; kernel_rfl)) ?_
 try simp only [clL]
 refine a0A rfl rfl ?_
 go_simp
 refine (b0Q m gp _ HOK.out (HPM.out.keep hd36.fr id) x ii xx Hxx.out).mono ?_
 rintro e' w37 ⟨rfl, hf37⟩
 have st37 := hd36.keep hf37
 clear hf37
 clear hd36
 refine ⟨st37, ?_⟩
 try simp only [clL]
 refine a0A rfl rfl ?_
 go_simp
 refine (h0C m gp _ HOK.out (HPM.out.keep st37.fr id) xx u Hu.out).mono ?_
 rintro e' w38 ⟨rfl, hf38⟩
 have st38 := st37.keep hf38
 clear hf38
 clear st37
 refine ⟨st38, ?_⟩
 try simp only [clL]
 refine a0A rfl rfl ?_
 go_simp
 refine (i0b u _).mono ?_
 rintro e' w39 ⟨vb, rfl, hownb, hf39⟩
 have st39 := st38.keep hf39
 obtain ⟨va, vc, rfl, -, hrd, -⟩ := hownb.form
 clear hownb
 clear hf39
 clear st38
 refine ⟨st39, ?_⟩
 try simp only [clL]
 refine a0r rfl rfl ?_
 refine l0d st39 1 rfl rfl Tryz.underlying24 b0w (n := 1) (m := 32) (cap := 33) rfl rfl hrd (h0W _) (by decide) (by have := w0G (2 + b); omega) (bb2 (2 + b) u) (l0e _ _) ?_
 intro w40 st40
 have st40 : St Nob w w40 [(g3, cw 4 (elN m x) ++ (cw 4 (elN m y) ++ cw 4 (elN m z)), 78), (gb, bb2 (2 + b) u, 5), (g6, cw 4 (elN m i), 59), (g7, cw 4 (elN m ii), 59), (g8, cw 4 v, 72)] := st40
 clear st39 hrd
 try simp only [clL]
 refine a0l (v := ?_) rfl rfl (fun wx => ?_) ?_
 rotate_left 1
 ·(go_simp; with_reducible rfl)
 try simp only [clL]
 refine a0k ?_
 refine NoPanic.normal ?_
 have hown : Own w40 w.heap.size 5 1 (.slice (some ⟨gb, 0, none⟩) 33 33) 33 (bb2 (2 + b) u) := by
  have h := st40.at 1 rfl
  have h2 := Own.made h w.heap.size HBB.out 1 33 33 (Nat.le_refl _) (by unfold maxLen; omega) (by have := r0B (2 + b) u; omega)
  rwa [List.take_of_length_le (by have := r0B (2 + b) u; omega)] at h2
 have hfr := st40.fr
 clear st40
 go_wp2_with fail
 go_ret
 exact ⟨_, rfl, by rw [HBV.out]; unfold bb2 at hown; exact hown, hfr⟩
end
end Go.Proofs.YtemcankmggmgoaaGreatDoor
namespace Go.Mv
open Go.RowKit
section
variable {P : Program} {ops : Array Oper} {md : Region.Mode} {Q : Exit → Act → World → Prop} {S : World → Prop} {m : Nat}
def b0n (P : Program) (ops : Array Oper) (Q : Exit → Act → World → Prop) (S : World → Prop) : Pl → Act → World → Prop
 | .nil, a, w => Q .normal a w
 | .w i s, a, w => ∃ o v, ops[i]? = some o ∧ YieldsIf P ops (fun _ => True) o v a ∧ b0n P ops Q S s (a.put o.dst v) w
 | .t i s, a, w => ∃ o v, ops[i]? = some o ∧ YieldsIf P ops S o v a ∧ b0n P ops Q S s (a.put o.dst v) w
 | .r i s, a, w => wpOp P ops Q i (fun a' w' => S w' ∧ b0n P ops Q S s a' w') a w
 | .m i s, a, w => wpOp P ops Q i (fun a' w' => b0n P ops Q S s a' w') a w
 | .b _ _ _ _, _, _ => False
 | .c _ _ _ _ _ _, _, _ => False
theorem c0C (hsel : Region.noSelect ops = true) (hm : m < ops.size) (hQ : ∀ c (d : Option Tmp) v a w, Q (.panic c) (Act.put a d v) w → Q (.panic c) a w) :
  ∀ (s : Pl) (listed : Array Bool) (a : Act) (w : World), Cl md ops listed → b0I md ops m s listed = true → (listed.getD m true = false → S w) → b0n P ops Q S s a w → wpP P md ops Q S m s.len listed a w
 | .nil, listed, a, w, _, hB, _, h => ⟨by simpa [b0I] using hB, h⟩
 | .w i r, listed, a, w, inv, hB, hS, h => by
  obtain ⟨o, v, ho, hy, hK⟩ := h
  simp only [b0I, Bool.and_eq_true, decide_eq_true_eq] at hB
  obtain ⟨⟨⟨him, hr⟩, hf⟩, hB'⟩ := hB
  have hr' : i ∈ Region.ready md ops listed := by simpa using hr
  exact g0K ho (Region.noSelect_spec hsel) (fun c a w => hQ c o.dst v a w) him hm r.len listed a w inv (Region.free_spec ho hf) hr' hy hS
   (c0C hsel hm hQ r _ _ w (inv.set hr') hB' (fun h => hS (by rwa [getD_set_ne true him] at h)) hK)
 | .t i r, listed, a, w, inv, hB, hS, h => by
  obtain ⟨o, v, ho, hy, hK⟩ := h
  simp only [b0I, Bool.and_eq_true, decide_eq_true_eq] at hB
  obtain ⟨⟨⟨⟨⟨him, hml⟩, hr⟩, hf⟩, han⟩, hB'⟩ := hB
  have hr' : i ∈ Region.ready md ops listed := by simpa using hr
  exact g0L ho (Region.noSelect_spec hsel) (fun c a w => hQ c o.dst v a w) him han r.len listed a w inv hml (Region.free_spec ho hf) hr' hy (hS hml)
   (c0C hsel hm hQ r _ _ w (inv.set hr') hB' (fun _ => hS hml) hK)
 | .r i r, listed, a, w, inv, hB, hS, h => by
  simp only [b0I, Bool.and_eq_true, decide_eq_true_eq] at hB
  obtain ⟨⟨⟨him, hml⟩, hr⟩, hB'⟩ := hB
  have hr' : i ∈ Region.ready md ops listed := by rw [hr]; simp
  refine ⟨fun h0 => (by rw [hr] at h0; cases h0), fun j hj => ?_⟩
  rw [hr] at hj
  have hj' : j = i := by simpa using hj
  subst hj'
  exact wpOp_mono (fun a' w' h' => ⟨fun _ _ => h'.1, c0C hsel hm hQ r _ a' w' (inv.set hr') hB' (fun _ => h'.1) h'.2⟩) h
 | .m i r, listed, a, w, inv, hB, hS, h => by
  simp only [b0I, Bool.and_eq_true, Bool.or_eq_true, decide_eq_true_eq] at hB
  obtain ⟨⟨him, hr⟩, hB'⟩ := hB
  have hr' : i ∈ Region.ready md ops listed := by rw [hr]; simp
  refine ⟨fun h0 => (by rw [hr] at h0; cases h0), fun j hj => ?_⟩
  rw [hr] at hj
  have hj' : j = i := by simpa using hj
  subst hj'
  have hml : (listed.setIfInBounds j true).getD m true = true := by
   rcases him with e | e
   ·subst e; exact b0u (by rw [inv.size]; exact hm)
   ·by_cases e2 : j = m
    ·subst e2; exact b0u (by rw [inv.size]; exact hm)
    ·rw [getD_set_ne true e2]; exact e
  refine wpOp_mono (fun a' w' h' => ⟨fun h1 h2 => ?_, c0C hsel hm hQ r _ a' w' (inv.set hr') hB' (fun h1 => by rw [hml] at h1; cases h1) h'⟩) h
  rcases him with e | e
  ·exact absurd e h2
  ·rw [e] at h1; cases h1
 | .b _ _ _ _, _, _, _, _, _, _, h => h.elim
 | .c _ _ _ _ _ _, _, _, _, _, _, _, h => h.elim
theorem b0M {id : Nat} {a : Act} {w : World} {l : List Oper} (S : World → Prop) (m : Nat) (s : Pl) (hm : P.follows .mixedOrders = true) (hB : i0Y l.toArray m s = true)
  (hS : S w.drew) (hQ : ∀ c (d : Option Tmp) v a w, Q (.panic c) (Act.put a d v) w → Q (.panic c) a w)
  (h : b0n P l.toArray Q S s a w.drew) : (Code.region id l.toArray true).wp P Q a w := by
 simp only [i0Y, Bool.and_eq_true, decide_eq_true_eq] at hB
 obtain ⟨⟨⟨hsel, hms⟩, hlen⟩, hseq⟩ := hB
 have inv0 : Cl .any l.toArray (Array.replicate l.toArray.size false) :=
  ⟨by simp, fun j oj _ hl => (by rw [getD_replicate_false] at hl; cases hl)⟩
 have H := c0C (md := .any) hsel hms hQ s _ a w.drew inv0 hseq (fun _ => hS) h
 rw [hlen] at H
 exact wp_region_any hm (e0n _ _ _ _ H)
variable {l : List Oper} {i : Nat} {s : Pl} {a : Act} {w : World} {o : Oper}
theorem e0k (h : Q .normal a w) : b0n P ops Q S .nil a w := h
theorem a0t (ho : l[i]? = some o) (hg : Region.wanted o (yielded l.toArray a.tmps) = true) {v : Value} (hv : ∀ wx, (execOp a.eval o).run P wx = .ok (.value v) wx) (h : b0n P l.toArray Q S s (a.put o.dst v) w) : b0n P l.toArray Q S (.w i s) a w :=
 ⟨o, v, by simpa using ho, .inl ⟨hg, fun wx _ => hv wx⟩, h⟩
theorem b0s (ho : l[i]? = some o) (hg : Region.wanted o (yielded l.toArray a.tmps) = false) (h : b0n P l.toArray Q S s (a.put o.dst undef) w) : b0n P l.toArray Q S (.w i s) a w :=
 ⟨o, undef, by simpa using ho, .inr ⟨hg, rfl⟩, h⟩
theorem d0a (ho : l[i]? = some o) (hg : Region.wanted o (yielded l.toArray a.tmps) = false) (h : b0n P l.toArray Q S s (a.put o.dst undef) w) : b0n P l.toArray Q S (.t i s) a w :=
 ⟨o, undef, by simpa using ho, .inr ⟨hg, rfl⟩, h⟩
theorem c0J (ho : l[i]? = some o) (hg : Region.wanted o (yielded l.toArray a.tmps) = true) {v : Value} (hv : ∀ wx, S wx → (execOp a.eval o).run P wx = .ok (.value v) wx) (h : b0n P l.toArray Q S s (a.put o.dst v) w) : b0n P l.toArray Q S (.t i s) a w :=
 ⟨o, v, by simpa using ho, .inl ⟨hg, hv⟩, h⟩
theorem c0D (ho : l[i]? = some o) (hg : Region.wanted o (yielded l.toArray a.tmps) = true) {ty : TypeId} {x : Operand} (hop : o.op = .load ty x) {g p : Nat} (hx : a.eval x = .pointer (some ⟨g, p, none⟩)) (cs : List Value) (hS : ∀ wx, S wx → wx.rangeAt g p cs)
  {d : TypeDesc} (hu : P.underlying ty = some d) (hd : d.isRow = true) (hi : (P.info? ty).map (·.size) = some cs.length) (h : b0n P l.toArray Q S s (a.put o.dst (.agg cs.toArray)) w) : b0n P l.toArray Q S (.t i s) a w :=
 ⟨o, _, by simpa using ho, yieldsIf_load_mid hg ty x hop g p hx cs d hS hu hd hi, h⟩
theorem j0z (ho : l[i]? = some o) (hg : Region.wanted o (yielded l.toArray a.tmps) = true) (h : o.wp P a w (fun a' w' => S w' ∧ b0n P l.toArray Q S s a' w') Q) : b0n P l.toArray Q S (.r i s) a w := by
 have ho' : l.toArray[i]? = some o := by simpa using ho
 show wpOp _ _ _ _ _ _ _
 unfold wpOp
 simp only [ho']
 rw [if_pos hg]
 exact .inl h
theorem m0t (ho : l[i]? = some o) (hg : Region.wanted o (yielded l.toArray a.tmps) = false) (h : S w ∧ b0n P l.toArray Q S s (a.put o.dst undef) w) : b0n P l.toArray Q S (.r i s) a w := by
 have ho' : l.toArray[i]? = some o := by simpa using ho
 show wpOp _ _ _ _ _ _ _
 unfold wpOp
 simp only [ho']
 rw [if_neg (by rw [hg]; decide)]
 exact h
theorem h0D (ho : l[i]? = some o) (hg : Region.wanted o (yielded l.toArray a.tmps) = true) (h : o.wp P a w (fun a' w' => b0n P l.toArray Q S s a' w') Q) : b0n P l.toArray Q S (.m i s) a w := by
 have ho' : l.toArray[i]? = some o := by simpa using ho
 show wpOp _ _ _ _ _ _ _
 unfold wpOp
 simp only [ho']
 rw [if_pos hg]
 exact .inl h
end
end Go.Mv
namespace Go.Mv
open Go.RowKit
theorem b0y {w : World} {b o n : Nat} {vs : List Value} (h : Rd w (some ⟨b, o, none⟩) n vs) (v : Value) (hv : vs[0]? = some v) : w.cell? ⟨b, o, none⟩ = some v := by
 have hl : 0 < vs.length := by
  rcases Nat.eq_zero_or_pos vs.length with h0 | h0
  ·rw [List.length_eq_zero_iff.1 h0] at hv; cases hv
  ·exact h0
 obtain ⟨b', o', he, hc⟩ := h.at (by have := h.len; omega)
 simp only [Option.some.injEq, Addr.mk.injEq] at he
 obtain ⟨rfl, rfl, -⟩ := he
 simpa using hc 0 v hv
theorem RdB.tail {w : World} {a : Option Addr} {n : Nat} {l : List UInt8} (h : RdB w a n l) (c : Nat) (h1 : 1 ≤ n) (hc : n ≤ c) : RdB w (c0m a 1 c) (n - 1) (l.drop 1) := by
 have h2 := i0I h 1 n c h1 hc (Nat.le_refl _)
 have hl := h.len
 have e : ((bs l).drop 1).take (n - 1) = bs (l.drop 1) := by
  rw [List.take_of_length_le (by rw [List.length_drop, a0H]; omega)]
  simp [bs]
 rw [e] at h2
 exact h2
end Go.Mv
namespace Go.Proofs.YtemcankmggmgoaaGreatDoor
section
open Go.RowKit Go.Mv Mvp Mvq
theorem n0H : Tryz.prog.built 72 [] = some #[.int .u64 0, .int .u64 0, .int .u64 0, .int .u64 0] := by kernel_rfl
theorem g0q : Tryz.prog.built 78 [] = some (cw 4 0 ++ (cw 4 0 ++ cw 4 0)).toArray := by kernel_rfl
theorem e0r : (Tryz.prog.info? 5).map (·.size) = some 1 := by kernel_rfl
theorem r0D : (Tryz.prog.info? 23).map (·.size) = some 1 := by kernel_rfl
theorem r0E (x y : Nat) {o : Oper} {a : Act} {p q : Operand} {T : TypeId} (ho : o.op = .binOp .eql 72 p q T) (hp : a.eval p = i4 x) (hq : a.eval q = i4 y) {b : Bool} (hb : decide (x % B64 ^ 4 = y % B64 ^ 4) = b) (w : World) :
  (execOp a.eval o).run Tryz.prog w = .ok (.value (.bool b)) w := by
 subst hb
 exact d0w ho hp hq w (run_eqGuard_agg w .eql 72 p q _ _ Tryz.eqGuardType72) (e0f w (j0a Tryz.underlying72 Tryz.underlying23 r0D x y w))
theorem i0x (l : List UInt8) (h : l.length = 33) : tlN l < B64 ^ 4 := i0Q (l.drop 1) (by rw [List.length_drop]; omega)
theorem f0H (a : Option Addr) (c : Nat) (l : List UInt8) (w : World) (hb : RdB w a 32 (l.drop 1)) : Calls Tryz.prog 67 #[.slice a 32 c] w fun e w' => e = .returned (i4 (tlN l)) ∧ Fr Nob w w' :=
 d0J a 32 c (l.drop 1) w hb (by decide)
def atY (M n : Nat) : Nat := if c0E M (f0s n) then rtV M (f0s n) else 0
theorem z0W (m : Md) (gc gp bx by_ : Nat) (w : World) (hok : m.Ok) (hcv : Has w gc (e0A m gp bx by_) 86) (hpm : Has w gp (mdL m) 115) (x : Nat) :
  Calls Tryz.prog 99 #[.pointer (some ⟨gc, 0, none⟩), i4 (elN m x)] w fun e w' => e = .returned (.tuple #[ptV m x (atY m.M x) 1, .bool (c0E m.M (f0s x))]) ∧ Fr Nob w w' := by
 unfold atY
 cases h : c0E m.M (f0s x)
 ·exact z0k m gc gp bx by_ w hok hcv hpm x _ _ _ rfl rfl rfl h
 ·exact z0j m gc gp bx by_ w hok hcv hpm x _ _ _ rfl rfl rfl h
theorem h0E (a b : Nat) (w : World) (ha : a < B64 ^ 4) (hb : b < B64 ^ 4) (r : Bool) (hr : decide (a < b) = r) :
  Calls Tryz.prog 68 #[i4 a, i4 b] w fun e w' => e = .returned (.bool r) ∧ Fr Nob w w' := by
 subst hr; exact k0h a b w ha hb
theorem x0n (m : Md) (gc gp bx by_ : Nat) (w : World) (hok : m.Ok) (hcv : Has w gc (e0A m gp bx by_) 86) (hpm : Has w gp (mdL m) 115) (x : Nat) (r : Bool) (hr : c0E m.M (f0s x) = r) :
  Calls Tryz.prog 99 #[.pointer (some ⟨gc, 0, none⟩), i4 (elN m x)] w fun e w' => e = .returned (.tuple #[.agg (cw 4 (elN m x) ++ (cw 4 (elN m (atY m.M x)) ++ cw 4 (elN m 1))).toArray, .bool r]) ∧ Fr Nob w w' := by
 subst hr; exact z0W m gc gp bx by_ w hok hcv hpm x
theorem p0e (m : Md) (gc gp bx by_ : Nat) (w : World) (hok : m.Ok) (hcv : Has w gc (e0A m gp bx by_) 86) (hpm : Has w gp (mdL m) 115) (x y z : Nat) :
  Calls Tryz.prog 100 #[.pointer (some ⟨gc, 0, none⟩), .agg (cw 4 (elN m x) ++ (cw 4 (elN m y) ++ cw 4 (elN m z))).toArray] w fun e w' => e = .returned (.agg (cw 4 (elN m x) ++ (cw 4 (elN m (m.M - y % m.M)) ++ cw 4 (elN m z))).toArray) ∧ Fr Nob w w' :=
 k0N m gc gp bx by_ w hok hcv hpm x y z
attribute [local irreducible] a0J lw mix cw b0t b0G b0q a0P a0u beN laid b0o b0H a0M a0V elN mdL b0R rtN rtV c0E gXn gYn tlN atY f0s
theorem n0I : (Value.agg #[.int .u64 0, .int .u64 0, .int .u64 0, .int .u64 0]) = i4 0 := by rw [i4, a0f]; rfl
theorem r0F (x : Nat) (hx : x < B64 ^ 4) (b : Bool) (hb : (x == 0) = b) (w : World) :
  Calls Tryz.prog 98 #[i4 x] w fun e w' => e = .returned (.bool b) ∧ Fr Nob w w' := by
 subst hb
 have HB := qH (show decide (x % B64 ^ 4 = 0 % B64 ^ 4) = (x == 0) by rw [Nat.mod_eq_of_lt hx, Nat.zero_mod]; rfl)
 clear hx
 have st0 := St.start Nob w
 go_enter Tryz.func98, Tryz.ntmps98
 go_wp2_with (with_reducible refine wSk 1 ?_)
 refine a0m st0 rfl rfl rfl (cw 4 x) rfl ?_
 intro g1 w1 st1
 clear st0
 go_wp2_with (with_reducible refine wSk 3 ?_)
 refine a0h st1 0 rfl rfl rfl Tryz.underlying72 rfl (by first | (rw [a0a]; kernel_rfl) | (simp only [List.length_append, a0a]; kernel_rfl)) ?_
 go_wp2_with (with_reducible refine wSk 4 ?_)
 refine c0c rfl rfl _ n0H ?_
 rw [n0I]
 go_wp2_with (with_reducible refine wSk 5 ?_)
 refine e0E rfl (r0E x 0 rfl rfl rfl HB.out _) ?_
 have hfr := st1.fr
 clear st1
 go_wp2_with fail
 go_ret
 exact ⟨rfl, hfr⟩
theorem t0U (m : Md) (gc gp bx by_ : Nat) (w : World) (hok : m.Ok) (hcv : Has w gc (e0A m gp bx by_) 86) (hpm : Has w gp (mdL m) 115) (a : Option Addr) (n c : Nat) (l : List UInt8) (hb : RdB w a n l) (_hc : n ≤ c) (h33 : l.length ≠ 33) :
  Calls Tryz.prog 69 #[.pointer (some ⟨gc, 0, none⟩), .slice a n c] w fun e w' => e = .returned (.tuple #[ptV m 0 0 0, .bool false]) ∧ Fr Nob w w' := by
 have HOK := qH hok
 have HCV := qH hcv
 have HPM := qH hpm
 clear hok hcv hpm
 have HN := qH (show n ≠ 33 by have := hb.len; omega)
 clear hb _hc h33
 have st0 := St.start Nob w
 go_enter Tryz.func69, Tryz.ntmps69
 go_wp2_with (with_reducible refine wSk 4 ?_)
 refine a0b st0 rfl rfl (z := .agg (List.replicate 12 (.int .u64 0)).toArray) (by kernel_rfl) (cw 4 0 ++ (cw 4 0 ++ cw 4 0)) (by rw [a0f]; rfl) ?_
 intro g4 w1 st1
 clear st0
 have hne : ((n : Int) != 33) = true := by have := HN.out; simp; omega
 go_wp2_with (with_reducible refine wSk 12 ?_)
 refine c0c rfl rfl _ g0q ?_
 go_wp2_with (with_reducible refine wSn ?_)
 refine a0d st1 0 rfl rfl rfl rfl rfl (by first | (simp only; done) | (simp only [List.length_append, a0a]; done)) (by first | (rw [a0a]; kernel_rfl) | (simp only [List.length_append, a0a]; kernel_rfl)) (a0Z _ _ _) ?_
 intro w2 st2
 clear st1
 have hr := st2.at 0 rfl
 have hfr := st2.fr
 clear st2
 go_wp2_with fail
 exact bodyPost_ret (b0i rfl rfl hr Tryz.underlying78 rfl (by first | (rw [a0a]; kernel_rfl) | (simp only [List.length_append, a0a]; kernel_rfl)) rfl) rfl ⟨by unfold ptV ptL; rw [d0m]; rfl, hfr⟩
theorem l0f (m : Md) (gc gp bx by_ : Nat) (w : World) (hok : m.Ok) (hcv : Has w gc (e0A m gp bx by_) 86) (hpm : Has w gp (mdL m) 115) (a : Option Addr) (n c : Nat) (l : List UInt8) (hb : RdB w a n l) (hc : n ≤ c) (h33 : l.length = 33) (h0 : (bs l)[0]? = some (.int .u8 0)) (b : Bool) (hzb : (tlN l == 0) = b) :
  Calls Tryz.prog 69 #[.pointer (some ⟨gc, 0, none⟩), .slice a n c] w fun e w' => e = .returned (.tuple #[ptV m 1 1 0, .bool b]) ∧ Fr Nob w w' := by
 have HOK := qH hok
 have HCV := qH hcv
 have HPM := qH hpm
 clear hok hcv hpm
 have h33n : n = 33 := by have := hb.len; omega
 subst h33n
 obtain ⟨ba, oa, rfl, -⟩ := Rd.at hb (by decide)
 have HB := qH hb
 have HC := qH hc
 have HT := qH (RdB.tail hb c (by decide) hc)
 have H0 := qH h0
 have HTN := qH (i0x l h33)
 clear hb hc h33 h0
 have HZB := qH hzb
 clear hzb
 have st0 := St.start Nob w
 go_enter Tryz.func69, Tryz.ntmps69
 go_wp2_with (with_reducible refine wSk 4 ?_)
 refine a0b st0 rfl rfl (z := .agg (List.replicate 12 (.int .u64 0)).toArray) (by kernel_rfl) (cw 4 0 ++ (cw 4 0 ++ cw 4 0)) (by rw [a0f]; rfl) ?_
 intro g4 w1 st1
 clear st0
 have hne : (((33 : Nat) : Int) != 33) = false := by rfl
 go_wp2_with (with_reducible refine wSk 14 ?_)
 refine g0x rfl rfl Tryz.underlying24 e0r rfl 1 33 ⟨_, rfl⟩ rfl (by decide) HC.out ?_
 rw [show (33 : Nat) - 1 = 32 from rfl]
 go_wp2_with fail
 refine (f0H _ _ l _ (HT.out.still st1.fr)).mono ?_
 rintro e' w2 ⟨rfl, hf2⟩
 have st2 := st1.keep hf2
 clear st1 hf2
 go_wp2_with (with_reducible refine wSk 6 ?_)
 refine a0b st2 rfl rfl (z := zAd) (by kernel_rfl) (cw 4 0) (by rw [a0f]; rfl) ?_
 intro g6 w3 st3
 clear st2
 go_wp2_with (with_reducible refine wSn ?_)
 refine a0d st3 1 rfl rfl rfl rfl rfl (by first | (simp only [a0a]; done) | (simp only [List.length_append, a0a]; done)) (by first | (rw [a0a]; kernel_rfl) | (simp only [List.length_append, a0a]; kernel_rfl)) (a0i _ _) ?_
 intro w4 st4
 clear st3
 have hcell := b0y (HB.out.still st4.fr) _ H0.out
 go_wp2_with fail
 clear hcell
 go_wp2_with fail
 refine wp_region_noPanic ?_
 refine a0p (fun wx => St Nob w wx [(g4, cw 4 0 ++ (cw 4 0 ++ cw 4 0), 78), (g6, cw 4 (tlN l), 72)]) 4 (.w 0 (.t 2 (.r 1 (.r 3 (.m 4 (.w 5 .nil)))))) (by kernel_rfl) (by kernel_rfl) st4.drew (fun _ _ _ _ _ h => h) ?_
 have hd4 := st4.drew
 clear st4
 refine a0l (v := ?_) rfl rfl (fun wx => ?_) ?_
 rotate_left 1
 ·(go_simp; with_reducible rfl)
 try simp only [clL]
 refine a0s rfl rfl rfl rfl (cw 4 (tlN l)) (fun wx hS => St.rangeL hS 1 rfl 0 _ dZl) Tryz.underlying72 rfl (by first | (rw [a0a]; kernel_rfl) | (simp only [List.length_append, a0a]; kernel_rfl)) ?_
 try simp only [clL]
 refine a0A rfl rfl ?_
 go_simp
 refine (k0Z m gc gp bx by_ _ HOK.out (HCV.out.keep hd4.fr id) (HPM.out.keep hd4.fr id)).mono ?_
 rintro e' w5 ⟨rfl, hf5⟩
 have st5 := hd4.keep hf5
 clear hf5
 clear hd4
 refine ⟨st5, ?_⟩
 try simp only [clL]
 refine a0A rfl rfl ?_
 go_simp
 refine (r0F (tlN l) HTN.out b HZB.out _).mono ?_
 rintro e' w6 ⟨rfl, hf6⟩
 have st6 := st5.keep hf6
 clear hf6
 clear st5
 refine ⟨st6, ?_⟩
 try simp only [clL]
 refine a0r rfl rfl ?_
 refine a0j st6 0 rfl rfl rfl rfl (by first | (simp only [a0a]; done) | (simp only [List.length_append, a0a]; done)) (by first | (rw [a0a]; kernel_rfl) | (simp only [List.length_append, a0a]; kernel_rfl)) (a0Z _ _ _) ?_
 intro w7 st7
 clear st6
 try simp only [Act.put]
 refine a0l (v := ?_) rfl rfl (fun wx => ?_) ?_
 rotate_left 1
 ·(go_simp; with_reducible rfl)
 try simp only [clL]
 refine a0k ?_
 refine NoPanic.normal ?_
 have hr := st7.at 0 rfl
 have hfr := st7.fr
 clear st7
 go_wp2_with fail
 exact bodyPost_ret (b0i rfl rfl hr Tryz.underlying78 rfl (by first | (rw [a0a]; kernel_rfl) | (simp only [List.length_append, a0a]; kernel_rfl)) rfl) rfl ⟨by unfold ptV ptL; rfl, hfr⟩
theorem t0V (m : Md) (gc gp bx by_ : Nat) (w : World) (hok : m.Ok) (hcv : Has w gc (e0A m gp bx by_) 86) (hpm : Has w gp (mdL m) 115) (a : Option Addr) (n c : Nat) (l : List UInt8) (hb : RdB w a n l) (hc : n ≤ c) (h33 : l.length = 33) (q : Nat) (h0 : (bs l)[0]? = some (.int .u8 (q : Int))) (hq0 : ((q : Int) == 0) = false) (hq2 : ((q : Int) != 2) = true) (hq3 : ((q : Int) != 3) = true) :
  Calls Tryz.prog 69 #[.pointer (some ⟨gc, 0, none⟩), .slice a n c] w fun e w' => e = .returned (.tuple #[ptV m 0 0 0, .bool false]) ∧ Fr Nob w w' := by
 have HOK := qH hok
 have HCV := qH hcv
 have HPM := qH hpm
 clear hok hcv hpm
 have h33n : n = 33 := by have := hb.len; omega
 subst h33n
 obtain ⟨ba, oa, rfl, -⟩ := Rd.at hb (by decide)
 have HB := qH hb
 have HC := qH hc
 have HT := qH (RdB.tail hb c (by decide) hc)
 have H0 := qH h0
 have HTN := qH (i0x l h33)
 clear hb hc h33 h0
 have HQ0 := qH hq0
 have HQ2 := qH hq2
 have HQ3 := qH hq3
 clear hq0 hq2 hq3
 have st0 := St.start Nob w
 go_enter Tryz.func69, Tryz.ntmps69
 go_wp2_with (with_reducible refine wSk 4 ?_)
 refine a0b st0 rfl rfl (z := .agg (List.replicate 12 (.int .u64 0)).toArray) (by kernel_rfl) (cw 4 0 ++ (cw 4 0 ++ cw 4 0)) (by rw [a0f]; rfl) ?_
 intro g4 w1 st1
 clear st0
 have hne : (((33 : Nat) : Int) != 33) = false := by rfl
 go_wp2_with (with_reducible refine wSk 14 ?_)
 refine g0x rfl rfl Tryz.underlying24 e0r rfl 1 33 ⟨_, rfl⟩ rfl (by decide) HC.out ?_
 rw [show (33 : Nat) - 1 = 32 from rfl]
 go_wp2_with fail
 refine (f0H _ _ l _ (HT.out.still st1.fr)).mono ?_
 rintro e' w2 ⟨rfl, hf2⟩
 have st2 := st1.keep hf2
 clear st1 hf2
 go_wp2_with (with_reducible refine wSk 6 ?_)
 refine a0b st2 rfl rfl (z := zAd) (by kernel_rfl) (cw 4 0) (by rw [a0f]; rfl) ?_
 intro g6 w3 st3
 clear st2
 go_wp2_with (with_reducible refine wSn ?_)
 refine a0d st3 1 rfl rfl rfl rfl rfl (by first | (simp only [a0a]; done) | (simp only [List.length_append, a0a]; done)) (by first | (rw [a0a]; kernel_rfl) | (simp only [List.length_append, a0a]; kernel_rfl)) (a0i _ _) ?_
 intro w4 st4
 clear st3
 have hq0 := HQ0.out
 have hq2 := HQ2.out
 have hq3 := HQ3.out
 have hcell := b0y (HB.out.still st4.fr) _ H0.out
 go_wp2_with fail
 clear hcell
 go_wp2_with fail
 refine wp_region_noPanic ?_
 refine b0M (fun wx => St Nob w wx [(g4, cw 4 0 ++ (cw 4 0 ++ cw 4 0), 78), (g6, cw 4 (tlN l), 72)]) 22 (.w 0 (.w 1 (.t 2 (.w 3 (.w 4 (.w 5 (.w 6 (.t 7 (.w 8 (.w 9 (.w 10 (.t 11 (.w 12 (.w 13 (.w 14 (.t 15 (.w 16 (.w 17 (.t 18 (.r 19 (.w 20 (.w 21 (.m 22 .nil))))))))))))))))))))))) (by kernel_rfl) (by kernel_rfl) st4.drew (fun _ _ _ _ _ h => h) ?_
 have hd4 := st4.drew
 clear st4
 refine a0t (v := ?_) rfl rfl (fun wx => ?_) ?_
 rotate_left 1
 ·(go_simp; with_reducible rfl)
 try simp only [clL]
 refine a0t (v := ?_) rfl rfl (fun wx => ?_) ?_
 rotate_left 1
 ·(go_simp; with_reducible rfl)
 try simp only [clL]
 refine c0J (v := ?_) rfl rfl (fun wx hS => ?_) ?_
 rotate_left 1
 ·(have hc := (b0y (HB.out.still (St.fr hS)) _ H0.out); clear hS; go_simp; with_reducible rfl)
 try simp only [clL]
 refine a0t (v := ?_) rfl rfl (fun wx => ?_) ?_
 rotate_left 1
 ·(go_simp; with_reducible rfl)
 try simp only [clL]
 refine a0t (v := ?_) rfl rfl (fun wx => ?_) ?_
 rotate_left 1
 ·(go_simp; with_reducible rfl)
 try simp only [clL]
 refine a0t (v := ?_) rfl rfl (fun wx => ?_) ?_
 rotate_left 1
 ·(go_simp; with_reducible rfl)
 try simp only [clL]
 refine a0t (v := ?_) rfl rfl (fun wx => ?_) ?_
 rotate_left 1
 ·(go_simp; with_reducible rfl)
 try simp only [clL]
 refine c0J (v := ?_) rfl rfl (fun wx hS => ?_) ?_
 rotate_left 1
 ·(have hc := (b0y (HB.out.still (St.fr hS)) _ H0.out); clear hS; go_simp; with_reducible rfl)
 try simp only [clL]
 refine a0t (v := ?_) rfl rfl (fun wx => ?_) ?_
 rotate_left 1
 ·(go_simp; with_reducible rfl)
 try simp only [clL]
 refine a0t (v := ?_) rfl rfl (fun wx => ?_) ?_
 rotate_left 1
 ·(go_simp; with_reducible rfl)
 try simp only [clL]
 refine a0t (v := ?_) rfl rfl (fun wx => ?_) ?_
 rotate_left 1
 ·(go_simp; with_reducible rfl)
 try simp only [clL]
 refine d0a rfl rfl ?_
 try simp only [clL]
 refine b0s rfl rfl ?_
 try simp only [clL]
 refine b0s rfl rfl ?_
 try simp only [clL]
 refine b0s rfl rfl ?_
 try simp only [clL]
 refine d0a rfl rfl ?_
 try simp only [clL]
 refine b0s rfl rfl ?_
 try simp only [clL]
 refine b0s rfl rfl ?_
 try simp only [clL]
 refine d0a rfl rfl ?_
 try simp only [clL]
 refine m0t rfl rfl ⟨hd4, ?_⟩
 try simp only [clL]
 refine b0s rfl rfl ?_
 try simp only [clL]
 refine a0t (v := ?_) rfl rfl (fun wx => ?_) ?_
 rotate_left 1
 ·(go_simp; with_reducible rfl)
 try simp only [clL]
 refine h0D rfl rfl ?_
 go_simp
 try simp only [clL]
 refine e0k ?_
 have st5 := hd4
 clear hd4
 refine NoPanic.normal ?_
 go_wp2_with (with_reducible refine wSk 48 ?_)
 refine c0c rfl rfl _ g0q ?_
 go_wp2_with (with_reducible refine wSn ?_)
 refine a0d st5 0 rfl rfl rfl rfl rfl (by first | (simp only; done) | (simp only [List.length_append, a0a]; done)) (by first | (rw [a0a]; kernel_rfl) | (simp only [List.length_append, a0a]; kernel_rfl)) (a0Z _ _ _) ?_
 intro w6 st6
 clear st5
 have hr := st6.at 0 rfl
 have hfr := st6.fr
 clear st6
 go_wp2_with fail
 exact bodyPost_ret (b0i rfl rfl hr Tryz.underlying78 rfl (by first | (rw [a0a]; kernel_rfl) | (simp only [List.length_append, a0a]; kernel_rfl)) rfl) rfl ⟨by unfold ptV ptL; rw [d0m]; rfl, hfr⟩
theorem t0W (m : Md) (gc gp bx by_ : Nat) (w : World) (hok : m.Ok) (hcv : Has w gc (e0A m gp bx by_) 86) (hpm : Has w gp (mdL m) 115) (a : Option Addr) (n c : Nat) (l : List UInt8) (hb : RdB w a n l) (hc : n ≤ c) (h33 : l.length = 33) (h0 : (bs l)[0]? = some (.int .u8 2)) (hlt : decide (tlN l < m.M) = false) :
  Calls Tryz.prog 69 #[.pointer (some ⟨gc, 0, none⟩), .slice a n c] w fun e w' => e = .returned (.tuple #[ptV m 0 0 0, .bool false]) ∧ Fr Nob w w' := by
 have HOK := qH hok
 have HCV := qH hcv
 have HPM := qH hpm
 clear hok hcv hpm
 have h33n : n = 33 := by have := hb.len; omega
 subst h33n
 obtain ⟨ba, oa, rfl, -⟩ := Rd.at hb (by decide)
 have HB := qH hb
 have HC := qH hc
 have HT := qH (RdB.tail hb c (by decide) hc)
 have H0 := qH h0
 have HTN := qH (i0x l h33)
 clear hb hc h33 h0
 have HDL := qH hlt
 clear hlt
 have st0 := St.start Nob w
 go_enter Tryz.func69, Tryz.ntmps69
 go_wp2_with (with_reducible refine wSk 4 ?_)
 refine a0b st0 rfl rfl (z := .agg (List.replicate 12 (.int .u64 0)).toArray) (by kernel_rfl) (cw 4 0 ++ (cw 4 0 ++ cw 4 0)) (by rw [a0f]; rfl) ?_
 intro g4 w1 st1
 clear st0
 have hne : (((33 : Nat) : Int) != 33) = false := by rfl
 go_wp2_with (with_reducible refine wSk 14 ?_)
 refine g0x rfl rfl Tryz.underlying24 e0r rfl 1 33 ⟨_, rfl⟩ rfl (by decide) HC.out ?_
 rw [show (33 : Nat) - 1 = 32 from rfl]
 go_wp2_with fail
 refine (f0H _ _ l _ (HT.out.still st1.fr)).mono ?_
 rintro e' w2 ⟨rfl, hf2⟩
 have st2 := st1.keep hf2
 clear st1 hf2
 go_wp2_with (with_reducible refine wSk 6 ?_)
 refine a0b st2 rfl rfl (z := zAd) (by kernel_rfl) (cw 4 0) (by rw [a0f]; rfl) ?_
 intro g6 w3 st3
 clear st2
 go_wp2_with (with_reducible refine wSn ?_)
 refine a0d st3 1 rfl rfl rfl rfl rfl (by first | (simp only [a0a]; done) | (simp only [List.length_append, a0a]; done)) (by first | (rw [a0a]; kernel_rfl) | (simp only [List.length_append, a0a]; kernel_rfl)) (a0i _ _) ?_
 intro w4 st4
 clear st3
 have hcell := b0y (HB.out.still st4.fr) _ H0.out
 go_wp2_with fail
 clear hcell
 go_wp2_with fail
 refine wp_region_noPanic ?_
 refine b0M (fun wx => St Nob w wx [(g4, cw 4 0 ++ (cw 4 0 ++ cw 4 0), 78), (g6, cw 4 (tlN l), 72)]) 22 (.w 0 (.w 1 (.t 2 (.w 3 (.w 4 (.w 5 (.w 6 (.t 7 (.w 8 (.w 9 (.w 10 (.t 11 (.w 12 (.w 13 (.w 14 (.t 15 (.w 16 (.w 17 (.t 18 (.r 19 (.w 20 (.w 21 (.m 22 .nil))))))))))))))))))))))) (by kernel_rfl) (by kernel_rfl) st4.drew (fun _ _ _ _ _ h => h) ?_
 have hd4 := st4.drew
 clear st4
 refine a0t (v := ?_) rfl rfl (fun wx => ?_) ?_
 rotate_left 1
 ·(go_simp; with_reducible rfl)
 try simp only [clL]
 refine a0t (v := ?_) rfl rfl (fun wx => ?_) ?_
 rotate_left 1
 ·(go_simp; with_reducible rfl)
 try simp only [clL]
 refine c0J (v := ?_) rfl rfl (fun wx hS => ?_) ?_
 rotate_left 1
 ·(have hc := (b0y (HB.out.still (St.fr hS)) _ H0.out); clear hS; go_simp; with_reducible rfl)
 try simp only [clL]
 refine a0t (v := ?_) rfl rfl (fun wx => ?_) ?_
 rotate_left 1
 ·(go_simp; with_reducible rfl)
 try simp only [clL]
 refine a0t (v := ?_) rfl rfl (fun wx => ?_) ?_
 rotate_left 1
 ·(go_simp; with_reducible rfl)
 try simp only [clL]
 refine b0s rfl rfl ?_
 try simp only [clL]
 refine b0s rfl rfl ?_
 try simp only [clL]
 refine d0a rfl rfl ?_
 try simp only [clL]
 refine b0s rfl rfl ?_
 try simp only [clL]
 refine a0t (v := ?_) rfl rfl (fun wx => ?_) ?_
 rotate_left 1
 ·(go_simp; with_reducible rfl)
 try simp only [clL]
 refine a0t (v := ?_) rfl rfl (fun wx => ?_) ?_
 rotate_left 1
 ·(go_simp; with_reducible rfl)
 try simp only [clL]
 refine c0D rfl rfl rfl rfl (cw 4 (tlN l)) (fun wx hS => St.rangeL hS 1 rfl 0 _ dZl) Tryz.underlying72 rfl (by first | (rw [a0a]; kernel_rfl) | (simp only [List.length_append, a0a]; kernel_rfl)) ?_
 try simp only [clL]
 refine a0t (v := ?_) rfl rfl (fun wx => ?_) ?_
 rotate_left 1
 ·(go_simp; with_reducible rfl)
 try simp only [clL]
 refine a0t (v := ?_) rfl rfl (fun wx => ?_) ?_
 rotate_left 1
 ·(go_simp; with_reducible rfl)
 try simp only [clL]
 refine a0t (v := ?_) rfl rfl (fun wx => ?_) ?_
 rotate_left 1
 ·(go_simp; with_reducible rfl)
 try simp only [clL]
 refine c0J (v := ?_) rfl rfl (fun wx hS => ?_) ?_
 rotate_left 1
 ·(have hc := (HCV.out.keep (St.fr hS) id).cell (i := 0) rfl; clear hS; go_simp; with_reducible rfl)
 try simp only [clL]
 refine a0t (v := ?_) rfl rfl (fun wx => ?_) ?_
 rotate_left 1
 ·(go_simp; with_reducible rfl)
 try simp only [clL]
 refine a0t (v := ?_) rfl rfl (fun wx => ?_) ?_
 rotate_left 1
 ·(go_simp; with_reducible rfl)
 try simp only [clL]
 refine c0D rfl rfl rfl rfl (cw 4 m.M) (fun wx hS => (HPM.out.keep (St.fr hS) id).range 0 _ (m0W m)) Tryz.underlying72 rfl (by first | (rw [a0a]; kernel_rfl) | (simp only [List.length_append, a0a]; kernel_rfl)) ?_
 try simp only [clL]
 refine j0z rfl rfl ?_
 go_simp
 refine (h0E (tlN l) m.M _ HTN.out HOK.out.lt false HDL.out).mono ?_
 rintro e' w5 ⟨rfl, hf5⟩
 have st5 := hd4.keep hf5
 clear hf5
 clear hd4
 refine ⟨st5, ?_⟩
 try simp only [clL]
 refine a0t (v := ?_) rfl rfl (fun wx => ?_) ?_
 rotate_left 1
 ·(go_simp; with_reducible rfl)
 try simp only [clL]
 refine a0t (v := ?_) rfl rfl (fun wx => ?_) ?_
 rotate_left 1
 ·(go_simp; with_reducible rfl)
 try simp only [clL]
 refine h0D rfl rfl ?_
 go_simp
 try simp only [clL]
 refine e0k ?_
 refine NoPanic.normal ?_
 go_wp2_with (with_reducible refine wSk 48 ?_)
 refine c0c rfl rfl _ g0q ?_
 go_wp2_with (with_reducible refine wSn ?_)
 refine a0d st5 0 rfl rfl rfl rfl rfl (by first | (simp only; done) | (simp only [List.length_append, a0a]; done)) (by first | (rw [a0a]; kernel_rfl) | (simp only [List.length_append, a0a]; kernel_rfl)) (a0Z _ _ _) ?_
 intro w6 st6
 clear st5
 have hr := st6.at 0 rfl
 have hfr := st6.fr
 clear st6
 go_wp2_with fail
 exact bodyPost_ret (b0i rfl rfl hr Tryz.underlying78 rfl (by first | (rw [a0a]; kernel_rfl) | (simp only [List.length_append, a0a]; kernel_rfl)) rfl) rfl ⟨by unfold ptV ptL; rw [d0m]; rfl, hfr⟩
theorem n0J (m : Md) (gc gp bx by_ : Nat) (w : World) (hok : m.Ok) (hcv : Has w gc (e0A m gp bx by_) 86) (hpm : Has w gp (mdL m) 115) (a : Option Addr) (n c : Nat) (l : List UInt8) (hb : RdB w a n l) (hc : n ≤ c) (h33 : l.length = 33) (h0 : (bs l)[0]? = some (.int .u8 2)) (hlt : decide (tlN l < m.M) = true) (r : Bool) (hr : c0E m.M (f0s (tlN l)) = r) :
  Calls Tryz.prog 69 #[.pointer (some ⟨gc, 0, none⟩), .slice a n c] w fun e w' => e = .returned (.tuple #[ptV m (tlN l) (atY m.M (tlN l)) 1, .bool r]) ∧ Fr Nob w w' := by
 have HOK := qH hok
 have HCV := qH hcv
 have HPM := qH hpm
 clear hok hcv hpm
 have h33n : n = 33 := by have := hb.len; omega
 subst h33n
 obtain ⟨ba, oa, rfl, -⟩ := Rd.at hb (by decide)
 have HB := qH hb
 have HC := qH hc
 have HT := qH (RdB.tail hb c (by decide) hc)
 have H0 := qH h0
 have HTN := qH (i0x l h33)
 clear hb hc h33 h0
 have HDL := qH hlt
 clear hlt
 have HR := qH hr
 clear hr
 have st0 := St.start Nob w
 go_enter Tryz.func69, Tryz.ntmps69
 go_wp2_with (with_reducible refine wSk 4 ?_)
 refine a0b st0 rfl rfl (z := .agg (List.replicate 12 (.int .u64 0)).toArray) (by kernel_rfl) (cw 4 0 ++ (cw 4 0 ++ cw 4 0)) (by rw [a0f]; rfl) ?_
 intro g4 w1 st1
 clear st0
 have hne : (((33 : Nat) : Int) != 33) = false := by rfl
 go_wp2_with (with_reducible refine wSk 14 ?_)
 refine g0x rfl rfl Tryz.underlying24 e0r rfl 1 33 ⟨_, rfl⟩ rfl (by decide) HC.out ?_
 rw [show (33 : Nat) - 1 = 32 from rfl]
 go_wp2_with fail
 refine (f0H _ _ l _ (HT.out.still st1.fr)).mono ?_
 rintro e' w2 ⟨rfl, hf2⟩
 have st2 := st1.keep hf2
 clear st1 hf2
 go_wp2_with (with_reducible refine wSk 6 ?_)
 refine a0b st2 rfl rfl (z := zAd) (by kernel_rfl) (cw 4 0) (by rw [a0f]; rfl) ?_
 intro g6 w3 st3
 clear st2
 go_wp2_with (with_reducible refine wSn ?_)
 refine a0d st3 1 rfl rfl rfl rfl rfl (by first | (simp only [a0a]; done) | (simp only [List.length_append, a0a]; done)) (by first | (rw [a0a]; kernel_rfl) | (simp only [List.length_append, a0a]; kernel_rfl)) (a0i _ _) ?_
 intro w4 st4
 clear st3
 have hcell := b0y (HB.out.still st4.fr) _ H0.out
 go_wp2_with fail
 clear hcell
 go_wp2_with fail
 refine wp_region_noPanic ?_
 refine b0M (fun wx => St Nob w wx [(g4, cw 4 0 ++ (cw 4 0 ++ cw 4 0), 78), (g6, cw 4 (tlN l), 72)]) 22 (.w 0 (.w 1 (.t 2 (.w 3 (.w 4 (.w 5 (.w 6 (.t 7 (.w 8 (.w 9 (.w 10 (.t 11 (.w 12 (.w 13 (.w 14 (.t 15 (.w 16 (.w 17 (.t 18 (.r 19 (.w 20 (.w 21 (.m 22 .nil))))))))))))))))))))))) (by kernel_rfl) (by kernel_rfl) st4.drew (fun _ _ _ _ _ h => h) ?_
 have hd4 := st4.drew
 clear st4
 refine a0t (v := ?_) rfl rfl (fun wx => ?_) ?_
 rotate_left 1
 ·(go_simp; with_reducible rfl)
 try simp only [clL]
 refine a0t (v := ?_) rfl rfl (fun wx => ?_) ?_
 rotate_left 1
 ·(go_simp; with_reducible rfl)
 try simp only [clL]
 refine c0J (v := ?_) rfl rfl (fun wx hS => ?_) ?_
 rotate_left 1
 ·(have hc := (b0y (HB.out.still (St.fr hS)) _ H0.out); clear hS; go_simp; with_reducible rfl)
 try simp only [clL]
 refine a0t (v := ?_) rfl rfl (fun wx => ?_) ?_
 rotate_left 1
 ·(go_simp; with_reducible rfl)
 try simp only [clL]
 refine a0t (v := ?_) rfl rfl (fun wx => ?_) ?_
 rotate_left 1
 ·(go_simp; with_reducible rfl)
 try simp only [clL]
 refine b0s rfl rfl ?_
 try simp only [clL]
 refine b0s rfl rfl ?_
 try simp only [clL]
 refine d0a rfl rfl ?_
 try simp only [clL]
 refine b0s rfl rfl ?_
 try simp only [clL]
 refine a0t (v := ?_) rfl rfl (fun wx => ?_) ?_
 rotate_left 1
 ·(go_simp; with_reducible rfl)
 try simp only [clL]
 refine a0t (v := ?_) rfl rfl (fun wx => ?_) ?_
 rotate_left 1
 ·(go_simp; with_reducible rfl)
 try simp only [clL]
 refine c0D rfl rfl rfl rfl (cw 4 (tlN l)) (fun wx hS => St.rangeL hS 1 rfl 0 _ dZl) Tryz.underlying72 rfl (by first | (rw [a0a]; kernel_rfl) | (simp only [List.length_append, a0a]; kernel_rfl)) ?_
 try simp only [clL]
 refine a0t (v := ?_) rfl rfl (fun wx => ?_) ?_
 rotate_left 1
 ·(go_simp; with_reducible rfl)
 try simp only [clL]
 refine a0t (v := ?_) rfl rfl (fun wx => ?_) ?_
 rotate_left 1
 ·(go_simp; with_reducible rfl)
 try simp only [clL]
 refine a0t (v := ?_) rfl rfl (fun wx => ?_) ?_
 rotate_left 1
 ·(go_simp; with_reducible rfl)
 try simp only [clL]
 refine c0J (v := ?_) rfl rfl (fun wx hS => ?_) ?_
 rotate_left 1
 ·(have hc := (HCV.out.keep (St.fr hS) id).cell (i := 0) rfl; clear hS; go_simp; with_reducible rfl)
 try simp only [clL]
 refine a0t (v := ?_) rfl rfl (fun wx => ?_) ?_
 rotate_left 1
 ·(go_simp; with_reducible rfl)
 try simp only [clL]
 refine a0t (v := ?_) rfl rfl (fun wx => ?_) ?_
 rotate_left 1
 ·(go_simp; with_reducible rfl)
 try simp only [clL]
 refine c0D rfl rfl rfl rfl (cw 4 m.M) (fun wx hS => (HPM.out.keep (St.fr hS) id).range 0 _ (m0W m)) Tryz.underlying72 rfl (by first | (rw [a0a]; kernel_rfl) | (simp only [List.length_append, a0a]; kernel_rfl)) ?_
 try simp only [clL]
 refine j0z rfl rfl ?_
 go_simp
 refine (h0E (tlN l) m.M _ HTN.out HOK.out.lt true HDL.out).mono ?_
 rintro e' w5 ⟨rfl, hf5⟩
 have st5 := hd4.keep hf5
 clear hf5
 clear hd4
 refine ⟨st5, ?_⟩
 try simp only [clL]
 refine a0t (v := ?_) rfl rfl (fun wx => ?_) ?_
 rotate_left 1
 ·(go_simp; with_reducible rfl)
 try simp only [clL]
 refine a0t (v := ?_) rfl rfl (fun wx => ?_) ?_
 rotate_left 1
 ·(go_simp; with_reducible rfl)
 try simp only [clL]
 refine h0D rfl rfl ?_
 go_simp
 try simp only [clL]
 refine e0k ?_
 refine NoPanic.normal ?_
 go_wp2_with fail
 refine wp_region_noPanic ?_
 refine a0p (fun wx => St Nob w wx [(g4, cw 4 0 ++ (cw 4 0 ++ cw 4 0), 78), (g6, cw 4 (tlN l), 72)]) 13 (.w 0 (.w 1 (.w 2 (.w 3 (.t 4 (.t 5 (.b 6 11 (.b 7 11 (.w 8 (.w 9 (.w 10 (.r 11 (.r 12 (.m 13 .nil)))))) (.r 7 (.w 8 (.w 9 (.w 10 (.r 12 (.m 13 .nil))))))) (.r 6 (.r 7 (.w 8 (.w 9 (.w 10 (.r 12 (.m 13 .nil)))))))))))))) (by kernel_rfl) (by kernel_rfl) st5.drew (fun _ _ _ _ _ h => h) ?_
 have hd5 := st5.drew
 clear st5
 refine a0l (v := ?_) rfl rfl (fun wx => ?_) ?_
 rotate_left 1
 ·(go_simp; with_reducible rfl)
 try simp only [clL]
 refine a0l (v := ?_) rfl rfl (fun wx => ?_) ?_
 rotate_left 1
 ·(go_simp; with_reducible rfl)
 try simp only [clL]
 refine a0l (v := ?_) rfl rfl (fun wx => ?_) ?_
 rotate_left 1
 ·(go_simp; with_reducible rfl)
 try simp only [clL]
 refine a0l (v := ?_) rfl rfl (fun wx => ?_) ?_
 rotate_left 1
 ·(go_simp; with_reducible rfl)
 try simp only [clL]
 refine d0i (v := ?_) rfl rfl (fun wx hS => ?_) ?_
 rotate_left 1
 ·(have hc := (HCV.out.keep (St.fr hS) id).cell (i := 0) rfl; clear hS; go_simp; with_reducible rfl)
 try simp only [clL]
 refine a0s rfl rfl rfl rfl (cw 4 (tlN l)) (fun wx hS => St.rangeL hS 1 rfl 0 _ dZl) Tryz.underlying72 rfl (by first | (rw [a0a]; kernel_rfl) | (simp only [List.length_append, a0a]; kernel_rfl)) ?_
 try simp only [clL]
 refine d0v (C := fun g7 wz => St Nob w wz [(g4, cw 4 0 ++ (cw 4 0 ++ cw 4 0), 78), (g6, cw 4 (tlN l), 72), (g7, cw 4 (elN m (tlN l)) ++ (cw 4 (elN m (atY m.M (tlN l))) ++ cw 4 (elN m 1)), 78)]) (F := ?_) (fun key => ?_) ?_
 rotate_left 1
 ·skip
  refine c0V rfl rfl rfl rfl ?_ ?_
  ·skip
   go_simp
   refine (d0N m gp _ HOK.out (HPM.out.keep hd5.fr id) (tlN l) HTN.out).mono ?_
   rintro e' w6 ⟨rfl, hf6⟩
   have st6 := hd5.keep hf6
   clear hf6
   refine ⟨st6, ?_⟩
   try simp only [clL]
   refine c0V rfl rfl rfl rfl ?_ ?_
   ·skip
    go_simp
    refine (x0n m gc gp bx by_ _ HOK.out (HCV.out.keep st6.fr id) (HPM.out.keep st6.fr id) (tlN l) r HR.out).mono ?_
    rintro e' w7 ⟨rfl, hf7⟩
    have st7 := st6.keep hf7
    clear hf7
    refine ⟨st7, ?_⟩
    try simp only [clL]
    refine a0l (v := ?_) rfl rfl (fun wx => ?_) ?_
    rotate_left 1
    ·(go_simp; with_reducible rfl)
    try simp only [clL]
    refine a0l (v := ?_) rfl rfl (fun wx => ?_) ?_
    rotate_left 1
    ·(go_simp; with_reducible rfl)
    try simp only [clL]
    refine a0l (v := ?_) rfl rfl (fun wx => ?_) ?_
    rotate_left 1
    ·(go_simp; with_reducible rfl)
    try simp only [clL]
    refine a0A rfl rfl ?_
    refine a0Y st7 rfl (z := zAc) (by kernel_rfl) (cw 12 0) (by rw [a0f]; rfl) ?_
    intro g7 w8 st8
    refine ⟨St.less st8 (by simp), ?_⟩
    try simp only [clL]
    refine a0A rfl rfl ?_
    refine a0j st8 2 rfl rfl rfl rfl (by first | (simp only [a0a]; done) | (simp only [List.length_append, a0a]; done)) (by first | (rw [a0a]; kernel_rfl) | (simp only [List.length_append, a0a]; kernel_rfl)) (a0Z _ _ _) ?_
    intro w9 st9
    refine ⟨St.less st9 (by simp), ?_⟩
    try simp only [Act.put]
    refine a0r rfl rfl ?_
    go_simp
    try simp only [clL]
    refine a0k ?_
    exact key g7 _ st9
   ·skip
    refine a0Y st6 rfl (z := zAc) (by kernel_rfl) (cw 12 0) (by rw [a0f]; rfl) ?_
    intro g7 w10 st10
    refine ⟨St.less st10 (by simp), ?_⟩
    try simp only [clL]
    refine a0A rfl rfl ?_
    go_simp
    refine (x0n m gc gp bx by_ _ HOK.out (HCV.out.keep st10.fr id) (HPM.out.keep st10.fr id) (tlN l) r HR.out).mono ?_
    rintro e' w11 ⟨rfl, hf11⟩
    have st11 := st10.keep hf11
    clear hf11
    refine ⟨St.less st11 (by simp), ?_⟩
    try simp only [clL]
    refine a0l (v := ?_) rfl rfl (fun wx => ?_) ?_
    rotate_left 1
    ·(go_simp; with_reducible rfl)
    try simp only [clL]
    refine a0l (v := ?_) rfl rfl (fun wx => ?_) ?_
    rotate_left 1
    ·(go_simp; with_reducible rfl)
    try simp only [clL]
    refine a0l (v := ?_) rfl rfl (fun wx => ?_) ?_
    rotate_left 1
    ·(go_simp; with_reducible rfl)
    try simp only [clL]
    refine a0A rfl rfl ?_
    refine a0j st11 2 rfl rfl rfl rfl (by first | (simp only [a0a]; done) | (simp only [List.length_append, a0a]; done)) (by first | (rw [a0a]; kernel_rfl) | (simp only [List.length_append, a0a]; kernel_rfl)) (a0Z _ _ _) ?_
    intro w12 st12
    refine ⟨St.less st12 (by simp), ?_⟩
    try simp only [Act.put]
    refine a0r rfl rfl ?_
    go_simp
    try simp only [clL]
    refine a0k ?_
    exact key g7 _ st12
  ·skip
   refine a0Y hd5 rfl (z := zAc) (by kernel_rfl) (cw 12 0) (by rw [a0f]; rfl) ?_
   intro g7 w13 st13
   refine ⟨St.less st13 (by simp), ?_⟩
   try simp only [clL]
   refine a0A rfl rfl ?_
   go_simp
   refine (d0N m gp _ HOK.out (HPM.out.keep st13.fr id) (tlN l) HTN.out).mono ?_
   rintro e' w14 ⟨rfl, hf14⟩
   have st14 := st13.keep hf14
   clear hf14
   refine ⟨St.less st14 (by simp), ?_⟩
   try simp only [clL]
   refine a0A rfl rfl ?_
   go_simp
   refine (x0n m gc gp bx by_ _ HOK.out (HCV.out.keep st14.fr id) (HPM.out.keep st14.fr id) (tlN l) r HR.out).mono ?_
   rintro e' w15 ⟨rfl, hf15⟩
   have st15 := st14.keep hf15
   clear hf15
   refine ⟨St.less st15 (by simp), ?_⟩
   try simp only [clL]
   refine a0l (v := ?_) rfl rfl (fun wx => ?_) ?_
   rotate_left 1
   ·(go_simp; with_reducible rfl)
   try simp only [clL]
   refine a0l (v := ?_) rfl rfl (fun wx => ?_) ?_
   rotate_left 1
   ·(go_simp; with_reducible rfl)
   try simp only [clL]
   refine a0l (v := ?_) rfl rfl (fun wx => ?_) ?_
   rotate_left 1
   ·(go_simp; with_reducible rfl)
   try simp only [clL]
   refine a0A rfl rfl ?_
   refine a0j st15 2 rfl rfl rfl rfl (by first | (simp only [a0a]; done) | (simp only [List.length_append, a0a]; done)) (by first | (rw [a0a]; kernel_rfl) | (simp only [List.length_append, a0a]; kernel_rfl)) (a0Z _ _ _) ?_
   intro w16 st16
   refine ⟨St.less st16 (by simp), ?_⟩
   try simp only [Act.put]
   refine a0r rfl rfl ?_
   go_simp
   try simp only [clL]
   refine a0k ?_
   exact key g7 _ st16
 intro g7 w17 st17
 have st17 : St Nob w w17 [(g4, cw 4 0 ++ (cw 4 0 ++ cw 4 0), 78), (g6, cw 4 (tlN l), 72), (g7, cw 4 (elN m (tlN l)) ++ (cw 4 (elN m (atY m.M (tlN l))) ++ cw 4 (elN m 1)), 78)] := st17
 clear hd5
 refine NoPanic.normal ?_
 have hcell := b0y (HB.out.still st17.fr) _ H0.out
 go_wp2_with (with_reducible refine wSk 67 ?_)
 refine a0o st17 2 rfl rfl rfl Tryz.underlying78 rfl rfl (by first | (rw [a0a]; kernel_rfl) | (simp only [List.length_append, a0a]; kernel_rfl)) ?_
 go_wp2_with (with_reducible refine wSn ?_)
 refine a0d st17 0 rfl rfl rfl rfl rfl (by first | (simp only [a0a]; done) | (simp only [List.length_append, a0a]; done)) (by first | (rw [a0a]; kernel_rfl) | (simp only [List.length_append, a0a]; kernel_rfl)) (a0Z _ _ _) ?_
 intro w18 st18
 clear st17
 have hr := st18.at 0 rfl
 have hfr := st18.fr
 clear st18
 go_wp2_with fail
 exact bodyPost_ret (b0i rfl rfl hr Tryz.underlying78 rfl (by first | (rw [a0a]; kernel_rfl) | (simp only [List.length_append, a0a]; kernel_rfl)) rfl) rfl ⟨by unfold ptV ptL; rfl, hfr⟩
theorem t0X (m : Md) (gc gp bx by_ : Nat) (w : World) (hok : m.Ok) (hcv : Has w gc (e0A m gp bx by_) 86) (hpm : Has w gp (mdL m) 115) (a : Option Addr) (n c : Nat) (l : List UInt8) (hb : RdB w a n l) (hc : n ≤ c) (h33 : l.length = 33) (h0 : (bs l)[0]? = some (.int .u8 3)) (hlt : decide (tlN l < m.M) = false) :
  Calls Tryz.prog 69 #[.pointer (some ⟨gc, 0, none⟩), .slice a n c] w fun e w' => e = .returned (.tuple #[ptV m 0 0 0, .bool false]) ∧ Fr Nob w w' := by
 have HOK := qH hok
 have HCV := qH hcv
 have HPM := qH hpm
 clear hok hcv hpm
 have h33n : n = 33 := by have := hb.len; omega
 subst h33n
 obtain ⟨ba, oa, rfl, -⟩ := Rd.at hb (by decide)
 have HB := qH hb
 have HC := qH hc
 have HT := qH (RdB.tail hb c (by decide) hc)
 have H0 := qH h0
 have HTN := qH (i0x l h33)
 clear hb hc h33 h0
 have HDL := qH hlt
 clear hlt
 have st0 := St.start Nob w
 go_enter Tryz.func69, Tryz.ntmps69
 go_wp2_with (with_reducible refine wSk 4 ?_)
 refine a0b st0 rfl rfl (z := .agg (List.replicate 12 (.int .u64 0)).toArray) (by kernel_rfl) (cw 4 0 ++ (cw 4 0 ++ cw 4 0)) (by rw [a0f]; rfl) ?_
 intro g4 w1 st1
 clear st0
 have hne : (((33 : Nat) : Int) != 33) = false := by rfl
 go_wp2_with (with_reducible refine wSk 14 ?_)
 refine g0x rfl rfl Tryz.underlying24 e0r rfl 1 33 ⟨_, rfl⟩ rfl (by decide) HC.out ?_
 rw [show (33 : Nat) - 1 = 32 from rfl]
 go_wp2_with fail
 refine (f0H _ _ l _ (HT.out.still st1.fr)).mono ?_
 rintro e' w2 ⟨rfl, hf2⟩
 have st2 := st1.keep hf2
 clear st1 hf2
 go_wp2_with (with_reducible refine wSk 6 ?_)
 refine a0b st2 rfl rfl (z := zAd) (by kernel_rfl) (cw 4 0) (by rw [a0f]; rfl) ?_
 intro g6 w3 st3
 clear st2
 go_wp2_with (with_reducible refine wSn ?_)
 refine a0d st3 1 rfl rfl rfl rfl rfl (by first | (simp only [a0a]; done) | (simp only [List.length_append, a0a]; done)) (by first | (rw [a0a]; kernel_rfl) | (simp only [List.length_append, a0a]; kernel_rfl)) (a0i _ _) ?_
 intro w4 st4
 clear st3
 have hcell := b0y (HB.out.still st4.fr) _ H0.out
 go_wp2_with fail
 clear hcell
 go_wp2_with fail
 refine wp_region_noPanic ?_
 refine b0M (fun wx => St Nob w wx [(g4, cw 4 0 ++ (cw 4 0 ++ cw 4 0), 78), (g6, cw 4 (tlN l), 72)]) 22 (.w 0 (.w 1 (.t 2 (.w 3 (.w 4 (.w 5 (.w 6 (.t 7 (.w 8 (.w 9 (.w 10 (.t 11 (.w 12 (.w 13 (.w 14 (.t 15 (.w 16 (.w 17 (.t 18 (.r 19 (.w 20 (.w 21 (.m 22 .nil))))))))))))))))))))))) (by kernel_rfl) (by kernel_rfl) st4.drew (fun _ _ _ _ _ h => h) ?_
 have hd4 := st4.drew
 clear st4
 refine a0t (v := ?_) rfl rfl (fun wx => ?_) ?_
 rotate_left 1
 ·(go_simp; with_reducible rfl)
 try simp only [clL]
 refine a0t (v := ?_) rfl rfl (fun wx => ?_) ?_
 rotate_left 1
 ·(go_simp; with_reducible rfl)
 try simp only [clL]
 refine c0J (v := ?_) rfl rfl (fun wx hS => ?_) ?_
 rotate_left 1
 ·(have hc := (b0y (HB.out.still (St.fr hS)) _ H0.out); clear hS; go_simp; with_reducible rfl)
 try simp only [clL]
 refine a0t (v := ?_) rfl rfl (fun wx => ?_) ?_
 rotate_left 1
 ·(go_simp; with_reducible rfl)
 try simp only [clL]
 refine a0t (v := ?_) rfl rfl (fun wx => ?_) ?_
 rotate_left 1
 ·(go_simp; with_reducible rfl)
 try simp only [clL]
 refine a0t (v := ?_) rfl rfl (fun wx => ?_) ?_
 rotate_left 1
 ·(go_simp; with_reducible rfl)
 try simp only [clL]
 refine a0t (v := ?_) rfl rfl (fun wx => ?_) ?_
 rotate_left 1
 ·(go_simp; with_reducible rfl)
 try simp only [clL]
 refine c0J (v := ?_) rfl rfl (fun wx hS => ?_) ?_
 rotate_left 1
 ·(have hc := (b0y (HB.out.still (St.fr hS)) _ H0.out); clear hS; go_simp; with_reducible rfl)
 try simp only [clL]
 refine a0t (v := ?_) rfl rfl (fun wx => ?_) ?_
 rotate_left 1
 ·(go_simp; with_reducible rfl)
 try simp only [clL]
 refine a0t (v := ?_) rfl rfl (fun wx => ?_) ?_
 rotate_left 1
 ·(go_simp; with_reducible rfl)
 try simp only [clL]
 refine a0t (v := ?_) rfl rfl (fun wx => ?_) ?_
 rotate_left 1
 ·(go_simp; with_reducible rfl)
 try simp only [clL]
 refine c0D rfl rfl rfl rfl (cw 4 (tlN l)) (fun wx hS => St.rangeL hS 1 rfl 0 _ dZl) Tryz.underlying72 rfl (by first | (rw [a0a]; kernel_rfl) | (simp only [List.length_append, a0a]; kernel_rfl)) ?_
 try simp only [clL]
 refine a0t (v := ?_) rfl rfl (fun wx => ?_) ?_
 rotate_left 1
 ·(go_simp; with_reducible rfl)
 try simp only [clL]
 refine a0t (v := ?_) rfl rfl (fun wx => ?_) ?_
 rotate_left 1
 ·(go_simp; with_reducible rfl)
 try simp only [clL]
 refine a0t (v := ?_) rfl rfl (fun wx => ?_) ?_
 rotate_left 1
 ·(go_simp; with_reducible rfl)
 try simp only [clL]
 refine c0J (v := ?_) rfl rfl (fun wx hS => ?_) ?_
 rotate_left 1
 ·(have hc := (HCV.out.keep (St.fr hS) id).cell (i := 0) rfl; clear hS; go_simp; with_reducible rfl)
 try simp only [clL]
 refine a0t (v := ?_) rfl rfl (fun wx => ?_) ?_
 rotate_left 1
 ·(go_simp; with_reducible rfl)
 try simp only [clL]
 refine a0t (v := ?_) rfl rfl (fun wx => ?_) ?_
 rotate_left 1
 ·(go_simp; with_reducible rfl)
 try simp only [clL]
 refine c0D rfl rfl rfl rfl (cw 4 m.M) (fun wx hS => (HPM.out.keep (St.fr hS) id).range 0 _ (m0W m)) Tryz.underlying72 rfl (by first | (rw [a0a]; kernel_rfl) | (simp only [List.length_append, a0a]; kernel_rfl)) ?_
 try simp only [clL]
 refine j0z rfl rfl ?_
 go_simp
 refine (h0E (tlN l) m.M _ HTN.out HOK.out.lt false HDL.out).mono ?_
 rintro e' w5 ⟨rfl, hf5⟩
 have st5 := hd4.keep hf5
 clear hf5
 clear hd4
 refine ⟨st5, ?_⟩
 try simp only [clL]
 refine a0t (v := ?_) rfl rfl (fun wx => ?_) ?_
 rotate_left 1
 ·(go_simp; with_reducible rfl)
 try simp only [clL]
 refine a0t (v := ?_) rfl rfl (fun wx => ?_) ?_
 rotate_left 1
 ·(go_simp; with_reducible rfl)
 try simp only [clL]
 refine h0D rfl rfl ?_
 go_simp
 try simp only [clL]
 refine e0k ?_
 refine NoPanic.normal ?_
 go_wp2_with (with_reducible refine wSk 48 ?_)
 refine c0c rfl rfl _ g0q ?_
 go_wp2_with (with_reducible refine wSn ?_)
 refine a0d st5 0 rfl rfl rfl rfl rfl (by first | (simp only; done) | (simp only [List.length_append, a0a]; done)) (by first | (rw [a0a]; kernel_rfl) | (simp only [List.length_append, a0a]; kernel_rfl)) (a0Z _ _ _) ?_
 intro w6 st6
 clear st5
 have hr := st6.at 0 rfl
 have hfr := st6.fr
 clear st6
 go_wp2_with fail
 exact bodyPost_ret (b0i rfl rfl hr Tryz.underlying78 rfl (by first | (rw [a0a]; kernel_rfl) | (simp only [List.length_append, a0a]; kernel_rfl)) rfl) rfl ⟨by unfold ptV ptL; rw [d0m]; rfl, hfr⟩
theorem n0K (m : Md) (gc gp bx by_ : Nat) (w : World) (hok : m.Ok) (hcv : Has w gc (e0A m gp bx by_) 86) (hpm : Has w gp (mdL m) 115) (a : Option Addr) (n c : Nat) (l : List UInt8) (hb : RdB w a n l) (hc : n ≤ c) (h33 : l.length = 33) (h0 : (bs l)[0]? = some (.int .u8 3)) (hlt : decide (tlN l < m.M) = true) (r : Bool) (hr : c0E m.M (f0s (tlN l)) = r) :
  Calls Tryz.prog 69 #[.pointer (some ⟨gc, 0, none⟩), .slice a n c] w fun e w' => e = .returned (.tuple #[ptV m (tlN l) (m.M - (atY m.M (tlN l)) % m.M) 1, .bool r]) ∧ Fr Nob w w' := by
 have HOK := qH hok
 have HCV := qH hcv
 have HPM := qH hpm
 clear hok hcv hpm
 have h33n : n = 33 := by have := hb.len; omega
 subst h33n
 obtain ⟨ba, oa, rfl, -⟩ := Rd.at hb (by decide)
 have HB := qH hb
 have HC := qH hc
 have HT := qH (RdB.tail hb c (by decide) hc)
 have H0 := qH h0
 have HTN := qH (i0x l h33)
 clear hb hc h33 h0
 have HDL := qH hlt
 clear hlt
 have HR := qH hr
 clear hr
 have st0 := St.start Nob w
 go_enter Tryz.func69, Tryz.ntmps69
 go_wp2_with (with_reducible refine wSk 4 ?_)
 refine a0b st0 rfl rfl (z := .agg (List.replicate 12 (.int .u64 0)).toArray) (by kernel_rfl) (cw 4 0 ++ (cw 4 0 ++ cw 4 0)) (by rw [a0f]; rfl) ?_
 intro g4 w1 st1
 clear st0
 have hne : (((33 : Nat) : Int) != 33) = false := by rfl
 go_wp2_with (with_reducible refine wSk 14 ?_)
 refine g0x rfl rfl Tryz.underlying24 e0r rfl 1 33 ⟨_, rfl⟩ rfl (by decide) HC.out ?_
 rw [show (33 : Nat) - 1 = 32 from rfl]
 go_wp2_with fail
 refine (f0H _ _ l _ (HT.out.still st1.fr)).mono ?_
 rintro e' w2 ⟨rfl, hf2⟩
 have st2 := st1.keep hf2
 clear st1 hf2
 go_wp2_with (with_reducible refine wSk 6 ?_)
 refine a0b st2 rfl rfl (z := zAd) (by kernel_rfl) (cw 4 0) (by rw [a0f]; rfl) ?_
 intro g6 w3 st3
 clear st2
 go_wp2_with (with_reducible refine wSn ?_)
 refine a0d st3 1 rfl rfl rfl rfl rfl (by first | (simp only [a0a]; done) | (simp only [List.length_append, a0a]; done)) (by first | (rw [a0a]; kernel_rfl) | (simp only [List.length_append, a0a]; kernel_rfl)) (a0i _ _) ?_
 intro w4 st4
 clear st3
 have hcell := b0y (HB.out.still st4.fr) _ H0.out
 go_wp2_with fail
 clear hcell
 go_wp2_with fail
 refine wp_region_noPanic ?_
 refine b0M (fun wx => St Nob w wx [(g4, cw 4 0 ++ (cw 4 0 ++ cw 4 0), 78), (g6, cw 4 (tlN l), 72)]) 22 (.w 0 (.w 1 (.t 2 (.w 3 (.w 4 (.w 5 (.w 6 (.t 7 (.w 8 (.w 9 (.w 10 (.t 11 (.w 12 (.w 13 (.w 14 (.t 15 (.w 16 (.w 17 (.t 18 (.r 19 (.w 20 (.w 21 (.m 22 .nil))))))))))))))))))))))) (by kernel_rfl) (by kernel_rfl) st4.drew (fun _ _ _ _ _ h => h) ?_
 have hd4 := st4.drew
 clear st4
 refine a0t (v := ?_) rfl rfl (fun wx => ?_) ?_
 rotate_left 1
 ·(go_simp; with_reducible rfl)
 try simp only [clL]
 refine a0t (v := ?_) rfl rfl (fun wx => ?_) ?_
 rotate_left 1
 ·(go_simp; with_reducible rfl)
 try simp only [clL]
 refine c0J (v := ?_) rfl rfl (fun wx hS => ?_) ?_
 rotate_left 1
 ·(have hc := (b0y (HB.out.still (St.fr hS)) _ H0.out); clear hS; go_simp; with_reducible rfl)
 try simp only [clL]
 refine a0t (v := ?_) rfl rfl (fun wx => ?_) ?_
 rotate_left 1
 ·(go_simp; with_reducible rfl)
 try simp only [clL]
 refine a0t (v := ?_) rfl rfl (fun wx => ?_) ?_
 rotate_left 1
 ·(go_simp; with_reducible rfl)
 try simp only [clL]
 refine a0t (v := ?_) rfl rfl (fun wx => ?_) ?_
 rotate_left 1
 ·(go_simp; with_reducible rfl)
 try simp only [clL]
 refine a0t (v := ?_) rfl rfl (fun wx => ?_) ?_
 rotate_left 1
 ·(go_simp; with_reducible rfl)
 try simp only [clL]
 refine c0J (v := ?_) rfl rfl (fun wx hS => ?_) ?_
 rotate_left 1
 ·(have hc := (b0y (HB.out.still (St.fr hS)) _ H0.out); clear hS; go_simp; with_reducible rfl)
 try simp only [clL]
 refine a0t (v := ?_) rfl rfl (fun wx => ?_) ?_
 rotate_left 1
 ·(go_simp; with_reducible rfl)
 try simp only [clL]
 refine a0t (v := ?_) rfl rfl (fun wx => ?_) ?_
 rotate_left 1
 ·(go_simp; with_reducible rfl)
 try simp only [clL]
 refine a0t (v := ?_) rfl rfl (fun wx => ?_) ?_
 rotate_left 1
 ·(go_simp; with_reducible rfl)
 try simp only [clL]
 refine c0D rfl rfl rfl rfl (cw 4 (tlN l)) (fun wx hS => St.rangeL hS 1 rfl 0 _ dZl) Tryz.underlying72 rfl (by first | (rw [a0a]; kernel_rfl) | (simp only [List.length_append, a0a]; kernel_rfl)) ?_
 try simp only [clL]
 refine a0t (v := ?_) rfl rfl (fun wx => ?_) ?_
 rotate_left 1
 ·(go_simp; with_reducible rfl)
 try simp only [clL]
 refine a0t (v := ?_) rfl rfl (fun wx => ?_) ?_
 rotate_left 1
 ·(go_simp; with_reducible rfl)
 try simp only [clL]
 refine a0t (v := ?_) rfl rfl (fun wx => ?_) ?_
 rotate_left 1
 ·(go_simp; with_reducible rfl)
 try simp only [clL]
 refine c0J (v := ?_) rfl rfl (fun wx hS => ?_) ?_
 rotate_left 1
 ·(have hc := (HCV.out.keep (St.fr hS) id).cell (i := 0) rfl; clear hS; go_simp; with_reducible rfl)
 try simp only [clL]
 refine a0t (v := ?_) rfl rfl (fun wx => ?_) ?_
 rotate_left 1
 ·(go_simp; with_reducible rfl)
 try simp only [clL]
 refine a0t (v := ?_) rfl rfl (fun wx => ?_) ?_
 rotate_left 1
 ·(go_simp; with_reducible rfl)
 try simp only [clL]
 refine c0D rfl rfl rfl rfl (cw 4 m.M) (fun wx hS => (HPM.out.keep (St.fr hS) id).range 0 _ (m0W m)) Tryz.underlying72 rfl (by first | (rw [a0a]; kernel_rfl) | (simp only [List.length_append, a0a]; kernel_rfl)) ?_
 try simp only [clL]
 refine j0z rfl rfl ?_
 go_simp
 refine (h0E (tlN l) m.M _ HTN.out HOK.out.lt true HDL.out).mono ?_
 rintro e' w5 ⟨rfl, hf5⟩
 have st5 := hd4.keep hf5
 clear hf5
 clear hd4
 refine ⟨st5, ?_⟩
 try simp only [clL]
 refine a0t (v := ?_) rfl rfl (fun wx => ?_) ?_
 rotate_left 1
 ·(go_simp; with_reducible rfl)
 try simp only [clL]
 refine a0t (v := ?_) rfl rfl (fun wx => ?_) ?_
 rotate_left 1
 ·(go_simp; with_reducible rfl)
 try simp only [clL]
 refine h0D rfl rfl ?_
 go_simp
 try simp only [clL]
 refine e0k ?_
 refine NoPanic.normal ?_
 go_wp2_with fail
 refine wp_region_noPanic ?_
 refine a0p (fun wx => St Nob w wx [(g4, cw 4 0 ++ (cw 4 0 ++ cw 4 0), 78), (g6, cw 4 (tlN l), 72)]) 13 (.w 0 (.w 1 (.w 2 (.w 3 (.t 4 (.t 5 (.b 6 11 (.b 7 11 (.w 8 (.w 9 (.w 10 (.r 11 (.r 12 (.m 13 .nil)))))) (.r 7 (.w 8 (.w 9 (.w 10 (.r 12 (.m 13 .nil))))))) (.r 6 (.r 7 (.w 8 (.w 9 (.w 10 (.r 12 (.m 13 .nil)))))))))))))) (by kernel_rfl) (by kernel_rfl) st5.drew (fun _ _ _ _ _ h => h) ?_
 have hd5 := st5.drew
 clear st5
 refine a0l (v := ?_) rfl rfl (fun wx => ?_) ?_
 rotate_left 1
 ·(go_simp; with_reducible rfl)
 try simp only [clL]
 refine a0l (v := ?_) rfl rfl (fun wx => ?_) ?_
 rotate_left 1
 ·(go_simp; with_reducible rfl)
 try simp only [clL]
 refine a0l (v := ?_) rfl rfl (fun wx => ?_) ?_
 rotate_left 1
 ·(go_simp; with_reducible rfl)
 try simp only [clL]
 refine a0l (v := ?_) rfl rfl (fun wx => ?_) ?_
 rotate_left 1
 ·(go_simp; with_reducible rfl)
 try simp only [clL]
 refine d0i (v := ?_) rfl rfl (fun wx hS => ?_) ?_
 rotate_left 1
 ·(have hc := (HCV.out.keep (St.fr hS) id).cell (i := 0) rfl; clear hS; go_simp; with_reducible rfl)
 try simp only [clL]
 refine a0s rfl rfl rfl rfl (cw 4 (tlN l)) (fun wx hS => St.rangeL hS 1 rfl 0 _ dZl) Tryz.underlying72 rfl (by first | (rw [a0a]; kernel_rfl) | (simp only [List.length_append, a0a]; kernel_rfl)) ?_
 try simp only [clL]
 refine d0v (C := fun g7 wz => St Nob w wz [(g4, cw 4 0 ++ (cw 4 0 ++ cw 4 0), 78), (g6, cw 4 (tlN l), 72), (g7, cw 4 (elN m (tlN l)) ++ (cw 4 (elN m (atY m.M (tlN l))) ++ cw 4 (elN m 1)), 78)]) (F := ?_) (fun key => ?_) ?_
 rotate_left 1
 ·skip
  refine c0V rfl rfl rfl rfl ?_ ?_
  ·skip
   go_simp
   refine (d0N m gp _ HOK.out (HPM.out.keep hd5.fr id) (tlN l) HTN.out).mono ?_
   rintro e' w6 ⟨rfl, hf6⟩
   have st6 := hd5.keep hf6
   clear hf6
   refine ⟨st6, ?_⟩
   try simp only [clL]
   refine c0V rfl rfl rfl rfl ?_ ?_
   ·skip
    go_simp
    refine (x0n m gc gp bx by_ _ HOK.out (HCV.out.keep st6.fr id) (HPM.out.keep st6.fr id) (tlN l) r HR.out).mono ?_
    rintro e' w7 ⟨rfl, hf7⟩
    have st7 := st6.keep hf7
    clear hf7
    refine ⟨st7, ?_⟩
    try simp only [clL]
    refine a0l (v := ?_) rfl rfl (fun wx => ?_) ?_
    rotate_left 1
    ·(go_simp; with_reducible rfl)
    try simp only [clL]
    refine a0l (v := ?_) rfl rfl (fun wx => ?_) ?_
    rotate_left 1
    ·(go_simp; with_reducible rfl)
    try simp only [clL]
    refine a0l (v := ?_) rfl rfl (fun wx => ?_) ?_
    rotate_left 1
    ·(go_simp; with_reducible rfl)
    try simp only [clL]
    refine a0A rfl rfl ?_
    refine a0Y st7 rfl (z := zAc) (by kernel_rfl) (cw 12 0) (by rw [a0f]; rfl) ?_
    intro g7 w8 st8
    refine ⟨St.less st8 (by simp), ?_⟩
    try simp only [clL]
    refine a0A rfl rfl ?_
    refine a0j st8 2 rfl rfl rfl rfl (by first | (simp only [a0a]; done) | (simp only [List.length_append, a0a]; done)) (by first | (rw [a0a]; kernel_rfl) | (simp only [List.length_append, a0a]; kernel_rfl)) (a0Z _ _ _) ?_
    intro w9 st9
    refine ⟨St.less st9 (by simp), ?_⟩
    try simp only [Act.put]
    refine a0r rfl rfl ?_
    go_simp
    try simp only [clL]
    refine a0k ?_
    exact key g7 _ st9
   ·skip
    refine a0Y st6 rfl (z := zAc) (by kernel_rfl) (cw 12 0) (by rw [a0f]; rfl) ?_
    intro g7 w10 st10
    refine ⟨St.less st10 (by simp), ?_⟩
    try simp only [clL]
    refine a0A rfl rfl ?_
    go_simp
    refine (x0n m gc gp bx by_ _ HOK.out (HCV.out.keep st10.fr id) (HPM.out.keep st10.fr id) (tlN l) r HR.out).mono ?_
    rintro e' w11 ⟨rfl, hf11⟩
    have st11 := st10.keep hf11
    clear hf11
    refine ⟨St.less st11 (by simp), ?_⟩
    try simp only [clL]
    refine a0l (v := ?_) rfl rfl (fun wx => ?_) ?_
    rotate_left 1
    ·(go_simp; with_reducible rfl)
    try simp only [clL]
    refine a0l (v := ?_) rfl rfl (fun wx => ?_) ?_
    rotate_left 1
    ·(go_simp; with_reducible rfl)
    try simp only [clL]
    refine a0l (v := ?_) rfl rfl (fun wx => ?_) ?_
    rotate_left 1
    ·(go_simp; with_reducible rfl)
    try simp only [clL]
    refine a0A rfl rfl ?_
    refine a0j st11 2 rfl rfl rfl rfl (by first | (simp only [a0a]; done) | (simp only [List.length_append, a0a]; done)) (by first | (rw [a0a]; kernel_rfl) | (simp only [List.length_append, a0a]; kernel_rfl)) (a0Z _ _ _) ?_
    intro w12 st12
    refine ⟨St.less st12 (by simp), ?_⟩
    try simp only [Act.put]
    refine a0r rfl rfl ?_
    go_simp
    try simp only [clL]
    refine a0k ?_
    exact key g7 _ st12
  ·skip
   refine a0Y hd5 rfl (z := zAc) (by kernel_rfl) (cw 12 0) (by rw [a0f]; rfl) ?_
   intro g7 w13 st13
   refine ⟨St.less st13 (by simp), ?_⟩
   try simp only [clL]
   refine a0A rfl rfl ?_
   go_simp
   refine (d0N m gp _ HOK.out (HPM.out.keep st13.fr id) (tlN l) HTN.out).mono ?_
   rintro e' w14 ⟨rfl, hf14⟩
   have st14 := st13.keep hf14
   clear hf14
   refine ⟨St.less st14 (by simp), ?_⟩
   try simp only [clL]
   refine a0A rfl rfl ?_
   go_simp
   refine (x0n m gc gp bx by_ _ HOK.out (HCV.out.keep st14.fr id) (HPM.out.keep st14.fr id) (tlN l) r HR.out).mono ?_
   rintro e' w15 ⟨rfl, hf15⟩
   have st15 := st14.keep hf15
   clear hf15
   refine ⟨St.less st15 (by simp), ?_⟩
   try simp only [clL]
   refine a0l (v := ?_) rfl rfl (fun wx => ?_) ?_
   rotate_left 1
   ·(go_simp; with_reducible rfl)
   try simp only [clL]
   refine a0l (v := ?_) rfl rfl (fun wx => ?_) ?_
   rotate_left 1
   ·(go_simp; with_reducible rfl)
   try simp only [clL]
   refine a0l (v := ?_) rfl rfl (fun wx => ?_) ?_
   rotate_left 1
   ·(go_simp; with_reducible rfl)
   try simp only [clL]
   refine a0A rfl rfl ?_
   refine a0j st15 2 rfl rfl rfl rfl (by first | (simp only [a0a]; done) | (simp only [List.length_append, a0a]; done)) (by first | (rw [a0a]; kernel_rfl) | (simp only [List.length_append, a0a]; kernel_rfl)) (a0Z _ _ _) ?_
   intro w16 st16
   refine ⟨St.less st16 (by simp), ?_⟩
   try simp only [Act.put]
   refine a0r rfl rfl ?_
   go_simp
   try simp only [clL]
   refine a0k ?_
   exact key g7 _ st16
 intro g7 w17 st17
 have st17 : St Nob w w17 [(g4, cw 4 0 ++ (cw 4 0 ++ cw 4 0), 78), (g6, cw 4 (tlN l), 72), (g7, cw 4 (elN m (tlN l)) ++ (cw 4 (elN m (atY m.M (tlN l))) ++ cw 4 (elN m 1)), 78)] := st17
 clear hd5
 refine NoPanic.normal ?_
 have hcell := b0y (HB.out.still st17.fr) _ H0.out
 go_wp2_with (with_reducible refine wSk 65 ?_)
 refine a0o st17 2 rfl rfl rfl Tryz.underlying78 rfl rfl (by first | (rw [a0a]; kernel_rfl) | (simp only [List.length_append, a0a]; kernel_rfl)) ?_
 clear hcell
 go_wp2_with fail
 refine (p0e m gc gp bx by_ _ HOK.out (HCV.out.keep st17.fr id) (HPM.out.keep st17.fr id) (tlN l) (atY m.M (tlN l)) 1).mono ?_
 rintro e' w18 ⟨rfl, hf18⟩
 have st18 := st17.keep hf18
 clear st17 hf18
 go_wp2_with (with_reducible refine wSn ?_)
 refine a0d st18 2 rfl rfl rfl rfl rfl (by first | (simp only [a0a]; done) | (simp only [List.length_append, a0a]; done)) (by first | (rw [a0a]; kernel_rfl) | (simp only [List.length_append, a0a]; kernel_rfl)) (a0Z _ _ _) ?_
 intro w19 st19
 clear st18
 go_wp2_with (with_reducible refine wSk 67 ?_)
 refine a0o st19 2 rfl rfl rfl Tryz.underlying78 rfl rfl (by first | (rw [a0a]; kernel_rfl) | (simp only [List.length_append, a0a]; kernel_rfl)) ?_
 go_wp2_with (with_reducible refine wSn ?_)
 refine a0d st19 0 rfl rfl rfl rfl rfl (by first | (simp only [a0a]; done) | (simp only [List.length_append, a0a]; done)) (by first | (rw [a0a]; kernel_rfl) | (simp only [List.length_append, a0a]; kernel_rfl)) (a0Z _ _ _) ?_
 intro w20 st20
 clear st19
 have hr := st20.at 0 rfl
 have hfr := st20.fr
 clear st20
 go_wp2_with fail
 exact bodyPost_ret (b0i rfl rfl hr Tryz.underlying78 rfl (by first | (rw [a0a]; kernel_rfl) | (simp only [List.length_append, a0a]; kernel_rfl)) rfl) rfl ⟨by unfold ptV ptL; rfl, hfr⟩
end
section
open Go.RowKit Go.Mv Mvp Mvq
theorem j0A (l : List UInt8) (h : l.length = 33) (b : UInt8) (hb : l.getD 0 0 = b) : (bs l)[0]? = some (.int .u8 (b.toNat : Int)) := by
 cases l with
 | nil => cases h
 | cons x t =>
  have : x = b := by simpa using hb
  subst this
  rfl
theorem w0I {b : UInt8} {k : Nat} (h : b.toNat = k) : b = UInt8.ofNat k := by rw [← h]; simp
theorem j0B (l : List UInt8) (h : l.length = 33) (hb : l.getD 0 0 = 2) : (bs l)[0]? = some (.int .u8 2) := by rw [j0A l h 2 hb]; rfl
theorem j0C (l : List UInt8) (h : l.length = 33) (hb : l.getD 0 0 = 3) : (bs l)[0]? = some (.int .u8 3) := by rw [j0A l h 3 hb]; rfl
theorem n0L (l : List UInt8) (h : l.length = 33) (hb : l.getD 0 0 = 0) : (bs l)[0]? = some (.int .u8 0) := by rw [j0A l h 0 hb]; rfl
theorem r0G (b : Nat) : kc (mP.M - b % mP.M) = - kc b := by rw [c0Z]; exact r0i b
theorem z0X (n : Nat) (hr : c0E mP.M (f0s n) = true) : kc (atY mP.M n) = kc (rtV fP (f0s n)) := by unfold atY; rw [if_pos hr, c0Z]
theorem v0f (x y : Nat) (h : onC (.A (kc x) (kc y))) : (x0m x y h).L = ptL mP x y 1 := rfl
attribute [local irreducible] atY rtV c0E ptL f0s tlN x0m
theorem m0u (l : List UInt8) (h : f0p l = true) : ∃ t : PT, t.pt = j0v l ∧ ∀ (gc : Nat) (a : Option Addr) (n c : Nat) (w : World), Cv w gc → RdB w a n l → n ≤ c →
  Calls Tryz.prog 69 #[.pointer (some ⟨gc, 0, none⟩), .slice a n c] w fun e w' => e = .returned (.tuple #[.agg t.L.toArray, .bool true]) ∧ Fr Nob w w' := by
 have hon := z0s h
 unfold f0p at h
 unfold j0v at *
 simp only [Bool.and_eq_true, decide_eq_true_eq] at h
 obtain ⟨h33, h⟩ := h
 by_cases h0 : l.getD 0 0 = 0
 ·rw [if_pos h0] at h
  refine ⟨noT, by rw [if_pos h0, r0q], ?_⟩
  rintro gc a n c w ⟨gp, h1, h2⟩ hb hc
  exact l0f mP gc gp gXn gYn w c0a h1 h2 a n c l hb hc h33 (n0L l h33 h0) true h
 ·rw [if_neg h0] at h hon
  simp only [Bool.and_eq_true, decide_eq_true_eq] at h
  obtain ⟨h23, hlt, hr⟩ := h
  rw [← c0Z] at hlt hr
  have hy := z0X _ hr
  rcases h23 with h2 | h3
  ·have h3 : ¬ l.getD 0 0 = 3 := by rw [h2]; decide
   rw [if_neg h3, ← hy] at hon
   refine ⟨x0m (tlN l) (atY mP.M (tlN l)) hon, ?_, ?_⟩
   ·rw [m0r, if_neg h0, if_neg h3, hy]
   ·rintro gc a n c w ⟨gp, g1, g2⟩ hb hc
    rw [v0f]
    exact n0J mP gc gp gXn gYn w c0a g1 g2 a n c l hb hc h33 (j0B l h33 h2) (decide_eq_true hlt) true hr
  ·rw [if_pos h3, ← hy, ← r0G] at hon
   refine ⟨x0m (tlN l) (mP.M - atY mP.M (tlN l) % mP.M) hon, ?_, ?_⟩
   ·rw [m0r, if_neg h0, if_pos h3, r0G, hy]
   ·rintro gc a n c w ⟨gp, g1, g2⟩ hb hc
    rw [v0f]
    exact n0K mP gc gp gXn gYn w c0a g1 g2 a n c l hb hc h33 (j0C l h33 h3) (decide_eq_true hlt) true hr
open Classical in
noncomputable def rdT (l : List UInt8) : PT := if h : f0p l = true then Classical.choose (m0u l h) else noT
theorem y0t {l : List UInt8} (h : f0p l = true) : (rdT l).pt = j0v l := by unfold rdT; rw [dif_pos h]; exact (Classical.choose_spec (m0u l h)).1
theorem v0g (l : List UInt8) (h : f0p l = true) (gc : Nat) (a : Option Addr) (n c : Nat) (w : World) (hcv : Cv w gc) (hb : RdB w a n l) (hc : n ≤ c) :
  Calls Tryz.prog 69 #[.pointer (some ⟨gc, 0, none⟩), .slice a n c] w fun e w' => e = .returned (.tuple #[.agg (rdT l).L.toArray, .bool true]) ∧ Fr Nob w w' := by
 unfold rdT; rw [dif_pos h]; exact (Classical.choose_spec (m0u l h)).2 gc a n c w hcv hb hc
theorem y0u (l : List UInt8) (h : f0p l = false) (gc : Nat) (a : Option Addr) (n c : Nat) (w : World) (hcv : Cv w gc) (hb : RdB w a n l) (hc : n ≤ c) :
  Calls Tryz.prog 69 #[.pointer (some ⟨gc, 0, none⟩), .slice a n c] w fun e w' => (∃ X Y Z, e = .returned (.tuple #[.agg (ptL mP X Y Z).toArray, .bool false])) ∧ Fr Nob w w' := by
 obtain ⟨gp, g1, g2⟩ := hcv
 unfold f0p at h
 by_cases h33 : l.length = 33
 ·rw [decide_eq_true h33, Bool.true_and] at h
  by_cases h0 : l.getD 0 0 = 0
  ·rw [if_pos h0] at h
   exact (l0f mP gc gp gXn gYn w c0a g1 g2 a n c l hb hc h33 (n0L l h33 h0) false h).mono fun _ _ t => ⟨⟨_, _, _, t.1⟩, t.2⟩
  ·rw [if_neg h0] at h
   by_cases h2 : l.getD 0 0 = 2
   ·rw [decide_eq_true (Or.inl h2), Bool.true_and] at h
    cases hlt : decide (tlN l < mP.M) with
    | false => exact (t0W mP gc gp gXn gYn w c0a g1 g2 a n c l hb hc h33 (j0B l h33 h2) hlt).mono fun _ _ t => ⟨⟨_, _, _, t.1⟩, t.2⟩
    | true =>
     rw [← c0Z, hlt, Bool.true_and] at h
     exact (n0J mP gc gp gXn gYn w c0a g1 g2 a n c l hb hc h33 (j0B l h33 h2) hlt false h).mono fun _ _ t => ⟨⟨_, _, _, t.1⟩, t.2⟩
   ·by_cases h3 : l.getD 0 0 = 3
    ·rw [decide_eq_true (Or.inr h3), Bool.true_and] at h
     cases hlt : decide (tlN l < mP.M) with
     | false => exact (t0X mP gc gp gXn gYn w c0a g1 g2 a n c l hb hc h33 (j0C l h33 h3) hlt).mono fun _ _ t => ⟨⟨_, _, _, t.1⟩, t.2⟩
     | true =>
      rw [← c0Z, hlt, Bool.true_and] at h
      exact (n0K mP gc gp gXn gYn w c0a g1 g2 a n c l hb hc h33 (j0C l h33 h3) hlt false h).mono fun _ _ t => ⟨⟨_, _, _, t.1⟩, t.2⟩
    ·have q0 : (((l.getD 0 0).toNat : Int) == 0) = false := by
      simp only [beq_eq_false_iff_ne, ne_eq]
      intro e
      exact h0 (w0I (k := 0) (by omega))
     have q2 : (((l.getD 0 0).toNat : Int) != 2) = true := by
      simp only [bne_iff_ne, ne_eq]
      intro e
      exact h2 (w0I (k := 2) (by omega))
     have q3 : (((l.getD 0 0).toNat : Int) != 3) = true := by
      simp only [bne_iff_ne, ne_eq]
      intro e
      exact h3 (w0I (k := 3) (by omega))
     exact (t0V mP gc gp gXn gYn w c0a g1 g2 a n c l hb hc h33 _ (j0A l h33 _ rfl) q0 q2 q3).mono fun _ _ t => ⟨⟨_, _, _, t.1⟩, t.2⟩
 ·exact (t0U mP gc gp gXn gYn w c0a g1 g2 a n c l hb hc h33).mono fun _ _ t => ⟨⟨_, _, _, t.1⟩, t.2⟩
theorem y0v (z : Nat) : kc (z ^ (mP.M - 2)) = c0k (kc z) := by
 rw [show mP.M - 2 = fP - 2 by rw [c0Z]]
 unfold c0k
 rw [e0q]
 generalize fP - 2 = n
 rw [← e0j (z ^ n), ← e0j ((z % fP) ^ n), ← Nat.pow_mod]
theorem y0w (x y : K) : d0U (.A x y) = UInt8.ofNat (2 + y.val % 2) :: b0o x.val := rfl
theorem r0H (s : PT) (gc : Nat) (w : World) (hcv : Cv w gc) :
  Calls Tryz.prog 39 #[.pointer (some ⟨gc, 0, none⟩), .agg s.L.toArray] w fun e w' => ∃ sv, e = .returned sv ∧ Own w' w.heap.size 5 1 sv 33 (bs (d0U s.pt)) ∧ Fr Nob w w' := by
 obtain ⟨gp, g1, g2⟩ := hcv
 cases hz : s.isO with
 | true =>
  rw [PT.isO_t hz]
  exact p0d mP gc gp gXn gYn w c0a g1 g2 s.x s.y s.z hz
 | false =>
  have hne := PT.isO_f hz
  have e : s.pt = .A (kc (s.x * (s.z ^ (mP.M - 2) * s.z ^ (mP.M - 2)))) (kc (s.y * (s.z ^ (mP.M - 2) * s.z ^ (mP.M - 2) * s.z ^ (mP.M - 2)))) := by
   show jk _ _ _ = _
   rw [t0B hne]
   simp only [a0E, y0v]
  rw [e]
  have hb := w0H mP gc gp gXn gYn w c0a g1 g2 s.x s.y s.z hz _ _ _ _ _ _ _ rfl rfl rfl rfl rfl rfl rfl
  refine hb.mono ?_
  rintro e' w' ⟨sv, h1, h2, h3⟩
  refine ⟨sv, h1, ?_, h3⟩
  rw [y0w, e0q, e0q, ← c0Z]
  exact h2
end
section
open Go.RowKit Go.Mv Mvp Mvq
def j0D (ls : List (List UInt8)) : Bool := ls.all f0p
noncomputable def i0y (ls : List (List UInt8)) : List Value := ls.flatMap fun l => (rdT l).L
theorem w0J (m : Md) (x y z : Nat) : ∀ v ∈ ptL m x y z, v.oneCell' = true := a0Z _ _ _
theorem l0g (ls : List (List UInt8)) (l : List UInt8) : i0y (ls ++ [l]) = i0y ls ++ (rdT l).L := by simp [i0y]
theorem w0K (ls : List (List UInt8)) (i : Nat) (h : i < ls.length) : ((i0y ls).drop (i * 12)).take (rdT (ls.getD i [])).L.length = (rdT (ls.getD i [])).L := by
 rw [PT.len]
 induction ls generalizing i with
 | nil => simp at h
 | cons l ls ih =>
  rw [i0y, List.flatMap_cons, ← i0y]
  cases i with
  | zero =>
   rw [Nat.zero_mul, List.drop_zero, List.take_append_of_le_length (by rw [PT.len]; exact Nat.le_refl _), List.take_of_length_le (by rw [PT.len]; exact Nat.le_refl _)]
   rfl
  | succ i =>
   rw [List.drop_append, PT.len, List.drop_of_length_le (by rw [PT.len]; omega), List.nil_append, show (i + 1) * 12 - 12 = i * 12 by omega, ih i (by simpa using h)]
   rfl
theorem l0h (ls : List (List UInt8)) (k : Nat) (h : k < ls.length) : j0D (ls.take (k + 1)) = (j0D (ls.take k) && f0p (ls.getD k [])) := by
 rw [List.take_succ_eq_append_getElem h, j0D, List.all_append, ← j0D]
 simp [List.getD_eq_getElem?_getD, h]
theorem n0M (ls : List (List UInt8)) (k : Nat) (h : k < ls.length) (hb : f0p (ls.getD k []) = false) : j0D ls = false := by
 rw [j0D, List.all_eq_false]
 refine ⟨ls.getD k [], ?_, by simpa using hb⟩
 rw [List.getD_eq_getElem?_getD, List.getElem?_eq_getElem h]
 exact List.getElem_mem h
theorem j0E : (Tryz.prog.info? 78).map (fun i => (i.zero, i.size, i.bytes)) = some (some (.agg (List.replicate 12 (.int .u64 0)).toArray), 12, 96) := by kernel_rfl
attribute [local irreducible] a0J lw mix cw b0t b0G b0q a0P a0u beN laid b0o b0H a0M a0V elN mdL b0R rtN rtV c0E gXn gYn PT.L p0s o0Y f0G tbL tmR tmL dbN j0N i0w p0c dig rdT f0p j0v ptL i0y j0D d0U
theorem j0F (gk : Nat) (al : Option Addr) (n cl : Nat) (vs : List Value) (ls : List (List UInt8)) (w : World) (hv : Rd w al n vs) (hp : BParts w vs ls) (hn : n ≤ 100000) (hg : j0D ls = true) (t : PT) (hop : ∀ ap cp wx, Fr Nob w wx → Rd wx ap (ls.length * 12) (i0y ls) → Calls Tryz.prog 36 #[.slice ap ls.length cp, .pointer (some ⟨gk, 0, none⟩)] wx fun e w' => e = .returned (.agg t.L.toArray) ∧ Fr Nob wx w') :
  Calls Tryz.prog 35 #[.func (.func 36) #[] #[.pointer (some ⟨gk, 0, none⟩)], .slice al n cl] w fun e w' => ∃ sv, e = .returned (.tuple #[sv, .int .i64 0]) ∧ Own w' w.heap.size 5 1 sv 33 (bs (d0U t.pt)) ∧ Fr Nob w w' := by
 have HV := qH hv
 have HP := qH hp
 have HL := qH (show ls.length = n by rw [← hp.1, hv.len])
 have HN := qH hn
 have hnI : (n : Int) ≤ 100000 := by omega
 clear hv hp
 have HOP := qH hop
 have HGA := qH hg
 clear hop hg
 go_enter Tryz.func35, Tryz.ntmps35
 go_wp2
 go_loopw [6, 13] (fun v i wr => ∃ k : Nat, k ≤ n ∧ i = .int .i64 (k : Int) ∧ j0D (ls.take k) = true ∧ Own wr w.heap.size 78 12 v k (i0y (ls.take k)) ∧ Fr Nob w wr) (fun _ i _ => n - (intOf i).toNat)
 case atStart => exact ⟨0, Nat.zero_le _, rfl, by rw [List.take_zero]; unfold j0D; rfl, by rw [List.take_zero]; unfold i0y; exact Own.nil _ _ _ _, Fr.refl _ _⟩
 case round =>
  obtain ⟨k, hk, rfl, hgood, hown, hf⟩ := hrel
  by_cases hlt : k < n
  ·have hltI : (k : Int) < (n : Int) := by omega
   obtain ⟨b, o, rfl, hat⟩ := (HV.out.still hf).at (by omega)
   have hvl : k < vs.length := by rw [HV.out.len]; exact hlt
   obtain ⟨a, nn, c, hve, hcc, hrd⟩ := HP.out.2 k (vs[k]'hvl) (List.getElem?_eq_getElem hvl)
   have hc1 := hat k _ (List.getElem?_eq_getElem hvl)
   rw [hve] at hc1
   have hlk : k < ls.length := by rw [HL.out]; exact hlt
   have hts := l0h ls k hlk
   have hcs : i0y (ls.take (k + 1)) = i0y (ls.take k) ++ (rdT (ls.getD k [])).L := by
    rw [List.take_succ_eq_append_getElem hlk, l0g]
    simp [List.getD_eq_getElem?_getD, hlk]
   have hbad := n0M ls k hlk
   generalize hL : ls.getD k [] = l at *
   have HLL := qH hL
   have HRD := qH (hrd.still hf)
   have HTS := qH hts
   have HCS := qH hcs
   have HBAD := qH hbad
   have HG := qH hgood
   have HOWN := qH hown
   have HF := qH hf
   have HCC := qH hcc
   clear hL hrd hts hcs hbad hgood hown hf hat hve hcc
   have st0 := St.start Nob wr
   have HK := qH (show f0p l = true by
    cases hh : f0p l
    ·have := HBAD.out hh
     rw [HGA.out] at this
     cases this
    ·rfl)
   skip
   go_wp2_with fail
   refine (h0A _).mono ?_
   rintro e' w1 ⟨gc, rfl, hle, hcv, hf1⟩
   have st1 := st0.keep hf1
   have HCV := qH hcv
   clear hcv hle
   clear st0 hf1
   go_wp2_with fail
   refine (v0g l HK.out gc a nn c _ HCV.out (HRD.out.still st1.fr) HCC.out).mono ?_
   rintro e' w2 ⟨rfl, hf2⟩
   have st2 := st1.keep hf2
   clear st1 hf2
   go_wp2_with (with_reducible refine wSk 9 ?_)
   refine a0b st2 rfl rfl (z := .agg (List.replicate 12 (.int .u64 0)).toArray) (by kernel_rfl) (cw 12 0) (by rw [a0f]; rfl) ?_
   intro g9 w3 st3
   clear st2
   go_wp2_with (with_reducible refine wSn ?_)
   refine a0d st3 0 rfl rfl rfl rfl rfl (by first | (simp only [a0a]; done) | (simp only [a0a, PT.len]; done)) (by first | (rw [a0a]; kernel_rfl) | (simp only [PT.len]; kernel_rfl)) (PT.one _) ?_
   intro w4 st4
   clear st3
   have HFS := qH st4.fr
   go_wp2_with (with_reducible refine wSk 26 ?_)
   refine a0o st4 0 rfl rfl rfl Tryz.underlying78 rfl rfl (by first | (rw [a0a]; kernel_rfl) | (simp only [PT.len]; kernel_rfl)) ?_
   clear st4
   go_wp2_with (with_reducible refine wSk 27 ?_)
   refine n0d rfl rfl Tryz.underlying76 j0E [.agg (rdT l).L.toArray] rfl (by simp [Value.cells, PT.len]) rfl ((rdT l).L) (by simp [Value.cells]) ?_
   intro wA hgA hfA hzA
   clear hzA
   have hfrA := HFS.out.then hfA
   have hsz := HF.out.size
   have hsz2 := hfrA.size
   have hownA := HOWN.out.still hfrA
   have hrdA : Rd wA (some ⟨w4.heap.size, 0, none⟩) (1 * 12) ((rdT l).L) := by
    have := Rd.whole hgA
    rwa [PT.len] at this
   have HRDA := qH hrdA
   have HOWNA := qH hownA
   have HFRA := qH hfrA
   clear hgA hfA hrdA hownA hfrA
   generalize w4.heap.size = gA at *
   go_wp2_with (with_reducible refine wSk 28 ?_)
   refine b0L rfl rfl Tryz.underlying76 j0E rfl (by decide) HOWNA.out rfl rfl HRDA.out (PT.one _) (by unfold maxLen; omega) (by omega) (by omega) ?_
   intro vB wB hownB hfB hbB
   clear hbB
   have hfrB := HOWNA.out.fr (HF.out.then HFRA.out) (Nat.le_refl _) hfB
   have HFRB := qH hfrB
   rw [← HCS.out] at hownB
   have HOWNB := qH hownB
   clear hfrB hownB hfB
   go_wp2_with fail
   go_roundw
   case rel => exact ⟨k + 1, by omega, by go_num, by rw [HTS.out, HG.out, HK.out]; rfl, HOWNB.out, HFRB.out⟩
   case measure => simp [intOf]; omega
  ·have hge : ¬ ((k : Int) < (n : Int)) := by omega
   have hkn : k = ls.length := by rw [HL.out]; omega
   rw [hkn, List.take_of_length_le (Nat.le_refl _)] at hgood hown
   obtain ⟨ap, cp, rfl, -, hre, -⟩ := hown.form
   have HRE := qH hre
   have HF := qH hf
   clear hkn hgood hown hf hre
   go_wp2_with fail
   refine (h0A _).mono ?_
   rintro e w1 ⟨gc, rfl, hle, hcv, hf1⟩
   have HCV := qH hcv
   have HF1 := qH (HF.out.then hf1)
   have HRE1 := qH (HRE.out.still hf1)
   clear hle hcv hf1 HF HRE
   go_wp2_with fail
   refine (HOP.out ap cp _ HF1.out HRE1.out).mono ?_
   rintro e w2 ⟨rfl, hf2⟩
   have HCV2 := qH (HCV.out.keep hf2)
   have HF2 := qH (HF1.out.then hf2)
   clear hf2 HF1 HRE1 HCV
   go_wp2_with fail
   refine (r0H t gc _ HCV2.out).mono ?_
   rintro e w3 ⟨sv, rfl, hown3, hf3⟩
   have h2 := HF2.out.then hf3
   have ho := hown3.mono HF2.out.size
   clear hown3 hf3 HF2 HCV2
   go_wp2_with fail
   go_ret2
   exact ⟨sv, rfl, ho, h2⟩
theorem h0V (gk : Nat) (al : Option Addr) (n cl : Nat) (vs : List Value) (ls : List (List UInt8)) (w : World) (hv : Rd w al n vs) (hp : BParts w vs ls) (hn : n ≤ 100000) (hg : j0D ls = false) :
  Calls Tryz.prog 35 #[.func (.func 36) #[] #[.pointer (some ⟨gk, 0, none⟩)], .slice al n cl] w fun e w' => e = .returned (.tuple #[.slice none 0 0, .int .i64 4]) ∧ Fr Nob w w' := by
 have HV := qH hv
 have HP := qH hp
 have HL := qH (show ls.length = n by rw [← hp.1, hv.len])
 have HN := qH hn
 have hnI : (n : Int) ≤ 100000 := by omega
 clear hv hp
 have HGA := qH hg
 clear hg
 go_enter Tryz.func35, Tryz.ntmps35
 go_wp2
 go_loopw [6, 13] (fun v i wr => ∃ k : Nat, k ≤ n ∧ i = .int .i64 (k : Int) ∧ j0D (ls.take k) = true ∧ Own wr w.heap.size 78 12 v k (i0y (ls.take k)) ∧ Fr Nob w wr) (fun _ i _ => n - (intOf i).toNat)
 case atStart => exact ⟨0, Nat.zero_le _, rfl, by rw [List.take_zero]; unfold j0D; rfl, by rw [List.take_zero]; unfold i0y; exact Own.nil _ _ _ _, Fr.refl _ _⟩
 case round =>
  obtain ⟨k, hk, rfl, hgood, hown, hf⟩ := hrel
  by_cases hlt : k < n
  ·have hltI : (k : Int) < (n : Int) := by omega
   obtain ⟨b, o, rfl, hat⟩ := (HV.out.still hf).at (by omega)
   have hvl : k < vs.length := by rw [HV.out.len]; exact hlt
   obtain ⟨a, nn, c, hve, hcc, hrd⟩ := HP.out.2 k (vs[k]'hvl) (List.getElem?_eq_getElem hvl)
   have hc1 := hat k _ (List.getElem?_eq_getElem hvl)
   rw [hve] at hc1
   have hlk : k < ls.length := by rw [HL.out]; exact hlt
   have hts := l0h ls k hlk
   have hcs : i0y (ls.take (k + 1)) = i0y (ls.take k) ++ (rdT (ls.getD k [])).L := by
    rw [List.take_succ_eq_append_getElem hlk, l0g]
    simp [List.getD_eq_getElem?_getD, hlk]
   have hbad := n0M ls k hlk
   generalize hL : ls.getD k [] = l at *
   have HLL := qH hL
   have HRD := qH (hrd.still hf)
   have HTS := qH hts
   have HCS := qH hcs
   have HBAD := qH hbad
   have HG := qH hgood
   have HOWN := qH hown
   have HF := qH hf
   have HCC := qH hcc
   clear hL hrd hts hcs hbad hgood hown hf hat hve hcc
   have st0 := St.start Nob wr
   rcases Bool.eq_false_or_eq_true (f0p l) with hh | hh
   ·have HK := qH hh
    clear hh
    skip
    go_wp2_with fail
    refine (h0A _).mono ?_
    rintro e' w1 ⟨gc, rfl, hle, hcv, hf1⟩
    have st1 := st0.keep hf1
    have HCV := qH hcv
    clear hcv hle
    clear st0 hf1
    go_wp2_with fail
    refine (v0g l HK.out gc a nn c _ HCV.out (HRD.out.still st1.fr) HCC.out).mono ?_
    rintro e' w2 ⟨rfl, hf2⟩
    have st2 := st1.keep hf2
    clear st1 hf2
    go_wp2_with (with_reducible refine wSk 9 ?_)
    refine a0b st2 rfl rfl (z := .agg (List.replicate 12 (.int .u64 0)).toArray) (by kernel_rfl) (cw 12 0) (by rw [a0f]; rfl) ?_
    intro g9 w3 st3
    clear st2
    go_wp2_with (with_reducible refine wSn ?_)
    refine a0d st3 0 rfl rfl rfl rfl rfl (by first | (simp only [a0a]; done) | (simp only [a0a, PT.len]; done)) (by first | (rw [a0a]; kernel_rfl) | (simp only [PT.len]; kernel_rfl)) (PT.one _) ?_
    intro w4 st4
    clear st3
    have HFS := qH st4.fr
    go_wp2_with (with_reducible refine wSk 26 ?_)
    refine a0o st4 0 rfl rfl rfl Tryz.underlying78 rfl rfl (by first | (rw [a0a]; kernel_rfl) | (simp only [PT.len]; kernel_rfl)) ?_
    clear st4
    go_wp2_with (with_reducible refine wSk 27 ?_)
    refine n0d rfl rfl Tryz.underlying76 j0E [.agg (rdT l).L.toArray] rfl (by simp [Value.cells, PT.len]) rfl ((rdT l).L) (by simp [Value.cells]) ?_
    intro wA hgA hfA hzA
    clear hzA
    have hfrA := HFS.out.then hfA
    have hsz := HF.out.size
    have hsz2 := hfrA.size
    have hownA := HOWN.out.still hfrA
    have hrdA : Rd wA (some ⟨w4.heap.size, 0, none⟩) (1 * 12) ((rdT l).L) := by
     have := Rd.whole hgA
     rwa [PT.len] at this
    have HRDA := qH hrdA
    have HOWNA := qH hownA
    have HFRA := qH hfrA
    clear hgA hfA hrdA hownA hfrA
    generalize w4.heap.size = gA at *
    go_wp2_with (with_reducible refine wSk 28 ?_)
    refine b0L rfl rfl Tryz.underlying76 j0E rfl (by decide) HOWNA.out rfl rfl HRDA.out (PT.one _) (by unfold maxLen; omega) (by omega) (by omega) ?_
    intro vB wB hownB hfB hbB
    clear hbB
    have hfrB := HOWNA.out.fr (HF.out.then HFRA.out) (Nat.le_refl _) hfB
    have HFRB := qH hfrB
    rw [← HCS.out] at hownB
    have HOWNB := qH hownB
    clear hfrB hownB hfB
    go_wp2_with fail
    go_roundw
    case rel => exact ⟨k + 1, by omega, by go_num, by rw [HTS.out, HG.out, HK.out]; rfl, HOWNB.out, HFRB.out⟩
    case measure => simp [intOf]; omega
   ·have HK := qH hh
    clear hh
    skip
    go_wp2_with fail
    refine (h0A _).mono ?_
    rintro e' w1 ⟨gc, rfl, hle, hcv, hf1⟩
    have st1 := st0.keep hf1
    have HCV := qH hcv
    clear hcv hle
    clear st0 hf1
    go_wp2_with fail
    refine (y0u l HK.out gc a nn c _ HCV.out (HRD.out.still st1.fr) HCC.out).mono ?_
    rintro e' w2 ⟨⟨X, Y, Z, rfl⟩, hf2⟩
    have st2 := st1.keep hf2
    clear st1 hf2
    go_wp2_with (with_reducible refine wSk 9 ?_)
    refine a0b st2 rfl rfl (z := .agg (List.replicate 12 (.int .u64 0)).toArray) (by kernel_rfl) (cw 12 0) (by rw [a0f]; rfl) ?_
    intro g9 w3 st3
    clear st2
    go_wp2_with (with_reducible refine wSn ?_)
    refine a0d st3 0 rfl rfl rfl rfl rfl (by first | (simp only [a0a]; done) | (simp only [a0a, a0N]; done)) (by first | (rw [a0a]; kernel_rfl) | (simp only [a0N]; kernel_rfl)) (w0J _ _ _ _) ?_
    intro w4 st4
    clear st3
    have HFS := qH (HF.out.then st4.fr)
    clear st4
    go_wp2_with fail
    go_ret2
    exact ⟨rfl, HFS.out⟩
  ·exfalso
   have hkn : k = ls.length := by rw [HL.out]; omega
   rw [hkn, List.take_of_length_le (Nat.le_refl _), HGA.out] at hgood
   cases hgood
end
section
open Go.RowKit Go.Mv Mvp Mvq
theorem z0y (la : List UInt8) (ls : List (List UInt8)) : ((i0y (la :: ls)).drop 0).take (rdT la).L.length = (rdT la).L := w0K (la :: ls) 0 (by simp)
attribute [local irreducible] a0J lw mix cw b0t b0G b0q a0P a0u beN laid b0o b0H a0M a0V elN mdL b0R rtN rtV c0E gXn gYn PT.L p0s o0Y f0G tbL tmR tmL dbN j0N i0w p0c dig rdT f0p j0v ptL i0y j0D d0U
theorem t0Y (la : List UInt8) (w : World) (n : Nat) (gk : Nat) (hkn : Has w gk (cw 4 n) 72) (ap : Option Addr) (cp : Nat) (hre : Rd w ap ([la].length * 12) (i0y [la])) :
  Calls Tryz.prog 36 #[.slice ap 1 cp, .pointer (some ⟨gk, 0, none⟩)] w fun e w' => e = .returned (.agg (p0c [(n, rdT la)]).L.toArray) ∧ Fr Nob w w' := by
 obtain ⟨bb, oo, rfl, -⟩ := hre.at (by simp)
 have HRE := qH hre
 have HKN := qH hkn
 clear hre hkn
 have st0 := St.start Nob w
 go_enter Tryz.func36, Tryz.ntmps36
 go_wp2_with (with_reducible refine wSk 3 ?_)
 refine a0b st0 rfl rfl (z := .agg (List.replicate 12 (.int .u64 0)).toArray) (by kernel_rfl) (cw 12 0) (by rw [a0f]; rfl) ?_
 intro gr w1 st1
 clear st0
 go_wp2_with fail
 refine wp_region_noPanic ?_
 refine a0p (fun wx => St Nob w wx [(gr, cw 12 0, 78)]) 6 (.t 1 (.w 2 (.w 3 (.t 4 (.r 0 (.r 5 (.m 6 .nil))))))) (by kernel_rfl) (by kernel_rfl) st1.drew (fun _ _ _ _ _ h => h) ?_
 have hd1 := st1.drew
 clear st1
 refine a0s rfl rfl rfl rfl (cw 4 n) (fun wx hS => (HKN.out.keep (St.fr hS) id).range 0 _ dZl) Tryz.underlying72 rfl (by first | (rw [a0a]; kernel_rfl) | (rw [PT.len]; kernel_rfl) | (rw [a0N]; kernel_rfl) | (simp only [List.length_append, a0a]; kernel_rfl) | (simp only [List.length_append, a0a, PT.len, a0N]; kernel_rfl)) ?_
 try simp only [clL]
 refine a0l (v := ?_) rfl rfl (fun wx => ?_) ?_
 rotate_left 1
 ·(go_simp; with_reducible rfl)
 try simp only [clL]
 refine a0l (v := ?_) rfl rfl (fun wx => ?_) ?_
 rotate_left 1
 ·(go_simp; with_reducible rfl)
 try simp only [clL]
 refine a0s rfl rfl rfl rfl ((rdT la).L) (fun wx hS => (i0Z (HRE.out.still (St.fr hS)) 0 _ (z0y la []))) Tryz.underlying78 rfl (by first | (rw [a0a]; kernel_rfl) | (simp only [PT.len]; kernel_rfl)) ?_
 try simp only [clL]
 refine a0A rfl rfl ?_
 go_simp
 refine (h0A _).mono ?_
 rintro e' w2 ⟨gc, rfl, hle, hcv, hf2⟩
 have st2 := hd1.keep hf2
 have HCV := qH hcv
 clear hcv hle
 clear hf2
 clear hd1
 refine ⟨st2, ?_⟩
 try simp only [clL]
 refine a0A rfl rfl ?_
 go_simp
 refine (w0F n (rdT la) gc _ HCV.out).mono ?_
 rintro e' w3 ⟨rfl, hf3⟩
 have st3 := st2.keep hf3
 clear hf3
 clear st2
 refine ⟨st3, ?_⟩
 try simp only [clL]
 refine a0r rfl rfl ?_
 refine a0j st3 0 rfl rfl rfl rfl (by first | (simp only [a0a]; done) | (simp only [a0a, PT.len]; done)) (by first | (rw [a0a]; kernel_rfl) | (simp only [PT.len]; kernel_rfl)) (PT.one _) ?_
 intro w4 st4
 clear st3
 try simp only [Act.put]
 refine a0k ?_
 refine NoPanic.normal ?_
 have hr := st4.at 0 rfl
 have hfr := st4.fr
 clear st4
 go_wp2_with fail
 exact bodyPost_ret (a0F rfl rfl hr Tryz.underlying78 rfl (by first | (rw [a0a]; kernel_rfl) | (simp only [PT.len]; kernel_rfl))) rfl ⟨rfl, hfr⟩
theorem p0f (m : Md) (hk : KindOf 1 m) (a : Option Addr) (n c : Nat) (l : List UInt8) (w : World) (hb : RdB w a n l) (h32 : l.length ≠ 32) :
  Calls Tryz.prog 34 #[.slice a n c] w fun e w' => e = .returned (.tuple #[i4 0, .bool false]) ∧ Fr Nob w w' := by
 have HK := qH hk
 have HOK := qH hk.ok
 clear hk
 have hne : ((n : Int) != 32) = true := by have := hb.len; simp; omega
 clear h32 hb
 have st0 := St.start Nob w
 go_enter Tryz.func34, Tryz.ntmps34
 go_wp2_with (with_reducible refine wSk 2 ?_)
 refine a0b st0 rfl rfl (z := zAd) (by kernel_rfl) (cw 4 0) (by rw [a0f]; rfl) ?_
 intro g2 w1 st1
 clear st0
 go_wp2_with (with_reducible refine wSk 10 ?_)
 refine c0c rfl rfl _ n0H ?_
 rw [n0I]
 go_wp2_with (with_reducible refine wSn ?_)
 refine a0d st1 0 rfl rfl rfl rfl rfl (by first | (simp only [a0a]; done) | (simp only [List.length_append, a0a, PT.len, a0N]; done)) (by first | (rw [a0a]; kernel_rfl) | (rw [PT.len]; kernel_rfl) | (rw [a0N]; kernel_rfl) | (simp only [List.length_append, a0a]; kernel_rfl) | (simp only [List.length_append, a0a, PT.len, a0N]; kernel_rfl)) (a0i _ _) ?_
 intro w2 st2
 clear st1
 have hr := st2.at 0 rfl
 have hfr := st2.fr
 clear st2
 go_wp2_with fail
 exact bodyPost_ret (a0Q rfl rfl hr Tryz.underlying72 (by first | (rw [a0a]; kernel_rfl) | (rw [PT.len]; kernel_rfl) | (rw [a0N]; kernel_rfl) | (simp only [List.length_append, a0a]; kernel_rfl) | (simp only [List.length_append, a0a, PT.len, a0N]; kernel_rfl)) rfl) rfl ⟨rfl, hfr⟩
theorem i0z (m : Md) (hk : KindOf 1 m) (a : Option Addr) (n c : Nat) (l : List UInt8) (w : World) (hb : RdB w a n l) (h32 : l.length = 32) (r : Bool) (hlt : decide (beN l < m.M) = r) :
  Calls Tryz.prog 34 #[.slice a n c] w fun e w' => e = .returned (.tuple #[i4 (beN l), .bool r]) ∧ Fr Nob w w' := by
 have HK := qH hk
 have HOK := qH hk.ok
 clear hk
 have hbl := i0Q l (by omega)
 have HBL := qH hbl
 have h32' : n = 32 := by have := hb.len; omega
 subst h32'
 have HB := qH hb
 have HLT := qH hlt
 have hne : (((32 : Nat) : Int) != 32) = false := by rfl
 clear hb hbl h32 hlt
 have st0 := St.start Nob w
 go_enter Tryz.func34, Tryz.ntmps34
 go_wp2_with (with_reducible refine wSk 2 ?_)
 refine a0b st0 rfl rfl (z := zAd) (by kernel_rfl) (cw 4 0) (by rw [a0f]; rfl) ?_
 intro g2 w1 st1
 clear st0
 go_wp2_with fail
 refine (OfK HK.out _).mono ?_
 rintro e' w2 ⟨gp, rfl, hle, hm, hf2⟩
 have st2 : St Nob w w2 [(g2, cw 4 0, 72), (gp, mdL m, 115)] := st1.new hf2 hm hle
 clear st1 hf2 hm hle
 go_wp2_with fail
 refine (d0J a 32 c l _ (HB.out.still st2.fr) (by decide)).mono ?_
 rintro e' w3 ⟨rfl, hf3⟩
 have st3 := st2.keep hf3
 clear st2 hf3
 go_wp2_with (with_reducible refine wSk 6 ?_)
 refine a0b st3 rfl rfl (z := zAd) (by kernel_rfl) (cw 4 0) (by rw [a0f]; rfl) ?_
 intro g6 w4 st4
 clear st3
 go_wp2_with (with_reducible refine wSn ?_)
 refine a0d st4 2 rfl rfl rfl rfl rfl (by first | (simp only [a0a]; done) | (simp only [List.length_append, a0a, PT.len, a0N]; done)) (by first | (rw [a0a]; kernel_rfl) | (rw [PT.len]; kernel_rfl) | (rw [a0N]; kernel_rfl) | (simp only [List.length_append, a0a]; kernel_rfl) | (simp only [List.length_append, a0a, PT.len, a0N]; kernel_rfl)) (a0i _ _) ?_
 intro w5 st5
 clear st4
 go_wp2_with fail
 refine wp_region_noPanic ?_
 refine a0p (fun wx => St Nob w wx [(g2, cw 4 0, 72), (gp, mdL m, 115), (g6, cw 4 (beN l), 72)]) 7 (.t 0 (.t 1 (.w 2 (.w 3 (.w 4 (.t 5 (.r 6 (.m 7 (.w 8 .nil))))))))) (by kernel_rfl) (by kernel_rfl) st5.drew (fun _ _ _ _ _ h => h) ?_
 have hd5 := st5.drew
 clear st5
 refine a0s rfl rfl rfl rfl (cw 4 (beN l)) (fun wx hS => St.rangeL hS 2 rfl 0 _ dZl) Tryz.underlying72 rfl (by first | (rw [a0a]; kernel_rfl) | (rw [PT.len]; kernel_rfl) | (rw [a0N]; kernel_rfl) | (simp only [List.length_append, a0a]; kernel_rfl) | (simp only [List.length_append, a0a, PT.len, a0N]; kernel_rfl)) ?_
 try simp only [clL]
 refine a0s rfl rfl rfl rfl (cw 4 (beN l)) (fun wx hS => St.rangeL hS 2 rfl 0 _ dZl) Tryz.underlying72 rfl (by first | (rw [a0a]; kernel_rfl) | (rw [PT.len]; kernel_rfl) | (rw [a0N]; kernel_rfl) | (simp only [List.length_append, a0a]; kernel_rfl) | (simp only [List.length_append, a0a, PT.len, a0N]; kernel_rfl)) ?_
 try simp only [clL]
 refine a0l (v := ?_) rfl rfl (fun wx => ?_) ?_
 rotate_left 1
 ·(go_simp; with_reducible rfl)
 try simp only [clL]
 refine a0l (v := ?_) rfl rfl (fun wx => ?_) ?_
 rotate_left 1
 ·(go_simp; with_reducible rfl)
 try simp only [clL]
 refine a0l (v := ?_) rfl rfl (fun wx => ?_) ?_
 rotate_left 1
 ·(go_simp; with_reducible rfl)
 try simp only [clL]
 refine a0s rfl rfl rfl rfl (cw 4 m.M) (fun wx hS => St.rangeL hS 1 rfl 0 _ (m0W m)) Tryz.underlying72 rfl (by first | (rw [a0a]; kernel_rfl) | (rw [PT.len]; kernel_rfl) | (rw [a0N]; kernel_rfl) | (simp only [List.length_append, a0a]; kernel_rfl) | (simp only [List.length_append, a0a, PT.len, a0N]; kernel_rfl)) ?_
 try simp only [clL]
 refine a0A rfl rfl ?_
 go_simp
 refine (h0E (beN l) m.M _ HBL.out HOK.out.lt r HLT.out).mono ?_
 rintro e' w6 ⟨rfl, hf6⟩
 have st6 := hd5.keep hf6
 clear hf6
 clear hd5
 refine ⟨st6, ?_⟩
 try simp only [clL]
 refine a0r rfl rfl ?_
 refine a0j st6 0 rfl rfl rfl rfl (by first | (simp only [a0a]; done) | (simp only [List.length_append, a0a, PT.len, a0N]; done)) (by first | (rw [a0a]; kernel_rfl) | (rw [PT.len]; kernel_rfl) | (rw [a0N]; kernel_rfl) | (simp only [List.length_append, a0a]; kernel_rfl) | (simp only [List.length_append, a0a, PT.len, a0N]; kernel_rfl)) (a0i _ _) ?_
 intro w7 st7
 clear st6
 try simp only [Act.put]
 refine a0l (v := ?_) rfl rfl (fun wx => ?_) ?_
 rotate_left 1
 ·(go_simp; with_reducible rfl)
 try simp only [clL]
 refine a0k ?_
 refine NoPanic.normal ?_
 have hr := st7.at 0 rfl
 have hfr := st7.fr
 clear st7
 go_wp2_with fail
 exact bodyPost_ret (a0Q rfl rfl hr Tryz.underlying72 (by first | (rw [a0a]; kernel_rfl) | (rw [PT.len]; kernel_rfl) | (rw [a0N]; kernel_rfl) | (simp only [List.length_append, a0a]; kernel_rfl) | (simp only [List.length_append, a0a, PT.len, a0N]; kernel_rfl)) rfl) rfl ⟨rfl, hfr⟩
theorem n0N {l : List UInt8} (h : b0R mQ l = true) (a : Option Addr) (n c : Nat) (w : World) (hb : RdB w a n l) : Calls Tryz.prog 34 #[.slice a n c] w fun e w' => e = .returned (.tuple #[i4 (beN l), .bool true]) ∧ Fr Nob w w' := by
 unfold b0R at h
 simp only [Bool.and_eq_true, decide_eq_true_eq] at h
 exact i0z mQ .one a n c l w hb h.1 true (decide_eq_true h.2)
theorem t0Z {l : List UInt8} (h : b0R mQ l = false) (a : Option Addr) (n c : Nat) (w : World) (hb : RdB w a n l) : Calls Tryz.prog 34 #[.slice a n c] w fun e w' => (∃ N, e = .returned (.tuple #[i4 N, .bool false])) ∧ Fr Nob w w' := by
 unfold b0R at h
 by_cases h32 : l.length = 32
 ·rw [decide_eq_true h32, Bool.true_and] at h
  exact (i0z mQ .one a n c l w hb h32 false h).mono fun _ _ t => ⟨⟨_, t.1⟩, t.2⟩
 ·exact (p0f mQ .one a n c l w hb h32).mono fun _ _ t => ⟨⟨_, t.1⟩, t.2⟩
end
end Go.Proofs.YtemcankmggmgoaaGreatDoor
