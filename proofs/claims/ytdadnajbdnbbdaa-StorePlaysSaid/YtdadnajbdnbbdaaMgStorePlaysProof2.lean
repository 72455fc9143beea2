/- the reference's round; Permute, the program's and the reference's; Permute of the reference; Pure sponge: bytes are fed one by one; the sponge and what is hashed with it; Pure sponge: words and their bytes are one; Slice expressions as equations on their runs: to be laid ahead of a walk; absorber.write; Literals of structs and of slices, boxes; The reference's sponge, on bytes: what it computes is the sponge on words; The reference's sponge; absorber.out, and what hashes with it; absorber.frame; the reference's Frame; Hash, stream and Stream of the sponge; sponge.tag and sponge.Tag; mintvaultlaw1.SpongeTurns: the walk of the law; The reference's Hash and Stream; the law SpongeHashes; Arguments that were handed in, opened into the words of Mem; The reference's Tag; One-cell literals of any kind; owned slices and other blocks; Literals of n one-cell elements; loads and stores of structs by value; A log of the sponge, the reference's: NewLog, Say, Ask, Clone; store: plain. What an opening holds, record by record; store: plain. Where the records lie on the disk; append onto an owned slice, once more: what lay ahead of the new cells is kept, in the old block too; What a call knows of the blocks that are its own: one fact for all of them; A region that draws its order, under a condition S on the world that holds till the last operations begin: the head (reads, calls) in an order of the prover's choice, behind it the tail (a store, as a rule) in the text's order. -/
import Derived.Test.YtdadnajbdnbbdaaMgStorePlaysProof1
import Derived.Laws.Tables
import Derived.Great.BuildSlice
import Derived.SliceStrings
import Derived.SizedLaws
import Derived.OpenShut
import Derived.ProofKit
import Derived.OrdersHeld
import Derived.StillTail
import Derived.Deep.MidRow
import Derived.Deep.RegionHeld3
namespace Go.Proofs.Ytdadnajbdnbbdaa
open Go.RowKit Go.Mv Mvp

theorem colR_succ (s : List UInt64) (k : Nat) : colR s (k + 1) = colRrow s (colR s k) k 5 := by simp [colR, List.range_succ]
theorem colRrow_zero (s c : List UInt64) (x : Nat) : colRrow s c x 0 = c := by simp [colRrow]
theorem colRrow_succ (s c : List UInt64) (x k : Nat) : colRrow s c x (k + 1) = colRstep s x (colRrow s c x k) k := by simp [colRrow, List.range_succ]
theorem colRrow_len (s c : List UInt64) (x k : Nat) : (colRrow s c x k).length = c.length := by
  induction k with
  | zero => simp [colRrow]
  | succ k ih => rw [colRrow_succ]; simp [colRstep, ih]
theorem colR_len (s : List UInt64) (k : Nat) : (colR s k).length = 5 := by
  induction k with
  | zero => simp [colR]
  | succ k ih => rw [colR_succ, colRrow_len, ih]
theorem colR_zero (s : List UInt64) : colR s 0 = List.replicate 5 0 := by simp [colR]
theorem movR_succ (s : List UInt64) (t : List Nat) (c : List UInt64) (k : Nat) : movR s t c (k + 1) = movRrow s t (movR s t c k) k (dR c k) 5 := by simp [movR, List.range_succ]
theorem movRrow_zero (s : List UInt64) (t : List Nat) (m : List UInt64) (x : Nat) (d : UInt64) : movRrow s t m x d 0 = m := by simp [movRrow]
theorem movRrow_succ (s : List UInt64) (t : List Nat) (m : List UInt64) (x : Nat) (d : UInt64) (k : Nat) : movRrow s t m x d (k + 1) = movRstep s t x d (movRrow s t m x d k) k := by simp [movRrow, List.range_succ]
theorem movRrow_len (s : List UInt64) (t : List Nat) (m : List UInt64) (x : Nat) (d : UInt64) (k : Nat) : (movRrow s t m x d k).length = m.length := by
  induction k with
  | zero => simp [movRrow]
  | succ k ih => rw [movRrow_succ]; simp [movRstep, ih]
theorem movR_len (s : List UInt64) (t : List Nat) (c : List UInt64) (k : Nat) : (movR s t c k).length = 25 := by
  induction k with
  | zero => simp [movR]
  | succ k ih => rw [movR_succ, movRrow_len, ih]
theorem chiR_succ (m : List UInt64) (k : Nat) : chiR m (k + 1) = chiRrow m (chiR m k) k 5 := by simp [chiR, List.range_succ]
theorem chiRrow_zero (m o : List UInt64) (x : Nat) : chiRrow m o x 0 = o := by simp [chiRrow]
theorem chiRrow_succ (m o : List UInt64) (x k : Nat) : chiRrow m o x (k + 1) = chiRstep m x (chiRrow m o x k) k := by simp [chiRrow, List.range_succ]
theorem chiRrow_len (m o : List UInt64) (x k : Nat) : (chiRrow m o x k).length = o.length := by
  induction k with
  | zero => simp [chiRrow]
  | succ k ih => rw [chiRrow_succ]; simp [chiRstep, ih]
theorem chiR_len (m : List UInt64) (k : Nat) : (chiR m k).length = 25 := by
  induction k with
  | zero => simp [chiR]
  | succ k ih => rw [chiR_succ, chiRrow_len, ih]
theorem place_lt (x y : Nat) : place x y < 25 := by unfold place; omega
theorem info_u64 : (Try.prog.info? 93).map (fun i => (i.zero, i.size, i.bytes)) = some (some (.int .u64 0), 1, 8) := by kernel_rfl
theorem place_same (x y : Nat) (w : World) (hx : x ≤ 200) (hy : y ≤ 200) : Calls Try.prog 66 #[.int .i64 (x : Int), .int .i64 (y : Int)] w fun e w' => e = .returned (.int .i64 ((place x y : Nat) : Int)) ∧ w' = w :=
  (place_any x y w (by omega) (by omega) (by omega) (by omega)).mono (fun _ _ h => ⟨h.1, h.2.symm⟩)

theorem place_diag (x y : Nat) (w : World) (hx : x ≤ 100) (hy : y ≤ 100) : Calls Try.prog 66 #[.int .i64 (y : Int), .int .i64 (2 * (x : Int) + 3 * (y : Int))] w fun e w' => e = .returned (.int .i64 ((place y (2 * x + 3 * y) : Nat) : Int)) ∧ w' = w := by
  refine (place_any (y : Int) (2 * (x : Int) + 3 * (y : Int)) w (by omega) (by omega) (by omega) (by omega)).mono (fun e w' h => ⟨h.1.trans ?_, h.2.symm⟩)
  have e1 : (2 * (x : Int) + 3 * (y : Int)).toNat = 2 * x + 3 * y := by omega
  rw [e1, Int.toNat_natCast]
theorem place_1 (x y : Nat) (w : World) (hx : x ≤ 100) (hy : y ≤ 100) : Calls Try.prog 66 #[.int .i64 ((x : Int) + 1), .int .i64 (y : Int)] w fun e w' => e = .returned (.int .i64 ((place (x + 1) y : Nat) : Int)) ∧ w' = w := place_same (x + 1) y w (by omega) (by omega)
theorem place_2 (x y : Nat) (w : World) (hx : x ≤ 100) (hy : y ≤ 100) : Calls Try.prog 66 #[.int .i64 ((x : Int) + 2), .int .i64 (y : Int)] w fun e w' => e = .returned (.int .i64 ((place (x + 2) y : Nat) : Int)) ∧ w' = w := place_same (x + 2) y w (by omega) (by omega)
theorem left1_any (x : UInt64) (w : World) : Calls Try.prog 67 #[.int .u64 (x.toNat : Int), .int .i64 1] w fun e w' => e = .returned (.int .u64 ((rotl x 1).toNat : Int)) ∧ ∃ n, w' = w.drewN n := left_any x 1 (by omega) w

set_option maxHeartbeats 4000000 in
set_option maxRecDepth 1000000 in
/-- the first loops: the columns -/
theorem round_any (aa ta : Option Addr) (na ca ct : Nat) (S : List UInt64) (c : UInt64) (w : World) (hna : na = 25) (ha : Rd w aa na (ws S)) (ht : Rd w ta 25 (is (turnsK 24))) :
    Calls Try.prog 60 #[.slice aa na ca, .slice ta 25 ct, .int .u64 (c.toNat : Int)] w fun e w' => ∃ g, e = .returned (.slice (some ⟨g, 0, none⟩) 25 25) ∧ w.heap.size ≤ g ∧ Has w' g (ws (roundR (turnsK 24) S c)) 93 ∧ Fr Nob w w' := by
  subst hna
  have hS : S.length = 25 := by have := ha.len; rwa [length_ws] at this
  go_enter Try.func60, Try.ntmps60
  go_wp2_with (at_make; refine wl_make rfl rfl Try.underlying112 info_u64 rfl rfl rfl 5 5 (by simp) (by simp) (by omega) (by omega) (by unfold maxLen; omega) ?_; intro w1 hw1 hf1 hz1)
  have hc1 : Has w1 w.heap.size (ws (colR S 0)) 93 := by rw [colR_zero]; exact hw1
  generalize hgc : w.heap.size = gc at *
  clear hw1
  go_loopw [8] (fun i wr => ∃ x : Nat, x ≤ 5 ∧ i = .int .i64 x ∧ Has wr gc (ws (colR S x)) 93 ∧ Fr Nob w wr) (fun i _ => (5 - intOf i).toNat)
  case atStart => exact ⟨0, by omega, rfl, hc1, hf1⟩
  case round =>
    obtain ⟨x, hx, rfl, hcx, hfx⟩ := hrel
    clear hc1 hf1
    by_cases hlt : x < 5
    · have hltI : (x : Int) < 5 := by omega
      obtain ⟨wo, rfl⟩ : ∃ wo : World, wo = wr := ⟨_, rfl⟩
      go_wp2_with fail
      go_loopw [9] (fun i wr => ∃ y : Nat, y ≤ 5 ∧ i = .int .i64 y ∧ Has wr gc (ws (colRrow S (colR S x) x y)) 93 ∧ Fr Nob w wr) (fun i _ => (5 - intOf i).toNat)
      case atStart => exact ⟨0, by omega, rfl, by rw [colRrow_zero]; exact hcx, hfx⟩
      case round =>
        obtain ⟨y, hy, rfl, hcy, hfy⟩ := hrel
        clear hcx hfx
        by_cases hlt2 : y < 5
        · have hlt2I : (y : Int) < 5 := by omega
          obtain ⟨b, o, rfl, hat⟩ := (ha.still hfy).at (by omega)
          have hs : wr.cell? ⟨b, o + place x y, none⟩ = some (.int .u64 ((S.getD (place x y) 0).toNat : Int)) := hat _ _ (ws_get _ _ (by rw [hS]; exact place_lt x y))
          have hsl : (colRrow S (colR S x) x y).length = 5 := by rw [colRrow_len, colR_len]
          have hc : wr.cell? ⟨gc, x, none⟩ = some (.int .u64 (((colRrow S (colR S x) x y).getD x 0).toNat : Int)) := hcy.cell (ws_get _ _ (by rw [hsl]; exact hlt))
          have hf : wr.frozen? ⟨gc, x, none⟩ = false := hcy.free _ (by rw [length_ws, hsl]; exact hlt)
          have hpl : (0 : Int) ≤ (place x y : Int) ∧ (place x y : Int) < 25 := by have := place_lt x y; omega
          generalize hu : S.getD (place x y) 0 = u at hs
          generalize hv : (colRrow S (colR S x) x y).getD x 0 = v at hc
          have HU := Lib.hid hu; clear hu
          have HV := Lib.hid hv; clear hv
          have HSL := Lib.hid hsl; clear hsl
          have HS := Lib.hid hS; clear hS
          clear hat
          have HGC := Lib.hid hgc; clear hgc
          go_wp2_with fail
          refine wp_region_still_tail 14 (by kernel_rfl) (by kernel_rfl) ?_
          simp only [List.take_succ_cons, List.take_zero, List.drop_succ_cons, List.drop_zero]
          repeat still_step
          still_call (place_same x y _ (by omega) (by omega))
          repeat still_step
          refine wpStill_nil ?_
          go_wp2
          go_roundw
          case rel =>
            have e : colRrow S (colR S x) x (y + 1) = (colRrow S (colR S x) x y).set x (wx v u) := by rw [colRrow_succ, colRstep, HU.out, HV.out]; rfl
            refine ⟨y + 1, by omega, by go_num, ?_, (hfy.setCell _ _ _ _ (fun h => by have := HGC.out; omega)).drew⟩
            rw [e, ← ws_set]
            exact (hcy.set _ _).drew
          case measure => simp [intOf]; omega
        · have hge : ¬ ((y : Int) < 5) := by omega
          have hy5 : y = 5 := by omega
          have HY := Lib.hid hy5; clear hy5
          go_wp2_with fail
          go_roundw
          case rel =>
            rw [HY.out, ← colR_succ] at hcy
            first
              | exact ⟨x + 1, by omega, by go_num, hcy, hfy⟩
              | exact ⟨x + 1, by omega, by omega, hcy⟩
          case measure => simp [intOf]; omega
    · have hge : ¬ ((x : Int) < 5) := by omega
      have hx5 : x = 5 := by omega
      have hcl : (colR S x).length = 5 := colR_len S x
      have hcol : colR S x = colR S 5 := by rw [hx5]
      generalize colR S x = col at *
      have HCOL := Lib.hid hcol; clear hcol hx5
      go_wp2_with (at_make; refine wl_make rfl rfl Try.underlying112 info_u64 rfl rfl rfl 25 25 (by simp) (by simp) (by omega) (by omega) (by unfold maxLen; omega) ?_; intro w2 hw2 hf2 hz2)
      have hm2 : Has w2 wr.heap.size (ws (movR S (turnsK 24) col 0)) 93 := by simpa [movR, ws] using hw2
      have hgm : gc < wr.heap.size := hcx.lt
      have hc2 := hcx.keep hf2 id
      have hfr2 := hfx.same hf2
      have hwm : gc ≤ wr.heap.size := by have := hfx.size; omega
      generalize wr.heap.size = gm at *
      clear hw2 hf2 hz2 hcx hfx
      go_wp2_with fail
      go_loopw [11] (fun i wr => ∃ x : Nat, x ≤ 5 ∧ i = .int .i64 x ∧ Has wr gc (ws col) 93 ∧ Has wr gm (ws (movR S (turnsK 24) col x)) 93 ∧ Fr Nob w wr) (fun i _ => (5 - intOf i).toNat)
      case atStart => exact ⟨0, by omega, rfl, hc2, hm2, hfr2⟩
      case round =>
        obtain ⟨x, hx, rfl, hcx, hmx, hfx⟩ := hrel
        clear hc2 hm2 hfr2
        by_cases hlt3 : x < 5
        · have hlt3I : (x : Int) < 5 := by omega
          obtain ⟨wo, rfl⟩ : ∃ wo : World, wo = wr := ⟨_, rfl⟩
          have hc4 : wo.cell? ⟨gc, (x + 4) % 5, none⟩ = some (.int .u64 ((col.getD ((x + 4) % 5) 0).toNat : Int)) := hcx.cell (ws_get _ _ (by omega))
          have hc1 : wo.cell? ⟨gc, (x + 1) % 5, none⟩ = some (.int .u64 ((col.getD ((x + 1) % 5) 0).toNat : Int)) := hcx.cell (ws_get _ _ (by omega))
          generalize hu : col.getD ((x + 4) % 5) 0 = u at hc4
          generalize hv : col.getD ((x + 1) % 5) 0 = v at hc1
          have HU := Lib.hid hu; clear hu
          have HV := Lib.hid hv; clear hv
          have HCL := Lib.hid hcl; clear hcl
          have HS := Lib.hid hS; clear hS
          have HGC := Lib.hid hgc; clear hgc
          have hlo : (0 : Int) ≤ ((x : Int) + 4) % 5 ∧ ((x : Int) + 4) % 5 < 5 ∧ (0 : Int) ≤ ((x : Int) + 1) % 5 ∧ ((x : Int) + 1) % 5 < 5 := by omega
          go_wp2_with fail
          have e1 : IntKind.i64.wrap ((x : Int) + 4) = (x : Int) + 4 := IntWalk.i64_in _ (by omega)
          have e2 : ((x : Int) + 4).tmod 5 = ((x : Int) + 4) % 5 := Int.tmod_eq_emod_of_nonneg (by omega)
          have e3 : (((x : Int) + 4) % 5).toNat = (x + 4) % 5 := by omega
          have e4 : IntKind.i64.wrap ((x : Int) + 1) = (x : Int) + 1 := IntWalk.i64_in _ (by omega)
          have e5 : ((x : Int) + 1).tmod 5 = ((x : Int) + 1) % 5 := Int.tmod_eq_emod_of_nonneg (by omega)
          have e6 : (((x : Int) + 1) % 5).toNat = (x + 1) % 5 := by omega
          go_quiet ((go_at_call 67; exact Calls.quiet_of (left1_any _ _)))
          clear e1 e2 e3 e4 e5 e6
          go_wp2_with fail
          have hcz := hcx.drewN nq
          have hmz := hmx.drewN nq
          have hfz := hfx.drewN nq
          generalize wo.drewN nq = wz at *
          clear hcx hmx hfx hc4 hc1 wo
          have hmb := hmz.lt
          have hd : wx u (rotl v 1) = dR col x := by rw [dR, HU.out, HV.out]; rfl
          generalize wx u (rotl v 1) = d at *
          have HD := Lib.hid hd; clear hd
          go_loopw [13] (fun i wr => ∃ y : Nat, y ≤ 5 ∧ i = .int .i64 y ∧ Has wr gc (ws col) 93 ∧ Has wr gm (ws (movRrow S (turnsK 24) (movR S (turnsK 24) col x) x d y)) 93 ∧ Fr Nob w wr) (fun i _ => (5 - intOf i).toNat)
          case atStart => exact ⟨0, by omega, rfl, hcz, by rw [movRrow_zero]; exact hmz, hfz⟩
          case round =>
            obtain ⟨y, hy, rfl, hcy, hmy, hfy⟩ := hrel
            clear hcz hmz hfz
            by_cases hlt4 : y < 5
            · have hlt4I : (y : Int) < 5 := by omega
              obtain ⟨b, o, rfl, hat⟩ := (ha.still hfy).at (by omega)
              obtain ⟨tb, to, rfl, tat⟩ := (ht.still hfy).at (by omega)
              have hnb : b ≠ gm := by have := ha.lt (by omega); have := HGC.out; omega
              have hnt : tb ≠ gm := by have := ht.lt (by omega); have := HGC.out; omega
              have hs : wr.cell? ⟨b, o + place x y, none⟩ = some (.int .u64 ((S.getD (place x y) 0).toNat : Int)) := hat _ _ (ws_get _ _ (by rw [HS.out]; exact place_lt x y))
              have htu : wr.cell? ⟨tb, to + place x y, none⟩ = some (.int .i64 (((turnsK 24).getD (place x y) 0 : Nat) : Int)) := tat _ _ (is_get _ _ (by rw [turnsK_len]; exact place_lt x y))
              have htl : (turnsK 24).getD (place x y) 0 < 64 := turns_lt _
              have hpl := place_lt x y
              have hpl2 := place_lt y (2 * x + 3 * y)
              obtain ⟨v0, hc0, hf0⟩ := hmy.ready (i := place y (2 * x + 3 * y)) (by rw [length_ws, movRrow_len, movR_len]; exact hpl2)
              have hpi : (0 : Int) ≤ (place x y : Int) ∧ (place x y : Int) < 25 ∧ (0 : Int) ≤ (place y (2 * x + 3 * y) : Int) ∧ (place y (2 * x + 3 * y) : Int) < 25 := by omega
              generalize hsv : S.getD (place x y) 0 = sv at hs
              generalize htv : (turnsK 24).getD (place x y) 0 = tv at htu htl
              have HSV := Lib.hid hsv; clear hsv
              have HTV := Lib.hid htv; clear htv
              clear hat tat hpl hpl2
              go_wp2_with fail
              have e1 : IntKind.i64.wrap (2 * (x : Int)) = 2 * (x : Int) := IntWalk.i64_in _ (by omega)
              have e2 : IntKind.i64.wrap (3 * (y : Int)) = 3 * (y : Int) := IntWalk.i64_in _ (by omega)
              have e3 : IntKind.i64.wrap (2 * (x : Int) + 3 * (y : Int)) = 2 * (x : Int) + 3 * (y : Int) := IntWalk.i64_in _ (by omega)
              go_region_held3 (fun w' => w'.cell? ⟨b, o + place x y, none⟩ = some (.int .u64 (sv.toNat : Int)) ∧ w'.cell? ⟨tb, to + place x y, none⟩ = some (.int .i64 (tv : Int))) (first | go_keep | (refine ⟨?_, ?_⟩ <;> (rw [cell_other _ _ _ _ _ _ (by assumption)]; assumption)))
                (first | (go_at_call_of 66 (Value.int .i64 (x : Int)); refine (place_same x y _ (by omega) (by omega)).mono ?_; rintro e w' ⟨rfl, rfl⟩) | (go_at_call 67; refine (left_any _ _ htl _).mono ?_; rintro e w' ⟨rfl, nl, rfl⟩) | (go_at_call 66; refine (place_diag x y _ (by omega) (by omega)).mono ?_; rintro e w' ⟨rfl, rfl⟩))
              all_goals go_wp2
              go_roundw
              case rel =>
                have e : movRrow S (turnsK 24) (movR S (turnsK 24) col x) x d (y + 1) = (movRrow S (turnsK 24) (movR S (turnsK 24) col x) x d y).set (place y (2 * x + 3 * y)) (rotl (wx sv d) tv) := by
                  rw [movRrow_succ, movRstep, HSV.out, HTV.out]; rfl
                refine ⟨y + 1, by omega, by go_num, (hcy.drewN _).other _ _ _ (by omega), ?_, (hfy.drewN _).setCell _ _ _ _ (fun h => by have := HGC.out; omega)⟩
                rw [e, ← ws_set]
                exact (hmy.drewN _).set _ _
              case measure => simp [intOf]; omega
            · have hge : ¬ ((y : Int) < 5) := by omega
              have hy5 : y = 5 := by omega
              have HY := Lib.hid hy5; clear hy5
              go_wp2_with fail
              go_roundw
              case rel =>
                rw [HY.out, HD.out, ← movR_succ] at hmy
                first
                  | exact ⟨x + 1, by omega, by go_num, hcy, hmy, hfy⟩
                  | exact ⟨x + 1, by omega, by omega, hmy⟩
              case measure => simp [intOf]; omega
        · have hge : ¬ ((x : Int) < 5) := by omega
          have hx5 : x = 5 := by omega
          have hml : (movR S (turnsK 24) col x).length = 25 := movR_len _ _ _ _
          have hmv : movR S (turnsK 24) col x = movR S (turnsK 24) (colR S 5) 5 := by rw [hx5, HCOL.out]
          generalize movR S (turnsK 24) col x = mv at *
          have HMV := Lib.hid hmv; clear hmv hx5
          have HGC := Lib.hid hgc; clear hgc
          have HS := Lib.hid hS; clear hS
          have HCL := Lib.hid hcl; clear hcl
          have hgb : gc ≤ wr.heap.size := by have := hfx.size; have := HGC.out; omega
          go_wp2_with (at_make; refine wl_make rfl rfl Try.underlying112 info_u64 rfl rfl rfl 25 25 (by simp) (by simp) (by omega) (by omega) (by unfold maxLen; omega) ?_; intro w3 hw3 hf3 hz3)
          have ho3 : Has w3 wr.heap.size (ws (chiR mv 0)) 93 := by simpa [chiR, ws] using hw3
          have hgo : gm < wr.heap.size := hmx.lt
          have hm3 := hmx.keep hf3 id
          have hfr3 := hfx.same hf3
          generalize wr.heap.size = go at *
          clear hw3 hf3 hz3 hcx hmx hfx
          go_wp2_with fail
          go_loopw [15] (fun i wr => ∃ x : Nat, x ≤ 5 ∧ i = .int .i64 x ∧ Has wr gm (ws mv) 93 ∧ Has wr go (ws (chiR mv x)) 93 ∧ Fr Nob w wr) (fun i _ => (5 - intOf i).toNat)
          case atStart => exact ⟨0, by omega, rfl, hm3, ho3, hfr3⟩
          case round =>
            obtain ⟨x, hx, rfl, hmx, hox, hfx⟩ := hrel
            clear hm3 ho3 hfr3
            by_cases hlt5 : x < 5
            · have hlt5I : (x : Int) < 5 := by omega
              obtain ⟨wo, rfl⟩ : ∃ wo : World, wo = wr := ⟨_, rfl⟩
              go_wp2_with fail
              go_loopw [16] (fun i wr => ∃ y : Nat, y ≤ 5 ∧ i = .int .i64 y ∧ Has wr gm (ws mv) 93 ∧ Has wr go (ws (chiRrow mv (chiR mv x) x y)) 93 ∧ Fr Nob w wr) (fun i _ => (5 - intOf i).toNat)
              case atStart => exact ⟨0, by omega, rfl, hmx, by rw [chiRrow_zero]; exact hox, hfx⟩
              case round =>
                obtain ⟨y, hy, rfl, hmy, hoy, hfy⟩ := hrel
                clear hmx hox hfx
                by_cases hlt6 : y < 5
                · have hlt6I : (y : Int) < 5 := by omega
                  have hp0 := place_lt x y
                  have hp1 := place_lt (x + 1) y
                  have hp2 := place_lt (x + 2) y
                  have h0 : wr.cell? ⟨gm, place x y, none⟩ = some (.int .u64 ((mv.getD (place x y) 0).toNat : Int)) := hmy.cell (ws_get _ _ (by omega))
                  have h1 : wr.cell? ⟨gm, place (x + 1) y, none⟩ = some (.int .u64 ((mv.getD (place (x + 1) y) 0).toNat : Int)) := hmy.cell (ws_get _ _ (by omega))
                  have h2 : wr.cell? ⟨gm, place (x + 2) y, none⟩ = some (.int .u64 ((mv.getD (place (x + 2) y) 0).toNat : Int)) := hmy.cell (ws_get _ _ (by omega))
                  obtain ⟨v0, hc0, hf0⟩ := hoy.ready (i := place x y) (by rw [length_ws, chiRrow_len, chiR_len]; exact hp0)
                  have hpi : (0 : Int) ≤ (place x y : Int) ∧ (place x y : Int) < 25 ∧ (0 : Int) ≤ (place (x + 1) y : Int) ∧ (place (x + 1) y : Int) < 25 ∧ (0 : Int) ≤ (place (x + 2) y : Int) ∧ (place (x + 2) y : Int) < 25 := by omega
                  generalize hv0 : mv.getD (place x y) 0 = y0 at h0
                  generalize hv1 : mv.getD (place (x + 1) y) 0 = y1 at h1
                  generalize hv2 : mv.getD (place (x + 2) y) 0 = y2 at h2
                  have HV0 := Lib.hid hv0; clear hv0
                  have HV1 := Lib.hid hv1; clear hv1
                  have HV2 := Lib.hid hv2; clear hv2
                  have HML := Lib.hid hml; clear hml hp0 hp1 hp2
                  go_wp2_with fail
                  have e1 : IntKind.i64.wrap ((x : Int) + 1) = (x : Int) + 1 := IntWalk.i64_in _ (by omega)
                  have e2 : IntKind.i64.wrap ((x : Int) + 2) = (x : Int) + 2 := IntWalk.i64_in _ (by omega)
                  refine wp_region_still_tail 28 (by kernel_rfl) (by kernel_rfl) ?_
                  simp only [List.take_succ_cons, List.take_zero, List.drop_succ_cons, List.drop_zero]
                  repeat still_step
                  still_call (place_same x y _ (by omega) (by omega))
                  repeat still_step
                  still_call (place_same x y _ (by omega) (by omega))
                  repeat still_step
                  still_call (place_1 x y _ (by omega) (by omega))
                  repeat still_step
                  still_call (place_2 x y _ (by omega) (by omega))
                  repeat still_step
                  refine wpStill_nil ?_
                  go_wp2
                  go_roundw
                  case rel =>
                    have e : chiRrow mv (chiR mv x) x (y + 1) = (chiRrow mv (chiR mv x) x y).set (place x y) (wx y0 (wa (wn y1) y2)) := by
                      rw [chiRrow_succ, chiRstep, HV0.out, HV1.out, HV2.out]; rfl
                    refine ⟨y + 1, by omega, by go_num, (hmy.other _ _ _ (by omega)).drew, ?_, (hfy.setCell _ _ _ _ (fun h => by have := HGC.out; omega)).drew⟩
                    rw [e, ← ws_set]
                    exact (hoy.set _ _).drew
                  case measure => simp [intOf]; omega
                · have hge : ¬ ((y : Int) < 5) := by omega
                  have hy5 : y = 5 := by omega
                  have HY := Lib.hid hy5; clear hy5
                  go_wp2_with fail
                  go_roundw
                  case rel =>
                    rw [HY.out, ← chiR_succ] at hoy
                    first
                      | exact ⟨x + 1, by omega, by go_num, hmy, hoy, hfy⟩
                      | exact ⟨x + 1, by omega, by omega, hoy⟩
                  case measure => simp [intOf]; omega
            · have hge : ¬ ((x : Int) < 5) := by omega
              have hx5 : x = 5 := by omega
              have hol : (chiR mv x).length = 25 := chiR_len mv x
              have hcell : wr.cell? ⟨go, 0, none⟩ = some (.int .u64 (((chiR mv x).getD 0 0).toNat : Int)) := hox.cell (ws_get _ _ (by omega))
              have hfree : wr.frozen? ⟨go, 0, none⟩ = false := hox.free _ (by rw [length_ws]; omega)
              generalize hu : (chiR mv x).getD 0 0 = u at hcell
              have HU := Lib.hid hu; clear hu
              have HX5 := Lib.hid hx5; clear hx5
              have HOL := Lib.hid hol; clear hol
              have HML := Lib.hid hml; clear hml
              go_wp2_with fail
              try go_region
              all_goals go_wp2
              go_ret
              have e : roundR (turnsK 24) S c = (chiR mv x).set 0 (wx u c) := by
                rw [roundR, ← HMV.out, ← HX5.out, HU.out]; rfl
              refine ⟨go, rfl, by have := HGC.out; omega, ?_, hfx.setCell _ _ _ _ (fun h => by have := HGC.out; omega)⟩
              rw [e, ← ws_set]
              exact hox.set _ _
end Go.Proofs.Ytdadnajbdnbbdaa

/- Permute, the program's and the reference's -/
namespace Go.Proofs.Ytdadnajbdnbbdaa
open Go.RowKit Go.Mv Mvp

end Go.Proofs.Ytdadnajbdnbbdaa

/- Permute of the reference -/
namespace Go.Proofs.Ytdadnajbdnbbdaa
open Go.RowKit Go.Mv Mvp

theorem roundR_len (t : List Nat) (s : List UInt64) (c : UInt64) : (roundR t s c).length = 25 := by simp [roundR, chiR_len]
theorem permR_len (t : List Nat) (rc : Nat → UInt64) (s : List UInt64) (k : Nat) (h : s.length = 25) : (permR t rc s k).length = 25 := by
  cases k with
  | zero => simpa [permR] using h
  | succ k => rw [permR_succ, roundR_len]

set_option maxHeartbeats 2000000 in
set_option maxRecDepth 1000000 in
theorem permuteR_any (s : ByteArray) (w : World) (hs : s.size = 200) :
    Calls Try.prog 54 #[.string s] w fun e w' => e = .returned (.string (mkS (permB s.data.toList))) ∧ Fr Nob w w' := by
  have hsb : s.size ≤ 200 := by omega
  have HSZ := Lib.hid hs; clear hs
  go_enter Try.func54, Try.ntmps54
  go_wp2_with (at_make; refine wl_make rfl rfl Try.underlying112 info_u64 rfl rfl rfl 25 25 (by simp) (by simp) (by omega) (by omega) (by unfold maxLen; omega) ?_; intro w1 hw1 hf1 hz1)
  have ha1 : Has w1 w.heap.size (ws (orB zeros25 s.data.toList 0)) 93 := by simpa [orB, zeros25, ws] using hw1
  generalize hga : w.heap.size = ga at *
  clear hw1
  have HGA := Lib.hid hga; clear hga
  go_loopw [4] (fun i wr => ∃ k : Nat, k ≤ 200 ∧ i = .int .i64 k ∧ Has wr ga (ws (orB zeros25 s.data.toList k)) 93 ∧ Fr Nob w wr) (fun i _ => (200 - intOf i).toNat)
  case atStart => exact ⟨0, by omega, rfl, ha1, hf1⟩
  case round =>
    obtain ⟨k, hk, rfl, hak, hf⟩ := hrel
    clear ha1 hf1 hz1
    by_cases hlt : k < 200
    · have hltI : (k : Int) < 200 := by omega
      have hol : (orB zeros25 s.data.toList k).length = 25 := by rw [orB_len]; simp [zeros25]
      have hx : ∀ h1 : k < s.size, s[k]'h1 = s.data.toList.getD k 0 := by
        intro h1
        rw [List.getD_eq_getElem?_getD, List.getElem?_eq_getElem (by simpa using h1)]
        simp
        rfl
      have hc : wr.cell? ⟨ga, k / 8, none⟩ = some (.int .u64 (((orB zeros25 s.data.toList k).getD (k / 8) 0).toNat : Int)) := hak.cell (ws_get _ _ (by omega))
      have hfz : wr.frozen? ⟨ga, k / 8, none⟩ = false := hak.free _ (by rw [length_ws]; omega)
      have hlo : (0 : Int) ≤ (k : Int) / 8 ∧ (k : Int) / 8 < 25 := by omega
      generalize hy : (orB zeros25 s.data.toList k).getD (k / 8) 0 = y at hc
      generalize hxx : s.data.toList.getD k 0 = x at hx
      have HY := Lib.hid hy; clear hy
      have HX := Lib.hid hxx; clear hxx
      have HOL := Lib.hid hol; clear hol
      go_wp2_with fail
      have e1 : IntKind.i64.wrap ((k : Int) / 8) = (k : Int) / 8 := IntWalk.i64_in _ (by omega)
      have hks : (k : Int) < (s.size : Int) := by have := HSZ.out; omega
      have e2 : (k : Int).tmod 8 = (k : Int) % 8 := Int.tmod_eq_emod_of_nonneg (by omega)
      have e3 : IntKind.i64.wrap (8 * ((k : Int) % 8)) = 8 * ((k : Int) % 8) := IntWalk.i64_in _ (by omega)
      have e4 : ((k : Int) / 8).toNat = k / 8 := by omega
      refine wp_region_still_tail 18 (by kernel_rfl) (by kernel_rfl) ?_
      simp only [List.take_succ_cons, List.take_zero, List.drop_succ_cons, List.drop_zero]
      repeat still_step
      refine wpStill_nil ?_
      go_wp2
      go_roundw
      case rel =>
        have e : orB zeros25 s.data.toList (k + 1) = (orB zeros25 s.data.toList k).set (k / 8) (wo y (shl (wid x) (8 * (k % 8)))) := by
          rw [orB_succ, orStep, HX.out, HY.out]
        refine ⟨k + 1, by omega, by go_num, ?_, (hf.setCell _ _ _ _ (fun h => by have := HGA.out; omega)).drew⟩
        rw [e, ← ws_set]
        exact (hak.set _ _).drew
      case measure => simp [intOf]; omega
    · have hge : ¬ ((k : Int) < 200) := by omega
      have hk200 : k = 200 := by omega
      have hor : orB zeros25 s.data.toList k = xorB zeros25 s.data.toList 200 := by rw [hk200]; exact (or_same s.data.toList 200 (by omega)).1
      rw [hor] at hak
      have hsl : (xorB zeros25 s.data.toList 200).length = 25 := by rw [xorB_len]; simp [zeros25]
      have hpb : permB s.data.toList = toB (permR (turnsK 24) (fun r => rcR r 7) (xorB zeros25 s.data.toList 200) 24) 200 := by rw [permR_eq _ hsl]; rfl
      generalize xorB zeros25 s.data.toList 200 = S at *
      clear hor hk200
      have HPB := Lib.hid hpb; clear hpb
      have HSL := Lib.hid hsl; clear hsl
      go_wp2_with fail
      refine (offsets_any _).mono ?_
      rintro e w2 ⟨rfl, ht2, hf2⟩
      have ha2 := hak.keep hf2 id
      have hfr2 := hf.then hf2
      generalize wr.heap.size = gt at *
      clear hak hf hf2
      go_wp2_with fail
      go_loopw [3, 6] (fun v i wr => ∃ (r g : Nat), r ≤ 24 ∧ i = .int .i64 r ∧ v = .slice (some ⟨g, 0, none⟩) 25 25 ∧ Has wr g (ws (permR (turnsK 24) (fun r => rcR r 7) S r)) 93 ∧ Has wr gt (is (turnsK 24)) 3 ∧ Fr Nob w wr) (fun _ i _ => (24 - intOf i).toNat)
      case atStart => exact ⟨0, ga, by omega, rfl, rfl, by simpa [permR] using ha2, ht2, hfr2⟩
      case round =>
        obtain ⟨r, g, hr, rfl, rfl, hgr, htr, hfr⟩ := hrel
        clear ha2 ht2 hfr2
        by_cases hlt2 : r < 24
        · have hlt2I : (r : Int) < 24 := by omega
          have hpl : (permR (turnsK 24) (fun r => rcR r 7) S r).length = 25 := permR_len _ _ _ _ HSL.out
          go_wp2_with fail
          refine (constR_any r hlt2 _).mono ?_
          rintro e w' ⟨rfl, rfl⟩
          go_wp2_with fail
          refine (round_any _ _ 25 _ _ (permR (turnsK 24) (fun r => rcR r 7) S r) (rcR r 7) _ rfl (by have := Rd.whole hgr; rwa [length_ws, hpl] at this) (by have := Rd.whole htr; rwa [length_is, turnsK_len] at this)).mono ?_
          rintro e w3 ⟨g3, rfl, hg3, hh3, hf3⟩
          go_wp2_with fail
          go_roundw
          case rel => exact ⟨r + 1, g3, by omega, by go_num, rfl, by rw [permR_succ]; exact hh3, htr.keep hf3 id, hfr.then hf3⟩
          case measure => simp [intOf]; omega
        · have hge2 : ¬ ((r : Int) < 24) := by omega
          have hr24 : r = 24 := by omega
          have hpl : (permR (turnsK 24) (fun r => rcR r 7) S r).length = 25 := permR_len _ _ _ _ HSL.out
          have hpb2 : permB s.data.toList = toB (permR (turnsK 24) (fun r => rcR r 7) S r) 200 := by rw [HPB.out, hr24]
          generalize permR (turnsK 24) (fun r => rcR r 7) S r = R at *
          have HPB2 := Lib.hid hpb2; clear hpb2
          clear hr24 htr
          go_wp2_with (at_make; refine wl_make rfl rfl Try.underlying22 info_u8 rfl rfl rfl 200 200 (by simp) (by simp) (by omega) (by omega) (by unfold maxLen; omega) ?_; intro w4 hw4 hf4 hz4)
          have hgo : g < wr.heap.size := hgr.lt
          have hgb : w.heap.size ≤ wr.heap.size := hfr.size
          have ho4 : Has w4 wr.heap.size (bs (fill (toB R 200) (List.replicate 200 0) 0)) 5 := by rw [fill_zero]; simpa [bs] using hw4
          have hg4 := hgr.keep hf4 id
          have hfr4 := hfr.then hf4
          generalize wr.heap.size = go at *
          clear hw4 hf4 hz4 hgr hfr
          go_wp2_with fail
          go_loopw [8] (fun i wr => ∃ k : Nat, k ≤ 200 ∧ i = .int .i64 k ∧ Has wr go (bs (fill (toB R 200) (List.replicate 200 0) k)) 5 ∧ Has wr g (ws R) 93 ∧ Fr Nob w wr) (fun i _ => (200 - intOf i).toNat)
          case atStart => exact ⟨0, by omega, rfl, ho4, hg4, hfr4⟩
          case round =>
            obtain ⟨k, hk, rfl, hh, hg2, hf⟩ := hrel
            clear ho4 hg4 hfr4
            by_cases hlt3 : k < 200
            · have hlt3I : (k : Int) < 200 := by omega
              obtain ⟨v0, hc0, hfr0⟩ := hh.ready (i := k) (by rw [length_bs, fill_length _ _ _ (by simp [toB_len])]; simpa using hlt3)
              have hc : wr.cell? ⟨g, k / 8, none⟩ = some (.int .u64 ((R.getD (k / 8) 0).toNat : Int)) := hg2.cell (ws_get _ _ (by omega))
              have hlo : (0 : Int) ≤ (k : Int) / 8 ∧ (k : Int) / 8 < 25 := by omega
              generalize hy : R.getD (k / 8) 0 = y at hc
              have HY := Lib.hid hy; clear hy
              have HPL := Lib.hid hpl; clear hpl
              go_wp2
              go_roundw
              case rel =>
                have e : (toB R 200).getD k 0 = lo8 (shr y (8 * (k % 8))) := by rw [toB_at R 200 k hlt3, sByte, HY.out]
                refine ⟨k + 1, by omega, by go_num, ?_, hg2.other _ _ _ (by omega), hf.setCell _ _ _ _ (fun h => absurd h (by omega))⟩
                rw [← e]
                exact hh.fillB (by simp [toB_len]) (by simpa [toB_len] using hlt3)
              case measure => simp [intOf]; omega
            · have hge3 : ¬ ((k : Int) < 200) := by omega
              rw [fill_all _ _ _ (by simp [toB_len]) (by simp [toB_len]; omega)] at hh
              go_wp2_with (with_reducible refine wl_stop (o := ⟨some 61, _, _, _, _, _⟩) ?_)
              refine wl_string rfl rfl Try.underlying22 Try.underlying5 Try.underlying9 rfl (l := toB R 200) (by have := Rd.whole hh; rwa [length_bs, toB_len] at this) ?_
              go_wp2
              go_ret
              exact ⟨by rw [HPB2.out]; rfl, hf⟩
end Go.Proofs.Ytdadnajbdnbbdaa

/- Pure sponge: bytes are fed one by one; the sponge and what is hashed with it. -/
namespace Mvp

/-- one more byte: at the end of a piece the state is turned -/
def feed1 (st : List UInt64 × Nat) (x : UInt8) : List UInt64 × Nat :=
  if st.2 + 1 = 136 then (permS (xorStep st.1 st.2 x), 0) else (xorStep st.1 st.2 x, st.2 + 1)
def feed (st : List UInt64 × Nat) (l : List UInt8) : List UInt64 × Nat := l.foldl feed1 st
theorem feed_append (st : List UInt64 × Nat) (l m : List UInt8) : feed st (l ++ m) = feed (feed st l) m := by simp [feed]
theorem feed_nil (st : List UInt64 × Nat) : feed st [] = st := rfl
theorem feed_cons (st : List UInt64 × Nat) (x : UInt8) (l : List UInt8) : feed st (x :: l) = feed (feed1 st x) l := rfl

/-- bytes are added from place k on -/
def xorAt : List UInt64 → Nat → List UInt8 → List UInt64
  | S, _, [] => S
  | S, k, x :: l => xorAt (xorStep S k x) (k + 1) l
theorem xorStep_len (S : List UInt64) (k : Nat) (x : UInt8) : (xorStep S k x).length = S.length := by simp [xorStep]
theorem xorAt_len (l : List UInt8) : ∀ (S : List UInt64) (k : Nat), (xorAt S k l).length = S.length := by
  induction l with
  | nil => intro S k; rfl
  | cons x l ih => intro S k; rw [xorAt, ih, xorStep_len]
theorem feed_short (l : List UInt8) : ∀ (S : List UInt64) (k : Nat), k + l.length < 136 → feed (S, k) l = (xorAt S k l, k + l.length) := by
  induction l with
  | nil => intro S k _; rfl
  | cons x l ih =>
    intro S k h
    simp only [List.length_cons] at h
    rw [feed_cons, feed1, if_neg (by simp; omega), ih _ _ (by simp; omega), xorAt]
    simp; omega
theorem feed_full (l : List UInt8) : ∀ (S : List UInt64) (k : Nat), k + l.length = 136 → k < 136 → feed (S, k) l = (permS (xorAt S k l), 0) := by
  induction l with
  | nil => intro S k h h'; simp at h; omega
  | cons x l ih =>
    intro S k h h'
    simp only [List.length_cons] at h
    by_cases hl : l = []
    · subst hl
      simp at h
      rw [feed_cons, feed1, if_pos (by simp; omega), feed_nil]
      rfl
    · have hp : 0 < l.length := List.length_pos_iff.2 hl
      rw [feed_cons, feed1, if_neg (by simp; omega), ih _ _ (by simp; omega) (by simp; omega), xorAt]
theorem feed_lt (l : List UInt8) : ∀ (st : List UInt64 × Nat), st.2 < 136 → (feed st l).2 < 136 := by
  induction l with
  | nil => intro st h; exact h
  | cons x l ih =>
    intro st h
    rw [feed_cons]
    apply ih
    unfold feed1
    split
    · simp
    · simp; omega
theorem feed_len (l : List UInt8) : ∀ (st : List UInt64 × Nat), (feed st l).1.length = st.1.length := by
  induction l with
  | nil => intro st; rfl
  | cons x l ih =>
    intro st
    rw [feed_cons, ih]
    unfold feed1
    split
    · simp [permS_len, xorStep_len]
    · simp [xorStep_len]

theorem xorStep_zero (S : List UInt64) (k : Nat) : xorStep S k 0 = S := by
  have e : shl (wid 0) (8 * (k % 8)) = 0 := by
    apply UInt64.toNat_inj.1
    simp [shl, wid]
  unfold xorStep
  rw [e]
  have e2 : wx (S.getD (k / 8) 0) 0 = S.getD (k / 8) 0 := by simp [wx]
  rw [e2]
  rcases Nat.lt_or_ge (k / 8) S.length with h | h
  · have e3 : S.getD (k / 8) 0 = S[k / 8] := by simp [List.getD_eq_getElem?_getD, h]
    rw [e3]; simp
  · exact List.set_eq_of_length_le h
/-- the bytes of b are added, the first ones being 0 -/
theorem xorB_eq (S : List UInt64) (b : List UInt8) (n : Nat) : n ≤ b.length → xorB S b n = xorAt S 0 (b.take n) := by
  have key : ∀ (l : List UInt8) (S : List UInt64) (k : Nat) (x : UInt8), xorAt S k (l ++ [x]) = xorStep (xorAt S k l) (k + l.length) x := by
    intro l
    induction l with
    | nil => intro S k x; rfl
    | cons y l ih =>
      intro S k x
      rw [List.cons_append, xorAt, ih, xorAt]
      simp [Nat.add_assoc, Nat.add_comm 1]
  induction n with
  | zero => intro _; simp [xorB, xorAt]
  | succ n ih =>
    intro h
    have hn : n < b.length := by omega
    rw [xorB_succ, ih (by omega), List.take_succ_eq_append_getElem hn, key]
    congr 1
    · simp; omega
    · simp [List.getD_eq_getElem?_getD, hn]
theorem xorAt_zeros (S : List UInt64) (k : Nat) (l : List UInt8) : ∀ j, xorAt S j (List.replicate k 0 ++ l) = xorAt S (j + k) l := by
  induction k with
  | zero => intro j; simp
  | succ k ih =>
    intro j
    rw [List.replicate_succ, List.cons_append, xorAt, xorStep_zero, ih, Nat.add_assoc, Nat.add_comm 1 k]
/-- a piece with its bytes from place k on -/
theorem xorB_piece (S : List UInt64) (k : Nat) (l rest : List UInt8) : xorB S (List.replicate k 0 ++ l ++ rest) (k + l.length) = xorAt S k l := by
  rw [xorB_eq _ _ _ (by simp), List.take_left' (by simp), xorAt_zeros]
  simp

/- the sponge -/
attribute [local irreducible] permS toB
/-- what ends the text: so many bytes are in the last piece -/
def padL (k : Nat) (e : UInt8) : List UInt8 := ((e :: List.replicate (135 - k) 0).set (135 - k) (bx (((e :: List.replicate (135 - k) 0)).getD (135 - k) 0) 0x80))
theorem padL_len (k : Nat) (e : UInt8) (h : k < 136) : (padL k e).length = 136 - k := by simp [padL]; omega
/-- the state behind the text -/
def ended (st : List UInt64 × Nat) (e : UInt8) : List UInt64 := (feed st (padL st.2 e)).1
/-- k pieces of the answer -/
def squeeze (S : List UInt64) : Nat → List UInt8
  | 0 => []
  | k + 1 => toB S 136 ++ squeeze (permS S) k
def permN (S : List UInt64) : Nat → List UInt64
  | 0 => S
  | k + 1 => permN (permS S) k
theorem permN_succ (k : Nat) : ∀ (S : List UInt64), permN S (k + 1) = permS (permN S k) := by
  induction k with
  | zero => intro S; rfl
  | succ k ih => intro S; rw [permN, ih]; rfl
theorem permN_len (k : Nat) : ∀ (S : List UInt64), (permN S k).length = S.length := by
  induction k with
  | zero => intro S; rfl
  | succ k ih => intro S; rw [permN, ih, permS_len]
theorem squeeze_len (k : Nat) : ∀ (S : List UInt64), (squeeze S k).length = 136 * k := by
  induction k with
  | zero => intro S; rfl
  | succ k ih => intro S; rw [squeeze, List.length_append, toB_len, ih]; omega
theorem squeeze_succ (k : Nat) : ∀ (S : List UInt64), squeeze S (k + 1) = squeeze S k ++ toB (permN S k) 136 := by
  induction k with
  | zero => intro S; simp [squeeze, permN]
  | succ k ih => intro S; rw [squeeze, ih (permS S)]; rw [squeeze, permN, List.append_assoc]
/-- enough pieces for n bytes -/
def pieces (n : Nat) : Nat := (n + 135) / 136
def outB (S : List UInt64) (n : Nat) : List UInt8 := (squeeze S (pieces n)).take n
theorem outB_len (S : List UInt64) (n : Nat) : (outB S n).length = n := by
  simp only [outB, List.length_take, squeeze_len, pieces]; omega
/-- n bytes of the sponge -/
def spongeB (l : List UInt8) (e : UInt8) (n : Nat) : List UInt8 := outB (ended (feed (zeros25, 0) l) e) n
theorem spongeB_len (l : List UInt8) (e : UInt8) (n : Nat) : (spongeB l e n).length = n := outB_len _ _
end Mvp

/- Pure sponge: words and their bytes are one. -/
namespace Mvp

theorem lo8_shr_toNat (a : UInt64) (k : Nat) : (lo8 (shr a k)).toNat = a.toNat / 2 ^ k % 256 := by
  have h : a.toNat / 2 ^ k < 18446744073709551616 := Nat.lt_of_le_of_lt (Nat.div_le_self _ _) a.toNat_lt
  simp only [lo8, shr, UInt64.toNat_toUInt8, UInt64.toNat_ofNat']
  omega
theorem byte_bit (a : UInt64) (k i : Nat) : (lo8 (shr a k)).toNat.testBit i = (decide (i < 8) && a.toNat.testBit (i + k)) := by
  rw [lo8_shr_toNat, show (256 : Nat) = 2 ^ 8 from rfl, Nat.testBit_mod_two_pow, Nat.testBit_div_two_pow]
theorem byte_big (x : UInt8) (i : Nat) (h : 8 ≤ i) : x.toNat.testBit i = false :=
  Nat.testBit_lt_two_pow (Nat.lt_of_lt_of_le x.toNat_lt (by have := Nat.pow_le_pow_right (show 0 < 2 by omega) h; simpa using this))
theorem xor_byte (a : UInt64) (x : UInt8) (m t : Nat) (hm : m < 8) (_ht : t < 8) :
    lo8 (shr (wx a (shl (wid x) (8 * m))) (8 * t)) = if t = m then bx (lo8 (shr a (8 * m))) x else lo8 (shr a (8 * t)) := by
  apply UInt8.toNat_inj.1
  apply Nat.eq_of_testBit_eq
  intro i
  rw [byte_bit]
  have hw : (wx a (shl (wid x) (8 * m))).toNat = a.toNat ^^^ (x.toNat * 2 ^ (8 * m)) := by
    simp only [wx, UInt64.toNat_xor]; rw [shl_wid x _ (by omega)]
  rw [hw, Nat.testBit_xor, Nat.testBit_mul_two_pow]
  by_cases hi : i < 8
  · by_cases e : t = m
    · subst e
      rw [if_pos rfl]
      simp only [bx, UInt8.toNat_xor, Nat.testBit_xor, byte_bit]
      simp [hi]
    · rw [if_neg e, byte_bit]
      have hz : (decide (8 * m ≤ i + 8 * t) && x.toNat.testBit (i + 8 * t - 8 * m)) = false := by
        rcases Nat.lt_or_ge t m with h | h
        · have : ¬ (8 * m ≤ i + 8 * t) := by omega
          simp [this]
        · rw [byte_big x _ (by omega)]; simp
      rw [hz]; simp [hi]
  · have h1 : (decide (i < 8)) = false := by simp [hi]
    rw [h1]
    split
    · rw [byte_big _ i (by omega)]; rfl
    · rw [byte_big _ i (by omega)]; rfl

theorem sByte_xorStep (S : List UInt64) (hS : S.length = 25) (k i : Nat) (x : UInt8) (hk : k < 200) : sByte (xorStep S k x) i = if i = k then bx (sByte S k) x else sByte S i := by
  unfold sByte xorStep
  rw [getD_set _ _ _ _ (by omega)]
  by_cases hd : k / 8 = i / 8
  · rw [if_pos hd, xor_byte _ _ _ _ (by omega) (by omega), ← hd]
    by_cases e : i = k
    · rw [if_pos e, if_pos (by omega)]
    · rw [if_neg e, if_neg (by omega)]
  · rw [if_neg hd, if_neg (by omega)]

/-- words with the same bytes are the same -/
theorem words_ext (S S' : List UInt64) (h : S.length = 25) (h' : S'.length = 25) (hb : ∀ i, i < 200 → sByte S i = sByte S' i) : S = S' := by
  apply List.ext_getElem (by omega)
  intro j hj hj'
  have hw : ∀ (T : List UInt64) (hT : j < T.length), T.getD j 0 = T[j] := fun T hT => by simp [List.getD_eq_getElem?_getD, hT]
  rw [← hw S hj, ← hw S' hj']
  apply UInt64.toNat_inj.1
  apply Nat.eq_of_testBit_eq
  intro i
  rcases Nat.lt_or_ge i 64 with hi | hi
  · have h1 := hb (8 * j + i / 8) (by omega)
    have h2 := congrArg (fun y : UInt8 => y.toNat.testBit (i % 8)) h1
    simp only [sByte] at h2
    rw [byte_bit, byte_bit, show (8 * j + i / 8) / 8 = j by omega, show (8 * j + i / 8) % 8 = i / 8 by omega, show i % 8 + 8 * (i / 8) = i by omega] at h2
    simpa [show i % 8 < 8 by omega] using h2
  · have big : ∀ (y : UInt64), y.toNat.testBit i = false := fun y => Nat.testBit_lt_two_pow (Nat.lt_of_lt_of_le y.toNat_lt (by have := Nat.pow_le_pow_right (show 0 < 2 by omega) hi; simpa using this))
    rw [big, big]
theorem sByte_xorAt (l : List UInt8) : ∀ (S : List UInt64) (k i : Nat), S.length = 25 → k + l.length ≤ 200 → sByte (xorAt S k l) i = if k ≤ i ∧ i < k + l.length then bx (sByte S i) (l.getD (i - k) 0) else sByte S i := by
  induction l with
  | nil => intro S k i _ _; rw [if_neg (by simp)]; rfl
  | cons x l ih =>
    intro S k i hS h
    simp only [List.length_cons] at h
    rw [xorAt, ih _ _ _ (by rw [xorStep_len, hS]) (by omega), sByte_xorStep S hS _ _ _ (by omega)]
    by_cases e : i = k
    · subst e
      rw [if_neg (by omega), if_pos rfl, if_pos (by simp)]
      simp
    · by_cases hr : k + 1 ≤ i ∧ i < k + 1 + l.length
      · rw [if_pos hr, if_neg e, if_pos (by simp; omega), show i - k = (i - (k + 1)) + 1 by omega, List.getD_cons_succ]
      · rw [if_neg hr, if_neg e, if_neg (by simp; omega)]
theorem toB_get (S : List UInt64) (n i : Nat) (h : i < n) : (toB S n).getD i 0 = sByte S i := by
  simp [toB, List.getD_eq_getElem?_getD, List.getElem?_range h]
theorem sByte_zeros (i : Nat) : sByte zeros25 i = 0 := by
  have hz : zeros25.getD (i / 8) 0 = 0 := by
    rcases Nat.lt_or_ge (i / 8) 25 with h | h
    · have : ∀ j, j < 25 → zeros25.getD j 0 = 0 := by decide
      exact this _ h
    · rw [List.getD_eq_getElem?_getD, List.getElem?_eq_none (by simpa [zeros25] using h)]; rfl
  unfold sByte
  rw [hz]
  apply UInt8.toNat_inj.1
  rw [lo8_shr_toNat]; simp
theorem bx_zero (x : UInt8) : bx 0 x = x := by simp [bx]
/-- 200 bytes into words, and back -/
theorem bytes_back (b : List UInt8) (hb : b.length = 200) (i : Nat) (hi : i < 200) : sByte (xorB zeros25 b 200) i = b.getD i 0 := by
  rw [xorB_eq _ _ _ (by omega), List.take_of_length_le (by omega), sByte_xorAt b _ _ _ (by simp [zeros25]) (by omega), if_pos (by omega), sByte_zeros, bx_zero]
  simp
/-- some bytes of the state's are changed: as words -/
theorem words_of (S : List UInt64) (hS : S.length = 25) (l b : List UInt8) (hl : l.length ≤ 200) (hb : b.length = 200) (h : ∀ i, i < 200 → b.getD i 0 = if i < l.length then bx (sByte S i) (l.getD i 0) else sByte S i) : xorB zeros25 b 200 = xorAt S 0 l := by
  refine words_ext _ _ (by rw [xorB_len]; simp [zeros25]) (by rw [xorAt_len, hS]) (fun i hi => ?_)
  rw [bytes_back b hb i hi, sByte_xorAt l S 0 i hS (by omega), h i hi]
  simp
end Mvp

/- Slice expressions as equations on their runs: to be laid ahead of a walk. -/
namespace Go.Mv
open Go.RowKit
variable {P : Program}

theorem cutAt_0 (p : Option Addr) (m : Nat) : cutAt p 0 m = p := by
  unfold cutAt
  split
  · rfl
  · cases p with
    | none => rfl
    | some a => simp [Addr.add]
theorem run_sliceA_lo (w : World) {ty : TypeId} {n : Nat} {e : TypeId} (hu : P.underlying ty = some (.array n e)) (hsz : (P.info? e).map (·.size) = some 1) (g p : Nat) (k : IntKind) (l : Nat) (h : l < n) :
    (Instr.sliceAt ty (.pointer (some ⟨g, p, none⟩)) (some (.int k (l : Int))) none none).run P w = .ok (.slice (some ⟨g, p + l, none⟩) (n - l) (n - l)) w := by
  obtain ⟨i, hi1, hi2⟩ : ∃ i, P.info? e = some i ∧ i.size = 1 := by simpa using hsz
  have hne : ¬ n = l := by omega
  have hle : l ≤ n := by omega
  simp [Instr.sliceAt, run_underlying hu, Instr.sliceBounds, run_sliceBound, hle, sizeOf, typeInfo, hi1, hi2, hne, addr_add, Instr.sureAddr]
theorem run_sliceA_hi (w : World) {ty : TypeId} {n : Nat} {e : TypeId} (hu : P.underlying ty = some (.array n e)) (hsz : (P.info? e).map (·.size) = some 1) (g p : Nat) (k : IntKind) (h : Nat) (hh : h ≤ n) :
    (Instr.sliceAt ty (.pointer (some ⟨g, p, none⟩)) none (some (.int k (h : Int))) none).run P w = .ok (.slice (some ⟨g, p, none⟩) h n) w := by
  obtain ⟨i, hi1, hi2⟩ : ∃ i, P.info? e = some i ∧ i.size = 1 := by simpa using hsz
  simp [Instr.sliceAt, run_underlying hu, Instr.sliceBounds, run_sliceBound, hh, sizeOf, typeInfo, hi1, Addr.add, Instr.sureAddr]
theorem run_sliceA_all (w : World) {ty : TypeId} {n : Nat} {e : TypeId} (hu : P.underlying ty = some (.array n e)) (hsz : (P.info? e).map (·.size) = some 1) (g p : Nat) :
    (Instr.sliceAt ty (.pointer (some ⟨g, p, none⟩)) none none none).run P w = .ok (.slice (some ⟨g, p, none⟩) n n) w := by
  obtain ⟨i, hi1, hi2⟩ : ∃ i, P.info? e = some i ∧ i.size = 1 := by simpa using hsz
  simp [Instr.sliceAt, run_underlying hu, Instr.sliceBounds, sizeOf, typeInfo, hi1, Addr.add, Instr.sureAddr]
theorem run_slice_hi (w : World) {ty e : TypeId} (hu : P.underlying ty = some (.slice e)) (hsz : (P.info? e).map (·.size) = some 1) (p : Option Addr) (n c : Nat) (k : IntKind) (h : Nat) (hh : h ≤ c) :
    (Instr.sliceAt ty (.slice p n c) none (some (.int k (h : Int))) none).run P w = .ok (.slice p h c) w := by
  obtain ⟨i, hi1, hi2⟩ : ∃ i, P.info? e = some i ∧ i.size = 1 := by simpa using hsz
  have := cutAt_0 p c
  simp [Instr.sliceAt, Instr.slice, run_underlying hu, Instr.sliceBounds, run_sliceBound, hh, sizeOf, typeInfo, hi1, Addr.add]
theorem run_slice_lo (w : World) {ty e : TypeId} (hu : P.underlying ty = some (.slice e)) (hsz : (P.info? e).map (·.size) = some 1) (p : Option Addr) (n c : Nat) (k : IntKind) (l : Nat) (hl : l ≤ n) :
    (Instr.sliceAt ty (.slice p n c) (some (.int k (l : Int))) none none).run P w = .ok (.slice (cutAt p l c) (n - l) (c - l)) w := by
  obtain ⟨i, hi1, hi2⟩ : ∃ i, P.info? e = some i ∧ i.size = 1 := by simpa using hsz
  simp [Instr.sliceAt, Instr.slice, run_underlying hu, Instr.sliceBounds, run_sliceBound, hl, sizeOf, typeInfo, hi1, hi2, cutAt]

/-- min of two ints -/
theorem wl_min {w : World} {ops : Array Oper} {rest : List Oper} {o : Oper} {a : Act} {Q : Exit → Act → World → Prop} {x y : Operand} {ts : Array TypeId} (hgd : o.guard = none) (ho : o.op = .call { callee := .builtin .min, args := #[x, y], argTypes := ts })
    {k k' : IntKind} {xi yi : Int} (hx : a.eval x = .int k xi) (hy : a.eval y = .int k' yi) (r : Nat) (hr : (if yi < xi then yi else xi) = (r : Int)) (h : wpList P ops Q rest (a.put o.dst (.int k (r : Int))) w) : wpList P ops Q (o :: rest) a w := by
  refine wpList_plain hgd fun K hK => ?_
  have hrun : (Builtin.min_ ts o.type #[.int k xi, .int k' yi]).run P w = .ok (.int k (r : Int)) w := by rw [run_min_int2, hr]
  unfold Oper.wp execOp
  simp only [ho, resolve, invoke, builtin, Sem.run_bind, Sem.run_pure, Result.andThen_ok, List.map_toArray, List.map_cons, List.map_nil, hx, hy, hrun]
  exact hK _ _ h
end Go.Mv

/- absorber.write -/
namespace Go.Proofs.Ytdadnajbdnbbdaa
open Go.RowKit Go.Mv Mvp

theorem zero_a136 : (Try.prog.info? 111).map (·.zero) = some (some (.agg (bs (List.replicate 136 0)).toArray)) := by kernel_rfl
/-- the cells of an absorber -/
def abs (st : List UInt64 × Nat) : List Value := ws st.1 ++ [.int .i64 (st.2 : Int)]
theorem abs_len (st : List UInt64 × Nat) : (abs st).length = st.1.length + 1 := by simp [abs, length_ws]
theorem abs_at (st : List UInt64 × Nat) (h : st.1.length = 25) : (abs st)[25]? = some (.int .i64 (st.2 : Int)) := by
  rw [abs, List.getElem?_append_right (by rw [length_ws, h]; omega), length_ws, h]; rfl
theorem abs_set (S : List UInt64) (k n : Nat) (h : S.length = 25) : (abs (S, k)).set 25 (.int .i64 (n : Int)) = abs (S, n) := by
  rw [abs, List.set_append_right _ _ (by rw [length_ws, h]; omega), length_ws, h]; rfl

theorem permS_def (S : List UInt64) : permP (turnsK 24) (fun r => rcP r 8) S 24 = permS S := by unfold permS; rfl
theorem abs_def (S : List UInt64) (k : Nat) : ws S ++ [Value.int .i64 (k : Int)] = abs (S, k) := by unfold abs; rfl
attribute [local irreducible] permS permP toB turnsK
/-- permute, of an absorber's state -/
theorem permute_abs (g : Nat) (S : List UInt64) (k : Nat) (w : World) (hS : S.length = 25) (hg : Has w g (abs (S, k)) 108) :
    Calls Try.prog 57 #[.pointer (some ⟨g, 0, none⟩)] w fun e w' => e = .returned (.tuple #[]) ∧ Has w' g (abs (permS S, k)) 108 ∧ Fr (One g) w w' := by
  rw [← abs_def] at hg
  refine (permute_any g S [.int .i64 (k : Int)] 108 w hS hg).mono ?_
  rintro e w' ⟨h1, h2, h3⟩
  rw [permS_def, abs_def] at h2
  exact ⟨h1, h2, h3⟩
theorem piece_eq (k p : Nat) (l : List UInt8) (hl : l.length = p) (h : k + p ≤ 136) : splice (bs (List.replicate 136 0)) k (bs l) = bs (List.replicate k 0 ++ l ++ List.replicate (136 - k - p) 0) := by
  unfold splice
  rw [length_bs, hl, bs_take, bs_drop, ← bs_append, ← bs_append, List.append_assoc]
  rw [List.take_replicate, Nat.min_eq_left (by omega), List.drop_replicate, Nat.sub_sub]
/-- the length of a slice value: for measures -/
def lenV : Value → Nat
  | .slice _ n _ => n
  | _ => 0

set_option maxHeartbeats 2000000 in
set_option maxRecDepth 1000000 in
theorem write_any (g : Nat) (st : List UInt64 × Nat) (b : Option Addr) (n c : Nat) (l : List UInt8) (w : World) (hS : st.1.length = 25) (hat : st.2 < 136) (hn : n ≤ 1000000) (hnc : n ≤ c) (hg : Has w g (abs st) 108) (hb : RdB w b n l) (hbg : Off (One g) b) :
    Calls Try.prog 55 #[.pointer (some ⟨g, 0, none⟩), .slice b n c] w fun e w' => e = .returned (.tuple #[]) ∧ Has w' g (abs (feed st l)) 108 ∧ Fr (One g) w w' := by
  go_enter Try.func55, Try.ntmps55
  go_wp2_with fail
  have hll := hb.len
  go_loopw [1] (fun v wr => ∃ (sj : List UInt64 × Nat) (r : List UInt8) (m : Nat) (a : Option Addr) (cc : Nat), v = .slice a m cc ∧ m ≤ cc ∧ m ≤ 1000000 ∧ RdB wr a m r ∧ Off (One g) a ∧ Has wr g (abs sj) 108 ∧ sj.2 < 136 ∧ sj.1.length = 25 ∧ feed sj r = feed st l ∧ Fr (One g) w wr) (fun v _ => lenV v)
  case atStart => exact ⟨st, l, n, b, c, rfl, hnc, hn, hb, hbg, hg, hat, hS, rfl, Fr.refl _ _⟩
  case round =>
    obtain ⟨⟨S, k⟩, r, m, a, cc, rfl, hcc, hmb, hra, hoa, hgj, hkj, hSj, hfe, hf⟩ := hrel
    clear hg hb hbg hat hS hll hn hnc
    simp only at hkj hSj
    have HF := Lib.hid hfe; clear hfe
    by_cases hlt : 0 < m
    · have hc25 : wr.cell? ⟨g, 25, none⟩ = some (.int .i64 (k : Int)) := hgj.cell (abs_at (S, k) hSj)
      have hf25 : wr.frozen? ⟨g, 25, none⟩ = false := hgj.free _ (by rw [abs_len]; simp only; omega)
      have HS := Lib.hid hSj; clear hSj
      go_wp2_with (with_reducible refine wl_stop (o := ⟨some 16, _, _, _, _, _⟩) ?_)
      obtain ⟨p, hp, hp1, hp2, hp3⟩ : ∃ p : Nat, (if 136 - (k : Int) < (m : Int) then 136 - (k : Int) else (m : Int)) = (p : Int) ∧ p ≤ m ∧ k + p ≤ 136 ∧ (p = m ∨ k + p = 136) := by
        refine ⟨min m (136 - k), ?_, by omega, by omega, by omega⟩
        split <;> omega
      refine wl_min rfl rfl rfl rfl p hp ?_
      clear hp
      have HP := Lib.hid hp3; clear hp3
      go_wp2_with (with_reducible refine wl_stop (o := ⟨_, .alloc 111, _, _, _, _⟩) ?_)
      refine wl_alloc rfl rfl zero_a136 (bs (List.replicate 136 0)) (by simp [Value.cells]) ?_
      intro w1 hp1' hf1 hz1
      have hg1 := hgj.keep hf1 id
      have hr1 := hra.still hf1
      have hc1 : w1.cell? ⟨g, 25, none⟩ = some (.int .i64 (k : Int)) := hf1.cell id hc25
      have hgp : g < wr.heap.size := hgj.lt
      have hfr1 := hf.same hf1
      have hpw : w.heap.size ≤ wr.heap.size := hf.size
      have hra0 : Off (One wr.heap.size) a := fun x hx (e : x.block = wr.heap.size) => by
        obtain ⟨bb, o, rfl, hat⟩ := Rd.at hra hlt
        have := Rd.lt hra hlt
        simp only [Option.some.injEq] at hx
        subst hx
        simp at e
        omega
      generalize wr.heap.size = gp at *
      clear hgj hra hc25 hf25 hf1 hz1
      have hk136 : k < 136 := hkj
      go_wp2_with fail
      have e1 : ∀ wx, (Instr.sliceAt 111 (.pointer (some ⟨gp, 0, none⟩)) (some (.int .i64 (k : Int))) none none).run Try.prog wx = .ok (.slice (some ⟨gp, k, none⟩) (136 - k) (136 - k)) wx := fun wx => by
        have := run_sliceA_lo wx Try.underlying111 size_u8 gp 0 .i64 k hk136
        rwa [Nat.zero_add] at this
      have e2 : ∀ wx, (Instr.sliceAt 22 (.slice a m cc) none (some (.int .i64 (p : Int))) none).run Try.prog wx = .ok (.slice a p cc) wx := fun wx => run_slice_hi wx Try.underlying22 size_u8 a m cc .i64 p (by omega)
      refine wp_region_still_tail 8 (by kernel_rfl) (by kernel_rfl) ?_
      simp only [List.take_succ_cons, List.take_zero, List.drop_succ_cons, List.drop_zero]
      repeat still_step
      refine wpStill_nil ?_
      show wpList _ _ _ _ _ w1.drew
      have hrp : Rd w1.drew a p (bs (r.take p)) := by
        have hlen := hr1.len
        refine ⟨by rw [length_bs, List.length_take]; omega, hr1.2.imp (fun h0 => by omega) ?_⟩
        rintro ⟨b, o, rfl, hc⟩
        refine ⟨b, o, rfl, fun i v hv => ?_⟩
        have := hc i v
        rw [← bs_take, List.getElem?_take] at hv
        split at hv
        · exact hc i v hv
        · cases hv
      refine wl_copy rfl rfl Try.underlying22 size_u8 rfl rfl (hp1'.drew) hrp (bs_one _) (by rw [length_bs, List.length_replicate]; omega) ?_
      intro w2 hp2' hf2 hz2
      have hmin : min p (136 - k) = p := by omega
      have hrl : (r.take p).length = p := by rw [List.length_take, hr1.len]; omega
      rw [hmin, List.take_of_length_le (by rw [length_bs, hrl]; exact Nat.le_refl _), piece_eq k p _ hrl hp2] at hp2'
      have hg2 := hg1.drew.keep hf2 (fun (h : g = gp) => by omega)
      have hr2 : RdB w2 a m r := hr1.keep ((Fr.refl (One gp) w1).drew.trans hf2 (fun _ _ t => t)) hra0
      have hfr2 : Fr (One g) w w2 := (hfr1.drew).new hf2 hpw
      have hgp2 := hp2'.lt
      clear hp1' hg1 hr1 hc1 hfr1 hf2 hz2 hrp e1 e2 hmin
      go_wp2_with fail
      have hc2 : w2.cell? ⟨g, 25, none⟩ = some (.int .i64 (k : Int)) := hg2.cell (abs_at (S, k) HS.out)
      have e3 : ∀ wx, (Instr.sliceAt 111 (.pointer (some ⟨gp, 0, none⟩)) none (some (.int .i64 ((k : Int) + (p : Int)))) none).run Try.prog wx = .ok (.slice (some ⟨gp, 0, none⟩) (k + p) 136) wx := fun wx =>
        run_sliceA_hi wx Try.underlying111 size_u8 gp 0 .i64 (k + p) hp2
      have e4 : IntKind.i64.wrap ((k : Int) + (p : Int)) = (k : Int) + (p : Int) := IntWalk.i64_in _ (by omega)
      refine wp_region_still_tail 10 (by kernel_rfl) (by kernel_rfl) ?_
      simp only [List.take_succ_cons, List.take_zero, List.drop_succ_cons, List.drop_zero]
      repeat still_step
      refine wpStill_nil ?_
      show wpList _ _ _ _ _ w2.drew
      go_wp2_with fail
      have hrd : RdB w2.drew (some ⟨gp, 0, none⟩) (k + p) (List.replicate k 0 ++ r.take p) := by
        have := Rd.ofHas hp2'.drew 0 (n := k + p) (by rw [length_bs, List.length_append, List.length_append, List.length_replicate, List.length_replicate, hrl]; omega)
        rw [List.drop_zero, bs_take, List.take_left' (by simp [hrl])] at this
        exact this
      refine (xor_any g S [.int .i64 (k : Int)] 108 _ (k + p) _ _ _ HS.out (by omega) hg2.drew hrd (fun x hx (e : x.block = g) => by simp only [Option.some.injEq] at hx; subst hx; simp at e; omega)).mono ?_
      rintro e w3 ⟨rfl, hg3, hf3, hz3⟩
      have hxb : xorB S (List.replicate k 0 ++ r.take p) (k + p) = xorAt S k (r.take p) := by
        have := xorB_piece S k (r.take p) []
        rwa [List.append_nil, hrl] at this
      rw [hxb] at hg3
      have hr3 : RdB w3 a m r := hr2.keep ((Fr.refl (One g) w2).drew.trans hf3 (fun _ _ t => t)) hoa
      have hfr3 : Fr (One g) w w3 := hfr2.drew.trans hf3 (fun _ _ t => t)
      have hSl : (xorAt S k (r.take p)).length = 25 := by rw [xorAt_len, HS.out]
      have hfeed : feed (feed (S, k) (r.take p)) (r.drop p) = feed st l := by rw [← feed_append, List.take_append_drop]; exact HF.out
      clear hg2 hr2 hfr2 hp2' hgp2 hc2 e3 e4 hrd hf3 hz3 hxb
      have hc3 : w3.cell? ⟨g, 25, none⟩ = some (.int .i64 (k : Int)) := hg3.cell (abs_at (_, k) hSl)
      have hf3 : w3.frozen? ⟨g, 25, none⟩ = false := hg3.free _ (by rw [List.length_append, length_ws, hSl]; simp)
      generalize hxs : xorAt S k (r.take p) = S3 at *
      have HXS := Lib.hid hxs; clear hxs
      have HFE := Lib.hid hfeed; clear hfeed
      have HSL := Lib.hid hSl; clear hSl
      have HRL := Lib.hid hrl; clear hrl
      go_wp2_with (with_reducible refine wl_stop (o := ⟨some 47, _, _, _, _, _⟩) ?_)
      refine wl_cut rfl rfl Try.underlying22 size_u8 rfl p m ⟨_, rfl⟩ rfl hp1 hcc ?_
      have hg4 : Has (w3.setCell ⟨g, 25, none⟩ (.int .i64 ((k + p : Nat) : Int))) g (abs (S3, k + p)) 108 := by
        have := hg3.set 25 (.int .i64 ((k + p : Nat) : Int))
        rw [show ws S3 ++ [Value.int .i64 (k : Int)] = abs (S3, k) from rfl, abs_set _ _ _ HSL.out] at this
        exact this
      have hr4 : RdB (w3.setCell ⟨g, 25, none⟩ (.int .i64 ((k + p : Nat) : Int))) (cutAt a p cc) (m - p) (r.drop p) := by
        have h1 := hr3.keep ((Fr.refl (One g) w3).setCell g 25 none (.int .i64 ((k + p : Nat) : Int)) (fun _ => rfl)) hoa
        have h2 := cutAt_rd h1 p m cc hp1 hcc (Nat.le_refl _)
        rw [bs_drop, bs_take] at h2
        rwa [List.take_of_length_le (by rw [List.length_drop, h1.len]; exact Nat.le_refl _)] at h2
      have hfr4 : Fr (One g) w (w3.setCell ⟨g, 25, none⟩ (.int .i64 ((k + p : Nat) : Int))) := hfr3.setCell g 25 none _ (fun _ => rfl)
      have hoff4 := cutAt_off hoa p cc
      have hsp : Value.int .i64 ((k : Int) + (p : Int)) = .int .i64 ((k + p : Nat) : Int) := by simp
      simp only [Int.natCast_add] at hg4 hr4 hfr4
      generalize w3.setCell ⟨g, 25, none⟩ (.int .i64 ((k : Int) + (p : Int))) = w4 at *
      clear hsp hg3 hr3 hfr3 hc3 hf3
      by_cases hfull : k + p = 136
      · have hfb : ((k : Int) + (p : Int) == 136) = true := by rw [beq_iff_eq]; omega
        have HFULL := Lib.hid hfull; clear hfull
        have hc4 : w4.cell? ⟨g, 25, none⟩ = some (.int .i64 ((k : Int) + (p : Int))) := hg4.cell (abs_at (S3, k + p) HSL.out)
        go_wp2_with fail
        refine (permute_abs g S3 (k + p) _ HSL.out hg4).mono ?_
        rintro e w5 ⟨rfl, hg5', hf5⟩
        have hr5 := hr4.keep hf5 hoff4
        have hfr5 : Fr (One g) w w5 := hfr4.trans hf5 (fun _ _ t => t)
        have hpl : (permS S3).length = 25 := by rw [permS_len, HSL.out]
        have hc5 : w5.cell? ⟨g, 25, none⟩ = some (.int .i64 ((k + p : Nat) : Int)) := hg5'.cell (abs_at (_, k + p) hpl)
        have hf5f : w5.frozen? ⟨g, 25, none⟩ = false := hg5'.free _ (by rw [abs_len]; simp only; omega)
        clear hg4 hr4 hfr4 hc4 hf5
        have HPL := Lib.hid hpl; clear hpl
        go_wp2_with fail
        go_roundw
        case rel =>
          have e : feed (S, k) (r.take p) = (permS S3, 0) := by rw [feed_full _ _ _ (by rw [HRL.out]; exact HFULL.out) hkj, HXS.out]
          have h2 := HFE.out
          rw [e] at h2
          have hg6 := hg5'.set 25 (.int .i64 ((0 : Nat) : Int))
          rw [abs_set _ _ _ HPL.out] at hg6
          exact ⟨(permS S3, 0), r.drop p, m - p, cutAt a p cc, cc - p, rfl, by omega, by omega, hr5.keep ((Fr.refl (One g) w5).setCell g 25 none _ (fun _ => rfl)) hoff4, hoff4, hg6, by simp, HPL.out, h2, hfr5.setCell g 25 none _ (fun _ => rfl)⟩
        case measure => have := HP.out; simp [lenV]; omega
      · have hfb : ((k : Int) + (p : Int) == 136) = false := by rw [beq_eq_false_iff_ne]; omega
        have hc4 : w4.cell? ⟨g, 25, none⟩ = some (.int .i64 ((k : Int) + (p : Int))) := hg4.cell (abs_at (S3, k + p) HSL.out)
        have hlt136 : k + p < 136 := by omega
        go_wp2_with fail
        go_roundw
        case rel =>
          have e : feed (S, k) (r.take p) = (S3, k + p) := by rw [feed_short _ _ _ (by rw [HRL.out]; exact hlt136), HXS.out, HRL.out]
          have h2 := HFE.out
          rw [e] at h2
          exact ⟨(S3, k + p), r.drop p, m - p, cutAt a p cc, cc - p, rfl, by omega, by omega, hr4, hoff4, hg4, hlt136, HSL.out, h2, hfr4⟩
        case measure => have := HP.out; simp [lenV]; omega
    · have hge : ¬ 0 < m := hlt
      have hm0 : m = 0 := by omega
      have hr0 : r = [] := List.eq_nil_of_length_eq_zero (by rw [hra.len, hm0])
      have HR := Lib.hid hr0; clear hr0 hm0
      go_wp2_with fail
      go_end0
      have h2 := HF.out
      rw [HR.out, feed_nil] at h2
      exact ⟨rfl, by rw [← h2]; exact hgj, hf⟩
end Go.Proofs.Ytdadnajbdnbbdaa

/- Literals of structs and of slices, boxes. -/
namespace Go.Mv
open Go.RowKit
variable {P : Program}

theorem wl_build {w : World} {ops : Array Oper} {rest : List Oper} {o : Oper} {a : Act} {Q : Exit → Act → World → Prop} {t : TypeId} {parts : Array (Nat × Operand)} (hgd : o.guard = none) (ho : o.op = .build t parts) (cells : Array Value)
    (hb : P.built t (parts.map fun (i, x) => (i, a.eval x)).toList = some cells) (h : wpList P ops Q rest (a.put o.dst (.agg cells)) w) : wpList P ops Q (o :: rest) a w := by
  refine wpList_plain hgd fun K hK => ?_
  have hr := run_build (P := P) w t (parts.map fun (i, x) => (i, a.eval x)) cells hb
  unfold Oper.wp execOp
  simp only [ho, Sem.run_bind, Sem.run_pure, Result.andThen_ok, hr]
  exact hK _ _ h
theorem wl_build0 {w : World} {ops : Array Oper} {rest : List Oper} {o : Oper} {a : Act} {Q : Exit → Act → World → Prop} {t : TypeId} (hgd : o.guard = none) (ho : o.op = .build t #[]) (cells : Array Value)
    (hb : P.built t [] = some cells) (h : wpList P ops Q rest (a.put o.dst (.agg cells)) w) : wpList P ops Q (o :: rest) a w :=
  wl_build hgd ho cells (by simpa using hb) h
/-- a slice's block is there already -/
def Old (w : World) (a : Option Addr) : Prop := ∀ x, a = some x → x.block < w.heap.size
theorem Old.grow {w w' : World} {a : Option Addr} (h : Old w a) (hs : w.heap.size ≤ w'.heap.size) : Old w' a := fun x hx => Nat.lt_of_lt_of_le (h x hx) hs
theorem Old.off {w : World} {a : Option Addr} (h : Old w a) {g : Nat} (hg : w.heap.size ≤ g) : Off (One g) a := fun x hx (e : x.block = g) => by have := h x hx; omega
theorem Old.none (w : World) : Old w .none := fun _ h => by cases h
theorem Old.has {w : World} {g : Nat} {L : List Value} {T : TypeId} (h : Has w g L T) (o : Nat) : Old w (some ⟨g, o, .none⟩) := fun x hx => by cases hx; exact h.lt
theorem wl_box {w : World} {ops : Array Oper} {rest : List Oper} {o : Oper} {a : Act} {Q : Exit → Act → World → Prop} {e : TypeId} {x : Operand} (hgd : o.guard = none) (ho : o.op = .box e x) {v : Value} (hx : a.eval x = v) (L : List Value) (hL : v.cells.toList = L)
    (h : ∀ w', Has w' w.heap.size L e → Fr Nob w w' → w'.heap.size = w.heap.size + 1 → wpList P ops Q rest (a.put o.dst (.pointer (some ⟨w.heap.size, 0, none⟩))) w') : wpList P ops Q (o :: rest) a w := by
  refine wpList_plain hgd fun K hK => ?_
  have hr : (Instr.box e v).run P w = .ok (.pointer (some ⟨w.heap.size, 0, none⟩)) (w.alloc (.cells v.cells e)) := by
    simp [Instr.box, newVar, newRow]
  unfold Oper.wp execOp
  simp only [ho, hx, Sem.run_bind, Sem.run_pure, Result.andThen_ok, hr]
  refine hK _ _ (h _ ?_ ((Fr.refl _ w).alloc _) (by simp))
  have := Has.new w v.cells e
  rwa [hL] at this
/-- four bytes in a row -/
theorem wl_four {w : World} {ops : Array Oper} {rest : List Oper} {o : Oper} {a : Act} {Q : Exit → Act → World → Prop} {t e : TypeId} {y0 y1 y2 y3 : Operand} (hgd : o.guard = none) (ho : o.op = .buildSlice t 4 #[(0, y0), (1, y1), (2, y2), (3, y3)])
    (hu : P.underlying t = some (.slice e)) (hi0 : (P.info? e).map (fun i => (i.zero, i.size, i.bytes)) = some (some (.int .u8 0), 1, 1)) (x0 x1 x2 x3 : UInt8)
    (h0 : a.eval y0 = .int .u8 (x0.toNat : Int)) (h1 : a.eval y1 = .int .u8 (x1.toNat : Int)) (h2 : a.eval y2 = .int .u8 (x2.toNat : Int)) (h3 : a.eval y3 = .int .u8 (x3.toNat : Int))
    (h : ∀ w', Has w' w.heap.size (bs [x0, x1, x2, x3]) e → Fr Nob w w' → w'.heap.size = w.heap.size + 1 → wpList P ops Q rest (a.put o.dst (.slice (some ⟨w.heap.size, 0, none⟩) 4 4)) w') : wpList P ops Q (o :: rest) a w := by
  obtain ⟨i, hi, hz⟩ : ∃ i, P.info? e = some i ∧ (i.zero, i.size, i.bytes) = (some (.int .u8 0), 1, 1) := by simpa using hi0
  simp only [Prod.mk.injEq] at hz
  obtain ⟨hz, hsz, hby⟩ := hz
  have hp : ((#[(0, y0), (1, y1), (2, y2), (3, y3)] : Array (Nat × Operand)).map fun (i, x) => (i, a.eval x)).toList = [(0, .int .u8 (x0.toNat : Int)), (1, .int .u8 (x1.toNat : Int)), (2, .int .u8 (x2.toNat : Int)), (3, .int .u8 (x3.toNat : Int))] := by simp [h0, h1, h2, h3]
  have hf : Instr.fill (fun j => some (j * i.size, i.size)) ((Array.range (4 * i.size)).map ((Value.int .u8 0).cells[· % (Value.int .u8 0).cells.size]!)) ((#[(0, y0), (1, y1), (2, y2), (3, y3)] : Array (Nat × Operand)).map fun (i, x) => (i, a.eval x)).toList = some (bs [x0, x1, x2, x3]).toArray := by
    rw [hp, hsz]
    exact Great.fill_flat (bs [x0, x1, x2, x3]) _ (fun v hv => by simp [bs] at hv; rcases hv with rfl | rfl | rfl | rfl <;> rfl) (by simp [bs])
  exact wpList_buildSlice hgd t e 4 _ ho _ i _ hu hi hz (by rw [hsz]; decide) (by rw [hsz]; decide) hf (h _ (Has.new w (bs [x0, x1, x2, x3]).toArray e) ((Fr.refl _ w).alloc _) (by simp))
/-- one byte in a row -/
theorem wl_one {w : World} {ops : Array Oper} {rest : List Oper} {o : Oper} {a : Act} {Q : Exit → Act → World → Prop} {t e : TypeId} {y : Operand} (hgd : o.guard = none) (ho : o.op = .buildSlice t 1 #[(0, y)])
    (hu : P.underlying t = some (.slice e)) (hi0 : (P.info? e).map (fun i => (i.zero, i.size, i.bytes)) = some (some (.int .u8 0), 1, 1)) (x0 : UInt8)
    (hy : a.eval y = .int .u8 (x0.toNat : Int))
    (h : ∀ w', Has w' w.heap.size (bs [x0]) e → Fr Nob w w' → w'.heap.size = w.heap.size + 1 → wpList P ops Q rest (a.put o.dst (.slice (some ⟨w.heap.size, 0, none⟩) 1 1)) w') : wpList P ops Q (o :: rest) a w := by
  obtain ⟨i, hi, hz⟩ : ∃ i, P.info? e = some i ∧ (i.zero, i.size, i.bytes) = (some (.int .u8 0), 1, 1) := by simpa using hi0
  simp only [Prod.mk.injEq] at hz
  obtain ⟨hz, hsz, hby⟩ := hz
  have hp : ((#[(0, y)] : Array (Nat × Operand)).map fun (i, x) => (i, a.eval x)).toList = [(0, .int .u8 (x0.toNat : Int))] := by simp [hy]
  have hf : Instr.fill (fun j => some (j * i.size, i.size)) ((Array.range (1 * i.size)).map ((Value.int .u8 0).cells[· % (Value.int .u8 0).cells.size]!)) ((#[(0, y)] : Array (Nat × Operand)).map fun (i, x) => (i, a.eval x)).toList = some (bs [x0]).toArray := by
    rw [hp, hsz]
    exact Great.fill_flat (bs [x0]) _ (fun v hv => by simp [bs] at hv; subst hv; rfl) (by simp [bs])
  exact wpList_buildSlice hgd t e 1 _ ho _ i _ hu hi hz (by rw [hsz]; decide) (by rw [hsz]; decide) hf (h _ (Has.new w (bs [x0]).toArray e) ((Fr.refl _ w).alloc _) (by simp))
/-- an owned slice's cells: read and written -/
theorem Own.cells {w : World} {base : Nat} {T : TypeId} {v : Value} {n : Nat} {L : List Value} (h : Own w base T 1 v n L) (hn : 0 < n) :
    ∃ g o cap, v = .slice (some ⟨g, o, none⟩) n cap ∧ base ≤ g ∧ g < w.heap.size ∧ n ≤ cap ∧ cap ≤ maxLen ∧ (∀ i x, L[i]? = some x → w.cell? ⟨g, o + i, none⟩ = some x) ∧ (∀ i, i < n → w.frozen? ⟨g, o + i, none⟩ = false) ∧
      (∀ i x, i < n → Own (w.setCell ⟨g, o + i, none⟩ x) base T 1 v n (L.set i x)) := by
  obtain ⟨hl, h | ⟨g, o, cap, B, rfl, hb, hg, h1, h2, h3, h4⟩⟩ := h
  · obtain ⟨_, h0⟩ := h; omega
  · rw [Nat.mul_one] at h3 h4 hl
    refine ⟨g, o, cap, rfl, hb, hg.lt, h1, h2, ?_, ?_, ?_⟩
    · intro i x hx
      rw [← h4, List.getElem?_take] at hx
      split at hx
      · rw [List.getElem?_drop] at hx; exact hg.cell hx
      · cases hx
    · intro i hi; exact hg.free _ (by omega)
    · intro i x hi
      refine ⟨by rw [List.length_set, hl, Nat.mul_one], .inr ⟨g, o, cap, B.set (o + i) x, rfl, hb, hg.set (o + i) x, h1, h2, by rw [List.length_set]; omega, ?_⟩⟩
      rw [Nat.mul_one, ← h4]
      apply List.ext_getElem?
      intro j
      simp only [List.getElem?_take, List.getElem?_drop, List.getElem?_set]
      by_cases hj : j < n
      · rw [if_pos hj]
        by_cases e : i = j
        · subst e
          rw [if_pos rfl, if_pos rfl, if_pos (by omega), if_pos (by rw [List.length_take, List.length_drop]; omega)]
        · rw [if_neg (by omega), if_neg e, if_pos hj]
      · rw [if_neg hj]
        by_cases e : i = j
        · omega
        · rw [if_neg e, if_neg hj]
end Go.Mv

/- The reference's sponge, on bytes: what it computes is the sponge on words. -/
namespace Mvp

theorem feed_at (l : List UInt8) : ∀ (S : List UInt64) (k : Nat), k < 136 → (feed (S, k) l).2 = (k + l.length) % 136 := by
  induction l with
  | nil => intro S k h; simp [feed_nil]; omega
  | cons x l ih =>
    intro S k h
    rw [feed_cons, feed1]
    split
    · rename_i h1
      simp only at h1
      rw [ih _ _ (by omega), List.length_cons]; omega
    · rename_i h1
      simp only at h1
      rw [ih _ _ (by omega), List.length_cons]
      congr 1; omega
/-- the text with its end -/
def padded (l : List UInt8) (e : UInt8) : List UInt8 := l ++ padL (l.length % 136) e
theorem padded_len (l : List UInt8) (e : UInt8) : (padded l e).length = l.length + (136 - l.length % 136) := by
  rw [padded, List.length_append, padL_len _ _ (Nat.mod_lt _ (by decide))]
theorem padded_mod (l : List UInt8) (e : UInt8) : (padded l e).length % 136 = 0 := by
  rw [padded_len]; omega
theorem padded_eq (l : List UInt8) (e : UInt8) (m : Nat) (hm : m = 135 - l.length % 136) : (l ++ e :: List.replicate m 0).set (l.length + m) (bx ((l ++ e :: List.replicate m 0).getD (l.length + m) 0) 0x80) = padded l e := by
  subst hm
  have h2 : (l ++ e :: List.replicate (135 - l.length % 136) 0).getD (l.length + (135 - l.length % 136)) 0 = (e :: List.replicate (135 - l.length % 136) 0).getD (135 - l.length % 136) 0 := by
    rw [List.getD_eq_getElem?_getD, List.getD_eq_getElem?_getD, List.getElem?_append_right (by omega), Nat.add_sub_cancel_left]
  rw [h2, List.set_append_right _ _ (by omega), Nat.add_sub_cancel_left]
  rfl
theorem ended_padded (l : List UInt8) (e : UInt8) : ended (feed (zeros25, 0) l) e = (feed (zeros25, 0) (padded l e)).1 := by
  rw [ended, padded, feed_append, feed_at _ _ _ (by decide), Nat.zero_add]
/-- the words behind so many bytes -/
def afterB (p : List UInt8) (i : Nat) : List UInt64 := (feed (zeros25, 0) (p.take i)).1
theorem afterB_len (p : List UInt8) (i : Nat) : (afterB p i).length = 25 := by rw [afterB, feed_len]; rfl
theorem afterB_zero (p : List UInt8) : afterB p 0 = zeros25 := by rw [afterB, List.take_zero, feed_nil]
theorem afterB_all (l : List UInt8) (e : UInt8) (i : Nat) (h : (padded l e).length ≤ i) : afterB (padded l e) i = ended (feed (zeros25, 0) l) e := by
  rw [afterB, List.take_of_length_le h, ended_padded]
theorem afterB_succ (p : List UInt8) (i : Nat) (hi : i % 136 = 0) (h : i + 136 ≤ p.length) : afterB p (i + 136) = permS (xorAt (afterB p i) 0 ((p.drop i).take 136)) := by
  have hl : (p.take i).length = i := by rw [List.length_take]; omega
  have h2 : (feed (zeros25, 0) (p.take i)).2 = 0 := by rw [feed_at _ _ _ (by decide), hl]; omega
  have hm : ((p.drop i).take 136).length = 136 := by rw [List.length_take, List.length_drop]; omega
  have h3 : feed (zeros25, 0) (p.take i) = (afterB p i, 0) := Prod.ext rfl h2
  rw [afterB, List.take_add, feed_append, h3, feed_full _ _ _ (by rw [hm]) (by decide)]
/-- bytes of the state, j of them added to -/
def addB (b p : List UInt8) : Nat → List UInt8
  | 0 => b
  | j + 1 => (addB b p j).set j (bx ((addB b p j).getD j 0) (p.getD j 0))
theorem addB_zero (b p : List UInt8) : addB b p 0 = b := rfl
theorem addB_succ (b p : List UInt8) (j : Nat) : addB b p (j + 1) = (addB b p j).set j (bx ((addB b p j).getD j 0) (p.getD j 0)) := rfl
theorem addB_len (b p : List UInt8) (j : Nat) : (addB b p j).length = b.length := by
  induction j with
  | zero => rfl
  | succ j ih => rw [addB_succ, List.length_set, ih]
theorem addB_get (b p : List UInt8) (j : Nat) (hj : j ≤ b.length) (i : Nat) (hi : i < b.length) : (addB b p j).getD i 0 = if i < j then bx (b.getD i 0) (p.getD i 0) else b.getD i 0 := by
  induction j generalizing i with
  | zero => simp [addB_zero]
  | succ j ih =>
    rw [addB_succ, List.getD_eq_getElem?_getD, List.getElem?_set]
    by_cases e : j = i
    · subst e
      rw [if_pos rfl, if_pos (by rw [addB_len]; omega), if_pos (by omega), ih (by omega) j (by omega), if_neg (by omega)]
      rfl
    · rw [if_neg e, ← List.getD_eq_getElem?_getD, ih (by omega) i hi]
      by_cases h1 : i < j
      · rw [if_pos h1, if_pos (by omega)]
      · rw [if_neg h1, if_neg (by omega)]
theorem perm_add (S : List UInt64) (hS : S.length = 25) (p : List UInt8) (hp : 136 ≤ p.length) : permB (addB (toB S 200) p 136) = toB (permS (xorAt S 0 (p.take 136))) 200 := by
  have hl : (p.take 136).length = 136 := by rw [List.length_take]; omega
  unfold permB
  rw [words_of S hS (p.take 136) _ (by omega) (by rw [addB_len, toB_len]) (fun i hi => ?_)]
  rw [addB_get _ _ _ (by rw [toB_len]; omega) i (by rw [toB_len]; omega), toB_get _ _ _ hi, hl]
  by_cases h : i < 136
  · rw [if_pos h, if_pos h]
    congr 1
    simp only [List.getD_eq_getElem?_getD, List.getElem?_take, if_pos h]
  · rw [if_neg h, if_neg h]
theorem perm_toB (S : List UInt64) (hS : S.length = 25) : permB (toB S 200) = toB (permS S) 200 := by
  unfold permB
  rw [words_of S hS [] _ (by simp) (by rw [toB_len]) (fun i hi => by rw [toB_get _ _ _ hi]; simp)]
  rfl
theorem toB_take (S : List UInt64) : (toB S 200).take 136 = toB S 136 := by
  unfold toB
  rw [← List.map_take, List.take_range, Nat.min_eq_left (by omega)]
theorem toB_zeros : toB zeros25 200 = List.replicate 200 0 := by
  have key : ∀ n, toB zeros25 n = List.replicate n 0 := by
    intro n
    refine List.eq_replicate_iff.2 ⟨toB_len _ _, fun x hx => ?_⟩
    unfold toB at hx
    obtain ⟨i, _, rfl⟩ := List.mem_map.1 hx
    exact sByte_zeros i
  exact key 200
end Mvp

/- The reference's sponge -/
namespace Go.Proofs.Ytdadnajbdnbbdaa
open Go.RowKit Go.Mv Mvp
attribute [local irreducible] permS permP toB turnsK squeeze permN permB
theorem pad_append (l : List UInt8) (e : UInt8) (m : Nat) : bs (l ++ e :: List.replicate m 0) ++ bs [0] = bs (l ++ e :: List.replicate (m + 1) 0) := by
  rw [← bs_append, List.replicate_succ']; simp

theorem Rd.take {w : World} {a : Option Addr} {n : Nat} {vs : List Value} (h : Rd w a n vs) (p : Nat) (hp : p ≤ n) : Rd w a p (vs.take p) := by
  refine ⟨by rw [List.length_take, h.len]; omega, h.2.imp (fun h0 => by omega) ?_⟩
  rintro ⟨b, o, rfl, hc⟩
  refine ⟨b, o, rfl, fun i v hv => ?_⟩
  rw [List.getElem?_take] at hv
  split at hv
  · exact hc i v hv
  · cases hv
theorem mkS_append (l m : List UInt8) : mkS l ++ mkS m = mkS (l ++ m) := by
  apply ByteArray.ext
  simp [mkS]
theorem mkS_extract (l : List UInt8) (n : Nat) : (mkS l).extract 0 n = mkS (l.take n) := by
  apply ByteArray.ext
  simp [mkS]
theorem squeeze_zero' (S : List UInt64) : squeeze S 0 = [] := by unfold squeeze; rfl
theorem permN_zero' (S : List UInt64) : permN S 0 = S := by unfold permN; rfl
def strLen : Value → Nat
  | .string s => s.size
  | _ => 0
theorem pieces_lt' (n j : Nat) : 136 * j < n ↔ j < pieces n := by unfold pieces; omega

set_option maxHeartbeats 2000000 in
set_option maxRecDepth 1000000 in
theorem spongeR_any (s : ByteArray) (e : UInt8) (n : Nat) (w : World) (hs : s.size ≤ 1000000) (hn : n ≤ 20000) :
    Calls Try.prog 51 #[.string s, .int .u8 (e.toNat : Int), .int .i64 (n : Int)] w fun r w' => r = .returned (.string (mkS (spongeB s.data.toList e n))) ∧ Fr Nob w w' := by
  obtain ⟨l, rfl⟩ : ∃ l, s = mkS l := ⟨_, (mkS_data s).symm⟩
  rw [mkS_size] at hs
  rw [mkS_toList]
  go_enter Try.func51, Try.ntmps51
  go_wp2_with (with_reducible refine wl_stop (o := ⟨some 13, _, _, _, _, _⟩) ?_)
  refine wl_bytes rfl rfl Try.underlying9 Try.underlying22 Try.underlying5 rfl (by rw [mkS_size]; unfold maxLen; omega) w.heap.size (Nat.le_refl _) ?_
  intro cap w1 hown1 hf1 hz1
  rw [mkS_toList, mkS_size] at hown1
  rw [mkS_size]
  go_wp2_with (with_reducible refine wl_stop (o := ⟨some 15, _, _, _, _, _⟩) ?_)
  refine wl_one rfl rfl Try.underlying22 info_u8 e rfl ?_
  intro w2 hg2 hf2 hz2
  have hown2 := hown1.still hf2
  have hfr2 := hf1.then hf2
  generalize w1.heap.size = g1 at *
  clear hown1 hf1 hf2 hz2 hz1
  go_wp2_with (with_reducible refine wl_stop (o := ⟨some 16, _, _, _, _, _⟩) ?_)
  refine wl_append rfl rfl Try.underlying22 info_u8 rfl (by decide) hown2 rfl rfl (Rd.whole hg2) (bs_one _) (by simp [maxLen]; omega) (by simp; omega) hfr2.size ?_
  intro v3 w3 hown3 hf3 hb3
  have hfr3 : Fr Nob w w3 := hown2.fr hfr2 (Nat.le_refl _) hf3
  clear hown2 hfr2 hg2 hf3 hb3
  go_wp2_with fail
  go_loopw [7] (fun v wr => ∃ m, m ≤ 135 - l.length % 136 ∧ Own wr w.heap.size 5 1 v (l.length + 1 + m) (bs (l ++ e :: List.replicate m 0)) ∧ Fr Nob w wr) (fun v _ => l.length + 136 - lenV v)
  case atStart => exact ⟨0, Nat.zero_le _, by simpa [bs] using hown3, hfr3⟩
  case round =>
    obtain ⟨m, hm, hown, hf⟩ := hrel
    clear hown3 hfr3
    obtain ⟨a, c, rfl, hc, hrd, hna⟩ := hown.form
    have hmod := Nat.mod_lt l.length (show 0 < 136 by decide)
    by_cases hlt : (l.length + 1 + m) % 136 = 0
    · have hb : (((l.length : Int) + 1 + (m : Int)) % 136 != 0) = false := by simp; omega
      have hmk : m = 135 - l.length % 136 := by omega
      have HMK := Lib.hid hmk; clear hmk
      have HMOD := Lib.hid hmod; clear hmod
      have HLT := Lib.hid hlt; clear hlt
      obtain ⟨gp, op, cp, hv, hgp, hgp2, hcp, hcm, hget, hfree, hput⟩ := hown.cells (by omega)
      simp only [Value.slice.injEq] at hv
      obtain ⟨rfl, -, rfl⟩ := hv
      have hlen : (l ++ e :: List.replicate m 0).length = l.length + 1 + m := by simp; omega
      have hcl : wr.cell? ⟨gp, op + (l.length + m), none⟩ = some (.int .u8 (((l ++ e :: List.replicate m 0).getD (l.length + m) 0).toNat : Int)) := hget _ _ (bs_get _ _ (by omega))
      have hfl := hfree (l.length + m) (by omega)
      have hput2 := hput (l.length + m)
      clear hget hfree hput hrd hna
      generalize hy : (l ++ e :: List.replicate m 0).getD (l.length + m) 0 = y at hcl
      have HY := Lib.hid hy; clear hy
      have hbx : bits BinOp.xor IntKind.u8 (y.toNat : Int) 128 = ((bx y 128).toNat : Int) := xor8_run y 128
      go_wp2_with (with_reducible refine wl_stop (o := ⟨some 36, _, _, _, _, _⟩) ?_)
      have hown4 := hput2 (.int .u8 ((bx y 0x80).toNat : Int)) (by omega)
      rw [bs_set, ← HY.out, padded_eq l e m HMK.out] at hown4
      rw [HY.out] at hown4
      have hfr4 : Fr Nob w (wr.setCell ⟨gp, op + (l.length + m), none⟩ (.int .u8 ((bx y 128).toNat : Int))) := hf.setCell gp _ none _ (fun h => by omega)
      have hgp4 : gp < (wr.setCell ⟨gp, op + (l.length + m), none⟩ (.int .u8 ((bx y 128).toNat : Int))).heap.size := by simpa using hgp2
      generalize wr.setCell ⟨gp, op + (l.length + m), none⟩ (.int .u8 ((bx y 128).toNat : Int)) = w4 at *
      have hpl := padded_len l e
      have hpm := padded_mod l e
      have hpe := afterB_all l e
      have hN : l.length + 1 + m = (padded l e).length := by rw [hpl, HMK.out]; have := HMOD.out; omega
      have hpb : (padded l e).length ≤ 1000136 := by rw [hpl]; omega
      rw [hN] at hown4 ⊢
      have hrd4 : RdB w4 (some ⟨gp, op, none⟩) (padded l e).length (padded l e) := by
        obtain ⟨a, cc, hv, _, hr, _⟩ := hown4.form
        cases hv
        rw [Nat.mul_one] at hr; exact hr
      clear hown hown4 hf hgp2 hput2 hcl hfl hbx HY hlen hpl hb HLT hc hcm hcp HMK
      generalize hP : padded l e = P at *
      have HP := Lib.hid hP; clear hP
      refine wl_make rfl rfl Try.underlying22 info_u8 rfl rfl rfl 200 200 (by simp) (by simp) (by omega) (by omega) (by unfold maxLen; omega) ?_
      intro w5 hg5 hf5 hz5
      have hs5 : Own w5 w4.heap.size 5 1 (.slice (some ⟨w4.heap.size, 0, none⟩) 200 200) 200 (bs (toB zeros25 200)) := by
        rw [toB_zeros]
        have := Own.made hg5 w4.heap.size (Nat.le_refl _) 1 200 200 (Nat.le_refl _) (by unfold maxLen; omega) (by simp)
        rw [List.take_of_length_le (by simp)] at this
        exact this
      have hrd5 := hrd4.still hf5
      have hfr5 := hfr4.then hf5
      have hb5 : w4.heap.size ≤ w5.heap.size := hf5.size
      have hwb : w.heap.size ≤ w4.heap.size := hfr4.size
      generalize w4.heap.size = b5 at *
      clear hg5 hf5 hz5 hrd4 hfr4
      go_wp2_with fail
      go_loopw [9, 8] (fun i v wr => ∃ I : Nat, I ≤ P.length ∧ I % 136 = 0 ∧ i = .int .i64 (I : Int) ∧ Own wr b5 5 1 v 200 (bs (toB (afterB P I) 200)) ∧ RdB wr (some ⟨gp, op, none⟩) P.length P ∧ b5 ≤ wr.heap.size ∧ Fr Nob w wr) (fun i _ _ => (P.length - intOf i).toNat)
      case atStart => exact ⟨0, by omega, rfl, rfl, by rw [afterB_zero]; exact hs5, hrd5, hb5, hfr5⟩
      case round =>
        obtain ⟨I, hk, hI, rfl, hst, hrdk, hbk, hfk⟩ := hrel
        clear hs5 hrd5 hb5 hfr5
        have hSl := afterB_len P I
        by_cases hlt : I < P.length
        · have hltI : (I : Int) < (P.length : Int) := by omega
          have hk2 : I + 136 ≤ P.length := by omega
          have hsucc := afterB_succ P I hI hk2
          generalize hS0 : afterB P I = S at *
          have HS0 := Lib.hid hS0; clear hS0
          have HI := Lib.hid hI; clear hI
          have HSU := Lib.hid hsucc; clear hsucc
          have HSL := Lib.hid hSl; clear hSl
          have HPE := Lib.hid hpe; clear hpe
          have HPM := Lib.hid hpm; clear hpm
          obtain ⟨gs, os, cs, rfl, hgs, hgs2, hcs, hcm, -, -, -⟩ := hst.cells (by omega)
          obtain ⟨wo, rfl⟩ : ∃ wo : World, wo = wr := ⟨_, rfl⟩
          go_wp2_with fail
          go_loopw [10] (fun j wr => ∃ jn : Nat, jn ≤ 136 ∧ j = .int .i64 (jn : Int) ∧ Own wr b5 5 1 (.slice (some ⟨gs, os, none⟩) 200 cs) 200 (bs (addB (toB S 200) (P.drop I) jn)) ∧ RdB wr (some ⟨gp, op, none⟩) P.length P ∧ b5 ≤ wr.heap.size ∧ Fr Nob w wr) (fun j _ => (136 - intOf j).toNat)
          case atStart => exact ⟨0, by omega, rfl, by rw [addB_zero]; exact hst, hrdk, hbk, hfk⟩
          case round =>
            obtain ⟨j, hj, rfl, hsj, hrdj, hbj, hfj⟩ := hrel
            clear hst hrdk hbk hfk
            by_cases hjlt : j < 136
            · have hjI : (j : Int) < 136 := by omega
              obtain ⟨gs', os', cs', hv, -, hgs3, -, -, hget, hfree, hput⟩ := hsj.cells (by omega)
              simp only [Value.slice.injEq, Option.some.injEq, Addr.mk.injEq] at hv
              obtain ⟨⟨rfl, rfl, -⟩, -, rfl⟩ := hv
              have hc1 : wr.cell? ⟨gs, os + j, none⟩ = some (.int .u8 (((addB (toB S 200) (P.drop I) j).getD j 0).toNat : Int)) := hget _ _ (bs_get _ _ (by rw [addB_len, toB_len]; omega))
              have hf1 := hfree j (by omega)
              have hput1 := hput j
              have hc2 : wr.cell? ⟨gp, op + (I + j), none⟩ = some (.int .u8 ((P.getD (I + j) 0).toNat : Int)) := by
                obtain ⟨b, o, he, hh⟩ := hrdj.at (by omega)
                simp only [Option.some.injEq, Addr.mk.injEq] at he
                obtain ⟨rfl, rfl, -⟩ := he
                exact hh _ (by omega)
              clear hget hfree hput
              generalize hx : (addB (toB S 200) (P.drop I) j).getD j 0 = x at hc1
              generalize hy : P.getD (I + j) 0 = y at hc2
              have HX := Lib.hid hx; clear hx
              have HY := Lib.hid hy; clear hy
              go_wp2_with fail
              try go_region
              all_goals go_wp2
              go_roundw
              case rel =>
                have e : (P.drop I).getD j 0 = y := by
                  rw [← HY.out]; simp [List.getD_eq_getElem?_getD, List.getElem?_drop]
                have h1 := hput1 (.int .u8 ((bx x y).toNat : Int)) (by omega)
                rw [bs_set, ← HX.out, ← e, ← addB_succ] at h1
                rw [HX.out, e] at h1
                refine ⟨j + 1, by omega, by go_num, h1, ?_, ?_, ?_⟩
                · exact hrdj.keep ((Fr.refl (One gs) wr).setCell gs _ none _ (fun _ => rfl)).drew (fun a ha (hh : a.block = gs) => by simp only [Option.some.injEq] at ha; subst ha; simp at hh; omega)
                · simpa using hbj
                · exact (hfj.setCell gs _ none _ (fun h => by omega)).drew
              case measure => simp [intOf]; omega
            · have hge : ¬ ((j : Int) < 136) := by omega
              have hj136 : j = 136 := by omega
              have HJ := Lib.hid hj136; clear hj136
              go_wp2_with (with_reducible refine wl_stop (o := ⟨some 62, _, _, _, _, _⟩) ?_)
              have hrs : RdB wr (some ⟨gs, os, none⟩) 200 (addB (toB S 200) (P.drop I) 136) := by
                obtain ⟨a, cc, hv, _, hr, _⟩ := hsj.form
                cases hv
                rw [HJ.out, Nat.mul_one] at hr; exact hr
              refine wl_string rfl rfl Try.underlying22 Try.underlying5 Try.underlying9 rfl hrs ?_
              go_wp2_with fail
              refine (permuteR_any (mkS (addB (toB S 200) (P.drop I) 136)) _ (by rw [mkS_size, addB_len, toB_len])).mono ?_
              rintro e' w6 ⟨rfl, hf6⟩
              rw [mkS_toList, perm_add S HSL.out _ (by rw [List.length_drop]; omega), ← HSU.out]
              have hb6 : b5 ≤ w6.heap.size := Nat.le_trans hbj hf6.size
              go_wp2_with (with_reducible refine wl_stop (o := ⟨some 64, _, _, _, _, _⟩) ?_)
              refine wl_bytes rfl rfl Try.underlying9 Try.underlying22 Try.underlying5 rfl (by rw [mkS_size, toB_len]; unfold maxLen; omega) b5 hb6 ?_
              intro c7 w7 hs7 hf7 hz7
              rw [mkS_toList, mkS_size, toB_len] at hs7
              rw [mkS_size, toB_len]
              have hf67 := hf6.then hf7
              have hrd7 := hrdj.still hf67
              have hfr7 := hfj.then hf67
              have hb7 : b5 ≤ w7.heap.size := Nat.le_trans hb6 hf7.size
              generalize w6.heap.size = g6 at *
              clear hsj hrdj hfj hrs hf6 hf7 hz7 hf67
              go_wp2_with fail
              go_roundw
              case rel => exact ⟨I + 136, by omega, by have := HI.out; omega, by go_num, hs7, hrd7, hb7, hfr7⟩
              case measure => simp [intOf]; omega
        · have hge : ¬ ((I : Int) < (P.length : Int)) := by omega
          have hend : afterB P I = ended (feed (zeros25, 0) l) e := hpe I (by omega)
          rw [hend] at hst hSl
          clear hpe hend
          generalize hE : ended (feed (zeros25, 0) l) e = S0 at *
          have HE := Lib.hid hE; clear hE
          have HPM := Lib.hid hpm; clear hpm
          clear hrdk
          go_wp2_with fail
          go_loopw [11, 8] (fun o v wr => ∃ j : Nat, j ≤ pieces n ∧ o = .string (mkS (squeeze S0 j)) ∧ Own wr b5 5 1 v 200 (bs (toB (permN S0 j) 200)) ∧ b5 ≤ wr.heap.size ∧ Fr Nob w wr) (fun o _ _ => n - strLen o)
          case atStart => exact ⟨0, Nat.zero_le _, by rw [squeeze_zero']; rfl, by rw [permN_zero']; exact hst, hbk, hfk⟩
          case round =>
            obtain ⟨j, hj, rfl, hsj, hbj, hfj⟩ := hrel
            clear hst hbk hfk
            have hpi := pieces_lt' n j
            have hql : (mkS (squeeze S0 j)).size = 136 * j := by rw [mkS_size, squeeze_len]
            generalize hq : mkS (squeeze S0 j) = q at *
            have HQ := Lib.hid hq; clear hq
            by_cases hlt : 136 * j < n
            · have hltI : (q.size : Int) < (n : Int) := by omega
              have hj1 := hpi.1 hlt
              have HPI := Lib.hid hpi; clear hpi
              have HQL := Lib.hid hql; clear hql
              have HLT := Lib.hid hlt; clear hlt
              have HSL := Lib.hid hSl; clear hSl
              obtain ⟨a, cc, rfl, hcc, hrs, hna⟩ := hsj.form
              have e1 : ∀ wx, (Instr.sliceAt 22 (.slice a 200 cc) none (some (.int .i64 136)) none).run Try.prog wx = .ok (.slice a 136 cc) wx := fun wx => run_slice_hi wx Try.underlying22 size_u8 a 200 cc .i64 136 (by omega)
              go_wp2_with (with_reducible refine wl_stop (o := ⟨some 72, _, _, _, _, _⟩) ?_)
              have hrs2 : RdB wr a 136 (toB (permN S0 j) 136) := by
                have h2 := hrs
                rw [Nat.mul_one] at h2
                have h3 := Rd.take h2 136 (by omega)
                rwa [bs_take, toB_take] at h3
              have hrs3 : RdB wr a 200 (toB (permN S0 j) 200) := by
                rw [Nat.mul_one] at hrs; exact hrs
              clear hrs hna
              have hcat : ¬ 9223372036854775807 < q.size + (mkS (toB (permN S0 j) 136)).size := by have := HLT.out; rw [mkS_size, toB_len, HQL.out]; omega
              refine wl_string rfl rfl Try.underlying22 Try.underlying5 Try.underlying9 rfl hrs2 ?_
              go_wp2_with (with_reducible refine wl_stop (o := ⟨some 75, _, _, _, _, _⟩) ?_)
              have hqq : q ++ mkS (toB (permN S0 j) 136) = mkS (squeeze S0 (j + 1)) := by rw [← HQ.out, mkS_append, ← squeeze_succ]
              rw [hqq]
              refine wl_string rfl rfl Try.underlying22 Try.underlying5 Try.underlying9 rfl hrs3 ?_
              clear hcat
              go_wp2_with fail
              refine (permuteR_any (mkS (toB (permN S0 j) 200)) _ (by rw [mkS_size, toB_len])).mono ?_
              rintro e' w6 ⟨rfl, hf6⟩
              rw [mkS_toList, perm_toB _ (by rw [permN_len, HSL.out]), ← permN_succ]
              have hb6 : b5 ≤ w6.heap.size := Nat.le_trans hbj hf6.size
              go_wp2_with (with_reducible refine wl_stop (o := ⟨some 77, _, _, _, _, _⟩) ?_)
              refine wl_bytes rfl rfl Try.underlying9 Try.underlying22 Try.underlying5 rfl (by rw [mkS_size, toB_len]; unfold maxLen; omega) b5 hb6 ?_
              intro c7 w7 hs7 hf7 hz7
              rw [mkS_toList, mkS_size, toB_len] at hs7
              rw [mkS_size, toB_len]
              have hf67 := hf6.then hf7
              have hfr7 := hfj.then hf67
              have hb7 : b5 ≤ w7.heap.size := Nat.le_trans hb6 hf7.size
              generalize w6.heap.size = g6 at *
              clear hsj hfj hrs2 hrs3 hf6 hf7 hz7 hf67
              go_wp2_with fail
              go_roundw
              case rel => exact ⟨j + 1, hj1, rfl, hs7, hb7, hfr7⟩
              case measure =>
                have h1 := HLT.out; have h2 := HQL.out
                have h3 : (mkS (squeeze S0 (j + 1))).size = 136 * (j + 1) := by rw [mkS_size, squeeze_len]
                simp [strLen, h3]; omega
            · have hge : ¬ ((q.size : Int) < (n : Int)) := by omega
              have hjp : j = pieces n := by have := hpi.2; omega
              have HJP := Lib.hid hjp; clear hjp
              go_wp2_with fail
              go_ret
              refine ⟨?_, hfj⟩
              rw [← HQ.out, HJP.out, mkS_extract]
              unfold spongeB outB
              rw [HE.out]
              rfl
    · have hb : (((l.length : Int) + 1 + (m : Int)) % 136 != 0) = true := by simp; omega
      go_wp2_with (with_reducible refine wl_stop (o := ⟨some 22, _, _, _, _, _⟩) ?_)
      refine wl_one rfl rfl Try.underlying22 info_u8 0 rfl ?_
      intro w2 hg2 hf2 hz2
      have hown2 := hown.still hf2
      have hfr2 := hf.then hf2
      generalize wr.heap.size = g2 at *
      clear hown hf hf2 hz2 hrd hna
      have HMOD := Lib.hid hmod; clear hmod
      have HLT := Lib.hid hlt; clear hlt
      go_wp2_with (with_reducible refine wl_stop (o := ⟨some 23, _, _, _, _, _⟩) ?_)
      refine wl_append rfl rfl Try.underlying22 info_u8 rfl (by decide) hown2 rfl rfl (Rd.whole hg2) (bs_one _) (by simp [maxLen]; omega) (by simp; omega) hfr2.size ?_
      intro v3 w3 hown3 hf3 hb3
      have hfr3 : Fr Nob w w3 := hown2.fr hfr2 (Nat.le_refl _) hf3
      rw [pad_append] at hown3
      clear hown2 hfr2 hg2 hf3 hb3
      go_wp2_with fail
      go_roundw
      case rel => exact ⟨m + 1, by have := HMOD.out; have := HLT.out; omega, hown3, hfr3⟩
      case measure =>
        obtain ⟨a8, c8, rfl, _⟩ := hown3.form
        have := HLT.out; have := HMOD.out
        simp [lenV]; omega
end Go.Proofs.Ytdadnajbdnbbdaa

/- absorber.out, and what hashes with it -/
namespace Go.Proofs.Ytdadnajbdnbbdaa
open Go.RowKit Go.Mv Mvp
theorem squeeze_zero (S : List UInt64) : squeeze S 0 = [] := by unfold squeeze; rfl
theorem permN_zero (S : List UInt64) : permN S 0 = S := by unfold permN; rfl
/-- `v[:n:n]` of an owned slice is owned -/
theorem own_cut {w : World} {base : Nat} {T : TypeId} {a : Option Addr} {m c : Nat} {L : List Value} (h : Own w base T 1 (.slice a m c) m L) (n : Nat) (hn : n ≤ m) : Own w base T 1 (.slice a n n) n (L.take n) := by
  obtain ⟨hl, h | ⟨g, o, cap, B, hv, hb, hg, h1, h2, h3, h4⟩⟩ := h
  · obtain ⟨hv, hm⟩ := h
    cases hv
    have : n = 0 := by omega
    subst this
    exact ⟨by simp, .inl ⟨rfl, rfl⟩⟩
  · cases hv
    refine ⟨by rw [List.length_take]; omega, .inr ⟨g, o, n, B, rfl, hb, hg, Nat.le_refl _, by omega, by omega, ?_⟩⟩
    rw [← h4, List.take_take]
    congr 1
    omega
attribute [local irreducible] permS permP toB turnsK squeeze permN
theorem last_eq (k : Nat) (e : UInt8) (h : k < 136) : ((List.replicate 136 (0 : UInt8)).set k e).set 135 (bx (((List.replicate 136 (0 : UInt8)).set k e).getD 135 0) 0x80) = List.replicate k 0 ++ padL k e := by
  have h1 : (List.replicate 136 (0 : UInt8)).set k e = List.replicate k 0 ++ (e :: List.replicate (135 - k) 0) := by
    have : (List.replicate 136 (0 : UInt8)) = List.replicate k 0 ++ (0 :: List.replicate (135 - k) 0) := by
      rw [← List.replicate_succ, List.replicate_append_replicate]; congr 1; omega
    rw [this, List.set_append_right _ _ (by simp)]
    simp
  have h2 : (List.replicate k 0 ++ (e :: List.replicate (135 - k) 0)).getD 135 0 = (e :: List.replicate (135 - k) 0).getD (135 - k) 0 := by
    rw [List.getD_eq_getElem?_getD, List.getD_eq_getElem?_getD, List.getElem?_append_right (by simp; omega), List.length_replicate]
  rw [h1, h2, List.set_append_right _ _ (by simp; omega)]
  simp only [List.length_replicate, padL]
theorem pieces_lt (n j : Nat) : 136 * j < n ↔ j < pieces n := by unfold pieces; omega

set_option maxHeartbeats 2000000 in
set_option maxRecDepth 1000000 in
theorem out_any (g : Nat) (S : List UInt64) (k : Nat) (e : UInt8) (n : Nat) (w : World) (hS : S.length = 25) (hk : k < 136) (hn : n ≤ 20000) (hg : Has w g (abs (S, k)) 108) :
    Calls Try.prog 53 #[.pointer (some ⟨g, 0, none⟩), .int .u8 (e.toNat : Int), .int .i64 (n : Int)] w fun r w' => ∃ v, r = .returned v ∧ Own w' w.heap.size 5 1 v n (bs (outB (ended (S, k) e) n)) ∧ Fr (One g) w w' := by
  go_enter Try.func53, Try.ntmps53
  go_wp2_with (with_reducible refine wl_stop (o := ⟨_, .alloc 111, _, _, _, _⟩) ?_)
  refine wl_alloc rfl rfl zero_a136 (bs (List.replicate 136 0)) (by simp [Value.cells]) ?_
  intro w1 hl1 hf1 hz1
  have hg1 := hg.keep hf1 id
  have hgl := hg.lt
  have hfr1 : Fr (One g) w w1 := (Fr.refl (One g) w).same hf1
  have hb0 : w.heap.size ≤ w1.heap.size := hf1.size
  generalize hgl0 : w.heap.size = gl at *
  have HGL := Lib.hid hgl0; clear hgl0
  clear hf1 hz1 hg
  have hc25 : w1.cell? ⟨g, 25, none⟩ = some (.int .i64 (k : Int)) := hg1.cell (abs_at (S, k) hS)
  obtain ⟨vk, hck, hfk⟩ := hl1.ready (i := k) (by rw [length_bs]; simpa using hk)
  have hkI : (k : Int) < 136 := by omega
  go_wp2_with (with_reducible refine wl_stop (o := ⟨some 15, _, _, _, _, _⟩) ?_)
  have hl2 := hl1.set k (.int .u8 (e.toNat : Int))
  rw [bs_set] at hl2
  have hg2 := hg1.other (g' := gl) k none (.int .u8 (e.toNat : Int)) (by omega)
  have hfr2 : Fr (One g) w (w1.setCell ⟨gl, k, none⟩ (.int .u8 (e.toNat : Int))) := hfr1.setCell gl k none _ (fun h => by have := HGL.out; omega)
  have hsz2 : gl < (w1.setCell ⟨gl, k, none⟩ (.int .u8 (e.toNat : Int))).heap.size := hl2.lt
  generalize w1.setCell ⟨gl, k, none⟩ (.int .u8 (e.toNat : Int)) = w2 at *
  clear hl1 hg1 hfr1 hc25 hck hfk hb0
  have hc135 : w2.cell? ⟨gl, 135, none⟩ = some (.int .u8 ((((List.replicate 136 (0 : UInt8)).set k e).getD 135 0).toNat : Int)) := hl2.cell (bs_get _ _ (by simp))
  have hf135 : w2.frozen? ⟨gl, 135, none⟩ = false := hl2.free _ (by rw [length_bs]; simp)
  generalize hy : ((List.replicate 136 (0 : UInt8)).set k e).getD 135 0 = y at hc135
  have HY := Lib.hid hy; clear hy
  show wpList _ _ _ _ _ _
  go_wp2_with fail
  have hbx : bits BinOp.xor IntKind.u8 (y.toNat : Int) 128 = ((bx y 128).toNat : Int) := xor8_run y 128
  rw [hbx]
  have hl3 := hl2.set 135 (.int .u8 ((bx y 0x80).toNat : Int))
  rw [bs_set, ← HY.out, last_eq k e hk] at hl3
  rw [HY.out] at hl3
  have hg3 := hg2.other (g' := gl) 135 none (.int .u8 ((bx y 128).toNat : Int)) (by omega)
  have hfr3 : Fr (One g) w (w2.setCell ⟨gl, 135, none⟩ (.int .u8 ((bx y 128).toNat : Int))) := hfr2.setCell gl 135 none _ (fun h => by have := HGL.out; omega)
  generalize w2.setCell ⟨gl, 135, none⟩ (.int .u8 ((bx y 128).toNat : Int)) = w3 at *
  have hpl : (padL k e).length = 136 - k := padL_len k e hk
  have hne : g ≠ gl := by omega
  clear hl2 hg2 hfr2 hc135 hf135 hbx hsz2 HY
  have e1 : ∀ wx, (Instr.sliceAt 111 (.pointer (some ⟨gl, 0, none⟩)) none none none).run Try.prog wx = .ok (.slice (some ⟨gl, 0, none⟩) 136 136) wx := fun wx => run_sliceA_all wx Try.underlying111 size_u8 gl 0
  refine wp_region_still_tail 4 (by kernel_rfl) (by kernel_rfl) ?_
  simp only [List.take_succ_cons, List.take_zero, List.drop_succ_cons, List.drop_zero]
  repeat still_step
  refine wpStill_nil ?_
  show wpList _ _ _ _ _ w3.drew
  go_wp2_with fail
  have hrd : RdB w3.drew (some ⟨gl, 0, none⟩) 136 (List.replicate k 0 ++ padL k e) := by
    have := Rd.whole hl3.drew
    rwa [length_bs, List.length_append, List.length_replicate, hpl, show k + (136 - k) = 136 by omega] at this
  refine (xor_any g S [.int .i64 (k : Int)] 108 _ 136 _ _ _ hS (by omega) hg3.drew hrd (fun x hx (e : x.block = g) => by simp only [Option.some.injEq] at hx; subst hx; simp at e; omega)).mono ?_
  rintro e w4 ⟨rfl, hg4, hf4, hz4⟩
  have hxb : xorB S (List.replicate k 0 ++ padL k e) 136 = xorAt S k (padL k e) := by
    have := xorB_piece S k (padL k e) []
    rwa [List.append_nil, hpl, show k + (136 - k) = 136 by omega] at this
  rw [hxb, abs_def] at hg4
  have hfr4 : Fr (One g) w w4 := hfr3.drew.trans hf4 (fun _ _ t => t)
  have hend : ended (S, k) e = permS (xorAt S k (padL k e)) := by
    unfold ended
    rw [feed_full _ _ _ (by simp only [hpl]; omega) hk]
  have hxl : (xorAt S k (padL k e)).length = 25 := by rw [xorAt_len, hS]
  clear hl3 hg3 hfr3 e1 hrd hf4 hz4 hxb hpl
  generalize xorAt S k (padL k e) = X at *
  have HEND := Lib.hid hend; clear hend
  go_wp2_with fail
  refine (permute_abs g X k _ hxl hg4).mono ?_
  rintro e w5 ⟨rfl, hg5, hf5⟩
  have hfr5 : Fr (One g) w w5 := hfr4.trans hf5 (fun _ _ t => t)
  have hS5 : (permS X).length = 25 := by rw [permS_len, hxl]
  generalize permS X = S0 at *
  clear hg4 hfr4 hf5 hxl hS
  go_wp2_with fail
  go_loopw [8] (fun v wr => ∃ j, j ≤ pieces n ∧ Own wr w.heap.size 5 1 v (136 * j) (bs (squeeze S0 j)) ∧ Has wr g (abs (permN S0 j, k)) 108 ∧ Fr (One g) w wr) (fun v _ => n - lenV v)
  case atStart => exact ⟨0, Nat.zero_le _, by rw [squeeze_zero]; exact Own.nil _ _ _ _, by rw [permN_zero]; exact hg5, hfr5⟩
  case round =>
    obtain ⟨j, hj, hown, hgj, hfj⟩ := hrel
    clear hg5 hfr5
    have hjn := pieces_lt n j
    obtain ⟨a, cap, rfl, hcap, hrdj, hna⟩ := hown.form
    by_cases hlt : 136 * j < n
    · have hltI : 136 * (j : Int) < (n : Int) := by omega
      have hpj : (permN S0 j).length = 25 := by rw [permN_len, hS5]
      have hjp : j + 1 ≤ pieces n := hjn.1 hlt
      have HJN := Lib.hid hjn; clear hjn
      have HLT := Lib.hid hlt; clear hlt
      clear hrdj hna
      go_wp2_with fail
      rw [← abs_def] at hgj
      refine (bytes_any g (permN S0 j) [.int .i64 (k : Int)] 108 136 _ hpj (by omega) hgj).mono ?_
      rintro e w6 ⟨rfl, ht6, hf6, hz6⟩
      have hg6 := hgj.keep hf6 id
      rw [abs_def] at hg6
      have hown6 := hown.still hf6
      have hfr6 : Fr (One g) w w6 := hfj.same hf6
      have hwb : w.heap.size ≤ wr.heap.size := hfj.size
      have hgb : g < w.heap.size := by have := HGL.out; omega
      generalize wr.heap.size = gt at *
      clear hgj hown hfj hf6
      go_wp2_with (with_reducible refine wl_stop (o := ⟨some 37, _, _, _, _, _⟩) ?_)
      have hrd6 : Rd w6 (some ⟨gt, 0, none⟩) (136 * 1) (bs (toB (permN S0 j) 136)) := by
        have := Rd.whole ht6
        rwa [length_bs, toB_len] at this
      refine wl_append rfl rfl Try.underlying22 info_u8 rfl (by decide) hown6 rfl rfl hrd6 (bs_one _) (by unfold maxLen; omega) (by omega) hfr6.size ?_
      intro v7 w7 hown7 hf7 hb7
      have hg7 := hg6.keep hf7 (fun hh => by have := hown6.lt hh; omega)
      have hfr7 : Fr (One g) w w7 := hown6.fr hfr6 (Nat.le_refl _) hf7
      rw [← bs_append, ← squeeze_succ] at hown7
      clear ht6 hg6 hown6 hfr6 hrd6 hf7 hb7
      go_wp2_with fail
      refine (permute_abs g _ k _ hpj hg7).mono ?_
      rintro e w8 ⟨rfl, hg8, hf8⟩
      rw [← permN_succ] at hg8
      have hown8 := hown7.keep hf8 (fun k' hk' (h : k' = g) => by have := hown7.lt hk'; omega)
      have hfr8 : Fr (One g) w w8 := hfr7.trans hf8 (fun _ _ t => t)
      clear hg7 hown7 hfr7 hf8
      go_wp2_with fail
      go_roundw
      case rel => exact ⟨j + 1, hjp, hown8, hg8, hfr8⟩
      case measure =>
        obtain ⟨a8, c8, rfl, _⟩ := hown8.form
        have := HLT.out
        simp [lenV]; omega
    · have hge : ¬ (136 * (j : Int) < (n : Int)) := by omega
      have hjp : j = pieces n := by have := hjn.2; omega
      have HJP := Lib.hid hjp; clear hjp
      have HJN := Lib.hid hjn; clear hjn
      have hnc : n ≤ cap := by omega
      have hnI : ¬ (n : Int) < 0 := by omega
      clear hgj
      go_wp2_with (with_reducible refine wl_stop (o := ⟨some 45, _, _, _, _, _⟩) ?_)
      refine wl_cut3 rfl rfl Try.underlying22 size_u8 rfl 0 n n rfl rfl rfl rfl rfl (Nat.zero_le _) (Nat.le_refl _) hnc ?_
      go_wp2_with fail
      go_ret
      rw [cutAt_0]
      refine ⟨_, rfl, ?_, hfj⟩
      have hsq : bs (outB (ended (S, k) e) n) = (bs (squeeze S0 j)).take n := by
        rw [HEND.out, HJP.out, outB, bs_take]
      rw [hsq]
      exact own_cut hown n (by omega)
end Go.Proofs.Ytdadnajbdnbbdaa

/- absorber.frame; the reference's Frame -/
namespace Mvp
/-- a length in four bytes -/
def lenB (n : Nat) : List UInt8 := [UInt8.ofNat (n / 16777216), UInt8.ofNat (n / 65536), UInt8.ofNat (n / 256), UInt8.ofNat n]
def frameL (l : List UInt8) : List UInt8 := lenB l.length ++ l
def framesL (ls : List (List UInt8)) : List UInt8 := (ls.map frameL).flatten
theorem framesL_nil : framesL [] = [] := rfl
theorem framesL_append (a b : List (List UInt8)) : framesL (a ++ b) = framesL a ++ framesL b := by simp [framesL]
theorem framesL_one (a : List UInt8) : framesL [a] = frameL a := by simp [framesL]
theorem framesL_cons (a : List UInt8) (b : List (List UInt8)) : framesL (a :: b) = frameL a ++ framesL b := by simp [framesL]
end Mvp
namespace Go.Proofs.Ytdadnajbdnbbdaa
open Go.RowKit Go.Mv Mvp
attribute [local irreducible] permS permP toB turnsK squeeze permN permB spongeB
theorem ofNat_int (k : Nat) : ((UInt8.ofNat k).toNat : Int) = ((k % 256 : Nat) : Int) := by simp
theorem lenB_0 (n : Nat) (h : n ≤ 1000000) : Value.int .u8 ((n : Int) / 16777216) = .int .u8 ((UInt8.ofNat (n / 16777216)).toNat : Int) := by
  rw [ofNat_int]; congr 1; omega
theorem lenB_1 (n : Nat) (h : n ≤ 1000000) : Value.int .u8 ((n : Int) / 65536) = .int .u8 ((UInt8.ofNat (n / 65536)).toNat : Int) := by
  rw [ofNat_int]; congr 1; omega
theorem lenB_2 (n : Nat) : Value.int .u8 ((n : Int) / 256 % 256) = .int .u8 ((UInt8.ofNat (n / 256)).toNat : Int) := by
  rw [ofNat_int]; rfl
theorem lenB_3 (n : Nat) : Value.int .u8 ((n : Int) % 256) = .int .u8 ((UInt8.ofNat n).toNat : Int) := by
  rw [ofNat_int]; rfl
theorem lenB_len (n : Nat) : (lenB n).length = 4 := rfl

set_option maxHeartbeats 2000000 in
set_option maxRecDepth 1000000 in
theorem frame_any (g : Nat) (st : List UInt64 × Nat) (b : Option Addr) (n c : Nat) (l : List UInt8) (w : World) (hS : st.1.length = 25) (hat : st.2 < 136) (hn : n ≤ 1000000) (hnc : n ≤ c) (hg : Has w g (abs st) 108) (hb : RdB w b n l) (hbg : Off (One g) b) :
    Calls Try.prog 52 #[.pointer (some ⟨g, 0, none⟩), .slice b n c] w fun e w' => e = .returned (.tuple #[]) ∧ Has w' g (abs (feed st (frameL l))) 108 ∧ Fr (One g) w w' := by
  go_enter Try.func52, Try.ntmps52
  go_wp2_with (with_reducible refine wl_stop (o := ⟨some 19, _, _, _, _, _⟩) ?_)
  refine wl_four rfl rfl Try.underlying22 info_u8 _ _ _ _ (lenB_0 n hn) (lenB_1 n hn) (lenB_2 n) (lenB_3 n) ?_
  intro w1 hh1 hf1 hz1
  have hh1' : Has w1 w.heap.size (bs (lenB n)) 5 := hh1
  have hg1 := hg.keep hf1 id
  have hb1 := hb.still hf1
  have hgl := hg.lt
  generalize w.heap.size = g4 at *
  clear hg hb hh1
  have hrd : RdB w1 (some ⟨g4, 0, none⟩) 4 (lenB n) := by
    have := Rd.whole hh1'
    rwa [length_bs, lenB_len] at this
  go_wp2_with fail
  refine (write_any g st _ 4 4 (lenB n) w1 hS hat (by omega) (by omega) hg1 hrd (fun x hx (e : x.block = g) => by simp only [Option.some.injEq] at hx; subst hx; simp at e; omega)).mono ?_
  rintro e w2 ⟨rfl, hg2, hf2⟩
  have hb2 := hb1.keep hf2 hbg
  have hfr2 : Fr (One g) w w2 := ((Fr.refl (One g) w).same hf1).trans hf2 (fun _ _ t => t)
  clear hf1 hz1 hh1' hg1 hb1 hrd hf2
  go_wp2_with fail
  refine (write_any g (feed st (lenB n)) b n c l w2 (by rw [feed_len, hS]) (feed_lt _ _ hat) hn hnc hg2 hb2 hbg).mono ?_
  rintro e w3 ⟨rfl, hg3, hf3⟩
  go_wp2_with fail
  go_end0
  rw [← feed_append, ← hb2.len] at hg3
  exact ⟨rfl, hg3, hfr2.trans hf3 (fun _ _ t => t)⟩

set_option maxHeartbeats 2000000 in
set_option maxRecDepth 1000000 in
theorem frameR_any (s : ByteArray) (w : World) (hs : s.size ≤ 1000000) :
    Calls Try.prog 47 #[.string s] w fun r w' => r = .returned (.string (mkS (frameL s.data.toList))) ∧ Fr Nob w w' := by
  go_enter Try.func47, Try.ntmps47
  go_wp2_with (with_reducible refine wl_stop (o := ⟨some 17, _, _, _, _, _⟩) ?_)
  refine wl_four rfl rfl Try.underlying22 info_u8 _ _ _ _ (lenB_0 s.size hs) (lenB_1 s.size hs) (lenB_2 s.size) (lenB_3 s.size) ?_
  intro w1 hh1 hf1 hz1
  have hrd : RdB w1 (some ⟨w.heap.size, 0, none⟩) 4 (lenB s.size) := Rd.whole hh1
  have e1 := run_string hrd 4 Try.underlying22 Try.underlying5 Try.underlying9
  have hcat : ¬ 9223372036854775807 < (mkS (lenB s.size)).size + s.size := by rw [mkS_size, lenB_len]; omega
  go_wp2_with fail
  go_ret
  refine ⟨?_, hf1⟩
  have : mkS (lenB s.size) ++ s = mkS (frameL s.data.toList) := by
    rw [frameL, ← mkS_append, mkS_data]; rfl
  exact congrArg (fun q => Ending.returned (.string q)) this
end Go.Proofs.Ytdadnajbdnbbdaa

/- Hash, stream and Stream of the sponge -/
namespace Go.Proofs.Ytdadnajbdnbbdaa
open Go.RowKit Go.Mv Mvp
attribute [local irreducible] permS permP toB turnsK squeeze permN
theorem built_abs : Try.prog.built 108 [] = some (abs (zeros25, 0)).toArray := by unfold abs; kernel_rfl

end Go.Proofs.Ytdadnajbdnbbdaa

/- sponge.tag and sponge.Tag -/
namespace Go.Proofs.Ytdadnajbdnbbdaa
open Go.RowKit Go.Mv Mvp
attribute [local irreducible] permS permP toB turnsK squeeze permN permB spongeB
/-- the value reads as these bytes, from an old block -/
def PartIs (w : World) (v : Value) (l : List UInt8) : Prop := ∃ a n c, v = .slice a n c ∧ n ≤ c ∧ n ≤ 1000000 ∧ RdB w a n l ∧ Old w a
theorem PartIs.still {w w' : World} {v : Value} {l : List UInt8} (h : PartIs w v l) (hf : Fr Nob w w') : PartIs w' v l := by
  obtain ⟨a, n, c, h1, h2, h3, h4, h5⟩ := h
  exact ⟨a, n, c, h1, h2, h3, h4.still hf, h5.grow hf.size⟩
/-- a slice of slices of bytes -/
def PartsAt (w : World) (a : Option Addr) (ls : List (List UInt8)) : Prop := ∃ vs : List Value, Rd w a ls.length vs ∧ ∀ (i : Nat) (v : Value), vs[i]? = some v → ∃ l : List UInt8, ls[i]? = some l ∧ PartIs w v l
theorem PartsAt.get {w : World} {a : Option Addr} {ls : List (List UInt8)} (h : PartsAt w a ls) {j : Nat} (hj : j < ls.length) : ∃ b o v, a = some ⟨b, o, none⟩ ∧ w.cell? ⟨b, o + j, none⟩ = some v ∧ PartIs w v (ls.getD j []) := by
  obtain ⟨vs, hr, hv⟩ := h
  obtain ⟨b, o, rfl, hat⟩ := hr.at (by omega)
  have hl := hr.len
  obtain ⟨l, h1, h2⟩ := hv j (vs[j]'(by omega)) (List.getElem?_eq_getElem (by omega))
  refine ⟨b, o, vs[j]'(by omega), rfl, hat j _ (List.getElem?_eq_getElem (by omega)), ?_⟩
  rwa [List.getD_eq_getElem?_getD, h1]
theorem PartsAt.still {w w' : World} {a : Option Addr} {ls : List (List UInt8)} (h : PartsAt w a ls) (hf : Fr Nob w w') : PartsAt w' a ls := by
  obtain ⟨vs, hr, hv⟩ := h
  refine ⟨vs, hr.still hf, fun i v hi => ?_⟩
  obtain ⟨l, h1, h2⟩ := hv i v hi
  exact ⟨l, h1, h2.still hf⟩
/-- what a tag is made of -/
def tagText (s : List UInt8) (ls : List (List UInt8)) : List UInt8 := framesL (s :: ls)
def tagL (s : List UInt8) (ls : List (List UInt8)) : List UInt8 := spongeB (tagText s ls) 6 32

theorem z25 : ((zeros25, 0) : List UInt64 × Nat).1.length = 25 := rfl
attribute [local irreducible] feed frameL framesL abs zeros25
set_option maxHeartbeats 400000 in
set_option maxRecDepth 1000000 in
theorem tag_any (s : ByteArray) (a : Option Addr) (c : Nat) (ls : List (List UInt8)) (w : World) (hs : s.size ≤ 1000000) (hm : ls.length ≤ 1000000) (hb : PartsAt w a ls) :
    Calls Try.prog 50 #[.string s, .slice a ls.length c] w fun r w' => ∃ v, r = .returned v ∧ Own w' w.heap.size 5 1 v 32 (bs (tagL s.data.toList ls)) ∧ Fr Nob w w' := by
  go_enter Try.func50, Try.ntmps50
  go_wp2_with (with_reducible refine wl_stop (o := ⟨some 8, _, _, _, _, _⟩) ?_)
  refine wl_build0 rfl rfl _ built_abs ?_
  refine wl_box rfl rfl rfl (abs (zeros25, 0)) rfl ?_
  intro w1 hg1 hf1 hz1
  clear hz1
  have hst1 := z25
  have hst2 : ((zeros25, 0) : List UInt64 × Nat).2 < 136 := Nat.zero_lt_succ _
  obtain ⟨st0, hst0⟩ : ∃ st0 : List UInt64 × Nat, st0 = (zeros25, 0) := ⟨_, rfl⟩
  rw [← hst0] at hg1 hst1 hst2
  have HST0 := Lib.hid hst0; clear hst0
  generalize hgw : w.heap.size = g at *
  have HG := Lib.hid hgw; clear hgw
  go_wp2_with (with_reducible refine wl_stop (o := ⟨some 12, _, _, _, _, _⟩) ?_)
  refine wl_bytes rfl rfl Try.underlying9 Try.underlying22 Try.underlying5 rfl (by unfold maxLen; omega) w1.heap.size (Nat.le_refl _) ?_
  intro cap w2 hown2 hf2 hz2
  have hg2 := hg1.keep hf2 id
  have hfr2 := hf1.then hf2
  have hgl := hg1.lt
  obtain ⟨a2, c2, hv2, hc2, hrd2, -⟩ := hown2.form
  cases hv2
  rw [Nat.mul_one] at hrd2
  go_wp2_with fail
  have hoff0 : Off (One g) (some (⟨w1.heap.size, 0, none⟩ : Addr)) := fun x hx (e : x.block = g) => by
    cases hx
    exact absurd e (by show ¬ (w1.heap.size = g); omega)
  have hcall := frame_any g st0 (some ⟨w1.heap.size, 0, none⟩) s.size cap s.data.toList w2 hst1 hst2 hs hc2 hg2 hrd2 hoff0
  refine hcall.mono ?_
  rintro e w3 ⟨rfl, hg3, hf3⟩
  have hfr3 : Fr Nob w w3 := hfr2.new hf3 (by rw [HG.out]; exact Nat.le_refl _)
  clear hg1 hf1 hown2 hf2 hz2 hg2 hfr2 hrd2 hf3 hgl
  go_wp2_with fail
  go_loopw [16] (fun i wr => ∃ j : Nat, j ≤ ls.length ∧ i = .int .i64 (j : Int) ∧ Has wr g (abs (feed st0 (framesL (s.data.toList :: ls.take j)))) 108 ∧ Fr Nob w wr) (fun i _ => (ls.length - intOf i).toNat)
  case atStart => exact ⟨0, by omega, rfl, by rw [List.take_zero, framesL_one]; exact hg3, hfr3⟩
  case round =>
    obtain ⟨j, hj, rfl, hgj, hfj⟩ := hrel
    clear hg3 hfr3
    by_cases hlt : j < ls.length
    · have hltI : (j : Int) < (ls.length : Int) := by omega
      obtain ⟨b, o, v, rfl, hc, hp⟩ := (hb.still hfj).get hlt
      obtain ⟨b', o', v', hv', hc', hp'⟩ := hb.get hlt
      simp only [Option.some.injEq, Addr.mk.injEq] at hv'
      obtain ⟨rfl, rfl, -⟩ := hv'
      have hvv : v = v' := by
        have := hfj.cell id hc'
        rw [hc] at this; simpa using this
      subst hvv
      obtain ⟨ap, np, cp, rfl, hp1, hp2, hp3, hp4⟩ := hp'
      have hr3 := hp3.still hfj
      clear hp
      have hoff : Off (One g) ap := hp4.off (by rw [HG.out]; exact Nat.le_refl _)
      go_wp2_with fail
      have hSj : (feed st0 (framesL (s.data.toList :: ls.take j))).1.length = 25 := by rw [feed_len, hst1]
      have hkj := feed_lt (framesL (s.data.toList :: ls.take j)) st0 hst2
      refine (frame_any g (feed st0 (framesL (s.data.toList :: ls.take j))) ap np cp (ls.getD j []) wr hSj hkj hp2 hp1 hgj hr3 hoff).mono ?_
      rintro e w4 ⟨rfl, hg4, hf4⟩
      have hfr4 : Fr Nob w w4 := hfj.new hf4 (by rw [HG.out]; exact Nat.le_refl _)
      rw [← feed_append] at hg4
      have hfl : framesL (s.data.toList :: ls.take j) ++ frameL (ls.getD j []) = framesL (s.data.toList :: ls.take (j + 1)) := by
        rw [List.take_succ_eq_append_getElem hlt, ← List.cons_append, framesL_append, framesL_one, List.getD_eq_getElem?_getD, List.getElem?_eq_getElem hlt]; rfl
      rw [hfl] at hg4
      clear hSj hkj hr3 hgj hfj hf4 hfl
      go_wp2_with fail
      go_roundw
      case rel => exact ⟨j + 1, by omega, by go_num, hg4, hfr4⟩
      case measure => simp [intOf]; omega
    · have hge : ¬ ((j : Int) < (ls.length : Int)) := by omega
      have hjn : j = ls.length := by omega
      have hSj : (feed st0 (framesL (s.data.toList :: ls.take j))).1.length = 25 := by rw [feed_len, hst1]
      have hkj := feed_lt (framesL (s.data.toList :: ls.take j)) st0 hst2
      have hft : framesL (s.data.toList :: ls.take j) = tagText s.data.toList ls := by rw [hjn, List.take_length]; rfl
      rw [hft] at hgj hSj hkj
      generalize hst : feed st0 (tagText s.data.toList ls) = st at *
      have HST := Lib.hid hst; clear hst
      have HJN := Lib.hid hjn; clear hjn
      clear hft
      go_wp2_with fail
      refine (out_any g st.1 st.2 6 32 wr hSj hkj (by omega) hgj).mono ?_
      rintro e w4 ⟨v, rfl, hown, hf4⟩
      go_wp2_with fail
      go_ret
      refine ⟨v, rfl, ?_, hfj.new hf4 (by rw [HG.out]; exact Nat.le_refl _)⟩
      have := hown.mono (base' := g) (by have := hgj.lt; omega)
      rw [HG.out]
      unfold tagL spongeB
      rw [← HST0.out, HST.out]
      exact this

set_option maxHeartbeats 1000000 in
theorem Tag_any (s : ByteArray) (a : Option Addr) (c : Nat) (ls : List (List UInt8)) (w : World) (hs : s.size ≤ 1000000) (hm : ls.length ≤ 1000000) (hb : PartsAt w a ls) :
    Calls Try.prog 46 #[.string s, .slice a ls.length c] w fun r w' => ∃ v, r = .returned v ∧ Own w' w.heap.size 5 1 v 32 (bs (tagL s.data.toList ls)) ∧ Fr Nob w w' := by
  go_enter Try.func46, Try.ntmps46
  go_wp2_with fail
  refine (tag_any s a c ls w hs hm hb).mono ?_
  rintro e w4 ⟨v, rfl, hown, hf4⟩
  go_wp2_with fail
  go_ret
  exact ⟨v, rfl, hown, hf4⟩
end Go.Proofs.Ytdadnajbdnbbdaa

/- mintvaultlaw1.SpongeTurns: the walk of the law -/
namespace Go.Proofs.Ytdadnajbdnbbdaa
open Go.RowKit Go.Mv Mvp

end Go.Proofs.Ytdadnajbdnbbdaa

/- The reference's Hash and Stream; the law SpongeHashes -/
namespace Go.Proofs.Ytdadnajbdnbbdaa
open Go.RowKit Go.Mv Mvp
attribute [local irreducible] permS permP toB turnsK squeeze permN permB spongeB
set_option maxHeartbeats 1000000 in
theorem hashR_any (s : ByteArray) (w : World) (hs : s.size ≤ 1000000) :
    Calls Try.prog 48 #[.string s] w fun r w' => r = .returned (.string (mkS (spongeB s.data.toList 6 32))) ∧ Fr Nob w w' := by
  go_enter Try.func48, Try.ntmps48
  go_wp2_with fail
  refine (spongeR_any s 6 32 w hs (by omega)).mono ?_
  rintro e w3 ⟨rfl, hf3⟩
  go_wp2_with fail
  go_ret
  exact ⟨rfl, hf3⟩
end Go.Proofs.Ytdadnajbdnbbdaa

/- Arguments that were handed in, opened into the words of Mem. -/
namespace Go.Mv
open Go.RowKit Go.ChangeShapes Go.WideShapes

/-- strings as values -/
def ss (l : List (List UInt8)) : List Value := l.map fun x => .string (mkS x)
theorem ss_len (l : List (List UInt8)) : (ss l).length = l.length := by simp [ss]
theorem ss_get (l : List (List UInt8)) (i : Nat) (hi : i < l.length) : (ss l)[i]? = some (.string (mkS (l.getD i []))) := by
  simp [ss, List.getD_eq_getElem?_getD, hi]

section
variable {H : Type} {enc : TypeId × Value → H} {P : Program} {w : World} {base : Nat} {held : Bool} {spare : Nat → Bool}
theorem weightsAll_mem {e : TypeId} : ∀ {ds : List (DataW H)} {d : DataW H}, d ∈ ds → ∀ n ∈ d.weights P e, n ∈ DataW.weightsAll P e ds
  | [], _, h, _, _ => by simp at h
  | d0 :: ds, d, h, n, hn => by
    simp only [DataW.weightsAll, List.mem_append]
    rcases List.mem_cons.1 h with rfl | h
    · exact .inl hn
    · exact .inr (weightsAll_mem h n hn)
theorem i64_wf {n : Int} (h : (Lit.int .i64 n).wf = true) : -9223372036854775808 ≤ n ∧ n ≤ 9223372036854775807 := by
  simpa [Lit.wf, IntKind.min, IntKind.max, IntKind.signed, IntKind.bits] using h
end
end Go.Mv

/- The reference's Tag -/
namespace Go.Proofs.Ytdadnajbdnbbdaa
open Go.RowKit Go.Mv Mvp
attribute [local irreducible] permS permP toB turnsK squeeze permN permB spongeB feed frameL framesL
theorem frameL_len (l : List UInt8) : (frameL l).length = 4 + l.length := by unfold frameL; simp [lenB_len]
def sumL (ls : List (List UInt8)) : Nat := (ls.map List.length).foldr (· + ·) 0
theorem sumL_append (a b : List (List UInt8)) : sumL (a ++ b) = sumL a + sumL b := by
  induction a with
  | nil => simp [sumL]
  | cons x a ih => simp only [sumL, List.cons_append, List.map_cons, List.foldr_cons] at *; omega
theorem framesL_len (ls : List (List UInt8)) : (framesL ls).length = 4 * ls.length + sumL ls := by
  induction ls with
  | nil => rw [framesL_nil]; rfl
  | cons a b ih => rw [framesL_cons, List.length_append, frameL_len, ih, List.length_cons]; simp only [sumL, List.map_cons, List.foldr_cons]; omega
theorem sumL_take (ls : List (List UInt8)) (j : Nat) : sumL (ls.take j) ≤ sumL ls := by
  have := sumL_append (ls.take j) (ls.drop j)
  rw [List.take_append_drop] at this; omega
theorem sumL_get (ls : List (List UInt8)) (j : Nat) (hj : j < ls.length) : (ls.getD j []).length ≤ sumL ls := by
  have h1 := sumL_append (ls.take j) (ls.drop j)
  rw [List.take_append_drop, List.drop_eq_getElem_cons hj] at h1
  have h2 : sumL (ls[j] :: ls.drop (j + 1)) = ls[j].length + sumL (ls.drop (j + 1)) := by simp only [sumL, List.map_cons, List.foldr_cons]
  have h3 : ls.getD j [] = ls[j] := by simp [List.getD_eq_getElem?_getD, hj]
  rw [h3]; omega

set_option maxHeartbeats 400000 in
set_option maxRecDepth 1000000 in
theorem tagR_any (s : ByteArray) (a : Option Addr) (c : Nat) (ls : List (List UInt8)) (w : World) (hs : s.size + sumL ls ≤ 100000) (hm : ls.length ≤ 1000) (hb : Rd w a ls.length (ss ls)) :
    Calls Try.prog 41 #[.string s, .slice a ls.length c] w fun r w' => r = .returned (.string (mkS (tagL s.data.toList ls))) ∧ Fr Nob w w' := by
  go_enter Try.func41, Try.ntmps41
  go_wp2_with fail
  refine (frameR_any s w (by omega)).mono ?_
  rintro e w1 ⟨rfl, hf1⟩
  have hsl : s.data.toList.length = s.size := size_list s
  go_wp2_with fail
  go_loopw [6, 5] (fun i q wr => ∃ j : Nat, j ≤ ls.length ∧ i = .int .i64 (j : Int) ∧ q = .string (mkS (framesL (s.data.toList :: ls.take j))) ∧ Fr Nob w wr) (fun i _ _ => (ls.length - intOf i).toNat)
  case atStart => exact ⟨0, by omega, rfl, by rw [List.take_zero, framesL_one], hf1⟩
  case round =>
    obtain ⟨j, hj, rfl, rfl, hfj⟩ := hrel
    clear hf1
    have hql : (mkS (framesL (s.data.toList :: ls.take j))).size ≤ 200000 := by
      rw [mkS_size, framesL_len]
      have h1 := sumL_take ls j
      have h2 : sumL (s.data.toList :: ls.take j) = s.data.toList.length + sumL (ls.take j) := by simp [sumL]
      rw [h2, List.length_cons, List.length_take]; omega
    by_cases hlt : j < ls.length
    · have hltI : (j : Int) < (ls.length : Int) := by omega
      obtain ⟨b, o, rfl, hat⟩ := (hb.still hfj).at (by omega)
      have hc : wr.cell? ⟨b, o + j, none⟩ = some (.string (mkS (ls.getD j []))) := hat j _ (ss_get ls j hlt)
      have hxl := sumL_get ls j hlt
      have hfl : framesL (s.data.toList :: ls.take j) ++ frameL (ls.getD j []) = framesL (s.data.toList :: ls.take (j + 1)) := by
        rw [List.take_succ_eq_append_getElem hlt, ← List.cons_append, framesL_append, framesL_one, List.getD_eq_getElem?_getD, List.getElem?_eq_getElem hlt]; rfl
      have hcat : ¬ 9223372036854775807 < (mkS (framesL (s.data.toList :: ls.take j))).size + (mkS (frameL (ls.getD j []))).size := by
        rw [mkS_size (frameL _), frameL_len]; omega
      generalize hx : ls.getD j [] = x at *
      have HX := Lib.hid hx; clear hx
      have hfl2 := hfl
      have HFL := Lib.hid hfl2; clear hfl hfl2
      generalize hq : mkS (framesL (s.data.toList :: ls.take j)) = q at *
      have HQ := Lib.hid hq; clear hq
      have HQL := Lib.hid hql; clear hql
      have HSL := Lib.hid hsl; clear hsl
      clear hat
      go_wp2_with fail
      refine (frameR_any (mkS x) wr (by rw [mkS_size]; omega)).mono ?_
      rintro e w4 ⟨rfl, hf4⟩
      rw [mkS_toList]
      have hfr4 := hfj.then hf4
      clear hfj hf4
      go_wp2_with fail
      go_roundw
      case rel => exact ⟨j + 1, by omega, by go_num, by rw [← HQ.out, mkS_append, HFL.out], hfr4⟩
      case measure => simp [intOf]; omega
    · have hge : ¬ ((j : Int) < (ls.length : Int)) := by omega
      have hjn : j = ls.length := by omega
      have hft : framesL (s.data.toList :: ls.take j) = tagText s.data.toList ls := by rw [hjn, List.take_length]; rfl
      rw [hft] at hql ⊢
      have HJN := Lib.hid hjn; clear hjn
      clear hft
      go_wp2_with fail
      refine (hashR_any (mkS (tagText s.data.toList ls)) wr (by omega)).mono ?_
      rintro e w4 ⟨rfl, hf4⟩
      rw [mkS_toList]
      go_wp2_with fail
      go_ret
      exact ⟨rfl, hfj.then hf4⟩
end Go.Proofs.Ytdadnajbdnbbdaa

/- One-cell literals of any kind; owned slices and other blocks. -/
namespace Go.Mv
open Go.RowKit
variable {P : Program}
/-- a block of another type is not the slice's own -/
theorem Own.ne {w : World} {base sz n g : Nat} {T T' : TypeId} {v : Value} {L L' : List Value} (h : Own w base T sz v n L) (hg : Has w g L' T') (hT : T ≠ T') : ¬ OwnB v g := by
  intro hv
  obtain ⟨_, ⟨rfl, _⟩ | ⟨g', o, cap, B, rfl, _, hg', _⟩⟩ := h
  · cases hv
  · have : g' = g := by simpa [OwnB, Value.ownBlock] using hv
    subst this
    obtain ⟨_, _, h1, _⟩ := hg
    obtain ⟨_, _, h2, _⟩ := hg'
    rw [h1] at h2
    simp at h2
    exact hT h2.2.1.symm
end Go.Mv

/- Literals of n one-cell elements; loads and stores of structs by value. -/
namespace Go.Mv
open Go.RowKit
variable {P : Program}
/-- n cells in a row -/
theorem wl_slit {w : World} {ops : Array Oper} {rest : List Oper} {o : Oper} {a : Act} {Q : Exit → Act → World → Prop} {t e : TypeId} {k : Nat} {parts : Array (Nat × Operand)} (hgd : o.guard = none) (ho : o.op = .buildSlice t k parts)
    (hu : P.underlying t = some (.slice e)) {z : Value} {by_ : Nat} (hi0 : (P.info? e).map (fun i => (i.zero, i.size, i.bytes)) = some (some z, 1, by_)) (vs : List Value) (hp : (parts.toList.map fun p => (p.1, a.eval p.2)) = (vs.zipIdx 0).map fun x => (x.2, x.1))
    (hv : ∀ v ∈ vs, v.cells = #[v]) (hk : vs.length = k) (hz : z.cells.size = 1)
    (h : ∀ w', Has w' w.heap.size vs e → Fr Nob w w' → w'.heap.size = w.heap.size + 1 → wpList P ops Q rest (a.put o.dst (.slice (some ⟨w.heap.size, 0, none⟩) k k)) w') (hk0 : 0 < k := by decide) (hk24 : k ≤ 16777216 := by decide) : wpList P ops Q (o :: rest) a w := by
  have _hz := hz
  obtain ⟨i, hi, hz0⟩ : ∃ i, P.info? e = some i ∧ (i.zero, i.size, i.bytes) = (some z, 1, by_) := by simpa using hi0
  simp only [Prod.mk.injEq] at hz0
  obtain ⟨hz1, hsz, hby⟩ := hz0
  have hf : Instr.fill (fun j => some (j * i.size, i.size)) ((Array.range (k * i.size)).map (z.cells[· % z.cells.size]!)) (parts.map fun (i, x) => (i, a.eval x)).toList = some vs.toArray := by
    rw [show (parts.map fun (i, x) => (i, a.eval x)).toList = (parts.toList.map fun p => (p.1, a.eval p.2)) by simp, hp, hsz]
    exact Great.fill_flat vs _ hv (by simp [hk])
  exact wpList_buildSlice hgd t e k _ ho _ i _ hu hi hz1 (by rw [hsz]; omega) (by rw [hsz]; omega) hf (h _ (Has.new w vs.toArray e) ((Fr.refl _ w).alloc _) (by simp))

theorem wl_buildL {w : World} {ops : Array Oper} {rest : List Oper} {o : Oper} {a : Act} {Q : Exit → Act → World → Prop} {t : TypeId} {parts : Array (Nat × Operand)} (hgd : o.guard = none) (ho : o.op = .build t parts) (cells : Array Value)
    (hb : P.built t (parts.toList.map fun p => (p.1, a.eval p.2)) = some cells) (h : wpList P ops Q rest (a.put o.dst (.agg cells)) w) : wpList P ops Q (o :: rest) a w :=
  wl_build hgd ho cells (by rw [show (parts.map fun (i, x) => (i, a.eval x)).toList = (parts.toList.map fun p => (p.1, a.eval p.2)) by simp]; exact hb) h
/-- a whole row (array or struct) is read, out of cells -/
theorem wl_loadR {w : World} {ops : Array Oper} {rest : List Oper} {o : Oper} {a : Act} {Q : Exit → Act → World → Prop} {ty : TypeId} {x : Operand} (hgd : o.guard = none) (ho : o.op = .load ty x) {d : TypeDesc} (hu : P.underlying ty = some d) (hd : d.isRow = true) {g p : Nat} (hx : a.eval x = .pointer (some ⟨g, p, none⟩))
    {cs : List Value} (hg : At w g p cs) (hi : (P.info? ty).map (·.size) = some cs.length)
    (h : wpList P ops Q rest (a.put o.dst (.agg cs.toArray)) w) : wpList P ops Q (o :: rest) a w :=
  wpList_load_mid hgd ty x ho g p hx cs d (fun j v hv => hg j v hv) hu hd hi h
end Go.Mv

/- A log of the sponge, the reference's: NewLog, Say, Ask, Clone. -/
namespace Go.Proofs.Ytdadnajbdnbbdaa
open Go.RowKit Go.Mv Mvp
attribute [local irreducible] permS permP toB turnsK squeeze permN permB spongeB feed frameL framesL tagL
theorem info_sl : (Try.prog.info? 22).map (fun i => (i.zero, i.size, i.bytes)) = some (some (.slice none 0 0), 1, 24) := by kernel_rfl
/-- parts by their values -/
def Parts (w : World) : List Value → List (List UInt8) → Prop
  | [], [] => True
  | v :: vs, l :: ls => PartIs w v l ∧ Parts w vs ls
  | _, _ => False
theorem Parts.len {w : World} : ∀ {vs : List Value} {ls : List (List UInt8)}, Parts w vs ls → vs.length = ls.length
  | [], [], _ => rfl
  | _ :: _, _ :: _, h => by simp only [List.length_cons]; rw [Parts.len h.2]
  | [], _ :: _, h => h.elim
  | _ :: _, [], h => h.elim
theorem Parts.get {w : World} : ∀ {vs : List Value} {ls : List (List UInt8)}, Parts w vs ls → ∀ (i : Nat) (v : Value), vs[i]? = some v → ∃ l : List UInt8, ls[i]? = some l ∧ PartIs w v l
  | [], [], _, i, v, h => by simp at h
  | x :: vs, l :: ls, h, 0, v, hv => by simp only [List.getElem?_cons_zero, Option.some.injEq] at hv; subst hv; exact ⟨l, rfl, h.1⟩
  | x :: vs, l :: ls, h, i + 1, v, hv => by simp only [List.getElem?_cons_succ] at hv ⊢; exact Parts.get h.2 i v hv
  | [], _ :: _, h, _, _, _ => h.elim
  | _ :: _, [], h, _, _, _ => h.elim
theorem Parts.at {w : World} {g : Nat} {T : TypeId} {vs : List Value} {ls : List (List UInt8)} (h : Parts w vs ls) (hg : Has w g vs T) : PartsAt w (some ⟨g, 0, none⟩) ls :=
  ⟨vs, by have := Rd.whole hg; rwa [h.len] at this, h.get⟩
theorem Parts.cells {w : World} : ∀ {vs : List Value} {ls : List (List UInt8)}, Parts w vs ls → ∀ v ∈ vs, v.cells = #[v]
  | [], _, _, v, h => by simp at h
  | x :: vs, l :: ls, h, v, hv => by
    rcases List.mem_cons.1 hv with rfl | hv
    · obtain ⟨a, n, c, rfl, _⟩ := h.1; rfl
    · exact Parts.cells h.2 v hv
  | _ :: _, [], h, _, _ => h.elim
theorem own_part {w : World} {base n : Nat} {T : TypeId} {v : Value} {l : List UInt8} (h : Own w base T 1 v n (bs l)) (hn : n ≤ 1000000) : PartIs w v l := by
  have h0 := h
  obtain ⟨a, c, rfl, hc, hr, -⟩ := h.form
  rw [Nat.mul_one] at hr
  refine ⟨a, n, c, rfl, hc, hn, hr, ?_⟩
  intro x hx
  exact (h0.lt (by rw [hx]; rfl)).2

theorem tagL_len (k : List UInt8) (ls : List (List UInt8)) : (tagL k ls).length = 32 := by unfold tagL; exact spongeB_len _ _ _
theorem tagR_of (k : List UInt8) (g c : Nat) (ls : List (List UInt8)) (w : World) (hh : Has w g (ss ls) 9) (hs : k.length + sumL ls ≤ 100000) (hm : ls.length ≤ 1000) :
    Calls Try.prog 41 #[.string (mkS k), .slice (some ⟨g, 0, none⟩) ls.length c] w fun r w' => r = .returned (.string (mkS (tagL k ls))) ∧ Fr Nob w w' := by
  have hr := Rd.whole hh
  rw [ss_len] at hr
  have := tagR_any (mkS k) (some ⟨g, 0, none⟩) c ls w (by rw [mkS_size]; exact hs) hm hr
  rwa [mkS_toList] at this

/-! The reference's -/
end Go.Proofs.Ytdadnajbdnbbdaa

/- store: plain. What an opening holds, record by record. -/
namespace Mvp
/-- so far: the records that were read, and what is left of the disk -/
def OpenI (c : Nat → List UInt8 → List UInt8) (disk : List UInt8) (recs : List (List UInt8)) (rest : List UInt8) : Prop :=
  disk = framesB c 0 recs ++ rest ∧ unframe c disk.length 0 disk = recs ++ unframe c rest.length recs.length rest
theorem OpenI.start (c : Nat → List UInt8 → List UInt8) (disk : List UInt8) : OpenI c disk [] disk := ⟨rfl, rfl⟩
theorem OpenI.step {c : Nat → List UInt8 → List UInt8} {disk : List UInt8} {recs : List (List UInt8)} {rest : List UInt8} (h : OpenI c disk recs rest) (n : Nat) (hn : numS (rest.take 4) = n) (h1 : n ≤ 16384) (h2 : 12 + n ≤ rest.length)
    (hf : frameB c recs.length ((rest.drop 4).take n) = rest.take (12 + n)) : OpenI c disk (recs ++ [(rest.drop 4).take n]) (rest.drop (12 + n)) := by
  subst hn
  obtain ⟨e1, e2⟩ := h
  constructor
  · rw [framesB_snoc, Nat.zero_add, hf, List.append_assoc, List.take_append_drop]
    exact e1
  · rw [e2]
    obtain ⟨f, hfu⟩ : ∃ f, rest.length = f + 1 := ⟨rest.length - 1, by omega⟩
    rw [hfu, unframe, if_neg (by omega), if_neg (by omega), if_pos hf, List.append_assoc, List.singleton_append, List.length_append, List.length_singleton]
    rw [unframe_fuel f (rest.drop (12 + numS (rest.take 4))).length _ _ (by rw [List.length_drop]; omega) (Nat.le_refl _)]
theorem OpenI.stop {c : Nat → List UInt8 → List UInt8} {disk : List UInt8} {recs : List (List UInt8)} {rest : List UInt8} (h : OpenI c disk recs rest) (n : Nat) (hn : numS (rest.take 4) = n)
    (hs : rest.length < 12 ∨ 16384 < n ∨ rest.length < 12 + n ∨ frameB c recs.length ((rest.drop 4).take n) ≠ rest.take (12 + n)) : unframe c disk.length 0 disk = recs := by
  subst hn
  rw [h.2]
  have e : unframe c rest.length recs.length rest = [] := by
    cases hl : rest.length with
    | zero => rfl
    | succ f =>
      rw [unframe]
      by_cases h12 : rest.length < 12
      · rw [if_pos h12]
      · rw [if_neg h12]
        by_cases hb : 16384 < numS (rest.take 4) ∨ rest.length - 12 < numS (rest.take 4)
        · rw [if_pos hb]
        · rw [if_neg hb, if_neg]
          rcases hs with k | k | k | k
          · exact absurd k h12
          · exact absurd (.inl k) hb
          · exact absurd (.inr (by omega)) hb
          · exact k
  rw [e, List.append_nil]
/-- the number of a record's head, as the reference has it -/
theorem num4 (a b c d : UInt8) (t : List UInt8) : numS ((a :: b :: c :: d :: t).take 4) = a.toNat * 16777216 + b.toNat * 65536 + c.toNat * 256 + d.toNat := by
  simp [numS]
  omega
/-- four bytes of a number, eight bytes -/
theorem big4 (n : Nat) : bigN n 4 = [UInt8.ofNat (n / 16777216), UInt8.ofNat (n / 65536), UInt8.ofNat (n / 256), UInt8.ofNat n] := by
  simp [bigN]
theorem big8 (n : Nat) : bigN n 8 = [UInt8.ofNat (n / 72057594037927936), UInt8.ofNat (n / 281474976710656), UInt8.ofNat (n / 1099511627776), UInt8.ofNat (n / 4294967296), UInt8.ofNat (n / 16777216), UInt8.ofNat (n / 65536), UInt8.ofNat (n / 256), UInt8.ofNat n] := by
  simp [bigN]
/-- a number's bytes, from behind: what stands after so many -/
def bigJ (n size j : Nat) : List UInt8 := List.replicate (size - j) 0 ++ bigN n j
theorem bigJ_0 (n size : Nat) : bigJ n size 0 = List.replicate size 0 := by simp [bigJ, bigN]
theorem bigJ_all (n size : Nat) : bigJ n size size = bigN n size := by simp [bigJ]
theorem bigJ_len (n size j : Nat) (h : j ≤ size) : (bigJ n size j).length = size := by simp [bigJ, bigN_len]; omega
theorem bigJ_succ (n size j : Nat) (h : j < size) : (bigJ n size j).set (size - 1 - j) (UInt8.ofNat (n / 256 ^ j)) = bigJ n size (j + 1) := by
  unfold bigJ
  obtain ⟨m, hm⟩ : ∃ m, size - j = m + 1 := ⟨size - j - 1, by omega⟩
  rw [hm, show size - (j + 1) = m by omega, show size - 1 - j = m by omega, List.replicate_succ', List.append_assoc, List.set_append_right _ _ (by simp), List.length_replicate, Nat.sub_self]
  rfl
end Mvp
namespace Go.Proofs.Ytdadnajbdnbbdaa
open Go.RowKit Go.Mv Mvp
/-- the check of a record: eight bytes of a tag -/
def kFrame : List UInt8 := [102, 114, 97, 109, 101]
def ckS (i : Nat) (b : List UInt8) : List UInt8 := tagL kFrame [bigN i 8, b]
theorem ckS_len (i : Nat) (b : List UInt8) : 8 ≤ (ckS i b).length := by unfold ckS; rw [tagL_len]; decide
end Go.Proofs.Ytdadnajbdnbbdaa

/- store: plain. Where the records lie on the disk. -/
namespace Mvp
/-- where each record lies, from a place on -/
def exL : Nat → List (List UInt8) → List (Nat × Nat)
  | _, [] => []
  | p, b :: l => (p + 4, p + 4 + b.length) :: exL (p + 12 + b.length) l
theorem exL_snoc {c : Nat → List UInt8 → List UInt8} (hc : ∀ i b, 8 ≤ (c i b).length) : ∀ (p i : Nat) (l : List (List UInt8)) (b : List UInt8), exL p (l ++ [b]) = exL p l ++ [(p + (framesB c i l).length + 4, p + (framesB c i l).length + 4 + b.length)]
  | p, i, [], b => by simp [exL, framesB]
  | p, i, a :: l, b => by
    rw [List.cons_append, exL, exL, exL_snoc hc (p + 12 + a.length) (i + 1) l b, framesB, List.length_append, frameB_len hc, List.cons_append]
    congr 4 <;> omega
/-- a record is there where it is told to be -/
theorem exL_at {c : Nat → List UInt8 → List UInt8} (hc : ∀ i b, 8 ≤ (c i b).length) : ∀ (l : List (List UInt8)) (p i : Nat) (hd t : List UInt8) (k : Nat) (b : List UInt8), hd.length = p → l[k]? = some b →
    ∃ f, (exL p l)[k]? = some (f, f + b.length) ∧ f + b.length ≤ (hd ++ framesB c i l).length ∧ ((hd ++ (framesB c i l ++ t)).drop f).take b.length = b
  | [], _, _, _, _, _, _, _, h => by simp at h
  | a :: l, p, i, hd, t, 0, b, hp, h => by
    simp only [List.getElem?_cons_zero, Option.some.injEq] at h
    subst h
    refine ⟨p + 4, rfl, ?_, ?_⟩
    · rw [framesB, List.length_append, List.length_append, frameB_len hc]; omega
    · rw [framesB]
      have e : hd ++ (frameB c i a ++ framesB c (i + 1) l ++ t) = (hd ++ bigN a.length 4) ++ (a ++ ((c i a).take 8 ++ (framesB c (i + 1) l ++ t))) := by unfold frameB; simp [List.append_assoc]
      rw [e, List.drop_left' (by rw [List.length_append, bigN_len, hp]), List.take_left' rfl]
  | a :: l, p, i, hd, t, k + 1, b, hp, h => by
    have hk : l[k]? = some b := by simpa using h
    obtain ⟨f, h1, h2, h3⟩ := exL_at hc l (p + 12 + a.length) (i + 1) (hd ++ frameB c i a) t k b (by rw [List.length_append, frameB_len hc]; omega) hk
    refine ⟨f, ?_, ?_, ?_⟩
    · rw [exL]; simpa using h1
    · rw [framesB]
      rw [List.append_assoc] at h2
      exact h2
    · rw [framesB, List.append_assoc]
      rw [List.append_assoc] at h3
      exact h3
/-- no disk is longer than its limit -/
theorem SM.add_lim {c : Nat → List UInt8 → List UInt8} (hc : ∀ i b, 8 ≤ (c i b).length) {lim : Nat} {s : SM} (h : s.d.length ≤ lim) (b : List UInt8) : (s.add c lim b).1.d.length ≤ lim := by
  unfold SM.add
  split
  · exact h
  · split
    · exact h
    · split
      · exact h
      · rename_i h3
        have hl := frameB_len hc s.recs.length b
        show (s.put c b).1.d.length ≤ lim
        unfold SM.put
        split
        · simp only [List.length_append, hl]; omega
        · split
          · simp only [List.length_append, List.length_take, hl]; omega
          · simp only [List.length_append, hl]; omega
theorem SM.ofDisk_lim {c : Nat → List UInt8 → List UInt8} (hc : ∀ i b, 8 ≤ (c i b).length) (d : List UInt8) : (SM.ofDisk c d).d.length ≤ d.length := by
  obtain ⟨t, ht⟩ := unframe_pre hc d.length 0 d
  have h := congrArg List.length ht
  rw [List.length_append] at h
  show (framesB c 0 (unframe c d.length 0 d)).length ≤ d.length
  omega
/-- so many records at most -/
theorem SInv.count {c : Nat → List UInt8 → List UInt8} (hc : ∀ i b, 8 ≤ (c i b).length) {s : SM} (h : SInv c s) : 12 * s.recs.length ≤ s.d.length := by
  obtain ⟨-, p, hd, -⟩ := h
  rw [hd, List.length_append, framesB_len hc]
  omega
/-- Record(i): the bytes of the i-th, and how they lie -/
theorem SInv.record {c : Nat → List UInt8 → List UInt8} (hc : ∀ i b, 8 ≤ (c i b).length) {s : SM} (h : SInv c s) {k : Nat} {b : List UInt8} (hk : s.recs[k]? = some b) :
    ∃ f, (exL 0 s.recs)[k]? = some (f, f + b.length) ∧ f + b.length ≤ s.d.length ∧ (s.d.drop f).take b.length = b := by
  obtain ⟨-, p, hd, -⟩ := h
  obtain ⟨f, h1, h2, h3⟩ := exL_at hc s.recs 0 0 [] p k b rfl hk
  simp only [List.nil_append] at h2 h3
  exact ⟨f, h1, by rw [hd, List.length_append]; omega, by rw [hd]; exact h3⟩
end Mvp

/- append onto an owned slice, once more: what lay ahead of the new cells is kept, in the old block too. -/
namespace Go.Mv
open Go.RowKit
variable {P : Program}

/-- all cells of old blocks are as they were, but those of v's block behind its n elements -/
def Kept (v : Value) (n sz : Nat) (w w' : World) : Prop :=
  ∀ b i, b < w.heap.size → (∀ o cap, v = .slice (some ⟨b, o, none⟩) n cap → i < o + n * sz) → w'.cell? ⟨b, i, none⟩ = w.cell? ⟨b, i, none⟩

theorem Kept.refl (v : Value) (n sz : Nat) (w : World) : Kept v n sz w w := fun _ _ _ _ => rfl
section
variable {w : World} {ops : Array Oper} {rest : List Oper} {o : Oper} {a : Act} {Q : Exit → Act → World → Prop}
end
end Go.Mv
namespace Go.Mv
open Go.RowKit
section
variable {P : Program} {w : World} {ops : Array Oper} {o : Oper} {a : Act} {K : Act → World → Prop} {Q : Exit → Act → World → Prop} {E : Prop}
end
end Go.Mv

/- What a call knows of the blocks that are its own: one fact for all of them. -/
namespace Go.Mv
open Go.RowKit
variable {P : Program}

/-- the blocks of bl hold what is told; each is new since w0, or may be written (S); no other block that was there at w0 has turned, but those of S -/
structure St (S : Nat → Prop) (w0 w : World) (bl : List (Nat × List Value × TypeId)) : Prop where
  fr : Fr S w0 w
  own : ∀ x ∈ bl, w0.heap.size ≤ x.1 ∨ S x.1
  has : ∀ x ∈ bl, Has w x.1 x.2.1 x.2.2
  ne : bl.Pairwise fun x y => x.1 ≠ y.1

theorem St.start (S : Nat → Prop) (w : World) : St S w w [] := ⟨Fr.refl _ _, by simp, by simp, List.Pairwise.nil⟩
theorem St.at {S : Nat → Prop} {w0 w : World} {bl : List (Nat × List Value × TypeId)} (h : St S w0 w bl) (i : Nat) {g : Nat} {L : List Value} {T : TypeId} (hi : bl[i]? = some (g, L, T)) : Has w g L T :=
  h.has _ (List.mem_of_getElem? hi)
theorem St.neAt {S : Nat → Prop} {w0 w : World} {bl : List (Nat × List Value × TypeId)} (h : St S w0 w bl) {i j : Nat} {x y : Nat × List Value × TypeId} (hi : bl[i]? = some x) (hj : bl[j]? = some y) (hij : i ≠ j) : x.1 ≠ y.1 := by
  obtain ⟨hi1, rfl⟩ := List.getElem?_eq_some_iff.1 hi
  obtain ⟨hj1, rfl⟩ := List.getElem?_eq_some_iff.1 hj
  rcases Nat.lt_or_ge i j with k | k
  · exact List.pairwise_iff_getElem.1 h.ne i j hi1 hj1 k
  · exact (List.pairwise_iff_getElem.1 h.ne j i hj1 hi1 (by omega)).symm
theorem St.keep {S : Nat → Prop} {w0 w w' : World} {bl : List (Nat × List Value × TypeId)} (h : St S w0 w bl) (hf : Fr Nob w w') : St S w0 w' bl :=
  ⟨h.fr.same hf, h.own, fun x hx => (h.has x hx).keep hf id, h.ne⟩
theorem St.drew {S : Nat → Prop} {w0 w : World} {bl : List (Nat × List Value × TypeId)} (h : St S w0 w bl) : St S w0 w.drew bl := ⟨h.fr.drew, h.own, h.has, h.ne⟩
theorem St.drewN {S : Nat → Prop} {w0 w : World} {bl : List (Nat × List Value × TypeId)} (h : St S w0 w bl) (n : Nat) : St S w0 (w.drewN n) bl := ⟨h.fr.drewN n, h.own, h.has, h.ne⟩
theorem St.new {S : Nat → Prop} {w0 w w' : World} {bl : List (Nat × List Value × TypeId)} (h : St S w0 w bl) (hf : Fr Nob w w') {g : Nat} {L : List Value} {T : TypeId} (hg : Has w' g L T) (hn : w.heap.size ≤ g) : St S w0 w' (bl ++ [(g, L, T)]) := by
  refine ⟨h.fr.same hf, ?_, ?_, ?_⟩
  · intro x hx
    rcases List.mem_append.1 hx with hx | hx
    · exact h.own x hx
    · simp only [List.mem_singleton] at hx
      subst hx
      exact .inl (Nat.le_trans h.fr.size hn)
  · intro x hx
    rcases List.mem_append.1 hx with hx | hx
    · exact (h.has x hx).keep hf id
    · simp only [List.mem_singleton] at hx
      subst hx
      exact hg
  · rw [List.pairwise_append]
    refine ⟨h.ne, List.pairwise_singleton _ _, ?_⟩
    intro x hx y hy
    simp only [List.mem_singleton] at hy
    subst hy
    have := (h.has x hx).lt
    show x.1 ≠ g
    omega
theorem St.put {S : Nat → Prop} {w0 w w' : World} {bl : List (Nat × List Value × TypeId)} (h : St S w0 w bl) (i : Nat) {g : Nat} {L L' : List Value} {T : TypeId} (hi : bl[i]? = some (g, L, T)) (hf : Fr (One g) w w') (hg : Has w' g L' T) : St S w0 w' (bl.set i (g, L', T)) := by
  obtain ⟨hi1, hi2⟩ := List.getElem?_eq_some_iff.1 hi
  refine ⟨?_, ?_, ?_, ?_⟩
  · refine h.fr.trans hf fun j hj hjg => ?_
    have hjg' : j = g := hjg
    subst hjg'
    rcases h.own _ (List.mem_of_getElem? hi) with k | k
    · have k' : w0.heap.size ≤ j := k
      omega
    · exact k
  · intro x hx
    rcases List.mem_or_eq_of_mem_set hx with hx | rfl
    · exact h.own x hx
    · exact h.own (g, L, T) (List.mem_of_getElem? hi)
  · intro x hx
    obtain ⟨j, hj1, hj2⟩ := List.mem_iff_getElem.1 hx
    rw [List.length_set] at hj1
    rw [List.getElem_set] at hj2
    by_cases e : i = j
    · rw [if_pos e] at hj2; subst hj2; exact hg
    · rw [if_neg e] at hj2
      subst hj2
      refine (h.has _ (List.getElem_mem hj1)).keep hf fun t => ?_
      exact h.neAt hi (List.getElem?_eq_getElem hj1) e (Eq.symm t)
  · rw [List.pairwise_iff_getElem]
    intro j k hj hk hjk
    have e := List.pairwise_iff_getElem.1 h.ne j k (by simpa using hj) (by simpa using hk) hjk
    rw [List.getElem_set, List.getElem_set]
    split
    · rename_i e1; subst e1
      rw [hi2] at e
      split
      · omega
      · exact e
    · split
      · rename_i e2; subst e2; rw [hi2] at e; exact e
      · exact e
/-- one cell of a block is written -/
theorem St.set {S : Nat → Prop} {w0 w : World} {bl : List (Nat × List Value × TypeId)} (h : St S w0 w bl) (i : Nat) {g : Nat} {L : List Value} {T : TypeId} (hi : bl[i]? = some (g, L, T)) (k : Nat) (v : Value) : St S w0 (w.setCell ⟨g, k, none⟩ v) (bl.set i (g, L.set k v, T)) :=
  h.put i hi ((Fr.refl (One g) w).setCell g k none v (fun _ => rfl)) ((h.at i hi).set k v)
/-- a block that came in is taken in -/
theorem St.take {S : Nat → Prop} {w0 w : World} {bl : List (Nat × List Value × TypeId)} (h : St S w0 w bl) {g : Nat} {L : List Value} {T : TypeId} (hg : Has w g L T) (hS : S g) (hn : ∀ x ∈ bl, x.1 ≠ g) : St S w0 w (bl ++ [(g, L, T)]) := by
  refine ⟨h.fr, ?_, ?_, ?_⟩
  · intro x hx
    rcases List.mem_append.1 hx with hx | hx
    · exact h.own x hx
    · simp only [List.mem_singleton] at hx; subst hx; exact .inr hS
  · intro x hx
    rcases List.mem_append.1 hx with hx | hx
    · exact h.has x hx
    · simp only [List.mem_singleton] at hx; subst hx; exact hg
  · rw [List.pairwise_append]
    refine ⟨h.ne, List.pairwise_singleton _ _, ?_⟩
    intro x hx y hy
    simp only [List.mem_singleton] at hy
    subst hy
    exact hn x hx
theorem St.one {w : World} {g : Nat} {L : List Value} {T : TypeId} (hg : Has w g L T) : St (One g) w w [(g, L, T)] := (St.start (One g) w).take hg rfl (by simp)

section
variable {w w0 : World} {ops : Array Oper} {rest : List Oper} {o : Oper} {a : Act} {Q : Exit → Act → World → Prop} {S : Nat → Prop} {bl : List (Nat × List Value × TypeId)}
theorem wl_allocS (hst : St S w0 w bl) {e : TypeId} (hgd : o.guard = none) (ho : o.op = .alloc e) {z : Value} (hi : (P.info? e).map (·.zero) = some (some z)) (L : List Value) (hL : z.cells.toList = L)
    (h : ∀ g w', St S w0 w' (bl ++ [(g, L, e)]) → wpList P ops Q rest (a.put o.dst (.pointer (some ⟨g, 0, none⟩))) w') : wpList P ops Q (o :: rest) a w :=
  wl_alloc hgd ho hi L hL fun w' hg hf _ => h _ w' (hst.new hf hg (Nat.le_refl _))
/-- a whole array is stored -/
theorem wl_storeS (hst : St S w0 w bl) (i : Nat) {g : Nat} {L : List Value} {T : TypeId} (hb : bl[i]? = some (g, L, T)) {ty : TypeId} {x y : Operand} (hgd : o.guard = none) (ho : o.op = .store ty x y) (hx : a.eval x = .pointer (some ⟨g, 0, none⟩)) {cs : List Value} (hy : a.eval y = .agg cs.toArray)
    (hn : cs.length = L.length) (hi : (P.info? ty).map (·.size) = some cs.length) (h1 : ∀ v ∈ cs, v.oneCell' = true)
    (h : ∀ w', St S w0 w' (bl.set i (g, cs, T)) → wpList P ops Q rest (a.put o.dst undef) w') : wpList P ops Q (o :: rest) a w :=
  wl_storeA hgd ho hx hy (hst.at i hb) (by omega) hi h1 fun w' hg hf _ => h w' (hst.put i hb hf (by rwa [splice_whole _ _ hn] at hg))
end
end Go.Mv

/- A region that draws its order, under a condition S on the world that holds till the last operations begin: the head (reads, calls) in an order of the prover's choice, behind it the tail (a store, as a rule) in the text's order. -/
namespace Go.Mv
open Go.RowKit
section
variable {P : Program} {ops : Array Oper} {md : Region.Mode} {Q : Exit → Act → World → Prop} {S : World → Prop}

/- the steps -/
variable {l tl : List Oper} {i : Nat} {r : List (Nat × Bool)} {a : Act} {w : World} {o : Oper}
end

end Go.Mv
