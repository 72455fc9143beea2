/- the reference's round -/
import Derived.Test.YtgkakddldobpkaaW6
namespace Go.Proofs.Ytgkakddldobpkaa
open Go.RowKit Go.Mv Mvp

theorem colR_succ (s : List UInt64) (k : Nat) : colR s (k + 1) = colRrow s (colR s k) k 5 := by simp [colR, List.range_succ]
theorem colRrow_zero (s c : List UInt64) (x : Nat) : colRrow s c x 0 = c := by simp [colRrow]
theorem colRrow_succ (s c : List UInt64) (x k : Nat) : colRrow s c x (k + 1) = colRstep s x (colRrow s c x k) k := by simp [colRrow, List.range_succ]
theorem colRrow_len (s c : List UInt64) (x k : Nat) : (colRrow s c x k).length = c.length := by
  induction k with
  | zero => simp [colRrow]
  | succ k ih => rw [colRrow_succ]; simp [colRstep, ih]
theorem colR_len (s : List UInt64) (k : Nat) : (colR s k).length = 5 := by
  induction k with
  | zero => simp [colR]
  | succ k ih => rw [colR_succ, colRrow_len, ih]
theorem colR_zero (s : List UInt64) : colR s 0 = List.replicate 5 0 := by simp [colR]
theorem movR_succ (s : List UInt64) (t : List Nat) (c : List UInt64) (k : Nat) : movR s t c (k + 1) = movRrow s t (movR s t c k) k (dR c k) 5 := by simp [movR, List.range_succ]
theorem movRrow_zero (s : List UInt64) (t : List Nat) (m : List UInt64) (x : Nat) (d : UInt64) : movRrow s t m x d 0 = m := by simp [movRrow]
theorem movRrow_succ (s : List UInt64) (t : List Nat) (m : List UInt64) (x : Nat) (d : UInt64) (k : Nat) : movRrow s t m x d (k + 1) = movRstep s t x d (movRrow s t m x d k) k := by simp [movRrow, List.range_succ]
theorem movRrow_len (s : List UInt64) (t : List Nat) (m : List UInt64) (x : Nat) (d : UInt64) (k : Nat) : (movRrow s t m x d k).length = m.length := by
  induction k with
  | zero => simp [movRrow]
  | succ k ih => rw [movRrow_succ]; simp [movRstep, ih]
theorem movR_len (s : List UInt64) (t : List Nat) (c : List UInt64) (k : Nat) : (movR s t c k).length = 25 := by
  induction k with
  | zero => simp [movR]
  | succ k ih => rw [movR_succ, movRrow_len, ih]
theorem chiR_succ (m : List UInt64) (k : Nat) : chiR m (k + 1) = chiRrow m (chiR m k) k 5 := by simp [chiR, List.range_succ]
theorem chiRrow_zero (m o : List UInt64) (x : Nat) : chiRrow m o x 0 = o := by simp [chiRrow]
theorem chiRrow_succ (m o : List UInt64) (x k : Nat) : chiRrow m o x (k + 1) = chiRstep m x (chiRrow m o x k) k := by simp [chiRrow, List.range_succ]
theorem chiRrow_len (m o : List UInt64) (x k : Nat) : (chiRrow m o x k).length = o.length := by
  induction k with
  | zero => simp [chiRrow]
  | succ k ih => rw [chiRrow_succ]; simp [chiRstep, ih]
theorem chiR_len (m : List UInt64) (k : Nat) : (chiR m k).length = 25 := by
  induction k with
  | zero => simp [chiR]
  | succ k ih => rw [chiR_succ, chiRrow_len, ih]
theorem place_lt (x y : Nat) : place x y < 25 := by unfold place; omega
theorem info_u64 : (Try.prog.info? 82).map (fun i => (i.zero, i.size, i.bytes)) = some (some (.int .u64 0), 1, 8) := by kernel_rfl
theorem place_same (x y : Nat) (w : World) (hx : x ≤ 200) (hy : y ≤ 200) : Calls Try.prog 82 #[.int .i64 (x : Int), .int .i64 (y : Int)] w fun e w' => e = .returned (.int .i64 ((place x y : Nat) : Int)) ∧ w' = w :=
  (place_any x y w (by omega) (by omega) (by omega) (by omega)).mono (fun _ _ h => ⟨h.1, h.2.symm⟩)

theorem place_diag (x y : Nat) (w : World) (hx : x ≤ 100) (hy : y ≤ 100) : Calls Try.prog 82 #[.int .i64 (y : Int), .int .i64 (2 * (x : Int) + 3 * (y : Int))] w fun e w' => e = .returned (.int .i64 ((place y (2 * x + 3 * y) : Nat) : Int)) ∧ w' = w := by
  refine (place_any (y : Int) (2 * (x : Int) + 3 * (y : Int)) w (by omega) (by omega) (by omega) (by omega)).mono (fun e w' h => ⟨h.1.trans ?_, h.2.symm⟩)
  have e1 : (2 * (x : Int) + 3 * (y : Int)).toNat = 2 * x + 3 * y := by omega
  rw [e1, Int.toNat_natCast]
theorem place_1 (x y : Nat) (w : World) (hx : x ≤ 100) (hy : y ≤ 100) : Calls Try.prog 82 #[.int .i64 ((x : Int) + 1), .int .i64 (y : Int)] w fun e w' => e = .returned (.int .i64 ((place (x + 1) y : Nat) : Int)) ∧ w' = w := place_same (x + 1) y w (by omega) (by omega)
theorem place_2 (x y : Nat) (w : World) (hx : x ≤ 100) (hy : y ≤ 100) : Calls Try.prog 82 #[.int .i64 ((x : Int) + 2), .int .i64 (y : Int)] w fun e w' => e = .returned (.int .i64 ((place (x + 2) y : Nat) : Int)) ∧ w' = w := place_same (x + 2) y w (by omega) (by omega)
theorem left1_any (x : UInt64) (w : World) : Calls Try.prog 83 #[.int .u64 (x.toNat : Int), .int .i64 1] w fun e w' => e = .returned (.int .u64 ((rotl x 1).toNat : Int)) ∧ ∃ n, w' = w.drewN n := left_any x 1 (by omega) w

set_option maxHeartbeats 4000000 in
set_option maxRecDepth 1000000 in
/-- the first loops: the columns -/
theorem round_any (aa ta : Option Addr) (na ca ct : Nat) (S : List UInt64) (c : UInt64) (w : World) (hna : na = 25) (ha : Rd w aa na (ws S)) (ht : Rd w ta 25 (is (turnsK 24))) :
    Calls Try.prog 51 #[.slice aa na ca, .slice ta 25 ct, .int .u64 (c.toNat : Int)] w fun e w' => ∃ g, e = .returned (.slice (some ⟨g, 0, none⟩) 25 25) ∧ w.heap.size ≤ g ∧ Has w' g (ws (roundR (turnsK 24) S c)) 82 ∧ Fr Nob w w' := by
  subst hna
  have hS : S.length = 25 := by have := ha.len; rwa [length_ws] at this
  go_enter Try.func51, Try.ntmps51
  go_wp2_with (at_make; refine wl_make rfl rfl Try.underlying87 info_u64 rfl rfl rfl 5 5 (by simp) (by simp) (by omega) (by omega) (by unfold maxLen; omega) ?_; intro w1 hw1 hf1 hz1)
  have hc1 : Has w1 w.heap.size (ws (colR S 0)) 82 := by rw [colR_zero]; exact hw1
  generalize hgc : w.heap.size = gc at *
  clear hw1
  go_loopw [8] (fun i wr => ∃ x : Nat, x ≤ 5 ∧ i = .int .i64 x ∧ Has wr gc (ws (colR S x)) 82 ∧ Fr Nob w wr) (fun i _ => (5 - intOf i).toNat)
  case atStart => exact ⟨0, by omega, rfl, hc1, hf1⟩
  case round =>
    obtain ⟨x, hx, rfl, hcx, hfx⟩ := hrel
    clear hc1 hf1
    by_cases hlt : x < 5
    · have hltI : (x : Int) < 5 := by omega
      obtain ⟨wo, rfl⟩ : ∃ wo : World, wo = wr := ⟨_, rfl⟩
      go_wp2_with fail
      go_loopw [9] (fun i wr => ∃ y : Nat, y ≤ 5 ∧ i = .int .i64 y ∧ Has wr gc (ws (colRrow S (colR S x) x y)) 82 ∧ Fr Nob w wr) (fun i _ => (5 - intOf i).toNat)
      case atStart => exact ⟨0, by omega, rfl, by rw [colRrow_zero]; exact hcx, hfx⟩
      case round =>
        obtain ⟨y, hy, rfl, hcy, hfy⟩ := hrel
        clear hcx hfx
        by_cases hlt2 : y < 5
        · have hlt2I : (y : Int) < 5 := by omega
          obtain ⟨b, o, rfl, hat⟩ := (ha.still hfy).at (by omega)
          have hs : wr.cell? ⟨b, o + place x y, none⟩ = some (.int .u64 ((S.getD (place x y) 0).toNat : Int)) := hat _ _ (ws_get _ _ (by rw [hS]; exact place_lt x y))
          have hsl : (colRrow S (colR S x) x y).length = 5 := by rw [colRrow_len, colR_len]
          have hc : wr.cell? ⟨gc, x, none⟩ = some (.int .u64 (((colRrow S (colR S x) x y).getD x 0).toNat : Int)) := hcy.cell (ws_get _ _ (by rw [hsl]; exact hlt))
          have hf : wr.frozen? ⟨gc, x, none⟩ = false := hcy.free _ (by rw [length_ws, hsl]; exact hlt)
          have hpl : (0 : Int) ≤ (place x y : Int) ∧ (place x y : Int) < 25 := by have := place_lt x y; omega
          generalize hu : S.getD (place x y) 0 = u at hs
          generalize hv : (colRrow S (colR S x) x y).getD x 0 = v at hc
          have HU := Lib.hid hu; clear hu
          have HV := Lib.hid hv; clear hv
          have HSL := Lib.hid hsl; clear hsl
          have HS := Lib.hid hS; clear hS
          clear hat
          have HGC := Lib.hid hgc; clear hgc
          go_wp2_with fail
          refine wp_region_still_tail 14 (by kernel_rfl) (by kernel_rfl) ?_
          simp only [List.take_succ_cons, List.take_zero, List.drop_succ_cons, List.drop_zero]
          repeat still_step
          still_call (place_same x y _ (by omega) (by omega))
          repeat still_step
          refine wpStill_nil ?_
          go_wp2
          go_roundw
          case rel =>
            have e : colRrow S (colR S x) x (y + 1) = (colRrow S (colR S x) x y).set x (wx v u) := by rw [colRrow_succ, colRstep, HU.out, HV.out]; rfl
            refine ⟨y + 1, by omega, by go_num, ?_, (hfy.setCell _ _ _ _ (fun h => by have := HGC.out; omega)).drew⟩
            rw [e, ← ws_set]
            exact (hcy.set _ _).drew
          case measure => simp [intOf]; omega
        · have hge : ¬ ((y : Int) < 5) := by omega
          have hy5 : y = 5 := by omega
          have HY := Lib.hid hy5; clear hy5
          go_wp2_with fail
          go_roundw
          case rel =>
            rw [HY.out, ← colR_succ] at hcy
            first
              | exact ⟨x + 1, by omega, by go_num, hcy, hfy⟩
              | exact ⟨x + 1, by omega, by omega, hcy⟩
          case measure => simp [intOf]; omega
    · have hge : ¬ ((x : Int) < 5) := by omega
      have hx5 : x = 5 := by omega
      have hcl : (colR S x).length = 5 := colR_len S x
      have hcol : colR S x = colR S 5 := by rw [hx5]
      generalize colR S x = col at *
      have HCOL := Lib.hid hcol; clear hcol hx5
      go_wp2_with (at_make; refine wl_make rfl rfl Try.underlying87 info_u64 rfl rfl rfl 25 25 (by simp) (by simp) (by omega) (by omega) (by unfold maxLen; omega) ?_; intro w2 hw2 hf2 hz2)
      have hm2 : Has w2 wr.heap.size (ws (movR S (turnsK 24) col 0)) 82 := by simpa [movR, ws] using hw2
      have hgm : gc < wr.heap.size := hcx.lt
      have hc2 := hcx.keep hf2 id
      have hfr2 := hfx.same hf2
      have hwm : gc ≤ wr.heap.size := by have := hfx.size; omega
      generalize wr.heap.size = gm at *
      clear hw2 hf2 hz2 hcx hfx
      go_wp2_with fail
      go_loopw [11] (fun i wr => ∃ x : Nat, x ≤ 5 ∧ i = .int .i64 x ∧ Has wr gc (ws col) 82 ∧ Has wr gm (ws (movR S (turnsK 24) col x)) 82 ∧ Fr Nob w wr) (fun i _ => (5 - intOf i).toNat)
      case atStart => exact ⟨0, by omega, rfl, hc2, hm2, hfr2⟩
      case round =>
        obtain ⟨x, hx, rfl, hcx, hmx, hfx⟩ := hrel
        clear hc2 hm2 hfr2
        by_cases hlt3 : x < 5
        · have hlt3I : (x : Int) < 5 := by omega
          obtain ⟨wo, rfl⟩ : ∃ wo : World, wo = wr := ⟨_, rfl⟩
          have hc4 : wo.cell? ⟨gc, (x + 4) % 5, none⟩ = some (.int .u64 ((col.getD ((x + 4) % 5) 0).toNat : Int)) := hcx.cell (ws_get _ _ (by omega))
          have hc1 : wo.cell? ⟨gc, (x + 1) % 5, none⟩ = some (.int .u64 ((col.getD ((x + 1) % 5) 0).toNat : Int)) := hcx.cell (ws_get _ _ (by omega))
          generalize hu : col.getD ((x + 4) % 5) 0 = u at hc4
          generalize hv : col.getD ((x + 1) % 5) 0 = v at hc1
          have HU := Lib.hid hu; clear hu
          have HV := Lib.hid hv; clear hv
          have HCL := Lib.hid hcl; clear hcl
          have HS := Lib.hid hS; clear hS
          have HGC := Lib.hid hgc; clear hgc
          have hlo : (0 : Int) ≤ ((x : Int) + 4) % 5 ∧ ((x : Int) + 4) % 5 < 5 ∧ (0 : Int) ≤ ((x : Int) + 1) % 5 ∧ ((x : Int) + 1) % 5 < 5 := by omega
          go_wp2_with fail
          have e1 : IntKind.i64.wrap ((x : Int) + 4) = (x : Int) + 4 := IntWalk.i64_in _ (by omega)
          have e2 : ((x : Int) + 4).tmod 5 = ((x : Int) + 4) % 5 := Int.tmod_eq_emod_of_nonneg (by omega)
          have e3 : (((x : Int) + 4) % 5).toNat = (x + 4) % 5 := by omega
          have e4 : IntKind.i64.wrap ((x : Int) + 1) = (x : Int) + 1 := IntWalk.i64_in _ (by omega)
          have e5 : ((x : Int) + 1).tmod 5 = ((x : Int) + 1) % 5 := Int.tmod_eq_emod_of_nonneg (by omega)
          have e6 : (((x : Int) + 1) % 5).toNat = (x + 1) % 5 := by omega
          go_quiet ((go_at_call 83; exact Calls.quiet_of (left1_any _ _)))
          clear e1 e2 e3 e4 e5 e6
          go_wp2_with fail
          have hcz := hcx.drewN nq
          have hmz := hmx.drewN nq
          have hfz := hfx.drewN nq
          generalize wo.drewN nq = wz at *
          clear hcx hmx hfx hc4 hc1 wo
          have hmb := hmz.lt
          have hd : wx u (rotl v 1) = dR col x := by rw [dR, HU.out, HV.out]; rfl
          generalize wx u (rotl v 1) = d at *
          have HD := Lib.hid hd; clear hd
          go_loopw [13] (fun i wr => ∃ y : Nat, y ≤ 5 ∧ i = .int .i64 y ∧ Has wr gc (ws col) 82 ∧ Has wr gm (ws (movRrow S (turnsK 24) (movR S (turnsK 24) col x) x d y)) 82 ∧ Fr Nob w wr) (fun i _ => (5 - intOf i).toNat)
          case atStart => exact ⟨0, by omega, rfl, hcz, by rw [movRrow_zero]; exact hmz, hfz⟩
          case round =>
            obtain ⟨y, hy, rfl, hcy, hmy, hfy⟩ := hrel
            clear hcz hmz hfz
            by_cases hlt4 : y < 5
            · have hlt4I : (y : Int) < 5 := by omega
              obtain ⟨b, o, rfl, hat⟩ := (ha.still hfy).at (by omega)
              obtain ⟨tb, to, rfl, tat⟩ := (ht.still hfy).at (by omega)
              have hnb : b ≠ gm := by have := ha.lt (by omega); have := HGC.out; omega
              have hnt : tb ≠ gm := by have := ht.lt (by omega); have := HGC.out; omega
              have hs : wr.cell? ⟨b, o + place x y, none⟩ = some (.int .u64 ((S.getD (place x y) 0).toNat : Int)) := hat _ _ (ws_get _ _ (by rw [HS.out]; exact place_lt x y))
              have htu : wr.cell? ⟨tb, to + place x y, none⟩ = some (.int .i64 (((turnsK 24).getD (place x y) 0 : Nat) : Int)) := tat _ _ (is_get _ _ (by rw [turnsK_len]; exact place_lt x y))
              have htl : (turnsK 24).getD (place x y) 0 < 64 := turns_lt _
              have hpl := place_lt x y
              have hpl2 := place_lt y (2 * x + 3 * y)
              obtain ⟨v0, hc0, hf0⟩ := hmy.ready (i := place y (2 * x + 3 * y)) (by rw [length_ws, movRrow_len, movR_len]; exact hpl2)
              have hpi : (0 : Int) ≤ (place x y : Int) ∧ (place x y : Int) < 25 ∧ (0 : Int) ≤ (place y (2 * x + 3 * y) : Int) ∧ (place y (2 * x + 3 * y) : Int) < 25 := by omega
              generalize hsv : S.getD (place x y) 0 = sv at hs
              generalize htv : (turnsK 24).getD (place x y) 0 = tv at htu htl
              have HSV := Lib.hid hsv; clear hsv
              have HTV := Lib.hid htv; clear htv
              clear hat tat hpl hpl2
              go_wp2_with fail
              have e1 : IntKind.i64.wrap (2 * (x : Int)) = 2 * (x : Int) := IntWalk.i64_in _ (by omega)
              have e2 : IntKind.i64.wrap (3 * (y : Int)) = 3 * (y : Int) := IntWalk.i64_in _ (by omega)
              have e3 : IntKind.i64.wrap (2 * (x : Int) + 3 * (y : Int)) = 2 * (x : Int) + 3 * (y : Int) := IntWalk.i64_in _ (by omega)
              go_region_held3 (fun w' => w'.cell? ⟨b, o + place x y, none⟩ = some (.int .u64 (sv.toNat : Int)) ∧ w'.cell? ⟨tb, to + place x y, none⟩ = some (.int .i64 (tv : Int))) (first | go_keep | (refine ⟨?_, ?_⟩ <;> (rw [cell_other _ _ _ _ _ _ (by assumption)]; assumption)))
                (first | (go_at_call_of 82 (Value.int .i64 (x : Int)); refine (place_same x y _ (by omega) (by omega)).mono ?_; rintro e w' ⟨rfl, rfl⟩) | (go_at_call 83; refine (left_any _ _ htl _).mono ?_; rintro e w' ⟨rfl, nl, rfl⟩) | (go_at_call 82; refine (place_diag x y _ (by omega) (by omega)).mono ?_; rintro e w' ⟨rfl, rfl⟩))
              all_goals go_wp2
              go_roundw
              case rel =>
                have e : movRrow S (turnsK 24) (movR S (turnsK 24) col x) x d (y + 1) = (movRrow S (turnsK 24) (movR S (turnsK 24) col x) x d y).set (place y (2 * x + 3 * y)) (rotl (wx sv d) tv) := by
                  rw [movRrow_succ, movRstep, HSV.out, HTV.out]; rfl
                refine ⟨y + 1, by omega, by go_num, (hcy.drewN _).other _ _ _ (by omega), ?_, (hfy.drewN _).setCell _ _ _ _ (fun h => by have := HGC.out; omega)⟩
                rw [e, ← ws_set]
                exact (hmy.drewN _).set _ _
              case measure => simp [intOf]; omega
            · have hge : ¬ ((y : Int) < 5) := by omega
              have hy5 : y = 5 := by omega
              have HY := Lib.hid hy5; clear hy5
              go_wp2_with fail
              go_roundw
              case rel =>
                rw [HY.out, HD.out, ← movR_succ] at hmy
                first
                  | exact ⟨x + 1, by omega, by go_num, hcy, hmy, hfy⟩
                  | exact ⟨x + 1, by omega, by omega, hmy⟩
              case measure => simp [intOf]; omega
        · have hge : ¬ ((x : Int) < 5) := by omega
          have hx5 : x = 5 := by omega
          have hml : (movR S (turnsK 24) col x).length = 25 := movR_len _ _ _ _
          have hmv : movR S (turnsK 24) col x = movR S (turnsK 24) (colR S 5) 5 := by rw [hx5, HCOL.out]
          generalize movR S (turnsK 24) col x = mv at *
          have HMV := Lib.hid hmv; clear hmv hx5
          have HGC := Lib.hid hgc; clear hgc
          have HS := Lib.hid hS; clear hS
          have HCL := Lib.hid hcl; clear hcl
          have hgb : gc ≤ wr.heap.size := by have := hfx.size; have := HGC.out; omega
          go_wp2_with (at_make; refine wl_make rfl rfl Try.underlying87 info_u64 rfl rfl rfl 25 25 (by simp) (by simp) (by omega) (by omega) (by unfold maxLen; omega) ?_; intro w3 hw3 hf3 hz3)
          have ho3 : Has w3 wr.heap.size (ws (chiR mv 0)) 82 := by simpa [chiR, ws] using hw3
          have hgo : gm < wr.heap.size := hmx.lt
          have hm3 := hmx.keep hf3 id
          have hfr3 := hfx.same hf3
          generalize wr.heap.size = go at *
          clear hw3 hf3 hz3 hcx hmx hfx
          go_wp2_with fail
          go_loopw [15] (fun i wr => ∃ x : Nat, x ≤ 5 ∧ i = .int .i64 x ∧ Has wr gm (ws mv) 82 ∧ Has wr go (ws (chiR mv x)) 82 ∧ Fr Nob w wr) (fun i _ => (5 - intOf i).toNat)
          case atStart => exact ⟨0, by omega, rfl, hm3, ho3, hfr3⟩
          case round =>
            obtain ⟨x, hx, rfl, hmx, hox, hfx⟩ := hrel
            clear hm3 ho3 hfr3
            by_cases hlt5 : x < 5
            · have hlt5I : (x : Int) < 5 := by omega
              obtain ⟨wo, rfl⟩ : ∃ wo : World, wo = wr := ⟨_, rfl⟩
              go_wp2_with fail
              go_loopw [16] (fun i wr => ∃ y : Nat, y ≤ 5 ∧ i = .int .i64 y ∧ Has wr gm (ws mv) 82 ∧ Has wr go (ws (chiRrow mv (chiR mv x) x y)) 82 ∧ Fr Nob w wr) (fun i _ => (5 - intOf i).toNat)
              case atStart => exact ⟨0, by omega, rfl, hmx, by rw [chiRrow_zero]; exact hox, hfx⟩
              case round =>
                obtain ⟨y, hy, rfl, hmy, hoy, hfy⟩ := hrel
                clear hmx hox hfx
                by_cases hlt6 : y < 5
                · have hlt6I : (y : Int) < 5 := by omega
                  have hp0 := place_lt x y
                  have hp1 := place_lt (x + 1) y
                  have hp2 := place_lt (x + 2) y
                  have h0 : wr.cell? ⟨gm, place x y, none⟩ = some (.int .u64 ((mv.getD (place x y) 0).toNat : Int)) := hmy.cell (ws_get _ _ (by omega))
                  have h1 : wr.cell? ⟨gm, place (x + 1) y, none⟩ = some (.int .u64 ((mv.getD (place (x + 1) y) 0).toNat : Int)) := hmy.cell (ws_get _ _ (by omega))
                  have h2 : wr.cell? ⟨gm, place (x + 2) y, none⟩ = some (.int .u64 ((mv.getD (place (x + 2) y) 0).toNat : Int)) := hmy.cell (ws_get _ _ (by omega))
                  obtain ⟨v0, hc0, hf0⟩ := hoy.ready (i := place x y) (by rw [length_ws, chiRrow_len, chiR_len]; exact hp0)
                  have hpi : (0 : Int) ≤ (place x y : Int) ∧ (place x y : Int) < 25 ∧ (0 : Int) ≤ (place (x + 1) y : Int) ∧ (place (x + 1) y : Int) < 25 ∧ (0 : Int) ≤ (place (x + 2) y : Int) ∧ (place (x + 2) y : Int) < 25 := by omega
                  generalize hv0 : mv.getD (place x y) 0 = y0 at h0
                  generalize hv1 : mv.getD (place (x + 1) y) 0 = y1 at h1
                  generalize hv2 : mv.getD (place (x + 2) y) 0 = y2 at h2
                  have HV0 := Lib.hid hv0; clear hv0
                  have HV1 := Lib.hid hv1; clear hv1
                  have HV2 := Lib.hid hv2; clear hv2
                  have HML := Lib.hid hml; clear hml hp0 hp1 hp2
                  go_wp2_with fail
                  have e1 : IntKind.i64.wrap ((x : Int) + 1) = (x : Int) + 1 := IntWalk.i64_in _ (by omega)
                  have e2 : IntKind.i64.wrap ((x : Int) + 2) = (x : Int) + 2 := IntWalk.i64_in _ (by omega)
                  refine wp_region_still_tail 28 (by kernel_rfl) (by kernel_rfl) ?_
                  simp only [List.take_succ_cons, List.take_zero, List.drop_succ_cons, List.drop_zero]
                  repeat still_step
                  still_call (place_same x y _ (by omega) (by omega))
                  repeat still_step
                  still_call (place_same x y _ (by omega) (by omega))
                  repeat still_step
                  still_call (place_1 x y _ (by omega) (by omega))
                  repeat still_step
                  still_call (place_2 x y _ (by omega) (by omega))
                  repeat still_step
                  refine wpStill_nil ?_
                  go_wp2
                  go_roundw
                  case rel =>
                    have e : chiRrow mv (chiR mv x) x (y + 1) = (chiRrow mv (chiR mv x) x y).set (place x y) (wx y0 (wa (wn y1) y2)) := by
                      rw [chiRrow_succ, chiRstep, HV0.out, HV1.out, HV2.out]; rfl
                    refine ⟨y + 1, by omega, by go_num, (hmy.other _ _ _ (by omega)).drew, ?_, (hfy.setCell _ _ _ _ (fun h => by have := HGC.out; omega)).drew⟩
                    rw [e, ← ws_set]
                    exact (hoy.set _ _).drew
                  case measure => simp [intOf]; omega
                · have hge : ¬ ((y : Int) < 5) := by omega
                  have hy5 : y = 5 := by omega
                  have HY := Lib.hid hy5; clear hy5
                  go_wp2_with fail
                  go_roundw
                  case rel =>
                    rw [HY.out, ← chiR_succ] at hoy
                    first
                      | exact ⟨x + 1, by omega, by go_num, hmy, hoy, hfy⟩
                      | exact ⟨x + 1, by omega, by omega, hoy⟩
                  case measure => simp [intOf]; omega
            · have hge : ¬ ((x : Int) < 5) := by omega
              have hx5 : x = 5 := by omega
              have hol : (chiR mv x).length = 25 := chiR_len mv x
              have hcell : wr.cell? ⟨go, 0, none⟩ = some (.int .u64 (((chiR mv x).getD 0 0).toNat : Int)) := hox.cell (ws_get _ _ (by omega))
              have hfree : wr.frozen? ⟨go, 0, none⟩ = false := hox.free _ (by rw [length_ws]; omega)
              generalize hu : (chiR mv x).getD 0 0 = u at hcell
              have HU := Lib.hid hu; clear hu
              have HX5 := Lib.hid hx5; clear hx5
              have HOL := Lib.hid hol; clear hol
              have HML := Lib.hid hml; clear hml
              go_wp2_with fail
              try go_region
              all_goals go_wp2
              go_ret
              have e : roundR (turnsK 24) S c = (chiR mv x).set 0 (wx u c) := by
                rw [roundR, ← HMV.out, ← HX5.out, HU.out]; rfl
              refine ⟨go, rfl, by have := HGC.out; omega, ?_, hfx.setCell _ _ _ _ (fun h => by have := HGC.out; omega)⟩
              rw [e, ← ws_set]
              exact hox.set _ _
end Go.Proofs.Ytgkakddldobpkaa
