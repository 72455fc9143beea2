/- Words of 64 bits in memory, as natural numbers; math/bits.Add64, Sub64, Mul64; Sums and differences of words: mont.Int.minus, plus; the reference's less, plus; mont.line: a word times a number, added to the lowest words; mintvaultref2.product: the product of two numbers of four words; A region that draws its order, under a condition S on the world that holds till the last operations begin: the head (reads, calls) in an order of the prover's choice, behind it the tail (a store, as a rule) in the text's order. -/
import Derived.Test.YtmegaegedlbckaaMgNumListsProof2
import Derived.Shelf.Spec.BitsCarry
import Derived.Shelf.Bits.Mul64
import Derived.Test.YtmegaegedlbckaaProg
import Derived.RegionTactic
import Derived.Deep.QuietTactic
import Derived.BigQuiet
import Derived.OrdersHeld
import Derived.StillTail
import Derived.Deep.MidRow
import Derived.Deep.RegionHeld3
namespace Go.Mv
open Go.RowKit Mvp
variable {P : Program}

/-- words, as cells -/
def us (l : List Nat) : List Value := l.map fun (x : Nat) => .int .u64 (x : Int)
theorem length_us (l : List Nat) : (us l).length = l.length := by simp [us]
theorem us_get (l : List Nat) (i x : Nat) (h : l[i]? = some x) : (us l)[i]? = some (.int .u64 (x : Int)) := by simp [us, h]
theorem us_set (l : List Nat) (i : Nat) (x : Nat) : (us l).set i (.int .u64 (x : Int)) = us (l.set i x) := by simp [us]
theorem us_one (l : List Nat) : ∀ v ∈ us l, v.oneCell' = true := by intro v hv; simp [us] at hv; obtain ⟨x, _, rfl⟩ := hv; rfl
theorem us_append (l m : List Nat) : us (l ++ m) = us l ++ us m := by simp [us]
/-- n words -/
def cw (n a : Nat) : List Value := us (limbs n a)
theorem cw_len (n a : Nat) : (cw n a).length = n := by rw [cw, length_us, limbs_length]
theorem cw_get (n a i : Nat) (h : i < n) : (cw n a)[i]? = some (.int .u64 (lw a i : Nat)) := us_get _ _ _ (limbs_get n a i h)
theorem cw_set (n A B k : Nat) (h : k < n) : (cw n (mix A B k)).set k (.int .u64 (lw A k : Nat)) = cw n (mix A B (k + 1)) := by
  rw [cw, us_set, limbs_set n A B k h, cw]
theorem cw_one (n a : Nat) : ∀ v ∈ cw n a, v.oneCell' = true := us_one _
theorem cw_inj {n a b : Nat} (ha : a < B64 ^ n) (hb : b < B64 ^ n) (h : cw n a = cw n b) : a = b := by
  refine limbs_inj ha hb ?_
  refine List.map_inj_right (f := fun (x : Nat) => Value.int .u64 (x : Int)) ?_ |>.1 h
  intro x y hxy
  injection hxy with _ h2
  exact Int.ofNat.inj h2
theorem cw_mod (n a : Nat) : cw n (a % B64 ^ n) = cw n a := by rw [cw, limbs_mod, cw]
/-- four words by value -/
def i4 (a : Nat) : Value := .agg (cw 4 a).toArray
/-- eight words by value -/
def i8 (a : Nat) : Value := .agg (cw 8 a).toArray
theorem cw_ext {n a b : Nat} (h : ∀ i, i < n → lw a i = lw b i) : cw n a = cw n b := by rw [cw, limbs_ext h, cw]
theorem mix_full (A B n : Nat) : cw n (mix A B n) = cw n A := cw_ext fun i hi => by rw [lw_mix, if_pos hi]
theorem i4_cells (a : Nat) : (i4 a).cells.toList = cw 4 a := rfl
theorem cw_zero (n : Nat) : cw n 0 = List.replicate n (.int .u64 0) := by
  apply List.ext_getElem?
  intro i
  rcases Nat.lt_or_ge i n with h | h
  · rw [cw_get _ _ _ h, List.getElem?_replicate, if_pos h]; simp [lw]
  · rw [List.getElem?_eq_none (by rw [cw_len]; exact h), List.getElem?_replicate, if_neg (by omega)]

theorem run_index_cw {t e : TypeId} {m : Nat} (ht : P.underlying t = some (.array m e)) (he : P.underlying e = some (.int .u64)) (hi0 : (P.info? e).map (·.size) = some 1) (a k : Nat) (hk : k < m) (ki : IntKind) (w : World) :
    (Instr.index t (.agg (cw m a).toArray) (.int ki (k : Int))).run P w = .ok (.int .u64 (lw a k : Nat)) w := by
  obtain ⟨j, hj, hsz⟩ : ∃ j, P.info? e = some j ∧ j.size = 1 := by simpa using hi0
  have h1 : (0 : Int) ≤ (k : Int) ∧ (k : Int) < (m : Int) := by omega
  have hv := cw_get m a k hk
  simp [Instr.index, asIntOf, run_underlying ht, sizeOf, typeInfo, hj, hsz, part, isAgg, run_underlying he, h1, hv]
  intro h; omega
/-- the results are an array in memory and a slot -/
theorem results_arr2 {fn : Func} {p : Tmp} {ty : TypeId} {s : Tmp} (h : fn.results = #[.cell p ty, .tmp s]) {tmps : Array Value} {w : World} {g : Nat} {L : List Value} {T : TypeId}
    (hp : tmps.getD p undef = .pointer (some ⟨g, 0, none⟩)) (hg : Has w g L T) {n : Nat} {e : TypeId} (hu : P.underlying ty = some (.array n e)) (hi : (P.info? ty).map (·.size) = some L.length) {v : Value} (hv : tmps.getD s undef = v) :
    (results fn tmps).run P w = .ok (.tuple #[.agg L.toArray, v]) w := by
  obtain ⟨lo, hi', hh, -⟩ := hg
  have hp' : tmps[p]?.getD undef = .pointer (some ⟨g, 0, none⟩) := by simpa using hp
  have hv' : tmps[s]?.getD undef = v := by simpa using hv
  simp [results, h, hp', hv', asAddr, run_loadVar_row w g T ty L.toArray _ _ hh hu rfl (by simpa using hi)]
theorem i4_words (a : Nat) : i4 a = .agg #[.int .u64 (lw a 0 : Nat), .int .u64 (lw a 1 : Nat), .int .u64 (lw a 2 : Nat), .int .u64 (lw a 3 : Nat)] := rfl
theorem i4_high (V : Nat) : i4 (V / B64 ^ 4) = .agg #[.int .u64 (lw V 4 : Nat), .int .u64 (lw V 5 : Nat), .int .u64 (lw V 6 : Nat), .int .u64 (lw V 7 : Nat)] := by
  rw [i4_words, lw_div, lw_div, lw_div, lw_div]
theorem i4_mod (V : Nat) : i4 (V % B64 ^ 4) = i4 V := by rw [i4, cw_mod, ← i4]
theorem i8_words (a : Nat) : i8 a = .agg #[.int .u64 (lw a 0 : Nat), .int .u64 (lw a 1 : Nat), .int .u64 (lw a 2 : Nat), .int .u64 (lw a 3 : Nat), .int .u64 (lw a 4 : Nat), .int .u64 (lw a 5 : Nat), .int .u64 (lw a 6 : Nat), .int .u64 (lw a 7 : Nat)] := rfl
theorem i8_low (V : Nat) : i8 (V % B64 ^ 4) = .agg #[.int .u64 (lw V 0 : Nat), .int .u64 (lw V 1 : Nat), .int .u64 (lw V 2 : Nat), .int .u64 (lw V 3 : Nat), .int .u64 0, .int .u64 0, .int .u64 0, .int .u64 0] := by
  have ht := fun i (hi : 4 ≤ i) => lw_top (V % B64 ^ 4) 4 i (Nat.mod_lt _ (b64_pos 4)) hi
  rw [i8_words, lw_mod _ _ _ (by decide), lw_mod _ _ _ (by decide), lw_mod _ _ _ (by decide), lw_mod _ _ _ (by decide), ht 4 (by decide), ht 5 (by decide), ht 6 (by decide), ht 7 (by decide)]
  rfl
/-- the number that lies in memory -/
def valFrom (w : World) (g : Nat) : Nat → Nat → Nat
  | _, 0 => 0
  | i, n + 1 => (intOf ((w.cell? ⟨g, i, none⟩).getD undef)).toNat + B64 * valFrom w g (i + 1) n
theorem valFrom_cw {w : World} {g V m : Nat} {T : TypeId} (h : Has w g (cw m V) T) : ∀ (n i : Nat), i + n ≤ m → valFrom w g i n = V / B64 ^ i % B64 ^ n
  | 0, i, _ => by simp [valFrom, Nat.mod_one]
  | n + 1, i, hi => by
    rw [valFrom, valFrom_cw h n (i + 1) (by omega), h.cell (cw_get m V i (by omega))]
    show lw V i + B64 * _ = _
    have e1 : B64 ^ (n + 1) = B64 * B64 ^ n := by rw [Nat.pow_succ, Nat.mul_comm]
    rw [e1, Nat.mod_mul, Nat.pow_succ, ← Nat.div_div_eq_div_mul]
    rfl
theorem valFrom_all {w : World} {g V m : Nat} {T : TypeId} (h : Has w g (cw m V) T) (hV : V < B64 ^ m) : valFrom w g 0 m = V := by
  rw [valFrom_cw h m 0 (by omega), Nat.pow_zero, Nat.div_one, Nat.mod_eq_of_lt hV]
/-- the equation of a load, the one of a store -/
theorem St.loadEq {S : Nat → Prop} {w0 w : World} {bl : List (Nat × List Value × TypeId)} (h : St S w0 w bl) (i : Nat) {g : Nat} {L : List Value} {T : TypeId} (hb : bl[i]? = some (g, L, T)) (o : Nat) (cs : List Value) (hcs : (L.drop o).take cs.length = cs) {ty : TypeId} {n : Nat} {e : TypeId} (hu : P.underlying ty = some (.array n e)) (hi : (P.info? ty).map (·.size) = some cs.length) :
    (Instr.loadAt ty (.pointer (some ⟨g, o, none⟩))).run P w = .ok (.agg cs.toArray) w :=
  run_loadAt_mid w g o ty cs _ ((h.at i hb).range o cs hcs) hu rfl hi
theorem St.storeEq {S : Nat → Prop} {w0 w : World} {bl : List (Nat × List Value × TypeId)} (h : St S w0 w bl) (i : Nat) {g : Nat} {L : List Value} {T : TypeId} (hb : bl[i]? = some (g, L, T)) (cs : List Value) (hn : cs.length = L.length) {ty : TypeId} (hi : (P.info? ty).map (·.size) = some cs.length) (h1 : ∀ v ∈ cs, v.oneCell' = true) :
    (Instr.storeAt ty (.pointer (some ⟨g, 0, none⟩)) (.agg cs.toArray)).run P w = .ok () (w.setCells g 0 cs) := by
  have := run_storeAt_mid (P := P) w g 0 ty cs.toArray (by simpa using (h.at i hb).there 0 cs.length (by omega)) (by simpa using hi) (all_oneCell_toArray h1)
  simpa using this
theorem St.setCells {S : Nat → Prop} {w0 w : World} {bl : List (Nat × List Value × TypeId)} (h : St S w0 w bl) (i : Nat) {g : Nat} {L : List Value} {T : TypeId} (hb : bl[i]? = some (g, L, T)) (cs : List Value) (hn : cs.length = L.length) : St S w0 (w.setCells g 0 cs) (bl.set i (g, cs, T)) := by
  obtain ⟨k1, k2, _⟩ := Has.setCells cs 0 L w (h.at i hb) (by omega)
  rw [splice_whole _ _ hn] at k1
  exact h.put i hb k2 k1
theorem has_new4 (w : World) (a : Nat) (T : TypeId) : Has (w.alloc (.cells #[.int .u64 (lw a 0 : Nat), .int .u64 (lw a 1 : Nat), .int .u64 (lw a 2 : Nat), .int .u64 (lw a 3 : Nat)] T)) w.heap.size (cw 4 a) T := Has.new w _ T
theorem set8 (V : Nat) (x0 x1 x2 x3 x4 x5 x6 x7 : Value) : ((((((((cw 8 V).set 0 x0).set 1 x1).set 2 x2).set 3 x3).set 4 x4).set 5 x5).set 6 x6).set 7 x7 = [x0, x1, x2, x3, x4, x5, x6, x7] := rfl
theorem set4 (V : Nat) (x0 x1 x2 x3 : Value) : ((((cw 4 V).set 0 x0).set 1 x1).set 2 x2).set 3 x3 = [x0, x1, x2, x3] := rfl
theorem cw8_words (a : Nat) : [.int .u64 (lw a 0 : Nat), .int .u64 (lw a 1 : Nat), .int .u64 (lw a 2 : Nat), .int .u64 (lw a 3 : Nat), .int .u64 (lw a 4 : Nat), .int .u64 (lw a 5 : Nat), .int .u64 (lw a 6 : Nat), .int .u64 (lw a 7 : Nat)] = cw 8 a := rfl
theorem cw4_words (a : Nat) : [.int .u64 (lw a 0 : Nat), .int .u64 (lw a 1 : Nat), .int .u64 (lw a 2 : Nat), .int .u64 (lw a 3 : Nat)] = cw 4 a := rfl
theorem cw_getL (m n a b i : Nat) (h : i < m) : (cw m a ++ cw n b)[i]? = some (.int .u64 (lw a i : Nat)) := by
  rw [List.getElem?_append_left (by rw [cw_len]; exact h), cw_get _ _ _ h]
theorem cw_getR (m n a b i : Nat) (h : i < n) : (cw m a ++ cw n b)[m + i]? = some (.int .u64 (lw b i : Nat)) := by
  rw [List.getElem?_append_right (by rw [cw_len]; omega), cw_len, Nat.add_sub_cancel_left, cw_get _ _ _ h]
/-- eight cells of a block are written, one behind the other -/
theorem St.set8 {S : Nat → Prop} {w0 w : World} {bl : List (Nat × List Value × TypeId)} (h : St S w0 w bl) (i : Nat) {g : Nat} {V U : Nat} {T : TypeId} (hi : bl[i]? = some (g, cw 8 V, T)) :
    St S w0 ((((((((w.setCell ⟨g, 0, none⟩ (.int .u64 (lw U 0 : Nat))).setCell ⟨g, 1, none⟩ (.int .u64 (lw U 1 : Nat))).setCell ⟨g, 2, none⟩ (.int .u64 (lw U 2 : Nat))).setCell ⟨g, 3, none⟩ (.int .u64 (lw U 3 : Nat))).setCell ⟨g, 4, none⟩ (.int .u64 (lw U 4 : Nat))).setCell ⟨g, 5, none⟩ (.int .u64 (lw U 5 : Nat))).setCell ⟨g, 6, none⟩ (.int .u64 (lw U 6 : Nat))).setCell ⟨g, 7, none⟩ (.int .u64 (lw U 7 : Nat))) (bl.set i (g, cw 8 U, T)) := by
  have h1 := h.setCells i hi (cw 8 U) (by rw [cw_len, cw_len])
  rw [← cw8_words] at h1
  simp only [World.setCells, Nat.zero_add, Nat.reduceAdd] at h1
  exact h1
theorem neg_words (p a : Nat) (h : a ≤ p) : i4 (p + B64 ^ 4 - a) = i4 (p - a) := by
  rw [← i4_mod, show p + B64 ^ 4 - a = (p - a) + B64 ^ 4 by omega, Nat.add_mod_right, i4_mod]
theorem small_words (n : Nat) (h : n < 18446744073709551616) : .agg #[.int .u64 (n : Int), .int .u64 0, .int .u64 0, .int .u64 0] = i4 n := by
  have h0 : lw n 0 = n := by simp only [lw, Nat.pow_zero, Nat.div_one]; exact Nat.mod_eq_of_lt h
  have ht := fun i (hi : 1 ≤ i) => lw_top n 1 i (by rw [Nat.pow_one]; exact h) hi
  rw [i4_words, h0, ht 1 (by decide), ht 2 (by decide), ht 3 (by decide)]
  rfl
theorem small8_words (n : Nat) (h : n < 18446744073709551616) : .agg #[.int .u64 (n : Int), .int .u64 0, .int .u64 0, .int .u64 0, .int .u64 0, .int .u64 0, .int .u64 0, .int .u64 0] = i8 n := by
  have h0 : lw n 0 = n := by simp only [lw, Nat.pow_zero, Nat.div_one]; exact Nat.mod_eq_of_lt h
  have ht := fun i (hi : 1 ≤ i) => lw_top n 1 i (by rw [Nat.pow_one]; exact h) hi
  rw [i8_words, h0, ht 1 (by decide), ht 2 (by decide), ht 3 (by decide), ht 4 (by decide), ht 5 (by decide), ht 6 (by decide), ht 7 (by decide)]
  rfl
theorem cw_left (m n a b : Nat) : ((cw m a ++ cw n b).drop 0).take (cw m a).length = cw m a := by simp
theorem cw_right (m n a b : Nat) : ((cw m a ++ cw n b).drop m).take (cw n b).length = cw n b := by
  rw [List.drop_append, cw_len, cw_len, Nat.sub_self, List.drop_of_length_le (by rw [cw_len]; exact Nat.le_refl _), List.nil_append, List.drop_zero, List.take_of_length_le (by rw [cw_len]; exact Nat.le_refl _)]
theorem St.loadV {S : Nat → Prop} {w0 w : World} {bl : List (Nat × List Value × TypeId)} (h : St S w0 w bl) (i : Nat) {g : Nat} {L : List Value} {T : TypeId} (hb : bl[i]? = some (g, L, T)) (o : Nat) (cs : List Value) (hcs : (L.drop o).take cs.length = cs) {ty : TypeId} {n : Nat} {e : TypeId} (hu : P.underlying ty = some (.array n e)) (hi : (P.info? ty).map (·.size) = some cs.length) :
    (loadVar ty ⟨g, o, none⟩).run P w = .ok (.agg cs.toArray) w :=
  run_loadVar_mid w g o ty cs _ ((h.at i hb).range o cs hcs) hu rfl hi
theorem St.storeV {S : Nat → Prop} {w0 w : World} {bl : List (Nat × List Value × TypeId)} (h : St S w0 w bl) (i : Nat) {g : Nat} {L : List Value} {T : TypeId} (hb : bl[i]? = some (g, L, T)) (cs : List Value) (hn : cs.length = L.length) {ty : TypeId} (hi : (P.info? ty).map (·.size) = some cs.length) (h1 : ∀ v ∈ cs, v.oneCell' = true) :
    (storeVar ty ⟨g, 0, none⟩ (.agg cs.toArray)).run P w = .ok () (w.setCells g 0 cs) := by
  have := run_storeVar_mid (P := P) w g 0 ty cs.toArray (by simpa using (h.at i hb).there 0 cs.length (by omega)) (by simpa using hi) (all_oneCell_toArray h1)
  simpa using this
end Go.Mv
namespace Go.Proofs.Ytmegaegedlbckaa
open Go.RowKit Go.Mv Mvp
def Try.lays264_ren : Go.Shelf.Ren := ⟨fun | 264 => 63 | n => n, fun | 46 => 112 | 53 => 36 | n => n, fun | n => n⟩
theorem Try.lays264 : Go.Proofs.Lays.n264 Try.prog Try.lays264_ren := {
  mixed := by kernel_rfl
  f264 := Try.func63.trans (congrArg some (by kernel_rfl))
  t46 := Try.underlying112
  a46 := Try.isAgg112
  z46 := Try.sizeOf112
  v46 := Try.zeroValue112
  t53 := Try.underlying36
  a53 := Try.isAgg36
  z53 := Try.sizeOf36
  v53 := Try.zeroValue36 }
theorem add64_run (x y c : Nat) (hc : c ≤ 1) (w : World) : (callFunc 64 #[.int .u64 x, .int .u64 y, .int .u64 c]).run Try.prog w =
      .ok (.value (.tuple #[.int .u64 (((x + y + c) % 18446744073709551616 : Nat) : Int), .int .u64 (((x + y + c) / 18446744073709551616 : Nat) : Int)])) w := by
  rw [run_callFunc_extern Try.func64 (by kernel_rfl) (by kernel_rfl) (by kernel_rfl) (e := add64Entry) (by kernel_rfl), run_add64 x y c (by omega) (by omega) (by omega) (by omega)]
  simp only [Result.andThen]
  congr 5 <;> omega
theorem add64_run0 (x y s c : Nat) (h1 : (x + y) % 18446744073709551616 = s) (h2 : (x + y) / 18446744073709551616 = c) (w : World) : (callFunc 64 #[.int .u64 x, .int .u64 y, .int .u64 0]).run Try.prog w =
      .ok (.value (.tuple #[.int .u64 (s : Int), .int .u64 (c : Int)])) w := by
  have h := add64_run x y 0 (by omega) w
  rw [Nat.add_zero, h1, h2] at h
  exact h
theorem sub64_run (x y b : Nat) (hb : b ≤ 1) (w : World) : (callFunc 39 #[.int .u64 x, .int .u64 y, .int .u64 b]).run Try.prog w =
      .ok (.value (.tuple #[.int .u64 (((x + 18446744073709551616 - y - b) % 18446744073709551616 : Nat) : Int), .int .u64 ((if x < y + b then 1 else 0 : Nat) : Int)])) w := by
  rw [run_callFunc_extern Try.func39 (by kernel_rfl) (by kernel_rfl) (by kernel_rfl) (e := sub64Entry) (by kernel_rfl), run_sub64 x y b hb]
  rfl
/-- two results in slots -/
theorem mul64_any (x y : Nat) (hx : x < 18446744073709551616) (hy : y < 18446744073709551616) (w : World) :
    Calls Try.prog 63 #[.int .u64 x, .int .u64 y] w fun e w' => e = .returned (.tuple #[.int .u64 ((x * y / 18446744073709551616 : Nat) : Int), .int .u64 ((x * y % 18446744073709551616 : Nat) : Int)]) ∧ w = w' :=
  (Any.bits_Mul64 Try.lays264 x y hx hy w).mono fun _ _ h => ⟨h.1, h.2.symm⟩
theorem size_u64 : (Try.prog.info? 36).map (·.size) = some 1 := by kernel_rfl
end Go.Proofs.Ytmegaegedlbckaa

/- Sums and differences of words: mont.Int.minus, plus; the reference's less, plus. -/
namespace Go.Proofs.Ytmegaegedlbckaa
open Go.RowKit Go.Mv Mvp
attribute [local irreducible] limbs lw mix cw cSub cAdd cMul

set_option maxHeartbeats 2000000 in
set_option maxRecDepth 100000 in
theorem minus_any (a b : Nat) (w : World) (hb : b < B64 ^ 4) :
    Calls Try.prog 70 #[i4 a, i4 b] w fun e w' => e = .returned (.tuple #[i4 (a + B64 ^ 4 - b), .int .u64 (cSub a b 4 : Nat)]) ∧ Fr Nob w w' := by
  have HB := Lib.hid hb; clear hb
  have st0 := St.start Nob w
  go_enter Try.func70, Try.ntmps70
  go_wp2_with (with_reducible refine wl_stop (o := ⟨some 2, _, _, _, _, _⟩) ?_)
  refine wl_boxS st0 rfl rfl rfl (cw 4 a) rfl ?_
  intro g2 w1 st1
  clear st0
  go_wp2_with (with_reducible refine wl_stop (o := ⟨some 3, _, _, _, _, _⟩) ?_)
  refine wl_boxS st1 rfl rfl rfl (cw 4 b) rfl ?_
  intro g3 w2 st2
  clear st1
  go_wp2_with (with_reducible refine wl_stop (o := ⟨some 4, _, _, _, _, _⟩) ?_)
  refine wl_allocS st2 rfl rfl (z := .agg #[.int .u64 0, .int .u64 0, .int .u64 0, .int .u64 0]) (by kernel_rfl) (cw 4 0) (by rw [cw_zero]; rfl) ?_
  intro g4 w3 st3
  clear st2
  go_wp2
  go_loopw [5, 7] (fun c i wr => ∃ k : Nat, k ≤ 4 ∧ i = .int .i64 (k : Int) ∧ c = .int .u64 (cSub a b k : Nat) ∧ St Nob w wr [(g2, cw 4 a, 66), (g3, cw 4 b, 66), (g4, cw 4 (mix (a + B64 ^ 4 - b) 0 k), 66)]) (fun _ i _ => 4 - (intOf i).toNat)
  case atStart => exact ⟨0, by omega, rfl, by rw [cSub_zero]; rfl, by rw [mix_zero]; exact st3⟩
  case round =>
    obtain ⟨k, hk, rfl, rfl, st⟩ := hrel
    clear st3
    by_cases hlt : k < 4
    · have hltI : (k : Int) < 4 := by omega
      have c1 := (st.at 0 rfl).cell (cw_get 4 a k hlt)
      have c2 := (st.at 1 rfl).cell (cw_get 4 b k hlt)
      obtain ⟨v3, c3, f3⟩ := (st.at 2 rfl).ready (i := k) (by rw [cw_len]; exact hlt)
      have e1 := fun wx => sub64_run (lw a k) (lw b k) (cSub a b k) (cSub_le a b k) wx
      go_wp2
      go_region
      all_goals
        go_wp2
        go_roundw
        case rel =>
          have h1 := st.set 2 rfl k (.int .u64 (lw (a + B64 ^ 4 - b) k : Nat))
          rw [cw_set _ _ _ _ hlt, lw_sub 4 a b k HB.out hlt] at h1
          exact ⟨k + 1, by omega, by go_num, by rw [cSub_succ], h1.drew⟩
        case measure => simp [intOf]; omega
    · have hge : ¬ ((k : Int) < 4) := by omega
      have hk4 : k = 4 := by omega
      have HK := Lib.hid hk4; clear hk4
      go_wp2_with (with_reducible refine wl_stop (o := ⟨some 24, _, _, _, _, _⟩) ?_)
      refine wl_loadS st 2 rfl rfl rfl Try.underlying66 rfl (by rw [cw_len]; kernel_rfl) ?_
      go_wp2_with (with_reducible refine wl_stop (o := ⟨none, _, _, _, _, _⟩) ?_)
      refine wl_storeS st 2 rfl rfl rfl rfl rfl (by simp only [cw_len]) (by rw [cw_len]; kernel_rfl) (cw_one _ _) ?_
      intro w5 st5
      clear st
      have hd5 := st5.at 2 rfl
      rw [HK.out, mix_top _ _ _ (by first | decide | assumption | exact HA.out), cw_mod] at hd5
      have hf5 := st5.fr
      clear st5
      go_wp2
      exact bodyPost_ret (results_arr2 rfl rfl hd5 Try.underlying66 (by rw [cw_len]; kernel_rfl) rfl) rfl ⟨by rw [HK.out]; rfl, hf5⟩

set_option maxHeartbeats 2000000 in
set_option maxRecDepth 100000 in
theorem plus_any (a b : Nat) (w : World) :
    Calls Try.prog 72 #[i4 a, i4 b] w fun e w' => e = .returned (.tuple #[i4 (a + b), .int .u64 (cAdd a b 4 : Nat)]) ∧ Fr Nob w w' := by
  have st0 := St.start Nob w
  go_enter Try.func72, Try.ntmps72
  go_wp2_with (with_reducible refine wl_stop (o := ⟨some 2, _, _, _, _, _⟩) ?_)
  refine wl_boxS st0 rfl rfl rfl (cw 4 a) rfl ?_
  intro g2 w1 st1
  clear st0
  go_wp2_with (with_reducible refine wl_stop (o := ⟨some 3, _, _, _, _, _⟩) ?_)
  refine wl_boxS st1 rfl rfl rfl (cw 4 b) rfl ?_
  intro g3 w2 st2
  clear st1
  go_wp2_with (with_reducible refine wl_stop (o := ⟨some 4, _, _, _, _, _⟩) ?_)
  refine wl_allocS st2 rfl rfl (z := .agg #[.int .u64 0, .int .u64 0, .int .u64 0, .int .u64 0]) (by kernel_rfl) (cw 4 0) (by rw [cw_zero]; rfl) ?_
  intro g4 w3 st3
  clear st2
  go_wp2
  go_loopw [5, 7] (fun c i wr => ∃ k : Nat, k ≤ 4 ∧ i = .int .i64 (k : Int) ∧ c = .int .u64 (cAdd a b k : Nat) ∧ St Nob w wr [(g2, cw 4 a, 66), (g3, cw 4 b, 66), (g4, cw 4 (mix (a + b) 0 k), 66)]) (fun _ i _ => 4 - (intOf i).toNat)
  case atStart => exact ⟨0, by omega, rfl, by rw [cAdd_zero]; rfl, by rw [mix_zero]; exact st3⟩
  case round =>
    obtain ⟨k, hk, rfl, rfl, st⟩ := hrel
    clear st3
    by_cases hlt : k < 4
    · have hltI : (k : Int) < 4 := by omega
      have c1 := (st.at 0 rfl).cell (cw_get 4 a k hlt)
      have c2 := (st.at 1 rfl).cell (cw_get 4 b k hlt)
      obtain ⟨v3, c3, f3⟩ := (st.at 2 rfl).ready (i := k) (by rw [cw_len]; exact hlt)
      have e1 := fun wx => add64_run (lw a k) (lw b k) (cAdd a b k) (cAdd_le a b k) wx
      go_wp2
      go_region
      all_goals
        go_wp2
        go_roundw
        case rel =>
          have h1 := st.set 2 rfl k (.int .u64 (lw (a + b) k : Nat))
          rw [cw_set _ _ _ _ hlt, lw_add a b k] at h1
          exact ⟨k + 1, by omega, by go_num, by rw [cAdd_succ]; go_num, h1.drew⟩
        case measure => simp [intOf]; omega
    · have hge : ¬ ((k : Int) < 4) := by omega
      have hk4 : k = 4 := by omega
      have HK := Lib.hid hk4; clear hk4
      go_wp2_with (with_reducible refine wl_stop (o := ⟨some 24, _, _, _, _, _⟩) ?_)
      refine wl_loadS st 2 rfl rfl rfl Try.underlying66 rfl (by rw [cw_len]; kernel_rfl) ?_
      go_wp2_with (with_reducible refine wl_stop (o := ⟨none, _, _, _, _, _⟩) ?_)
      refine wl_storeS st 2 rfl rfl rfl rfl rfl (by simp only [cw_len]) (by rw [cw_len]; kernel_rfl) (cw_one _ _) ?_
      intro w5 st5
      clear st
      have hd5 := st5.at 2 rfl
      rw [HK.out, mix_top _ _ _ (by first | decide | assumption | exact HA.out), cw_mod] at hd5
      have hf5 := st5.fr
      clear st5
      go_wp2
      exact bodyPost_ret (results_arr2 rfl rfl hd5 Try.underlying66 (by rw [cw_len]; kernel_rfl) rfl) rfl ⟨by rw [HK.out]; rfl, hf5⟩

set_option maxHeartbeats 2000000 in
set_option maxRecDepth 100000 in
theorem less_any (a b : Nat) (w : World) (hb : b < B64 ^ 4) :
    Calls Try.prog 57 #[i4 a, i4 b] w fun e w' => e = .returned (.tuple #[i4 (a + B64 ^ 4 - b), .int .u64 (cSub a b 4 : Nat)]) ∧ Fr Nob w w' := by
  have HB := Lib.hid hb; clear hb
  have st0 := St.start Nob w
  go_enter Try.func57, Try.ntmps57
  go_wp2_with (with_reducible refine wl_stop (o := ⟨some 2, _, _, _, _, _⟩) ?_)
  refine wl_boxS st0 rfl rfl rfl (cw 4 a) rfl ?_
  intro g2 w1 st1
  clear st0
  go_wp2_with (with_reducible refine wl_stop (o := ⟨some 3, _, _, _, _, _⟩) ?_)
  refine wl_boxS st1 rfl rfl rfl (cw 4 b) rfl ?_
  intro g3 w2 st2
  clear st1
  go_wp2_with (with_reducible refine wl_stop (o := ⟨some 4, _, _, _, _, _⟩) ?_)
  refine wl_allocS st2 rfl rfl (z := .agg #[.int .u64 0, .int .u64 0, .int .u64 0, .int .u64 0]) (by kernel_rfl) (cw 4 0) (by rw [cw_zero]; rfl) ?_
  intro g4 w3 st3
  clear st2
  go_wp2_with (with_reducible refine wl_stop (o := ⟨some 6, _, _, _, _, _⟩) ?_)
  refine wl_allocS st3 rfl rfl (z := .agg #[.int .u64 0, .int .u64 0, .int .u64 0, .int .u64 0]) (by kernel_rfl) (cw 4 0) (by rw [cw_zero]; rfl) ?_
  intro g6 w4 st4
  clear st3
  go_wp2
  go_loopw [7, 8] (fun c i wr => ∃ k : Nat, k ≤ 4 ∧ i = .int .i64 (k : Int) ∧ c = .int .u64 (cSub a b k : Nat) ∧ St Nob w wr [(g2, cw 4 a, 38), (g3, cw 4 b, 38), (g4, cw 4 0, 38), (g6, cw 4 (mix (a + B64 ^ 4 - b) 0 k), 38)]) (fun _ i _ => 4 - (intOf i).toNat)
  case atStart => exact ⟨0, by omega, rfl, by rw [cSub_zero]; rfl, by rw [mix_zero]; exact st4⟩
  case round =>
    obtain ⟨k, hk, rfl, rfl, st⟩ := hrel
    clear st4
    by_cases hlt : k < 4
    · have hltI : (k : Int) < 4 := by omega
      have c1 := (st.at 0 rfl).cell (cw_get 4 a k hlt)
      have c2 := (st.at 1 rfl).cell (cw_get 4 b k hlt)
      obtain ⟨v3, c3, f3⟩ := (st.at 3 rfl).ready (i := k) (by rw [cw_len]; exact hlt)
      have e1 := fun wx => sub64_run (lw a k) (lw b k) (cSub a b k) (cSub_le a b k) wx
      go_wp2
      go_region
      all_goals
        go_wp2
        go_roundw
        case rel =>
          have h1 := st.set 3 rfl k (.int .u64 (lw (a + B64 ^ 4 - b) k : Nat))
          rw [cw_set _ _ _ _ hlt, lw_sub 4 a b k HB.out hlt] at h1
          exact ⟨k + 1, by omega, by go_num, by rw [cSub_succ], h1.drew⟩
        case measure => simp [intOf]; omega
    · have hge : ¬ ((k : Int) < 4) := by omega
      have hk4 : k = 4 := by omega
      have HK := Lib.hid hk4; clear hk4
      go_wp2_with (with_reducible refine wl_stop (o := ⟨some 26, _, _, _, _, _⟩) ?_)
      refine wl_loadS st 3 rfl rfl rfl Try.underlying38 rfl (by rw [cw_len]; kernel_rfl) ?_
      go_wp2_with (with_reducible refine wl_stop (o := ⟨none, _, _, _, _, _⟩) ?_)
      refine wl_storeS st 2 rfl rfl rfl rfl rfl (by simp only [cw_len]) (by rw [cw_len]; kernel_rfl) (cw_one _ _) ?_
      intro w5 st5
      clear st
      have hd5 := st5.at 2 rfl
      rw [HK.out, mix_top _ _ _ (by first | decide | assumption | exact HA.out), cw_mod] at hd5
      have hf5 := st5.fr
      clear st5
      go_wp2
      exact bodyPost_ret (results_arr2 rfl rfl hd5 Try.underlying38 (by rw [cw_len]; kernel_rfl) rfl) rfl ⟨by rw [HK.out]; rfl, hf5⟩

set_option maxHeartbeats 2000000 in
set_option maxRecDepth 100000 in
theorem plusR_any (a b : Nat) (w : World) :
    Calls Try.prog 42 #[i8 a, i8 b] w fun e w' => e = .returned (i8 (a + b)) ∧ Fr Nob w w' := by
  have st0 := St.start Nob w
  go_enter Try.func42, Try.ntmps42
  go_wp2_with (with_reducible refine wl_stop (o := ⟨some 2, _, _, _, _, _⟩) ?_)
  refine wl_boxS st0 rfl rfl rfl (cw 8 a) rfl ?_
  intro g2 w1 st1
  clear st0
  go_wp2_with (with_reducible refine wl_stop (o := ⟨some 3, _, _, _, _, _⟩) ?_)
  refine wl_boxS st1 rfl rfl rfl (cw 8 b) rfl ?_
  intro g3 w2 st2
  clear st1
  go_wp2_with (with_reducible refine wl_stop (o := ⟨some 4, _, _, _, _, _⟩) ?_)
  refine wl_allocS st2 rfl rfl (z := .agg #[.int .u64 0, .int .u64 0, .int .u64 0, .int .u64 0, .int .u64 0, .int .u64 0, .int .u64 0, .int .u64 0]) (by kernel_rfl) (cw 8 0) (by rw [cw_zero]; rfl) ?_
  intro g4 w3 st3
  clear st2
  go_wp2
  go_loopw [5, 6] (fun c i wr => ∃ k : Nat, k ≤ 8 ∧ i = .int .i64 (k : Int) ∧ c = .int .u64 (cAdd a b k : Nat) ∧ St Nob w wr [(g2, cw 8 (mix (a + b) a k), 74), (g3, cw 8 b, 74), (g4, cw 8 0, 74)]) (fun _ i _ => 8 - (intOf i).toNat)
  case atStart => exact ⟨0, by omega, rfl, by rw [cAdd_zero]; rfl, by rw [mix_zero]; exact st3⟩
  case round =>
    obtain ⟨k, hk, rfl, rfl, st⟩ := hrel
    clear st3
    by_cases hlt : k < 8
    · have hltI : (k : Int) < 8 := by omega
      have c1 : wr.cell? ⟨g2, k, none⟩ = some (.int .u64 (lw a k : Nat)) := by have h := (st.at 0 rfl).cell (cw_get 8 (mix (a + b) a k) k hlt); rwa [lw_mix, if_neg (Nat.lt_irrefl k)] at h
      have c2 := (st.at 1 rfl).cell (cw_get 8 b k hlt)
      have f3 := (st.at 0 rfl).free k (by rw [cw_len]; exact hlt)
      have e1 := fun wx => add64_run (lw a k) (lw b k) (cAdd a b k) (cAdd_le a b k) wx
      go_wp2
      go_region
      all_goals
        go_wp2
        go_roundw
        case rel =>
          have h1 := st.set 0 rfl k (.int .u64 (lw (a + b) k : Nat))
          rw [cw_set _ _ _ _ hlt, lw_add a b k] at h1
          exact ⟨k + 1, by omega, by go_num, by rw [cAdd_succ]; go_num, h1.drew⟩
        case measure => simp [intOf]; omega
    · have hge : ¬ ((k : Int) < 8) := by omega
      have hk4 : k = 8 := by omega
      have HK := Lib.hid hk4; clear hk4
      go_wp2_with (with_reducible refine wl_stop (o := ⟨some 24, _, _, _, _, _⟩) ?_)
      refine wl_loadS st 0 rfl rfl rfl Try.underlying74 rfl (by rw [cw_len]; kernel_rfl) ?_
      go_wp2_with (with_reducible refine wl_stop (o := ⟨none, _, _, _, _, _⟩) ?_)
      refine wl_storeS st 2 rfl rfl rfl rfl rfl (by simp only [cw_len]) (by rw [cw_len]; kernel_rfl) (cw_one _ _) ?_
      intro w5 st5
      clear st
      have hd5 := st5.at 2 rfl
      rw [HK.out, mix_full] at hd5
      have hf5 := st5.fr
      clear st5
      go_wp2
      exact bodyPost_ret (results_arr rfl rfl hd5 Try.underlying74 (by rw [cw_len]; kernel_rfl)) rfl ⟨rfl, hf5⟩

end Go.Proofs.Ytmegaegedlbckaa

/- mont.line: a word times a number, added to the lowest words. -/
namespace Go.Proofs.Ytmegaegedlbckaa
open Go.RowKit Go.Mv Mvp
attribute [local irreducible] limbs lw mix cw cSub cAdd cMul

set_option maxHeartbeats 4000000 in
set_option maxRecDepth 100000 in
theorem line_any (gt V x n top : Nat) (T : TypeId) (w : World) (ht : Has w gt (cw 6 V) T) (hx : x < 18446744073709551616) (htop : top < 18446744073709551616) :
    Calls Try.prog 68 #[.pointer (some ⟨gt, 0, none⟩), .int .u64 (x : Int), i4 n, .int .u64 (top : Int)] w fun e w' =>
      e = .returned (.tuple #[.int .u64 (((top + cMul V x n 4) % 18446744073709551616 : Nat) : Int), .int .u64 (((top + cMul V x n 4) / 18446744073709551616 : Nat) : Int)]) ∧
      Has w' gt (cw 6 (mix (V + x * n) V 4)) T ∧ Fr (One gt) w w' := by
  have st0 := St.one ht
  clear ht
  have HX := Lib.hid hx
  go_enter Try.func68, Try.ntmps68
  go_wp2_with (with_reducible refine wl_stop (o := ⟨some 6, _, _, _, _, _⟩) ?_)
  refine wl_boxS st0 rfl rfl rfl (cw 4 n) rfl ?_
  intro gn w1 st1
  clear st0
  go_wp2_with (with_reducible refine wl_stop (o := ⟨some 16, _, _, _, _, _⟩) ?_)
  refine wl_loadS st1 1 rfl rfl rfl Try.underlying66 rfl (by rw [cw_len]; kernel_rfl) ?_
  go_wp2
  go_loopw [10, 17] (fun c i wr => ∃ k : Nat, k ≤ 4 ∧ i = .int .i64 (k : Int) ∧ c = .int .u64 (cMul V x n k : Nat) ∧ St (One gt) w wr [(gt, cw 6 (mix (V + x * n) V k), T)]) (fun _ i _ => 4 - (intOf i).toNat)
  case atStart => exact ⟨0, by omega, rfl, by rw [cMul_zero]; rfl, by rw [mix_zero]; exact st1.less (by simp)⟩
  case round =>
    obtain ⟨k, hk, rfl, rfl, st⟩ := hrel
    clear st1
    have hcm := cMul_lt V x n k HX.out
    by_cases hlt : k < 4
    · have hltI : (k : Int) < 4 := by omega
      have e0 := fun wx => run_index_cw (P := Try.prog) Try.underlying66 Try.underlying36 size_u64 n k hlt .i64 wx
      have hp := word_mul_le HX.out (lw_lt n k)
      have hms := cMul_succ V x n k
      have hlm := lw_madd V x n k
      have hms2 := cMul_lt V x n (k + 1) HX.out
      obtain ⟨hi, lo, lo2, c1, t2, c2, r1, r2, r3, r4, r5, r6, r7, r8, r9⟩ := line_names (x * lw n k) (lw V k) (cMul V x n k) hp hcm
      rw [← r8] at hlm
      rw [← r9] at hms
      rw [hms] at hms2
      have hmul := fun wx => mul64_any x (lw n k) HX.out (lw_lt n k) wx
      rw [r1, r2] at hmul
      have e2 := fun wx => add64_run0 lo (cMul V x n k) lo2 c1 r3 r4 wx
      have e3 := fun wx => add64_run0 (lw V k) lo2 t2 c2 r6 r7 wx
      obtain ⟨v3, c3, f3⟩ := (st.at 0 rfl).ready (i := k) (by rw [cw_len]; omega)
      have c1' : wr.cell? ⟨gt, k, none⟩ = some (.int .u64 (lw V k : Nat)) := by have h := (st.at 0 rfl).cell (cw_get 6 (mix (V + x * n) V k) k (by omega)); rwa [lw_mix, if_neg (Nat.lt_irrefl k)] at h
      clear c3 hp r1 r2 r3 r4 r6 r7 r8 r9
      have HMUL := Lib.hid hmul; clear hmul
      have HMS := Lib.hid hms; clear hms
      have HLM := Lib.hid hlm; clear hlm
      go_wp2_with fail
      refine (HMUL.out _).mono ?_
      rintro e' w' ⟨rfl, rfl⟩
      go_wp2_with fail
      go_region
      all_goals
        go_wp2
        go_roundw
        case rel =>
          have h1 := st.set 0 rfl k (.int .u64 (lw (V + x * n) k : Nat))
          rw [cw_set _ _ _ _ (by omega), HLM.out] at h1
          exact ⟨k + 1, by omega, by go_num, by rw [HMS.out]; go_num, h1.drew⟩
        case measure => simp [intOf]; omega
    · have hge : ¬ ((k : Int) < 4) := by omega
      have hk4 : k = 4 := by omega
      have HK := Lib.hid hk4; clear hk4
      have e2 := fun wx => add64_run0 top (cMul V x n k) _ _ rfl rfl wx
      go_wp2
      go_ret2
      rw [← HK.out]
      exact ⟨rfl, st.at 0 rfl, st.fr⟩
end Go.Proofs.Ytmegaegedlbckaa

/- mintvaultref2.product: the product of two numbers of four words. -/
namespace Go.Proofs.Ytmegaegedlbckaa
open Go.RowKit Go.Mv Mvp
attribute [local irreducible] limbs lw mix cw cSub cAdd cMul

set_option maxHeartbeats 4000000 in
set_option maxRecDepth 100000 in
theorem productR_any (a b : Nat) (w : World) (ha : a < B64 ^ 4) (hb : b < B64 ^ 4) :
    Calls Try.prog 40 #[i4 a, i4 b] w fun e w' => e = .returned (i8 (a * b)) ∧ Fr Nob w w' := by
  have HA := Lib.hid ha; clear ha
  have HB := Lib.hid hb; clear hb
  have st0 := St.start Nob w
  go_enter Try.func40, Try.ntmps40
  go_wp2_with (with_reducible refine wl_stop (o := ⟨some 2, _, _, _, _, _⟩) ?_)
  refine wl_boxS st0 rfl rfl rfl (cw 4 a) rfl ?_
  intro g2 w1 st1
  clear st0
  go_wp2_with (with_reducible refine wl_stop (o := ⟨some 3, _, _, _, _, _⟩) ?_)
  refine wl_boxS st1 rfl rfl rfl (cw 4 b) rfl ?_
  intro g3 w2 st2
  clear st1
  go_wp2_with (with_reducible refine wl_stop (o := ⟨some 4, _, _, _, _, _⟩) ?_)
  refine wl_allocS st2 rfl rfl (z := .agg #[.int .u64 0, .int .u64 0, .int .u64 0, .int .u64 0, .int .u64 0, .int .u64 0, .int .u64 0, .int .u64 0]) (by kernel_rfl) (cw 8 0) (by rw [cw_zero]; rfl) ?_
  intro g4 w3 st3
  clear st2
  go_wp2_with (with_reducible refine wl_stop (o := ⟨some 5, _, _, _, _, _⟩) ?_)
  refine wl_allocS st3 rfl rfl (z := .agg #[.int .u64 0, .int .u64 0, .int .u64 0, .int .u64 0, .int .u64 0, .int .u64 0, .int .u64 0, .int .u64 0]) (by kernel_rfl) (cw 8 0) (by rw [cw_zero]; rfl) ?_
  intro g5 w4 st4
  clear st3
  go_wp2
  go_loopw [6] (fun i wr => ∃ I : Nat, I ≤ 4 ∧ i = .int .i64 (I : Int) ∧ St Nob w wr [(g2, cw 4 a, 38), (g3, cw 4 b, 38), (g4, cw 8 0, 74), (g5, cw 8 (a % B64 ^ I * b), 74)]) (fun i _ => 4 - (intOf i).toNat)
  case atStart => exact ⟨0, by omega, rfl, by rw [row_zero]; exact st4⟩
  case round =>
    obtain ⟨I, hI, rfl, st⟩ := hrel
    clear st4
    by_cases hlt : I < 4
    · have hltI : (I : Int) < 4 := by omega
      obtain ⟨wo, rfl⟩ : ∃ wo : World, wo = wr := ⟨_, rfl⟩
      have htop := row_top a b I HB.out
      have hall := row_all a b I HB.out
      have hnew := row_new a b I
      have hst := row_start a b I
      have hword := row_word a b I
      generalize hP : a % B64 ^ I * b = V at *
      have HP := Lib.hid hP; clear hP
      have HTOP := Lib.hid htop; clear htop
      have HALL := Lib.hid hall; clear hall
      have HST := Lib.hid hst; clear hst
      have HNEW := Lib.hid hnew; clear hnew
      have HWORD := Lib.hid hword; clear hword
      go_wp2
      go_loopw [7, 8] (fun c i wr => ∃ k : Nat, k ≤ 4 ∧ i = .int .i64 (k : Int) ∧ c = .int .u64 (cMul (V / B64 ^ I) (lw a I) b k : Nat) ∧ St Nob w wr [(g2, cw 4 a, 38), (g3, cw 4 b, 38), (g4, cw 8 0, 74), (g5, cw 8 (mix (a % B64 ^ (I + 1) * b) V (I + k)), 74)]) (fun _ i _ => 4 - (intOf i).toNat)
      case atStart =>
        exact ⟨0, by omega, rfl, by rw [cMul_zero]; rfl, by rw [HST.out]; exact st⟩
      case round =>
        obtain ⟨k, hk, rfl, rfl, stk⟩ := hrel
        clear st
        have hx := lw_lt a I
        have hcm := cMul_lt (V / B64 ^ I) (lw a I) b k hx
        by_cases hltk : k < 4
        · have hltK : (k : Int) < 4 := by omega
          have hp := word_mul_le hx (lw_lt b k)
          have hms := cMul_succ (V / B64 ^ I) (lw a I) b k
          have hlm := lw_madd (V / B64 ^ I) (lw a I) b k
          have hms2 := cMul_lt (V / B64 ^ I) (lw a I) b (k + 1) hx
          obtain ⟨hi, lo, lo2, c1, t2, c2, r1, r2, r3, r4, r5, r6, r7, r8, r9⟩ := line_names (lw a I * lw b k) (lw (V / B64 ^ I) k) (cMul (V / B64 ^ I) (lw a I) b k) hp hcm
          rw [← r8, ← HNEW.out] at hlm
          rw [← r9] at hms
          rw [hms] at hms2
          have hmul := fun wx => mul64_any (lw a I) (lw b k) hx (lw_lt b k) wx
          rw [r1, r2] at hmul
          have e2 := fun wx => add64_run0 lo (cMul (V / B64 ^ I) (lw a I) b k) lo2 c1 r3 r4 wx
          have e3 := fun wx => add64_run0 (lw (V / B64 ^ I) k) lo2 t2 c2 r6 r7 wx
          have ca := (stk.at 0 rfl).cell (cw_get 4 a I hlt)
          have cb := (stk.at 1 rfl).cell (cw_get 4 b k hltk)
          obtain ⟨v3, c3, f3⟩ := (stk.at 3 rfl).ready (i := I + k) (by rw [cw_len]; omega)
          have c1' : wr.cell? ⟨g5, I + k, none⟩ = some (.int .u64 (lw (V / B64 ^ I) k : Nat)) := by
            have h := (stk.at 3 rfl).cell (cw_get 8 (mix (a % B64 ^ (I + 1) * b) V (I + k)) (I + k) (by omega)); rwa [lw_mix, if_neg (Nat.lt_irrefl _), HWORD.out] at h
          clear c3 hp r1 r2 r3 r4 r6 r7 r8 r9
          have HMUL := Lib.hid hmul; clear hmul
          have HMS := Lib.hid hms; clear hms
          have HLM := Lib.hid hlm; clear hlm
          go_wp2_with fail
          go_quiet ((go_at_call 63; refine Calls.quiet_of_same ((HMUL.out _).mono fun _ _ h => ⟨h.1, h.2.symm⟩)))
          go_wp2_with fail
          go_roundw
          case rel =>
            have h1 := (stk.drewN nq).set 3 rfl (I + k) (.int .u64 (lw (a % B64 ^ (I + 1) * b) (I + k) : Nat))
            rw [cw_set _ _ _ _ (by omega), HLM.out] at h1
            exact ⟨k + 1, by omega, by go_num, by rw [HMS.out]; go_num, h1⟩
          case measure => simp [intOf]; omega
        · have hge : ¬ ((k : Int) < 4) := by omega
          have hk4 : k = 4 := by omega
          have HK := Lib.hid hk4; clear hk4
          obtain ⟨v3, c3, f3⟩ := (stk.at 3 rfl).ready (i := I + 4) (by rw [cw_len]; omega)
          go_wp2
          go_roundw
          case rel =>
            have h1 := stk.set 3 rfl (I + 4) (.int .u64 (cMul (V / B64 ^ I) (lw a I) b k : Nat))
            have h2 : (cw 8 (mix (a % B64 ^ (I + 1) * b) V (I + k))).set (I + 4) (.int .u64 (cMul (V / B64 ^ I) (lw a I) b k : Nat)) = cw 8 (a % B64 ^ (I + 1) * b) := by
              rw [HK.out, ← HTOP.out, cw_set _ _ _ _ (by omega), HALL.out]
            rw [h2] at h1
            exact ⟨I + 1, by omega, by go_num, h1⟩
          case measure => simp [intOf]; omega
    · have hge : ¬ ((I : Int) < 4) := by omega
      have hk4 : I = 4 := by omega
      have HK := Lib.hid hk4; clear hk4
      go_wp2_with (with_reducible refine wl_stop (o := ⟨some 60, _, _, _, _, _⟩) ?_)
      refine wl_loadS st 3 rfl rfl rfl Try.underlying74 rfl (by rw [cw_len]; kernel_rfl) ?_
      go_wp2_with (with_reducible refine wl_stop (o := ⟨none, _, _, _, _, _⟩) ?_)
      refine wl_storeS st 2 rfl rfl rfl rfl rfl (by simp only [cw_len]) (by rw [cw_len]; kernel_rfl) (cw_one _ _) ?_
      intro w5 st5
      clear st
      have hd5 := st5.at 2 rfl
      rw [HK.out, Nat.mod_eq_of_lt HA.out] at hd5
      have hf5 := st5.fr
      clear st5
      go_wp2
      exact bodyPost_ret (results_arr rfl rfl hd5 Try.underlying74 (by rw [cw_len]; kernel_rfl)) rfl ⟨rfl, hf5⟩
end Go.Proofs.Ytmegaegedlbckaa

/- A region that draws its order, under a condition S on the world that holds till the last operations begin: the head (reads, calls) in an order of the prover's choice, behind it the tail (a store, as a rule) in the text's order. -/
namespace Go.Mv
open Go.RowKit
section
variable {P : Program} {ops : Array Oper} {md : Region.Mode} {Q : Exit → Act → World → Prop} {S : World → Prop}

def wpAnyT (P : Program) (md : Region.Mode) (ops : Array Oper) (Q : Exit → Act → World → Prop) (S : World → Prop) (n g : Nat) (tl : List Oper) : Nat → Array Bool → Act → World → Prop
  | 0, listed, a, w => Region.seqB md ops g n listed = true ∧ wpList P ops Q tl a w
  | f + 1, listed, a, w =>
    Region.ready md ops listed ≠ [] ∧ ∀ i ∈ Region.ready md ops listed, i < n ∧ wpOp P ops Q i (fun a' w' => S w' ∧ wpAnyT P md ops Q S n g tl f (listed.setIfInBounds i true) a' w') a w

theorem wpAny_of_T {n : Nat} {tl : List Oper} (hl : ∀ j, tl[j]? = ops[n + j]?) : ∀ (f : Nat) (listed : Array Bool) (a : Act) (w : World), wpAnyT P md ops Q S n tl.length tl f listed a w → wpAny P md ops Q (f + tl.length) listed a w
  | 0, listed, a, w, h => by rw [Nat.zero_add]; exact wpAny_of_seq tl n listed a w hl h.1 h.2
  | f + 1, listed, a, w, h => by
    rw [show f + 1 + tl.length = (f + tl.length) + 1 by omega]
    exact ⟨fun h0 => absurd h0 h.1, fun i hi => wpOp_mono (fun a' w' h' => wpAny_of_T hl f _ a' w' h'.2) (h.2 i hi).2⟩

theorem wpAnyT_first {n g i : Nat} {oi : Oper} {v : Value} {tl : List Oper} (hi : ops[i]? = some oi) (hsel : ∀ (j : Nat) (o : Oper) cs b, ops[j]? = some o → o.op ≠ .select cs b)
    (hQ : ∀ c a w, Q (.panic c) (a.put oi.dst v) w → Q (.panic c) a w)
    (hs : Region.sinkB md ops n = true) (hc : Region.chainB md ops n = true) (hn : n < ops.size) (hin : i < n) :
    ∀ (f : Nat) (listed : Array Bool) (a : Act) (w : World), HeadInv md ops n listed →
      (∀ j oj, ops[j]? = some oj → j ≠ i → listed.getD j true = false → (∀ e ∈ oj.after, Region.binds md e = true → e.on ≠ i) → oi.apart ops oj = true) →
      i ∈ Region.ready md ops listed → YieldsIf P ops S oi v a → S w →
      wpAnyT P md ops Q S n g tl f (listed.setIfInBounds i true) (a.put oi.dst v) w → wpAnyT P md ops Q S n g tl (f + 1) listed a w := by
  intro f
  induction f with
  | zero =>
    intro listed a w inv _ hr hy hS H
    have hun := (mem_ready.1 hr).1
    refine ⟨fun h => (by rw [h] at hr; cases hr), fun j hj => ?_⟩
    have hjn : j < n := by
      rcases Nat.lt_or_ge j n with h | h
      · exact h
      · exact absurd hj (tail_waits hs hc hn inv _ i rfl hin hun j h)
    refine ⟨hjn, ?_⟩
    by_cases hji : j = i
    · subst hji; exact hy.wpOp hi hS ⟨hS, H⟩
    · have := seqB_ready H.1 j (ready_mono hj hji)
      omega
  | succ f ih =>
    intro listed a w inv hfree hr hy hS H
    have hun := (mem_ready.1 hr).1
    refine ⟨fun h => (by rw [h] at hr; cases hr), fun j hj => ?_⟩
    have hjn : j < n := by
      rcases Nat.lt_or_ge j n with h | h
      · exact h
      · exact absurd hj (tail_waits hs hc hn inv _ i rfl hin hun j h)
    refine ⟨hjn, ?_⟩
    by_cases hji : j = i
    · subst hji; exact hy.wpOp hi hS ⟨hS, H⟩
    · have h1 := (H.2 j (ready_mono hj hji)).2
      obtain ⟨hjun, oj, hoj, hall⟩ := mem_ready.1 hj
      have hnot : ∀ e ∈ oj.after, Region.binds md e = true → e.on ≠ i := fun e he hb heq => by
        have h1 := hall e he hb
        rw [heq, getD_both hun] at h1
        cases h1
      have h2 := wpOp_putIf hoj (hfree j oj hoj hji hjun hnot) (fun cs b => hsel i oi cs b hi) (fun cs b => hsel j oj cs b hoj) hQ hy h1
      have hfree' : ∀ k ok, ops[k]? = some ok → k ≠ i → (listed.setIfInBounds j true).getD k true = false →
          (∀ e ∈ ok.after, Region.binds md e = true → e.on ≠ i) → oi.apart ops ok = true := fun k ok hk hki hun hno => by
        refine hfree k ok hk hki ?_ hno
        by_cases hjk : j = k
        · subst hjk; exact hjun
        · rw [getD_set_ne true hjk] at hun; exact hun
      refine wpOp_mono (fun a' w' h3 => ⟨h3.2.1, ih (listed.setIfInBounds j true) a' w' (inv.set hj hjn) hfree' (ready_mono hr (Ne.symm hji)) h3.1 h3.2.1 ?_⟩) h2
      rw [Array.setIfInBounds_comm _ _ hji]
      exact h3.2.2

/-- the head, in the order s (true: it only yields a value; false: it is carried out), then the tail -/
def wpSeq (P : Program) (ops : Array Oper) (Q : Exit → Act → World → Prop) (S : World → Prop) (tl : List Oper) : List (Nat × Bool) → Act → World → Prop
  | [], a, w => wpList P ops Q tl a w
  | (i, true) :: r, a, w => ∃ o v, ops[i]? = some o ∧ YieldsIf P ops S o v a ∧ wpSeq P ops Q S tl r (a.put o.dst v) w
  | (i, false) :: r, a, w => ∃ o, ops[i]? = some o ∧ o.guard = none ∧ o.wp P a w (fun a' w' => S w' ∧ wpSeq P ops Q S tl r a' w') Q

/-- is the order s one that serves? -/
def seqOk (md : Region.Mode) (ops : Array Oper) (n g : Nat) : List (Nat × Bool) → Array Bool → Bool
  | [], listed => Region.seqB md ops g n listed
  | (i, true) :: r, listed => decide (i < n) && (Region.ready md ops listed).contains i && Region.free md ops listed i && seqOk md ops n g r (listed.setIfInBounds i true)
  | (i, false) :: r, listed => decide (i < n) && decide (Region.ready md ops listed = [i]) && seqOk md ops n g r (listed.setIfInBounds i true)

theorem wpAnyT_of_seq {n g : Nat} {tl : List Oper} (hsel : Region.noSelect ops = true) (hs : Region.sinkB md ops n = true) (hc : Region.chainB md ops n = true) (hn : n < ops.size)
    (hQ : ∀ c (d : Option Tmp) v a w, Q (.panic c) (Act.put a d v) w → Q (.panic c) a w) :
    ∀ (s : List (Nat × Bool)) (listed : Array Bool) (a : Act) (w : World), HeadInv md ops n listed → seqOk md ops n g s listed = true → S w → wpSeq P ops Q S tl s a w → wpAnyT P md ops Q S n g tl s.length listed a w
  | [], listed, a, w, _, hB, _, h => ⟨hB, h⟩
  | (i, true) :: r, listed, a, w, inv, hB, hS, h => by
    obtain ⟨o, v, ho, hy, hK⟩ := h
    simp only [seqOk, Bool.and_eq_true, decide_eq_true_eq] at hB
    obtain ⟨⟨⟨hin, hr⟩, hf⟩, hB'⟩ := hB
    have hr' : i ∈ Region.ready md ops listed := by simpa using hr
    exact wpAnyT_first ho (Region.noSelect_spec hsel) (fun c a w => hQ c o.dst v a w) hs hc hn hin r.length listed a w inv (Region.free_spec ho hf) hr' hy hS
      (wpAnyT_of_seq hsel hs hc hn hQ r _ _ w (inv.set hr' hin) hB' hS hK)
  | (i, false) :: r, listed, a, w, inv, hB, hS, h => by
    obtain ⟨o, ho, hg, hK⟩ := h
    simp only [seqOk, Bool.and_eq_true, decide_eq_true_eq] at hB
    obtain ⟨⟨hin, hr⟩, hB'⟩ := hB
    have hr' : i ∈ Region.ready md ops listed := by rw [hr]; simp
    refine ⟨by rw [hr]; simp, fun j hj => ?_⟩
    rw [hr] at hj
    have hj' : j = i := by simpa using hj
    subst hj'
    refine ⟨hin, ?_⟩
    unfold wpOp
    simp only [ho]
    rw [if_pos (by simp [Region.wanted, hg])]
    exact .inl (Oper.wp_mono (fun a' w' h' => ⟨h'.1, wpAnyT_of_seq hsel hs hc hn hQ r _ a' w' (inv.set hr' hin) hB' h'.1 h'.2⟩) hK)

def tailOk (ops : Array Oper) (n : Nat) (s : List (Nat × Bool)) : Bool :=
  Region.noSelect ops && decide (n < ops.size) && decide (s.length = n) && Region.sinkB .any ops n && Region.chainB .any ops n && seqOk .any ops n (ops.size - n) s (Array.replicate ops.size false)

/-- THE BEGINNING -/
theorem wp_region_seq {id : Nat} {a : Act} {w : World} {l : List Oper} (S : World → Prop) (n : Nat) (s : List (Nat × Bool)) (hm : P.follows .mixedOrders = true) (hB : tailOk l.toArray n s = true)
    (hS : S w.drew) (hQ : ∀ c (d : Option Tmp) v a w, Q (.panic c) (Act.put a d v) w → Q (.panic c) a w)
    (h : wpSeq P l.toArray Q S (l.drop n) s a w.drew) : (Code.region id l.toArray true).wp P Q a w := by
  simp only [tailOk, Bool.and_eq_true, decide_eq_true_eq] at hB
  obtain ⟨⟨⟨⟨⟨hsel, hn⟩, hlen⟩, hs⟩, hc⟩, hseq⟩ := hB
  have inv0 : HeadInv .any l.toArray n (Array.replicate l.toArray.size false) :=
    ⟨by simp, fun j oj _ hl => (by rw [getD_replicate_false] at hl; cases hl), fun t _ ht => getD_in (by simpa using ht) (getD_replicate_false _ _)⟩
  have hdl : (l.drop n).length = l.toArray.size - n := by simp
  rw [← hdl] at hseq
  have H := wpAnyT_of_seq (md := .any) (g := (l.drop n).length) (tl := l.drop n) hsel hs hc hn hQ s _ a w.drew inv0 hseq hS h
  refine wp_region_any hm ?_
  have := wpAny_of_T (md := .any) (n := n) (tl := l.drop n) (fun j => by simp [List.getElem?_drop]) _ _ _ _ H
  rw [hlen, hdl, show n + (l.toArray.size - n) = l.toArray.size by omega] at this
  exact this

/- the steps -/
variable {l tl : List Oper} {i : Nat} {r : List (Nat × Bool)} {a : Act} {w : World} {o : Oper}
theorem seq_end (h : wpList P ops Q tl a w) : wpSeq P ops Q S tl [] a w := h
theorem seq_pure (ho : l[i]? = some o) (hg : o.guard = none) {v : Value} (hv : ∀ wx, S wx → (execOp a.eval o).run P wx = .ok (.value v) wx) (h : wpSeq P l.toArray Q S tl r (a.put o.dst v) w) : wpSeq P l.toArray Q S tl ((i, true) :: r) a w :=
  ⟨o, v, by simpa using ho, .inl ⟨by simp [Region.wanted, hg], hv⟩, h⟩
theorem seq_run (ho : l[i]? = some o) (hg : o.guard = none) (h : o.wp P a w (fun a' w' => S w' ∧ wpSeq P l.toArray Q S tl r a' w') Q) : wpSeq P l.toArray Q S tl ((i, false) :: r) a w :=
  ⟨o, by simpa using ho, hg, h⟩
/-- a whole array is read -/
theorem seq_arr (ho : l[i]? = some o) (hg : o.guard = none) {ty : TypeId} {x : Operand} (hop : o.op = .load ty x) {g p : Nat} (hx : a.eval x = .pointer (some ⟨g, p, none⟩)) (cs : List Value) (hS : ∀ wx, S wx → wx.rangeAt g p cs)
    {d : TypeDesc} (hu : P.underlying ty = some d) (hd : d.isRow = true) (hi : (P.info? ty).map (·.size) = some cs.length) (h : wpSeq P l.toArray Q S tl r (a.put o.dst (.agg cs.toArray)) w) : wpSeq P l.toArray Q S tl ((i, true) :: r) a w :=
  ⟨o, _, by simpa using ho, yieldsIf_load_mid (by simp [Region.wanted, hg]) ty x hop g p hx cs d hS hu hd hi, h⟩
end

theorem St.rangeL {S : Nat → Prop} {w0 w : World} {bl : List (Nat × List Value × TypeId)} (h : St S w0 w bl) (i : Nat) {g : Nat} {L : List Value} {T : TypeId} (hb : bl[i]? = some (g, L, T)) (o : Nat) (cs : List Value) (hcs : (L.drop o).take cs.length = cs) : w.rangeAt g o cs := (h.at i hb).range o cs hcs
end Go.Mv
