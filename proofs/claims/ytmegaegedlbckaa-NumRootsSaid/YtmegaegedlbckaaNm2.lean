/- Words of 64 bits in memory, as natural numbers; math/bits.Add64, Sub64, Mul64. -/
import Derived.Test.YtmegaegedlbckaaSt
import Derived.Test.YtmegaegedlbckaaNm1
import Derived.Shelf.Spec.BitsCarry
import Derived.Shelf.Bits.Mul64
import Derived.Test.YtmegaegedlbckaaProg
namespace Go.Mv
open Go.RowKit Mvp
variable {P : Program}

/-- words, as cells -/
def us (l : List Nat) : List Value := l.map fun (x : Nat) => .int .u64 (x : Int)
theorem length_us (l : List Nat) : (us l).length = l.length := by simp [us]
theorem us_get (l : List Nat) (i x : Nat) (h : l[i]? = some x) : (us l)[i]? = some (.int .u64 (x : Int)) := by simp [us, h]
theorem us_set (l : List Nat) (i : Nat) (x : Nat) : (us l).set i (.int .u64 (x : Int)) = us (l.set i x) := by simp [us]
theorem us_one (l : List Nat) : ∀ v ∈ us l, v.oneCell' = true := by intro v hv; simp [us] at hv; obtain ⟨x, _, rfl⟩ := hv; rfl
theorem us_append (l m : List Nat) : us (l ++ m) = us l ++ us m := by simp [us]
/-- n words -/
def cw (n a : Nat) : List Value := us (limbs n a)
theorem cw_len (n a : Nat) : (cw n a).length = n := by rw [cw, length_us, limbs_length]
theorem cw_get (n a i : Nat) (h : i < n) : (cw n a)[i]? = some (.int .u64 (lw a i : Nat)) := us_get _ _ _ (limbs_get n a i h)
theorem cw_set (n A B k : Nat) (h : k < n) : (cw n (mix A B k)).set k (.int .u64 (lw A k : Nat)) = cw n (mix A B (k + 1)) := by
  rw [cw, us_set, limbs_set n A B k h, cw]
theorem cw_one (n a : Nat) : ∀ v ∈ cw n a, v.oneCell' = true := us_one _
theorem cw_inj {n a b : Nat} (ha : a < B64 ^ n) (hb : b < B64 ^ n) (h : cw n a = cw n b) : a = b := by
  refine limbs_inj ha hb ?_
  refine List.map_inj_right (f := fun (x : Nat) => Value.int .u64 (x : Int)) ?_ |>.1 h
  intro x y hxy
  injection hxy with _ h2
  exact Int.ofNat.inj h2
theorem cw_mod (n a : Nat) : cw n (a % B64 ^ n) = cw n a := by rw [cw, limbs_mod, cw]
/-- four words by value -/
def i4 (a : Nat) : Value := .agg (cw 4 a).toArray
/-- eight words by value -/
def i8 (a : Nat) : Value := .agg (cw 8 a).toArray
theorem cw_ext {n a b : Nat} (h : ∀ i, i < n → lw a i = lw b i) : cw n a = cw n b := by rw [cw, limbs_ext h, cw]
theorem mix_full (A B n : Nat) : cw n (mix A B n) = cw n A := cw_ext fun i hi => by rw [lw_mix, if_pos hi]
theorem i4_cells (a : Nat) : (i4 a).cells.toList = cw 4 a := rfl
theorem cw_zero (n : Nat) : cw n 0 = List.replicate n (.int .u64 0) := by
  apply List.ext_getElem?
  intro i
  rcases Nat.lt_or_ge i n with h | h
  · rw [cw_get _ _ _ h, List.getElem?_replicate, if_pos h]; simp [lw]
  · rw [List.getElem?_eq_none (by rw [cw_len]; exact h), List.getElem?_replicate, if_neg (by omega)]

theorem run_index_cw {t e : TypeId} {m : Nat} (ht : P.underlying t = some (.array m e)) (he : P.underlying e = some (.int .u64)) (hi0 : (P.info? e).map (·.size) = some 1) (a k : Nat) (hk : k < m) (ki : IntKind) (w : World) :
    (Instr.index t (.agg (cw m a).toArray) (.int ki (k : Int))).run P w = .ok (.int .u64 (lw a k : Nat)) w := by
  obtain ⟨j, hj, hsz⟩ : ∃ j, P.info? e = some j ∧ j.size = 1 := by simpa using hi0
  have h1 : (0 : Int) ≤ (k : Int) ∧ (k : Int) < (m : Int) := by omega
  have hv := cw_get m a k hk
  simp [Instr.index, asIntOf, run_underlying ht, sizeOf, typeInfo, hj, hsz, part, isAgg, run_underlying he, h1, hv]
  intro h; omega
/-- the results are an array in memory and a slot -/
theorem results_arr2 {fn : Func} {p : Tmp} {ty : TypeId} {s : Tmp} (h : fn.results = #[.cell p ty, .tmp s]) {tmps : Array Value} {w : World} {g : Nat} {L : List Value} {T : TypeId}
    (hp : tmps.getD p undef = .pointer (some ⟨g, 0, none⟩)) (hg : Has w g L T) {n : Nat} {e : TypeId} (hu : P.underlying ty = some (.array n e)) (hi : (P.info? ty).map (·.size) = some L.length) {v : Value} (hv : tmps.getD s undef = v) :
    (results fn tmps).run P w = .ok (.tuple #[.agg L.toArray, v]) w := by
  obtain ⟨lo, hi', hh, -⟩ := hg
  have hp' : tmps[p]?.getD undef = .pointer (some ⟨g, 0, none⟩) := by simpa using hp
  have hv' : tmps[s]?.getD undef = v := by simpa using hv
  simp [results, h, hp', hv', asAddr, run_loadVar_row w g T ty L.toArray _ _ hh hu rfl (by simpa using hi)]
theorem i4_words (a : Nat) : i4 a = .agg #[.int .u64 (lw a 0 : Nat), .int .u64 (lw a 1 : Nat), .int .u64 (lw a 2 : Nat), .int .u64 (lw a 3 : Nat)] := rfl
theorem i4_high (V : Nat) : i4 (V / B64 ^ 4) = .agg #[.int .u64 (lw V 4 : Nat), .int .u64 (lw V 5 : Nat), .int .u64 (lw V 6 : Nat), .int .u64 (lw V 7 : Nat)] := by
  rw [i4_words, lw_div, lw_div, lw_div, lw_div]
theorem i4_mod (V : Nat) : i4 (V % B64 ^ 4) = i4 V := by rw [i4, cw_mod, ← i4]
theorem i8_words (a : Nat) : i8 a = .agg #[.int .u64 (lw a 0 : Nat), .int .u64 (lw a 1 : Nat), .int .u64 (lw a 2 : Nat), .int .u64 (lw a 3 : Nat), .int .u64 (lw a 4 : Nat), .int .u64 (lw a 5 : Nat), .int .u64 (lw a 6 : Nat), .int .u64 (lw a 7 : Nat)] := rfl
theorem i8_low (V : Nat) : i8 (V % B64 ^ 4) = .agg #[.int .u64 (lw V 0 : Nat), .int .u64 (lw V 1 : Nat), .int .u64 (lw V 2 : Nat), .int .u64 (lw V 3 : Nat), .int .u64 0, .int .u64 0, .int .u64 0, .int .u64 0] := by
  have ht := fun i (hi : 4 ≤ i) => lw_top (V % B64 ^ 4) 4 i (Nat.mod_lt _ (b64_pos 4)) hi
  rw [i8_words, lw_mod _ _ _ (by decide), lw_mod _ _ _ (by decide), lw_mod _ _ _ (by decide), lw_mod _ _ _ (by decide), ht 4 (by decide), ht 5 (by decide), ht 6 (by decide), ht 7 (by decide)]
  rfl
/-- the number that lies in memory -/
def valFrom (w : World) (g : Nat) : Nat → Nat → Nat
  | _, 0 => 0
  | i, n + 1 => (intOf ((w.cell? ⟨g, i, none⟩).getD undef)).toNat + B64 * valFrom w g (i + 1) n
theorem valFrom_cw {w : World} {g V m : Nat} {T : TypeId} (h : Has w g (cw m V) T) : ∀ (n i : Nat), i + n ≤ m → valFrom w g i n = V / B64 ^ i % B64 ^ n
  | 0, i, _ => by simp [valFrom, Nat.mod_one]
  | n + 1, i, hi => by
    rw [valFrom, valFrom_cw h n (i + 1) (by omega), h.cell (cw_get m V i (by omega))]
    show lw V i + B64 * _ = _
    have e1 : B64 ^ (n + 1) = B64 * B64 ^ n := by rw [Nat.pow_succ, Nat.mul_comm]
    rw [e1, Nat.mod_mul, Nat.pow_succ, ← Nat.div_div_eq_div_mul]
    rfl
theorem valFrom_all {w : World} {g V m : Nat} {T : TypeId} (h : Has w g (cw m V) T) (hV : V < B64 ^ m) : valFrom w g 0 m = V := by
  rw [valFrom_cw h m 0 (by omega), Nat.pow_zero, Nat.div_one, Nat.mod_eq_of_lt hV]
/-- the equation of a load, the one of a store -/
theorem St.loadEq {S : Nat → Prop} {w0 w : World} {bl : List (Nat × List Value × TypeId)} (h : St S w0 w bl) (i : Nat) {g : Nat} {L : List Value} {T : TypeId} (hb : bl[i]? = some (g, L, T)) (o : Nat) (cs : List Value) (hcs : (L.drop o).take cs.length = cs) {ty : TypeId} {n : Nat} {e : TypeId} (hu : P.underlying ty = some (.array n e)) (hi : (P.info? ty).map (·.size) = some cs.length) :
    (Instr.loadAt ty (.pointer (some ⟨g, o, none⟩))).run P w = .ok (.agg cs.toArray) w :=
  run_loadAt_mid w g o ty cs _ ((h.at i hb).range o cs hcs) hu rfl hi
theorem St.storeEq {S : Nat → Prop} {w0 w : World} {bl : List (Nat × List Value × TypeId)} (h : St S w0 w bl) (i : Nat) {g : Nat} {L : List Value} {T : TypeId} (hb : bl[i]? = some (g, L, T)) (cs : List Value) (hn : cs.length = L.length) {ty : TypeId} (hi : (P.info? ty).map (·.size) = some cs.length) (h1 : ∀ v ∈ cs, v.oneCell' = true) :
    (Instr.storeAt ty (.pointer (some ⟨g, 0, none⟩)) (.agg cs.toArray)).run P w = .ok () (w.setCells g 0 cs) := by
  have := run_storeAt_mid (P := P) w g 0 ty cs.toArray (by simpa using (h.at i hb).there 0 cs.length (by omega)) (by simpa using hi) (all_oneCell_toArray h1)
  simpa using this
theorem St.setCells {S : Nat → Prop} {w0 w : World} {bl : List (Nat × List Value × TypeId)} (h : St S w0 w bl) (i : Nat) {g : Nat} {L : List Value} {T : TypeId} (hb : bl[i]? = some (g, L, T)) (cs : List Value) (hn : cs.length = L.length) : St S w0 (w.setCells g 0 cs) (bl.set i (g, cs, T)) := by
  obtain ⟨k1, k2, _⟩ := Has.setCells cs 0 L w (h.at i hb) (by omega)
  rw [splice_whole _ _ hn] at k1
  exact h.put i hb k2 k1
theorem has_new4 (w : World) (a : Nat) (T : TypeId) : Has (w.alloc (.cells #[.int .u64 (lw a 0 : Nat), .int .u64 (lw a 1 : Nat), .int .u64 (lw a 2 : Nat), .int .u64 (lw a 3 : Nat)] T)) w.heap.size (cw 4 a) T := Has.new w _ T
theorem set8 (V : Nat) (x0 x1 x2 x3 x4 x5 x6 x7 : Value) : ((((((((cw 8 V).set 0 x0).set 1 x1).set 2 x2).set 3 x3).set 4 x4).set 5 x5).set 6 x6).set 7 x7 = [x0, x1, x2, x3, x4, x5, x6, x7] := rfl
theorem set4 (V : Nat) (x0 x1 x2 x3 : Value) : ((((cw 4 V).set 0 x0).set 1 x1).set 2 x2).set 3 x3 = [x0, x1, x2, x3] := rfl
theorem cw8_words (a : Nat) : [.int .u64 (lw a 0 : Nat), .int .u64 (lw a 1 : Nat), .int .u64 (lw a 2 : Nat), .int .u64 (lw a 3 : Nat), .int .u64 (lw a 4 : Nat), .int .u64 (lw a 5 : Nat), .int .u64 (lw a 6 : Nat), .int .u64 (lw a 7 : Nat)] = cw 8 a := rfl
theorem cw4_words (a : Nat) : [.int .u64 (lw a 0 : Nat), .int .u64 (lw a 1 : Nat), .int .u64 (lw a 2 : Nat), .int .u64 (lw a 3 : Nat)] = cw 4 a := rfl
theorem cw_getL (m n a b i : Nat) (h : i < m) : (cw m a ++ cw n b)[i]? = some (.int .u64 (lw a i : Nat)) := by
  rw [List.getElem?_append_left (by rw [cw_len]; exact h), cw_get _ _ _ h]
theorem cw_getR (m n a b i : Nat) (h : i < n) : (cw m a ++ cw n b)[m + i]? = some (.int .u64 (lw b i : Nat)) := by
  rw [List.getElem?_append_right (by rw [cw_len]; omega), cw_len, Nat.add_sub_cancel_left, cw_get _ _ _ h]
/-- eight cells of a block are written, one behind the other -/
theorem St.set8 {S : Nat → Prop} {w0 w : World} {bl : List (Nat × List Value × TypeId)} (h : St S w0 w bl) (i : Nat) {g : Nat} {V U : Nat} {T : TypeId} (hi : bl[i]? = some (g, cw 8 V, T)) :
    St S w0 ((((((((w.setCell ⟨g, 0, none⟩ (.int .u64 (lw U 0 : Nat))).setCell ⟨g, 1, none⟩ (.int .u64 (lw U 1 : Nat))).setCell ⟨g, 2, none⟩ (.int .u64 (lw U 2 : Nat))).setCell ⟨g, 3, none⟩ (.int .u64 (lw U 3 : Nat))).setCell ⟨g, 4, none⟩ (.int .u64 (lw U 4 : Nat))).setCell ⟨g, 5, none⟩ (.int .u64 (lw U 5 : Nat))).setCell ⟨g, 6, none⟩ (.int .u64 (lw U 6 : Nat))).setCell ⟨g, 7, none⟩ (.int .u64 (lw U 7 : Nat))) (bl.set i (g, cw 8 U, T)) := by
  have h1 := h.setCells i hi (cw 8 U) (by rw [cw_len, cw_len])
  rw [← cw8_words] at h1
  simp only [World.setCells, Nat.zero_add, Nat.reduceAdd] at h1
  exact h1
theorem neg_words (p a : Nat) (h : a ≤ p) : i4 (p + B64 ^ 4 - a) = i4 (p - a) := by
  rw [← i4_mod, show p + B64 ^ 4 - a = (p - a) + B64 ^ 4 by omega, Nat.add_mod_right, i4_mod]
theorem small_words (n : Nat) (h : n < 18446744073709551616) : .agg #[.int .u64 (n : Int), .int .u64 0, .int .u64 0, .int .u64 0] = i4 n := by
  have h0 : lw n 0 = n := by simp only [lw, Nat.pow_zero, Nat.div_one]; exact Nat.mod_eq_of_lt h
  have ht := fun i (hi : 1 ≤ i) => lw_top n 1 i (by rw [Nat.pow_one]; exact h) hi
  rw [i4_words, h0, ht 1 (by decide), ht 2 (by decide), ht 3 (by decide)]
  rfl
theorem small8_words (n : Nat) (h : n < 18446744073709551616) : .agg #[.int .u64 (n : Int), .int .u64 0, .int .u64 0, .int .u64 0, .int .u64 0, .int .u64 0, .int .u64 0, .int .u64 0] = i8 n := by
  have h0 : lw n 0 = n := by simp only [lw, Nat.pow_zero, Nat.div_one]; exact Nat.mod_eq_of_lt h
  have ht := fun i (hi : 1 ≤ i) => lw_top n 1 i (by rw [Nat.pow_one]; exact h) hi
  rw [i8_words, h0, ht 1 (by decide), ht 2 (by decide), ht 3 (by decide), ht 4 (by decide), ht 5 (by decide), ht 6 (by decide), ht 7 (by decide)]
  rfl
theorem cw_left (m n a b : Nat) : ((cw m a ++ cw n b).drop 0).take (cw m a).length = cw m a := by simp
theorem cw_right (m n a b : Nat) : ((cw m a ++ cw n b).drop m).take (cw n b).length = cw n b := by
  rw [List.drop_append, cw_len, cw_len, Nat.sub_self, List.drop_of_length_le (by rw [cw_len]; exact Nat.le_refl _), List.nil_append, List.drop_zero, List.take_of_length_le (by rw [cw_len]; exact Nat.le_refl _)]
theorem St.loadV {S : Nat → Prop} {w0 w : World} {bl : List (Nat × List Value × TypeId)} (h : St S w0 w bl) (i : Nat) {g : Nat} {L : List Value} {T : TypeId} (hb : bl[i]? = some (g, L, T)) (o : Nat) (cs : List Value) (hcs : (L.drop o).take cs.length = cs) {ty : TypeId} {n : Nat} {e : TypeId} (hu : P.underlying ty = some (.array n e)) (hi : (P.info? ty).map (·.size) = some cs.length) :
    (loadVar ty ⟨g, o, none⟩).run P w = .ok (.agg cs.toArray) w :=
  run_loadVar_mid w g o ty cs _ ((h.at i hb).range o cs hcs) hu rfl hi
theorem St.storeV {S : Nat → Prop} {w0 w : World} {bl : List (Nat × List Value × TypeId)} (h : St S w0 w bl) (i : Nat) {g : Nat} {L : List Value} {T : TypeId} (hb : bl[i]? = some (g, L, T)) (cs : List Value) (hn : cs.length = L.length) {ty : TypeId} (hi : (P.info? ty).map (·.size) = some cs.length) (h1 : ∀ v ∈ cs, v.oneCell' = true) :
    (storeVar ty ⟨g, 0, none⟩ (.agg cs.toArray)).run P w = .ok () (w.setCells g 0 cs) := by
  have := run_storeVar_mid (P := P) w g 0 ty cs.toArray (by simpa using (h.at i hb).there 0 cs.length (by omega)) (by simpa using hi) (all_oneCell_toArray h1)
  simpa using this
end Go.Mv
namespace Go.Proofs.Ytmegaegedlbckaa
open Go.RowKit Go.Mv Mvp
def Try.lays264_ren : Go.Shelf.Ren := ⟨fun | 264 => 63 | n => n, fun | 46 => 112 | 53 => 36 | n => n, fun | n => n⟩
theorem Try.lays264 : Go.Proofs.Lays.n264 Try.prog Try.lays264_ren := {
  mixed := by kernel_rfl
  f264 := Try.func63.trans (congrArg some (by kernel_rfl))
  t46 := Try.underlying112
  a46 := Try.isAgg112
  z46 := Try.sizeOf112
  v46 := Try.zeroValue112
  t53 := Try.underlying36
  a53 := Try.isAgg36
  z53 := Try.sizeOf36
  v53 := Try.zeroValue36 }
theorem add64_run (x y c : Nat) (hc : c ≤ 1) (w : World) : (callFunc 64 #[.int .u64 x, .int .u64 y, .int .u64 c]).run Try.prog w =
      .ok (.value (.tuple #[.int .u64 (((x + y + c) % 18446744073709551616 : Nat) : Int), .int .u64 (((x + y + c) / 18446744073709551616 : Nat) : Int)])) w := by
  rw [run_callFunc_extern Try.func64 (by kernel_rfl) (by kernel_rfl) (by kernel_rfl) (e := add64Entry) (by kernel_rfl), run_add64 x y c (by omega) (by omega) (by omega) (by omega)]
  simp only [Result.andThen]
  congr 5 <;> omega
theorem add64_run0 (x y s c : Nat) (h1 : (x + y) % 18446744073709551616 = s) (h2 : (x + y) / 18446744073709551616 = c) (w : World) : (callFunc 64 #[.int .u64 x, .int .u64 y, .int .u64 0]).run Try.prog w =
      .ok (.value (.tuple #[.int .u64 (s : Int), .int .u64 (c : Int)])) w := by
  have h := add64_run x y 0 (by omega) w
  rw [Nat.add_zero, h1, h2] at h
  exact h
theorem sub64_run (x y b : Nat) (hb : b ≤ 1) (w : World) : (callFunc 39 #[.int .u64 x, .int .u64 y, .int .u64 b]).run Try.prog w =
      .ok (.value (.tuple #[.int .u64 (((x + 18446744073709551616 - y - b) % 18446744073709551616 : Nat) : Int), .int .u64 ((if x < y + b then 1 else 0 : Nat) : Int)])) w := by
  rw [run_callFunc_extern Try.func39 (by kernel_rfl) (by kernel_rfl) (by kernel_rfl) (e := sub64Entry) (by kernel_rfl), run_sub64 x y b hb]
  rfl
/-- two results in slots -/
theorem mul64_any (x y : Nat) (hx : x < 18446744073709551616) (hy : y < 18446744073709551616) (w : World) :
    Calls Try.prog 63 #[.int .u64 x, .int .u64 y] w fun e w' => e = .returned (.tuple #[.int .u64 ((x * y / 18446744073709551616 : Nat) : Int), .int .u64 ((x * y % 18446744073709551616 : Nat) : Int)]) ∧ w = w' :=
  (Any.bits_Mul64 Try.lays264 x y hx hy w).mono fun _ _ h => ⟨h.1, h.2.symm⟩
theorem size_u64 : (Try.prog.info? 36).map (·.size) = some 1 := by kernel_rfl
end Go.Proofs.Ytmegaegedlbckaa
