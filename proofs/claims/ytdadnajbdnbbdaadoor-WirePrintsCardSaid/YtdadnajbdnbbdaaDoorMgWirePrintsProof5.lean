/- The law's steps: what is built, plain; items side by side as a list of cells; laws for its pieces; The law's small and built (printed by gen_wp17.py); mintvaultlaw4.WirePrints: the walk of the law; Arguments that were handed in, opened into the words of Mem; Slices and structs that were handed in, of any element type, opened; What a list of steps that came in reads as; the two tables of unicode/utf8 off the row's cell; From a walk that turns nothing (Fr Nob) to what a law's row asks behind the call. -/
import Derived.Test.YtdadnajbdnbbdaaDoorMgWirePrintsProof2
import Derived.Test.YtdadnajbdnbbdaaDoorMgWirePrintsProof1
import Derived.Deep.DeepCutAuto
import Derived.BigQuiet
import Derived.Test.YtdadnajbdnbbdaaDoorMgWirePrintsProof3
import Derived.Test.YtdadnajbdnbbdaaDoorMgWirePrintsProof4
import Derived.SliceStrings
import Derived.SizedLaws
import Derived.OpenShut
import Derived.ProofKit
import Derived.Test.YtdadnajbdnbbdaaDoorRows
import Derived.Lib.LaidU8
import Derived.Carry
namespace Go.Mv
open Go.RowKit
variable {P : Program}
/-- a step: kind, number, data, how many -/
abbrev Nd := Int × Nat × List UInt8 × Int
def ndC (s : Nd) : List Value := [.int .i64 s.1, .int .u64 (s.2.1 : Int), .string (mkS s.2.2.1), .int .i64 s.2.2.2]
def ndsC (l : List Nd) : List Value := l.flatMap ndC
theorem ndsC_row : ∀ (l : List Nd) (j : Nat) (x : Nd), l[j]? = some x → ((ndsC l).drop (j * 4)).take 4 = ndC x
  | [], j, x, h => by simp at h
  | a :: l, 0, x, h => by
    simp only [List.getElem?_cons_zero, Option.some.injEq] at h
    subst h
    rw [Nat.zero_mul, List.drop_zero]
    unfold ndsC
    rw [List.flatMap_cons]
    rfl
  | a :: l, j + 1, x, h => by
    have ih := ndsC_row l j x (by simpa using h)
    unfold ndsC at *
    rw [List.flatMap_cons, show (j + 1) * 4 = 4 + j * 4 by omega, ← List.drop_drop]
    exact ih
/-- how many of the last ones a step takes -/
def aN (N : Int) : Int := if N < 0 then -(N + 1) else N
def mN (N : Int) (len : Nat) : Nat := min (aN N % 9).toNat len
theorem mN_le (N : Int) (len : Nat) : mN N len ≤ len := Nat.min_le_right _ _
theorem mN_8 (N : Int) (len : Nat) : mN N len ≤ 8 := by
  unfold mN
  have : (aN N % 9).toNat ≤ 8 := by omega
  omega
def stepS (S : List It) (x : Nd) : List It := S.take (S.length - mN x.2.2.2 S.length) ++ [It.mk x.1 x.2.1 x.2.2.1 (S.drop (S.length - mN x.2.2.2 S.length))]
def topS (S : List It) : It := S.getLast?.getD (It.mk 0 0 [] [])
mutual
/-- four cells are an item, none of whose parts lies in a block of X -/
def ItX (w : World) (X : Nat → Prop) (v : List Value) : It → Prop
  | .mk k n d l => ∃ da dc la lc, v = [.int .i64 k, .int .u64 (n : Int), .slice da d.length dc, .slice la l.length lc] ∧ (RdC w da d.length dc d ∧ Off X da) ∧ n < 18446744073709551616 ∧ d.length ≤ 1000000 ∧ l.length ≤ 1000 ∧ (l = [] ∨ ∃ lb lo, la = some ⟨lb, lo, none⟩ ∧ ¬ X lb ∧ ItsX w X lb lo l)
def ItsX (w : World) (X : Nat → Prop) (b o : Nat) : List It → Prop
  | [] => True
  | t :: ts => (∃ v, v.length = 4 ∧ At w b o v ∧ ItX w X v t) ∧ ItsX w X b (o + 4) ts
end
mutual
theorem ItX.keep : ∀ (t : It) {w w' : World} {X S : Nat → Prop} {v : List Value}, ItX w X v t → Fr S w w' → (∀ k, S k → X k) → ItX w' X v t
  | .mk k n d l, w, w', X, S, v, h, hf, hs => by
    unfold ItX at h ⊢
    obtain ⟨da, dc, la, lc, h1, ⟨h2, h0⟩, h3, h4, h5, h6⟩ := h
    refine ⟨da, dc, la, lc, h1, ⟨⟨h2.1.keep hf fun y hy e => h0 y hy (hs _ e), h2.2⟩, h0⟩, h3, h4, h5, ?_⟩
    rcases h6 with h6 | ⟨lb, lo, h7, h9, h8⟩
    · exact .inl h6
    · exact .inr ⟨lb, lo, h7, h9, ItsX.keep l h8 h9 hf hs⟩
theorem ItsX.keep : ∀ (ts : List It) {w w' : World} {X S : Nat → Prop} {b o : Nat}, ItsX w X b o ts → ¬ X b → Fr S w w' → (∀ k, S k → X k) → ItsX w' X b o ts
  | [], _, _, _, _, _, _, _, _, _, _ => by unfold ItsX; trivial
  | t :: ts, w, w', X, S, b, o, h, hb, hf, hs => by
    unfold ItsX at h ⊢
    obtain ⟨⟨v, h1, h2, h3⟩, h4⟩ := h
    exact ⟨⟨v, h1, h2.keep hf fun e => hb (hs _ e), ItX.keep t h3 hf hs⟩, ItsX.keep ts h4 hb hf hs⟩
end
theorem ItX.still {t : It} {w w' : World} {X : Nat → Prop} {v : List Value} (h : ItX w X v t) (hf : Fr Nob w w') : ItX w' X v t := ItX.keep t h hf fun _ e => e.elim
mutual
theorem ItX.itv : ∀ (t : It) {w : World} {X : Nat → Prop} {v : List Value}, ItX w X v t → ItV w v t
  | .mk k n d l, w, X, v, h => by
    unfold ItX at h
    unfold ItV
    obtain ⟨da, dc, la, lc, h1, ⟨h2, h0⟩, h3, h4, h5, h6⟩ := h
    refine ⟨da, dc, la, lc, h1, h2, h3, h4, h5, ?_⟩
    rcases h6 with h6 | ⟨lb, lo, h7, h9, h8⟩
    · exact .inl h6
    · exact .inr ⟨lb, lo, h7, ItsX.itv l h8⟩
theorem ItsX.itv : ∀ (ts : List It) {w : World} {X : Nat → Prop} {b o : Nat}, ItsX w X b o ts → ItsM w b o ts
  | [], _, _, _, _, _ => by unfold ItsM; trivial
  | t :: ts, w, X, b, o, h => by
    unfold ItsX at h
    unfold ItsM
    obtain ⟨⟨v, h1, h2, h3⟩, h4⟩ := h
    exact ⟨⟨v, h1, h2, ItX.itv t h3⟩, ItsX.itv ts h4⟩
end
theorem it4_one (x0 x1 : Value) (h0 : x0.oneCell' = true) (h1 : x1.oneCell' = true) (a b : Option Addr) (n m c c' : Nat) : ∀ v ∈ [x0, x1, .slice a n c, .slice b m c'], v.oneCell' = true := by
  intro v hv
  simp only [List.mem_cons, List.not_mem_nil, or_false] at hv
  rcases hv with rfl | rfl | rfl | rfl
  · exact h0
  · exact h1
  · rfl
  · rfl
theorem ItX.one {w : World} {X : Nat → Prop} {v : List Value} {t : It} (h : ItX w X v t) : ∀ u ∈ v, u.oneCell' = true := by
  cases t with
  | mk k n d l =>
    unfold ItX at h
    obtain ⟨da, dc, la, lc, rfl, -⟩ := h
    exact it4_one _ _ rfl rfl _ _ _ _ _ _
/-- cells are items, one behind the other -/
def ItsL (w : World) (X : Nat → Prop) : List Value → List It → Prop
  | L, [] => L = []
  | L, t :: ts => ∃ v L', L = v ++ L' ∧ v.length = 4 ∧ ItX w X v t ∧ ItsL w X L' ts
theorem ItsL.len {w : World} {X : Nat → Prop} : ∀ {S : List It} {L : List Value}, ItsL w X L S → L.length = 4 * S.length
  | [], L, h => by unfold ItsL at h; rw [h]; rfl
  | t :: ts, L, h => by
    unfold ItsL at h
    obtain ⟨v, L', rfl, h1, -, h2⟩ := h
    have := h2.len
    rw [List.length_append, List.length_cons]; omega
theorem ItsL.still {w w' : World} {X : Nat → Prop} : ∀ {S : List It} {L : List Value}, ItsL w X L S → Fr Nob w w' → ItsL w' X L S
  | [], L, h, _ => by unfold ItsL at h ⊢; exact h
  | t :: ts, L, h, hf => by
    unfold ItsL at h ⊢
    obtain ⟨v, L', e, h1, h2, h3⟩ := h
    exact ⟨v, L', e, h1, h2.still hf, h3.still hf⟩
theorem ItsL.mem {w : World} {X : Nat → Prop} {b : Nat} : ∀ {S : List It} {L : List Value} {o : Nat}, ItsL w X L S → At w b o L → ItsX w X b o S
  | [], _, _, _, _ => by unfold ItsX; trivial
  | t :: ts, L, o, h, hat => by
    unfold ItsL at h
    obtain ⟨v, L', rfl, h1, h2, h3⟩ := h
    unfold ItsX
    refine ⟨⟨v, h1, fun i u hu => hat i u ?_, h2⟩, h3.mem fun i u hu => ?_⟩
    · have hi : i < v.length := by
        rcases Nat.lt_or_ge i v.length with k | k
        · exact k
        · rw [List.getElem?_eq_none k] at hu; cases hu
      rw [List.getElem?_append_left hi]; exact hu
    · have := hat (4 + i) u (by rw [List.getElem?_append_right (by omega), h1, Nat.add_sub_cancel_left]; exact hu)
      rwa [← Nat.add_assoc] at this
theorem ItsL.app {w : World} {X : Nat → Prop} : ∀ {S T : List It} {L M : List Value}, ItsL w X L S → ItsL w X M T → ItsL w X (L ++ M) (S ++ T)
  | [], T, L, M, h, k => by unfold ItsL at h; subst h; exact k
  | t :: ts, T, L, M, h, k => by
    unfold ItsL at h
    obtain ⟨v, L', rfl, h1, h2, h3⟩ := h
    show ItsL w X (v ++ L' ++ M) (t :: (ts ++ T))
    unfold ItsL
    exact ⟨v, L' ++ M, by rw [List.append_assoc], h1, h2, h3.app k⟩
theorem ItsL.one {w : World} {X : Nat → Prop} {v : List Value} {t : It} (h : v.length = 4) (hv : ItX w X v t) : ItsL w X v [t] := by
  unfold ItsL
  exact ⟨v, [], by simp, h, hv, rfl⟩
theorem ItsL.split {w : World} {X : Nat → Prop} : ∀ {S : List It} {L : List Value} (k : Nat), ItsL w X L S → k ≤ S.length → ItsL w X (L.take (k * 4)) (S.take k) ∧ ItsL w X (L.drop (k * 4)) (S.drop k)
  | S, L, 0, h, _ => by
    rw [Nat.zero_mul, List.take_zero, List.take_zero, List.drop_zero, List.drop_zero]
    exact ⟨rfl, h⟩
  | [], L, k + 1, h, hk => by simp at hk
  | t :: ts, L, k + 1, h, hk => by
    unfold ItsL at h
    obtain ⟨v, L', rfl, h1, h2, h3⟩ := h
    obtain ⟨a, b⟩ := h3.split k (by simpa using hk)
    have e1 : (v ++ L').take ((k + 1) * 4) = v ++ L'.take (k * 4) := by
      rw [show (k + 1) * 4 = v.length + k * 4 by omega, List.take_length_add_append]
    have e2 : (v ++ L').drop ((k + 1) * 4) = L'.drop (k * 4) := by
      rw [show (k + 1) * 4 = v.length + k * 4 by omega, List.drop_length_add_append]
    rw [e1, e2]
    refine ⟨?_, b⟩
    show ItsL w X (v ++ L'.take (k * 4)) (t :: ts.take k)
    unfold ItsL
    exact ⟨v, _, rfl, h1, h2, a⟩
theorem ItsL.last {w : World} {X : Nat → Prop} {S : List It} {L : List Value} (h : ItsL w X L S) (hs : S ≠ []) : ∃ v, v.length = 4 ∧ L.drop ((S.length - 1) * 4) = v ∧ ItX w X v (topS S) := by
  have hl : 0 < S.length := List.length_pos_iff.2 hs
  have h1 := (h.split (S.length - 1) (by omega)).2
  have e : S.drop (S.length - 1) = [topS S] := by
    unfold topS
    rw [List.getLast?_eq_getElem?, List.getElem?_eq_getElem (by omega), Option.getD_some]
    rw [List.drop_eq_getElem_cons (by omega), show S.length - 1 + 1 = S.length by omega, List.drop_length]
  rw [e] at h1
  unfold ItsL at h1
  obtain ⟨v, L', e2, h2, h3, h4⟩ := h1
  have : L' = [] := h4
  subst this
  rw [List.append_nil] at e2
  exact ⟨v, h2, e2, h3⟩
theorem ItsL.one' {w : World} {X : Nat → Prop} : ∀ {S : List It} {L : List Value}, ItsL w X L S → ∀ u ∈ L, u.oneCell' = true
  | [], L, h, u, hu => by unfold ItsL at h; subst h; cases hu
  | t :: ts, L, h, u, hu => by
    unfold ItsL at h
    obtain ⟨v, L', rfl, h1, h2, h3⟩ := h
    rcases List.mem_append.1 hu with hu | hu
    · exact h2.one u hu
    · exact h3.one' u hu
/-- a slice from some place on, elements of sz cells -/
def cutZ (p : Option Addr) (l c sz : Nat) : Option Addr := if c = l then p else p.map (·.add (l * sz))
theorem run_sliceZ_lo (w : World) {ty e : TypeId} {sz : Nat} (hu : P.underlying ty = some (.slice e)) (hsz : (P.info? e).map (·.size) = some sz) (p : Option Addr) (n c : Nat) (k : IntKind) (l : Nat) (hl : l ≤ n) :
    (Instr.sliceAt ty (.slice p n c) (some (.int k (l : Int))) none none).run P w = .ok (.slice (cutZ p l c sz) (n - l) (c - l)) w := by
  obtain ⟨i, hi1, hi2⟩ : ∃ i, P.info? e = some i ∧ i.size = sz := by simpa using hsz
  simp [Instr.sliceAt, Instr.slice, run_underlying hu, Instr.sliceBounds, run_sliceBound, hl, sizeOf, typeInfo, hi1, hi2, cutZ]
theorem run_sliceZ_hi (w : World) {ty e : TypeId} {sz : Nat} (hu : P.underlying ty = some (.slice e)) (hsz : (P.info? e).map (·.size) = some sz) (p : Option Addr) (n c : Nat) (k : IntKind) (h : Nat) (hh : h ≤ c) :
    (Instr.sliceAt ty (.slice p n c) none (some (.int k (h : Int))) none).run P w = .ok (.slice p h c) w := by
  obtain ⟨i, hi1, hi2⟩ : ∃ i, P.info? e = some i ∧ i.size = sz := by simpa using hsz
  simp [Instr.sliceAt, Instr.slice, run_underlying hu, Instr.sliceBounds, run_sliceBound, hh, sizeOf, typeInfo, hi1, Addr.add]
theorem Rd.cutZ {w : World} {p : Option Addr} {n l c sz : Nat} {L : List Value} (h : Rd w p (n * sz) L) (hl : l ≤ n) (hc : n ≤ c) : Rd w (Go.Mv.cutZ p l c sz) ((n - l) * sz) (L.drop (l * sz)) := by
  have hlen := h.len
  have e : (n - l) * sz = n * sz - l * sz := by rw [Nat.sub_mul]
  rcases Nat.eq_zero_or_pos ((n - l) * sz) with h0 | h0
  · rw [h0]
    have : L.drop (l * sz) = [] := List.drop_eq_nil_of_le (by omega)
    rw [this]
    exact Rd.nil _ _
  · obtain ⟨b, o, rfl, hat⟩ := h.at (by omega)
    have hne : ¬ c = l := by
      intro hcl
      have : n - l = 0 := by omega
      rw [this] at h0; simp at h0
    have e2 : Go.Mv.cutZ (some ⟨b, o, none⟩) l c sz = some ⟨b, o + l * sz, none⟩ := by
      unfold Go.Mv.cutZ; rw [if_neg hne]; simp [addr_add]
    rw [e2]
    refine ⟨by rw [List.length_drop]; omega, .inr ⟨b, o + l * sz, rfl, fun i u hu => ?_⟩⟩
    rw [Nat.add_assoc]
    refine hat (l * sz + i) u ?_
    rw [List.getElem?_drop] at hu
    exact hu
theorem Rd.takeZ {w : World} {p : Option Addr} {n k sz : Nat} {L : List Value} (h : Rd w p (n * sz) L) (hk : k ≤ n) : Rd w p (k * sz) (L.take (k * sz)) := by
  have hlen := h.len
  have hle : k * sz ≤ n * sz := Nat.mul_le_mul_right _ hk
  refine ⟨by rw [List.length_take]; omega, ?_⟩
  rcases Nat.eq_zero_or_pos (k * sz) with h0 | h0
  · exact .inl h0
  · obtain ⟨b, o, rfl, hat⟩ := h.at (by omega)
    refine .inr ⟨b, o, rfl, fun i u hu => hat i u ?_⟩
    rw [List.getElem?_take] at hu
    split at hu
    · exact hu
    · cases hu
/-- []byte(s) as a step of a drawn region -/
theorem pos_bytes {o : Oper} {a : Act} {w : World} {Ψ : Value → World → Prop} {Q : Exit → Act → World → Prop} {x : Operand} {src dst : TypeId} (ho : o.op = .convert src dst x) {e : TypeId} (hs : P.underlying src = some .string) (hd : P.underlying dst = some (.slice e)) (he : P.underlying e = some (.int .u8))
    {q : ByteArray} (hx : a.eval x = .string q) (hq : q.size ≤ maxLen) (h : ∀ p c w', Fr Nob w w' → RdB w' p q.size q.data.toList → q.size ≤ c → (∀ y, p = some y → w.heap.size ≤ y.block) → Ψ (.slice p q.size c) w') : o.wp P a w (fun a' w' => ∃ v, a' = a.put o.dst v ∧ Fr Nob w w' ∧ Ψ v w') Q := by
  have hr := run_bytes_of_string (P := P) w src dst e q hs hd he
  have hge := grownCap_ge w q.size 0 e
  have hcm := grownCap_le_maxLen w q.size 0 e hq
  have hown : Go.Mv.Own (w.drew.alloc (.cells (bytesRow q (grownCap w q.size 0 e)) e ((bytesRow q (grownCap w q.size 0 e)).size, (bytesRow q (grownCap w q.size 0 e)).size + 1))) w.heap.size e 1 (.slice (some ⟨w.heap.size, 0, none⟩) q.size (grownCap w q.size 0 e)) q.size (bs q.data.toList) := by
    refine ⟨by rw [bs_len]; omega, .inr ⟨w.heap.size, 0, _, (bytesRow q (grownCap w q.size 0 e)).toList, rfl, Nat.le_refl _, ?_, hge, hcm, ?_, ?_⟩⟩
    · refine ⟨(bytesRow q (grownCap w q.size 0 e)).size, (bytesRow q (grownCap w q.size 0 e)).size + 1, ?_, .inr (Nat.le_of_eq ?_)⟩
      · have := heap_alloc_new w.drew (.cells (bytesRow q (grownCap w q.size 0 e)) e ((bytesRow q (grownCap w q.size 0 e)).size, (bytesRow q (grownCap w q.size 0 e)).size + 1))
        simpa using this
      · simp
    · have hd : q.data.size = q.size := rfl
      simp [bytesRow, hd]; omega
    · simp only [bytesRow, Array.toList_append, List.drop_zero, Nat.mul_one]
      rw [← bs_data]
      exact List.take_left' (by rw [bs_len])
  obtain ⟨a2, c2, e2, h2, h3, h4⟩ := hown.form
  cases e2
  unfold Oper.wp execOp
  simp only [ho, hx, Sem.run_bind, Sem.run_pure, Result.andThen_ok, hr]
  exact ⟨_, rfl, ((Fr.refl _ w).drew).alloc _, h _ _ _ (((Fr.refl _ w).drew).alloc _) (by rw [Nat.mul_one] at h3; exact h3) h2 h4⟩
theorem RdB.offIt {w : World} {a : Option Addr} {n g : Nat} {l : List UInt8} {L : List Value} {T : TypeId} (h : RdB w a n l) (hn : 0 < n) (hg : Has w g L T) (hL : ∀ u ∈ L, ∀ x, u ≠ .int .u8 x) : ∀ y, a = some y → y.block ≠ g := by
  intro y hy e
  obtain ⟨b, o, e2, hc⟩ := RdB.at h hn
  rw [e2] at hy; cases hy
  have e3 : b = g := e
  subst e3
  have h1 := hc 0 hn
  rw [hg.get] at h1
  exact hL _ (List.mem_of_getElem? h1) _ rfl
theorem wp_storeSG {w w0 : World} {o : Oper} {a : Act} {K : Act → World → Prop} {Q : Exit → Act → World → Prop} {S : Nat → Prop} {bl : List (Nat × List Value × TypeId)} (hst : St S w0 w bl) (i : Nat) {g : Nat} {L : List Value} {T : TypeId} (hb : bl[i]? = some (g, L, T)) {ty : TypeId} {x y : Operand} (ho : o.op = .store ty x y) (hx : a.eval x = .pointer (some ⟨g, 0, none⟩)) {cs : List Value} (hy : a.eval y = .agg cs.toArray)
    (hn : cs.length = L.length) (hi : (P.info? ty).map (·.size) = some cs.length) (h1 : ∀ v ∈ cs, v.oneCell' = true)
    (h : ∀ w', St S w0 w' (bl.set i (g, cs, T)) → Fr (One g) w w' → K (a.put o.dst undef) w') : o.wp P a w K Q := by
  obtain ⟨k1, k2, _⟩ := Has.setCells cs 0 L w (hst.at i hb) (by omega)
  rw [splice_whole _ _ hn] at k1
  exact wp_store_mid ty x y ho g 0 cs.toArray hx hy (by simpa using (hst.at i hb).there 0 cs.length (by omega)) (by simpa using hi) (all_oneCell_toArray h1) (by simpa using h _ (hst.put i hb k2 k1) k2)
theorem wl_storeSW {w w0 : World} {ops : Array Oper} {rest : List Oper} {o : Oper} {a : Act} {Q : Exit → Act → World → Prop} {S : Nat → Prop} {bl : List (Nat × List Value × TypeId)} (hst : St S w0 w bl) (i : Nat) {g : Nat} {L : List Value} {T : TypeId} (hb : bl[i]? = some (g, L, T)) {ty : TypeId} {x y : Operand} (hgd : o.guard = none) (ho : o.op = .store ty x y) (hx : a.eval x = .pointer (some ⟨g, 0, none⟩)) {cs : List Value} (hy : a.eval y = .agg cs.toArray)
    (hn : cs.length = L.length) (hi : (P.info? ty).map (·.size) = some cs.length) (h1 : ∀ v ∈ cs, v.oneCell' = true)
    (h : ∀ w', St S w0 w' (bl.set i (g, cs, T)) → Fr (One g) w w' → wpList P ops Q rest (a.put o.dst undef) w') : wpList P ops Q (o :: rest) a w :=
  wl_storeA hgd ho hx hy (hst.at i hb) (by omega) hi h1 fun w' hg hf _ => h w' (hst.put i hb hf (by rwa [splice_whole _ _ hn] at hg)) hf
/-- an empty literal -/
theorem pos_lit0 {o : Oper} {a : Act} {w : World} {Ψ : Value → World → Prop} {Q : Exit → Act → World → Prop} {t e : TypeId} (ho : o.op = .buildSlice t 0 #[]) (hu : P.underlying t = some (.slice e)) {z : Option Value} {sz by_ : Nat} (hi0 : (P.info? e).map (fun i => (i.zero, i.size, i.bytes)) = some (z, sz, by_))
    (h : ∀ g w', Fr Nob w w' → w.heap.size ≤ g → Has w' g [] e → Ψ (.slice (some ⟨g, 0, none⟩) 0 0) w') : o.wp P a w (fun a' w' => ∃ v, a' = a.put o.dst v ∧ Fr Nob w w' ∧ Ψ v w') Q := by
  obtain ⟨i, hi, hz0⟩ : ∃ i, P.info? e = some i ∧ (i.zero, i.size, i.bytes) = (z, sz, by_) := by simpa using hi0
  have hr : (Instr.buildSlice t 0 #[]).run P w = .ok (.slice (some ⟨w.heap.size, 0, none⟩) 0 0) (w.alloc (.cells #[] e)) := by
    simp [Instr.buildSlice, run_underlying hu, sizeOf, typeInfo, hi, Instr.fill, newRow]
    exact congrArg (fun c => w.alloc (Obj.cells c e)) (Array.eq_empty_of_size_eq_zero (by simp))
  unfold Oper.wp execOp
  simp only [ho, Sem.run_bind, List.map_toArray, List.map_nil, hr, Result.andThen_ok]
  exact ⟨_, rfl, (Fr.refl _ w).alloc _, h _ _ ((Fr.refl _ w).alloc _) (Nat.le_refl _) (Has.new w #[] e)⟩
/-- append onto an empty literal -/
theorem pos_app0 {o : Oper} {a : Act} {w : World} {Ψ : Value → World → Prop} {Q : Exit → Act → World → Prop} {s x : Operand} {t e : TypeId} (ho : o.op = .call { callee := .builtin .append, args := #[s, x], argTypes := #[t, t] }) (ht : P.underlying t = some (.slice e)) {z : Value} {sz by_ : Nat} (hi0 : (P.info? e).map (fun i => (i.zero, i.size, i.bytes)) = some (some z, sz, by_))
    (hzs : z.cells.size = sz) (hsz : 0 < sz) {g base : Nat} (hg : Has w g [] e) (hb : base ≤ g) (hs : a.eval s = .slice (some ⟨g, 0, none⟩) 0 0) {xa : Option Addr} {m c : Nat} {news : List Value} (hx : a.eval x = .slice xa m c) (hnews : Rd w xa (m * sz) news) (h1 : ∀ u ∈ news, u.oneCell' = true) (h63 : m ≤ maxLen) (hbytes : m * by_ ≤ 140737488355328)
    (h : ∀ v' w', Fr Nob w w' → Go.Mv.Own w' base e sz v' m news → Ψ v' w') : o.wp P a w (fun a' w' => ∃ v, a' = a.put o.dst v ∧ Fr Nob w w' ∧ Ψ v w') Q := by
  have hown : Go.Mv.Own w g e sz (.slice (some ⟨g, 0, none⟩) 0 0) 0 [] := by
    have := Own.made hg g (Nat.le_refl _) sz 0 0 (Nat.le_refl _) (by decide) (by simp)
    simpa using this
  have key : ∃ v' w', (Builtin.append_ #[t, t] o.type #[.slice (some ⟨g, 0, none⟩) 0 0, .slice xa m c]).run P w = .ok v' w' ∧ Fr Nob w w' ∧ Go.Mv.Own w' base e sz v' m news := by
    rcases Nat.eq_zero_or_pos m with rfl | hm
    · obtain ⟨i, hi, -⟩ := info_parts hi0
      have hn : news = [] := List.eq_nil_of_length_eq_zero (by rw [hnews.len]; simp)
      subst hn
      exact ⟨_, w, run_append_zero t o.type e i ht hi _ 0 0 (Nat.le_refl _) xa c, Fr.refl _ _, hown.mono hb⟩
    · obtain ⟨v', w', hr, h2, h3, h4, h5⟩ := run_append3 (P := P) g t o.type e z sz by_ ht hi0 hzs hsz _ 0 [] hown xa m c news hnews h1 (by omega) (by rw [Nat.zero_add]; exact hbytes) (Nat.le_of_lt hg.lt)
      refine ⟨v', w', hr, ?_, ?_⟩
      · rcases h5 with (⟨y, o2, cap, e1, e2⟩ | ⟨e1, -⟩) | ⟨-, h6⟩
        · exfalso
          cases e1
          obtain ⟨a3, c3, e3, h7, -⟩ := h2.form
          rw [e2] at e3; cases e3
          omega
        · omega
        · exact h6
      · rw [Nat.zero_add, List.nil_append] at h2
        exact h2.mono hb
  obtain ⟨v', w', hr, h2, h3⟩ := key
  unfold Oper.wp execOp
  simp only [ho, resolve, invoke, builtin, Sem.run_bind, Sem.run_pure, Result.andThen_ok, List.map_toArray, List.map_cons, List.map_nil, hs, hx, hr]
  exact ⟨_, rfl, h2, h v' w' h2 h3⟩
end Go.Mv

/- The law's small and built (printed by gen_wp17.py). -/
namespace Go.Proofs.YtdadnajbdnbbdaaDoor
open Go.RowKit Go.Mv Mvp
theorem info_item : (Tryd.prog.info? 31).map (fun i => (i.zero, i.size, i.bytes)) = some (some (.agg #[.int .i64 0, .int .u64 0, .slice none 0 0, .slice none 0 0]), 4, 64) := by kernel_rfl
theorem size_item : (Tryd.prog.info? 31).map (·.size) = some 4 := by kernel_rfl
theorem nd_cells {w : World} {b o : Nat} {l : List Nd} (h : Rd w (some ⟨b, o, none⟩) (l.length * 4) (ndsC l)) {i : Nat} {x : Nd} (hx : l[i]? = some x) : ∀ j u, (ndC x)[j]? = some u → w.cell? ⟨b, o + i * 4 + j, none⟩ = some u := by
  intro j u hu
  have hi : i < l.length := (List.getElem?_eq_some_iff.1 hx).1
  obtain ⟨b', o', e, hat⟩ := h.at (by omega)
  cases e
  rw [Nat.add_assoc]
  refine hat (i * 4 + j) u ?_
  rw [← ndsC_row l i x hx, List.getElem?_take] at hu
  split at hu
  · rwa [List.getElem?_drop] at hu
  · cases hu
theorem rd_some {w : World} {a : Option Addr} {n : Nat} {L : List Value} (h : Rd w a n L) (hn : 0 < n) : ∃ b o, a = some ⟨b, o, none⟩ := by
  obtain ⟨b, o, e, -⟩ := h.at hn
  exact ⟨b, o, e⟩
def sumN (l : List Nd) : Nat := (l.map fun x => x.2.2.1.length).sum
def smP (l : List Nd) (w : World) (e : Ending) (w' : World) : Prop := ∃ b, e = .returned (.bool b) ∧ (b = true → l.length ≤ 256 ∧ sumN l ≤ 262144) ∧ w = w'
set_option maxHeartbeats 4000000 in
set_option maxRecDepth 1000000 in
theorem small_any (a : Option Addr) (c : Nat) (l : List Nd) (w : World) (h : Rd w a (l.length * 4) (ndsC l)) (hs : ∀ x ∈ l, x.2.2.1.length ≤ 140737488355328) (hl : l.length ≤ 140737488355328) :
    Calls Tryd.prog 4 #[.slice a l.length c] w (smP l w) := by
  have H := Lib.hid h
  have HS := Lib.hid hs
  have hlI : ((l.length : Nat) : Int) ≤ 140737488355328 := by omega
  clear h hs hl
  go_enter Tryd.func4, Tryd.ntmps4
  go_wp2_with fail
  go_loopw [3, 4] (fun nv iv wr => ∃ (x : Int) (i : Nat), nv = .int .i64 x ∧ iv = .int .i64 (i : Int) ∧ i ≤ l.length ∧ Hid (i ≤ 256 → x = ((sumN (l.take i) : Nat) : Int)) ∧ w = wr) (fun _ iv _ => l.length - (intOf iv).toNat)
  case atStart => exact ⟨0, 0, rfl, rfl, by omega, Lib.hid (fun _ => rfl), rfl⟩
  case round =>
    obtain ⟨x, i, rfl, rfl, hi, HX, rfl⟩ := hrel
    rcases Nat.lt_or_ge i l.length with hil | hil
    · have hiI : (i : Int) < (l.length : Int) := by omega
      have hi0 : (0 : Int) ≤ (i : Int) := by omega
      obtain ⟨t, ht⟩ : ∃ t, l[i]? = some t := ⟨l[i], List.getElem?_eq_getElem hil⟩
      obtain ⟨b, o, rfl⟩ := rd_some H.out (by omega)
      have c2 := nd_cells H.out ht 2 (.string (mkS t.2.2.1)) rfl
      have hsz : ((mkS t.2.2.1).size : Int) = (t.2.2.1.length : Int) := by rw [mkS_size]
      have htl := HS.out t (List.mem_of_getElem? ht)
      have HN := Lib.hid (show i + 1 ≤ 256 → x + ((t.2.2.1.length : Nat) : Int) = ((sumN (l.take (i + 1)) : Nat) : Int) ∧ sumN (l.take (i + 1)) ≤ (i + 1) * 140737488355328 from fun h => by
        have e : sumN (l.take (i + 1)) = sumN (l.take i) + t.2.2.1.length := by
          unfold sumN
          rw [List.take_add_one, ht, List.map_append, List.sum_append]
          simp
        have h2 : ∀ m : List Nd, (∀ y ∈ m, y.2.2.1.length ≤ 140737488355328) → sumN m ≤ m.length * 140737488355328 := by
          intro m
          induction m with
          | nil => intro _; simp [sumN]
          | cons y m ih =>
            intro hm
            have h3 := ih fun z hz => hm z (by simp [hz])
            have h4 := hm y (by simp)
            unfold sumN at h3 ⊢
            rw [List.map_cons, List.sum_cons, List.length_cons]
            omega
        have h5 := h2 (l.take (i + 1)) (fun y hy => HS.out y (List.mem_of_mem_take hy))
        rw [List.length_take, Nat.min_eq_left (by omega)] at h5
        refine ⟨?_, h5⟩
        rw [HX.out (by omega), e]
        omega)
      have HIL := Lib.hid hil
      clear ht hil hi htl
      generalize t.2.2.1.length = tl at *
      go_wp2_with fail
      go_roundw
      case rel => exact ⟨_, i + 1, rfl, by go_num, by have := HIL.out; omega, Lib.hid (fun h => by
        obtain ⟨h1, h2⟩ := HN.out h
        rw [h1]
        first
          | rfl
          | (have h3 : ((sumN (l.take (i + 1)) : Nat) : Int) < 9223372036854775808 := by omega
             unfold wrap64; omega)), by simp⟩
      case measure => have := HIL.out; simp [intOf]; omega
    · have hie : i = l.length := by omega
      subst hie
      have hiI : ¬ ((l.length : Nat) : Int) < (l.length : Int) := by omega
      rw [List.take_length] at HX
      by_cases h6 : l.length ≤ 256
      · have h6I : ((l.length : Nat) : Int) ≤ 256 := by omega
        have h6B : decide (((l.length : Nat) : Int) ≤ 256) = true := decide_eq_true h6I
        have hx := HX.out h6
        have H6 := Lib.hid h6
        by_cases h7 : sumN l ≤ 262144
        · have h7I : ((sumN l : Nat) : Int) ≤ 262144 := by omega
          have h7B : decide (((sumN l : Nat) : Int) ≤ 262144) = true := decide_eq_true h7I
          have H7 := Lib.hid h7
          subst hx
          clear HX h6 h7 hi
          go_wp2_with fail
          go_ret
          exact ⟨true, rfl, fun _ => ⟨H6.out, H7.out⟩, rfl⟩
        · have h7I : ¬ ((sumN l : Nat) : Int) ≤ 262144 := by omega
          have h7B : decide (((sumN l : Nat) : Int) ≤ 262144) = false := decide_eq_false h7I
          subst hx
          clear HX h6 h7 hi
          go_wp2_with fail
          go_ret
          exact ⟨false, rfl, fun h => by simp at h, rfl⟩
      · have h6I : ¬ ((l.length : Nat) : Int) ≤ 256 := by omega
        have h6B : decide (((l.length : Nat) : Int) ≤ 256) = false := decide_eq_false h6I
        clear HX h6 hi
        go_wp2_with fail
        go_ret
        exact ⟨false, rfl, fun h => by simp at h, rfl⟩
theorem exec_buildW {P : Program} {o : Oper} {a : Act} {t : TypeId} {parts : Array (Nat × Operand)} (ho : o.op = .build t parts) (cells : Array Value)
    (hb : P.built t (parts.toList.map fun p => (p.1, a.eval p.2)) = some cells) (w : World) : (execOp a.eval o).run P w = .ok (.value (.agg cells)) w := by
  have hr := run_build (P := P) w t (parts.map fun (i, x) => (i, a.eval x)) cells (by
    have : (parts.map fun (i, x) => (i, a.eval x)).toList = (parts.toList.map fun p => (p.1, a.eval p.2)) := by simp
    rw [this]; exact hb)
  unfold execOp
  simp only [ho, Sem.run_bind, Sem.run_pure, Result.andThen_ok, hr]
theorem exec_loadW {w : World} {g : Nat} {L : List Value} {T : TypeId} (hg : Has w g L T) {o : Oper} {a : Act} {ty : TypeId} {x : Operand} (ho : o.op = .load ty x) (hx : a.eval x = .pointer (some ⟨g, 0, none⟩))
    {d : TypeDesc} (hu : Tryd.prog.underlying ty = some d) (hd : d.isRow = true) (hi : (Tryd.prog.info? ty).map (·.size) = some L.length) : (execOp a.eval o).run Tryd.prog w = .ok (.value (.agg L.toArray)) w := by
  unfold execOp
  simp only [ho, hx, Instr.loadAt, Instr.sureAddr, Sem.run_bind, Sem.run_pure, Result.andThen_ok, run_loadVar_mid w g 0 ty L d (hg.range 0 L (by rw [List.drop_zero, List.take_of_length_le (Nat.le_refl _)])) hu hd hi]
theorem results_itW {fn : Func} {p : Tmp} {ty : TypeId} (h : fn.results = #[.cell p ty]) {tmps : Array Value} {w : World} {g : Nat} {L : List Value} {T : TypeId}
    (hp : tmps.getD p undef = .pointer (some ⟨g, 0, none⟩)) (hg : Has w g L T) {d : TypeDesc} (hu : Tryd.prog.underlying ty = some d) (hd : d.isRow = true) (hi : (Tryd.prog.info? ty).map (·.size) = some L.length) :
    (results fn tmps).run Tryd.prog w = .ok (.agg L.toArray) w := by
  obtain ⟨lo, hi', hh, -⟩ := hg
  exact results_cell_row h tmps w g T L.toArray _ d hp hh hu (by cases d <;> first | rfl | (simp [TypeDesc.isRow] at hd)) (by simpa using hi)
def bdP (l : List Nd) (w : World) (e : Ending) (w' : World) : Prop := ∃ vs, e = .returned (.agg vs.toArray) ∧ vs.length = 4 ∧ ItV w' vs (topS (l.foldl stepS [])) ∧ Fr Nob w w'
set_option maxHeartbeats 4000000 in
set_option maxRecDepth 1000000 in
theorem built_any (a : Option Addr) (c : Nat) (l : List Nd) (w : World) (h : Rd w a (l.length * 4) (ndsC l)) (hx : ∀ x ∈ l, x.2.1 < 18446744073709551616 ∧ x.2.2.1.length ≤ 262144 ∧ -9223372036854775808 ≤ x.2.2.2 ∧ x.2.2.2 < 9223372036854775808) (hl : l.length ≤ 256) :
    Calls Tryd.prog 6 #[.slice a l.length c] w (bdP l w) := by
  have H := Lib.hid h
  have HX := Lib.hid hx
  have HL := Lib.hid hl
  have hlI : ((l.length : Nat) : Int) ≤ 256 := by omega
  have st0 := St.start Nob w
  clear h hx hl
  go_enter Tryd.func6, Tryd.ntmps6
  go_wp2_with (with_reducible refine wl_stop (o := ⟨some 2, _, _, _, _, _⟩) ?_)
  unfold Stop
  refine wl_allocS st0 rfl rfl (z := .agg #[.int .i64 0, .int .u64 0, .slice none 0 0, .slice none 0 0]) (by kernel_rfl) [.int .i64 0, .int .u64 0, .slice none 0 0, .slice none 0 0] rfl ?_
  intro gr wb st1
  have HST := Lib.hid st1
  clear st0 st1
  go_wp2_with fail
  go_loopw [3, 4] (fun sv iv wx => ∃ (ix : Nat) (L : List Value) (S : List It), iv = .int .i64 (ix : Int) ∧ ix ≤ l.length ∧ Hid (Go.Mv.Own wx wb.heap.size 31 4 sv S.length L) ∧ Hid (ItsL wx (One gr) L S) ∧ Hid (S = (l.take ix).foldl stepS []) ∧ S.length ≤ ix ∧ Hid (Fr Nob wb wx)) (fun _ iv _ => l.length - (intOf iv).toNat)
  case atStart => exact ⟨0, [], [], rfl, by omega, Lib.hid (Own.nil _ _ _ _), Lib.hid rfl, Lib.hid rfl, Nat.le_refl _, Lib.hid (Fr.refl _ _)⟩
  case round =>
    obtain ⟨ix, L, S, rfl, hi, HO, HI, HS, hSl, HF⟩ := hrel
    obtain ⟨sa, sc, rfl, hsc, hsr, -⟩ := id HO.out.form
    have HSC := Lib.hid hsc
    have HSR := Lib.hid hsr
    have HFW := Lib.hid (HST.out.fr.then HF.out)
    clear hsc hsr
    rcases Nat.lt_or_ge ix l.length with hil | hil
    · have hiI : (ix : Int) < (l.length : Int) := by omega
      have hi0 : (0 : Int) ≤ (ix : Int) := by omega
      obtain ⟨x, hx⟩ : ∃ x, l[ix]? = some x := ⟨l[ix], List.getElem?_eq_getElem hil⟩
      have HT := Lib.hid hx
      obtain ⟨ab, ao, rfl⟩ := rd_some H.out (by omega)
      have hcl := nd_cells (H.out.still HFW.out) hx
      obtain ⟨hx1, hx2, hx3, hx4⟩ := HX.out x (List.mem_of_getElem? hx)
      obtain ⟨k, n, d, N⟩ := x
      simp only at hx1 hx2 hx3 hx4
      have e0 := hcl 0 _ rfl
      have e1 := hcl 1 _ rfl
      have e2 := hcl 2 _ rfl
      have e3 := hcl 3 _ rfl
      have E0 := Lib.hid e0
      have E1 := Lib.hid e1
      have E2 := Lib.hid e2
      have HN1 := Lib.hid hx1
      have HDL := Lib.hid hx2
      have HIL := Lib.hid hil
      have hSI : ((S.length : Nat) : Int) ≤ 256 := by omega
      have HSL := Lib.hid (show S.length ≤ 256 by omega)
      have HSi := Lib.hid hSl
      have hSlI : ((S.length : Nat) : Int) ≤ (ix : Int) := by omega
      clear hcl hx1 hx2 hil hi hx e0 e1 e2 hSl
      go_upto_if 19 with fail
      go_cut [5] (fun v wx => v = .int .i64 (aN N) ∧ wr = wx)
      case first =>
        by_cases hN : N < 0
        · have hNB : decide (N < 0) = true := decide_eq_true hN
          have HQ := Lib.hid (show aN N = -(N + 1) by unfold aN; rw [if_pos hN])
          go_wp2_with fail
          go_meet
          exact ⟨by rw [HQ.out], rfl⟩
        · have hNB : decide (N < 0) = false := decide_eq_false hN
          have HQ := Lib.hid (show aN N = N by unfold aN; rw [if_neg hN])
          go_wp2_with fail
          go_meet
          exact ⟨by rw [HQ.out], rfl⟩
      case rest =>
      obtain ⟨rfl, rfl⟩ := hcut
      have ha0 : 0 ≤ aN N := by unfold aN; split <;> omega
      have HMN := Lib.hid (show mN N S.length = min (aN N % 9).toNat S.length from rfl)
      generalize aN N = qa at *
      go_upto_if 28 with fail
      go_cut [5] (fun v wx => v = .int .i64 ((mN N S.length : Nat) : Int) ∧ wr = wx)
      case first =>
        obtain ⟨q, hq⟩ : ∃ q, qa % 9 = q := ⟨_, rfl⟩
        have hq1 : 0 ≤ q := by omega
        have hq2 : q < 9 := by omega
        by_cases hgt : ((S.length : Nat) : Int) < q
        · have hgB : decide (((S.length : Nat) : Int) < q) = true := decide_eq_true hgt
          go_wp2_with fail
          go_meet
          exact ⟨by congr 1; rw [HMN.out, hq]; omega, rfl⟩
        · have hgB : decide (((S.length : Nat) : Int) < q) = false := decide_eq_false hgt
          go_wp2_with fail
          go_meet
          exact ⟨by congr 1; rw [HMN.out, hq]; omega, rfl⟩
      case rest =>
      obtain ⟨rfl, rfl⟩ := hcut
      clear HMN ha0
      have hm1 := mN_le N S.length
      have hm8 := mN_8 N S.length
      obtain ⟨lm, hlm⟩ : ∃ lm, S.length - mN N S.length = lm := ⟨_, rfl⟩
      have HSS := Lib.hid (show stepS S (k, n, d, N) = S.take lm ++ [It.mk k n d (S.drop lm)] by unfold stepS; simp only [hlm])
      generalize mN N S.length = m at *
      have hsub : ((S.length : Nat) : Int) - ((m : Nat) : Int) = ((lm : Nat) : Int) := by omega
      have HM := Lib.hid (show lm + m = S.length by omega)
      have HM8 := Lib.hid hm8
      have st0 := St.start Nob wr
      clear hm1 hm8 hlm e3 hx3 hx4
      go_wp2_with fail
      refine wp_region_noPanic ?_
      have hd0 := st0.drew
      clear st0
      refine wp_region_posA (fun wx => St Nob wr wx [] ∧ Fr Nob (World.drew _) wx) [0, 1, 2, 3, 4, 5, 6, 7, 8, 9, 10, 11, 12, 13, 14, 15, 16, 17] [] (fun i => match i with | 0 => [] | 1 => [] | 2 => [0, 1] | 3 => [2] | 4 => [3] | 5 => [] | 6 => [] | 7 => [5, 6] | 8 => [7] | 9 => [8] | 10 => [] | 11 => [] | 12 => [10, 11] | 13 => [12] | 14 => [13] | 15 => [14] | 16 => [4, 9, 15] | 17 => [] | _ => []) (fun i x wx => match i with | 0 => x 0 = .slice (some ⟨ab, ao, none⟩) l.length c | 1 => x 1 = .int .i64 (ix : Int) | 2 => x 2 = .pointer (some ⟨ab, ao + ix * 4, none⟩) | 3 => x 3 = .pointer (some ⟨ab, ao + ix * 4, none⟩) | 4 => x 4 = .int .i64 k | 5 => x 5 = .slice (some ⟨ab, ao, none⟩) l.length c | 6 => x 6 = .int .i64 (ix : Int) | 7 => x 7 = .pointer (some ⟨ab, ao + ix * 4, none⟩) | 8 => x 8 = .pointer (some ⟨ab, ao + ix * 4 + 1, none⟩) | 9 => x 9 = .int .u64 (n : Int) | 10 => x 10 = .slice (some ⟨ab, ao, none⟩) l.length c | 11 => x 11 = .int .i64 (ix : Int) | 12 => x 12 = .pointer (some ⟨ab, ao + ix * 4, none⟩) | 13 => x 13 = .pointer (some ⟨ab, ao + ix * 4 + 2, none⟩) | 14 => x 14 = .string (mkS d) | 15 => ∃ p c, x 15 = .slice p d.length c ∧ (RdC wx p d.length c d ∧ ∀ y, p = some y → (World.drew wr).heap.size ≤ y.block) | 16 => ∃ p c, x 16 = .agg #[.int .i64 k, .int .u64 (n : Int), .slice p d.length c, .slice none 0 0] ∧ (RdC wx p d.length c d ∧ ∀ y, p = some y → (World.drew wr).heap.size ≤ y.block) | 17 => ∃ ga17, x 17 = .pointer (some ⟨ga17, 0, none⟩) ∧ (World.drew wr).heap.size ≤ ga17 ∧ Has wx ga17 [.int .i64 0, .int .u64 0, .slice none 0 0, .slice none 0 0] 31 | _ => True) 18 (.m 18 .nil) ?_ (fun x => ?_) (by kernel_rfl) (by kernel_rfl) (fun _ _ _ _ _ h => h) ⟨hd0, Fr.refl _ _⟩ (fun _ _ h k => ⟨h.1.keep k, h.2.then k⟩) ?_ ?_
      rotate_left 1
      · simp only [puts, putI, Act.put, List.getElem?_toArray, List.getElem?_cons_zero, List.getElem?_cons_succ, List.setIfInBounds_toArray, List.set_cons_zero, List.set_cons_succ]
        exact rfl
      refine obls_cons rfl rfl (fun x wx hG hp => ?_) (fun y _ _ h k => h) ?_
      · try dsimp only
        clear hp
        exact pos_v (v := .slice (some ⟨ab, ao, none⟩) l.length c) (by go_simp; try with_reducible rfl) rfl
      refine obls_cons rfl rfl (fun x wx hG hp => ?_) (fun y _ _ h k => h) ?_
      · try dsimp only
        clear hp
        exact pos_v (v := .int .i64 (ix : Int)) (by go_simp; try with_reducible rfl) rfl
      refine obls_cons rfl rfl (fun x wx hG hp => ?_) (fun y _ _ h k => h) ?_
      · try dsimp only
        have e0 : x 0 = .slice (some ⟨ab, ao, none⟩) l.length c := hp 0 (by decide)
        generalize x 0 = v0 at e0 ⊢
        subst e0
        have e1 : x 1 = .int .i64 (ix : Int) := hp 1 (by decide)
        generalize x 1 = v1 at e1 ⊢
        subst e1
        clear hp
        exact pos_v (v := .pointer (some ⟨ab, ao + ix * 4, none⟩)) (by go_simp; try with_reducible rfl) rfl
      refine obls_cons rfl rfl (fun x wx hG hp => ?_) (fun y _ _ h k => h) ?_
      · try dsimp only
        have e2 : x 2 = .pointer (some ⟨ab, ao + ix * 4, none⟩) := hp 2 (by decide)
        generalize x 2 = v2 at e2 ⊢
        subst e2
        clear hp
        exact pos_v (v := .pointer (some ⟨ab, ao + ix * 4, none⟩)) (by go_simp; try with_reducible rfl) rfl
      refine obls_cons rfl rfl (fun x wx hG hp => ?_) (fun y _ _ h k => h) ?_
      · try dsimp only
        have e3 : x 3 = .pointer (some ⟨ab, ao + ix * 4, none⟩) := hp 3 (by decide)
        generalize x 3 = v3 at e3 ⊢
        subst e3
        clear hp
        exact pos_v (v := .int .i64 k) (by have hc := hG.1.fr.cell id (show World.cell? wr ⟨ab, ao + ix * 4, none⟩ = _ from E0.out); clear hG; go_simp; try with_reducible rfl) rfl
      refine obls_cons rfl rfl (fun x wx hG hp => ?_) (fun y _ _ h k => h) ?_
      · try dsimp only
        clear hp
        exact pos_v (v := .slice (some ⟨ab, ao, none⟩) l.length c) (by go_simp; try with_reducible rfl) rfl
      refine obls_cons rfl rfl (fun x wx hG hp => ?_) (fun y _ _ h k => h) ?_
      · try dsimp only
        clear hp
        exact pos_v (v := .int .i64 (ix : Int)) (by go_simp; try with_reducible rfl) rfl
      refine obls_cons rfl rfl (fun x wx hG hp => ?_) (fun y _ _ h k => h) ?_
      · try dsimp only
        have e5 : x 5 = .slice (some ⟨ab, ao, none⟩) l.length c := hp 5 (by decide)
        generalize x 5 = v5 at e5 ⊢
        subst e5
        have e6 : x 6 = .int .i64 (ix : Int) := hp 6 (by decide)
        generalize x 6 = v6 at e6 ⊢
        subst e6
        clear hp
        exact pos_v (v := .pointer (some ⟨ab, ao + ix * 4, none⟩)) (by go_simp; try with_reducible rfl) rfl
      refine obls_cons rfl rfl (fun x wx hG hp => ?_) (fun y _ _ h k => h) ?_
      · try dsimp only
        have e7 : x 7 = .pointer (some ⟨ab, ao + ix * 4, none⟩) := hp 7 (by decide)
        generalize x 7 = v7 at e7 ⊢
        subst e7
        clear hp
        exact pos_v (v := .pointer (some ⟨ab, ao + ix * 4 + 1, none⟩)) (by go_simp; try with_reducible rfl) rfl
      refine obls_cons rfl rfl (fun x wx hG hp => ?_) (fun y _ _ h k => h) ?_
      · try dsimp only
        have e8 : x 8 = .pointer (some ⟨ab, ao + ix * 4 + 1, none⟩) := hp 8 (by decide)
        generalize x 8 = v8 at e8 ⊢
        subst e8
        clear hp
        exact pos_v (v := .int .u64 (n : Int)) (by have hc := hG.1.fr.cell id (show World.cell? wr ⟨ab, ao + ix * 4 + 1, none⟩ = _ from E1.out); clear hG; go_simp; try with_reducible rfl) rfl
      refine obls_cons rfl rfl (fun x wx hG hp => ?_) (fun y _ _ h k => h) ?_
      · try dsimp only
        clear hp
        exact pos_v (v := .slice (some ⟨ab, ao, none⟩) l.length c) (by go_simp; try with_reducible rfl) rfl
      refine obls_cons rfl rfl (fun x wx hG hp => ?_) (fun y _ _ h k => h) ?_
      · try dsimp only
        clear hp
        exact pos_v (v := .int .i64 (ix : Int)) (by go_simp; try with_reducible rfl) rfl
      refine obls_cons rfl rfl (fun x wx hG hp => ?_) (fun y _ _ h k => h) ?_
      · try dsimp only
        have e10 : x 10 = .slice (some ⟨ab, ao, none⟩) l.length c := hp 10 (by decide)
        generalize x 10 = v10 at e10 ⊢
        subst e10
        have e11 : x 11 = .int .i64 (ix : Int) := hp 11 (by decide)
        generalize x 11 = v11 at e11 ⊢
        subst e11
        clear hp
        exact pos_v (v := .pointer (some ⟨ab, ao + ix * 4, none⟩)) (by go_simp; try with_reducible rfl) rfl
      refine obls_cons rfl rfl (fun x wx hG hp => ?_) (fun y _ _ h k => h) ?_
      · try dsimp only
        have e12 : x 12 = .pointer (some ⟨ab, ao + ix * 4, none⟩) := hp 12 (by decide)
        generalize x 12 = v12 at e12 ⊢
        subst e12
        clear hp
        exact pos_v (v := .pointer (some ⟨ab, ao + ix * 4 + 2, none⟩)) (by go_simp; try with_reducible rfl) rfl
      refine obls_cons rfl rfl (fun x wx hG hp => ?_) (fun y _ _ h k => h) ?_
      · try dsimp only
        have e13 : x 13 = .pointer (some ⟨ab, ao + ix * 4 + 2, none⟩) := hp 13 (by decide)
        generalize x 13 = v13 at e13 ⊢
        subst e13
        clear hp
        exact pos_v (v := .string (mkS d)) (by have hc := hG.1.fr.cell id (show World.cell? wr ⟨ab, ao + ix * 4 + 2, none⟩ = _ from E2.out); clear hG; go_simp; try with_reducible rfl) rfl
      refine obls_cons rfl rfl (fun x wx hG hp => ?_) (fun y _ _ h k => by obtain ⟨p, c, h1, h2⟩ := h; exact ⟨p, c, h1, h2.1.still k, h2.2⟩) ?_
      · try dsimp only
        have e14 : x 14 = .string (mkS d) := hp 14 (by decide)
        generalize x 14 = v14 at e14 ⊢
        subst e14
        clear hp
        refine pos_bytes rfl Tryd.underlying9 Tryd.underlying24 Tryd.underlying5 (q := mkS d) rfl (by rw [mkS_size]; have := HDL.out; unfold maxLen; omega) ?_
        intro p c w' hf hr hc hb
        rw [mkS_size] at hr hc ⊢
        rw [mkS_toList] at hr
        exact ⟨p, c, rfl, ⟨hr, hc⟩, fun y hy => Nat.le_trans hG.2.size (hb y hy)⟩
      refine obls_cons rfl rfl (fun x wx hG hp => ?_) (fun y _ _ h k => by obtain ⟨p, c, h1, h2⟩ := h; exact ⟨p, c, h1, h2.1.still k, h2.2⟩) ?_
      · try dsimp only
        have e4 : x 4 = .int .i64 k := hp 4 (by decide)
        generalize x 4 = v4 at e4 ⊢
        subst e4
        have e9 : x 9 = .int .u64 (n : Int) := hp 9 (by decide)
        generalize x 9 = v9 at e9 ⊢
        subst e9
        have e15 : ∃ p c, x 15 = .slice p d.length c ∧ (RdC wx p d.length c d ∧ ∀ y, p = some y → (World.drew wr).heap.size ≤ y.block) := hp 15 (by decide)
        obtain ⟨p15, c15, e15, HL15⟩ := e15
        generalize x 15 = v15 at e15 ⊢
        subst e15
        clear hp
        exact pos_v (exec_buildW rfl #[.int .i64 k, .int .u64 (n : Int), .slice p15 d.length c15, .slice none 0 0] (by kernel_rfl) _) ⟨p15, c15, rfl, HL15⟩
      refine obls_cons rfl rfl (fun x wx hG hp => ?_) (fun y _ _ h k => by obtain ⟨g, h1, h2, h3⟩ := h; exact ⟨g, h1, h2, h3.keep k id⟩) ?_
      · try dsimp only
        clear hp
        refine pos_alloc rfl (z := .agg #[.int .i64 0, .int .u64 0, .slice none 0 0, .slice none 0 0]) (by kernel_rfl) [.int .i64 0, .int .u64 0, .slice none 0 0, .slice none 0 0] rfl ?_
        intro g w' hf hle hg
        exact ⟨g, rfl, Nat.le_trans hG.2.size hle, hg⟩
      exact trivial
      intro x w1 hG hp
      try dsimp only
      have e16 : ∃ p c, x 16 = .agg #[.int .i64 k, .int .u64 (n : Int), .slice p d.length c, .slice none 0 0] ∧ (RdC w1 p d.length c d ∧ ∀ y, p = some y → (World.drew wr).heap.size ≤ y.block) := hp 16 (by decide)
      obtain ⟨p15, c15, e16, HL16⟩ := e16
      generalize x 16 = v16 at e16 ⊢
      subst e16
      have e17 : ∃ ga17, x 17 = .pointer (some ⟨ga17, 0, none⟩) ∧ (World.drew wr).heap.size ≤ ga17 ∧ Has w1 ga17 [.int .i64 0, .int .u64 0, .slice none 0 0, .slice none 0 0] 31 := hp 17 (by decide)
      obtain ⟨ga17, e17, HL17, HG17⟩ := e17
      generalize x 17 = v17 at e17 ⊢
      subst e17
      clear hp
      generalize x 0 = v0
      generalize x 1 = v1
      generalize x 2 = v2
      generalize x 3 = v3
      generalize x 4 = v4
      generalize x 5 = v5
      generalize x 6 = v6
      generalize x 7 = v7
      generalize x 8 = v8
      generalize x 9 = v9
      generalize x 10 = v10
      generalize x 11 = v11
      generalize x 12 = v12
      generalize x 13 = v13
      generalize x 14 = v14
      generalize x 15 = v15
      have st1 := hd0.new hG.2 HG17 HL17
      try simp only [List.nil_append] at st1
      have HRD := Lib.hid HL16.1
      have HDB := Lib.hid HL16.2
      clear HL16
      clear HL17 HG17
      clear hG hd0
      refine plan_m rfl rfl ?_
      have hofd := fun h0 => HRD.out.1.offIt (g := ga17) h0 (st1.at 0 rfl) (by intro u hu x; simp only [List.mem_cons, List.not_mem_nil, or_false] at hu; rcases hu with rfl | rfl | rfl | rfl <;> simp)
      refine wp_storeSG st1 0 rfl rfl rfl rfl (cs := [.int .i64 k, .int .u64 (n : Int), .slice p15 d.length c15, .slice none 0 0]) rfl (by kernel_rfl) (it4_one _ _ rfl rfl _ _ _ _ _ _) ?_
      intro w2 st2 hfs
      repeat (first | simp only [List.cons_append] at st2 | simp only [List.nil_append] at st2 | simp only [List.set_cons_succ] at st2 | simp only [List.set_cons_zero] at st2)
      have HRE := Lib.hid (show RdC w2 p15 d.length c15 d from ⟨by
          rcases Nat.eq_zero_or_pos d.length with h0 | h0
          · exact HRD.out.1.zero h0
          · exact HRD.out.1.keep hfs fun y hy e => hofd h0 y hy e, HRD.out.2⟩)
      clear hofd hfs HRD
      clear st1
      try simp only [Act.put]
      refine plan_end ?_
      refine NoPanic.normal ?_
      have HST1 := Lib.hid st2
      have HFWW := Lib.hid st2.fr
      clear st2
      have hk7 := fun wx => run_sliceZ_lo (P := Tryd.prog) wx Tryd.underlying29 size_item sa S.length sc .i64 lm (by have := HM.out; omega)
      rw [show S.length - lm = m by have := HM.out; omega] at hk7
      have hlmI : ((lm : Nat) : Int) ≤ 256 := by have := HM.out; have := HSL.out; omega
      have hwl : IntKind.i64.wrap ((lm : Nat) : Int) = ((lm : Nat) : Int) := by simp [IntKind.wrap, IntKind.bits, IntKind.signed]; omega
      go_wp2_with fail
      refine wp_region_noPanic ?_
      have hS12 := (HST1.out.at 0 rfl).drew
      refine wp_region_plan (fun wx => Has wx ga17 [.int .i64 k, .int .u64 (n : Int), .slice p15 d.length c15, .slice none 0 0] 31) 8 (.w 0 (.t 1 (.w 2 (.w 3 (.w 4 (.w 5 (.w 6 (.w 7 (.m 8 (.w 9 (.m 10 .nil))))))))))) (by kernel_rfl) (by kernel_rfl) hS12 (fun _ _ _ _ _ h => h) ?_
      clear hS12
      refine plan_w (v := ?_) rfl rfl (fun wx => ?_) ?_; rotate_left 1; (go_simp; with_reducible rfl)
      try simp only [Act.put, List.setIfInBounds_toArray, List.set_cons_zero, List.set_cons_succ]
      refine plan_t (v := .slice none 0 0) rfl rfl (fun wx hS => ?_) ?_
      · have hc := hS.cell (i := 3) rfl; clear hS; go_simp
      try simp only [Act.put, List.setIfInBounds_toArray, List.set_cons_zero, List.set_cons_succ]
      refine plan_w (v := ?_) rfl rfl (fun wx => ?_) ?_; rotate_left 1; (go_simp; with_reducible rfl)
      try simp only [Act.put, List.setIfInBounds_toArray, List.set_cons_zero, List.set_cons_succ]
      refine plan_w (v := ?_) rfl rfl (fun wx => ?_) ?_; rotate_left 1; (go_simp; with_reducible rfl)
      try simp only [Act.put, List.setIfInBounds_toArray, List.set_cons_zero, List.set_cons_succ]
      refine plan_w (v := ?_) rfl rfl (fun wx => ?_) ?_; rotate_left 1; (go_simp; with_reducible rfl)
      try simp only [Act.put, List.setIfInBounds_toArray, List.set_cons_zero, List.set_cons_succ]
      refine plan_w (v := ?_) rfl rfl (fun wx => ?_) ?_; rotate_left 1; (go_simp; with_reducible rfl)
      try simp only [Act.put, List.setIfInBounds_toArray, List.set_cons_zero, List.set_cons_succ]
      refine plan_w (v := ?_) rfl rfl (fun wx => ?_) ?_; rotate_left 1; (go_simp; with_reducible rfl)
      try simp only [Act.put, List.setIfInBounds_toArray, List.set_cons_zero, List.set_cons_succ]
      refine plan_w (v := ?_) rfl rfl (fun wx => ?_) ?_; rotate_left 1; (go_simp; with_reducible rfl)
      try simp only [Act.put, List.setIfInBounds_toArray, List.set_cons_zero, List.set_cons_succ]
      clear hk7
      refine plan_m rfl rfl ?_
      have HR8 := Lib.hid (show Rd (World.drew _) (cutZ sa lm sc 4) (m * 4) (L.drop (lm * 4)) from (by
        have h := (HSR.out.still HST1.out.fr).cutZ (l := lm) (c := sc) (by have := HM.out; omega) HSC.out
        rw [show S.length - lm = m by have := HM.out; omega] at h
        exact h.still (Fr.refl Nob _).drew))
      refine wp_appendW (Own.nil _ _ 31 4) rfl Tryd.underlying29 info_item rfl (by decide) rfl rfl HR8.out (fun u hu => (HI.out.one' u (List.mem_of_mem_drop hu))) (by have := HM8.out; unfold maxLen; omega) (by have := HM8.out; omega) (Nat.le_refl _) ?_
      intro v8 w8 ho8 hf8 hk8 hb8
      have hfn : Fr Nob _ w8 := hf8.mono fun k _ e => by cases e
      obtain ⟨a8, c8, rfl, -, hr8, hb8⟩ := id ho8.form
      have HOFF := Lib.hid (show ∀ y, a8 = some y → y.block ≠ ga17 from fun y hy e => by
        have h1 := hb8 y hy
        have h2 := (HST1.out.at 0 rfl).lt
        have h3 : (World.drew w2).heap.size = w2.heap.size := rfl
        omega)
      rw [Nat.zero_add] at hr8
      rw [List.nil_append] at hr8
      have HFN := Lib.hid (show Fr Nob w2 w8 from (Fr.refl Nob w2).drew.then hfn)
      have HRR8 := Lib.hid hr8
      have hh8 := (HST1.out.at 0 rfl).keep HFN.out id
      have hge := (HST1.out.own _ (by exact List.mem_cons_self)).resolve_right id
      obtain ⟨u8', cu8, fu8⟩ := hh8.ready (i := 3) (by simp)
      have HST2 := Lib.hid ((HST1.out.keep HFN.out).set 0 rfl 3 (.slice a8 m c8))
      have HFW8 := Lib.hid (show Fr Nob wr (w8.setCell ⟨ga17, 3, none⟩ (.slice a8 m c8)) from HST2.out.fr)
      have HB8 := Lib.hid (show ∀ y, a8 = some y → w2.heap.size ≤ y.block from hb8)
      clear ho8 hf8 hfn hr8 hh8 hge hk8 hb8
      simp only [Nat.zero_add]
      try simp only [Act.put, List.setIfInBounds_toArray, List.set_cons_zero, List.set_cons_succ]
      refine plan_w (v := ?_) rfl rfl (fun wx => ?_) ?_; rotate_left 1; (go_simp; with_reducible rfl)
      try simp only [Act.put, List.setIfInBounds_toArray, List.set_cons_zero, List.set_cons_succ]
      refine plan_m rfl rfl ?_
      go_simp
      try simp only [Act.put, List.setIfInBounds_toArray, List.set_cons_zero, List.set_cons_succ]
      refine plan_end ?_
      refine NoPanic.normal ?_
      obtain ⟨w9, hw9⟩ : ∃ w9, w8.setCell ⟨ga17, 3, none⟩ (.slice a8 m c8) = w9 := ⟨_, rfl⟩
      have HR9 := Lib.hid (show Rd w9 a8 (m * 4) (L.drop (lm * 4)) from by
        rw [← hw9]
        refine HRR8.out.keep ((Fr.refl (One ga17) w8).setCell ga17 3 none _ fun _ => rfl) fun y hy e => ?_
        exact HOFF.out y hy e)
      have HRD3 := Lib.hid (show RdC w9 p15 d.length c15 d from by
        rw [← hw9]
        refine ⟨?_, HRE.out.2⟩
        rcases Nat.eq_zero_or_pos d.length with h0 | h0
        · exact HRE.out.1.zero h0
        have hofd := HRE.out.1.offIt h0 (HST1.out.at 0 rfl) (by intro u hu x; simp only [List.mem_cons, List.not_mem_nil, or_false] at hu; rcases hu with rfl | rfl | rfl | rfl <;> simp)
        exact (HRE.out.1.still HFN.out).keep ((Fr.refl (One ga17) w8).setCell ga17 3 none _ fun _ => rfl) fun y hy e => hofd y hy e)
      rw [hw9] at HST2 HFW8 ⊢
      clear cu8 fu8 hw9
      have hk6 := fun wx => run_sliceZ_hi (P := Tryd.prog) wx Tryd.underlying29 size_item sa S.length sc .i64 lm (by have := HM.out; have := HSC.out; omega)
      have st12 : St Nob wr w9 [(ga17, [.int .i64 k, .int .u64 (n : Int), .slice p15 d.length c15, .slice a8 m c8], 31)] := HST2.out
      have HD9 := Lib.hid (HFW8.out)
      clear HST1 HST2 HFN HRR8 HR8 HRE HOFF
      go_wp2_with fail
      go_wp2_with fail
      refine wp_region_noPanic ?_
      have hd20 := st12.drew
      clear st12
      refine wp_region_posA (fun wx => St Nob wr wx [(ga17, [.int .i64 k, .int .u64 (n : Int), .slice p15 d.length c15, .slice a8 m c8], 31)] ∧ Fr Nob (World.drew _) wx) [0, 1, 2, 3, 4, 5, 6, 7, 8, 9] [] (fun i => match i with | 0 => [] | 1 => [] | 2 => [] | 3 => [2] | 4 => [] | 5 => [3, 4] | 6 => [1, 5] | 7 => [0, 6] | 8 => [] | 9 => [8] | _ => []) (fun i x wx => match i with | 0 => ∃ g0, x 0 = .slice (some ⟨g0, 0, none⟩) 0 0 ∧ (World.drew w9).heap.size ≤ g0 ∧ Has wx g0 [] 31 | 1 => x 1 = .slice sa S.length sc | 2 => x 2 = .slice sa S.length sc | 3 => x 3 = .int .i64 ((S.length : Nat) : Int) | 4 => x 4 = .int .i64 ((m : Nat) : Int) | 5 => x 5 = .int .i64 ((lm : Nat) : Int) | 6 => x 6 = .slice sa lm sc | 7 => ∃ p c, x 7 = .slice p lm c ∧ Go.Mv.Own wx (World.drew w9).heap.size 31 4 (.slice p lm c) lm (L.take (lm * 4)) | 8 => x 8 = .agg #[.int .i64 k, .int .u64 (n : Int), .slice p15 d.length c15, .slice a8 m c8] | 9 => ∃ g9, x 9 = .slice (some ⟨g9, 0, none⟩) 1 1 ∧ Has wx g9 [.int .i64 k, .int .u64 (n : Int), .slice p15 d.length c15, .slice a8 m c8] 31 | _ => True) 10 (.m 10 (.w 11 .nil)) ?_ (fun x => ?_) (by kernel_rfl) (by kernel_rfl) (fun _ _ _ _ _ h => h) ⟨hd20, Fr.refl _ _⟩ (fun _ _ h k => ⟨h.1.keep k, h.2.then k⟩) ?_ ?_
      rotate_left 1
      · simp only [puts, putI, Act.put, List.getElem?_toArray, List.getElem?_cons_zero, List.getElem?_cons_succ, List.setIfInBounds_toArray, List.set_cons_zero, List.set_cons_succ]
        exact rfl
      refine obls_cons rfl rfl (fun x wx hG hp => ?_) (fun y _ _ h k => by obtain ⟨g, h1, h2, h3⟩ := h; exact ⟨g, h1, h2, h3.keep k id⟩) ?_
      · try dsimp only
        clear hp
        refine pos_lit0 rfl Tryd.underlying29 info_item ?_
        intro g w' hf hle hg
        exact ⟨g, rfl, Nat.le_trans hG.2.size hle, hg⟩
      refine obls_cons rfl rfl (fun x wx hG hp => ?_) (fun y _ _ h k => h) ?_
      · try dsimp only
        clear hp
        exact pos_v (v := .slice sa S.length sc) (by go_simp; try with_reducible rfl) rfl
      refine obls_cons rfl rfl (fun x wx hG hp => ?_) (fun y _ _ h k => h) ?_
      · try dsimp only
        clear hp
        exact pos_v (v := .slice sa S.length sc) (by go_simp; try with_reducible rfl) rfl
      refine obls_cons rfl rfl (fun x wx hG hp => ?_) (fun y _ _ h k => h) ?_
      · try dsimp only
        have e2 : x 2 = .slice sa S.length sc := hp 2 (by decide)
        generalize x 2 = v2 at e2 ⊢
        subst e2
        clear hp
        exact pos_v (v := .int .i64 ((S.length : Nat) : Int)) (by go_simp; try with_reducible rfl) rfl
      refine obls_cons rfl rfl (fun x wx hG hp => ?_) (fun y _ _ h k => h) ?_
      · try dsimp only
        clear hp
        exact pos_v (v := .int .i64 ((m : Nat) : Int)) (by go_simp; try with_reducible rfl) rfl
      refine obls_cons rfl rfl (fun x wx hG hp => ?_) (fun y _ _ h k => h) ?_
      · try dsimp only
        have e3 : x 3 = .int .i64 ((S.length : Nat) : Int) := hp 3 (by decide)
        generalize x 3 = v3 at e3 ⊢
        subst e3
        have e4 : x 4 = .int .i64 ((m : Nat) : Int) := hp 4 (by decide)
        generalize x 4 = v4 at e4 ⊢
        subst e4
        clear hp
        exact pos_v (v := .int .i64 ((lm : Nat) : Int)) (by go_simp; try with_reducible rfl) rfl
      refine obls_cons rfl rfl (fun x wx hG hp => ?_) (fun y _ _ h k => h) ?_
      · try dsimp only
        have e1 : x 1 = .slice sa S.length sc := hp 1 (by decide)
        generalize x 1 = v1 at e1 ⊢
        subst e1
        have e5 : x 5 = .int .i64 ((lm : Nat) : Int) := hp 5 (by decide)
        generalize x 5 = v5 at e5 ⊢
        subst e5
        clear hp
        exact pos_v (v := .slice sa lm sc) (by go_simp; try with_reducible rfl) rfl
      refine obls_cons rfl rfl (fun x wx hG hp => ?_) (fun y _ _ h k => by obtain ⟨p, c, h1, h2⟩ := h; exact ⟨p, c, h1, h2.still k⟩) ?_
      · try dsimp only
        have e0 : ∃ g0, x 0 = .slice (some ⟨g0, 0, none⟩) 0 0 ∧ (World.drew w9).heap.size ≤ g0 ∧ Has wx g0 [] 31 := hp 0 (by decide)
        obtain ⟨g0, e0, HLE0, HG0⟩ := e0
        generalize x 0 = v0 at e0 ⊢
        subst e0
        have e6 : x 6 = .slice sa lm sc := hp 6 (by decide)
        generalize x 6 = v6 at e6 ⊢
        subst e6
        clear hp
        refine pos_app0 rfl Tryd.underlying29 info_item rfl (by decide) HG0 HLE0 rfl rfl (((HSR.out.still HFW8.out).still ((Fr.refl Nob w9).drew.then hG.2)).takeZ (by have := HM.out; omega)) (fun u hu => HI.out.one' u (List.mem_of_mem_take hu)) (by have := HM.out; have := HSL.out; unfold maxLen; omega) (by have := HM.out; have := HSL.out; omega) ?_
        intro v' w' hf ho
        obtain ⟨p, c, rfl, -⟩ := id ho.form
        exact ⟨p, c, rfl, ho⟩
      refine obls_cons rfl rfl (fun x wx hG hp => ?_) (fun y _ _ h k => h) ?_
      · try dsimp only
        clear hp
        exact pos_v (exec_loadW (hG.1.at 0 rfl) rfl rfl Tryd.underlying31 rfl (by kernel_rfl)) rfl
      refine obls_cons rfl rfl (fun x wx hG hp => ?_) (fun y _ _ h k => by obtain ⟨g, h1, h2⟩ := h; exact ⟨g, h1, h2.keep k id⟩) ?_
      · try dsimp only
        have e8 : x 8 = .agg #[.int .i64 k, .int .u64 (n : Int), .slice p15 d.length c15, .slice a8 m c8] := hp 8 (by decide)
        generalize x 8 = v8 at e8 ⊢
        subst e8
        clear hp
        refine pos_rows rfl Tryd.underlying29 info_item [.agg #[.int .i64 k, .int .u64 (n : Int), .slice p15 d.length c15, .slice a8 m c8]] rfl (by intro v hv; simp only [List.mem_singleton] at hv; subst hv; rfl) rfl [.int .i64 k, .int .u64 (n : Int), .slice p15 d.length c15, .slice a8 m c8] rfl ?_
        intro g w' hf hle hg
        exact ⟨g, rfl, hg⟩
      exact trivial
      intro x w21 hG hp
      try dsimp only
      have e7 : ∃ p c, x 7 = .slice p lm c ∧ Go.Mv.Own w21 (World.drew w9).heap.size 31 4 (.slice p lm c) lm (L.take (lm * 4)) := hp 7 (by decide)
      obtain ⟨p7, c7, e7, HL7⟩ := e7
      generalize x 7 = v7 at e7 ⊢
      subst e7
      have e9 : ∃ g9, x 9 = .slice (some ⟨g9, 0, none⟩) 1 1 ∧ Has w21 g9 [.int .i64 k, .int .u64 (n : Int), .slice p15 d.length c15, .slice a8 m c8] 31 := hp 9 (by decide)
      obtain ⟨g9, e9, HG9⟩ := e9
      generalize x 9 = v9 at e9 ⊢
      subst e9
      clear hp
      generalize x 0 = v0
      generalize x 1 = v1
      generalize x 2 = v2
      generalize x 3 = v3
      generalize x 4 = v4
      generalize x 5 = v5
      generalize x 6 = v6
      generalize x 8 = v8
      have st21 := hG.1
      have hG2 := hG.2
      clear hG hd20
      refine plan_m rfl rfl ?_
      have HFB := Lib.hid (show Fr Nob w9 _ from (Fr.refl Nob w9).drew.then hG2)
      refine wp_appendW HL7 rfl Tryd.underlying29 info_item rfl (by decide) rfl (m := 1) (c := 1) (news := [.int .i64 k, .int .u64 (n : Int), .slice p15 d.length c15, .slice a8 m c8]) rfl (show Rd _ (some ⟨g9, 0, none⟩) (1 * 4) [.int .i64 k, .int .u64 (n : Int), .slice p15 d.length c15, .slice a8 m c8] from Rd.whole HG9) (it4_one _ _ rfl rfl _ _ _ _ _ _) (by have := HM.out; have := HSL.out; unfold maxLen; omega) (by have := HM.out; have := HSL.out; omega) hG2.size ?_
      intro v10 w22 ho10 hf10 hk10 hb10
      have st22 := St.start Nob wr
      have HO10 := Lib.hid ho10
      have HF10 := Lib.hid (HL7.fr (HFW8.out.then HFB.out) (show wr.heap.size ≤ (World.drew w9).heap.size from HFW8.out.size) hf10)
      have HF109 := Lib.hid (HL7.fr HFB.out (show w9.heap.size ≤ (World.drew w9).heap.size from Nat.le_refl _) hf10)
      obtain ⟨a10, c10, rfl, -⟩ := id ho10.form
      clear ho10 hf10 hk10 hb10 HL7 HG9 hG2
      clear st21
      try simp only [Act.put, List.setIfInBounds_toArray, List.set_cons_zero, List.set_cons_succ]
      refine plan_w (v := ?_) rfl rfl (fun wx => ?_) ?_
      rotate_left 1
      · (go_simp; with_reducible rfl)
      try simp only [Act.put, List.setIfInBounds_toArray, List.set_cons_zero, List.set_cons_succ]
      refine plan_end ?_
      refine NoPanic.normal ?_
      clear hk6 st22
      have hsl : (S.take lm ++ [It.mk k n d (S.drop lm)]).length = lm + 1 := by rw [List.length_append, List.length_take, List.length_singleton]; have := HM.out; omega
      have HIN := Lib.hid (show ItsL _ (One gr) (L.take (lm * 4) ++ [.int .i64 k, .int .u64 (n : Int), .slice p15 d.length c15, .slice a8 m c8]) (S.take lm ++ [It.mk k n d (S.drop lm)]) from by
        obtain ⟨i1, i2⟩ := HI.out.split lm (by have := HM.out; omega)
        refine (i1.still HF10.out).app (ItsL.one rfl ?_)
        unfold ItX
        have hgr := (HST.out.at 0 rfl).lt
        have hs1 := HF.out.size
        have hdl : (S.drop lm).length = m := by rw [List.length_drop]; have := HM.out; omega
        refine ⟨p15, c15, a8, c8, by rw [hdl], ⟨HRD3.out.still HF109.out, fun y hy (e : y.block = gr) => by have h1 : wr.heap.size ≤ y.block := HDB.out y hy; omega⟩, HN1.out, by have := HDL.out; omega, by rw [hdl]; have := HM8.out; omega, ?_⟩
        rcases Nat.eq_zero_or_pos m with h0 | h0
        · exact .inl (List.eq_nil_of_length_eq_zero (by rw [hdl, h0]))
        · obtain ⟨lb, lo, e, hat⟩ := (HR9.out.still HF109.out).at (by omega)
          exact .inr ⟨lb, lo, e, fun (e2 : lb = gr) => by have h1 : w2.heap.size ≤ lb := HB8.out _ e; have h2 := HFWW.out.size; omega, (i2.still HF10.out).mem hat⟩)
      have HSN := Lib.hid (show S.take lm ++ [It.mk k n d (S.drop lm)] = (l.take (ix + 1)).foldl stepS [] from by
        rw [List.take_add_one, HT.out, List.foldl_append, ← HS.out, ← HSS.out]; rfl)
      have HON := Lib.hid (show Go.Mv.Own _ wb.heap.size 31 4 _ (S.take lm ++ [It.mk k n d (S.drop lm)]).length (L.take (lm * 4) ++ [.int .i64 k, .int .u64 (n : Int), .slice p15 d.length c15, .slice a8 m c8]) from by
        rw [hsl]; exact HO10.out.mono (Nat.le_trans HF.out.size (show wr.heap.size ≤ (World.drew w9).heap.size from HFW8.out.size)))
      have HLN := Lib.hid hsl
      clear hsl hsub
      go_wp2_with fail
      go_roundw
      case rel => exact ⟨ix + 1, _, _, by go_num, by have := HIL.out; omega, HON, HIN, HSN, by rw [HLN.out]; have h1 := HM.out; have h2 := HSi.out; omega, Lib.hid (HF.out.then HF10.out)⟩
      case measure => have := HIL.out; simp [intOf]; omega
    · have hie : ix = l.length := by omega
      subst hie
      have hiI : ¬ ((l.length : Nat) : Int) < (l.length : Int) := by omega
      rw [List.take_length] at HS
      have stR := HST.out.keep HF.out
      by_cases hz : S.length = 0
      · have hzB : ((((S.length : Nat) : Int)) == 0) = true := by simp [hz]
        have HE := Lib.hid (List.eq_nil_of_length_eq_zero hz)
        have HSTR := Lib.hid stR
        clear hz stR
        go_wp2_with (with_reducible refine wl_stop (o := ⟨some 72, _, _, _, _, _⟩) ?_)
        unfold Stop
        refine wl_build0 rfl rfl #[.int .i64 0, .int .u64 0, .slice none 0 0, .slice none 0 0] (by kernel_rfl) ?_
        refine wl_storeS HSTR.out 0 rfl rfl rfl rfl (cs := [.int .i64 0, .int .u64 0, .slice none 0 0, .slice none 0 0]) rfl rfl (by kernel_rfl) (it4_one _ _ rfl rfl _ _ _ _ _ _) ?_
        intro w5 st5
        have HST5 := Lib.hid st5
        clear st5
        go_wp2_with fail
        refine bodyPost_ret (results_itW rfl rfl (HST5.out.at 0 rfl) Tryd.underlying31 rfl (by kernel_rfl)) rfl ⟨[.int .i64 0, .int .u64 0, .slice none 0 0, .slice none 0 0], rfl, rfl, ?_, HST5.out.fr⟩
        rw [← HS.out, HE.out]
        show ItV w5 _ (It.mk 0 0 [] [])
        unfold ItV
        exact ⟨none, 0, none, 0, rfl, ⟨RdB.nil _ _, Nat.le_refl _⟩, by omega, by simp, by simp, .inl rfl⟩
      · have hzB : ((((S.length : Nat) : Int)) == 0) = false := by rw [beq_eq_false_iff_ne]; omega
        obtain ⟨v, hv4, hvL, hvI⟩ := HI.out.last (fun h => by subst h; simp at hz)
        obtain ⟨b7, o7, rfl, hat⟩ := HSR.out.at (by omega)
        have hsl : ((S.length - 1 : Nat) : Int) = ((S.length : Nat) : Int) - 1 := by omega
        have hat2 : At wr b7 (o7 + (S.length - 1) * 4) v := fun j u hu => by
          rw [Nat.add_assoc]
          refine hat _ u ?_
          rw [← hvL, List.getElem?_drop] at hu
          exact hu
        have HAT := Lib.hid hat2
        have HVI := Lib.hid hvI
        have HV4 := Lib.hid hv4
        have HSTR := Lib.hid stR
        have hlt1 : ((S.length : Nat) : Int) - 1 < ((S.length : Nat) : Int) := by omega
        have hlt0 : (0 : Int) ≤ ((S.length : Nat) : Int) - 1 := by omega
        have htn : (((S.length : Nat) : Int) - 1).toNat = S.length - 1 := by omega
        have HTN := Lib.hid htn
        clear hz stR hat hat2 hvI hv4 hvL hsl
        go_wp2_with (with_reducible refine wl_stop (o := ⟨some 78, _, _, _, _, _⟩) ?_)
        unfold Stop
        refine wl_loadR rfl rfl Tryd.underlying31 rfl rfl HAT.out (by rw [HV4.out]; kernel_rfl) ?_
        refine wl_storeSW HSTR.out 0 rfl rfl rfl rfl (cs := v) rfl (by rw [HV4.out]; rfl) (by rw [HV4.out]; kernel_rfl) HVI.out.one ?_
        intro w5 st5 hfs
        have HST5 := Lib.hid st5
        have HFS := Lib.hid hfs
        clear st5 hfs
        go_wp2_with fail
        refine bodyPost_ret (results_itW rfl rfl (HST5.out.at 0 rfl) Tryd.underlying31 rfl (by rw [HV4.out]; kernel_rfl)) rfl ⟨v, rfl, HV4.out, ?_, HST5.out.fr⟩
        rw [← HS.out]
        exact ItX.itv _ (ItX.keep _ HVI.out HFS.out fun _ e => e)
end Go.Proofs.YtdadnajbdnbbdaaDoor

/- mintvaultlaw4.WirePrints: the walk of the law. -/
namespace Go.Proofs.YtdadnajbdnbbdaaDoor
open Go.RowKit Go.Mv Mvp
theorem vok_of {w : World} (hT : Lib.Utf8Tabs 0 1 w) : VOk Lib.validD w := fun a n c l wx h hn hf =>
  Valid_any a n c l wx h hn ⟨fun c hc => hf.cell id (hT.1 c hc), fun i hi => ⟨hf.cell id (hT.2 i hi).1, hf.cell id (hT.2 i hi).2⟩⟩
theorem sumN_mem : ∀ (l : List Nd) (x : Nd), x ∈ l → x.2.2.1.length ≤ sumN l
  | y :: l, x, h => by
    unfold sumN
    rw [List.map_cons, List.sum_cons]
    rcases List.mem_cons.1 h with rfl | h
    · omega
    · have := sumN_mem l x h
      unfold sumN at this
      omega
set_option maxHeartbeats 4000000 in
set_option maxRecDepth 1000000 in
theorem law_WirePrints (a : Option Addr) (c : Nat) (l : List Nd) (w : World) (h : Rd w a (l.length * 4) (ndsC l)) (hs : ∀ x ∈ l, x.2.2.1.length ≤ 140737488355328) (hl : l.length ≤ 140737488355328)
    (hx : ∀ x ∈ l, x.2.1 < 18446744073709551616 ∧ -9223372036854775808 ≤ x.2.2.2 ∧ x.2.2.2 < 9223372036854775808) (hT : Lib.Utf8Tabs 0 1 w) :
    Calls Tryd.prog 3 #[.slice a l.length c] w fun e w' => e = .returned (.bool true) ∧ Fr Nob w w' := by
  have H := Lib.hid h
  have HX := Lib.hid hx
  have HV := Lib.hid (vok_of hT)
  have hsm := small_any a c l w h hs hl
  clear h hs hl hx hT
  go_enter Tryd.func3, Tryd.ntmps3
  go_wp2_with fail
  refine hsm.mono ?_
  rintro e w1 ⟨b, rfl, hb, rfl⟩
  clear hsm
  cases b with
  | false =>
    clear hb
    go_wp2_with fail
    go_ret
    exact ⟨rfl, Fr.refl _ _⟩
  | true =>
    obtain ⟨hl, hs⟩ := hb rfl
    have HB := Lib.hid (show ∀ x ∈ l, x.2.1 < 18446744073709551616 ∧ x.2.2.1.length ≤ 262144 ∧ -9223372036854775808 ≤ x.2.2.2 ∧ x.2.2.2 < 9223372036854775808 from fun x hx => ⟨(HX.out x hx).1, Nat.le_trans (sumN_mem l x hx) hs, (HX.out x hx).2⟩)
    have HL := Lib.hid hl
    clear hb hl hs
    go_wp2_with fail
    refine (built_any a c l w H.out HB.out HL.out).mono ?_
    rintro e w2 ⟨vs, rfl, hv4, hvi, hf2⟩
    have HF2 := Lib.hid hf2
    have hp := Print_any Lib.validD (topS (l.foldl stepS [])) vs w2 (HV.out.mono hf2) hv4 hvi
    have HPW := Lib.hid (printW Lib.validD (topS (l.foldl stepS [])))
    clear hf2 hv4 hvi
    obtain ⟨r, hr⟩ : ∃ r, prW Lib.validD (topS (l.foldl stepS [])) 1 4096 [] = r := ⟨_, rfl⟩
    rw [hr] at hp HPW
    clear hr
    go_wp2_with fail
    refine hp.mono ?_
    intro e w3 h3
    clear hp
    cases r with
    | none =>
      obtain ⟨rfl, hf3⟩ := h3
      have HF3 := Lib.hid (HF2.out.then hf3)
      clear hf3
      go_wp2_with fail
      refine (built_any a c l w3 (H.out.still HF3.out) HB.out HL.out).mono ?_
      rintro e w4 ⟨vs2, rfl, hv4, hvi, hf4⟩
      have HF4 := Lib.hid (HF3.out.then hf4)
      have hp := RPrint_any Lib.validD (topS (l.foldl stepS [])) vs2 w4 (HV.out.mono HF4.out) hv4 hvi
      rw [← HPW.out] at hp
      clear hf4 hv4 hvi
      go_wp2_with fail
      refine hp.mono ?_
      rintro e w5 ⟨he, hf5⟩
      obtain rfl : e = .returned (.tuple #[.string (mkS []), .bool false]) := he
      have HF5 := Lib.hid (HF4.out.then hf5)
      clear hf5 hp
      go_wp2_with fail
      go_ret
      exact ⟨rfl, HF5.out⟩
    | some r =>
      obtain ⟨m, b⟩ := r
      obtain ⟨v, rfl, ho3, hf3⟩ := h3
      obtain ⟨av, cv, rfl, -, hrd, -⟩ := id ho3.form
      rw [Nat.mul_one] at hrd
      have HRD := Lib.hid (show RdB w3 av b.length b from hrd)
      have HF3 := Lib.hid (HF2.out.then hf3)
      clear hf3 ho3 hrd
      go_wp2_with fail
      refine (built_any a c l w3 (H.out.still HF3.out) HB.out HL.out).mono ?_
      rintro e w4 ⟨vs2, rfl, hv4, hvi, hf4⟩
      have HF4 := Lib.hid (HF3.out.then hf4)
      have HF34 := Lib.hid hf4
      have hp := RPrint_any Lib.validD (topS (l.foldl stepS [])) vs2 w4 (HV.out.mono HF4.out) hv4 hvi
      rw [← HPW.out] at hp
      clear hf4 hv4 hvi
      go_wp2_with fail
      refine hp.mono ?_
      rintro e w5 ⟨he, hf5⟩
      obtain rfl : e = .returned (.tuple #[.string (mkS b), .bool true]) := he
      have HF5 := Lib.hid (HF4.out.then hf5)
      have hstr := run_string (P := Tryd.prog) (HRD.out.still (HF34.out.then hf5)) cv Tryd.underlying24 Tryd.underlying5 Tryd.underlying9
      clear hf5 hp
      go_wp2_with fail
      go_ret
      exact ⟨rfl, HF5.out⟩
end Go.Proofs.YtdadnajbdnbbdaaDoor

/- Arguments that were handed in, opened into the words of Mem. -/
namespace Go.Mv
open Go.RowKit Go.ChangeShapes Go.WideShapes

section
variable {H : Type} {enc : TypeId × Value → H} {P : Program} {w : World} {base : Nat} {held : Bool} {spare : Nat → Bool}
theorem weightsAll_mem {e : TypeId} : ∀ {ds : List (DataW H)} {d : DataW H}, d ∈ ds → ∀ n ∈ d.weights P e, n ∈ DataW.weightsAll P e ds
  | [], _, h, _, _ => by simp at h
  | d0 :: ds, d, h, n, hn => by
    simp only [DataW.weightsAll, List.mem_append]
    rcases List.mem_cons.1 h with rfl | h
    · exact .inl hn
    · exact .inr (weightsAll_mem h n hn)
theorem i64_wf {n : Int} (h : (Lit.int .i64 n).wf = true) : -9223372036854775808 ≤ n ∧ n ≤ 9223372036854775807 := by
  simpa [Lit.wf, IntKind.min, IntKind.max, IntKind.signed, IntKind.bits] using h
end
end Go.Mv

/- Slices and structs that were handed in, of any element type, opened. -/
namespace Go.Mv
open Go.RowKit Go.ChangeShapes Go.WideShapes
section
variable {H : Type} {enc : TypeId × Value → H} {P : Program} {w : World} {base : Nat} {held : Bool} {spare : Nat → Bool}
/-- what was read takes no more room than a machine has -/
def Fits (P : Program) (t : TypeId) (d : DataW H) : Prop := ∀ k ∈ d.weights P t, k ≤ 140737488351232
theorem fits_of {ts : List TypeId} {ds : List (DataW H)} (hz : (DataW.weightsEach P ts ds).all (· ≤ reachBytes) = true) {j : Nat} {t : TypeId} {d : DataW H} (ht : ts[j]? = some t) (hd : ds[j]? = some d) : Fits P t d := by
  intro k hk
  have := List.all_eq_true.1 hz k (DataW.weights_mem_each ht hd k hk)
  have hr : reachBytes = 140737488351232 := rfl
  rw [hr] at this
  simpa using this
/-- cells that read as a value of type t -/
def Reads (enc : TypeId × Value → H) (P : Program) (w : World) (spare : Nat → Bool) (held : Bool) (t : TypeId) (cs : List Value) : Prop := ∃ n y, DataW.trod enc P w 0 spare held n t cs = some y ∧ Fits P t y.1

theorem open_cells {t e : TypeId} {sz : Nat} {cs : List Value} (ht : P.underlying t = some (.slice e)) (hsz : P.cellsOf e = sz) (hpos : 0 < sz) (h : Reads enc P w spare held t cs) :
    ∃ a c css, cs = [.slice a (List.length css) c] ∧ Rd w a (css.length * sz) css.flatten ∧ (∀ x ∈ css, x.length = sz ∧ Reads enc P w spare held e x) ∧ css.length ≤ c ∧ c ≤ 9223372036854775807 ∧ css.length * P.bytesOf e ≤ 140737488351232 := by
  obtain ⟨fuel, y, hf, hfit⟩ := h
  rcases DataW.trod_slice ht hf with ⟨hcs, hx⟩ | ⟨a, len, cap, elems, rest, n, _, rfl, rfl, hb, hl, hm, hlen, hel, hsp, hns⟩
  · exact ⟨none, 0, [], hcs, by simpa using Rd.nil w none, by simp, by simp, by simp, by simp⟩
  · have hget : ∀ i, (hi : i < len) → ∃ x : List Value, w.cells? 0 (a.add (i * P.cellsOf e)) (P.cellsOf e) = some x ∧ DataW.trod enc P w 0 spare held n e x = some (elems[i]'(by omega)) := fun i hi => by
      have := hel i hi
      rw [List.getElem?_eq_getElem (by omega), Option.bind_eq_some_iff] at this
      exact this
    have hall : ∀ d ∈ elems.map (·.1), ∀ k ∈ d.weights P e, k ≤ 140737488351232 := fun d hd k hk => by
      refine hfit k ?_
      simp only [DataW.weights, ht, List.mem_cons, List.mem_append]
      exact .inr (.inl (weightsAll_mem hd k hk))
    have hone : (elems.map (·.1)).length * P.bytesOf e ≤ 140737488351232 := by
      have h1 := hfit (((elems.map (·.1)).length + (rest.map (·.1)).length) * P.bytesOf e) (by simp [DataW.weights, ht])
      have h2 : (elems.map (·.1)).length * P.bytesOf e ≤ ((elems.map (·.1)).length + (rest.map (·.1)).length) * P.bytesOf e := Nat.mul_le_mul_right _ (by omega)
      omega
    -- the cells of each
    let f : Nat → List Value := fun i => if hi : i < len then (hget i hi).choose else []
    have hf' : ∀ i, (hi : i < len) → w.cells? 0 (a.add (i * P.cellsOf e)) (P.cellsOf e) = some (f i) ∧ DataW.trod enc P w 0 spare held n e (f i) = some (elems[i]'(by omega)) := fun i hi => by
      have := (hget i hi).choose_spec
      simp only [f, dif_pos hi]
      exact this
    have hfl : ∀ i, (hi : i < len) → (f i).length = sz := fun i hi => by
      have := (World.cells?_some (hf' i hi).1).2.1
      rw [hsz] at this; exact this
    refine ⟨some a, cap, (List.range len).map f, by simp, ?_, ?_, by simpa using hl, by simpa [maxLen] using hm, by simpa [hlen] using hone⟩
    · have hflat : ((List.range len).map f).flatten.length = len * sz := by
        have : ∀ m, m ≤ len → ((List.range m).map f).flatten.length = m * sz := by
          intro m
          induction m with
          | zero => intro _; simp
          | succ m ih =>
            intro hm
            rw [List.range_succ, List.map_append, List.flatten_append, List.length_append, ih (by omega)]
            simp only [List.map_cons, List.map_nil, List.flatten_cons, List.flatten_nil, List.append_nil]
            rw [hfl m (by omega), Nat.succ_mul]
        exact this len (Nat.le_refl _)
      refine ⟨by rw [hflat]; simp, ?_⟩
      rcases Nat.eq_zero_or_pos len with h0 | h0
      · left; simp [h0]
      · right
        obtain ⟨b, o, spot⟩ := a
        have hspot : spot = none := by
          have h1 := (World.cells?_some (hf' 0 h0).1).2.2 0 (by omega)
          have h2 : (f 0)[0]? = some ((f 0)[0]'(by rw [hfl 0 h0]; exact hpos)) := List.getElem?_eq_getElem _
          rw [h2] at h1
          simpa [Addr.add] using World.cell?_spot h1
        subst hspot
        refine ⟨b, o, rfl, ?_⟩
        intro i v hv
        -- the element that place i lies in
        have hi : i < len * sz := by
          rcases Nat.lt_or_ge i (len * sz) with k | k
          · exact k
          · rw [List.getElem?_eq_none (by rw [hflat]; exact k)] at hv; cases hv
        have key : ∀ m, m ≤ len → ∀ i v, i < m * sz → ((List.range m).map f).flatten[i]? = some v → w.cell? ⟨b, o + i, none⟩ = some v := by
          intro m
          induction m with
          | zero => intro _ i v hi; omega
          | succ m ih =>
            intro hm i v hi hv
            rw [List.range_succ, List.map_append, List.flatten_append] at hv
            have hml : ((List.range m).map f).flatten.length = m * sz := by
              have : ∀ m, m ≤ len → ((List.range m).map f).flatten.length = m * sz := by
                intro m
                induction m with
                | zero => intro _; simp
                | succ m ih =>
                  intro hm
                  rw [List.range_succ, List.map_append, List.flatten_append, List.length_append, ih (by omega)]
                  simp only [List.map_cons, List.map_nil, List.flatten_cons, List.flatten_nil, List.append_nil]
                  rw [hfl m (by omega), Nat.succ_mul]
              exact this m (by omega)
            by_cases hlt : i < m * sz
            · rw [List.getElem?_append_left (by omega)] at hv
              exact ih (by omega) i v hlt hv
            · rw [List.getElem?_append_right (by omega), hml] at hv
              simp only [List.map_cons, List.map_nil, List.flatten_cons, List.flatten_nil, List.append_nil] at hv
              rw [Nat.succ_mul] at hi
              have h1 := (World.cells?_some (hf' m (by omega)).1).2.2 (i - m * sz) (by omega)
              rw [hv, hsz, addr_add, addr_add] at h1
              rwa [show o + m * sz + (i - m * sz) = o + i by omega] at h1
        exact key len (Nat.le_refl _) i v hi hv
    · intro x hx
      simp only [List.mem_map, List.mem_range] at hx
      obtain ⟨i, hi, rfl⟩ := hx
      refine ⟨hfl i hi, n, _, (hf' i hi).2, ?_⟩
      exact hall _ (List.mem_map.2 ⟨elems[i]'(by omega), List.getElem_mem _, rfl⟩)
theorem reads_of {t : TypeId} {v : Value} {d : DataW H} {ps : List MemPlace} (h : DataW.Trod enc P w 0 spare held t v d ps) (hf : Fits P t d) : Reads enc P w spare held t v.cells.toList := by
  obtain ⟨n, h⟩ := h
  exact ⟨n, _, h, hf⟩
/-- a slice that came in -/
theorem open_list {t e : TypeId} {sz : Nat} {v : Value} {d : DataW H} {ps : List MemPlace} (ht : P.underlying t = some (.slice e)) (hsz : P.cellsOf e = sz) (hpos : 0 < sz) (hv : Value.okWide P w .any base t v) (h : DataW.Trod enc P w 0 spare held t v d ps) (hfit : Fits P t d) :
    ∃ a c css, v = .slice a (List.length css) c ∧ Rd w a (css.length * sz) css.flatten ∧ (∀ x ∈ css, x.length = sz ∧ Reads enc P w spare held e x) ∧ css.length ≤ c ∧ c ≤ 9223372036854775807 ∧ css.length * P.bytesOf e ≤ 140737488351232 := by
  obtain ⟨a0, len, cap, rfl⟩ := okWide_slice ht hv
  obtain ⟨a, c, css, h1, h2⟩ := open_cells ht hsz hpos (reads_of h hfit)
  simp only [Value.cells, List.cons.injEq, and_true] at h1
  exact ⟨a, c, css, h1, h2⟩
/-- a string in cells -/
theorem Reads.string {t : TypeId} {cs : List Value} (ht : P.underlying t = some .string) (h : Reads enc P w spare held t cs) : ∃ l : List UInt8, cs = [.string (mkS l)] ∧ l.length ≤ 140737488351232 := by
  obtain ⟨n, y, h, hf⟩ := h
  obtain ⟨s, h1, h2, h3⟩ := DataW.trod_string ht h
  refine ⟨s.data.toList, by rw [h1, mkS_data], ?_⟩
  rw [h2] at hf
  have := hf s.data.toList.length (by simp [DataW.weights])
  simpa using this
theorem Reads.int {t : TypeId} {k : IntKind} {cs : List Value} (ht : P.underlying t = some (.int k)) (h : Reads enc P w spare held t cs) : ∃ n : Int, cs = [.int k n] ∧ (Lit.int k n).wf = true := by
  obtain ⟨n, y, h, hf⟩ := h
  obtain ⟨s, h1, h2, h3⟩ := DataW.trod_int ht h
  exact ⟨s, h1, h3⟩
theorem weightsEach_get {ts : List TypeId} {ds : List (DataW H)} {j : Nat} {t : TypeId} {d : DataW H} (ht : ts[j]? = some t) (hd : ds[j]? = some d) : ∀ n ∈ d.weights P t, n ∈ DataW.weightsEach P ts ds := DataW.weights_mem_each ht hd
/-- a struct in cells: its fields -/
theorem Reads.struct {t : TypeId} {fs : Array Field} {cs : List Value} (ht : P.underlying t = some (.struct fs)) (h : Reads enc P w spare held t cs) : cs.length = P.cellsOf t ∧ ∀ (i : Nat) (f : Field), fs[i]? = some f → ∀ (u : TypeId) (o k : Nat), f.type = u → f.offset = o → P.cellsOf u = k → Reads enc P w spare held u ((cs.drop o).take k) := by
  obtain ⟨n, y, h, hf⟩ := h
  obtain ⟨xs, m, -, hx, hl, hxl, hi⟩ := DataW.trod_struct ht h
  refine ⟨hl, fun i f hfi u o k hu ho hk => ?_⟩
  subst hu ho hk
  have h1 := hi i f hfi
  have hlt : i < xs.length := by
    rw [hxl]; exact (Array.getElem?_eq_some_iff.1 hfi).1
  rw [List.getElem?_eq_getElem hlt] at h1
  refine ⟨m, _, h1, ?_⟩
  intro k hk
  refine hf k ?_
  rw [hx]
  simp only [DataW.weights, ht]
  exact weightsEach_get (j := i) (by simp [hfi]) (by simp [List.getElem?_eq_getElem hlt]) k hk
theorem map_of_each {α : Type} {f : α → List Value} : ∀ {css : List (List Value)}, (∀ x ∈ css, ∃ s, x = f s) → ∃ l : List α, css = l.map f
  | [], _ => ⟨[], rfl⟩
  | x :: css, h => by
    obtain ⟨s, hs⟩ := h x (by simp)
    obtain ⟨l, hl⟩ := map_of_each (css := css) (fun y hy => h y (by simp [hy]))
    exact ⟨s :: l, by rw [hs, hl]; rfl⟩
end
end Go.Mv

/- What a list of steps that came in reads as; the two tables of unicode/utf8 off the row's cell. -/
namespace Go.Proofs.YtdadnajbdnbbdaaDoor
open Go.RowKit Go.Mv Go.ChangeShapes Go.WideShapes
theorem cells_node : Tryd.prog.cellsOf 36 = 4 := by kernel_rfl
theorem bytes_node : Tryd.prog.bytesOf 36 = 40 := by kernel_rfl
theorem cells_nint : Tryd.prog.cellsOf 3 = 1 := by kernel_rfl
theorem cells_nu64 : Tryd.prog.cellsOf 28 = 1 := by kernel_rfl
theorem cells_nstr : Tryd.prog.cellsOf 9 = 1 := by kernel_rfl
theorem cells_nu8 : Tryd.prog.cellsOf 5 = 1 := by kernel_rfl
theorem cells_first : Tryd.prog.cellsOf 66 = 256 := by kernel_rfl
theorem cells_range : Tryd.prog.cellsOf 68 = 2 := by kernel_rfl
theorem g_first : Tryd.prog.globalNamed "unicode/utf8.first" = some 0 := by kernel_rfl
theorem g_accept : Tryd.prog.globalNamed "unicode/utf8.acceptRanges" = some 1 := by kernel_rfl
theorem gt_first : (Tryd.prog.globals[0]?).map (·.type) = some 66 := by kernel_rfl
theorem gt_accept : (Tryd.prog.globals[1]?).map (·.type) = some 69 := by kernel_rfl
theorem d_first : Rows.laid_unicode_utf8_first = Lib.firstData := by kernel_rfl
theorem d_accept : (Rows.laid_unicode_utf8_acceptRanges : DataW Unit) = Lib.acceptData := by kernel_rfl
/-- the steps that came in -/
theorem open_nds {H : Type} {enc : TypeId × Value → H} {w : World} {base : Nat} {held : Bool} {spare : Nat → Bool} {v : Value} {d : DataW H} {ps : List MemPlace} (hv : Value.okWide Tryd.prog w .any base 22 v) (h : DataW.Trod enc Tryd.prog w 0 spare held 22 v d ps) (hfit : Fits Tryd.prog 22 d) :
    ∃ (a : Option Addr) (c : Nat) (l : List Nd), v = .slice a l.length c ∧ Rd w a (l.length * 4) (ndsC l) ∧ (∀ x ∈ l, x.2.2.1.length ≤ 140737488355328) ∧ l.length ≤ 140737488355328 ∧ ∀ x ∈ l, x.2.1 < 18446744073709551616 ∧ -9223372036854775808 ≤ x.2.2.2 ∧ x.2.2.2 < 9223372036854775808 := by
  obtain ⟨a, c, css, rfl, hr, hx, -, -, hb⟩ := open_list Tryd.underlying22 cells_node (by decide) hv h hfit
  rw [bytes_node] at hb
  have hs : ∀ x ∈ css, ∃ s : {s : Nd // s.2.2.1.length ≤ 140737488355328 ∧ s.2.1 < 18446744073709551616 ∧ -9223372036854775808 ≤ s.2.2.2 ∧ s.2.2.2 < 9223372036854775808}, x = ndC s.1 := by
    intro x hxm
    obtain ⟨hl, hrd⟩ := hx x hxm
    obtain ⟨-, hf⟩ := hrd.struct Tryd.underlying36
    match x, hl with
    | [x0, x1, x2, x3], _ =>
      obtain ⟨n0, e0, -⟩ := Reads.int Tryd.underlying3 (hf 0 _ rfl _ 0 1 rfl rfl cells_nint)
      obtain ⟨n1, e1, b1⟩ := Reads.int Tryd.underlying28 (hf 1 _ rfl _ 1 1 rfl rfl cells_nu64)
      obtain ⟨l2, e2, b2⟩ := Reads.string Tryd.underlying9 (hf 2 _ rfl _ 2 1 rfl rfl cells_nstr)
      obtain ⟨n3, e3, b3⟩ := Reads.int Tryd.underlying3 (hf 3 _ rfl _ 3 1 rfl rfl cells_nint)
      simp only [List.drop_zero, List.take_succ_cons, List.take_zero, List.drop_succ_cons, List.cons.injEq, and_true] at e0 e1 e2 e3
      subst e0 e1 e2 e3
      have h3 := i64_wf b3
      have h1 : 0 ≤ n1 ∧ n1 ≤ 18446744073709551615 := by simpa [Lit.wf, IntKind.min, IntKind.max, IntKind.signed, IntKind.bits] using b1
      obtain ⟨m, rfl⟩ : ∃ m : Nat, n1 = (m : Int) := ⟨n1.toNat, by omega⟩
      exact ⟨⟨(n0, m, l2, n3), by show l2.length ≤ _; omega, by show m < _; omega, h3.1, by show n3 < _; omega⟩, rfl⟩
  obtain ⟨l, rfl⟩ := map_of_each hs
  refine ⟨a, c, l.map (·.1), by rw [List.length_map, List.length_map], ?_, ?_, ?_, ?_⟩
  · rw [List.length_map] at hr ⊢
    have e : ndsC (l.map (·.1)) = (l.map fun s => ndC s.1).flatten := by unfold ndsC; rw [List.flatMap_map, List.flatMap_def]
    rw [e]
    exact hr
  · intro x hx
    obtain ⟨s, -, rfl⟩ := List.mem_map.1 hx
    exact s.2.1
  · rw [List.length_map] at hb ⊢
    omega
  · intro x hx
    obtain ⟨s, -, rfl⟩ := List.mem_map.1 hx
    exact s.2.2
/-- the two tables -/
theorem tabs_of {w : World} (h1 : Lib.VarReads Tryd.prog w "unicode/utf8.first" Lib.firstData) (h2 : Lib.VarReads Tryd.prog w "unicode/utf8.acceptRanges" Lib.acceptData) : Lib.Utf8Tabs 0 1 w := by
  refine ⟨fun c hc => ?_, fun i hi => ?_⟩
  · obtain ⟨g, t, cs, fuel, p, hg, hty, hvar, hd⟩ := h1
    obtain rfl := Option.some.inj (g_first.symm.trans hg)
    obtain rfl := Option.some.inj (gt_first.symm.trans hty)
    have hcs := Lib.cells_of_tab Tryd.underlying66 Tryd.underlying5 cells_nu8 cells_first hd
    rw [World.var?_cell hg hvar c, ← Array.getElem?_toList, hcs]
    simp [Lib.firstTab, hc]
  · obtain ⟨g, t, cs, fuel, p, hg, hty, hvar, hd⟩ := h2
    obtain rfl := Option.some.inj (g_accept.symm.trans hg)
    obtain rfl := Option.some.inj (gt_accept.symm.trans hty)
    obtain ⟨f', d, q, hdi, he⟩ := Lib.array_elem Tryd.underlying69 hd i hi
    simp only [List.getElem?_map, List.getElem?_range hi, Option.map_some, Option.some.injEq] at hdi
    subst hdi
    rw [cells_range] at he
    have hcs := Lib.ints_of_struct Tryd.underlying68 (fun j f hj => by
      match j, hj with
      | 0, hj => simp at hj; subst hj; exact ⟨Tryd.underlying5, rfl, cells_nu8⟩
      | 1, hj => simp at hj; subst hj; exact ⟨Tryd.underlying5, rfl, cells_nu8⟩
      | j + 2, hj => simp at hj) (by rw [cells_range]; rfl) he
    have k0 := congrArg (·[0]?) hcs
    have k1 := congrArg (·[1]?) hcs
    simp only [List.getElem?_take, List.getElem?_drop] at k0 k1
    constructor
    · rw [World.var?_cell hg hvar (2 * i), ← Array.getElem?_toList]
      simpa [Nat.mul_comm] using k0
    · rw [World.var?_cell hg hvar (2 * i + 1), ← Array.getElem?_toList]
      simpa [Nat.mul_comm] using k1
end Go.Proofs.YtdadnajbdnbbdaaDoor

/- From a walk that turns nothing (Fr Nob) to what a law's row asks behind the call. -/
namespace Go.Mv
open Go.RowKit Go.ChangeShapes Go.WideShapes

/-- the arguments read behind the call as they read before -/
theorem Below.trodAll {H : Type} {enc : TypeId × Value → H} {P : Program} (hl : laidOutB P = true) {W W' : World} (hb : Below W.heap.size W W') :
    ∀ (ts : List TypeId) (vs : List Value) (ds : List (DataW H)) (ps : List MemPlace), (∀ t ∈ ts, P.readableRec t = true ∧ t < P.types.size) → DataW.TrodAll enc P W 0 (fun _ => true) true ts vs ds ps → (∀ x ∈ ps, x.block < W.heap.size) →
      DataW.TrodAll enc P W' 0 (fun b => decide (b < W.heap.size)) true ts vs ds ps
  | [], vs, ds, ps, _, h, _ => by
    obtain ⟨rfl, rfl, rfl⟩ := trodAll_nil h
    exact trodAll_mk0
  | t :: ts, vs, ds, ps, hr, h, hlt => by
    obtain ⟨v, vs', d, ds', p, q, rfl, rfl, rfl, h0, hs⟩ := trodAll_cons h
    have h1 := hr t (by simp)
    exact trodAll_cons_mk (Below.trod hl h1.1 h1.2 h0 hb (fun x hx => hlt x (by simp [hx]))) (Below.trodAll hl hb ts vs' ds' q (fun t ht => hr t (by simp [ht])) hs (fun x hx => hlt x (by simp [hx])))

/-- what a law's row asks behind the call -/
theorem law_post {H : Type} {enc : TypeId × Value → H} {P : Program} {f : Func} {s : ChangeSpec} {W W' : World} {args : Array Value} {ds gs : List (DataW H)} {before : List MemPlace}
    (hl : laidOutB P = true) (hr : ∀ t ∈ f.params.toList, P.readableRec t = true ∧ t < P.types.size) (hW : DataW.Whole enc P f.params.toList s.vars false W args.toList ds gs before)
    (hv : s.vars = []) (hres : (s.fn H (ds ++ gs)).results = [.lit (.bool true)]) (harg : (s.fn H (ds ++ gs)).args = ds) (hvar : (s.fn H (ds ++ gs)).vars = [])
    {tb : TypeId} (hrt : f.resultTypes = #[tb]) (hu : P.underlying tb = some .bool) (hf : Fr Nob W W') :
    s.post enc P f false true false false W args (.bool true) W' := by
  have hW' := hW
  obtain ⟨p, q, hA, hV, rfl, hfz, hnd⟩ := hW
  rw [hv] at hV
  obtain ⟨rfl, rfl⟩ := trodVars_none hV
  have hlt : ∀ x ∈ p ++ [], x.block < W.heap.size := fun x hx => hW'.lt x hx
  refine ⟨ds, [], p ++ [], [], p, [], hW', ?_, ?_, ?_, World.keptBut_mono (fun x hx => ⟨hx, ?_⟩) (hf.below.frame (· ∈ p ++ [])), fun h => by cases h⟩
  · rw [hres, hrt]
    exact trodAll_mk1 (shut_bool hu true)
  · rw [harg]
    exact Below.trodAll hl hf.below _ _ _ _ hr hA (fun x hx => hlt x (by simp [hx]))
  · rw [hvar, hv]; exact rfl
  · simp only [List.append_nil] at hx
    exact .inr (.inl hx)
end Go.Mv
