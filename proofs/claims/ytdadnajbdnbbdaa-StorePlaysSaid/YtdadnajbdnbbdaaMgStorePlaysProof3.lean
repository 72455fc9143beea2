/- A region that draws its order, as XTail's, where two operations of the head may come in either order (an allocation and a call); Slices of the call's own that lie apart: one fact for all of them; A store in memory: its five cells, its bytes, where its records lie; The tree, plain: what a path leads to, from its end (the document) and from its beginning (the program); The tree: node, leafHash, bytes.Equal, sized, lists, small; the reference's leaf, node, half, sized; SpongeLogs: what stays of many logs, step by step; mintvaultlaw8.lists, small: lists of strings as lists of bytes; bytes.Clone; lists of owned slices of bytes that lie apart; store: big, numberOf, frame; A region that draws its order, by a plan: operations that only yield values are taken ahead (w: in whatever world; t: under a condition S on the world, that holds till operation m is carried out), the others are carried out when nothing else can come (r, m), or in either order (b); store: write, put; An empty slice literal; store: put, Add; store: Add, Arm, Len, Disk, New; store: Arm, Len, Disk, Record, New; store: Record; Two blocks that were made in the other order; A region that draws its order, told as a chain of steps beside fresh blocks (allocs) that may be made at any time between their opening and their joint: each step is shown once; More makers of one block for the steps of a drawn region: slice literals, boxes; operations that only yield a value; A slice of bytes turned into its own type (a literal text's bytes): the block is marked behind its end, its cells stay; A region that draws its order, by facts that stay: each operation of the front is shown once, in every world in which the facts of those that it waits for hold; then a tail. -/
import Derived.Test.YtdadnajbdnbbdaaMgStorePlaysProof2
import Derived.IntWalk
import Derived.Test.YtdadnajbdnbbdaaMgStorePlaysProof1
import Derived.Lib.SlBytesConst
namespace Go.Mv
open Go.RowKit
section
variable {P : Program} {ops : Array Oper} {md : Region.Mode} {Q : Exit → Act → World → Prop} {S : World → Prop}

/-- orders of the head: t: it only yields a value; r: it is carried out; b: one of two is carried out -/
inductive Sc where
  | nil
  | t (i : Nat) (s : Sc)
  | r (i : Nat) (s : Sc)
  | b (i j : Nat) (s u : Sc)
def Sc.len : Sc → Nat
  | .nil => 0
  | .t _ s => s.len + 1
  | .r _ s => s.len + 1
  | .b _ _ s _ => s.len + 1

/- the steps -/
variable {l tl : List Oper} {i j : Nat} {s u : Sc} {a : Act} {w : World} {o o2 : Oper}
end
section
variable {P : Program} {w w0 : World} {o : Oper} {a : Act} {K : Act → World → Prop} {Q : Exit → Act → World → Prop} {S : Nat → Prop} {bl : List (Nat × List Value × TypeId)}
end
end Go.Mv

/- Slices of the call's own that lie apart: one fact for all of them. -/
namespace Go.Mv
open Go.RowKit
variable {P : Program}
/-- an owned slice: its value, its elements' type, their cells each, how many, the cells -/
structure Ox where
  v : Value
  T : TypeId
  sz : Nat
  n : Nat
  L : List Value
/-- all of l are owned (from base on), no two share a block, none has a block of X -/
structure OwS (w : World) (base : Nat) (X : Nat → Prop) (l : List Ox) : Prop where
  own : ∀ x ∈ l, Own w base x.T x.sz x.v x.n x.L
  off : ∀ x ∈ l, ∀ k, OwnB x.v k → ¬ X k
  sep : l.Pairwise fun a b => ∀ k, OwnB a.v k → ¬ OwnB b.v k
  lt : ∀ k, X k → k < w.heap.size
theorem OwS.nil {w : World} {base : Nat} {X : Nat → Prop} (h : ∀ k, X k → k < w.heap.size) : OwS w base X [] := ⟨by simp, by simp, List.Pairwise.nil, h⟩
theorem OwS.at {w : World} {base : Nat} {X : Nat → Prop} {l : List Ox} (h : OwS w base X l) (i : Nat) {x : Ox} (hi : l[i]? = some x) : Own w base x.T x.sz x.v x.n x.L := h.own x (List.mem_of_getElem? hi)
theorem OwS.keep {w w' : World} {base : Nat} {X : Nat → Prop} {l : List Ox} (h : OwS w base X l) {S : Nat → Prop} (hf : Fr S w w') (hS : ∀ k, S k → X k) : OwS w' base X l :=
  ⟨fun x hx => (h.own x hx).keep hf fun k hk hs => h.off x hx k hk (hS k hs), h.off, h.sep, fun k hk => Nat.lt_of_lt_of_le (h.lt k hk) hf.size⟩
theorem OwS.still {w w' : World} {base : Nat} {X : Nat → Prop} {l : List Ox} (h : OwS w base X l) (hf : Fr Nob w w') : OwS w' base X l := h.keep hf fun _ t => t.elim
/-- one more -/
theorem OwS.new {w w' : World} {base : Nat} {X : Nat → Prop} {l : List Ox} (h : OwS w base X l) (hf : Fr Nob w w') {x : Ox} (ho : Own w' w.heap.size x.T x.sz x.v x.n x.L) (hb : base ≤ w.heap.size) : OwS w' base X (l ++ [x]) := by
  have h2 := h.still hf
  refine ⟨?_, ?_, ?_, h2.lt⟩
  · intro y hy
    rcases List.mem_append.1 hy with hy | hy
    · exact h2.own y hy
    · rw [List.mem_singleton.1 hy]; exact ho.mono hb
  · intro y hy
    rcases List.mem_append.1 hy with hy | hy
    · exact h2.off y hy
    · rw [List.mem_singleton.1 hy]
      intro k hk hx
      have h3 := (ho.lt hk).1
      have h4 := h.lt k hx
      omega
  · rw [List.pairwise_append]
    refine ⟨h.sep, by simp, fun a ha b hb2 k hk hk2 => ?_⟩
    rw [List.mem_singleton.1 hb2] at hk2
    have h3 := (ho.lt hk2).1
    have h4 := ((h.own a ha).lt hk).2
    omega
theorem OwS.sepAt {w : World} {base : Nat} {X : Nat → Prop} {l : List Ox} (h : OwS w base X l) {i j : Nat} {x y : Ox} (hi : l[i]? = some x) (hj : l[j]? = some y) (hij : i ≠ j) : ∀ k, OwnB x.v k → ¬ OwnB y.v k := by
  obtain ⟨hi1, rfl⟩ := List.getElem?_eq_some_iff.1 hi
  obtain ⟨hj1, rfl⟩ := List.getElem?_eq_some_iff.1 hj
  rcases Nat.lt_or_ge i j with k | k
  · exact List.pairwise_iff_getElem.1 h.sep i j hi1 hj1 k
  · exact fun b hb hc => List.pairwise_iff_getElem.1 h.sep j i hj1 hi1 (by omega) b hc hb
/-- the i-th is another -/
theorem OwS.put {w w' : World} {base : Nat} {X : Nat → Prop} {l : List Ox} (h : OwS w base X l) (i : Nat) {x y : Ox} (hi : l[i]? = some x) (hf : Fr (OwnB x.v) w w') (ho : Own w' base y.T y.sz y.v y.n y.L) (hb : y.v.ownBlock = x.v.ownBlock ∨ y.v.ownBlock = some w.heap.size) : OwS w' base X (l.set i y) := by
  obtain ⟨hi1, hi2⟩ := List.getElem?_eq_some_iff.1 hi
  have off : ∀ (z : Ox) (j : Nat), l[j]? = some z → i ≠ j → ∀ k, OwnB y.v k → ¬ OwnB z.v k := by
    intro z j hj hij k hk hz
    rcases hb with hb | hb
    · exact h.sepAt hi hj hij k (by unfold OwnB at *; rw [← hb]; exact hk) hz
    · have h3 := ((h.at j hj).lt hz).2
      have h4 : w.heap.size = k := by unfold OwnB at hk; rw [hb] at hk; exact Option.some.inj hk
      omega
  refine ⟨?_, ?_, ?_, fun k hk => Nat.lt_of_lt_of_le (h.lt k hk) hf.size⟩
  · intro z hz
    obtain ⟨j, hj1, hj2⟩ := List.mem_iff_getElem.1 hz
    rw [List.length_set] at hj1
    rw [List.getElem_set] at hj2
    by_cases e : i = j
    · rw [if_pos e] at hj2; subst hj2; exact ho
    · rw [if_neg e] at hj2
      subst hj2
      exact (h.own _ (List.getElem_mem hj1)).keep hf fun k hk hs => h.sepAt hi (List.getElem?_eq_getElem hj1) e k hs hk
  · intro z hz
    obtain ⟨j, hj1, hj2⟩ := List.mem_iff_getElem.1 hz
    rw [List.length_set] at hj1
    rw [List.getElem_set] at hj2
    by_cases e : i = j
    · rw [if_pos e] at hj2
      subst hj2
      intro k hk hx
      rcases hb with hb | hb
      · exact h.off x (List.mem_of_getElem? hi) k (by unfold OwnB at *; rw [← hb]; exact hk) hx
      · have h3 := h.lt k hx
        have h4 : w.heap.size = k := by unfold OwnB at hk; rw [hb] at hk; exact Option.some.inj hk
        omega
    · rw [if_neg e] at hj2
      subst hj2
      exact h.off _ (List.getElem_mem hj1)
  · rw [List.pairwise_iff_getElem]
    intro j k hj hk hjk
    have e := List.pairwise_iff_getElem.1 h.sep j k (by simpa using hj) (by simpa using hk) hjk
    rw [List.getElem_set, List.getElem_set]
    have hj' : j < l.length := by simpa using hj
    have hk' : k < l.length := by simpa using hk
    by_cases e1 : i = j
    · subst e1
      rw [if_pos rfl, if_neg (by omega)]
      exact off _ k (List.getElem?_eq_getElem hk') (by omega)
    · rw [if_neg e1]
      by_cases e2 : i = k
      · subst e2
        rw [if_pos rfl]
        exact fun b hb2 hc => off _ j (List.getElem?_eq_getElem hj') e1 b hc hb2
      · rw [if_neg e2]; exact e
/-- what lies elsewhere stays where an owned slice is written -/
theorem OwS.ne {w : World} {base : Nat} {X : Nat → Prop} {l : List Ox} (h : OwS w base X l) (i : Nat) {x : Ox} (hi : l[i]? = some x) {g : Nat} (hg : X g) : ¬ OwnB x.v g := fun hk => h.off x (List.mem_of_getElem? hi) g hk hg
theorem OwS.grow {w w' : World} {base : Nat} {ks : List Nat} {l : List Ox} (h : OwS w base (fun k => k ∈ ks) l) (hf : Fr Nob w w') {g : Nat} (hg : w.heap.size ≤ g) (hlt : g < w'.heap.size) : OwS w' base (fun k => k ∈ g :: ks) l := by
  have h2 := h.still hf
  refine ⟨h2.own, fun x hx k hk hks => ?_, h2.sep, fun k hk => ?_⟩
  · rcases List.mem_cons.1 hks with e | e
    · subst e
      have := ((h.own x hx).lt hk).2
      omega
    · exact h2.off x hx k hk e
  · rcases List.mem_cons.1 hk with e | e
    · subst e; exact hlt
    · exact h2.lt k e
theorem OwS.mono {w : World} {base : Nat} {X Y : Nat → Prop} {l : List Ox} (h : OwS w base X l) (hs : ∀ k, Y k → X k) : OwS w base Y l :=
  ⟨h.own, fun x hx k hk hy => h.off x hx k hk (hs k hy), h.sep, fun k hk => h.lt k (hs k hk)⟩
theorem splice_drop (B : List Value) (o k : Nat) (cs : List Value) (h : o + k + cs.length ≤ B.length) : (splice B (o + k) cs).drop o = splice (B.drop o) k cs := by
  unfold splice
  have h1 : (B.take (o + k)).drop o = (B.drop o).take k := by rw [List.drop_take]; congr 1; omega
  rw [List.drop_append_of_le_length (by simp; omega), h1, List.drop_drop]
  congr 2
  congr 1
  omega
theorem splice_take2 (B : List Value) (k m : Nat) (cs : List Value) (h : k + cs.length ≤ m) (hm : m ≤ B.length) : (splice B k cs).take m = splice (B.take m) k cs := by
  apply List.ext_getElem?
  intro i
  unfold splice
  have e1 : min k B.length = k := by omega
  have e2 : min k (min m B.length) = k := by omega
  simp only [List.getElem?_take, List.getElem?_append, List.length_take, List.getElem?_drop, e1, e2]
  by_cases h1 : i < m
  · by_cases h3 : i < k
    · simp only [h1, h3, if_true]
    · by_cases h2 : i - k < cs.length
      · simp only [h1, h3, h2, if_true, if_false]
      · have h4 : k + cs.length + (i - k - cs.length) < m := by omega
        simp only [h1, h3, h2, h4, if_true, if_false]
  · have h3 : ¬ i < k := by omega
    have h2 : ¬ i - k < cs.length := by omega
    have h4 : ¬ k + cs.length + (i - k - cs.length) < m := by omega
    simp only [h1, h3, h2, h4, if_false]
/-- an element of an owned slice is written -/
theorem Own.wrote {w w' : World} {base : Nat} {T : TypeId} {sz : Nat} {g o n cap : Nat} {L : List Value} (h : Own w base T sz (.slice (some ⟨g, o, none⟩) n cap) n L) {k : Nat} {cs : List Value} (hk : k + cs.length ≤ n * sz)
    (hw : ∀ B, Has w g B T → Has w' g (splice B (o + k) cs) T) : Own w' base T sz (.slice (some ⟨g, o, none⟩) n cap) n (splice L k cs) := by
  refine ⟨by rw [length_splice _ _ _ (by rw [h.1]; exact hk)]; exact h.1, .inr ?_⟩
  rcases h.2 with ⟨h2, -⟩ | ⟨g', o', cap', B, h2, hb, hh, hn, hm, hl, ht⟩
  · cases h2
  · cases h2
    have hle : n * sz ≤ cap * sz := Nat.mul_le_mul_right _ hn
    refine ⟨g, o, cap, _, rfl, hb, hw B hh, hn, hm, by rw [length_splice _ _ _ (by omega)]; exact hl, ?_⟩
    rw [splice_drop _ _ _ _ (by omega), splice_take2 _ _ _ _ hk (by simp; omega), ht]
section
variable {w : World} {ops : Array Oper} {rest : List Oper} {o : Oper} {a : Act} {Q : Exit → Act → World → Prop} {base : Nat} {X : Nat → Prop} {l : List Ox}
end
section
variable {w : World} {o : Oper} {a : Act} {K : Act → World → Prop} {Q : Exit → Act → World → Prop} {base : Nat} {X : Nat → Prop} {l : List Ox}
end
end Go.Mv

/- A store in memory: its five cells, its bytes, where its records lie. -/
namespace Mvp
/-- where the records lie, as cells -/
def exC (l : List (List UInt8)) : List Go.Value := (exL 0 l).flatMap fun x => [.int .i64 (x.1 : Int), .int .i64 (x.2 : Int)]
theorem exC_snoc {c : Nat → List UInt8 → List UInt8} (hc : ∀ i b, 8 ≤ (c i b).length) (l : List (List UInt8)) (b : List UInt8) : exC (l ++ [b]) = exC l ++ [.int .i64 (((framesB c 0 l).length + 4 : Nat) : Int), .int .i64 (((framesB c 0 l).length + 4 + b.length : Nat) : Int)] := by
  unfold exC
  rw [exL_snoc hc 0 0 l b, List.flatMap_append, Nat.zero_add]
  rfl
theorem flat2_at : ∀ (x : List (Nat × Nat)) (k : Nat) (p : Nat × Nat), x[k]? = some p → ((x.flatMap fun x => [Go.Value.int .i64 (x.1 : Int), .int .i64 (x.2 : Int)]).drop (k * 2)).take 2 = [.int .i64 (p.1 : Int), .int .i64 (p.2 : Int)]
  | [], k, p, h => by simp at h
  | a :: x, 0, p, h => by
    simp only [List.getElem?_cons_zero, Option.some.injEq] at h
    subst h
    rw [Nat.zero_mul, List.drop_zero, List.flatMap_cons]
    rfl
  | a :: x, k + 1, p, h => by
    have ih := flat2_at x k p (by simpa using h)
    rw [List.flatMap_cons, show (k + 1) * 2 = 2 + k * 2 by omega, ← List.drop_drop]
    exact ih
theorem exC_at (l : List (List UInt8)) (k f t : Nat) (h : (exL 0 l)[k]? = some (f, t)) : ((exC l).drop (k * 2)).take 2 = [.int .i64 (f : Int), .int .i64 (t : Int)] := flat2_at _ k (f, t) h
/-- how many bytes may still come, as the program has it -/
def lftI (s : SM) : Int := match s.left with | none => -1 | some k => (k : Int)
end Mvp
namespace Go.Mv
open Go.RowKit Mvp
/-- a store lies in block g (TS, TB, TX: its type, a byte's, that of where a record lies) -/
def SAt (TS TB TX : TypeId) (w : World) (base g lim : Nat) (s : SM) : Prop :=
  ∃ v rv, Has w g [v, .int .i64 (lftI s), .bool s.off, .int .i64 (lim : Int), rv] TS ∧ Own w base TB 1 v s.d.length (bs s.d) ∧ Own w base TX 2 rv s.recs.length (exC s.recs)
theorem SAt.still {TS TB TX : TypeId} {w w' : World} {base g lim : Nat} {s : SM} (h : SAt TS TB TX w base g lim s) (hf : Fr Nob w w') : SAt TS TB TX w' base g lim s := by
  obtain ⟨v, rv, h1, h2, h3⟩ := h
  exact ⟨v, rv, h1.keep hf id, h2.still hf, h3.still hf⟩
theorem SAt.mono {TS TB TX : TypeId} {w : World} {base base' g lim : Nat} {s : SM} (h : SAt TS TB TX w base g lim s) (hb : base' ≤ base) : SAt TS TB TX w base' g lim s := by
  obtain ⟨v, rv, h1, h2, h3⟩ := h
  exact ⟨v, rv, h1, h2.mono hb, h3.mono hb⟩
theorem SAt.lt {TS TB TX : TypeId} {w : World} {base g lim : Nat} {s : SM} (h : SAt TS TB TX w base g lim s) : g < w.heap.size := by
  obtain ⟨v, rv, h1, -⟩ := h
  exact h1.lt
/-- behind a write to the store's own block -/
theorem SAt.wrote {TS TB TX : TypeId} {w w' : World} {base g lim : Nat} {_ s' : SM} {v rv : Value} (hB : TB ≠ TS) (hX : TX ≠ TS) (hf : Fr (One g) w w') {L : List Value} (h0 : Has w g L TS)
    (h1 : Has w' g [v, .int .i64 (lftI s'), .bool s'.off, .int .i64 (lim : Int), rv] TS) (h2 : Own w base TB 1 v s'.d.length (bs s'.d)) (h3 : Own w base TX 2 rv s'.recs.length (exC s'.recs)) : SAt TS TB TX w' base g lim s' :=
  ⟨v, rv, h1, h2.keep hf fun k hk (e : k = g) => h2.ne h0 hB (e ▸ hk), h3.keep hf fun k hk (e : k = g) => h3.ne h0 hX (e ▸ hk)⟩
/-- a new one -/
theorem SAt.new {TS TB TX : TypeId} {w : World} {base g lim : Nat} (h : Has w g [.slice none 0 0, .int .i64 (-1), .bool false, .int .i64 (lim : Int), .slice none 0 0] TS) : SAt TS TB TX w base g lim SM.new :=
  ⟨_, _, h, Own.nil _ _ _ _, Own.nil _ _ _ _⟩
/-- the reference's store (TS: its type, TT: a text's) -/
def RSAt (TS TT : TypeId) (w : World) (base g lim : Nat) (s : SM) : Prop :=
  ∃ rv, Has w g [.int .i64 (lim : Int), .string (mkS s.d), rv, .int .i64 (lftI s), .bool s.off] TS ∧ Own w base TT 1 rv s.recs.length (ss s.recs)
theorem RSAt.still {TS TT : TypeId} {w w' : World} {base g lim : Nat} {s : SM} (h : RSAt TS TT w base g lim s) (hf : Fr Nob w w') : RSAt TS TT w' base g lim s := by
  obtain ⟨rv, h1, h2⟩ := h
  exact ⟨rv, h1.keep hf id, h2.still hf⟩
theorem RSAt.mono {TS TT : TypeId} {w : World} {base base' g lim : Nat} {s : SM} (h : RSAt TS TT w base g lim s) (hb : base' ≤ base) : RSAt TS TT w base' g lim s := by
  obtain ⟨rv, h1, h2⟩ := h
  exact ⟨rv, h1, h2.mono hb⟩
theorem RSAt.new {TS TT : TypeId} {w : World} {base g lim : Nat} (h : Has w g [.int .i64 (lim : Int), .string (mkS []), .slice none 0 0, .int .i64 (-1), .bool false] TS) : RSAt TS TT w base g lim SM.new :=
  ⟨_, h, Own.nil _ _ _ _⟩
end Go.Mv

/- The tree, plain: what a path leads to, from its end (the document) and from its beginning (the program). -/
namespace Mvt
variable {α : Type} (nd : α → α → α)
/-- the greatest power of two below n -/
def half (n : Nat) : Nat := 2 ^ Nat.log2 (n - 1)
/-- up, as far as nothing stands beside -/
def skip (a e : Nat) : Nat × Nat := if a % 2 = 0 ∧ 0 < a then skip (a / 2) (e / 2) else (a, e)
termination_by a
decreasing_by omega
end Mvt

/- The tree: node, leafHash, bytes.Equal, sized, lists, small; the reference's leaf, node, half, sized. -/
namespace Go.Proofs.Ytdadnajbdnbbdaa
open Go.RowKit Go.Mv Mvp Mvt
attribute [local irreducible] permS permP toB turnsK squeeze permN permB spongeB feed frameL framesL tagL
theorem Tag_of (k : List UInt8) (hk : k.length ≤ 100) (g c : Nat) (vs : List Value) (ls : List (List UInt8)) (w : World) (hh : Has w g vs 22) (hp : Parts w vs ls) (hm : ls.length ≤ 1000000) :
    Calls Try.prog 46 #[.string (mkS k), .slice (some ⟨g, 0, none⟩) ls.length c] w fun r w' => ∃ v, r = .returned v ∧ Own w' w.heap.size 5 1 v 32 (bs (tagL k ls)) ∧ Fr Nob w w' := by
  have := Tag_any (mkS k) (some ⟨g, 0, none⟩) c ls w (by rw [mkS_size]; omega) hm (hp.at hh)
  rwa [mkS_toList] at this

set_option maxRecDepth 1000000 in
theorem equal_any (a : Option Addr) (n c : Nat) (l : List UInt8) (a' : Option Addr) (n' c' : Nat) (l' : List UInt8) (w : World) (hb : RdB w a n l) (hb' : RdB w a' n' l') :
    Calls Try.prog 49 #[.slice a n c, .slice a' n' c'] w fun r w' => r = .returned (.bool (decide (l = l'))) ∧ w = w' := by
  have x1 := run_string hb c Try.underlying22 Try.underlying5 Try.underlying9
  have x2 := run_string hb' c' Try.underlying22 Try.underlying5 Try.underlying9
  go_enter Try.func49, Try.ntmps49
  go_wp2_with fail
  go_ret
  exact ⟨ret_bool (beq_mkS _ _), rfl⟩

end Go.Proofs.Ytdadnajbdnbbdaa

/- SpongeLogs: what stays of many logs, step by step. -/
namespace Go.Mv
open Go.RowKit
theorem Has.ne {w : World} {g g' : Nat} {L L' : List Value} {T T' : TypeId} (h : Has w g L T) (h' : Has w g' L' T') (hT : T ≠ T') : g ≠ g' := by
  rintro rfl
  obtain ⟨_, _, h1, _⟩ := h
  obtain ⟨_, _, h2, _⟩ := h'
  rw [h1] at h2
  simp at h2
  exact hT h2.2.1
theorem Own.ne2 {w : World} {base base' sz sz' n n' : Nat} {T T' : TypeId} {v v' : Value} {L L' : List Value} (h : Own w base T sz v n L) (h' : Own w base' T' sz' v' n' L') (hT : T ≠ T') (k : Nat) (hk : OwnB v k) : ¬ OwnB v' k := by
  obtain ⟨_, ⟨rfl, _⟩ | ⟨g, o, cap, B, rfl, _, hg, _⟩⟩ := h'
  · intro t; cases t
  · intro t
    have e : g = k := by simpa [OwnB, Value.ownBlock] using t
    subst e
    exact h.ne hg hT hk
end Go.Mv
namespace Go.Proofs.Ytdadnajbdnbbdaa
open Go.RowKit Go.Mv Mvp
attribute [local irreducible] permS permP toB turnsK squeeze permN permB spongeB feed frameL framesL tagL
abbrev Tri : Type := Nat × Nat × List UInt8
variable {w w' : World} {base ga gb : Nat} {sa sb : List UInt8} {T : List Tri} {vk vw : Value} {Lk Lw : List Value}
end Go.Proofs.Ytdadnajbdnbbdaa

/- mintvaultlaw8.lists, small: lists of strings as lists of bytes. -/
namespace Go.Proofs.Ytdadnajbdnbbdaa
open Go.RowKit Go.Mv Mvp Mvt
attribute [local irreducible] permS permP toB turnsK squeeze permN permB spongeB feed frameL framesL tagL
/-- slices of bytes of the call's own -/
def POwn (w : World) (base : Nat) : List Value → List (List UInt8) → Prop
  | [], [] => True
  | v :: vs, l :: ls => Own w base 5 1 v l.length (bs l) ∧ POwn w base vs ls
  | _, _ => False
theorem POwn.len {w : World} {base : Nat} : ∀ {vs : List Value} {ls : List (List UInt8)}, POwn w base vs ls → vs.length = ls.length
  | [], [], _ => rfl
  | _ :: _, _ :: _, h => by simp only [List.length_cons]; rw [POwn.len h.2]
  | [], _ :: _, h => h.elim
  | _ :: _, [], h => h.elim
theorem POwn.keep {w w' : World} {base : Nat} {S : Nat → Prop} (hf : Fr S w w') : ∀ {vs : List Value} {ls : List (List UInt8)}, POwn w base vs ls → (∀ v n l, Own w base 5 1 v n (bs l) → ∀ k, OwnB v k → ¬ S k) → POwn w' base vs ls
  | [], [], _, _ => trivial
  | _ :: _, _ :: _, h, hs => ⟨h.1.keep hf (hs _ _ _ h.1), POwn.keep hf h.2 hs⟩
  | [], _ :: _, h, _ => h.elim
  | _ :: _, [], h, _ => h.elim
theorem POwn.still {w w' : World} {base : Nat} {vs : List Value} {ls : List (List UInt8)} (h : POwn w base vs ls) (hf : Fr Nob w w') : POwn w' base vs ls := POwn.keep hf h (fun _ _ _ _ _ _ t => t)
theorem POwn.parts {w : World} {base : Nat} : ∀ {vs : List Value} {ls : List (List UInt8)}, POwn w base vs ls → (∀ x ∈ ls, x.length ≤ 1000000) → Parts w vs ls
  | [], [], _, _ => trivial
  | _ :: _, _ :: _, h, hx => ⟨own_part h.1 (hx _ (by simp)), POwn.parts h.2 (fun x hxm => hx x (by simp [hxm]))⟩
  | [], _ :: _, h, _ => h.elim
  | _ :: _, [], h, _ => h.elim
/-- a list of lists of bytes, all of the call's own -/
def LOwn (w : World) (base : Nat) (v : Value) (ls : List (List UInt8)) : Prop := ∃ vs, Own w base 22 1 v ls.length vs ∧ POwn w base vs ls
theorem LOwn.still {w w' : World} {base : Nat} {v : Value} {ls : List (List UInt8)} (h : LOwn w base v ls) (hf : Fr Nob w w') : LOwn w' base v ls := by
  obtain ⟨vs, h1, h2⟩ := h; exact ⟨vs, h1.still hf, h2.still hf⟩
theorem LOwn.parts {w : World} {base : Nat} {v : Value} {ls : List (List UInt8)} (h : LOwn w base v ls) (hx : ∀ x ∈ ls, x.length ≤ 1000000) : ∃ a c, v = .slice a ls.length c ∧ ls.length ≤ c ∧ PartsAt w a ls := by
  obtain ⟨vs, h1, h2⟩ := h
  obtain ⟨a, c, rfl, hc, hr, -⟩ := h1.form
  rw [Nat.mul_one] at hr
  exact ⟨a, c, rfl, hc, vs, hr, (h2.parts hx).get⟩

end Go.Proofs.Ytdadnajbdnbbdaa

/- bytes.Clone; lists of owned slices of bytes that lie apart. -/
namespace Go.Proofs.Ytdadnajbdnbbdaa
open Go.RowKit Go.Mv Mvp Mvt
attribute [local irreducible] permS permP toB turnsK squeeze permN permB spongeB feed frameL framesL tagL
/-- no two of them share a block -/
def Sep (vs : List Value) : Prop := vs.Pairwise fun a b => ∀ k, OwnB a k → ¬ OwnB b k
theorem Sep.nil : Sep [] := List.Pairwise.nil
theorem POwn.get {w : World} {base : Nat} : ∀ {vs : List Value} {ls : List (List UInt8)}, POwn w base vs ls → ∀ (i : Nat) (v : Value), vs[i]? = some v → ∃ l, ls[i]? = some l ∧ Own w base 5 1 v l.length (bs l)
  | [], [], _, i, v, hv => by simp at hv
  | a :: vs, l :: ls, h, 0, v, hv => by simp at hv; subst hv; exact ⟨l, rfl, h.1⟩
  | a :: vs, l :: ls, h, i + 1, v, hv => by simp at hv; obtain ⟨l', h1, h2⟩ := POwn.get h.2 i v hv; exact ⟨l', by simpa using h1, h2⟩
  | [], _ :: _, h, _, _, _ => h.elim
  | _ :: _, [], h, _, _, _ => h.elim
theorem POwn.mono {w : World} {base base' : Nat} (hb : base' ≤ base) : ∀ {vs : List Value} {ls : List (List UInt8)}, POwn w base vs ls → POwn w base' vs ls
  | [], [], _ => trivial
  | _ :: _, _ :: _, h => ⟨h.1.mono hb, POwn.mono hb h.2⟩
  | [], _ :: _, h => h.elim
  | _ :: _, [], h => h.elim
/-- a slice of slices of bytes, all of the call's own, apart -/
def SOwn (w : World) (base : Nat) (v : Value) (ls : List (List UInt8)) : Prop := ∃ vs, Own w base 22 1 v ls.length vs ∧ POwn w base vs ls ∧ Sep vs
theorem SOwn.nil (w : World) (base : Nat) : SOwn w base (.slice none 0 0) [] := ⟨[], Own.nil _ _ _ _, trivial, Sep.nil⟩
theorem SOwn.still {w w' : World} {base : Nat} {v : Value} {ls : List (List UInt8)} (h : SOwn w base v ls) (hf : Fr Nob w w') : SOwn w' base v ls := by
  obtain ⟨vs, h1, h2, h3⟩ := h; exact ⟨vs, h1.still hf, h2.still hf, h3⟩
end Go.Proofs.Ytdadnajbdnbbdaa

/- store: big, numberOf, frame. -/
namespace Go.Proofs.Ytdadnajbdnbbdaa
open Go.RowKit Go.Mv Mvp
theorem partRd {w : World} {a : Option Addr} {n c : Nat} {l : List UInt8} (h : PartIs w (.slice a n c) l) : RdB w a n l := by
  obtain ⟨a', n', c', he, -, -, hr, -⟩ := h
  cases he
  exact hr
theorem part_lenS {w : World} {a : Option Addr} {n c : Nat} {l : List UInt8} (h : PartIs w (.slice a n c) l) : l.length = n := (partRd h).len
theorem part_leS {w : World} {a : Option Addr} {n c : Nat} {l : List UInt8} (h : PartIs w (.slice a n c) l) : n ≤ 1000000 := by
  obtain ⟨a', n', c', he, -, hn, -⟩ := h
  cases he
  exact hn
theorem ret_u64s {a b : Int} (h : a = b) : Ending.returned (.int .u64 a) = .returned (.int .u64 b) := by rw [h]
theorem byteJ (n j : Nat) : ((UInt8.ofNat (n / 256 ^ j)).toNat : Int) = (n : Int) / 2 ^ (8 * j) % 256 := by
  rw [UInt8.toNat_ofNat', show (2 : Nat) ^ 8 = 256 from rfl, show (256 : Nat) ^ j = 2 ^ (8 * j) by rw [Nat.pow_mul]]
  simp
theorem numS_lt (l : List UInt8) : numS l < 256 ^ l.length := by
  induction l with
  | nil => simp [numS]
  | cons x l ih =>
    rw [numS_cons, List.length_cons, Nat.pow_succ]
    have hx : x.toNat < 256 := x.toNat_lt
    have : x.toNat * 256 ^ l.length + 256 ^ l.length ≤ 256 * 256 ^ l.length := by rw [← Nat.succ_mul]; exact Nat.mul_le_mul_right _ hx
    omega
theorem numS_snoc (l : List UInt8) (x : UInt8) : numS (l ++ [x]) = numS l * 256 + x.toNat := by unfold numS; rw [List.foldl_append]; rfl
theorem shl_or8s (x : UInt64) (y : UInt8) (u : Nat) (h : x.toNat = u) (hu : u * 256 + y.toNat < 18446744073709551616) : (wo (shl x 8) (wid y)).toNat = u * 256 + y.toNat := by
  have hy := y.toNat_lt
  have h1 : (wo (shl x 8) (wid y)).toNat = (x.toNat * 2 ^ 8 % 18446744073709551616) ||| y.toNat := by simp [wo, shl_toNat, wid]
  have h2 : u * 2 ^ 8 < 18446744073709551616 := by rw [show (2 : Nat) ^ 8 = 256 from rfl]; exact Nat.lt_of_le_of_lt (Nat.le_add_right _ _) hu
  rw [h1, h, Nat.mod_eq_of_lt h2, Nat.mul_comm, ← Nat.two_pow_add_eq_or_of_lt (by simpa using hy), Nat.mul_comm]
attribute [local irreducible] permS permP toB turnsK squeeze permN permB spongeB feed frameL framesL tagL bigN bigJ numS frameB ckS
set_option maxHeartbeats 2000000 in
set_option maxRecDepth 100000 in
theorem big_any (n size : Nat) (w : World) (hs : size ≤ 8) (_hn : n < 18446744073709551616) :
    Calls Try.prog 45 #[.int .u64 (n : Int), .int .i64 (size : Int)] w fun e w' => ∃ g, e = .returned (.slice (some ⟨g, 0, none⟩) size size) ∧ w.heap.size ≤ g ∧ Has w' g (bs (bigN n size)) 5 ∧ Fr Nob w w' := by
  have st0 := St.start Nob w
  go_enter Try.func45, Try.ntmps45
  go_wp2_with (with_reducible refine wl_stop (o := ⟨some 8, _, _, _, _, _⟩) ?_)
  refine wl_make rfl rfl Try.underlying22 info_u8 rfl rfl rfl size size (by simp) (by simp) (by omega) (by omega) (by unfold maxLen; omega) ?_
  intro w2 hg2 hf2 hz2
  clear hz2
  have hg3 : Has w2 w.heap.size (bs (bigJ n size 0)) 5 := by rw [bigJ_0]; simpa [bs] using hg2
  have st2 := st0.new hf2 hg3 (Nat.le_refl _)
  clear st0 hg2 hg3 hf2
  generalize hgw : w.heap.size = gb at *
  have HG := Lib.hid hgw
  clear hgw
  go_wp2
  go_loopw [11] (fun i wr => ∃ k : Nat, k ≤ size ∧ i = .int .i64 (k : Int) ∧ St Nob w wr [(gb, bs (bigJ n size k), 5)]) (fun i _ => size - (intOf i).toNat)
  case atStart => exact ⟨0, by omega, rfl, st2⟩
  case round =>
    obtain ⟨k, hk, rfl, st⟩ := hrel
    clear st2
    by_cases hlt : k < size
    · have hltI : (k : Int) < (size : Int) := by omega
      have hd1 : (size : Int) - 1 - (k : Int) = ((size - 1 - k : Nat) : Int) := by omega
      have hlt2 : size - 1 - k < size := by omega
      obtain ⟨v3, c3, f3⟩ := (st.at 0 rfl).ready (i := size - 1 - k) (by rw [length_bs, bigJ_len _ _ _ hk]; exact hlt2)
      have HB := Lib.hid (bigJ_succ n size k hlt)
      generalize hm : size - 1 - k = m at *
      have HM := Lib.hid hm
      clear hm
      have hp : (8 * k : Nat) < 64 := by omega
      go_wp2
      go_roundw
      case rel =>
        have h1 := st.set 0 rfl m (.int .u8 ((UInt8.ofNat (n / 256 ^ k)).toNat : Int))
        rw [bs_set, HB.out, byteJ] at h1
        exact ⟨k + 1, by omega, by go_num, h1⟩
      case measure => simp [intOf]; omega
    · have hge : ¬ ((k : Int) < (size : Int)) := by omega
      have hks : k = size := by omega
      have hh := st.at 0 rfl
      rw [hks, bigJ_all] at hh
      have HH := Lib.hid hh
      have HF := Lib.hid st.fr
      clear st hh hks
      go_wp2
      go_ret
      exact ⟨gb, rfl, by rw [HG.out]; exact Nat.le_refl _, HH.out, HF.out⟩
set_option maxHeartbeats 2000000 in
set_option maxRecDepth 100000 in
theorem numberOf_any (a : Option Addr) (n c : Nat) (l : List UInt8) (w : World) (hn : n ≤ 8) (hb : RdB w a n l) :
    Calls Try.prog 43 #[.slice a n c] w fun e w' => e = .returned (.int .u64 (numS l : Int)) ∧ w' = w := by
  have HL := Lib.hid hb.len
  go_enter Try.func43, Try.ntmps43
  go_wp2_with fail
  go_loop [7, 2] (fun i h => ∃ (k : Nat) (hv : UInt64), k ≤ n ∧ i = .int .i64 (k : Int) ∧ h = .int .u64 (hv.toNat : Int) ∧ hv.toNat = numS (l.take k)) (fun i _ => (n - intOf i).toNat)
  case atStart => exact ⟨0, 0, by omega, rfl, rfl, by unfold numS; simp⟩
  case round =>
    obtain ⟨k, hv, hk, rfl, rfl, hhv⟩ := hrel
    have HHV := Lib.hid hhv; clear hhv
    by_cases hlt : k < n
    · have hltI : (k : Int) < (n : Int) := by omega
      obtain ⟨b, o, rfl, hat⟩ := hb.at (by omega)
      have hc := hat k hlt
      have hsn : numS (l.take (k + 1)) = numS (l.take k) * 256 + (l.getD k 0).toNat := by
        have h2 : k < l.length := by have := HL.out; omega
        rw [List.take_succ_eq_append_getElem h2, numS_snoc]
        simp [List.getD_eq_getElem?_getD, h2]
      have hlt64 : numS (l.take (k + 1)) < 18446744073709551616 := by
        have h1 := numS_lt (l.take (k + 1))
        have h2 : (l.take (k + 1)).length ≤ 8 := by rw [List.length_take]; omega
        have h3 : 256 ^ (l.take (k + 1)).length ≤ 256 ^ 8 := Nat.pow_le_pow_right (by decide) h2
        have h4 : (256 : Nat) ^ 8 = 18446744073709551616 := by decide
        omega
      have hsx := shl_or8s hv (l.getD k 0) _ HHV.out (by rw [← hsn]; exact hlt64)
      rw [← hsn] at hsx
      generalize l.getD k 0 = y at *
      have HSX := Lib.hid hsx; clear hsx hsn hlt64 hat
      go_wp2_with fail
      go_round
      case rel => exact ⟨k + 1, _, by omega, by go_num, rfl, HSX.out⟩
      case measure => simp [intOf]; omega
    · have hge : ¬ ((k : Int) < (n : Int)) := by omega
      have hks : l.take k = l := List.take_of_length_le (by have := HL.out; omega)
      have HK := Lib.hid hks
      clear hks
      go_wp2_with fail
      go_ret
      exact ⟨ret_u64s (by rw [HHV.out, HK.out]), rfl⟩
theorem frameB_ck (i : Nat) (l : List UInt8) : frameB ckS i l = bigN l.length 4 ++ l ++ (ckS i l).take 8 := by unfold frameB; rfl
theorem ckS_is (i : Nat) (l : List UInt8) : ckS i l = tagL kFrame [bigN i 8, l] := by unfold ckS; rfl
theorem kFrame_eq : (⟨#[102, 114, 97, 109, 101]⟩ : ByteArray) = mkS kFrame := rfl
theorem frameB_length (i : Nat) (l : List UInt8) : (frameB ckS i l).length = 12 + l.length := frameB_len ckS_len i l
set_option maxHeartbeats 2000000 in
set_option maxRecDepth 100000 in
theorem sframe_any (i : Nat) (a : Option Addr) (n c : Nat) (l : List UInt8) (w : World) (hi : i ≤ 1000000) (hp : PartIs w (.slice a n c) l) :
    Calls Try.prog 40 #[.int .i64 (i : Int), .slice a n c] w fun e w' => ∃ v, e = .returned v ∧ Own w' w.heap.size 5 1 v (12 + n) (bs (frameB ckS i l)) ∧ Fr Nob w w' := by
  have HP := Lib.hid hp
  obtain ⟨a', n', c', he, hc, hn, hr, -⟩ := hp
  cases he
  have HL := Lib.hid hr.len
  have HN := Lib.hid hn
  have HI := Lib.hid hi
  have hn64 : (n : Int) % 18446744073709551616 = (n : Int) := by omega
  have hi64 : (i : Int) % 18446744073709551616 = (i : Int) := by omega
  clear hr hc hn hi
  go_enter Try.func40, Try.ntmps40
  go_wp2_with fail
  refine (big_any n 4 w (by omega) (by have := HN.out; omega)).mono ?_
  rintro e1 w1 ⟨g1, rfl, hle1, hh1, hf1⟩
  have HO1 := Lib.hid (show Own w1 w.heap.size 5 1 (.slice (some ⟨g1, 0, none⟩) 4 4) 4 (bs (bigN n 4)) by
    have h := Own.made hh1 w.heap.size hle1 1 4 4 (Nat.le_refl _) (by unfold maxLen; omega) (by rw [length_bs, bigN_len]; omega)
    rwa [List.take_of_length_le (by rw [length_bs, bigN_len]; exact Nat.le_refl _)] at h)
  have HF1 := Lib.hid hf1
  clear hle1 hh1 hf1
  go_wp2_with (with_reducible refine wl_stop (o := ⟨some 11, _, _, _, _, _⟩) ?_)
  refine wl_append rfl rfl Try.underlying22 info_u8 rfl (by decide) HO1.out rfl (news := bs l) rfl (by rw [Nat.mul_one]; exact (partRd (HP.out.still HF1.out))) (bs_one _) (by unfold maxLen; have := HN.out; omega) (by have := HN.out; omega) HF1.out.size ?_
  intro v2 w2 ho2 hf2 hb2
  have HO2 := Lib.hid ho2
  have HF2 := Lib.hid (HO1.out.fr HF1.out (Nat.le_refl _) hf2)
  clear ho2 hf2 hb2 HO1 HF1
  go_wp2_with fail
  refine (big_any i 8 w2 (by omega) (by have := HI.out; omega)).mono ?_
  rintro e3 w3 ⟨g3, rfl, hle3, hh3, hf3⟩
  have HO3 := Lib.hid (HO2.out.still hf3)
  have HF3 := Lib.hid (HF2.out.then hf3)
  have HP3 := Lib.hid (show PartIs w3 (.slice (some ⟨g3, 0, none⟩) 8 8) (bigN i 8) from ⟨_, 8, 8, rfl, Nat.le_refl _, by omega, (by have h := Rd.whole hh3; rwa [length_bs, bigN_len] at h), Old.has hh3 0⟩)
  clear hle3 hh3 hf3 HO2 HF2
  go_wp2_with (with_reducible refine wl_stop (o := ⟨some 17, _, _, _, _, _⟩) ?_)
  refine wl_slit rfl rfl Try.underlying23 info_sl [.slice (some ⟨g3, 0, none⟩) 8 8, .slice a n c] rfl (by simp; exact ⟨rfl, rfl⟩) rfl rfl ?_
  intro w4 hh4 hf4 hz4
  clear hz4
  have HPS := Lib.hid (show Parts w4 [.slice (some ⟨g3, 0, none⟩) 8 8, .slice a n c] [bigN i 8, l] from ⟨HP3.out.still hf4, HP.out.still (HF3.out.then hf4), trivial⟩)
  have HO4 := Lib.hid (HO3.out.still hf4)
  have HF4 := Lib.hid (HF3.out.then hf4)
  have HH4 := Lib.hid hh4
  clear hh4 hf4 HO3 HF3 HP3
  generalize w3.heap.size = g4 at *
  rw [kFrame_eq]
  go_wp2_with fail
  refine (Tag_of kFrame (by decide) _ _ _ _ w4 HH4.out HPS.out (by simp)).mono ?_
  rintro e5 w5 ⟨v5, rfl, ho5, hf5⟩
  obtain ⟨a5, c5, rfl, hc5, hr5, -⟩ := ho5.form
  have HR5 := Lib.hid hr5
  have HO5 := Lib.hid (HO4.out.still hf5)
  have HF5 := Lib.hid (HF4.out.then hf5)
  have hcut : (Instr.sliceAt 22 (.slice a5 32 c5) none (some (.int .i64 8)) none).run Try.prog w5 = .ok (.slice a5 8 c5) w5 := run_slice_hi w5 Try.underlying22 (by kernel_rfl) a5 32 c5 .i64 8 (by omega)
  clear ho5 hf5 hr5 HO4 HF4 HPS HH4
  go_wp2_with (with_reducible refine wl_stop (o := ⟨some 20, _, _, _, _, _⟩) ?_)
  refine wl_append rfl rfl Try.underlying22 info_u8 rfl (by decide) HO5.out rfl (news := bs ((ckS i l).take 8)) rfl (by rw [← bs_take, ckS_is]; exact Rd.take (show Rd w5 a5 32 (bs (tagL kFrame [bigN i 8, l])) from HR5.out) 8 (by omega)) (bs_one _) (by unfold maxLen; have := HN.out; omega) (by have := HN.out; omega) HF5.out.size ?_
  intro v6 w6 ho6 hf6 hb6
  have HO6 := Lib.hid ho6
  have HF6 := Lib.hid (HO5.out.fr HF5.out (Nat.le_refl _) hf6)
  clear ho6 hf6 hb6 HO5 HF5
  go_wp2_with fail
  go_ret
  refine ⟨_, rfl, ?_, HF6.out⟩
  rw [frameB_ck, HL.out, bs_append, bs_append]
  have h := HO6.out
  rwa [show 4 + n + 8 = 12 + n by omega] at h
end Go.Proofs.Ytdadnajbdnbbdaa

/- A region that draws its order, by a plan: operations that only yield values are taken ahead (w: in whatever world; t: under a condition S on the world, that holds till operation m is carried out), the others are carried out when nothing else can come (r, m), or in either order (b). -/
namespace Go.Mv
open Go.RowKit
section
variable {P : Program} {ops : Array Oper} {md : Region.Mode} {Q : Exit → Act → World → Prop} {S : World → Prop} {m : Nat}

def wpP (P : Program) (md : Region.Mode) (ops : Array Oper) (Q : Exit → Act → World → Prop) (S : World → Prop) (m : Nat) : Nat → Array Bool → Act → World → Prop
  | 0, listed, a, w => Region.ready md ops listed = [] ∧ Q .normal a w
  | f + 1, listed, a, w => (Region.ready md ops listed = [] → Q .normal a w) ∧
    ∀ i ∈ Region.ready md ops listed, wpOp P ops Q i (fun a' w' => (listed.getD m true = false → i ≠ m → S w') ∧ wpP P md ops Q S m f (listed.setIfInBounds i true) a' w') a w

theorem wpAny_of_P : ∀ (f : Nat) (listed : Array Bool) (a : Act) (w : World), wpP P md ops Q S m f listed a w → wpAny P md ops Q f listed a w
  | 0, _, _, _, h => h
  | f + 1, _, _, _, h => ⟨h.1, fun i hi => wpOp_mono (fun a' w' h' => wpAny_of_P f _ a' w' h'.2) (h.2 i hi)⟩

/-- what is listed is closed -/
structure Cl (md : Region.Mode) (ops : Array Oper) (listed : Array Bool) : Prop where
  size : listed.size = ops.size
  closed : ∀ j oj, ops[j]? = some oj → listed.getD j false = true → ∀ e ∈ oj.after, Region.binds md e = true → listed.getD e.on false = true
theorem Cl.set {i : Nat} {listed : Array Bool} (inv : Cl md ops listed) (hi : i ∈ Region.ready md ops listed) : Cl md ops (listed.setIfInBounds i true) := by
  obtain ⟨_, oi, hoi, hall⟩ := mem_ready.1 hi
  refine ⟨by simp [inv.size], fun j oj hj hl e he hb => ?_⟩
  by_cases hij : i = j
  · subst hij
    have : oj = oi := Option.some.inj (hj.symm.trans hoi)
    subst this
    exact getD_set_true (hall e he hb)
  · rw [getD_set_ne false hij] at hl
    exact getD_set_true (inv.closed j oj hj hl e he hb)
/-- m waits for i, through others -/
def ancB (md : Region.Mode) (ops : Array Oper) (m : Nat) : Nat → Nat → Bool
  | 0, _ => false
  | f + 1, i => (List.range ops.size).any fun j => Region.waitsFor md ops j i && (decide (j = m) || ancB md ops m f j)
theorem anc_waits {listed : Array Bool} (inv : Cl md ops listed) : ∀ (f i : Nat), ancB md ops m f i = true → listed.getD i true = false → m ∉ Region.ready md ops listed
  | 0, i, h, _ => by cases h
  | f + 1, i, h, hun => by
    intro hr
    obtain ⟨j, hj, hj2⟩ := List.any_eq_true.1 h
    simp only [Bool.and_eq_true, Bool.or_eq_true, decide_eq_true_eq] at hj2
    obtain ⟨oj, hoj, e, he, hb, hon⟩ := Region.waitsFor_spec hj2.1
    rcases hj2.2 with rfl | hja
    · obtain ⟨-, om, hom, hall⟩ := mem_ready.1 hr
      have : oj = om := Option.some.inj (hoj.symm.trans hom)
      subst this
      have h2 := hall e he hb
      rw [hon, getD_both hun] at h2
      cases h2
    · cases hl : listed.getD j false with
      | true =>
        have h2 := inv.closed j oj hoj hl e he hb
        rw [hon, getD_both hun] at h2
        cases h2
      | false =>
        have hjs : j < listed.size := by rw [inv.size]; exact (Array.getElem?_eq_some_iff.1 hoj).1
        exact anc_waits inv f j hja (getD_in hjs hl) hr

theorem wpP_takeW {i : Nat} {oi : Oper} {v : Value} (hi : ops[i]? = some oi) (hsel : ∀ (j : Nat) (o : Oper) cs b, ops[j]? = some o → o.op ≠ .select cs b)
    (hQ : ∀ c a w, Q (.panic c) (a.put oi.dst v) w → Q (.panic c) a w) (him : i ≠ m) (hm : m < ops.size) :
    ∀ (f : Nat) (listed : Array Bool) (a : Act) (w : World), Cl md ops listed →
      (∀ j oj, ops[j]? = some oj → j ≠ i → listed.getD j true = false → (∀ e ∈ oj.after, Region.binds md e = true → e.on ≠ i) → oi.apart ops oj = true) →
      i ∈ Region.ready md ops listed → YieldsIf P ops (fun _ => True) oi v a → (listed.getD m true = false → S w) →
      wpP P md ops Q S m f (listed.setIfInBounds i true) (a.put oi.dst v) w → wpP P md ops Q S m (f + 1) listed a w := by
  intro f
  induction f with
  | zero =>
    intro listed a w inv _ hr hy hS H
    refine ⟨fun h => (by rw [h] at hr; cases hr), fun j hj => ?_⟩
    by_cases hji : j = i
    · subst hji; exact hy.wpOp hi trivial ⟨fun h _ => hS h, H⟩
    · have := ready_mono hj hji
      rw [H.1] at this
      cases this
  | succ f ih =>
    intro listed a w inv hfree hr hy hS H
    have hun := (mem_ready.1 hr).1
    refine ⟨fun h => (by rw [h] at hr; cases hr), fun j hj => ?_⟩
    by_cases hji : j = i
    · subst hji; exact hy.wpOp hi trivial ⟨fun h _ => hS h, H⟩
    · have h1 := H.2 j (ready_mono hj hji)
      obtain ⟨hjun, oj, hoj, hall⟩ := mem_ready.1 hj
      have hnot : ∀ e ∈ oj.after, Region.binds md e = true → e.on ≠ i := fun e he hb heq => by
        have h1 := hall e he hb
        rw [heq, getD_both hun] at h1
        cases h1
      have h2 := wpOp_putIf hoj (hfree j oj hoj hji hjun hnot) (fun cs b => hsel i oi cs b hi) (fun cs b => hsel j oj cs b hoj) hQ hy h1
      have hfree' : ∀ k ok, ops[k]? = some ok → k ≠ i → (listed.setIfInBounds j true).getD k true = false →
          (∀ e ∈ ok.after, Region.binds md e = true → e.on ≠ i) → oi.apart ops ok = true := fun k ok hk hki hun hno => by
        refine hfree k ok hk hki ?_ hno
        by_cases hjk : j = k
        · subst hjk; exact hjun
        · rw [getD_set_ne true hjk] at hun; exact hun
      refine wpOp_mono (fun a' w' h3 => ?_) h2
      have hS' : listed.getD m true = false → j ≠ m → S w' := fun hml hjm => h3.2.1 (by rw [getD_set_ne true him]; exact hml) hjm
      refine ⟨hS', ih (listed.setIfInBounds j true) a' w' (inv.set hj) hfree' (ready_mono hr (Ne.symm hji)) h3.1 (fun hml => ?_) ?_⟩
      · by_cases hjm : j = m
        · subst hjm
          have : (listed.setIfInBounds j true).getD j true = true := by
            have hs : j < listed.size := by rw [inv.size]; exact hm
            simp [hs]
          rw [this] at hml; cases hml
        · exact hS' (by rwa [getD_set_ne true hjm] at hml) hjm
      · rw [Array.setIfInBounds_comm _ _ hji]
        exact h3.2.2

theorem wpP_takeS {i af : Nat} {oi : Oper} {v : Value} (hi : ops[i]? = some oi) (hsel : ∀ (j : Nat) (o : Oper) cs b, ops[j]? = some o → o.op ≠ .select cs b)
    (hQ : ∀ c a w, Q (.panic c) (a.put oi.dst v) w → Q (.panic c) a w) (him : i ≠ m) (hanc : ancB md ops m af i = true) :
    ∀ (f : Nat) (listed : Array Bool) (a : Act) (w : World), Cl md ops listed → listed.getD m true = false →
      (∀ j oj, ops[j]? = some oj → j ≠ i → listed.getD j true = false → (∀ e ∈ oj.after, Region.binds md e = true → e.on ≠ i) → oi.apart ops oj = true) →
      i ∈ Region.ready md ops listed → YieldsIf P ops S oi v a → S w →
      wpP P md ops Q S m f (listed.setIfInBounds i true) (a.put oi.dst v) w → wpP P md ops Q S m (f + 1) listed a w := by
  intro f
  induction f with
  | zero =>
    intro listed a w inv _ _ hr hy hS H
    refine ⟨fun h => (by rw [h] at hr; cases hr), fun j hj => ?_⟩
    by_cases hji : j = i
    · subst hji; exact hy.wpOp hi hS ⟨fun _ _ => hS, H⟩
    · have := ready_mono hj hji
      rw [H.1] at this
      cases this
  | succ f ih =>
    intro listed a w inv hml hfree hr hy hS H
    have hun := (mem_ready.1 hr).1
    refine ⟨fun h => (by rw [h] at hr; cases hr), fun j hj => ?_⟩
    by_cases hji : j = i
    · subst hji; exact hy.wpOp hi hS ⟨fun _ _ => hS, H⟩
    · have hjm : j ≠ m := fun e => anc_waits inv af i hanc hun (e ▸ hj)
      have h1 := H.2 j (ready_mono hj hji)
      obtain ⟨hjun, oj, hoj, hall⟩ := mem_ready.1 hj
      have hnot : ∀ e ∈ oj.after, Region.binds md e = true → e.on ≠ i := fun e he hb heq => by
        have h1 := hall e he hb
        rw [heq, getD_both hun] at h1
        cases h1
      have h2 := wpOp_putIf hoj (hfree j oj hoj hji hjun hnot) (fun cs b => hsel i oi cs b hi) (fun cs b => hsel j oj cs b hoj) hQ hy h1
      have hfree' : ∀ k ok, ops[k]? = some ok → k ≠ i → (listed.setIfInBounds j true).getD k true = false →
          (∀ e ∈ ok.after, Region.binds md e = true → e.on ≠ i) → oi.apart ops ok = true := fun k ok hk hki hun hno => by
        refine hfree k ok hk hki ?_ hno
        by_cases hjk : j = k
        · subst hjk; exact hjun
        · rw [getD_set_ne true hjk] at hun; exact hun
      refine wpOp_mono (fun a' w' h3 => ?_) h2
      have hS' : S w' := h3.2.1 (by rw [getD_set_ne true him]; exact hml) hjm
      refine ⟨fun _ _ => hS', ih (listed.setIfInBounds j true) a' w' (inv.set hj) (by rw [getD_set_ne true hjm]; exact hml) hfree' (ready_mono hr (Ne.symm hji)) h3.1 hS' ?_⟩
      rw [Array.setIfInBounds_comm _ _ hji]
      exact h3.2.2

inductive Pl where
  | nil
  | w (i : Nat) (s : Pl)
  | t (i : Nat) (s : Pl)
  | r (i : Nat) (s : Pl)
  | m (i : Nat) (s : Pl)
  | b (i j : Nat) (s u : Pl)
  | c (i j k : Nat) (s u v : Pl)
def Pl.len : Pl → Nat
  | .nil => 0
  | .w _ s => s.len + 1
  | .t _ s => s.len + 1
  | .r _ s => s.len + 1
  | .m _ s => s.len + 1
  | .b _ _ s _ => s.len + 1
  | .c _ _ _ s _ _ => s.len + 1
def wpPlan (P : Program) (ops : Array Oper) (Q : Exit → Act → World → Prop) (S : World → Prop) : Pl → Act → World → Prop
  | .nil, a, w => Q .normal a w
  | .w i s, a, w => ∃ o v, ops[i]? = some o ∧ YieldsIf P ops (fun _ => True) o v a ∧ wpPlan P ops Q S s (a.put o.dst v) w
  | .t i s, a, w => ∃ o v, ops[i]? = some o ∧ YieldsIf P ops S o v a ∧ wpPlan P ops Q S s (a.put o.dst v) w
  | .r i s, a, w => ∃ o, ops[i]? = some o ∧ o.guard = none ∧ o.wp P a w (fun a' w' => S w' ∧ wpPlan P ops Q S s a' w') Q
  | .m i s, a, w => ∃ o, ops[i]? = some o ∧ o.guard = none ∧ o.wp P a w (fun a' w' => wpPlan P ops Q S s a' w') Q
  | .b i j s u, a, w => (∃ o, ops[i]? = some o ∧ o.guard = none ∧ o.wp P a w (fun a' w' => S w' ∧ wpPlan P ops Q S s a' w') Q) ∧
      (∃ o, ops[j]? = some o ∧ o.guard = none ∧ o.wp P a w (fun a' w' => S w' ∧ wpPlan P ops Q S u a' w') Q)
  | .c i j k s u v, a, w => (∃ o, ops[i]? = some o ∧ o.guard = none ∧ o.wp P a w (fun a' w' => S w' ∧ wpPlan P ops Q S s a' w') Q) ∧
      (∃ o, ops[j]? = some o ∧ o.guard = none ∧ o.wp P a w (fun a' w' => S w' ∧ wpPlan P ops Q S u a' w') Q) ∧
      (∃ o, ops[k]? = some o ∧ o.guard = none ∧ o.wp P a w (fun a' w' => S w' ∧ wpPlan P ops Q S v a' w') Q)
def planOk (md : Region.Mode) (ops : Array Oper) (m : Nat) : Pl → Array Bool → Bool
  | .nil, listed => (Region.ready md ops listed).isEmpty
  | .w i s, listed => decide (i ≠ m) && (Region.ready md ops listed).contains i && Region.free md ops listed i && planOk md ops m s (listed.setIfInBounds i true)
  | .t i s, listed => decide (i ≠ m) && decide (listed.getD m true = false) && (Region.ready md ops listed).contains i && Region.free md ops listed i && ancB md ops m ops.size i && planOk md ops m s (listed.setIfInBounds i true)
  | .r i s, listed => decide (i ≠ m) && decide (listed.getD m true = false) && decide (Region.ready md ops listed = [i]) && planOk md ops m s (listed.setIfInBounds i true)
  | .m i s, listed => (decide (i = m) || decide (listed.getD m true = true)) && decide (Region.ready md ops listed = [i]) && planOk md ops m s (listed.setIfInBounds i true)
  | .b i j s u, listed => decide (i ≠ m) && decide (j ≠ m) && decide (listed.getD m true = false) && decide (s.len = u.len) && decide (Region.ready md ops listed = [i, j]) && planOk md ops m s (listed.setIfInBounds i true) && planOk md ops m u (listed.setIfInBounds j true)
  | .c i j k s u v, listed => decide (i ≠ m) && decide (j ≠ m) && decide (k ≠ m) && decide (listed.getD m true = false) && decide (s.len = u.len) && decide (s.len = v.len) && decide (Region.ready md ops listed = [i, j, k]) && planOk md ops m s (listed.setIfInBounds i true) && planOk md ops m u (listed.setIfInBounds j true) && planOk md ops m v (listed.setIfInBounds k true)

theorem wpOp_one {i : Nat} {o : Oper} {a : Act} {w : World} {K : Act → World → Prop} (ho : ops[i]? = some o) (hg : o.guard = none) (h : o.wp P a w K Q) : wpOp P ops Q i K a w := by
  unfold wpOp
  simp only [ho]
  rw [if_pos (by simp [Region.wanted, hg])]
  exact .inl h
theorem getD_set_self {listed : Array Bool} {i : Nat} (h : i < listed.size) : (listed.setIfInBounds i true).getD i true = true := by simp [h]

theorem wpP_of_plan (hsel : Region.noSelect ops = true) (hm : m < ops.size) (hQ : ∀ c (d : Option Tmp) v a w, Q (.panic c) (Act.put a d v) w → Q (.panic c) a w) :
    ∀ (s : Pl) (listed : Array Bool) (a : Act) (w : World), Cl md ops listed → planOk md ops m s listed = true → (listed.getD m true = false → S w) → wpPlan P ops Q S s a w → wpP P md ops Q S m s.len listed a w
  | .nil, listed, a, w, _, hB, _, h => ⟨by simpa [planOk] using hB, h⟩
  | .w i r, listed, a, w, inv, hB, hS, h => by
    obtain ⟨o, v, ho, hy, hK⟩ := h
    simp only [planOk, Bool.and_eq_true, decide_eq_true_eq] at hB
    obtain ⟨⟨⟨him, hr⟩, hf⟩, hB'⟩ := hB
    have hr' : i ∈ Region.ready md ops listed := by simpa using hr
    exact wpP_takeW ho (Region.noSelect_spec hsel) (fun c a w => hQ c o.dst v a w) him hm r.len listed a w inv (Region.free_spec ho hf) hr' hy hS
      (wpP_of_plan hsel hm hQ r _ _ w (inv.set hr') hB' (fun h => hS (by rwa [getD_set_ne true him] at h)) hK)
  | .t i r, listed, a, w, inv, hB, hS, h => by
    obtain ⟨o, v, ho, hy, hK⟩ := h
    simp only [planOk, Bool.and_eq_true, decide_eq_true_eq] at hB
    obtain ⟨⟨⟨⟨⟨him, hml⟩, hr⟩, hf⟩, han⟩, hB'⟩ := hB
    have hr' : i ∈ Region.ready md ops listed := by simpa using hr
    exact wpP_takeS ho (Region.noSelect_spec hsel) (fun c a w => hQ c o.dst v a w) him han r.len listed a w inv hml (Region.free_spec ho hf) hr' hy (hS hml)
      (wpP_of_plan hsel hm hQ r _ _ w (inv.set hr') hB' (fun _ => hS hml) hK)
  | .r i r, listed, a, w, inv, hB, hS, h => by
    obtain ⟨o, ho, hg, hK⟩ := h
    simp only [planOk, Bool.and_eq_true, decide_eq_true_eq] at hB
    obtain ⟨⟨⟨him, hml⟩, hr⟩, hB'⟩ := hB
    have hr' : i ∈ Region.ready md ops listed := by rw [hr]; simp
    refine ⟨fun h0 => (by rw [hr] at h0; cases h0), fun j hj => ?_⟩
    rw [hr] at hj
    have hj' : j = i := by simpa using hj
    subst hj'
    exact wpOp_one ho hg (Oper.wp_mono (fun a' w' h' => ⟨fun _ _ => h'.1, wpP_of_plan hsel hm hQ r _ a' w' (inv.set hr') hB' (fun _ => h'.1) h'.2⟩) hK)
  | .m i r, listed, a, w, inv, hB, hS, h => by
    obtain ⟨o, ho, hg, hK⟩ := h
    simp only [planOk, Bool.and_eq_true, Bool.or_eq_true, decide_eq_true_eq] at hB
    obtain ⟨⟨him, hr⟩, hB'⟩ := hB
    have hr' : i ∈ Region.ready md ops listed := by rw [hr]; simp
    refine ⟨fun h0 => (by rw [hr] at h0; cases h0), fun j hj => ?_⟩
    rw [hr] at hj
    have hj' : j = i := by simpa using hj
    subst hj'
    have hml : (listed.setIfInBounds j true).getD m true = true := by
      rcases him with e | e
      · subst e; exact getD_set_self (by rw [inv.size]; exact hm)
      · by_cases e2 : j = m
        · subst e2; exact getD_set_self (by rw [inv.size]; exact hm)
        · rw [getD_set_ne true e2]; exact e
    refine wpOp_one ho hg (Oper.wp_mono (fun a' w' h' => ⟨fun h1 h2 => ?_, wpP_of_plan hsel hm hQ r _ a' w' (inv.set hr') hB' (fun h1 => by rw [hml] at h1; cases h1) h'⟩) hK)
    rcases him with e | e
    · exact absurd e h2
    · rw [e] at h1; cases h1
  | .b i j r u, listed, a, w, inv, hB, hS, h => by
    obtain ⟨⟨o, ho, hg, hK⟩, ⟨o2, ho2, hg2, hK2⟩⟩ := h
    simp only [planOk, Bool.and_eq_true, decide_eq_true_eq] at hB
    obtain ⟨⟨⟨⟨⟨⟨him, hjm⟩, hml⟩, hlen⟩, hr⟩, hB1⟩, hB2⟩ := hB
    have hri : i ∈ Region.ready md ops listed := by rw [hr]; simp
    have hrj : j ∈ Region.ready md ops listed := by rw [hr]; simp
    refine ⟨fun h0 => (by rw [hr] at h0; cases h0), fun k hk => ?_⟩
    rw [hr] at hk
    have hk' : k = i ∨ k = j := by simpa using hk
    rcases hk' with e | e
    · subst e
      exact wpOp_one ho hg (Oper.wp_mono (fun a' w' h' => ⟨fun _ _ => h'.1, wpP_of_plan hsel hm hQ r _ a' w' (inv.set hri) hB1 (fun _ => h'.1) h'.2⟩) hK)
    · subst e
      rw [hlen]
      exact wpOp_one ho2 hg2 (Oper.wp_mono (fun a' w' h' => ⟨fun _ _ => h'.1, wpP_of_plan hsel hm hQ u _ a' w' (inv.set hrj) hB2 (fun _ => h'.1) h'.2⟩) hK2)
  | .c i j k r u v, listed, a, w, inv, hB, hS, h => by
    obtain ⟨⟨o, ho, hg, hK⟩, ⟨o2, ho2, hg2, hK2⟩, ⟨o3, ho3, hg3, hK3⟩⟩ := h
    simp only [planOk, Bool.and_eq_true, decide_eq_true_eq] at hB
    obtain ⟨⟨⟨⟨⟨⟨⟨⟨⟨him, hjm⟩, hkm⟩, hml⟩, hlen⟩, hlen2⟩, hr⟩, hB1⟩, hB2⟩, hB3⟩ := hB
    have hri : i ∈ Region.ready md ops listed := by rw [hr]; simp
    have hrj : j ∈ Region.ready md ops listed := by rw [hr]; simp
    have hrk : k ∈ Region.ready md ops listed := by rw [hr]; simp
    refine ⟨fun h0 => (by rw [hr] at h0; cases h0), fun q hk => ?_⟩
    rw [hr] at hk
    have hk' : q = i ∨ q = j ∨ q = k := by simpa using hk
    rcases hk' with e | e | e
    · subst e
      exact wpOp_one ho hg (Oper.wp_mono (fun a' w' h' => ⟨fun _ _ => h'.1, wpP_of_plan hsel hm hQ r _ a' w' (inv.set hri) hB1 (fun _ => h'.1) h'.2⟩) hK)
    · subst e
      show wpOp P ops Q _ (fun a' w' => _ ∧ wpP P md ops Q S m r.len _ a' w') a w
      rw [hlen]
      exact wpOp_one ho2 hg2 (Oper.wp_mono (fun a' w' h' => ⟨fun _ _ => h'.1, wpP_of_plan hsel hm hQ u _ a' w' (inv.set hrj) hB2 (fun _ => h'.1) h'.2⟩) hK2)
    · subst e
      show wpOp P ops Q _ (fun a' w' => _ ∧ wpP P md ops Q S m r.len _ a' w') a w
      rw [hlen2]
      exact wpOp_one ho3 hg3 (Oper.wp_mono (fun a' w' h' => ⟨fun _ _ => h'.1, wpP_of_plan hsel hm hQ v _ a' w' (inv.set hrk) hB3 (fun _ => h'.1) h'.2⟩) hK3)

def planAll (ops : Array Oper) (m : Nat) (s : Pl) : Bool :=
  Region.noSelect ops && decide (m < ops.size) && decide (s.len = ops.size) && planOk .any ops m s (Array.replicate ops.size false)
/-- THE BEGINNING -/
theorem wp_region_plan {id : Nat} {a : Act} {w : World} {l : List Oper} (S : World → Prop) (m : Nat) (s : Pl) (hm : P.follows .mixedOrders = true) (hB : planAll l.toArray m s = true)
    (hS : S w.drew) (hQ : ∀ c (d : Option Tmp) v a w, Q (.panic c) (Act.put a d v) w → Q (.panic c) a w)
    (h : wpPlan P l.toArray Q S s a w.drew) : (Code.region id l.toArray true).wp P Q a w := by
  simp only [planAll, Bool.and_eq_true, decide_eq_true_eq] at hB
  obtain ⟨⟨⟨hsel, hms⟩, hlen⟩, hseq⟩ := hB
  have inv0 : Cl .any l.toArray (Array.replicate l.toArray.size false) :=
    ⟨by simp, fun j oj _ hl => (by rw [getD_replicate_false] at hl; cases hl)⟩
  have H := wpP_of_plan (md := .any) hsel hms hQ s _ a w.drew inv0 hseq (fun _ => hS) h
  rw [hlen] at H
  exact wp_region_any hm (wpAny_of_P _ _ _ _ H)

/- the steps -/
variable {l : List Oper} {i j : Nat} {s u : Pl} {a : Act} {w : World} {o o2 : Oper}
theorem plan_end (h : Q .normal a w) : wpPlan P ops Q S .nil a w := h
theorem plan_w (ho : l[i]? = some o) (hg : o.guard = none) {v : Value} (hv : ∀ wx, (execOp a.eval o).run P wx = .ok (.value v) wx) (h : wpPlan P l.toArray Q S s (a.put o.dst v) w) : wpPlan P l.toArray Q S (.w i s) a w :=
  ⟨o, v, by simpa using ho, .inl ⟨by simp [Region.wanted, hg], fun wx _ => hv wx⟩, h⟩
theorem plan_t (ho : l[i]? = some o) (hg : o.guard = none) {v : Value} (hv : ∀ wx, S wx → (execOp a.eval o).run P wx = .ok (.value v) wx) (h : wpPlan P l.toArray Q S s (a.put o.dst v) w) : wpPlan P l.toArray Q S (.t i s) a w :=
  ⟨o, v, by simpa using ho, .inl ⟨by simp [Region.wanted, hg], hv⟩, h⟩
theorem plan_r (ho : l[i]? = some o) (hg : o.guard = none) (h : o.wp P a w (fun a' w' => S w' ∧ wpPlan P l.toArray Q S s a' w') Q) : wpPlan P l.toArray Q S (.r i s) a w :=
  ⟨o, by simpa using ho, hg, h⟩
theorem plan_m (ho : l[i]? = some o) (hg : o.guard = none) (h : o.wp P a w (fun a' w' => wpPlan P l.toArray Q S s a' w') Q) : wpPlan P l.toArray Q S (.m i s) a w :=
  ⟨o, by simpa using ho, hg, h⟩
end
end Go.Mv

/- store: write, put. -/
namespace Go.Mv
open Go.RowKit Mvp
/-- a store lies in block g, its bytes at v, where its records lie at rv -/
structure SA (TS TB TX : TypeId) (w : World) (base g lim : Nat) (s : SM) (v rv : Value) : Prop where
  low : base ≤ g
  has : Has w g [v, .int .i64 (lftI s), .bool s.off, .int .i64 (lim : Int), rv] TS
  bytes : Own w base TB 1 v s.d.length (bs s.d)
  exts : Own w base TX 2 rv s.recs.length (exC s.recs)
/-- the store's blocks -/
def StB (g : Nat) (v rv : Value) : Nat → Prop := fun k => k = g ∨ OwnB v k ∨ OwnB rv k
theorem SA.keep {TS TB TX : TypeId} {w w' : World} {base g lim : Nat} {s : SM} {v rv : Value} (h : SA TS TB TX w base g lim s v rv) {S : Nat → Prop} (hf : Fr S w w') (hS : ∀ k, StB g v rv k → ¬ S k) : SA TS TB TX w' base g lim s v rv :=
  ⟨h.low, h.has.keep hf (hS g (.inl rfl)), h.bytes.keep hf fun k hk => hS k (.inr (.inl hk)), h.exts.keep hf fun k hk => hS k (.inr (.inr hk))⟩
theorem SA.still {TS TB TX : TypeId} {w w' : World} {base g lim : Nat} {s : SM} {v rv : Value} (h : SA TS TB TX w base g lim s v rv) (hf : Fr Nob w w') : SA TS TB TX w' base g lim s v rv := h.keep hf fun _ _ t => t
theorem SA.lt {TS TB TX : TypeId} {w : World} {base g lim : Nat} {s : SM} {v rv : Value} (h : SA TS TB TX w base g lim s v rv) {k : Nat} (hk : StB g v rv k) : base ≤ k ∧ k < w.heap.size := by
  rcases hk with rfl | hk | hk
  · exact ⟨h.low, h.has.lt⟩
  · exact h.bytes.lt hk
  · exact h.exts.lt hk
theorem SA.size {TS TB TX : TypeId} {w : World} {base g lim : Nat} {s : SM} {v rv : Value} (h : SA TS TB TX w base g lim s v rv) : base ≤ w.heap.size := Nat.le_of_lt (Nat.lt_of_le_of_lt h.low h.has.lt)
theorem SA.mono {TS TB TX : TypeId} {w : World} {base base' g lim : Nat} {s : SM} {v rv : Value} (h : SA TS TB TX w base g lim s v rv) (hb : base' ≤ base) : SA TS TB TX w base' g lim s v rv :=
  ⟨Nat.le_trans hb h.low, h.has, h.bytes.mono hb, h.exts.mono hb⟩
theorem Fr.stb {TS TB TX : TypeId} {w0 w w' : World} {base g lim : Nat} {s : SM} {v rv : Value} (hf : Fr Nob w0 w) (h : SA TS TB TX w base g lim s v rv) (hb : w0.heap.size ≤ base) (k : Fr (StB g v rv) w w') : Fr Nob w0 w' :=
  hf.trans k fun i hi hs => by have := (h.lt hs).1; omega
/-- what is turned, and where what is held then lies -/
structure FrN (S T : Nat → Prop) (w w' : World) : Prop extends Fr S w w' where
  new : ∀ k, T k → S k ∨ w.heap.size ≤ k
theorem newB {v v2 : Value} {n m : Nat} (h : v2.ownBlock = v.ownBlock ∨ v2.ownBlock = some n) (hm : m ≤ n) : ∀ k, OwnB v2 k → OwnB v k ∨ m ≤ k := by
  intro k hk
  rcases h with h | h
  · exact .inl (by unfold OwnB at *; rw [← h]; exact hk)
  · unfold OwnB at hk
    rw [h] at hk
    cases hk
    exact .inr hm
/-- a cell of a block is written -/
theorem Own.offB {w w' : World} {base : Nat} {T : TypeId} {sz : Nat} {v : Value} {n : Nat} {L : List Value} (h : Own w base T sz v n L) {g : Nat} {L' : List Value} {T' : TypeId} (hg : Has w g L' T') (hT : T ≠ T') (hf : Fr (One g) w w') : Own w' base T sz v n L :=
  h.keep hf fun k hk (e : k = g) => h.ne hg hT (e ▸ hk)
theorem Has.offO {w w' : World} {base : Nat} {T : TypeId} {sz : Nat} {v : Value} {n : Nat} {L : List Value} (h : Own w base T sz v n L) {g : Nat} {L' : List Value} {T' : TypeId} (hg : Has w g L' T') (hT : T ≠ T') (hf : Fr (OwnB v) w w') : Has w' g L' T' :=
  hg.keep hf (h.ne hg hT)
/-- one cell more is written -/
theorem Has.put1 {w : World} {g : Nat} {L : List Value} {T : TypeId} (h : Has w g L T) (i : Nat) (v : Value) : Has (w.setCell ⟨g, i, none⟩ v) g (L.set i v) T ∧ Fr (One g) w (w.setCell ⟨g, i, none⟩ v) :=
  ⟨h.set i v, (Fr.refl (One g) w).setCell g i none v fun _ => rfl⟩
theorem wp_append1 {P : Program} {w : World} {o : Oper} {a : Act} {K : Act → World → Prop} {Q : Exit → Act → World → Prop} {s x : Operand} {t : TypeId} {e : TypeId} {z : Value} {sz by_ : Nat} {v : Value} {n base : Nat} {L : List Value} (hown : Own w base e sz v n L) (ho : o.op = .call { callee := .builtin .append, args := #[s, x], argTypes := #[t, t] })
    (ht : P.underlying t = some (.slice e)) (hi0 : (P.info? e).map (fun i => (i.zero, i.size, i.bytes)) = some (some z, sz, by_))
    (hzs : z.cells.size = sz) (hsz : 0 < sz) (hs : a.eval s = v)
    {xa : Option Addr} {m c : Nat} {news : List Value} (hx : a.eval x = .slice xa m c) (hnews : Rd w xa (m * sz) news) (h1 : ∀ u ∈ news, u.oneCell' = true)
    (h63 : n + m ≤ maxLen) (hbytes : (n + m) * by_ ≤ 140737488355328) (hbase : base ≤ w.heap.size)
    (h : ∀ v' w', Own w' base e sz v' (n + m) (L ++ news) → Fr (OwnB v) w w' → (v'.ownBlock = v.ownBlock ∨ v'.ownBlock = some w.heap.size) → K (a.put o.dst v') w') : o.wp P a w K Q := by
  obtain ⟨v', w', hr, h2, h3, h4⟩ := run_append2 (P := P) base t o.type e z sz by_ ht hi0 hzs hsz v n L hown xa m c news hnews h1 h63 hbytes hbase
  unfold Oper.wp execOp
  simp only [ho, resolve, invoke, builtin, Sem.run_bind, Sem.run_pure, Result.andThen_ok, List.map_toArray, List.map_cons, List.map_nil, hs, hx, hr]
  exact h v' w' h2 h3 h4
/-- bytes do not lie in a block that has none -/
theorem RdB.offHas {w w' : World} {a : Option Addr} {m : Nat} {b : List UInt8} (h : RdB w a m b) {g : Nat} {L : List Value} {T : TypeId} (hg : Has w g L T) (hL : ∀ u ∈ L, ∀ x, u ≠ .int .u8 x) (hf : Fr (One g) w w') : RdB w' a m b := by
  rcases Nat.eq_zero_or_pos m with h0 | h0
  · subst h0
    have hb := List.eq_nil_of_length_eq_zero h.len
    subst hb
    exact RdB.nil _ _
  · refine h.keep hf fun x hx e => ?_
    obtain ⟨bb, o, rfl, hc⟩ := h.at h0
    cases hx
    have e2 : bb = g := e
    subst e2
    have h1 := hc 0 h0
    rw [hg.get] at h1
    exact hL _ (List.mem_of_getElem? h1) _ rfl
end Go.Mv
namespace Go.Proofs.Ytdadnajbdnbbdaa
open Go.RowKit Go.Mv Mvp
abbrev SAt1 (w : World) (base g lim : Nat) (s : SM) (v rv : Value) : Prop := SA 83 5 88 w base g lim s v rv
/-- a disk that is written to: v its bytes, and what may change -/
structure WR (w w' : World) (base g : Nat) (v v' : Value) (x : List Value) (n : Nat) (d : List UInt8) : Prop where
  has : Has w' g (v' :: x) 83
  own : Own w' base 5 1 v' n (bs d)
  fr : Fr (fun k => k = g ∨ OwnB v k) w w'
  new : ∀ k, OwnB v' k → OwnB v k ∨ w.heap.size ≤ k
attribute [local irreducible] permS permP toB turnsK squeeze permN permB spongeB feed frameL framesL tagL bigN bigJ numS frameB ckS exC
set_option maxHeartbeats 2000000 in
set_option maxRecDepth 100000 in
theorem write_all (g base : Nat) (v : Value) (n : Nat) (d : List UInt8) (off lim rv : Value) (a : Option Addr) (m c : Nat) (b : List UInt8) (w : World) (_hoff : off.cells = #[off])
    (hh : Has w g [v, .int .i64 (-1), off, lim, rv] 83) (ho : Own w base 5 1 v n (bs d)) (hr : RdB w a m b) (hs : n + m ≤ 100000000) (hb : base ≤ w.heap.size) :
    Calls Try.prog 39 #[.pointer (some ⟨g, 0, none⟩), .slice a m c] w fun e w' => ∃ v', e = .returned (.bool true) ∧ WR w w' base g v v' [.int .i64 (-1), off, lim, rv] (n + m) (d ++ b) := by
  have HH := Lib.hid hh
  have HO := Lib.hid ho
  have HR := Lib.hid hr
  have HS := Lib.hid hs
  have HB := Lib.hid hb
  have c0 := hh.cell (i := 0) (v := v) rfl
  have c1 := hh.cell (i := 1) (v := .int .i64 (-1)) rfl
  clear hh ho hr hs hb
  go_enter Try.func39, Try.ntmps39
  go_wp2_with (with_reducible refine wl_stop (o := ⟨some 49, _, _, _, _, _⟩) ?_)
  refine wl_append rfl rfl Try.underlying22 info_u8 rfl (by decide) HO.out rfl (news := bs b) rfl (by rw [Nat.mul_one]; exact HR.out) (bs_one _) (by unfold maxLen; have := HS.out; omega) (by have := HS.out; omega) HB.out ?_
  intro v2 w2 ho2 hf2 hb2
  have HNB := Lib.hid (newB hb2 (Nat.le_refl _))
  clear hb2 c0 c1
  have hh2 := Has.offO HO.out HH.out (by decide) hf2
  have HO2 := Lib.hid (ho2.offB hh2 (by decide) (hh2.put1 0 v2).2)
  have HF2 := Lib.hid hf2
  have HH2 := Lib.hid (hh2.put1 0 v2).1
  have HF3 := Lib.hid (hh2.put1 0 v2).2
  obtain ⟨av, cv, rfl, -⟩ := ho2.form
  obtain ⟨u, cu, fu⟩ := hh2.ready (i := 0) (by simp)
  clear ho2 hf2 hh2
  go_wp2_with fail
  go_ret
  refine ⟨_, rfl, ⟨HH2.out, ?_, ?_, HNB.out⟩⟩
  · rw [bs_append]; exact HO2.out
  · exact (HF2.out.mono fun k _ hk => .inr hk).trans HF3.out fun k _ hk => .inl hk
set_option maxHeartbeats 2000000 in
set_option maxRecDepth 100000 in
theorem write_some (g base : Nat) (v : Value) (n : Nat) (d : List UInt8) (x : Int) (off lim rv : Value) (a : Option Addr) (m c : Nat) (b : List UInt8) (w : World) (hnu : ∀ u ∈ [v, off, lim, rv], ∀ x, u ≠ .int .u8 x)
    (hh : Has w g [v, .int .i64 x, off, lim, rv] 83) (ho : Own w base 5 1 v n (bs d)) (hr : RdB w a m b) (hs : n + m ≤ 100000000) (hb : base ≤ w.heap.size) (hk : (m : Int) ≤ x) (hk2 : x < 9223372036854775808) :
    Calls Try.prog 39 #[.pointer (some ⟨g, 0, none⟩), .slice a m c] w fun e w' => ∃ v', e = .returned (.bool true) ∧ WR w w' base g v v' [.int .i64 (x - (m : Int)), off, lim, rv] (n + m) (d ++ b) := by
  have HH := Lib.hid hh
  have HO := Lib.hid ho
  have HR := Lib.hid hr
  have HS := Lib.hid hs
  have HB := Lib.hid hb
  have c1 := hh.cell (i := 1) (v := .int .i64 x) rfl
  obtain ⟨u1, cu1, fu1⟩ := hh.ready (i := 1) (by simp)
  have hne : (x != -1) = true := by simp; omega
  have hne2 : (x == -1) = false := by simp; omega
  have hnl : ¬ (x < (m : Int)) := by omega
  clear hh ho hr hs hb
  have hp := HH.out.put1 1 (.int .i64 (x - (m : Int)))
  have HH1 := Lib.hid hp.1
  have HF1 := Lib.hid hp.2
  have HO1 := Lib.hid (HO.out.offB HH.out (by decide) hp.2)
  have HR1 := Lib.hid (HR.out.offHas HH.out (by intro u hu y e; simp only [List.mem_cons, List.not_mem_nil, or_false] at hu; rcases hu with rfl | rfl | rfl | rfl | rfl; exact hnu _ (by simp) _ e; cases e; exact hnu _ (by simp) _ e; exact hnu _ (by simp) _ e; exact hnu _ (by simp) _ e) hp.2)
  have c0 := hp.1.cell (i := 0) (v := v) rfl
  clear hp
  go_enter Try.func39, Try.ntmps39
  go_wp2_with (with_reducible refine wl_stop (o := ⟨some 49, _, _, _, _, _⟩) ?_)
  refine wl_append rfl rfl Try.underlying22 info_u8 rfl (by decide) HO1.out rfl (news := bs b) rfl (by rw [Nat.mul_one]; exact HR1.out) (bs_one _) (by unfold maxLen; have := HS.out; omega) (by have := HS.out; omega) (Nat.le_trans HB.out HF1.out.size) ?_
  intro v2 w2 ho2 hf2 hb2
  have HNB := Lib.hid (newB hb2 HF1.out.size)
  clear hb2 c0 c1 cu1 fu1
  have hh2 := Has.offO HO1.out HH1.out (by decide) hf2
  have HO2 := Lib.hid (ho2.offB hh2 (by decide) (hh2.put1 0 v2).2)
  have HF2 := Lib.hid hf2
  have HH2 := Lib.hid (hh2.put1 0 v2).1
  have HF3 := Lib.hid (hh2.put1 0 v2).2
  obtain ⟨av, cv, rfl, -⟩ := ho2.form
  obtain ⟨u, cu, fu⟩ := hh2.ready (i := 0) (by simp)
  clear ho2 hf2 hh2
  go_wp2_with fail
  go_ret
  refine ⟨_, rfl, ⟨HH2.out, ?_, ?_, HNB.out⟩⟩
  · rw [bs_append]; exact HO2.out
  · exact ((HF1.out.mono fun k _ hk => .inl hk).trans (HF2.out.mono fun k _ hk => .inr hk) fun k _ hk => hk).trans HF3.out fun k _ hk => .inl hk
set_option maxHeartbeats 2000000 in
set_option maxRecDepth 100000 in
theorem write_part (g base : Nat) (v : Value) (n : Nat) (d : List UInt8) (k : Nat) (lim rv : Value) (off : Bool) (a : Option Addr) (m c : Nat) (b : List UInt8) (w : World) (_hrv : ∀ x, rv ≠ .int .u8 x) (_hlim : ∀ x, lim ≠ .int .u8 x)
    (hh : Has w g [v, .int .i64 (k : Int), .bool off, lim, rv] 83) (ho : Own w base 5 1 v n (bs d)) (hr : RdB w a m b) (hs : n + m ≤ 100000000) (hb : base ≤ w.heap.size) (hk : k < m) (hc : m ≤ c) :
    Calls Try.prog 39 #[.pointer (some ⟨g, 0, none⟩), .slice a m c] w fun e w' => ∃ v', e = .returned (.bool false) ∧ WR w w' base g v v' [.int .i64 (k : Int), .bool true, lim, rv] (n + k) (d ++ b.take k) := by
  have HH := Lib.hid hh
  have HO := Lib.hid ho
  have HR := Lib.hid hr
  have HS := Lib.hid hs
  have HB := Lib.hid hb
  have c1 := hh.cell (i := 1) (v := .int .i64 (k : Int)) rfl
  have c0 := hh.cell (i := 0) (v := v) rfl
  have hnl : (k : Int) < (m : Int) := by omega
  have HK := Lib.hid hk
  have hcut : ∀ wx, (Instr.sliceAt 22 (.slice a m c) none (some (.int .i64 (k : Int))) none).run Try.prog wx = .ok (.slice a k c) wx := fun wx => run_slice_hi wx Try.underlying22 (by kernel_rfl) a m c .i64 k (by omega)
  clear hh ho hr hs hb hk hc
  go_enter Try.func39, Try.ntmps39
  go_wp2_with fail
  refine wp_region_noPanic ?_
  refine wp_region_plan (fun wx => Has wx g [v, .int .i64 (k : Int), .bool off, lim, rv] 83) 11 (.w 0 (.w 1 (.w 2 (.w 3 (.t 4 (.w 5 (.w 6 (.w 7 (.w 8 (.t 9 (.w 10 (.m 11 (.w 12 (.w 13 (.m 14 .nil))))))))))))))) (by kernel_rfl) (by kernel_rfl) HH.out.drew (fun _ _ _ _ _ h => h) ?_
  refine plan_w (v := ?_) rfl rfl (fun wx => ?_) ?_; rotate_left 1; (go_simp; with_reducible rfl)
  try simp only [Act.put, List.setIfInBounds_toArray, List.set_cons_zero, List.set_cons_succ]
  refine plan_w (v := ?_) rfl rfl (fun wx => ?_) ?_; rotate_left 1; (go_simp; with_reducible rfl)
  try simp only [Act.put, List.setIfInBounds_toArray, List.set_cons_zero, List.set_cons_succ]
  refine plan_w (v := ?_) rfl rfl (fun wx => ?_) ?_; rotate_left 1; (go_simp; with_reducible rfl)
  try simp only [Act.put, List.setIfInBounds_toArray, List.set_cons_zero, List.set_cons_succ]
  refine plan_w (v := ?_) rfl rfl (fun wx => ?_) ?_; rotate_left 1; (go_simp; with_reducible rfl)
  try simp only [Act.put, List.setIfInBounds_toArray, List.set_cons_zero, List.set_cons_succ]
  refine plan_t (v := v) rfl rfl (fun wx hS => ?_) ?_
  · have hc := hS.cell (i := 0) (v := v) rfl; clear hS; go_simp
  try simp only [Act.put, List.setIfInBounds_toArray, List.set_cons_zero, List.set_cons_succ]
  refine plan_w (v := ?_) rfl rfl (fun wx => ?_) ?_; rotate_left 1; (go_simp; with_reducible rfl)
  try simp only [Act.put, List.setIfInBounds_toArray, List.set_cons_zero, List.set_cons_succ]
  refine plan_w (v := ?_) rfl rfl (fun wx => ?_) ?_; rotate_left 1; (go_simp; with_reducible rfl)
  try simp only [Act.put, List.setIfInBounds_toArray, List.set_cons_zero, List.set_cons_succ]
  refine plan_w (v := ?_) rfl rfl (fun wx => ?_) ?_; rotate_left 1; (go_simp; with_reducible rfl)
  try simp only [Act.put, List.setIfInBounds_toArray, List.set_cons_zero, List.set_cons_succ]
  refine plan_w (v := ?_) rfl rfl (fun wx => ?_) ?_; rotate_left 1; (go_simp; with_reducible rfl)
  try simp only [Act.put, List.setIfInBounds_toArray, List.set_cons_zero, List.set_cons_succ]
  refine plan_t (v := .int .i64 (k : Int)) rfl rfl (fun wx hS => ?_) ?_
  · have hc := hS.cell (i := 1) (v := .int .i64 (k : Int)) rfl; clear hS; go_simp
  try simp only [Act.put, List.setIfInBounds_toArray, List.set_cons_zero, List.set_cons_succ]
  refine plan_w (v := ?_) rfl rfl (fun wx => ?_) ?_; rotate_left 1; (go_simp; with_reducible rfl)
  try simp only [Act.put, List.setIfInBounds_toArray, List.set_cons_zero, List.set_cons_succ]
  refine plan_m rfl rfl ?_
  refine wp_append1 (HO.out.still (Fr.refl Nob _).drew) rfl Try.underlying22 info_u8 rfl (by decide) rfl (news := bs (b.take k)) rfl (by rw [Nat.mul_one, ← bs_take]; exact Rd.take (show Rd _ a m (bs b) from HR.out.still (Fr.refl Nob _).drew) k (by have := HK.out; omega)) (bs_one _) (by unfold maxLen; have := HS.out; have := HK.out; omega) (by have := HS.out; have := HK.out; omega) HB.out ?_
  intro v2 w2 ho2 hf2 hb2
  try simp only [Act.put, List.setIfInBounds_toArray, List.set_cons_zero, List.set_cons_succ]
  have hh2 := Has.offO (HO.out.still (Fr.refl Nob _).drew) HH.out.drew (by decide) hf2
  have HO2 := Lib.hid (ho2.offB hh2 (by decide) (hh2.put1 0 v2).2)
  have HF2 := Lib.hid ((Fr.refl Nob w).drew.mono (T := OwnB v) (fun _ _ t => t.elim) |>.trans hf2 fun _ _ t => t)
  have HH2 := Lib.hid (hh2.put1 0 v2).1
  have HF3 := Lib.hid (hh2.put1 0 v2).2
  obtain ⟨av, cv, rfl, -⟩ := ho2.form
  obtain ⟨u, cu, fu⟩ := hh2.ready (i := 0) (by simp)
  have HNB := Lib.hid (newB hb2 (Nat.le_refl w.heap.size))
  clear ho2 hf2 hh2 hb2 c0 c1
  refine plan_w (v := ?_) rfl rfl (fun wx => ?_) ?_; rotate_left 1; (go_simp; with_reducible rfl)
  try simp only [Act.put, List.setIfInBounds_toArray, List.set_cons_zero, List.set_cons_succ]
  refine plan_w (v := ?_) rfl rfl (fun wx => ?_) ?_; rotate_left 1; (go_simp; with_reducible rfl)
  try simp only [Act.put, List.setIfInBounds_toArray, List.set_cons_zero, List.set_cons_succ]
  refine plan_m rfl rfl ?_
  go_simp
  try simp only [Act.put, List.setIfInBounds_toArray, List.set_cons_zero, List.set_cons_succ]
  refine plan_end ?_
  refine NoPanic.normal ?_
  clear cu fu
  have hp := HH2.out.put1 2 (.bool true)
  have HO3 := Lib.hid (HO2.out.offB HH2.out (by decide) hp.2)
  have HH3 := Lib.hid hp.1
  have HF4 := Lib.hid hp.2
  obtain ⟨u3, cu3, fu3⟩ := HH2.out.ready (i := 2) (by simp)
  clear hp
  go_wp2_with fail
  go_ret
  refine ⟨_, rfl, ⟨HH3.out, ?_, ?_, HNB.out⟩⟩
  · rw [bs_append]; exact HO3.out
  · exact ((HF2.out.mono fun k _ hk => .inr hk).trans HF3.out fun k _ hk => .inl hk).trans HF4.out fun k _ hk => .inl hk
theorem lftI_none {s : SM} (h : s.left = none) : lftI s = -1 := by unfold lftI; rw [h]
theorem lftI_some {s : SM} {k : Nat} (h : s.left = some k) : lftI s = (k : Int) := by unfold lftI; rw [h]
theorem put_none {c : Nat → List UInt8 → List UInt8} {s : SM} (h : s.left = none) (b : List UInt8) : s.put c b = ({ s with d := s.d ++ frameB c s.recs.length b, recs := s.recs ++ [b] }, true) := by unfold SM.put; rw [h]
theorem put_some {c : Nat → List UInt8 → List UInt8} {s : SM} {k : Nat} (h : s.left = some k) (b : List UInt8) (hk : ¬ k < (frameB c s.recs.length b).length) : s.put c b = ({ s with d := s.d ++ frameB c s.recs.length b, left := some (k - (frameB c s.recs.length b).length), recs := s.recs ++ [b] }, true) := by unfold SM.put; rw [h]; exact if_neg hk
theorem put_short {c : Nat → List UInt8 → List UInt8} {s : SM} {k : Nat} (h : s.left = some k) (b : List UInt8) (hk : k < (frameB c s.recs.length b).length) : s.put c b = ({ s with d := s.d ++ (frameB c s.recs.length b).take k, off := true }, false) := by unfold SM.put; rw [h]; exact if_pos hk
/-- what write does to a store, all ways -/
theorem swrite_any (g base lim : Nat) (s : SM) (v rv : Value) (a : Option Addr) (c : Nat) (b : List UInt8) (w : World) (h : SAt1 w base g lim s v rv) (hr : RdB w a (frameB ckS s.recs.length b).length (frameB ckS s.recs.length b)) (hc : (frameB ckS s.recs.length b).length ≤ c) (hs : s.d.length ≤ 50000000) (hb : b.length ≤ 40000000) (hl : lftI s < 9223372036854775808) :
    Calls Try.prog 39 #[.pointer (some ⟨g, 0, none⟩), .slice a (frameB ckS s.recs.length b).length c] w fun e w' => ∃ v', e = .returned (.bool (s.put ckS b).2) ∧
      WR w w' base g v v' [.int .i64 (lftI (s.put ckS b).1), .bool (s.put ckS b).1.off, .int .i64 (lim : Int), rv] (s.put ckS b).1.d.length (s.put ckS b).1.d := by
  have hfl := frameB_length s.recs.length b
  have hnv : ∀ x, v ≠ .int .u8 x := by obtain ⟨_, _, rfl, -⟩ := h.bytes.form; intro x e; cases e
  have hnr : ∀ x, rv ≠ .int .u8 x := by obtain ⟨_, _, rfl, -⟩ := h.exts.form; intro x e; cases e
  have hh := h.has
  cases hL : s.left with
  | none =>
    rw [put_none hL, lftI_none (s := { s with d := s.d ++ frameB ckS s.recs.length b, recs := s.recs ++ [b] }) hL]
    rw [lftI_none hL] at hh
    refine (write_all g base v s.d.length s.d _ _ _ a _ c _ w rfl hh h.bytes hr (by omega) h.size).mono ?_
    rintro e w' ⟨v', rfl, k⟩
    exact ⟨v', rfl, by simpa using k⟩
  | some k =>
    rw [lftI_some hL] at hh hl
    by_cases hk : k < (frameB ckS s.recs.length b).length
    · rw [put_short hL b hk, lftI_some (s := { s with d := s.d ++ (frameB ckS s.recs.length b).take k, off := true }) hL]
      refine (write_part g base v s.d.length s.d k _ _ _ a _ c _ w hnr (by intro x e; cases e) hh h.bytes hr (by omega) h.size hk hc).mono ?_
      rintro e w' ⟨v', rfl, q⟩
      exact ⟨v', rfl, by simpa [Nat.min_eq_left (Nat.le_of_lt hk)] using q⟩
    · rw [put_some hL b hk, lftI_some (s := { s with d := s.d ++ frameB ckS s.recs.length b, left := some (k - (frameB ckS s.recs.length b).length), recs := s.recs ++ [b] }) rfl]
      refine (write_some g base v s.d.length s.d k _ _ _ a _ c _ w (by intro u hu x e; simp only [List.mem_cons, List.not_mem_nil, or_false] at hu; rcases hu with rfl | rfl | rfl | rfl; exact hnv _ e; cases e; cases e; exact hnr _ e) hh h.bytes hr (by omega) h.size (by omega) hl).mono ?_
      rintro e w' ⟨v', rfl, q⟩
      refine ⟨v', rfl, ?_⟩
      rw [show ((k - (frameB ckS s.recs.length b).length : Nat) : Int) = (k : Int) - ((frameB ckS s.recs.length b).length : Int) by omega]
      simpa using q
end Go.Proofs.Ytdadnajbdnbbdaa

/- An empty slice literal. -/
namespace Go.Mv
open Go.RowKit
variable {P : Program}
end Go.Mv
namespace Go.Mv
open Go.RowKit
variable {P : Program}
/-- n rows in a row: a slice literal of structs -/
theorem wl_slitR {w : World} {ops : Array Oper} {rest : List Oper} {o : Oper} {a : Act} {Q : Exit → Act → World → Prop} {t e : TypeId} {k : Nat} {parts : Array (Nat × Operand)} (hgd : o.guard = none) (ho : o.op = .buildSlice t k parts)
    (hu : P.underlying t = some (.slice e)) {z : Value} {sz by_ : Nat} (hi0 : (P.info? e).map (fun i => (i.zero, i.size, i.bytes)) = some (some z, sz, by_)) (vs : List Value) (hp : (parts.toList.map fun p => (p.1, a.eval p.2)) = (vs.zipIdx 0).map fun x => (x.2, x.1))
    (hv : ∀ v ∈ vs, v.cells.size = sz) (hk : vs.length = k) (L : List Value) (hL : (vs.flatMap fun v => v.cells.toList) = L)
    (h : ∀ w', Has w' w.heap.size L e → Fr Nob w w' → w'.heap.size = w.heap.size + 1 → wpList P ops Q rest (a.put o.dst (.slice (some ⟨w.heap.size, 0, none⟩) k k)) w') (hk0 : 0 < k * sz := by decide) (hk24 : k * sz ≤ 16777216 := by decide) : wpList P ops Q (o :: rest) a w := by
  obtain ⟨i, hi, hz0⟩ : ∃ i, P.info? e = some i ∧ (i.zero, i.size, i.bytes) = (some z, sz, by_) := by simpa using hi0
  simp only [Prod.mk.injEq] at hz0
  obtain ⟨hz1, hsz, hby⟩ := hz0
  have hs0 : 0 < sz := Nat.pos_of_mul_pos_left hk0
  have hf : Instr.fill (fun j => some (j * i.size, i.size)) ((Array.range (k * i.size)).map (z.cells[· % z.cells.size]!)) (parts.map fun (i, x) => (i, a.eval x)).toList = some L.toArray := by
    rw [show (parts.map fun (i, x) => (i, a.eval x)).toList = (parts.toList.map fun p => (p.1, a.eval p.2)) by simp, hp, hsz, ← hL]
    exact Great.fill_whole hs0 vs _ hv (by simp [hk])
  exact wpList_buildSlice hgd t e k _ ho _ i _ hu hi hz1 (by rw [hsz]; omega) (by rw [hsz]; omega) hf (h _ (Has.new w L.toArray e) ((Fr.refl _ w).alloc _) (by simp))
end Go.Mv
namespace Go.Mv
open Go.RowKit
variable {P : Program}
end Go.Mv

/- store: put, Add. -/
namespace Go.Mv
open Go.RowKit Mvp
theorem put_recs {c : Nat → List UInt8 → List UInt8} {s : SM} {b : List UInt8} (h : (s.put c b).2 = true) : (s.put c b).1.recs = s.recs ++ [b] := by
  unfold SM.put at *
  split at h
  · simp
  · split at h
    · simp at h
    · rename_i hk
      simp [hk]
theorem put_recs0 {c : Nat → List UInt8 → List UInt8} {s : SM} {b : List UInt8} (h : (s.put c b).2 = false) : (s.put c b).1.recs = s.recs := by
  unfold SM.put at *
  split at h
  · simp at h
  · split at h
    · rename_i hk
      simp [hk]
    · simp at h
theorem put_dlen {c : Nat → List UInt8 → List UInt8} (hc : ∀ i b, 8 ≤ (c i b).length) (s : SM) (b : List UInt8) : (s.put c b).1.d.length ≤ s.d.length + (12 + b.length) := by
  have hl := frameB_len hc s.recs.length b
  unfold SM.put
  split
  · simp [hl]
  · split
    · simp; omega
    · simp [hl]
/-- a store whose power is on: its disk is its frames -/
theorem sinv_whole {c : Nat → List UInt8 → List UInt8} {s : SM} (h : SInv c s) (ho : s.off = false) : s.d = framesB c 0 s.recs := by
  obtain ⟨-, p, hd, hp⟩ := h
  rcases hp with rfl | ⟨h1, -⟩
  · rw [hd, List.append_nil]
  · rw [ho] at h1; cases h1
theorem Fr.up {S T : Nat → Prop} {a b c : World} (h : Fr Nob a b) (k : Fr T b c) (hT : ∀ i, T i → S i) : Fr S a c := (h.mono (T := S) fun _ _ t => t.elim).trans k fun i _ t => hT i t
end Go.Mv
namespace Go.Proofs.Ytdadnajbdnbbdaa
open Go.RowKit Go.Mv Mvp
theorem info_ext : (Try.prog.info? 88).map (fun i => (i.zero, i.size, i.bytes)) = some (some (.agg #[.int .i64 0, .int .i64 0]), 2, 16) := by kernel_rfl
theorem built_ext (x y : Int) : Try.prog.built 88 [(0, .int .i64 x), (1, .int .i64 y)] = some #[.int .i64 x, .int .i64 y] := by kernel_rfl
attribute [local irreducible] permS permP toB turnsK squeeze permN permB spongeB feed frameL framesL tagL bigN bigJ numS frameB framesB ckS exC SM.put
set_option maxHeartbeats 2000000 in
set_option maxRecDepth 100000 in
theorem sput_any (g base lim : Nat) (s : SM) (v rv : Value) (a : Option Addr) (n c : Nat) (b : List UInt8) (w : World) (h : SAt1 w base g lim s v rv) (hp : PartIs w (.slice a n c) b) (hoff : s.off = false) (hi : SInv ckS s) (hd : s.d.length ≤ 2000000) (hl : lftI s < 9223372036854775808) :
    Calls Try.prog 35 #[.pointer (some ⟨g, 0, none⟩), .slice a n c] w fun e w' => ∃ v' rv', e = .returned (.bool (s.put ckS b).2) ∧ SAt1 w' base g lim (s.put ckS b).1 v' rv' ∧ FrN (StB g v rv) (StB g v' rv') w w' := by
  have hcnt := hi.count ckS_len
  have hpl := part_lenS hp
  have hpn := part_leS hp
  obtain ⟨av, cv, rfl, -⟩ := h.bytes.form
  obtain ⟨ar, cr, rfl, -⟩ := h.exts.form
  have hwh := sinv_whole hi hoff
  have hfl := frameB_length s.recs.length b
  have hdl := put_dlen ckS_len s b
  have c0 := h.has.cell (i := 0) (v := .slice av s.d.length cv) rfl
  have c4 := h.has.cell (i := 4) (v := .slice ar s.recs.length cr) rfl
  have H := Lib.hid h
  have HP := Lib.hid hp
  have HL := Lib.hid hl
  have HFL := Lib.hid hfl
  have HPL := Lib.hid hpl
  have HWH := Lib.hid hwh
  have HD := Lib.hid hd
  have HCN := Lib.hid hcnt
  have HPN := Lib.hid hpn
  have hd1 : (s.d.length : Int) < 10000000 := by omega
  have hr1 : (s.recs.length : Int) < 10000000 := by omega
  clear h hp hl hpl hfl hwh hoff hi hd hcnt hpn hdl
  go_enter Try.func35, Try.ntmps35
  go_wp2_with fail
  refine wp_region_noPanic ?_
  refine wp_region_plan (fun wx => SAt1 wx base g lim s (.slice av s.d.length cv) (.slice ar s.recs.length cr)) 9 (.w 0 (.w 1 (.w 2 (.w 3 (.w 4 (.w 5 (.t 6 (.w 7 (.w 8 (.m 9 (.m 10 (.m 11 .nil)))))))))))) (by kernel_rfl) (by kernel_rfl) (H.out.still (Fr.refl Nob _).drew) (fun _ _ _ _ _ h => h) ?_
  refine plan_w (v := ?_) rfl rfl (fun wx => ?_) ?_; rotate_left 1; (go_simp; with_reducible rfl)
  try simp only [Act.put, List.setIfInBounds_toArray, List.set_cons_zero, List.set_cons_succ]
  refine plan_w (v := ?_) rfl rfl (fun wx => ?_) ?_; rotate_left 1; (go_simp; with_reducible rfl)
  try simp only [Act.put, List.setIfInBounds_toArray, List.set_cons_zero, List.set_cons_succ]
  refine plan_w (v := ?_) rfl rfl (fun wx => ?_) ?_; rotate_left 1; (go_simp; with_reducible rfl)
  try simp only [Act.put, List.setIfInBounds_toArray, List.set_cons_zero, List.set_cons_succ]
  refine plan_w (v := ?_) rfl rfl (fun wx => ?_) ?_; rotate_left 1; (go_simp; with_reducible rfl)
  try simp only [Act.put, List.setIfInBounds_toArray, List.set_cons_zero, List.set_cons_succ]
  refine plan_w (v := ?_) rfl rfl (fun wx => ?_) ?_; rotate_left 1; (go_simp; with_reducible rfl)
  try simp only [Act.put, List.setIfInBounds_toArray, List.set_cons_zero, List.set_cons_succ]
  refine plan_w (v := ?_) rfl rfl (fun wx => ?_) ?_; rotate_left 1; (go_simp; with_reducible rfl)
  try simp only [Act.put, List.setIfInBounds_toArray, List.set_cons_zero, List.set_cons_succ]
  refine plan_t (v := .slice ar s.recs.length cr) rfl rfl (fun wx hS => ?_) ?_
  · have hc := hS.has.cell (i := 4) (v := .slice ar s.recs.length cr) rfl; clear hS; go_simp
  try simp only [Act.put, List.setIfInBounds_toArray, List.set_cons_zero, List.set_cons_succ]
  refine plan_w (v := ?_) rfl rfl (fun wx => ?_) ?_; rotate_left 1; (go_simp; with_reducible rfl)
  try simp only [Act.put, List.setIfInBounds_toArray, List.set_cons_zero, List.set_cons_succ]
  refine plan_w (v := ?_) rfl rfl (fun wx => ?_) ?_; rotate_left 1; (go_simp; with_reducible rfl)
  try simp only [Act.put, List.setIfInBounds_toArray, List.set_cons_zero, List.set_cons_succ]
  refine plan_m rfl rfl ?_
  go_simp
  refine (sframe_any s.recs.length a n c b _ (by have := HCN.out; have := HD.out; omega) (HP.out.still (Fr.refl Nob _).drew)).mono ?_
  rintro e1 w1 ⟨vf, rfl, hof, hf1⟩
  obtain ⟨af, cf, rfl, hcf, hrf, -⟩ := hof.form
  have HF1 := Lib.hid ((Fr.refl Nob w).drew.then hf1)
  have H1 := Lib.hid (H.out.still HF1.out)
  rw [Nat.mul_one, ← HPL.out, ← HFL.out] at hrf
  have HRF := Lib.hid hrf
  rw [← HPL.out, ← HFL.out] at hcf
  have HCF := Lib.hid hcf
  rw [← HPL.out, ← HFL.out]
  clear hof hf1 hrf hcf c0 c4
  try simp only []
  refine plan_m rfl rfl ?_
  go_simp
  refine (swrite_any g base lim s _ _ af cf b w1 H1.out HRF.out HCF.out (by have := HD.out; omega) (by have := HPN.out; have := HPL.out; omega) HL.out).mono ?_
  rintro e2 w2 ⟨v2, rfl, hwr⟩
  have HW := Lib.hid hwr
  clear hwr HRF HCF
  try simp only []
  refine plan_m rfl rfl ?_
  go_simp
  try simp only [Act.put, List.setIfInBounds_toArray, List.set_cons_zero, List.set_cons_succ]
  refine plan_end ?_
  refine NoPanic.normal ?_
  have HEX := Lib.hid (H1.out.exts.keep HW.out.fr fun k hk hs => hs.elim (fun e => H1.out.exts.ne H1.out.has (by decide) (e ▸ hk)) fun e => H1.out.exts.ne2 H1.out.bytes (by decide) k hk e)
  cases hq : (s.put ckS b).2 with
  | false =>
    have HEQ := Lib.hid hq
    have HQ := Lib.hid (put_recs0 hq)
    clear hq
    simp only [Bool.not_false]
    go_wp2_with fail
    go_ret
    refine ⟨v2, _, by rw [HEQ.out]; rfl, ⟨H.out.low, HW.out.has, HW.out.own, ?_⟩, ⟨HF1.out.up HW.out.fr fun k hk => hk.elim .inl fun e => .inr (.inl e), fun k hk => ?_⟩⟩
    · rw [HQ.out]
      exact HEX.out
    · rcases hk with hk | hk | hk
      · exact .inl (.inl hk)
      · exact (HW.out.new k hk).elim (fun h => .inl (.inr (.inl h))) fun h => .inr (Nat.le_trans HF1.out.size h)
      · exact .inl (.inr (.inr hk))
  | true =>
    have HEQ := Lib.hid hq
    have HQ := Lib.hid (put_recs hq)
    have HXC := Lib.hid (show exC s.recs ++ [.int .i64 ((s.d.length : Int) + 4), .int .i64 ((s.d.length : Int) + 4 + (n : Int))] = exC (s.recs ++ [b]) by
      rw [exC_snoc ckS_len, ← HWH.out, HPL.out]
      simp)
    have c4 := HW.out.has.cell (i := 4) (v := .slice ar s.recs.length cr) rfl
    have hn1 : (n : Int) ≤ 1000000 := by have := HPN.out; omega
    clear hq
    simp only [Bool.not_true]
    rw [HPL.out]
    go_wp2_with (with_reducible refine wl_stop (o := ⟨some 35, _, _, _, _, _⟩) ?_)
    refine wl_buildL rfl rfl _ (built_ext _ _) ?_
    try simp only [Act.put, List.setIfInBounds_toArray, List.set_cons_zero, List.set_cons_succ]
    refine wl_slitR rfl rfl Try.underlying81 info_ext [.agg #[.int .i64 ((s.d.length : Int) + 4), .int .i64 ((s.d.length : Int) + 4 + (n : Int))]] rfl (by simp [Value.cells]) rfl [.int .i64 ((s.d.length : Int) + 4), .int .i64 ((s.d.length : Int) + 4 + (n : Int))] (by simp [Value.cells]) ?_
    intro w3 hh3 hf3 hz3
    try simp only [Act.put, List.setIfInBounds_toArray, List.set_cons_zero, List.set_cons_succ]
    refine wl_append rfl rfl Try.underlying81 info_ext rfl (by decide) (HEX.out.still hf3) rfl (m := 1) (news := [.int .i64 ((s.d.length : Int) + 4), .int .i64 ((s.d.length : Int) + 4 + (n : Int))]) rfl (by simpa using Rd.whole hh3) (by intro u hu; simp only [List.mem_cons, List.not_mem_nil, or_false] at hu; rcases hu with rfl | rfl <;> rfl) (by unfold maxLen; have := HCN.out; have := HD.out; omega) (by have := HCN.out; have := HD.out; omega) (Nat.le_trans H1.out.size (Nat.le_trans HW.out.fr.size hf3.size)) ?_
    intro v4 w4 ho4 hf4 hb4
    rw [HXC.out] at ho4
    have hh4 := Has.offO (HEX.out.still hf3) (HW.out.has.keep hf3 id) (by decide) hf4
    have hown4 := (HW.out.own.still hf3).keep hf4 fun k hk hs => (HEX.out.still hf3).ne2 (HW.out.own.still hf3) (by decide) k hs hk
    have hp4 := hh4.put1 4 v4
    have HH4 := Lib.hid hp4.1
    have HO4 := Lib.hid (ho4.offB hh4 (by decide) hp4.2)
    have HB4 := Lib.hid (hown4.offB hh4 (by decide) hp4.2)
    have HF4 := Lib.hid (HF1.out.up (S := StB g (.slice av s.d.length cv) (.slice ar s.recs.length cr)) HW.out.fr (fun k hk => hk.elim .inl fun e => .inr (.inl e)) |>.same hf3 |>.trans hf4 (fun k _ hk => .inr (.inr hk)) |>.trans hp4.2 fun k _ hk => .inl hk)
    have HN4 := Lib.hid (newB hb4 (Nat.le_trans HF1.out.size (Nat.le_trans HW.out.fr.size hf3.size)))
    obtain ⟨a4, c4', rfl, -⟩ := ho4.form
    obtain ⟨u, cu, fu⟩ := hh4.ready (i := 4) (by simp)
    clear ho4 hf4 hb4 hh4 hown4 hp4 hh3 hf3 hz3 c4
    go_wp2_with fail
    go_ret
    refine ⟨v2, _, by rw [HEQ.out]; rfl, ⟨H.out.low, HH4.out, HB4.out, ?_⟩, ⟨HF4.out, fun k hk => ?_⟩⟩
    · rw [HQ.out, List.length_append]
      exact HO4.out
    · rcases hk with hk | hk | hk
      · exact .inl (.inl hk)
      · exact (HW.out.new k hk).elim (fun h => .inl (.inr (.inl h))) fun h => .inr (Nat.le_trans HF1.out.size h)
      · exact (HN4.out k hk).elim (fun h => .inl (.inr (.inr h))) .inr
end Go.Proofs.Ytdadnajbdnbbdaa

/- store: Add, Arm, Len, Disk, New. -/
namespace Go.Mv
open Go.RowKit Mvp
theorem add_off {c : Nat → List UInt8 → List UInt8} {lim : Nat} {s : SM} {b : List UInt8} (h : s.off = true) : s.add c lim b = (s, 15) := by unfold SM.add; rw [if_pos h]
theorem add_long {c : Nat → List UInt8 → List UInt8} {lim : Nat} {s : SM} {b : List UInt8} (h : s.off = false) (h1 : 16384 < b.length) : s.add c lim b = (s, 1) := by unfold SM.add; rw [if_neg (by rw [h]; decide), if_pos h1]
theorem add_full {c : Nat → List UInt8 → List UInt8} {lim : Nat} {s : SM} {b : List UInt8} (h : s.off = false) (h1 : ¬ 16384 < b.length) (h2 : lim < s.d.length + 12 + b.length) : s.add c lim b = (s, 14) := by unfold SM.add; rw [if_neg (by rw [h]; decide), if_neg h1, if_pos h2]
theorem add_ok {c : Nat → List UInt8 → List UInt8} {lim : Nat} {s : SM} {b : List UInt8} (h : s.off = false) (h1 : ¬ 16384 < b.length) (h2 : ¬ lim < s.d.length + 12 + b.length) : s.add c lim b = ((s.put c b).1, if (s.put c b).2 then 0 else 15) := by unfold SM.add; rw [if_neg (by rw [h]; decide), if_neg h1, if_neg h2]
theorem SA.again {TS TB TX : TypeId} {w w' : World} {base g lim : Nat} {s : SM} {v rv : Value} (h : SA TS TB TX w base g lim s v rv) (hf : Fr Nob w w') {e : Nat} {s' : SM × Nat} (hs : s' = (s, e)) : ∃ v' rv', SA TS TB TX w' base g lim s'.1 v' rv' ∧ FrN (StB g v rv) (StB g v' rv') w w' := by
  subst hs
  exact ⟨v, rv, h.still hf, ⟨hf.mono fun _ _ t => t.elim, fun _ h => .inl h⟩⟩
end Go.Mv
namespace Go.Proofs.Ytdadnajbdnbbdaa
open Go.RowKit Go.Mv Mvp
theorem ret_i64s {a b : Int} (h : a = b) : Ending.returned (.int .i64 a) = .returned (.int .i64 b) := by rw [h]
attribute [local irreducible] permS permP toB turnsK squeeze permN permB spongeB feed frameL framesL tagL bigN bigJ numS frameB framesB ckS exC SM.put SM.add
set_option maxHeartbeats 2000000 in
set_option maxRecDepth 100000 in
theorem sAdd_any (g base lim : Nat) (s : SM) (v rv : Value) (a : Option Addr) (n c : Nat) (b : List UInt8) (w : World) (h : SAt1 w base g lim s v rv) (hp : PartIs w (.slice a n c) b) (hi : SInv ckS s) (hd : s.d.length ≤ 2000000) (hm : lim ≤ 2000000) (hl : lftI s < 9223372036854775808) :
    Calls Try.prog 18 #[.pointer (some ⟨g, 0, none⟩), .slice a n c] w fun e w' => e = .returned (.int .i64 ((s.add ckS lim b).2 : Int)) ∧ ∃ v' rv', SAt1 w' base g lim (s.add ckS lim b).1 v' rv' ∧ FrN (StB g v rv) (StB g v' rv') w w' := by
  have hpl := part_lenS hp
  have hpn := part_leS hp
  obtain ⟨av, cv, rfl, -⟩ := h.bytes.form
  have c0 := h.has.cell (i := 0) (v := .slice av s.d.length cv) rfl
  have c3 := h.has.cell (i := 3) (v := .int .i64 (lim : Int)) rfl
  have H := Lib.hid h
  have HP := Lib.hid hp
  have HL := Lib.hid hl
  have HD := Lib.hid hd
  have HM := Lib.hid hm
  have HI := Lib.hid hi
  have HPN := Lib.hid hpn
  have HPL := Lib.hid hpl
  have hd1 : (s.d.length : Int) < 10000000 := by omega
  have hn1 : (n : Int) < 10000000 := by omega
  cases ho : s.off with
  | true =>
    have c2 := h.has.cell (i := 2) (v := .bool true) (by rw [ho]; rfl)
    have HA := Lib.hid (add_off (c := ckS) (lim := lim) (b := b) ho)
    clear h hp hl hd hm hi hpn hpl ho c0 c3
    go_enter Try.func18, Try.ntmps18
    go_wp2_with fail
    go_ret
    exact ⟨ret_i64s (by rw [HA.out]; rfl), H.out.again (Fr.refl _ _) HA.out⟩
  | false =>
    have c2 := h.has.cell (i := 2) (v := .bool false) (by rw [ho]; rfl)
    by_cases h1 : 16384 < b.length
    · have HA := Lib.hid (add_long (c := ckS) (lim := lim) ho h1)
      have h1I : (16384 : Int) < (n : Int) := by omega
      clear h hp hl hd hm hi hpn hpl ho c0 c3 h1
      go_enter Try.func18, Try.ntmps18
      go_wp2_with fail
      go_ret
      exact ⟨ret_i64s (by rw [HA.out]; rfl), H.out.again (Fr.refl _ _) HA.out⟩
    · have h1I : ¬ (16384 : Int) < (n : Int) := by omega
      by_cases h2 : lim < s.d.length + 12 + b.length
      · have HA := Lib.hid (add_full (c := ckS) ho h1 h2)
        have h2I : (lim : Int) < (s.d.length : Int) + 4 + (n : Int) + 8 := by omega
        clear h hp hl hd hm hi hpn hpl ho h1 h2
        go_enter Try.func18, Try.ntmps18
        go_wp2_with fail
        go_quiet (fail)
        go_wp2_with fail
        go_ret
        exact ⟨ret_i64s (by rw [HA.out]; rfl), H.out.again ((Fr.refl _ _).drewN _) HA.out⟩
      · have HA := Lib.hid (add_ok (c := ckS) ho h1 h2)
        have HO := Lib.hid ho
        have h2I : decide ((lim : Int) < (s.d.length : Int) + 4 + (n : Int) + 8) = false := by simp; omega
        clear h hp hl hd hm hi hpn hpl ho h1 h2
        go_enter Try.func18, Try.ntmps18
        go_wp2_with fail
        go_quiet (fail)
        go_wp2_with fail
        refine (sput_any g base lim s _ _ a n c b _ (H.out.still ((Fr.refl Nob w).drewN _)) (HP.out.still ((Fr.refl Nob w).drewN _)) HO.out HI.out (by have := HD.out; omega) HL.out).mono ?_
        rintro e w2 ⟨v', rv', rfl, hs2, hf2⟩
        have H2 := Lib.hid hs2
        have HF2 := Lib.hid ((show FrN (StB g _ rv) (StB g v' rv') w w2 from ⟨((Fr.refl Nob w).drewN _).up (S := StB g _ _) hf2.toFr fun _ t => t, hf2.new⟩))
        clear hs2 hf2 c0 c2 c3
        cases hq : (s.put ckS b).2 with
        | true =>
          have HQ := Lib.hid hq
          clear hq
          simp only []
          go_wp2_with fail
          go_ret
          exact ⟨ret_i64s (by rw [HA.out, HQ.out]; rfl), v', rv', by rw [HA.out]; exact H2.out, HF2.out⟩
        | false =>
          have HQ := Lib.hid hq
          clear hq
          simp only []
          go_wp2_with fail
          go_ret
          exact ⟨ret_i64s (by rw [HA.out, HQ.out]; rfl), v', rv', by rw [HA.out]; exact H2.out, HF2.out⟩
end Go.Proofs.Ytdadnajbdnbbdaa

/- store: Arm, Len, Disk, Record, New. -/
namespace Go.Mv
open Go.RowKit Mvp
variable {P : Program}
/-- max of two ints -/
theorem wl_max {w : World} {ops : Array Oper} {rest : List Oper} {o : Oper} {a : Act} {Q : Exit → Act → World → Prop} {x y : Operand} {ts : Array TypeId} (hgd : o.guard = none) (ho : o.op = .call { callee := .builtin .max, args := #[x, y], argTypes := ts })
    {k k' : IntKind} {xi yi : Int} (hx : a.eval x = .int k xi) (hy : a.eval y = .int k' yi) (r : Int) (hr : (if yi > xi then yi else xi) = r) (h : wpList P ops Q rest (a.put o.dst (.int k r)) w) : wpList P ops Q (o :: rest) a w := by
  refine wpList_plain hgd fun K hK => ?_
  have hrun : (Builtin.max_ ts o.type #[.int k xi, .int k' yi]).run P w = .ok (.int k r) w := by rw [run_max_int2, hr]
  unfold Oper.wp execOp
  simp only [ho, resolve, invoke, builtin, Sem.run_bind, Sem.run_pure, Result.andThen_ok, List.map_toArray, List.map_cons, List.map_nil, hx, hy, hrun]
  exact hK _ _ h
theorem lftI_arm (s : SM) (n : Int) : (if (-1 : Int) > n then -1 else n) = lftI (s.arm n) := by
  by_cases h : n < 0
  · have e : s.arm n = { s with left := none } := by unfold SM.arm; rw [if_pos h]
    rw [e]
    show (if (-1 : Int) > n then -1 else n) = -1
    split <;> omega
  · have e : s.arm n = { s with left := some n.toNat } := by unfold SM.arm; rw [if_neg h]
    rw [e, if_neg (by omega)]
    show n = ((n.toNat : Nat) : Int)
    omega
theorem exC_nil : exC [] = [] := rfl
theorem arm_lt {s : SM} {n : Int} (h : n < 9223372036854775808) : lftI (s.arm n) < 9223372036854775808 := by
  rw [← lftI_arm]; split <;> omega
/-- a store's cells are turned -/
theorem SA.wrote {TS TB TX : TypeId} {w w' : World} {base g lim : Nat} {s s' : SM} {v rv : Value} (h : SA TS TB TX w base g lim s v rv) (hB : TB ≠ TS) (hX : TX ≠ TS) (hf : Fr (One g) w w') (h1 : Has w' g [v, .int .i64 (lftI s'), .bool s'.off, .int .i64 (lim : Int), rv] TS) (hd : s'.d = s.d) (hr : s'.recs = s.recs) : SA TS TB TX w' base g lim s' v rv :=
  ⟨h.low, h1, by rw [hd]; exact h.bytes.offB h.has hB hf, by rw [hr]; exact h.exts.offB h.has hX hf⟩
end Go.Mv
namespace Go.Proofs.Ytdadnajbdnbbdaa
open Go.RowKit Go.Mv Mvp
theorem info_u8C : (Try.prog.info? 5).map (fun i => (i.zero, i.size, i.bytes)) = some (some (.int .u8 0), 1, 1) := by kernel_rfl
theorem built_disk : Try.prog.built 80 [(1, .int .i64 (-1))] = some #[.slice none 0 0, .int .i64 (-1), .bool false] := by kernel_rfl
theorem built_store (x : Int) : Try.prog.built 83 [(0, .agg #[.slice none 0 0, .int .i64 (-1), .bool false]), (1, .int .i64 x)] = some #[.slice none 0 0, .int .i64 (-1), .bool false, .int .i64 x, .slice none 0 0] := by kernel_rfl
attribute [local irreducible] permS permP toB turnsK squeeze permN permB spongeB feed frameL framesL tagL bigN bigJ numS frameB framesB ckS exC SM.put SM.add
set_option maxHeartbeats 1000000 in
set_option maxRecDepth 1000000 in
theorem bclone_big (a : Option Addr) (n c : Nat) (l : List UInt8) (w : World) (hn : n ≤ 100000000) (hb : RdB w a n l) (h0 : a = none → n = 0) :
    Calls Try.prog 31 #[.slice a n c] w fun e w' => ∃ v, e = .returned v ∧ Own w' w.heap.size 5 1 v n (bs l) ∧ Fr Nob w w' := by
  have hq : ∀ (w : World), (binOp .eql 22 (.slice a n c) (.slice none 0 0)).run Try.prog w = .ok (.bool a.isNone) w := fun w => Lib.run_eql_slice_nil w _ _ a n c 0 0 Try.underlying22
  cases a with
  | none =>
    obtain rfl := h0 rfl
    obtain rfl := List.eq_nil_of_length_eq_zero hb.len
    go_enter Try.func31, Try.ntmps31
    go_wp2_with fail
    go_ret
    exact ⟨_, rfl, Own.nil _ _ _ _, Fr.refl _ _⟩
  | some a =>
    clear h0
    go_enter Try.func31, Try.ntmps31
    go_wp2_with (with_reducible refine wl_stop (o := ⟨some 7, _, _, _, _, _⟩) ?_)
    unfold Stop
    have hf1 : Fr Nob w (w.alloc (.cells #[] 5)) := (Fr.refl Nob w).alloc _
    have hown1 : Own (w.alloc (.cells #[] 5)) w.heap.size 5 1 (.slice (some ⟨w.heap.size, 0, none⟩) 0 0) 0 [] := Own.made (Has.new w #[] 5) w.heap.size (Nat.le_refl _) 1 0 0 (Nat.le_refl _) (by decide) (by simp)
    refine wl_append rfl rfl Try.underlying22 info_u8C rfl (by decide) hown1 rfl rfl (by rw [Nat.mul_one]; exact hb.still hf1) (bs_one _) (by unfold maxLen; omega) (by omega) hf1.size ?_
    intro v3 w3 hown3 hf3 hb3
    have hfr := hown1.fr hf1 (Nat.le_refl _) hf3
    rw [Nat.zero_add, List.nil_append] at hown3
    clear hf3 hown1 hf1 hb3
    generalize hgw : w.heap.size = g at *
    have HG := Lib.hid hgw; clear hgw
    go_wp2_with fail
    go_ret
    rw [HG.out]
    exact ⟨_, rfl, hown3, hfr⟩
set_option maxRecDepth 100000 in
theorem sArm_any (g base lim : Nat) (s : SM) (v rv : Value) (n : Int) (w : World) (h : SAt1 w base g lim s v rv) :
    Calls Try.prog 20 #[.pointer (some ⟨g, 0, none⟩), .int .i64 n] w fun e w' => e = .returned (.tuple #[]) ∧ SAt1 w' base g lim (s.arm n) v rv ∧ Fr (StB g v rv) w w' := by
  have H := Lib.hid h
  have hp := h.has.put1 1 (.int .i64 (lftI (s.arm n)))
  have HP := Lib.hid hp
  obtain ⟨u, cu, fu⟩ := h.has.ready (i := 1) (by simp)
  have HA := Lib.hid (lftI_arm s n)
  generalize hx : lftI (s.arm n) = x at *
  have HX := Lib.hid hx
  clear h hp hx
  go_enter Try.func20, Try.ntmps20
  go_wp2_with (with_reducible refine wl_stop (o := ⟨some 6, _, _, _, _, _⟩) ?_)
  refine wl_max rfl rfl rfl rfl x HA.out ?_
  go_wp2_with fail
  go_end0
  exact ⟨rfl, SA.wrote H.out (by decide) (by decide) HP.out.2 (by rw [HX.out]; exact HP.out.1) rfl rfl, HP.out.2.mono fun k _ hk => .inl hk⟩
set_option maxRecDepth 100000 in
theorem sLen_any (g base lim : Nat) (s : SM) (v rv : Value) (w : World) (h : SAt1 w base g lim s v rv) :
    Calls Try.prog 26 #[.pointer (some ⟨g, 0, none⟩)] w fun e w' => e = .returned (.int .i64 (s.recs.length : Int)) ∧ w' = w := by
  obtain ⟨ar, cr, rfl, -⟩ := h.exts.form
  have c4 := h.has.cell (i := 4) (v := .slice ar s.recs.length cr) rfl
  clear h
  go_enter Try.func26, Try.ntmps26
  go_wp2_with fail
  go_ret
  exact ⟨rfl, rfl⟩
theorem own_none {w : World} {base : Nat} {T : TypeId} {sz : Nat} {a : Option Addr} {n c : Nat} {L : List Value} (h : Own w base T sz (.slice a n c) n L) (ha : a = none) : n = 0 := by
  rcases h.2 with ⟨-, h2⟩ | ⟨g, o, cap, B, h2, -⟩
  · exact h2
  · subst ha; cases h2
set_option maxRecDepth 100000 in
theorem sDisk_any (g base lim : Nat) (s : SM) (v rv : Value) (w : World) (h : SAt1 w base g lim s v rv) (hd : s.d.length ≤ 10000000) :
    Calls Try.prog 28 #[.pointer (some ⟨g, 0, none⟩)] w fun e w' => ∃ v', e = .returned v' ∧ Own w' w.heap.size 5 1 v' s.d.length (bs s.d) ∧ Fr Nob w w' := by
  have HN := Lib.hid (fun a c (e : v = .slice a s.d.length c) => own_none (a := a) (c := c) (e ▸ h.bytes))
  obtain ⟨av, cv, rfl, -, hr, -⟩ := h.bytes.form
  rw [Nat.mul_one] at hr
  have HR := Lib.hid hr
  have HD := Lib.hid hd
  have c0 := h.has.cell (i := 0) (v := .slice av s.d.length cv) rfl
  clear h hr hd
  go_enter Try.func28, Try.ntmps28
  go_wp2_with fail
  refine (bclone_big av s.d.length cv s.d w (by have := HD.out; omega) HR.out (HN.out av cv rfl)).mono ?_
  rintro e w2 ⟨v', rfl, ho, hf⟩
  have HO := Lib.hid ho
  have HF := Lib.hid hf
  clear ho hf c0
  go_wp2_with fail
  go_ret
  exact ⟨v', rfl, HO.out, HF.out⟩
set_option maxHeartbeats 1000000 in
set_option maxRecDepth 100000 in
theorem sNew_ok (n : Nat) (w : World) (h1 : 64 ≤ n) (h2 : n ≤ 1048576) :
    Calls Try.prog 16 #[.int .i64 (n : Int)] w fun e w' => ∃ g, e = .returned (.tuple #[.pointer (some ⟨g, 0, none⟩), .int .i64 0]) ∧ SAt1 w' w.heap.size g n SM.new (.slice none 0 0) (.slice none 0 0) ∧ Fr Nob w w' := by
  have h1I : ¬ (n : Int) < 64 := by omega
  have h2I : ¬ (1048576 : Int) < (n : Int) := by omega
  clear h1 h2
  go_enter Try.func16, Try.ntmps16
  go_wp2_with (with_reducible refine wl_stop (o := ⟨some 10, _, _, _, _, _⟩) ?_)
  refine wl_buildL rfl rfl _ built_disk ?_
  go_wp2_with (with_reducible refine wl_stop (o := ⟨some 12, _, _, _, _, _⟩) ?_)
  refine wl_buildL rfl rfl _ (built_store _) ?_
  try simp only [Act.put, List.setIfInBounds_toArray, List.set_cons_zero, List.set_cons_succ]
  refine wl_box rfl rfl rfl [.slice none 0 0, .int .i64 (-1), .bool false, .int .i64 (n : Int), .slice none 0 0] rfl ?_
  intro w4 hh4 hf4 hz4
  have HH := Lib.hid hh4
  have HF := Lib.hid hf4
  clear hh4 hf4 hz4
  go_wp2_with fail
  go_ret2
  exact ⟨w.heap.size, rfl, ⟨Nat.le_refl _, HH.out, Own.nil _ _ _ _, by show Own _ _ _ 2 _ 0 (exC []); rw [exC_nil]; exact Own.nil _ _ _ _⟩, HF.out⟩
set_option maxRecDepth 100000 in
theorem sNew_no (n : Int) (w : World) (h : n < 64 ∨ 1048576 < n) :
    Calls Try.prog 16 #[.int .i64 n] w fun e w' => e = .returned (.tuple #[.pointer none, .int .i64 7]) ∧ w' = w := by
  by_cases h1 : n < 64
  · clear h
    go_enter Try.func16, Try.ntmps16
    go_wp2_with fail
    go_ret2
    exact ⟨rfl, rfl⟩
  · have h2 : 1048576 < n := h.resolve_left h1
    clear h
    go_enter Try.func16, Try.ntmps16
    go_wp2_with fail
    go_ret2
    exact ⟨rfl, rfl⟩
end Go.Proofs.Ytdadnajbdnbbdaa

/- store: Record. -/
namespace Go.Mv
open Go.RowKit Mvp
theorem run_slice_midS {P : Program} (w : World) {ty e : TypeId} (hu : P.underlying ty = some (.slice e)) (hsz : (P.info? e).map (·.size) = some 1) (b o n c : Nat) (k : IntKind) (l h : Nat) (hl : l ≤ h) (hh : h ≤ c) (hlc : l < c) :
    (Instr.sliceAt ty (.slice (some ⟨b, o, none⟩) n c) (some (.int k (l : Int))) (some (.int k (h : Int))) none).run P w = .ok (.slice (some ⟨b, o + l, none⟩) (h - l) (c - l)) w := by
  obtain ⟨i, hi1, hi2⟩ : ∃ i, P.info? e = some i ∧ i.size = 1 := by simpa using hsz
  have h1 : ¬ c = l := by omega
  simp [Instr.sliceAt, Instr.slice, run_underlying hu, Instr.sliceBounds, run_sliceBound, hl, hh, sizeOf, typeInfo, hi1, hi2, h1, Addr.add]
theorem exL_room {c : Nat → List UInt8 → List UInt8} (hc : ∀ i b, 8 ≤ (c i b).length) : ∀ (l : List (List UInt8)) (p i k f t : Nat), (exL p l)[k]? = some (f, t) → t + 8 ≤ p + (framesB c i l).length
  | [], p, i, k, f, t, h => by simp [exL] at h
  | a :: l, p, i, 0, f, t, h => by
    simp only [exL, List.getElem?_cons_zero, Option.some.injEq, Prod.mk.injEq] at h
    rw [framesB, List.length_append, frameB_len hc]
    omega
  | a :: l, p, i, k + 1, f, t, h => by
    have h2 := exL_room hc l (p + 12 + a.length) (i + 1) k f t (by simpa [exL] using h)
    rw [framesB, List.length_append, frameB_len hc]
    omega
theorem RdB.mid {w : World} {b o n : Nat} {l : List UInt8} (h : RdB w (some ⟨b, o, none⟩) n l) (k m : Nat) (hk : k + m ≤ n) : RdB w (some ⟨b, o + k, none⟩) m ((l.drop k).take m) := by
  have hlen := h.len
  refine ⟨by simp [bs]; omega, ?_⟩
  rcases Nat.eq_zero_or_pos m with h0 | h0
  · exact .inl h0
  · obtain ⟨b', o', he, ha⟩ := Rd.at h (by omega)
    cases he
    refine .inr ⟨b, o + k, rfl, ?_⟩
    rw [← bs_take, ← bs_drop]
    exact ha.sub k m
end Go.Mv
namespace Go.Proofs.Ytdadnajbdnbbdaa
open Go.RowKit Go.Mv Mvp
attribute [local irreducible] permS permP toB turnsK squeeze permN permB spongeB feed frameL framesL tagL bigN bigJ numS frameB framesB ckS exC SM.put SM.add
set_option maxRecDepth 100000 in
theorem sRecord_no (g base lim : Nat) (s : SM) (v rv : Value) (i : Int) (w : World) (h : SAt1 w base g lim s v rv) (hi : i < 0 ∨ (s.recs.length : Int) ≤ i) :
    Calls Try.prog 25 #[.pointer (some ⟨g, 0, none⟩), .int .i64 i] w fun e w' => e = .returned (.tuple #[.slice none 0 0, .int .i64 7]) ∧ w' = w := by
  obtain ⟨ar, cr, rfl, -⟩ := h.exts.form
  have c4 := h.has.cell (i := 4) (v := .slice ar s.recs.length cr) rfl
  clear h
  by_cases h1 : i < 0
  · clear hi
    go_enter Try.func25, Try.ntmps25
    go_wp2_with fail
    go_ret2
    exact ⟨rfl, rfl⟩
  · have h2 := hi.resolve_left h1
    clear hi
    go_enter Try.func25, Try.ntmps25
    go_wp2_with fail
    go_ret2
    exact ⟨rfl, rfl⟩
theorem z_ext : (Try.prog.info? 88).map (·.zero) = some (some (.agg #[.int .i64 0, .int .i64 0])) := by kernel_rfl
set_option maxHeartbeats 2000000 in
set_option maxRecDepth 100000 in
theorem sRecord_ok (g base lim : Nat) (s : SM) (v rv : Value) (k : Nat) (b : List UInt8) (w : World) (h : SAt1 w base g lim s v rv) (hi : SInv ckS s) (hk : s.recs[k]? = some b) (hd : s.d.length ≤ 2000000) :
    Calls Try.prog 25 #[.pointer (some ⟨g, 0, none⟩), .int .i64 (k : Int)] w fun e w' => ∃ v', e = .returned (.tuple #[v', .int .i64 0]) ∧ Own w' w.heap.size 5 1 v' b.length (bs b) ∧ Fr Nob w w' := by
  obtain ⟨f, hf1, hf2, hf3⟩ := hi.record ckS_len hk
  have hroom : f + b.length + 8 ≤ s.d.length := by
    have h1 := exL_room ckS_len s.recs 0 0 k f _ hf1
    obtain ⟨-, p, hd2, -⟩ := hi
    rw [hd2, List.length_append]
    omega
  obtain ⟨t, ht⟩ : ∃ t, f + b.length = t := ⟨_, rfl⟩
  rw [ht] at hf1 hf2 hroom
  have hkl : k < s.recs.length := by rw [List.getElem?_eq_some_iff] at hk; exact hk.1
  have hex := exC_at s.recs k f t hf1
  have hcnt := hi.count ckS_len
  have hex2 := h.exts
  rcases hex2.2 with ⟨-, h0⟩ | ⟨gr, or, cr, B, rfl, hbr, hgr, hnr, -, hlr, htr⟩
  · omega
  have hby := h.bytes
  rcases hby.2 with ⟨-, h0⟩ | ⟨gb, ob, cb, B2, rfl, hbb, hgb, hnb, -, hlb, htb⟩
  · omega
  have hrd := Rd.ofHas hgb ob (n := s.d.length * 1) (by omega)
  rw [htb, Nat.mul_one] at hrd
  have HRD := Lib.hid (show RdB w (some ⟨gb, ob, none⟩) s.d.length s.d from hrd)
  have hat : At w gr (or + k * 2) [.int .i64 (f : Int), .int .i64 (t : Int)] := by
    have h1 := Rd.ofHas hgr or (n := s.recs.length * 2) (by omega)
    rw [htr] at h1
    obtain ⟨b', o', he, ha⟩ := h1.at (by omega)
    cases he
    have h2 := ha.sub (k * 2) 2
    rwa [hex] at h2
  have HAT := Lib.hid hat
  have c4 := h.has.cell (i := 4) (v := .slice (some ⟨gr, or, none⟩) s.recs.length cr) rfl
  have H := Lib.hid h
  have HF2 := Lib.hid hf2
  have HF3 := Lib.hid hf3
  have HRM := Lib.hid hroom
  have HT := Lib.hid ht
  have HD := Lib.hid hd
  have HNB := Lib.hid hnb
  have hk0 : ¬ ((k : Int) < 0) := by omega
  have hk1 : ¬ ((s.recs.length : Int) ≤ (k : Int)) := by omega
  have hk2 : (k : Int) < (s.recs.length : Int) := by omega
  clear h hi hk hroom ht hf1 hf2 hf3 hex hcnt hex2 hby hrd hat hd hbr hgr hnr hlr htr hbb hgb hnb hlb htb hkl
  go_enter Try.func25, Try.ntmps25
  go_wp2_with (with_reducible refine wl_stop (o := ⟨some 24, _, _, _, _, _⟩) ?_)
  have st0 := St.start Nob w
  refine wl_loadR rfl rfl Try.underlying88 rfl rfl (cs := [.int .i64 (f : Int), .int .i64 (t : Int)]) HAT.out (by kernel_rfl) ?_
  try simp only [Act.put, List.setIfInBounds_toArray, List.set_cons_zero, List.set_cons_succ]
  refine wl_allocS st0 rfl rfl z_ext [.int .i64 0, .int .i64 0] rfl ?_
  intro g6 w1 st1
  try simp only [Act.put, List.setIfInBounds_toArray, List.set_cons_zero, List.set_cons_succ]
  refine wl_storeS st1 0 rfl rfl rfl rfl rfl (cs := [.int .i64 (f : Int), .int .i64 (t : Int)]) rfl (by kernel_rfl) (by intro u hu; simp only [List.mem_cons, List.not_mem_nil, or_false] at hu; rcases hu with rfl | rfl <;> rfl) ?_
  intro w2 st2
  clear st0 st1 c4
  simp only [List.nil_append, List.set_cons_zero] at st2
  have HSS := Lib.hid (show SAt1 w2 base g lim s (.slice (some ⟨gb, ob, none⟩) s.d.length cb) (.slice (some ⟨gr, or, none⟩) s.recs.length cr) ∧ Has w2 g6 [.int .i64 (f : Int), .int .i64 (t : Int)] 88 from ⟨H.out.still st2.fr, st2.at 0 rfl⟩)
  have HFR := Lib.hid st2.fr
  clear st2
  go_wp2_with fail
  refine wp_region_noPanic ?_
  refine wp_region_plan (fun wx => SAt1 wx base g lim s (.slice (some ⟨gb, ob, none⟩) s.d.length cb) (.slice (some ⟨gr, or, none⟩) s.recs.length cr) ∧ Has wx g6 [.int .i64 (f : Int), .int .i64 (t : Int)] 88) 10 (.w 0 (.w 1 (.w 2 (.w 3 (.t 4 (.w 5 (.t 6 (.w 7 (.t 8 (.w 9 (.m 10 (.m 11 (.m 12 .nil))))))))))))) (by kernel_rfl) (by kernel_rfl) ⟨HSS.out.1.still (Fr.refl Nob _).drew, HSS.out.2.drew⟩ (fun _ _ _ _ _ h => h) ?_
  refine plan_w (v := ?_) rfl rfl (fun wx => ?_) ?_; rotate_left 1; (go_simp; with_reducible rfl)
  try simp only [Act.put, List.setIfInBounds_toArray, List.set_cons_zero, List.set_cons_succ]
  refine plan_w (v := ?_) rfl rfl (fun wx => ?_) ?_; rotate_left 1; (go_simp; with_reducible rfl)
  try simp only [Act.put, List.setIfInBounds_toArray, List.set_cons_zero, List.set_cons_succ]
  refine plan_w (v := ?_) rfl rfl (fun wx => ?_) ?_; rotate_left 1; (go_simp; with_reducible rfl)
  try simp only [Act.put, List.setIfInBounds_toArray, List.set_cons_zero, List.set_cons_succ]
  refine plan_w (v := ?_) rfl rfl (fun wx => ?_) ?_; rotate_left 1; (go_simp; with_reducible rfl)
  try simp only [Act.put, List.setIfInBounds_toArray, List.set_cons_zero, List.set_cons_succ]
  refine plan_t (v := .slice (some ⟨gb, ob, none⟩) s.d.length cb) rfl rfl (fun wx hS => ?_) ?_
  · have hc := hS.1.has.cell (i := 0) (v := .slice (some ⟨gb, ob, none⟩) s.d.length cb) rfl; clear hS; go_simp
  try simp only [Act.put, List.setIfInBounds_toArray, List.set_cons_zero, List.set_cons_succ]
  refine plan_w (v := ?_) rfl rfl (fun wx => ?_) ?_; rotate_left 1; (go_simp; with_reducible rfl)
  try simp only [Act.put, List.setIfInBounds_toArray, List.set_cons_zero, List.set_cons_succ]
  refine plan_t (v := .int .i64 (f : Int)) rfl rfl (fun wx hS => ?_) ?_
  · have hc := hS.2.cell (i := 0) (v := .int .i64 (f : Int)) rfl; clear hS; go_simp
  try simp only [Act.put, List.setIfInBounds_toArray, List.set_cons_zero, List.set_cons_succ]
  refine plan_w (v := ?_) rfl rfl (fun wx => ?_) ?_; rotate_left 1; (go_simp; with_reducible rfl)
  try simp only [Act.put, List.setIfInBounds_toArray, List.set_cons_zero, List.set_cons_succ]
  refine plan_t (v := .int .i64 (t : Int)) rfl rfl (fun wx hS => ?_) ?_
  · have hc := hS.2.cell (i := 1) (v := .int .i64 (t : Int)) rfl; clear hS; go_simp
  try simp only [Act.put, List.setIfInBounds_toArray, List.set_cons_zero, List.set_cons_succ]
  have hsl := fun wx => run_slice_midS (P := Try.prog) wx Try.underlying22 (by kernel_rfl) gb ob s.d.length cb .i64 f t (by have := HT.out; omega) (by have := HF2.out; have := HNB.out; omega) (by have := HRM.out; have := HT.out; have := HNB.out; omega)
  refine plan_w (v := ?_) rfl rfl (fun wx => ?_) ?_; rotate_left 1; (go_simp; with_reducible rfl)
  try simp only [Act.put, List.setIfInBounds_toArray, List.set_cons_zero, List.set_cons_succ]
  clear hsl
  refine plan_m rfl rfl ?_
  go_simp
  refine (bclone_big (some ⟨gb, ob + f, none⟩) (t - f) (cb - f) b _ (by have := HF2.out; have := HD.out; omega) ?_ (by intro h; cases h)).mono ?_
  · have h1 := RdB.mid HRD.out f (t - f) (by have := HF2.out; have := HT.out; omega)
    rw [show t - f = b.length by have := HT.out; omega] at h1 ⊢
    rw [HF3.out] at h1
    exact h1.still (HFR.out.then (Fr.refl Nob _).drew)
  rintro e w5 ⟨v', rfl, ho, hf⟩
  have HO := Lib.hid ho
  have HF := Lib.hid (HFR.out.then ((Fr.refl Nob _).drew.then hf))
  clear ho hf
  try simp only []
  refine plan_m rfl rfl ?_
  go_simp
  try simp only [Act.put, List.setIfInBounds_toArray, List.set_cons_zero, List.set_cons_succ]
  refine plan_m rfl rfl ?_
  go_simp
  try simp only [Act.put, List.setIfInBounds_toArray, List.set_cons_zero, List.set_cons_succ]
  refine plan_end ?_
  refine NoPanic.normal ?_
  go_wp2_with fail
  go_ret2
  exact ⟨v', rfl, by rw [show b.length = t - f by have := HT.out; omega]; exact HO.out.mono HFR.out.size, HF.out⟩
end Go.Proofs.Ytdadnajbdnbbdaa

/- Two blocks that were made in the other order. -/
namespace Go.Mv
open Go.RowKit
end Go.Mv

/- A region that draws its order, told as a chain of steps beside fresh blocks (allocs) that may be made at any time between their opening and their joint: each step is shown once. -/
namespace Go.Mv
open Go.RowKit
abbrev Blk := Nat × List Value × TypeId
/-- one place of a function turned -/
def upd (x : Nat → Value) (i : Nat) (v : Value) : Nat → Value := fun k => if k = i then v else x k
theorem upd_same (x : Nat → Value) (i : Nat) (v : Value) : upd x i v i = v := if_pos rfl
theorem upd_other (x : Nat → Value) (i k : Nat) (v : Value) (h : (k == i) = false) : upd x i v k = x k := if_neg (by simpa using h)
/-- w, t: taken ahead; c: carried out; o: from here on a block may be made; j: by here it is made -/
inductive LS where
  | w (i : Nat)
  | t (i : Nat)
  | c (i : Nat)
  | o (i : Nat)
  | j (i : Nat)
section
variable {P : Program} {ops : Array Oper} {md : Region.Mode} {Q : Exit → Act → World → Prop} {Sx : World → Prop} {m : Nat} {S : Nat → Prop} {w0 : World} {tl : Pl}
/-- what makes one block of its own, in whatever world -/
def Mk (P : Program) (e : Sem Next) (v : Nat → Value) (L : List Value) (T : TypeId) : Prop :=
  ∀ w, ∃ g w', e.run P w = .ok (.value (v g)) w' ∧ Fr Nob w w' ∧ w.heap.size ≤ g ∧ Has w' g L T
/-- an open block: the operation, its value, its cells -/
abbrev Flt := Nat × (Nat → Value) × List Value × TypeId
/-- the open blocks of B are made -/
def mark (listed : Array Bool) (B : List Nat) : Array Bool := listed.mapIdx fun k b => b || B.contains k
theorem mark_size (listed : Array Bool) (B : List Nat) : (mark listed B).size = listed.size := by simp [mark]
theorem mark_get (listed : Array Bool) (B : List Nat) (k : Nat) (hk : k < listed.size) (d : Bool) : (mark listed B).getD k d = (listed.getD k d || B.contains k) := by
  simp [mark, hk]
theorem arr_ext {a b : Array Bool} (hs : a.size = b.size) (h : ∀ k, k < a.size → a.getD k true = b.getD k true) : a = b := by
  refine Array.ext hs fun k h1 h2 => ?_
  have := h k h1
  simpa [h1, h2] using this
def dstNe (ops : Array Oper) (i : Nat) (opn : List Nat) : Bool := opn.all fun k => match ops[i]?, ops[k]? with | some a, some b => a.apart ops b | _, _ => false
theorem put_comm (a : Act) (d e : Option Tmp) (u v : Value) (h : e ≠ d ∨ e = none) : (a.put e u).put d v = (a.put d v).put e u := by
  cases d <;> cases e <;> simp only [Act.put]
  · rename_i x y
    have hn : y ≠ x := fun k => by subst k; rcases h with h | h; exact h rfl; cases h
    rw [Array.setIfInBounds_comm _ _ hn]
theorem put_twice (a : Act) (d : Option Tmp) (u v : Value) : (a.put d u).put d v = a.put d v := by
  cases d <;> simp [Act.put]
theorem put_back (a : Act) (d : Option Tmp) : ∃ u, a.put d u = a := by
  cases d with
  | none => exact ⟨undef, rfl⟩
  | some d =>
    refine ⟨a.tmps.getD d undef, ?_⟩
    simp only [Act.put]
    have : a.tmps.setIfInBounds d (a.tmps.getD d undef) = a.tmps := by
      refine Array.ext (by simp) fun k h1 h2 => ?_
      rw [Array.getElem_setIfInBounds (by simpa using h1)]
      split
      · rename_i e; subst e; simp [h2]
      · rfl
    rw [this]
theorem dst_ap {i : Nat} {opn : List Nat} {o : Oper} (h : dstNe ops i opn = true) (ho : ops[i]? = some o) {k : Nat} {ok : Oper} (hk : k ∈ opn) (hok : ops[k]? = some ok) : o.apart ops ok = true := by
  have := List.all_eq_true.1 h k hk
  simp only [ho, hok] at this
  exact this
theorem ap_dst {o ok : Oper} (h : o.apart ops ok = true) : o.dst ≠ ok.dst ∨ o.dst = none := by
  obtain ⟨-, h2, -⟩ := Oper.apart_spec h
  cases hd : o.dst with
  | none => exact .inr rfl
  | some d => exact .inl fun e => h2 d hd e.symm
theorem wp_mk {o : Oper} {e : Sem Next} {v : Nat → Value} {L : List Value} {T : TypeId} (ha : Mk P e v L T) {BL : List Blk} {a : Act} {w : World} {K : Act → World → Prop} (he : execOp a.eval o = e) (hst : St S w0 w BL)
    (h : ∀ g w', St S w0 w' (BL ++ [(g, L, T)]) → Fr Nob w w' → K (a.put o.dst (v g)) w') : o.wp P a w K Q := by
  obtain ⟨g, w', hr, hf, hle, hg⟩ := ha w
  unfold Oper.wp
  rw [he, hr]
  exact h g w' (hst.new hf hg hle) hf
structure Fls (P : Program) (ops : Array Oper) (Γ : List Flt) (A : (Nat → Value) → Act) : Prop where
  nd : (Γ.map Prod.fst).Nodup
  ok : ∀ q ∈ Γ, ∃ o e, ops[q.1]? = some o ∧ o.guard = none ∧ (∀ x, execOp (A x).eval o = e) ∧ Mk P e q.2.1 q.2.2.1 q.2.2.2
  put : ∀ k ∈ Γ.map Prod.fst, ∀ o, ops[k]? = some o → ∀ x v, (A x).put o.dst v = A (upd x k v)
  not : ∀ k, k ∉ Γ.map Prod.fst → ∀ x v, A (upd x k v) = A x
theorem Fls.step {Γ : List Flt} {A : (Nat → Value) → Act} (h : Fls P ops Γ A) (hsel : Region.noSelect ops = true) {i : Nat} {o : Oper} (ho : ops[i]? = some o) (hd : dstNe ops i (Γ.map Prod.fst) = true) (v : Value) : Fls P ops Γ (fun x => (A x).put o.dst v) := by
  refine ⟨h.nd, fun q hq => ?_, fun k hk ok hok x u => ?_, fun k hk x u => by rw [h.not k hk]⟩
  · obtain ⟨o2, e, h1, h2, h3, h4⟩ := h.ok q hq
    have hap := dst_ap hd ho (List.mem_map_of_mem hq) h1
    refine ⟨o2, e, h1, h2, fun x => ?_, h4⟩
    rw [execOp_put (ops := ops) o2 (fun cs b => Region.noSelect_spec hsel q.1 o2 cs b h1) (A x) o.dst v (Oper.apart_spec hap).1]
    exact h3 x
  · rw [put_comm _ _ _ _ _ (ap_dst (dst_ap hd ho hk hok)), h.put k hk ok hok]
theorem nd_filter {l : List Nat} (h : l.Nodup) (p : Nat → Bool) : (l.filter p).Nodup := List.Pairwise.filter p h
theorem len_filter {l : List Nat} (h : l.Nodup) {i : Nat} (hi : i ∈ l) : (l.filter (· != i)).length + 1 = l.length := by
  induction l with
  | nil => cases hi
  | cons a l ih =>
    rw [List.nodup_cons] at h
    rw [List.filter_cons]
    by_cases e : a = i
    · subst e
      rw [if_neg (by simp)]
      have : l.filter (· != a) = l := List.filter_eq_self.2 fun b hb => by
        simp only [bne_iff_ne, ne_eq]
        exact fun e => h.1 (e ▸ hb)
      rw [this]; rfl
    · rw [if_pos (by simpa using e)]
      rcases List.mem_cons.1 hi with rfl | hi
      · exact absurd rfl e
      · simp [← ih h.2 hi]
/- the steps -/
variable {l : List Oper} {i : Nat} {s : List LS} {Γ : List Flt} {BL : List Blk} {R : World → Prop} {A : (Nat → Value) → Act} {o : Oper}
theorem wp_go {a : Act} {w : World} {K : Act → World → Prop} {f : FuncId} {xs : Array Operand} {ats : Array TypeId} (hop : o.op = .call { callee := .value (.func f), args := xs, argTypes := ats }) (hcl : ∀ us w, (callFunc f us).run P w = .ok (.enter f us) w)
    {vs : List Value} (hargs : xs.toList.map a.eval = vs) (h : Calls P f vs.toArray w fun e w' => ∃ v, e = .returned v ∧ K (a.put o.dst v) w') : o.wp P a w K Q := by
  have he : execOp a.eval o = callFunc f vs.toArray := by
    have h1 : execOp a.eval o = callFunc f (#[] ++ xs.map a.eval ++ #[]) := by
      unfold execOp
      rw [hop]
      rfl
    rw [h1]
    congr 1
    rw [← hargs]
    simp [← Array.toList_map]
  unfold Oper.wp
  rw [he, hcl]
  refine h.mono fun e w' h' => ?_
  obtain ⟨v, rfl, h2⟩ := h'
  exact h2
variable {rest : List Oper} {a : Act} {w : World}
end
end Go.Mv

/- More makers of one block for the steps of a drawn region: slice literals, boxes; operations that only yield a value. -/
namespace Go.Mv
open Go.RowKit
section
variable {P : Program} {Q : Exit → Act → World → Prop} {Sx : World → Prop} {S : Nat → Prop} {w0 : World} {tl : Pl} {l : List Oper} {i : Nat} {s : List LS} {Γ : List Flt} {BL : List Blk} {R : World → Prop} {A : (Nat → Value) → Act} {o : Oper}
theorem parts_arr {parts : Array (Nat × Operand)} {ρ : Operand → Value} {M : List (Nat × Value)} (h : (parts.toList.map fun p => (p.1, ρ p.2)) = M) : (parts.map fun (i, x) => (i, ρ x)) = M.toArray := by
  apply Array.toList_inj.1
  rw [Array.toList_map, ← h]
theorem mk_rows {t e : TypeId} {k : Nat} {M : List (Nat × Value)} (hu : P.underlying t = some (.slice e)) {z : Value} {sz by_ : Nat} (hi0 : (P.info? e).map (fun i => (i.zero, i.size, i.bytes)) = some (some z, sz, by_)) (vs : List Value) (hp : M = (vs.zipIdx 0).map fun x => (x.2, x.1))
    (hv : ∀ v ∈ vs, v.cells.size = sz) (hk : vs.length = k) (L : List Value) (hL : (vs.flatMap fun v => v.cells.toList) = L) (hk0 : 0 < k * sz := by decide) (hk24 : k * sz ≤ 16777216 := by decide) :
    Mk P (do pure (.value (← Instr.buildSlice t k M.toArray))) (fun g => .slice (some ⟨g, 0, none⟩) k k) L e := by
  intro w
  obtain ⟨i, hi, hz0⟩ : ∃ i, P.info? e = some i ∧ (i.zero, i.size, i.bytes) = (some z, sz, by_) := by simpa using hi0
  simp only [Prod.mk.injEq] at hz0
  obtain ⟨hz1, hsz, hby⟩ := hz0
  have hs0 : 0 < sz := Nat.pos_of_mul_pos_left hk0
  have hf : Instr.fill (fun j => some (j * i.size, i.size)) ((Array.range (k * i.size)).map (z.cells[· % z.cells.size]!)) M = some L.toArray := by
    rw [hp, hsz, ← hL]
    exact Great.fill_whole hs0 vs _ hv (by simp [hk])
  refine ⟨w.heap.size, w.alloc (.cells L.toArray e), ?_, (Fr.refl _ w).alloc _, Nat.le_refl _, Has.new w L.toArray e⟩
  simp only [Sem.run_bind, run_buildSlice w t e k M.toArray L.toArray i z hu hi hz1 (by rw [hsz]; omega) (by rw [hsz]; omega) (by simpa using hf), Result.andThen_ok, Sem.run_pure]
theorem wp_rows {a : Act} {w : World} {K : Act → World → Prop} {t e : TypeId} {k : Nat} {parts : Array (Nat × Operand)} (hst : St S w0 w BL) (hop : o.op = .buildSlice t k parts) (hu : P.underlying t = some (.slice e)) {z : Value} {sz by_ : Nat} (hi0 : (P.info? e).map (fun i => (i.zero, i.size, i.bytes)) = some (some z, sz, by_))
    (vs : List Value) (hp : (parts.toList.map fun p => (p.1, a.eval p.2)) = (vs.zipIdx 0).map fun x => (x.2, x.1)) (hv : ∀ v ∈ vs, v.cells.size = sz) (hk : vs.length = k) (L : List Value) (hL : (vs.flatMap fun v => v.cells.toList) = L)
    (h : ∀ g w', St S w0 w' (BL ++ [(g, L, e)]) → K (a.put o.dst (.slice (some ⟨g, 0, none⟩) k k)) w') (hk0 : 0 < k * sz := by decide) (hk24 : k * sz ≤ 16777216 := by decide) : o.wp P a w K Q :=
  wp_mk (mk_rows hu hi0 vs rfl hv hk L hL hk0 hk24) (by unfold execOp; simp only [hop]; rw [parts_arr hp]) hst fun g w' h1 _ => h g w' h1
end
end Go.Mv

/- A slice of bytes turned into its own type (a literal text's bytes): the block is marked behind its end, its cells stay. -/
namespace Go.Mv
open Go.RowKit
variable {P : Program}
end Go.Mv

/- A region that draws its order, by facts that stay: each operation of the front is shown once, in every world in which the facts of those that it waits for hold; then a tail. -/
namespace Go.Mv
open Go.RowKit
section
variable {P : Program} {ops : Array Oper} {md : Region.Mode} {Q : Exit → Act → World → Prop} {m : Nat} {S : Nat → Prop} {w0 : World} {tl : Pl}
/-- the values of some operations alone -/
def restr (l : List Nat) (x : Nat → Value) : Nat → Value := fun k => if l.contains k then x k else undef
theorem restr_upd {l : List Nat} {x : Nat → Value} {k : Nat} {v : Value} (h : l.contains k = false) : restr l (upd x k v) = restr l x := by
  funext j
  unfold restr
  by_cases e : l.contains j = true
  · rw [if_pos e, if_pos e, upd_other]
    cases h2 : (j == k) with
    | false => rfl
    | true => rw [eq_of_beq h2, h] at e; cases e
  · rw [if_neg e, if_neg e]
def putI (ops : Array Oper) (i : Nat) (a : Act) (v : Value) : Act := match ops[i]? with | some o => a.put o.dst v | none => a
theorem putI_some {i : Nat} {o : Oper} (ho : ops[i]? = some o) (a : Act) (v : Value) : putI ops i a v = a.put o.dst v := by unfold putI; rw [ho]
def puts (ops : Array Oper) : List Nat → Act → (Nat → Value) → Act
  | [], a, _ => a
  | i :: s, a, x => puts ops s (putI ops i a (x i)) x
theorem puts_comm {d : Option Tmp} {v : Value} (x : Nat → Value) : ∀ (s : List Nat) (a : Act), (∀ k ∈ s, ∀ ok, ops[k]? = some ok → ok.dst ≠ d ∨ ok.dst = none) → (puts ops s a x).put d v = puts ops s (a.put d v) x
  | [], _, _ => rfl
  | i :: s, a, h => by
    unfold puts
    rw [puts_comm x s _ fun k hk => h k (List.mem_cons_of_mem _ hk)]
    congr 1
    cases ho : ops[i]? with
    | none => unfold putI; simp only [ho]
    | some o => rw [putI_some ho, putI_some ho, put_comm _ _ _ _ _ (h i List.mem_cons_self o ho)]
theorem puts_upd {i : Nat} {v : Value} (x : Nat → Value) : ∀ (s : List Nat) (a : Act), i ∉ s → puts ops s a (upd x i v) = puts ops s a x
  | [], _, _ => rfl
  | j :: s, a, h => by
    simp only [List.mem_cons, not_or] at h
    unfold puts
    rw [puts_upd x s _ h.2, upd_other _ _ _ _ (by simpa using fun e => h.1 e.symm)]
/-- no two of them have one slot -/
def Apd (ops : Array Oper) (s : List Nat) : Prop := ∀ j ∈ s, ∀ k ∈ s, j ≠ k → ∀ oj ok, ops[j]? = some oj → ops[k]? = some ok → ok.dst ≠ oj.dst ∨ ok.dst = none
theorem Apd.tail {i : Nat} {s : List Nat} (h : Apd ops (i :: s)) : Apd ops s := fun j hj k hk => h j (List.mem_cons_of_mem _ hj) k (List.mem_cons_of_mem _ hk)
theorem puts_put {i : Nat} {v : Value} {o : Oper} (ho : ops[i]? = some o) (x : Nat → Value) : ∀ (s : List Nat) (a : Act), i ∈ s → s.Nodup → Apd ops s → (puts ops s a x).put o.dst v = puts ops s a (upd x i v)
  | [], _, h, _, _ => by cases h
  | j :: s, a, h, hn, hd => by
    rw [List.nodup_cons] at hn
    by_cases e : i = j
    · subst e
      unfold puts
      rw [puts_comm x s _ fun k hk ok hok => hd i List.mem_cons_self k (List.mem_cons_of_mem _ hk) (fun e => hn.1 (e ▸ hk)) o ok ho hok]
      rw [putI_some ho, putI_some ho, put_twice, puts_upd x s _ hn.1, upd_same]
    · have hi : i ∈ s := by
        rcases List.mem_cons.1 h with h | h
        · exact absurd h e
        · exact h
      unfold puts
      rw [puts_put ho x s _ hi hn.2 hd.tail, upd_other _ _ _ _ (by simpa using fun h => e h.symm)]
theorem puts_back : ∀ (s : List Nat) (a : Act), s.Nodup → ∃ x, puts ops s a x = a
  | [], _, _ => ⟨fun _ => undef, rfl⟩
  | i :: s, a, hn => by
    rw [List.nodup_cons] at hn
    obtain ⟨x, hx⟩ := puts_back s a hn.2
    cases ho : ops[i]? with
    | none => exact ⟨x, by unfold puts putI; simp only [ho]; exact hx⟩
    | some o =>
      obtain ⟨u, hu⟩ := put_back a o.dst
      refine ⟨upd x i u, ?_⟩
      unfold puts
      rw [putI_some ho, upd_same, hu, puts_upd x s _ hn.1, hx]
def apdB (ops : Array Oper) (s : List Nat) : Bool := s.all fun j => s.all fun k => j == k || match ops[j]?, ops[k]? with | some a, some b => decide (b.dst ≠ a.dst) || decide (b.dst = none) | _, _ => false
theorem apdB_spec {s : List Nat} (h : apdB ops s = true) : Apd ops s := by
  intro j hj k hk hne oj ok hoj hok
  have := List.all_eq_true.1 (List.all_eq_true.1 h j hj) k hk
  simp only [hoj, hok, Bool.or_eq_true, beq_iff_eq, decide_eq_true_eq] at this
  rcases this with h | h
  · exact absurd h hne
  · exact h
def nodupB : List Nat → Bool
  | [] => true
  | i :: s => !s.contains i && nodupB s
theorem nodupB_spec : ∀ {s : List Nat}, nodupB s = true → s.Nodup
  | [], _ => List.nodup_nil
  | i :: s, h => by
    simp only [nodupB, Bool.and_eq_true, Bool.not_eq_true'] at h
    exact List.nodup_cons.2 ⟨by simpa using h.1, nodupB_spec h.2⟩
/-- what is asked of the numbers -/
def posOk (md : Region.Mode) (ops : Array Oper) (m : Nat) (F Lz : List Nat) (pre : Nat → List Nat) (tl : Pl) : Bool :=
  (Lz.all fun i => match ops[i]? with | some o => decide (i ≠ m) && (List.range ops.size).all fun j => j == i || ancB md ops i ops.size j || (match ops[j]? with | some oj => (oj.after.any fun e => Region.binds md e && e.on == i) || o.apart ops oj | none => true) | none => false) && nodupB F && apdB ops F &&
  (F.all fun i => match ops[i]? with | some o => o.after.all fun e => !Region.binds md e || (F.contains e.on && decide (e.on < i)) | none => false) &&
  (F.all fun i => (pre i).all fun j => F.contains j && ancB md ops i ops.size j) &&
  ((List.range ops.size).all fun t => F.contains t || F.all fun i => Lz.contains i || ancB md ops t ops.size i) &&
  planOk md ops m tl (mark (Array.replicate ops.size false) F)
/-- what is asked of an operation: loose ones (taken as soon as they can come) only yield -/
def Obl (P : Program) (ops : Array Oper) (Q : Exit → Act → World → Prop) (G : World → Prop) (A : (Nat → Value) → Act) (pre : Nat → List Nat) (Φ : Nat → (Nat → Value) → World → Prop) (i : Nat) (o : Oper) : Bool → Prop
  | false => ∀ x w, G w → (∀ j ∈ pre i, Φ j (restr (j :: pre j) x) w) → (Region.wanted o (yielded ops (A x).tmps) = true ∧ o.wp P (A x) w (fun a' w' => ∃ v, a' = (A x).put o.dst v ∧ Fr Nob w w' ∧ Φ i (restr (i :: pre i) (upd x i v)) w') Q) ∨ (Region.wanted o (yielded ops (A x).tmps) = false ∧ Φ i (restr (i :: pre i) (upd x i undef)) w)
  | true => ∀ x w, G w → (∀ j ∈ pre i, Φ j (restr (j :: pre j) x) w) → Region.wanted o (yielded ops (A x).tmps) = true ∧ ∃ v, (∀ wx, (execOp (A x).eval o).run P wx = .ok (.value v) wx) ∧ Φ i (restr (i :: pre i) (upd x i v)) w
/-- what is asked of each operation -/
def Obls (P : Program) (ops : Array Oper) (Q : Exit → Act → World → Prop) (G : World → Prop) (A : (Nat → Value) → Act) (pre : Nat → List Nat) (Φ : Nat → (Nat → Value) → World → Prop) (Lz : List Nat) : List Nat → Prop
  | [] => True
  | i :: s => ((∀ o, ops[i]? = some o → Obl P ops Q G A pre Φ i o (Lz.contains i)) ∧
      ∀ y w w', Φ i (restr (i :: pre i) y) w → Fr Nob w w' → Φ i (restr (i :: pre i) y) w') ∧ Obls P ops Q G A pre Φ Lz s
theorem Obls.at {G : World → Prop} {A : (Nat → Value) → Act} {pre : Nat → List Nat} {Φ : Nat → (Nat → Value) → World → Prop} {Lz : List Nat} : ∀ {s : List Nat}, Obls P ops Q G A pre Φ Lz s → ∀ i ∈ s, (∀ o, ops[i]? = some o → Obl P ops Q G A pre Φ i o (Lz.contains i)) ∧
      ∀ y w w', Φ i (restr (i :: pre i) y) w → Fr Nob w w' → Φ i (restr (i :: pre i) y) w'
  | [], _, _, h => by cases h
  | _ :: _, h, i, hi => by
    rcases List.mem_cons.1 hi with rfl | hi
    · exact h.1
    · exact Obls.at h.2 i hi
/-- what is listed has what it waits for listed -/
theorem anc_listed {listed : Array Bool} (inv : Cl md ops listed) {k : Nat} : ∀ (f i : Nat), ancB md ops k f i = true → listed.getD k false = true → listed.getD i true = false → False
  | 0, i, h, _, _ => by cases h
  | f + 1, i, h, hk, hun => by
    obtain ⟨j, hj, hj2⟩ := List.any_eq_true.1 h
    simp only [Bool.and_eq_true, Bool.or_eq_true, decide_eq_true_eq] at hj2
    obtain ⟨oj, hoj, e, he, hb, hon⟩ := Region.waitsFor_spec hj2.1
    have hjl : listed.getD j false = true := by
      rcases hj2.2 with rfl | hja
      · exact hk
      · cases hl : listed.getD j false with
        | true => rfl
        | false =>
          have hjs : j < listed.size := by rw [inv.size]; exact (Array.getElem?_eq_some_iff.1 hoj).1
          exact (anc_listed inv f j hja hk (getD_in hjs hl)).elim
    have h2 := inv.closed j oj hoj hjl e he hb
    rw [hon, getD_both hun] at h2
    cases h2
def unl (F : List Nat) (listed : Array Bool) : List Nat := F.filter fun k => !listed.getD k false
theorem unl_set {F : List Nat} {listed : Array Bool} {i : Nat} (hi : i < listed.size) : unl F (listed.setIfInBounds i true) = (unl F listed).filter (· != i) := by
  unfold unl
  rw [List.filter_filter]
  refine List.filter_congr fun k _ => ?_
  by_cases e : i = k
  · subst e; simp [hi]
  · rw [getD_set_ne false e]
    have h2 : (k != i) = true := by simpa using fun h => e h.symm
    rw [h2, Bool.true_and]
theorem wpOp_want {i : Nat} {o : Oper} {a : Act} {w : World} {K : Act → World → Prop} (ho : ops[i]? = some o) (hg : Region.wanted o (yielded ops a.tmps) = true) (h : o.wp P a w K Q) : wpOp P ops Q i K a w := by
  unfold wpOp
  simp only [ho]
  rw [if_pos hg]
  exact .inl h
theorem wpP_of_pos {G : World → Prop} {F Lz : List Nat} {a : Act} {pre : Nat → List Nat} {Φ : Nat → (Nat → Value) → World → Prop} (hsel : Region.noSelect ops = true) (hm : m < ops.size) (hQ : ∀ c (d : Option Tmp) v a w, Q (.panic c) (Act.put a d v) w → Q (.panic c) a w)
    (hok : posOk md ops m F Lz pre tl = true) (hG : ∀ w w', G w → Fr Nob w w' → G w') (hob : Obls P ops Q G (puts ops F a) pre Φ Lz F)
    (hend : ∀ x w, G w → (∀ i ∈ F, Φ i (restr (i :: pre i) x) w) → wpPlan P ops Q (fun _ => True) tl (puts ops F a x) w) :
    ∀ (N : Nat) (listed : Array Bool) (x : Nat → Value) (w : World), (unl F listed).length = N → listed.size = ops.size → Cl md ops listed → (∀ k, listed.getD k false = true → k ∈ F) → G w → (∀ i ∈ F, listed.getD i false = true → Φ i (restr (i :: pre i) x) w) →
      wpP P md ops Q (fun _ => True) m (N + tl.len) listed (puts ops F a x) w := by
  simp only [posOk, Bool.and_eq_true] at hok
  obtain ⟨⟨⟨⟨⟨⟨hlz, hnd⟩, hap⟩, haf⟩, hpre⟩, htl⟩, hpl⟩ := hok
  have hnd := nodupB_spec hnd
  have hap := apdB_spec hap
  have hF : ∀ i ∈ F, ∃ o, ops[i]? = some o ∧ True ∧ ∀ e ∈ o.after, Region.binds md e = true → e.on ∈ F ∧ e.on < i := by
    intro i hi
    have := List.all_eq_true.1 haf i hi
    cases ho : ops[i]? with
    | none => simp only [ho] at this; cases this
    | some o =>
      simp only [ho] at this
      refine ⟨o, rfl, trivial, fun e he hb => ?_⟩
      have h2 := Array.all_eq_true'.1 this e he
      simpa [hb] using h2
  have hlt : ∀ i ∈ F, i < ops.size := fun i hi => by obtain ⟨o, ho, _⟩ := hF i hi; exact (Array.getElem?_eq_some_iff.1 ho).1
  intro N
  induction N with
  | zero =>
    intro listed x w hu hsz inv hLF hGw hfacts
    have hall : ∀ i ∈ F, listed.getD i false = true := by
      intro i hi
      cases h : listed.getD i false with
      | true => rfl
      | false =>
        have : i ∈ unl F listed := List.mem_filter.2 ⟨hi, by simp [h]⟩
        rw [List.eq_nil_of_length_eq_zero hu] at this
        cases this
    have he : listed = mark (Array.replicate ops.size false) F := by
      refine arr_ext (by simp [mark_size, hsz]) fun k hk => ?_
      rw [mark_get _ _ _ (by simpa [hsz] using hk)]
      have hk' : k < listed.size := hk
      by_cases hkF : k ∈ F
      · have h3 : listed.getD k true = true := by
          cases h : listed.getD k true with
          | true => rfl
          | false => have := hall k hkF; rw [getD_both h] at this; cases this
        rw [h3]; simp [hkF]
      · cases h : listed.getD k true with
        | true =>
          have h2 : listed.getD k false = true := by simpa [hk'] using h
          exact absurd (hLF k h2) hkF
        | false => simp [hkF, hsz ▸ hk']
    have := wpP_of_plan (md := md) (S := fun _ => True) hsel hm hQ tl listed (puts ops F a x) w inv (by rw [he]; exact hpl) (fun _ => trivial) (hend x w hGw fun i hi => hfacts i hi (hall i hi))
    simpa using this
  | succ N ih =>
    intro listed x w hu hsz inv hLF hGw hfacts
    -- something of the front can come
    have hsome : ∀ (b i : Nat), i < b → i ∈ F → listed.getD i false = false → ∃ k ∈ F, listed.getD k false = false ∧ k ∈ Region.ready md ops listed := by
      intro b
      induction b with
      | zero => intro i h; omega
      | succ b ihb =>
        intro i hib hi hun
        obtain ⟨o, ho, hg, hafter⟩ := hF i hi
        by_cases hall : ∀ e ∈ o.after, Region.binds md e = true → listed.getD e.on false = true
        · exact ⟨i, hi, hun, mem_ready.2 ⟨getD_in (by rw [hsz]; exact hlt i hi) hun, o, ho, hall⟩⟩
        · simp only [Classical.not_forall] at hall
          obtain ⟨e, he, hb, hl⟩ := hall
          obtain ⟨h1, h2⟩ := hafter e he hb
          exact ihb e.on (by omega) h1 (by simpa using hl)
    have hex : ∃ i, i ∈ F ∧ listed.getD i false = false := by
      cases h : unl F listed with
      | nil => rw [h] at hu; cases hu
      | cons i s =>
        have : i ∈ unl F listed := by rw [h]; exact List.mem_cons_self
        obtain ⟨h1, h2⟩ := List.mem_filter.1 this
        exact ⟨i, h1, by simpa using h2⟩
    obtain ⟨i00, hi00, hun00⟩ := hex
    obtain ⟨i0, hi0, hun0, hr0⟩ := hsome (i00 + 1) i00 (Nat.lt_succ_self _) hi00 hun00
    have e1 : N + 1 + tl.len = (N + tl.len) + 1 := by omega
    rw [e1]
    have hprel : ∀ i ∈ F, i ∈ Region.ready md ops listed → ∀ j ∈ pre i, j ∈ F ∧ listed.getD j false = true := by
      intro i hiF hi j hj
      have h := List.all_eq_true.1 (List.all_eq_true.1 hpre i hiF) j hj
      simp only [Bool.and_eq_true] at h
      have hjF : j ∈ F := by simpa using h.1
      refine ⟨hjF, ?_⟩
      cases hl : listed.getD j false with
      | true => rfl
      | false => exact absurd hi (anc_waits inv _ _ h.2 (getD_in (by rw [hsz]; exact hlt j hjF) hl))
    -- the state behind one of the front
    have next : ∀ i ∈ F, i ∈ Region.ready md ops listed → ∀ o, ops[i]? = some o → ∀ v w', Fr Nob w w' → Φ i (restr (i :: pre i) (upd x i v)) w' →
        wpP P md ops Q (fun _ => True) m (N + tl.len) (listed.setIfInBounds i true) ((puts ops F a x).put o.dst v) w' := by
      intro i hiF hi o ho v w' hfr hΦ
      obtain ⟨hiun, _⟩ := mem_ready.1 hi
      rw [puts_put ho x F a hiF hnd hap]
      have hil : i < listed.size := by rw [hsz]; exact hlt i hiF
      refine ih (listed.setIfInBounds i true) (upd x i v) w' ?_ (by simpa using hsz) (inv.set hi) ?_ (hG w w' hGw hfr) ?_
      · rw [unl_set hil]
        have hmem : i ∈ unl F listed := List.mem_filter.2 ⟨hiF, by
          cases h : listed.getD i false with
          | false => rfl
          | true => rw [getD_both hiun] at h; cases h⟩
        have := len_filter (l := unl F listed) (nd_filter hnd _) hmem
        omega
      · intro k hk
        by_cases e : i = k
        · subst e; exact hiF
        · rw [getD_set_ne false e] at hk; exact hLF k hk
      · intro k hkF hk
        by_cases e : i = k
        · subst e; exact hΦ
        · rw [getD_set_ne false e] at hk
          have h1 := (hob.at k hkF).2 _ _ _ (hfacts k hkF hk) hfr
          rwa [restr_upd]
          cases h : (k :: pre k).contains i with
          | false => rfl
          | true =>
            exfalso
            have hm : i ∈ k :: pre k := by simpa using h
            rcases List.mem_cons.1 hm with h2 | h2
            · exact e h2
            · have h3 := List.all_eq_true.1 (List.all_eq_true.1 hpre k hkF) i h2
              simp only [Bool.and_eq_true] at h3
              exact anc_listed inv _ _ h3.2 hk hiun
    by_cases hlo : ∃ i ∈ F, i ∈ Region.ready md ops listed ∧ i ∈ Lz
    · -- a loose one is taken at once
      obtain ⟨i, hiF, hir, hiL⟩ := hlo
      obtain ⟨o, ho, hg, -⟩ := hF i hiF
      have hO := (hob.at i hiF).1 o ho
      rw [show Lz.contains i = true by simpa using hiL] at hO
      obtain ⟨hg, v, hv, hΦ⟩ := hO x w hGw fun j hj => hfacts j (hprel i hiF hir j hj).1 (hprel i hiF hir j hj).2
      have hl := List.all_eq_true.1 hlz i hiL
      simp only [ho, Bool.and_eq_true, decide_eq_true_eq] at hl
      refine wpP_takeW ho (Region.noSelect_spec hsel) (fun c a w => hQ c o.dst v a w) hl.1 hm (N + tl.len) listed (puts ops F a x) w inv ?_ hir (.inl ⟨hg, fun wx _ => hv wx⟩) (fun _ => trivial) (next i hiF hir o ho v w (Fr.refl _ _) hΦ)
      intro j oj hoj hji hjun hno
      have h := List.all_eq_true.1 hl.2 j (List.mem_range.2 (Array.getElem?_eq_some_iff.1 hoj).1)
      simp only [hoj, Bool.or_eq_true, beq_iff_eq] at h
      rcases h with (h | h) | h | h
      · exact absurd h hji
      · exact absurd hir (anc_waits inv _ _ h hjun)
      · obtain ⟨k, hk, h2⟩ := Array.any_eq_true.1 h
        simp only [Bool.and_eq_true, beq_iff_eq] at h2
        exact absurd h2.2 (hno _ (Array.getElem_mem hk) h2.1)
      · exact h
    refine ⟨fun h => (by rw [h] at hr0; cases hr0), fun i hi => ?_⟩
    obtain ⟨hiun, oi, hoi, hiall⟩ := mem_ready.1 hi
    have hisz : i < ops.size := (Array.getElem?_eq_some_iff.1 hoi).1
    have hiF : i ∈ F := by
      have h := List.all_eq_true.1 htl i (List.mem_range.2 hisz)
      simp only [Bool.or_eq_true] at h
      rcases h with h | h
      · simpa using h
      · have h2 := List.all_eq_true.1 h i0 hi0
        simp only [Bool.or_eq_true] at h2
        rcases h2 with h2 | h2
        · exact absurd ⟨i0, hi0, hr0, by simpa using h2⟩ hlo
        · exact absurd hi (anc_waits inv _ _ h2 (getD_in (by rw [hsz]; exact hlt i0 hi0) hun0))
    obtain ⟨o, ho, hg, -⟩ := hF i hiF
    have hO := (hob.at i hiF).1 o ho
    have hnl : Lz.contains i = false := by
      cases h : Lz.contains i with
      | false => rfl
      | true => exact absurd ⟨i, hiF, hi, by simpa using h⟩ hlo
    rw [hnl] at hO
    rcases hO x w hGw fun j hj => hfacts j (hprel i hiF hi j hj).1 (hprel i hiF hi j hj).2 with ⟨hgd, hO⟩ | ⟨hgd, hO⟩
    rotate_left 1
    · unfold wpOp
      simp only [ho]
      rw [if_neg (by rw [hgd]; decide)]
      exact ⟨fun _ _ => trivial, next i hiF hi o ho undef w (Fr.refl _ _) hO⟩
    refine wpOp_want ho hgd (Oper.wp_mono (fun a' w' h' => ?_) hO)
    obtain ⟨v, rfl, hfr, hΦ⟩ := h'
    exact ⟨fun _ _ => trivial, next i hiF hi o ho v w' hfr hΦ⟩
/-- THE BEGINNING -/
theorem wp_region_pos {id : Nat} {a : Act} {w : World} {l : List Oper} (G : World → Prop) (F Lz : List Nat) (pre : Nat → List Nat) (Φ : Nat → (Nat → Value) → World → Prop) (m : Nat) (tl : Pl) (hm : P.follows .mixedOrders = true)
    (hB : (Region.noSelect l.toArray && decide (m < l.toArray.size) && decide (F.length + tl.len = l.toArray.size) && posOk .any l.toArray m F Lz pre tl) = true)
    (hQ : ∀ c (d : Option Tmp) v a w, Q (.panic c) (Act.put a d v) w → Q (.panic c) a w) (hG0 : G w.drew) (hG : ∀ w w', G w → Fr Nob w w' → G w') (hob : Obls P l.toArray Q G (puts l.toArray F a) pre Φ Lz F)
    (hend : ∀ x w, G w → (∀ i ∈ F, Φ i (restr (i :: pre i) x) w) → wpPlan P l.toArray Q (fun _ => True) tl (puts l.toArray F a x) w) : (Code.region id l.toArray true).wp P Q a w := by
  simp only [Bool.and_eq_true, decide_eq_true_eq] at hB
  obtain ⟨⟨⟨hsel, hms⟩, hlen⟩, hok⟩ := hB
  have inv0 : Cl .any l.toArray (Array.replicate l.toArray.size false) :=
    ⟨by simp, fun j oj _ hl => (by rw [getD_replicate_false] at hl; cases hl)⟩
  have hnd : F.Nodup := by
    have h := hok
    simp only [posOk, Bool.and_eq_true] at h
    exact nodupB_spec h.1.1.1.1.1.2
  obtain ⟨x0, hx0⟩ := puts_back (ops := l.toArray) F a hnd
  have hul : unl F (Array.replicate l.toArray.size false) = F := by
    unfold unl
    exact List.filter_eq_self.2 fun k _ => by rw [getD_replicate_false]; rfl
  have H := wpP_of_pos (md := .any) hsel hms hQ hok hG hob hend F.length (Array.replicate l.toArray.size false) x0 w.drew (by rw [hul]) (by simp) inv0 (fun k hk => by rw [getD_replicate_false] at hk; cases hk) hG0 (fun i _ hk => by rw [getD_replicate_false] at hk; cases hk)
  rw [hx0, hlen] at H
  exact wp_region_any hm (wpAny_of_P _ _ _ _ H)
/-- the same, the act spelled -/
theorem wp_region_posA {id : Nat} {a : Act} {w : World} {l : List Oper} (G : World → Prop) (F Lz : List Nat) (pre : Nat → List Nat) (Φ : Nat → (Nat → Value) → World → Prop) (m : Nat) (tl : Pl) (A : (Nat → Value) → Act) (hA : ∀ x, puts l.toArray F a x = A x) (hm : P.follows .mixedOrders = true)
    (hB : (Region.noSelect l.toArray && decide (m < l.toArray.size) && decide (F.length + tl.len = l.toArray.size) && posOk .any l.toArray m F Lz pre tl) = true)
    (hQ : ∀ c (d : Option Tmp) v a w, Q (.panic c) (Act.put a d v) w → Q (.panic c) a w) (hG0 : G w.drew) (hG : ∀ w w', G w → Fr Nob w w' → G w') (hob : Obls P l.toArray Q G A pre Φ Lz F)
    (hend : ∀ x w, G w → (∀ i ∈ F, Φ i (restr (i :: pre i) x) w) → wpPlan P l.toArray Q (fun _ => True) tl (A x) w) : (Code.region id l.toArray true).wp P Q a w := by
  obtain rfl : (puts l.toArray F a) = A := funext hA
  exact wp_region_pos G F Lz pre Φ m tl hm hB hQ hG0 hG hob hend
theorem obls_cons {G : World → Prop} {A : (Nat → Value) → Act} {pre : Nat → List Nat} {Φ : Nat → (Nat → Value) → World → Prop} {Lz : List Nat} {i : Nat} {s : List Nat} {o : Oper} (ho : ops[i]? = some o) (hl : Lz.contains i = false)
    (h : ∀ x w, G w → (∀ j ∈ pre i, Φ j (restr (j :: pre j) x) w) → o.wp P (A x) w (fun a' w' => ∃ v, a' = (A x).put o.dst v ∧ Fr Nob w w' ∧ Φ i (restr (i :: pre i) (upd x i v)) w') Q)
    (hm : ∀ y w w', Φ i (restr (i :: pre i) y) w → Fr Nob w w' → Φ i (restr (i :: pre i) y) w') (hs : Obls P ops Q G A pre Φ Lz s) (hg : o.guard = none := by rfl) : Obls P ops Q G A pre Φ Lz (i :: s) :=
  ⟨⟨fun o' ho' => by
    obtain rfl : o = o' := Option.some.inj (ho.symm.trans ho')
    rw [hl]
    exact fun x w h1 h2 => .inl ⟨by simp [Region.wanted, hg], h x w h1 h2⟩, hm⟩, hs⟩
variable {o : Oper} {a : Act} {w : World} {Ψ : Value → World → Prop}
/-- a yield -/
theorem pos_v {v : Value} (h : (execOp a.eval o).run P w = .ok (.value v) w) (hΨ : Ψ v w) : o.wp P a w (fun a' w' => ∃ v, a' = a.put o.dst v ∧ Fr Nob w w' ∧ Ψ v w') Q := by
  unfold Oper.wp
  rw [h]
  exact ⟨v, rfl, Fr.refl _ _, hΨ⟩
/-- a maker -/
theorem pos_mk {v : Nat → Value} {L : List Value} {T : TypeId} (hk : Mk P (execOp a.eval o) v L T) (h : ∀ g w', Fr Nob w w' → w.heap.size ≤ g → Has w' g L T → Ψ (v g) w') : o.wp P a w (fun a' w' => ∃ v, a' = a.put o.dst v ∧ Fr Nob w w' ∧ Ψ v w') Q := by
  obtain ⟨g, w', hr, hf, hle, hg⟩ := hk w
  unfold Oper.wp
  rw [hr]
  exact ⟨v g, rfl, hf, h g w' hf hle hg⟩
theorem pos_rows {t e : TypeId} {k : Nat} {parts : Array (Nat × Operand)} (hop : o.op = .buildSlice t k parts) (hu : P.underlying t = some (.slice e)) {z : Value} {sz by_ : Nat} (hi0 : (P.info? e).map (fun i => (i.zero, i.size, i.bytes)) = some (some z, sz, by_))
    (vs : List Value) (hp : (parts.toList.map fun p => (p.1, a.eval p.2)) = (vs.zipIdx 0).map fun x => (x.2, x.1)) (hv : ∀ v ∈ vs, v.cells.size = sz) (hk : vs.length = k) (L : List Value) (hL : (vs.flatMap fun v => v.cells.toList) = L)
    (h : ∀ g w', Fr Nob w w' → w.heap.size ≤ g → Has w' g L e → Ψ (.slice (some ⟨g, 0, none⟩) k k) w') (hk0 : 0 < k * sz := by decide) (hk24 : k * sz ≤ 16777216 := by decide) : o.wp P a w (fun a' w' => ∃ v, a' = a.put o.dst v ∧ Fr Nob w w' ∧ Ψ v w') Q :=
  pos_mk (v := fun g => .slice (some ⟨g, 0, none⟩) k k) (by unfold execOp; simp only [hop]; rw [parts_arr hp]; exact mk_rows hu hi0 vs rfl hv hk L hL hk0 hk24) h
/-- a call -/
theorem pos_go {f : FuncId} {xs : Array Operand} {ats : Array TypeId} (hop : o.op = .call { callee := .value (.func f), args := xs, argTypes := ats }) (hcl : ∀ us w, (callFunc f us).run P w = .ok (.enter f us) w)
    {vs : List Value} (hargs : xs.toList.map a.eval = vs) (h : Calls P f vs.toArray w fun e w' => ∃ v, e = .returned v ∧ Fr Nob w w' ∧ Ψ v w') : o.wp P a w (fun a' w' => ∃ v, a' = a.put o.dst v ∧ Fr Nob w w' ∧ Ψ v w') Q :=
  wp_go hop hcl hargs (h.mono fun _ _ ⟨v, h1, h2, h3⟩ => ⟨v, h1, v, rfl, h2, h3⟩)
end
end Go.Mv
