/- Walks inside a round: what is shown of operations as everywhere serves there; A range over a function whose iterator writes blocks of its own between the rounds; each round goes on; store: frames, one by one; store: frames, the iterator's contract; store: Open; StoreTrue: the law's walk. -/
import Derived.Test.YtdadnajbdnbbdaaMgStoreTrueProof3
import Derived.RangeFuncNested
import Derived.RangeFuncBound
import Derived.RangeFuncCalls
import Derived.RangeFuncLeaves
import Derived.Deep.DeepCutAuto
import Derived.Shelf.Abstract
import Derived.Test.YtdadnajbdnbbdaaMgStoreTrueProof2
namespace Go.Mv
open Go.RowKit
variable {P : Program} {ops : Array Oper} {Q : Exit → Act → World → Prop} {a : Act} {w : World} {rest : List Oper} {o : Oper} {n l : Nat}
/-- no operation is a defer statement -/
def noDefer (rest : List Oper) : Bool := rest.all fun o => match o.op with | .defer _ => false | _ => true
theorem noDefer_op {o : Oper} (h : (match o.op with | .defer _ => false | _ => true) = true) : ∀ c, o.op ≠ .defer c := by
  intro c e
  rw [e] at h
  cases h
theorem rowsIn_of {row : String} {args : Array Value} {R : Value → World → Prop} (h : Rows P row args w R) : RowsIn (Fence.wide.inRound l) n P row args w R :=
  fun c cs _ => let ⟨v, w', r, s⟩ := h c cs; ⟨v, w', r, stepsIn_wide.2 s⟩
theorem wpIn_of_wp {K : Act → World → Prop} (hd : ∀ c, o.op ≠ .defer c) (h : o.wp P a w K Q) : o.wpIn (Fence.wide.inRound l) n P a w K Q := by
  refine ⟨fun _ _ => trivial, ?_⟩
  have e : o.semAt (some l) a.eval = execOp a.eval o := Oper.semAt_eq _ _ _ hd
  show o.uponIn (Fence.wide.inRound l) n P a K Q ((o.semAt (some l) a.eval).run P w)
  rw [e]
  unfold Oper.wp at h
  generalize (execOp a.eval o).run P w = r at *
  cases r with
  | ok v w' =>
    cases v with
    | value v => exact h
    | skip => exact h
    | defer d => exact h
    | enter f args => exact ⟨fun h => by simp [Fence.wide] at h, CallsIn.inRound l (callsIn_wide.2 h)⟩
    | row row args => exact ⟨fun h => by simp [Fence.wide] at h, rowsIn_of h⟩
    | _ => exact h.elim
  | halt s w' =>
    cases s <;> first | exact h | exact h.elim
/-- a row of operations, inside a round -/
theorem listIn_of (hQ : ¬ LetsOut Q) : ∀ (rest : List Oper) (a : Act) (w : World), noDefer rest = true → wpList P ops Q rest a w → wpListIn (Fence.wide.inRound l) n P ops Q rest a w
  | [], _, _, _, h => h
  | o :: rest, a, w, hd, h => by
    unfold noDefer at hd
    rw [List.all_cons, Bool.and_eq_true] at hd
    unfold wpList at h
    unfold wpListIn
    by_cases hw : Region.wanted o (yielded ops a.tmps) = true
    · rw [if_pos hw] at h ⊢
      rcases h with h | h
      · exact wpIn_of_wp (noDefer_op hd.1) (Oper.wp_mono (fun a w k => listIn_of hQ rest a w hd.2 k) h)
      · exact absurd h.2 hQ
    · rw [if_neg hw] at h ⊢
      exact ⟨fun _ _ => trivial, listIn_of hQ rest _ w hd.2 h⟩
theorem regionIn_of {id : Nat} {rest : List Oper} (hQ : ¬ LetsOut Q) (hd : noDefer rest = true) (h : wpList P rest.toArray Q rest a w) : (Code.region id rest.toArray false).wpIn (Fence.wide.inRound l) n P Q a w :=
  wpIn_region_lit (listIn_of hQ rest a w hd h)
/- the wide fence, one operation at a time -/
theorem wlIn_v {v : Value} (hg : Region.wanted o (yielded ops a.tmps) = true) (_ : ∀ c, o.op ≠ .defer c) (hv : (execOp a.eval o).run P w = .ok (.value v) w) (h : wpListIn Fence.wide n P ops Q rest (a.put o.dst v) w) : wpListIn Fence.wide n P ops Q (o :: rest) a w := by
  unfold wpListIn
  rw [if_pos hg]
  refine ⟨fun _ _ => trivial, ?_⟩
  show o.uponIn Fence.wide n P a _ Q ((o.semAt none a.eval).run P w)
  rw [show o.semAt none a.eval = execOp a.eval o from Oper.semAt_none _ _, hv]
  exact h
theorem wlIn_skip (hg : Region.wanted o (yielded ops a.tmps) = false) (h : wpListIn Fence.wide n P ops Q rest (a.put o.dst undef) w) : wpListIn Fence.wide n P ops Q (o :: rest) a w := by
  unfold wpListIn
  rw [if_neg (by rw [hg]; decide)]
  exact ⟨fun _ _ => trivial, h⟩
/-- yield is called -/
theorem wlIn_yield {f : FuncId} {tmps : Array Value} {assign body : Code} {R : Ending → World → Prop} (hg : Region.wanted o (yielded ops a.tmps) = true) (hv : (execOp a.eval o).run P w = .ok (.round l f tmps assign body) w)
    (hR : RoundIn Fence.wide (n - 1) P l f tmps assign body w R) (h : ∀ e w', R e w' → ∃ b, e = .returned b ∧ wpListIn Fence.wide n P ops Q rest (a.put o.dst b) w') : wpListIn Fence.wide n P ops Q (o :: rest) a w := by
  unfold wpListIn
  rw [if_pos hg]
  refine ⟨fun _ _ => trivial, ?_⟩
  show o.uponIn Fence.wide n P a _ Q ((o.semAt none a.eval).run P w)
  rw [show o.semAt none a.eval = execOp a.eval o from Oper.semAt_none _ _, hv]
  refine ⟨fun h => by simp [Fence.wide] at h, hR.mono fun e w' k => ?_⟩
  obtain ⟨b, rfl, h2⟩ := h e w' k
  exact h2
/-- a region, by the wide fence -/
theorem wp_region_wide (n : Nat) {id : Nat} {rest : List Oper} (h : wpListIn Fence.wide n P rest.toArray Q rest a w) : (Code.region id rest.toArray false).wp P Q a w := wpIn_wide.1 (wpIn_region_lit h)
end Go.Mv

/- A range over a function whose iterator writes blocks of its own between the rounds; each round goes on. -/
namespace Go.Mv
open Go.RowKit
variable {P : Program}
/-- an iterator that gives values, one by one, with what is known of each; between the rounds it turns the blocks of X; Kp: what a round keeps -/
def SeqG {α : Type} (P : Program) (gf : FuncId) (lb : Array Value) (enc : α → Value) (X : Nat → Prop) (Kp : World → World → Prop) (Pr : List α → α → World → Prop) (S : List α → Prop) (w : World) : Prop :=
  ∀ (l : Nat) (J : List α → World → Prop) (W : World), Fr Nob w W → (∀ pre A B, J pre A → Fr X A B → J pre B) →
    (∀ pre x A, J pre A → Pr pre x A → YieldAt Fence.wide 1 P l #[enc x] A fun e B => e = .returned (.bool true) ∧ J (pre ++ [x]) B ∧ Kp A B) → J [] W →
    Calls P gf (#[.func (.yield l) #[] #[]] ++ lb) W fun e B => (∃ v, e = .returned v) ∧ ∃ xs, S xs ∧ J xs B
/-- the invariant stands where the loop's own blocks turn -/
def Wide {β : Type} (B : Nat) (I : β → World → Prop) : Prop := ∀ s W k (o : Obj) (o' : Obj), B ≤ k → W.heap[k]? = some o → o.isCells = false → I s W → I s (W.putObj k o')
/-- a round of the body: it goes on -/
def goesOn {α : Type} (B : Nat) (Kp : World → World → Prop) (I : List α → World → Prop) (xs : List α) (W : World) : Exit → Act → World → Prop
  | .normal, _, V => KeepsFrom B W V ∧ Kp W V ∧ I xs V
  | _, _, _ => False
theorem wp_rangeG {α : Type} {g : Operand} {p : Tmp} {assign body : Code} {Q : Exit → Act → World → Prop} {a : Act} {w : World} {gf : FuncId} {lb : Array Value} (hg : a.eval g = .func (.func gf) #[] lb) (eg : ∀ args w, (callFunc gf args).run P w = .ok (.enter gf args) w)
    {enc : α → Value} {X : Nat → Prop} {Kp : World → World → Prop} {Pr : List α → α → World → Prop} {S : List α → Prop} (hseq : SeqG P gf lb enc X Kp Pr S w) (hX : ∀ k, X k → k < w.heap.size)
    (hKt : ∀ {A B C : World}, Kp A B → Kp B C → Kp A C) (hKb : ∀ (W : World) (k : Nat) (o o' : Obj), w.heap.size ≤ k → W.heap[k]? = some o → o.isCells = false → Kp W (W.putObj k o'))
    (I : List α → World → Prop) (hIX : ∀ pre A B, I pre A → Fr X A B → I pre B) (hI : Wide w.heap.size I) (h0 : I [] w) (a1 : α → Act)
    (hassign : ∀ (l : Nat) (x : α) (W : World) (K : Act → World → Prop), K (a1 x) W → assign.wpIn (Fence.wide.inRound l) 1 P (Exit.then K fun _ _ _ => False) { tmps := a.tmps.setIfInBounds p (enc x), defers := [] } W)
    (hbody : ∀ (l : Nat) (pre : List α) (x : α) (W : World), w.heap.size ≤ l → I pre W → Pr pre x W → body.wpIn (Fence.wide.inRound l) 1 P (goesOn w.heap.size Kp I (pre ++ [x]) W) (a1 x) W)
    (hPr : ∀ pre x W k o o', Pr pre x W → w.heap.size ≤ k → W.heap[k]? = some o → o.isCells = false → Pr pre x (W.putObj k o'))
    (hdone : ∀ (D : Nat) (xs : List α) (W : World), w.heap.size ≤ D → S xs → I xs W → W.heap[D]? = some (.deferred (some [])) → Q .normal { a with defers := { target := .collected D, args := #[] } :: a.defers } W) :
    (Code.rangeFunc g #[p] assign body).wp P Q a w := by
  refine (wpIn_wide (n := 3)).1 (wpIn_rangeFunc ?_)
  intro fn hfn
  obtain ⟨lp, hlp⟩ : ∃ lp : LoopState → Option Code → Loop, lp = fun st pe => { state := st, pending := pe, fn, tmps := a.tmps, params := #[p], assign, body, defers := w.heap.size } := ⟨_, rfl⟩
  obtain ⟨V, hV⟩ : ∃ V, (w.alloc (.deferred (some []))).alloc (.loop (lp .ready none)) = V := ⟨_, rfl⟩
  have hVl : V.heap[w.heap.size + 1]? = some (.loop (lp .ready none)) := by
    rw [← hV]; have := World.alloc_heap_new (w.alloc (.deferred (some []))) (.loop (lp .ready none)); rwa [World.size_alloc] at this
  have hVd : V.heap[w.heap.size]? = some (.deferred (some [])) := by
    rw [← hV]; exact (Below.heap_alloc _ _ _ (by simp)).trans (World.alloc_heap_new w _)
  have hVf : Fr Nob w V := by rw [← hV]; exact ((Fr.refl Nob w).alloc _).alloc _
  refine ⟨w.heap.size + 1, [{ target := .collected w.heap.size, args := #[] }], V, { target := .fn (.func gf) lb, args := #[.func (.yield (w.heap.size + 1)) #[] #[]] }, V, gf, #[.func (.yield (w.heap.size + 1)) #[] #[]] ++ lb, V, ?_, ?_, fun _ _ => trivial, ?_, fun h => by simp [Fence.wide] at h, ?_⟩
  · rw [← hV, hlp]; exact run_enterLoop_outer _ _ _ _ _
  · simp only [resolve, hg]
    simp [go_sem]
  · simp [invoke, go_sem, eg]
  · refine callsIn_wide.2 ((hseq (w.heap.size + 1) (fun pre W => I pre W ∧ W.heap[w.heap.size + 1]? = some (.loop (lp .ready none)) ∧ W.heap[w.heap.size]? = some (.deferred (some []))) V hVf ?_ ?_ ⟨hIX _ _ _ h0 (hVf.mono fun _ _ t => t.elim), hVl, hVd⟩).mono ?_)
    · rintro pre A B ⟨h1, h2, h3⟩ hf
      have hs := (Array.getElem?_eq_some_iff.1 h2).1
      refine ⟨hIX _ _ _ h1 hf, (hf.block _ hs fun k => ?_).trans h2, (hf.block _ (by omega) fun k => ?_).trans h3⟩
      · have := hX _ k; omega
      · have := hX _ k; omega
    · rintro pre x W ⟨hi, hl, hd⟩ hp
      have hs := (Array.getElem?_eq_some_iff.1 hl).1
      have hy := run_yield (P := P) (args := #[enc x]) hl (by rw [hlp]; rfl)
      rw [hlp] at hy
      have hz : ((#[p].zip #[enc x]).foldl (fun t (q, v) => t.setIfInBounds q v) a.tmps) = a.tmps.setIfInBounds p (enc x) := by simp
      refine ⟨fn, _, assign, body, hy, roundIn_of_wpIn hfn ?_⟩
      have has := hassign (w.heap.size + 1) x W
      rw [← hz] at has
      refine has _ ⟨_, run_beginRound hl (by rw [hlp]), ?_⟩
      clear hy has hz
      obtain ⟨W2, hW2⟩ : ∃ W2, W.putObj (w.heap.size + 1) (.loop { lp .ready none with state := .busy }) = W2 := ⟨_, rfl⟩
      have hl2 : W2.heap[w.heap.size + 1]? = some (.loop { lp .ready none with state := .busy }) := by rw [← hW2]; exact World.putObj_heap_same hs
      have hd2 : W2.heap[w.heap.size]? = some (.deferred (some [])) := by rw [← hW2]; exact (World.putObj_heap_other (by omega)).trans hd
      have hk2 : Kp W W2 := by rw [← hW2]; exact hKb _ _ _ _ (by omega) hl rfl
      have hi2 : I pre W2 := by rw [← hW2]; exact hI _ _ _ _ _ (by omega) hl rfl hi
      have hp2 : Pr pre x W2 := by rw [← hW2]; exact hPr _ _ _ _ _ _ hp (by omega) hl rfl
      rw [hW2]
      refine wpIn_mono (hbody (w.heap.size + 1) pre x W2 (by omega) hi2 hp2) ?_
      rintro e a3 W3 hq
      cases e with
      | normal =>
        obtain ⟨q1, q2, q3⟩ := hq
        have hl3 := q1.same _ _ (by omega) hl2 rfl
        have hd3 := q1.same _ _ (Nat.le_refl _) hd2 rfl
        have hs3 := (Array.getElem?_eq_some_iff.1 hl3).1
        have hr := run_endRound (P := P) none hl3
        rw [hlp] at hr hl3 ⊢
        exact ⟨_, _, hr, rfl, ⟨hI _ _ _ _ _ (by omega) hl3 rfl q3, World.putObj_heap_same hs3, (World.putObj_heap_other (by omega)).trans hd3⟩, hKt (hKt hk2 q2) (hKb _ _ _ _ (by omega) hl3 rfl)⟩
      | _ => exact hq.elim
    · rintro e B ⟨⟨v, rfl⟩, xs, hS, hi, hl, hd⟩
      have hr := run_endLoop (P := P) hl (by rw [hlp]; simp)
      rw [hlp] at hr hl
      exact ⟨none, _, hr, hdone _ xs _ (Nat.le_refl _) hS (hI _ _ _ _ _ (by omega) hl rfl hi) ((World.putObj_heap_other (by omega)).trans hd)⟩
/- what stands in cells stands where a block that is none turns -/
theorem Fr.obj (W : World) (k : Nat) (o' : Obj) : Fr (One k) W (W.putObj k o') := by
  have hg := grownBy_putObj' W k o'
  exact ⟨hg.os, hg.tape, hg.output, hg.size, fun i hi hs => hg.block i hi (fun e => hs (by cases e; rfl))⟩
theorem Has.obj {W : World} {k g : Nat} {o o' : Obj} (h : W.heap[k]? = some o) (ho : o.isCells = false) {L : List Value} {T : TypeId} (hg : Has W g L T) : Has (W.putObj k o') g L T := by
  refine hg.keep (Fr.obj W k o') fun e => ?_
  have e2 : g = k := e
  obtain ⟨lo, hi, h2, -⟩ := hg
  subst e2
  rw [h] at h2
  cases h2
  cases ho
theorem Own.obj {W : World} {k : Nat} {o o' : Obj} (h : W.heap[k]? = some o) (ho : o.isCells = false) {base : Nat} {T : TypeId} {sz n : Nat} {v : Value} {L : List Value} (hg : Own W base T sz v n L) : Own (W.putObj k o') base T sz v n L := by
  refine ⟨hg.1, hg.2.imp id ?_⟩
  rintro ⟨g, q, cap, B, h1, h2, h3, h4⟩
  exact ⟨g, q, cap, B, h1, h2, h3.obj h ho, h4⟩
theorem RdB.obj {W : World} {k : Nat} {o o' : Obj} (h : W.heap[k]? = some o) (ho : o.isCells = false) {a : Option Addr} {n : Nat} {l : List UInt8} (hg : RdB W a n l) : RdB (W.putObj k o') a n l := by
  rcases Nat.eq_zero_or_pos n with h0 | h0
  · subst h0
    have hb := List.eq_nil_of_length_eq_zero hg.len
    subst hb
    exact RdB.nil _ _
  · refine hg.keep (Fr.obj W k o') fun x hx e => ?_
    obtain ⟨b, q, rfl, hc⟩ := hg.at h0
    cases hx
    have e2 : b = k := e
    subst e2
    have h1 := hc 0 h0
    unfold World.cell? at h1
    simp only [h] at h1
    cases o <;> first | (cases ho; done) | (simp at h1; done)
end Go.Mv

/- store: frames, one by one. -/
namespace Go.Mv
open Go.RowKit Mvp
variable {P : Program} {ops : Array Oper} {Q : Exit → Act → World → Prop} {a : Act} {w : World} {rest : List Oper} {o : Oper} {n l : Nat}
theorem wpIn_of_wpW {K : Act → World → Prop} (_hd : ∀ c, o.op ≠ .defer c) (h : o.wp P a w K Q) : o.wpIn Fence.wide n P a w K Q := by
  refine ⟨fun _ _ => trivial, ?_⟩
  have e : o.semAt none a.eval = execOp a.eval o := Oper.semAt_none _ _
  show o.uponIn Fence.wide n P a K Q ((o.semAt none a.eval).run P w)
  rw [e]
  unfold Oper.wp at h
  generalize (execOp a.eval o).run P w = r at *
  cases r with
  | ok v w' =>
    cases v with
    | value v => exact h
    | skip => exact h
    | defer d => exact h
    | enter f args => exact ⟨fun h => by simp [Fence.wide] at h, callsIn_wide.2 h⟩
    | row row args => exact ⟨fun h => by simp [Fence.wide] at h, fun c cs _ => let ⟨v, w', r, s⟩ := h c cs; ⟨v, w', r, stepsIn_wide.2 s⟩⟩
    | _ => exact h.elim
  | halt s w' =>
    cases s <;> first | exact h | exact h.elim
/-- an operation, by the wide fence -/
theorem wlIn_op (hg : Region.wanted o (yielded ops a.tmps) = true) (hd : ∀ c, o.op ≠ .defer c) (h : o.wp P a w (fun a' w' => wpListIn Fence.wide n P ops Q rest a' w') Q) : wpListIn Fence.wide n P ops Q (o :: rest) a w := by
  unfold wpListIn
  rw [if_pos hg]
  exact wpIn_of_wpW hd h
theorem run_slice_midU {P : Program} (w : World) {ty e : TypeId} (hu : P.underlying ty = some (.slice e)) (hsz : (P.info? e).map (·.size) = some 1) (b o n c : Nat) (k k' : IntKind) (l h : Nat) (hl : l ≤ h) (hh : h ≤ c) (hlc : l < c) :
    (Instr.sliceAt ty (.slice (some ⟨b, o, none⟩) n c) (some (.int k (l : Int))) (some (.int k' (h : Int))) none).run P w = .ok (.slice (some ⟨b, o + l, none⟩) (h - l) (c - l)) w := by
  obtain ⟨i, hi1, hi2⟩ : ∃ i, P.info? e = some i ∧ i.size = 1 := by simpa using hsz
  have h1 : ¬ c = l := by omega
  simp [Instr.sliceAt, Instr.slice, run_underlying hu, Instr.sliceBounds, run_sliceBound, hl, hh, sizeOf, typeInfo, hi1, hi2, h1, Addr.add]
end Go.Mv
namespace Go.Proofs.Ytdadnajbdnbbdaa
open Go.RowKit Go.Mv Mvp
attribute [local irreducible] permS permP toB turnsK squeeze permN spongeB feed frameL framesL tagL bigN bigJ numS frameB framesB ckS exC SM.put SM.add unframe
set_option maxRecDepth 100000 in
theorem hasPre_any (a : Option Addr) (n c : Nat) (l : List UInt8) (a' : Option Addr) (n' c' : Nat) (l' : List UInt8) (w : World) (hb : RdB w a n l) (hb' : RdB w a' n' l') (hc : n ≤ c) (hn : n' ≤ n) (_hs : n ≤ 1000000000) :
    Calls Try.prog 44 #[.slice a n c, .slice a' n' c'] w fun r w' => r = .returned (.bool (decide (l.take n' = l'))) ∧ w' = w := by
  have HB := Lib.hid (show RdB w a n' (l.take n') by have h := Rd.take (show Rd w a n (bs l) from hb) n' hn; rwa [bs_take] at h)
  have HB2 := Lib.hid hb'
  have h1 : (n' : Int) ≤ (n : Int) := by omega
  have hsl := fun wx => run_slice_hi (P := Try.prog) wx Try.underlying22 (by kernel_rfl) a n c .i64 n' (by omega)
  clear hb hb' hc hn _hs
  go_enter Try.func44, Try.ntmps44
  go_wp2_with fail
  refine (equal_any a n' c (l.take n') a' n' c' l' w HB.out HB2.out).mono ?_
  rintro e w1 ⟨rfl, rfl⟩
  go_wp2_with fail
  go_ret
  exact ⟨rfl, rfl⟩
end Go.Proofs.Ytdadnajbdnbbdaa

/- store: frames, the iterator's contract. -/
namespace Go.Proofs.Ytdadnajbdnbbdaa
open Go.RowKit Go.Mv Mvp
/-- what a round keeps -/
def KpF (T : TypeId) (gb : Nat) (a : Option Addr) (n : Nat) (l : List UInt8) (A B : World) : Prop := (∀ L, Has A gb L T → Has B gb L T) ∧ (RdB A a n l → RdB B a n l) ∧ A.heap.size ≤ B.heap.size
theorem KpF.trans {T : TypeId} {gb : Nat} {a : Option Addr} {n : Nat} {l : List UInt8} {A B C : World} (h : KpF T gb a n l A B) (k : KpF T gb a n l B C) : KpF T gb a n l A C := ⟨fun L x => k.1 L (h.1 L x), fun x => k.2.1 (h.2.1 x), Nat.le_trans h.2.2 k.2.2⟩
/-- a record that is given -/
def FrP (T : TypeId) (gb : Nat) (l : List UInt8) (pre : List (Value × List UInt8)) (x : Value × List UInt8) (W : World) : Prop := PartIs W x.1 x.2 ∧ x.2.length ≤ 16384 ∧ (framesB ckS 0 (pre.map (·.2))).length + 12 + x.2.length ≤ l.length ∧ ∃ L, Has W gb L T
theorem numS_bnd (l : List UInt8) (h : l.length ≤ 4) : numS l < 4294967296 := by
  have h1 := numS_lt l
  have h2 : 256 ^ l.length ≤ 256 ^ 4 := Nat.pow_le_pow_right (by decide) h
  have h3 : (256 : Nat) ^ 4 = 4294967296 := by decide
  omega
theorem rdFront {w : World} {a : Option Addr} {n : Nat} {l : List UInt8} (h : RdB w a n l) (k : Nat) (hk : k ≤ n) : RdB w a k (l.take k) := by
  have h1 := Rd.take (show Rd w a n (bs l) from h) k hk
  rwa [bs_take] at h1
theorem info_bsl_1 : (Try.prog.info? 5).map (·.size) = some 1 := by kernel_rfl
theorem exec_yieldS {l : Nat} {vs : List Value} {nx : Next} {o : Oper} {a : Act} {w : World} {x : Operand} {xs : Array Operand} {ats : Array TypeId} (ho : o.op = .call { callee := .value x, args := xs, argTypes := ats }) (hx : a.eval x = .func (.yield l) #[] #[]) (ha : xs.toList.map a.eval = vs)
    (hy : (Instr.yield l vs.toArray).run Try.prog w = .ok nx w) : (execOp a.eval o).run Try.prog w = .ok nx w := by
  have ha2 : xs.map a.eval = vs.toArray := by rw [← ha]; simp [← Array.toList_map]
  unfold execOp
  simp only [ho, resolve, hx, ha2]
  simp [invoke, hy, go_sem]
theorem framesB_0 : (framesB ckS 0 (([] : List (Value × List UInt8)).map (·.2))).length = 0 := rfl
attribute [local irreducible] permS permP toB turnsK squeeze permN spongeB feed frameL framesL tagL bigN bigJ numS frameB framesB ckS exC SM.put SM.add unframe OpenI
set_option maxHeartbeats 4000000 in
set_option maxRecDepth 1000000 in
theorem frames_seq (gb : Nat) (a : Option Addr) (n c : Nat) (l : List UInt8) (w : World) (hg : Has w gb [.slice a n c] 22) (hr : RdB w a n l) (hnc : n ≤ c) (hn : n ≤ 2000000) :
    SeqG Try.prog 42 #[.pointer (some ⟨gb, 0, none⟩)] (fun x : Value × List UInt8 => x.1) (Mv.One gb) (KpF 22 gb a n l) (FrP 22 gb l) (fun xs => xs.map (·.2) = unframe ckS l.length 0 l) w := by
  intro l0 J W hW hJ hY h0
  show Calls Try.prog 42 #[.func (.yield l0) #[] #[], .pointer (some ⟨gb, 0, none⟩)] W _
  have HY := Lib.hid hY
  have HJ := Lib.hid hJ
  have H0 := Lib.hid h0
  have HG := Lib.hid (hg.keep hW id)
  have HR := Lib.hid (hr.still hW)
  have HL := Lib.hid hr.len
  have HNC := Lib.hid hnc
  have HN := Lib.hid hn
  clear hY hJ h0 hg hr hW hnc hn
  go_enter Try.func42, Try.ntmps42
  go_wp2
  go_loopw [3] (fun v wr => ∃ (pre : List (Value × List UInt8)) (f : Nat) (a' : Option Addr), v = .int .i64 (pre.length : Int) ∧ f ≤ n ∧ 12 * pre.length ≤ f ∧ OpenI ckS l (pre.map (·.2)) (l.drop f) ∧ (framesB ckS 0 (pre.map (·.2))).length = f ∧ Has wr gb [.slice a' (n - f) (c - f)] 22 ∧ (∀ b o, a = some ⟨b, o, none⟩ → f < n → a' = some ⟨b, o + f, none⟩) ∧ RdB wr a n l ∧ J pre wr ∧ W.heap.size ≤ wr.heap.size) (fun v _ => n - (intOf v).toNat)
  case atStart => exact ⟨[], 0, a, rfl, Nat.zero_le _, Nat.zero_le _, by rw [List.drop_zero]; exact OpenI.start ckS l, framesB_0, HG.out, fun b o e _ => by rw [e]; rfl, HR.out, H0.out, Nat.le_refl _⟩
  case round =>
    obtain ⟨pre, f, a', rfl, hf, h12, hop, hfl, hhg, hpt, hrd, hj, hsz⟩ := hrel
    have HF := Lib.hid hf
    have H12 := Lib.hid h12
    have HOP := Lib.hid hop
    have HFL := Lib.hid hfl
    have HHG := Lib.hid hhg
    have HPT := Lib.hid hpt
    have HRD := Lib.hid hrd
    have HJP := Lib.hid hj
    have HSZ := Lib.hid hsz
    have c0 := hhg.cell (i := 0) (v := .slice a' (n - f) (c - f)) rfl
    have hml : (l.drop f).length = n - f := by rw [List.length_drop, HL.out]
    clear hf h12 hop hfl hhg hpt hrd hj hsz
    obtain ⟨m, hm⟩ : ∃ m, n - f = m := ⟨_, rfl⟩
    rw [hm] at c0 hml
    have HM := Lib.hid hm
    have HML := Lib.hid hml
    clear hm hml
    by_cases hlt : m < 12
    · have hltI : ¬ (12 : Int) ≤ (m : Int) := by omega
      have HU := Lib.hid (HOP.out.stop _ rfl (.inl (by rw [HML.out]; exact hlt)))
      clear hlt
      go_wp2_with fail
      go_end0
      exact ⟨⟨_, rfl⟩, pre, HU.out.symm, HJP.out⟩
    · have hgeI : (12 : Int) ≤ (m : Int) := by omega
      have H12M := Lib.hid hlt
      have hfn : f < n := by have := HM.out; omega
      obtain ⟨b, o, rfl, hca⟩ := (show Rd wr a n (bs l) from HRD.out).at (by omega)
      have hpe := HPT.out b o rfl hfn
      subst hpe
      have HRR := Lib.hid (show RdB wr (some ⟨b, o + f, none⟩) m (l.drop f) by
        have h := HRD.out.mid f m (by have := HM.out; omega)
        rwa [List.take_of_length_le (by rw [HML.out]; exact Nat.le_refl _)] at h)
      have hcm : ∃ q, c - f = q ∧ m ≤ q := ⟨_, rfl, by have := HM.out; have := HNC.out; omega⟩
      obtain ⟨q, hq, hmq⟩ := hcm
      rw [hq] at c0
      have HQ := Lib.hid hq
      have HMQ := Lib.hid hmq
      have hs4 : (Instr.sliceAt 22 (.slice (some ⟨b, o + f, none⟩) m q) none (some (.int .i64 4)) none).run Try.prog wr = .ok (.slice (some ⟨b, o + f, none⟩) 4 q) wr := run_slice_hi (P := Try.prog) wr Try.underlying22 info_bsl_1 (some ⟨b, o + f, none⟩) m q .i64 4 (by omega)
      clear hfn hq hlt hca hmq
      have HN4 := Lib.hid (numS_bnd ((l.drop f).take 4) (by rw [List.length_take]; omega))
      have HR4 := Lib.hid (rdFront HRR.out 4 (by have := H12M.out; omega))
      go_wp2_with fail
      refine (numberOf_any _ 4 q _ _ (by decide) HR4.out).mono ?_
      rintro e1 w1 ⟨rfl, rfl⟩
      obtain ⟨N, hN⟩ : ∃ N, numS ((l.drop f).take 4) = N := ⟨_, rfl⟩
      rw [hN]
      have HNN := Lib.hid hN
      have hn32 : (N : Int) < 4294967296 := by have := HN4.out; omega
      clear hN hs4
      by_cases hbig : 16384 < N
      · have hbI : (16384 : Int) < (N : Int) := by omega
        have HU := Lib.hid (HOP.out.stop _ HNN.out (.inr (.inl hbig)))
        clear hbig
        go_wp2_with fail
        refine bodyPost_ret (results_none rfl _ _ _) rfl ?_
        exact ⟨⟨_, rfl⟩, pre, HU.out.symm, HJP.out⟩
      · have hbI : ¬ (16384 : Int) < (N : Int) := by omega
        have HNS := Lib.hid hbig
        have hmB : (m : Int) ≤ 2000000 := by have := HM.out; have := HN.out; omega
        clear hbig
        by_cases hfit : m < 12 + N
        · have hfI : (m : Int) - 4 - 8 < (N : Int) := by omega
          have HU := Lib.hid (HOP.out.stop _ HNN.out (.inr (.inr (.inl (by rw [HML.out]; exact hfit)))))
          clear hfit
          go_wp2_with fail
          refine bodyPost_ret (results_none rfl _ _ _) rfl ?_
          exact ⟨⟨_, rfl⟩, pre, HU.out.symm, HJP.out⟩
        · have hfI : decide ((m : Int) - 4 - 8 < (N : Int)) = false := by simp; omega
          have HFI := Lib.hid hfit
          clear hfit
          have hs5 : (Instr.sliceAt 22 (.slice (some ⟨b, o + f, none⟩) m q) (some (.int .i64 4)) (some (.int .u64 (4 + (N : Int)))) none).run Try.prog w1 = .ok (.slice (some ⟨b, o + f + 4, none⟩) (4 + N - 4) (q - 4)) w1 := by
            have h := run_slice_midU (P := Try.prog) w1 Try.underlying22 info_bsl_1 b (o + f) m q .i64 .u64 4 (4 + N) (by omega) (by have := HMQ.out; have := HFI.out; omega) (by have := HMQ.out; have := H12M.out; omega)
            simpa using h
          rw [show 4 + N - 4 = N by omega] at hs5
          go_wp2_with (with_reducible refine wl_stop (o := ⟨some 24, _, _, _, _, _⟩) ?_)
          have hfJ : ¬ (m : Int) - 4 - 8 < (N : Int) := by simpa using hfI
          clear hfI
          generalize (m : Int) - 4 - 8 = x at *
          unfold Stop
          have hd : decide ((16384 : Int) < (N : Int)) = false := by simpa using hbI
          simp only [hd]
          have hd2 : decide (x < (N : Int)) = false := by simpa using hfJ
          clear hfJ hmB hn32
          have HPR := Lib.hid (show PartIs w1 (.slice (some ⟨b, o + f + 4, none⟩) N (q - 4)) (((l.drop f).drop 4).take N) from ⟨_, N, q - 4, rfl, by have := HMQ.out; have := HFI.out; omega, by have := HNS.out; omega, by have h := HRR.out.mid 4 N (by have := HFI.out; omega); exact h, fun y hy => by cases hy; exact (HRR.out.at (by have := H12M.out; omega)).elim fun b' hb => by obtain ⟨o', e, hc⟩ := hb; cases e; have h2 := block_lt_of_cell (hc 0 (by have := H12M.out; omega)); exact h2⟩)
          go_wp2_with fail
          refine (sframe_any pre.length _ N (q - 4) _ _ (by have := H12.out; have := HF.out; have := HN.out; omega) HPR.out).mono ?_
          rintro e2 w2 ⟨vf, rfl, hof, hf2⟩
          obtain ⟨af, cf, rfl, hcf, hrf, -⟩ := hof.form
          rw [Nat.mul_one] at hrf
          have HRF := Lib.hid hrf
          have HF2 := Lib.hid hf2
          have HG2 := Lib.hid (HHG.out.keep hf2 id)
          have HR2 := Lib.hid (HRD.out.still hf2)
          have HP2 := Lib.hid (HPR.out.still hf2)
          have HJ2 := Lib.hid (HJ.out _ _ _ HJP.out (hf2.mono fun _ _ t => t.elim))
          have c1 := HG2.out.cell (i := 0) (v := .slice (some ⟨b, o + f, none⟩) (n - f) (c - f)) rfl
          rw [HM.out, HQ.out] at c1
          clear hof hf2 hrf c0 hs5
          go_upto_region 7 with fail
          refine wp_region_wide 2 ?_
          refine wlIn_v rfl (fun c h => by cases h) (by go_simp; with_reducible rfl) ?_
          try simp only [Act.put, List.setIfInBounds_toArray, List.set_cons_zero, List.set_cons_succ]
          refine wlIn_v rfl (fun c h => by cases h) (by go_simp; with_reducible rfl) ?_
          try simp only [Act.put, List.setIfInBounds_toArray, List.set_cons_zero, List.set_cons_succ]
          refine wlIn_op rfl (fun c h => by cases h) ?_
          go_simp
          refine (hasPre_any (some ⟨b, o + f, none⟩) m q (l.drop f) af (12 + N) cf _ w2 (HRR.out.still HF2.out) HRF.out HMQ.out (by have := HFI.out; omega) (by have := HM.out; have := HN.out; omega)).mono ?_
          rintro e3 w3 ⟨rfl, rfl⟩
          try simp only []
          have hsn := HY.out pre (.slice (some ⟨b, o + f + 4, none⟩) N (q - 4), ((l.drop f).drop 4).take N) w3 HJ2.out ⟨HP2.out, by rw [List.length_take]; have := HNS.out; omega, by rw [HFL.out, List.length_take, List.length_drop, HML.out]; have := HFI.out; have := HM.out; have := HL.out; omega, _, HG2.out⟩
          obtain ⟨fn, tmps, assign, body, hy, hR⟩ := hsn
          have HHY := Lib.hid hy
          have HRR2 := Lib.hid hR
          clear hy hR
          by_cases hpre : (l.drop f).take (12 + N) = frameB ckS pre.length (((l.drop f).drop 4).take N)
          · have HPE := Lib.hid hpre
            have hq1 : decide ((l.drop f).take (12 + N) = frameB ckS pre.length (((l.drop f).drop 4).take N)) = true := decide_eq_true hpre
            simp only [hq1]
            clear hq1 hpre
            refine wlIn_v rfl (fun c h => by cases h) (by go_simp; with_reducible rfl) ?_
            try simp only [Act.put, List.setIfInBounds_toArray, List.set_cons_zero, List.set_cons_succ]
            refine wlIn_v rfl (fun c h => by cases h) (by go_simp; with_reducible rfl) ?_
            try simp only [Act.put, List.setIfInBounds_toArray, List.set_cons_zero, List.set_cons_succ]
            refine wlIn_v rfl (fun c h => by cases h) (by go_simp; with_reducible rfl) ?_
            try simp only [Act.put, List.setIfInBounds_toArray, List.set_cons_zero, List.set_cons_succ]
            refine wlIn_v rfl (fun c h => by cases h) (by go_simp; with_reducible rfl) ?_
            try simp only [Act.put, List.setIfInBounds_toArray, List.set_cons_zero, List.set_cons_succ]
            refine wlIn_yield rfl (exec_yieldS (vs := [.slice (some ⟨b, o + f + 4, none⟩) N (q - 4)]) rfl rfl rfl HHY.out) HRR2.out ?_
            rintro e W3 ⟨rfl, hJ3, hK3⟩
            refine ⟨_, rfl, ?_⟩
            try simp only [Act.put, List.setIfInBounds_toArray, List.set_cons_zero, List.set_cons_succ]
            refine wlIn_v rfl (fun c h => by cases h) (by go_simp; with_reducible rfl) ?_
            try simp only [Act.put, List.setIfInBounds_toArray, List.set_cons_zero, List.set_cons_succ]
            refine wlIn_v rfl (fun c h => by cases h) (by go_simp; with_reducible rfl) ?_
            try simp only [Act.put, List.setIfInBounds_toArray, List.set_cons_zero, List.set_cons_succ]
            refine wpListIn_nil ?_
            have HG3 := Lib.hid (hK3.1 _ HG2.out)
            have HR3 := Lib.hid (hK3.2.1 HR2.out)
            have HS3 := Lib.hid (Nat.le_trans HSZ.out (Nat.le_trans HF2.out.size hK3.2.2))
            have HJ3 := Lib.hid hJ3
            clear hJ3 hK3 c1
            obtain ⟨v8, hv8, hpt8⟩ : ∃ v8, (Instr.sliceAt 22 (.slice (some ⟨b, o + f, none⟩) m q) (some (.int .i64 (12 + (N : Int)))) none none).run Try.prog W3 = .ok (.slice v8 (m - (12 + N)) (q - (12 + N))) W3 ∧ (12 + N < m → v8 = some ⟨b, o + (f + (12 + N)), none⟩) := by
              have h := run_slice_lo (P := Try.prog) W3 Try.underlying22 info_bsl_1 (some ⟨b, o + f, none⟩) m q .i64 (12 + N) (by have := HFI.out; omega)
              refine ⟨cutAt (some ⟨b, o + f, none⟩) (12 + N) q, by simpa using h, fun hlt => ?_⟩
              unfold cutAt
              rw [if_neg (by have := HMQ.out; omega)]
              simp [Addr.add, Nat.add_assoc]
            have HP8 := Lib.hid hpt8
            have HW8 := Lib.hid (HG3.out.put1 0 (.slice v8 (m - (12 + N)) (q - (12 + N))))
            have c3 := HG3.out.cell (i := 0) (v := .slice (some ⟨b, o + f, none⟩) (n - f) (c - f)) rfl
            rw [HM.out, HQ.out] at c3
            obtain ⟨u, cu, fu⟩ := HG3.out.ready (i := 0) (by simp)
            have HJ8 := Lib.hid (HJ.out _ _ _ HJ3.out HW8.out.2)
            have HR8 := Lib.hid (HR3.out.offHas HG3.out (by intro u hu y e; simp only [List.mem_cons, List.not_mem_nil, or_false] at hu; subst hu; cases e) HW8.out.2)
            have HOS := Lib.hid (HOP.out.step N HNN.out (by have := HNS.out; omega) (by rw [HML.out]; have := HFI.out; omega) (by rw [List.length_map]; exact HPE.out.symm))
            have hp1 : (pre.length : Int) + 1 < 9000000 := by have := H12.out; have := HF.out; have := HN.out; omega
            have hn9 : (N : Int) < 9000000 := by have := HNS.out; omega
            clear hpt8
            go_wp2_with fail
            go_roundw
            case rel =>
              refine ⟨pre ++ [(.slice (some ⟨b, o + f + 4, none⟩) N (q - 4), ((l.drop f).drop 4).take N)], f + (12 + N), v8, by simp, by have := HFI.out; have := HM.out; omega, by rw [List.length_append, List.length_singleton]; have := H12.out; omega, ?_, ?_, ?_, ?_, HR8.out, HJ8.out, ?_⟩
              · rw [List.map_append, ← List.drop_drop]
                exact HOS.out
              · rw [List.map_append]
                show (framesB ckS 0 (pre.map (·.2) ++ [((l.drop f).drop 4).take N])).length = _
                rw [framesB_snoc, List.length_append, HFL.out, Nat.zero_add, frameB_length, List.length_take, List.length_drop, HML.out]
                have := HFI.out
                omega
              · rw [show n - (f + (12 + N)) = m - (12 + N) by have := HM.out; omega, show c - (f + (12 + N)) = q - (12 + N) by have := HQ.out; omega]
                exact HW8.out.1
              · intro b' o' e hlt
                cases e
                exact HP8.out (by have := HM.out; omega)
              · simpa [World.setCell] using HS3.out
            case measure =>
              simp [intOf]
              have := HFI.out
              have := HM.out
              have := H12.out
              omega
          · have hq1 : decide ((l.drop f).take (12 + N) = frameB ckS pre.length (((l.drop f).drop 4).take N)) = false := decide_eq_false hpre
            have HU := Lib.hid (HOP.out.stop _ HNN.out (.inr (.inr (.inr (by rw [List.length_map]; exact fun e => hpre e.symm)))))
            simp only [hq1]
            clear hq1 hpre
            refine wlIn_v rfl (fun c h => by cases h) (by go_simp; with_reducible rfl) ?_
            try simp only [Act.put, List.setIfInBounds_toArray, List.set_cons_zero, List.set_cons_succ]
            refine wlIn_v rfl (fun c h => by cases h) (by go_simp; with_reducible rfl) ?_
            try simp only [Act.put, List.setIfInBounds_toArray, List.set_cons_zero, List.set_cons_succ]
            refine wlIn_skip rfl ?_
            try simp only [Act.put, List.setIfInBounds_toArray, List.set_cons_zero, List.set_cons_succ]
            refine wlIn_skip rfl ?_
            try simp only [Act.put, List.setIfInBounds_toArray, List.set_cons_zero, List.set_cons_succ]
            refine wlIn_skip rfl ?_
            try simp only [Act.put, List.setIfInBounds_toArray, List.set_cons_zero, List.set_cons_succ]
            refine wlIn_skip rfl ?_
            try simp only [Act.put, List.setIfInBounds_toArray, List.set_cons_zero, List.set_cons_succ]
            refine wlIn_v rfl (fun c h => by cases h) (by go_simp; with_reducible rfl) ?_
            try simp only [Act.put, List.setIfInBounds_toArray, List.set_cons_zero, List.set_cons_succ]
            refine wpListIn_nil ?_
            go_wp2_with fail
            refine bodyPost_ret (results_none rfl _ _ _) rfl ?_
            exact ⟨⟨_, rfl⟩, pre, HU.out.symm, HJ2.out⟩
end Go.Proofs.Ytdadnajbdnbbdaa

/- store: Open. -/
namespace Go.Mv
open Go.RowKit Mvp
/-- a store that holds these records -/
def SMf (recs : List (List UInt8)) (c : Nat → List UInt8 → List UInt8) : SM := ⟨framesB c 0 recs, none, false, recs⟩
theorem SMf.inv {recs : List (List UInt8)} {c : Nat → List UInt8 → List UInt8} (h : ∀ r ∈ recs, r.length ≤ 16384) : SInv c (SMf recs c) := ⟨h, [], by unfold SMf; rw [List.append_nil], .inl rfl⟩
theorem SMf.new (c : Nat → List UInt8 → List UInt8) : SMf [] c = SM.new := rfl
theorem SMf.disk (c : Nat → List UInt8 → List UInt8) (d : List UInt8) : SMf (unframe c d.length 0 d) c = SM.ofDisk c d := rfl
theorem SA.obj {TS TB TX : TypeId} {W : World} {base g lim : Nat} {s : SM} {v rv : Value} {k : Nat} {o o' : Obj} (hk : W.heap[k]? = some o) (ho : o.isCells = false) (h : SA TS TB TX W base g lim s v rv) : SA TS TB TX (W.putObj k o') base g lim s v rv :=
  ⟨h.low, h.has.obj hk ho, h.bytes.obj hk ho, h.exts.obj hk ho⟩
theorem StB.has {TS TB TX : TypeId} {W : World} {base g lim : Nat} {s : SM} {v rv : Value} (h : SA TS TB TX W base g lim s v rv) {k : Nat} (hk : StB g v rv k) : ∃ L T, Has W k L T := by
  have own : ∀ {T : TypeId} {sz n : Nat} {x : Value} {L : List Value}, Own W base T sz x n L → OwnB x k → ∃ L T, Has W k L T := by
    intro T sz n x L ho hx
    rcases ho.2 with ⟨rfl, -⟩ | ⟨g', o, cap, B, rfl, -, hh, -⟩
    · cases hx
    · have e : g' = k := by
        have e2 : some g' = some k := hx
        exact Option.some.inj e2
      exact ⟨B, T, e ▸ hh⟩
  rcases hk with rfl | hk | hk
  · exact ⟨_, _, h.has⟩
  · exact own h.bytes hk
  · exact own h.exts hk
theorem StB.keeps {TS TB TX : TypeId} {W W' : World} {base g lim : Nat} {s : SM} {v rv : Value} (h : SA TS TB TX W base g lim s v rv) (hf : Fr (StB g v rv) W W') (B : Nat) : KeepsFrom B W W' :=
  ⟨hf.size, fun k o _ hk ho => (hf.block k (Array.getElem?_eq_some_iff.1 hk).1 fun hs => by
    obtain ⟨L, T, lo, hi, h2, -⟩ := StB.has h hs
    rw [hk] at h2
    cases h2
    cases ho).trans hk⟩
theorem size_put (W : World) (k : Nat) (o' : Obj) : (W.putObj k o').heap.size = W.heap.size := by simp [World.putObj]
theorem Fr.objNew {w W : World} (h : Fr Nob w W) {k : Nat} (hk : w.heap.size ≤ k) (o' : Obj) : Fr Nob w (W.putObj k o') := h.new (Fr.obj W k o') hk
theorem StB.ne {TS TB TX T : TypeId} {W : World} {base g lim : Nat} {s : SM} {v rv : Value} (h : SA TS TB TX W base g lim s v rv) {gb : Nat} {L : List Value} (hg : Has W gb L T) (h1 : TS ≠ T) (h2 : TB ≠ T) (h3 : TX ≠ T) (k : Nat) (hk : StB g v rv k) : k ≠ gb := by
  rcases hk with rfl | hk | hk
  · intro e
    subst e
    obtain ⟨_, _, e1, _⟩ := hg
    obtain ⟨_, _, e2, _⟩ := h.has
    rw [e1] at e2
    cases e2
    exact h1 rfl
  · exact fun e => h.bytes.ne hg h2 (e ▸ hk)
  · exact fun e => h.exts.ne hg h3 (e ▸ hk)
end Go.Mv
namespace Go.Proofs.Ytdadnajbdnbbdaa
open Go.RowKit Go.Mv Mvp
theorem SMf_put (recs : List (List UInt8)) (c : Nat → List UInt8 → List UInt8) (b : List UInt8) : (SMf recs c).put c b = (SMf (recs ++ [b]) c, true) := by
  rw [put_none rfl]
  unfold SMf
  rw [framesB_snoc, Nat.zero_add]
theorem PartIs_obj {W : World} {k : Nat} {o o' : Obj} (hk : W.heap[k]? = some o) (ho : o.isCells = false) {v : Value} {l : List UInt8} (h : PartIs W v l) : PartIs (W.putObj k o') v l := by
  obtain ⟨a, n, c, h1, h2, h3, h4, h5⟩ := h
  exact ⟨a, n, c, h1, h2, h3, h4.obj hk ho, fun x hx => by rw [size_put]; exact h5 x hx⟩
/-- what a round of Open leaves -/
def OpR (w0 : World) (base g g6 gb lim B : Nat) (pre : List (Value × List UInt8)) (W : World) : Prop :=
  ∃ v rv, SAt1 W base g lim (SMf (pre.map (·.2)) ckS) v rv ∧ Has W g6 [.pointer (some ⟨g, 0, none⟩)] 45 ∧ Fr Nob w0 W ∧ (∀ k, StB g v rv k → k ≠ gb) ∧ SInv ckS (SMf (pre.map (·.2)) ckS) ∧ B ≤ W.heap.size
theorem no_outS {K : Act → World → Prop} {Q : Exit → Act → World → Prop} (h : ∀ a w, ¬ Q .outgrown a w) : ¬ LetsOut (Exit.then K Q) := by
  rintro ⟨a, w, k⟩
  exact h a w k
theorem z_stp : (Try.prog.info? 45).map (·.zero) = some (some (.pointer none)) := by kernel_rfl
attribute [local irreducible] permS permP toB turnsK squeeze permN spongeB feed frameL framesL tagL bigN bigJ numS frameB framesB ckS exC SM.put SM.add unframe OpenI
set_option maxRecDepth 100000 in
theorem frames_any (a : Option Addr) (n c : Nat) (w : World) : Calls Try.prog 38 #[.slice a n c] w fun e w' => ∃ g, e = .returned (.func (.func 42) #[] #[.pointer (some ⟨g, 0, none⟩)]) ∧ Has w' g [.slice a n c] 22 ∧ w.heap.size ≤ g ∧ Fr Nob w w' := by
  have st0 := St.start Nob w
  go_enter Try.func38, Try.ntmps38
  go_wp2_with (with_reducible refine wl_stop (o := ⟨some 1, _, _, _, _, _⟩) ?_)
  refine wl_box rfl rfl rfl [.slice a n c] rfl ?_
  intro w1 hh hf hz
  have HH := Lib.hid hh
  have HF := Lib.hid hf
  clear hh hf hz st0
  go_wp2_with fail
  go_ret
  exact ⟨_, rfl, HH.out, Nat.le_refl _, HF.out⟩
set_option maxHeartbeats 4000000 in
set_option maxRecDepth 1000000 in
theorem sOpen_ok (a : Option Addr) (n c : Nat) (l : List UInt8) (lim : Nat) (w : World) (hr : RdB w a n l) (hold : Old w a) (hnc : n ≤ c) (h1 : 64 ≤ lim) (h2 : lim ≤ 1048576) (hn : n ≤ lim) :
    Calls Try.prog 27 #[.slice a n c, .int .i64 (lim : Int)] w fun e w' => ∃ g v rv, e = .returned (.tuple #[.pointer (some ⟨g, 0, none⟩), .int .i64 0]) ∧ SAt1 w' w.heap.size g lim (SM.ofDisk ckS l) v rv ∧ Fr Nob w w' := by
  have HR := Lib.hid hr
  have HOLD := Lib.hid hold
  have HNC := Lib.hid hnc
  have H1 := Lib.hid h1
  have H2 := Lib.hid h2
  have HN := Lib.hid hn
  have hni : ¬ (lim : Int) < (n : Int) := by omega
  clear hr hold hnc h1 h2 hn
  refine (callsIn_wide (n := 3)).1 ?_
  refine callsIn_of_wp_marks Try.func27 rfl trivial ?_ rfl
  simp only [Try.ntmps27, List.size_toArray, List.length_cons, List.length_nil, Nat.reduceAdd, Nat.reduceSub, Array.replicate_succ, Array.replicate_zero, List.push_toArray, List.append_toArray, List.nil_append, List.cons_append]
  refine wpIn_wide.2 ?_
  go_wp2_with fail
  refine (sNew_ok lim w H1.out H2.out).mono ?_
  rintro e1 w1 ⟨g, rfl, hs1, hf1⟩
  have HS1 := Lib.hid hs1
  have HF1 := Lib.hid hf1
  clear hs1 hf1
  go_wp2_with (with_reducible refine wl_stop (o := ⟨some 6, _, _, _, _, _⟩) ?_)
  refine wl_allocS (St.start Nob w1) rfl rfl z_stp [.pointer none] rfl ?_
  intro g6 w2 st2
  simp only [List.nil_append] at st2
  have hp2 := (st2.at 0 rfl).put1 0 (.pointer (some ⟨g, 0, none⟩))
  obtain ⟨u, cu, fu⟩ := (st2.at 0 rfl).ready (i := 0) (by simp)
  have HP2 := Lib.hid hp2
  have HS2 := Lib.hid ((HS1.out.still st2.fr).keep hp2.2 fun k hk e => StB.ne (HS1.out.still st2.fr) (st2.at 0 rfl) (by decide) (by decide) (by decide) k hk e)
  have HF2 := Lib.hid ((HF1.out.then st2.fr).new hp2.2 (Nat.le_trans HF1.out.size ((st2.own _ List.mem_cons_self).resolve_right fun h => h.elim)))
  clear hp2 st2
  go_wp2_with fail
  refine (frames_any a n c _).mono ?_
  rintro e3 w3 ⟨gb, rfl, hgb, hgl, hf3⟩
  have HGB := Lib.hid hgb
  have HGL := Lib.hid (Nat.lt_of_lt_of_le HP2.out.1.lt hgl)
  have HS3 := Lib.hid (HS2.out.still hf3)
  have HF3 := Lib.hid (HF2.out.then hf3)
  have HG6 := Lib.hid (HP2.out.1.keep hf3 id)
  have HSB := Lib.hid (fun k (hk : StB g (.slice none 0 0) (.slice none 0 0) k) => StB.ne HS3.out hgb (by decide) (by decide) (by decide) k hk)
  have HGW := Lib.hid (Nat.le_trans HF2.out.size hgl)
  clear hgb hgl hf3 cu fu
  go_wp2_with fail
  refine wp_rangeG (gf := 42) (lb := #[.pointer (some ⟨gb, 0, none⟩)]) rfl (enters_of Try.func42 (by kernel_rfl) rfl) (frames_seq gb a n c l w3 HGB.out (HR.out.still HF3.out) HNC.out (by have := HN.out; have := H2.out; omega)) (fun k e => by have e2 : k = gb := e; subst e2; exact HGB.out.lt) (fun h k => h.trans k) (fun W k o o' _ hk ho => ⟨fun L h => h.obj hk ho, fun h => h.obj hk ho, by rw [size_put]; exact Nat.le_refl _⟩)
    (OpR w w.heap.size g g6 gb lim w3.heap.size) ?_ ?_ ?_ (fun x => { tmps := #[.slice a n c, .int .i64 (lim : Int), undef, undef, .pointer none, .int .i64 0, .pointer (some ⟨g6, 0, none⟩), .int .i64 0, x.1, .tuple #[.pointer (some ⟨g, 0, none⟩), .int .i64 0], .int .i64 (lim : Int), .tuple #[.pointer (some ⟨g, 0, none⟩), .int .i64 0], .pointer (some ⟨g, 0, none⟩), .int .i64 0, .bool false, .int .i64 0, .bool false, undef, .bool false, .slice a n c, .int .i64 (n : Int), .int .i64 (lim : Int), .bool false, .slice a n c, .func (.func 42) #[] #[.pointer (some ⟨gb, 0, none⟩)], x.1, undef, undef, undef, undef], defers := [] }) ?_ ?_ ?_ ?_
  · rintro pre A B ⟨v, rv, q1, q2, q3, q4, q5, q6⟩ hf
    exact ⟨v, rv, q1.keep hf q4, q2.keep hf fun e => by have e2 : g6 = gb := e; have := HGL.out; omega, q3.new hf HGW.out, q4, q5, Nat.le_trans q6 hf.size⟩
  · rintro pre W k o o' hk hk2 ho ⟨v, rv, q1, q2, q3, q4, q5, q6⟩
    exact ⟨v, rv, q1.obj hk2 ho, q2.obj hk2 ho, q3.objNew (Nat.le_trans HF3.out.size hk) o', q4, q5, by rw [size_put]; exact q6⟩
  · exact ⟨_, _, (by show SAt1 _ _ _ _ (SMf [] ckS) _ _; rw [SMf.new]; exact HS3.out), HG6.out, HF3.out, HSB.out, SMf.inv (by simp), Nat.le_refl _⟩
  · intro l0 x W K hK
    refine regionIn_of (no_outS fun _ _ h => h) rfl ?_
    simp only [List.setIfInBounds_toArray, List.set_cons_zero, List.set_cons_succ]
    have HK := Lib.hid hK
    clear hK
    go_wp2_with fail
    exact HK.out
  · rintro l0 pre ⟨x1, x2⟩ W hl ⟨v, rv, q1, q2, q3, q4, q5, q6⟩ ⟨hp1, hp2, hp3, L, hgL⟩
    obtain ⟨ax, nx, cx, hx1, hx2, hx3, hx4, hx5⟩ := hp1
    subst hx1
    have hlx := hx4.len
    have HPX := Lib.hid (show PartIs W (.slice ax nx cx) x2 from ⟨ax, nx, cx, rfl, hx2, hx3, hx4, hx5⟩)
    have HSS := Lib.hid q1
    have HFW := Lib.hid q3
    have HNE := Lib.hid q4
    have HIV := Lib.hid q5
    have HSZ := Lib.hid q6
    have HB := Lib.hid hp3
    have HX2 := Lib.hid hp2
    have HGBL := Lib.hid hgL
    have HG6 := Lib.hid q2
    have c6 := q2.cell (i := 0) (v := .pointer (some ⟨g, 0, none⟩)) rfl
    have HLL := Lib.hid (show l.length ≤ 1048576 by have := HR.out.len; have := HN.out; have := H2.out; omega)
    clear q1 q2 q3 q4 q5 q6 hp2 hp3 hgL hx2 hx3 hx4 hx5 hlx
    refine wpIn_block ?_
    refine regionIn_of (by rintro ⟨_, _, k⟩; exact k) rfl ?_
    go_wp2_with fail
    refine (sput_any g w.heap.size lim (SMf (pre.map (·.2)) ckS) v rv ax nx cx x2 W HSS.out HPX.out rfl HIV.out (by show (framesB ckS 0 _).length ≤ _; have := HB.out; have := HLL.out; omega) (by show (-1 : Int) < _; decide)).mono ?_
    rintro e4 W4 ⟨v', rv', rfl, hs4, hf4⟩
    rw [SMf_put] at hs4
    have HS4 := Lib.hid hs4
    have HF4 := Lib.hid hf4
    clear hs4 hf4 c6
    go_wp2_with fail
    have hgb4 := HGBL.out.keep HF4.out fun hk => HNE.out gb hk rfl
    refine ⟨StB.keeps HSS.out HF4.out _, ⟨fun L h => h.keep HF4.out fun hk => HNE.out gb hk rfl, fun h => h.keep HF4.out fun x hx hk => ?_, HF4.out.size⟩, ⟨v', rv', ?_, HG6.out.keep HF4.out ?_, HFW.out.stb HSS.out (Nat.le_refl _) HF4.out, fun k hk => ?_, ?_, Nat.le_trans HSZ.out HF4.out.size⟩⟩
    · have h1 := HOLD.out x hx
      have h2 := (HSS.out.lt hk).1
      omega
    · rw [List.map_append]; exact HS4.out
    · intro hk
      exact StB.ne HSS.out HG6.out (by decide) (by decide) (by decide) g6 hk rfl
    · exact StB.ne HS4.out hgb4 (by decide) (by decide) (by decide) k hk
    · rw [List.map_append]
      exact SMf.inv fun r hr => (List.mem_append.1 hr).elim (fun h => HIV.out.1 r h) fun h => by rw [List.mem_singleton.1 h]; exact HX2.out
  · rintro pre x W k o o' ⟨hp1, hp2, hp3, L, hgL⟩ hk hk2 ho
    exact ⟨PartIs_obj hk2 ho hp1, hp2, hp3, L, hgL.obj hk2 ho⟩
  · rintro D xs W hD hS ⟨v, rv, q1, q2, q3, q4, q5, q6⟩ hdef
    have HS := Lib.hid hS
    have HQ1 := Lib.hid q1
    have HFW := Lib.hid q3
    have HDD := Lib.hid hdef
    have HDL := Lib.hid hD
    have c6 := q2.cell (i := 0) (v := .pointer (some ⟨g, 0, none⟩)) rfl
    clear q1 q2 q3 q4 q5 q6 hS hdef hD
    go_wp2_with fail
    refine ⟨by simp, .inl ⟨_, _, rfl, run_takeDeferred HDD.out, ?_⟩⟩
    refine ⟨_, results_tmp2 rfl _ _ _, g, v, rv, rfl, ?_, HFW.out.objNew (Nat.le_trans HF3.out.size HDL.out) _⟩
    rw [← SMf.disk, ← HS.out]
    exact HQ1.out.obj HDD.out rfl
end Go.Proofs.Ytdadnajbdnbbdaa

/- StoreTrue: the law's walk. -/
namespace Go.Proofs.Ytdadnajbdnbbdaa
open Go.RowKit Go.Mv Mvp
attribute [local irreducible] permS permP toB turnsK squeeze permN spongeB feed frameL framesL tagL bigN bigJ numS frameB framesB ckS exC SM.put SM.add unframe OpenI
theorem SInv_new : SInv ckS SM.new := SInv.new ckS
theorem add_a : (SM.new.add ckS 64 [97]).2 = 0 ∧ (SM.new.add ckS 64 [97]).1.recs = [[97]] := by
  have h : (SM.new.add ckS 64 [97]).2 = 0 := by rw [add_ok rfl (by decide) (by decide), put_none rfl]; rfl
  refine ⟨h, ?_⟩
  rw [SM.add_recs, h]
  rfl
theorem add_bnd (s : SM) (lim : Nat) (b : List UInt8) (h : s.d.length ≤ lim) : (s.add ckS lim b).1.d.length ≤ lim := SM.add_lim ckS_len h b
theorem add_left (s : SM) (lim : Nat) (b : List UInt8) (h : lftI s < 9223372036854775808) : lftI (s.add ckS lim b).1 < 9223372036854775808 := by
  cases ho : s.off with
  | true => rw [add_off ho]; exact h
  | false =>
    by_cases h1 : 16384 < b.length
    · rw [add_long ho h1]; exact h
    · by_cases h2 : lim < s.d.length + 12 + b.length
      · rw [add_full ho h1 h2]; exact h
      · rw [add_ok ho h1 h2]
        cases hl : s.left with
        | none => rw [put_none hl]; unfold lftI; simp [hl]
        | some k =>
          rw [lftI_some hl] at h
          by_cases hk : k < (frameB ckS s.recs.length b).length
          · rw [put_short hl b hk]
            have e : lftI ({ s with d := s.d ++ (frameB ckS s.recs.length b).take k, off := true } : SM) = (k : Int) := lftI_some hl
            rw [e]; exact h
          · rw [put_some hl b hk]
            show ((k - (frameB ckS s.recs.length b).length : Nat) : Int) < _
            omega
theorem adds_lim (lim : Nat) : ∀ (l : List (List UInt8)) (s : SM), s.d.length ≤ lim → (s.adds ckS lim l).1.d.length ≤ lim
  | [], _, h => h
  | b :: l, s, h => adds_lim lim l _ (add_bnd s lim b h)
theorem adds_left (lim : Nat) : ∀ (l : List (List UInt8)) (s : SM), lftI s < 9223372036854775808 → lftI (s.adds ckS lim l).1 < 9223372036854775808
  | [], _, h => h
  | b :: l, s, h => adds_left lim l _ (add_left s lim b h)
theorem own_old {w : World} {base : Nat} {T : TypeId} {sz : Nat} {a : Option Addr} {n c : Nat} {L : List Value} (h : Go.Mv.Own w base T sz (.slice a n c) n L) : Old w a := by
  intro x hx
  subst hx
  exact (h.lt (k := x.block) rfl).2
theorem own_partS {w : World} {base : Nat} {a : Option Addr} {n c : Nat} {l : List UInt8} (h : Go.Mv.Own w base 5 1 (.slice a n c) n (bs l)) (hn : n ≤ 1000000) : PartIs w (.slice a n c) l := by
  obtain ⟨a2, c2, e, hc, hr, -⟩ := h.form
  cases e
  rw [Nat.mul_one] at hr
  exact ⟨a, n, c, rfl, hc, hn, hr, own_old h⟩
theorem sumL_succ (ls : List (List UInt8)) (j : Nat) (hj : j < ls.length) : sumL (ls.take (j + 1)) = sumL (ls.take j) + (ls.getD j []).length := by
  rw [List.take_succ_eq_append_getElem hj, sumL_append, sumL_one]
  simp [List.getD_eq_getElem?_getD, hj]
theorem sumL_sum (ls : List (List UInt8)) : (ls.map List.length).sum = sumL ls := rfl
theorem ss_snocS (l : List (List UInt8)) (x : List UInt8) : ss l ++ [.string (mkS x)] = ss (l ++ [x]) := by simp [ss]
theorem sa_offO {TS TB TX T : TypeId} {W W' : World} {base base' g lim sz n : Nat} {s : SM} {v rv x : Value} {L : List Value} (h : SA TS TB TX W base g lim s v rv) (ho : Go.Mv.Own W base' T sz x n L) (h1 : TS ≠ T) (h2 : TB ≠ T) (h3 : TX ≠ T) (hf : Fr (OwnB x) W W') : SA TS TB TX W' base g lim s v rv :=
  h.keep hf fun k hk hx => by
    rcases hk with rfl | hk | hk
    · exact ho.ne h.has (fun e => h1 e.symm) hx
    · exact h.bytes.ne2 ho h2 k hk hx
    · exact h.exts.ne2 ho h3 k hk hx
theorem own_offS {TS TB TX T : TypeId} {W W' : World} {base base' g lim sz n : Nat} {s : SM} {v rv x : Value} {L : List Value} (h : SA TS TB TX W base g lim s v rv) (ho : Go.Mv.Own W base' T sz x n L) (h1 : TS ≠ T) (h2 : TB ≠ T) (h3 : TX ≠ T) (hf : Fr (StB g v rv) W W') : Go.Mv.Own W' base' T sz x n L :=
  ho.keep hf fun k hx hk => by
    rcases hk with rfl | hk | hk
    · exact ho.ne h.has (fun e => h1 e.symm) hx
    · exact h.bytes.ne2 ho h2 k hk hx
    · exact h.exts.ne2 ho h3 k hk hx
theorem info_strS : (Try.prog.info? 9).map (fun i => (i.zero, i.size, i.bytes)) = some (some (.string ⟨#[]⟩), 1, 16) := by kernel_rfl
theorem a_eq : (⟨#[97]⟩ : ByteArray) = mkS [97] := rfl
set_option maxHeartbeats 4000000 in
set_option maxRecDepth 1000000 in
theorem law_StoreTrue (p : Option Addr) (c : Nat) (ls : List (List UInt8)) (n : Int) (more : ByteArray) (w : World) (hx : ∀ x ∈ ls, x.length ≤ 140737488351232) (hm : ls.length ≤ 9223372036854775807) (hb : Rd w p ls.length (ss ls)) (hn : -9223372036854775808 ≤ n ∧ n ≤ 9223372036854775807) (hs : more.size ≤ 140737488351232) :
    Calls Try.prog 5 #[.slice p ls.length c, .int .i64 n, .string more] w fun e w' => e = .returned (.bool true) ∧ Fr Nob w w' := by
  have HX := Lib.hid hx
  have HM := Lib.hid hm
  have HB := Lib.hid hb
  have HN := Lib.hid hn
  have HS := Lib.hid hs
  have hsI : (more.size : Int) ≤ 140737488351232 := by omega
  have hmI : (ls.length : Int) ≤ 9223372036854775807 := by omega
  clear hx hm hb hn hs
  go_enter Try.func5, Try.ntmps5
  go_wp2_with fail
  refine (sNew_ok 64 w (by decide) (by decide)).mono ?_
  rintro e1 w1 ⟨gz, rfl, hs1, hf1⟩
  have HZ1 := Lib.hid hs1
  have HF1 := Lib.hid hf1
  clear hs1 hf1
  go_wp2_with (with_reducible refine wl_stop (o := ⟨some 34, _, _, _, _, _⟩) ?_)
  refine wl_slit rfl rfl Try.underlying22 info_u8 [.int .u8 97] rfl (by intro u hu; simp only [List.mem_singleton] at hu; subst hu; rfl) rfl rfl ?_
  intro w2 hh2 hf2 hz2
  try simp only [Act.put, List.setIfInBounds_toArray, List.set_cons_zero, List.set_cons_succ]
  refine wl_conv_same rfl rfl Try.underlying22 Try.underlying5 rfl hh2 ?_
  intro w3 hh3 hf3 hz3
  have hpa : PartIs w3 (.slice (some ⟨w1.heap.size, 0, none⟩) 1 1) [97] := ⟨_, 1, 1, rfl, Nat.le_refl _, by omega, (show Rd w3 _ 1 (bs [97]) from Rd.whole hh3), fun x hx => by cases hx; exact hh3.lt⟩
  have HPA := Lib.hid hpa
  have HZ3 := Lib.hid ((HZ1.out.still hf2).keep hf3 fun k hk e => by have e2 : k = w1.heap.size := e; have := (HZ1.out.lt hk).2; omega)
  have HF3 := Lib.hid ((HF1.out.then hf2).new hf3 HF1.out.size)
  clear hh2 hf2 hz2 hh3 hf3 hz3 hpa
  generalize w1.heap.size = ga at *
  go_wp2_with fail
  refine (sAdd_any gz w.heap.size 64 SM.new _ _ _ 1 1 [97] w3 HZ3.out HPA.out SInv_new (by decide) (by decide) (by decide)).mono ?_
  rintro e4 w4 ⟨rfl, vz, rz, hs4, hf4⟩
  rw [add_a.1]
  have HZ4 := Lib.hid hs4
  have HF4 := Lib.hid (HF3.out.stb HZ3.out (Nat.le_refl _) hf4)
  clear hs4 hf4 HPA
  go_wp2_with fail
  refine (sRecord_ok gz w.heap.size 64 _ vz rz 0 [97] w4 HZ4.out (SInv_new.add ckS_len _ _) (by rw [add_a.2]; rfl) (Nat.le_trans (add_bnd _ _ _ (by decide)) (by decide))).mono ?_
  rintro e5 w5 ⟨v5, rfl, ho5, hf5⟩
  obtain ⟨a5, c5, rfl, -, hr5, -⟩ := ho5.form
  have hcv := run_string (P := Try.prog) (show RdB w5 a5 1 [97] from hr5) c5 Try.underlying22 Try.underlying5 Try.underlying9
  rw [← a_eq] at hcv
  have HZ5 := Lib.hid (HZ4.out.still hf5)
  have HF5 := Lib.hid (HF4.out.then hf5)
  clear ho5 hf5 hr5
  go_wp2_with fail
  refine (sLen_any gz w.heap.size 64 _ vz rz w5 HZ5.out).mono ?_
  rintro e6 w6 ⟨rfl, rfl⟩
  rw [add_a.2]
  clear hcv HZ5 HZ4 HZ3 HZ1 HF1 HF3 HF4
  have hlz : (([[97]] : List (List UInt8)).length : Int) = 1 := rfl
  rw [hlz]
  clear hlz
  go_wp2_with fail
  go_loopw [13, 12] (fun i t wr => ∃ (j : Nat) (x : Int), j ≤ ls.length ∧ i = .int .i64 (j : Int) ∧ t = .int .i64 x ∧ (ls.length ≤ 64 → x = (more.size : Int) + (sumL (ls.take j) : Int)) ∧ wr = w6) (fun i _ _ => ls.length - (intOf i).toNat)
  case atStart => exact ⟨0, _, Nat.zero_le _, rfl, rfl, fun _ => by simp [sumL], rfl⟩
  case round =>
    obtain ⟨j, x, hj, rfl, rfl, hxs, rfl⟩ := hrel
    have HXS := Lib.hid hxs
    have HJ := Lib.hid hj
    clear hxs
    by_cases hlt : j < ls.length
    · have hltI : (j : Int) < (ls.length : Int) := by omega
      have HLT := Lib.hid hlt
      obtain ⟨b, o, rfl, hat⟩ := (HB.out.still HF5.out).at (by omega)
      have hc : wr.cell? ⟨b, o + j, none⟩ = some (.string (mkS (ls.getD j []))) := hat j _ (ss_get ls j hlt)
      have HQL := Lib.hid (show ((mkS (ls.getD j [])).size : Int) = ((ls.getD j []).length : Int) by rw [mkS_size])
      generalize mkS (ls.getD j []) = q at *
      clear hat hj hlt
      go_wp2_with fail
      go_roundw
      case rel =>
        refine ⟨j + 1, _, by have := HLT.out; omega, by go_num, rfl, fun h64 => ?_, trivial⟩
        have e1 := HXS.out h64
        have e2 := sumL_succ ls j HLT.out
        have e3 := HQL.out
        have e4 : sumL (ls.take j) ≤ (ls.take j).length * 140737488351232 := sumL_le2 _ _ fun y hy => HX.out y (List.mem_of_mem_take hy)
        have e5 : (ls.take j).length ≤ 64 := by rw [List.length_take]; omega
        have e6 : (ls.getD j []).length ≤ 140737488351232 := HX.out _ (by rw [List.getD_eq_getElem?_getD, List.getElem?_eq_getElem HLT.out]; exact List.getElem_mem _)
        have e7 := HS.out
        have e8 : (ls.take j).length * 140737488351232 ≤ 64 * 140737488351232 := Nat.mul_le_mul_right _ e5
        rw [IntWalk.wrap64_in _ (by omega)]
        omega
      case measure => have := HLT.out; simp [intOf]; omega
    · have hge : ¬ ((j : Int) < (ls.length : Int)) := by omega
      have hjl : ls.take j = ls := List.take_of_length_le (by omega)
      have HJL := Lib.hid hjl
      clear hjl hlt hj
      by_cases h64 : 64 < ls.length
      · have h64I : (64 : Int) < (ls.length : Int) := by omega
        clear h64
        by_cases hx6 : 65536 < x
        · go_wp2_with fail
          go_ret
          exact ⟨rfl, HF5.out⟩
        · go_wp2_with fail
          go_ret
          exact ⟨rfl, HF5.out⟩
      · have h64I : decide ((64 : Int) < (ls.length : Int)) = false := by simp; omega
        have hxe : x = (more.size : Int) + (sumL ls : Int) := by have h := HXS.out (by omega); rwa [HJL.out] at h
        have H64 := Lib.hid h64
        have HXE := Lib.hid hxe
        clear h64 hxe HXS
        by_cases hx6 : 65536 < x
        · clear h64I
          go_wp2_with fail
          go_ret
          exact ⟨rfl, HF5.out⟩
        · have hx6I : decide (65536 < x) = false := by simp; omega
          have HX6 := Lib.hid hx6
          clear hx6
          by_cases hms : 16384 < more.size
          · have hmsI : (16384 : Int) < (more.size : Int) := by omega
            clear hms
            go_wp2_with fail
            go_ret
            exact ⟨rfl, HF5.out⟩
          · have hmsI : decide ((16384 : Int) < (more.size : Int)) = false := by simp; omega
            have HMS := Lib.hid hms
            clear hms
            obtain ⟨M, hM⟩ : ∃ M, more.data.toList = M := ⟨_, rfl⟩
            have HML := Lib.hid (show M.length = more.size by rw [← hM]; simp)
            have HMM := Lib.hid hM
            clear hM
            go_wp2_with fail
            refine (sNew_ok 1048576 _ (by decide) (by decide)).mono ?_
            rintro e7 w7 ⟨gs, rfl, hs7, hf7⟩
            have HS7 := Lib.hid (hs7.mono HF5.out.size)
            have HF7 := Lib.hid (HF5.out.then hf7)
            clear hs7 hf7 hmsI hx6I h64I hsI
            go_wp2_with fail
            refine (sArm_any gs w.heap.size 1048576 SM.new _ _ n w7 HS7.out).mono ?_
            rintro e8 w8 ⟨rfl, hs8, hf8⟩
            have HS8 := Lib.hid hs8
            have HF8 := Lib.hid (HF7.out.stb HS7.out (Nat.le_refl _) hf8)
            clear hs8 hf8
            go_wp2_with fail
            obtain ⟨s0, hs0⟩ : ∃ s0, SM.new.arm n = s0 := ⟨_, rfl⟩
            rw [hs0] at HS8
            have HI0 := Lib.hid (show SInv ckS s0 from hs0 ▸ (SInv.new ckS).arm n)
            have HL0 := Lib.hid (show lftI s0 < 9223372036854775808 from hs0 ▸ arm_lt (by have := HN.out; omega))
            have HD0 := Lib.hid (show s0.d.length ≤ 1048576 from hs0 ▸ (by show (0 : Nat) ≤ _; omega))
            have H00 := Lib.hid hs0
            clear hs0
            have hz64 : (ls.length : Int) ≤ 64 := by have := H64.out; omega
            clear hmI
            go_loopw [16, 15] (fun i kv wr => ∃ (j : Nat) (v rv : Value), j ≤ ls.length ∧ i = .int .i64 (j : Int) ∧ SAt1 wr w.heap.size gs 1048576 (s0.adds ckS 1048576 (ls.take j)).1 v rv ∧ Go.Mv.Own wr w.heap.size 9 1 kv (s0.adds ckS 1048576 (ls.take j)).2.length (ss (s0.adds ckS 1048576 (ls.take j)).2) ∧ Fr Nob w wr) (fun i _ _ => ls.length - (intOf i).toNat)
            case atStart => exact ⟨0, _, _, Nat.zero_le _, rfl, HS8.out, Go.Mv.Own.nil _ _ _ _, HF8.out⟩
            case round =>
              obtain ⟨j, v, rv, hj, rfl, hsa, hok, hfr⟩ := hrel
              obtain ⟨SJ, hSJ⟩ : ∃ SJ, s0.adds ckS 1048576 (ls.take j) = SJ := ⟨_, rfl⟩
              rw [hSJ] at hsa hok
              have HSA := Lib.hid hsa
              have HOK := Lib.hid hok
              have HFR := Lib.hid hfr
              have HJ := Lib.hid hj
              obtain ⟨ak, ck, rfl, hck, -, -⟩ := hok.form
              have HKL := Lib.hid (show SJ.2.length ≤ 64 by
                rw [← hSJ]
                have h1 := (SM.adds_sub ckS 1048576 (ls.take j) s0).length_le
                have h2 : (ls.take j).length ≤ ls.length := by rw [List.length_take]; omega
                omega)
              clear hsa hok hfr hck
              by_cases hlt : j < ls.length
              · have hltI : (j : Int) < (ls.length : Int) := by omega
                have HLT := Lib.hid hlt
                obtain ⟨b, o, rfl, hat⟩ := (HB.out.still HFR.out).at (by omega)
                have hc : wr.cell? ⟨b, o + j, none⟩ = some (.string (mkS (ls.getD j []))) := hat j _ (ss_get ls j hlt)
                have HAT := Lib.hid hat
                have HTK := Lib.hid (show ls.take (j + 1) = ls.take j ++ [ls.getD j []] by
                  rw [List.take_succ_eq_append_getElem hlt]
                  simp [List.getD_eq_getElem?_getD, hlt])
                have HBL := Lib.hid (show (ls.getD j []).length ≤ 65536 by
                  have h1 := sumL_get ls j hlt
                  have h2 := HXE.out
                  have h3 := HX6.out
                  omega)
                obtain ⟨B, hB⟩ : ∃ B, ls.getD j [] = B := ⟨_, rfl⟩
                rw [hB] at hc
                have HBB := Lib.hid hB
                have HQD := Lib.hid (mkS_toList B)
                have HQS := Lib.hid (mkS_size B)
                generalize hq : mkS B = q at *
                have HQE := Lib.hid hq
                clear hq
                clear hat hj hlt hB
                go_wp2_with (with_reducible refine wl_stop (o := ⟨some 109, _, _, _, _, _⟩) ?_)
                refine wl_bytes rfl rfl Try.underlying9 Try.underlying22 Try.underlying5 rfl (by have h1 := HQS.out; have h2 := HBL.out; rw [HBB.out] at h2; unfold maxLen; omega) wr.heap.size (Nat.le_refl _) ?_
                intro cb w9 ho9 hf9 hz9
                rw [HQD.out] at ho9
                have HPA := Lib.hid (own_partS ho9 (by have h1 := HQS.out; have h2 := HBL.out; rw [HBB.out] at h2; omega))
                have HSA9 := Lib.hid (HSA.out.still hf9)
                have HOK9 := Lib.hid (HOK.out.still hf9)
                have HFR9 := Lib.hid (HFR.out.then hf9)
                clear ho9 hf9 hz9 hc
                generalize wr.heap.size = g9 at *
                have HNX := Lib.hid (SM.adds_snoc ckS 1048576 B (ls.take j) s0)
                have HDS := Lib.hid (adds_lim 1048576 (ls.take j) s0 HD0.out)
                have HLS := Lib.hid (adds_left 1048576 (ls.take j) s0 HL0.out)
                have HIS := Lib.hid (SInv.adds ckS_len 1048576 (ls.take j) HI0.out)
                rw [hSJ] at HNX HDS HLS HIS
                have HSJ := Lib.hid hSJ
                clear hSJ
                have hk64 : (SJ.2.length : Int) ≤ 64 := by have := HKL.out; omega
                go_wp2_with fail
                refine (sAdd_any gs w.heap.size 1048576 SJ.1 _ _ _ q.size cb B w9 HSA9.out HPA.out HIS.out (by have := HDS.out; omega) (by decide) HLS.out).mono ?_
                rintro e10 w10 ⟨rfl, v', rv', hs10, hf10⟩
                have HSA10 := Lib.hid hs10
                have HOK10 := Lib.hid (own_offS HSA9.out HOK9.out (by decide) (by decide) (by decide) hf10)
                have HFR10 := Lib.hid (HFR9.out.stb HSA9.out (Nat.le_refl _) hf10)
                clear hs10 hf10 HPA HSA9 HOK9 HSA HOK
                by_cases h0 : (SJ.1.add ckS 1048576 B).2 = 0
                · have HK0 := Lib.hid (show SJ.2 ++ [B] = (s0.adds ckS 1048576 (ls.take j ++ [B])).2 by rw [HNX.out.2, if_pos h0])
                  have HS0 := Lib.hid (show (SJ.1.add ckS 1048576 B).1 = (s0.adds ckS 1048576 (ls.take j ++ [B])).1 from HNX.out.1.symm)
                  rw [h0]
                  have hc2 : w10.cell? ⟨b, o + j, none⟩ = some (.string q) := by
                    obtain ⟨b', o', he, hat2⟩ := (HB.out.still HFR10.out).at (by have := HLT.out; omega)
                    cases he
                    have h := hat2 j _ (ss_get ls j HLT.out)
                    rwa [HBB.out, HQE.out] at h
                  have hj1 : (j : Int) < (ls.length : Int) := by have := HLT.out; omega
                  clear h0
                  go_wp2_with (with_reducible refine wl_stop (o := ⟨some 118, _, _, _, _, _⟩) ?_)
                  refine wl_slit rfl rfl Try.underlying56 info_strS [.string q] rfl (by intro u hu; simp only [List.mem_singleton] at hu; subst hu; rfl) rfl rfl ?_
                  intro w11 hh11 hf11 hz11
                  try simp only [Act.put, List.setIfInBounds_toArray, List.set_cons_zero, List.set_cons_succ]
                  refine wl_append rfl rfl Try.underlying56 info_strS rfl (by decide) (HOK10.out.still hf11) rfl (news := [.string q]) rfl (by simpa using Rd.whole hh11) (by intro u hu; simp only [List.mem_singleton] at hu; subst hu; rfl) (by unfold maxLen; have := HKL.out; omega) (by have := HKL.out; omega) (Nat.le_trans HSA10.out.size hf11.size) ?_
                  intro v12 w12 ho12 hf12 hb12
                  have HSA12 := Lib.hid (sa_offO (HSA10.out.still hf11) (HOK10.out.still hf11) (by decide) (by decide) (by decide) hf12)
                  have HFR12 := Lib.hid ((HOK10.out.still hf11).fr (HFR10.out.then hf11) (Nat.le_refl _) hf12)
                  rw [← HQE.out, ss_snocS] at ho12
                  have HOK12 := Lib.hid ho12
                  clear hh11 hf11 hz11 ho12 hf12 hb12 hc2 HOK10 HSA10
                  go_wp2_with fail
                  go_roundw
                  case rel =>
                    refine ⟨j + 1, v', rv', by have := HLT.out; omega, by go_num, ?_, ?_, HFR12.out⟩
                    · rw [HTK.out, HBB.out, ← HS0.out]; exact HSA12.out
                    · rw [HTK.out, HBB.out, ← HK0.out, List.length_append]; exact HOK12.out
                  case measure => have := HLT.out; simp [intOf]; omega
                · have HK0 := Lib.hid (show SJ.2 = (s0.adds ckS 1048576 (ls.take j ++ [B])).2 by rw [HNX.out.2, if_neg h0, List.append_nil])
                  have HS0 := Lib.hid (show (SJ.1.add ckS 1048576 B).1 = (s0.adds ckS 1048576 (ls.take j ++ [B])).1 from HNX.out.1.symm)
                  have hj1 : (j : Int) < (ls.length : Int) := by have := HLT.out; omega
                  have hne : (((SJ.1.add ckS 1048576 B).2 : Int) == 0) = false := by simp; omega
                  generalize (SJ.1.add ckS 1048576 B).2 = e2 at *
                  have hne2 : (e2 == 0) = false := by simpa using h0
                  clear h0
                  go_wp2_with fail
                  go_roundw
                  case rel =>
                    refine ⟨j + 1, v', rv', by have := HLT.out; omega, by go_num, ?_, ?_, HFR10.out⟩
                    · rw [HTK.out, HBB.out, ← HS0.out]; exact HSA10.out
                    · rw [HTK.out, HBB.out, ← HK0.out]; exact HOK10.out
                  case measure => have := HLT.out; simp [intOf]; omega
              · have hge : ¬ ((j : Int) < (ls.length : Int)) := by omega
                have hjl2 : ls.take j = ls := List.take_of_length_le (by omega)
                rw [hjl2] at hSJ
                have hst := store_true ckS_len ls n M (by
                  have h1 := HXE.out
                  have h2 := HX6.out
                  have h3 := HML.out
                  have h4 := sumL_sum ls
                  omega) (by have := H64.out; omega) (by have h1 := HML.out; have h2 := HMS.out; omega) SJ.1 SJ.2 (by rw [H00.out, hSJ])
                obtain ⟨S, K⟩ := SJ
                obtain ⟨t1, t2, t3, t4, t5, t6⟩ := hst
                dsimp only at t1 t2 t3 t4 t5 t6 HSA HOK HKL
                have T1 := Lib.hid t1
                have T2 := Lib.hid t2
                have T3 := Lib.hid t3
                have T4 := Lib.hid t4
                have T5 := Lib.hid t5
                have T6 := Lib.hid t6
                clear t1 t2 t3 t4 t5 t6 hSJ hjl2 hlt hj HJ
                try dsimp only
                go_wp2_with fail
                refine (sDisk_any gs w.heap.size 1048576 S v rv _ HSA.out (by have := T1.out; omega)).mono ?_
                rintro e9 w9 ⟨vd, rfl, hod, hfd⟩
                obtain ⟨ad, cd, rfl, hcd, hrd, -⟩ := hod.form
                rw [Nat.mul_one] at hrd
                have HRD := Lib.hid hrd
                have HOL := Lib.hid (own_old hod)
                have HCD := Lib.hid hcd
                have HOK9 := Lib.hid (HOK.out.still hfd)
                have HFR9 := Lib.hid (HFR.out.then hfd)
                clear hod hfd hrd hcd HSA HOK
                go_wp2_with fail
                refine (sOpen_ok ad S.d.length cd S.d 1048576 w9 HRD.out HOL.out HCD.out (by decide) (by decide) T1.out).mono ?_
                rintro e10 w10 ⟨gt, vt, rt, rfl, hst10, hf10⟩
                have HT10 := Lib.hid (hst10.mono HFR9.out.size)
                have HOK10 := Lib.hid (HOK9.out.still hf10)
                have HFR10 := Lib.hid (HFR9.out.then hf10)
                clear hst10 hf10 HRD HOL HCD HOK9
                go_wp2_with fail
                refine (sLen_any gt w.heap.size 1048576 _ vt rt w10 HT10.out).mono ?_
                rintro e11 w11 ⟨rfl, rfl⟩
                rw [show (SM.ofDisk ckS S.d).recs = K from T2.out]
                go_wp2_with (with_reducible refine wl_stop (o := ⟨some 141, _, _, _, _, _⟩) ?_)
                refine wl_bytes rfl rfl Try.underlying9 Try.underlying22 Try.underlying5 rfl (by have := HMS.out; unfold maxLen; omega) w11.heap.size (Nat.le_refl _) ?_
                intro cm w12 ho12 hf12 hz12
                rw [HMM.out] at ho12
                have HPM := Lib.hid (own_partS ho12 (by have := HMS.out; omega))
                have HT12 := Lib.hid (HT10.out.still hf12)
                have HOK12 := Lib.hid (HOK10.out.still hf12)
                have HFR12 := Lib.hid (HFR10.out.then hf12)
                clear ho12 hf12 hz12 HT10 HOK10
                generalize w11.heap.size = g11 at *
                go_wp2_with fail
                refine (sAdd_any gt w.heap.size 1048576 (SM.ofDisk ckS S.d) vt rt _ more.size cm M w12 HT12.out HPM.out (SInv.ofDisk ckS S.d) (Nat.le_trans (SM.ofDisk_lim ckS_len S.d) (by have := T1.out; omega)) (by decide) (by show (-1 : Int) < _; decide)).mono ?_
                rintro e13 w13 ⟨rfl, v13, r13, hs13, hf13⟩
                have HT13 := Lib.hid hs13
                have HOK13 := Lib.hid (own_offS HT12.out HOK12.out (by decide) (by decide) (by decide) hf13)
                have HFR13 := Lib.hid (HFR12.out.stb HT12.out (Nat.le_refl _) hf13)
                clear hs13 hf13 HPM HT12 HOK12
                rw [T3.out]
                have hk64 : (K.length : Int) ≤ 64 := by have := HKL.out; omega
                go_wp2_with (with_reducible refine wl_stop (o := ⟨some 145, _, _, _, _, _⟩) ?_)
                refine wl_slit rfl rfl Try.underlying56 info_strS [.string more] rfl (by intro u hu; simp only [List.mem_singleton] at hu; subst hu; rfl) rfl rfl ?_
                intro w14 hh14 hf14 hz14
                try simp only [Act.put, List.setIfInBounds_toArray, List.set_cons_zero, List.set_cons_succ]
                refine wl_append rfl rfl Try.underlying56 info_strS rfl (by decide) (HOK13.out.still hf14) rfl (news := [.string more]) rfl (by simpa using Rd.whole hh14) (by intro u hu; simp only [List.mem_singleton] at hu; subst hu; rfl) (by unfold maxLen; have := HKL.out; omega) (by have := HKL.out; omega) (Nat.le_trans HT13.out.size hf14.size) ?_
                intro v15 w15 ho15 hf15 hb15
                have HT15 := Lib.hid (sa_offO (HT13.out.still hf14) (HOK13.out.still hf14) (by decide) (by decide) (by decide) hf15)
                have HFR15 := Lib.hid ((HOK13.out.still hf14).fr (HFR13.out.then hf14) (Nat.le_refl _) hf15)
                have HMK := Lib.hid (show more = mkS M by rw [← HMM.out]; exact (mkS_data more).symm)
                have hkm : ss K ++ [.string more] = ss (K ++ [M]) := by rw [HMK.out]; exact ss_snocS K M
                rw [hkm] at ho15
                have HOK15 := Lib.hid ho15
                obtain ⟨a15, c15, rfl, -⟩ := ho15.form
                clear hh14 hf14 hz14 ho15 hf15 hb15 hkm HOK13 HT13
                obtain ⟨S2, hS2⟩ : ∃ S2, ((SM.ofDisk ckS S.d).add ckS 1048576 M).1 = S2 := ⟨_, rfl⟩
                have HI2 := Lib.hid (show SInv ckS S2 from hS2 ▸ (SInv.ofDisk ckS S.d).add ckS_len _ _)
                rw [hS2] at HT15 T4 T5 T6
                clear hS2
                have HL2 := Lib.hid (show (S2.recs.length : Int) = (K.length : Int) + 1 by rw [T4.out]; simp)
                go_wp2_with fail
                refine (sLen_any gt w.heap.size 1048576 S2 v13 r13 w15 HT15.out).mono ?_
                rintro e16 w16 ⟨rfl, rfl⟩
                rw [HL2.out]
                go_wp2_with fail
                refine (sDisk_any gt w.heap.size 1048576 S2 v13 r13 _ HT15.out (by have := T5.out; omega)).mono ?_
                rintro e17 w17 ⟨vd2, rfl, hod, hfd⟩
                obtain ⟨ad2, cd2, rfl, hcd, hrd, -⟩ := hod.form
                rw [Nat.mul_one] at hrd
                have HRD2 := Lib.hid hrd
                have HOL2 := Lib.hid (own_old hod)
                have HCD2 := Lib.hid hcd
                have HOK17 := Lib.hid (HOK15.out.still hfd)
                have HFR17 := Lib.hid (HFR15.out.then hfd)
                clear hod hfd hrd hcd HT15 HOK15
                go_wp2_with fail
                refine (sOpen_ok ad2 S2.d.length cd2 S2.d 1048576 w17 HRD2.out HOL2.out HCD2.out (by decide) (by decide) T5.out).mono ?_
                rintro e18 w18 ⟨gu, vu, ru, rfl, hu18, hf18⟩
                have HU := Lib.hid (hu18.mono HFR17.out.size)
                have HOK18 := Lib.hid (HOK17.out.still hf18)
                have HFR18 := Lib.hid (HFR17.out.then hf18)
                clear hu18 hf18 HRD2 HOL2 HCD2 HOK17
                go_wp2_with fail
                refine (sLen_any gu w.heap.size 1048576 _ vu ru w18 HU.out).mono ?_
                rintro e19 w19 ⟨rfl, rfl⟩
                have HLU := Lib.hid (show (((SM.ofDisk ckS S2.d).recs.length : Nat) : Int) = (K.length : Int) + 1 by rw [show (SM.ofDisk ckS S2.d).recs = K ++ [M] from T6.out]; simp)
                rw [HLU.out]
                go_wp2_with fail
                clear hge
                go_loopw [20] (fun i wr => ∃ j : Nat, j ≤ K.length + 1 ∧ i = .int .i64 (j : Int) ∧ Fr Nob w19 wr) (fun i _ => K.length + 1 - (intOf i).toNat)
                case atStart => exact ⟨0, Nat.zero_le _, rfl, Fr.refl _ _⟩
                case round =>
                  obtain ⟨j, hj, rfl, hfr⟩ := hrel
                  have HFF := Lib.hid hfr
                  clear hfr
                  by_cases hlt : j < K.length + 1
                  · have hltI : (j : Int) < (K.length : Int) + 1 := by omega
                    have HLT := Lib.hid hlt
                    have hjs : (K ++ [M])[j]? = some ((K ++ [M]).getD j []) := by
                      rw [List.getD_eq_getElem?_getD, List.getElem?_eq_getElem (by simp; omega)]
                      rfl
                    have HJS := Lib.hid hjs
                    clear hjs hj hlt
                    go_wp2_with fail
                    refine (sRecord_ok gu w.heap.size 1048576 (SM.ofDisk ckS S2.d) vu ru j ((K ++ [M]).getD j []) _ (HU.out.still HFF.out) (SInv.ofDisk ckS S2.d) (by rw [show (SM.ofDisk ckS S2.d).recs = K ++ [M] from T6.out]; exact HJS.out) (Nat.le_trans (SM.ofDisk_lim ckS_len S2.d) (by have := T5.out; omega))).mono ?_
                    rintro e20 w20 ⟨v20, rfl, ho20, hf20⟩
                    obtain ⟨a20, c20, rfl, -, hr20, -⟩ := ho20.form
                    rw [Nat.mul_one] at hr20
                    have hcv := fun nq => run_string (P := Try.prog) (show RdB (w20.drewN nq) a20 _ ((K ++ [M]).getD j []) from (show RdB w20 a20 _ _ from hr20).still ((Fr.refl Nob w20).drewN nq)) c20 Try.underlying22 Try.underlying5 Try.underlying9
                    have hk20 := (HOK18.out.still HFF.out).still hf20
                    obtain ⟨a21, c21, he, hc21, hr21, -⟩ := hk20.form
                    cases he
                    rw [Nat.mul_one] at hr21
                    obtain ⟨bk, ok, rfl, hat⟩ := hr21.at (by omega)
                    have hck : w20.cell? ⟨bk, ok + j, none⟩ = some (.string (mkS ((K ++ [M]).getD j []))) := hat j _ (ss_get _ j (by have := HLT.out; simp; omega))
                    have HF20 := Lib.hid (HFF.out.then hf20)
                    clear ho20 hf20 hr20 hk20 hr21 hat
                    generalize mkS ((K ++ [M]).getD j []) = q at *
                    generalize ((K ++ [M]).getD j []).length = ql at *
                    go_wp2_with fail
                    go_quiet (fail)
                    go_wp2_with fail
                    go_roundw
                    case rel => exact ⟨j + 1, by have := HLT.out; omega, by go_num, HF20.out.drewN _⟩
                    case measure => have := HLT.out; simp [intOf]; omega
                  · have hge : ¬ ((j : Int) < (K.length : Int) + 1) := by omega
                    clear hlt hj
                    go_wp2_with fail
                    go_ret
                    exact ⟨rfl, HFR18.out.then HFF.out⟩
end Go.Proofs.Ytdadnajbdnbbdaa
