/- Walks inside a round: what is shown of operations as everywhere serves there; A range over a function whose iterator writes blocks of its own between the rounds; each round goes on; store: frames, one by one; store: frames, the iterator's contract; store: Open; StoreTrue: the law's walk; The reference's frame; The reference's New, Arm, Add; The reference's Add; The reference's Open; mintvaultlaw10: same, record; Lent, Still of larger texts; mintvaultlaw10: record, open; mintvaultlaw10: open. -/
import Derived.Test.YtdadnajbdnbbdaaMgStorePlaysProof3
import Derived.RangeFuncNested
import Derived.RangeFuncBound
import Derived.RangeFuncCalls
import Derived.RangeFuncLeaves
import Derived.Deep.DeepCutAuto
import Derived.Shelf.Abstract
import Derived.Test.YtdadnajbdnbbdaaMgStorePlaysProof2
import Derived.IntWalk
namespace Go.Mv
open Go.RowKit
variable {P : Program} {ops : Array Oper} {Q : Exit → Act → World → Prop} {a : Act} {w : World} {rest : List Oper} {o : Oper} {n l : Nat}
/-- no operation is a defer statement -/
def noDefer (rest : List Oper) : Bool := rest.all fun o => match o.op with | .defer _ => false | _ => true
theorem noDefer_op {o : Oper} (h : (match o.op with | .defer _ => false | _ => true) = true) : ∀ c, o.op ≠ .defer c := by
  intro c e
  rw [e] at h
  cases h
theorem rowsIn_of {row : String} {args : Array Value} {R : Value → World → Prop} (h : Rows P row args w R) : RowsIn (Fence.wide.inRound l) n P row args w R :=
  fun c cs _ => let ⟨v, w', r, s⟩ := h c cs; ⟨v, w', r, stepsIn_wide.2 s⟩
theorem wpIn_of_wp {K : Act → World → Prop} (hd : ∀ c, o.op ≠ .defer c) (h : o.wp P a w K Q) : o.wpIn (Fence.wide.inRound l) n P a w K Q := by
  refine ⟨fun _ _ => trivial, ?_⟩
  have e : o.semAt (some l) a.eval = execOp a.eval o := Oper.semAt_eq _ _ _ hd
  show o.uponIn (Fence.wide.inRound l) n P a K Q ((o.semAt (some l) a.eval).run P w)
  rw [e]
  unfold Oper.wp at h
  generalize (execOp a.eval o).run P w = r at *
  cases r with
  | ok v w' =>
    cases v with
    | value v => exact h
    | skip => exact h
    | defer d => exact h
    | enter f args => exact ⟨fun h => by simp [Fence.wide] at h, CallsIn.inRound l (callsIn_wide.2 h)⟩
    | row row args => exact ⟨fun h => by simp [Fence.wide] at h, rowsIn_of h⟩
    | _ => exact h.elim
  | halt s w' =>
    cases s <;> first | exact h | exact h.elim
/-- a row of operations, inside a round -/
theorem listIn_of (hQ : ¬ LetsOut Q) : ∀ (rest : List Oper) (a : Act) (w : World), noDefer rest = true → wpList P ops Q rest a w → wpListIn (Fence.wide.inRound l) n P ops Q rest a w
  | [], _, _, _, h => h
  | o :: rest, a, w, hd, h => by
    unfold noDefer at hd
    rw [List.all_cons, Bool.and_eq_true] at hd
    unfold wpList at h
    unfold wpListIn
    by_cases hw : Region.wanted o (yielded ops a.tmps) = true
    · rw [if_pos hw] at h ⊢
      rcases h with h | h
      · exact wpIn_of_wp (noDefer_op hd.1) (Oper.wp_mono (fun a w k => listIn_of hQ rest a w hd.2 k) h)
      · exact absurd h.2 hQ
    · rw [if_neg hw] at h ⊢
      exact ⟨fun _ _ => trivial, listIn_of hQ rest _ w hd.2 h⟩
theorem regionIn_of {id : Nat} {rest : List Oper} (hQ : ¬ LetsOut Q) (hd : noDefer rest = true) (h : wpList P rest.toArray Q rest a w) : (Code.region id rest.toArray false).wpIn (Fence.wide.inRound l) n P Q a w :=
  wpIn_region_lit (listIn_of hQ rest a w hd h)
/- the wide fence, one operation at a time -/
theorem wlIn_v {v : Value} (hg : Region.wanted o (yielded ops a.tmps) = true) (_ : ∀ c, o.op ≠ .defer c) (hv : (execOp a.eval o).run P w = .ok (.value v) w) (h : wpListIn Fence.wide n P ops Q rest (a.put o.dst v) w) : wpListIn Fence.wide n P ops Q (o :: rest) a w := by
  unfold wpListIn
  rw [if_pos hg]
  refine ⟨fun _ _ => trivial, ?_⟩
  show o.uponIn Fence.wide n P a _ Q ((o.semAt none a.eval).run P w)
  rw [show o.semAt none a.eval = execOp a.eval o from Oper.semAt_none _ _, hv]
  exact h
theorem wlIn_skip (hg : Region.wanted o (yielded ops a.tmps) = false) (h : wpListIn Fence.wide n P ops Q rest (a.put o.dst undef) w) : wpListIn Fence.wide n P ops Q (o :: rest) a w := by
  unfold wpListIn
  rw [if_neg (by rw [hg]; decide)]
  exact ⟨fun _ _ => trivial, h⟩
/-- yield is called -/
theorem wlIn_yield {f : FuncId} {tmps : Array Value} {assign body : Code} {R : Ending → World → Prop} (hg : Region.wanted o (yielded ops a.tmps) = true) (hv : (execOp a.eval o).run P w = .ok (.round l f tmps assign body) w)
    (hR : RoundIn Fence.wide (n - 1) P l f tmps assign body w R) (h : ∀ e w', R e w' → ∃ b, e = .returned b ∧ wpListIn Fence.wide n P ops Q rest (a.put o.dst b) w') : wpListIn Fence.wide n P ops Q (o :: rest) a w := by
  unfold wpListIn
  rw [if_pos hg]
  refine ⟨fun _ _ => trivial, ?_⟩
  show o.uponIn Fence.wide n P a _ Q ((o.semAt none a.eval).run P w)
  rw [show o.semAt none a.eval = execOp a.eval o from Oper.semAt_none _ _, hv]
  refine ⟨fun h => by simp [Fence.wide] at h, hR.mono fun e w' k => ?_⟩
  obtain ⟨b, rfl, h2⟩ := h e w' k
  exact h2
/-- a region, by the wide fence -/
theorem wp_region_wide (n : Nat) {id : Nat} {rest : List Oper} (h : wpListIn Fence.wide n P rest.toArray Q rest a w) : (Code.region id rest.toArray false).wp P Q a w := wpIn_wide.1 (wpIn_region_lit h)
end Go.Mv

/- A range over a function whose iterator writes blocks of its own between the rounds; each round goes on. -/
namespace Go.Mv
open Go.RowKit
variable {P : Program}
/-- an iterator that gives values, one by one, with what is known of each; between the rounds it turns the blocks of X; Kp: what a round keeps -/
def SeqG {α : Type} (P : Program) (gf : FuncId) (lb : Array Value) (enc : α → Value) (X : Nat → Prop) (Kp : World → World → Prop) (Pr : List α → α → World → Prop) (S : List α → Prop) (w : World) : Prop :=
  ∀ (l : Nat) (J : List α → World → Prop) (W : World), Fr Nob w W → (∀ pre A B, J pre A → Fr X A B → J pre B) →
    (∀ pre x A, J pre A → Pr pre x A → YieldAt Fence.wide 1 P l #[enc x] A fun e B => e = .returned (.bool true) ∧ J (pre ++ [x]) B ∧ Kp A B) → J [] W →
    Calls P gf (#[.func (.yield l) #[] #[]] ++ lb) W fun e B => (∃ v, e = .returned v) ∧ ∃ xs, S xs ∧ J xs B
/-- the invariant stands where the loop's own blocks turn -/
def Wide {β : Type} (B : Nat) (I : β → World → Prop) : Prop := ∀ s W k (o : Obj) (o' : Obj), B ≤ k → W.heap[k]? = some o → o.isCells = false → I s W → I s (W.putObj k o')
/-- a round of the body: it goes on -/
def goesOn {α : Type} (B : Nat) (Kp : World → World → Prop) (I : List α → World → Prop) (xs : List α) (W : World) : Exit → Act → World → Prop
  | .normal, _, V => KeepsFrom B W V ∧ Kp W V ∧ I xs V
  | _, _, _ => False
theorem wp_rangeG {α : Type} {g : Operand} {p : Tmp} {assign body : Code} {Q : Exit → Act → World → Prop} {a : Act} {w : World} {gf : FuncId} {lb : Array Value} (hg : a.eval g = .func (.func gf) #[] lb) (eg : ∀ args w, (callFunc gf args).run P w = .ok (.enter gf args) w)
    {enc : α → Value} {X : Nat → Prop} {Kp : World → World → Prop} {Pr : List α → α → World → Prop} {S : List α → Prop} (hseq : SeqG P gf lb enc X Kp Pr S w) (hX : ∀ k, X k → k < w.heap.size)
    (hKt : ∀ {A B C : World}, Kp A B → Kp B C → Kp A C) (hKb : ∀ (W : World) (k : Nat) (o o' : Obj), w.heap.size ≤ k → W.heap[k]? = some o → o.isCells = false → Kp W (W.putObj k o'))
    (I : List α → World → Prop) (hIX : ∀ pre A B, I pre A → Fr X A B → I pre B) (hI : Wide w.heap.size I) (h0 : I [] w) (a1 : α → Act)
    (hassign : ∀ (l : Nat) (x : α) (W : World) (K : Act → World → Prop), K (a1 x) W → assign.wpIn (Fence.wide.inRound l) 1 P (Exit.then K fun _ _ _ => False) { tmps := a.tmps.setIfInBounds p (enc x), defers := [] } W)
    (hbody : ∀ (l : Nat) (pre : List α) (x : α) (W : World), w.heap.size ≤ l → I pre W → Pr pre x W → body.wpIn (Fence.wide.inRound l) 1 P (goesOn w.heap.size Kp I (pre ++ [x]) W) (a1 x) W)
    (hPr : ∀ pre x W k o o', Pr pre x W → w.heap.size ≤ k → W.heap[k]? = some o → o.isCells = false → Pr pre x (W.putObj k o'))
    (hdone : ∀ (D : Nat) (xs : List α) (W : World), w.heap.size ≤ D → S xs → I xs W → W.heap[D]? = some (.deferred (some [])) → Q .normal { a with defers := { target := .collected D, args := #[] } :: a.defers } W) :
    (Code.rangeFunc g #[p] assign body).wp P Q a w := by
  refine (wpIn_wide (n := 3)).1 (wpIn_rangeFunc ?_)
  intro fn hfn
  obtain ⟨lp, hlp⟩ : ∃ lp : LoopState → Option Code → Loop, lp = fun st pe => { state := st, pending := pe, fn, tmps := a.tmps, params := #[p], assign, body, defers := w.heap.size } := ⟨_, rfl⟩
  obtain ⟨V, hV⟩ : ∃ V, (w.alloc (.deferred (some []))).alloc (.loop (lp .ready none)) = V := ⟨_, rfl⟩
  have hVl : V.heap[w.heap.size + 1]? = some (.loop (lp .ready none)) := by
    rw [← hV]; have := World.alloc_heap_new (w.alloc (.deferred (some []))) (.loop (lp .ready none)); rwa [World.size_alloc] at this
  have hVd : V.heap[w.heap.size]? = some (.deferred (some [])) := by
    rw [← hV]; exact (Below.heap_alloc _ _ _ (by simp)).trans (World.alloc_heap_new w _)
  have hVf : Fr Nob w V := by rw [← hV]; exact ((Fr.refl Nob w).alloc _).alloc _
  refine ⟨w.heap.size + 1, [{ target := .collected w.heap.size, args := #[] }], V, { target := .fn (.func gf) lb, args := #[.func (.yield (w.heap.size + 1)) #[] #[]] }, V, gf, #[.func (.yield (w.heap.size + 1)) #[] #[]] ++ lb, V, ?_, ?_, fun _ _ => trivial, ?_, fun h => by simp [Fence.wide] at h, ?_⟩
  · rw [← hV, hlp]; exact run_enterLoop_outer _ _ _ _ _
  · simp only [resolve, hg]
    simp [go_sem]
  · simp [invoke, go_sem, eg]
  · refine callsIn_wide.2 ((hseq (w.heap.size + 1) (fun pre W => I pre W ∧ W.heap[w.heap.size + 1]? = some (.loop (lp .ready none)) ∧ W.heap[w.heap.size]? = some (.deferred (some []))) V hVf ?_ ?_ ⟨hIX _ _ _ h0 (hVf.mono fun _ _ t => t.elim), hVl, hVd⟩).mono ?_)
    · rintro pre A B ⟨h1, h2, h3⟩ hf
      have hs := (Array.getElem?_eq_some_iff.1 h2).1
      refine ⟨hIX _ _ _ h1 hf, (hf.block _ hs fun k => ?_).trans h2, (hf.block _ (by omega) fun k => ?_).trans h3⟩
      · have := hX _ k; omega
      · have := hX _ k; omega
    · rintro pre x W ⟨hi, hl, hd⟩ hp
      have hs := (Array.getElem?_eq_some_iff.1 hl).1
      have hy := run_yield (P := P) (args := #[enc x]) hl (by rw [hlp]; rfl)
      rw [hlp] at hy
      have hz : ((#[p].zip #[enc x]).foldl (fun t (q, v) => t.setIfInBounds q v) a.tmps) = a.tmps.setIfInBounds p (enc x) := by simp
      refine ⟨fn, _, assign, body, hy, roundIn_of_wpIn hfn ?_⟩
      have has := hassign (w.heap.size + 1) x W
      rw [← hz] at has
      refine has _ ⟨_, run_beginRound hl (by rw [hlp]), ?_⟩
      clear hy has hz
      obtain ⟨W2, hW2⟩ : ∃ W2, W.putObj (w.heap.size + 1) (.loop { lp .ready none with state := .busy }) = W2 := ⟨_, rfl⟩
      have hl2 : W2.heap[w.heap.size + 1]? = some (.loop { lp .ready none with state := .busy }) := by rw [← hW2]; exact World.putObj_heap_same hs
      have hd2 : W2.heap[w.heap.size]? = some (.deferred (some [])) := by rw [← hW2]; exact (World.putObj_heap_other (by omega)).trans hd
      have hk2 : Kp W W2 := by rw [← hW2]; exact hKb _ _ _ _ (by omega) hl rfl
      have hi2 : I pre W2 := by rw [← hW2]; exact hI _ _ _ _ _ (by omega) hl rfl hi
      have hp2 : Pr pre x W2 := by rw [← hW2]; exact hPr _ _ _ _ _ _ hp (by omega) hl rfl
      rw [hW2]
      refine wpIn_mono (hbody (w.heap.size + 1) pre x W2 (by omega) hi2 hp2) ?_
      rintro e a3 W3 hq
      cases e with
      | normal =>
        obtain ⟨q1, q2, q3⟩ := hq
        have hl3 := q1.same _ _ (by omega) hl2 rfl
        have hd3 := q1.same _ _ (Nat.le_refl _) hd2 rfl
        have hs3 := (Array.getElem?_eq_some_iff.1 hl3).1
        have hr := run_endRound (P := P) none hl3
        rw [hlp] at hr hl3 ⊢
        exact ⟨_, _, hr, rfl, ⟨hI _ _ _ _ _ (by omega) hl3 rfl q3, World.putObj_heap_same hs3, (World.putObj_heap_other (by omega)).trans hd3⟩, hKt (hKt hk2 q2) (hKb _ _ _ _ (by omega) hl3 rfl)⟩
      | _ => exact hq.elim
    · rintro e B ⟨⟨v, rfl⟩, xs, hS, hi, hl, hd⟩
      have hr := run_endLoop (P := P) hl (by rw [hlp]; simp)
      rw [hlp] at hr hl
      exact ⟨none, _, hr, hdone _ xs _ (Nat.le_refl _) hS (hI _ _ _ _ _ (by omega) hl rfl hi) ((World.putObj_heap_other (by omega)).trans hd)⟩
/- what stands in cells stands where a block that is none turns -/
theorem Fr.obj (W : World) (k : Nat) (o' : Obj) : Fr (One k) W (W.putObj k o') := by
  have hg := grownBy_putObj' W k o'
  exact ⟨hg.os, hg.tape, hg.output, hg.size, fun i hi hs => hg.block i hi (fun e => hs (by cases e; rfl))⟩
theorem Has.obj {W : World} {k g : Nat} {o o' : Obj} (h : W.heap[k]? = some o) (ho : o.isCells = false) {L : List Value} {T : TypeId} (hg : Has W g L T) : Has (W.putObj k o') g L T := by
  refine hg.keep (Fr.obj W k o') fun e => ?_
  have e2 : g = k := e
  obtain ⟨lo, hi, h2, -⟩ := hg
  subst e2
  rw [h] at h2
  cases h2
  cases ho
theorem Own.obj {W : World} {k : Nat} {o o' : Obj} (h : W.heap[k]? = some o) (ho : o.isCells = false) {base : Nat} {T : TypeId} {sz n : Nat} {v : Value} {L : List Value} (hg : Own W base T sz v n L) : Own (W.putObj k o') base T sz v n L := by
  refine ⟨hg.1, hg.2.imp id ?_⟩
  rintro ⟨g, q, cap, B, h1, h2, h3, h4⟩
  exact ⟨g, q, cap, B, h1, h2, h3.obj h ho, h4⟩
theorem RdB.obj {W : World} {k : Nat} {o o' : Obj} (h : W.heap[k]? = some o) (ho : o.isCells = false) {a : Option Addr} {n : Nat} {l : List UInt8} (hg : RdB W a n l) : RdB (W.putObj k o') a n l := by
  rcases Nat.eq_zero_or_pos n with h0 | h0
  · subst h0
    have hb := List.eq_nil_of_length_eq_zero hg.len
    subst hb
    exact RdB.nil _ _
  · refine hg.keep (Fr.obj W k o') fun x hx e => ?_
    obtain ⟨b, q, rfl, hc⟩ := hg.at h0
    cases hx
    have e2 : b = k := e
    subst e2
    have h1 := hc 0 h0
    unfold World.cell? at h1
    simp only [h] at h1
    cases o <;> first | (cases ho; done) | (simp at h1; done)
end Go.Mv

/- store: frames, one by one. -/
namespace Go.Mv
open Go.RowKit Mvp
variable {P : Program} {ops : Array Oper} {Q : Exit → Act → World → Prop} {a : Act} {w : World} {rest : List Oper} {o : Oper} {n l : Nat}
theorem wpIn_of_wpW {K : Act → World → Prop} (_hd : ∀ c, o.op ≠ .defer c) (h : o.wp P a w K Q) : o.wpIn Fence.wide n P a w K Q := by
  refine ⟨fun _ _ => trivial, ?_⟩
  have e : o.semAt none a.eval = execOp a.eval o := Oper.semAt_none _ _
  show o.uponIn Fence.wide n P a K Q ((o.semAt none a.eval).run P w)
  rw [e]
  unfold Oper.wp at h
  generalize (execOp a.eval o).run P w = r at *
  cases r with
  | ok v w' =>
    cases v with
    | value v => exact h
    | skip => exact h
    | defer d => exact h
    | enter f args => exact ⟨fun h => by simp [Fence.wide] at h, callsIn_wide.2 h⟩
    | row row args => exact ⟨fun h => by simp [Fence.wide] at h, fun c cs _ => let ⟨v, w', r, s⟩ := h c cs; ⟨v, w', r, stepsIn_wide.2 s⟩⟩
    | _ => exact h.elim
  | halt s w' =>
    cases s <;> first | exact h | exact h.elim
/-- an operation, by the wide fence -/
theorem wlIn_op (hg : Region.wanted o (yielded ops a.tmps) = true) (hd : ∀ c, o.op ≠ .defer c) (h : o.wp P a w (fun a' w' => wpListIn Fence.wide n P ops Q rest a' w') Q) : wpListIn Fence.wide n P ops Q (o :: rest) a w := by
  unfold wpListIn
  rw [if_pos hg]
  exact wpIn_of_wpW hd h
theorem run_slice_midU {P : Program} (w : World) {ty e : TypeId} (hu : P.underlying ty = some (.slice e)) (hsz : (P.info? e).map (·.size) = some 1) (b o n c : Nat) (k k' : IntKind) (l h : Nat) (hl : l ≤ h) (hh : h ≤ c) (hlc : l < c) :
    (Instr.sliceAt ty (.slice (some ⟨b, o, none⟩) n c) (some (.int k (l : Int))) (some (.int k' (h : Int))) none).run P w = .ok (.slice (some ⟨b, o + l, none⟩) (h - l) (c - l)) w := by
  obtain ⟨i, hi1, hi2⟩ : ∃ i, P.info? e = some i ∧ i.size = 1 := by simpa using hsz
  have h1 : ¬ c = l := by omega
  simp [Instr.sliceAt, Instr.slice, run_underlying hu, Instr.sliceBounds, run_sliceBound, hl, hh, sizeOf, typeInfo, hi1, hi2, h1, Addr.add]
end Go.Mv
namespace Go.Proofs.Ytdadnajbdnbbdaa
open Go.RowKit Go.Mv Mvp
attribute [local irreducible] permS permP toB turnsK squeeze permN permB spongeB feed frameL framesL tagL bigN bigJ numS frameB framesB ckS exC SM.put SM.add unframe
set_option maxRecDepth 100000 in
theorem hasPre_any (a : Option Addr) (n c : Nat) (l : List UInt8) (a' : Option Addr) (n' c' : Nat) (l' : List UInt8) (w : World) (hb : RdB w a n l) (hb' : RdB w a' n' l') (hc : n ≤ c) (hn : n' ≤ n) (_hs : n ≤ 1000000000) :
    Calls Try.prog 44 #[.slice a n c, .slice a' n' c'] w fun r w' => r = .returned (.bool (decide (l.take n' = l'))) ∧ w' = w := by
  have HB := Lib.hid (show RdB w a n' (l.take n') by have h := Rd.take (show Rd w a n (bs l) from hb) n' hn; rwa [bs_take] at h)
  have HB2 := Lib.hid hb'
  have h1 : (n' : Int) ≤ (n : Int) := by omega
  have hsl := fun wx => run_slice_hi (P := Try.prog) wx Try.underlying22 (by kernel_rfl) a n c .i64 n' (by omega)
  clear hb hb' hc hn _hs
  go_enter Try.func44, Try.ntmps44
  go_wp2_with fail
  refine (equal_any a n' c (l.take n') a' n' c' l' w HB.out HB2.out).mono ?_
  rintro e w1 ⟨rfl, rfl⟩
  go_wp2_with fail
  go_ret
  exact ⟨rfl, rfl⟩
end Go.Proofs.Ytdadnajbdnbbdaa

/- store: frames, the iterator's contract. -/
namespace Go.Proofs.Ytdadnajbdnbbdaa
open Go.RowKit Go.Mv Mvp
/-- what a round keeps -/
def KpF (T : TypeId) (gb : Nat) (a : Option Addr) (n : Nat) (l : List UInt8) (A B : World) : Prop := (∀ L, Has A gb L T → Has B gb L T) ∧ (RdB A a n l → RdB B a n l) ∧ A.heap.size ≤ B.heap.size
theorem KpF.trans {T : TypeId} {gb : Nat} {a : Option Addr} {n : Nat} {l : List UInt8} {A B C : World} (h : KpF T gb a n l A B) (k : KpF T gb a n l B C) : KpF T gb a n l A C := ⟨fun L x => k.1 L (h.1 L x), fun x => k.2.1 (h.2.1 x), Nat.le_trans h.2.2 k.2.2⟩
/-- a record that is given -/
def FrP (T : TypeId) (gb : Nat) (l : List UInt8) (pre : List (Value × List UInt8)) (x : Value × List UInt8) (W : World) : Prop := PartIs W x.1 x.2 ∧ x.2.length ≤ 16384 ∧ (framesB ckS 0 (pre.map (·.2))).length + 12 + x.2.length ≤ l.length ∧ ∃ L, Has W gb L T
theorem numS_bnd (l : List UInt8) (h : l.length ≤ 4) : numS l < 4294967296 := by
  have h1 := numS_lt l
  have h2 : 256 ^ l.length ≤ 256 ^ 4 := Nat.pow_le_pow_right (by decide) h
  have h3 : (256 : Nat) ^ 4 = 4294967296 := by decide
  omega
theorem rdFront {w : World} {a : Option Addr} {n : Nat} {l : List UInt8} (h : RdB w a n l) (k : Nat) (hk : k ≤ n) : RdB w a k (l.take k) := by
  have h1 := Rd.take (show Rd w a n (bs l) from h) k hk
  rwa [bs_take] at h1
theorem info_bsl_1 : (Try.prog.info? 5).map (·.size) = some 1 := by kernel_rfl
theorem exec_yieldS {l : Nat} {vs : List Value} {nx : Next} {o : Oper} {a : Act} {w : World} {x : Operand} {xs : Array Operand} {ats : Array TypeId} (ho : o.op = .call { callee := .value x, args := xs, argTypes := ats }) (hx : a.eval x = .func (.yield l) #[] #[]) (ha : xs.toList.map a.eval = vs)
    (hy : (Instr.yield l vs.toArray).run Try.prog w = .ok nx w) : (execOp a.eval o).run Try.prog w = .ok nx w := by
  have ha2 : xs.map a.eval = vs.toArray := by rw [← ha]; simp [← Array.toList_map]
  unfold execOp
  simp only [ho, resolve, hx, ha2]
  simp [invoke, hy, go_sem]
theorem framesB_0 : (framesB ckS 0 (([] : List (Value × List UInt8)).map (·.2))).length = 0 := rfl
attribute [local irreducible] permS permP toB turnsK squeeze permN permB spongeB feed frameL framesL tagL bigN bigJ numS frameB framesB ckS exC SM.put SM.add unframe OpenI
set_option maxHeartbeats 4000000 in
set_option maxRecDepth 1000000 in
theorem frames_seq (gb : Nat) (a : Option Addr) (n c : Nat) (l : List UInt8) (w : World) (hg : Has w gb [.slice a n c] 22) (hr : RdB w a n l) (hnc : n ≤ c) (hn : n ≤ 2000000) :
    SeqG Try.prog 42 #[.pointer (some ⟨gb, 0, none⟩)] (fun x : Value × List UInt8 => x.1) (Mv.One gb) (KpF 22 gb a n l) (FrP 22 gb l) (fun xs => xs.map (·.2) = unframe ckS l.length 0 l) w := by
  intro l0 J W hW hJ hY h0
  show Calls Try.prog 42 #[.func (.yield l0) #[] #[], .pointer (some ⟨gb, 0, none⟩)] W _
  have HY := Lib.hid hY
  have HJ := Lib.hid hJ
  have H0 := Lib.hid h0
  have HG := Lib.hid (hg.keep hW id)
  have HR := Lib.hid (hr.still hW)
  have HL := Lib.hid hr.len
  have HNC := Lib.hid hnc
  have HN := Lib.hid hn
  clear hY hJ h0 hg hr hW hnc hn
  go_enter Try.func42, Try.ntmps42
  go_wp2
  go_loopw [3] (fun v wr => ∃ (pre : List (Value × List UInt8)) (f : Nat) (a' : Option Addr), v = .int .i64 (pre.length : Int) ∧ f ≤ n ∧ 12 * pre.length ≤ f ∧ OpenI ckS l (pre.map (·.2)) (l.drop f) ∧ (framesB ckS 0 (pre.map (·.2))).length = f ∧ Has wr gb [.slice a' (n - f) (c - f)] 22 ∧ (∀ b o, a = some ⟨b, o, none⟩ → f < n → a' = some ⟨b, o + f, none⟩) ∧ RdB wr a n l ∧ J pre wr ∧ W.heap.size ≤ wr.heap.size) (fun v _ => n - (intOf v).toNat)
  case atStart => exact ⟨[], 0, a, rfl, Nat.zero_le _, Nat.zero_le _, by rw [List.drop_zero]; exact OpenI.start ckS l, framesB_0, HG.out, fun b o e _ => by rw [e]; rfl, HR.out, H0.out, Nat.le_refl _⟩
  case round =>
    obtain ⟨pre, f, a', rfl, hf, h12, hop, hfl, hhg, hpt, hrd, hj, hsz⟩ := hrel
    have HF := Lib.hid hf
    have H12 := Lib.hid h12
    have HOP := Lib.hid hop
    have HFL := Lib.hid hfl
    have HHG := Lib.hid hhg
    have HPT := Lib.hid hpt
    have HRD := Lib.hid hrd
    have HJP := Lib.hid hj
    have HSZ := Lib.hid hsz
    have c0 := hhg.cell (i := 0) (v := .slice a' (n - f) (c - f)) rfl
    have hml : (l.drop f).length = n - f := by rw [List.length_drop, HL.out]
    clear hf h12 hop hfl hhg hpt hrd hj hsz
    obtain ⟨m, hm⟩ : ∃ m, n - f = m := ⟨_, rfl⟩
    rw [hm] at c0 hml
    have HM := Lib.hid hm
    have HML := Lib.hid hml
    clear hm hml
    by_cases hlt : m < 12
    · have hltI : ¬ (12 : Int) ≤ (m : Int) := by omega
      have HU := Lib.hid (HOP.out.stop _ rfl (.inl (by rw [HML.out]; exact hlt)))
      clear hlt
      go_wp2_with fail
      go_end0
      exact ⟨⟨_, rfl⟩, pre, HU.out.symm, HJP.out⟩
    · have hgeI : (12 : Int) ≤ (m : Int) := by omega
      have H12M := Lib.hid hlt
      have hfn : f < n := by have := HM.out; omega
      obtain ⟨b, o, rfl, hca⟩ := (show Rd wr a n (bs l) from HRD.out).at (by omega)
      have hpe := HPT.out b o rfl hfn
      subst hpe
      have HRR := Lib.hid (show RdB wr (some ⟨b, o + f, none⟩) m (l.drop f) by
        have h := HRD.out.mid f m (by have := HM.out; omega)
        rwa [List.take_of_length_le (by rw [HML.out]; exact Nat.le_refl _)] at h)
      have hcm : ∃ q, c - f = q ∧ m ≤ q := ⟨_, rfl, by have := HM.out; have := HNC.out; omega⟩
      obtain ⟨q, hq, hmq⟩ := hcm
      rw [hq] at c0
      have HQ := Lib.hid hq
      have HMQ := Lib.hid hmq
      have hs4 : (Instr.sliceAt 22 (.slice (some ⟨b, o + f, none⟩) m q) none (some (.int .i64 4)) none).run Try.prog wr = .ok (.slice (some ⟨b, o + f, none⟩) 4 q) wr := run_slice_hi (P := Try.prog) wr Try.underlying22 info_bsl_1 (some ⟨b, o + f, none⟩) m q .i64 4 (by omega)
      clear hfn hq hlt hca hmq
      have HN4 := Lib.hid (numS_bnd ((l.drop f).take 4) (by rw [List.length_take]; omega))
      have HR4 := Lib.hid (rdFront HRR.out 4 (by have := H12M.out; omega))
      go_wp2_with fail
      refine (numberOf_any _ 4 q _ _ (by decide) HR4.out).mono ?_
      rintro e1 w1 ⟨rfl, rfl⟩
      obtain ⟨N, hN⟩ : ∃ N, numS ((l.drop f).take 4) = N := ⟨_, rfl⟩
      rw [hN]
      have HNN := Lib.hid hN
      have hn32 : (N : Int) < 4294967296 := by have := HN4.out; omega
      clear hN hs4
      by_cases hbig : 16384 < N
      · have hbI : (16384 : Int) < (N : Int) := by omega
        have HU := Lib.hid (HOP.out.stop _ HNN.out (.inr (.inl hbig)))
        clear hbig
        go_wp2_with fail
        refine bodyPost_ret (results_none rfl _ _ _) rfl ?_
        exact ⟨⟨_, rfl⟩, pre, HU.out.symm, HJP.out⟩
      · have hbI : ¬ (16384 : Int) < (N : Int) := by omega
        have HNS := Lib.hid hbig
        have hmB : (m : Int) ≤ 2000000 := by have := HM.out; have := HN.out; omega
        clear hbig
        by_cases hfit : m < 12 + N
        · have hfI : (m : Int) - 4 - 8 < (N : Int) := by omega
          have HU := Lib.hid (HOP.out.stop _ HNN.out (.inr (.inr (.inl (by rw [HML.out]; exact hfit)))))
          clear hfit
          go_wp2_with fail
          refine bodyPost_ret (results_none rfl _ _ _) rfl ?_
          exact ⟨⟨_, rfl⟩, pre, HU.out.symm, HJP.out⟩
        · have hfI : decide ((m : Int) - 4 - 8 < (N : Int)) = false := by simp; omega
          have HFI := Lib.hid hfit
          clear hfit
          have hs5 : (Instr.sliceAt 22 (.slice (some ⟨b, o + f, none⟩) m q) (some (.int .i64 4)) (some (.int .u64 (4 + (N : Int)))) none).run Try.prog w1 = .ok (.slice (some ⟨b, o + f + 4, none⟩) (4 + N - 4) (q - 4)) w1 := by
            have h := run_slice_midU (P := Try.prog) w1 Try.underlying22 info_bsl_1 b (o + f) m q .i64 .u64 4 (4 + N) (by omega) (by have := HMQ.out; have := HFI.out; omega) (by have := HMQ.out; have := H12M.out; omega)
            simpa using h
          rw [show 4 + N - 4 = N by omega] at hs5
          go_wp2_with (with_reducible refine wl_stop (o := ⟨some 24, _, _, _, _, _⟩) ?_)
          have hfJ : ¬ (m : Int) - 4 - 8 < (N : Int) := by simpa using hfI
          clear hfI
          generalize (m : Int) - 4 - 8 = x at *
          unfold Stop
          have hd : decide ((16384 : Int) < (N : Int)) = false := by simpa using hbI
          simp only [hd]
          have hd2 : decide (x < (N : Int)) = false := by simpa using hfJ
          clear hfJ hmB hn32
          have HPR := Lib.hid (show PartIs w1 (.slice (some ⟨b, o + f + 4, none⟩) N (q - 4)) (((l.drop f).drop 4).take N) from ⟨_, N, q - 4, rfl, by have := HMQ.out; have := HFI.out; omega, by have := HNS.out; omega, by have h := HRR.out.mid 4 N (by have := HFI.out; omega); exact h, fun y hy => by cases hy; exact (HRR.out.at (by have := H12M.out; omega)).elim fun b' hb => by obtain ⟨o', e, hc⟩ := hb; cases e; have h2 := block_lt_of_cell (hc 0 (by have := H12M.out; omega)); exact h2⟩)
          go_wp2_with fail
          refine (sframe_any pre.length _ N (q - 4) _ _ (by have := H12.out; have := HF.out; have := HN.out; omega) HPR.out).mono ?_
          rintro e2 w2 ⟨vf, rfl, hof, hf2⟩
          obtain ⟨af, cf, rfl, hcf, hrf, -⟩ := hof.form
          rw [Nat.mul_one] at hrf
          have HRF := Lib.hid hrf
          have HF2 := Lib.hid hf2
          have HG2 := Lib.hid (HHG.out.keep hf2 id)
          have HR2 := Lib.hid (HRD.out.still hf2)
          have HP2 := Lib.hid (HPR.out.still hf2)
          have HJ2 := Lib.hid (HJ.out _ _ _ HJP.out (hf2.mono fun _ _ t => t.elim))
          have c1 := HG2.out.cell (i := 0) (v := .slice (some ⟨b, o + f, none⟩) (n - f) (c - f)) rfl
          rw [HM.out, HQ.out] at c1
          clear hof hf2 hrf c0 hs5
          go_upto_region 7 with fail
          refine wp_region_wide 2 ?_
          refine wlIn_v rfl (fun c h => by cases h) (by go_simp; with_reducible rfl) ?_
          try simp only [Act.put, List.setIfInBounds_toArray, List.set_cons_zero, List.set_cons_succ]
          refine wlIn_v rfl (fun c h => by cases h) (by go_simp; with_reducible rfl) ?_
          try simp only [Act.put, List.setIfInBounds_toArray, List.set_cons_zero, List.set_cons_succ]
          refine wlIn_op rfl (fun c h => by cases h) ?_
          go_simp
          refine (hasPre_any (some ⟨b, o + f, none⟩) m q (l.drop f) af (12 + N) cf _ w2 (HRR.out.still HF2.out) HRF.out HMQ.out (by have := HFI.out; omega) (by have := HM.out; have := HN.out; omega)).mono ?_
          rintro e3 w3 ⟨rfl, rfl⟩
          try simp only []
          have hsn := HY.out pre (.slice (some ⟨b, o + f + 4, none⟩) N (q - 4), ((l.drop f).drop 4).take N) w3 HJ2.out ⟨HP2.out, by rw [List.length_take]; have := HNS.out; omega, by rw [HFL.out, List.length_take, List.length_drop, HML.out]; have := HFI.out; have := HM.out; have := HL.out; omega, _, HG2.out⟩
          obtain ⟨fn, tmps, assign, body, hy, hR⟩ := hsn
          have HHY := Lib.hid hy
          have HRR2 := Lib.hid hR
          clear hy hR
          by_cases hpre : (l.drop f).take (12 + N) = frameB ckS pre.length (((l.drop f).drop 4).take N)
          · have HPE := Lib.hid hpre
            have hq1 : decide ((l.drop f).take (12 + N) = frameB ckS pre.length (((l.drop f).drop 4).take N)) = true := decide_eq_true hpre
            simp only [hq1]
            clear hq1 hpre
            refine wlIn_v rfl (fun c h => by cases h) (by go_simp; with_reducible rfl) ?_
            try simp only [Act.put, List.setIfInBounds_toArray, List.set_cons_zero, List.set_cons_succ]
            refine wlIn_v rfl (fun c h => by cases h) (by go_simp; with_reducible rfl) ?_
            try simp only [Act.put, List.setIfInBounds_toArray, List.set_cons_zero, List.set_cons_succ]
            refine wlIn_v rfl (fun c h => by cases h) (by go_simp; with_reducible rfl) ?_
            try simp only [Act.put, List.setIfInBounds_toArray, List.set_cons_zero, List.set_cons_succ]
            refine wlIn_v rfl (fun c h => by cases h) (by go_simp; with_reducible rfl) ?_
            try simp only [Act.put, List.setIfInBounds_toArray, List.set_cons_zero, List.set_cons_succ]
            refine wlIn_yield rfl (exec_yieldS (vs := [.slice (some ⟨b, o + f + 4, none⟩) N (q - 4)]) rfl rfl rfl HHY.out) HRR2.out ?_
            rintro e W3 ⟨rfl, hJ3, hK3⟩
            refine ⟨_, rfl, ?_⟩
            try simp only [Act.put, List.setIfInBounds_toArray, List.set_cons_zero, List.set_cons_succ]
            refine wlIn_v rfl (fun c h => by cases h) (by go_simp; with_reducible rfl) ?_
            try simp only [Act.put, List.setIfInBounds_toArray, List.set_cons_zero, List.set_cons_succ]
            refine wlIn_v rfl (fun c h => by cases h) (by go_simp; with_reducible rfl) ?_
            try simp only [Act.put, List.setIfInBounds_toArray, List.set_cons_zero, List.set_cons_succ]
            refine wpListIn_nil ?_
            have HG3 := Lib.hid (hK3.1 _ HG2.out)
            have HR3 := Lib.hid (hK3.2.1 HR2.out)
            have HS3 := Lib.hid (Nat.le_trans HSZ.out (Nat.le_trans HF2.out.size hK3.2.2))
            have HJ3 := Lib.hid hJ3
            clear hJ3 hK3 c1
            obtain ⟨v8, hv8, hpt8⟩ : ∃ v8, (Instr.sliceAt 22 (.slice (some ⟨b, o + f, none⟩) m q) (some (.int .i64 (12 + (N : Int)))) none none).run Try.prog W3 = .ok (.slice v8 (m - (12 + N)) (q - (12 + N))) W3 ∧ (12 + N < m → v8 = some ⟨b, o + (f + (12 + N)), none⟩) := by
              have h := run_slice_lo (P := Try.prog) W3 Try.underlying22 info_bsl_1 (some ⟨b, o + f, none⟩) m q .i64 (12 + N) (by have := HFI.out; omega)
              refine ⟨cutAt (some ⟨b, o + f, none⟩) (12 + N) q, by simpa using h, fun hlt => ?_⟩
              unfold cutAt
              rw [if_neg (by have := HMQ.out; omega)]
              simp [Addr.add, Nat.add_assoc]
            have HP8 := Lib.hid hpt8
            have HW8 := Lib.hid (HG3.out.put1 0 (.slice v8 (m - (12 + N)) (q - (12 + N))))
            have c3 := HG3.out.cell (i := 0) (v := .slice (some ⟨b, o + f, none⟩) (n - f) (c - f)) rfl
            rw [HM.out, HQ.out] at c3
            obtain ⟨u, cu, fu⟩ := HG3.out.ready (i := 0) (by simp)
            have HJ8 := Lib.hid (HJ.out _ _ _ HJ3.out HW8.out.2)
            have HR8 := Lib.hid (HR3.out.offHas HG3.out (by intro u hu y e; simp only [List.mem_cons, List.not_mem_nil, or_false] at hu; subst hu; cases e) HW8.out.2)
            have HOS := Lib.hid (HOP.out.step N HNN.out (by have := HNS.out; omega) (by rw [HML.out]; have := HFI.out; omega) (by rw [List.length_map]; exact HPE.out.symm))
            have hp1 : (pre.length : Int) + 1 < 9000000 := by have := H12.out; have := HF.out; have := HN.out; omega
            have hn9 : (N : Int) < 9000000 := by have := HNS.out; omega
            clear hpt8
            go_wp2_with fail
            go_roundw
            case rel =>
              refine ⟨pre ++ [(.slice (some ⟨b, o + f + 4, none⟩) N (q - 4), ((l.drop f).drop 4).take N)], f + (12 + N), v8, by simp, by have := HFI.out; have := HM.out; omega, by rw [List.length_append, List.length_singleton]; have := H12.out; omega, ?_, ?_, ?_, ?_, HR8.out, HJ8.out, ?_⟩
              · rw [List.map_append, ← List.drop_drop]
                exact HOS.out
              · rw [List.map_append]
                show (framesB ckS 0 (pre.map (·.2) ++ [((l.drop f).drop 4).take N])).length = _
                rw [framesB_snoc, List.length_append, HFL.out, Nat.zero_add, frameB_length, List.length_take, List.length_drop, HML.out]
                have := HFI.out
                omega
              · rw [show n - (f + (12 + N)) = m - (12 + N) by have := HM.out; omega, show c - (f + (12 + N)) = q - (12 + N) by have := HQ.out; omega]
                exact HW8.out.1
              · intro b' o' e hlt
                cases e
                exact HP8.out (by have := HM.out; omega)
              · simpa [World.setCell] using HS3.out
            case measure =>
              simp [intOf]
              have := HFI.out
              have := HM.out
              have := H12.out
              omega
          · have hq1 : decide ((l.drop f).take (12 + N) = frameB ckS pre.length (((l.drop f).drop 4).take N)) = false := decide_eq_false hpre
            have HU := Lib.hid (HOP.out.stop _ HNN.out (.inr (.inr (.inr (by rw [List.length_map]; exact fun e => hpre e.symm)))))
            simp only [hq1]
            clear hq1 hpre
            refine wlIn_v rfl (fun c h => by cases h) (by go_simp; with_reducible rfl) ?_
            try simp only [Act.put, List.setIfInBounds_toArray, List.set_cons_zero, List.set_cons_succ]
            refine wlIn_v rfl (fun c h => by cases h) (by go_simp; with_reducible rfl) ?_
            try simp only [Act.put, List.setIfInBounds_toArray, List.set_cons_zero, List.set_cons_succ]
            refine wlIn_skip rfl ?_
            try simp only [Act.put, List.setIfInBounds_toArray, List.set_cons_zero, List.set_cons_succ]
            refine wlIn_skip rfl ?_
            try simp only [Act.put, List.setIfInBounds_toArray, List.set_cons_zero, List.set_cons_succ]
            refine wlIn_skip rfl ?_
            try simp only [Act.put, List.setIfInBounds_toArray, List.set_cons_zero, List.set_cons_succ]
            refine wlIn_skip rfl ?_
            try simp only [Act.put, List.setIfInBounds_toArray, List.set_cons_zero, List.set_cons_succ]
            refine wlIn_v rfl (fun c h => by cases h) (by go_simp; with_reducible rfl) ?_
            try simp only [Act.put, List.setIfInBounds_toArray, List.set_cons_zero, List.set_cons_succ]
            refine wpListIn_nil ?_
            go_wp2_with fail
            refine bodyPost_ret (results_none rfl _ _ _) rfl ?_
            exact ⟨⟨_, rfl⟩, pre, HU.out.symm, HJ2.out⟩
end Go.Proofs.Ytdadnajbdnbbdaa

/- store: Open. -/
namespace Go.Mv
open Go.RowKit Mvp
/-- a store that holds these records -/
def SMf (recs : List (List UInt8)) (c : Nat → List UInt8 → List UInt8) : SM := ⟨framesB c 0 recs, none, false, recs⟩
theorem SMf.inv {recs : List (List UInt8)} {c : Nat → List UInt8 → List UInt8} (h : ∀ r ∈ recs, r.length ≤ 16384) : SInv c (SMf recs c) := ⟨h, [], by unfold SMf; rw [List.append_nil], .inl rfl⟩
theorem SMf.new (c : Nat → List UInt8 → List UInt8) : SMf [] c = SM.new := rfl
theorem SMf.disk (c : Nat → List UInt8 → List UInt8) (d : List UInt8) : SMf (unframe c d.length 0 d) c = SM.ofDisk c d := rfl
theorem SA.obj {TS TB TX : TypeId} {W : World} {base g lim : Nat} {s : SM} {v rv : Value} {k : Nat} {o o' : Obj} (hk : W.heap[k]? = some o) (ho : o.isCells = false) (h : SA TS TB TX W base g lim s v rv) : SA TS TB TX (W.putObj k o') base g lim s v rv :=
  ⟨h.low, h.has.obj hk ho, h.bytes.obj hk ho, h.exts.obj hk ho⟩
theorem StB.has {TS TB TX : TypeId} {W : World} {base g lim : Nat} {s : SM} {v rv : Value} (h : SA TS TB TX W base g lim s v rv) {k : Nat} (hk : StB g v rv k) : ∃ L T, Has W k L T := by
  have own : ∀ {T : TypeId} {sz n : Nat} {x : Value} {L : List Value}, Own W base T sz x n L → OwnB x k → ∃ L T, Has W k L T := by
    intro T sz n x L ho hx
    rcases ho.2 with ⟨rfl, -⟩ | ⟨g', o, cap, B, rfl, -, hh, -⟩
    · cases hx
    · have e : g' = k := by
        have e2 : some g' = some k := hx
        exact Option.some.inj e2
      exact ⟨B, T, e ▸ hh⟩
  rcases hk with rfl | hk | hk
  · exact ⟨_, _, h.has⟩
  · exact own h.bytes hk
  · exact own h.exts hk
theorem StB.keeps {TS TB TX : TypeId} {W W' : World} {base g lim : Nat} {s : SM} {v rv : Value} (h : SA TS TB TX W base g lim s v rv) (hf : Fr (StB g v rv) W W') (B : Nat) : KeepsFrom B W W' :=
  ⟨hf.size, fun k o _ hk ho => (hf.block k (Array.getElem?_eq_some_iff.1 hk).1 fun hs => by
    obtain ⟨L, T, lo, hi, h2, -⟩ := StB.has h hs
    rw [hk] at h2
    cases h2
    cases ho).trans hk⟩
theorem size_put (W : World) (k : Nat) (o' : Obj) : (W.putObj k o').heap.size = W.heap.size := by simp [World.putObj]
theorem Fr.objNew {w W : World} (h : Fr Nob w W) {k : Nat} (hk : w.heap.size ≤ k) (o' : Obj) : Fr Nob w (W.putObj k o') := h.new (Fr.obj W k o') hk
theorem StB.ne {TS TB TX T : TypeId} {W : World} {base g lim : Nat} {s : SM} {v rv : Value} (h : SA TS TB TX W base g lim s v rv) {gb : Nat} {L : List Value} (hg : Has W gb L T) (h1 : TS ≠ T) (h2 : TB ≠ T) (h3 : TX ≠ T) (k : Nat) (hk : StB g v rv k) : k ≠ gb := by
  rcases hk with rfl | hk | hk
  · intro e
    subst e
    obtain ⟨_, _, e1, _⟩ := hg
    obtain ⟨_, _, e2, _⟩ := h.has
    rw [e1] at e2
    cases e2
    exact h1 rfl
  · exact fun e => h.bytes.ne hg h2 (e ▸ hk)
  · exact fun e => h.exts.ne hg h3 (e ▸ hk)
end Go.Mv
namespace Go.Proofs.Ytdadnajbdnbbdaa
open Go.RowKit Go.Mv Mvp
theorem SMf_put (recs : List (List UInt8)) (c : Nat → List UInt8 → List UInt8) (b : List UInt8) : (SMf recs c).put c b = (SMf (recs ++ [b]) c, true) := by
  rw [put_none rfl]
  unfold SMf
  rw [framesB_snoc, Nat.zero_add]
theorem PartIs_obj {W : World} {k : Nat} {o o' : Obj} (hk : W.heap[k]? = some o) (ho : o.isCells = false) {v : Value} {l : List UInt8} (h : PartIs W v l) : PartIs (W.putObj k o') v l := by
  obtain ⟨a, n, c, h1, h2, h3, h4, h5⟩ := h
  exact ⟨a, n, c, h1, h2, h3, h4.obj hk ho, fun x hx => by rw [size_put]; exact h5 x hx⟩
/-- what a round of Open leaves -/
def OpR (w0 : World) (base g g6 gb lim B : Nat) (pre : List (Value × List UInt8)) (W : World) : Prop :=
  ∃ v rv, SAt1 W base g lim (SMf (pre.map (·.2)) ckS) v rv ∧ Has W g6 [.pointer (some ⟨g, 0, none⟩)] 45 ∧ Fr Nob w0 W ∧ (∀ k, StB g v rv k → k ≠ gb) ∧ SInv ckS (SMf (pre.map (·.2)) ckS) ∧ B ≤ W.heap.size
theorem no_outS {K : Act → World → Prop} {Q : Exit → Act → World → Prop} (h : ∀ a w, ¬ Q .outgrown a w) : ¬ LetsOut (Exit.then K Q) := by
  rintro ⟨a, w, k⟩
  exact h a w k
theorem z_stp : (Try.prog.info? 45).map (·.zero) = some (some (.pointer none)) := by kernel_rfl
attribute [local irreducible] permS permP toB turnsK squeeze permN permB spongeB feed frameL framesL tagL bigN bigJ numS frameB framesB ckS exC SM.put SM.add unframe OpenI
set_option maxRecDepth 100000 in
theorem frames_any (a : Option Addr) (n c : Nat) (w : World) : Calls Try.prog 38 #[.slice a n c] w fun e w' => ∃ g, e = .returned (.func (.func 42) #[] #[.pointer (some ⟨g, 0, none⟩)]) ∧ Has w' g [.slice a n c] 22 ∧ w.heap.size ≤ g ∧ Fr Nob w w' := by
  have st0 := St.start Nob w
  go_enter Try.func38, Try.ntmps38
  go_wp2_with (with_reducible refine wl_stop (o := ⟨some 1, _, _, _, _, _⟩) ?_)
  refine wl_box rfl rfl rfl [.slice a n c] rfl ?_
  intro w1 hh hf hz
  have HH := Lib.hid hh
  have HF := Lib.hid hf
  clear hh hf hz st0
  go_wp2_with fail
  go_ret
  exact ⟨_, rfl, HH.out, Nat.le_refl _, HF.out⟩
set_option maxHeartbeats 4000000 in
set_option maxRecDepth 1000000 in
theorem sOpen_ok (a : Option Addr) (n c : Nat) (l : List UInt8) (lim : Nat) (w : World) (hr : RdB w a n l) (hold : Old w a) (hnc : n ≤ c) (h1 : 64 ≤ lim) (h2 : lim ≤ 1048576) (hn : n ≤ lim) :
    Calls Try.prog 27 #[.slice a n c, .int .i64 (lim : Int)] w fun e w' => ∃ g v rv, e = .returned (.tuple #[.pointer (some ⟨g, 0, none⟩), .int .i64 0]) ∧ SAt1 w' w.heap.size g lim (SM.ofDisk ckS l) v rv ∧ Fr Nob w w' := by
  have HR := Lib.hid hr
  have HOLD := Lib.hid hold
  have HNC := Lib.hid hnc
  have H1 := Lib.hid h1
  have H2 := Lib.hid h2
  have HN := Lib.hid hn
  have hni : ¬ (lim : Int) < (n : Int) := by omega
  clear hr hold hnc h1 h2 hn
  refine (callsIn_wide (n := 3)).1 ?_
  refine callsIn_of_wp_marks Try.func27 rfl trivial ?_ rfl
  simp only [Try.ntmps27, List.size_toArray, List.length_cons, List.length_nil, Nat.reduceAdd, Nat.reduceSub, Array.replicate_succ, Array.replicate_zero, List.push_toArray, List.append_toArray, List.nil_append, List.cons_append]
  refine wpIn_wide.2 ?_
  go_wp2_with fail
  refine (sNew_ok lim w H1.out H2.out).mono ?_
  rintro e1 w1 ⟨g, rfl, hs1, hf1⟩
  have HS1 := Lib.hid hs1
  have HF1 := Lib.hid hf1
  clear hs1 hf1
  go_wp2_with (with_reducible refine wl_stop (o := ⟨some 6, _, _, _, _, _⟩) ?_)
  refine wl_allocS (St.start Nob w1) rfl rfl z_stp [.pointer none] rfl ?_
  intro g6 w2 st2
  simp only [List.nil_append] at st2
  have hp2 := (st2.at 0 rfl).put1 0 (.pointer (some ⟨g, 0, none⟩))
  obtain ⟨u, cu, fu⟩ := (st2.at 0 rfl).ready (i := 0) (by simp)
  have HP2 := Lib.hid hp2
  have HS2 := Lib.hid ((HS1.out.still st2.fr).keep hp2.2 fun k hk e => StB.ne (HS1.out.still st2.fr) (st2.at 0 rfl) (by decide) (by decide) (by decide) k hk e)
  have HF2 := Lib.hid ((HF1.out.then st2.fr).new hp2.2 (Nat.le_trans HF1.out.size ((st2.own _ List.mem_cons_self).resolve_right fun h => h.elim)))
  clear hp2 st2
  go_wp2_with fail
  refine (frames_any a n c _).mono ?_
  rintro e3 w3 ⟨gb, rfl, hgb, hgl, hf3⟩
  have HGB := Lib.hid hgb
  have HGL := Lib.hid (Nat.lt_of_lt_of_le HP2.out.1.lt hgl)
  have HS3 := Lib.hid (HS2.out.still hf3)
  have HF3 := Lib.hid (HF2.out.then hf3)
  have HG6 := Lib.hid (HP2.out.1.keep hf3 id)
  have HSB := Lib.hid (fun k (hk : StB g (.slice none 0 0) (.slice none 0 0) k) => StB.ne HS3.out hgb (by decide) (by decide) (by decide) k hk)
  have HGW := Lib.hid (Nat.le_trans HF2.out.size hgl)
  clear hgb hgl hf3 cu fu
  go_wp2_with fail
  refine wp_rangeG (gf := 42) (lb := #[.pointer (some ⟨gb, 0, none⟩)]) rfl (enters_of Try.func42 (by kernel_rfl) rfl) (frames_seq gb a n c l w3 HGB.out (HR.out.still HF3.out) HNC.out (by have := HN.out; have := H2.out; omega)) (fun k e => by have e2 : k = gb := e; subst e2; exact HGB.out.lt) (fun h k => h.trans k) (fun W k o o' _ hk ho => ⟨fun L h => h.obj hk ho, fun h => h.obj hk ho, by rw [size_put]; exact Nat.le_refl _⟩)
    (OpR w w.heap.size g g6 gb lim w3.heap.size) ?_ ?_ ?_ (fun x => { tmps := #[.slice a n c, .int .i64 (lim : Int), undef, undef, .pointer none, .int .i64 0, .pointer (some ⟨g6, 0, none⟩), .int .i64 0, x.1, .tuple #[.pointer (some ⟨g, 0, none⟩), .int .i64 0], .int .i64 (lim : Int), .tuple #[.pointer (some ⟨g, 0, none⟩), .int .i64 0], .pointer (some ⟨g, 0, none⟩), .int .i64 0, .bool false, .int .i64 0, .bool false, undef, .bool false, .slice a n c, .int .i64 (n : Int), .int .i64 (lim : Int), .bool false, .slice a n c, .func (.func 42) #[] #[.pointer (some ⟨gb, 0, none⟩)], x.1, undef, undef, undef, undef], defers := [] }) ?_ ?_ ?_ ?_
  · rintro pre A B ⟨v, rv, q1, q2, q3, q4, q5, q6⟩ hf
    exact ⟨v, rv, q1.keep hf q4, q2.keep hf fun e => by have e2 : g6 = gb := e; have := HGL.out; omega, q3.new hf HGW.out, q4, q5, Nat.le_trans q6 hf.size⟩
  · rintro pre W k o o' hk hk2 ho ⟨v, rv, q1, q2, q3, q4, q5, q6⟩
    exact ⟨v, rv, q1.obj hk2 ho, q2.obj hk2 ho, q3.objNew (Nat.le_trans HF3.out.size hk) o', q4, q5, by rw [size_put]; exact q6⟩
  · exact ⟨_, _, (by show SAt1 _ _ _ _ (SMf [] ckS) _ _; rw [SMf.new]; exact HS3.out), HG6.out, HF3.out, HSB.out, SMf.inv (by simp), Nat.le_refl _⟩
  · intro l0 x W K hK
    refine regionIn_of (no_outS fun _ _ h => h) rfl ?_
    simp only [List.setIfInBounds_toArray, List.set_cons_zero, List.set_cons_succ]
    have HK := Lib.hid hK
    clear hK
    go_wp2_with fail
    exact HK.out
  · rintro l0 pre ⟨x1, x2⟩ W hl ⟨v, rv, q1, q2, q3, q4, q5, q6⟩ ⟨hp1, hp2, hp3, L, hgL⟩
    obtain ⟨ax, nx, cx, hx1, hx2, hx3, hx4, hx5⟩ := hp1
    subst hx1
    have hlx := hx4.len
    have HPX := Lib.hid (show PartIs W (.slice ax nx cx) x2 from ⟨ax, nx, cx, rfl, hx2, hx3, hx4, hx5⟩)
    have HSS := Lib.hid q1
    have HFW := Lib.hid q3
    have HNE := Lib.hid q4
    have HIV := Lib.hid q5
    have HSZ := Lib.hid q6
    have HB := Lib.hid hp3
    have HX2 := Lib.hid hp2
    have HGBL := Lib.hid hgL
    have HG6 := Lib.hid q2
    have c6 := q2.cell (i := 0) (v := .pointer (some ⟨g, 0, none⟩)) rfl
    have HLL := Lib.hid (show l.length ≤ 1048576 by have := HR.out.len; have := HN.out; have := H2.out; omega)
    clear q1 q2 q3 q4 q5 q6 hp2 hp3 hgL hx2 hx3 hx4 hx5 hlx
    refine wpIn_block ?_
    refine regionIn_of (by rintro ⟨_, _, k⟩; exact k) rfl ?_
    go_wp2_with fail
    refine (sput_any g w.heap.size lim (SMf (pre.map (·.2)) ckS) v rv ax nx cx x2 W HSS.out HPX.out rfl HIV.out (by show (framesB ckS 0 _).length ≤ _; have := HB.out; have := HLL.out; omega) (by show (-1 : Int) < _; decide)).mono ?_
    rintro e4 W4 ⟨v', rv', rfl, hs4, hf4'⟩
    have hf4 := hf4'.toFr
    rw [SMf_put] at hs4
    have HS4 := Lib.hid hs4
    have HF4 := Lib.hid hf4
    clear hs4 hf4 hf4' c6
    go_wp2_with fail
    have hgb4 := HGBL.out.keep HF4.out fun hk => HNE.out gb hk rfl
    refine ⟨StB.keeps HSS.out HF4.out _, ⟨fun L h => h.keep HF4.out fun hk => HNE.out gb hk rfl, fun h => h.keep HF4.out fun x hx hk => ?_, HF4.out.size⟩, ⟨v', rv', ?_, HG6.out.keep HF4.out ?_, HFW.out.stb HSS.out (Nat.le_refl _) HF4.out, fun k hk => ?_, ?_, Nat.le_trans HSZ.out HF4.out.size⟩⟩
    · have h1 := HOLD.out x hx
      have h2 := (HSS.out.lt hk).1
      omega
    · rw [List.map_append]; exact HS4.out
    · intro hk
      exact StB.ne HSS.out HG6.out (by decide) (by decide) (by decide) g6 hk rfl
    · exact StB.ne HS4.out hgb4 (by decide) (by decide) (by decide) k hk
    · rw [List.map_append]
      exact SMf.inv fun r hr => (List.mem_append.1 hr).elim (fun h => HIV.out.1 r h) fun h => by rw [List.mem_singleton.1 h]; exact HX2.out
  · rintro pre x W k o o' ⟨hp1, hp2, hp3, L, hgL⟩ hk hk2 ho
    exact ⟨PartIs_obj hk2 ho hp1, hp2, hp3, L, hgL.obj hk2 ho⟩
  · rintro D xs W hD hS ⟨v, rv, q1, q2, q3, q4, q5, q6⟩ hdef
    have HS := Lib.hid hS
    have HQ1 := Lib.hid q1
    have HFW := Lib.hid q3
    have HDD := Lib.hid hdef
    have HDL := Lib.hid hD
    have c6 := q2.cell (i := 0) (v := .pointer (some ⟨g, 0, none⟩)) rfl
    clear q1 q2 q3 q4 q5 q6 hS hdef hD
    go_wp2_with fail
    refine ⟨by simp, .inl ⟨_, _, rfl, run_takeDeferred HDD.out, ?_⟩⟩
    refine ⟨_, results_tmp2 rfl _ _ _, g, v, rv, rfl, ?_, HFW.out.objNew (Nat.le_trans HF3.out.size HDL.out) _⟩
    rw [← SMf.disk, ← HS.out]
    exact HQ1.out.obj HDD.out rfl
set_option maxRecDepth 1000000 in
theorem sOpen_lim (a : Option Addr) (n c : Nat) (lim : Int) (w : World) (h : lim < 64 ∨ 1048576 < lim) :
    Calls Try.prog 27 #[.slice a n c, .int .i64 lim] w fun e w' => e = .returned (.tuple #[.pointer none, .int .i64 7]) ∧ Fr Nob w w' := by
  have H := Lib.hid h
  clear h
  refine (callsIn_wide (n := 3)).1 ?_
  refine callsIn_of_wp_marks Try.func27 rfl trivial ?_ rfl
  simp only [Try.ntmps27, List.size_toArray, List.length_cons, List.length_nil, Nat.reduceAdd, Nat.reduceSub, Array.replicate_succ, Array.replicate_zero, List.push_toArray, List.append_toArray, List.nil_append, List.cons_append]
  refine wpIn_wide.2 ?_
  go_wp2_with fail
  refine (sNew_no lim w H.out).mono ?_
  rintro e1 w1 ⟨rfl, rfl⟩
  go_wp2_with (with_reducible refine wl_stop (o := ⟨some 6, _, _, _, _, _⟩) ?_)
  refine wl_allocS (St.start Nob w1) rfl rfl z_stp [.pointer none] rfl ?_
  intro g6 w2 st2
  simp only [List.nil_append] at st2
  have hp2 := (st2.at 0 rfl).put1 0 (.pointer none)
  obtain ⟨u, cu, fu⟩ := (st2.at 0 rfl).ready (i := 0) (by simp)
  have HP2 := Lib.hid hp2
  have HF2 := Lib.hid ((st2.fr).new hp2.2 ((st2.own _ List.mem_cons_self).resolve_right fun h => h.elim))
  clear hp2 st2
  go_wp2_with fail
  exact ⟨_, results_tmp2 rfl _ _ _, rfl, HF2.out⟩
set_option maxHeartbeats 1000000 in
set_option maxRecDepth 1000000 in
theorem sOpen_long (a : Option Addr) (n c : Nat) (lim : Nat) (w : World) (h1 : 64 ≤ lim) (h2 : lim ≤ 1048576) (hn : lim < n) :
    Calls Try.prog 27 #[.slice a n c, .int .i64 (lim : Int)] w fun e w' => e = .returned (.tuple #[.pointer none, .int .i64 1]) ∧ Fr Nob w w' := by
  have H1 := Lib.hid h1
  have H2 := Lib.hid h2
  have hni : (lim : Int) < (n : Int) := by omega
  clear h1 h2 hn
  refine (callsIn_wide (n := 3)).1 ?_
  refine callsIn_of_wp_marks Try.func27 rfl trivial ?_ rfl
  simp only [Try.ntmps27, List.size_toArray, List.length_cons, List.length_nil, Nat.reduceAdd, Nat.reduceSub, Array.replicate_succ, Array.replicate_zero, List.push_toArray, List.append_toArray, List.nil_append, List.cons_append]
  refine wpIn_wide.2 ?_
  go_wp2_with fail
  refine (sNew_ok lim w H1.out H2.out).mono ?_
  rintro e1 w1 ⟨g, rfl, hs1, hf1⟩
  have HF1 := Lib.hid hf1
  clear hs1 hf1
  go_wp2_with (with_reducible refine wl_stop (o := ⟨some 6, _, _, _, _, _⟩) ?_)
  refine wl_allocS (St.start Nob w1) rfl rfl z_stp [.pointer none] rfl ?_
  intro g6 w2 st2
  simp only [List.nil_append] at st2
  have hp2 := (st2.at 0 rfl).put1 0 (.pointer (some ⟨g, 0, none⟩))
  obtain ⟨u, cu, fu⟩ := (st2.at 0 rfl).ready (i := 0) (by simp)
  have HF2 := Lib.hid ((HF1.out.then st2.fr).new hp2.2 (Nat.le_trans HF1.out.size ((st2.own _ List.mem_cons_self).resolve_right fun h => h.elim)))
  clear hp2 st2
  go_wp2_with fail
  exact ⟨_, results_tmp2 rfl _ _ _, rfl, HF2.out⟩
end Go.Proofs.Ytdadnajbdnbbdaa

/- StoreTrue: the law's walk. -/
namespace Go.Proofs.Ytdadnajbdnbbdaa
open Go.RowKit Go.Mv Mvp
attribute [local irreducible] permS permP toB turnsK squeeze permN permB spongeB feed frameL framesL tagL bigN bigJ numS frameB framesB ckS exC SM.put SM.add unframe OpenI
theorem add_bnd (s : SM) (lim : Nat) (b : List UInt8) (h : s.d.length ≤ lim) : (s.add ckS lim b).1.d.length ≤ lim := SM.add_lim ckS_len h b
theorem add_left (s : SM) (lim : Nat) (b : List UInt8) (h : lftI s < 9223372036854775808) : lftI (s.add ckS lim b).1 < 9223372036854775808 := by
  cases ho : s.off with
  | true => rw [add_off ho]; exact h
  | false =>
    by_cases h1 : 16384 < b.length
    · rw [add_long ho h1]; exact h
    · by_cases h2 : lim < s.d.length + 12 + b.length
      · rw [add_full ho h1 h2]; exact h
      · rw [add_ok ho h1 h2]
        cases hl : s.left with
        | none => rw [put_none hl]; unfold lftI; simp [hl]
        | some k =>
          rw [lftI_some hl] at h
          by_cases hk : k < (frameB ckS s.recs.length b).length
          · rw [put_short hl b hk]
            have e : lftI ({ s with d := s.d ++ (frameB ckS s.recs.length b).take k, off := true } : SM) = (k : Int) := lftI_some hl
            rw [e]; exact h
          · rw [put_some hl b hk]
            show ((k - (frameB ckS s.recs.length b).length : Nat) : Int) < _
            omega
theorem ss_snocS (l : List (List UInt8)) (x : List UInt8) : ss l ++ [.string (mkS x)] = ss (l ++ [x]) := by simp [ss]
theorem info_strS : (Try.prog.info? 9).map (fun i => (i.zero, i.size, i.bytes)) = some (some (.string ⟨#[]⟩), 1, 16) := by kernel_rfl
end Go.Proofs.Ytdadnajbdnbbdaa

/- The reference's frame. -/
namespace Go.Proofs.Ytdadnajbdnbbdaa
open Go.RowKit Go.Mv Mvp
theorem mkS_app2 (a b : List UInt8) : mkS a ++ mkS b = mkS (a ++ b) := by
  unfold mkS
  apply ByteArray.ext
  simp
theorem exec_binS {P : Program} {op : BinOp} {ty : TypeId} {o : Oper} {a : Act} {p q : Operand} {T : TypeId} {x y v : Value} (ho : o.op = .binOp op ty p q T) (hp : a.eval p = x) (hq : a.eval q = y) (w : World)
    (h1 : (eqGuard op ty p q x y).run P w = .ok () w) (h2 : (binOp op ty x y).run P w = .ok v w) : (execOp a.eval o).run P w = .ok (.value v) w := by
  subst hp hq
  unfold execOp
  simp only [ho, Sem.run_bind, h1, h2, Result.andThen_ok, Sem.run_pure]
theorem exec_strS {P : Program} {o : Oper} {a : Act} {x : Operand} {src dst e : TypeId} (ho : o.op = .convert src dst x) (hs : P.underlying src = some (.slice e)) (he : P.underlying e = some (.int .u8)) (hd : P.underlying dst = some .string) {sa : Option Addr} {m c : Nat} {l : List UInt8}
    (hx : a.eval x = .slice sa m c) {w : World} (h : RdB w sa m l) : (execOp a.eval o).run P w = .ok (.value (.string (mkS l))) w := by
  unfold execOp
  simp only [ho, hx, Sem.run_bind, run_string h c hs he hd, Result.andThen_ok, Sem.run_pure]
theorem ext_hiS (s : List UInt8) (k : Nat) : (mkS s).extract 0 k = mkS (s.take k) := by
  apply ByteArray.ext
  apply Array.toList_inj.1
  simp [mkS]
theorem wp_exec {P : Program} {o : Oper} {a : Act} {w : World} {v : Value} {K : Act → World → Prop} {Q : Exit → Act → World → Prop} (h : (execOp a.eval o).run P w = .ok (.value v) w) (hK : K (a.put o.dst v) w) : o.wp P a w K Q := by
  unfold Oper.wp
  rw [h]
  exact hK
theorem exec_addRf {o : Oper} {a : Act} {p q : Operand} {T U : TypeId} {s t : ByteArray} {r : List UInt8} (ho : o.op = .binOp .add T p q U) (hp : a.eval p = .string s) (hq : a.eval q = .string t) (_hT : Try.prog.underlying T = some .string) (h : s.size + t.size ≤ 10000000) (hr : s ++ t = mkS r) (w : World) :
    (execOp a.eval o).run Try.prog w = .ok (.value (.string (mkS r))) w := by
  have h3 : (binOp .add T (.string s) (.string t)).run Try.prog w = .ok (.string (s ++ t)) w := by
    have h4 : s.size + t.size ≤ 9223372036854775807 := by omega
    go_simp
  have h2 := exec_binS (P := Try.prog) ho hp hq w (by go_simp) h3
  rwa [hr] at h2
theorem exec_cutRf {o : Oper} {a : Act} {x : Operand} {T : TypeId} {l : List UInt8} (ho : o.op = .slice T x none (some (.const (.int .i64 8))) none) (hx : a.eval x = .string (mkS l)) (hT : Try.prog.underlying T = some .string) (h : 8 ≤ l.length) (w : World) :
    (execOp a.eval o).run Try.prog w = .ok (.value (.string (mkS (l.take 8)))) w := by
  have h1 : (8 : Int) ≤ ((mkS l).size : Int) := by rw [mkS_size]; omega
  have e := ext_hiS l 8
  generalize mkS l = q at *
  unfold execOp
  simp only [ho, hx]
  go_simp
attribute [local irreducible] permS permP toB turnsK squeeze permN permB spongeB feed frameL framesL tagL bigN bigJ numS frameB framesB ckS exC SM.put SM.add unframe OpenI
set_option maxHeartbeats 4000000 in
set_option maxRecDepth 1000000 in
theorem Rframe_any (i : Nat) (l : List UInt8) (w : World) (hi : i ≤ 1000000) (hl : l.length ≤ 16384) :
    Calls Try.prog 36 #[.int .i64 (i : Int), .string (mkS l)] w fun e w' => e = .returned (.string (mkS (frameB ckS i l))) ∧ Fr Nob w w' := by
  have HI := Lib.hid hi
  have HL := Lib.hid hl
  have hi1 : (i : Int) ≤ 1000000 := by omega
  have hq : (mkS l).size = l.length := mkS_size l
  have HQ := Lib.hid hq
  have hqI : ((mkS l).size : Int) ≤ 16384 := by omega
  have HB8 := Lib.hid (show [Value.int .u8 ((i : Int) / 72057594037927936), .int .u8 ((i : Int) / 281474976710656), .int .u8 ((i : Int) / 1099511627776), .int .u8 ((i : Int) / 4294967296), .int .u8 ((i : Int) / 16777216), .int .u8 ((i : Int) / 65536), .int .u8 ((i : Int) / 256 % 256), .int .u8 ((i : Int) % 256)] = bs (bigN i 8) by
    rw [big8]
    simp only [bs, List.map_cons, List.map_nil, UInt8.toNat_ofNat', List.cons.injEq, Value.int.injEq, true_and, and_true]
    omega)
  have HB4 := Lib.hid (show ([Value.int .u8 (((mkS l).size : Int) / 16777216), .int .u8 (((mkS l).size : Int) / 65536), .int .u8 (((mkS l).size : Int) / 256), .int .u8 (((mkS l).size : Int) % 256)].flatMap fun v => v.cells.toList) = bs (bigN l.length 4) by
    rw [big4, hq]
    simp only [bs, List.map_cons, List.map_nil, UInt8.toNat_ofNat', List.flatMap_cons, List.flatMap_nil, Value.cells, List.singleton_append, List.append_nil, List.cons.injEq, Value.int.injEq, true_and, and_true]
    omega)
  have HQS := Lib.hid (show (mkS l).size ≤ 16384 by omega)
  clear hi hl hq
  generalize hqq : mkS l = q at *
  have HQQ := Lib.hid hqq
  clear hqq
  go_enter Try.func36, Try.ntmps36
  go_wp2_with (with_reducible refine wl_stop (o := ⟨some 35, _, _, _, _, _⟩) ?_)
  refine wl_slit rfl rfl Try.underlying22 info_u8 [.int .u8 ((i : Int) / 72057594037927936), .int .u8 ((i : Int) / 281474976710656), .int .u8 ((i : Int) / 1099511627776), .int .u8 ((i : Int) / 4294967296), .int .u8 ((i : Int) / 16777216), .int .u8 ((i : Int) / 65536), .int .u8 ((i : Int) / 256 % 256), .int .u8 ((i : Int) % 256)] rfl (by intro u hu; simp only [List.mem_cons, List.not_mem_nil, or_false] at hu; rcases hu with rfl | rfl | rfl | rfl | rfl | rfl | rfl | rfl <;> rfl) rfl rfl ?_
  intro w2 hh2 hf2 hz2
  rw [HB8.out] at hh2
  try simp only [Act.put, List.setIfInBounds_toArray, List.set_cons_zero, List.set_cons_succ]
  refine wl_string rfl rfl Try.underlying22 Try.underlying5 Try.underlying9 rfl (show RdB w2 _ 8 (bigN i 8) from (by have h := Rd.whole hh2; rw [length_bs, bigN_len] at h; exact h)) ?_
  have HFW := Lib.hid hf2
  clear hh2 hf2 hz2
  go_wp2_with fail
  refine wp_region_noPanic ?_
  refine wp_region_posA (fun wx => Fr Nob w wx) [0, 1, 2, 3, 4, 5, 6, 7, 8, 9, 10, 11, 12, 13, 14, 15, 16, 17, 18, 19] [] (fun j => match j with | 0 => [] | 1 => [0] | 2 => [1] | 3 => [] | 4 => [3] | 5 => [4] | 6 => [] | 7 => [6] | 8 => [7] | 9 => [] | 10 => [9] | 11 => [2, 5, 8, 10] | 12 => [11] | 13 => [] | 14 => [12, 13] | 15 => [] | 16 => [] | 17 => [15, 16] | 18 => [17] | 19 => [18] | _ => []) (fun j x wx => match j with | 0 => x 0 = .int .i64 ((q.size : Int)) | 1 => x 1 = .int .i64 ((q.size : Int) / 16777216) | 2 => x 2 = .int .u8 ((q.size : Int) / 16777216) | 3 => x 3 = .int .i64 ((q.size : Int)) | 4 => x 4 = .int .i64 ((q.size : Int) / 65536) | 5 => x 5 = .int .u8 ((q.size : Int) / 65536) | 6 => x 6 = .int .i64 ((q.size : Int)) | 7 => x 7 = .int .i64 ((q.size : Int) / 256) | 8 => x 8 = .int .u8 ((q.size : Int) / 256) | 9 => x 9 = .int .i64 ((q.size : Int)) | 10 => x 10 = .int .u8 ((q.size : Int) % 256) | 11 => ∃ g, x 11 = .slice (some ⟨g, 0, none⟩) 4 4 ∧ Has wx g (bs (bigN l.length 4)) 5 | 12 => x 12 = .string (mkS (bigN l.length 4)) | 13 => x 13 = .string q | 14 => x 14 = .string (mkS (bigN l.length 4 ++ l)) | 15 => x 15 = .string (mkS (bigN i 8)) | 16 => x 16 = .string q | 17 => ∃ g, x 17 = .slice (some ⟨g, 0, none⟩) 2 2 ∧ Has wx g (ss [bigN i 8, l]) 9 | 18 => x 18 = .string (mkS (ckS i l)) | 19 => x 19 = .string (mkS ((ckS i l).take 8)) | _ => True) 20 (.m 20 (.w 21 .nil)) ?_ (fun x => ?_) (by kernel_rfl) (by kernel_rfl) (fun _ _ _ _ _ h => h) HFW.out.drew (fun _ _ h k => h.then k) ?_ ?_
  rotate_left 1
  · simp only [puts, putI, Act.put, List.getElem?_toArray, List.getElem?_cons_zero, List.getElem?_cons_succ, List.setIfInBounds_toArray, List.set_cons_zero, List.set_cons_succ]
    exact rfl
  refine obls_cons rfl rfl (fun x wx hG hp => ?_) (fun y _ _ h k => h) ?_
  · try dsimp only
    clear hp
    exact pos_v (v := .int .i64 ((q.size : Int))) (by go_simp; try with_reducible rfl) rfl
  refine obls_cons rfl rfl (fun x wx hG hp => ?_) (fun y _ _ h k => h) ?_
  · try dsimp only
    have e0 : x 0 = .int .i64 ((q.size : Int)) := hp 0 (by decide)
    generalize x 0 = v0 at e0 ⊢
    subst e0
    clear hp
    exact pos_v (v := .int .i64 ((q.size : Int) / 16777216)) (by go_simp; try with_reducible rfl) rfl
  refine obls_cons rfl rfl (fun x wx hG hp => ?_) (fun y _ _ h k => h) ?_
  · try dsimp only
    have e1 : x 1 = .int .i64 ((q.size : Int) / 16777216) := hp 1 (by decide)
    generalize x 1 = v1 at e1 ⊢
    subst e1
    clear hp
    exact pos_v (v := .int .u8 ((q.size : Int) / 16777216)) (by go_simp; try exact IntWalk.u8_in _ (by omega)) rfl
  refine obls_cons rfl rfl (fun x wx hG hp => ?_) (fun y _ _ h k => h) ?_
  · try dsimp only
    clear hp
    exact pos_v (v := .int .i64 ((q.size : Int))) (by go_simp; try with_reducible rfl) rfl
  refine obls_cons rfl rfl (fun x wx hG hp => ?_) (fun y _ _ h k => h) ?_
  · try dsimp only
    have e3 : x 3 = .int .i64 ((q.size : Int)) := hp 3 (by decide)
    generalize x 3 = v3 at e3 ⊢
    subst e3
    clear hp
    exact pos_v (v := .int .i64 ((q.size : Int) / 65536)) (by go_simp; try with_reducible rfl) rfl
  refine obls_cons rfl rfl (fun x wx hG hp => ?_) (fun y _ _ h k => h) ?_
  · try dsimp only
    have e4 : x 4 = .int .i64 ((q.size : Int) / 65536) := hp 4 (by decide)
    generalize x 4 = v4 at e4 ⊢
    subst e4
    clear hp
    exact pos_v (v := .int .u8 ((q.size : Int) / 65536)) (by go_simp; try exact IntWalk.u8_in _ (by omega)) rfl
  refine obls_cons rfl rfl (fun x wx hG hp => ?_) (fun y _ _ h k => h) ?_
  · try dsimp only
    clear hp
    exact pos_v (v := .int .i64 ((q.size : Int))) (by go_simp; try with_reducible rfl) rfl
  refine obls_cons rfl rfl (fun x wx hG hp => ?_) (fun y _ _ h k => h) ?_
  · try dsimp only
    have e6 : x 6 = .int .i64 ((q.size : Int)) := hp 6 (by decide)
    generalize x 6 = v6 at e6 ⊢
    subst e6
    clear hp
    exact pos_v (v := .int .i64 ((q.size : Int) / 256)) (by go_simp; try with_reducible rfl) rfl
  refine obls_cons rfl rfl (fun x wx hG hp => ?_) (fun y _ _ h k => h) ?_
  · try dsimp only
    have e7 : x 7 = .int .i64 ((q.size : Int) / 256) := hp 7 (by decide)
    generalize x 7 = v7 at e7 ⊢
    subst e7
    clear hp
    exact pos_v (v := .int .u8 ((q.size : Int) / 256)) (by go_simp; try exact IntWalk.u8_in _ (by omega)) rfl
  refine obls_cons rfl rfl (fun x wx hG hp => ?_) (fun y _ _ h k => h) ?_
  · try dsimp only
    clear hp
    exact pos_v (v := .int .i64 ((q.size : Int))) (by go_simp; try with_reducible rfl) rfl
  refine obls_cons rfl rfl (fun x wx hG hp => ?_) (fun y _ _ h k => h) ?_
  · try dsimp only
    have e9 : x 9 = .int .i64 ((q.size : Int)) := hp 9 (by decide)
    generalize x 9 = v9 at e9 ⊢
    subst e9
    clear hp
    exact pos_v (v := .int .u8 ((q.size : Int) % 256)) (by go_simp; exact IntKind.wrap_u8 _) rfl
  refine obls_cons rfl rfl (fun x wx hG hp => ?_) (fun y _ _ h k => by obtain ⟨g, h1, h2⟩ := h; exact ⟨g, h1, h2.keep k id⟩) ?_
  · try dsimp only
    have e2 : x 2 = .int .u8 ((q.size : Int) / 16777216) := hp 2 (by decide)
    generalize x 2 = v2 at e2 ⊢
    subst e2
    have e5 : x 5 = .int .u8 ((q.size : Int) / 65536) := hp 5 (by decide)
    generalize x 5 = v5 at e5 ⊢
    subst e5
    have e8 : x 8 = .int .u8 ((q.size : Int) / 256) := hp 8 (by decide)
    generalize x 8 = v8 at e8 ⊢
    subst e8
    have e10 : x 10 = .int .u8 ((q.size : Int) % 256) := hp 10 (by decide)
    generalize x 10 = v10 at e10 ⊢
    subst e10
    clear hp
    refine pos_rows rfl Try.underlying22 info_u8 [.int .u8 ((q.size : Int) / 16777216), .int .u8 ((q.size : Int) / 65536), .int .u8 ((q.size : Int) / 256), .int .u8 ((q.size : Int) % 256)] rfl (by intro u hu; simp only [List.mem_cons, List.not_mem_nil, or_false] at hu; rcases hu with rfl | rfl | rfl | rfl <;> rfl) rfl (bs (bigN l.length 4)) HB4.out (fun g w' _ _ hg => ⟨g, rfl, hg⟩)
  refine obls_cons rfl rfl (fun x wx hG hp => ?_) (fun y _ _ h k => h) ?_
  · try dsimp only
    have e11 : ∃ g, x 11 = .slice (some ⟨g, 0, none⟩) 4 4 ∧ Has wx g (bs (bigN l.length 4)) 5 := hp 11 (by decide)
    obtain ⟨ga, e11, HGA⟩ := e11
    generalize x 11 = v11 at e11 ⊢
    subst e11
    clear hp
    exact pos_v (exec_strS rfl Try.underlying22 Try.underlying5 Try.underlying9 rfl (show RdB _ _ 4 _ from (by have h := Rd.whole HGA; rw [length_bs, bigN_len] at h; exact h))) rfl
  refine obls_cons rfl rfl (fun x wx hG hp => ?_) (fun y _ _ h k => h) ?_
  · try dsimp only
    clear hp
    exact pos_v (v := .string q) (by go_simp; try with_reducible rfl) rfl
  refine obls_cons rfl rfl (fun x wx hG hp => ?_) (fun y _ _ h k => h) ?_
  · try dsimp only
    have e12 : x 12 = .string (mkS (bigN l.length 4)) := hp 12 (by decide)
    generalize x 12 = v12 at e12 ⊢
    subst e12
    have e13 : x 13 = .string q := hp 13 (by decide)
    generalize x 13 = v13 at e13 ⊢
    subst e13
    clear hp
    exact pos_v (exec_addRf rfl rfl rfl Try.underlying9 (by rw [mkS_size, bigN_len]; have := HQS.out; omega) (by rw [← HQQ.out]; exact mkS_app2 _ _) _) rfl
  refine obls_cons rfl rfl (fun x wx hG hp => ?_) (fun y _ _ h k => h) ?_
  · try dsimp only
    clear hp
    exact pos_v (v := .string (mkS (bigN i 8))) (by go_simp; try with_reducible rfl) rfl
  refine obls_cons rfl rfl (fun x wx hG hp => ?_) (fun y _ _ h k => h) ?_
  · try dsimp only
    clear hp
    exact pos_v (v := .string q) (by go_simp; try with_reducible rfl) rfl
  refine obls_cons rfl rfl (fun x wx hG hp => ?_) (fun y _ _ h k => by obtain ⟨g, h1, h2⟩ := h; exact ⟨g, h1, h2.keep k id⟩) ?_
  · try dsimp only
    have e15 : x 15 = .string (mkS (bigN i 8)) := hp 15 (by decide)
    generalize x 15 = v15 at e15 ⊢
    subst e15
    have e16 : x 16 = .string q := hp 16 (by decide)
    generalize x 16 = v16 at e16 ⊢
    subst e16
    clear hp
    refine pos_rows rfl Try.underlying56 info_strS [.string (mkS (bigN i 8)), .string q] rfl (by intro u hu; simp only [List.mem_cons, List.not_mem_nil, or_false] at hu; rcases hu with rfl | rfl <;> rfl) rfl (ss [bigN i 8, l]) (by rw [← HQQ.out]; rfl) (fun g w' _ _ hg => ⟨g, rfl, hg⟩)
  refine obls_cons rfl rfl (fun x wx hG hp => ?_) (fun y _ _ h k => h) ?_
  · try dsimp only
    have e17 : ∃ g, x 17 = .slice (some ⟨g, 0, none⟩) 2 2 ∧ Has wx g (ss [bigN i 8, l]) 9 := hp 17 (by decide)
    obtain ⟨gb, e17, HGB⟩ := e17
    generalize x 17 = v17 at e17 ⊢
    subst e17
    clear hp
    rw [kFrame_eq]
    refine pos_go rfl Try.call41 (vs := [.string (mkS kFrame), .slice (some ⟨gb, 0, none⟩) 2 2]) rfl ?_
    refine (tagR_of kFrame gb 2 [bigN i 8, l] _ HGB (by have := HL.out; simp only [sumL, List.map_cons, List.map_nil, List.foldr_cons, List.foldr_nil, bigN_len, kFrame, List.length_cons, List.length_nil]; omega) (by simp)).mono ?_
    rintro e w' ⟨rfl, hf⟩
    exact ⟨_, rfl, hf, by show Value.string _ = Value.string _; rw [ckS_is]⟩
  refine obls_cons rfl rfl (fun x wx hG hp => ?_) (fun y _ _ h k => h) ?_
  · try dsimp only
    have e18 : x 18 = .string (mkS (ckS i l)) := hp 18 (by decide)
    generalize x 18 = v18 at e18 ⊢
    subst e18
    clear hp
    exact pos_v (exec_cutRf rfl rfl Try.underlying9 (by have := ckS_len i l; exact this) _) rfl
  exact trivial
  intro x w9 hG hp
  try dsimp only
  have e14 : x 14 = .string (mkS (bigN l.length 4 ++ l)) := hp 14 (by decide)
  generalize x 14 = v14 at e14 ⊢
  subst e14
  have e19 : x 19 = .string (mkS ((ckS i l).take 8)) := hp 19 (by decide)
  generalize x 19 = v19 at e19 ⊢
  subst e19
  clear hp
  generalize x 0 = v0
  generalize x 1 = v1
  generalize x 2 = v2
  generalize x 3 = v3
  generalize x 4 = v4
  generalize x 5 = v5
  generalize x 6 = v6
  generalize x 7 = v7
  generalize x 8 = v8
  generalize x 9 = v9
  generalize x 10 = v10
  generalize x 11 = v11
  generalize x 12 = v12
  generalize x 13 = v13
  generalize x 15 = v15
  generalize x 16 = v16
  generalize x 17 = v17
  generalize x 18 = v18
  have HG9 := Lib.hid hG
  clear hG
  refine plan_m rfl rfl ?_
  refine wp_exec (exec_addRf rfl rfl rfl Try.underlying9 (by rw [mkS_size, mkS_size, List.length_append, bigN_len, List.length_take]; have := HL.out; omega) (mkS_app2 _ _) _) ?_
  try simp only [Act.put, List.setIfInBounds_toArray, List.set_cons_zero, List.set_cons_succ]
  refine plan_w (v := ?_) rfl rfl (fun wx => ?_) ?_; rotate_left 1; (go_simp; with_reducible rfl)
  try simp only [Act.put, List.setIfInBounds_toArray, List.set_cons_zero, List.set_cons_succ]
  refine plan_end ?_
  refine NoPanic.normal ?_

  go_wp2_with fail
  go_ret
  exact ⟨by rw [frameB_ck, List.append_assoc]; rfl, HG9.out⟩
end Go.Proofs.Ytdadnajbdnbbdaa

/- The reference's New, Arm, Add. -/
namespace Go.Mv
open Go.RowKit Mvp
/-- the reference's store lies in block g, its records at rv -/
structure RA (TS TT : TypeId) (w : World) (base g lim : Nat) (s : SM) (rv : Value) : Prop where
  low : base ≤ g
  has : Has w g [.int .i64 (lim : Int), .string (mkS s.d), rv, .int .i64 (lftI s), .bool s.off] TS
  recs : Own w base TT 1 rv s.recs.length (ss s.recs)
def RB (g : Nat) (rv : Value) : Nat → Prop := fun k => k = g ∨ OwnB rv k
theorem RA.keep {TS TT : TypeId} {w w' : World} {base g lim : Nat} {s : SM} {rv : Value} (h : RA TS TT w base g lim s rv) {S : Nat → Prop} (hf : Fr S w w') (hS : ∀ k, RB g rv k → ¬ S k) : RA TS TT w' base g lim s rv :=
  ⟨h.low, h.has.keep hf (hS g (.inl rfl)), h.recs.keep hf fun k hk => hS k (.inr hk)⟩
theorem RA.still {TS TT : TypeId} {w w' : World} {base g lim : Nat} {s : SM} {rv : Value} (h : RA TS TT w base g lim s rv) (hf : Fr Nob w w') : RA TS TT w' base g lim s rv := h.keep hf fun _ _ t => t
theorem RA.lt {TS TT : TypeId} {w : World} {base g lim : Nat} {s : SM} {rv : Value} (h : RA TS TT w base g lim s rv) {k : Nat} (hk : RB g rv k) : base ≤ k ∧ k < w.heap.size := by
  rcases hk with rfl | hk
  · exact ⟨h.low, h.has.lt⟩
  · exact h.recs.lt hk
theorem RA.size {TS TT : TypeId} {w : World} {base g lim : Nat} {s : SM} {rv : Value} (h : RA TS TT w base g lim s rv) : base ≤ w.heap.size := Nat.le_of_lt (Nat.lt_of_le_of_lt h.low h.has.lt)
theorem RA.mono {TS TT : TypeId} {w : World} {base base' g lim : Nat} {s : SM} {rv : Value} (h : RA TS TT w base g lim s rv) (hb : base' ≤ base) : RA TS TT w base' g lim s rv := ⟨Nat.le_trans hb h.low, h.has, h.recs.mono hb⟩
theorem Fr.rb {TS TT : TypeId} {w0 w w' : World} {base g lim : Nat} {s : SM} {rv : Value} (hf : Fr Nob w0 w) (h : RA TS TT w base g lim s rv) (hb : w0.heap.size ≤ base) (k : Fr (RB g rv) w w') : Fr Nob w0 w' :=
  hf.trans k fun i hi hs => by have := (h.lt hs).1; omega
theorem RA.again {TS TT : TypeId} {w w' : World} {base g lim : Nat} {s : SM} {rv : Value} (h : RA TS TT w base g lim s rv) (hf : Fr Nob w w') {e : Nat} {s' : SM × Nat} (hs : s' = (s, e)) : ∃ rv', RA TS TT w' base g lim s'.1 rv' ∧ Fr (RB g rv) w w' := by
  subst hs
  exact ⟨rv, h.still hf, hf.mono fun _ _ t => t.elim⟩
end Go.Mv
namespace Go.Proofs.Ytdadnajbdnbbdaa
open Go.RowKit Go.Mv Mvp
abbrev RA1 (w : World) (base g lim : Nat) (s : SM) (rv : Value) : Prop := RA 58 9 w base g lim s rv
theorem built_rst (x : Int) : Try.prog.built 58 [(0, .int .i64 x), (3, .int .i64 (-1))] = some #[.int .i64 x, .string ⟨#[]⟩, .slice none 0 0, .int .i64 (-1), .bool false] := by kernel_rfl
attribute [local irreducible] permS permP toB turnsK squeeze permN permB spongeB feed frameL framesL tagL bigN bigJ numS frameB framesB ckS exC SM.put SM.add unframe OpenI
set_option maxHeartbeats 1000000 in
set_option maxRecDepth 1000000 in
theorem rNew_ok (n : Nat) (w : World) (h1 : 64 ≤ n) (h2 : n ≤ 1048576) :
    Calls Try.prog 17 #[.int .i64 (n : Int)] w fun e w' => ∃ g, e = .returned (.tuple #[.pointer (some ⟨g, 0, none⟩), .int .i64 0]) ∧ RA1 w' w.heap.size g n SM.new (.slice none 0 0) ∧ Fr Nob w w' := by
  have h1I : ¬ (n : Int) < 64 := by omega
  have h2I : ¬ (1048576 : Int) < (n : Int) := by omega
  clear h1 h2
  go_enter Try.func17, Try.ntmps17
  go_wp2_with (with_reducible refine wl_stop (o := ⟨some 11, _, _, _, _, _⟩) ?_)
  refine wl_buildL rfl rfl _ (built_rst _) ?_
  try simp only [Act.put, List.setIfInBounds_toArray, List.set_cons_zero, List.set_cons_succ]
  refine wl_box rfl rfl rfl [.int .i64 (n : Int), .string ⟨#[]⟩, .slice none 0 0, .int .i64 (-1), .bool false] rfl ?_
  intro w4 hh4 hf4 hz4
  have HH := Lib.hid hh4
  have HF := Lib.hid hf4
  clear hh4 hf4 hz4
  go_wp2_with fail
  go_ret2
  exact ⟨w.heap.size, rfl, ⟨Nat.le_refl _, HH.out, Go.Mv.Own.nil _ _ _ _⟩, HF.out⟩
set_option maxRecDepth 100000 in
theorem rNew_no (n : Int) (w : World) (h : n < 64 ∨ 1048576 < n) :
    Calls Try.prog 17 #[.int .i64 n] w fun e w' => e = .returned (.tuple #[.pointer none, .int .i64 7]) ∧ w' = w := by
  by_cases h1 : n < 64
  · clear h
    go_enter Try.func17, Try.ntmps17
    go_wp2_with fail
    go_ret2
    exact ⟨rfl, rfl⟩
  · have h2 : 1048576 < n := h.resolve_left h1
    clear h
    go_enter Try.func17, Try.ntmps17
    go_wp2_with fail
    go_ret2
    exact ⟨rfl, rfl⟩
theorem arm_neg {s : SM} {n : Int} (h : n < 0) : s.arm n = { s with left := none } := by unfold SM.arm; rw [if_pos h]
theorem arm_pos {s : SM} {n : Int} (h : ¬ n < 0) : s.arm n = { s with left := some n.toNat } := by unfold SM.arm; rw [if_neg h]
set_option maxRecDepth 100000 in
theorem rArm_any (g base lim : Nat) (s : SM) (rv : Value) (n : Int) (w : World) (h : RA1 w base g lim s rv) :
    Calls Try.prog 21 #[.pointer (some ⟨g, 0, none⟩), .int .i64 n] w fun e w' => e = .returned (.tuple #[]) ∧ RA1 w' base g lim (s.arm n) rv ∧ Fr (RB g rv) w w' := by
  have H := Lib.hid h
  obtain ⟨u, cu, fu⟩ := h.has.ready (i := 3) (by simp)
  have hp := h.has.put1 3 (.int .i64 n)
  have HP := Lib.hid hp
  by_cases hn : n < 0
  · obtain ⟨u2, cu2, fu2⟩ := hp.1.ready (i := 3) (by simp)
    have hp2 := hp.1.put1 3 (.int .i64 (-1))
    have HP2 := Lib.hid hp2
    have HA := Lib.hid (arm_neg (s := s) hn)
    clear h hp hp2
    go_enter Try.func21, Try.ntmps21
    go_wp2_with fail
    go_end0
    have hf := HP.out.2.trans HP2.out.2 fun _ _ t => t
    refine ⟨rfl, ?_, hf.mono fun k _ hk => .inl hk⟩
    rw [HA.out]
    exact ⟨H.out.low, HP2.out.1, H.out.recs.offB H.out.has (by decide) hf⟩
  · have HA := Lib.hid (arm_pos (s := s) hn)
    have HN := Lib.hid hn
    clear h hp
    go_enter Try.func21, Try.ntmps21
    go_wp2_with fail
    go_end0
    refine ⟨rfl, ?_, HP.out.2.mono fun k _ hk => .inl hk⟩
    rw [HA.out]
    have e : lftI ({ s with left := some n.toNat } : SM) = n := by rw [lftI_some (k := n.toNat) rfl]; have := HN.out; omega
    exact ⟨H.out.low, by rw [e]; exact HP.out.1, H.out.recs.offB H.out.has (by decide) HP.out.2⟩
end Go.Proofs.Ytdadnajbdnbbdaa

/- The reference's Add. -/
namespace Go.Proofs.Ytdadnajbdnbbdaa
open Go.RowKit Go.Mv Mvp
attribute [local irreducible] permS permP toB turnsK squeeze permN permB spongeB feed frameL framesL tagL bigN bigJ numS frameB framesB ckS exC SM.put SM.add unframe OpenI
theorem run_cutS (w : World) {T : TypeId} (hT : Try.prog.underlying T = some .string) (q : ByteArray) (k : Nat) (h : k ≤ q.size) : (Instr.sliceAt T (.string q) none (some (.int .i64 (k : Int))) none).run Try.prog w = .ok (.string (q.extract 0 k)) w := by
  have h1 : (k : Int) ≤ (q.size : Int) := by omega
  go_simp
/-- what is answered -/
def ePut : Bool → Int
  | true => 0
  | false => 15
/-- what a turn of the disk and the records leaves -/
theorem RA1.turn {w w' : World} {base g lim : Nat} {s s' : SM} {rv : Value} (h : RA1 w base g lim s rv) (hf : Fr (Mv.One g) w w') (h1 : Has w' g [.int .i64 (lim : Int), .string (mkS s'.d), rv, .int .i64 (lftI s'), .bool s'.off] 58) (hr : s'.recs = s.recs) : RA1 w' base g lim s' rv :=
  ⟨h.low, h1, by rw [hr]; exact h.recs.offB h.has (by decide) hf⟩
set_option maxHeartbeats 2000000 in
set_option maxRecDepth 100000 in
theorem rAdd_no (g base lim : Nat) (s : SM) (rv : Value) (b : List UInt8) (w : World) (h : RA1 w base g lim s rv) (hd : s.d.length ≤ 2000000) (hb : b.length ≤ 1000000) (hn : s.off = true ∨ 16384 < b.length ∨ lim < s.d.length + 12 + b.length) :
    Calls Try.prog 19 #[.pointer (some ⟨g, 0, none⟩), .string (mkS b)] w fun e w' => e = .returned (.int .i64 ((s.add ckS lim b).2 : Int)) ∧ ∃ rv', RA1 w' base g lim (s.add ckS lim b).1 rv' ∧ Fr (RB g rv) w w' := by
  have c0 := h.has.cell (i := 0) (v := .int .i64 (lim : Int)) rfl
  have c1 := h.has.cell (i := 1) (v := .string (mkS s.d)) rfl
  have H := Lib.hid h
  have hqd : (mkS s.d).size = s.d.length := mkS_size _
  have hqb : (mkS b).size = b.length := mkS_size _
  generalize mkS s.d = qd at *
  generalize mkS b = qb at *
  have hd1 : (qd.size : Int) ≤ 2000000 := by omega
  have hb1 : (qb.size : Int) ≤ 1000000 := by omega
  cases ho : s.off with
  | true =>
    have c4 := h.has.cell (i := 4) (v := .bool true) (by rw [ho]; rfl)
    have HA := Lib.hid (add_off (c := ckS) (lim := lim) (b := b) ho)
    clear h hd hb hn ho hqd hqb
    go_enter Try.func19, Try.ntmps19
    go_wp2_with fail
    go_ret
    exact ⟨ret_i64s (by rw [HA.out]; rfl), H.out.again (Fr.refl _ _) HA.out⟩
  | false =>
    have c4 := h.has.cell (i := 4) (v := .bool false) (by rw [ho]; rfl)
    by_cases h1 : 16384 < b.length
    · have HA := Lib.hid (add_long (c := ckS) (lim := lim) ho h1)
      have h1I : (16384 : Int) < (qb.size : Int) := by omega
      clear h hd hb hn ho hqd hqb h1
      go_enter Try.func19, Try.ntmps19
      go_wp2_with fail
      go_ret
      exact ⟨ret_i64s (by rw [HA.out]; rfl), H.out.again (Fr.refl _ _) HA.out⟩
    · have h2 : lim < s.d.length + 12 + b.length := by
        rcases hn with k | k | k
        · rw [ho] at k; cases k
        · exact absurd k h1
        · exact k
      have HA := Lib.hid (add_full (c := ckS) ho h1 h2)
      have h1I : ¬ (16384 : Int) < (qb.size : Int) := by omega
      have h2I : (lim : Int) < (qd.size : Int) + (qb.size : Int) + 12 := by omega
      clear h hd hb hn ho hqd hqb h1 h2
      go_enter Try.func19, Try.ntmps19
      go_wp2_with fail
      go_quiet (fail)
      go_wp2_with fail
      go_ret
      exact ⟨ret_i64s (by rw [HA.out]; rfl), H.out.again ((Fr.refl _ _).drewN _) HA.out⟩
set_option maxHeartbeats 2000000 in
set_option maxRecDepth 100000 in
theorem rAdd_put (g base lim : Nat) (s : SM) (rv : Value) (b : List UInt8) (w : World) (h : RA1 w base g lim s rv) (hd : s.d.length ≤ 2000000) (hi : s.recs.length ≤ 1000000) (hl : lftI s < 9223372036854775808) (ho : s.off = false) (h1 : ¬ 16384 < b.length) (h2 : ¬ lim < s.d.length + 12 + b.length) :
    Calls Try.prog 19 #[.pointer (some ⟨g, 0, none⟩), .string (mkS b)] w fun e w' => e = .returned (.int .i64 (ePut (s.put ckS b).2)) ∧ ∃ rv', RA1 w' base g lim (s.put ckS b).1 rv' ∧ Fr (RB g rv) w w' := by
  obtain ⟨ar, cr, rfl, -⟩ := h.recs.form
  have c0 := h.has.cell (i := 0) (v := .int .i64 (lim : Int)) rfl
  have c1 := h.has.cell (i := 1) (v := .string (mkS s.d)) rfl
  have c2 := h.has.cell (i := 2) (v := .slice ar s.recs.length cr) rfl
  have c3 := h.has.cell (i := 3) (v := .int .i64 (lftI s)) rfl
  have c4 := h.has.cell (i := 4) (v := .bool false) (by rw [ho]; rfl)
  have H := Lib.hid h
  have HI := Lib.hid hi
  have HL := Lib.hid hl
  have HO := Lib.hid ho
  have H1 := Lib.hid h1
  have HD := Lib.hid hd
  have hqd : (mkS s.d).size = s.d.length := mkS_size _
  have hqb : (mkS b).size = b.length := mkS_size _
  have HF := Lib.hid (Rframe_any s.recs.length b · hi (by omega))
  have HFL := Lib.hid (frameB_length s.recs.length b)
  have HX := Lib.hid (mkS_app2 s.d (frameB ckS s.recs.length b))
  have HQF := Lib.hid (mkS_size (frameB ckS s.recs.length b))
  have HXT := Lib.hid (fun k => mkS_app2 s.d ((frameB ckS s.recs.length b).take k))
  have HET := Lib.hid (fun k => ext_hiS (frameB ckS s.recs.length b) k)
  have HQB := Lib.hid hqb
  generalize hqqd : mkS s.d = qd at *
  generalize hqqb : mkS b = qb at *
  have HQQB := Lib.hid hqqb
  have HQQD := Lib.hid hqqd
  have hd1 : (qd.size : Int) ≤ 2000000 := by omega
  have hb1 : (qb.size : Int) ≤ 16384 := by omega
  have h1I : ¬ (16384 : Int) < (qb.size : Int) := by omega
  have h2I : decide ((lim : Int) < (qd.size : Int) + (qb.size : Int) + 12) = false := by simp; omega
  clear h hd hi hl ho h1 h2 hqd hqb hqqb hqqd
  go_enter Try.func19, Try.ntmps19
  go_wp2_with fail
  go_quiet (fail)
  go_wp2_with fail
  refine (HF.out _).mono ?_
  rintro e1 w1 ⟨rfl, hf1⟩
  have HR1 := Lib.hid (H.out.still (((Fr.refl Nob w).drewN _).then hf1))
  have HF1 := Lib.hid (((Fr.refl Nob w).drewN _).then hf1)
  clear hf1
  obtain ⟨qf, hqf⟩ : ∃ qf, mkS (frameB ckS s.recs.length b) = qf := ⟨_, rfl⟩
  rw [hqf] at HX HQF HET
  rw [hqf]
  have hqs : (qf.size : Int) = 12 + (qb.size : Int) := by have h3 := HQF.out; have h4 := HFL.out; have h5 := HQB.out; omega
  have HQS := Lib.hid hqs
  have hqu : (qf.size : Int) ≤ 20000 := by omega
  clear hqs hqf c0 c1 c2 c3 c4 h1I h2I
  have hbase := HR1.out.has
  rw [HO.out, HQQD.out] at hbase
  cases hL : s.left with
  | none =>
    have HPT := Lib.hid (put_none (c := ckS) hL b)
    rw [lftI_none hL] at hbase
    have c3 := hbase.cell (i := 3) (v := .int .i64 (-1)) rfl
    have hb3 := hbase.put1 1 (.string (qd ++ qf))
    have c3' := hb3.1.cell (i := 3) (v := .int .i64 (-1)) rfl
    have HB := Lib.hid hbase
    have HLN := Lib.hid hL
    clear hbase hb3 hL
    have hp := HB.out.put1 1 (.string (qd ++ qf))
    obtain ⟨u1, -, fu1⟩ := HB.out.ready (i := 1) (by simp)
    have c1 := HB.out.cell (i := 1) (v := .string qd) rfl
    have c2 := hp.1.cell (i := 2) (v := .slice ar s.recs.length cr) rfl
    have HP := Lib.hid hp
    clear hp
    go_wp2_with (with_reducible refine wl_stop (o := ⟨some 95, _, _, _, _, _⟩) ?_)
    refine wl_slit rfl rfl Try.underlying56 info_strS [.string qb] rfl (by intro u hu; simp only [List.mem_singleton] at hu; subst hu; rfl) rfl rfl ?_
    intro w5 hh5 hf5 hz5
    try simp only [Act.put, List.setIfInBounds_toArray, List.set_cons_zero, List.set_cons_succ]
    have HO5 := Lib.hid ((HR1.out.recs.offB HR1.out.has (by decide) ((Fr.refl (Mv.One g) w1).trans HP.out.2 fun _ _ t => t)).still hf5)
    refine wl_append rfl rfl Try.underlying56 info_strS rfl (by decide) HO5.out rfl (news := [.string qb]) rfl (by simpa using Rd.whole hh5) (by intro u hu; simp only [List.mem_singleton] at hu; subst hu; rfl) (by unfold maxLen; have := HI.out; omega) (by have := HI.out; omega) (Nat.le_trans HR1.out.size (Nat.le_trans ((Fr.refl (Mv.One g) w1).trans HP.out.2 fun _ _ t => t).size hf5.size)) ?_
    intro v6 w6 ho6 hf6 hb6
    rw [← HQQB.out, ss_snocS] at ho6
    have hh6 := Has.offO HO5.out (HP.out.1.keep hf5 id) (by decide) hf6
    have hp6 := hh6.put1 2 v6
    obtain ⟨u6, cu6, fu6⟩ := hh6.ready (i := 2) (by simp)
    have HP6 := Lib.hid hp6
    have HO6 := Lib.hid (ho6.offB hh6 (by decide) hp6.2)
    have HF6 := Lib.hid (HF1.out.up (S := RB g (.slice ar s.recs.length cr)) ((Fr.refl (Mv.One g) w1).trans HP.out.2 fun _ _ t => t) (fun k hk => .inl hk) |>.same hf5 |>.trans hf6 (fun k _ hk => .inr hk) |>.trans hp6.2 fun k _ hk => .inl hk)
    obtain ⟨a6, c6, rfl, -⟩ := ho6.form
    clear hh5 hf5 hz5 ho6 hf6 hb6 hh6 hp6 c1 c2 fu1
    go_wp2_with fail
    go_ret
    refine ⟨ret_i64s (by rw [HPT.out]; rfl), .slice a6 (s.recs.length + 1) c6, ⟨H.out.low, ?_, ?_⟩, HF6.out⟩
    · rw [HPT.out]
      have h9 := HP6.out.1
      rw [HX.out] at h9
      exact (by have e : lftI ({ s with d := s.d ++ frameB ckS s.recs.length b, recs := s.recs ++ [b] } : SM) = -1 := lftI_none HLN.out; rw [e]; show Has _ g [_, _, _, _, .bool s.off] _; rw [HO.out]; exact h9)
    · rw [HPT.out, List.length_append]
      exact HO6.out
  | some k =>
    rw [lftI_some hL] at hbase
    have HLK := Lib.hid (show (k : Int) < 9223372036854775808 by have h := HL.out; rwa [lftI_some hL] at h)
    have hk0 : (0 : Int) ≤ (k : Int) := by omega
    have HB := Lib.hid hbase
    have c3 := hbase.cell (i := 3) (v := .int .i64 (k : Int)) rfl
    by_cases hk : k < (frameB ckS s.recs.length b).length
    · have HPT := Lib.hid (put_short (c := ckS) hL b hk)
      have hkI : (k : Int) < (qf.size : Int) := by have h3 := HQF.out; omega
      have hcut := fun wx => run_cutS wx Try.underlying9 qf k (by omega)
      have HKL := Lib.hid hk
      have HLS := Lib.hid hL
      have hqt : ((mkS ((frameB ckS s.recs.length b).take k)).size : Int) ≤ 20000 := by rw [mkS_size, List.length_take]; have h3 := HQF.out; omega
      have HXK := Lib.hid (HXT.out k)
      rw [HET.out] at hcut
      obtain ⟨qt, hqt2⟩ : ∃ qt, mkS ((frameB ckS s.recs.length b).take k) = qt := ⟨_, rfl⟩
      rw [hqt2] at hcut hqt
      have HQT := Lib.hid hqt2
      have hsm : ¬ 9223372036854775807 < qd.size + qt.size := by omega
      clear hqt2 hbase hk hL
      go_wp2_with fail
      refine wp_region_noPanic ?_
      refine wp_region_plan (fun wx => Has wx g [.int .i64 (lim : Int), .string qd, .slice ar s.recs.length cr, .int .i64 (k : Int), .bool false] 58) 14 (.w 0 (.w 1 (.w 2 (.w 3 (.t 4 (.w 5 (.w 6 (.w 7 (.w 8 (.t 9 (.w 10 (.w 11 (.w 12 (.w 13 (.m 14 .nil))))))))))))))) (by kernel_rfl) (by kernel_rfl) HB.out.drew (fun _ _ _ _ _ h => h) ?_
      refine plan_w (v := ?_) rfl rfl (fun wx => ?_) ?_; rotate_left 1; (go_simp; with_reducible rfl)
      try simp only [Act.put, List.setIfInBounds_toArray, List.set_cons_zero, List.set_cons_succ]
      refine plan_w (v := ?_) rfl rfl (fun wx => ?_) ?_; rotate_left 1; (go_simp; with_reducible rfl)
      try simp only [Act.put, List.setIfInBounds_toArray, List.set_cons_zero, List.set_cons_succ]
      refine plan_w (v := ?_) rfl rfl (fun wx => ?_) ?_; rotate_left 1; (go_simp; with_reducible rfl)
      try simp only [Act.put, List.setIfInBounds_toArray, List.set_cons_zero, List.set_cons_succ]
      refine plan_w (v := ?_) rfl rfl (fun wx => ?_) ?_; rotate_left 1; (go_simp; with_reducible rfl)
      try simp only [Act.put, List.setIfInBounds_toArray, List.set_cons_zero, List.set_cons_succ]
      refine plan_t (v := .string qd) rfl rfl (fun wx hS => ?_) ?_
      · have hc := hS.cell (i := 1) (v := .string qd) rfl; clear hS; go_simp
      try simp only [Act.put, List.setIfInBounds_toArray, List.set_cons_zero, List.set_cons_succ]
      refine plan_w (v := ?_) rfl rfl (fun wx => ?_) ?_; rotate_left 1; (go_simp; with_reducible rfl)
      try simp only [Act.put, List.setIfInBounds_toArray, List.set_cons_zero, List.set_cons_succ]
      refine plan_w (v := ?_) rfl rfl (fun wx => ?_) ?_; rotate_left 1; (go_simp; with_reducible rfl)
      try simp only [Act.put, List.setIfInBounds_toArray, List.set_cons_zero, List.set_cons_succ]
      refine plan_w (v := ?_) rfl rfl (fun wx => ?_) ?_; rotate_left 1; (go_simp; with_reducible rfl)
      try simp only [Act.put, List.setIfInBounds_toArray, List.set_cons_zero, List.set_cons_succ]
      refine plan_w (v := ?_) rfl rfl (fun wx => ?_) ?_; rotate_left 1; (go_simp; with_reducible rfl)
      try simp only [Act.put, List.setIfInBounds_toArray, List.set_cons_zero, List.set_cons_succ]
      refine plan_t (v := .int .i64 (k : Int)) rfl rfl (fun wx hS => ?_) ?_
      · have hc := hS.cell (i := 3) (v := .int .i64 (k : Int)) rfl; clear hS; go_simp
      try simp only [Act.put, List.setIfInBounds_toArray, List.set_cons_zero, List.set_cons_succ]
      refine plan_w (v := ?_) rfl rfl (fun wx => ?_) ?_; rotate_left 1; (go_simp; with_reducible rfl)
      try simp only [Act.put, List.setIfInBounds_toArray, List.set_cons_zero, List.set_cons_succ]
      refine plan_w (v := ?_) rfl rfl (fun wx => ?_) ?_; rotate_left 1; (go_simp; with_reducible rfl)
      try simp only [Act.put, List.setIfInBounds_toArray, List.set_cons_zero, List.set_cons_succ]
      refine plan_w (v := ?_) rfl rfl (fun wx => ?_) ?_; rotate_left 1; (go_simp; with_reducible rfl)
      try simp only [Act.put, List.setIfInBounds_toArray, List.set_cons_zero, List.set_cons_succ]
      refine plan_w (v := ?_) rfl rfl (fun wx => ?_) ?_; rotate_left 1; (go_simp; with_reducible rfl)
      try simp only [Act.put, List.setIfInBounds_toArray, List.set_cons_zero, List.set_cons_succ]
      obtain ⟨uq, -, fq⟩ := HB.out.ready (i := 1) (by simp)
      have c1 := HB.out.cell (i := 1) (v := .string qd) rfl
      refine plan_m rfl rfl ?_
      go_simp
      try simp only [Act.put, List.setIfInBounds_toArray, List.set_cons_zero, List.set_cons_succ]
      refine plan_end ?_
      refine NoPanic.normal ?_
      clear c1 fq c3 hcut hsm hkI hk0 hqt hd1 hb1 hqu
      have hpq := HB.out.put1 1 (.string (qd ++ qt))
      have HPQ := Lib.hid (show Has (w1.setCell ⟨g, 1, none⟩ (.string (qd ++ qt))).drew g _ _ ∧ Fr (Mv.One g) w1 (w1.setCell ⟨g, 1, none⟩ (.string (qd ++ qt))).drew from ⟨hpq.1.drew, hpq.2.drew⟩)
      clear hpq
      generalize (w1.setCell ⟨g, 1, none⟩ (.string (qd ++ qt))).drew = w7 at *
      have hpo := HPQ.out.1.put1 4 (.bool true)
      obtain ⟨uo, co, fo⟩ := HPQ.out.1.ready (i := 4) (by simp)
      have HPO := Lib.hid hpo
      clear hpo
      go_wp2_with fail
      go_ret
      have hfr : Fr (Mv.One g) w1 _ := HPQ.out.2.trans HPO.out.2 fun _ _ t => t
      refine ⟨ret_i64s (by rw [HPT.out]; rfl), .slice ar s.recs.length cr, ⟨H.out.low, ?_, ?_⟩, HF1.out.up hfr fun k hk => .inl hk⟩
      · rw [HPT.out]
        have h9 := HPO.out.1
        rw [← HQT.out, HXK.out] at h9
        have e : lftI ({ s with d := s.d ++ (frameB ckS s.recs.length b).take k, off := true } : SM) = (k : Int) := lftI_some HLS.out
        rw [e]
        exact h9
      · rw [HPT.out]
        exact HR1.out.recs.offB HR1.out.has (by decide) hfr
    · have HPT := Lib.hid (put_some (c := ckS) hL b hk)
      have hge : (qf.size : Int) ≤ (k : Int) := by have h3 := HQF.out; omega
      have HKN := Lib.hid hk
      have hlk : (k : Int) < 9223372036854775808 := HLK.out
      obtain ⟨x, hx⟩ : ∃ x : Int, (k : Int) = x := ⟨_, rfl⟩
      rw [hx] at hbase c3 hk0 hge hlk
      have HXK := Lib.hid hx
      have hkI : decide (x < (qf.size : Int)) = false := by simp; omega
      have hp2 := hbase.put1 3 (.int .i64 (x - (qf.size : Int)))
      obtain ⟨u2, -, fu2⟩ := hbase.ready (i := 3) (by simp)
      have HH2 := Lib.hid hp2.1
      have HF2 := Lib.hid hp2.2
      clear hp2 hbase hk hL hx
      have hp := HH2.out.put1 1 (.string (qd ++ qf))
      obtain ⟨u1, -, fu1⟩ := HH2.out.ready (i := 1) (by simp)
      have c1 := HH2.out.cell (i := 1) (v := .string qd) rfl
      have c2 := hp.1.cell (i := 2) (v := .slice ar s.recs.length cr) rfl
      have HP := Lib.hid hp
      clear hp
      go_wp2_with (with_reducible refine wl_stop (o := ⟨some 95, _, _, _, _, _⟩) ?_)
      refine wl_slit rfl rfl Try.underlying56 info_strS [.string qb] rfl (by intro u hu; simp only [List.mem_singleton] at hu; subst hu; rfl) rfl rfl ?_
      intro w5 hh5 hf5 hz5
      try simp only [Act.put, List.setIfInBounds_toArray, List.set_cons_zero, List.set_cons_succ]
      have HO5 := Lib.hid ((HR1.out.recs.offB HR1.out.has (by decide) (HF2.out.trans HP.out.2 fun _ _ t => t)).still hf5)
      refine wl_append rfl rfl Try.underlying56 info_strS rfl (by decide) HO5.out rfl (news := [.string qb]) rfl (by simpa using Rd.whole hh5) (by intro u hu; simp only [List.mem_singleton] at hu; subst hu; rfl) (by unfold maxLen; have := HI.out; omega) (by have := HI.out; omega) (Nat.le_trans HR1.out.size (Nat.le_trans (HF2.out.trans HP.out.2 fun _ _ t => t).size hf5.size)) ?_
      intro v6 w6 ho6 hf6 hb6
      rw [← HQQB.out, ss_snocS] at ho6
      have hh6 := Has.offO HO5.out (HP.out.1.keep hf5 id) (by decide) hf6
      have hp6 := hh6.put1 2 v6
      obtain ⟨u6, cu6, fu6⟩ := hh6.ready (i := 2) (by simp)
      have HP6 := Lib.hid hp6
      have HO6 := Lib.hid (ho6.offB hh6 (by decide) hp6.2)
      have HF6 := Lib.hid (HF1.out.up (S := RB g (.slice ar s.recs.length cr)) (HF2.out.trans HP.out.2 fun _ _ t => t) (fun k hk => .inl hk) |>.same hf5 |>.trans hf6 (fun k _ hk => .inr hk) |>.trans hp6.2 fun k _ hk => .inl hk)
      obtain ⟨a6, c6, rfl, -⟩ := ho6.form
      clear hh5 hf5 hz5 ho6 hf6 hb6 hh6 hp6 c1 c2 fu1
      go_wp2_with fail
      go_ret
      refine ⟨ret_i64s (by rw [HPT.out]; rfl), .slice a6 (s.recs.length + 1) c6, ⟨H.out.low, ?_, ?_⟩, HF6.out⟩
      · rw [HPT.out]
        have h9 := HP6.out.1
        rw [HX.out] at h9
        exact (by have e : lftI ({ s with d := s.d ++ frameB ckS s.recs.length b, left := some (k - (frameB ckS s.recs.length b).length), recs := s.recs ++ [b] } : SM) = x - (qf.size : Int) := (by rw [lftI_some (k := k - (frameB ckS s.recs.length b).length) rfl]; have h7 := HQF.out; have h8 := HKN.out; have h9 := HXK.out; omega); rw [e]; show Has _ g [_, _, _, _, .bool s.off] _; rw [HO.out]; exact h9)
      · rw [HPT.out, List.length_append]
        exact HO6.out
end Go.Proofs.Ytdadnajbdnbbdaa

/- The reference's Open. -/
namespace Go.Proofs.Ytdadnajbdnbbdaa
open Go.RowKit Go.Mv Mvp
theorem ext_loS (s : List UInt8) (k : Nat) : (mkS s).extract k (mkS s).size = mkS (s.drop k) := by
  apply ByteArray.ext
  apply Array.toList_inj.1
  rw [mkS_size]
  simp [mkS, List.take_of_length_le]
theorem ext_midS (s : List UInt8) (k m : Nat) (hk : k ≤ m) (_hm : m ≤ s.length) : (mkS s).extract k m = mkS ((s.drop k).take (m - k)) := by
  apply ByteArray.ext
  apply Array.toList_inj.1
  simp [mkS, List.take_drop, Nat.add_sub_cancel' hk]
theorem run_cutLoS (w : World) {T : TypeId} (hT : Try.prog.underlying T = some .string) (q : ByteArray) (k : Nat) (h : k ≤ q.size) : (Instr.sliceAt T (.string q) (some (.int .i64 (k : Int))) none none).run Try.prog w = .ok (.string (q.extract k q.size)) w := by
  have h1 : (k : Int) ≤ (q.size : Int) := by omega
  go_simp
theorem run_cutMidS (w : World) {T : TypeId} (hT : Try.prog.underlying T = some .string) (q : ByteArray) (j k : Nat) (hjk : j ≤ k) (h : k ≤ q.size) : (Instr.sliceAt T (.string q) (some (.int .i64 (j : Int))) (some (.int .i64 (k : Int))) none).run Try.prog w = .ok (.string (q.extract j k)) w := by
  have h1 : (k : Int) ≤ (q.size : Int) := by omega
  have h2 : (j : Int) ≤ (k : Int) := by omega
  go_simp
theorem rAdd_any (g base lim : Nat) (s : SM) (rv : Value) (b : List UInt8) (w : World) (h : RA1 w base g lim s rv) (hd : s.d.length ≤ 2000000) (hi : s.recs.length ≤ 1000000) (hb : b.length ≤ 1000000) (hl : lftI s < 9223372036854775808) :
    Calls Try.prog 19 #[.pointer (some ⟨g, 0, none⟩), .string (mkS b)] w fun e w' => e = .returned (.int .i64 ((s.add ckS lim b).2 : Int)) ∧ ∃ rv', RA1 w' base g lim (s.add ckS lim b).1 rv' ∧ Fr (RB g rv) w w' := by
  by_cases hn : s.off = true ∨ 16384 < b.length ∨ lim < s.d.length + 12 + b.length
  · exact rAdd_no g base lim s rv b w h hd hb hn
  · simp only [not_or] at hn
    have ho : s.off = false := by simpa using hn.1
    rw [add_ok ho hn.2.1 hn.2.2]
    refine (rAdd_put g base lim s rv b w h hd hi hl ho hn.2.1 hn.2.2).mono ?_
    rintro e w' ⟨rfl, k⟩
    refine ⟨?_, k⟩
    cases (s.put ckS b).2 <;> rfl
theorem exec_idxS {o : Oper} {a : Act} {x : Operand} {T : TypeId} {l : List UInt8} {j : Nat} {y : UInt8} {i : Operand} (ho : o.op = .index T x i) (hi : a.eval i = .int .i64 (j : Int)) (hx : a.eval x = .string (mkS l)) (hT : Try.prog.underlying T = some .string) (hy : l[j]? = some y) (w : World) :
    (execOp a.eval o).run Try.prog w = .ok (.value (.int .u8 (y.toNat : Int))) w := by
  have hl : j < l.length := (List.getElem?_eq_some_iff.1 hy).1
  have hlt : j < (mkS l).size := by rw [mkS_size]; exact hl
  have hr : (Instr.index T (.string (mkS l)) (.int .i64 (j : Int))).run Try.prog w = .ok (.int .u8 (y.toNat : Int)) w := by
    rw [List.getElem?_eq_getElem hl, Option.some.injEq] at hy
    have e : (mkS l)[j]'hlt = y := by rw [← hy]; rfl
    simp [Instr.index, asIntOf, run_underlying hT, hlt, e]
  unfold execOp
  simp only [ho, hx, hi, Sem.run_bind, hr, Result.andThen_ok, Sem.run_pure]
theorem or_two (a b p k : Nat) (hp : p = 2 ^ k) (hb : b < p) (h1 : a * p < 9223372036854775808) (h2 : b < 9223372036854775808) (x y z : Int) (hx : x = ((a * p : Nat) : Int)) (hy : y = (b : Int)) (hz : z = ((a * p + b : Nat) : Int)) : bits .or .i64 x y = z := by
  subst hx hy hz hp
  rw [or_i64 (a * 2 ^ k) b h1 h2, Nat.mul_comm a (2 ^ k), ← Nat.two_pow_add_eq_or_of_lt hb]
theorem or_4 (a b c d : Nat) (ha : a < 256) (hb : b < 256) (hc : c < 256) (hd : d < 256) :
    bits .or .i64 ((a : Int) * 16777216) ((b : Int) * 65536) = (a : Int) * 16777216 + (b : Int) * 65536 ∧
    bits .or .i64 ((a : Int) * 16777216 + (b : Int) * 65536) ((c : Int) * 256) = (a : Int) * 16777216 + (b : Int) * 65536 + (c : Int) * 256 ∧
    bits .or .i64 ((a : Int) * 16777216 + (b : Int) * 65536 + (c : Int) * 256) (d : Int) = (a : Int) * 16777216 + (b : Int) * 65536 + (c : Int) * 256 + (d : Int) :=
  ⟨or_two a (b * 65536) 16777216 24 (by decide) (by omega) (by omega) (by omega) _ _ _ (by omega) (by omega) (by omega),
   or_two (a * 256 + b) (c * 256) 65536 16 (by decide) (by omega) (by omega) (by omega) _ _ _ (by omega) (by omega) (by omega),
   or_two (a * 65536 + b * 256 + c) d 256 8 (by decide) (by omega) (by omega) (by omega) _ _ _ (by omega) (by omega) (by omega)⟩
def strSz : Value → Nat
  | .string s => s.size
  | _ => 0
attribute [local irreducible] permS permP toB turnsK squeeze permN permB spongeB feed frameL framesL tagL bigN bigJ numS frameB framesB ckS exC SM.put SM.add unframe OpenI
theorem SMf_d (recs : List (List UInt8)) (c : Nat → List UInt8 → List UInt8) : (SMf recs c).d = framesB c 0 recs := rfl
set_option maxHeartbeats 4000000 in
set_option maxRecDepth 1000000 in
theorem rOpen_ok (l : List UInt8) (lim : Nat) (w : World) (h1 : 64 ≤ lim) (h2 : lim ≤ 1048576) (hn : l.length ≤ lim) :
    Calls Try.prog 37 #[.string (mkS l), .int .i64 (lim : Int)] w fun e w' => ∃ g, e = .returned (.tuple #[.pointer (some ⟨g, 0, none⟩), .int .i64 0]) ∧ (∃ rv, RA1 w' w.heap.size g lim (SM.ofDisk ckS l) rv) ∧ Fr Nob w w' := by
  have H1 := Lib.hid h1
  have H2 := Lib.hid h2
  have HN := Lib.hid hn
  have hq : (mkS l).size = l.length := mkS_size _
  have hni : ¬ (lim : Int) < ((mkS l).size : Int) := by omega
  have HQ := Lib.hid hq
  have HCL := Lib.hid (fun k => ext_loS l k)
  have hql : ((mkS l).size : Int) ≤ 1048576 := by omega
  clear h1 h2 hn hq
  generalize mkS l = q at *
  go_enter Try.func37, Try.ntmps37
  go_wp2_with fail
  refine (rNew_ok lim w H1.out H2.out).mono ?_
  rintro e1 w1 ⟨g, rfl, hs1, hf1⟩
  have HS1 := Lib.hid hs1
  have HF1 := Lib.hid hf1
  clear hs1 hf1
  go_wp2_with fail
  have hz : decide (lim < q.size) = false := by have := HQ.out; have := HN.out; simp; omega
  simp only [hz]
  clear hz
  go_loopw [8] (fun _ wr => ∃ (recs : List (List UInt8)) (f : Nat) (rv : Value), f ≤ l.length ∧ 12 * recs.length ≤ f ∧ OpenI ckS l recs (l.drop f) ∧ (framesB ckS 0 recs).length = f ∧ RA1 wr w.heap.size g lim (SMf recs ckS) rv ∧ Fr Nob w wr) (fun _ wr => l.length - strSz ((wr.cell? ⟨g, 1, none⟩).getD undef))
  case atStart => exact ⟨[], 0, _, Nat.zero_le _, Nat.zero_le _, by rw [List.drop_zero]; exact OpenI.start ckS l, framesB_0, by rw [SMf.new]; exact HS1.out, HF1.out⟩
  case round =>
    obtain ⟨recs, f, rv, hf, h12, hop, hfl, hra, hfr⟩ := hrel
    have HF := Lib.hid hf
    have H12 := Lib.hid h12
    have HOP := Lib.hid hop
    have HFL := Lib.hid hfl
    have HRA := Lib.hid hra
    have HFR := Lib.hid hfr
    have c1 := hra.has.cell (i := 1) (v := .string (mkS (SMf recs ckS).d)) rfl
    have hds : (mkS (SMf recs ckS).d).size = f := by rw [mkS_size]; exact hfl
    obtain ⟨qd, hqd⟩ : ∃ qd, mkS (SMf recs ckS).d = qd := ⟨_, rfl⟩
    rw [hqd] at c1 hds
    have HRM0 := Lib.hid c1
    have hcut := fun wx => run_cutLoS wx Try.underlying9 q f (by have := HQ.out; omega)
    rw [HCL.out] at hcut
    have hml : (mkS (l.drop f)).size = l.length - f := by rw [mkS_size, List.length_drop]
    have HQD := Lib.hid hqd
    have HDS := Lib.hid hds
    obtain ⟨qr, hqr⟩ : ∃ qr, mkS (l.drop f) = qr := ⟨_, rfl⟩
    rw [hqr] at hcut hml
    have HQR := Lib.hid hqr
    have HML := Lib.hid hml
    subst hds
    clear hf h12 hop hfl hra hfr hqd hml hqr
    by_cases hlt : qr.size < 4
    · have hltI : (qr.size : Int) < 4 := by omega
      have HU := Lib.hid (HOP.out.stop _ rfl (.inl (by rw [List.length_drop]; have := HML.out; omega)))
      clear hlt
      go_wp2_with fail
      go_ret2
      exact ⟨g, rfl, ⟨rv, by rw [← SMf.disk, HU.out]; exact HRA.out⟩, HFR.out⟩
    · have hgeI : ¬ (qr.size : Int) < 4 := by omega
      have HGE := Lib.hid hlt
      have g0 : (0 : Int) < (qr.size : Int) := by omega
      have g1 : (1 : Int) < (qr.size : Int) := by omega
      have g2 : (2 : Int) < (qr.size : Int) := by omega
      have g3 : (3 : Int) < (qr.size : Int) := by omega
      clear hlt
      go_wp2_with fail
      obtain ⟨a, b, c, d, t, habcd⟩ : ∃ a b c d t, l.drop qd.size = a :: b :: c :: d :: t := by
        have h4 : 4 ≤ (l.drop qd.size).length := by rw [List.length_drop]; have := HML.out; have := HGE.out; omega
        match hm : l.drop qd.size, h4 with
        | a :: b :: c :: d :: t, _ => exact ⟨a, b, c, d, t, rfl⟩
      have HABCD := Lib.hid habcd
      have ha := byte_lt a
      have hb := byte_lt b
      have hc := byte_lt c
      have hd := byte_lt d
      obtain ⟨ho1, ho2, ho3⟩ := or_4 a.toNat b.toNat c.toNat d.toNat a.toNat_lt b.toNat_lt c.toNat_lt d.toNat_lt
      have HNUM := Lib.hid (show numS ((l.drop qd.size).take 4) = a.toNat * 16777216 + b.toNat * 65536 + c.toNat * 256 + d.toNat by rw [habcd]; exact num4 a b c d t)
      clear habcd
      refine wp_region_noPanic ?_
      refine wp_region_plan (fun _ => True) 18 (.w 0 (.w 1 (.w 2 (.w 3 (.w 4 (.w 5 (.w 6 (.w 7 (.w 8 (.w 9 (.w 10 (.w 11 (.w 12 (.w 13 (.w 14 (.w 15 (.w 16 (.w 17 (.m 18 .nil))))))))))))))))))) (by kernel_rfl) (by kernel_rfl) trivial (fun _ _ _ _ _ h => h) ?_
      refine plan_w (v := .string qr) rfl rfl (fun wx => ?_) ?_
      · go_simp
      try simp only [Act.put, List.setIfInBounds_toArray, List.set_cons_zero, List.set_cons_succ]
      refine plan_w (v := .int .u8 (a.toNat : Int)) rfl rfl (fun wx => ?_) ?_
      · rw [← HQR.out, HABCD.out]; exact exec_idxS (j := 0) rfl rfl rfl Try.underlying9 rfl wx
      try simp only [Act.put, List.setIfInBounds_toArray, List.set_cons_zero, List.set_cons_succ]
      refine plan_w (v := .int .i64 (a.toNat : Int)) rfl rfl (fun wx => ?_) ?_
      · go_simp; exact IntWalk.i64_in _ (by omega)
      try simp only [Act.put, List.setIfInBounds_toArray, List.set_cons_zero, List.set_cons_succ]
      refine plan_w (v := .int .i64 ((a.toNat : Int) * 16777216)) rfl rfl (fun wx => ?_) ?_
      · go_simp; exact IntWalk.i64_in _ (by omega)
      try simp only [Act.put, List.setIfInBounds_toArray, List.set_cons_zero, List.set_cons_succ]
      refine plan_w (v := .string qr) rfl rfl (fun wx => ?_) ?_
      · go_simp
      try simp only [Act.put, List.setIfInBounds_toArray, List.set_cons_zero, List.set_cons_succ]
      refine plan_w (v := .int .u8 (b.toNat : Int)) rfl rfl (fun wx => ?_) ?_
      · rw [← HQR.out, HABCD.out]; exact exec_idxS (j := 1) rfl rfl rfl Try.underlying9 rfl wx
      try simp only [Act.put, List.setIfInBounds_toArray, List.set_cons_zero, List.set_cons_succ]
      refine plan_w (v := .int .i64 (b.toNat : Int)) rfl rfl (fun wx => ?_) ?_
      · go_simp; exact IntWalk.i64_in _ (by omega)
      try simp only [Act.put, List.setIfInBounds_toArray, List.set_cons_zero, List.set_cons_succ]
      refine plan_w (v := .int .i64 ((b.toNat : Int) * 65536)) rfl rfl (fun wx => ?_) ?_
      · go_simp; exact IntWalk.i64_in _ (by omega)
      try simp only [Act.put, List.setIfInBounds_toArray, List.set_cons_zero, List.set_cons_succ]
      refine plan_w (v := .int .i64 ((a.toNat : Int) * 16777216 + (b.toNat : Int) * 65536)) rfl rfl (fun wx => ?_) ?_
      · go_simp
      try simp only [Act.put, List.setIfInBounds_toArray, List.set_cons_zero, List.set_cons_succ]
      refine plan_w (v := .string qr) rfl rfl (fun wx => ?_) ?_
      · go_simp
      try simp only [Act.put, List.setIfInBounds_toArray, List.set_cons_zero, List.set_cons_succ]
      refine plan_w (v := .int .u8 (c.toNat : Int)) rfl rfl (fun wx => ?_) ?_
      · rw [← HQR.out, HABCD.out]; exact exec_idxS (j := 2) rfl rfl rfl Try.underlying9 rfl wx
      try simp only [Act.put, List.setIfInBounds_toArray, List.set_cons_zero, List.set_cons_succ]
      refine plan_w (v := .int .i64 (c.toNat : Int)) rfl rfl (fun wx => ?_) ?_
      · go_simp; exact IntWalk.i64_in _ (by omega)
      try simp only [Act.put, List.setIfInBounds_toArray, List.set_cons_zero, List.set_cons_succ]
      refine plan_w (v := .int .i64 ((c.toNat : Int) * 256)) rfl rfl (fun wx => ?_) ?_
      · go_simp; exact IntWalk.i64_in _ (by omega)
      try simp only [Act.put, List.setIfInBounds_toArray, List.set_cons_zero, List.set_cons_succ]
      refine plan_w (v := .int .i64 ((a.toNat : Int) * 16777216 + (b.toNat : Int) * 65536 + (c.toNat : Int) * 256)) rfl rfl (fun wx => ?_) ?_
      · go_simp
      try simp only [Act.put, List.setIfInBounds_toArray, List.set_cons_zero, List.set_cons_succ]
      refine plan_w (v := .string qr) rfl rfl (fun wx => ?_) ?_
      · go_simp
      try simp only [Act.put, List.setIfInBounds_toArray, List.set_cons_zero, List.set_cons_succ]
      refine plan_w (v := .int .u8 (d.toNat : Int)) rfl rfl (fun wx => ?_) ?_
      · rw [← HQR.out, HABCD.out]; exact exec_idxS (j := 3) rfl rfl rfl Try.underlying9 rfl wx
      try simp only [Act.put, List.setIfInBounds_toArray, List.set_cons_zero, List.set_cons_succ]
      refine plan_w (v := .int .i64 (d.toNat : Int)) rfl rfl (fun wx => ?_) ?_
      · go_simp; exact IntWalk.i64_in _ (by omega)
      try simp only [Act.put, List.setIfInBounds_toArray, List.set_cons_zero, List.set_cons_succ]
      refine plan_w (v := .int .i64 ((a.toNat : Int) * 16777216 + (b.toNat : Int) * 65536 + (c.toNat : Int) * 256 + (d.toNat : Int))) rfl rfl (fun wx => ?_) ?_
      · go_simp
      try simp only [Act.put, List.setIfInBounds_toArray, List.set_cons_zero, List.set_cons_succ]
      refine plan_m rfl rfl ?_
      go_simp
      try simp only [Act.put, List.setIfInBounds_toArray, List.set_cons_zero, List.set_cons_succ]
      refine plan_end ?_
      refine NoPanic.normal ?_
      clear ho1 ho2 ho3 g0 g1 g2 g3
      obtain ⟨N, hN⟩ : ∃ N, a.toNat * 16777216 + b.toNat * 65536 + c.toNat * 256 + d.toNat = N := ⟨_, rfl⟩
      have hNI : (a.toNat : Int) * 16777216 + (b.toNat : Int) * 65536 + (c.toNat : Int) * 256 + (d.toNat : Int) = (N : Int) := by omega
      have hNb : (N : Int) < 4294967296 := by omega
      simp only [hNI]
      have HNN := Lib.hid (HNUM.out.trans hN)
      clear hNI hN ha hb hc hd HNUM
      by_cases hbig : 16384 < N
      · have hbI : (16384 : Int) < (N : Int) := by omega
        have HU := Lib.hid (HOP.out.stop _ HNN.out (.inr (.inl hbig)))
        clear hbig
        go_wp2_with fail
        go_ret2
        exact ⟨g, rfl, ⟨rv, by rw [← SMf.disk, HU.out]; exact HRA.out.still (Fr.refl Nob _).drew⟩, HFR.out.drew⟩
      · have HNS := Lib.hid hbig
        have hbJ : decide ((16384 : Int) < (N : Int)) = false := by simp; omega
        have hN16 : (N : Int) ≤ 16384 := by omega
        clear hbig hNb
        by_cases hfit : qr.size < 12 + N
        · have hfI : (qr.size : Int) < 12 + (N : Int) := by omega
          have HU := Lib.hid (HOP.out.stop _ HNN.out (.inr (.inr (.inl (by rw [List.length_drop]; have := HML.out; omega)))))
          clear hfit
          go_wp2_with (with_reducible refine wl_stop (o := ⟨some 59, _, _, _, _, _⟩) ?_)
          unfold Stop
          try simp only [hbJ]
          go_wp2_with fail
          go_ret2
          exact ⟨g, rfl, ⟨rv, by rw [← SMf.disk, HU.out]; exact HRA.out.still (Fr.refl Nob _).drew⟩, HFR.out.drew⟩
        · have HFT := Lib.hid hfit
          clear hfit
          go_wp2_with (with_reducible refine wl_stop (o := ⟨some 59, _, _, _, _, _⟩) ?_)
          unfold Stop
          try simp only [hbJ]
          have hqI : decide ((qr.size : Int) < 12 + (N : Int)) = false := by have := HFT.out; simp; omega
          go_wp2_with fail
          clear hqI hbJ
          obtain ⟨ar, cr, hrv, -⟩ := HRA.out.recs.form
          change rv = .slice ar recs.length cr at hrv
          subst hrv
          have HRD := Lib.hid (HRA.out.still (Fr.refl Nob wr).drew)
          have HFD := Lib.hid HFR.out.drew
          clear HRA HFR c1
          generalize wr.drew = wd at *
          have HRN := Lib.hid (show recs.length ≤ 1000000 by have := H12.out; have := HF.out; have := HN.out; have := H2.out; omega)
          obtain ⟨R, hR⟩ : ∃ R, ((l.drop qd.size).drop 4).take N = R := ⟨_, rfl⟩
          have HRL := Lib.hid (show R.length = N by rw [← hR, List.length_take, List.length_drop, List.length_drop]; have := HFT.out; have := HML.out; omega)
          have hrm : ∀ wx, (Instr.sliceAt 9 (.string qr) (some (.int .i64 4)) (some (.int .i64 (4 + (N : Int)))) none).run Try.prog wx = .ok (.string (mkS R)) wx := fun wx => by
            have h := run_cutMidS wx Try.underlying9 qr 4 (4 + N) (by omega) (by have := HFT.out; omega)
            rw [← HQR.out, ext_midS _ 4 (4 + N) (by omega) (by rw [List.length_drop]; have := HFT.out; have := HML.out; omega), show 4 + N - 4 = N by omega, hR, HQR.out] at h
            simpa using h
          have HR := Lib.hid hR
          clear hR
          have HRM := Lib.hid hrm
          clear hrm
          go_wp2_with fail
          refine wp_region_noPanic ?_
          refine wp_region_plan (fun wx => RA1 wx w.heap.size g lim (SMf recs ckS) (.slice ar recs.length cr)) 9 (.w 0 (.w 1 (.w 2 (.t 3 (.w 4 (.w 5 (.w 6 (.w 7 (.w 8 (.m 9 (.m 10 .nil))))))))))) (by kernel_rfl) (by kernel_rfl) (HRD.out.still (Fr.refl Nob _).drew) (fun _ _ _ _ _ h => h) ?_
          refine plan_w (v := ?_) rfl rfl (fun wx => ?_) ?_; rotate_left 1; (go_simp; with_reducible rfl)
          try simp only [Act.put, List.setIfInBounds_toArray, List.set_cons_zero, List.set_cons_succ]
          refine plan_w (v := ?_) rfl rfl (fun wx => ?_) ?_; rotate_left 1; (go_simp; with_reducible rfl)
          try simp only [Act.put, List.setIfInBounds_toArray, List.set_cons_zero, List.set_cons_succ]
          refine plan_w (v := ?_) rfl rfl (fun wx => ?_) ?_; rotate_left 1; (go_simp; with_reducible rfl)
          try simp only [Act.put, List.setIfInBounds_toArray, List.set_cons_zero, List.set_cons_succ]
          refine plan_t (v := .slice ar recs.length cr) rfl rfl (fun wx hS => ?_) ?_
          · have hc := hS.has.cell (i := 2) (v := .slice ar recs.length cr) rfl; clear hS; go_simp
          try simp only [Act.put, List.setIfInBounds_toArray, List.set_cons_zero, List.set_cons_succ]
          refine plan_w (v := ?_) rfl rfl (fun wx => ?_) ?_; rotate_left 1; (go_simp; with_reducible rfl)
          try simp only [Act.put, List.setIfInBounds_toArray, List.set_cons_zero, List.set_cons_succ]
          refine plan_w (v := ?_) rfl rfl (fun wx => ?_) ?_; rotate_left 1; (go_simp; with_reducible rfl)
          try simp only [Act.put, List.setIfInBounds_toArray, List.set_cons_zero, List.set_cons_succ]
          refine plan_w (v := ?_) rfl rfl (fun wx => ?_) ?_; rotate_left 1; (go_simp; with_reducible rfl)
          try simp only [Act.put, List.setIfInBounds_toArray, List.set_cons_zero, List.set_cons_succ]
          refine plan_w (v := .int .i64 (4 + (N : Int))) rfl rfl (fun wx => ?_) ?_
          · go_simp; exact IntWalk.i64_in _ (by omega)
          try simp only [Act.put, List.setIfInBounds_toArray, List.set_cons_zero, List.set_cons_succ]
          have hrm := HRM.out
          refine plan_w (v := ?_) rfl rfl (fun wx => ?_) ?_; rotate_left 1; (go_simp; with_reducible rfl)
          try simp only [Act.put, List.setIfInBounds_toArray, List.set_cons_zero, List.set_cons_succ]
          clear hrm
          refine plan_m rfl rfl ?_
          go_simp
          refine (Rframe_any recs.length R _ HRN.out (by have := HRL.out; have := HNS.out; omega)).mono ?_
          rintro e2 w2 ⟨rfl, hf2⟩
          have HR2 := Lib.hid (HRD.out.still ((Fr.refl Nob wd).drew.then hf2))
          have HF2 := Lib.hid (HFD.out.then ((Fr.refl Nob wd).drew.then hf2))
          clear hf2 HRD HFD
          try simp only []
          refine plan_m rfl rfl ?_
          go_simp
          try simp only [Act.put, List.setIfInBounds_toArray, List.set_cons_zero, List.set_cons_succ]
          refine plan_end ?_
          refine NoPanic.normal ?_
          have HFS := Lib.hid (mkS_size (frameB ckS recs.length R))
          have HFL2 := Lib.hid (frameB_length recs.length R)
          obtain ⟨qf, hqf⟩ : ∃ qf, mkS (frameB ckS recs.length R) = qf := ⟨_, rfl⟩
          rw [hqf] at HFS ⊢
          have HQF := Lib.hid hqf
          clear hqf
          have hqx : ∀ wx, (Instr.sliceAt 9 (.string qr) none (some (.int .i64 (12 + (N : Int)))) none).run Try.prog wx = .ok (.string (mkS ((l.drop qd.size).take (12 + N)))) wx := fun wx => by
            have h := run_cutS wx Try.underlying9 qr (12 + N) (by have := HFT.out; omega)
            rw [← HQR.out, ext_hiS, HQR.out] at h
            simpa using h
          by_cases hpre : (l.drop qd.size).take (12 + N) = frameB ckS recs.length R
          · rw [hpre, HQF.out] at hqx
            have HPE := Lib.hid hpre
            clear hpre
            have HOS := Lib.hid (HOP.out.step N HNN.out (by have := HNS.out; omega) (by rw [List.length_drop]; have := HFT.out; have := HML.out; omega) (by rw [HR.out]; exact HPE.out.symm))
            rw [HR.out, List.drop_drop] at HOS
            have c1 := HR2.out.has.cell (i := 1) (v := .string qd) (by rw [HQD.out]; rfl)
            have hq1 : (qd.size : Int) ≤ 1048576 := by have := HF.out; have := HN.out; have := H2.out; omega
            have hq2 : (qf.size : Int) ≤ 20000 := by have h3 := HFS.out; have h4 := HFL2.out; have h5 := HRL.out; have h6 := HNS.out; omega
            have hp := HR2.out.has.put1 1 (.string (qd ++ qf))
            have hfz := HR2.out.has.free 1 (by simp)
            have HP := Lib.hid hp
            have c2 := hp.1.cell (i := 2) (v := .slice ar recs.length cr) rfl
            clear hp
            go_wp2_with fail
            clear c1 c2 hfz hqx
            have HRO := Lib.hid (HR2.out.recs.offB HR2.out.has (by decide) HP.out.2)
            have HPW := Lib.hid (HF2.out.new HP.out.2 (HR2.out.low))
            obtain ⟨wp, hwp⟩ : ∃ wp, w2.setCell ⟨g, 1, none⟩ (.string (qd ++ qf)) = wp := ⟨_, rfl⟩
            rw [hwp] at HP HRO HPW ⊢
            clear hwp
            refine wp_region_noPanic ?_
            refine wp_region_plan (fun wx => Has wx g [.int .i64 (lim : Int), .string (qd ++ qf), .slice ar recs.length cr, .int .i64 (lftI (SMf recs ckS)), .bool (SMf recs ckS).off] 58) 10 (.w 0 (.w 1 (.w 2 (.w 3 (.t 4 (.w 5 (.w 6 (.w 7 (.w 8 (.r 9 (.m 10 (.w 11 (.w 12 (.m 13 .nil)))))))))))))) (by kernel_rfl) (by kernel_rfl) HP.out.1.drew (fun _ _ _ _ _ h => h) ?_
            refine plan_w (v := ?_) rfl rfl (fun wx => ?_) ?_; rotate_left 1; (go_simp; with_reducible rfl)
            try simp only [Act.put, List.setIfInBounds_toArray, List.set_cons_zero, List.set_cons_succ]
            refine plan_w (v := ?_) rfl rfl (fun wx => ?_) ?_; rotate_left 1; (go_simp; with_reducible rfl)
            try simp only [Act.put, List.setIfInBounds_toArray, List.set_cons_zero, List.set_cons_succ]
            refine plan_w (v := ?_) rfl rfl (fun wx => ?_) ?_; rotate_left 1; (go_simp; with_reducible rfl)
            try simp only [Act.put, List.setIfInBounds_toArray, List.set_cons_zero, List.set_cons_succ]
            refine plan_w (v := ?_) rfl rfl (fun wx => ?_) ?_; rotate_left 1; (go_simp; with_reducible rfl)
            try simp only [Act.put, List.setIfInBounds_toArray, List.set_cons_zero, List.set_cons_succ]
            refine plan_t (v := .slice ar recs.length cr) rfl rfl (fun wx hS => ?_) ?_
            · have hc := hS.cell (i := 2) (v := .slice ar recs.length cr) rfl; clear hS; go_simp
            try simp only [Act.put, List.setIfInBounds_toArray, List.set_cons_zero, List.set_cons_succ]
            refine plan_w (v := ?_) rfl rfl (fun wx => ?_) ?_; rotate_left 1; (go_simp; with_reducible rfl)
            try simp only [Act.put, List.setIfInBounds_toArray, List.set_cons_zero, List.set_cons_succ]
            refine plan_w (v := ?_) rfl rfl (fun wx => ?_) ?_; rotate_left 1; (go_simp; with_reducible rfl)
            try simp only [Act.put, List.setIfInBounds_toArray, List.set_cons_zero, List.set_cons_succ]
            refine plan_w (v := .int .i64 (4 + (N : Int))) rfl rfl (fun wx => ?_) ?_
            · go_simp; exact IntWalk.i64_in _ (by omega)
            try simp only [Act.put, List.setIfInBounds_toArray, List.set_cons_zero, List.set_cons_succ]
            have hrm := HRM.out
            refine plan_w (v := ?_) rfl rfl (fun wx => ?_) ?_; rotate_left 1; (go_simp; with_reducible rfl)
            try simp only [Act.put, List.setIfInBounds_toArray, List.set_cons_zero, List.set_cons_succ]
            clear hrm
            refine plan_r rfl rfl ?_
            refine wp_rows (St.start Nob wp.drew) rfl Try.underlying56 info_strS [.string (mkS R)] rfl (by intro u hu; simp only [List.mem_singleton] at hu; subst hu; rfl) rfl [.string (mkS R)] rfl ?_
            intro gl w5 st5
            refine ⟨HP.out.1.keep ((Fr.refl Nob wp).drew.then st5.fr) id, ?_⟩
            try simp only [Act.put, List.setIfInBounds_toArray, List.set_cons_zero, List.set_cons_succ]
            have hd5 := (Fr.refl Nob wp).drew.then st5.fr
            have HO5 := Lib.hid (HRO.out.still hd5)
            refine plan_m rfl rfl ?_
            refine wp_append1 HO5.out rfl Try.underlying56 info_strS rfl (by decide) rfl (m := 1) (news := [.string (mkS R)]) rfl (by simpa using Rd.whole (st5.at 0 rfl)) (by intro u hu; simp only [List.mem_singleton] at hu; subst hu; rfl) (by unfold maxLen; have := HRN.out; show recs.length + 1 ≤ _; omega) (by have := HRN.out; show (recs.length + 1) * 16 ≤ _; omega) (Nat.le_trans HR2.out.size (Nat.le_trans HP.out.2.size hd5.size)) ?_
            intro v6 w6 ho6 hf6 hb6
            change Go.Mv.Own w6 w.heap.size 9 1 v6 (recs.length + 1) (ss recs ++ [.string (mkS R)]) at ho6
            rw [ss_snocS] at ho6
            have hh6 := Has.offO HO5.out (HP.out.1.keep hd5 id) (by decide) hf6
            have hp6 := hh6.put1 2 v6
            obtain ⟨u6, cu6, fu6⟩ := hh6.ready (i := 2) (by simp)
            have HP6 := Lib.hid hp6
            have HO6 := Lib.hid (ho6.offB hh6 (by decide) hp6.2)
            have HF6 := Lib.hid (HO5.out.fr (HPW.out.then hd5) (Nat.le_refl _) hf6 |>.new hp6.2 HR2.out.low)
            obtain ⟨a6, c6, rfl, -⟩ := ho6.form
            clear hd5 st5 ho6 hf6 hb6 hh6 hp6
            try simp only [Act.put, List.setIfInBounds_toArray, List.set_cons_zero, List.set_cons_succ]
            refine plan_w (v := ?_) rfl rfl (fun wx => ?_) ?_; rotate_left 1; (go_simp; with_reducible rfl)
            try simp only [Act.put, List.setIfInBounds_toArray, List.set_cons_zero, List.set_cons_succ]
            refine plan_w (v := ?_) rfl rfl (fun wx => ?_) ?_; rotate_left 1; (go_simp; with_reducible rfl)
            try simp only [Act.put, List.setIfInBounds_toArray, List.set_cons_zero, List.set_cons_succ]
            refine plan_m rfl rfl ?_
            go_simp
            try simp only [Act.put, List.setIfInBounds_toArray, List.set_cons_zero, List.set_cons_succ]
            refine plan_end ?_
            refine NoPanic.normal ?_
            have HDA := Lib.hid (show mkS (SMf (recs ++ [R]) ckS).d = qd ++ qf by rw [SMf_d, framesB_snoc, Nat.zero_add, ← HQD.out, ← HQF.out, SMf_d, mkS_app2])
            have hfl9 : (framesB ckS 0 (recs ++ [R])).length = qd.size + (12 + N) := by
              rw [framesB_snoc, List.length_append, HFL.out, Nat.zero_add, HFL2.out, HRL.out]
            have hsz9 : (qd ++ qf).size = qd.size + (12 + N) := by rw [← HDA.out, mkS_size]; exact hfl9
            have HSZ9 := Lib.hid hsz9
            have HFL9 := Lib.hid hfl9
            clear hfl9 hsz9 cu6 fu6 hq1 hq2
            go_wp2_with fail
            go_roundw
            case rel =>
              refine ⟨recs ++ [R], qd.size + (12 + N), .slice a6 (recs.length + 1) c6, by have := HFT.out; have := HML.out; omega, by rw [List.length_append, List.length_singleton]; have := H12.out; omega, HOS.out, HFL9.out, ⟨HR2.out.low, ?_, ?_⟩, HF6.out⟩
              · rw [HDA.out]
                exact HP6.out.1
              · show Go.Mv.Own _ _ _ _ _ (recs ++ [R]).length (ss (recs ++ [R]))
                rw [List.length_append]
                exact HO6.out
            case measure =>
              have e1 := HP6.out.1.cell (i := 1) (v := .string (qd ++ qf)) rfl
              have e0 := HRM0.out
              rw [e1, e0]
              show l.length - (qd ++ qf).size < l.length - qd.size
              rw [HSZ9.out]
              have := HFT.out
              have := HML.out
              omega
          · have HU := Lib.hid (HOP.out.stop _ HNN.out (.inr (.inr (.inr (by rw [HR.out]; exact fun e => hpre e.symm)))))
            have hne : mkS ((l.drop qd.size).take (12 + N)) ≠ qf := by rw [← HQF.out]; exact fun e => hpre (mkS_inj e)
            generalize mkS ((l.drop qd.size).take (12 + N)) = qx at *
            have hne2 : (qx.toList == qf.toList) = false := by
              cases h : (qx.toList == qf.toList) with
              | false => rfl
              | true => exact absurd (by rw [toList_data, toList_data] at h; have h2 := eq_of_beq h; exact ByteArray.ext (Array.toList_inj.1 h2)) hne
            clear hpre hne
            go_wp2_with fail
            go_ret2
            exact ⟨g, rfl, ⟨_, by rw [← SMf.disk, HU.out]; exact HR2.out⟩, HF2.out⟩
end Go.Proofs.Ytdadnajbdnbbdaa

/- mintvaultlaw10: same, record. -/
namespace Go.Proofs.Ytdadnajbdnbbdaa
open Go.RowKit Go.Mv Mvp
theorem splice_oneS (B : List Value) (k : Nat) (v : Value) (h : k < B.length) : splice B k [v] = B.set k v := by
  unfold splice
  rw [List.set_eq_take_append_cons_drop, if_pos h]
  rfl
/-- one cell of an owned slice is written -/
theorem own_cellS {w : World} {base : Nat} {T : TypeId} {g o n cap : Nat} {L : List Value} (h : Go.Mv.Own w base T 1 (.slice (some ⟨g, o, none⟩) n cap) n L) {k : Nat} (hk : k < n) (v : Value) :
    (∃ u, w.cell? ⟨g, o + k, none⟩ = some u ∧ w.frozen? ⟨g, o + k, none⟩ = false) ∧ Go.Mv.Own (w.setCell ⟨g, o + k, none⟩ v) base T 1 (.slice (some ⟨g, o, none⟩) n cap) n (L.set k v) := by
  have h0 := h
  rcases h.2 with ⟨h2, -⟩ | ⟨g', o', cap', B, h2, hb, hh, hn, hm, hl, ht⟩
  · cases h2
  · cases h2
    rw [Nat.mul_one] at hl
    refine ⟨hh.ready (by omega), ?_⟩
    have hL : L.length = n := by rw [h.1, Nat.mul_one]
    rw [← splice_oneS L k v (by omega)]
    refine h0.wrote (by simp; omega) fun B' hB' => ?_
    have h3 : B' = B := by
      obtain ⟨_, _, e1, _⟩ := hh
      obtain ⟨_, _, e2, _⟩ := hB'
      rw [e1] at e2
      simp only [Option.some.injEq, Obj.cells.injEq] at e2
      have := congrArg Array.toList e2.1
      simpa using this.symm
    subst h3
    rw [splice_oneS _ _ _ (by omega)]
    exact hB'.set (o + k) v
theorem sa_offR {W W' : World} {base base' g gb lim lim' : Nat} {s s' : SM} {v rv rv2 : Value} (h : SAt1 W base g lim s v rv) (hr : RA1 W base' gb lim' s' rv2) (hf : Fr (RB gb rv2) W W') : SAt1 W' base g lim s v rv :=
  h.keep hf fun k hk hx => by
    rcases hx with rfl | hx
    · exact StB.ne h hr.has (by decide) (by decide) (by decide) k hk rfl
    · rcases hk with rfl | hk | hk
      · exact hr.recs.ne h.has (by decide) hx
      · exact h.bytes.ne2 hr.recs (by decide) k hk hx
      · exact h.exts.ne2 hr.recs (by decide) k hk hx
theorem ra_offS {W W' : World} {base base' g gb lim lim' : Nat} {s s' : SM} {v rv rv2 : Value} (h : SAt1 W base g lim s v rv) (hr : RA1 W base' gb lim' s' rv2) (hf : Fr (StB g v rv) W W') : RA1 W' base' gb lim' s' rv2 :=
  hr.keep hf fun k hx hk => by
    rcases hx with rfl | hx
    · exact StB.ne h hr.has (by decide) (by decide) (by decide) k hk rfl
    · rcases hk with rfl | hk | hk
      · exact hr.recs.ne h.has (by decide) hx
      · exact h.bytes.ne2 hr.recs (by decide) k hk hx
      · exact h.exts.ne2 hr.recs (by decide) k hk hx
attribute [local irreducible] permS permP toB turnsK squeeze permN permB spongeB feed frameL framesL tagL bigN bigJ numS frameB framesB ckS exC SM.put SM.add unframe OpenI
theorem rOpen_lim (l : ByteArray) (lim : Int) (w : World) (h : lim < 64 ∨ 1048576 < lim) :
    Calls Try.prog 37 #[.string l, .int .i64 lim] w fun e w' => e = .returned (.tuple #[.pointer none, .int .i64 7]) ∧ w' = w := by
  have H := Lib.hid h
  clear h
  go_enter Try.func37, Try.ntmps37
  go_wp2_with fail
  refine (rNew_no lim w H.out).mono ?_
  rintro e w' ⟨rfl, rfl⟩
  go_wp2_with fail
  go_ret2
  exact ⟨rfl, rfl⟩
theorem rOpen_long (l : ByteArray) (lim : Nat) (w : World) (h1 : 64 ≤ lim) (h2 : lim ≤ 1048576) (hn : lim < l.size) :
    Calls Try.prog 37 #[.string l, .int .i64 (lim : Int)] w fun e w' => e = .returned (.tuple #[.pointer none, .int .i64 1]) ∧ Fr Nob w w' := by
  have H1 := Lib.hid h1
  have H2 := Lib.hid h2
  have hnI : (lim : Int) < (l.size : Int) := by omega
  clear h1 h2 hn
  go_enter Try.func37, Try.ntmps37
  go_wp2_with fail
  refine (rNew_ok lim w H1.out H2.out).mono ?_
  rintro e1 w1 ⟨g, rfl, hs1, hf1⟩
  have HF1 := Lib.hid hf1
  clear hs1 hf1
  go_wp2_with fail
  go_ret2
  exact ⟨rfl, HF1.out⟩
set_option maxHeartbeats 2000000 in
set_option maxRecDepth 1000000 in
theorem same_true (g gb base lim : Nat) (s : SM) (v rv rv2 : Value) (w : World) (h : SAt1 w base g lim s v rv) (hr : RA1 w base gb lim s rv2) (hd : s.d.length ≤ 1048576) :
    Calls Try.prog 24 #[.pointer (some ⟨g, 0, none⟩), .pointer (some ⟨gb, 0, none⟩)] w fun e w' => e = .returned (.bool true) ∧ Fr Nob w w' := by
  have H := Lib.hid h
  have HR := Lib.hid hr
  have HD := Lib.hid hd
  obtain ⟨ar, cr, rfl, -⟩ := hr.recs.form
  clear h hr hd
  go_enter Try.func24, Try.ntmps24
  go_wp2_with fail
  refine (sDisk_any g base lim s v rv w H.out (by have := HD.out; omega)).mono ?_
  rintro e1 w1 ⟨v1, rfl, ho1, hf1⟩
  have HO := Lib.hid ho1
  have HF := Lib.hid hf1
  obtain ⟨a1, c1, rfl, -, hr1, -⟩ := ho1.form
  rw [Nat.mul_one] at hr1
  have HRD := Lib.hid (show RdB w1 a1 s.d.length s.d from hr1)
  have HS1 := Lib.hid (H.out.still hf1)
  have HR1 := Lib.hid (HR.out.still hf1)
  have c1' := HR1.out.has.cell (i := 1) (v := .string (mkS s.d)) rfl
  have c2' := HR1.out.has.cell (i := 2) (v := .slice ar s.recs.length cr) rfl
  have hcv := fun nq => run_string (P := Try.prog) (HRD.out.still ((Fr.refl Nob w1).drewN nq)) c1 Try.underlying22 Try.underlying5 Try.underlying9
  generalize mkS s.d = qd at *
  clear ho1 hf1 hr1
  go_wp2_with fail
  go_quiet ((go_at_call 26; exact Calls.quiet_of_same (sLen_any g base lim s v rv _ (HS1.out.still ((Fr.refl Nob w1).drewN _)))))
  go_wp2_with fail
  clear c1' c2' hcv
  go_loopw [6] (fun i wr => ∃ (j : Nat) (L : List Value), j ≤ s.d.length ∧ i = .int .i64 (j : Int) ∧ Go.Mv.Own wr w.heap.size 5 1 (.slice a1 s.d.length c1) s.d.length L ∧ Fr Nob w wr) (fun i _ => s.d.length - (intOf i).toNat)
  case atStart => exact ⟨0, _, Nat.zero_le _, rfl, HO.out.still ((Fr.refl Nob w1).drewN _), HF.out.drewN _⟩
  case round =>
    obtain ⟨j, L, hj, rfl, ho, hf⟩ := hrel
    have hd1 : (s.d.length : Int) ≤ 1048576 := by have := HD.out; omega
    by_cases hlt : j < s.d.length
    · have hltI : (j : Int) < (s.d.length : Int) := by omega
      have HLT := Lib.hid hlt
      have hsh : ∃ g9 o9, a1 = some ⟨g9, o9, none⟩ := by
        rcases ho.2 with ⟨-, h0⟩ | ⟨g9, o9, cap, B, e, -⟩
        · omega
        · cases e; exact ⟨g9, o9, rfl⟩
      obtain ⟨g9, o9, rfl⟩ := hsh
      obtain ⟨⟨u, cu, fu⟩, ho2⟩ := own_cellS ho hlt (.int .u8 9)
      have HO2 := Lib.hid ho2
      have HF2 := Lib.hid (hf.setCell g9 (o9 + j) none (.int .u8 9) fun h => absurd h (by have := (ho.lt (k := g9) rfl).1; omega))
      clear ho hf ho2 hlt hj
      go_wp2_with fail
      go_roundw
      case rel => exact ⟨j + 1, _, by have := HLT.out; omega, by go_num, HO2.out, HF2.out⟩
      case measure => have := HLT.out; simp [intOf]; omega
    · have hge : ¬ ((j : Int) < (s.d.length : Int)) := by omega
      have HF2 := Lib.hid hf
      clear ho hf hlt hj
      go_wp2_with fail
      go_ret
      exact ⟨rfl, HF2.out⟩
end Go.Proofs.Ytdadnajbdnbbdaa

/- Lent, Still of larger texts; mintvaultlaw10: record, open. -/
namespace Go.Proofs.Ytdadnajbdnbbdaa
open Go.RowKit Go.Mv Mvp
set_option maxHeartbeats 400000 in
set_option maxRecDepth 100000 in
theorem lent_big (s : ByteArray) (w : World) (hs : s.size ≤ 100000000) :
    Calls Try.prog 9 #[.string s] w fun e w' => e = .returned (.slice (some ⟨w.heap.size, 0, none⟩) (s.size + 160) (s.size + 160)) ∧ Has w' w.heap.size (bs (lentL s.data.toList)) 5 ∧ Fr Nob w w' ∧ w'.heap.size = w.heap.size + 1 := by
  go_enter Try.func9, Try.ntmps9
  go_wp2_with (first
    | (at_make; refine wl_make rfl rfl Try.underlying22 info_u8 rfl rfl rfl (s.size + 160) (s.size + 160) (by simp) (by simp) (by omega) (by omega) (by unfold maxLen; omega) ?_; intro w1 hw1 hf1 hz1)
    | (with_reducible refine wl_stop (o := ⟨some 11, _, _, _, _, _⟩) ?_))
  refine wl_copy_str rfl rfl Try.underlying22 size_u8 rfl rfl hw1 (by omega) (by simp) ?_
  intro w2 hw2 hf2 hz2
  go_wp2_with fail
  go_loopw [4] (fun i wr => ∃ k : Nat, s.size ≤ k ∧ k ≤ s.size + 160 ∧ i = .int .i64 k ∧ Has wr w.heap.size (bs (fill (lentL s.data.toList) (s.data.toList ++ List.replicate 160 0) k)) 5 ∧ Fr Nob w wr ∧ wr.heap.size = w.heap.size + 1)
    (fun i _ => s.size + 160 - (intOf i).toNat)
  case atStart =>
    refine ⟨s.size, Nat.le_refl _, by omega, rfl, ?_, (hf1.new hf2 (Nat.le_refl _)), by omega⟩
    have e := lent_start s
    rw [← e]; exact hw2
  case round =>
    obtain ⟨k, hk1, hk2, rfl, hh, hf, hz⟩ := hrel
    have hlen : (bs (fill (lentL s.data.toList) (s.data.toList ++ List.replicate 160 0) k)).length = s.size + 160 := by rw [length_bs]; exact lent_fill_len s k
    by_cases hlt : k < s.size + 160
    · obtain ⟨v0, hc, hfr⟩ := hh.ready (i := k) (by rw [hlen]; exact hlt)
      clear hlen hz1 hz2 hw1 hw2 hf1 hf2
      go_wp2
      go_roundw
      case rel =>
        refine ⟨k + 1, by omega, by omega, by go_num, ?_, hf.setCell _ _ _ _ (fun h => absurd h (Nat.lt_irrefl _)), by simpa [World.setCell] using hz⟩
        have e : Value.int .u8 (bits BinOp.xor IntKind.u8 ((k : Int) % 251) 165) = .int .u8 (((lentL s.data.toList).getD k 0).toNat : Int) := by
          rw [lentL_at _ _ (by rw [size_list]; exact hk1) (by rw [size_list]; exact hlt)]
          have e1 : ((k : Int) % 251) = ((k % 251 : Nat) : Int) := by omega
          have e2 := u8_xor_nat (k % 251) 165 (by omega) (by omega)
          rw [e1]
          rw [show (165 : Int) = ((165 : Nat) : Int) from rfl, e2]
          have e3 : k % 251 % 256 = k % 251 := by omega
          simp [UInt8.toNat_xor, e3]
        rw [e]
        have := hh.set k (.int .u8 (((lentL s.data.toList).getD k 0).toNat : Int))
        rw [bs_set, fill_set _ _ _ (by simp [lentL_len]) (by rw [lentL_len, size_list]; exact hlt)] at this
        exact this
      case measure => simp [intOf]; omega
    · go_wp2
      go_ret
      have e : fill (lentL s.data.toList) (s.data.toList ++ List.replicate 160 0) k = lentL s.data.toList := fill_all _ _ _ (by simp [lentL_len]) (by rw [lentL_len, size_list]; omega)
      rw [e] at hh
      exact ⟨rfl, hh, hf, hz⟩
set_option maxHeartbeats 400000 in
set_option maxRecDepth 100000 in
theorem still_big (b : Option Addr) (n c : Nat) (l : List UInt8) (s : ByteArray) (w : World) (hs : s.size ≤ 100000000) (hb : RdB w b n l) :
    Calls Try.prog 11 #[.slice b n c, .string s] w fun e w' => e = .returned (.bool (decide (l = lentL s.data.toList))) ∧ Fr Nob w w' := by
  go_enter Try.func11, Try.ntmps11
  go_wp2_with fail
  refine (lent_big s _ hs).mono ?_
  rintro e w1 ⟨rfl, hh, hf, hz⟩
  have hb1 := hb.still hf
  have hc1 : RdB w1 (some ⟨w.heap.size, 0, none⟩) (s.size + 160) (lentL s.data.toList) := by
    have := Rd.whole hh
    rwa [length_bs, lentL_len, size_list] at this
  go_wp2_with (first
    | (with_reducible refine wl_stop (o := ⟨some 9, _, _, _, _, _⟩) ?_))
  refine wl_string rfl rfl Try.underlying22 Try.underlying5 Try.underlying9 rfl hb1 ?_
  go_wp2_with (first
    | (with_reducible refine wl_stop (o := ⟨some 11, _, _, _, _, _⟩) ?_))
  refine wl_string rfl rfl Try.underlying22 Try.underlying5 Try.underlying9 rfl hc1 ?_
  go_wp2_with fail
  go_ret
  exact ⟨ret_bool (beq_mkS _ _), hf⟩
attribute [local irreducible] permS permP toB turnsK squeeze permN permB spongeB feed frameL framesL tagL bigN bigJ numS frameB framesB ckS exC SM.put SM.add unframe OpenI
theorem still_bigT (b : Option Addr) (n c : Nat) (x : List UInt8) (w : World) (hs : x.length ≤ 100000000) (hb : RdB w b n (lentL x)) :
    Calls Try.prog 11 #[.slice b n c, .string (mkS x)] w fun e w' => e = .returned (.bool true) ∧ Fr Nob w w' := by
  refine (still_big b n c (lentL x) (mkS x) w (by rw [mkS_size]; exact hs) hb).mono ?_
  rintro e w' ⟨rfl, hf⟩
  rw [mkS_toList]
  exact ⟨ret_bool (decide_eq_true rfl), hf⟩
theorem record_no (g gb base lim : Nat) (s : SM) (v rv rv2 : Value) (i : Int) (w : World) (h : SAt1 w base g lim s v rv) (hr : RA1 w base gb lim s rv2) (hi : i < 0 ∨ (s.recs.length : Int) ≤ i) :
    Calls Try.prog 23 #[.pointer (some ⟨g, 0, none⟩), .pointer (some ⟨gb, 0, none⟩), .int .i64 i] w fun e w' => e = .returned (.bool true) ∧ Fr Nob w w' := by
  have H := Lib.hid h
  have HI := Lib.hid hi
  obtain ⟨ar, cr, rfl, -⟩ := hr.recs.form
  have c2 := hr.has.cell (i := 2) (v := .slice ar s.recs.length cr) rfl
  clear h hr hi
  go_enter Try.func23, Try.ntmps23
  go_wp2_with fail
  refine (sRecord_no g base lim s v rv i w H.out HI.out).mono ?_
  rintro e w' ⟨rfl, rfl⟩
  by_cases h1 : i < 0
  · go_wp2_with fail
    go_ret
    exact ⟨rfl, Fr.refl _ _⟩
  · have h2 : (s.recs.length : Int) ≤ i := HI.out.resolve_left h1
    go_wp2_with fail
    go_ret
    exact ⟨rfl, Fr.refl _ _⟩
set_option maxHeartbeats 2000000 in
set_option maxRecDepth 1000000 in
theorem record_ok (g gb base lim : Nat) (s : SM) (v rv rv2 : Value) (k : Nat) (w : World) (h : SAt1 w base g lim s v rv) (hr : RA1 w base gb lim s rv2) (hi : SInv ckS s) (hd : s.d.length ≤ 1048576) (hk : k < s.recs.length) :
    Calls Try.prog 23 #[.pointer (some ⟨g, 0, none⟩), .pointer (some ⟨gb, 0, none⟩), .int .i64 (k : Int)] w fun e w' => e = .returned (.bool true) ∧ Fr Nob w w' := by
  obtain ⟨b, hb⟩ : ∃ b, s.recs[k]? = some b := ⟨_, List.getElem?_eq_getElem hk⟩
  have HBL := Lib.hid (hi.1 b (List.mem_of_getElem? hb))
  have H := Lib.hid h
  have HI := Lib.hid hi
  have HD := Lib.hid hd
  have HB := Lib.hid hb
  have HR := Lib.hid hr
  have HK := Lib.hid hk
  have h1 : ¬ (k : Int) < 0 := by omega
  have h2 : ¬ (s.recs.length : Int) ≤ (k : Int) := by omega
  have h3 : (k : Int) < (s.recs.length : Int) := by omega
  obtain ⟨ar, cr, rfl, -⟩ := hr.recs.form
  clear h hr hi hd hb hk
  go_enter Try.func23, Try.ntmps23
  go_wp2_with fail
  refine (sRecord_ok g base lim s v rv k b w H.out HI.out HB.out (by have := HD.out; omega)).mono ?_
  rintro e1 w1 ⟨v1, rfl, ho1, hf1⟩
  obtain ⟨a1, c1, rfl, -, hr1, -⟩ := ho1.form
  rw [Nat.mul_one] at hr1
  have HO := Lib.hid ho1
  have HF := Lib.hid hf1
  have HR1 := Lib.hid (HR.out.still hf1)
  have c2 := HR1.out.has.cell (i := 2) (v := .slice ar s.recs.length cr) rfl
  have hcv := fun nq => run_string (P := Try.prog) ((show RdB w1 a1 b.length b from hr1).still ((Fr.refl Nob w1).drewN nq)) c1 Try.underlying22 Try.underlying5 Try.underlying9
  have hrr := HR1.out.recs
  obtain ⟨a3, c3, e3, -, hr3, -⟩ := hrr.form
  cases e3
  rw [Nat.mul_one] at hr3
  obtain ⟨bk, ok, rfl, hat⟩ := hr3.at (by omega)
  have hck : w1.cell? ⟨bk, ok + k, none⟩ = some (.string (mkS b)) := hat k _ (by unfold ss; rw [List.getElem?_map, HB.out]; rfl)
  generalize mkS b = qb at *
  clear ho1 hf1 hr1 hrr hr3 hat
  generalize hbl : b.length = bl at *
  have hb1 : (bl : Int) ≤ 16384 := by have := HBL.out; omega
  clear hbl
  go_wp2_with fail
  go_quiet (fail)
  go_wp2_with fail
  clear c2 hcv hck h1 h2 h3
  go_loopw [10] (fun i wr => ∃ (j : Nat) (L : List Value), j ≤ bl ∧ i = .int .i64 (j : Int) ∧ Go.Mv.Own wr w.heap.size 5 1 (.slice a1 bl c1) bl L ∧ Fr Nob w wr) (fun i _ => bl - (intOf i).toNat)
  case atStart => exact ⟨0, _, Nat.zero_le _, rfl, HO.out.still ((Fr.refl Nob w1).drewN _), HF.out.drewN _⟩
  case round =>
    obtain ⟨j, L, hj, rfl, ho, hf⟩ := hrel
    by_cases hlt : j < bl
    · have hltI : (j : Int) < (bl : Int) := by omega
      have HLT := Lib.hid hlt
      have hsh : ∃ g9 o9, a1 = some ⟨g9, o9, none⟩ := by
        rcases ho.2 with ⟨-, h0⟩ | ⟨g9, o9, cap, B, e, -⟩
        · omega
        · cases e; exact ⟨g9, o9, rfl⟩
      obtain ⟨g9, o9, rfl⟩ := hsh
      obtain ⟨⟨u, cu, fu⟩, ho2⟩ := own_cellS ho hlt (.int .u8 5)
      have HO2 := Lib.hid ho2
      have HF2 := Lib.hid (hf.setCell g9 (o9 + j) none (.int .u8 5) fun h => absurd h (by have := (ho.lt (k := g9) rfl).1; omega))
      clear ho hf ho2 hlt hj
      go_wp2_with fail
      go_roundw
      case rel => exact ⟨j + 1, _, by have := HLT.out; omega, by go_num, HO2.out, HF2.out⟩
      case measure => have := HLT.out; simp [intOf]; omega
    · have hge : ¬ ((j : Int) < (bl : Int)) := by omega
      have HF2 := Lib.hid hf
      clear ho hf hlt hj
      go_wp2_with fail
      go_ret
      exact ⟨rfl, HF2.out⟩
end Go.Proofs.Ytdadnajbdnbbdaa

/- mintvaultlaw10: open. -/
namespace Go.Proofs.Ytdadnajbdnbbdaa
open Go.RowKit Go.Mv Mvp
theorem lent_ownS {w : World} {g : Nat} {l : List UInt8} (h : Has w g (bs (lentL l)) 5) (base : Nat) (hb : base ≤ g) (hl : l.length ≤ 100000000) : Go.Mv.Own w base 5 1 (.slice (some ⟨g, 0, none⟩) (l.length + 160) (l.length + 160)) (l.length + 160) (bs (lentL l)) := by
  have h2 := Go.Mv.Own.made h base hb 1 (l.length + 160) (l.length + 160) (Nat.le_refl _) (by unfold maxLen; omega) (by rw [length_bs, lentL_len]; omega)
  rwa [List.take_of_length_le (by rw [length_bs, lentL_len]; omega)] at h2
theorem lent_rdS {w : World} {g : Nat} {l : List UInt8} (h : Has w g (bs (lentL l)) 5) : RdB w (some ⟨g, 0, none⟩) l.length l := by
  have := Rd.ofHas h 0 (n := l.length) (by rw [length_bs, lentL_len]; omega)
  rw [List.drop_zero, bs_take] at this
  unfold lentL at this
  rwa [List.take_left' rfl] at this
theorem lent_allS {w : World} {g : Nat} {l : List UInt8} (h : Has w g (bs (lentL l)) 5) : RdB w (some ⟨g, 0, none⟩) (l.length + 160) (lentL l) := by
  have := Rd.whole h
  rwa [length_bs, lentL_len] at this
attribute [local irreducible] permS permP toB turnsK squeeze permN permB spongeB feed frameL framesL tagL bigN bigJ numS frameB framesB ckS exC SM.put SM.add unframe OpenI
set_option maxHeartbeats 2000000 in
set_option maxRecDepth 1000000 in
theorem lopen_bad (l : List UInt8) (lim : Int) (E : Int) (w : World) (hl : l.length ≤ 10000000) (hP : ∀ (a : Option Addr) (c : Nat) (W : World), Calls Try.prog 27 #[.slice a l.length c, .int .i64 lim] W fun e W' => e = .returned (.tuple #[.pointer none, .int .i64 E]) ∧ Fr Nob W W')
    (hR : ∀ (W : World), Calls Try.prog 37 #[.string (mkS l), .int .i64 lim] W fun e W' => e = .returned (.tuple #[.pointer none, .int .i64 E]) ∧ Fr Nob W W') :
    Calls Try.prog 22 #[.string (mkS l), .int .i64 lim] w fun e w' => e = .returned (.tuple #[.pointer none, .pointer none, .bool true]) ∧ Fr Nob w w' := by
  have HL := Lib.hid hl
  have HP := Lib.hid hP
  have HR := Lib.hid hR
  have HQ := Lib.hid (mkS_size l)
  have HLE := Lib.hid (fun wx => lent_big (mkS l) wx (by rw [mkS_size]; omega))
  have HST := Lib.hid (fun (b : Option Addr) (n c : Nat) (wx : World) (hb : RdB wx b n (lentL l)) => still_bigT b n c l wx (by omega) hb)
  have HMT := Lib.hid (mkS_toList l)
  generalize mkS l = q at *
  have hqI : (q.size : Int) ≤ 10000000 := by have := HQ.out; omega
  have hsl := fun wx g => run_slice_hi (P := Try.prog) wx Try.underlying22 info_bsl_1 (some ⟨g, 0, none⟩) (q.size + 160) (q.size + 160) .i64 q.size (by omega)
  clear hP hR hl
  go_enter Try.func22, Try.ntmps22
  go_wp2_with fail
  refine (HLE.out w).mono ?_
  rintro e1 w1 ⟨rfl, hh1, hf1, hz1⟩
  rw [HMT.out] at hh1
  have HH1 := Lib.hid hh1
  have HF1 := Lib.hid hf1
  clear hh1 hf1 hz1
  generalize hgi : w.heap.size = gi at *
  have HGI := Lib.hid hgi
  clear hgi
  go_wp2_with fail
  rw [HQ.out]
  refine (HP.out _ _ w1).mono ?_
  rintro e2 w2 ⟨rfl, hf2⟩
  have HH2 := Lib.hid (HH1.out.keep hf2 id)
  have HF2 := Lib.hid (HF1.out.then hf2)
  clear hf2 HH1 HF1
  go_wp2_with fail
  refine (HST.out _ _ _ w2 (lent_allS HH2.out)).mono ?_
  rintro e3 w3 ⟨rfl, hf3⟩
  have HO3 := Lib.hid (lent_ownS (HH2.out.keep hf3 id) w.heap.size (by rw [HGI.out]; exact Nat.le_refl _) (by have := HL.out; omega))
  have HF3 := Lib.hid (HF2.out.then hf3)
  clear hf3 HH2 HF2 hsl
  go_wp2_with fail
  obtain ⟨n9, hn9⟩ : ∃ n9, l.length + 160 = n9 := ⟨_, rfl⟩
  have hn9I : (l.length : Int) + 160 = (n9 : Int) := by omega
  try simp only [hn9]
  have HN9 := Lib.hid hn9
  rw [hn9] at HO3
  have hn9b : (n9 : Int) ≤ 20000000 := by have := HL.out; omega
  clear hn9 hn9I
  go_loopw [11] (fun i wr => ∃ (j : Nat) (L : List Value), j ≤ n9 ∧ i = .int .i64 (j : Int) ∧ Go.Mv.Own wr w.heap.size 5 1 (.slice (some ⟨gi, 0, none⟩) n9 n9) n9 L ∧ Fr Nob w wr) (fun i _ => n9 - (intOf i).toNat)
  case atStart => exact ⟨0, _, Nat.zero_le _, rfl, HO3.out, HF3.out⟩
  case round =>
    obtain ⟨j, L, hj, rfl, ho, hf⟩ := hrel
    by_cases hlt : j < n9
    · have hltI : (j : Int) < (n9 : Int) := by omega
      have HLT := Lib.hid hlt
      obtain ⟨⟨u, cu, fu⟩, ho2⟩ := own_cellS ho hlt (.int .u8 7)
      have HO2 := Lib.hid ho2
      have HF2 := Lib.hid (hf.setCell gi (0 + j) none (.int .u8 7) fun h => absurd h (by have := (ho.lt (k := gi) rfl).1; omega))
      rw [Nat.zero_add] at cu fu HO2 HF2
      clear ho hf ho2 hlt hj
      go_wp2_with fail
      go_roundw
      case rel => exact ⟨j + 1, _, by have := HLT.out; omega, by go_num, HO2.out, HF2.out⟩
      case measure => have := HLT.out; simp [intOf]; omega
    · have hge : ¬ ((j : Int) < (n9 : Int)) := by omega
      have HF2 := Lib.hid hf
      clear ho hf hlt hj
      go_wp2_with fail
      refine (HR.out _).mono ?_
      rintro e4 w4 ⟨rfl, hf4⟩
      have HF4 := Lib.hid (HF2.out.then hf4)
      clear hf4
      go_wp2_with fail
      go_ret3
      exact ⟨rfl, HF4.out⟩
set_option maxHeartbeats 2000000 in
set_option maxRecDepth 1000000 in
theorem lopen_ok (l : List UInt8) (lim : Nat) (w : World) (h1 : 64 ≤ lim) (h2 : lim ≤ 1048576) (hn : l.length ≤ lim) :
    Calls Try.prog 22 #[.string (mkS l), .int .i64 (lim : Int)] w fun e w' => ∃ g gb, e = .returned (.tuple #[.pointer (some ⟨g, 0, none⟩), .pointer (some ⟨gb, 0, none⟩), .bool true]) ∧ (∃ v rv rv2, SAt1 w' w.heap.size g lim (SM.ofDisk ckS l) v rv ∧ RA1 w' w.heap.size gb lim (SM.ofDisk ckS l) rv2) ∧ Fr Nob w w' := by
  have hl : l.length ≤ 10000000 := by omega
  have H1 := Lib.hid h1
  have H2 := Lib.hid h2
  have HN := Lib.hid hn
  have HR := Lib.hid (fun wx => rOpen_ok l lim wx h1 h2 hn)
  clear h1 h2 hn
  have HL := Lib.hid hl
  have HQ := Lib.hid (mkS_size l)
  have HLE := Lib.hid (fun wx => lent_big (mkS l) wx (by rw [mkS_size]; omega))
  have HST := Lib.hid (fun (b : Option Addr) (n c : Nat) (wx : World) (hb : RdB wx b n (lentL l)) => still_bigT b n c l wx (by omega) hb)
  have HMT := Lib.hid (mkS_toList l)
  generalize mkS l = q at *
  have hqI : (q.size : Int) ≤ 10000000 := by have := HQ.out; omega
  have hsl := fun wx g => run_slice_hi (P := Try.prog) wx Try.underlying22 info_bsl_1 (some ⟨g, 0, none⟩) (q.size + 160) (q.size + 160) .i64 q.size (by omega)
  clear hl
  go_enter Try.func22, Try.ntmps22
  go_wp2_with fail
  refine (HLE.out w).mono ?_
  rintro e1 w1 ⟨rfl, hh1, hf1, hz1⟩
  rw [HMT.out] at hh1
  have HH1 := Lib.hid hh1
  have HF1 := Lib.hid hf1
  clear hh1 hf1 hz1
  generalize hgi : w.heap.size = gi at *
  have HGI := Lib.hid hgi
  clear hgi
  go_wp2_with fail
  rw [HQ.out]
  refine (sOpen_ok _ _ _ l lim w1 (lent_rdS HH1.out) (Old.has HH1.out 0) (by omega) H1.out H2.out HN.out).mono ?_
  rintro e2 w2 ⟨g, v, rv, rfl, hs2, hf2⟩
  have HS2 := Lib.hid hs2
  have HGB := Lib.hid HH1.out.lt
  have HBW := Lib.hid HF1.out.size
  clear hs2
  generalize w1.heap.size = B at *
  have HH2 := Lib.hid (HH1.out.keep hf2 id)
  have HF2 := Lib.hid (HF1.out.then hf2)
  clear hf2 HH1 HF1
  go_wp2_with fail
  refine (HST.out _ _ _ w2 (lent_allS HH2.out)).mono ?_
  rintro e3 w3 ⟨rfl, hf3⟩
  have HO3 := Lib.hid (lent_ownS (HH2.out.keep hf3 id) w.heap.size (by rw [HGI.out]; exact Nat.le_refl _) (by have := HL.out; omega))
  have HF3 := Lib.hid (HF2.out.then hf3)
  have HS3 := Lib.hid (HS2.out.still hf3)
  clear hf3 HH2 HF2 hsl
  go_wp2_with fail
  obtain ⟨n9, hn9⟩ : ∃ n9, l.length + 160 = n9 := ⟨_, rfl⟩
  have hn9I : (l.length : Int) + 160 = (n9 : Int) := by omega
  try simp only [hn9]
  have HN9 := Lib.hid hn9
  rw [hn9] at HO3
  have hn9b : (n9 : Int) ≤ 20000000 := by have := HL.out; omega
  clear hn9 hn9I
  go_loopw [11] (fun i wr => ∃ (j : Nat) (L : List Value), j ≤ n9 ∧ i = .int .i64 (j : Int) ∧ Go.Mv.Own wr w.heap.size 5 1 (.slice (some ⟨gi, 0, none⟩) n9 n9) n9 L ∧ SAt1 wr B g lim (SM.ofDisk ckS l) v rv ∧ Fr Nob w wr) (fun i _ => n9 - (intOf i).toNat)
  case atStart => exact ⟨0, _, Nat.zero_le _, rfl, HO3.out, HS3.out, HF3.out⟩
  case round =>
    obtain ⟨j, L, hj, rfl, ho, hs, hf⟩ := hrel
    by_cases hlt : j < n9
    · have hltI : (j : Int) < (n9 : Int) := by omega
      have HLT := Lib.hid hlt
      obtain ⟨⟨u, cu, fu⟩, ho2⟩ := own_cellS ho hlt (.int .u8 7)
      have HO2 := Lib.hid ho2
      have HF2 := Lib.hid (hf.setCell gi (0 + j) none (.int .u8 7) fun h => absurd h (by have := (ho.lt (k := gi) rfl).1; omega))
      have HS2 := Lib.hid (hs.keep ((Fr.refl (Mv.One gi) _).setCell gi (0 + j) none (.int .u8 7) fun _ => rfl) fun k hk e => by have e2 : k = gi := e; have h3 := (hs.lt hk).1; have h4 := HGB.out; omega)
      rw [Nat.zero_add] at cu fu HO2 HF2 HS2
      clear ho hs hf ho2 hlt hj
      go_wp2_with fail
      go_roundw
      case rel => exact ⟨j + 1, _, by have := HLT.out; omega, by go_num, HO2.out, HS2.out, HF2.out⟩
      case measure => have := HLT.out; simp [intOf]; omega
    · have hge : ¬ ((j : Int) < (n9 : Int)) := by omega
      have HF2 := Lib.hid hf
      have HS2 := Lib.hid hs
      clear ho hs hf hlt hj
      go_wp2_with fail
      refine (HR.out _).mono ?_
      rintro e4 w4 ⟨gb, rfl, ⟨rv2, hr4⟩, hf4⟩
      have HF4 := Lib.hid (HF2.out.then hf4)
      have HR4 := Lib.hid (hr4.mono HF2.out.size)
      have HS4 := Lib.hid (HS2.out.still hf4)
      clear hf4 hr4
      go_wp2_with fail
      go_ret3
      exact ⟨g, gb, rfl, ⟨v, rv, rv2, HS4.out.mono HBW.out, HR4.out⟩, HF4.out⟩
end Go.Proofs.Ytdadnajbdnbbdaa
