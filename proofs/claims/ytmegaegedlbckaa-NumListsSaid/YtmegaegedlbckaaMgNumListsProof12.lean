/- The reference's sponge, on bytes: what it computes is the sponge on words; The reference's sponge; absorber.out, and what hashes with it; absorber.frame; the reference's Frame; Hash, stream and Stream of the sponge; sponge.tag and sponge.Tag; mintvaultlaw1.SpongeTurns: the walk of the law; The reference's Hash and Stream; the law SpongeHashes; Arguments that were handed in, opened into the words of Mem; The reference's Tag; A log of the sponge, the reference's: NewLog, Say, Ask, Clone; The tree, plain: what a path leads to, from its end (the document) and from its beginning (the program); The tree: node, leafHash, bytes.Equal, sized, lists, small; the reference's leaf, node, half, sized; SpongeLogs: what stays of many logs, step by step; mintvaultlaw8.lists, small: lists of strings as lists of bytes; bytes.Clone; lists of owned slices of bytes that lie apart. -/
import Derived.Test.YtmegaegedlbckaaMgNumListsProof11
import Derived.Test.YtmegaegedlbckaaMgNumListsProof2
import Derived.Test.YtmegaegedlbckaaMgNumListsProof1
import Derived.SliceStrings
import Derived.SizedLaws
import Derived.OpenShut
import Derived.ProofKit
import Derived.Test.YtmegaegedlbckaaMgNumListsProof5
import Derived.IntWalk
import Derived.Test.YtmegaegedlbckaaMgNumListsProof9
namespace Mvp

theorem feed_at (l : List UInt8) : ∀ (S : List UInt64) (k : Nat), k < 136 → (feed (S, k) l).2 = (k + l.length) % 136 := by
  induction l with
  | nil => intro S k h; simp [feed_nil]; omega
  | cons x l ih =>
    intro S k h
    rw [feed_cons, feed1]
    split
    · rename_i h1
      simp only at h1
      rw [ih _ _ (by omega), List.length_cons]; omega
    · rename_i h1
      simp only at h1
      rw [ih _ _ (by omega), List.length_cons]
      congr 1; omega
/-- the text with its end -/
def padded (l : List UInt8) (e : UInt8) : List UInt8 := l ++ padL (l.length % 136) e
theorem padded_len (l : List UInt8) (e : UInt8) : (padded l e).length = l.length + (136 - l.length % 136) := by
  rw [padded, List.length_append, padL_len _ _ (Nat.mod_lt _ (by decide))]
theorem padded_mod (l : List UInt8) (e : UInt8) : (padded l e).length % 136 = 0 := by
  rw [padded_len]; omega
theorem padded_eq (l : List UInt8) (e : UInt8) (m : Nat) (hm : m = 135 - l.length % 136) : (l ++ e :: List.replicate m 0).set (l.length + m) (bx ((l ++ e :: List.replicate m 0).getD (l.length + m) 0) 0x80) = padded l e := by
  subst hm
  have h2 : (l ++ e :: List.replicate (135 - l.length % 136) 0).getD (l.length + (135 - l.length % 136)) 0 = (e :: List.replicate (135 - l.length % 136) 0).getD (135 - l.length % 136) 0 := by
    rw [List.getD_eq_getElem?_getD, List.getD_eq_getElem?_getD, List.getElem?_append_right (by omega), Nat.add_sub_cancel_left]
  rw [h2, List.set_append_right _ _ (by omega), Nat.add_sub_cancel_left]
  rfl
theorem ended_padded (l : List UInt8) (e : UInt8) : ended (feed (zeros25, 0) l) e = (feed (zeros25, 0) (padded l e)).1 := by
  rw [ended, padded, feed_append, feed_at _ _ _ (by decide), Nat.zero_add]
/-- the words behind so many bytes -/
def afterB (p : List UInt8) (i : Nat) : List UInt64 := (feed (zeros25, 0) (p.take i)).1
theorem afterB_len (p : List UInt8) (i : Nat) : (afterB p i).length = 25 := by rw [afterB, feed_len]; rfl
theorem afterB_zero (p : List UInt8) : afterB p 0 = zeros25 := by rw [afterB, List.take_zero, feed_nil]
theorem afterB_all (l : List UInt8) (e : UInt8) (i : Nat) (h : (padded l e).length ≤ i) : afterB (padded l e) i = ended (feed (zeros25, 0) l) e := by
  rw [afterB, List.take_of_length_le h, ended_padded]
theorem afterB_succ (p : List UInt8) (i : Nat) (hi : i % 136 = 0) (h : i + 136 ≤ p.length) : afterB p (i + 136) = permS (xorAt (afterB p i) 0 ((p.drop i).take 136)) := by
  have hl : (p.take i).length = i := by rw [List.length_take]; omega
  have h2 : (feed (zeros25, 0) (p.take i)).2 = 0 := by rw [feed_at _ _ _ (by decide), hl]; omega
  have hm : ((p.drop i).take 136).length = 136 := by rw [List.length_take, List.length_drop]; omega
  have h3 : feed (zeros25, 0) (p.take i) = (afterB p i, 0) := Prod.ext rfl h2
  rw [afterB, List.take_add, feed_append, h3, feed_full _ _ _ (by rw [hm]) (by decide)]
/-- bytes of the state, j of them added to -/
def addB (b p : List UInt8) : Nat → List UInt8
  | 0 => b
  | j + 1 => (addB b p j).set j (bx ((addB b p j).getD j 0) (p.getD j 0))
theorem addB_zero (b p : List UInt8) : addB b p 0 = b := rfl
theorem addB_succ (b p : List UInt8) (j : Nat) : addB b p (j + 1) = (addB b p j).set j (bx ((addB b p j).getD j 0) (p.getD j 0)) := rfl
theorem addB_len (b p : List UInt8) (j : Nat) : (addB b p j).length = b.length := by
  induction j with
  | zero => rfl
  | succ j ih => rw [addB_succ, List.length_set, ih]
theorem addB_get (b p : List UInt8) (j : Nat) (hj : j ≤ b.length) (i : Nat) (hi : i < b.length) : (addB b p j).getD i 0 = if i < j then bx (b.getD i 0) (p.getD i 0) else b.getD i 0 := by
  induction j generalizing i with
  | zero => simp [addB_zero]
  | succ j ih =>
    rw [addB_succ, List.getD_eq_getElem?_getD, List.getElem?_set]
    by_cases e : j = i
    · subst e
      rw [if_pos rfl, if_pos (by rw [addB_len]; omega), if_pos (by omega), ih (by omega) j (by omega), if_neg (by omega)]
      rfl
    · rw [if_neg e, ← List.getD_eq_getElem?_getD, ih (by omega) i hi]
      by_cases h1 : i < j
      · rw [if_pos h1, if_pos (by omega)]
      · rw [if_neg h1, if_neg (by omega)]
theorem perm_add (S : List UInt64) (hS : S.length = 25) (p : List UInt8) (hp : 136 ≤ p.length) : permB (addB (toB S 200) p 136) = toB (permS (xorAt S 0 (p.take 136))) 200 := by
  have hl : (p.take 136).length = 136 := by rw [List.length_take]; omega
  unfold permB
  rw [words_of S hS (p.take 136) _ (by omega) (by rw [addB_len, toB_len]) (fun i hi => ?_)]
  rw [addB_get _ _ _ (by rw [toB_len]; omega) i (by rw [toB_len]; omega), toB_get _ _ _ hi, hl]
  by_cases h : i < 136
  · rw [if_pos h, if_pos h]
    congr 1
    simp only [List.getD_eq_getElem?_getD, List.getElem?_take, if_pos h]
  · rw [if_neg h, if_neg h]
theorem perm_toB (S : List UInt64) (hS : S.length = 25) : permB (toB S 200) = toB (permS S) 200 := by
  unfold permB
  rw [words_of S hS [] _ (by simp) (by rw [toB_len]) (fun i hi => by rw [toB_get _ _ _ hi]; simp)]
  rfl
theorem toB_take (S : List UInt64) : (toB S 200).take 136 = toB S 136 := by
  unfold toB
  rw [← List.map_take, List.take_range, Nat.min_eq_left (by omega)]
theorem toB_zeros : toB zeros25 200 = List.replicate 200 0 := by
  have key : ∀ n, toB zeros25 n = List.replicate n 0 := by
    intro n
    refine List.eq_replicate_iff.2 ⟨toB_len _ _, fun x hx => ?_⟩
    unfold toB at hx
    obtain ⟨i, _, rfl⟩ := List.mem_map.1 hx
    exact sByte_zeros i
  exact key 200
end Mvp

/- The reference's sponge -/
namespace Go.Proofs.Ytmegaegedlbckaa
open Go.RowKit Go.Mv Mvp
attribute [local irreducible] permS permP toB turnsK squeeze permN permB

theorem pad_append (l : List UInt8) (e : UInt8) (m : Nat) : bs (l ++ e :: List.replicate m 0) ++ bs [0] = bs (l ++ e :: List.replicate (m + 1) 0) := by
  rw [← bs_append, List.replicate_succ']; simp

theorem Rd.take {w : World} {a : Option Addr} {n : Nat} {vs : List Value} (h : Rd w a n vs) (p : Nat) (hp : p ≤ n) : Rd w a p (vs.take p) := by
  refine ⟨by rw [List.length_take, h.len]; omega, h.2.imp (fun h0 => by omega) ?_⟩
  rintro ⟨b, o, rfl, hc⟩
  refine ⟨b, o, rfl, fun i v hv => ?_⟩
  rw [List.getElem?_take] at hv
  split at hv
  · exact hc i v hv
  · cases hv
theorem mkS_append (l m : List UInt8) : mkS l ++ mkS m = mkS (l ++ m) := by
  apply ByteArray.ext
  simp [mkS]
theorem mkS_extract (l : List UInt8) (n : Nat) : (mkS l).extract 0 n = mkS (l.take n) := by
  apply ByteArray.ext
  simp [mkS]
theorem squeeze_zero' (S : List UInt64) : squeeze S 0 = [] := by unfold squeeze; rfl
theorem permN_zero' (S : List UInt64) : permN S 0 = S := by unfold permN; rfl
def strLen : Value → Nat
  | .string s => s.size
  | _ => 0
theorem pieces_lt' (n j : Nat) : 136 * j < n ↔ j < pieces n := by unfold pieces; omega

end Go.Proofs.Ytmegaegedlbckaa

/- absorber.out, and what hashes with it -/
namespace Go.Proofs.Ytmegaegedlbckaa
open Go.RowKit Go.Mv Mvp
theorem squeeze_zero (S : List UInt64) : squeeze S 0 = [] := by unfold squeeze; rfl
theorem permN_zero (S : List UInt64) : permN S 0 = S := by unfold permN; rfl
/-- `v[:n:n]` of an owned slice is owned -/
theorem own_cut {w : World} {base : Nat} {T : TypeId} {a : Option Addr} {m c : Nat} {L : List Value} (h : Own w base T 1 (.slice a m c) m L) (n : Nat) (hn : n ≤ m) : Own w base T 1 (.slice a n n) n (L.take n) := by
  obtain ⟨hl, h | ⟨g, o, cap, B, hv, hb, hg, h1, h2, h3, h4⟩⟩ := h
  · obtain ⟨hv, hm⟩ := h
    cases hv
    have : n = 0 := by omega
    subst this
    exact ⟨by simp, .inl ⟨rfl, rfl⟩⟩
  · cases hv
    refine ⟨by rw [List.length_take]; omega, .inr ⟨g, o, n, B, rfl, hb, hg, Nat.le_refl _, by omega, by omega, ?_⟩⟩
    rw [← h4, List.take_take]
    congr 1
    omega
attribute [local irreducible] permS permP toB turnsK squeeze permN

theorem last_eq (k : Nat) (e : UInt8) (h : k < 136) : ((List.replicate 136 (0 : UInt8)).set k e).set 135 (bx (((List.replicate 136 (0 : UInt8)).set k e).getD 135 0) 0x80) = List.replicate k 0 ++ padL k e := by
  have h1 : (List.replicate 136 (0 : UInt8)).set k e = List.replicate k 0 ++ (e :: List.replicate (135 - k) 0) := by
    have : (List.replicate 136 (0 : UInt8)) = List.replicate k 0 ++ (0 :: List.replicate (135 - k) 0) := by
      rw [← List.replicate_succ, List.replicate_append_replicate]; congr 1; omega
    rw [this, List.set_append_right _ _ (by simp)]
    simp
  have h2 : (List.replicate k 0 ++ (e :: List.replicate (135 - k) 0)).getD 135 0 = (e :: List.replicate (135 - k) 0).getD (135 - k) 0 := by
    rw [List.getD_eq_getElem?_getD, List.getD_eq_getElem?_getD, List.getElem?_append_right (by simp; omega), List.length_replicate]
  rw [h1, h2, List.set_append_right _ _ (by simp; omega)]
  simp only [List.length_replicate, padL]
theorem pieces_lt (n j : Nat) : 136 * j < n ↔ j < pieces n := by unfold pieces; omega

end Go.Proofs.Ytmegaegedlbckaa

/- absorber.frame; the reference's Frame -/
namespace Mvp
/-- a length in four bytes -/
def lenB (n : Nat) : List UInt8 := [UInt8.ofNat (n / 16777216), UInt8.ofNat (n / 65536), UInt8.ofNat (n / 256), UInt8.ofNat n]
def frameL (l : List UInt8) : List UInt8 := lenB l.length ++ l
def framesL (ls : List (List UInt8)) : List UInt8 := (ls.map frameL).flatten
theorem framesL_nil : framesL [] = [] := rfl
theorem framesL_append (a b : List (List UInt8)) : framesL (a ++ b) = framesL a ++ framesL b := by simp [framesL]
theorem framesL_one (a : List UInt8) : framesL [a] = frameL a := by simp [framesL]
theorem framesL_cons (a : List UInt8) (b : List (List UInt8)) : framesL (a :: b) = frameL a ++ framesL b := by simp [framesL]
end Mvp
namespace Go.Proofs.Ytmegaegedlbckaa
open Go.RowKit Go.Mv Mvp
attribute [local irreducible] permS permP toB turnsK squeeze permN permB spongeB

theorem ofNat_int (k : Nat) : ((UInt8.ofNat k).toNat : Int) = ((k % 256 : Nat) : Int) := by simp
theorem lenB_0 (n : Nat) (h : n ≤ 1000000) : Value.int .u8 ((n : Int) / 16777216) = .int .u8 ((UInt8.ofNat (n / 16777216)).toNat : Int) := by
  rw [ofNat_int]; congr 1; omega
theorem lenB_1 (n : Nat) (h : n ≤ 1000000) : Value.int .u8 ((n : Int) / 65536) = .int .u8 ((UInt8.ofNat (n / 65536)).toNat : Int) := by
  rw [ofNat_int]; congr 1; omega
theorem lenB_2 (n : Nat) : Value.int .u8 ((n : Int) / 256 % 256) = .int .u8 ((UInt8.ofNat (n / 256)).toNat : Int) := by
  rw [ofNat_int]; rfl
theorem lenB_3 (n : Nat) : Value.int .u8 ((n : Int) % 256) = .int .u8 ((UInt8.ofNat n).toNat : Int) := by
  rw [ofNat_int]; rfl
theorem lenB_len (n : Nat) : (lenB n).length = 4 := rfl

end Go.Proofs.Ytmegaegedlbckaa

/- Hash, stream and Stream of the sponge -/
namespace Go.Proofs.Ytmegaegedlbckaa
open Go.RowKit Go.Mv Mvp
attribute [local irreducible] permS permP toB turnsK squeeze permN

theorem feed_ok (l : List UInt8) : (feed (zeros25, 0) l).1.length = 25 ∧ (feed (zeros25, 0) l).2 < 136 := ⟨by rw [feed_len]; rfl, feed_lt _ _ (by decide)⟩
end Go.Proofs.Ytmegaegedlbckaa

/- sponge.tag and sponge.Tag -/
namespace Go.Proofs.Ytmegaegedlbckaa
open Go.RowKit Go.Mv Mvp
attribute [local irreducible] permS permP toB turnsK squeeze permN permB spongeB

/-- the value reads as these bytes, from an old block -/
def PartIs (w : World) (v : Value) (l : List UInt8) : Prop := ∃ a n c, v = .slice a n c ∧ n ≤ c ∧ n ≤ 1000000 ∧ RdB w a n l ∧ Old w a
theorem PartIs.still {w w' : World} {v : Value} {l : List UInt8} (h : PartIs w v l) (hf : Fr Nob w w') : PartIs w' v l := by
  obtain ⟨a, n, c, h1, h2, h3, h4, h5⟩ := h
  exact ⟨a, n, c, h1, h2, h3, h4.still hf, h5.grow hf.size⟩
/-- a slice of slices of bytes -/
def PartsAt (w : World) (a : Option Addr) (ls : List (List UInt8)) : Prop := ∃ vs : List Value, Rd w a ls.length vs ∧ ∀ (i : Nat) (v : Value), vs[i]? = some v → ∃ l : List UInt8, ls[i]? = some l ∧ PartIs w v l
theorem PartsAt.get {w : World} {a : Option Addr} {ls : List (List UInt8)} (h : PartsAt w a ls) {j : Nat} (hj : j < ls.length) : ∃ b o v, a = some ⟨b, o, none⟩ ∧ w.cell? ⟨b, o + j, none⟩ = some v ∧ PartIs w v (ls.getD j []) := by
  obtain ⟨vs, hr, hv⟩ := h
  obtain ⟨b, o, rfl, hat⟩ := hr.at (by omega)
  have hl := hr.len
  obtain ⟨l, h1, h2⟩ := hv j (vs[j]'(by omega)) (List.getElem?_eq_getElem (by omega))
  refine ⟨b, o, vs[j]'(by omega), rfl, hat j _ (List.getElem?_eq_getElem (by omega)), ?_⟩
  rwa [List.getD_eq_getElem?_getD, h1]
theorem PartsAt.still {w w' : World} {a : Option Addr} {ls : List (List UInt8)} (h : PartsAt w a ls) (hf : Fr Nob w w') : PartsAt w' a ls := by
  obtain ⟨vs, hr, hv⟩ := h
  refine ⟨vs, hr.still hf, fun i v hi => ?_⟩
  obtain ⟨l, h1, h2⟩ := hv i v hi
  exact ⟨l, h1, h2.still hf⟩
/-- what a tag is made of -/
def tagText (s : List UInt8) (ls : List (List UInt8)) : List UInt8 := framesL (s :: ls)
def tagL (s : List UInt8) (ls : List (List UInt8)) : List UInt8 := spongeB (tagText s ls) 6 32

theorem z25 : ((zeros25, 0) : List UInt64 × Nat).1.length = 25 := rfl
attribute [local irreducible] feed frameL framesL abs zeros25
end Go.Proofs.Ytmegaegedlbckaa

/- mintvaultlaw1.SpongeTurns: the walk of the law -/
namespace Go.Proofs.Ytmegaegedlbckaa
open Go.RowKit Go.Mv Mvp

theorem lent_front (l : List UInt8) : (bs (lentL l)).take l.length = bs l := by
  rw [bs_take]; simp [lentL]
/-- the front of what was lent -/
theorem lent_read {w : World} {g : Nat} {T : TypeId} {s : ByteArray} (h : Has w g (bs (lentL s.data.toList)) T) : RdB w (some ⟨g, 0, none⟩) s.size s.data.toList := by
  have := Rd.ofHas h 0 (n := s.size) (by rw [length_bs, lentL_len, size_list]; omega)
  rw [List.drop_zero, ← size_list s, lent_front] at this
  rw [← size_list s]; exact this
theorem lent_all {w : World} {g : Nat} {T : TypeId} {s : ByteArray} (h : Has w g (bs (lentL s.data.toList)) T) : RdB w (some ⟨g, 0, none⟩) (s.size + 160) (lentL s.data.toList) := by
  have := Rd.whole h
  rwa [length_bs, lentL_len, size_list] at this
theorem cutAt_zero (g c : Nat) : cutAt (some ⟨g, 0, none⟩) 0 c = some ⟨g, 0, none⟩ := by
  unfold cutAt; split
  · rfl
  · simp [addr_add]

end Go.Proofs.Ytmegaegedlbckaa

/- The reference's Hash and Stream; the law SpongeHashes -/
namespace Go.Proofs.Ytmegaegedlbckaa
open Go.RowKit Go.Mv Mvp
attribute [local irreducible] permS permP toB turnsK squeeze permN permB spongeB

theorem own_rd {w : World} {base : Nat} {T : TypeId} {v : Value} {n : Nat} {l : List UInt8} (h : Own w base T 1 v n (bs l)) : ∃ a c, v = .slice a n c ∧ RdB w a n l := by
  obtain ⟨a, c, hv, _, hr, _⟩ := h.form
  rw [Nat.mul_one] at hr
  exact ⟨a, c, hv, hr⟩
end Go.Proofs.Ytmegaegedlbckaa

/- Arguments that were handed in, opened into the words of Mem. -/
namespace Go.Mv
open Go.RowKit Go.ChangeShapes Go.WideShapes

/-- strings as values -/
def ss (l : List (List UInt8)) : List Value := l.map fun x => .string (mkS x)
theorem ss_len (l : List (List UInt8)) : (ss l).length = l.length := by simp [ss]
theorem ss_get (l : List (List UInt8)) (i : Nat) (hi : i < l.length) : (ss l)[i]? = some (.string (mkS (l.getD i []))) := by
  simp [ss, List.getD_eq_getElem?_getD, hi]

section
variable {H : Type} {enc : TypeId × Value → H} {P : Program} {w : World} {base : Nat} {held : Bool} {spare : Nat → Bool}
theorem weightsAll_mem {e : TypeId} : ∀ {ds : List (DataW H)} {d : DataW H}, d ∈ ds → ∀ n ∈ d.weights P e, n ∈ DataW.weightsAll P e ds
  | [], _, h, _, _ => by simp at h
  | d0 :: ds, d, h, n, hn => by
    simp only [DataW.weightsAll, List.mem_append]
    rcases List.mem_cons.1 h with rfl | h
    · exact .inl hn
    · exact .inr (weightsAll_mem h n hn)
theorem reach_string {ts : List TypeId} {ds : List (DataW H)} (h : (DataW.weightsEach P ts ds).all (· ≤ reachBytes) = true) {j : Nat} {t : TypeId} {s : ByteArray} (ht : ts[j]? = some t) (hd : ds[j]? = some (.lit (.string s.data.toList))) : s.size ≤ 140737488351232 := by
  have := sized_string h ht hd
  have e : s.data.toList.length = s.size := by simp
  have hr : reachBytes = 140737488351232 := rfl
  omega

theorem i64_wf {n : Int} (h : (Lit.int .i64 n).wf = true) : -9223372036854775808 ≤ n ∧ n ≤ 9223372036854775807 := by
  simpa [Lit.wf, IntKind.min, IntKind.max, IntKind.signed, IntKind.bits] using h
/-- a slice of strings that came in -/
theorem open_ss {ts : List TypeId} {ds : List (DataW H)} {j : Nat} {t e : TypeId} {v : Value} {d : DataW H} {ps : List MemPlace} (ht : P.underlying t = some (.slice e)) (he : P.underlying e = some .string) (hc : P.cellsOf e = 1) (hby : P.bytesOf e = 16)
    (hv : Value.okWide P w .any base t v) (h : DataW.Trod enc P w 0 spare held t v d ps) (hz : (DataW.weightsEach P ts ds).all (· ≤ reachBytes) = true) (htj : ts[j]? = some t) (hdj : ds[j]? = some d) :
    ∃ a c ls, v = .slice a ls.length c ∧ Rd w a ls.length (ss ls) ∧ (∀ x ∈ ls, x.length ≤ 140737488351232) ∧ ls.length ≤ 9223372036854775807 ∧ ls.length * 16 ≤ 140737488351232 ∧ ls.length ≤ c := by
  obtain ⟨a0, len, cap, rfl⟩ := okWide_slice ht hv
  obtain ⟨fuel, hf⟩ := h
  have hr : reachBytes = 140737488351232 := rfl
  rcases open_strings ht he hc hf with ⟨hcs, hx⟩ | ⟨a, len', cap', sl, hcs, _, hl, hm, hzl, hx, hcell, hsz⟩
  · simp only [Value.cells] at hcs
    simp only [List.cons.injEq, and_true, Value.slice.injEq] at hcs
    obtain ⟨rfl, rfl, rfl⟩ := hcs
    exact ⟨none, 0, [], rfl, Rd.nil _ _, by simp, by simp, by simp, by simp⟩
  · simp only [Value.cells] at hcs
    simp only [List.cons.injEq, and_true, Value.slice.injEq] at hcs
    obtain ⟨rfl, rfl, rfl⟩ := hcs
    simp only [Prod.mk.injEq] at hx
    obtain ⟨rfl, -⟩ := hx
    have hlen : (sl.take len).length = len := by
      rw [List.length_take, hzl]; split <;> omega
    have hlsl : len ≤ sl.length := by rw [hzl]; split <;> omega
    have hW := sized_slice hz htj hdj ht
    rw [hby, strs, strs, List.length_map, List.length_map, hr] at hW
    refine ⟨some a, cap, (sl.take len).map fun s => s.data.toList, by rw [List.length_map, hlen], ⟨by simp [ss], ?_⟩, ?_, ?_, ?_, ?_⟩
    · rcases Nat.eq_zero_or_pos len with h0 | h0
      · exact .inl (by simp [hlen, h0])
      · right
        obtain ⟨b, o, spot⟩ := a
        have hspot : spot = none := by simpa [Addr.add] using World.cell?_spot (hcell 0 (by omega))
        subst hspot
        refine ⟨b, o, rfl, ?_⟩
        intro i v hv
        have hi : i < len := by
          rcases Nat.lt_or_ge i len with k | k
          · exact k
          · rw [List.getElem?_eq_none (by simp [ss]; omega)] at hv; cases hv
        have h1 := hcell i (by omega)
        rw [addr_add] at h1
        have h2 : (ss ((sl.take len).map fun s => s.data.toList))[i]? = some (.string (sl.getD i ByteArray.empty)) := by
          have : i < sl.length := by omega
          simp [ss, List.getElem?_take, hi, List.getD_eq_getElem?_getD, List.getElem?_eq_getElem this, mkS_data]
        rw [h2] at hv
        cases hv
        exact h1
    · intro x hx
      simp only [List.mem_map] at hx
      obtain ⟨s, hs, rfl⟩ := hx
      have hmem : (DataW.lit (.string s.data.toList) : DataW H) ∈ strs (H := H) (sl.take len) := by
        simp only [strs, List.mem_map]; exact ⟨s, hs, rfl⟩
      have hn : s.data.toList.length ∈ DataW.weightsEach P ts ds := by
        refine DataW.weights_mem_each htj hdj _ ?_
        simp only [DataW.weights, ht, List.mem_cons, List.mem_append]
        exact .inr (.inl (weightsAll_mem hmem _ (by simp [DataW.weights])))
      have := List.all_eq_true.1 hz _ hn
      rw [hr] at this
      simpa using this
    · simp only [maxLen] at hm; simp; omega
    · simp only [List.length_map]; omega
    · simp only [List.length_map]; omega
end
end Go.Mv

/- The reference's Tag -/
namespace Go.Proofs.Ytmegaegedlbckaa
open Go.RowKit Go.Mv Mvp
attribute [local irreducible] permS permP toB turnsK squeeze permN permB spongeB feed frameL framesL

theorem frameL_len (l : List UInt8) : (frameL l).length = 4 + l.length := by unfold frameL; simp [lenB_len]
def sumL (ls : List (List UInt8)) : Nat := (ls.map List.length).foldr (· + ·) 0
theorem sumL_append (a b : List (List UInt8)) : sumL (a ++ b) = sumL a + sumL b := by
  induction a with
  | nil => simp [sumL]
  | cons x a ih => simp only [sumL, List.cons_append, List.map_cons, List.foldr_cons] at *; omega
theorem sumL_one (a : List UInt8) : sumL [a] = a.length := by simp [sumL]
theorem framesL_len (ls : List (List UInt8)) : (framesL ls).length = 4 * ls.length + sumL ls := by
  induction ls with
  | nil => rw [framesL_nil]; rfl
  | cons a b ih => rw [framesL_cons, List.length_append, frameL_len, ih, List.length_cons]; simp only [sumL, List.map_cons, List.foldr_cons]; omega
theorem sumL_take (ls : List (List UInt8)) (j : Nat) : sumL (ls.take j) ≤ sumL ls := by
  have := sumL_append (ls.take j) (ls.drop j)
  rw [List.take_append_drop] at this; omega
theorem sumL_get (ls : List (List UInt8)) (j : Nat) (hj : j < ls.length) : (ls.getD j []).length ≤ sumL ls := by
  have h1 := sumL_append (ls.take j) (ls.drop j)
  rw [List.take_append_drop, List.drop_eq_getElem_cons hj] at h1
  have h2 : sumL (ls[j] :: ls.drop (j + 1)) = ls[j].length + sumL (ls.drop (j + 1)) := by simp only [sumL, List.map_cons, List.foldr_cons]
  have h3 : ls.getD j [] = ls[j] := by simp [List.getD_eq_getElem?_getD, hj]
  rw [h3]; omega

end Go.Proofs.Ytmegaegedlbckaa

/- A log of the sponge, the reference's: NewLog, Say, Ask, Clone. -/
namespace Go.Proofs.Ytmegaegedlbckaa
open Go.RowKit Go.Mv Mvp
attribute [local irreducible] permS permP toB turnsK squeeze permN permB spongeB feed frameL framesL tagL

theorem info_sl : (Try.prog.info? 29).map (fun i => (i.zero, i.size, i.bytes)) = some (some (.slice none 0 0), 1, 24) := by kernel_rfl
theorem info_str : (Try.prog.info? 9).map (fun i => (i.zero, i.size, i.bytes)) = some (some (.string ByteArray.empty), 1, 16) := by kernel_rfl

/-- parts by their values -/
def Parts (w : World) : List Value → List (List UInt8) → Prop
  | [], [] => True
  | v :: vs, l :: ls => PartIs w v l ∧ Parts w vs ls
  | _, _ => False
theorem Parts.len {w : World} : ∀ {vs : List Value} {ls : List (List UInt8)}, Parts w vs ls → vs.length = ls.length
  | [], [], _ => rfl
  | _ :: _, _ :: _, h => by simp only [List.length_cons]; rw [Parts.len h.2]
  | [], _ :: _, h => h.elim
  | _ :: _, [], h => h.elim
theorem Parts.get {w : World} : ∀ {vs : List Value} {ls : List (List UInt8)}, Parts w vs ls → ∀ (i : Nat) (v : Value), vs[i]? = some v → ∃ l : List UInt8, ls[i]? = some l ∧ PartIs w v l
  | [], [], _, i, v, h => by simp at h
  | x :: vs, l :: ls, h, 0, v, hv => by simp only [List.getElem?_cons_zero, Option.some.injEq] at hv; subst hv; exact ⟨l, rfl, h.1⟩
  | x :: vs, l :: ls, h, i + 1, v, hv => by simp only [List.getElem?_cons_succ] at hv ⊢; exact Parts.get h.2 i v hv
  | [], _ :: _, h, _, _, _ => h.elim
  | _ :: _, [], h, _, _, _ => h.elim
theorem Parts.at {w : World} {g : Nat} {T : TypeId} {vs : List Value} {ls : List (List UInt8)} (h : Parts w vs ls) (hg : Has w g vs T) : PartsAt w (some ⟨g, 0, none⟩) ls :=
  ⟨vs, by have := Rd.whole hg; rwa [h.len] at this, h.get⟩
theorem Parts.cells {w : World} : ∀ {vs : List Value} {ls : List (List UInt8)}, Parts w vs ls → ∀ v ∈ vs, v.cells = #[v]
  | [], _, _, v, h => by simp at h
  | x :: vs, l :: ls, h, v, hv => by
    rcases List.mem_cons.1 hv with rfl | hv
    · obtain ⟨a, n, c, rfl, _⟩ := h.1; rfl
    · exact Parts.cells h.2 v hv
  | _ :: _, [], h, _, _ => h.elim
theorem own_part {w : World} {base n : Nat} {T : TypeId} {v : Value} {l : List UInt8} (h : Own w base T 1 v n (bs l)) (hn : n ≤ 1000000) : PartIs w v l := by
  have h0 := h
  obtain ⟨a, c, rfl, hc, hr, -⟩ := h.form
  rw [Nat.mul_one] at hr
  refine ⟨a, n, c, rfl, hc, hn, hr, ?_⟩
  intro x hx
  exact (h0.lt (by rw [hx]; rfl)).2

def kLog : List UInt8 := [108, 111, 103]
def kSay : List UInt8 := [115, 97, 121]
def kAsk : List UInt8 := [97, 115, 107]
def kAsked : List UInt8 := [97, 115, 107, 101, 100]
theorem kLog_eq : (⟨#[108, 111, 103]⟩ : ByteArray) = mkS kLog := rfl
theorem kSay_eq : (⟨#[115, 97, 121]⟩ : ByteArray) = mkS kSay := rfl
theorem kAsk_eq : (⟨#[97, 115, 107]⟩ : ByteArray) = mkS kAsk := rfl
theorem kAsked_eq : (⟨#[97, 115, 107, 101, 100]⟩ : ByteArray) = mkS kAsked := rfl

theorem tagL_len (k : List UInt8) (ls : List (List UInt8)) : (tagL k ls).length = 32 := by unfold tagL; exact spongeB_len _ _ _
theorem one_store {w w' : World} (h : Fr Nob w w') (g : Nat) (v : Value) : Fr (One g) w (w'.setCell ⟨g, 0, none⟩ v) := (h.mono (fun _ _ t => t.elim)).setCell g 0 none v (fun _ => rfl)

/-! The reference's -/
end Go.Proofs.Ytmegaegedlbckaa

/- The tree, plain: what a path leads to, from its end (the document) and from its beginning (the program). -/
namespace Mvt
variable {α : Type} (nd : α → α → α)
/-- the greatest power of two below n -/
def half (n : Nat) : Nat := 2 ^ Nat.log2 (n - 1)
theorem half_le (n : Nat) (h : 2 ≤ n) : half n ≤ n - 1 := Nat.log2_self_le (by omega)
theorem half_lt (n : Nat) (_h : 2 ≤ n) : n - 1 < 2 * half n := by
  have := Nat.lt_log2_self (n := n - 1)
  rw [Nat.pow_succ] at this
  unfold half; omega
theorem half_pos (n : Nat) : 0 < half n := Nat.two_pow_pos _
/-- what a path leads to: its entries in reverse, how many leaves, which one -/
def leadsR (d : α) (h : α) : List α → Nat → Nat → α × Bool
  | [], n, _ => if n = 1 then (h, true) else (d, false)
  | e :: r, n, i => if n = 1 then (h, false) else
      if i < half n then (nd (leadsR d h r (half n) i).1 e, (leadsR d h r (half n) i).2)
      else (nd e (leadsR d h r (n - half n) (i - half n)).1, (leadsR d h r (n - half n) (i - half n)).2)
/-- up, as far as nothing stands beside -/
def skip (a e : Nat) : Nat × Nat := if a % 2 = 0 ∧ 0 < a then skip (a / 2) (e / 2) else (a, e)
termination_by a
decreasing_by omega
/-- the program's way -/
def climb : Nat → Nat → α → List α → Option α
  | _, e, h, [] => if e = 0 then some h else none
  | a, e, h, b :: p => if e = 0 then none else
      if a % 2 = 0 ∧ a ≠ e then climb (a / 2) (e / 2) (nd h b) p
      else climb ((skip a e).1 / 2) ((skip a e).2 / 2) (nd b h) p
theorem skip_odd (a e : Nat) (h : a % 2 = 1) : skip a e = (a, e) := by rw [skip, if_neg (by omega)]
theorem skip_even (a e : Nat) (h : a % 2 = 0) (h0 : 0 < a) : skip a e = skip (a / 2) (e / 2) := by rw [skip, if_pos ⟨h, h0⟩]

/-- the left part: it is whole -/
theorem climb_left (m : Nat) : ∀ (a e : Nat) (h x : α) (p : List α), a < 2 ^ m → 2 ^ m ≤ e → e < 2 ^ (m + 1) → climb nd a e h (p ++ [x]) = (climb nd a (2 ^ m - 1) h p).map fun y => nd y x := by
  induction m with
  | zero =>
    intro a e h x p ha he he2
    have e1 : e = 1 := by simp at he he2; omega
    have a0 : a = 0 := by simpa using ha
    subst e1 a0
    cases p with
    | nil => simp [climb]
    | cons c p =>
      have : (p ++ [x]) ≠ [] := by simp
      cases hp : p ++ [x] with
      | nil => exact absurd hp this
      | cons b q => simp [climb, hp]
  | succ m ih =>
    intro a e h x p ha he he2
    have hp2 : 2 ^ (m + 1) = 2 * 2 ^ m := by rw [Nat.pow_succ]; omega
    have hp3 : 2 ^ (m + 1 + 1) = 2 * 2 ^ (m + 1) := by rw [Nat.pow_succ]; omega
    have hpos : 0 < 2 ^ m := Nat.two_pow_pos m
    have hne : ¬ e = 0 := by omega
    have hne2 : ¬ 2 ^ (m + 1) - 1 = 0 := by omega
    have hdiv : (2 ^ (m + 1) - 1) / 2 = 2 ^ m - 1 := by omega
    cases p with
    | nil =>
      have h1 : climb nd a e h ([] ++ [x]) = none := by
        simp only [List.nil_append, climb, if_neg hne]
        by_cases hev : a % 2 = 0 ∧ a ≠ e
        · rw [if_pos hev, if_neg (by omega)]
        · have hod : a % 2 = 1 := by omega
          rw [if_neg hev, skip_odd a e hod, if_neg (by simp only; omega)]
      rw [h1]
      simp [climb, hne2]
    | cons c p =>
      simp only [List.cons_append, climb, if_neg hne, if_neg hne2]
      by_cases hev : a % 2 = 0
      · rw [if_pos ⟨hev, by omega⟩, if_pos ⟨hev, by omega⟩, hdiv]
        exact ih (a / 2) (e / 2) _ x p (by omega) (by omega) (by omega)
      · rw [if_neg (by omega), if_neg (by omega), skip_odd a e (by omega), skip_odd a _ (by omega), hdiv]
        exact ih (a / 2) (e / 2) _ x p (by omega) (by omega) (by omega)

/-- the right part, where nothing is skipped or both are -/
theorem skip_sub (m : Nat) : ∀ (a : Nat), 2 ^ m < a → a < 2 ^ (m + 1) → ∃ j, j ≤ m ∧ (skip a a) = ((skip (a - 2 ^ m) (a - 2 ^ m)).1 + 2 ^ j, (skip (a - 2 ^ m) (a - 2 ^ m)).1 + 2 ^ j) ∧ (skip (a - 2 ^ m) (a - 2 ^ m)).2 = (skip (a - 2 ^ m) (a - 2 ^ m)).1 ∧ (skip (a - 2 ^ m) (a - 2 ^ m)).1 % 2 = 1 ∧ (skip (a - 2 ^ m) (a - 2 ^ m)).1 < 2 ^ j ∧ 1 ≤ j := by
  induction m with
  | zero => intro a h1 h2; simp at h1 h2; omega
  | succ m ih =>
    intro a h1 h2
    have hp2 : 2 ^ (m + 1) = 2 * 2 ^ m := by rw [Nat.pow_succ]; omega
    have hp3 : 2 ^ (m + 1 + 1) = 2 * 2 ^ (m + 1) := by rw [Nat.pow_succ]; omega
    by_cases hev : a % 2 = 0
    · have hs1 := skip_even a a hev (by omega)
      have hs2 := skip_even (a - 2 ^ (m + 1)) (a - 2 ^ (m + 1)) (by omega) (by omega)
      have hd : (a - 2 ^ (m + 1)) / 2 = a / 2 - 2 ^ m := by omega
      rw [hs1, hs2, hd]
      obtain ⟨j, h3, h4⟩ := ih (a / 2) (by omega) (by omega)
      exact ⟨j, by omega, h4⟩
    · rw [skip_odd a a (by omega), skip_odd _ _ (by omega)]
      exact ⟨m + 1, Nat.le_refl _, by simp only; congr <;> omega, rfl, by simp only; omega, by simp only; omega, by omega⟩

theorem climb_right (m : Nat) : ∀ (a e : Nat) (h x : α) (p : List α), 2 ^ m ≤ a → a ≤ e → e < 2 ^ (m + 1) → climb nd a e h (p ++ [x]) = (climb nd (a - 2 ^ m) (e - 2 ^ m) h p).map fun y => nd x y := by
  induction m using Nat.strongRecOn with
  | _ m ih =>
  intro a e h x p ha he he2
  have hpos : 0 < 2 ^ m := Nat.two_pow_pos m
  have hp1 : 2 ^ (m + 1) = 2 * 2 ^ m := by rw [Nat.pow_succ]; omega
  have hne : ¬ e = 0 := by omega
  -- at the very beginning of the right part, alone
  by_cases h0 : e = 2 ^ m
  · have ha0 : a = 2 ^ m := by omega
    subst h0 ha0
    have hsk : ∀ k, skip (2 ^ k) (2 ^ k) = (1, 1) := by
      intro k
      induction k with
      | zero => rw [skip_odd _ _ (by simp)]
      | succ k ih2 =>
        have : 2 ^ (k + 1) / 2 = 2 ^ k := by rw [Nat.pow_succ]; omega
        rw [skip_even _ _ (by rw [Nat.pow_succ]; omega) (Nat.two_pow_pos _), this, ih2]
    cases p with
    | nil =>
      simp only [List.nil_append, climb, if_neg hne]
      rw [if_neg (by omega), hsk m]
      simp
    | cons c p =>
      simp only [List.cons_append, climb, if_neg hne]
      rw [if_neg (by omega), hsk m]
      cases hp : p ++ [x] with
      | nil => simp at hp
      | cons b q => simp [climb]
  have hlt : 2 ^ m < e := by omega
  have hm : m ≠ 0 := by intro h; subst h; simp at *; omega
  obtain ⟨k, rfl⟩ : ∃ k, m = k + 1 := ⟨m - 1, by omega⟩
  have hp2 : 2 ^ (k + 1) = 2 * 2 ^ k := by rw [Nat.pow_succ]; omega
  have hposk : 0 < 2 ^ k := Nat.two_pow_pos k
  have hne2 : ¬ e - 2 ^ (k + 1) = 0 := by omega
  by_cases hL : a % 2 = 0 ∧ a ≠ e
  · have hL2 : (a - 2 ^ (k + 1)) % 2 = 0 ∧ a - 2 ^ (k + 1) ≠ e - 2 ^ (k + 1) := by omega
    have d1 : (a - 2 ^ (k + 1)) / 2 = a / 2 - 2 ^ k := by omega
    have d2 : (e - 2 ^ (k + 1)) / 2 = e / 2 - 2 ^ k := by omega
    cases p with
    | nil =>
      simp only [List.nil_append, climb, if_neg hne, if_neg hne2, if_pos hL]
      rw [if_neg (by omega)]; rfl
    | cons c p =>
      simp only [List.cons_append, climb, if_neg hne, if_neg hne2, if_pos hL, if_pos hL2, d1, d2]
      exact ih k (by omega) (a / 2) (e / 2) _ x p (by omega) (by omega) (by omega)
  · have hL2 : ¬ ((a - 2 ^ (k + 1)) % 2 = 0 ∧ a - 2 ^ (k + 1) ≠ e - 2 ^ (k + 1)) := by omega
    by_cases hodd : a % 2 = 1
    · have d1 : (a - 2 ^ (k + 1)) / 2 = a / 2 - 2 ^ k := by omega
      have d2 : (e - 2 ^ (k + 1)) / 2 = e / 2 - 2 ^ k := by omega
      cases p with
      | nil =>
        simp only [List.nil_append, climb, if_neg hne, if_neg hne2, if_neg hL]
        rw [skip_odd a e hodd, if_neg (by simp only; omega)]; rfl
      | cons c p =>
        simp only [List.cons_append, climb, if_neg hne, if_neg hne2, if_neg hL, if_neg hL2]
        rw [skip_odd a e hodd, skip_odd (a - 2 ^ (k + 1)) _ (by omega)]
        simp only [d1, d2]
        exact ih k (by omega) (a / 2) (e / 2) _ x p (by omega) (by omega) (by omega)
    · have hae : a = e := by omega
      subst hae
      obtain ⟨j, hj, h1, h2, h3, h4, h5⟩ := skip_sub (k + 1) a hlt he2
      obtain ⟨i, rfl⟩ : ∃ i, j = i + 1 := ⟨j - 1, by omega⟩
      have hpi : 2 ^ (i + 1) = 2 * 2 ^ i := by rw [Nat.pow_succ]; omega
      have hposi : 0 < 2 ^ i := Nat.two_pow_pos i
      cases p with
      | nil =>
        simp only [List.nil_append, climb, if_neg hne, if_neg hne2, if_neg hL]
        rw [h1, if_neg (by simp only; omega)]; rfl
      | cons c p =>
        simp only [List.cons_append, climb, if_neg hne, if_neg hne2, if_neg hL, if_neg hL2]
        rw [h1, h2]
        generalize (skip (a - 2 ^ (k + 1)) (a - 2 ^ (k + 1))).1 = s at *
        simp only
        have d1 : s / 2 = (s + 2 ^ (i + 1)) / 2 - 2 ^ i := by omega
        rw [d1]
        exact ih i (by omega) ((s + 2 ^ (i + 1)) / 2) ((s + 2 ^ (i + 1)) / 2) _ x p (by omega) (Nat.le_refl _) (by omega)

/-- both ways lead to the same -/
theorem leads_climb (d h : α) : ∀ (r : List α) (n i : Nat), 1 ≤ n → i < n → climb nd i (n - 1) h r.reverse = if (leadsR nd d h r n i).2 = true then some (leadsR nd d h r n i).1 else none := by
  intro r
  induction r with
  | nil =>
    intro n i hn hi
    by_cases h1 : n = 1
    · subst h1; simp [climb, leadsR]
    · simp [climb, leadsR, h1]; omega
  | cons x r ih =>
    intro n i hn hi
    by_cases h1 : n = 1
    · subst h1
      simp only [leadsR, List.reverse_cons]
      cases hp : r.reverse ++ [x] with
      | nil => simp at hp
      | cons b q => simp [climb]
    · have hl := half_le n (by omega)
      have hu := half_lt n (by omega)
      have hp := half_pos n
      have hps : 2 ^ (Nat.log2 (n - 1) + 1) = 2 * half n := by rw [Nat.pow_succ]; unfold half; omega
      simp only [leadsR, List.reverse_cons, if_neg h1]
      by_cases hk : i < half n
      · rw [if_pos hk, climb_left nd (Nat.log2 (n - 1)) i (n - 1) h x r.reverse hk hl (by rw [hps]; exact hu)]
        have := ih (half n) i hp hk
        unfold half at this ⊢
        rw [this]
        split <;> simp_all
      · rw [if_neg hk, climb_right nd (Nat.log2 (n - 1)) i (n - 1) h x r.reverse (by unfold half at hk; omega) (by omega) (by rw [hps]; exact hu)]
        have := ih (n - half n) (i - half n) (by omega) (by omega)
        rw [show n - half n - 1 = n - 1 - half n by omega] at this
        unfold half at this ⊢
        rw [this]
        split <;> simp_all
end Mvt

/- The tree: node, leafHash, bytes.Equal, sized, lists, small; the reference's leaf, node, half, sized. -/
namespace Go.Proofs.Ytmegaegedlbckaa
open Go.RowKit Go.Mv Mvp Mvt
attribute [local irreducible] permS permP toB turnsK squeeze permN permB spongeB feed frameL framesL tagL

def kLeaf : List UInt8 := [108, 101, 97, 102]
def kNode : List UInt8 := [110, 111, 100, 101]
def kNone : List UInt8 := [110, 111, 110, 101]
theorem kLeaf_eq : (⟨#[108, 101, 97, 102]⟩ : ByteArray) = mkS kLeaf := rfl
theorem kNode_eq : (⟨#[110, 111, 100, 101]⟩ : ByteArray) = mkS kNode := rfl
def leafL (l : List UInt8) : List UInt8 := tagL kLeaf [l]
def nodeL (x y : List UInt8) : List UInt8 := tagL kNode [x, y]
theorem leafL_len (l : List UInt8) : (leafL l).length = 32 := tagL_len _ _
theorem nodeL_len (x y : List UInt8) : (nodeL x y).length = 32 := tagL_len _ _

/-- each has 32 bytes -/
def sz32 (ls : List (List UInt8)) : Bool := ls.all fun l => l.length == 32
theorem sz32_take (ls : List (List UInt8)) (j : Nat) (hj : j < ls.length) : sz32 (ls.take (j + 1)) = (sz32 (ls.take j) && ((ls.getD j []).length == 32)) := by
  unfold sz32
  rw [List.take_succ_eq_append_getElem hj, List.all_append]
  simp [List.getD_eq_getElem?_getD, hj]
theorem sz32_not (ls : List (List UInt8)) (j : Nat) (hj : j < ls.length) (h : (ls.getD j []).length ≠ 32) : sz32 ls = false := by
  unfold sz32
  rw [List.all_eq_false]
  exact ⟨ls[j], List.getElem_mem _, by simpa [List.getD_eq_getElem?_getD, hj] using h⟩
theorem sz32_get (ls : List (List UInt8)) (h : sz32 ls = true) (x : List UInt8) (hx : x ∈ ls) : x.length = 32 := by
  simpa using List.all_eq_true.1 h x hx

end Go.Proofs.Ytmegaegedlbckaa

/- SpongeLogs: what stays of many logs, step by step. -/
namespace Go.Mv
open Go.RowKit
theorem Has.ne {w : World} {g g' : Nat} {L L' : List Value} {T T' : TypeId} (h : Has w g L T) (h' : Has w g' L' T') (hT : T ≠ T') : g ≠ g' := by
  rintro rfl
  obtain ⟨_, _, h1, _⟩ := h
  obtain ⟨_, _, h2, _⟩ := h'
  rw [h1] at h2
  simp at h2
  exact hT h2.2.1
theorem Own.ne2 {w : World} {base base' sz sz' n n' : Nat} {T T' : TypeId} {v v' : Value} {L L' : List Value} (h : Own w base T sz v n L) (h' : Own w base' T' sz' v' n' L') (hT : T ≠ T') (k : Nat) (hk : OwnB v k) : ¬ OwnB v' k := by
  obtain ⟨_, ⟨rfl, _⟩ | ⟨g, o, cap, B, rfl, _, hg, _⟩⟩ := h'
  · intro t; cases t
  · intro t
    have e : g = k := by simpa [OwnB, Value.ownBlock] using t
    subst e
    exact h.ne hg hT hk
end Go.Mv
namespace Go.Proofs.Ytmegaegedlbckaa
open Go.RowKit Go.Mv Mvp
attribute [local irreducible] permS permP toB turnsK squeeze permN permB spongeB feed frameL framesL tagL

abbrev Tri : Type := Nat × Nat × List UInt8
def kptr (T : List Tri) : List Value := T.map fun t => .pointer (some ⟨t.1, 0, none⟩)
def wptr (T : List Tri) : List Value := T.map fun t => .pointer (some ⟨t.2.1, 0, none⟩)

variable {w w' : World} {base ga gb : Nat} {sa sb : List UInt8} {T : List Tri} {vk vw : Value} {Lk Lw : List Value}
theorem nodup_ne {α : Type} {l : List α} (h : l.Nodup) {i j : Nat} {x y : α} (hi : l[i]? = some x) (hj : l[j]? = some y) (hne : i ≠ j) : x ≠ y := by
  intro e
  subst e
  have hi' := (List.getElem?_eq_some_iff.1 hi)
  have hj' := (List.getElem?_eq_some_iff.1 hj)
  obtain ⟨a, ha⟩ := hi'
  obtain ⟨b, hb⟩ := hj'
  rcases Nat.lt_or_gt_of_ne hne with k | k
  · exact (List.pairwise_iff_getElem.1 h) i j a b k (ha.trans hb.symm)
  · exact (List.pairwise_iff_getElem.1 h) j i b a k (hb.trans ha.symm)
end Go.Proofs.Ytmegaegedlbckaa

/- mintvaultlaw8.lists, small: lists of strings as lists of bytes. -/
namespace Go.Proofs.Ytmegaegedlbckaa
open Go.RowKit Go.Mv Mvp Mvt
attribute [local irreducible] permS permP toB turnsK squeeze permN permB spongeB feed frameL framesL tagL

/-- slices of bytes of the call's own -/
def POwn (w : World) (base : Nat) : List Value → List (List UInt8) → Prop
  | [], [] => True
  | v :: vs, l :: ls => Own w base 5 1 v l.length (bs l) ∧ POwn w base vs ls
  | _, _ => False
theorem POwn.len {w : World} {base : Nat} : ∀ {vs : List Value} {ls : List (List UInt8)}, POwn w base vs ls → vs.length = ls.length
  | [], [], _ => rfl
  | _ :: _, _ :: _, h => by simp only [List.length_cons]; rw [POwn.len h.2]
  | [], _ :: _, h => h.elim
  | _ :: _, [], h => h.elim
theorem POwn.keep {w w' : World} {base : Nat} {S : Nat → Prop} (hf : Fr S w w') : ∀ {vs : List Value} {ls : List (List UInt8)}, POwn w base vs ls → (∀ v n l, Own w base 5 1 v n (bs l) → ∀ k, OwnB v k → ¬ S k) → POwn w' base vs ls
  | [], [], _, _ => trivial
  | _ :: _, _ :: _, h, hs => ⟨h.1.keep hf (hs _ _ _ h.1), POwn.keep hf h.2 hs⟩
  | [], _ :: _, h, _ => h.elim
  | _ :: _, [], h, _ => h.elim
theorem POwn.still {w w' : World} {base : Nat} {vs : List Value} {ls : List (List UInt8)} (h : POwn w base vs ls) (hf : Fr Nob w w') : POwn w' base vs ls := POwn.keep hf h (fun _ _ _ _ _ _ t => t)
theorem POwn.app {w w' : World} {base base' sz n : Nat} {vs : List Value} {ls : List (List UInt8)} (h : POwn w base vs ls) {q : Value} {T : TypeId} {L : List Value} (hq : Own w base' T sz q n L) (hT : 5 ≠ T) (hf : Fr (OwnB q) w w') : POwn w' base vs ls :=
  POwn.keep hf h (fun _ _ _ ho k hk hk' => ho.ne2 hq hT k hk hk')
theorem POwn.snoc {w : World} {base : Nat} {v : Value} {l : List UInt8} (hv : Own w base 5 1 v l.length (bs l)) : ∀ {vs : List Value} {ls : List (List UInt8)}, POwn w base vs ls → POwn w base (vs ++ [v]) (ls ++ [l])
  | [], [], _ => ⟨hv, trivial⟩
  | _ :: _, _ :: _, h => ⟨h.1, POwn.snoc hv h.2⟩
  | [], _ :: _, h => h.elim
  | _ :: _, [], h => h.elim
theorem POwn.parts {w : World} {base : Nat} : ∀ {vs : List Value} {ls : List (List UInt8)}, POwn w base vs ls → (∀ x ∈ ls, x.length ≤ 1000000) → Parts w vs ls
  | [], [], _, _ => trivial
  | _ :: _, _ :: _, h, hx => ⟨own_part h.1 (hx _ (by simp)), POwn.parts h.2 (fun x hxm => hx x (by simp [hxm]))⟩
  | [], _ :: _, h, _ => h.elim
  | _ :: _, [], h, _ => h.elim
/-- a list of lists of bytes, all of the call's own -/
def LOwn (w : World) (base : Nat) (v : Value) (ls : List (List UInt8)) : Prop := ∃ vs, Own w base 29 1 v ls.length vs ∧ POwn w base vs ls
theorem LOwn.still {w w' : World} {base : Nat} {v : Value} {ls : List (List UInt8)} (h : LOwn w base v ls) (hf : Fr Nob w w') : LOwn w' base v ls := by
  obtain ⟨vs, h1, h2⟩ := h; exact ⟨vs, h1.still hf, h2.still hf⟩
theorem LOwn.parts {w : World} {base : Nat} {v : Value} {ls : List (List UInt8)} (h : LOwn w base v ls) (hx : ∀ x ∈ ls, x.length ≤ 1000000) : ∃ a c, v = .slice a ls.length c ∧ ls.length ≤ c ∧ PartsAt w a ls := by
  obtain ⟨vs, h1, h2⟩ := h
  obtain ⟨a, c, rfl, hc, hr, -⟩ := h1.form
  rw [Nat.mul_one] at hr
  exact ⟨a, c, rfl, hc, vs, hr, (h2.parts hx).get⟩

theorem sumL_le2 (ls : List (List UInt8)) (B : Nat) (h : ∀ x ∈ ls, x.length ≤ B) : sumL ls ≤ ls.length * B := by
  induction ls with
  | nil => simp [sumL]
  | cons a l ih =>
    have h1 := ih (fun x hx => h x (by simp [hx]))
    have h2 := h a (by simp)
    have h3 : sumL (a :: l) = a.length + sumL l := by simp only [sumL, List.map_cons, List.foldr_cons]
    rw [h3, List.length_cons, Nat.succ_mul]; omega

end Go.Proofs.Ytmegaegedlbckaa

/- bytes.Clone; lists of owned slices of bytes that lie apart. -/
namespace Go.Proofs.Ytmegaegedlbckaa
open Go.RowKit Go.Mv Mvp Mvt
attribute [local irreducible] permS permP toB turnsK squeeze permN permB spongeB feed frameL framesL tagL

theorem info_u8c : (Try.prog.info? 5).map (fun i => (i.zero, i.size, i.bytes)) = some (some (.int .u8 0), 1, 1) := by kernel_rfl

/-- no two of them share a block -/
def Sep (vs : List Value) : Prop := vs.Pairwise fun a b => ∀ k, OwnB a k → ¬ OwnB b k
theorem Sep.nil : Sep [] := List.Pairwise.nil
theorem POwn.get {w : World} {base : Nat} : ∀ {vs : List Value} {ls : List (List UInt8)}, POwn w base vs ls → ∀ (i : Nat) (v : Value), vs[i]? = some v → ∃ l, ls[i]? = some l ∧ Own w base 5 1 v l.length (bs l)
  | [], [], _, i, v, hv => by simp at hv
  | a :: vs, l :: ls, h, 0, v, hv => by simp at hv; subst hv; exact ⟨l, rfl, h.1⟩
  | a :: vs, l :: ls, h, i + 1, v, hv => by simp at hv; obtain ⟨l', h1, h2⟩ := POwn.get h.2 i v hv; exact ⟨l', by simpa using h1, h2⟩
  | [], _ :: _, h, _, _, _ => h.elim
  | _ :: _, [], h, _, _, _ => h.elim
theorem POwn.mem {w : World} {base : Nat} {vs : List Value} {ls : List (List UInt8)} (h : POwn w base vs ls) {v : Value} (hv : v ∈ vs) : ∃ l, l ∈ ls ∧ Own w base 5 1 v l.length (bs l) := by
  obtain ⟨i, hi⟩ := List.getElem?_of_mem hv
  obtain ⟨l, h1, h2⟩ := h.get i v hi
  exact ⟨l, List.mem_of_getElem? h1, h2⟩
theorem Sep.snoc {w w' : World} {base : Nat} {vs : List Value} {ls : List (List UInt8)} (h : Sep vs) (hp : POwn w base vs ls) {v : Value} {n : Nat} {L : List Value} {T : TypeId} (hv : Own w' w.heap.size T 1 v n L) : Sep (vs ++ [v]) := by
  unfold Sep at *
  rw [List.pairwise_append]
  refine ⟨h, by simp, fun a ha b hb k hk hk' => ?_⟩
  simp only [List.mem_singleton] at hb
  subst hb
  obtain ⟨l, _, ho⟩ := hp.mem ha
  have h1 := (ho.lt hk).2
  have h2 := (hv.lt hk').1
  omega
theorem POwn.mono {w : World} {base base' : Nat} (hb : base' ≤ base) : ∀ {vs : List Value} {ls : List (List UInt8)}, POwn w base vs ls → POwn w base' vs ls
  | [], [], _ => trivial
  | _ :: _, _ :: _, h => ⟨h.1.mono hb, POwn.mono hb h.2⟩
  | [], _ :: _, h => h.elim
  | _ :: _, [], h => h.elim
/-- a slice of slices of bytes, all of the call's own, apart -/
def SOwn (w : World) (base : Nat) (v : Value) (ls : List (List UInt8)) : Prop := ∃ vs, Own w base 29 1 v ls.length vs ∧ POwn w base vs ls ∧ Sep vs
theorem SOwn.nil (w : World) (base : Nat) : SOwn w base (.slice none 0 0) [] := ⟨[], Own.nil _ _ _ _, trivial, Sep.nil⟩
theorem SOwn.still {w w' : World} {base : Nat} {v : Value} {ls : List (List UInt8)} (h : SOwn w base v ls) (hf : Fr Nob w w') : SOwn w' base v ls := by
  obtain ⟨vs, h1, h2, h3⟩ := h; exact ⟨vs, h1.still hf, h2.still hf, h3⟩
theorem SOwn.lown {w : World} {base : Nat} {v : Value} {ls : List (List UInt8)} (h : SOwn w base v ls) : LOwn w base v ls := by
  obtain ⟨vs, h1, h2, h3⟩ := h; exact ⟨vs, h1, h2⟩
end Go.Proofs.Ytmegaegedlbckaa
