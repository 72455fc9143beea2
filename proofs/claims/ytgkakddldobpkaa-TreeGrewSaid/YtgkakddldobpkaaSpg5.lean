/- The reference's sponge, on bytes: what it computes is the sponge on words. -/
import Derived.Test.YtgkakddldobpkaaSpg4
namespace Mvp

theorem feed_at (l : List UInt8) : ∀ (S : List UInt64) (k : Nat), k < 136 → (feed (S, k) l).2 = (k + l.length) % 136 := by
  induction l with
  | nil => intro S k h; simp [feed_nil]; omega
  | cons x l ih =>
    intro S k h
    rw [feed_cons, feed1]
    split
    · rename_i h1
      simp only at h1
      rw [ih _ _ (by omega), List.length_cons]; omega
    · rename_i h1
      simp only at h1
      rw [ih _ _ (by omega), List.length_cons]
      congr 1; omega
/-- the text with its end -/
def padded (l : List UInt8) (e : UInt8) : List UInt8 := l ++ padL (l.length % 136) e
theorem padded_len (l : List UInt8) (e : UInt8) : (padded l e).length = l.length + (136 - l.length % 136) := by
  rw [padded, List.length_append, padL_len _ _ (Nat.mod_lt _ (by decide))]
theorem padded_mod (l : List UInt8) (e : UInt8) : (padded l e).length % 136 = 0 := by
  rw [padded_len]; omega
theorem padded_eq (l : List UInt8) (e : UInt8) (m : Nat) (hm : m = 135 - l.length % 136) : (l ++ e :: List.replicate m 0).set (l.length + m) (bx ((l ++ e :: List.replicate m 0).getD (l.length + m) 0) 0x80) = padded l e := by
  subst hm
  have h2 : (l ++ e :: List.replicate (135 - l.length % 136) 0).getD (l.length + (135 - l.length % 136)) 0 = (e :: List.replicate (135 - l.length % 136) 0).getD (135 - l.length % 136) 0 := by
    rw [List.getD_eq_getElem?_getD, List.getD_eq_getElem?_getD, List.getElem?_append_right (by omega), Nat.add_sub_cancel_left]
  rw [h2, List.set_append_right _ _ (by omega), Nat.add_sub_cancel_left]
  rfl
theorem ended_padded (l : List UInt8) (e : UInt8) : ended (feed (zeros25, 0) l) e = (feed (zeros25, 0) (padded l e)).1 := by
  rw [ended, padded, feed_append, feed_at _ _ _ (by decide), Nat.zero_add]
/-- the words behind so many bytes -/
def afterB (p : List UInt8) (i : Nat) : List UInt64 := (feed (zeros25, 0) (p.take i)).1
theorem afterB_len (p : List UInt8) (i : Nat) : (afterB p i).length = 25 := by rw [afterB, feed_len]; rfl
theorem afterB_zero (p : List UInt8) : afterB p 0 = zeros25 := by rw [afterB, List.take_zero, feed_nil]
theorem afterB_all (l : List UInt8) (e : UInt8) (i : Nat) (h : (padded l e).length ≤ i) : afterB (padded l e) i = ended (feed (zeros25, 0) l) e := by
  rw [afterB, List.take_of_length_le h, ended_padded]
theorem afterB_succ (p : List UInt8) (i : Nat) (hi : i % 136 = 0) (h : i + 136 ≤ p.length) : afterB p (i + 136) = permS (xorAt (afterB p i) 0 ((p.drop i).take 136)) := by
  have hl : (p.take i).length = i := by rw [List.length_take]; omega
  have h2 : (feed (zeros25, 0) (p.take i)).2 = 0 := by rw [feed_at _ _ _ (by decide), hl]; omega
  have hm : ((p.drop i).take 136).length = 136 := by rw [List.length_take, List.length_drop]; omega
  have h3 : feed (zeros25, 0) (p.take i) = (afterB p i, 0) := Prod.ext rfl h2
  rw [afterB, List.take_add, feed_append, h3, feed_full _ _ _ (by rw [hm]) (by decide)]
/-- bytes of the state, j of them added to -/
def addB (b p : List UInt8) : Nat → List UInt8
  | 0 => b
  | j + 1 => (addB b p j).set j (bx ((addB b p j).getD j 0) (p.getD j 0))
theorem addB_zero (b p : List UInt8) : addB b p 0 = b := rfl
theorem addB_succ (b p : List UInt8) (j : Nat) : addB b p (j + 1) = (addB b p j).set j (bx ((addB b p j).getD j 0) (p.getD j 0)) := rfl
theorem addB_len (b p : List UInt8) (j : Nat) : (addB b p j).length = b.length := by
  induction j with
  | zero => rfl
  | succ j ih => rw [addB_succ, List.length_set, ih]
theorem addB_get (b p : List UInt8) (j : Nat) (hj : j ≤ b.length) (i : Nat) (hi : i < b.length) : (addB b p j).getD i 0 = if i < j then bx (b.getD i 0) (p.getD i 0) else b.getD i 0 := by
  induction j generalizing i with
  | zero => simp [addB_zero]
  | succ j ih =>
    rw [addB_succ, List.getD_eq_getElem?_getD, List.getElem?_set]
    by_cases e : j = i
    · subst e
      rw [if_pos rfl, if_pos (by rw [addB_len]; omega), if_pos (by omega), ih (by omega) j (by omega), if_neg (by omega)]
      rfl
    · rw [if_neg e, ← List.getD_eq_getElem?_getD, ih (by omega) i hi]
      by_cases h1 : i < j
      · rw [if_pos h1, if_pos (by omega)]
      · rw [if_neg h1, if_neg (by omega)]
theorem perm_add (S : List UInt64) (hS : S.length = 25) (p : List UInt8) (hp : 136 ≤ p.length) : permB (addB (toB S 200) p 136) = toB (permS (xorAt S 0 (p.take 136))) 200 := by
  have hl : (p.take 136).length = 136 := by rw [List.length_take]; omega
  unfold permB
  rw [words_of S hS (p.take 136) _ (by omega) (by rw [addB_len, toB_len]) (fun i hi => ?_)]
  rw [addB_get _ _ _ (by rw [toB_len]; omega) i (by rw [toB_len]; omega), toB_get _ _ _ hi, hl]
  by_cases h : i < 136
  · rw [if_pos h, if_pos h]
    congr 1
    simp only [List.getD_eq_getElem?_getD, List.getElem?_take, if_pos h]
  · rw [if_neg h, if_neg h]
theorem perm_toB (S : List UInt64) (hS : S.length = 25) : permB (toB S 200) = toB (permS S) 200 := by
  unfold permB
  rw [words_of S hS [] _ (by simp) (by rw [toB_len]) (fun i hi => by rw [toB_get _ _ _ hi]; simp)]
  rfl
theorem toB_take (S : List UInt64) : (toB S 200).take 136 = toB S 136 := by
  unfold toB
  rw [← List.map_take, List.take_range, Nat.min_eq_left (by omega)]
theorem toB_zeros : toB zeros25 200 = List.replicate 200 0 := by
  have key : ∀ n, toB zeros25 n = List.replicate n 0 := by
    intro n
    refine List.eq_replicate_iff.2 ⟨toB_len _ _, fun x hx => ?_⟩
    unfold toB at hx
    obtain ⟨i, _, rfl⟩ := List.mem_map.1 hx
    exact sByte_zeros i
  exact key 200
end Mvp
