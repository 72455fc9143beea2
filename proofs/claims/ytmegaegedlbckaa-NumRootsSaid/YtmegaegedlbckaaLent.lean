/- mintvaultref1.Lent: the bytes of a text, at the front of a longer list. -/
import Derived.Test.YtmegaegedlbckaaOps
import Derived.Test.YtmegaegedlbckaaPlain
import Derived.Test.YtmegaegedlbckaaProg
namespace Go.Proofs.Ytmegaegedlbckaa
open Go.RowKit Go.Mv Mvp

theorem info_u8 : (Try.prog.info? 5).map (fun i => (i.zero, i.size, i.bytes)) = some (some (.int .u8 0), 1, 1) := by kernel_rfl
theorem size_u8 : (Try.prog.info? 5).map (·.size) = some 1 := by kernel_rfl

/-- what lies behind the text -/
def lentTail (n : Nat) : List UInt8 := (List.range 160).map fun j => UInt8.ofNat ((n + j) % 251) ^^^ 0xA5
def lentL (l : List UInt8) : List UInt8 := l ++ lentTail l.length
theorem lentL_len (l : List UInt8) : (lentL l).length = l.length + 160 := by simp [lentL, lentTail]
theorem lentL_at (l : List UInt8) (i : Nat) (h1 : l.length ≤ i) (h2 : i < l.length + 160) : (lentL l).getD i 0 = UInt8.ofNat (i % 251) ^^^ 0xA5 := by
  rw [List.getD_eq_getElem?_getD, lentL, List.getElem?_append_right h1]
  simp only [lentTail, List.getElem?_map, List.getElem?_range (show i - l.length < 160 by omega), Option.map_some, Option.getD_some]
  rw [show l.length + (i - l.length) = i by omega]

theorem size_list (s : ByteArray) : s.data.toList.length = s.size := by simp
theorem lent_fill_len (s : ByteArray) (k : Nat) : (fill (lentL s.data.toList) (s.data.toList ++ List.replicate 160 0) k).length = s.size + 160 := by
  rw [fill_length]
  · simp
  · simp [lentL_len]
theorem lent_start (s : ByteArray) : splice (List.replicate (s.size + 160) (Value.int .u8 0)) 0 (bs s.data.toList) = bs (fill (lentL s.data.toList) (s.data.toList ++ List.replicate 160 0) s.size) := by
  have h1 : fill (lentL s.data.toList) (s.data.toList ++ List.replicate 160 0) s.size = s.data.toList ++ List.replicate 160 0 := by
    unfold fill lentL
    rw [List.take_left' (by simp), List.drop_left' (by simp)]
  rw [h1]
  unfold splice
  rw [bs_append, bs_len]
  simp [bs]

set_option maxHeartbeats 400000 in
set_option maxRecDepth 100000 in
theorem lent_any (s : ByteArray) (w : World) (hs : s.size ≤ 1000000) :
    Calls Try.prog 11 #[.string s] w fun e w' => e = .returned (.slice (some ⟨w.heap.size, 0, none⟩) (s.size + 160) (s.size + 160)) ∧ Has w' w.heap.size (bs (lentL s.data.toList)) 5 ∧ Fr Nob w w' ∧ w'.heap.size = w.heap.size + 1 := by
  go_enter Try.func11, Try.ntmps11
  go_wp2_with (first
    | (at_make; refine wl_make rfl rfl Try.underlying29 info_u8 rfl rfl rfl (s.size + 160) (s.size + 160) (by simp) (by simp) (by omega) (by omega) (by unfold maxLen; omega) ?_; intro w1 hw1 hf1 hz1)
    | (with_reducible refine wl_stop (o := ⟨some 11, _, _, _, _, _⟩) ?_))
  refine wl_copy_str rfl rfl Try.underlying29 size_u8 rfl rfl hw1 (by omega) (by simp) ?_
  intro w2 hw2 hf2 hz2
  go_wp2_with fail
  go_loopw [4] (fun i wr => ∃ k : Nat, s.size ≤ k ∧ k ≤ s.size + 160 ∧ i = .int .i64 k ∧ Has wr w.heap.size (bs (fill (lentL s.data.toList) (s.data.toList ++ List.replicate 160 0) k)) 5 ∧ Fr Nob w wr ∧ wr.heap.size = w.heap.size + 1)
    (fun i _ => s.size + 160 - (intOf i).toNat)
  case atStart =>
    refine ⟨s.size, Nat.le_refl _, by omega, rfl, ?_, (hf1.new hf2 (Nat.le_refl _)), by omega⟩
    have e := lent_start s
    rw [← e]; exact hw2
  case round =>
    obtain ⟨k, hk1, hk2, rfl, hh, hf, hz⟩ := hrel
    have hlen : (bs (fill (lentL s.data.toList) (s.data.toList ++ List.replicate 160 0) k)).length = s.size + 160 := by rw [length_bs]; exact lent_fill_len s k
    by_cases hlt : k < s.size + 160
    · obtain ⟨v0, hc, hfr⟩ := hh.ready (i := k) (by rw [hlen]; exact hlt)
      clear hlen hz1 hz2 hw1 hw2 hf1 hf2
      go_wp2
      go_roundw
      case rel =>
        refine ⟨k + 1, by omega, by omega, by go_num, ?_, hf.setCell _ _ _ _ (fun h => absurd h (Nat.lt_irrefl _)), by simpa [World.setCell] using hz⟩
        have e : Value.int .u8 (bits BinOp.xor IntKind.u8 ((k : Int) % 251) 165) = .int .u8 (((lentL s.data.toList).getD k 0).toNat : Int) := by
          rw [lentL_at _ _ (by rw [size_list]; exact hk1) (by rw [size_list]; exact hlt)]
          have e1 : ((k : Int) % 251) = ((k % 251 : Nat) : Int) := by omega
          have e2 := u8_xor_nat (k % 251) 165 (by omega) (by omega)
          rw [e1]
          rw [show (165 : Int) = ((165 : Nat) : Int) from rfl, e2]
          have e3 : k % 251 % 256 = k % 251 := by omega
          simp [UInt8.toNat_xor, e3]
        rw [e]
        have := hh.set k (.int .u8 (((lentL s.data.toList).getD k 0).toNat : Int))
        rw [bs_set, fill_set _ _ _ (by simp [lentL_len]) (by rw [lentL_len, size_list]; exact hlt)] at this
        exact this
      case measure => simp [intOf]; omega
    · go_wp2
      go_ret
      have e : fill (lentL s.data.toList) (s.data.toList ++ List.replicate 160 0) k = lentL s.data.toList := fill_all _ _ _ (by simp [lentL_len]) (by rw [lentL_len, size_list]; omega)
      rw [e] at hh
      exact ⟨rfl, hh, hf, hz⟩
end Go.Proofs.Ytmegaegedlbckaa
