/- The tree: node, leafHash, bytes.Equal, sized, lists, small; the reference's leaf, node, half, sized. -/
import Derived.Test.YtgkakddldobpkaaLog
import Derived.Test.YtgkakddldobpkaaOpen
import Derived.Test.YtgkakddldobpkaaTree1
import Derived.IntWalk
namespace Go.Proofs.Ytgkakddldobpkaa
open Go.RowKit Go.Mv Mvp Mvt
attribute [local irreducible] permS permP toB turnsK squeeze permN permB spongeB feed frameL framesL tagL

def kLeaf : List UInt8 := [108, 101, 97, 102]
def kNode : List UInt8 := [110, 111, 100, 101]
def kNone : List UInt8 := [110, 111, 110, 101]
theorem kLeaf_eq : (⟨#[108, 101, 97, 102]⟩ : ByteArray) = mkS kLeaf := rfl
theorem kNode_eq : (⟨#[110, 111, 100, 101]⟩ : ByteArray) = mkS kNode := rfl
def leafL (l : List UInt8) : List UInt8 := tagL kLeaf [l]
def nodeL (x y : List UInt8) : List UInt8 := tagL kNode [x, y]
theorem leafL_len (l : List UInt8) : (leafL l).length = 32 := tagL_len _ _
theorem nodeL_len (x y : List UInt8) : (nodeL x y).length = 32 := tagL_len _ _

theorem Tag_of (k : List UInt8) (hk : k.length ≤ 100) (g c : Nat) (vs : List Value) (ls : List (List UInt8)) (w : World) (hh : Has w g vs 22) (hp : Parts w vs ls) (hm : ls.length ≤ 1000000) :
    Calls Try.prog 16 #[.string (mkS k), .slice (some ⟨g, 0, none⟩) ls.length c] w fun r w' => ∃ v, r = .returned v ∧ Own w' w.heap.size 5 1 v 32 (bs (tagL k ls)) ∧ Fr Nob w w' := by
  have := Tag_any (mkS k) (some ⟨g, 0, none⟩) c ls w (by rw [mkS_size]; omega) hm (hp.at hh)
  rwa [mkS_toList] at this

set_option maxHeartbeats 400000 in
set_option maxRecDepth 1000000 in
theorem leafHash_any (a : Option Addr) (n c : Nat) (l : List UInt8) (w : World) (hb : PartIs w (.slice a n c) l) :
    Calls Try.prog 60 #[.slice a n c] w fun r w' => ∃ v, r = .returned v ∧ Own w' w.heap.size 5 1 v 32 (bs (leafL l)) ∧ Fr Nob w w' := by
  go_enter Try.func60, Try.ntmps60
  go_wp2_with (with_reducible refine wl_stop (o := ⟨some 4, _, _, _, _, _⟩) ?_)
  refine wl_slit rfl rfl Try.underlying31 info_sl [.slice a n c] rfl (by simp; rfl) rfl rfl ?_
  intro w2 hh2 hf2 hz2
  clear hz2
  have hp2 : Parts w2 [.slice a n c] [l] := ⟨hb.still hf2, trivial⟩
  have hb2 := hf2.size
  generalize hgw : w.heap.size = g0 at *
  have HG := Lib.hid hgw; clear hgw
  rw [kLeaf_eq]
  go_wp2_with fail
  refine (Tag_of kLeaf (by decide) _ _ _ _ w2 hh2 hp2 (by simp)).mono ?_
  rintro e w3 ⟨v3, rfl, hown3, hf3⟩
  go_wp2_with fail
  go_ret
  rw [HG.out]
  exact ⟨_, rfl, hown3.mono hb2, hf2.then hf3⟩

set_option maxHeartbeats 400000 in
set_option maxRecDepth 1000000 in
theorem node_any (a : Option Addr) (n c : Nat) (l : List UInt8) (a' : Option Addr) (n' c' : Nat) (l' : List UInt8) (w : World) (hb : PartIs w (.slice a n c) l) (hb' : PartIs w (.slice a' n' c') l') :
    Calls Try.prog 62 #[.slice a n c, .slice a' n' c'] w fun r w' => ∃ v, r = .returned v ∧ Own w' w.heap.size 5 1 v 32 (bs (nodeL l l')) ∧ Fr Nob w w' := by
  go_enter Try.func62, Try.ntmps62
  go_wp2_with (with_reducible refine wl_stop (o := ⟨some 7, _, _, _, _, _⟩) ?_)
  refine wl_slit rfl rfl Try.underlying31 info_sl [.slice a n c, .slice a' n' c'] rfl (by simp; exact ⟨rfl, rfl⟩) rfl rfl ?_
  intro w2 hh2 hf2 hz2
  clear hz2
  have hp2 : Parts w2 [.slice a n c, .slice a' n' c'] [l, l'] := ⟨hb.still hf2, hb'.still hf2, trivial⟩
  have hb2 := hf2.size
  generalize hgw : w.heap.size = g0 at *
  have HG := Lib.hid hgw; clear hgw
  rw [kNode_eq]
  go_wp2_with fail
  refine (Tag_of kNode (by decide) _ _ _ _ w2 hh2 hp2 (by simp)).mono ?_
  rintro e w3 ⟨v3, rfl, hown3, hf3⟩
  go_wp2_with fail
  go_ret
  rw [HG.out]
  exact ⟨_, rfl, hown3.mono hb2, hf2.then hf3⟩

set_option maxHeartbeats 400000 in
set_option maxRecDepth 1000000 in
theorem leafR_any (l : List UInt8) (w : World) (hl : l.length ≤ 90000) :
    Calls Try.prog 86 #[.string (mkS l)] w fun r w' => r = .returned (.string (mkS (leafL l))) ∧ Fr Nob w w' := by
  go_enter Try.func86, Try.ntmps86
  go_wp2_with (with_reducible refine wl_stop (o := ⟨some 4, _, _, _, _, _⟩) ?_)
  refine wl_slit rfl rfl Try.underlying30 info_str (ss [l]) rfl (by simp [ss]; rfl) rfl rfl ?_
  intro w2 hh2 hf2 hz2
  clear hz2
  generalize w.heap.size = g0 at *
  rw [kLeaf_eq]
  go_wp2_with fail
  refine (tagR_of kLeaf _ _ _ w2 hh2 (by simp [sumL, kLeaf]; omega) (by simp)).mono ?_
  rintro e w3 ⟨rfl, hf3⟩
  go_wp2_with fail
  go_ret
  exact ⟨rfl, hf2.then hf3⟩

set_option maxHeartbeats 400000 in
set_option maxRecDepth 1000000 in
theorem nodeR_any (x y : List UInt8) (w : World) (hl : x.length + y.length ≤ 90000) :
    Calls Try.prog 88 #[.string (mkS x), .string (mkS y)] w fun r w' => r = .returned (.string (mkS (nodeL x y))) ∧ Fr Nob w w' := by
  go_enter Try.func88, Try.ntmps88
  go_wp2_with (with_reducible refine wl_stop (o := ⟨some 7, _, _, _, _, _⟩) ?_)
  refine wl_slit rfl rfl Try.underlying30 info_str (ss [x, y]) rfl (by simp [ss]; exact ⟨rfl, rfl⟩) rfl rfl ?_
  intro w2 hh2 hf2 hz2
  clear hz2
  generalize w.heap.size = g0 at *
  rw [kNode_eq]
  go_wp2_with fail
  refine (tagR_of kNode _ _ _ w2 hh2 (by simp [sumL, kNode]; omega) (by simp)).mono ?_
  rintro e w3 ⟨rfl, hf3⟩
  go_wp2_with fail
  go_ret
  exact ⟨rfl, hf2.then hf3⟩

set_option maxRecDepth 1000000 in
theorem equal_any (a : Option Addr) (n c : Nat) (l : List UInt8) (a' : Option Addr) (n' c' : Nat) (l' : List UInt8) (w : World) (hb : RdB w a n l) (hb' : RdB w a' n' l') :
    Calls Try.prog 64 #[.slice a n c, .slice a' n' c'] w fun r w' => r = .returned (.bool (decide (l = l'))) ∧ w = w' := by
  have x1 := run_string hb c Try.underlying22 Try.underlying5 Try.underlying9
  have x2 := run_string hb' c' Try.underlying22 Try.underlying5 Try.underlying9
  go_enter Try.func64, Try.ntmps64
  go_wp2_with fail
  go_ret
  exact ⟨ret_bool (beq_mkS _ _), rfl⟩

/-- each has 32 bytes -/
def sz32 (ls : List (List UInt8)) : Bool := ls.all fun l => l.length == 32
theorem sz32_take (ls : List (List UInt8)) (j : Nat) (hj : j < ls.length) : sz32 (ls.take (j + 1)) = (sz32 (ls.take j) && ((ls.getD j []).length == 32)) := by
  unfold sz32
  rw [List.take_succ_eq_append_getElem hj, List.all_append]
  simp [List.getD_eq_getElem?_getD, hj]
theorem sz32_not (ls : List (List UInt8)) (j : Nat) (hj : j < ls.length) (h : (ls.getD j []).length ≠ 32) : sz32 ls = false := by
  unfold sz32
  rw [List.all_eq_false]
  exact ⟨ls[j], List.getElem_mem _, by simpa [List.getD_eq_getElem?_getD, hj] using h⟩
theorem sz32_get (ls : List (List UInt8)) (h : sz32 ls = true) (x : List UInt8) (hx : x ∈ ls) : x.length = 32 := by
  simpa using List.all_eq_true.1 h x hx

set_option maxHeartbeats 400000 in
set_option maxRecDepth 1000000 in
theorem sized_any (a : Option Addr) (c : Nat) (ls : List (List UInt8)) (w : World) (hm : ls.length ≤ 1000000) (hb : PartsAt w a ls) :
    Calls Try.prog 59 #[.slice a ls.length c] w fun r w' => r = .returned (.bool (sz32 ls)) ∧ w = w' := by
  go_enter Try.func59, Try.ntmps59
  go_wp2_with fail
  go_loop [7] (fun i => ∃ j : Nat, j ≤ ls.length ∧ i = .int .i64 (j : Int) ∧ sz32 (ls.take j) = true) (fun i => (ls.length - intOf i).toNat)
  case atStart => exact ⟨0, by omega, rfl, rfl⟩
  case round =>
    obtain ⟨j, hj, rfl, hs⟩ := hrel
    by_cases hlt : j < ls.length
    · have hltI : (j : Int) < (ls.length : Int) := by omega
      obtain ⟨b, o, v, rfl, hc, ap, np, cp, rfl, hp1, hp2, hp3, hp4⟩ := hb.get hlt
      have hl := hp3.len
      have hst := sz32_take ls j hlt
      have hsn := sz32_not ls j hlt
      have HST := Lib.hid hst; clear hst
      have HSN := Lib.hid hsn; clear hsn
      have HS := Lib.hid hs; clear hs
      have HL := Lib.hid hl; clear hl
      by_cases h32 : np = 32
      · subst h32
        go_wp2_with fail
        go_round
        case rel => exact ⟨j + 1, by omega, by go_num, by rw [HST.out, HS.out, HL.out]; rfl⟩
        case measure => simp [intOf]; omega
      · have h32I : ¬ (np : Int) = 32 := by omega
        go_wp2_with fail
        go_ret
        exact ⟨ret_bool (HSN.out (by rw [HL.out]; exact h32)).symm, rfl⟩
    · have hge : ¬ ((j : Int) < (ls.length : Int)) := by omega
      have HS := Lib.hid hs; clear hs
      go_wp2_with fail
      go_ret
      exact ⟨ret_bool (by have := HS.out; rw [List.take_of_length_le (by omega)] at this; exact this.symm), rfl⟩

set_option maxHeartbeats 400000 in
set_option maxRecDepth 1000000 in
theorem sizedR_any (a : Option Addr) (c : Nat) (ls : List (List UInt8)) (w : World) (hm : ls.length ≤ 1000000) (hb : Rd w a ls.length (ss ls)) :
    Calls Try.prog 65 #[.slice a ls.length c] w fun r w' => r = .returned (.bool (sz32 ls)) ∧ w = w' := by
  go_enter Try.func65, Try.ntmps65
  go_wp2_with fail
  go_loop [3] (fun i => ∃ j : Nat, j ≤ ls.length ∧ i = .int .i64 (j : Int) ∧ sz32 (ls.take j) = true) (fun i => (ls.length - intOf i).toNat)
  case atStart => exact ⟨0, by omega, rfl, rfl⟩
  case round =>
    obtain ⟨j, hj, rfl, hs⟩ := hrel
    by_cases hlt : j < ls.length
    · have hltI : (j : Int) < (ls.length : Int) := by omega
      obtain ⟨b, o, rfl, hat⟩ := hb.at (by omega)
      have hc : w.cell? ⟨b, o + j, none⟩ = some (.string (mkS (ls.getD j []))) := hat j _ (ss_get ls j hlt)
      have hst := sz32_take ls j hlt
      have hsn := sz32_not ls j hlt
      have HST := Lib.hid hst; clear hst
      have HSN := Lib.hid hsn; clear hsn
      have HS := Lib.hid hs; clear hs
      have hl : (mkS (ls.getD j [])).size = (ls.getD j []).length := mkS_size _
      generalize mkS (ls.getD j []) = q at *
      have HL := Lib.hid hl; clear hl hat
      by_cases h32 : q.size = 32
      · go_wp2_with fail
        go_round
        case rel => exact ⟨j + 1, by omega, by go_num, by rw [HST.out, HS.out, ← HL.out, h32]; rfl⟩
        case measure => simp [intOf]; omega
      · have h32I : ¬ (q.size : Int) = 32 := by omega
        go_wp2_with fail
        go_ret
        exact ⟨ret_bool (HSN.out (by rw [← HL.out]; exact h32)).symm, rfl⟩
    · have hge : ¬ ((j : Int) < (ls.length : Int)) := by omega
      have HS := Lib.hid hs; clear hs
      go_wp2_with fail
      go_ret
      exact ⟨ret_bool (by have := HS.out; rw [List.take_of_length_le (by omega)] at this; exact this.symm), rfl⟩

set_option maxHeartbeats 400000 in
set_option maxRecDepth 1000000 in
theorem halfR_any (n : Nat) (w : World) (h2 : 2 ≤ n) (hn : n ≤ 1048576) :
    Calls Try.prog 87 #[.int .i64 (n : Int)] w fun r w' => r = .returned (.int .i64 (half n : Nat)) ∧ w = w' := by
  have hl := half_le n h2
  have hu := half_lt n h2
  have hh : half n = 2 ^ Nat.log2 (n - 1) := rfl
  have HH := Lib.hid hh; clear hh
  go_enter Try.func87, Try.ntmps87
  go_wp2_with fail
  go_loop [3] (fun i => ∃ j : Nat, j ≤ Nat.log2 (n - 1) ∧ i = .int .i64 ((2 ^ j : Nat) : Int)) (fun i => (n - intOf i).toNat)
  case atStart => exact ⟨0, by omega, rfl⟩
  case round =>
    obtain ⟨j, hj, rfl⟩ := hrel
    have hp : 2 ^ j ≤ half n := by rw [HH.out]; exact Nat.pow_le_pow_right (by decide) hj
    have hs : 2 ^ (j + 1) = 2 * 2 ^ j := by rw [Nat.pow_succ]; omega
    have hpos : 0 < 2 ^ j := Nat.two_pow_pos j
    have hjj : 2 * 2 ^ j < n → j + 1 ≤ Nat.log2 (n - 1) := fun h => by
      rw [Nat.le_log2 (by omega), hs]; omega
    have hge : ¬ 2 * 2 ^ j < n → 2 ^ j = half n := fun h => by
      have h1 : ¬ j + 1 ≤ Nat.log2 (n - 1) := by rw [Nat.le_log2 (by omega), hs]; omega
      rw [HH.out, show j = Nat.log2 (n - 1) by omega]
    have HS := Lib.hid hs; clear hs
    generalize hq : 2 ^ j = q at *
    have HQ := Lib.hid hq; clear hq
    by_cases hlt : 2 * q < n
    · have hltI : 2 * (q : Int) < (n : Int) := by omega
      have hk := hjj hlt
      clear hjj hge
      go_wp2_with fail
      go_round
      case rel => exact ⟨j + 1, hk, by rw [HS.out]; go_num⟩
      case measure => simp [intOf]; omega
    · have hltI : ¬ 2 * (q : Int) < (n : Int) := by omega
      have hk := hge hlt
      have HK := Lib.hid hk
      clear hjj hge hk
      go_wp2_with fail
      go_ret
      exact ⟨by rw [HK.out]; rfl, rfl⟩
end Go.Proofs.Ytgkakddldobpkaa
