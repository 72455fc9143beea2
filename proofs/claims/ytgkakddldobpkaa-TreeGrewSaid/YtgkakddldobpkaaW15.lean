/- absorber.frame; the reference's Frame -/
import Derived.Test.YtgkakddldobpkaaW13
import Derived.Test.YtgkakddldobpkaaW11
namespace Mvp
/-- a length in four bytes -/
def lenB (n : Nat) : List UInt8 := [UInt8.ofNat (n / 16777216), UInt8.ofNat (n / 65536), UInt8.ofNat (n / 256), UInt8.ofNat n]
def frameL (l : List UInt8) : List UInt8 := lenB l.length ++ l
def framesL (ls : List (List UInt8)) : List UInt8 := (ls.map frameL).flatten
theorem framesL_nil : framesL [] = [] := rfl
theorem framesL_append (a b : List (List UInt8)) : framesL (a ++ b) = framesL a ++ framesL b := by simp [framesL]
theorem framesL_one (a : List UInt8) : framesL [a] = frameL a := by simp [framesL]
theorem framesL_cons (a : List UInt8) (b : List (List UInt8)) : framesL (a :: b) = frameL a ++ framesL b := by simp [framesL]
end Mvp
namespace Go.Proofs.Ytgkakddldobpkaa
open Go.RowKit Go.Mv Mvp
attribute [local irreducible] permS permP toB turnsK squeeze permN permB spongeB

theorem ofNat_int (k : Nat) : ((UInt8.ofNat k).toNat : Int) = ((k % 256 : Nat) : Int) := by simp
theorem lenB_0 (n : Nat) (h : n ≤ 1000000) : Value.int .u8 ((n : Int) / 16777216) = .int .u8 ((UInt8.ofNat (n / 16777216)).toNat : Int) := by
  rw [ofNat_int]; congr 1; omega
theorem lenB_1 (n : Nat) (h : n ≤ 1000000) : Value.int .u8 ((n : Int) / 65536) = .int .u8 ((UInt8.ofNat (n / 65536)).toNat : Int) := by
  rw [ofNat_int]; congr 1; omega
theorem lenB_2 (n : Nat) : Value.int .u8 ((n : Int) / 256 % 256) = .int .u8 ((UInt8.ofNat (n / 256)).toNat : Int) := by
  rw [ofNat_int]; rfl
theorem lenB_3 (n : Nat) : Value.int .u8 ((n : Int) % 256) = .int .u8 ((UInt8.ofNat n).toNat : Int) := by
  rw [ofNat_int]; rfl
theorem lenB_len (n : Nat) : (lenB n).length = 4 := rfl

set_option maxHeartbeats 2000000 in
set_option maxRecDepth 1000000 in
theorem frame_any (g : Nat) (st : List UInt64 × Nat) (b : Option Addr) (n c : Nat) (l : List UInt8) (w : World) (hS : st.1.length = 25) (hat : st.2 < 136) (hn : n ≤ 1000000) (hnc : n ≤ c) (hg : Has w g (abs st) 95) (hb : RdB w b n l) (hbg : Off (One g) b) :
    Calls Try.prog 85 #[.pointer (some ⟨g, 0, none⟩), .slice b n c] w fun e w' => e = .returned (.tuple #[]) ∧ Has w' g (abs (feed st (frameL l))) 95 ∧ Fr (One g) w w' := by
  go_enter Try.func85, Try.ntmps85
  go_wp2_with (with_reducible refine wl_stop (o := ⟨some 19, _, _, _, _, _⟩) ?_)
  refine wl_four rfl rfl Try.underlying22 info_u8 _ _ _ _ (lenB_0 n hn) (lenB_1 n hn) (lenB_2 n) (lenB_3 n) ?_
  intro w1 hh1 hf1 hz1
  have hh1' : Has w1 w.heap.size (bs (lenB n)) 5 := hh1
  have hg1 := hg.keep hf1 id
  have hb1 := hb.still hf1
  have hgl := hg.lt
  generalize w.heap.size = g4 at *
  clear hg hb hh1
  have hrd : RdB w1 (some ⟨g4, 0, none⟩) 4 (lenB n) := by
    have := Rd.whole hh1'
    rwa [length_bs, lenB_len] at this
  go_wp2_with fail
  refine (write_any g st _ 4 4 (lenB n) w1 hS hat (by omega) (by omega) hg1 hrd (fun x hx (e : x.block = g) => by simp only [Option.some.injEq] at hx; subst hx; simp at e; omega)).mono ?_
  rintro e w2 ⟨rfl, hg2, hf2⟩
  have hb2 := hb1.keep hf2 hbg
  have hfr2 : Fr (One g) w w2 := ((Fr.refl (One g) w).same hf1).trans hf2 (fun _ _ t => t)
  clear hf1 hz1 hh1' hg1 hb1 hrd hf2
  go_wp2_with fail
  refine (write_any g (feed st (lenB n)) b n c l w2 (by rw [feed_len, hS]) (feed_lt _ _ hat) hn hnc hg2 hb2 hbg).mono ?_
  rintro e w3 ⟨rfl, hg3, hf3⟩
  go_wp2_with fail
  go_end0
  rw [← feed_append, ← hb2.len] at hg3
  exact ⟨rfl, hg3, hfr2.trans hf3 (fun _ _ t => t)⟩

set_option maxHeartbeats 2000000 in
set_option maxRecDepth 1000000 in
theorem frameR_any (s : ByteArray) (w : World) (hs : s.size ≤ 1000000) :
    Calls Try.prog 54 #[.string s] w fun r w' => r = .returned (.string (mkS (frameL s.data.toList))) ∧ Fr Nob w w' := by
  go_enter Try.func54, Try.ntmps54
  go_wp2_with (with_reducible refine wl_stop (o := ⟨some 17, _, _, _, _, _⟩) ?_)
  refine wl_four rfl rfl Try.underlying22 info_u8 _ _ _ _ (lenB_0 s.size hs) (lenB_1 s.size hs) (lenB_2 s.size) (lenB_3 s.size) ?_
  intro w1 hh1 hf1 hz1
  have hrd : RdB w1 (some ⟨w.heap.size, 0, none⟩) 4 (lenB s.size) := Rd.whole hh1
  have e1 := run_string hrd 4 Try.underlying22 Try.underlying5 Try.underlying9
  have hcat : ¬ 9223372036854775807 < (mkS (lenB s.size)).size + s.size := by rw [mkS_size, lenB_len]; omega
  go_wp2_with fail
  go_ret
  refine ⟨?_, hf1⟩
  have : mkS (lenB s.size) ++ s = mkS (frameL s.data.toList) := by
    rw [frameL, ← mkS_append, mkS_data]; rfl
  exact congrArg (fun q => Ending.returned (.string q)) this
end Go.Proofs.Ytgkakddldobpkaa
