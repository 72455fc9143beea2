/- The law NumLists; From a walk that turns nothing (Fr Nob) to what a law's row asks behind the call. -/
import Derived.Test.YtmegaegedlbckaaMgNumListsProof16
import Derived.Test.YtmegaegedlbckaaMgNumListsProof17
import Derived.Test.YtmegaegedlbckaaMgNumListsProof1
import Derived.ProofKit
import Derived.OpenShut
import Derived.Carry
namespace Mvp
def S64 (ls : List (List UInt8)) : Prop := ∀ x ∈ ls, x.length ≤ 64
theorem S64.snoc {ls : List (List UInt8)} {x : List UInt8} (h : S64 ls) (hx : x.length ≤ 64) : S64 (ls ++ [x]) := by
  intro y hy
  rcases List.mem_append.1 hy with h1 | h1
  · exact h y h1
  · simp only [List.mem_singleton] at h1; subst h1; exact hx
end Mvp
namespace Go.Proofs.Ytmegaegedlbckaa
open Go.RowKit Go.Mv Mvp
/-- what Powers answers -/
def PowAns (w : World) (base : Nat) (m : Md) (l : List UInt8) (n : Int) (v : Value) (e : Int) : Prop :=
  (n < 0 ∧ v = .slice none 0 0 ∧ e = 1) ∨ (256 < n ∧ v = .slice none 0 0 ∧ e = 1) ∨ (∃ q : Nat, n = (q : Int) ∧ q ≤ 256 ∧ numB m l = false ∧ v = .slice none 0 0 ∧ e = 3) ∨
  (∃ q : Nat, n = (q : Int) ∧ q ≤ 256 ∧ numB m l = true ∧ e = 0 ∧ SOwn w base v (powsL m.M (beN l) q))
theorem PowAns.still {w w' : World} {base : Nat} {m : Md} {l : List UInt8} {n : Int} {v : Value} {e : Int} (h : PowAns w base m l n v e) (hf : Fr Nob w w') : PowAns w' base m l n v e := by
  rcases h with h | h | h | ⟨q, h1, h2, h3, h4, h5⟩
  · exact .inl h
  · exact .inr (.inl h)
  · exact .inr (.inr (.inl h))
  · exact .inr (.inr (.inr ⟨q, h1, h2, h3, h4, h5.still hf⟩))
theorem powsL_le (M x n : Nat) : ∀ y ∈ powsL M x n, y.length ≤ 32 := by
  induction n with
  | zero => simp [powsL]
  | succ n ih =>
    intro y hy
    rw [powsL] at hy
    rcases List.mem_append.1 hy with h | h
    · exact ih y h
    · simp only [List.mem_singleton] at h; subst h; rw [be32_len]; exact Nat.le_refl _
theorem PowAns.sown {w : World} {base : Nat} {m : Md} {l : List UInt8} {n : Int} {v : Value} {e : Int} (h : PowAns w base m l n v e) : ∃ ls, SOwn w base v ls ∧ ls.length ≤ 256 ∧ ∀ x ∈ ls, x.length ≤ 32 := by
  rcases h with ⟨-, rfl, -⟩ | ⟨-, rfl, -⟩ | ⟨q, -, -, -, rfl, -⟩ | ⟨q, h1, h2, h3, h4, h5⟩
  · exact ⟨[], SOwn.nil _ _, by simp, by simp⟩
  · exact ⟨[], SOwn.nil _ _, by simp, by simp⟩
  · exact ⟨[], SOwn.nil _ _, by simp, by simp⟩
  · exact ⟨_, h5, by rw [powsL_len]; exact h2, powsL_le _ _ _⟩
theorem numsB_one (m : Md) (l : List UInt8) : numsB m [l] = numB m l := by
  unfold numsB; simp only [List.all_cons, List.all_nil, Bool.and_true]
theorem NPowers_all (k : Int) (m : Md) (hk : KindOf k m) (va : Value) (la : List UInt8) (n : Int) (w : World) (hpa : BPart w va la) :
    Calls Try.prog 20 #[.int .i64 k, va, .int .i64 n] w fun e w' => ∃ v c, e = .returned (.tuple #[v, .int .i64 c]) ∧ PowAns w' w.heap.size m la n v c ∧ Fr Nob w w' := by
  by_cases h1 : n < 0
  · exact (NPowers_neg k m hk va n w h1).mono fun e w' h => ⟨_, _, h.1, .inl ⟨h1, rfl, rfl⟩, h.2⟩
  by_cases h2 : 256 < n
  · exact (NPowers_long k m hk va n w h2).mono fun e w' h => ⟨_, _, h.1, .inr (.inl ⟨h2, rfl, rfl⟩), h.2⟩
  obtain ⟨q, rfl⟩ : ∃ q : Nat, n = (q : Int) := ⟨n.toNat, by omega⟩
  cases hg : numB m la
  · exact (NPowers_bad k m hk va la q w hpa (by omega) (by rw [numsB_one, hg])).mono fun e w' h => ⟨_, _, h.1, .inr (.inr (.inl ⟨q, rfl, by omega, hg, rfl, rfl⟩)), h.2⟩
  · refine (NPowers_ok k m hk va la q w hpa (by omega) (by rw [numsB_one, hg])).mono fun e w' h => ?_
    obtain ⟨v, h1, h2, h3⟩ := h
    exact ⟨v, 0, h1, .inr (.inr (.inr ⟨q, rfl, by omega, hg, rfl, h2⟩)), h3⟩
theorem POwn.bparts {w : World} {base : Nat} : ∀ {vs : List Value} {ls : List (List UInt8)}, POwn w base vs ls → BParts w vs ls := by
  intro vs ls h
  refine ⟨h.len, fun i v hv => ?_⟩
  obtain ⟨l, hl, ho⟩ := h.get i v hv
  obtain ⟨a, c, rfl, hc, hr, -⟩ := ho.form
  rw [Nat.mul_one] at hr
  rw [List.getD_eq_getElem?_getD, hl]
  exact ⟨a, _, c, rfl, hc, hr⟩
theorem SOwn.bparts {w : World} {base : Nat} {v : Value} {ls : List (List UInt8)} (h : SOwn w base v ls) : ∃ a c vs, v = .slice a ls.length c ∧ Rd w a ls.length vs ∧ BParts w vs ls := by
  obtain ⟨vs, h1, h2, h3⟩ := h
  obtain ⟨a, c, rfl, hc, hr, -⟩ := h1.form
  rw [Nat.mul_one] at hr
  exact ⟨a, c, vs, rfl, hr, h2.bparts⟩
theorem lpow_all (m : Md) (hok : m.Ok) (s : ByteArray) (n : Int) (v : Value) (c : Int) (base : Nat) (w : World) (h : PowAns w base m s.data.toList n v c) :
    Calls Try.prog 22 #[fv m.M, .string s, .int .i64 n, v, .int .i64 c] w fun e w' => e = .returned (.bool true) ∧ Fr Nob w w' := by
  rcases h with ⟨h1, rfl, rfl⟩ | ⟨h1, rfl, rfl⟩ | ⟨q, rfl, hq, hg, rfl, rfl⟩ | ⟨q, rfl, hq, hg, rfl, hs⟩
  · cases hg : numB m s.data.toList
    · exact lpow_neg_f m hok s n w hg h1
    · exact lpow_neg_t m hok s n w hg h1
  · cases hg : numB m s.data.toList
    · exact lpow_long_f m hok s n w hg h1
    · exact lpow_long_t m hok s n w hg h1
  · exact lpow_bad m hok s q w hg hq
  · obtain ⟨a, cc, vs, rfl, hr, hb⟩ := hs.bparts
    rw [powsL_len] at hr ⊢
    exact lpow_ok m hok s q w hg hq a cc vs hr hb
/-- what Dot answers -/
def DotAns (w : World) (m : Md) (la lb : List (List UInt8)) (v : Value) (e : Int) : Prop :=
  (256 < la.length ∧ v = .slice none 0 0 ∧ e = 1) ∨ (la.length ≤ 256 ∧ 256 < lb.length ∧ v = .slice none 0 0 ∧ e = 1) ∨
  (la.length ≤ 256 ∧ lb.length ≤ 256 ∧ (numsB m la && numsB m lb) = false ∧ v = .slice none 0 0 ∧ e = 3) ∨
  (la.length ≤ 256 ∧ lb.length ≤ 256 ∧ numsB m la = true ∧ numsB m lb = true ∧ la.length ≠ lb.length ∧ v = .slice none 0 0 ∧ e = 2) ∨
  (la.length ≤ 256 ∧ lb.length = la.length ∧ numsB m la = true ∧ numsB m lb = true ∧ e = 0 ∧ ∃ a c, v = .slice a 32 c ∧ RdB w a 32 (be32 (dotN la lb la.length % m.M)))
theorem DotAns.still {w w' : World} {m : Md} {la lb : List (List UInt8)} {v : Value} {e : Int} (h : DotAns w m la lb v e) (hf : Fr Nob w w') : DotAns w' m la lb v e := by
  rcases h with h | h | h | h | ⟨h1, h2, h3, h4, h5, a, c, h6, h7⟩
  · exact .inl h
  · exact .inr (.inl h)
  · exact .inr (.inr (.inl h))
  · exact .inr (.inr (.inr (.inl h)))
  · exact .inr (.inr (.inr (.inr ⟨h1, h2, h3, h4, h5, a, c, h6, h7.still hf⟩)))
theorem NDot_all (k : Int) (m : Md) (hk : KindOf k m) (al : Option Addr) (ca : Nat) (vs : List Value) (la : List (List UInt8)) (bl : Option Addr) (cb : Nat) (us : List Value) (lb : List (List UInt8)) (w : World) (hva : Rd w al la.length vs) (hpa : BParts w vs la) (hvb : Rd w bl lb.length us) (hpb : BParts w us lb) :
    Calls Try.prog 21 #[.int .i64 k, .slice al la.length ca, .slice bl lb.length cb] w fun e w' => ∃ v c, e = .returned (.tuple #[v, .int .i64 c]) ∧ DotAns w' m la lb v c ∧ Fr Nob w w' := by
  by_cases h1 : 256 < la.length
  · exact (NDot_longA k al _ ca bl _ cb w m hk h1).mono fun e w' h => ⟨_, _, h.1, .inl ⟨h1, rfl, rfl⟩, h.2⟩
  by_cases h2 : 256 < lb.length
  · exact (NDot_longB k al _ ca bl _ cb w m hk (by omega) h2).mono fun e w' h => ⟨_, _, h.1, .inr (.inl ⟨by omega, h2, rfl, rfl⟩), h.2⟩
  cases ga : numsB m la <;> cases gb : numsB m lb
  · exact (NDot_badff k al _ ca vs la bl _ cb us lb w m hk hva hpa hvb hpb rfl rfl (by omega) (by omega) ga gb).mono fun e w' h => ⟨_, _, h.1, .inr (.inr (.inl ⟨by omega, by omega, by rw [ga, gb]; rfl, rfl, rfl⟩)), h.2⟩
  · exact (NDot_badft k al _ ca vs la bl _ cb us lb w m hk hva hpa hvb hpb rfl rfl (by omega) (by omega) ga gb).mono fun e w' h => ⟨_, _, h.1, .inr (.inr (.inl ⟨by omega, by omega, by rw [ga, gb]; rfl, rfl, rfl⟩)), h.2⟩
  · exact (NDot_badtf k al _ ca vs la bl _ cb us lb w m hk hva hpa hvb hpb rfl rfl (by omega) (by omega) ga gb).mono fun e w' h => ⟨_, _, h.1, .inr (.inr (.inl ⟨by omega, by omega, by rw [ga, gb]; rfl, rfl, rfl⟩)), h.2⟩
  · by_cases hne : la.length = lb.length
    · refine (NDot_ok k al _ ca vs la bl _ cb us lb w m hk hva hpa hvb hpb rfl rfl (by omega) hne ga gb).mono fun e w' h => ?_
      obtain ⟨v, h3, h4, h5⟩ := h
      obtain ⟨a, c, rfl, hc, hr, -⟩ := h4.form
      rw [Nat.mul_one] at hr
      exact ⟨_, _, h3, .inr (.inr (.inr (.inr ⟨by omega, hne.symm, ga, gb, rfl, a, c, rfl, hr⟩))), h5⟩
    · exact (NDot_neq k al _ ca vs la bl _ cb us lb w m hk hva hpa hvb hpb rfl rfl (by omega) (by omega) hne ga gb).mono fun e w' h => ⟨_, _, h.1, .inr (.inr (.inr (.inl ⟨by omega, by omega, ga, gb, hne, rfl, rfl⟩))), h.2⟩
theorem ldot_all (m : Md) (hok : m.Ok) (aa : Option Addr) (ca : Nat) (la : List (List UInt8)) (bb : Option Addr) (cb : Nat) (lb : List (List UInt8)) (v : Value) (c : Int) (w : World) (hva : Rd w aa la.length (ss la)) (hvb : Rd w bb lb.length (ss lb)) (h : DotAns w m la lb v c) :
    Calls Try.prog 23 #[fv m.M, .slice aa la.length ca, .slice bb lb.length cb, v, .int .i64 c] w fun e w' => e = .returned (.bool true) ∧ Fr Nob w w' := by
  rcases h with ⟨h1, rfl, rfl⟩ | ⟨h1, h2, rfl, rfl⟩ | ⟨h1, h2, h3, rfl, rfl⟩ | ⟨h1, h2, h3, h4, h5, rfl, rfl⟩ | ⟨h1, h2, h3, h4, rfl, a, cc, rfl, hr⟩
  · exact ldot_longA m hok aa ca la bb cb lb w h1
  · exact ldot_longB m hok aa ca la bb cb lb w h1 h2
  · exact ldot_bad m hok aa ca la bb cb lb w hva hvb h1 h2 h3
  · exact ldot_neq m hok aa ca la bb cb lb w hva hvb h1 h2 h3 h4 h5
  · exact ldot_ok m hok aa ca la bb cb lb w hva hvb h1 h2 h3 h4 a cc hr
attribute [local irreducible] limbs lw mix cw cSub cAdd cMul foldC valFrom beN laid be32 powm montT mstep elN mdL lentL numB numsB elCells powsL dotN nthN S64 PowAns DotAns

set_option maxHeartbeats 16000000 in
set_option maxRecDepth 1000000 in
theorem law_NumLists_x (k : Int) (s : ByteArray) (n : Int) (aa : Option Addr) (ca : Nat) (la : List (List UInt8)) (bb : Option Addr) (cb : Nat) (lb : List (List UInt8)) (w : World) (h0 : (k == 0) = false) (h1 : (k == 1) = false) (hs : s.size ≤ 16384) (hn : la.length ≤ 300) (hm : lb.length ≤ 300) (hva : Rd w aa la.length (ss la)) (hvb : Rd w bb lb.length (ss lb)) :
    Calls Try.prog 5 #[.int .i64 k, .string s, .int .i64 n, .slice aa la.length ca, .slice bb lb.length cb] w fun e w' => e = .returned (.bool true) ∧ Fr Nob w w' := by
  have hgs : ¬ ((16384 : Int) < (s.size : Int)) := by omega
  have hga : ¬ ((300 : Int) < (la.length : Int)) := by omega
  have hgb : ¬ ((300 : Int) < (lb.length : Int)) := by omega
  have HS := Lib.hid hs
  have HVA := Lib.hid hva
  have HVB := Lib.hid hvb
  clear hs hva hvb
  have H0 := Lib.hid h0
  have H1 := Lib.hid h1
  clear h0 h1
  go_enter Try.func5, Try.ntmps5
  go_wp2_with fail
  go_loopw [13, 11] (fun i q wr => ∃ j : Nat, j ≤ la.length ∧ i = .int .i64 (j : Int) ∧ SOwn wr w.heap.size q (la.take j) ∧ S64 (la.take j) ∧ Fr Nob w wr) (fun i _ _ => (la.length - intOf i).toNat)
  case atStart => exact ⟨0, by omega, rfl, SOwn.nil _ _, by unfold S64; simp, Fr.refl _ _⟩
  case round =>
    obtain ⟨j, hj, rfl, hS, h64, hfj⟩ := hrel
    have HS64 := Lib.hid h64; clear h64
    by_cases hlt : j < la.length
    · have hltI : (j : Int) < (la.length : Int) := by omega
      obtain ⟨b, o, hab, -⟩ := (HVA.out).at (by omega)
      subst hab
      have hc := rd_cell (HVA.out.still hfj) j _ (ss_get la j hlt)
      have htk : la.take (j + 1) = la.take j ++ [la.getD j []] := by
        rw [List.take_succ_eq_append_getElem hlt]; simp [List.getD_eq_getElem?_getD, hlt]
      have HTK := Lib.hid htk; clear htk
      generalize hq : la.getD j [] = x at *
      have HQ := Lib.hid hq; clear hq
      have hxz := mkS_size x
      by_cases hbig : 64 < x.length
      · have hbI : (64 : Int) < ((mkS x).size : Int) := by omega
        have HFJ := Lib.hid hfj
        clear hxz hfj hS
        go_wp2_with fail
        go_ret
        exact ⟨rfl, HFJ.out⟩
      have hbI : ¬ ((64 : Int) < ((mkS x).size : Int)) := by omega
      have HXL := Lib.hid (show x.length ≤ 64 by omega)
      obtain ⟨vs, hown, hpo, hsep⟩ := hS
      have hll : (la.take j).length = j := by rw [List.length_take]; omega
      have hown0 := hown
      rw [hll] at hown
      have HLL := Lib.hid hll; clear hll
      have hszz := hfj.size
      have HXZ := Lib.hid hxz; clear hxz
      go_wp2_with (with_reducible refine wl_stop (o := ⟨some 55, _, _, _, _, _⟩) ?_)
      refine wl_bytes (q := mkS x) rfl rfl Try.underlying9 Try.underlying29 Try.underlying5 rfl (by rw [mkS_size]; unfold maxLen; omega) wr.heap.size (Nat.le_refl _) ?_
      intro cap w11 hown1 hf1 hz1
      clear hz1
      rw [mkS_size, mkS_toList] at hown1
      rw [HXZ.out]
      have hfr1 := hfj.then hf1
      have hownq := hown.still hf1
      generalize hg0 : wr.heap.size = g0 at *
      go_wp2_with (with_reducible refine wl_stop (o := ⟨some 56, _, _, _, _, _⟩) ?_)
      refine wl_slit rfl rfl Try.underlying47 info_bsl [.slice (some ⟨g0, 0, none⟩) x.length cap] rfl (by simp; rfl) rfl rfl ?_
      intro w12 hh2 hf2 hz2
      clear hz2
      have hownq2 := hownq.still hf2
      have hfr2 := hfr1.then hf2
      clear hfr1 hownq
      generalize w11.heap.size = g1 at *
      have hsz2 := hfr2.size
      go_wp2_with (with_reducible refine wl_stop (o := ⟨some 57, _, _, _, _, _⟩) ?_)
      refine wl_append rfl rfl Try.underlying47 info_bsl rfl (by decide) hownq2 rfl rfl (Rd.whole hh2) (fun u hu => by simp only [List.mem_singleton] at hu; subst hu; rfl) (by unfold maxLen; omega) (by omega) hfr2.size ?_
      intro v3 w13 hown3 hf3 hb3
      clear hb3
      have hfr3 := hownq2.fr hfr2 (Nat.le_refl _) hf3
      have hfin : SOwn w13 w.heap.size v3 (la.take (j + 1)) := by
        rw [HTK.out]
        refine SOwn.snocF (w := wr) hown0 hpo hsep (by omega) (by rw [hg0]; exact hown1) hf1 hf2 (by rw [HLL.out]; exact hown3) hf3
      have h64' : S64 (la.take (j + 1)) := by rw [HTK.out]; exact HS64.out.snoc HXL.out
      have HFIN := Lib.hid hfin
      have H64 := Lib.hid h64'
      have HFR3 := Lib.hid hfr3
      clear hown hown0 hpo hsep hown1 hf1 hh2 hf2 hownq2 hfr2 hown3 hf3 hfin h64' hfr3 hfj hc hg0 hsz2 hszz
      go_wp2_with fail
      go_roundw
      case rel => exact ⟨j + 1, by omega, by go_num, HFIN.out, H64.out, HFR3.out⟩
      case measure => simp [intOf]; omega
    · have hge : ¬ ((j : Int) < (la.length : Int)) := by omega
      rw [List.take_of_length_le (by omega)] at hS HS64
      clear hlt
      have HA := Lib.hid hS
      have HF1 := Lib.hid hfj
      clear hS hfj HS64
      generalize wr = w1 at *
      go_wp2
      clear hge
      go_loopw [14, 12] (fun i q wr => ∃ j : Nat, j ≤ lb.length ∧ i = .int .i64 (j : Int) ∧ SOwn wr w1.heap.size q (lb.take j) ∧ S64 (lb.take j) ∧ Fr Nob w1 wr) (fun i _ _ => (lb.length - intOf i).toNat)
      case atStart => exact ⟨0, by omega, rfl, SOwn.nil _ _, by unfold S64; simp, Fr.refl _ _⟩
      case round =>
        obtain ⟨j, hj, rfl, hS, h64, hfj⟩ := hrel
        have HS64 := Lib.hid h64; clear h64
        by_cases hlt : j < lb.length
        · have hltI : (j : Int) < (lb.length : Int) := by omega
          obtain ⟨b, o, hab, -⟩ := (HVB.out).at (by omega)
          subst hab
          have hc := rd_cell (HVB.out.still (HF1.out.then hfj)) j _ (ss_get lb j hlt)
          have htk : lb.take (j + 1) = lb.take j ++ [lb.getD j []] := by
            rw [List.take_succ_eq_append_getElem hlt]; simp [List.getD_eq_getElem?_getD, hlt]
          have HTK := Lib.hid htk; clear htk
          generalize hq : lb.getD j [] = x at *
          have HQ := Lib.hid hq; clear hq
          have hxz := mkS_size x
          by_cases hbig : 64 < x.length
          · have hbI : (64 : Int) < ((mkS x).size : Int) := by omega
            have HFJ := Lib.hid (HF1.out.then hfj)
            clear hxz hfj hS
            go_wp2_with fail
            go_ret
            exact ⟨rfl, HFJ.out⟩
          have hbI : ¬ ((64 : Int) < ((mkS x).size : Int)) := by omega
          have HXL := Lib.hid (show x.length ≤ 64 by omega)
          obtain ⟨vs, hown, hpo, hsep⟩ := hS
          have hll : (lb.take j).length = j := by rw [List.length_take]; omega
          have hown0 := hown
          rw [hll] at hown
          have HLL := Lib.hid hll; clear hll
          have hszz := hfj.size
          have HXZ := Lib.hid hxz; clear hxz
          go_wp2_with (with_reducible refine wl_stop (o := ⟨some 75, _, _, _, _, _⟩) ?_)
          refine wl_bytes (q := mkS x) rfl rfl Try.underlying9 Try.underlying29 Try.underlying5 rfl (by rw [mkS_size]; unfold maxLen; omega) wr.heap.size (Nat.le_refl _) ?_
          intro cap w11 hown1 hf1 hz1
          clear hz1
          rw [mkS_size, mkS_toList] at hown1
          rw [HXZ.out]
          have hfr1 := hfj.then hf1
          have hownq := hown.still hf1
          generalize hg0 : wr.heap.size = g0 at *
          go_wp2_with (with_reducible refine wl_stop (o := ⟨some 76, _, _, _, _, _⟩) ?_)
          refine wl_slit rfl rfl Try.underlying47 info_bsl [.slice (some ⟨g0, 0, none⟩) x.length cap] rfl (by simp; rfl) rfl rfl ?_
          intro w12 hh2 hf2 hz2
          clear hz2
          have hownq2 := hownq.still hf2
          have hfr2 := hfr1.then hf2
          clear hfr1 hownq
          generalize w11.heap.size = g1 at *
          have hsz2 := hfr2.size
          go_wp2_with (with_reducible refine wl_stop (o := ⟨some 77, _, _, _, _, _⟩) ?_)
          refine wl_append rfl rfl Try.underlying47 info_bsl rfl (by decide) hownq2 rfl rfl (Rd.whole hh2) (fun u hu => by simp only [List.mem_singleton] at hu; subst hu; rfl) (by unfold maxLen; omega) (by omega) hfr2.size ?_
          intro v3 w13 hown3 hf3 hb3
          clear hb3
          have hfr3 := hownq2.fr hfr2 (Nat.le_refl _) hf3
          have hfin : SOwn w13 w1.heap.size v3 (lb.take (j + 1)) := by
            rw [HTK.out]
            refine SOwn.snocF (w := wr) hown0 hpo hsep (by omega) (by rw [hg0]; exact hown1) hf1 hf2 (by rw [HLL.out]; exact hown3) hf3
          have h64' : S64 (lb.take (j + 1)) := by rw [HTK.out]; exact HS64.out.snoc HXL.out
          have HFIN := Lib.hid hfin
          have H64 := Lib.hid h64'
          have HFR3 := Lib.hid hfr3
          clear hown hown0 hpo hsep hown1 hf1 hh2 hf2 hownq2 hfr2 hown3 hf3 hfin h64' hfr3 hfj hc hg0 hsz2 hszz
          go_wp2_with fail
          go_roundw
          case rel => exact ⟨j + 1, by omega, by go_num, HFIN.out, H64.out, HFR3.out⟩
          case measure => simp [intOf]; omega
        · have hge : ¬ ((j : Int) < (lb.length : Int)) := by omega
          rw [List.take_of_length_le (by omega)] at hS HS64
          clear hlt
          have HB := Lib.hid hS
          have HAX := Lib.hid (HA.out.still hfj)
          have HFX := Lib.hid (HF1.out.then hfj)
          clear hS hfj HA HF1
          go_wp2_with (with_reducible refine wl_stop (o := ⟨some 82, _, _, _, _, _⟩) ?_)
          refine wl_bytes (q := s) rfl rfl Try.underlying9 Try.underlying29 Try.underlying5 rfl (by have := HS.out; unfold maxLen; omega) wr.heap.size (Nat.le_refl _) ?_
          intro cap w3 hown3 hf3 hz3
          clear hz3
          have HPA : Hid (BPart w3 (.slice (some ⟨wr.heap.size, 0, none⟩) s.size cap) s.data.toList) := Lib.hid (by
            obtain ⟨a, c, e, hc, hr, -⟩ := hown3.form
            exact ⟨a, s.size, c, e, by omega, by rw [Nat.mul_one] at hr; exact hr⟩)
          have HF3 := Lib.hid (HFX.out.then hf3)
          have HA3 := Lib.hid (HAX.out.still hf3)
          have HB3 := Lib.hid (HB.out.still hf3)
          clear hown3 hf3 HFX HAX HB
          generalize wr.heap.size = gi at *
          obtain ⟨aq, cq, vq, haq, hrq, hbq⟩ := HA3.out.bparts
          obtain ⟨bq, dq, uq, hbq', hrq', hbq2⟩ := HB3.out.bparts
          subst haq hbq'
          have HRQ := Lib.hid hrq
          have HBQ := Lib.hid hbq
          have HRU := Lib.hid hrq'
          have HBU := Lib.hid hbq2
          clear hrq hbq hrq' hbq2
          go_wp2_with fail
          refine (NPowers_x k _ _ _ H0.out H1.out).mono ?_
          rintro e w4 ⟨rfl, hw4⟩
          cases hw4
          go_wp2_with fail
          refine (NDot_x k _ _ _ H0.out H1.out).mono ?_
          rintro e w5 ⟨rfl, hw5⟩
          cases hw5
          go_wp2_with fail
          refine (Known_x k _ H0.out H1.out).mono ?_
          rintro e w6 ⟨rfl, hw6⟩
          cases hw6
          go_wp2_with fail
          go_ret
          exact ⟨rfl, HF3.out⟩

set_option maxHeartbeats 16000000 in
set_option maxRecDepth 1000000 in
theorem law_NumLists_k (k : Int) (s : ByteArray) (n : Int) (aa : Option Addr) (ca : Nat) (la : List (List UInt8)) (bb : Option Addr) (cb : Nat) (lb : List (List UInt8)) (w : World) (m : Md) (hk : KindOf k m) (hs : s.size ≤ 16384) (hn : la.length ≤ 300) (hm : lb.length ≤ 300) (hva : Rd w aa la.length (ss la)) (hvb : Rd w bb lb.length (ss lb)) :
    Calls Try.prog 5 #[.int .i64 k, .string s, .int .i64 n, .slice aa la.length ca, .slice bb lb.length cb] w fun e w' => e = .returned (.bool true) ∧ Fr Nob w w' := by
  have hgs : ¬ ((16384 : Int) < (s.size : Int)) := by omega
  have hga : ¬ ((300 : Int) < (la.length : Int)) := by omega
  have hgb : ¬ ((300 : Int) < (lb.length : Int)) := by omega
  have HS := Lib.hid hs
  have HVA := Lib.hid hva
  have HVB := Lib.hid hvb
  clear hs hva hvb
  have HK := Lib.hid hk
  clear hk
  go_enter Try.func5, Try.ntmps5
  go_wp2_with fail
  go_loopw [13, 11] (fun i q wr => ∃ j : Nat, j ≤ la.length ∧ i = .int .i64 (j : Int) ∧ SOwn wr w.heap.size q (la.take j) ∧ S64 (la.take j) ∧ Fr Nob w wr) (fun i _ _ => (la.length - intOf i).toNat)
  case atStart => exact ⟨0, by omega, rfl, SOwn.nil _ _, by unfold S64; simp, Fr.refl _ _⟩
  case round =>
    obtain ⟨j, hj, rfl, hS, h64, hfj⟩ := hrel
    have HS64 := Lib.hid h64; clear h64
    by_cases hlt : j < la.length
    · have hltI : (j : Int) < (la.length : Int) := by omega
      obtain ⟨b, o, hab, -⟩ := (HVA.out).at (by omega)
      subst hab
      have hc := rd_cell (HVA.out.still hfj) j _ (ss_get la j hlt)
      have htk : la.take (j + 1) = la.take j ++ [la.getD j []] := by
        rw [List.take_succ_eq_append_getElem hlt]; simp [List.getD_eq_getElem?_getD, hlt]
      have HTK := Lib.hid htk; clear htk
      generalize hq : la.getD j [] = x at *
      have HQ := Lib.hid hq; clear hq
      have hxz := mkS_size x
      by_cases hbig : 64 < x.length
      · have hbI : (64 : Int) < ((mkS x).size : Int) := by omega
        have HFJ := Lib.hid hfj
        clear hxz hfj hS
        go_wp2_with fail
        go_ret
        exact ⟨rfl, HFJ.out⟩
      have hbI : ¬ ((64 : Int) < ((mkS x).size : Int)) := by omega
      have HXL := Lib.hid (show x.length ≤ 64 by omega)
      obtain ⟨vs, hown, hpo, hsep⟩ := hS
      have hll : (la.take j).length = j := by rw [List.length_take]; omega
      have hown0 := hown
      rw [hll] at hown
      have HLL := Lib.hid hll; clear hll
      have hszz := hfj.size
      have HXZ := Lib.hid hxz; clear hxz
      go_wp2_with (with_reducible refine wl_stop (o := ⟨some 55, _, _, _, _, _⟩) ?_)
      refine wl_bytes (q := mkS x) rfl rfl Try.underlying9 Try.underlying29 Try.underlying5 rfl (by rw [mkS_size]; unfold maxLen; omega) wr.heap.size (Nat.le_refl _) ?_
      intro cap w11 hown1 hf1 hz1
      clear hz1
      rw [mkS_size, mkS_toList] at hown1
      rw [HXZ.out]
      have hfr1 := hfj.then hf1
      have hownq := hown.still hf1
      generalize hg0 : wr.heap.size = g0 at *
      go_wp2_with (with_reducible refine wl_stop (o := ⟨some 56, _, _, _, _, _⟩) ?_)
      refine wl_slit rfl rfl Try.underlying47 info_bsl [.slice (some ⟨g0, 0, none⟩) x.length cap] rfl (by simp; rfl) rfl rfl ?_
      intro w12 hh2 hf2 hz2
      clear hz2
      have hownq2 := hownq.still hf2
      have hfr2 := hfr1.then hf2
      clear hfr1 hownq
      generalize w11.heap.size = g1 at *
      have hsz2 := hfr2.size
      go_wp2_with (with_reducible refine wl_stop (o := ⟨some 57, _, _, _, _, _⟩) ?_)
      refine wl_append rfl rfl Try.underlying47 info_bsl rfl (by decide) hownq2 rfl rfl (Rd.whole hh2) (fun u hu => by simp only [List.mem_singleton] at hu; subst hu; rfl) (by unfold maxLen; omega) (by omega) hfr2.size ?_
      intro v3 w13 hown3 hf3 hb3
      clear hb3
      have hfr3 := hownq2.fr hfr2 (Nat.le_refl _) hf3
      have hfin : SOwn w13 w.heap.size v3 (la.take (j + 1)) := by
        rw [HTK.out]
        refine SOwn.snocF (w := wr) hown0 hpo hsep (by omega) (by rw [hg0]; exact hown1) hf1 hf2 (by rw [HLL.out]; exact hown3) hf3
      have h64' : S64 (la.take (j + 1)) := by rw [HTK.out]; exact HS64.out.snoc HXL.out
      have HFIN := Lib.hid hfin
      have H64 := Lib.hid h64'
      have HFR3 := Lib.hid hfr3
      clear hown hown0 hpo hsep hown1 hf1 hh2 hf2 hownq2 hfr2 hown3 hf3 hfin h64' hfr3 hfj hc hg0 hsz2 hszz
      go_wp2_with fail
      go_roundw
      case rel => exact ⟨j + 1, by omega, by go_num, HFIN.out, H64.out, HFR3.out⟩
      case measure => simp [intOf]; omega
    · have hge : ¬ ((j : Int) < (la.length : Int)) := by omega
      rw [List.take_of_length_le (by omega)] at hS HS64
      clear hlt
      have HA := Lib.hid hS
      have HF1 := Lib.hid hfj
      clear hS hfj HS64
      generalize wr = w1 at *
      go_wp2
      clear hge
      go_loopw [14, 12] (fun i q wr => ∃ j : Nat, j ≤ lb.length ∧ i = .int .i64 (j : Int) ∧ SOwn wr w1.heap.size q (lb.take j) ∧ S64 (lb.take j) ∧ Fr Nob w1 wr) (fun i _ _ => (lb.length - intOf i).toNat)
      case atStart => exact ⟨0, by omega, rfl, SOwn.nil _ _, by unfold S64; simp, Fr.refl _ _⟩
      case round =>
        obtain ⟨j, hj, rfl, hS, h64, hfj⟩ := hrel
        have HS64 := Lib.hid h64; clear h64
        by_cases hlt : j < lb.length
        · have hltI : (j : Int) < (lb.length : Int) := by omega
          obtain ⟨b, o, hab, -⟩ := (HVB.out).at (by omega)
          subst hab
          have hc := rd_cell (HVB.out.still (HF1.out.then hfj)) j _ (ss_get lb j hlt)
          have htk : lb.take (j + 1) = lb.take j ++ [lb.getD j []] := by
            rw [List.take_succ_eq_append_getElem hlt]; simp [List.getD_eq_getElem?_getD, hlt]
          have HTK := Lib.hid htk; clear htk
          generalize hq : lb.getD j [] = x at *
          have HQ := Lib.hid hq; clear hq
          have hxz := mkS_size x
          by_cases hbig : 64 < x.length
          · have hbI : (64 : Int) < ((mkS x).size : Int) := by omega
            have HFJ := Lib.hid (HF1.out.then hfj)
            clear hxz hfj hS
            go_wp2_with fail
            go_ret
            exact ⟨rfl, HFJ.out⟩
          have hbI : ¬ ((64 : Int) < ((mkS x).size : Int)) := by omega
          have HXL := Lib.hid (show x.length ≤ 64 by omega)
          obtain ⟨vs, hown, hpo, hsep⟩ := hS
          have hll : (lb.take j).length = j := by rw [List.length_take]; omega
          have hown0 := hown
          rw [hll] at hown
          have HLL := Lib.hid hll; clear hll
          have hszz := hfj.size
          have HXZ := Lib.hid hxz; clear hxz
          go_wp2_with (with_reducible refine wl_stop (o := ⟨some 75, _, _, _, _, _⟩) ?_)
          refine wl_bytes (q := mkS x) rfl rfl Try.underlying9 Try.underlying29 Try.underlying5 rfl (by rw [mkS_size]; unfold maxLen; omega) wr.heap.size (Nat.le_refl _) ?_
          intro cap w11 hown1 hf1 hz1
          clear hz1
          rw [mkS_size, mkS_toList] at hown1
          rw [HXZ.out]
          have hfr1 := hfj.then hf1
          have hownq := hown.still hf1
          generalize hg0 : wr.heap.size = g0 at *
          go_wp2_with (with_reducible refine wl_stop (o := ⟨some 76, _, _, _, _, _⟩) ?_)
          refine wl_slit rfl rfl Try.underlying47 info_bsl [.slice (some ⟨g0, 0, none⟩) x.length cap] rfl (by simp; rfl) rfl rfl ?_
          intro w12 hh2 hf2 hz2
          clear hz2
          have hownq2 := hownq.still hf2
          have hfr2 := hfr1.then hf2
          clear hfr1 hownq
          generalize w11.heap.size = g1 at *
          have hsz2 := hfr2.size
          go_wp2_with (with_reducible refine wl_stop (o := ⟨some 77, _, _, _, _, _⟩) ?_)
          refine wl_append rfl rfl Try.underlying47 info_bsl rfl (by decide) hownq2 rfl rfl (Rd.whole hh2) (fun u hu => by simp only [List.mem_singleton] at hu; subst hu; rfl) (by unfold maxLen; omega) (by omega) hfr2.size ?_
          intro v3 w13 hown3 hf3 hb3
          clear hb3
          have hfr3 := hownq2.fr hfr2 (Nat.le_refl _) hf3
          have hfin : SOwn w13 w1.heap.size v3 (lb.take (j + 1)) := by
            rw [HTK.out]
            refine SOwn.snocF (w := wr) hown0 hpo hsep (by omega) (by rw [hg0]; exact hown1) hf1 hf2 (by rw [HLL.out]; exact hown3) hf3
          have h64' : S64 (lb.take (j + 1)) := by rw [HTK.out]; exact HS64.out.snoc HXL.out
          have HFIN := Lib.hid hfin
          have H64 := Lib.hid h64'
          have HFR3 := Lib.hid hfr3
          clear hown hown0 hpo hsep hown1 hf1 hh2 hf2 hownq2 hfr2 hown3 hf3 hfin h64' hfr3 hfj hc hg0 hsz2 hszz
          go_wp2_with fail
          go_roundw
          case rel => exact ⟨j + 1, by omega, by go_num, HFIN.out, H64.out, HFR3.out⟩
          case measure => simp [intOf]; omega
        · have hge : ¬ ((j : Int) < (lb.length : Int)) := by omega
          rw [List.take_of_length_le (by omega)] at hS HS64
          clear hlt
          have HB := Lib.hid hS
          have HAX := Lib.hid (HA.out.still hfj)
          have HFX := Lib.hid (HF1.out.then hfj)
          clear hS hfj HA HF1
          go_wp2_with (with_reducible refine wl_stop (o := ⟨some 82, _, _, _, _, _⟩) ?_)
          refine wl_bytes (q := s) rfl rfl Try.underlying9 Try.underlying29 Try.underlying5 rfl (by have := HS.out; unfold maxLen; omega) wr.heap.size (Nat.le_refl _) ?_
          intro cap w3 hown3 hf3 hz3
          clear hz3
          have HPA : Hid (BPart w3 (.slice (some ⟨wr.heap.size, 0, none⟩) s.size cap) s.data.toList) := Lib.hid (by
            obtain ⟨a, c, e, hc, hr, -⟩ := hown3.form
            exact ⟨a, s.size, c, e, by omega, by rw [Nat.mul_one] at hr; exact hr⟩)
          have HF3 := Lib.hid (HFX.out.then hf3)
          have HA3 := Lib.hid (HAX.out.still hf3)
          have HB3 := Lib.hid (HB.out.still hf3)
          clear hown3 hf3 HFX HAX HB
          generalize wr.heap.size = gi at *
          obtain ⟨aq, cq, vq, haq, hrq, hbq⟩ := HA3.out.bparts
          obtain ⟨bq, dq, uq, hbq', hrq', hbq2⟩ := HB3.out.bparts
          subst haq hbq'
          have HRQ := Lib.hid hrq
          have HBQ := Lib.hid hbq
          have HRU := Lib.hid hrq'
          have HBU := Lib.hid hbq2
          clear hrq hbq hrq' hbq2
          go_wp2_with fail
          refine (NPowers_all k m HK.out _ s.data.toList n _ HPA.out).mono ?_
          rintro e w4 ⟨vp, cp, rfl, hpw, hf4⟩
          have HPW := Lib.hid hpw
          have HF4 := Lib.hid hf4
          clear hpw hf4 HPA
          go_wp2_with fail
          refine (NDot_all k m HK.out aq _ vq la bq _ uq lb _ (HRQ.out.still HF4.out) (HBQ.out.still HF4.out) (HRU.out.still HF4.out) (HBU.out.still HF4.out)).mono ?_
          rintro e w5 ⟨vd, cd, rfl, hdt, hf5⟩
          have HDT := Lib.hid hdt
          have HPW5 := Lib.hid (HPW.out.still hf5)
          have HF5 := Lib.hid ((HF3.out.then HF4.out).then hf5)
          have HG5 := Lib.hid (HF4.out.then hf5)
          clear hdt hf5 HF4 HPW HRQ HBQ HRU HBU
          go_wp2_with fail
          refine (Known_k HK.out _).mono ?_
          rintro e w6 ⟨rfl, hw6⟩
          cases hw6
          go_wp2_with fail
          refine (MakeK HK.out _).mono ?_
          rintro e w7 ⟨rfl, hf7⟩
          have st0 := St.start Nob w7
          have HF7 := Lib.hid hf7
          clear hf7
          go_wp2_with (with_reducible refine wl_stop (o := ⟨some 21, _, _, _, _, _⟩) ?_)
          refine wl_allocS st0 rfl rfl (z := .agg #[.int .u64 0, .int .u64 0, .int .u64 0, .int .u64 0, .int .u64 0, .int .u64 0, .int .u64 0, .int .u64 0]) (by kernel_rfl) (cw 8 0) (by rw [cw_zero]; rfl) ?_
          intro g21 w8 st1
          clear st0
          go_wp2_with (with_reducible refine wl_stop (o := ⟨none, _, _, _, _, _⟩) ?_)
          refine wl_storeS st1 0 rfl rfl rfl rfl rfl (by first | (simp only [cw_len]; done) | (simp only [List.length_append, cw_len]; done)) (by first | (rw [cw_len]; kernel_rfl) | (simp only [List.length_append, cw_len]; kernel_rfl)) (cw2_one _ _ _ _) ?_
          intro w9 st2
          clear st1
          have HF9 := Lib.hid ((HF5.out.then HF7.out).then st2.fr)
          have HPW9 := Lib.hid (HPW5.out.still (HF7.out.then st2.fr))
          have HDT9 := Lib.hid (HDT.out.still (HF7.out.then st2.fr))
          have HG9 := Lib.hid (HG5.out.then (HF7.out.then st2.fr))
          clear HF5 HPW5 HDT HF7 HG5
          go_wp2_with (with_reducible refine wl_stop (o := ⟨some 116, _, _, _, _, _⟩) ?_)
          refine wl_loadSt st2 0 rfl rfl rfl Try.underlying40 rfl rfl (by first | (rw [cw_len]; kernel_rfl) | (simp only [List.length_append, cw_len]; kernel_rfl)) ?_
          go_wp2_with fail
          refine (lpow_all m HK.out.ok s n vp cp _ _ HPW9.out).mono ?_
          rintro e w10 ⟨rfl, hf10⟩
          have st3 := st2.keep hf10
          have HF10 := Lib.hid (HF9.out.then hf10)
          have HG10 := Lib.hid (HG9.out.then hf10)
          have HPW10 := Lib.hid (HPW9.out.still hf10)
          have HDT10 := Lib.hid (HDT9.out.still hf10)
          clear hf10 st2 HF9 HPW9 HDT9 HG9
          go_wp2_with (with_reducible refine wl_stop (o := ⟨some 122, _, _, _, _, _⟩) ?_)
          refine wl_loadSt st3 0 rfl rfl rfl Try.underlying40 rfl rfl (by first | (rw [cw_len]; kernel_rfl) | (simp only [List.length_append, cw_len]; kernel_rfl)) ?_
          go_wp2_with fail
          refine (ldot_all m HK.out.ok aa ca la bb cb lb vd cd _ (HVA.out.still HF10.out) (HVB.out.still HF10.out) HDT10.out).mono ?_
          rintro e w11 ⟨rfl, hf11⟩
          have HF11 := Lib.hid (HF10.out.then hf11)
          have HG11 := Lib.hid (HG10.out.then hf11)
          have HPW11 := Lib.hid (HPW10.out.still hf11)
          clear hf11 st3 HF10 HPW10 HDT10 HG10
          obtain ⟨lp, hlp, hl256, hl32⟩ := HPW11.out.sown
          obtain ⟨vsp, hop, hpp, hsp⟩ := hlp
          have HOP := Lib.hid hop
          have HPP := Lib.hid hpp
          have HSP := Lib.hid hsp
          have HL := Lib.hid hl256
          have HL32 := Lib.hid hl32
          clear hop hpp hsp hl256 hl32
          go_wp2_with fail
          refine (apart_any vp _ _ vsp lp _ HOP.out HPP.out HSP.out (by have := HL.out; omega) (fun x hx => by have := HL32.out x hx; omega) HG11.out.size).mono ?_
          rintro e w12 ⟨rfl, hf12⟩
          have HFZ : Hid (Fr Nob w w12) := Lib.hid (HF11.out.trans hf12 (fun b hb hb' => by have h1 : w3.heap.size ≤ b := hb'; have h2 := HF3.out.size; omega))
          clear hf12
          go_wp2_with fail
          go_ret
          exact ⟨rfl, HFZ.out⟩

set_option maxHeartbeats 16000000 in
set_option maxRecDepth 1000000 in
theorem law_NumLists (k : Int) (s : ByteArray) (n : Int) (aa : Option Addr) (ca : Nat) (la : List (List UInt8)) (bb : Option Addr) (cb : Nat) (lb : List (List UInt8)) (w : World) (hva : Rd w aa la.length (ss la)) (hvb : Rd w bb lb.length (ss lb)) :
    Calls Try.prog 5 #[.int .i64 k, .string s, .int .i64 n, .slice aa la.length ca, .slice bb lb.length cb] w fun e w' => e = .returned (.bool true) ∧ Fr Nob w w' := by
  by_cases hs : 16384 < s.size
  · have hI : (16384 : Int) < (s.size : Int) := by omega
    clear hva hvb
    go_enter Try.func5, Try.ntmps5
    go_wp2
    go_ret
    exact ⟨rfl, Fr.refl _ _⟩
  by_cases h3 : 300 < la.length
  · have hI : ¬ ((16384 : Int) < (s.size : Int)) := by omega
    have hJ : (300 : Int) < (la.length : Int) := by omega
    clear hva hvb
    go_enter Try.func5, Try.ntmps5
    go_wp2
    go_ret
    exact ⟨rfl, Fr.refl _ _⟩
  by_cases h4 : 300 < lb.length
  · have hI : ¬ ((16384 : Int) < (s.size : Int)) := by omega
    have hJ : ¬ ((300 : Int) < (la.length : Int)) := by omega
    have hJ2 : (300 : Int) < (lb.length : Int) := by omega
    clear hva hvb
    go_enter Try.func5, Try.ntmps5
    go_wp2
    go_ret
    exact ⟨rfl, Fr.refl _ _⟩
  rcases kind_cases k with ⟨m, hk⟩ | ⟨h0, h1⟩
  · exact law_NumLists_k k s n aa ca la bb cb lb w m hk (by omega) (by omega) (by omega) hva hvb
  · exact law_NumLists_x k s n aa ca la bb cb lb w h0 h1 (by omega) (by omega) (by omega) hva hvb
end Go.Proofs.Ytmegaegedlbckaa

/- From a walk that turns nothing (Fr Nob) to what a law's row asks behind the call. -/
namespace Go.Mv
open Go.RowKit Go.ChangeShapes Go.WideShapes

/-- the arguments read behind the call as they read before -/
theorem Below.trodAll {H : Type} {enc : TypeId × Value → H} {P : Program} (hl : laidOutB P = true) {W W' : World} (hb : Below W.heap.size W W') :
    ∀ (ts : List TypeId) (vs : List Value) (ds : List (DataW H)) (ps : List MemPlace), (∀ t ∈ ts, P.readableRec t = true ∧ t < P.types.size) → DataW.TrodAll enc P W 0 (fun _ => true) true ts vs ds ps → (∀ x ∈ ps, x.block < W.heap.size) →
      DataW.TrodAll enc P W' 0 (fun b => decide (b < W.heap.size)) true ts vs ds ps
  | [], vs, ds, ps, _, h, _ => by
    obtain ⟨rfl, rfl, rfl⟩ := trodAll_nil h
    exact trodAll_mk0
  | t :: ts, vs, ds, ps, hr, h, hlt => by
    obtain ⟨v, vs', d, ds', p, q, rfl, rfl, rfl, h0, hs⟩ := trodAll_cons h
    have h1 := hr t (by simp)
    exact trodAll_cons_mk (Below.trod hl h1.1 h1.2 h0 hb (fun x hx => hlt x (by simp [hx]))) (Below.trodAll hl hb ts vs' ds' q (fun t ht => hr t (by simp [ht])) hs (fun x hx => hlt x (by simp [hx])))

/-- what a law's row asks behind the call -/
theorem law_post {H : Type} {enc : TypeId × Value → H} {P : Program} {f : Func} {s : ChangeSpec} {W W' : World} {args : Array Value} {ds gs : List (DataW H)} {before : List MemPlace}
    (hl : laidOutB P = true) (hr : ∀ t ∈ f.params.toList, P.readableRec t = true ∧ t < P.types.size) (hW : DataW.Whole enc P f.params.toList s.vars false W args.toList ds gs before)
    (hv : s.vars = []) (hres : (s.fn H (ds ++ gs)).results = [.lit (.bool true)]) (harg : (s.fn H (ds ++ gs)).args = ds) (hvar : (s.fn H (ds ++ gs)).vars = [])
    {tb : TypeId} (hrt : f.resultTypes = #[tb]) (hu : P.underlying tb = some .bool) (hf : Fr Nob W W') :
    s.post enc P f false true false false W args (.bool true) W' := by
  have hW' := hW
  obtain ⟨p, q, hA, hV, rfl, hfz, hnd⟩ := hW
  rw [hv] at hV
  obtain ⟨rfl, rfl⟩ := trodVars_none hV
  have hlt : ∀ x ∈ p ++ [], x.block < W.heap.size := fun x hx => hW'.lt x hx
  refine ⟨ds, [], p ++ [], [], p, [], hW', ?_, ?_, ?_, World.keptBut_mono (fun x hx => ⟨hx, ?_⟩) (hf.below.frame (· ∈ p ++ [])), fun h => by cases h⟩
  · rw [hres, hrt]
    exact trodAll_mk1 (shut_bool hu true)
  · rw [harg]
    exact Below.trodAll hl hf.below _ _ _ _ hr hA (fun x hx => hlt x (by simp [hx]))
  · rw [hvar, hv]; exact rfl
  · simp only [List.append_nil] at hx
    exact .inr (.inl hx)
end Go.Mv
