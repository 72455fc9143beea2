/- Points and their bytes, plain; A program's points as values: what the curve's functions answer; group: k256; group: multiples of a point; group: digit, sum, times; group: times, bytes; group: bytes; A plan for a region whose operations have guards. -/
import Derived.Test.YtemcankmggmgoaaDoorMgKeysTrueProof5
import Derived.Test.YtemcankmggmgoaaDoorMgKeysTrueProof1
import Derived.Test.YtemcankmggmgoaaDoorMgKeysTrueProof2
namespace Mvq
open Mvp
/-- a point's bytes -/
def wrPt : Pt → List UInt8
  | .O => List.replicate 33 0
  | .A x y => UInt8.ofNat (2 + y.val % 2) :: be32 x.val
theorem wrPt_len (p : Pt) : (wrPt p).length = 33 := by
  cases p
  · simp [wrPt]
  · simp [wrPt, be32_len]
/-- the number behind the first byte -/
def tlN (l : List UInt8) : Nat := beN (l.drop 1)
def crvN (n : Nat) : Nat := n * n * n + 7
/-- are bytes a point? -/
def rdOk (l : List UInt8) : Bool :=
  decide (l.length = 33) && (if l.getD 0 0 = 0 then tlN l == 0 else decide (l.getD 0 0 = 2 ∨ l.getD 0 0 = 3) && (decide (tlN l < fP) && rtOk fP (crvN (tlN l))))
/-- the point that bytes are -/
def rdPt (l : List UInt8) : Pt :=
  if l.getD 0 0 = 0 then .O else .A (kc (tlN l)) (if l.getD 0 0 = 3 then - kc (rtV fP (crvN (tlN l))) else kc (rtV fP (crvN (tlN l))))
theorem kc_sq_of {a x : Nat} (h : (a * a % fP == x % fP) = true) : kc a * kc a = kc x := by
  rw [kc_eq] at h
  rw [← kc_mul']; simpa using h
theorem rtV_sq {x : Nat} (h : rtOk fP x = true) : kc (rtV fP x) * kc (rtV fP x) = kc x := by
  unfold rtOk at h
  have h1 := kc_sq_of h
  unfold rtV
  split
  · rw [kc_negn, ← h1]; grind -lia -linarith
  · exact h1
theorem crvN_kc (n : Nat) : kc (crvN n) = kc n * kc n * kc n + 7 := by
  unfold crvN
  rw [kc_addn, kc_mul', kc_mul', show kc 7 = 7 by decide]
theorem at_on {n : Nat} (h : rtOk fP (crvN n) = true) : onC (.A (kc n) (kc (rtV fP (crvN n)))) := by
  show kc (rtV fP (crvN n)) * kc (rtV fP (crvN n)) = kc n * kc n * kc n + 7
  rw [rtV_sq h, crvN_kc]
theorem rd_on {l : List UInt8} (h : rdOk l = true) : onC (rdPt l) := by
  unfold rdOk at h
  unfold rdPt
  by_cases h0 : l.getD 0 0 = 0
  · rw [if_pos h0]; trivial
  · rw [if_neg h0]
    simp only [Bool.and_eq_true, decide_eq_true_eq, if_neg h0] at h
    obtain ⟨-, -, -, h4⟩ := h
    have := at_on h4
    by_cases h3 : l.getD 0 0 = 3
    · rw [if_pos h3]; exact pneg_on this
    · rw [if_neg h3]; exact this
theorem kc_val_mod (n : Nat) : (kc n).val = n % fP := by simp [kc, Fin.ofNat]
theorem beN_tail (n : Nat) (h : n < fP) : beN (be32 n) = n := by
  have h2 : fP < 256 ^ 32 := by decide
  exact beN_be32 n (Nat.lt_trans h h2)
theorem neg_val_par (y : K) (h : y ≠ 0) : (-y).val % 2 = (1 + y.val) % 2 := by
  have h0 : y.val ≠ 0 := fun e => h (Fin.ext e)
  have h1 : (-y).val = fP - y.val := by
    rw [Fin.val_neg]
    have hne : ¬ y = 0 := h
    simp [hne]
  have h2 : fP % 2 = 1 := by decide
  have h3 := y.isLt
  omega
theorem sq_same {a b : K} (h : a * a = b * b) : a = b ∨ a = -b := by
  have : (a - b) * (a + b) = 0 := by grind -lia -linarith
  rcases mul_zero' this with e | e
  · left; grind -lia -linarith
  · right; grind -lia -linarith
/-- what was written is read -/
theorem rd_wr {p : Pt} (h : onC p) : rdOk (wrPt p) = true ∧ rdPt (wrPt p) = p := by
  cases p with
  | O =>
    have : (wrPt .O) = List.replicate 33 0 := rfl
    rw [this]
    constructor
    · decide
    · unfold rdPt; rw [if_pos (by decide)]
  | A x y =>
    have hc : y * y = x * x * x + 7 := h
    have hy := y_ne hc
    have e0 : (wrPt (.A x y)).getD 0 0 = UInt8.ofNat (2 + y.val % 2) := rfl
    have e1 : tlN (wrPt (.A x y)) = x.val := by
      show beN (be32 x.val) = x.val
      exact beN_tail _ x.isLt
    have hl := wrPt_len (.A x y)
    have hk : kc (crvN x.val) = y * y := by rw [crvN_kc, kc_val, hc]
    have hr : rtOk fP (crvN x.val) = true := by
      have hh := root_sq (M := fP) (a := y.val) (by have := FP_P; rwa [pP_fP] at this) (by decide) y.isLt
      have e : kc (crvN x.val) = kc (y.val * y.val % fP) := by rw [kc_mod, kc_mul', kc_val, hk]
      have e2 : crvN x.val % fP = y.val * y.val % fP % fP := by
        have := kc_eq (crvN x.val) (y.val * y.val % fP)
        rw [e] at this
        simpa using this
      unfold rtOk rtN at *
      rw [Nat.mul_mod, Nat.pow_mod, e2, ← Nat.pow_mod, ← Nat.mul_mod]
      simpa using hh
    have hev : (kc (rtV fP (crvN x.val))).val % 2 = 0 := by
      rw [kc_val_mod]
      exact root_even (by have := FP_P; rwa [pP_fP] at this)
    have hv := rtV_sq hr
    rw [hk] at hv
    generalize hz : kc (rtV fP (crvN x.val)) = z at *
    unfold rdOk rdPt
    rw [hl, e1, e0, hr, hz]
    have hx := x.isLt
    have hcase : y.val % 2 = 0 ∨ y.val % 2 = 1 := by omega
    have hzy : z = (if y.val % 2 = 0 then y else -y) := by
      rcases sq_same hv with e | e
      · subst e; rw [if_pos hev]
      · have hp := neg_val_par y hy
        rw [← e] at hp
        rw [if_neg (by omega)]; exact e
    have hlt : decide (x.val < fP) = true := decide_eq_true hx
    rcases hcase with e | e
    · have hb : UInt8.ofNat (2 + y.val % 2) = 2 := by rw [e]; rfl
      rw [if_pos e] at hzy
      rw [hb, hzy, hlt]
      refine ⟨?_, ?_⟩
      · rw [if_neg (by decide)]; decide
      · rw [if_neg (by decide), if_neg (by decide), kc_val]
    · have hb : UInt8.ofNat (2 + y.val % 2) = 3 := by rw [e]; rfl
      rw [if_neg (by omega)] at hzy
      rw [hb, hzy, hlt]
      refine ⟨?_, ?_⟩
      · rw [if_neg (by decide)]; decide
      · have hn : - -y = y := by grind -lia -linarith
        rw [if_neg (by decide), if_pos rfl, kc_val, hn]
end Mvq

/- A program's points as values: what the curve's functions answer. -/
namespace Go.Proofs.YtemcankmggmgoaaDoor
open Go.RowKit Go.Mv Mvp Mvq
/-- the base's coordinates -/
def gXn : Nat := 0x79BE667EF9DCBBAC55A06295CE870B07029BFCDB2DCE28D959F2815B16F81798
def gYn : Nat := 0x483ADA7726A3C4655DA4FBFC0E1108A8FD17B448A68554199C47D08FFB10D4B8
/-- a point of the program's -/
structure PT where
  x : Nat
  y : Nat
  z : Nat
  on : onC (jN x y z)
def PT.pt (s : PT) : Pt := jN s.x s.y s.z
def PT.L (s : PT) : List Value := ptL mP s.x s.y s.z
theorem PT.len (s : PT) : s.L.length = 12 := ptL_len _ _ _ _
theorem PT.one (s : PT) : ∀ v ∈ s.L, v.oneCell' = true := pt_one _ _ _
theorem PT.onP (s : PT) : onC s.pt := s.on
/-- the curve lies at a place -/
def Cv (w : World) (gc : Nat) : Prop := ∃ gp, Has w gc (crvL mP gp gXn gYn) 57 ∧ Has w gp (mdL mP) 72
theorem Cv.keep {w w' : World} {gc : Nat} (h : Cv w gc) (hf : Fr Nob w w') : Cv w' gc := by
  obtain ⟨gp, h1, h2⟩ := h
  exact ⟨gp, h1.keep hf id, h2.keep hf id⟩
theorem dblT_ex (s : PT) : ∃ t : PT, t.pt = padd s.pt s.pt ∧ ∀ gc wx, Cv wx gc → Calls Tryd.prog 55 #[.pointer (some ⟨gc, 0, none⟩), (.agg s.L.toArray)] wx fun e w' => e = .returned (.agg t.L.toArray) ∧ Fr Nob wx w' := by
  obtain ⟨X, Y, Z, h1, h2⟩ := double_is s.x s.y s.z s.on
  refine ⟨⟨X, Y, Z, by rw [h1]; exact padd_on s.on s.on⟩, h1, ?_⟩
  rintro gc wx ⟨gp, a, b⟩
  exact h2 gc gp gXn gYn wx a b
theorem addT_ex (s t : PT) : ∃ r : PT, r.pt = padd s.pt t.pt ∧ ∀ gc wx, Cv wx gc → Calls Tryd.prog 56 #[.pointer (some ⟨gc, 0, none⟩), (.agg s.L.toArray), (.agg t.L.toArray)] wx fun e w' => e = .returned (.agg r.L.toArray) ∧ Fr Nob wx w' := by
  obtain ⟨X, Y, Z, h1, h2⟩ := plus_is s.x s.y s.z t.x t.y t.z s.on t.on
  refine ⟨⟨X, Y, Z, by rw [h1]; exact padd_on s.on t.on⟩, h1, ?_⟩
  rintro gc wx ⟨gp, a, b⟩
  exact h2 gc gp gXn gYn wx a b
noncomputable def dblT (s : PT) : PT := Classical.choose (dblT_ex s)
noncomputable def addT (s t : PT) : PT := Classical.choose (addT_ex s t)
theorem dblT_pt (s : PT) : (dblT s).pt = padd s.pt s.pt := (Classical.choose_spec (dblT_ex s)).1
theorem addT_pt (s t : PT) : (addT s t).pt = padd s.pt t.pt := (Classical.choose_spec (addT_ex s t)).1
theorem double_c (s : PT) (gc : Nat) (w : World) (h : Cv w gc) : Calls Tryd.prog 55 #[.pointer (some ⟨gc, 0, none⟩), (.agg s.L.toArray)] w fun e w' => e = .returned (.agg (dblT s).L.toArray) ∧ Fr Nob w w' :=
  (Classical.choose_spec (dblT_ex s)).2 gc w h
theorem plus_c (s t : PT) (gc : Nat) (w : World) (h : Cv w gc) : Calls Tryd.prog 56 #[.pointer (some ⟨gc, 0, none⟩), (.agg s.L.toArray), (.agg t.L.toArray)] w fun e w' => e = .returned (.agg (addT s t).L.toArray) ∧ Fr Nob w w' :=
  (Classical.choose_spec (addT_ex s t)).2 gc w h
theorem kc_one2 : kc 1 = 1 := by decide
def noT : PT := ⟨1, 1, 0, by unfold jN; rw [jk_z (by decide)]; trivial⟩
theorem noT_pt : noT.pt = .O := by show jN 1 1 0 = .O; unfold jN; rw [jk_z (by decide)]
theorem nothing_c (gc : Nat) (w : World) (h : Cv w gc) : Calls Tryd.prog 51 #[.pointer (some ⟨gc, 0, none⟩)] w fun e w' => e = .returned (.agg noT.L.toArray) ∧ Fr Nob w w' := by
  obtain ⟨gp, a, b⟩ := h
  exact nothing_any mP gc gp gXn gYn w mP_ok a b
/-- a point of a first and a second coordinate -/
theorem jN_one (x y : Nat) : jN x y 1 = .A (kc x) (kc y) := by
  unfold jN
  refine jk_is (by decide) ?_ ?_
  · rw [kc_one2]; grind -lia -linarith
  · rw [kc_one2]; grind -lia -linarith
def affT (x y : Nat) (h : onC (.A (kc x) (kc y))) : PT := ⟨x, y, 1, by rw [jN_one]; exact h⟩
theorem affT_pt (x y : Nat) (h : onC (.A (kc x) (kc y))) : (affT x y h).pt = .A (kc x) (kc y) := jN_one x y
theorem base_on : onC (.A (kc gXn) (kc gYn)) := by
  show kc gYn * kc gYn = kc gXn * kc gXn * kc gXn + 7
  decide
def baseT : PT := affT gXn gYn base_on
theorem baseT_pt : baseT.pt = .A (kc gXn) (kc gYn) := affT_pt _ _ _
/-- nothing, as the program asks -/
def PT.isO (s : PT) : Bool := s.z % mP.M == 0
theorem PT.isO_t {s : PT} (h : s.isO = true) : s.pt = .O := by
  have hz : kc s.z = 0 := by simpa using z_is _ mP_fP s.z _ h
  exact jk_z hz
theorem PT.isO_f {s : PT} (h : s.isO = false) : kc s.z ≠ 0 := by simpa using z_is _ mP_fP s.z _ h
end Go.Proofs.YtemcankmggmgoaaDoor

/- group: k256. -/
namespace Go.Mv
open Go.RowKit
section
variable {P : Program} {w w0 : World} {ops : Array Oper} {rest : List Oper} {o : Oper} {a : Act} {Q : Exit → Act → World → Prop} {S : Nat → Prop} {bl : List (Nat × List Value × TypeId)} {K : Act → World → Prop}
/-- a part of a block is stored -/
theorem wl_storeP (hst : St S w0 w bl) (i : Nat) {g : Nat} {L : List Value} {T : TypeId} (hb : bl[i]? = some (g, L, T)) {ty : TypeId} {x y : Operand} (hgd : o.guard = none) (ho : o.op = .store ty x y) {p : Nat} (hx : a.eval x = .pointer (some ⟨g, p, none⟩)) {cs : List Value} (hy : a.eval y = .agg cs.toArray)
    (L' : List Value) (hL : splice L p cs = L') (hn : p + cs.length ≤ L.length) (hi : (P.info? ty).map (·.size) = some cs.length) (h1 : ∀ v ∈ cs, v.oneCell' = true)
    (h : ∀ w', St S w0 w' (bl.set i (g, L', T)) → wpList P ops Q rest (a.put o.dst undef) w') : wpList P ops Q (o :: rest) a w :=
  wl_storeA hgd ho hx hy (hst.at i hb) hn hi h1 fun w' hg hf _ => h w' (hst.put i hb hf (by rwa [hL] at hg))
theorem wp_storeP (hst : St S w0 w bl) (i : Nat) {g : Nat} {L : List Value} {T : TypeId} (hb : bl[i]? = some (g, L, T)) {ty : TypeId} {x y : Operand} (ho : o.op = .store ty x y) {p : Nat} (hx : a.eval x = .pointer (some ⟨g, p, none⟩)) {cs : List Value} (hy : a.eval y = .agg cs.toArray)
    (L' : List Value) (hL : splice L p cs = L') (hn : p + cs.length ≤ L.length) (hi : (P.info? ty).map (·.size) = some cs.length) (h1 : ∀ v ∈ cs, v.oneCell' = true)
    (h : ∀ w', St S w0 w' (bl.set i (g, L', T)) → K (a.put o.dst undef) w') : o.wp P a w K Q := by
  obtain ⟨k1, k2, _⟩ := Has.setCells cs p L w (hst.at i hb) hn
  rw [hL] at k1
  exact wp_store_mid ty x y ho g p cs.toArray hx hy (by simpa using (hst.at i hb).there p cs.length hn) (by simpa using hi) (all_oneCell_toArray h1) (by simpa using h _ (hst.put i hb k2 k1))
theorem splice_end (A B C : List Value) (n : Nat) (hA : A.length = n) (hC : C.length = B.length) : splice (A ++ B) n C = A ++ C := by
  unfold splice
  subst hA
  rw [List.take_left, List.drop_append, List.drop_of_length_le (by omega), List.drop_of_length_le (by omega)]
  simp
theorem splice_mid (A B D C : List Value) (n : Nat) (hA : A.length = n) (hC : C.length = B.length) : splice (A ++ (B ++ D)) n C = A ++ (C ++ D) := by
  unfold splice
  subst hA
  rw [List.take_left, List.drop_append, List.drop_of_length_le (by omega), List.nil_append, show A.length + C.length - A.length = B.length by omega, List.drop_left]
end
end Go.Mv
namespace Go.Proofs.YtemcankmggmgoaaDoor
open Go.RowKit Go.Mv Mvp Mvq
set_option maxHeartbeats 2000000 in
set_option maxRecDepth 100000 in
theorem OfI (m : Md) (hk : KindOf 0 m) (w : World) : Calls Tryd.prog 30 #[.int .i64 0] w fun e w' => ∃ g, e = .returned (.tuple #[.pointer (some ⟨g, 0, none⟩), .bool true]) ∧ w.heap.size ≤ g ∧ Has w' g (mdL m) 72 ∧ Fr Nob w w' := by
  cases hk
  go_enter Tryd.func30, Tryd.ntmps30
  go_wp2
  go_ret2
  exact ⟨_, rfl, Nat.le_refl _, by rw [← cells_mP]; exact Has.new w _ _, (Fr.refl Nob w).alloc _⟩
theorem built_gX : Tryd.prog.built 42 [(0, .int .u64 6481385041966929816), (1, .int .u64 188021827762530521), (2, .int .u64 6170039885052185351), (3, .int .u64 8772561819708210092)] = some (cw 4 gXn).toArray := by kernel_rfl
theorem built_gY : Tryd.prog.built 42 [(0, .int .u64 11261198710074299576), (1, .int .u64 18237243440184513561), (2, .int .u64 6747795201694173352), (3, .int .u64 5204712524664259685)] = some (cw 4 gYn).toArray := by kernel_rfl
theorem gX_lt : gXn < B64 ^ 4 := by decide
theorem gY_lt : gYn < B64 ^ 4 := by decide
theorem built_crv (p : Option Addr) (a : Nat) : Tryd.prog.built 57 [(0, .pointer p), (1, i4 a)] = some ([Value.pointer p] ++ (cw 4 a ++ (cw 4 0 ++ (cw 4 0 ++ cw 4 0)))).toArray := by kernel_rfl
theorem crv_splice (p : Value) (a b c d : Nat) : splice ([p] ++ (cw 4 a ++ (cw 4 0 ++ (cw 4 0 ++ cw 4 0)))) 5 (cw 4 b ++ (cw 4 c ++ cw 4 d)) = [p] ++ (cw 4 a ++ (cw 4 b ++ (cw 4 c ++ cw 4 d))) := by
  have h := splice_end ([p] ++ cw 4 a) (cw 4 0 ++ (cw 4 0 ++ cw 4 0)) (cw 4 b ++ (cw 4 c ++ cw 4 d)) 5 (by rw [List.length_append, cw_len]; rfl) (by first | (simp only [cw_len]; done) | (simp only [List.length_append, cw_len]; done))
  rw [List.append_assoc, List.append_assoc] at h
  exact h
theorem crv_len (p : Value) (a b c d : Nat) : ([p] ++ (cw 4 a ++ (cw 4 b ++ (cw 4 c ++ cw 4 d)))).length = 17 := by simp only [List.length_append, cw_len]; rfl
attribute [local irreducible] limbs lw mix cw cSub cAdd cMul beN laid be32 montT mstep elN mdL numB rtN rtV rtOk gXn gYn
set_option maxHeartbeats 16000000 in
set_option maxRecDepth 1000000 in
theorem k256_any (m : Md) (hk : KindOf 0 m) (w : World) :
    Calls Tryd.prog 14 #[] w fun e w' => ∃ gc, e = .returned (.pointer (some ⟨gc, 0, none⟩)) ∧ w.heap.size ≤ gc ∧ (∃ gp, Has w' gc (crvL m gp gXn gYn) 57 ∧ Has w' gp (mdL m) 72) ∧ Fr Nob w w' := by
  have HK := Lib.hid hk
  have HOK := Lib.hid hk.ok
  have HGX := Lib.hid gX_lt
  have HGY := Lib.hid gY_lt
  clear hk
  have st0 := St.start Nob w
  go_enter Tryd.func14, Tryd.ntmps14
  go_wp2_with fail
  refine (OfI m HK.out _).mono ?_
  rintro e' w1 ⟨gp, rfl, hle, hm, hf1⟩
  have st1 : St Nob w w1 [(gp, mdL m, 72)] := st0.new hf1 hm hle
  clear st0 hf1 hm hle
  go_wp2_with fail
  refine (MSmall_any m gp _ HOK.out (st1.at 0 rfl) 7 (by decide)).mono ?_
  rintro e' w2 ⟨rfl, hf2⟩
  have st2 := st1.keep hf2
  clear st1 hf2
  go_wp2_with (with_reducible refine wl_stop (o := ⟨some 13, _, _, _, _, _⟩) ?_)
  refine wl_buildL rfl rfl _ (built_crv _ _) ?_
  go_wp2_with (with_reducible refine wl_stop (o := ⟨some 14, _, _, _, _, _⟩) ?_)
  refine wl_boxS st2 rfl rfl rfl ([Value.pointer (some ⟨gp, 0, none⟩)] ++ (cw 4 (elN m 7) ++ (cw 4 0 ++ (cw 4 0 ++ cw 4 0)))) rfl ?_
  intro gc w3 st3
  clear st2
  go_wp2_with (with_reducible refine wl_stop (o := ⟨some 16, _, _, _, _, _⟩) ?_)
  refine wl_buildL rfl rfl _ built_gX ?_
  go_wp2_with fail
  refine (MTo_any m gp _ HOK.out (st3.at 0 rfl) gXn HGX.out).mono ?_
  rintro e' w4 ⟨rfl, hf4⟩
  have st4 := st3.keep hf4
  clear st3 hf4
  go_wp2_with (with_reducible refine wl_stop (o := ⟨some 19, _, _, _, _, _⟩) ?_)
  refine wl_buildL rfl rfl _ built_gY ?_
  go_wp2_with fail
  refine (MTo_any m gp _ HOK.out (st4.at 0 rfl) gYn HGY.out).mono ?_
  rintro e' w5 ⟨rfl, hf5⟩
  have st5 := st4.keep hf5
  clear st4 hf5
  go_wp2_with (with_reducible refine wl_stop (o := ⟨some 4, _, _, _, _, _⟩) ?_)
  refine wl_allocS st5 rfl rfl (z := .agg #[.int .u64 0, .int .u64 0, .int .u64 0, .int .u64 0]) (by kernel_rfl) (cw 4 0) (by rw [cw_zero]; rfl) ?_
  intro g4 w6 st6
  clear st5
  go_wp2_with (with_reducible refine wl_stop (o := ⟨some 5, _, _, _, _, _⟩) ?_)
  refine wl_allocS st6 rfl rfl (z := .agg #[.int .u64 0, .int .u64 0, .int .u64 0, .int .u64 0]) (by kernel_rfl) (cw 4 0) (by rw [cw_zero]; rfl) ?_
  intro g5 w7 st7
  clear st6
  go_wp2_with (with_reducible refine wl_stop (o := ⟨none, _, _, _, _, _⟩) ?_)
  refine wl_storeS st7 2 rfl rfl rfl rfl rfl (by first | (simp only [cw_len]; done) | (simp only [List.length_append, cw_len]; done)) (by first | (rw [cw_len]; kernel_rfl) | (simp only [List.length_append, cw_len]; kernel_rfl)) (cw_one _ _) ?_
  intro w8 st8
  clear st7
  go_wp2_with (with_reducible refine wl_stop (o := ⟨none, _, _, _, _, _⟩) ?_)
  refine wl_storeS st8 3 rfl rfl rfl rfl rfl (by first | (simp only [cw_len]; done) | (simp only [List.length_append, cw_len]; done)) (by first | (rw [cw_len]; kernel_rfl) | (simp only [List.length_append, cw_len]; kernel_rfl)) (cw_one _ _) ?_
  intro w9 st9
  clear st8
  go_wp2_with fail
  refine wp_region_noPanic ?_
  refine wp_region_plan (fun wx => St Nob w wx [(gp, mdL m, 72), (gc, [Value.pointer (some ⟨gp, 0, none⟩)] ++ (cw 4 (elN m 7) ++ (cw 4 0 ++ (cw 4 0 ++ cw 4 0))), 57), (g4, cw 4 (elN m gXn), 47), (g5, cw 4 (elN m gYn), 47)]) 11 (.w 0 (.t 1 (.t 2 (.w 3 (.w 4 (.w 5 (.t 6 (.r 7 (.w 8 (.w 9 (.w 10 (.m 11 .nil)))))))))))) (by kernel_rfl) (by kernel_rfl) st9.drew (fun _ _ _ _ _ h => h) ?_
  have hd9 := st9.drew
  clear st9
  refine plan_w (v := ?_) rfl rfl (fun wx => ?_) ?_
  rotate_left 1
  · (go_simp; with_reducible rfl)
  try simp only [Go.Mv.clL]
  refine plan_arr rfl rfl rfl rfl (cw 4 (elN m gXn)) (fun wx hS => St.rangeL hS 2 rfl 0 _ (by rw [List.drop_zero, List.take_of_length_le (Nat.le_refl _)])) Tryd.underlying47 rfl (by first | (rw [cw_len]; kernel_rfl) | (simp only [List.length_append, cw_len]; kernel_rfl)) ?_
  try simp only [Go.Mv.clL]
  refine plan_arr rfl rfl rfl rfl (cw 4 (elN m gYn)) (fun wx hS => St.rangeL hS 3 rfl 0 _ (by rw [List.drop_zero, List.take_of_length_le (Nat.le_refl _)])) Tryd.underlying47 rfl (by first | (rw [cw_len]; kernel_rfl) | (simp only [List.length_append, cw_len]; kernel_rfl)) ?_
  try simp only [Go.Mv.clL]
  refine plan_w (v := ?_) rfl rfl (fun wx => ?_) ?_
  rotate_left 1
  · (go_simp; with_reducible rfl)
  try simp only [Go.Mv.clL]
  refine plan_w (v := ?_) rfl rfl (fun wx => ?_) ?_
  rotate_left 1
  · (go_simp; with_reducible rfl)
  try simp only [Go.Mv.clL]
  refine plan_w (v := ?_) rfl rfl (fun wx => ?_) ?_
  rotate_left 1
  · (go_simp; with_reducible rfl)
  try simp only [Go.Mv.clL]
  refine plan_t (v := ?_) rfl rfl (fun wx hS => ?_) ?_
  rotate_left 1
  · (have hc := (St.at hS 1 rfl).cell (i := 0) rfl; clear hS; go_simp; with_reducible rfl)
  try simp only [Go.Mv.clL]
  refine plan_r rfl rfl ?_
  go_simp
  refine (MOne_any m gp _ HOK.out (hd9.at 0 rfl)).mono ?_
  rintro e' w10 ⟨rfl, hf10⟩
  have st10 := hd9.keep hf10
  clear hf10
  clear hd9
  refine ⟨st10, ?_⟩
  try simp only [Go.Mv.clL]
  refine plan_w rfl rfl (exec_build rfl _ (built_pt _ _ _)) ?_
  try simp only [Go.Mv.clL]
  refine plan_w (v := ?_) rfl rfl (fun wx => ?_) ?_
  rotate_left 1
  · (go_simp; with_reducible rfl)
  try simp only [Go.Mv.clL]
  refine plan_w (v := ?_) rfl rfl (fun wx => ?_) ?_
  rotate_left 1
  · (go_simp; with_reducible rfl)
  try simp only [Go.Mv.clL]
  refine plan_m rfl rfl ?_
  refine wp_storeP st10 1 rfl rfl rfl rfl _ (crv_splice _ _ _ _ _) (by rw [crv_len]; simp only [List.length_append, cw_len]; decide) (by first | (rw [cw_len]; kernel_rfl) | (simp only [List.length_append, cw_len]; kernel_rfl)) (pt_one _ _ _) ?_
  intro w11 st11
  have st11 : St Nob w w11 [(gp, mdL m, 72), (gc, [Value.pointer (some ⟨gp, 0, none⟩)] ++ (cw 4 (elN m 7) ++ (cw 4 (elN m gXn) ++ (cw 4 (elN m gYn) ++ cw 4 (elN m 1)))), 57), (g4, cw 4 (elN m gXn), 47), (g5, cw 4 (elN m gYn), 47)] := st11
  clear st10
  try simp only [Act.put]
  refine plan_end ?_
  refine NoPanic.normal ?_
  have hown := st11.own _ (List.mem_of_getElem? (i := 1) rfl)
  have hc := st11.at 1 rfl
  have hm := st11.at 0 rfl
  have hfr := st11.fr
  clear st11
  have hge := hown.resolve_right (fun h => h)
  clear hown
  have HGE := Lib.hid hge
  clear hge
  go_wp2_with fail
  go_ret
  exact ⟨gc, rfl, HGE.out, ⟨gp, hc, hm⟩, hfr⟩

theorem k256_c (w : World) : Calls Tryd.prog 14 #[] w fun e w' => ∃ gc, e = .returned (.pointer (some ⟨gc, 0, none⟩)) ∧ w.heap.size ≤ gc ∧ Cv w' gc ∧ Fr Nob w w' := k256_any mP .zero w
end Go.Proofs.YtemcankmggmgoaaDoor

/- group: multiples of a point. -/
namespace Go.Mv
open Go.RowKit
/-- rows of the same length -/
theorem rows_len (f : Nat → List Value) (k : Nat) (hl : ∀ i, (f i).length = k) : ∀ n, ((List.range n).flatMap f).length = k * n
  | 0 => by simp
  | n + 1 => by rw [List.range_succ, List.flatMap_append, List.length_append, rows_len f k hl n]; simp [hl, Nat.mul_succ]
theorem rows_split (f : Nat → List Value) (n i : Nat) (h : i < n) : (List.range n).flatMap f = (List.range i).flatMap f ++ (f i ++ (List.range' (i + 1) (n - i - 1)).flatMap f) := by
  have e : List.range n = List.range i ++ i :: List.range' (i + 1) (n - i - 1) := by
    rw [List.range_eq_range', List.range_eq_range']
    have h1 : n = i + (n - i - 1 + 1) := by omega
    conv => lhs; rw [h1]
    rw [← List.range'_append_1, List.range'_succ]
    simp
  rw [e]; simp
theorem rows_get (f : Nat → List Value) (k : Nat) (hl : ∀ i, (f i).length = k) (n i : Nat) (h : i < n) : (((List.range n).flatMap f).drop (i * k)).take (f i).length = f i := by
  rw [rows_split f n i h, List.drop_append_of_le_length (by rw [rows_len f k hl, Nat.mul_comm]; omega), List.drop_of_length_le (by rw [rows_len f k hl, Nat.mul_comm]; omega), List.nil_append, List.take_left]
theorem rows_set (f f' : Nat → List Value) (k : Nat) (hl : ∀ i, (f i).length = k) (n i : Nat) (h : i < n) (hi : (f' i).length = k) (hv : ∀ j, j ≠ i → f' j = f j) : splice ((List.range n).flatMap f) (i * k) (f' i) = (List.range n).flatMap f' := by
  rw [rows_split f n i h, rows_split f' n i h]
  have e1 : (List.range i).flatMap f' = (List.range i).flatMap f := by
    rw [List.flatMap_def, List.flatMap_def]
    congr 1
    exact List.map_congr_left fun j hj => hv j (by have := List.mem_range.1 hj; omega)
  have e2 : (List.range' (i + 1) (n - i - 1)).flatMap f' = (List.range' (i + 1) (n - i - 1)).flatMap f := by
    rw [List.flatMap_def, List.flatMap_def]
    congr 1
    exact List.map_congr_left fun j hj => hv j (by have := List.mem_range'_1.1 hj; omega)
  rw [e1, e2]
  exact splice_mid _ _ _ _ _ (by rw [rows_len f k hl, Nat.mul_comm]) (by rw [hi, hl])
end Go.Mv
namespace Go.Proofs.YtemcankmggmgoaaDoor
open Go.RowKit Go.Mv Mvp Mvq
/-- 0 to 15 times a point -/
noncomputable def mulT (s : PT) : Nat → PT
  | 0 => noT
  | i + 1 => addT (mulT s i) s
theorem mulT_pt (s : PT) : ∀ i, (mulT s i).pt = pmul i s.pt
  | 0 => noT_pt
  | i + 1 => by
    show (addT (mulT s i) s).pt = padd (pmul i s.pt) s.pt
    rw [addT_pt, mulT_pt s i]
theorem mulT_c (s : PT) (k gc : Nat) (w : World) (h : Cv w gc) : Calls Tryd.prog 56 #[.pointer (some ⟨gc, 0, none⟩), (.agg (mulT s k).L.toArray), (.agg s.L.toArray)] w fun e w' => e = .returned (.agg (mulT s (k + 1)).L.toArray) ∧ Fr Nob w w' := plus_c (mulT s k) s gc w h
/-- the table, so far as it is filled -/
noncomputable def tbR (s : PT) (j i : Nat) : List Value := if i < j then (mulT s i).L else cw 12 0
noncomputable def tbL (s : PT) (j : Nat) : List Value := (List.range 16).flatMap (tbR s j)
theorem tbR_len (s : PT) (j i : Nat) : (tbR s j i).length = 12 := by
  unfold tbR; split
  · exact PT.len _
  · exact cw_len _ _
theorem tbL_len (s : PT) (j : Nat) : (tbL s j).length = 192 := rows_len _ 12 (tbR_len s j) 16
theorem tbL_one (s : PT) (j : Nat) : ∀ v ∈ tbL s j, v.oneCell' = true := by
  intro v hv
  unfold tbL at hv
  obtain ⟨i, -, hi⟩ := List.mem_flatMap.1 hv
  unfold tbR at hi
  split at hi
  · exact PT.one _ v hi
  · exact cw_one _ _ v hi
set_option maxRecDepth 100000 in
theorem tbL_zero (s : PT) : (Value.agg (List.replicate 192 (Value.int .u64 0)).toArray).cells.toList = tbL s 0 := by
  unfold tbL tbR
  simp only [Nat.not_lt_zero, if_false, cw_zero]
  rfl
theorem tbL_set (s : PT) (j : Nat) (h : j < 16) : splice (tbL s j) (j * 12) (mulT s j).L = tbL s (j + 1) := by
  have h0 := rows_set (tbR s j) (tbR s (j + 1)) 12 (tbR_len s j) 16 j h (tbR_len s _ _) (fun i hi => by unfold tbR; by_cases hc : i < j; rw [if_pos hc, if_pos (by omega)]; rw [if_neg hc, if_neg (by omega)])
  have e : tbR s (j + 1) j = (mulT s j).L := by unfold tbR; rw [if_pos (by omega)]
  rw [e] at h0
  exact h0
theorem tbL_set0 (s : PT) : splice (tbL s 0) 0 noT.L = tbL s (0 + 1) := tbL_set s 0 (by omega)
theorem tbL_get (s : PT) (j i : Nat) (h : i < j) (hj : j ≤ 16) : ((tbL s j).drop (i * 12)).take (mulT s i).L.length = (mulT s i).L := by
  have h0 := rows_get (tbR s j) 12 (tbR_len s j) 16 i (by omega)
  have e : tbR s j i = (mulT s i).L := by unfold tbR; rw [if_pos h]
  rw [e] at h0
  exact h0
theorem info_mul : (Tryd.prog.info? 81).map (·.zero) = some (some (.agg (List.replicate 192 (.int .u64 0)).toArray)) := by kernel_rfl
attribute [local irreducible] limbs lw mix cw cSub cAdd cMul beN laid be32 montT mstep elN mdL numB rtN rtV rtOk gXn gYn PT.L addT dblT mulT tbL
set_option maxHeartbeats 16000000 in
set_option maxRecDepth 1000000 in
theorem multiples_c (s : PT) (gc : Nat) (w : World) (h : Cv w gc) :
    Calls Tryd.prog 35 #[.pointer (some ⟨gc, 0, none⟩), .agg s.L.toArray] w fun e w' => e = .returned (.agg (tbL s 16).toArray) ∧ Fr Nob w w' := by
  have HCV := Lib.hid h
  clear h
  have st0 := St.start Nob w
  go_enter Tryd.func35, Tryd.ntmps35
  go_wp2_with (with_reducible refine wl_stop (o := ⟨some 3, _, _, _, _, _⟩) ?_)
  refine wl_boxS st0 rfl rfl rfl (s.L) rfl ?_
  intro g3 w1 st1
  clear st0
  go_wp2_with (with_reducible refine wl_stop (o := ⟨some 4, _, _, _, _, _⟩) ?_)
  refine wl_allocS st1 rfl rfl info_mul (tbL s 0) (tbL_zero s) ?_
  intro g4 w2 st2
  clear st1
  go_wp2_with fail
  refine (nothing_c gc _ (HCV.out.keep st2.fr)).mono ?_
  rintro e' w3 ⟨rfl, hf3⟩
  have st3 := st2.keep hf3
  clear st2 hf3
  go_wp2_with (with_reducible refine wl_stop (o := ⟨none, _, _, _, _, _⟩) ?_)
  refine wl_storeP st3 1 rfl rfl rfl rfl rfl (tbL s (0 + 1)) (tbL_set0 s) (by rw [tbL_len, PT.len]; omega) (by first | (rw [cw_len]; kernel_rfl) | (simp only [PT.len]; kernel_rfl)) (PT.one _) ?_
  intro w4 st4
  have st4 : St Nob w w4 [(g3, s.L, 49), (g4, tbL s (0 + 1), 81)] := st4
  clear st3
  go_wp2
  go_loopw [5] (fun i wr => ∃ k : Nat, k ≤ 15 ∧ i = .int .i64 ((k : Int) + 1) ∧ St Nob w wr [(g3, s.L, 49), (g4, tbL s (k + 1), 81)]) (fun i _ => (16 - intOf i).toNat)
  case atStart => exact ⟨0, by omega, rfl, st4⟩
  case round =>
    obtain ⟨k, hk, rfl, st⟩ := hrel
    clear st4
    rcases Nat.lt_or_ge k 15 with hk2 | hk2
    · have hc : ((k : Int) + 1 < 16) := by omega
      have hlt : (k : Int) + 1 < 9223372036854775808 := by omega
      have hl2 : (k : Int) < 9223372036854775808 := by omega
      have hl3 : (k : Int) < 16 := by omega
      have hl4 : IntKind.i64.wrap (k : Int) = (k : Int) := IntWalk.i64_in _ (by omega)
      have hl5 : (0 : Int) ≤ (k : Int) := by omega
      have hl6 : (0 : Int) ≤ (k : Int) + 1 := by omega
      go_wp2_with fail
      refine wp_region_noPanic ?_
      refine wp_region_plan (fun wx => St Nob w wx [(g3, s.L, 49), (g4, tbL s (k + 1), 81)]) 9 (.w 0 (.w 1 (.w 2 (.w 3 (.w 4 (.t 5 (.t 6 (.r 7 (.w 8 (.m 9 .nil)))))))))) (by kernel_rfl) (by kernel_rfl) st.drew (fun _ _ _ _ _ h => h) ?_
      have hd4 := st.drew
      clear st
      refine plan_w (v := ?_) rfl rfl (fun wx => ?_) ?_
      rotate_left 1
      · (go_simp; with_reducible rfl)
      try simp only [Go.Mv.clL]
      refine plan_w (v := ?_) rfl rfl (fun wx => ?_) ?_
      rotate_left 1
      · (go_simp; with_reducible rfl)
      try simp only [Go.Mv.clL]
      refine plan_w (v := ?_) rfl rfl (fun wx => ?_) ?_
      rotate_left 1
      · (go_simp; with_reducible rfl)
      try simp only [Go.Mv.clL]
      refine plan_w (v := ?_) rfl rfl (fun wx => ?_) ?_
      rotate_left 1
      · (go_simp; with_reducible rfl)
      try simp only [Go.Mv.clL]
      refine plan_w (v := ?_) rfl rfl (fun wx => ?_) ?_
      rotate_left 1
      · (go_simp; with_reducible rfl)
      try simp only [Go.Mv.clL]
      refine plan_arr rfl rfl rfl rfl ((mulT s k).L) (fun wx hS => St.rangeL hS 1 rfl (k * 12) _ (tbL_get s (k + 1) k (by omega) (by omega))) Tryd.underlying49 rfl (by first | (rw [cw_len]; kernel_rfl) | (simp only [PT.len]; kernel_rfl)) ?_
      try simp only [Go.Mv.clL]
      refine plan_arr rfl rfl rfl rfl (s.L) (fun wx hS => St.rangeL hS 0 rfl 0 _ (by rw [List.drop_zero, List.take_of_length_le (Nat.le_refl _)])) Tryd.underlying49 rfl (by first | (rw [cw_len]; kernel_rfl) | (simp only [PT.len]; kernel_rfl)) ?_
      try simp only [Go.Mv.clL]
      refine plan_r rfl rfl ?_
      go_simp
      refine (mulT_c s k gc _ (HCV.out.keep hd4.fr)).mono ?_
      rintro e' w5 ⟨rfl, hf5⟩
      have st5 := hd4.keep hf5
      clear hf5
      clear hd4
      refine ⟨st5, ?_⟩
      try simp only [Go.Mv.clL]
      refine plan_w (v := ?_) rfl rfl (fun wx => ?_) ?_
      rotate_left 1
      · (go_simp; with_reducible rfl)
      try simp only [Go.Mv.clL]
      refine plan_m rfl rfl ?_
      refine wp_storeP st5 1 rfl rfl rfl rfl (tbL s ((k + 1) + 1)) (tbL_set s (k + 1) (by omega)) (by rw [tbL_len, PT.len]; omega) (by first | (rw [cw_len]; kernel_rfl) | (simp only [PT.len]; kernel_rfl)) (PT.one _) ?_
      intro w6 st6
      have st6 : St Nob w w6 [(g3, s.L, 49), (g4, tbL s ((k + 1) + 1), 81)] := st6
      clear st5
      try simp only [Act.put]
      refine plan_end ?_
      refine NoPanic.normal ?_
      go_wp2
      go_roundw
      case rel => exact ⟨k + 1, by omega, by simp, st6⟩
      case measure => simp [intOf]; omega
    · have hk3 : k = 15 := by omega
      subst hk3
      have hc : ¬ (((15 : Nat) : Int) + 1 < 16) := by omega
      go_wp2_with (with_reducible refine wl_stop (o := ⟨some 22, _, _, _, _, _⟩) ?_)
      refine wl_loadSt st 1 rfl rfl rfl Tryd.underlying81 rfl rfl (by first | (rw [cw_len]; kernel_rfl) | (simp only [tbL_len]; kernel_rfl)) ?_
      go_wp2_with (with_reducible refine wl_stop (o := ⟨none, _, _, _, _, _⟩) ?_)
      refine wl_storeS st 1 rfl rfl rfl rfl rfl (by first | (simp only []; done) | (simp only [List.length_append, cw_len, PT.len, tbL_len]; done)) (by first | (rw [cw_len]; kernel_rfl) | (simp only [tbL_len]; kernel_rfl)) (tbL_one _ _) ?_
      intro w5 st5
      clear st
      have hr := st5.at 1 rfl
      have hfr := st5.fr
      clear st5
      go_wp2_with fail
      exact bodyPost_ret (results_arr rfl rfl hr Tryd.underlying81 (by first | (rw [cw_len]; kernel_rfl) | (simp only [tbL_len]; kernel_rfl))) rfl ⟨rfl, hfr⟩
end Go.Proofs.YtemcankmggmgoaaDoor

/- group: digit, sum, times. -/
namespace Mvp
theorem digit_of (n j : Nat) : lw n (4 * j / 64) / 2 ^ (4 * j % 64) % 16 = n / 16 ^ j % 16 := by
  have h64 : (18446744073709551616 : Nat) = 2 ^ (4 * j % 64) * 2 ^ (64 - 4 * j % 64) := by
    rw [← Nat.pow_add, show 4 * j % 64 + (64 - 4 * j % 64) = 64 by omega]
  have hd : (16 : Nat) ∣ 2 ^ (64 - 4 * j % 64) := by
    have : 64 - 4 * j % 64 = 4 + (60 - 4 * j % 64) := by omega
    rw [this, Nat.pow_add]
    exact Nat.dvd_mul_right _ _
  have hp : B64 ^ (4 * j / 64) * 2 ^ (4 * j % 64) = 16 ^ j := by
    have h16 : (16 : Nat) ^ j = 2 ^ (4 * j) := by rw [Nat.pow_mul]
    have hB : B64 ^ (4 * j / 64) = 2 ^ (64 * (4 * j / 64)) := by rw [Nat.pow_mul]
    rw [h16, hB, ← Nat.pow_add, Nat.div_add_mod]
  show n / B64 ^ (4 * j / 64) % 18446744073709551616 / 2 ^ (4 * j % 64) % 16 = _
  rw [h64, Nat.mod_mul_right_div_self, Nat.mod_mod_of_dvd _ hd, Nat.div_div_eq_div_mul, hp]
end Mvp
namespace Go.Mv
open Go.RowKit
theorem sub_row {L R : List Value} {a n : Nat} (h : (L.drop a).take n = R) (b : Nat) (cs : List Value) (hb : b + cs.length ≤ n) (hc : (R.drop b).take cs.length = cs) : (L.drop (a + b)).take cs.length = cs := by
  rw [← h, List.drop_take, List.drop_drop, List.take_take, Nat.min_eq_left (by omega)] at hc
  exact hc
end Go.Mv
namespace Go.Proofs.YtemcankmggmgoaaDoor
open Go.RowKit Go.Mv Mvp Mvq
/-- a term's cells -/
noncomputable def tmR (t : Nat × PT) : List Value := cw 4 t.1 ++ tbL t.2 16
theorem tmR_len (t : Nat × PT) : (tmR t).length = 196 := by unfold tmR; rw [List.length_append, cw_len, tbL_len]
theorem tmR_cell (t : Nat × PT) (k : Nat) (h : k < 4) : (tmR t)[k]? = some (.int .u64 (lw t.1 k)) := by
  unfold tmR
  rw [List.getElem?_append_left (by rw [cw_len]; exact h)]
  exact cw_get 4 t.1 k h
theorem tmR_tab (t : Nat × PT) (d : Nat) (h : d < 16) : ((tmR t).drop (4 + d * 12)).take (mulT t.2 d).L.length = (mulT t.2 d).L := by
  have e : (tmR t).drop (4 + d * 12) = (tbL t.2 16).drop (d * 12) := by
    unfold tmR
    rw [List.drop_append, List.drop_of_length_le (by rw [cw_len]; omega), List.nil_append, cw_len, show 4 + d * 12 - 4 = d * 12 by omega]
  rw [e]
  exact tbL_get t.2 16 d h (Nat.le_refl _)
def tmAt (l : List (Nat × PT)) (k : Nat) : Nat × PT := l.getD k (0, noT)
noncomputable def tmL (l : List (Nat × PT)) : List Value := (List.range l.length).flatMap fun k => tmR (tmAt l k)
theorem tmL_row (l : List (Nat × PT)) (k : Nat) (h : k < l.length) : ((tmL l).drop (k * 196)).take (tmR (tmAt l k)).length = tmR (tmAt l k) :=
  rows_get (fun k => tmR (tmAt l k)) 196 (fun _ => tmR_len _) l.length k h
theorem tmL_tab (l : List (Nat × PT)) (k d : Nat) (h : k < l.length) (hd : d < 16) : ((tmL l).drop (k * 196 + (4 + d * 12))).take (mulT (tmAt l k).2 d).L.length = (mulT (tmAt l k).2 d).L := by
  refine sub_row (tmL_row l k h) _ _ ?_ (tmR_tab _ d hd)
  rw [tmR_len, PT.len]; omega
/-- doubled so often -/
noncomputable def dbN (o : PT) : Nat → PT
  | 0 => o
  | q + 1 => dblT (dbN o q)
theorem dbN_c (o : PT) (q gc : Nat) (w : World) (h : Cv w gc) : Calls Tryd.prog 55 #[.pointer (some ⟨gc, 0, none⟩), (.agg (dbN o q).L.toArray)] w fun e w' => e = .returned (.agg (dbN o (q + 1)).L.toArray) ∧ Fr Nob w w' := double_c (dbN o q) gc w h
theorem dbN_pt (o : PT) (_ : o.pt = o.pt) : (dbN o 4).pt = pmul 16 o.pt := by
  show (dblT (dblT (dblT (dblT o)))).pt = _
  rw [dblT_pt, dblT_pt, dblT_pt, dblT_pt, pmul_16 o.onP]
/-- the terms' digits added -/
noncomputable def innT (l : List (Nat × PT)) (i : Nat) (o : PT) : Nat → PT
  | 0 => o
  | k + 1 => addT (innT l i o k) (mulT (tmAt l k).2 (dig (63 - i) (tmAt l k).1))
theorem innT_c (l : List (Nat × PT)) (i : Nat) (o : PT) (k d : Nat) (hd : dig (63 - i) (tmAt l k).1 = d) (gc : Nat) (w : World) (h : Cv w gc) : Calls Tryd.prog 56 #[.pointer (some ⟨gc, 0, none⟩), (.agg (innT l i o k).L.toArray), (.agg (mulT (tmAt l k).2 d).L.toArray)] w fun e w' => e = .returned (.agg (innT l i o (k + 1)).L.toArray) ∧ Fr Nob w w' := by
  subst hd
  exact plus_c (innT l i o k) _ gc w h
noncomputable def outT (l : List (Nat × PT)) : Nat → PT
  | 0 => noT
  | i + 1 => innT l i (dbN (outT l i) 4) l.length
theorem outT_next (l : List (Nat × PT)) (i : Nat) : innT l i (dbN (outT l i) 4) l.length = outT l (i + 1) := rfl
theorem outT_zero (l : List (Nat × PT)) : noT = outT l 0 := rfl
theorem dbN_zero (o : PT) : dbN o 0 = o := rfl
theorem innT_zero (l : List (Nat × PT)) (i : Nat) (o : PT) : innT l i o 0 = o := rfl
noncomputable def sumT (l : List (Nat × PT)) : PT := outT l 64
theorem sumT_is (l : List (Nat × PT)) : outT l 64 = sumT l := rfl
attribute [local irreducible] limbs lw mix cw cSub cAdd cMul beN laid be32 montT mstep elN mdL numB rtN rtV rtOk gXn gYn PT.L addT dblT mulT tbL tmR tmL dbN innT outT sumT dig
set_option maxHeartbeats 8000000 in
set_option maxRecDepth 1000000 in
theorem digit_c (t : Nat × PT) (i d : Nat) (hi : i < 64) (hd : dig (63 - i) t.1 = d) (w : World) :
    Calls Tryd.prog 57 #[.agg (tmR t).toArray, .int .i64 (i : Int)] w fun e w' => e = .returned (.int .u64 (d : Int)) ∧ Fr Nob w w' := by
  obtain ⟨a, ha⟩ : ∃ a, 252 - 4 * i = a := ⟨_, rfl⟩
  have ha2 : 4 * (63 - i) = a := by omega
  have hdd : lw t.1 (a / 64) / 2 ^ (a % 64) % 16 = d := by
    have := digit_of t.1 (63 - i)
    rw [ha2] at this
    rw [this]
    unfold dig at hd
    exact hd
  have HD := Lib.hid hdd
  clear hd hdd
  have hal : a < 256 := by omega
  have haI : (256 : Int) - 4 * ((i : Int) + 1) = (a : Int) := by omega
  have st0 := St.start Nob w
  go_enter Tryd.func57, Tryd.ntmps57
  go_wp2_with (with_reducible refine wl_stop (o := ⟨some 2, _, _, _, _, _⟩) ?_)
  refine wl_boxS st0 rfl rfl rfl (tmR t) rfl ?_
  intro g1 w1 st1
  clear st0
  have c1 := (st1.at 0 rfl).cell (tmR_cell t (a / 64) (by omega))
  have hlo : (0 : Int) ≤ (a : Int) / 64 ∧ (a : Int) / 64 < 4 := by omega
  have hlo2 : (0 : Int) ≤ (a : Int) % 64 ∧ (a : Int) % 64 < 64 := by omega
  have e4 : ((a : Int) / 64).toNat = a / 64 := by omega
  have e5 : ((a : Int) % 64).toNat = a % 64 := by omega
  have hiI : (i : Int) < 64 := by omega
  have e6 : IntKind.i64.wrap ((i : Int) + 1) = (i : Int) + 1 := IntWalk.i64_in _ (by omega)
  have e7 : IntKind.i64.wrap (4 * ((i : Int) + 1)) = 4 * ((i : Int) + 1) := IntWalk.i64_in _ (by omega)
  have e8 : IntKind.i64.wrap (256 - 4 * ((i : Int) + 1)) = (a : Int) := by rw [haI]; exact IntWalk.i64_in _ (by omega)
  have hfr := st1.fr
  clear st1 haI
  have hw : lw t.1 (a / 64) / 2 ^ (a % 64) < 18446744073709551616 := Nat.lt_of_le_of_lt (Nat.div_le_self _ _) (lw_lt _ _)
  have hb := bits_and_u64_nat (lw t.1 (a / 64) / 2 ^ (a % 64)) 15 hw (by omega)
  rw [show (15 : Nat) = 2 ^ 4 - 1 by decide, Nat.and_two_pow_sub_one_eq_mod, show (2 : Nat) ^ 4 - 1 = 15 by decide, show (2 : Nat) ^ 4 = 16 by decide] at hb
  simp only [Int.natCast_ediv, Int.natCast_pow, Int.cast_ofNat_Int] at hb
  clear ha ha2 hi
  go_wp2
  go_ret
  refine ⟨ret_intN ?_, hfr⟩
  rw [← HD.out]
  simp

set_option maxHeartbeats 8000000 in
set_option maxRecDepth 1000000 in
theorem sum_c (l : List (Nat × PT)) (gc : Nat) (a : Option Addr) (n c : Nat) (w : World) (h : Cv w gc) (hl : l.length = n) (hn : n ≤ 100000) (htm : Rd w a (l.length * 196) (tmL l)) :
    Calls Tryd.prog 34 #[.pointer (some ⟨gc, 0, none⟩), .slice a n c] w fun e w' => e = .returned (.agg (sumT l).L.toArray) ∧ Fr Nob w w' := by
  subst hl
  rw [← sumT_is]
  have HCV := Lib.hid h
  have HTM := Lib.hid htm
  clear h htm
  have st0 := St.start Nob w
  go_enter Tryd.func34, Tryd.ntmps34
  go_wp2_with (with_reducible refine wl_stop (o := ⟨some 4, _, _, _, _, _⟩) ?_)
  refine wl_allocS st0 rfl rfl (z := .agg (List.replicate 12 (.int .u64 0)).toArray) (by kernel_rfl) (cw 12 0) (by rw [cw_zero]; rfl) ?_
  intro g4 w1 st1
  clear st0
  go_wp2_with fail
  refine (nothing_c gc _ (HCV.out.keep st1.fr)).mono ?_
  rintro e' w2 ⟨rfl, hf2⟩
  have st2 := st1.keep hf2
  clear st1 hf2
  go_wp2_with (with_reducible refine wl_stop (o := ⟨some 5, _, _, _, _, _⟩) ?_)
  refine wl_allocS st2 rfl rfl (z := .agg (List.replicate 12 (.int .u64 0)).toArray) (by kernel_rfl) (cw 12 0) (by rw [cw_zero]; rfl) ?_
  intro g5 w3 st3
  clear st2
  go_wp2_with (with_reducible refine wl_stop (o := ⟨none, _, _, _, _, _⟩) ?_)
  refine wl_storeS st3 1 rfl rfl rfl rfl rfl (by first | (simp only [cw_len]; done) | (simp only [cw_len, PT.len]; done)) (by first | (rw [cw_len]; kernel_rfl) | (simp only [PT.len]; kernel_rfl)) (PT.one _) ?_
  intro w4 st4
  clear st3
  rw [outT_zero l] at st4
  go_wp2
  go_loopw [10] (fun x wr => ∃ i : Nat, i ≤ 64 ∧ x = .int .i64 (i : Int) ∧ St Nob w wr [(g4, cw 12 0, 49), (g5, (outT l i).L, 49)]) (fun x _ => 64 - (intOf x).toNat)
  case atStart => exact ⟨0, by omega, rfl, st4⟩
  case round =>
    obtain ⟨i, hi, rfl, st⟩ := hrel
    clear st4
    by_cases hlt : i < 64
    · have hltI : (i : Int) < 64 := by omega
      go_wp2
      go_loopw [13] (fun x wr => ∃ q : Nat, q ≤ 4 ∧ x = .int .i64 (q : Int) ∧ St Nob w wr [(g4, cw 12 0, 49), (g5, (dbN (outT l i) q).L, 49)]) (fun x _ => 4 - (intOf x).toNat)
      case atStart => exact ⟨0, by omega, rfl, by rw [dbN_zero]; exact st⟩
      case round =>
        obtain ⟨q, hq, rfl, st2⟩ := hrel
        clear st
        by_cases hq4 : q < 4
        · have hqI : (q : Int) < 4 := by omega
          go_wp2_with (with_reducible refine wl_stop (o := ⟨some 16, _, _, _, _, _⟩) ?_)
          refine wl_loadSt st2 1 rfl rfl rfl Tryd.underlying49 rfl rfl (by first | (rw [cw_len]; kernel_rfl) | (simp only [PT.len]; kernel_rfl)) ?_
          go_wp2_with fail
          refine (dbN_c (outT l i) q gc _ (HCV.out.keep st2.fr)).mono ?_
          rintro e' w5 ⟨rfl, hf5⟩
          have st5 := st2.keep hf5
          clear st2 hf5
          go_wp2_with (with_reducible refine wl_stop (o := ⟨none, _, _, _, _, _⟩) ?_)
          refine wl_storeS st5 1 rfl rfl rfl rfl rfl (by first | (simp only [cw_len]; done) | (simp only [PT.len]; done)) (by first | (rw [cw_len]; kernel_rfl) | (simp only [PT.len]; kernel_rfl)) (PT.one _) ?_
          intro w6 st6
          clear st5
          go_wp2
          go_roundw
          case rel => exact ⟨q + 1, by omega, by go_num, st6⟩
          case measure => simp [intOf]; omega
        · have hqI : ¬ ((q : Int) < 4) := by omega
          have hq5 : q = 4 := by omega
          rw [hq5] at st2
          clear hq5
          go_wp2
          go_loopw [21] (fun x wr => ∃ k : Nat, k ≤ l.length ∧ x = .int .i64 (k : Int) ∧ St Nob w wr [(g4, cw 12 0, 49), (g5, (innT l i (dbN (outT l i) 4) k).L, 49)]) (fun x _ => l.length - (intOf x).toNat)
          case atStart => exact ⟨0, by omega, rfl, by rw [innT_zero]; exact st2⟩
          case round =>
            obtain ⟨k, hk, rfl, st3⟩ := hrel
            clear st2
            by_cases hkl : k < l.length
            · have hkI : (k : Int) < (l.length : Int) := by omega
              obtain ⟨ba, oa, hea, -⟩ := HTM.out.at (by omega)
              subst hea
              obtain ⟨d, hd⟩ : ∃ d, dig (63 - i) (tmAt l k).1 = d := ⟨_, rfl⟩
              have hd16 : d < 16 := by rw [← hd]; unfold dig; exact Nat.mod_lt _ (by decide)
              have HD := Lib.hid hd
              have HIL := Lib.hid hlt
              have HKL := Lib.hid hkl
              clear hd hlt hkl
              have HD16 := Lib.hid hd16
              have hd1 : (0 : Int) ≤ (d : Int) := by omega
              have hd2 : (d : Int) < 16 := by omega
              go_wp2_with fail
              refine wp_region_noPanic ?_
              refine wp_region_plan (fun wx => St Nob w wx [(g4, cw 12 0, 49), (g5, (innT l i (dbN (outT l i) 4) k).L, 49)]) 15 (.w 0 (.t 1 (.w 2 (.w 3 (.w 4 (.w 5 (.w 6 (.t 7 (.w 8 (.w 10 (.w 11 (.r 9 (.w 12 (.t 13 (.r 14 (.m 15 .nil)))))))))))))))) (by kernel_rfl) (by kernel_rfl) st3.drew (fun _ _ _ _ _ h => h) ?_
              have hd4 := st3.drew
              clear st3
              refine plan_w (v := ?_) rfl rfl (fun wx => ?_) ?_
              rotate_left 1
              · (go_simp; with_reducible rfl)
              try simp only [Go.Mv.clL]
              refine plan_arr rfl rfl rfl rfl ((innT l i (dbN (outT l i) 4) k).L) (fun wx hS => St.rangeL hS 1 rfl 0 _ (by rw [List.drop_zero, List.take_of_length_le (Nat.le_refl _)])) Tryd.underlying49 rfl (by first | (rw [cw_len]; kernel_rfl) | (simp only [PT.len]; kernel_rfl)) ?_
              try simp only [Go.Mv.clL]
              refine plan_w (v := ?_) rfl rfl (fun wx => ?_) ?_
              rotate_left 1
              · (go_simp; with_reducible rfl)
              try simp only [Go.Mv.clL]
              refine plan_w (v := ?_) rfl rfl (fun wx => ?_) ?_
              rotate_left 1
              · (go_simp; with_reducible rfl)
              try simp only [Go.Mv.clL]
              refine plan_w (v := ?_) rfl rfl (fun wx => ?_) ?_
              rotate_left 1
              · (go_simp; with_reducible rfl)
              try simp only [Go.Mv.clL]
              refine plan_w (v := ?_) rfl rfl (fun wx => ?_) ?_
              rotate_left 1
              · (go_simp; with_reducible rfl)
              try simp only [Go.Mv.clL]
              refine plan_w (v := ?_) rfl rfl (fun wx => ?_) ?_
              rotate_left 1
              · (go_simp; with_reducible rfl)
              try simp only [Go.Mv.clL]
              refine plan_arr rfl rfl rfl rfl (tmR (tmAt l k)) (fun wx hS => (rd_range (HTM.out.still (St.fr hS)) (k * 196) _ (tmL_row l k HKL.out))) Tryd.underlying84 rfl (by first | (rw [cw_len]; kernel_rfl) | (simp only [tmR_len]; kernel_rfl)) ?_
              try simp only [Go.Mv.clL]
              refine plan_w (v := ?_) rfl rfl (fun wx => ?_) ?_
              rotate_left 1
              · (go_simp; with_reducible rfl)
              try simp only [Go.Mv.clL]
              refine plan_w (v := ?_) rfl rfl (fun wx => ?_) ?_
              rotate_left 1
              · (go_simp; with_reducible rfl)
              try simp only [Go.Mv.clL]
              refine plan_w (v := ?_) rfl rfl (fun wx => ?_) ?_
              rotate_left 1
              · (go_simp; with_reducible rfl)
              try simp only [Go.Mv.clL]
              refine plan_r rfl rfl ?_
              go_simp
              refine (digit_c (tmAt l k) i d HIL.out HD.out _).mono ?_
              rintro e' w5 ⟨rfl, hf5⟩
              have st5 := hd4.keep hf5
              clear hf5
              clear hd4
              refine ⟨st5, ?_⟩
              try simp only [Go.Mv.clL]
              refine plan_w (v := ?_) rfl rfl (fun wx => ?_) ?_
              rotate_left 1
              · (go_simp; with_reducible rfl)
              try simp only [Go.Mv.clL]
              refine plan_arr rfl rfl rfl rfl ((mulT (tmAt l k).2 d).L) (fun wx hS => by have hr := rd_range (HTM.out.still (St.fr hS)) (k * 196 + (4 + d * 12)) _ (tmL_tab l k d HKL.out HD16.out); rw [← Nat.add_assoc, ← Nat.add_assoc] at hr; exact hr) Tryd.underlying49 rfl (by first | (rw [cw_len]; kernel_rfl) | (simp only [PT.len]; kernel_rfl)) ?_
              try simp only [Go.Mv.clL]
              refine plan_r rfl rfl ?_
              go_simp
              refine (innT_c l i (dbN (outT l i) 4) k d HD.out gc _ (HCV.out.keep st5.fr)).mono ?_
              rintro e' w6 ⟨rfl, hf6⟩
              have st6 := st5.keep hf6
              clear hf6
              clear st5
              refine ⟨st6, ?_⟩
              try simp only [Go.Mv.clL]
              refine plan_m rfl rfl ?_
              refine wp_storeS st6 1 rfl rfl rfl rfl (by first | (simp only [cw_len]; done) | (simp only [PT.len]; done)) (by first | (rw [cw_len]; kernel_rfl) | (simp only [PT.len]; kernel_rfl)) (PT.one _) ?_
              intro w7 st7
              clear st6
              try simp only [Act.put]
              refine plan_end ?_
              refine NoPanic.normal ?_
              go_wp2
              go_roundw
              case rel => exact ⟨k + 1, by have := HKL.out; omega, by go_num, st7⟩
              case measure => have := HKL.out; simp [intOf]; omega
            · have hkI : ¬ ((k : Int) < (l.length : Int)) := by omega
              have hk2 : k = l.length := by omega
              rw [hk2, outT_next] at st3
              clear hk2
              go_wp2
              go_roundw
              case rel => exact ⟨i + 1, by omega, by go_num, st3⟩
              case measure => simp [intOf]; omega
    · have hltI : ¬ ((i : Int) < 64) := by omega
      have hi2 : i = 64 := by omega
      rw [hi2] at st
      clear hi2
      go_wp2_with (with_reducible refine wl_stop (o := ⟨some 41, _, _, _, _, _⟩) ?_)
      refine wl_loadSt st 1 rfl rfl rfl Tryd.underlying49 rfl rfl (by first | (rw [cw_len]; kernel_rfl) | (simp only [PT.len]; kernel_rfl)) ?_
      go_wp2_with (with_reducible refine wl_stop (o := ⟨none, _, _, _, _, _⟩) ?_)
      refine wl_storeS st 0 rfl rfl rfl rfl rfl (by first | (simp only [cw_len]; done) | (simp only [cw_len, PT.len]; done)) (by first | (rw [cw_len]; kernel_rfl) | (simp only [PT.len]; kernel_rfl)) (PT.one _) ?_
      intro w5 st5
      clear st
      have hr := st5.at 0 rfl
      have hfr := st5.fr
      clear st5
      go_wp2_with fail
      exact bodyPost_ret (results_st rfl rfl hr Tryd.underlying49 rfl (by first | (rw [cw_len]; kernel_rfl) | (simp only [PT.len]; kernel_rfl))) rfl ⟨rfl, hfr⟩
end Go.Proofs.YtemcankmggmgoaaDoor

/- group: times, bytes. -/
namespace Go.Mv
open Go.RowKit
section
variable {P : Program} {w w0 : World} {ops : Array Oper} {rest : List Oper} {o : Oper} {a : Act} {Q : Exit → Act → World → Prop} {S : Nat → Prop} {bl : List (Nat × List Value × TypeId)} {K : Act → World → Prop}
/-- a slice literal of one row -/
theorem wp_slit1 (hst : St S w0 w bl) {t e : TypeId} {parts : Array (Nat × Operand)} (ho : o.op = .buildSlice t 1 parts) (hu : P.underlying t = some (.slice e)) {z : Value} {sz by_ : Nat} (hi0 : (P.info? e).map (fun i => (i.zero, i.size, i.bytes)) = some (some z, sz, by_)) (cs : List Value)
    (hp : (parts.toList.map fun p => (p.1, a.eval p.2)) = [(0, .agg cs.toArray)]) (hv : cs.length = sz) (h0 : 0 < sz) (h24 : sz ≤ 16777216)
    (h : ∀ g w', w.heap.size ≤ g → St S w0 w' (bl ++ [(g, cs, e)]) → K (a.put o.dst (.slice (some ⟨g, 0, none⟩) 1 1)) w') : o.wp P a w K Q := by
  obtain ⟨i, hi, hz0⟩ : ∃ i, P.info? e = some i ∧ (i.zero, i.size, i.bytes) = (some z, sz, by_) := by simpa using hi0
  simp only [Prod.mk.injEq] at hz0
  obtain ⟨hz1, hsz, hby⟩ := hz0
  have hf : Instr.fill (fun j => some (j * i.size, i.size)) ((Array.range (1 * i.size)).map (z.cells[· % z.cells.size]!)) (parts.map fun (i, x) => (i, a.eval x)).toList = some cs.toArray := by
    rw [show (parts.map fun (i, x) => (i, a.eval x)).toList = (parts.toList.map fun p => (p.1, a.eval p.2)) by simp, hp, hsz]
    have hfw := Great.fill_whole h0 [.agg cs.toArray] ((Array.range (1 * sz)).map (z.cells[· % z.cells.size]!)) (by intro v hv'; have h1 := List.mem_singleton.1 hv'; subst h1; show cs.toArray.size = sz; simpa using hv) (by simp)
    rw [show ([.agg cs.toArray] : List Value).flatMap (fun v => v.cells.toList) = cs by simp [Value.cells]] at hfw
    exact hfw
  exact wp_buildSlice t e 1 parts ho cs.toArray i z hu hi hz1 (by rw [hsz]; omega) (by rw [hsz]; omega) hf (h _ _ (Nat.le_refl _) (hst.new ((Fr.refl _ w).alloc _) (Has.new w cs.toArray e) (Nat.le_refl _)))
/-- append(s, make([]T, m)...) where there is room -/
theorem wl_append_zeros (hst : St S w0 w bl) (i : Nat) {g : Nat} {L : List Value} {T : TypeId} (hb : bl[i]? = some (g, L, T)) {s x : Operand} {t xt : TypeId} (hgd : o.guard = none) (ho : o.op = .call { callee := .builtin .append, args := #[s, x], argTypes := #[t, xt] })
    {e : TypeId} {k : IntKind} {z : Value} (ht : P.underlying t = some (.slice e)) (hxt : P.underlying xt = some (.int k)) (hi0 : (P.info? e).map (fun i => (i.zero, i.size, i.bytes)) = some (some z, 1, 1)) (hzc : z.cells = #[z]) (hone : z.oneCell' = true) {n m cap : Nat} (hs : a.eval s = .slice (some ⟨g, 0, none⟩) n cap) {kx : IntKind} (hx : a.eval x = .int kx (m : Int))
    (hfit : n + m ≤ cap) (hm : 0 < m) (hm2 : m ≤ 1000000) (hL : n + m ≤ L.length) (L' : List Value) (hL' : splice L n (List.replicate m z) = L')
    (h : ∀ w', St S w0 w' (bl.set i (g, L', T)) → wpList P ops Q rest (a.put o.dst (.slice (some ⟨g, 0, none⟩) (n + m) cap)) w') : wpList P ops Q (o :: rest) a w := by
  refine wpList_plain hgd fun K hK => ?_
  obtain ⟨j, hj, hz, hsize, hby⟩ := info_parts hi0
  obtain ⟨w', hst', hh, hfr, hz2⟩ := run_storeCells_has (P := P) g n T (List.replicate m z) 0 L w (hst.at i hb) (by simp; omega) (by intro v hv; rw [List.eq_of_mem_replicate hv]; exact hone)
  have hzz : (Builtin.zeroCells z.cells m).toList = List.replicate m z := by
    apply List.ext_getElem?
    intro q
    unfold Builtin.zeroCells
    rw [hzc]
    by_cases hq : q < m
    · simp [hq, Nat.mod_one]
    · simp [hq]
  have hwrap : IntKind.i64.wrap (m : Int) = (m : Int) := IntWalk.i64_in _ (by omega)
  have h1 : ¬ ((m : Int) < 0) := by omega
  have h2 : ¬ ((m : Int) * (1 : Int) > 2 ^ 48) := by omega
  have h2' : ¬ (2 ^ 48 < (m : Int)) := by omega
  have h3 : ¬ (m * 1 = 0) := by omega
  have h3' : m ≠ 0 := by omega
  have h4 : ¬ ((m : Int) ≤ 0) := by omega
  have hr : (Builtin.append_ #[t, xt] o.type #[.slice (some ⟨g, 0, none⟩) n cap, .int kx (m : Int)]).run P w = .ok (.slice (some ⟨g, 0, none⟩) (n + m) cap) w' := by
    simp [Builtin.append_, run_underlying ht, run_underlying hxt, sizeOf, typeInfo, hj, hsize, hby, hwrap, h1, h3', hfit, zeroValue, hz, addr_add, asInt, asIntOf, hzz, hst']
    intro hbig
    omega
  unfold Oper.wp execOp
  simp only [ho, resolve, invoke, builtin, Sem.run_bind, Sem.run_pure, Result.andThen_ok, List.map_toArray, List.map_cons, List.map_nil, hs, hx, hr]
  rw [Nat.add_zero, hL'] at hh
  exact hK _ _ (h w' (hst.put i hb hfr hh))
/-- append(s, x...) where there is room -/
theorem wp_append_in (hst : St S w0 w bl) (i : Nat) {g : Nat} {L : List Value} {T : TypeId} (hb : bl[i]? = some (g, L, T)) {s x : Operand} {t : TypeId} (ho : o.op = .call { callee := .builtin .append, args := #[s, x], argTypes := #[t, t] })
    {e : TypeId} {z : Value} (ht : P.underlying t = some (.slice e)) (hi0 : (P.info? e).map (fun i => (i.zero, i.size, i.bytes)) = some (some z, 1, 1)) {n m cap c : Nat} (hs : a.eval s = .slice (some ⟨g, 0, none⟩) n cap) {xa : Option Addr} (hx : a.eval x = .slice xa m c) {news : List Value} (hnews : Rd w xa m news) (h1 : ∀ u ∈ news, u.oneCell' = true)
    (hfit : n + m ≤ cap) (hL : n + m ≤ L.length) (L' : List Value) (hL' : splice L n news = L')
    (h : ∀ w', St S w0 w' (bl.set i (g, L', T)) → K (a.put o.dst (.slice (some ⟨g, 0, none⟩) (n + m) cap)) w') : o.wp P a w K Q := by
  obtain ⟨j, hj, hz, hsize, hby⟩ := info_parts hi0
  have hlen := hnews.len
  obtain ⟨w', hr, hh, hfr, -⟩ := run_append_room2 (P := P) t o.type e j ht hj g 0 n cap L T (hst.at i hb) xa m c news (by rw [hsize, Nat.mul_one]; exact hnews) h1 hfit (by rw [hsize]; omega)
  rw [hsize, Nat.mul_one, Nat.zero_add, hL'] at hh
  unfold Oper.wp execOp
  simp only [ho, resolve, invoke, builtin, Sem.run_bind, Sem.run_pure, Result.andThen_ok, List.map_toArray, List.map_cons, List.map_nil, hs, hx, hr]
  exact h w' (hst.put i hb hfr hh)
end
end Go.Mv
namespace Go.Proofs.YtemcankmggmgoaaDoor
open Go.RowKit Go.Mv Mvp Mvq
theorem built_tm (n : Nat) (s : PT) : Tryd.prog.built 84 [(0, i4 n), (1, .agg (tbL s 16).toArray)] = some (tmR (n, s)).toArray := by kernel_rfl
theorem info_tm : (Tryd.prog.info? 84).map (fun i => (i.zero, i.size, i.bytes)) = some (some (.agg (List.replicate 196 (.int .u64 0)).toArray), 196, 1568) := by kernel_rfl
theorem tmL_one (t : Nat × PT) : tmL [t] = tmR t := by
  show (List.range 1).flatMap (fun k => tmR (tmAt [t] k)) = tmR t
  simp [List.range_succ, tmAt]
attribute [local irreducible] limbs lw mix cw cSub cAdd cMul beN laid be32 montT mstep elN mdL numB rtN rtV rtOk gXn gYn PT.L addT dblT mulT tbL tmR tmL dbN innT outT sumT dig
set_option maxHeartbeats 8000000 in
set_option maxRecDepth 1000000 in
theorem times_c (n : Nat) (s : PT) (gc : Nat) (w : World) (h : Cv w gc) :
    Calls Tryd.prog 15 #[.pointer (some ⟨gc, 0, none⟩), i4 n, .agg s.L.toArray] w fun e w' => e = .returned (.agg (sumT [(n, s)]).L.toArray) ∧ Fr Nob w w' := by
  have HCV := Lib.hid h
  clear h
  have st0 := St.start Nob w
  go_enter Tryd.func15, Tryd.ntmps15
  go_wp2_with (with_reducible refine wl_stop (o := ⟨some 4, _, _, _, _, _⟩) ?_)
  refine wl_boxS st0 rfl rfl rfl (cw 4 n) rfl ?_
  intro g4 w1 st1
  clear st0
  go_wp2_with (with_reducible refine wl_stop (o := ⟨some 5, _, _, _, _, _⟩) ?_)
  refine wl_boxS st1 rfl rfl rfl (s.L) rfl ?_
  intro g5 w2 st2
  clear st1
  go_wp2_with (with_reducible refine wl_stop (o := ⟨some 6, _, _, _, _, _⟩) ?_)
  refine wl_allocS st2 rfl rfl (z := .agg (List.replicate 12 (.int .u64 0)).toArray) (by kernel_rfl) (cw 12 0) (by rw [cw_zero]; rfl) ?_
  intro g6 w3 st3
  clear st2
  go_wp2_with fail
  refine wp_region_noPanic ?_
  refine wp_region_plan (fun wx => St Nob w wx [(g4, cw 4 n, 42), (g5, s.L, 49), (g6, cw 12 0, 49)]) 8 (.w 0 (.t 1 (.w 2 (.t 3 (.r 4 (.w 5 (.r 6 (.r 7 (.m 8 .nil))))))))) (by kernel_rfl) (by kernel_rfl) st3.drew (fun _ _ _ _ _ h => h) ?_
  have hd3 := st3.drew
  clear st3
  refine plan_w (v := ?_) rfl rfl (fun wx => ?_) ?_
  rotate_left 1
  · (go_simp; with_reducible rfl)
  try simp only [Go.Mv.clL]
  refine plan_arr rfl rfl rfl rfl (cw 4 n) (fun wx hS => St.rangeL hS 0 rfl 0 _ (by rw [List.drop_zero, List.take_of_length_le (Nat.le_refl _)])) Tryd.underlying42 rfl (by first | (rw [cw_len]; kernel_rfl) | (rw [PT.len]; kernel_rfl) | (rw [tbL_len]; kernel_rfl) | (rw [tmR_len]; kernel_rfl) | (simp only [List.length_append, cw_len]; kernel_rfl) | (simp only [List.length_append, cw_len, PT.len, tbL_len, tmR_len]; kernel_rfl)) ?_
  try simp only [Go.Mv.clL]
  refine plan_w (v := ?_) rfl rfl (fun wx => ?_) ?_
  rotate_left 1
  · (go_simp; with_reducible rfl)
  try simp only [Go.Mv.clL]
  refine plan_arr rfl rfl rfl rfl (s.L) (fun wx hS => St.rangeL hS 1 rfl 0 _ (by rw [List.drop_zero, List.take_of_length_le (Nat.le_refl _)])) Tryd.underlying49 rfl (by first | (rw [cw_len]; kernel_rfl) | (simp only [PT.len]; kernel_rfl)) ?_
  try simp only [Go.Mv.clL]
  refine plan_r rfl rfl ?_
  go_simp
  refine (multiples_c s gc _ (HCV.out.keep hd3.fr)).mono ?_
  rintro e' w4 ⟨rfl, hf4⟩
  have st4 := hd3.keep hf4
  clear hf4
  clear hd3
  refine ⟨st4, ?_⟩
  try simp only [Go.Mv.clL]
  refine plan_w rfl rfl (exec_build rfl _ (built_tm _ _)) ?_
  try simp only [Go.Mv.clL]
  refine plan_r rfl rfl ?_
  refine wp_slit1 st4 rfl Tryd.underlying107 info_tm (tmR (n, s)) rfl (tmR_len _) (by decide) (by decide) ?_
  intro g13 w5 hg13 st5
  clear hg13
  have HRD := Lib.hid (show Rd w5 (some ⟨g13, 0, none⟩) (([(n, s)] : List (Nat × PT)).length * 196) (tmL [(n, s)]) by rw [tmL_one]; have h := Rd.whole (st5.at 3 rfl); rw [tmR_len] at h; exact h)
  refine ⟨St.less st5 (by simp), ?_⟩
  try simp only [Go.Mv.clL]
  refine plan_r rfl rfl ?_
  go_simp
  refine (sum_c [(n, s)] gc (some ⟨g13, 0, none⟩) 1 1 _ (HCV.out.keep st5.fr) rfl (by decide) HRD.out).mono ?_
  rintro e' w6 ⟨rfl, hf6⟩
  have st6 := st5.keep hf6
  clear hf6
  clear st5
  refine ⟨St.less st6 (by simp), ?_⟩
  try simp only [Go.Mv.clL]
  refine plan_m rfl rfl ?_
  refine wp_storeS st6 2 rfl rfl rfl rfl (by first | (simp only [cw_len]; done) | (simp only [cw_len, PT.len]; done)) (by first | (rw [cw_len]; kernel_rfl) | (simp only [PT.len]; kernel_rfl)) (PT.one _) ?_
  intro w7 st7
  clear st6
  try simp only [Act.put]
  refine plan_end ?_
  refine NoPanic.normal ?_
  have hr := st7.at 2 rfl
  have hfr := st7.fr
  clear st7
  go_wp2_with fail
  exact bodyPost_ret (results_st rfl rfl hr Tryd.underlying49 rfl (by first | (rw [cw_len]; kernel_rfl) | (simp only [PT.len]; kernel_rfl))) rfl ⟨rfl, hfr⟩
end Go.Proofs.YtemcankmggmgoaaDoor

/- group: bytes. -/
namespace Go.Proofs.YtemcankmggmgoaaDoor
open Go.RowKit Go.Mv Mvp Mvq
theorem zeros_bs (n : Nat) : List.replicate n (Value.int .u8 0) = bs (List.replicate n 0) := by simp [bs]
theorem zeros_app : splice (bs (List.replicate 33 0)) 1 (List.replicate 32 (Value.int .u8 0)) = bs (List.replicate 33 0) := by rfl
def bb1 (b : Nat) : List Value := bs ([UInt8.ofNat b] ++ List.replicate 32 0)
def bb2 (b X : Nat) : List Value := bs (UInt8.ofNat b :: be32 X)
theorem bb1_len (b : Nat) : (bb1 b).length = 33 := by unfold bb1; rw [length_bs]; simp
theorem bb2_len (b X : Nat) : (bb2 b X).length = 33 := by unfold bb2; rw [length_bs, List.length_cons, be32_len]
theorem bytes_splice (b X : Nat) : splice (bb1 b) 1 (bs (be32 X)) = bb2 b X := by
  unfold bb1 bb2
  rw [bs_append, splice_end _ _ _ 1 (by simp [bs]) (by rw [length_bs, length_bs, be32_len]; rfl), ← bs_append]; rfl
theorem zeros_set (b : Nat) (hb : b < 256) : (bs (List.replicate 33 0)).set 0 (.int .u8 (b : Int)) = bb1 b := by
  unfold bb1
  have h := bs_set (List.replicate 33 0) 0 (UInt8.ofNat b)
  rw [show ((UInt8.ofNat b).toNat : Int) = (b : Int) by rw [UInt8.toNat_ofNat']; omega] at h
  rw [h]; rfl
theorem or_two (b : Nat) (h : b = 0 ∨ b = 1) : bits .or .u8 2 (b : Int) = ((2 + b : Nat) : Int) := by
  rcases h with rfl | rfl <;> decide
attribute [local irreducible] limbs lw mix cw cSub cAdd cMul beN laid be32 montT mstep elN mdL numB rtN rtV rtOk gXn gYn bb1 bb2
set_option maxHeartbeats 16000000 in
set_option maxRecDepth 1000000 in
theorem bytes_none (m : Md) (gc gp bx by_ : Nat) (w : World) (hok : m.Ok) (hcv : Has w gc (crvL m gp bx by_) 57) (hpm : Has w gp (mdL m) 72) (x y z : Nat) (hb : (z % m.M == 0) = true) :
    Calls Tryd.prog 16 #[.pointer (some ⟨gc, 0, none⟩), ptV m x y z] w fun e w' => ∃ sv, e = .returned sv ∧ Own w' w.heap.size 5 1 sv 33 (bs (List.replicate 33 0)) ∧ Fr Nob w w' := by
  have HOK := Lib.hid hok
  have HCV := Lib.hid hcv
  have HPM := Lib.hid hpm
  clear hok hcv hpm
  have HB := Lib.hid hb
  clear hb
  unfold ptV ptL
  have st0 := St.start Nob w
  go_enter Tryd.func16, Tryd.ntmps16
  go_wp2_with (with_reducible refine wl_stop (o := ⟨some 3, _, _, _, _, _⟩) ?_)
  refine wl_boxS st0 rfl rfl rfl (cw 4 (elN m x) ++ (cw 4 (elN m y) ++ cw 4 (elN m z))) rfl ?_
  intro g3 w1 st1
  clear st0
  go_wp2_with (with_reducible refine wl_stop (o := ⟨some 9, _, _, _, _, _⟩) ?_)
  refine wl_make rfl rfl Tryd.underlying23 info_u8 rfl rfl rfl 1 33 (by simp) (by simp) (by omega) (by omega) (by unfold maxLen; omega) ?_
  intro w2 hg2 hf2 hz2
  clear hz2
  have st2 := st1.new hf2 hg2 (Nat.le_refl _)
  have hb2 := st1.fr.size
  skip
  clear st1 hg2 hf2
  generalize w1.heap.size = gb at *
  have HBB := Lib.hid hb2
  clear hb2
  rw [zeros_bs] at st2
  go_wp2_with (with_reducible refine wl_stop (o := ⟨some 10, _, _, _, _, _⟩) ?_)
  refine wl_loadSt st2 0 rfl rfl rfl Tryd.underlying49 rfl rfl (by first | (rw [cw_len]; kernel_rfl) | (simp only [List.length_append, cw_len]; kernel_rfl)) ?_
  go_wp2_with fail
  refine (none_any m HOK.out x y z true HB.out _).mono ?_
  rintro e' w3 ⟨rfl, hf3⟩
  have st3 := st2.keep hf3
  clear st2 hf3
  go_wp2_with (with_reducible refine wl_stop (o := ⟨some 13, _, _, _, _, _⟩) ?_)
  refine wl_append_zeros st3 1 rfl rfl rfl Tryd.underlying23 Tryd.underlying3 info_u8 rfl rfl (n := 1) (m := 32) (cap := 33) rfl rfl (by decide) (by decide) (by decide) (by rw [length_bs, List.length_replicate]; decide) (bs (List.replicate 33 0)) zeros_app ?_
  intro w4 st4
  clear st3
  have hown : Own w4 w.heap.size 5 1 (.slice (some ⟨gb, 0, none⟩) 33 33) 33 (bs (List.replicate 33 0)) := by
    have h := st4.at 1 rfl
    exact Own.made h w.heap.size HBB.out 1 33 33 (Nat.le_refl _) (by unfold maxLen; omega) (by decide)
  have hfr := st4.fr
  clear st4
  go_wp2_with fail
  go_ret
  exact ⟨_, rfl, hown, hfr⟩

theorem MInv_v (m : Md) (gp : Nat) (w : World) (hok : m.Ok) (hpm : Has w gp (mdL m) 72) (x r : Nat) (hr : x ^ (m.M - 2) = r) :
    Calls Tryd.prog 37 #[.pointer (some ⟨gp, 0, none⟩), i4 (elN m x)] w fun e w' => e = .returned (i4 (elN m r)) ∧ Fr Nob w w' := by
  subst hr; exact MInv_any m gp w hok hpm x
theorem MFrom_v (m : Md) (gp : Nat) (w : World) (hok : m.Ok) (hpm : Has w gp (mdL m) 72) (x r : Nat) (hr : x % m.M = r) :
    Calls Tryd.prog 39 #[.pointer (some ⟨gp, 0, none⟩), i4 (elN m x)] w fun e w' => e = .returned (i4 r) ∧ Fr Nob w w' := by
  subst hr; exact MFrom_any m gp w hok hpm x
set_option maxHeartbeats 16000000 in
set_option maxRecDepth 1000000 in
theorem bytes_v (m : Md) (gc gp bx by_ : Nat) (w : World) (hok : m.Ok) (hcv : Has w gc (crvL m gp bx by_) 57) (hpm : Has w gp (mdL m) 72) (x y z : Nat) (hb : (z % m.M == 0) = false) (i ii i3 yy v xx u : Nat) (ei : z ^ (m.M - 2) = i) (eii : i * i = ii) (ei3 : ii * i = i3) (eyy : y * i3 = yy) (ev : yy % m.M = v) (exx : x * ii = xx) (eu : xx % m.M = u) :
    Calls Tryd.prog 16 #[.pointer (some ⟨gc, 0, none⟩), ptV m x y z] w fun e w' => ∃ sv, e = .returned sv ∧ Own w' w.heap.size 5 1 sv 33 (bs (UInt8.ofNat (2 + v % 2) :: be32 u)) ∧ Fr Nob w w' := by
  have HOK := Lib.hid hok
  have HCV := Lib.hid hcv
  have HPM := Lib.hid hpm
  clear hok hcv hpm
  have HB := Lib.hid hb
  have Hi := Lib.hid ei
  have Hii := Lib.hid eii
  have Hi3 := Lib.hid ei3
  have Hyy := Lib.hid eyy
  have Hv := Lib.hid ev
  have Hxx := Lib.hid exx
  have Hu := Lib.hid eu
  clear hb ei eii ei3 eyy ev exx eu
  unfold ptV ptL
  have st0 := St.start Nob w
  go_enter Tryd.func16, Tryd.ntmps16
  go_wp2_with (with_reducible refine wl_stop (o := ⟨some 3, _, _, _, _, _⟩) ?_)
  refine wl_boxS st0 rfl rfl rfl (cw 4 (elN m x) ++ (cw 4 (elN m y) ++ cw 4 (elN m z))) rfl ?_
  intro g3 w1 st1
  clear st0
  go_wp2_with (with_reducible refine wl_stop (o := ⟨some 9, _, _, _, _, _⟩) ?_)
  refine wl_make rfl rfl Tryd.underlying23 info_u8 rfl rfl rfl 1 33 (by simp) (by simp) (by omega) (by omega) (by unfold maxLen; omega) ?_
  intro w2 hg2 hf2 hz2
  clear hz2
  have st2 := st1.new hf2 hg2 (Nat.le_refl _)
  have hb2 := st1.fr.size
  skip
  clear st1 hg2 hf2
  generalize w1.heap.size = gb at *
  have HBB := Lib.hid hb2
  clear hb2
  rw [zeros_bs] at st2
  go_wp2_with (with_reducible refine wl_stop (o := ⟨some 10, _, _, _, _, _⟩) ?_)
  refine wl_loadSt st2 0 rfl rfl rfl Tryd.underlying49 rfl rfl (by first | (rw [cw_len]; kernel_rfl) | (simp only [List.length_append, cw_len]; kernel_rfl)) ?_
  go_wp2_with fail
  refine (none_any m HOK.out x y z false HB.out _).mono ?_
  rintro e' w3 ⟨rfl, hf3⟩
  have st3 := st2.keep hf3
  clear st2 hf3
  go_wp2_with fail
  refine wp_region_noPanic ?_
  refine wp_region_plan (fun wx => St Nob w wx [(g3, cw 4 (elN m x) ++ (cw 4 (elN m y) ++ cw 4 (elN m z)), 49), (gb, bs (List.replicate 33 0), 5)]) 8 (.w 0 (.w 1 (.w 2 (.t 3 (.w 4 (.t 5 (.b 6 7 (.r 7 (.m 8 .nil)) (.r 6 (.m 8 .nil))))))))) (by kernel_rfl) (by kernel_rfl) st3.drew (fun _ _ _ _ _ h => h) ?_
  have hd3 := st3.drew
  clear st3
  refine plan_w (v := ?_) rfl rfl (fun wx => ?_) ?_
  rotate_left 1
  · (go_simp; with_reducible rfl)
  try simp only [Go.Mv.clL]
  refine plan_w (v := ?_) rfl rfl (fun wx => ?_) ?_
  rotate_left 1
  · (go_simp; with_reducible rfl)
  try simp only [Go.Mv.clL]
  refine plan_w (v := ?_) rfl rfl (fun wx => ?_) ?_
  rotate_left 1
  · (go_simp; with_reducible rfl)
  try simp only [Go.Mv.clL]
  refine plan_t (v := ?_) rfl rfl (fun wx hS => ?_) ?_
  rotate_left 1
  · (have hc := (HCV.out.keep (St.fr hS) id).cell (i := 0) rfl; clear hS; go_simp; with_reducible rfl)
  try simp only [Go.Mv.clL]
  refine plan_w (v := ?_) rfl rfl (fun wx => ?_) ?_
  rotate_left 1
  · (go_simp; with_reducible rfl)
  try simp only [Go.Mv.clL]
  refine plan_arr rfl rfl rfl rfl (cw 4 (elN m z)) (fun wx hS => St.rangeL hS 0 rfl 8 _ (pt_z _ _ _)) Tryd.underlying47 rfl (by first | (rw [cw_len]; kernel_rfl) | (simp only [List.length_append, cw_len]; kernel_rfl)) ?_
  try simp only [Go.Mv.clL]
  refine plan_key1 (C := fun g6 wz => St Nob w wz [(g3, cw 4 (elN m x) ++ (cw 4 (elN m y) ++ cw 4 (elN m z)), 49), (gb, bs (List.replicate 33 0), 5), (g6, cw 4 (elN m i), 47)]) (F := ?_) (fun key => ?_) ?_
  rotate_left 1
  · skip
    refine plan_b0 rfl rfl rfl rfl ?_ ?_
    · skip
      go_simp
      refine (MInv_v m gp _ HOK.out (HPM.out.keep hd3.fr id) z i Hi.out).mono ?_
      rintro e' w4 ⟨rfl, hf4⟩
      have st4 := hd3.keep hf4
      clear hf4
      refine ⟨st4, ?_⟩
      try simp only [Go.Mv.clL]
      refine plan_r rfl rfl ?_
      refine wp_allocS st4 rfl (z := .agg #[.int .u64 0, .int .u64 0, .int .u64 0, .int .u64 0]) (by kernel_rfl) (cw 4 0) (by rw [cw_zero]; rfl) ?_
      intro g6 w5 st5
      refine ⟨St.less st5 (by simp), ?_⟩
      try simp only [Go.Mv.clL]
      refine plan_m rfl rfl ?_
      refine wp_storeS st5 2 rfl rfl rfl rfl (by first | (simp only [cw_len]; done) | (simp only [List.length_append, cw_len]; done)) (by first | (rw [cw_len]; kernel_rfl) | (simp only [List.length_append, cw_len]; kernel_rfl)) (cw_one _ _) ?_
      intro w6 st6
      try simp only [Act.put]
      refine plan_end ?_
      exact key g6 _ st6
    · skip
      refine wp_allocS hd3 rfl (z := .agg #[.int .u64 0, .int .u64 0, .int .u64 0, .int .u64 0]) (by kernel_rfl) (cw 4 0) (by rw [cw_zero]; rfl) ?_
      intro g6 w7 st7
      refine ⟨St.less st7 (by simp), ?_⟩
      try simp only [Go.Mv.clL]
      refine plan_r rfl rfl ?_
      go_simp
      refine (MInv_v m gp _ HOK.out (HPM.out.keep st7.fr id) z i Hi.out).mono ?_
      rintro e' w8 ⟨rfl, hf8⟩
      have st8 := st7.keep hf8
      clear hf8
      refine ⟨St.less st8 (by simp), ?_⟩
      try simp only [Go.Mv.clL]
      refine plan_m rfl rfl ?_
      refine wp_storeS st8 2 rfl rfl rfl rfl (by first | (simp only [cw_len]; done) | (simp only [List.length_append, cw_len]; done)) (by first | (rw [cw_len]; kernel_rfl) | (simp only [List.length_append, cw_len]; kernel_rfl)) (cw_one _ _) ?_
      intro w9 st9
      try simp only [Act.put]
      refine plan_end ?_
      exact key g6 _ st9
  intro g6 w10 st10
  have st10 : St Nob w w10 [(g3, cw 4 (elN m x) ++ (cw 4 (elN m y) ++ cw 4 (elN m z)), 49), (gb, bs (List.replicate 33 0), 5), (g6, cw 4 (elN m i), 47)] := st10
  clear hd3
  refine NoPanic.normal ?_
  go_wp2_with fail
  refine wp_region_noPanic ?_
  refine wp_region_plan (fun wx => St Nob w wx [(g3, cw 4 (elN m x) ++ (cw 4 (elN m y) ++ cw 4 (elN m z)), 49), (gb, bs (List.replicate 33 0), 5), (g6, cw 4 (elN m i), 47)]) 7 (.w 0 (.w 1 (.w 2 (.t 3 (.t 4 (.b 5 6 (.r 6 (.m 7 .nil)) (.r 5 (.m 7 .nil)))))))) (by kernel_rfl) (by kernel_rfl) st10.drew (fun _ _ _ _ _ h => h) ?_
  have hd10 := st10.drew
  clear st10
  refine plan_w (v := ?_) rfl rfl (fun wx => ?_) ?_
  rotate_left 1
  · (go_simp; with_reducible rfl)
  try simp only [Go.Mv.clL]
  refine plan_w (v := ?_) rfl rfl (fun wx => ?_) ?_
  rotate_left 1
  · (go_simp; with_reducible rfl)
  try simp only [Go.Mv.clL]
  refine plan_w (v := ?_) rfl rfl (fun wx => ?_) ?_
  rotate_left 1
  · (go_simp; with_reducible rfl)
  try simp only [Go.Mv.clL]
  refine plan_t (v := ?_) rfl rfl (fun wx hS => ?_) ?_
  rotate_left 1
  · (have hc := (HCV.out.keep (St.fr hS) id).cell (i := 0) rfl; clear hS; go_simp; with_reducible rfl)
  try simp only [Go.Mv.clL]
  refine plan_arr rfl rfl rfl rfl (cw 4 (elN m i)) (fun wx hS => St.rangeL hS 2 rfl 0 _ (by rw [List.drop_zero, List.take_of_length_le (Nat.le_refl _)])) Tryd.underlying47 rfl (by first | (rw [cw_len]; kernel_rfl) | (simp only [List.length_append, cw_len]; kernel_rfl)) ?_
  try simp only [Go.Mv.clL]
  refine plan_key1 (C := fun g7 wz => St Nob w wz [(g3, cw 4 (elN m x) ++ (cw 4 (elN m y) ++ cw 4 (elN m z)), 49), (gb, bs (List.replicate 33 0), 5), (g6, cw 4 (elN m i), 47), (g7, cw 4 (elN m ii), 47)]) (F := ?_) (fun key => ?_) ?_
  rotate_left 1
  · skip
    refine plan_b0 rfl rfl rfl rfl ?_ ?_
    · skip
      go_simp
      refine (MSquare_v m gp _ HOK.out (HPM.out.keep hd10.fr id) i ii Hii.out).mono ?_
      rintro e' w11 ⟨rfl, hf11⟩
      have st11 := hd10.keep hf11
      clear hf11
      refine ⟨st11, ?_⟩
      try simp only [Go.Mv.clL]
      refine plan_r rfl rfl ?_
      refine wp_allocS st11 rfl (z := .agg #[.int .u64 0, .int .u64 0, .int .u64 0, .int .u64 0]) (by kernel_rfl) (cw 4 0) (by rw [cw_zero]; rfl) ?_
      intro g7 w12 st12
      refine ⟨St.less st12 (by simp), ?_⟩
      try simp only [Go.Mv.clL]
      refine plan_m rfl rfl ?_
      refine wp_storeS st12 3 rfl rfl rfl rfl (by first | (simp only [cw_len]; done) | (simp only [List.length_append, cw_len]; done)) (by first | (rw [cw_len]; kernel_rfl) | (simp only [List.length_append, cw_len]; kernel_rfl)) (cw_one _ _) ?_
      intro w13 st13
      try simp only [Act.put]
      refine plan_end ?_
      exact key g7 _ st13
    · skip
      refine wp_allocS hd10 rfl (z := .agg #[.int .u64 0, .int .u64 0, .int .u64 0, .int .u64 0]) (by kernel_rfl) (cw 4 0) (by rw [cw_zero]; rfl) ?_
      intro g7 w14 st14
      refine ⟨St.less st14 (by simp), ?_⟩
      try simp only [Go.Mv.clL]
      refine plan_r rfl rfl ?_
      go_simp
      refine (MSquare_v m gp _ HOK.out (HPM.out.keep st14.fr id) i ii Hii.out).mono ?_
      rintro e' w15 ⟨rfl, hf15⟩
      have st15 := st14.keep hf15
      clear hf15
      refine ⟨St.less st15 (by simp), ?_⟩
      try simp only [Go.Mv.clL]
      refine plan_m rfl rfl ?_
      refine wp_storeS st15 3 rfl rfl rfl rfl (by first | (simp only [cw_len]; done) | (simp only [List.length_append, cw_len]; done)) (by first | (rw [cw_len]; kernel_rfl) | (simp only [List.length_append, cw_len]; kernel_rfl)) (cw_one _ _) ?_
      intro w16 st16
      try simp only [Act.put]
      refine plan_end ?_
      exact key g7 _ st16
  intro g7 w17 st17
  have st17 : St Nob w w17 [(g3, cw 4 (elN m x) ++ (cw 4 (elN m y) ++ cw 4 (elN m z)), 49), (gb, bs (List.replicate 33 0), 5), (g6, cw 4 (elN m i), 47), (g7, cw 4 (elN m ii), 47)] := st17
  clear hd10
  refine NoPanic.normal ?_
  go_wp2_with fail
  refine wp_region_noPanic ?_
  refine wp_region_plan (fun wx => St Nob w wx [(g3, cw 4 (elN m x) ++ (cw 4 (elN m y) ++ cw 4 (elN m z)), 49), (gb, bs (List.replicate 33 0), 5), (g6, cw 4 (elN m i), 47), (g7, cw 4 (elN m ii), 47)]) 20 (.w 0 (.w 1 (.w 2 (.t 3 (.w 4 (.w 5 (.w 6 (.t 7 (.w 8 (.t 9 (.w 10 (.w 11 (.w 12 (.t 13 (.t 14 (.t 15 (.b 16 19 (.b 17 19 (.b 18 19 (.r 19 (.m 20 .nil)) (.r 18 (.m 20 .nil))) (.r 17 (.r 18 (.m 20 .nil)))) (.r 16 (.r 17 (.r 18 (.m 20 .nil))))))))))))))))))))) (by kernel_rfl) (by kernel_rfl) st17.drew (fun _ _ _ _ _ h => h) ?_
  have hd17 := st17.drew
  clear st17
  refine plan_w (v := ?_) rfl rfl (fun wx => ?_) ?_
  rotate_left 1
  · (go_simp; with_reducible rfl)
  try simp only [Go.Mv.clL]
  refine plan_w (v := ?_) rfl rfl (fun wx => ?_) ?_
  rotate_left 1
  · (go_simp; with_reducible rfl)
  try simp only [Go.Mv.clL]
  refine plan_w (v := ?_) rfl rfl (fun wx => ?_) ?_
  rotate_left 1
  · (go_simp; with_reducible rfl)
  try simp only [Go.Mv.clL]
  refine plan_t (v := ?_) rfl rfl (fun wx hS => ?_) ?_
  rotate_left 1
  · (have hc := (HCV.out.keep (St.fr hS) id).cell (i := 0) rfl; clear hS; go_simp; with_reducible rfl)
  try simp only [Go.Mv.clL]
  refine plan_w (v := ?_) rfl rfl (fun wx => ?_) ?_
  rotate_left 1
  · (go_simp; with_reducible rfl)
  try simp only [Go.Mv.clL]
  refine plan_w (v := ?_) rfl rfl (fun wx => ?_) ?_
  rotate_left 1
  · (go_simp; with_reducible rfl)
  try simp only [Go.Mv.clL]
  refine plan_w (v := ?_) rfl rfl (fun wx => ?_) ?_
  rotate_left 1
  · (go_simp; with_reducible rfl)
  try simp only [Go.Mv.clL]
  refine plan_t (v := ?_) rfl rfl (fun wx hS => ?_) ?_
  rotate_left 1
  · (have hc := (HCV.out.keep (St.fr hS) id).cell (i := 0) rfl; clear hS; go_simp; with_reducible rfl)
  try simp only [Go.Mv.clL]
  refine plan_w (v := ?_) rfl rfl (fun wx => ?_) ?_
  rotate_left 1
  · (go_simp; with_reducible rfl)
  try simp only [Go.Mv.clL]
  refine plan_arr rfl rfl rfl rfl (cw 4 (elN m y)) (fun wx hS => St.rangeL hS 0 rfl 4 _ (pt_y _ _ _)) Tryd.underlying47 rfl (by first | (rw [cw_len]; kernel_rfl) | (simp only [List.length_append, cw_len]; kernel_rfl)) ?_
  try simp only [Go.Mv.clL]
  refine plan_w (v := ?_) rfl rfl (fun wx => ?_) ?_
  rotate_left 1
  · (go_simp; with_reducible rfl)
  try simp only [Go.Mv.clL]
  refine plan_w (v := ?_) rfl rfl (fun wx => ?_) ?_
  rotate_left 1
  · (go_simp; with_reducible rfl)
  try simp only [Go.Mv.clL]
  refine plan_w (v := ?_) rfl rfl (fun wx => ?_) ?_
  rotate_left 1
  · (go_simp; with_reducible rfl)
  try simp only [Go.Mv.clL]
  refine plan_t (v := ?_) rfl rfl (fun wx hS => ?_) ?_
  rotate_left 1
  · (have hc := (HCV.out.keep (St.fr hS) id).cell (i := 0) rfl; clear hS; go_simp; with_reducible rfl)
  try simp only [Go.Mv.clL]
  refine plan_arr rfl rfl rfl rfl (cw 4 (elN m ii)) (fun wx hS => St.rangeL hS 3 rfl 0 _ (by rw [List.drop_zero, List.take_of_length_le (Nat.le_refl _)])) Tryd.underlying47 rfl (by first | (rw [cw_len]; kernel_rfl) | (simp only [List.length_append, cw_len]; kernel_rfl)) ?_
  try simp only [Go.Mv.clL]
  refine plan_arr rfl rfl rfl rfl (cw 4 (elN m i)) (fun wx hS => St.rangeL hS 2 rfl 0 _ (by rw [List.drop_zero, List.take_of_length_le (Nat.le_refl _)])) Tryd.underlying47 rfl (by first | (rw [cw_len]; kernel_rfl) | (simp only [List.length_append, cw_len]; kernel_rfl)) ?_
  try simp only [Go.Mv.clL]
  refine plan_key1 (C := fun g8 wz => St Nob w wz [(g3, cw 4 (elN m x) ++ (cw 4 (elN m y) ++ cw 4 (elN m z)), 49), (gb, bs (List.replicate 33 0), 5), (g6, cw 4 (elN m i), 47), (g7, cw 4 (elN m ii), 47), (g8, cw 4 v, 42)]) (F := ?_) (fun key => ?_) ?_
  rotate_left 1
  · skip
    refine plan_b0 rfl rfl rfl rfl ?_ ?_
    · skip
      go_simp
      refine (MMul_v m gp _ HOK.out (HPM.out.keep hd17.fr id) ii i i3 Hi3.out).mono ?_
      rintro e' w18 ⟨rfl, hf18⟩
      have st18 := hd17.keep hf18
      clear hf18
      refine ⟨st18, ?_⟩
      try simp only [Go.Mv.clL]
      refine plan_b0 rfl rfl rfl rfl ?_ ?_
      · skip
        go_simp
        refine (MMul_v m gp _ HOK.out (HPM.out.keep st18.fr id) y i3 yy Hyy.out).mono ?_
        rintro e' w19 ⟨rfl, hf19⟩
        have st19 := st18.keep hf19
        clear hf19
        refine ⟨st19, ?_⟩
        try simp only [Go.Mv.clL]
        refine plan_b0 rfl rfl rfl rfl ?_ ?_
        · skip
          go_simp
          refine (MFrom_v m gp _ HOK.out (HPM.out.keep st19.fr id) yy v Hv.out).mono ?_
          rintro e' w20 ⟨rfl, hf20⟩
          have st20 := st19.keep hf20
          clear hf20
          refine ⟨st20, ?_⟩
          try simp only [Go.Mv.clL]
          refine plan_r rfl rfl ?_
          refine wp_allocS st20 rfl (z := .agg #[.int .u64 0, .int .u64 0, .int .u64 0, .int .u64 0]) (by kernel_rfl) (cw 4 0) (by rw [cw_zero]; rfl) ?_
          intro g8 w21 st21
          refine ⟨St.less st21 (by simp), ?_⟩
          try simp only [Go.Mv.clL]
          refine plan_m rfl rfl ?_
          refine wp_storeS st21 4 rfl rfl rfl rfl (by first | (simp only [cw_len]; done) | (simp only [List.length_append, cw_len]; done)) (by first | (rw [cw_len]; kernel_rfl) | (simp only [List.length_append, cw_len]; kernel_rfl)) (cw_one _ _) ?_
          intro w22 st22
          try simp only [Act.put]
          refine plan_end ?_
          exact key g8 _ st22
        · skip
          refine wp_allocS st19 rfl (z := .agg #[.int .u64 0, .int .u64 0, .int .u64 0, .int .u64 0]) (by kernel_rfl) (cw 4 0) (by rw [cw_zero]; rfl) ?_
          intro g8 w23 st23
          refine ⟨St.less st23 (by simp), ?_⟩
          try simp only [Go.Mv.clL]
          refine plan_r rfl rfl ?_
          go_simp
          refine (MFrom_v m gp _ HOK.out (HPM.out.keep st23.fr id) yy v Hv.out).mono ?_
          rintro e' w24 ⟨rfl, hf24⟩
          have st24 := st23.keep hf24
          clear hf24
          refine ⟨St.less st24 (by simp), ?_⟩
          try simp only [Go.Mv.clL]
          refine plan_m rfl rfl ?_
          refine wp_storeS st24 4 rfl rfl rfl rfl (by first | (simp only [cw_len]; done) | (simp only [List.length_append, cw_len]; done)) (by first | (rw [cw_len]; kernel_rfl) | (simp only [List.length_append, cw_len]; kernel_rfl)) (cw_one _ _) ?_
          intro w25 st25
          try simp only [Act.put]
          refine plan_end ?_
          exact key g8 _ st25
      · skip
        refine wp_allocS st18 rfl (z := .agg #[.int .u64 0, .int .u64 0, .int .u64 0, .int .u64 0]) (by kernel_rfl) (cw 4 0) (by rw [cw_zero]; rfl) ?_
        intro g8 w26 st26
        refine ⟨St.less st26 (by simp), ?_⟩
        try simp only [Go.Mv.clL]
        refine plan_r rfl rfl ?_
        go_simp
        refine (MMul_v m gp _ HOK.out (HPM.out.keep st26.fr id) y i3 yy Hyy.out).mono ?_
        rintro e' w27 ⟨rfl, hf27⟩
        have st27 := st26.keep hf27
        clear hf27
        refine ⟨St.less st27 (by simp), ?_⟩
        try simp only [Go.Mv.clL]
        refine plan_r rfl rfl ?_
        go_simp
        refine (MFrom_v m gp _ HOK.out (HPM.out.keep st27.fr id) yy v Hv.out).mono ?_
        rintro e' w28 ⟨rfl, hf28⟩
        have st28 := st27.keep hf28
        clear hf28
        refine ⟨St.less st28 (by simp), ?_⟩
        try simp only [Go.Mv.clL]
        refine plan_m rfl rfl ?_
        refine wp_storeS st28 4 rfl rfl rfl rfl (by first | (simp only [cw_len]; done) | (simp only [List.length_append, cw_len]; done)) (by first | (rw [cw_len]; kernel_rfl) | (simp only [List.length_append, cw_len]; kernel_rfl)) (cw_one _ _) ?_
        intro w29 st29
        try simp only [Act.put]
        refine plan_end ?_
        exact key g8 _ st29
    · skip
      refine wp_allocS hd17 rfl (z := .agg #[.int .u64 0, .int .u64 0, .int .u64 0, .int .u64 0]) (by kernel_rfl) (cw 4 0) (by rw [cw_zero]; rfl) ?_
      intro g8 w30 st30
      refine ⟨St.less st30 (by simp), ?_⟩
      try simp only [Go.Mv.clL]
      refine plan_r rfl rfl ?_
      go_simp
      refine (MMul_v m gp _ HOK.out (HPM.out.keep st30.fr id) ii i i3 Hi3.out).mono ?_
      rintro e' w31 ⟨rfl, hf31⟩
      have st31 := st30.keep hf31
      clear hf31
      refine ⟨St.less st31 (by simp), ?_⟩
      try simp only [Go.Mv.clL]
      refine plan_r rfl rfl ?_
      go_simp
      refine (MMul_v m gp _ HOK.out (HPM.out.keep st31.fr id) y i3 yy Hyy.out).mono ?_
      rintro e' w32 ⟨rfl, hf32⟩
      have st32 := st31.keep hf32
      clear hf32
      refine ⟨St.less st32 (by simp), ?_⟩
      try simp only [Go.Mv.clL]
      refine plan_r rfl rfl ?_
      go_simp
      refine (MFrom_v m gp _ HOK.out (HPM.out.keep st32.fr id) yy v Hv.out).mono ?_
      rintro e' w33 ⟨rfl, hf33⟩
      have st33 := st32.keep hf33
      clear hf33
      refine ⟨St.less st33 (by simp), ?_⟩
      try simp only [Go.Mv.clL]
      refine plan_m rfl rfl ?_
      refine wp_storeS st33 4 rfl rfl rfl rfl (by first | (simp only [cw_len]; done) | (simp only [List.length_append, cw_len]; done)) (by first | (rw [cw_len]; kernel_rfl) | (simp only [List.length_append, cw_len]; kernel_rfl)) (cw_one _ _) ?_
      intro w34 st34
      try simp only [Act.put]
      refine plan_end ?_
      exact key g8 _ st34
  intro g8 w35 st35
  have st35 : St Nob w w35 [(g3, cw 4 (elN m x) ++ (cw 4 (elN m y) ++ cw 4 (elN m z)), 49), (gb, bs (List.replicate 33 0), 5), (g6, cw 4 (elN m i), 47), (g7, cw 4 (elN m ii), 47), (g8, cw 4 v, 42)] := st35
  clear hd17
  refine NoPanic.normal ?_
  have c1 := (st35.at 4 rfl).cell (cw_get 4 v 0 (by decide))
  obtain ⟨v3, c3, f3⟩ := (st35.at 1 rfl).ready (i := 0) (by rw [length_bs, List.length_replicate]; decide)
  have ha := low_and v
  have hb2 : v % 2 = 0 ∨ v % 2 = 1 := by omega
  generalize hbv : v % 2 = b at *
  have HBV := Lib.hid hbv
  clear hbv
  have ho := or_two b hb2
  have hw8 : IntKind.u8.wrap (b : Int) = (b : Int) := by rcases hb2 with rfl | rfl <;> decide
  have hst2 := st35.set 1 rfl 0 (.int .u8 ((2 + b : Nat) : Int))
  rw [zeros_set (2 + b) (by omega)] at hst2
  have hw16 : IntKind.u8.wrap ((2 + b : Nat) : Int) = ((2 + b : Nat) : Int) := by rcases hb2 with rfl | rfl <;> decide
  have HB2 := Lib.hid hb2
  clear hb2
  go_wp2_with fail
  have st36 : St Nob w _ [(g3, cw 4 (elN m x) ++ (cw 4 (elN m y) ++ cw 4 (elN m z)), 49), (gb, bb1 (2 + b), 5), (g6, cw 4 (elN m i), 47), (g7, cw 4 (elN m ii), 47), (g8, cw 4 v, 42)] := hst2
  clear st35 hst2 c1 c3 f3 ha ho hw8 hw16
  go_wp2_with fail
  refine wp_region_noPanic ?_
  refine wp_region_plan (fun wx => St Nob w wx [(g3, cw 4 (elN m x) ++ (cw 4 (elN m y) ++ cw 4 (elN m z)), 49), (gb, bb1 (2 + b), 5), (g6, cw 4 (elN m i), 47), (g7, cw 4 (elN m ii), 47), (g8, cw 4 v, 42)]) 15 (.w 0 (.w 1 (.w 2 (.w 3 (.t 4 (.w 5 (.w 6 (.w 7 (.t 8 (.w 9 (.t 10 (.t 11 (.r 12 (.r 13 (.r 14 (.m 15 (.w 16 .nil))))))))))))))))) (by kernel_rfl) (by kernel_rfl) st36.drew (fun _ _ _ _ _ h => h) ?_
  have hd36 := st36.drew
  clear st36
  refine plan_w (v := ?_) rfl rfl (fun wx => ?_) ?_
  rotate_left 1
  · (go_simp; with_reducible rfl)
  try simp only [Go.Mv.clL]
  refine plan_w (v := ?_) rfl rfl (fun wx => ?_) ?_
  rotate_left 1
  · (go_simp; with_reducible rfl)
  try simp only [Go.Mv.clL]
  refine plan_w (v := ?_) rfl rfl (fun wx => ?_) ?_
  rotate_left 1
  · (go_simp; with_reducible rfl)
  try simp only [Go.Mv.clL]
  refine plan_w (v := ?_) rfl rfl (fun wx => ?_) ?_
  rotate_left 1
  · (go_simp; with_reducible rfl)
  try simp only [Go.Mv.clL]
  refine plan_t (v := ?_) rfl rfl (fun wx hS => ?_) ?_
  rotate_left 1
  · (have hc := (HCV.out.keep (St.fr hS) id).cell (i := 0) rfl; clear hS; go_simp; with_reducible rfl)
  try simp only [Go.Mv.clL]
  refine plan_w (v := ?_) rfl rfl (fun wx => ?_) ?_
  rotate_left 1
  · (go_simp; with_reducible rfl)
  try simp only [Go.Mv.clL]
  refine plan_w (v := ?_) rfl rfl (fun wx => ?_) ?_
  rotate_left 1
  · (go_simp; with_reducible rfl)
  try simp only [Go.Mv.clL]
  refine plan_w (v := ?_) rfl rfl (fun wx => ?_) ?_
  rotate_left 1
  · (go_simp; with_reducible rfl)
  try simp only [Go.Mv.clL]
  refine plan_t (v := ?_) rfl rfl (fun wx hS => ?_) ?_
  rotate_left 1
  · (have hc := (HCV.out.keep (St.fr hS) id).cell (i := 0) rfl; clear hS; go_simp; with_reducible rfl)
  try simp only [Go.Mv.clL]
  refine plan_w (v := ?_) rfl rfl (fun wx => ?_) ?_
  rotate_left 1
  · (go_simp; with_reducible rfl)
  try simp only [Go.Mv.clL]
  refine plan_arr rfl rfl rfl rfl (cw 4 (elN m x)) (fun wx hS => St.rangeL hS 0 rfl 0 _ (pt_x _ _ _)) Tryd.underlying47 rfl (by first | (rw [cw_len]; kernel_rfl) | (simp only [List.length_append, cw_len]; kernel_rfl)) ?_
  try simp only [Go.Mv.clL]
  refine plan_arr rfl rfl rfl rfl (cw 4 (elN m ii)) (fun wx hS => St.rangeL hS 3 rfl 0 _ (by rw [List.drop_zero, List.take_of_length_le (Nat.le_refl _)])) Tryd.underlying47 rfl (by first | (rw [cw_len]; kernel_rfl) | (simp only [List.length_append, cw_len]; kernel_rfl)) ?_
  try simp only [Go.Mv.clL]
  refine plan_r rfl rfl ?_
  go_simp
  refine (MMul_v m gp _ HOK.out (HPM.out.keep hd36.fr id) x ii xx Hxx.out).mono ?_
  rintro e' w37 ⟨rfl, hf37⟩
  have st37 := hd36.keep hf37
  clear hf37
  clear hd36
  refine ⟨st37, ?_⟩
  try simp only [Go.Mv.clL]
  refine plan_r rfl rfl ?_
  go_simp
  refine (MFrom_v m gp _ HOK.out (HPM.out.keep st37.fr id) xx u Hu.out).mono ?_
  rintro e' w38 ⟨rfl, hf38⟩
  have st38 := st37.keep hf38
  clear hf38
  clear st37
  refine ⟨st38, ?_⟩
  try simp only [Go.Mv.clL]
  refine plan_r rfl rfl ?_
  go_simp
  refine (MBytes_any u _).mono ?_
  rintro e' w39 ⟨vb, rfl, hownb, hf39⟩
  have st39 := st38.keep hf39
  obtain ⟨va, vc, rfl, -, hrd, -⟩ := hownb.form
  clear hownb
  clear hf39
  clear st38
  refine ⟨st39, ?_⟩
  try simp only [Go.Mv.clL]
  refine plan_m rfl rfl ?_
  refine wp_append_in st39 1 rfl rfl Tryd.underlying23 info_u8 (n := 1) (m := 32) (cap := 33) rfl rfl hrd (bs_one _) (by decide) (by have := bb1_len (2 + b); omega) (bb2 (2 + b) u) (bytes_splice _ _) ?_
  intro w40 st40
  have st40 : St Nob w w40 [(g3, cw 4 (elN m x) ++ (cw 4 (elN m y) ++ cw 4 (elN m z)), 49), (gb, bb2 (2 + b) u, 5), (g6, cw 4 (elN m i), 47), (g7, cw 4 (elN m ii), 47), (g8, cw 4 v, 42)] := st40
  clear st39 hrd
  try simp only [Go.Mv.clL]
  refine plan_w (v := ?_) rfl rfl (fun wx => ?_) ?_
  rotate_left 1
  · (go_simp; with_reducible rfl)
  try simp only [Go.Mv.clL]
  refine plan_end ?_
  refine NoPanic.normal ?_
  have hown : Own w40 w.heap.size 5 1 (.slice (some ⟨gb, 0, none⟩) 33 33) 33 (bb2 (2 + b) u) := by
    have h := st40.at 1 rfl
    have h2 := Own.made h w.heap.size HBB.out 1 33 33 (Nat.le_refl _) (by unfold maxLen; omega) (by have := bb2_len (2 + b) u; omega)
    rwa [List.take_of_length_le (by have := bb2_len (2 + b) u; omega)] at h2
  have hfr := st40.fr
  clear st40
  go_wp2_with fail
  go_ret
  exact ⟨_, rfl, by rw [HBV.out]; unfold bb2 at hown; exact hown, hfr⟩
end Go.Proofs.YtemcankmggmgoaaDoor

/- A plan for a region whose operations have guards. -/
namespace Go.Mv
open Go.RowKit
section
variable {P : Program} {ops : Array Oper} {md : Region.Mode} {Q : Exit → Act → World → Prop} {S : World → Prop} {m : Nat}
def wpPlanG (P : Program) (ops : Array Oper) (Q : Exit → Act → World → Prop) (S : World → Prop) : Pl → Act → World → Prop
  | .nil, a, w => Q .normal a w
  | .w i s, a, w => ∃ o v, ops[i]? = some o ∧ YieldsIf P ops (fun _ => True) o v a ∧ wpPlanG P ops Q S s (a.put o.dst v) w
  | .t i s, a, w => ∃ o v, ops[i]? = some o ∧ YieldsIf P ops S o v a ∧ wpPlanG P ops Q S s (a.put o.dst v) w
  | .r i s, a, w => wpOp P ops Q i (fun a' w' => S w' ∧ wpPlanG P ops Q S s a' w') a w
  | .m i s, a, w => wpOp P ops Q i (fun a' w' => wpPlanG P ops Q S s a' w') a w
  | .b _ _ _ _, _, _ => False
  | .c _ _ _ _ _ _, _, _ => False
theorem wpP_of_planG (hsel : Region.noSelect ops = true) (hm : m < ops.size) (hQ : ∀ c (d : Option Tmp) v a w, Q (.panic c) (Act.put a d v) w → Q (.panic c) a w) :
    ∀ (s : Pl) (listed : Array Bool) (a : Act) (w : World), Cl md ops listed → planOk md ops m s listed = true → (listed.getD m true = false → S w) → wpPlanG P ops Q S s a w → wpP P md ops Q S m s.len listed a w
  | .nil, listed, a, w, _, hB, _, h => ⟨by simpa [planOk] using hB, h⟩
  | .w i r, listed, a, w, inv, hB, hS, h => by
    obtain ⟨o, v, ho, hy, hK⟩ := h
    simp only [planOk, Bool.and_eq_true, decide_eq_true_eq] at hB
    obtain ⟨⟨⟨him, hr⟩, hf⟩, hB'⟩ := hB
    have hr' : i ∈ Region.ready md ops listed := by simpa using hr
    exact wpP_takeW ho (Region.noSelect_spec hsel) (fun c a w => hQ c o.dst v a w) him hm r.len listed a w inv (Region.free_spec ho hf) hr' hy hS
      (wpP_of_planG hsel hm hQ r _ _ w (inv.set hr') hB' (fun h => hS (by rwa [getD_set_ne true him] at h)) hK)
  | .t i r, listed, a, w, inv, hB, hS, h => by
    obtain ⟨o, v, ho, hy, hK⟩ := h
    simp only [planOk, Bool.and_eq_true, decide_eq_true_eq] at hB
    obtain ⟨⟨⟨⟨⟨him, hml⟩, hr⟩, hf⟩, han⟩, hB'⟩ := hB
    have hr' : i ∈ Region.ready md ops listed := by simpa using hr
    exact wpP_takeS ho (Region.noSelect_spec hsel) (fun c a w => hQ c o.dst v a w) him han r.len listed a w inv hml (Region.free_spec ho hf) hr' hy (hS hml)
      (wpP_of_planG hsel hm hQ r _ _ w (inv.set hr') hB' (fun _ => hS hml) hK)
  | .r i r, listed, a, w, inv, hB, hS, h => by
    simp only [planOk, Bool.and_eq_true, decide_eq_true_eq] at hB
    obtain ⟨⟨⟨him, hml⟩, hr⟩, hB'⟩ := hB
    have hr' : i ∈ Region.ready md ops listed := by rw [hr]; simp
    refine ⟨fun h0 => (by rw [hr] at h0; cases h0), fun j hj => ?_⟩
    rw [hr] at hj
    have hj' : j = i := by simpa using hj
    subst hj'
    exact wpOp_mono (fun a' w' h' => ⟨fun _ _ => h'.1, wpP_of_planG hsel hm hQ r _ a' w' (inv.set hr') hB' (fun _ => h'.1) h'.2⟩) h
  | .m i r, listed, a, w, inv, hB, hS, h => by
    simp only [planOk, Bool.and_eq_true, Bool.or_eq_true, decide_eq_true_eq] at hB
    obtain ⟨⟨him, hr⟩, hB'⟩ := hB
    have hr' : i ∈ Region.ready md ops listed := by rw [hr]; simp
    refine ⟨fun h0 => (by rw [hr] at h0; cases h0), fun j hj => ?_⟩
    rw [hr] at hj
    have hj' : j = i := by simpa using hj
    subst hj'
    have hml : (listed.setIfInBounds j true).getD m true = true := by
      rcases him with e | e
      · subst e; exact getD_set_self (by rw [inv.size]; exact hm)
      · by_cases e2 : j = m
        · subst e2; exact getD_set_self (by rw [inv.size]; exact hm)
        · rw [getD_set_ne true e2]; exact e
    refine wpOp_mono (fun a' w' h' => ⟨fun h1 h2 => ?_, wpP_of_planG hsel hm hQ r _ a' w' (inv.set hr') hB' (fun h1 => by rw [hml] at h1; cases h1) h'⟩) h
    rcases him with e | e
    · exact absurd e h2
    · rw [e] at h1; cases h1
  | .b _ _ _ _, _, _, _, _, _, _, h => h.elim
  | .c _ _ _ _ _ _, _, _, _, _, _, _, h => h.elim
theorem wp_region_planG {id : Nat} {a : Act} {w : World} {l : List Oper} (S : World → Prop) (m : Nat) (s : Pl) (hm : P.follows .mixedOrders = true) (hB : planAll l.toArray m s = true)
    (hS : S w.drew) (hQ : ∀ c (d : Option Tmp) v a w, Q (.panic c) (Act.put a d v) w → Q (.panic c) a w)
    (h : wpPlanG P l.toArray Q S s a w.drew) : (Code.region id l.toArray true).wp P Q a w := by
  simp only [planAll, Bool.and_eq_true, decide_eq_true_eq] at hB
  obtain ⟨⟨⟨hsel, hms⟩, hlen⟩, hseq⟩ := hB
  have inv0 : Cl .any l.toArray (Array.replicate l.toArray.size false) :=
    ⟨by simp, fun j oj _ hl => (by rw [getD_replicate_false] at hl; cases hl)⟩
  have H := wpP_of_planG (md := .any) hsel hms hQ s _ a w.drew inv0 hseq (fun _ => hS) h
  rw [hlen] at H
  exact wp_region_any hm (wpAny_of_P _ _ _ _ H)
variable {l : List Oper} {i : Nat} {s : Pl} {a : Act} {w : World} {o : Oper}
theorem planG_end (h : Q .normal a w) : wpPlanG P ops Q S .nil a w := h
theorem planG_w (ho : l[i]? = some o) (hg : Region.wanted o (yielded l.toArray a.tmps) = true) {v : Value} (hv : ∀ wx, (execOp a.eval o).run P wx = .ok (.value v) wx) (h : wpPlanG P l.toArray Q S s (a.put o.dst v) w) : wpPlanG P l.toArray Q S (.w i s) a w :=
  ⟨o, v, by simpa using ho, .inl ⟨hg, fun wx _ => hv wx⟩, h⟩
theorem planG_skip (ho : l[i]? = some o) (hg : Region.wanted o (yielded l.toArray a.tmps) = false) (h : wpPlanG P l.toArray Q S s (a.put o.dst undef) w) : wpPlanG P l.toArray Q S (.w i s) a w :=
  ⟨o, undef, by simpa using ho, .inr ⟨hg, rfl⟩, h⟩
theorem planG_skipt (ho : l[i]? = some o) (hg : Region.wanted o (yielded l.toArray a.tmps) = false) (h : wpPlanG P l.toArray Q S s (a.put o.dst undef) w) : wpPlanG P l.toArray Q S (.t i s) a w :=
  ⟨o, undef, by simpa using ho, .inr ⟨hg, rfl⟩, h⟩
theorem planG_t (ho : l[i]? = some o) (hg : Region.wanted o (yielded l.toArray a.tmps) = true) {v : Value} (hv : ∀ wx, S wx → (execOp a.eval o).run P wx = .ok (.value v) wx) (h : wpPlanG P l.toArray Q S s (a.put o.dst v) w) : wpPlanG P l.toArray Q S (.t i s) a w :=
  ⟨o, v, by simpa using ho, .inl ⟨hg, hv⟩, h⟩
theorem planG_arr (ho : l[i]? = some o) (hg : Region.wanted o (yielded l.toArray a.tmps) = true) {ty : TypeId} {x : Operand} (hop : o.op = .load ty x) {g p : Nat} (hx : a.eval x = .pointer (some ⟨g, p, none⟩)) (cs : List Value) (hS : ∀ wx, S wx → wx.rangeAt g p cs)
    {d : TypeDesc} (hu : P.underlying ty = some d) (hd : d.isRow = true) (hi : (P.info? ty).map (·.size) = some cs.length) (h : wpPlanG P l.toArray Q S s (a.put o.dst (.agg cs.toArray)) w) : wpPlanG P l.toArray Q S (.t i s) a w :=
  ⟨o, _, by simpa using ho, yieldsIf_load_mid hg ty x hop g p hx cs d hS hu hd hi, h⟩
theorem planG_r (ho : l[i]? = some o) (hg : Region.wanted o (yielded l.toArray a.tmps) = true) (h : o.wp P a w (fun a' w' => S w' ∧ wpPlanG P l.toArray Q S s a' w') Q) : wpPlanG P l.toArray Q S (.r i s) a w := by
  have ho' : l.toArray[i]? = some o := by simpa using ho
  show wpOp _ _ _ _ _ _ _
  unfold wpOp
  simp only [ho']
  rw [if_pos hg]
  exact .inl h
theorem planG_rskip (ho : l[i]? = some o) (hg : Region.wanted o (yielded l.toArray a.tmps) = false) (h : S w ∧ wpPlanG P l.toArray Q S s (a.put o.dst undef) w) : wpPlanG P l.toArray Q S (.r i s) a w := by
  have ho' : l.toArray[i]? = some o := by simpa using ho
  show wpOp _ _ _ _ _ _ _
  unfold wpOp
  simp only [ho']
  rw [if_neg (by rw [hg]; decide)]
  exact h
theorem planG_m (ho : l[i]? = some o) (hg : Region.wanted o (yielded l.toArray a.tmps) = true) (h : o.wp P a w (fun a' w' => wpPlanG P l.toArray Q S s a' w') Q) : wpPlanG P l.toArray Q S (.m i s) a w := by
  have ho' : l.toArray[i]? = some o := by simpa using ho
  show wpOp _ _ _ _ _ _ _
  unfold wpOp
  simp only [ho']
  rw [if_pos hg]
  exact .inl h
end
end Go.Mv
