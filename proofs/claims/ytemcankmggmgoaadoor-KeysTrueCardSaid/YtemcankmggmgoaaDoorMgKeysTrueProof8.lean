/- keys.Place of a denomination, keys.Key, keys.Set; The law GroupLaw; The law KeysTrue; From a walk that turns nothing (Fr Nob) to what a law's row asks behind the call. -/
import Derived.Test.YtemcankmggmgoaaDoorMgKeysTrueProof4
import Derived.Test.YtemcankmggmgoaaDoorMgKeysTrueProof7
import Derived.Test.YtemcankmggmgoaaDoorMgKeysTrueProof1
import Derived.ProofKit
import Derived.OpenShut
import Derived.Carry
namespace Go.Mv
open Go.RowKit
/-- a slice, cut at its beginning, its capacity too -/
theorem Own.cut0 {w : World} {base : Nat} {T : TypeId} {a : Option Addr} {n c : Nat} {L : List Value} (h : Own w base T 1 (.slice a n c) n L) (m : Nat) (hm : m ≤ n) (ha : 0 < n) : Own w base T 1 (.slice a m m) m (L.take m) := by
  rcases h.2 with ⟨h2, h3⟩ | ⟨g, o, cap, B, h2, hb, hh, hn, hmx, hl, ht⟩
  · omega
  · cases h2
    refine ⟨by have := h.1; simp; omega, .inr ⟨g, o, m, B, rfl, hb, hh, Nat.le_refl _, by omega, by omega, ?_⟩⟩
    rw [← ht, List.take_take, Nat.mul_one, Nat.mul_one, Nat.min_eq_left hm]
end Go.Mv
namespace Go.Proofs.YtemcankmggmgoaaDoor
open Go.RowKit Go.Mv Mvp Mvq Mvk
theorem ctz_pow : ∀ k : Fin 20, Lib.ctz 64 (2 ^ k.val) = k.val := by decide
set_option maxRecDepth 100000 in
theorem place_v (k : Nat) (w : World) (hk : k ≤ 19) (hT : TabAt 0 Lib.deBruijn64tab w) :
    Calls Tryd.prog 9 #[.int .u64 ((2 ^ k : Nat) : Int)] w fun e w' => e = .returned (.tuple #[.int .i64 (k : Int), .int .i64 0]) ∧ w' = w := by
  have hp : 2 ^ k ≤ 524288 := by
    have : 2 ^ k ≤ 2 ^ 19 := Nat.pow_le_pow_right (by decide) hk
    simpa using this
  have h1 := pcn_pow 64 k (by omega)
  have hz := Lib.hid (show Lib.ctz 64 (2 ^ k) = k from ctz_pow ⟨k, by omega⟩)
  generalize 2 ^ k = x at *
  have ho := ones_any x w (by omega)
  rw [h1] at ho
  have hpI : ¬ (524288 : Int) < (x : Int) := by omega
  have htz := tz64_any x (by omega) w hT
  rw [hz.out] at htz
  have HO := Lib.hid ho
  have HT := Lib.hid htz
  clear ho htz h1 hT hz
  go_enter Tryd.func9, Tryd.ntmps9
  go_wp2_with fail
  refine HO.out.mono ?_
  rintro e w' ⟨rfl, rfl⟩
  go_wp2_with fail
  refine HT.out.mono ?_
  rintro e w' ⟨rfl, rfl⟩
  go_wp2_with fail
  go_ret2
  exact ⟨rfl, rfl⟩
def kMint : List UInt8 := [109, 105, 110, 116]
def kKeyset : List UInt8 := [107, 101, 121, 115, 101, 116]
/-- the mint's key -/
def kyS (l : List UInt8) (n k : Nat) : List UInt8 := be32 (scN mQ.M (tagL kKey [derK l [n, k], kMint]))
theorem kyS_t (l : List UInt8) (n k : Nat) : kyS l n k = be32 (scN mQ.M (tagL kKey [derK l [n, k], [109, 105, 110, 116]])) := rfl
theorem kyS_len (l : List UInt8) (n k : Nat) : (kyS l n k).length = 32 := be32_len _
theorem scN_lt (d : List UInt8) : scN mQ.M d < mQ.M := by
  unfold scN
  split
  · decide
  · exact Nat.mod_lt _ (by decide)
theorem kyS_num (l : List UInt8) (n k : Nat) : numB mQ (kyS l n k) = true := by
  have h := scN_lt (tagL kKey [derK l [n, k], kMint])
  unfold numB kyS
  rw [be32_len, beN_be32 _ (Nat.lt_trans h (by decide)), decide_eq_true rfl, decide_eq_true h]
  rfl
/-- its public key -/
noncomputable def kyP (l : List UInt8) (n k : Nat) : List UInt8 := wrPt (pmul (beN (kyS l n k)) gP)
theorem kyP_len (l : List UInt8) (n k : Nat) : (kyP l n k).length = 33 := wrPt_len _
theorem kyP_t (l : List UInt8) (n k : Nat) : tS (kyS l n k) (wrPt gP) = kyP l n k ∧ tC (kyS l n k) (wrPt gP) = 0 := by
  have hg := rd_wr gP_on
  constructor
  · unfold tS kyP; rw [kyS_num, hg.1, hg.2, Bool.and_self, if_pos rfl]
  · unfold tC; rw [kyS_num, hg.1, if_pos rfl, if_pos rfl]
theorem info_u32t : (Tryd.prog.info? 22).map (fun i => (i.zero, i.size, i.bytes)) = some (some (.int .u32 0), 1, 4) := by kernel_rfl
theorem info_bsk : (Tryd.prog.info? 23).map (fun i => (i.zero, i.size, i.bytes)) = some (some (.slice none 0 0), 1, 24) := by kernel_rfl
theorem z_ks : (Tryd.prog.info? 26).map (·.zero) = some (some (.agg #[.slice none 0 0, .slice none 0 0])) := by kernel_rfl
theorem sz_ks : (Tryd.prog.info? 26).map (·.size) = some 2 := by kernel_rfl
noncomputable def kyL (l : List UInt8) (n j : Nat) : List (List UInt8) := (List.range j).map (kyP l n)
theorem kyL_succ (l : List UInt8) (n j : Nat) : kyL l n (j + 1) = kyL l n j ++ [kyP l n j] := by simp [kyL, List.range_succ]
theorem kyL_len (l : List UInt8) (n j : Nat) : (kyL l n j).length = j := by simp [kyL]
theorem kyL_0 (l : List UInt8) (n : Nat) : kyL l n 0 = [] := rfl
theorem kyL_33 (l : List UInt8) (n j : Nat) : ∀ x ∈ kyL l n j, x.length = 33 := by
  intro x hx
  unfold kyL at hx
  obtain ⟨k, -, rfl⟩ := List.mem_map.1 hx
  exact kyP_len _ _ _
theorem kyL_at (l : List UInt8) (n j k : Nat) (hk : k < j) : (kyL l n j)[k]? = some (kyP l n k) := by simp [kyL, hk]
/-- the set's name -/
noncomputable def kyN (l : List UInt8) (n : Nat) : List UInt8 := (tagL kKeyset (kyL l n 20)).take 8
theorem kyN_len (l : List UInt8) (n : Nat) : (kyN l n).length = 8 := by unfold kyN; rw [List.length_take, tagL_len]; rfl
theorem bs_take8 (l : List UInt8) : (bs l).take 8 = bs (l.take 8) := by unfold bs; rw [List.map_take]
theorem SOwn.off {w w' : World} {base : Nat} {v : Value} {ls : List (List UInt8)} {g : Nat} {L : List Value} {T : TypeId} (h : SOwn w base v ls) (hf : Fr (One g) w w') (hg : Has w g L T) (h1 : 23 ≠ T) (h2 : 5 ≠ T) : SOwn w' base v ls := by
  obtain ⟨vs, a, b, c⟩ := h
  exact ⟨vs, a.keep hf (fun k hk (e : k = g) => a.ne hg h1 (e ▸ hk)), POwn.keep hf b (fun v n l ho k hk (e : k = g) => ho.ne hg h2 (e ▸ hk)), c⟩
theorem wl_storeSK {P : Program} {w w0 : World} {ops : Array Oper} {rest : List Oper} {o : Oper} {a : Act} {Q : Exit → Act → World → Prop} {S : Nat → Prop} {bl : List (Nat × List Value × TypeId)} (hst : St S w0 w bl) (i : Nat) {g : Nat} {L : List Value} {T : TypeId} (hb : bl[i]? = some (g, L, T)) {ty : TypeId} {x y : Operand} (hgd : o.guard = none) (ho : o.op = .store ty x y) (hx : a.eval x = .pointer (some ⟨g, 0, none⟩)) {cs : List Value} (hy : a.eval y = .agg cs.toArray)
    (hn : cs.length = L.length) (hi : (P.info? ty).map (·.size) = some cs.length) (h1 : ∀ v ∈ cs, v.oneCell' = true)
    (h : ∀ w', St S w0 w' (bl.set i (g, cs, T)) → Fr (One g) w w' → wpList P ops Q rest (a.put o.dst undef) w') : wpList P ops Q (o :: rest) a w :=
  wl_storeA hgd ho hx hy (hst.at i hb) (by omega) hi h1 fun w' hg hf _ => h w' (hst.put i hb hf (by rwa [splice_whole _ _ hn] at hg)) hf
/-- an owned slice stands where a block of another type is written -/
theorem Own.offT {w w' : World} {base : Nat} {T : TypeId} {sz : Nat} {v : Value} {n : Nat} {L : List Value} (h : Go.Mv.Own w base T sz v n L) {g : Nat} (hf : Fr (One g) w w') {L' : List Value} {T' : TypeId} (hg : Has w g L' T') (hT : T ≠ T') : Go.Mv.Own w' base T sz v n L :=
  h.keep hf fun k hk (e : k = g) => h.ne hg hT (e ▸ hk)
theorem Sep.cons {w w' : World} {base : Nat} {vs : List Value} {ls : List (List UInt8)} (h : Sep vs) (hp : POwn w base vs ls) {v : Value} {n : Nat} {L : List Value} {T : TypeId} (hv : Go.Mv.Own w' w.heap.size T 1 v n L) : Sep (v :: vs) := by
  unfold Sep at *
  refine List.pairwise_cons.2 ⟨fun b hb k hk hk' => ?_, h⟩
  obtain ⟨l, _, ho⟩ := hp.mem hb
  have h1 := (ho.lt hk').2
  have h2 := (hv.lt hk).1
  omega
attribute [local irreducible] limbs lw mix cw cSub cAdd cMul beN laid be32 montT mstep elN mdL numB rtV rtOk wrPt rdOk rdPt pmul permS permP toB turnsK squeeze permN spongeB feed frameL framesL tagL derK scN kyS kyP kyL kyN tS tC
set_option maxHeartbeats 1000000 in
set_option maxRecDepth 1000000 in
theorem Key_ok (a : Option Addr) (c : Nat) (l : List UInt8) (n k : Nat) (w : World) (hp : PartIs w (.slice a 32 c) l) (hn : n ≤ 4294967295) (hk : k ≤ 19) (hT : TabAt 0 Lib.deBruijn64tab w) :
    Calls Tryd.prog 5 #[.slice a 32 c, .int .u32 (n : Int), .int .u64 ((2 ^ k : Nat) : Int)] w fun e w' => ∃ v, e = .returned (.tuple #[v, .int .i64 0]) ∧ OwnB1 w w' v (kyS l n k) ∧ Fr Nob w w' := by
  have HP := Lib.hid hp
  have HPL := Lib.hid (place_v k w hk hT)
  have HK := Lib.hid hk
  have HN := Lib.hid hn
  have hk0 : (k : Int) < 4294967296 := by omega
  have hk1 : (k : Int) % 4294967296 = (k : Int) := by omega
  clear hp hT hk hn
  generalize ((2 ^ k : Nat) : Int) = X at *
  go_enter Tryd.func5, Tryd.ntmps5
  go_wp2_with fail
  refine HPL.out.mono ?_
  rintro e' w1 ⟨rfl, rfl⟩
  clear HPL
  go_wp2_with (with_reducible refine wl_stop (o := ⟨some 25, _, _, _, _, _⟩) ?_)
  refine wl_slit rfl rfl Tryd.underlying40 info_u32t [.int .u32 (n : Int), .int .u32 (k : Int)] rfl (by simp; exact ⟨rfl, rfl⟩) rfl rfl ?_
  intro w2 hh hf hz
  have HH := Lib.hid (show Rd w2 (some ⟨w1.heap.size, 0, none⟩) 2 (u32s [n, k]) from Rd.whole hh)
  have HF := Lib.hid hf
  have HPK := Lib.hid (HP.out.still hf)
  clear hh hf hz hk0 hk1
  have hc := Scalar9_ok mQ .one a c l ⟨#[109, 105, 110, 116]⟩ (some ⟨w1.heap.size, 0, none⟩) 2 [n, k] w2 HPK.out (by decide) (by simp) (by intro x hx; have := HK.out; have := HN.out; simp only [List.mem_cons, List.not_mem_nil, or_false] at hx; omega) HH.out
  generalize hg : w1.heap.size = g at *
  have HG := Lib.hid hg
  have HC := Lib.hid hc
  clear hg hc HH
  go_wp2_with fail
  refine HC.out.mono ?_
  rintro e' w3 ⟨v, rfl, ho, hf⟩
  have HO := Lib.hid (ho.mono (by have := HF.out.size; exact this))
  have HFF := Lib.hid (HF.out.then hf)
  clear ho hf HC
  go_wp2_with fail
  go_ret2
  exact ⟨v, rfl, OwnB1.of (by rw [kyS_t]; exact HO.out) (kyS_len _ _ _), HFF.out⟩

set_option maxHeartbeats 1000000 in
set_option maxRecDepth 1000000 in
theorem Set_ok (a : Option Addr) (c : Nat) (l : List UInt8) (n : Nat) (w : World) (hp : PartIs w (.slice a 32 c) l) (hn : n ≤ 4294967295) (hT : TabAt 0 Lib.deBruijn64tab w) :
    Calls Tryd.prog 4 #[.slice a 32 c, .int .u32 (n : Int)] w fun e w' => ∃ nm q vs, e = .returned (.tuple #[.agg #[nm, q], .int .i64 0]) ∧ Go.Mv.Own w' w.heap.size 23 1 q 20 vs ∧ POwn w' w.heap.size (nm :: vs) (kyN l n :: kyL l n 20) ∧ Sep (nm :: vs) ∧ Fr Nob w w' := by
  have HP := Lib.hid hp
  have HT := Lib.hid hT
  have HN := Lib.hid hn
  clear hp hT hn
  have st0 := St.start Nob w
  go_enter Tryd.func4, Tryd.ntmps4
  go_wp2_with (with_reducible refine wl_stop (o := ⟨some 4, _, _, _, _, _⟩) ?_)
  refine wl_allocS st0 rfl rfl z_ks [.slice none 0 0, .slice none 0 0] rfl ?_
  intro g4 w1 st1
  clear st0
  go_wp2_with (with_reducible refine wl_stop (o := ⟨some 6, _, _, _, _, _⟩) ?_)
  refine wl_allocS st1 rfl rfl z_ks [.slice none 0 0, .slice none 0 0] rfl ?_
  intro g6 w2 st2
  simp only [List.cons_append, List.nil_append] at st2
  have ST := Lib.hid st2
  clear st1 st2
  go_wp2_with fail
  go_loopw [16] (fun i wr => ∃ (j : Nat) (q : Value), j ≤ 20 ∧ i = .int .i64 (j : Int) ∧ St Nob w wr [(g4, [.slice none 0 0, .slice none 0 0], 26), (g6, [.slice none 0 0, q], 26)] ∧ SOwn wr w.heap.size q (kyL l n j)) (fun i _ => 20 - (intOf i).toNat)
  case atStart => exact ⟨0, _, Nat.zero_le _, rfl, ST.out, by rw [kyL_0]; exact SOwn.nil _ _⟩
  case round =>
    clear ST
    obtain ⟨j, q, hj, rfl, hst, hso⟩ := hrel
    have HSO := Lib.hid hso
    clear hso
    by_cases hlt : j < 20
    · have hltI : (j : Int) < 20 := by omega
      have HJ := Lib.hid hlt
      have hp1 : (2 ^ j : Nat) ≤ 524288 := by
        have : 2 ^ j ≤ 2 ^ 19 := Nat.pow_le_pow_right (by decide) (by omega)
        simpa using this
      have hk := Key_ok a c l n j _ (HP.out.still hst.fr) HN.out (by omega) (TabAt.still HT.out hst.fr)
      obtain ⟨x, hx⟩ : ∃ x : Nat, 2 ^ j = x := ⟨_, rfl⟩
      have hxI : (2 : Int) ^ j = (x : Int) := by rw [← hx]; simp
      rw [hx] at hk hp1
      have hx1 : (x : Int) < 18446744073709551616 := by omega
      have HK := Lib.hid hk
      clear hk hx
      clear hj hlt hp1
      go_wp2_with fail
      refine HK.out.mono ?_
      rintro e' w3 ⟨v, rfl, ho, hf⟩
      have HB := Lib.hid (OwnB1.part ho)
      have st3 := hst.keep hf
      have HS3 := Lib.hid (HSO.out.still hf)
      clear hst HSO HK ho hf hxI hx1
      go_wp2_with fail
      refine (GBase_u _).mono ?_
      rintro e' w4 ⟨vb, rfl, ho, hf⟩
      have HB2 := Lib.hid (OwnB1.part ho)
      have st4 := st3.keep hf
      have HS4 := Lib.hid (HS3.out.still hf)
      replace HB := Lib.hid (HB.out.still hf)
      clear st3 HS3 ho hf
      go_wp2_with fail
      refine (GTimes_u v vb (kyS l n j) (wrPt gP) _ HB.out HB2.out).mono ?_
      rintro e' w5 ⟨v5, rfl, ho, hf⟩
      rw [(kyP_t l n j).1] at ho
      rw [(kyP_t l n j).2]
      unfold OwnB1 at ho
      have HOB := Lib.hid ho
      have ho2 := ho
      rw [kyP_len] at ho2
      obtain ⟨a5, c5, rfl, -, -, -⟩ := Go.Mv.Own.form ho2
      have HW4 := Lib.hid st4.fr.size
      have st5 := st4.keep hf
      have HF5 := Lib.hid hf
      clear st4 ho ho2 hf HB HB2
      have hc := (st5.at 1 rfl).cell (i := 1) (v := q) rfl
      go_wp2_with (with_reducible refine wl_stop (o := ⟨some 36, _, _, _, _, _⟩) ?_)
      refine wl_slit rfl rfl Tryd.underlying24 info_bsk [.slice a5 33 c5] rfl (by simp; rfl) rfl rfl ?_
      intro w6 hh hf6 hz6
      clear hz6
      have st6 := st5.keep hf6
      obtain ⟨vs, hown, hpo, hsep⟩ := HS4.out
      have hown6 := (hown.still HF5.out).still hf6
      have HH := Lib.hid (Rd.whole hh)
      have HKL := Lib.hid (kyL_len l n j)
      clear hh st5 hc
      go_wp2_with (with_reducible refine wl_stop (o := ⟨some 37, _, _, _, _, _⟩) ?_)
      refine wl_append rfl rfl Tryd.underlying24 info_bsk rfl (by decide) hown6 rfl rfl HH.out (fun u hu => by rw [List.mem_singleton.1 hu]; rfl) (by have := HKL.out; have := HJ.out; unfold maxLen; first | omega | (simp only [List.length_cons, List.length_nil]; omega)) (by have := HKL.out; have := HJ.out; first | omega | (simp only [List.length_cons, List.length_nil]; omega)) st6.fr.size ?_
      intro q2 w7 ho7 hf7 hb7
      clear hb7
      obtain ⟨e7, d7, rfl, -, -, -⟩ := Go.Mv.Own.form ho7
      have hso7 : SOwn w7 w.heap.size (.slice e7 ((kyL l n j).length + 1) d7) (kyL l n (j + 1)) := by
        rw [kyL_succ]
        exact SOwn.snocF hown hpo hsep HW4.out HOB.out HF5.out hf6 ho7 hf7
      have st7 := st6.keepOs hown6 (Nat.le_refl _) hf7 (by
        intro x hx hk
        simp only [List.mem_cons, List.not_mem_nil, or_false] at hx
        rcases hx with rfl | rfl
        · exact hown6.ne (st6.at 0 rfl) (by decide) hk
        · exact hown6.ne (st6.at 1 rfl) (by decide) hk)
      obtain ⟨u, hcu, hfz⟩ := (st7.at 1 rfl).ready (i := 1) (by simp)
      have ST8 := Lib.hid (st7.set 1 rfl 1 (.slice e7 ((kyL l n j).length + 1) d7))
      have SO8 := Lib.hid (hso7.off ((Fr.refl (One g6) w7).setCell g6 1 none (.slice e7 ((kyL l n j).length + 1) d7) (fun _ => rfl)) (st7.at 1 rfl) (by decide) (by decide))
      clear hown hpo hsep hown6 HH ho7 hf7 hso7 st7 st6 hf6 HS4 HOB HF5 HW4
      go_wp2_with fail
      go_roundw
      case rel => exact ⟨j + 1, _, by have := HJ.out; omega, by go_num, ST8.out, SO8.out⟩
      case measure => simp [intOf]; have := HJ.out; omega
    · have hge : ¬ ((j : Int) < 20) := by omega
      obtain rfl : j = 20 := by omega
      clear hj hlt
      obtain ⟨aq, cq, rfl, hcq, hpa⟩ := (HSO.out.lown).parts (fun x hx => by rw [kyL_33 l n 20 x hx]; decide)
      have hc := (hst.at 1 rfl).cell (i := 1) (v := .slice aq (kyL l n 20).length cq) rfl
      have HTG := Lib.hid (Tag_any ⟨#[107, 101, 121, 115, 101, 116]⟩ aq cq (kyL l n 20) wr (by decide) (by rw [kyL_len]; decide) hpa)
      clear hpa hcq
      go_wp2_with fail
      refine HTG.out.mono ?_
      rintro e' w9 ⟨v9, rfl, ho, hf⟩
      have st9 := hst.keep hf
      have HW9 := Lib.hid hst.fr.size
      obtain ⟨a9, c9, rfl, hc9, -, -⟩ := Go.Mv.Own.form ho
      have hnm := Go.Mv.Own.cut0 (n := 32) ho 8 (by decide) (by decide)
      rw [bs_take8] at hnm
      obtain ⟨vs, hown, hpo, hsep⟩ := HSO.out
      have HSEP := Lib.hid (Sep.cons hsep hpo hnm)
      have hnm2 := hnm.mono HW9.out
      have hown9 := hown.still hf
      have hpo9 := hpo.still hf
      clear hst hc HTG ho hf hnm hown hpo hsep HSO
      go_wp2_with (with_reducible refine wl_stop (o := ⟨some 43, _, _, _, _, _⟩) ?_)
      refine wl_cut3 rfl rfl Tryd.underlying23 size_u8 rfl 0 8 8 rfl rfl rfl rfl rfl (by decide) (by decide) (by omega) ?_
      rw [cutAt_0]
      obtain ⟨u, hcu, hfz⟩ := (st9.at 1 rfl).ready (i := 0) (by simp)
      have st10 := st9.set 1 rfl 0 (.slice a9 8 8)
      have hfo := (Fr.refl (One g6) w9).setCell g6 0 none (.slice a9 8 8) (fun _ => rfl)
      have hnm3 := Own.offT hnm2 hfo (st9.at 1 rfl) (by decide)
      have hown10 := Own.offT hown9 hfo (st9.at 1 rfl) (by decide)
      have hpo10 := POwn.keep hfo hpo9 (fun v n l ho k hk (e : k = g6) => ho.ne (st9.at 1 rfl) (by decide) (e ▸ hk))
      have ST10 := Lib.hid st10
      have HNM := Lib.hid hnm3
      have HOW := Lib.hid hown10
      have HPO := Lib.hid hpo10
      clear st9 st10 hfo hnm2 hnm3 hown9 hown10 hpo9 hpo10
      go_wp2_with (with_reducible refine wl_stop (o := ⟨some 45, _, _, _, _, _⟩) ?_)
      generalize w9.setCell ⟨g6, 0, none⟩ (.slice a9 8 8) = w10 at *
      have st10 := ST10.out
      simp only [List.set_cons_zero, List.set_cons_succ] at st10
      refine wl_loadSt st10 1 rfl rfl rfl Tryd.underlying26 rfl rfl sz_ks ?_
      go_wp2_with (with_reducible refine wl_stop (o := ⟨none, _, _, _, _, _⟩) ?_)
      refine wl_storeSK st10 0 rfl rfl rfl rfl rfl (cs := [.slice a9 8 8, .slice aq (kyL l n 20).length cq]) rfl sz_ks (by intro v hv; simp only [List.mem_cons, List.not_mem_nil, or_false] at hv; rcases hv with rfl | rfl <;> rfl) ?_
      intro w11 st11 hf11
      have HNM2 := Lib.hid (Own.offT HNM.out hf11 (st10.at 0 rfl) (by decide))
      have HOW2 := Lib.hid (Own.offT HOW.out hf11 (st10.at 0 rfl) (by decide))
      have HPO2 := Lib.hid (POwn.keep hf11 HPO.out (fun v n l ho k hk (e : k = g4) => ho.ne (st10.at 0 rfl) (by decide) (e ▸ hk)))
      have hr := st11.at 0 rfl
      have hfr := st11.fr
      clear st10 st11 hf11 HNM HOW HPO ST10 hcu hfz
      go_wp2_with fail
      have HK20 := Lib.hid (kyL_len l n 20)
      refine bodyPost_ret (results_st2 rfl rfl hr Tryd.underlying26 rfl sz_ks rfl) rfl ⟨_, _, vs, rfl, by have h := HOW2.out; rw [HK20.out] at h ⊢; exact h, ?_, HSEP.out, hfr⟩
      exact ⟨by rw [kyN_len]; have h := HNM2.out; unfold kyN; exact h, HPO2.out⟩
end Go.Proofs.YtemcankmggmgoaaDoor

/- The law GroupLaw. -/
namespace Go.Mv
open Go.RowKit
variable {P : Program} {ops : Array Oper} {a : Act} {w : World} {rest : List Oper} {Q : Exit → Act → World → Prop} {o : Oper}
/-- copy(d, s), s a string that may be longer -/
theorem wl_copy_strM {d s : Operand} {t u : TypeId} (hgd : o.guard = none) (ho : o.op = .call { callee := .builtin .copy, args := #[d, s], argTypes := #[t, u] }) {e : TypeId} (ht : P.underlying t = some (.slice e)) (hsz : (P.info? e).map (·.size) = some 1)
    {g off dn dc : Nat} (hd : a.eval d = .slice (some ⟨g, off, none⟩) dn dc) {q : ByteArray} (hs : a.eval s = .string q) {B : List Value} {T : TypeId} (hg : Has w g B T)
    (hfit : off + min q.size dn ≤ B.length)
    (h : ∀ w', Has w' g (splice B off (bs (q.data.toList.take (min q.size dn)))) T → Fr (One g) w w' → w'.heap.size = w.heap.size → wpList P ops Q rest (a.put o.dst (.int .i64 (min q.size dn : Nat))) w') : wpList P ops Q (o :: rest) a w := by
  refine wpList_plain hgd fun K hK => ?_
  obtain ⟨i, hi, hi1⟩ : ∃ i, P.info? e = some i ∧ i.size = 1 := by simpa using hsz
  have hlen : (bs (q.data.toList.take (min q.size dn))).length = min q.size dn := by rw [length_bs, List.length_take]; simp
  obtain ⟨w', hst, hh, hf, hz⟩ := run_storeCells_has (P := P) g off T (bs (q.data.toList.take (min q.size dn))) 0 B w hg (by rw [hlen]; omega) (bs_one _)
  simp only [Nat.add_zero] at hh
  have hr : (Builtin.copy_ #[t, u] o.type #[.slice (some ⟨g, off, none⟩) dn dc, .string q]).run P w = .ok (.int .i64 (min q.size dn : Nat)) w' := by
    simp [Builtin.copy_, run_underlying ht, sizeOf, typeInfo, hi, Builtin.lenOf, Builtin.firstCells, bs_arr, goInt]
    rw [show q.size.min dn = min q.size dn from rfl, bs_take, hst]
    rfl
  unfold Oper.wp execOp
  simp only [ho, resolve, invoke, builtin, Sem.run_bind, Sem.run_pure, Result.andThen_ok, List.map_toArray, List.map_cons, List.map_nil, hd, hs, hr]
  exact hK _ _ (h w' hh hf hz)
end Go.Mv
namespace Go.Proofs.YtemcankmggmgoaaDoor
open Go.RowKit Go.Mv Mvp Mvq
end Go.Proofs.YtemcankmggmgoaaDoor

/- The law KeysTrue. -/
namespace Go.Proofs.YtemcankmggmgoaaDoor
open Go.RowKit Go.Mv Mvp Mvq Mvk
/-- thirty-two bytes of any -/
def sd32 (l : List UInt8) : List UInt8 := l.take 32 ++ List.replicate (32 - l.length) 0
theorem sd32_len (l : List UInt8) : (sd32 l).length = 32 := by simp [sd32]; omega
theorem sd32_cells (l : List UInt8) : splice (List.replicate 32 (Value.int .u8 0)) 0 (bs (l.take (min l.length 32))) = bs (sd32 l) := by
  have e : l.take (min l.length 32) = l.take 32 := by
    rcases Nat.le_total l.length 32 with h | h
    · rw [Nat.min_eq_left h, List.take_of_length_le (Nat.le_refl _), List.take_of_length_le h]
    · rw [Nat.min_eq_right h]
  rw [e]
  unfold splice sd32
  rw [length_bs, List.length_take, List.take_zero, List.nil_append, List.drop_replicate]
  simp [bs]
  omega
attribute [local irreducible] limbs lw mix cw cSub cAdd cMul beN laid be32 montT mstep elN mdL numB rtV rtOk wrPt rdOk rdPt pmul permS permP toB turnsK squeeze permN spongeB feed frameL framesL tagL derK scN kyS kyP kyL kyN tS tC sd32
set_option maxHeartbeats 4000000 in
set_option maxRecDepth 1000000 in
theorem law_KeysTrue (s : ByteArray) (n : Nat) (i : Int) (w : World) (hs : s.size ≤ 140737488351232) (hn : n ≤ 4294967295) (hi : -9223372036854775808 ≤ i ∧ i ≤ 9223372036854775807) (hT : TabAt 0 Lib.deBruijn64tab w) :
    Calls Tryd.prog 3 #[.string s, .int .u32 (n : Int), .int .i64 i] w fun e w' => e = .returned (.bool true) ∧ Fr Nob w w' := by
  have HT := Lib.hid hT
  have HN := Lib.hid hn
  have HS := Lib.hid hs
  clear hT hn hs
  go_enter Tryd.func3, Tryd.ntmps3
  go_wp2_with (first
    | (at_make; refine wl_make rfl rfl Tryd.underlying23 info_u8 rfl rfl rfl 32 32 (by simp) (by simp) (by omega) (by omega) (by unfold maxLen; omega) ?_; intro w1 hw1 hf1 hz1)
    | (with_reducible refine wl_stop (o := ⟨some 17, _, _, _, _, _⟩) ?_))
  clear hz1
  generalize hg0 : w.heap.size = g at *
  have HG0 := Lib.hid hg0
  clear hg0
  refine wl_copy_strM rfl rfl Tryd.underlying23 size_u8 rfl rfl hw1 (by simp; omega) ?_
  intro w2 hw2 hf2 hz2
  clear hz2 hw1
  have hsz : s.size = s.data.toList.length := by simp
  rw [hsz] at hw2
  rw [sd32_cells] at hw2
  have HF := Lib.hid (hf1.new hf2 (by rw [HG0.out]; exact Nat.le_refl _))
  obtain ⟨l, hl⟩ : ∃ l, sd32 s.data.toList = l := ⟨_, rfl⟩
  rw [hl] at hw2
  have HLL := Lib.hid (show l.length = 32 by rw [← hl]; exact sd32_len _)
  have HP := Lib.hid (show PartIs w2 (.slice (some ⟨g, 0, none⟩) 32 32) l from ⟨_, 32, 32, rfl, Nat.le_refl _, by decide, by have h := Rd.whole hw2; rw [length_bs, HLL.out] at h; exact h, fun x hx => by cases hx; exact hw2.lt⟩)
  replace HT := Lib.hid (TabAt.still HT.out HF.out)
  clear hf1 hf2 hsz hl hw2
  by_cases hneg : i < 0
  · obtain ⟨m, hm⟩ : ∃ m : Nat, -(i + 1) = (m : Int) := ⟨(-(i + 1)).toNat, by omega⟩
    have hi1 : -9223372036854775808 ≤ i + 1 := by omega
    have hi2 : i + 1 ≤ 0 := by omega
    obtain ⟨k, hk⟩ : ∃ k : Nat, (m : Int) % 20 = (k : Int) := ⟨m % 20, by omega⟩
    have hkI : (k : Int) < 20 := by omega
    go_wp2_with fail
    try rw [hk]
    have HKK := Lib.hid (show k < 20 by omega)
    clear hk
    refine (Set_ok (some ⟨g, 0, none⟩) 32 l n w2 HP.out HN.out HT.out).mono ?_
    rintro e' w3 ⟨nm, q, vs, rfl, hown, hpo, hsep, hf⟩
    obtain ⟨aq, cq, rfl, -, hrq, -⟩ := Go.Mv.Own.form hown
    rw [Nat.mul_one] at hrq
    obtain ⟨bq, oq, rfl, -⟩ := hrq.at (by decide)
    obtain ⟨hnm, hpo2⟩ := hpo
    rw [kyN_len] at hnm
    obtain ⟨an, cn, rfl, -, -, -⟩ := Go.Mv.Own.form hnm
    obtain ⟨vk, hvk⟩ : ∃ v, vs[k]? = some v := ⟨_, List.getElem?_eq_getElem (by rw [hrq.len]; exact HKK.out)⟩
    obtain ⟨lk, hlk, hok⟩ := hpo2.get k vk hvk
    rw [kyL_at l n 20 k HKK.out] at hlk
    obtain rfl := Option.some.inj hlk
    rw [kyP_len] at hok
    obtain ⟨ak, ck, rfl, -, hrk, -⟩ := Go.Mv.Own.form hok
    rw [Nat.mul_one] at hrk
    have HRK := Lib.hid (show RdB w3 ak 33 (kyP l n k) from hrk)
    have HCK := Lib.hid (rd_at0 hrq k _ hvk)
    have HF3 := Lib.hid (HF.out.then hf)
    have HP3 := Lib.hid (HP.out.still hf)
    have HT3 := Lib.hid (TabAt.still HT.out hf)
    clear hown hnm hpo2 hsep hf hrq hvk hlk hok hrk HP HT HF
    have st0 := St.start Nob w3
    go_wp2_with (with_reducible refine wl_stop (o := ⟨some 8, _, _, _, _, _⟩) ?_)
    refine wl_allocS st0 rfl rfl z_ks [.slice none 0 0, .slice none 0 0] rfl ?_
    intro g8 w4 st4
    clear st0
    go_wp2_with (with_reducible refine wl_stop (o := ⟨none, _, _, _, _, _⟩) ?_)
    refine wl_storeSK st4 0 rfl rfl rfl rfl rfl (cs := [.slice an 8 cn, .slice (some ⟨bq, oq, none⟩) 20 cq]) rfl sz_ks (by intro v hv; simp only [List.mem_cons, List.not_mem_nil, or_false] at hv; rcases hv with rfl | rfl <;> rfl) ?_
    intro w5 st5 hf5
    clear hf5 st4
    have hky := Key_ok (some ⟨g, 0, none⟩) 32 l n k w5 (HP3.out.still st5.fr) HN.out (by have := HKK.out; omega) (TabAt.still HT3.out st5.fr)
    have hp1 : (2 ^ k : Nat) ≤ 524288 := by
      have : 2 ^ k ≤ 2 ^ 19 := Nat.pow_le_pow_right (by decide) (by have := HKK.out; omega)
      simpa using this
    obtain ⟨x, hx⟩ : ∃ x : Nat, 2 ^ k = x := ⟨_, rfl⟩
    have hxI : (2 : Int) ^ k = (x : Int) := by rw [← hx]; simp
    rw [hx] at hky hp1
    have hx1 : (x : Int) < 18446744073709551616 := by omega
    have HKY := Lib.hid hky
    clear hky hx hp1
    go_wp2_with fail
    refine HKY.out.mono ?_
    rintro e' w6 ⟨v, rfl, ho, hf⟩
    have HB := Lib.hid (OwnB1.part ho)
    have st6 := st5.keep hf
    clear st5 HKY ho hf hxI hx1
    go_wp2_with fail
    refine (GBase_u _).mono ?_
    rintro e' w7 ⟨vb, rfl, ho, hf⟩
    have HB2 := Lib.hid (OwnB1.part ho)
    have st7 := st6.keep hf
    replace HB := Lib.hid (HB.out.still hf)
    clear st6 ho hf
    go_wp2_with fail
    refine (GTimes_u v vb (kyS l n k) (wrPt gP) _ HB.out HB2.out).mono ?_
    rintro e' w8 ⟨v5, rfl, ho, hf⟩
    rw [(kyP_t l n k).1] at ho
    rw [(kyP_t l n k).2]
    unfold OwnB1 at ho
    rw [kyP_len] at ho
    obtain ⟨a5, c5, rfl, -, hr5, -⟩ := Go.Mv.Own.form ho
    rw [Nat.mul_one] at hr5
    have st8 := st7.keep hf
    have hc1 := (st8.at 0 rfl).cell (i := 1) (v := .slice (some ⟨bq, oq, none⟩) 20 cq) rfl
    have hc0 := (st8.at 0 rfl).cell (i := 0) (v := .slice an 8 cn) rfl
    have hck := st8.fr.cell id HCK.out
    have x1 := fun nq => run_string (P := Tryd.prog) (RdB.still (HRK.out.still st8.fr) ((Fr.refl Nob w8).drewN nq)) ck Tryd.underlying23 Tryd.underlying5 Tryd.underlying9
    have x2 := fun nq => run_string (P := Tryd.prog) (RdB.still (show RdB w8 a5 33 (kyP l n k) from hr5) ((Fr.refl Nob w8).drewN nq)) c5 Tryd.underlying23 Tryd.underlying5 Tryd.underlying9
    have HFR := Lib.hid (HF3.out.then st8.fr)
    clear st7 st8 ho hf hr5 HB HB2 HCK HRK HP3 HT3 HF3
    generalize mkS (kyP l n k) = P at *
    go_wp2_with fail
    go_quiet (fail)
    have hfr := HFR.out.then ((Fr.refl Nob w8).drewN nq)
    clear x1 x2 hc1 hc0 hck HFR
    go_wp2_with fail
    go_ret
    exact ⟨rfl, hfr⟩
  · obtain ⟨m, rfl⟩ : ∃ m : Nat, i = (m : Int) := ⟨i.toNat, by omega⟩
    obtain ⟨k, hk⟩ : ∃ k : Nat, (m : Int) % 20 = (k : Int) := ⟨m % 20, by omega⟩
    have hkI : (k : Int) < 20 := by omega
    go_wp2_with fail
    try rw [hk]
    have HKK := Lib.hid (show k < 20 by omega)
    clear hk
    refine (Set_ok (some ⟨g, 0, none⟩) 32 l n w2 HP.out HN.out HT.out).mono ?_
    rintro e' w3 ⟨nm, q, vs, rfl, hown, hpo, hsep, hf⟩
    obtain ⟨aq, cq, rfl, -, hrq, -⟩ := Go.Mv.Own.form hown
    rw [Nat.mul_one] at hrq
    obtain ⟨bq, oq, rfl, -⟩ := hrq.at (by decide)
    obtain ⟨hnm, hpo2⟩ := hpo
    rw [kyN_len] at hnm
    obtain ⟨an, cn, rfl, -, -, -⟩ := Go.Mv.Own.form hnm
    obtain ⟨vk, hvk⟩ : ∃ v, vs[k]? = some v := ⟨_, List.getElem?_eq_getElem (by rw [hrq.len]; exact HKK.out)⟩
    obtain ⟨lk, hlk, hok⟩ := hpo2.get k vk hvk
    rw [kyL_at l n 20 k HKK.out] at hlk
    obtain rfl := Option.some.inj hlk
    rw [kyP_len] at hok
    obtain ⟨ak, ck, rfl, -, hrk, -⟩ := Go.Mv.Own.form hok
    rw [Nat.mul_one] at hrk
    have HRK := Lib.hid (show RdB w3 ak 33 (kyP l n k) from hrk)
    have HCK := Lib.hid (rd_at0 hrq k _ hvk)
    have HF3 := Lib.hid (HF.out.then hf)
    have HP3 := Lib.hid (HP.out.still hf)
    have HT3 := Lib.hid (TabAt.still HT.out hf)
    clear hown hnm hpo2 hsep hf hrq hvk hlk hok hrk HP HT HF
    have st0 := St.start Nob w3
    go_wp2_with (with_reducible refine wl_stop (o := ⟨some 8, _, _, _, _, _⟩) ?_)
    refine wl_allocS st0 rfl rfl z_ks [.slice none 0 0, .slice none 0 0] rfl ?_
    intro g8 w4 st4
    clear st0
    go_wp2_with (with_reducible refine wl_stop (o := ⟨none, _, _, _, _, _⟩) ?_)
    refine wl_storeSK st4 0 rfl rfl rfl rfl rfl (cs := [.slice an 8 cn, .slice (some ⟨bq, oq, none⟩) 20 cq]) rfl sz_ks (by intro v hv; simp only [List.mem_cons, List.not_mem_nil, or_false] at hv; rcases hv with rfl | rfl <;> rfl) ?_
    intro w5 st5 hf5
    clear hf5 st4
    have hky := Key_ok (some ⟨g, 0, none⟩) 32 l n k w5 (HP3.out.still st5.fr) HN.out (by have := HKK.out; omega) (TabAt.still HT3.out st5.fr)
    have hp1 : (2 ^ k : Nat) ≤ 524288 := by
      have : 2 ^ k ≤ 2 ^ 19 := Nat.pow_le_pow_right (by decide) (by have := HKK.out; omega)
      simpa using this
    obtain ⟨x, hx⟩ : ∃ x : Nat, 2 ^ k = x := ⟨_, rfl⟩
    have hxI : (2 : Int) ^ k = (x : Int) := by rw [← hx]; simp
    rw [hx] at hky hp1
    have hx1 : (x : Int) < 18446744073709551616 := by omega
    have HKY := Lib.hid hky
    clear hky hx hp1
    go_wp2_with fail
    refine HKY.out.mono ?_
    rintro e' w6 ⟨v, rfl, ho, hf⟩
    have HB := Lib.hid (OwnB1.part ho)
    have st6 := st5.keep hf
    clear st5 HKY ho hf hxI hx1
    go_wp2_with fail
    refine (GBase_u _).mono ?_
    rintro e' w7 ⟨vb, rfl, ho, hf⟩
    have HB2 := Lib.hid (OwnB1.part ho)
    have st7 := st6.keep hf
    replace HB := Lib.hid (HB.out.still hf)
    clear st6 ho hf
    go_wp2_with fail
    refine (GTimes_u v vb (kyS l n k) (wrPt gP) _ HB.out HB2.out).mono ?_
    rintro e' w8 ⟨v5, rfl, ho, hf⟩
    rw [(kyP_t l n k).1] at ho
    rw [(kyP_t l n k).2]
    unfold OwnB1 at ho
    rw [kyP_len] at ho
    obtain ⟨a5, c5, rfl, -, hr5, -⟩ := Go.Mv.Own.form ho
    rw [Nat.mul_one] at hr5
    have st8 := st7.keep hf
    have hc1 := (st8.at 0 rfl).cell (i := 1) (v := .slice (some ⟨bq, oq, none⟩) 20 cq) rfl
    have hc0 := (st8.at 0 rfl).cell (i := 0) (v := .slice an 8 cn) rfl
    have hck := st8.fr.cell id HCK.out
    have x1 := fun nq => run_string (P := Tryd.prog) (RdB.still (HRK.out.still st8.fr) ((Fr.refl Nob w8).drewN nq)) ck Tryd.underlying23 Tryd.underlying5 Tryd.underlying9
    have x2 := fun nq => run_string (P := Tryd.prog) (RdB.still (show RdB w8 a5 33 (kyP l n k) from hr5) ((Fr.refl Nob w8).drewN nq)) c5 Tryd.underlying23 Tryd.underlying5 Tryd.underlying9
    have HFR := Lib.hid (HF3.out.then st8.fr)
    clear st7 st8 ho hf hr5 HB HB2 HCK HRK HP3 HT3 HF3
    generalize mkS (kyP l n k) = P at *
    go_wp2_with fail
    go_quiet (fail)
    have hfr := HFR.out.then ((Fr.refl Nob w8).drewN nq)
    clear x1 x2 hc1 hc0 hck HFR
    go_wp2_with fail
    go_ret
    exact ⟨rfl, hfr⟩
end Go.Proofs.YtemcankmggmgoaaDoor

/- From a walk that turns nothing (Fr Nob) to what a law's row asks behind the call. -/
namespace Go.Mv
open Go.RowKit Go.ChangeShapes Go.WideShapes

/-- the arguments read behind the call as they read before -/
theorem Below.trodAll {H : Type} {enc : TypeId × Value → H} {P : Program} (hl : laidOutB P = true) {W W' : World} (hb : Below W.heap.size W W') :
    ∀ (ts : List TypeId) (vs : List Value) (ds : List (DataW H)) (ps : List MemPlace), (∀ t ∈ ts, P.readableRec t = true ∧ t < P.types.size) → DataW.TrodAll enc P W 0 (fun _ => true) true ts vs ds ps → (∀ x ∈ ps, x.block < W.heap.size) →
      DataW.TrodAll enc P W' 0 (fun b => decide (b < W.heap.size)) true ts vs ds ps
  | [], vs, ds, ps, _, h, _ => by
    obtain ⟨rfl, rfl, rfl⟩ := trodAll_nil h
    exact trodAll_mk0
  | t :: ts, vs, ds, ps, hr, h, hlt => by
    obtain ⟨v, vs', d, ds', p, q, rfl, rfl, rfl, h0, hs⟩ := trodAll_cons h
    have h1 := hr t (by simp)
    exact trodAll_cons_mk (Below.trod hl h1.1 h1.2 h0 hb (fun x hx => hlt x (by simp [hx]))) (Below.trodAll hl hb ts vs' ds' q (fun t ht => hr t (by simp [ht])) hs (fun x hx => hlt x (by simp [hx])))

/-- what a law's row asks behind the call -/
theorem law_post {H : Type} {enc : TypeId × Value → H} {P : Program} {f : Func} {s : ChangeSpec} {W W' : World} {args : Array Value} {ds gs : List (DataW H)} {before : List MemPlace}
    (hl : laidOutB P = true) (hr : ∀ t ∈ f.params.toList, P.readableRec t = true ∧ t < P.types.size) (hW : DataW.Whole enc P f.params.toList s.vars false W args.toList ds gs before)
    (hv : s.vars = []) (hres : (s.fn H (ds ++ gs)).results = [.lit (.bool true)]) (harg : (s.fn H (ds ++ gs)).args = ds) (hvar : (s.fn H (ds ++ gs)).vars = [])
    {tb : TypeId} (hrt : f.resultTypes = #[tb]) (hu : P.underlying tb = some .bool) (hf : Fr Nob W W') :
    s.post enc P f false true false false W args (.bool true) W' := by
  have hW' := hW
  obtain ⟨p, q, hA, hV, rfl, hfz, hnd⟩ := hW
  rw [hv] at hV
  obtain ⟨rfl, rfl⟩ := trodVars_none hV
  have hlt : ∀ x ∈ p ++ [], x.block < W.heap.size := fun x hx => hW'.lt x hx
  refine ⟨ds, [], p ++ [], [], p, [], hW', ?_, ?_, ?_, World.keptBut_mono (fun x hx => ⟨hx, ?_⟩) (hf.below.frame (· ∈ p ++ [])), fun h => by cases h⟩
  · rw [hres, hrt]
    exact trodAll_mk1 (shut_bool hu true)
  · rw [harg]
    exact Below.trodAll hl hf.below _ _ _ _ hr hA (fun x hx => hlt x (by simp [hx]))
  · rw [hvar, hv]; exact rfl
  · simp only [List.append_nil] at hx
    exact .inr (.inl hx)
end Go.Mv
