/- ; ; ; ; ; ; ; ; ; ; ; ; ; ; ; . -/
import Derived.Test.YtemcankmggmgoaaGreatMgSigmaSignsProof7
import Derived.Test.YtemcankmggmgoaaGreatMgSigmaSignsProof5
import Derived.Test.YtemcankmggmgoaaGreatMgSigmaSignsProof3
import Derived.Test.YtemcankmggmgoaaGreatMgSigmaSignsProof4
import Derived.Test.YtemcankmggmgoaaGreatMgSigmaSignsProof6
set_option maxHeartbeats 16000000
set_option maxRecDepth 1000000

namespace Go.Proofs.YtemcankmggmgoaaGreat
open Go.RowKit Go.Mv Mvp
theorem u0b (m : Md) (hM : m.M < B64 ^ 4) (s : ByteArray) (w : World) (h : b0o m s.data.toList = true) :
  Calls Tryz.prog 122 #[fv m.M, .string s] w fun e w' => e = .returned (.tuple #[i4 (beN s.data.toList), .bool true]) ∧ Fr Nob w w' := by
 unfold b0o at h
 simp only [Bool.and_eq_true, decide_eq_true_eq] at h
 refine (l0a m.M s w (by have := h.1; simpa using this) hM).mono fun e w' he => ?_
 rw [decide_eq_true h.2] at he
 exact he
theorem u0c (m : Md) (hM : m.M < B64 ^ 4) (s : ByteArray) (w : World) (h : b0o m s.data.toList = false) :
  Calls Tryz.prog 122 #[fv m.M, .string s] w fun e w' => ∃ N, e = .returned (.tuple #[i4 N, .bool false]) ∧ Fr Nob w w' := by
 by_cases hs : s.size = 32
 ·refine (l0a m.M s w hs hM).mono fun e w' he => ?_
  have h2 : ¬ beN s.data.toList < m.M := by
   intro hb
   unfold b0o at h
   rw [decide_eq_true hb, decide_eq_true (by simpa using hs)] at h
   cases h
  rw [decide_eq_false h2] at he
  exact ⟨_, he⟩
 ·exact (o0Q m.M s w hs).mono fun e w' he => ⟨_, he⟩
attribute [local irreducible] a0F lw mix cw b0n b0v b0k a0M a0q beN b0C b0i b0z a0J a0R elN mdL c0D b0o
end Go.Proofs.YtemcankmggmgoaaGreat
namespace Mvp
end Mvp
namespace Go.Proofs.YtemcankmggmgoaaGreat
section
open Go.RowKit Go.Mv Mvp
attribute [local irreducible] a0F lw mix cw b0n b0v b0k a0M a0q beN b0C b0i b0z a0J a0R elN mdL b0o
theorem BParts.four {w : World} {v1 v2 v3 v4 : Value} {l1 l2 l3 l4 : List UInt8} (h1 : BPart w v1 l1) (h2 : BPart w v2 l2) (h3 : BPart w v3 l3) (h4 : BPart w v4 l4) : BParts w [v1, v2, v3, v4] [l1, l2, l3, l4] := ⟨rfl, fun i x hx => by
 match i with
 | 0 => simp at hx; subst hx; exact h1
 | 1 => simp at hx; subst hx; exact h2
 | 2 => simp at hx; subst hx; exact h3
 | 3 => simp at hx; subst hx; exact h4
 | i + 4 => simp at hx⟩
end
section
open Go.RowKit Go.Mv Mvp
theorem w0Q (x y : Nat) (hx : x < B64 ^ 4) (hy : y < B64 ^ 4) (w : World) : (Op.equal 60 (.agg (cw 4 x).toArray) (.agg (cw 4 y).toArray)).run Tryz.prog w = .ok (x == y) w := by
 have h := j0K (P := Tryz.prog) Tryz.underlying60 Tryz.underlying58 c0J x y w
 rw [Nat.mod_eq_of_lt hx, Nat.mod_eq_of_lt hy] at h
 rw [h]
 congr 1
attribute [local irreducible] a0F lw mix cw b0n b0v b0k a0M a0q beN b0C b0i b0z a0J a0R elN mdL b0o
theorem z0D (m : Md) (hk : KindOf 1 m) (w : World) :
  Calls Tryz.prog 53 #[] w fun e w' => e = .returned (fv m.M) ∧ Fr Nob w w' := by
 have HK := qH hk
 have HOK := qH hk.ok
 clear hk
 have st0 := St.start Nob w
 go_enter Tryz.func53, Tryz.ntmps53
 go_wp2_with (with_reducible refine wSk 0 ?_)
 refine a0c st0 rfl rfl (z := .agg #[.int .u64 0, .int .u64 0, .int .u64 0, .int .u64 0, .int .u64 0, .int .u64 0, .int .u64 0, .int .u64 0]) (by kernel_rfl) (cw 8 0) (by rw [a0e]; rfl) ?_
 intro g0 w1 st1
 clear st0
 go_wp2_with fail
 refine (x0X HK.out _).mono ?_
 rintro e' w2 ⟨rfl, hf2⟩
 have st2 := st1.keep hf2
 clear st1 hf2
 go_wp2_with (with_reducible refine wSn ?_)
 refine a0b st2 0 rfl rfl rfl rfl rfl (by first | (simp only [a0a]; done) | (simp only [List.length_append, a0a]; done)) (by first | (rw [a0a]; kernel_rfl) | (simp only [List.length_append, a0a]; kernel_rfl)) (h0G _ _ _ _) ?_
 intro w3 st3
 clear st2
 have hr := st3.at 0 rfl
 have hfr := st3.fr
 clear st3
 go_wp2_with fail
 exact bodyPost_ret (a0u rfl rfl hr Tryz.underlying78 rfl (by first | (rw [a0a]; kernel_rfl) | (simp only [List.length_append, a0a]; kernel_rfl))) rfl ⟨rfl, hfr⟩
theorem z0E (p a b r : Nat) (w : World) (hp0 : 0 < p) (hp : p < B64 ^ 4) (ha : a < B64 ^ 4) (hb : b < B64 ^ 4) (hbp : b ≤ p) (hr : (a + (p - b)) % p = r) :
  Calls Tryz.prog 137 #[fv p, i4 a, i4 b] w fun e w' => e = .returned (i4 r) ∧ Fr Nob w w' := by
 refine (v0W p a b w hp0 hp ha hb hbp).mono fun e w' h => ?_
 rw [Nat.add_mod_mod, hr] at h
 exact h
theorem z0F (p a r : Nat) (w : World) (hp1 : 1 < p) (hp : p < B64 ^ 4) (ha : a < B64 ^ 4) (hr : a ^ (p - 2) % p = r) :
  Calls Tryz.prog 113 #[fv p, i4 a] w fun e w' => e = .returned (i4 r) ∧ Fr Nob w w' := by
 subst hr; exact v0Z p a w hp1 hp ha
theorem z0G (p a b r : Nat) (w : World) (hp0 : 0 < p) (hp : p < B64 ^ 4) (ha : a < B64 ^ 4) (hb : b < B64 ^ 4) (hr : a * b % p = r) :
  Calls Tryz.prog 58 #[fv p, i4 a, i4 b] w fun e w' => e = .returned (i4 r) ∧ Fr Nob w w' := by
 subst hr; exact f0X p a b w hp0 hp ha hb
end
section
open Go.RowKit Go.Mv Mvp Mvt
theorem m0O (v : Value) (l : List UInt8) (m : Nat) (w : World) (hm : m ≤ 16384) (hp : PartIs w v l) :
  Calls Tryz.prog 114 #[v, .int .i64 (m : Int)] w fun r w' => ∃ v, r = .returned (.tuple #[v, .int .i64 0]) ∧ Own w' w.heap.size 5 1 v m (bs (a0O l 31 m)) ∧ Fr Nob w w' := by
 obtain ⟨a, n, c, rfl, hc, hn, hr, ho⟩ := hp
 exact r0G a n c l m w hn hc hm hr ho
theorem i0T (m : Md) (hk : KindOf 1 m) (v : Value) (l : List UInt8) (w : World) (hp : PartIs w v l) :
  Calls Tryz.prog 116 #[v] w fun e w' => e = .returned (i4 (elN m (beN l))) ∧ Fr Nob w w' := by
 obtain ⟨a, n, c, rfl, hc, hn, hr, ho⟩ := hp
 exact q0K m hk a n c l w hr hc hn
attribute [local irreducible] a0F lw mix cw b0n b0v b0k a0M a0q beN b0C b0i b0z a0J a0R elN mdL b0o b0w b0L toB a0x a0K b0x c0q a0O c0r b0t a0I c0A
end
section
open Go.RowKit Go.Mv Mvp Mvq
attribute [local irreducible] a0F lw mix cw b0n b0v b0k a0M a0q beN b0C b0i b0z a0J a0R elN mdL b0o b0w b0L toB a0x a0K b0x c0q a0O c0r b0t a0I c0A
theorem y0Z : (Tryz.prog.info? 68).map (·.zero) = some (some (.agg #[.int .u64 0, .int .u64 0, .int .u64 0, .int .u64 0])) := by kernel_rfl
theorem k0f (x : Nat) : (Tryz.prog.info? 68).map (·.size) = some (cw 4 x).length := by rw [a0a]; kernel_rfl
theorem m0P (x y : Nat) : (cw 4 x).length = (cw 4 y).length := by rw [a0a, a0a]
theorem i0c {w : World} {base : Nat} {v : Value} {n : Nat} {l : List UInt8} (h : Own w base 5 1 v n (bs l)) (hn : n ≤ 1000000) : ∃ a c, v = .slice a n c ∧ PartIs w (.slice a n c) l := by
 have h2 := c0d h hn
 obtain ⟨a, c, rfl, -⟩ := g0m h
 exact ⟨a, c, rfl, h2⟩
theorem Parts.stillT {w w' : World} : ∀ {vs : List Value} {ls : List (List UInt8)}, Parts w vs ls → Fr Nob w w' → Parts w' vs ls
 | [], [], _, _ => trivial
 | _ :: _, _ :: _, h, hf => ⟨h.1.still hf, Parts.stillT h.2 hf⟩
 | [], _ :: _, h, _ => h.elim
 | _ :: _, [], h, _ => h.elim
theorem g0f (s : ByteArray) (a : Option Addr) (n c : Nat) : Tryz.prog.built 132 [(0, .string s), (1, .slice a n c)] = some ([Value.string s, .slice a n c]).toArray := by kernel_rfl
theorem p0l : (Tryz.prog.info? 132).map (fun i => (i.zero, i.size, i.bytes)) = some (some (.agg #[.string ByteArray.empty, .slice none 0 0]), 2, 40) := by kernel_rfl
theorem r0H (base g : Nat) (st : List UInt8) (s : ByteArray) (w : World) (hs : s.size ≤ 1000000) (hl : LogAt w base g st) (hbase : base ≤ w.heap.size) :
  Calls Tryz.prog 91 #[tkV g, .string s] w fun e w' => e = .returned (i4 (elN mQ (w0O st s.data.toList))) ∧ LogAt w' base g (c0A g0n [st, s.data.toList]) ∧ Fr (One g) w w' := by
 have HS := qH hs
 have HL := qH hl
 have HBS := qH hbase
 clear hs hl hbase
 have st0 := St.start (One g) w
 go_enter Tryz.func91, Tryz.ntmps91
 go_wp2_with (with_reducible refine wSk 2 ?_)
 refine j0C st0 rfl rfl rfl [.pointer (some ⟨g, 0, none⟩)] rfl ?_
 intro g2 w1 st1 hf1
 have HL1 := qH (HL.out.still hf1)
 clear st0 hf1 HL
 go_wp2_with (with_reducible refine wSk 4 ?_)
 refine c0F st1 rfl rfl y0Z (cw 4 0) (by rw [a0e]; rfl) ?_
 intro g4 w2 st2 hf2 hs2
 have HL2 := qH (HL1.out.still hf2)
 clear st1 hf2 hs2 HL1
 have hc0 := (st2.at 0 rfl).cell (i := 0) rfl
 have ST2 := qH st2
 clear st2
 go_wp2_with fail
 refine (v0M base g st s 64 _ HS.out (by decide) HL2.out (Nat.le_trans HBS.out ST2.out.fr.size)).mono ?_
 rintro e' w3 ⟨v, rfl, ho, hl3, hf3⟩
 have st3 := ST2.out.keep1 hf3 (.inr rfl) (HL2.out.notIn ST2.out.has (by intro x hx; simp only [List.mem_cons, List.not_mem_nil, or_false, List.cons_append, List.nil_append] at hx; rcases hx with rfl | rfl <;> (dsimp only; decide)))
 have HL3 := qH hl3
 obtain ⟨a, c, rfl, hp⟩ := i0c ho (by decide)
 have HP := qH hp
 clear hl3 hf3 ho hp HL2 ST2 hc0
 go_wp2_with fail
 refine (i0T mQ .one _ _ _ HP.out).mono ?_
 rintro e' w4 ⟨rfl, hf4⟩
 have st4 := st3.keep hf4
 have HL4 := qH (HL3.out.still hf4)
 clear st3 hf4 HL3 HP
 go_wp2_with (with_reducible refine wSn ?_)
 refine d0L st4 1 rfl rfl rfl rfl rfl (m0P _ _) (k0f _) (a0g _ _) ?_
 intro w5 st5 hf5
 have HL5 := qH (HL4.out.off hf5 (st4.at 1 rfl) (by decide) (by decide))
 clear st4 hf5 HL4
 have hr := st5.at 1 rfl
 have hfr := st5.fr
 clear st5
 go_wp2_with fail
 exact bodyPost_ret (a0u rfl rfl hr Tryz.underlying68 rfl (k0f _)) rfl ⟨by unfold w0O; rw [l0f]; rfl, HL5.out, hfr⟩
theorem w0R (base g : Nat) (st : List UInt8) (w : World) (hl : LogAt w base g st) (hbase : base ≤ w.heap.size) :
  Calls Tryz.prog 118 #[tkV g] w fun e w' => e = .returned (i4 (elN mQ (k0d st))) ∧ LogAt w' base g (c0A g0n [st, h0C]) ∧ Fr (One g) w w' := by
 have HL := qH hl
 have HBS := qH hbase
 clear hl hbase
 have st0 := St.start (One g) w
 go_enter Tryz.func118, Tryz.ntmps118
 go_wp2_with (with_reducible refine wSk 1 ?_)
 refine j0C st0 rfl rfl rfl [.pointer (some ⟨g, 0, none⟩)] rfl ?_
 intro g2 w1 st1 hf1
 have HL1 := qH (HL.out.still hf1)
 clear st0 hf1 HL
 go_wp2_with (with_reducible refine wSk 2 ?_)
 refine c0F st1 rfl rfl y0Z (cw 4 0) (by rw [a0e]; rfl) ?_
 intro g4 w2 st2 hf2 hs2
 have HL2 := qH (HL1.out.still hf2)
 clear st1 hf2 hs2 HL1
 go_wp2_with (with_reducible refine wSk 3 ?_)
 refine a0p st2 0 rfl rfl rfl Tryz.underlying128 rfl rfl (by kernel_rfl) ?_
 have ST2 := qH st2
 clear st2
 go_wp2_with fail
 refine (r0H base g st ⟨#[99, 104, 97, 108, 108, 101, 110, 103, 101]⟩ _ (by decide) HL2.out (Nat.le_trans HBS.out ST2.out.fr.size)).mono ?_
 rintro e' w3 ⟨rfl, hl3, hf3⟩
 have st3 := ST2.out.keep1 hf3 (.inr rfl) (HL2.out.notIn ST2.out.has (by intro x hx; simp only [List.mem_cons, List.not_mem_nil, or_false, List.cons_append, List.nil_append] at hx; rcases hx with rfl | rfl <;> (dsimp only; decide)))
 have HL3 := qH hl3
 clear hl3 hf3 HL2 ST2
 go_wp2_with (with_reducible refine wSn ?_)
 refine d0L st3 1 rfl rfl rfl rfl rfl (m0P _ _) (k0f _) (a0g _ _) ?_
 intro w5 st5 hf5
 have HL5 := qH (HL3.out.off hf5 (st3.at 1 rfl) (by decide) (by decide))
 clear st3 hf5 HL3
 have hr := st5.at 1 rfl
 have hfr := st5.fr
 clear st5
 go_wp2_with fail
 exact bodyPost_ret (a0u rfl rfl hr Tryz.underlying68 rfl (k0f _)) rfl ⟨rfl, HL5.out, hfr⟩
theorem u0d (s : ByteArray) (k : List UInt8) (hk : s.data.toList = k) (gl c : Nat) (vs : List Value) (ls : List (List UInt8)) (w : World) (hs : s.size ≤ 1000000) (hh : Has w gl vs 22) (hp : Parts w vs ls) (hn : ls.length ≤ 1000000) :
  Calls Tryz.prog 47 #[.string s, .slice (some ⟨gl, 0, none⟩) ls.length c] w fun e w' => e = .returned (i4 (elN mQ (chN k ls))) ∧ Fr Nob w w' := by
 subst hk
 have HS := qH hs
 have HH := qH hh
 have HP := qH hp
 have HN := qH hn
 clear hs hh hp hn
 have st0 := St.start Nob w
 go_enter Tryz.func47, Tryz.ntmps47
 go_wp2_with (with_reducible refine wSk 4 ?_)
 refine c0F st0 rfl rfl y0Z (cw 4 0) (by rw [a0e]; rfl) ?_
 intro g4 w2 st2 hf2 hs2
 have HH2 := qH (HH.out.keep hf2 id)
 have HP2 := qH (HP.out.stillT hf2)
 clear st0 hf2 hs2 HH HP
 go_wp2_with fail
 refine (v0K s (some ⟨gl, 0, none⟩) c ls _ HS.out HN.out (HP2.out.at HH2.out)).mono ?_
 rintro e' w3 ⟨v, rfl, ho, hf3⟩
 have st3 := st2.keep hf3
 obtain ⟨a, c3, rfl, hq⟩ := i0c ho (by decide)
 have HQ := qH hq
 clear st2 hf3 ho hq HH2 HP2
 go_wp2_with fail
 refine (m0O _ _ 64 _ (by decide) HQ.out).mono ?_
 rintro e' w4 ⟨v, rfl, ho, hf4⟩
 have st4 := st3.keep hf4
 obtain ⟨a4, c4, rfl, hq⟩ := i0c ho (by decide)
 have HQ4 := qH hq
 clear st3 hf4 ho hq HQ
 go_wp2_with fail
 refine (i0T mQ .one _ _ _ HQ4.out).mono ?_
 rintro e' w5 ⟨rfl, hf5⟩
 have st5 := st4.keep hf5
 clear st4 hf5 HQ4
 go_wp2_with (with_reducible refine wSn ?_)
 refine a0b st5 0 rfl rfl rfl rfl rfl (m0P _ _) (k0f _) (a0g _ _) ?_
 intro w6 st6
 clear st5
 have hr := st6.at 0 rfl
 have hfr := st6.fr
 clear st6
 go_wp2_with fail
 exact bodyPost_ret (a0u rfl rfl hr Tryz.underlying68 rfl (k0f _)) rfl ⟨by unfold chN; rw [l0f]; rfl, hfr⟩
theorem w0S (v0 : Value) (l0 : List UInt8) (v1 : Value) (l1 : List UInt8) (v2 : Value) (l2 : List UInt8) (w : World) (h0 : PartIs w v0 l0) (h1 : PartIs w v1 l1) (h2 : PartIs w v2 l2) :
  Calls Tryz.prog 50 #[v0, v1, v2] w fun e w' => e = .returned (i4 (elN mQ (g0x l0 l1 l2))) ∧ Fr Nob w w' := by
 obtain ⟨a0, n0, c0, rfl, k0⟩ := h0
 have H0 := qH (show PartIs w (.slice a0 n0 c0) l0 from ⟨a0, n0, c0, rfl, k0⟩)
 clear k0
 obtain ⟨a1, n1, c1, rfl, k1⟩ := h1
 have H1 := qH (show PartIs w (.slice a1 n1 c1) l1 from ⟨a1, n1, c1, rfl, k1⟩)
 clear k1
 obtain ⟨a2, n2, c2, rfl, k2⟩ := h2
 have H2 := qH (show PartIs w (.slice a2 n2 c2) l2 from ⟨a2, n2, c2, rfl, k2⟩)
 clear k2
 have st0 := St.start Nob w
 go_enter Tryz.func50, Tryz.ntmps50
 go_wp2_with (with_reducible refine wSk 6 ?_)
 refine c0F st0 rfl rfl y0Z (cw 4 0) (by rw [a0e]; rfl) ?_
 intro g4 w2 st2 hf2 hs2
 have HSZ := qH st2.fr.size
 clear st0 hf2 hs2
 go_wp2_with fail
 refine (q0C ⟨#[115, 105, 103, 110]⟩ _ (by decide)).mono ?_
 rintro e' w3 ⟨g, rfl, hle, hl, hf3⟩
 have st3 := st2.keep hf3
 have HL := qH hl
 have HG := qH (Nat.le_trans HSZ.out hle)
 have HBS := qH hf3.size
 clear st2 hf3 hl hle HSZ
 go_wp2_with (with_reducible refine wSk 9 ?_)
 refine b0y rfl rfl _ (g0f _ _ _ _) ?_
 go_wp2_with (with_reducible refine wSk 11 ?_)
 refine b0y rfl rfl _ (g0f _ _ _ _) ?_
 go_wp2_with (with_reducible refine wSk 13 ?_)
 refine b0y rfl rfl _ (g0f _ _ _ _) ?_
 go_wp2_with (with_reducible refine wSk 14 ?_)
 refine j0H rfl rfl Tryz.underlying193 p0l [.agg #[.string ⟨#[112, 117, 98, 108, 105, 99]⟩, .slice a0 n0 c0], .agg #[.string ⟨#[102, 105, 114, 115, 116]⟩, .slice a1 n1 c1], .agg #[.string ⟨#[116, 101, 120, 116]⟩, .slice a2 n2 c2]] rfl (by simp [Value.cells]) rfl (sdC [(⟨#[112, 117, 98, 108, 105, 99]⟩, .slice a0 n0 c0), (⟨#[102, 105, 114, 115, 116]⟩, .slice a1 n1 c1), (⟨#[116, 101, 120, 116]⟩, .slice a2 n2 c2)]) (by unfold sdC; simp [Value.cells]) ?_
 intro w5 hh5 hf5 hz5
 have st5 := st3.keep hf5
 have HL5 := qH (HL.out.still hf5)
 have HH5 := qH hh5
 have HBS5 := qH (Nat.le_trans HBS.out hf5.size)
 clear st3 hf5 hz5 HL HBS hh5
 generalize w3.heap.size = gl at *
 have ST5 := qH st5
 clear st5
 go_wp2_with fail
 refine (s0Y w _ g _ gl 3 [(⟨#[112, 117, 98, 108, 105, 99]⟩, .slice a0 n0 c0), (⟨#[102, 105, 114, 115, 116]⟩, .slice a1 n1 c1), (⟨#[116, 101, 120, 116]⟩, .slice a2 n2 c2)] [l0, l1, l2] _ HG.out ST5.out.fr HBS5.out HL5.out HH5.out (by simp) (by intro x hx; simp only [List.mem_cons, List.not_mem_nil, or_false] at hx; rcases hx with rfl | rfl | rfl <;> simp <;> decide) ⟨H0.out, H1.out, H2.out, trivial⟩).mono ?_
 rintro e' w6 ⟨rfl, hl6, hf6⟩
 have st6 := ST5.out.keep1 hf6 (.inl HG.out) (HL5.out.notIn ST5.out.has (by intro x hx; simp only [List.mem_cons, List.not_mem_nil, or_false, List.nil_append] at hx; subst hx; dsimp only; decide))
 have HL6 := qH hl6
 have HBS6 := qH (Nat.le_trans HBS5.out hf6.size)
 clear ST5 hl6 hf6 HL5 HH5 HBS5 H0 H1 H2
 have ST6 := qH st6
 clear st6
 go_wp2_with fail
 refine (w0R _ g _ _ HL6.out HBS6.out).mono ?_
 rintro e' w7 ⟨rfl, hl7, hf7⟩
 have st7 := ST6.out.keep1 hf7 (.inl HG.out) (HL6.out.notIn ST6.out.has (by intro x hx; simp only [List.mem_cons, List.not_mem_nil, or_false, List.nil_append] at hx; subst hx; dsimp only; decide))
 clear ST6 hl7 hf7 HL6 HBS6 HG
 go_wp2_with (with_reducible refine wSn ?_)
 refine a0b st7 0 rfl rfl rfl rfl rfl (m0P _ _) (k0f _) (a0g _ _) ?_
 intro w8 st8
 clear st7
 have hr := st8.at 0 rfl
 have hfr := st8.fr
 clear st8
 go_wp2_with fail
 exact bodyPost_ret (a0u rfl rfl hr Tryz.underlying68 rfl (k0f _)) rfl ⟨rfl, hfr⟩
end
end Go.Proofs.YtemcankmggmgoaaGreat
namespace Go.Mv
open Go.RowKit
end Go.Mv
namespace Go.Proofs.YtemcankmggmgoaaGreat
section
open Go.RowKit Go.Mv Mvp Mvq
end
section
open Go.RowKit Go.Mv Mvp Mvq
attribute [local irreducible] a0F lw mix cw b0n b0v b0k a0M a0q beN b0C b0i b0z a0J a0R elN mdL b0o rtN rtV b0T gXn gYn PT.L k0l j0R e0M tbL tmR tmL dbN g0S g0v j0V dig rdT d0A e0L ptL g0w e0T b0Z
end
end Go.Proofs.YtemcankmggmgoaaGreat
namespace Go.Mv
open Go.RowKit
end Go.Mv
namespace Go.Proofs.YtemcankmggmgoaaGreat
open Go.RowKit Go.Mv Mvp Mvq
attribute [local irreducible] a0F lw mix cw b0n b0v b0k a0M a0q beN b0C b0i b0z a0J a0R elN mdL b0o rtN rtV b0T gXn gYn PT.L k0l j0R e0M tbL tmR tmL dbN g0S g0v j0V dig rdT d0A e0L ptL g0w e0T b0Z
end Go.Proofs.YtemcankmggmgoaaGreat
namespace Go.Mv
open Go.RowKit
variable {P : Program} {ops : Array Oper} {a : Act} {w : World} {rest : List Oper} {Q : Exit → Act → World → Prop} {o : Oper}
end Go.Mv
namespace Go.Proofs.YtemcankmggmgoaaGreat
open Go.RowKit Go.Mv Mvp Mvq
attribute [local irreducible] a0F lw mix cw b0n b0v b0k a0M a0q beN b0C b0i b0z a0J a0R elN mdL b0o rtN rtV b0T gXn gYn PT.L k0l j0R e0M tbL tmR tmL dbN g0S g0v j0V dig rdT d0A e0L ptL g0w e0T b0Z
end Go.Proofs.YtemcankmggmgoaaGreat
namespace Mvp
theorem w0T (Q : Nat) (h : lw Q 0 + 1 < 18446744073709551616) : (a0F 4 Q).set 0 (lw Q 0 + 1) = a0F 4 (Q + 1) := by
 rw [u0J, u0J]
 have e0 : lw (Q + 1) 0 = lw Q 0 + 1 := by rw [o0H] at h ⊢; rw [o0H]; omega
 have e : (Q + 1) / 18446744073709551616 = Q / 18446744073709551616 := by rw [o0H] at h; omega
 have ed : ∀ i, lw (Q + 1) (1 + i) = lw Q (1 + i) := by
  intro i
  rw [← c0k, ← c0k, Nat.pow_one, show B64 = 18446744073709551616 from rfl, e]
 have e1 := ed 0
 have e2 := ed 1
 have e3 := ed 2
 simp only [Nat.add_zero] at e1
 rw [e0, e1, show (2 : Nat) = 1 + 1 from rfl, show (3 : Nat) = 1 + 2 from rfl, e2, e3]
 rfl
theorem i0d (p : Nat) (h : p < B64 ^ 4) : p / 4 % 2 ^ 254 = p / 4 := Nat.mod_eq_of_lt (by
 rw [show B64 ^ 4 = 2 ^ 254 * 4 from rfl] at h
 generalize 2 ^ 254 = z at *
 omega)
end Mvp
namespace Go.Proofs.YtemcankmggmgoaaGreat
section
open Go.RowKit Go.Mv Mvp
theorem o0a (q b k q' : Nat) (hb : b < 2) (hs : (a0F 4 q).set (k / 64) (lw q (k / 64) ||| b * 2 ^ (k % 64)) = a0F 4 q') :
  (cw 4 q).set (k / 64) (.int .u64 (bits .or .u64 (lw q (k / 64) : Nat) (IntKind.u64.wrap ((b : Int) * 2 ^ (k % 64))))) = cw 4 q' := by
 have h1 : b * 2 ^ (k % 64) < 18446744073709551616 := by
  have h2 : 2 ^ (k % 64) ≤ 2 ^ 63 := Nat.pow_le_pow_right (by decide) (by omega)
  have h3 := Nat.mul_le_mul_right (2 ^ (k % 64)) (show b ≤ 1 by omega)
  rw [Nat.one_mul] at h3
  have h4 : (2 : Nat) ^ 63 = 9223372036854775808 := by decide
  rw [h4] at h2
  generalize 2 ^ (k % 64) = z at *
  generalize b * z = y at *
  omega
 have h := bits_or_u64_nat (lw q (k / 64)) (b * 2 ^ (k % 64)) (c0C _ _) h1
 have hw : IntKind.u64.wrap ((b : Int) * 2 ^ (k % 64)) = ((b * 2 ^ (k % 64) : Nat) : Int) := by
  rw [show ((b : Int) * 2 ^ (k % 64)) = ((b * 2 ^ (k % 64) : Nat) : Int) by rw [Int.natCast_mul, Int.natCast_pow]; rfl, IntKind.wrap_u64]
  exact congrArg Int.ofNat (Nat.mod_eq_of_lt h1)
 rw [hw, h, cw, k0U, hs, cw]
theorem l0L (Q : Nat) (h : lw Q 0 + 1 < 18446744073709551616) : (cw 4 Q).set 0 (.int .u64 ((lw Q 0 : Int) + 1)) = cw 4 (Q + 1) := by
 show (us (a0F 4 Q)).set 0 (.int .u64 ((lw Q 0 + 1 : Nat) : Int)) = us (a0F 4 (Q + 1))
 rw [k0U, w0T Q h]
theorem r0I (x y : Nat) (hx : x < B64 ^ 4) (hy : y < B64 ^ 4) (ty : TypeId) (hu : Tryz.prog.underlying ty = some (.array 4 58)) (hg : Tryz.prog.eqGuardType Tryz.prog.depth ty = false) {o : Oper} {a : Act} {w : World} {K : Act → World → Prop} {Q : Exit → Act → World → Prop} {p q : Operand} {T : TypeId}
  (ho : o.op = .binOp .neq ty p q T) (hp : a.eval p = i4 x) (hq : a.eval q = .agg (cw 4 y).toArray) {b : Bool} (hb : decide (x = y) = b) (hk : K (a.put o.dst (.bool !b)) w) : o.wp Tryz.prog a w K Q := by
 have h1 := n0H x y ty hg p q w
 have h2 : (binOp .neq ty (i4 x) (.agg (cw 4 y).toArray)).run Tryz.prog w = .ok (.bool !b) w := by
  show (do pure (Value.bool (!(← Op.equal ty (.agg (cw 4 x).toArray) (.agg (cw 4 y).toArray))))).run Tryz.prog w = _
  simp only [Sem.run_bind, j0K hu Tryz.underlying58 c0J x y w, Result.andThen_ok]
  rw [Nat.mod_eq_of_lt hx, Nat.mod_eq_of_lt hy, hb]
  rfl
 unfold Oper.wp execOp
 simp only [ho, hp, hq, Sem.run_bind, h1, h2, Result.andThen_ok, Sem.run_pure]
 exact hk
attribute [local irreducible] a0F lw mix cw b0n b0v b0k a0M a0q beN b0C b0i b0z
theorem p0m (p a n R : Nat) (w : World) (hp0 : 0 < p) (hp : p < B64 ^ 4) (hn : p / 4 + 1 = n) (hn4 : n < B64 ^ 4) (ha : a < B64 ^ 4) (hlow : lw (p / 4) 0 + 1 < 18446744073709551616) (hR : R < p) (hpow : ∀ wx, Calls Tryz.prog 167 #[fv p, i4 a, i4 n] wx fun e w' => e = .returned (i4 R) ∧ Fr Nob wx w') (hb : decide (R * R % p = a) = true) (hpar : R % 2 = 0) :
  Calls Tryz.prog 186 #[fv p, i4 a] w fun e w' => e = .returned (.tuple #[i4 R, .bool true]) ∧ Fr Nob w w' := by
 have HP0 := qH hp0
 have HP := qH hp
 have HN4 := qH hn4
 have HA := qH ha
 have HLOW := qH hlow
 have HPOW := qH hpow
 have HB := qH hb
 have HR4 := qH (Nat.lt_trans hR hp)
 have HRP := qH (Nat.le_of_lt hR)
 have HRR := qH (show R * R % p < B64 ^ 4 from Nat.lt_trans (Nat.mod_lt _ hp0) hp)
 have hlc := l0L (p / 4) hlow
 rw [hn] at hlc
 have HLC := qH hlc
 have HNE := qH hn
 have HPAR := qH hpar
 clear hp0 hp hn4 ha hlow hpow hb hR hlc hn hpar
 have st0 := St.start Nob w
 go_enter Tryz.func186, Tryz.ntmps186
 go_wp2_with (with_reducible refine wSk 2 ?_)
 refine a0m st0 rfl rfl rfl (cw 4 p ++ cw 4 (B64 ^ 4 - p)) rfl ?_
 intro g2 w1 st1
 clear st0
 go_wp2_with (with_reducible refine wSk 3 ?_)
 refine a0m st1 rfl rfl rfl (cw 4 a) rfl ?_
 intro g3 w2 st2
 clear st1
 go_wp2_with (with_reducible refine wSk 4 ?_)
 refine a0c st2 rfl rfl (z := zAd) (by kernel_rfl) (cw 4 0) (by rw [a0e]; rfl) ?_
 intro g4 w3 st3
 clear st2
 go_wp2_with (with_reducible refine wSk 6 ?_)
 refine a0c st3 rfl rfl (z := zAd) (by kernel_rfl) (cw 4 0) (by rw [a0e]; rfl) ?_
 intro g6 w4 st4
 clear st3
 go_wp2
 go_loopw [7] (fun i wr => ∃ k : Nat, k ≤ 254 ∧ i = .int .i64 (k : Int) ∧ St Nob w wr [(g2, cw 4 p ++ cw 4 (B64 ^ 4 - p), 78), (g3, cw 4 a, 60), (g4, cw 4 0, 60), (g6, cw 4 (p / 4 % 2 ^ k), 60)]) (fun i _ => 254 - (intOf i).toNat)
 case atStart => exact ⟨0, by omega, rfl, by rw [Nat.pow_zero, Nat.mod_one]; exact st4⟩
 case round =>
  obtain ⟨k, hk, rfl, st⟩ := hrel
  clear st4
  by_cases hlt : k < 254
  ·have hltI : (k : Int) < 254 := by omega
   have hstep := n0G 4 (p / 4 % 2 ^ k) k (p / 2 ^ (k + 2) % 2) (Nat.mod_lt _ (Nat.pow_pos (by decide))) (Nat.mod_lt _ (by decide)) (by omega)
   rw [← g0r] at hstep
   have hbit := fun wx => g0N p (k + 2) wx (by omega)
   have hb2 : p / 2 ^ (k + 2) % 2 < 2 := Nat.mod_lt _ (by decide)
   generalize p / 2 ^ (k + 2) % 2 = b at *
   generalize hq' : p / 4 % 2 ^ (k + 1) = q' at *
   have HQ := qH hq'
   clear hq'
   generalize p / 4 % 2 ^ k = q at *
   have HCELL := qH (o0a q b k q' hb2 hstep)
   have HBIT := qH hbit
   clear hstep hbit hb2
   have hlo : (0 : Int) ≤ (k : Int) / 64 ∧ (k : Int) / 64 < 4 := by omega
   have hlo2 : (0 : Int) ≤ (k : Int) % 64 ∧ (k : Int) % 64 < 64 := by omega
   have e1 : IntKind.i64.wrap ((k : Int) / 64) = (k : Int) / 64 := IntWalk.i64_in _ (by omega)
   have e2 : (k : Int).tmod 64 = (k : Int) % 64 := Int.tmod_eq_emod_of_nonneg (by omega)
   have e3 : IntKind.i64.wrap ((k : Int) + 2) = (k : Int) + 2 := IntWalk.i64_in _ (by omega)
   have e4 : ((k : Int) / 64).toNat = k / 64 := by omega
   have e5 : ((k : Int) % 64).toNat = k % 64 := by omega
   go_wp2_with fail
   refine wp_region_noPanic ?_
   refine a0o (fun wx => St Nob w wx [(g2, cw 4 p ++ cw 4 (B64 ^ 4 - p), 78), (g3, cw 4 a, 60), (g4, cw 4 0, 60), (g6, cw 4 q, 60)]) 16 (.w 0 (.w 1 (.w 2 (.w 3 (.w 4 (.t 5 (.w 6 (.t 7 (.w 8 (.w 9 (.w 11 (.w 12 (.r 10 (.w 13 (.w 14 (.w 15 (.m 16 .nil))))))))))))))))) (by kernel_rfl) (by kernel_rfl) st.drew (fun _ _ _ _ _ h => h) ?_
   have hd4 := st.drew
   clear st
   refine a0l (v := ?_) rfl rfl (fun wx => ?_) ?_
   rotate_left 1
   ·(go_simp; with_reducible rfl)
   try simp only [clL]
   refine a0l (v := ?_) rfl rfl (fun wx => ?_) ?_
   rotate_left 1
   ·(go_simp; with_reducible rfl)
   try simp only [clL]
   refine a0l (v := ?_) rfl rfl (fun wx => ?_) ?_
   rotate_left 1
   ·(go_simp; with_reducible rfl)
   try simp only [clL]
   refine a0l (v := ?_) rfl rfl (fun wx => ?_) ?_
   rotate_left 1
   ·(go_simp; with_reducible rfl)
   try simp only [clL]
   refine a0l (v := ?_) rfl rfl (fun wx => ?_) ?_
   rotate_left 1
   ·(go_simp; with_reducible rfl)
   try simp only [clL]
   refine d0v (v := ?_) rfl rfl (fun wx hS => ?_) ?_
   rotate_left 1
   ·(have hc := (St.at hS 3 rfl).cell (a0D 4 q (k / 64) (by omega)); clear hS; go_simp; with_reducible rfl)
   try simp only [clL]
   refine a0l (v := ?_) rfl rfl (fun wx => ?_) ?_
   rotate_left 1
   ·(go_simp; with_reducible rfl)
   try simp only [clL]
   refine a0s rfl rfl rfl rfl (cw 4 p) (fun wx hS => St.rangeL hS 0 rfl 0 _ (f0T 4 4 _ _)) Tryz.underlying60 rfl (by first | (rw [a0a]; kernel_rfl) | (simp only [List.length_append, a0a]; kernel_rfl)) ?_
   try simp only [clL]
   refine a0l (v := ?_) rfl rfl (fun wx => ?_) ?_
   rotate_left 1
   ·(go_simp; with_reducible rfl)
   try simp only [clL]
   refine a0l (v := ?_) rfl rfl (fun wx => ?_) ?_
   rotate_left 1
   ·(go_simp; with_reducible rfl)
   try simp only [clL]
   refine a0l (v := ?_) rfl rfl (fun wx => ?_) ?_
   rotate_left 1
   ·(go_simp; with_reducible rfl)
   try simp only [clL]
   refine a0l (v := ?_) rfl rfl (fun wx => ?_) ?_
   rotate_left 1
   ·(go_simp; with_reducible rfl)
   try simp only [clL]
   refine a0A rfl rfl ?_
   go_simp
   refine (HBIT.out _).mono ?_
   rintro e' w5 ⟨rfl, hf5⟩
   have st5 := hd4.keep hf5
   clear hf5
   clear hd4
   refine ⟨st5, ?_⟩
   try simp only [clL]
   refine a0l (v := ?_) rfl rfl (fun wx => ?_) ?_
   rotate_left 1
   ·(go_simp; with_reducible rfl)
   try simp only [clL]
   refine a0l (v := ?_) rfl rfl (fun wx => ?_) ?_
   rotate_left 1
   ·(go_simp; with_reducible rfl)
   try simp only [clL]
   refine a0l (v := ?_) rfl rfl (fun wx => ?_) ?_
   rotate_left 1
   ·(go_simp; with_reducible rfl)
   try simp only [clL]
   refine a0r rfl rfl ?_
   have f1 := (st5.at 3 rfl).free (k / 64) (by rw [a0a]; omega)
   have c1 := (st5.at 3 rfl).cell (a0D 4 q (k / 64) (by omega))
   go_simp
   have st6 := st5.set 3 rfl (k / 64) (.int .u64 (bits .or .u64 (lw q (k / 64) : Nat) (IntKind.u64.wrap ((b : Int) * 2 ^ (k % 64)))))
   simp only [List.set_cons_zero, List.set_cons_succ] at st6
   rw [HCELL.out] at st6
   clear f1 c1 st5
   try simp only [clL]
   refine a0k ?_
   refine NoPanic.normal ?_
   go_wp2
   go_roundw
   case rel => exact ⟨k + 1, by omega, by go_num, by rw [HQ.out]; exact st6⟩
   case measure => simp [intOf]; omega
  ·have hge : ¬ ((k : Int) < 254) := by omega
   have hk2 : k = 254 := by omega
   rw [hk2, i0d p HP.out] at st
   clear hk2
   generalize p / 4 = Q at *
   have c1 := (st.at 3 rfl).cell (a0D 4 Q 0 (by decide))
   have f1 := (st.at 3 rfl).free 0 (by rw [a0a]; decide)
   have st9 := st.set 3 rfl 0 (.int .u64 ((lw Q 0 : Int) + 1))
   have hlow := HLOW.out
   have e1 : IntKind.u64.wrap ((lw Q 0 : Int) + 1) = (lw Q 0 : Int) + 1 := IntWalk.u64_in _ (by omega)
   clear st
   go_wp2_with (with_reducible refine wSk 33 ?_)
   simp only [List.set_cons_zero, List.set_cons_succ] at st9
   rw [HLC.out] at st9
   clear c1 f1 hlow e1
   refine a0p st9 0 rfl rfl rfl Tryz.underlying78 rfl rfl (by first | (rw [a0a]; kernel_rfl) | (simp only [List.length_append, a0a]; kernel_rfl)) ?_
   go_wp2_with (with_reducible refine wSk 34 ?_)
   refine a0i st9 1 rfl rfl rfl Tryz.underlying60 rfl (by first | (rw [a0a]; kernel_rfl) | (simp only [List.length_append, a0a]; kernel_rfl)) ?_
   go_wp2_with (with_reducible refine wSk 35 ?_)
   refine a0i st9 3 rfl rfl rfl Tryz.underlying60 rfl (by first | (rw [a0a]; kernel_rfl) | (simp only [List.length_append, a0a]; kernel_rfl)) ?_
   go_wp2_with fail
   refine (HPOW.out _).mono ?_
   rintro e' w10 ⟨rfl, hf10⟩
   have st10 := st9.keep hf10
   clear st9 hf10
   go_wp2_with (with_reducible refine wSk 8 ?_)
   refine a0c st10 rfl rfl (z := zAd) (by kernel_rfl) (cw 4 0) (by rw [a0e]; rfl) ?_
   intro g8 w11 st11
   clear st10
   go_wp2_with (with_reducible refine wSn ?_)
   refine a0b st11 4 rfl rfl rfl rfl rfl (by first | (simp only [a0a]; done) | (simp only [List.length_append, a0a]; done)) (by first | (rw [a0a]; kernel_rfl) | (simp only [List.length_append, a0a]; kernel_rfl)) (a0g _ _) ?_
   intro w12 st12
   clear st11
   go_wp2_with fail
   refine wp_region_noPanic ?_
   refine a0o (fun wx => St Nob w wx [(g2, cw 4 p ++ cw 4 (B64 ^ 4 - p), 78), (g3, cw 4 a, 60), (g4, cw 4 0, 60), (g6, cw 4 n, 60), (g8, cw 4 R, 60)]) 5 (.t 0 (.t 1 (.t 2 (.t 4 (.r 3 (.m 5 .nil)))))) (by kernel_rfl) (by kernel_rfl) st12.drew (fun _ _ _ _ _ h => h) ?_
   have hd12 := st12.drew
   clear st12
   refine a0s rfl rfl rfl rfl (cw 4 p ++ cw 4 (B64 ^ 4 - p)) (fun wx hS => St.rangeL hS 0 rfl 0 _ dZl) Tryz.underlying78 rfl (by first | (rw [a0a]; kernel_rfl) | (simp only [List.length_append, a0a]; kernel_rfl)) ?_
   try simp only [clL]
   refine a0s rfl rfl rfl rfl (cw 4 R) (fun wx hS => St.rangeL hS 4 rfl 0 _ dZl) Tryz.underlying60 rfl (by first | (rw [a0a]; kernel_rfl) | (simp only [List.length_append, a0a]; kernel_rfl)) ?_
   try simp only [clL]
   refine a0s rfl rfl rfl rfl (cw 4 R) (fun wx hS => St.rangeL hS 4 rfl 0 _ dZl) Tryz.underlying60 rfl (by first | (rw [a0a]; kernel_rfl) | (simp only [List.length_append, a0a]; kernel_rfl)) ?_
   try simp only [clL]
   refine a0s rfl rfl rfl rfl (cw 4 a) (fun wx hS => St.rangeL hS 1 rfl 0 _ dZl) Tryz.underlying60 rfl (by first | (rw [a0a]; kernel_rfl) | (simp only [List.length_append, a0a]; kernel_rfl)) ?_
   try simp only [clL]
   refine a0A rfl rfl ?_
   go_simp
   refine (f0X p R R _ HP0.out HP.out HR4.out HR4.out).mono ?_
   rintro e' w13 ⟨rfl, hf13⟩
   have st13 := hd12.keep hf13
   clear hf13
   clear hd12
   refine ⟨st13, ?_⟩
   try simp only [clL]
   refine a0r rfl rfl ?_
   refine r0I (R * R % p) a HRR.out HA.out 60 Tryz.underlying60 Tryz.eqGuardType60 rfl rfl rfl HB.out ?_
   try simp only [clL]
   refine a0k ?_
   refine NoPanic.normal ?_
   have c1 := (st13.at 4 rfl).cell (a0D 4 R 0 (by decide))
   have hla := f0Y R
   rw [HPAR.out] at hla
   go_wp2_with (with_reducible refine wSk 51 ?_)
   refine a0i st13 4 rfl rfl rfl Tryz.underlying60 rfl (by first | (rw [a0a]; kernel_rfl) | (simp only [List.length_append, a0a]; kernel_rfl)) ?_
   go_wp2_with (with_reducible refine wSn ?_)
   refine a0b st13 2 rfl rfl rfl rfl rfl (by first | (simp only [a0a]; done) | (simp only [List.length_append, a0a]; done)) (by first | (rw [a0a]; kernel_rfl) | (simp only [List.length_append, a0a]; kernel_rfl)) (a0g _ _) ?_
   intro w14 st14
   clear st13
   have hr := st14.at 2 rfl
   have hfr := st14.fr
   clear st14
   go_wp2_with fail
   exact bodyPost_ret (b0c rfl rfl hr Tryz.underlying60 (by first | (rw [a0a]; kernel_rfl) | (simp only [List.length_append, a0a]; kernel_rfl)) rfl) rfl ⟨rfl, hfr⟩
theorem r0J (p a n R : Nat) (w : World) (hp0 : 0 < p) (hp : p < B64 ^ 4) (hn : p / 4 + 1 = n) (hn4 : n < B64 ^ 4) (ha : a < B64 ^ 4) (hlow : lw (p / 4) 0 + 1 < 18446744073709551616) (hR : R < p) (hpow : ∀ wx, Calls Tryz.prog 167 #[fv p, i4 a, i4 n] wx fun e w' => e = .returned (i4 R) ∧ Fr Nob wx w') (hb : decide (R * R % p = a) = true) (hpar : R % 2 = 1) :
  Calls Tryz.prog 186 #[fv p, i4 a] w fun e w' => e = .returned (.tuple #[i4 ((p - R) % p), .bool true]) ∧ Fr Nob w w' := by
 have HP0 := qH hp0
 have HP := qH hp
 have HN4 := qH hn4
 have HA := qH ha
 have HLOW := qH hlow
 have HPOW := qH hpow
 have HB := qH hb
 have HR4 := qH (Nat.lt_trans hR hp)
 have HRP := qH (Nat.le_of_lt hR)
 have HRR := qH (show R * R % p < B64 ^ 4 from Nat.lt_trans (Nat.mod_lt _ hp0) hp)
 have hlc := l0L (p / 4) hlow
 rw [hn] at hlc
 have HLC := qH hlc
 have HNE := qH hn
 have HPAR := qH hpar
 clear hp0 hp hn4 ha hlow hpow hb hR hlc hn hpar
 have st0 := St.start Nob w
 go_enter Tryz.func186, Tryz.ntmps186
 go_wp2_with (with_reducible refine wSk 2 ?_)
 refine a0m st0 rfl rfl rfl (cw 4 p ++ cw 4 (B64 ^ 4 - p)) rfl ?_
 intro g2 w1 st1
 clear st0
 go_wp2_with (with_reducible refine wSk 3 ?_)
 refine a0m st1 rfl rfl rfl (cw 4 a) rfl ?_
 intro g3 w2 st2
 clear st1
 go_wp2_with (with_reducible refine wSk 4 ?_)
 refine a0c st2 rfl rfl (z := zAd) (by kernel_rfl) (cw 4 0) (by rw [a0e]; rfl) ?_
 intro g4 w3 st3
 clear st2
 go_wp2_with (with_reducible refine wSk 6 ?_)
 refine a0c st3 rfl rfl (z := zAd) (by kernel_rfl) (cw 4 0) (by rw [a0e]; rfl) ?_
 intro g6 w4 st4
 clear st3
 go_wp2
 go_loopw [7] (fun i wr => ∃ k : Nat, k ≤ 254 ∧ i = .int .i64 (k : Int) ∧ St Nob w wr [(g2, cw 4 p ++ cw 4 (B64 ^ 4 - p), 78), (g3, cw 4 a, 60), (g4, cw 4 0, 60), (g6, cw 4 (p / 4 % 2 ^ k), 60)]) (fun i _ => 254 - (intOf i).toNat)
 case atStart => exact ⟨0, by omega, rfl, by rw [Nat.pow_zero, Nat.mod_one]; exact st4⟩
 case round =>
  obtain ⟨k, hk, rfl, st⟩ := hrel
  clear st4
  by_cases hlt : k < 254
  ·have hltI : (k : Int) < 254 := by omega
   have hstep := n0G 4 (p / 4 % 2 ^ k) k (p / 2 ^ (k + 2) % 2) (Nat.mod_lt _ (Nat.pow_pos (by decide))) (Nat.mod_lt _ (by decide)) (by omega)
   rw [← g0r] at hstep
   have hbit := fun wx => g0N p (k + 2) wx (by omega)
   have hb2 : p / 2 ^ (k + 2) % 2 < 2 := Nat.mod_lt _ (by decide)
   generalize p / 2 ^ (k + 2) % 2 = b at *
   generalize hq' : p / 4 % 2 ^ (k + 1) = q' at *
   have HQ := qH hq'
   clear hq'
   generalize p / 4 % 2 ^ k = q at *
   have HCELL := qH (o0a q b k q' hb2 hstep)
   have HBIT := qH hbit
   clear hstep hbit hb2
   have hlo : (0 : Int) ≤ (k : Int) / 64 ∧ (k : Int) / 64 < 4 := by omega
   have hlo2 : (0 : Int) ≤ (k : Int) % 64 ∧ (k : Int) % 64 < 64 := by omega
   have e1 : IntKind.i64.wrap ((k : Int) / 64) = (k : Int) / 64 := IntWalk.i64_in _ (by omega)
   have e2 : (k : Int).tmod 64 = (k : Int) % 64 := Int.tmod_eq_emod_of_nonneg (by omega)
   have e3 : IntKind.i64.wrap ((k : Int) + 2) = (k : Int) + 2 := IntWalk.i64_in _ (by omega)
   have e4 : ((k : Int) / 64).toNat = k / 64 := by omega
   have e5 : ((k : Int) % 64).toNat = k % 64 := by omega
   go_wp2_with fail
   refine wp_region_noPanic ?_
   refine a0o (fun wx => St Nob w wx [(g2, cw 4 p ++ cw 4 (B64 ^ 4 - p), 78), (g3, cw 4 a, 60), (g4, cw 4 0, 60), (g6, cw 4 q, 60)]) 16 (.w 0 (.w 1 (.w 2 (.w 3 (.w 4 (.t 5 (.w 6 (.t 7 (.w 8 (.w 9 (.w 11 (.w 12 (.r 10 (.w 13 (.w 14 (.w 15 (.m 16 .nil))))))))))))))))) (by kernel_rfl) (by kernel_rfl) st.drew (fun _ _ _ _ _ h => h) ?_
   have hd4 := st.drew
   clear st
   refine a0l (v := ?_) rfl rfl (fun wx => ?_) ?_
   rotate_left 1
   ·(go_simp; with_reducible rfl)
   try simp only [clL]
   refine a0l (v := ?_) rfl rfl (fun wx => ?_) ?_
   rotate_left 1
   ·(go_simp; with_reducible rfl)
   try simp only [clL]
   refine a0l (v := ?_) rfl rfl (fun wx => ?_) ?_
   rotate_left 1
   ·(go_simp; with_reducible rfl)
   try simp only [clL]
   refine a0l (v := ?_) rfl rfl (fun wx => ?_) ?_
   rotate_left 1
   ·(go_simp; with_reducible rfl)
   try simp only [clL]
   refine a0l (v := ?_) rfl rfl (fun wx => ?_) ?_
   rotate_left 1
   ·(go_simp; with_reducible rfl)
   try simp only [clL]
   refine d0v (v := ?_) rfl rfl (fun wx hS => ?_) ?_
   rotate_left 1
   ·(have hc := (St.at hS 3 rfl).cell (a0D 4 q (k / 64) (by omega)); clear hS; go_simp; with_reducible rfl)
   try simp only [clL]
   refine a0l (v := ?_) rfl rfl (fun wx => ?_) ?_
   rotate_left 1
   ·(go_simp; with_reducible rfl)
   try simp only [clL]
   refine a0s rfl rfl rfl rfl (cw 4 p) (fun wx hS => St.rangeL hS 0 rfl 0 _ (f0T 4 4 _ _)) Tryz.underlying60 rfl (by first | (rw [a0a]; kernel_rfl) | (simp only [List.length_append, a0a]; kernel_rfl)) ?_
   try simp only [clL]
   refine a0l (v := ?_) rfl rfl (fun wx => ?_) ?_
   rotate_left 1
   ·(go_simp; with_reducible rfl)
   try simp only [clL]
   refine a0l (v := ?_) rfl rfl (fun wx => ?_) ?_
   rotate_left 1
   ·(go_simp; with_reducible rfl)
   try simp only [clL]
   refine a0l (v := ?_) rfl rfl (fun wx => ?_) ?_
   rotate_left 1
   ·(go_simp; with_reducible rfl)
   try simp only [clL]
   refine a0l (v := ?_) rfl rfl (fun wx => ?_) ?_
   rotate_left 1
   ·(go_simp; with_reducible rfl)
   try simp only [clL]
   refine a0A rfl rfl ?_
   go_simp
   refine (HBIT.out _).mono ?_
   rintro e' w5 ⟨rfl, hf5⟩
   have st5 := hd4.keep hf5
   clear hf5
   clear hd4
   refine ⟨st5, ?_⟩
   try simp only [clL]
   refine a0l (v := ?_) rfl rfl (fun wx => ?_) ?_
   rotate_left 1
   ·(go_simp; with_reducible rfl)
   try simp only [clL]
   refine a0l (v := ?_) rfl rfl (fun wx => ?_) ?_
   rotate_left 1
   ·(go_simp; with_reducible rfl)
   try simp only [clL]
   refine a0l (v := ?_) rfl rfl (fun wx => ?_) ?_
   rotate_left 1
   ·(go_simp; with_reducible rfl)
   try simp only [clL]
   refine a0r rfl rfl ?_
   have f1 := (st5.at 3 rfl).free (k / 64) (by rw [a0a]; omega)
   have c1 := (st5.at 3 rfl).cell (a0D 4 q (k / 64) (by omega))
   go_simp
   have st6 := st5.set 3 rfl (k / 64) (.int .u64 (bits .or .u64 (lw q (k / 64) : Nat) (IntKind.u64.wrap ((b : Int) * 2 ^ (k % 64)))))
   simp only [List.set_cons_zero, List.set_cons_succ] at st6
   rw [HCELL.out] at st6
   clear f1 c1 st5
   try simp only [clL]
   refine a0k ?_
   refine NoPanic.normal ?_
   go_wp2
   go_roundw
   case rel => exact ⟨k + 1, by omega, by go_num, by rw [HQ.out]; exact st6⟩
   case measure => simp [intOf]; omega
  ·have hge : ¬ ((k : Int) < 254) := by omega
   have hk2 : k = 254 := by omega
   rw [hk2, i0d p HP.out] at st
   clear hk2
   generalize p / 4 = Q at *
   have c1 := (st.at 3 rfl).cell (a0D 4 Q 0 (by decide))
   have f1 := (st.at 3 rfl).free 0 (by rw [a0a]; decide)
   have st9 := st.set 3 rfl 0 (.int .u64 ((lw Q 0 : Int) + 1))
   have hlow := HLOW.out
   have e1 : IntKind.u64.wrap ((lw Q 0 : Int) + 1) = (lw Q 0 : Int) + 1 := IntWalk.u64_in _ (by omega)
   clear st
   go_wp2_with (with_reducible refine wSk 33 ?_)
   simp only [List.set_cons_zero, List.set_cons_succ] at st9
   rw [HLC.out] at st9
   clear c1 f1 hlow e1
   refine a0p st9 0 rfl rfl rfl Tryz.underlying78 rfl rfl (by first | (rw [a0a]; kernel_rfl) | (simp only [List.length_append, a0a]; kernel_rfl)) ?_
   go_wp2_with (with_reducible refine wSk 34 ?_)
   refine a0i st9 1 rfl rfl rfl Tryz.underlying60 rfl (by first | (rw [a0a]; kernel_rfl) | (simp only [List.length_append, a0a]; kernel_rfl)) ?_
   go_wp2_with (with_reducible refine wSk 35 ?_)
   refine a0i st9 3 rfl rfl rfl Tryz.underlying60 rfl (by first | (rw [a0a]; kernel_rfl) | (simp only [List.length_append, a0a]; kernel_rfl)) ?_
   go_wp2_with fail
   refine (HPOW.out _).mono ?_
   rintro e' w10 ⟨rfl, hf10⟩
   have st10 := st9.keep hf10
   clear st9 hf10
   go_wp2_with (with_reducible refine wSk 8 ?_)
   refine a0c st10 rfl rfl (z := zAd) (by kernel_rfl) (cw 4 0) (by rw [a0e]; rfl) ?_
   intro g8 w11 st11
   clear st10
   go_wp2_with (with_reducible refine wSn ?_)
   refine a0b st11 4 rfl rfl rfl rfl rfl (by first | (simp only [a0a]; done) | (simp only [List.length_append, a0a]; done)) (by first | (rw [a0a]; kernel_rfl) | (simp only [List.length_append, a0a]; kernel_rfl)) (a0g _ _) ?_
   intro w12 st12
   clear st11
   go_wp2_with fail
   refine wp_region_noPanic ?_
   refine a0o (fun wx => St Nob w wx [(g2, cw 4 p ++ cw 4 (B64 ^ 4 - p), 78), (g3, cw 4 a, 60), (g4, cw 4 0, 60), (g6, cw 4 n, 60), (g8, cw 4 R, 60)]) 5 (.t 0 (.t 1 (.t 2 (.t 4 (.r 3 (.m 5 .nil)))))) (by kernel_rfl) (by kernel_rfl) st12.drew (fun _ _ _ _ _ h => h) ?_
   have hd12 := st12.drew
   clear st12
   refine a0s rfl rfl rfl rfl (cw 4 p ++ cw 4 (B64 ^ 4 - p)) (fun wx hS => St.rangeL hS 0 rfl 0 _ dZl) Tryz.underlying78 rfl (by first | (rw [a0a]; kernel_rfl) | (simp only [List.length_append, a0a]; kernel_rfl)) ?_
   try simp only [clL]
   refine a0s rfl rfl rfl rfl (cw 4 R) (fun wx hS => St.rangeL hS 4 rfl 0 _ dZl) Tryz.underlying60 rfl (by first | (rw [a0a]; kernel_rfl) | (simp only [List.length_append, a0a]; kernel_rfl)) ?_
   try simp only [clL]
   refine a0s rfl rfl rfl rfl (cw 4 R) (fun wx hS => St.rangeL hS 4 rfl 0 _ dZl) Tryz.underlying60 rfl (by first | (rw [a0a]; kernel_rfl) | (simp only [List.length_append, a0a]; kernel_rfl)) ?_
   try simp only [clL]
   refine a0s rfl rfl rfl rfl (cw 4 a) (fun wx hS => St.rangeL hS 1 rfl 0 _ dZl) Tryz.underlying60 rfl (by first | (rw [a0a]; kernel_rfl) | (simp only [List.length_append, a0a]; kernel_rfl)) ?_
   try simp only [clL]
   refine a0A rfl rfl ?_
   go_simp
   refine (f0X p R R _ HP0.out HP.out HR4.out HR4.out).mono ?_
   rintro e' w13 ⟨rfl, hf13⟩
   have st13 := hd12.keep hf13
   clear hf13
   clear hd12
   refine ⟨st13, ?_⟩
   try simp only [clL]
   refine a0r rfl rfl ?_
   refine r0I (R * R % p) a HRR.out HA.out 60 Tryz.underlying60 Tryz.eqGuardType60 rfl rfl rfl HB.out ?_
   try simp only [clL]
   refine a0k ?_
   refine NoPanic.normal ?_
   have c1 := (st13.at 4 rfl).cell (a0D 4 R 0 (by decide))
   have hla := f0Y R
   rw [HPAR.out] at hla
   go_wp2_with (with_reducible refine wSk 48 ?_)
   refine a0p st13 0 rfl rfl rfl Tryz.underlying78 rfl rfl (by first | (rw [a0a]; kernel_rfl) | (simp only [List.length_append, a0a]; kernel_rfl)) ?_
   go_wp2_with (with_reducible refine wSk 49 ?_)
   refine a0i st13 4 rfl rfl rfl Tryz.underlying60 rfl (by first | (rw [a0a]; kernel_rfl) | (simp only [List.length_append, a0a]; kernel_rfl)) ?_
   go_wp2_with fail
   refine (q0w p R _ HRP.out HP.out HR4.out).mono ?_
   rintro e' w14 ⟨rfl, hf14⟩
   have st14 := st13.keep hf14
   clear st13 hf14
   go_wp2_with (with_reducible refine wSn ?_)
   refine a0b st14 4 rfl rfl rfl rfl rfl (by first | (simp only [a0a]; done) | (simp only [List.length_append, a0a]; done)) (by first | (rw [a0a]; kernel_rfl) | (simp only [List.length_append, a0a]; kernel_rfl)) (a0g _ _) ?_
   intro w15 st15
   clear st14
   go_wp2_with (with_reducible refine wSk 51 ?_)
   refine a0i st15 4 rfl rfl rfl Tryz.underlying60 rfl (by first | (rw [a0a]; kernel_rfl) | (simp only [List.length_append, a0a]; kernel_rfl)) ?_
   go_wp2_with (with_reducible refine wSn ?_)
   refine a0b st15 2 rfl rfl rfl rfl rfl (by first | (simp only [a0a]; done) | (simp only [List.length_append, a0a]; done)) (by first | (rw [a0a]; kernel_rfl) | (simp only [List.length_append, a0a]; kernel_rfl)) (a0g _ _) ?_
   intro w16 st16
   clear st15
   have hr := st16.at 2 rfl
   have hfr := st16.fr
   clear st16
   go_wp2_with fail
   exact bodyPost_ret (b0c rfl rfl hr Tryz.underlying60 (by first | (rw [a0a]; kernel_rfl) | (simp only [List.length_append, a0a]; kernel_rfl)) rfl) rfl ⟨rfl, hfr⟩
end
section
open Go.RowKit Go.Mv Mvp
theorem z0H {k : Int} {m : Md} (h : KindOf k m) : lw (m.M / 4) 0 + 1 < 18446744073709551616 := by
 cases h
 ·decide
 ·decide
theorem u0e (p a : Nat) (w : World) (hp1 : 1 < p) (hp : p < B64 ^ 4) (ha : a < p) (hlow : lw (p / 4) 0 + 1 < 18446744073709551616) (hr : b0T p a = true) :
  Calls Tryz.prog 186 #[fv p, i4 a] w fun e w' => e = .returned (.tuple #[i4 (rtV p a % p), .bool true]) ∧ Fr Nob w w' := by
 unfold b0T at hr
 unfold rtV
 unfold rtN at *
 have hn4 : p / 4 + 1 < B64 ^ 4 := by omega
 generalize hn : p / 4 + 1 = n at *
 have hpow := fun wx => q0B p a n wx hp1 hp (Nat.lt_trans ha hp) hn4
 have hR : a ^ n % p < p := Nat.mod_lt _ (by omega)
 rw [Nat.mul_mod, Nat.mod_eq_of_lt ha] at hr
 have hsame : a ^ n % p = a ^ n % p % p := (Nat.mod_mod _ _).symm
 generalize hRR : a ^ n % p = R at *
 have hb : decide (R * R % p = a) = true := by simpa using hr
 by_cases hpar : R % 2 = 1
 ·rw [if_pos hpar]
  exact r0J p a n R w (by omega) hp hn hn4 (Nat.lt_trans ha hp) hlow hR hpow hb hpar
 ·rw [if_neg hpar, hRR]
  exact p0m p a n R w (by omega) hp hn hn4 (Nat.lt_trans ha hp) hlow hR hpow hb (by omega)
attribute [local irreducible] a0F lw mix cw b0n b0v b0k a0M a0q beN b0C b0i b0z a0J a0R elN mdL c0D b0o rtN b0T rtV
end
section
open Go.RowKit Go.Mv Mvp Mvq
def kN (a : K) : Nat := a.val
theorem mPM : mP.M = fP := q0Z
theorem u0f (a : K) : kN a < mP.M := by rw [mPM]; exact a.isLt
theorem e0U (a : K) : kN a < B64 ^ 4 := Nat.lt_trans (u0f a) c0l.lt
theorem p0n (n : Nat) : kN (kc n) = n % fP := rfl
theorem p0o (a : K) : kc (kN a) = a := by
 apply Fin.ext
 show a.val % fP = a.val
 exact Nat.mod_eq_of_lt a.isLt
theorem v0f {a b : K} (h : kN a = kN b) : a = b := Fin.ext h
theorem hK0 : KindOf 0 mP := .zero
theorem a0L (w : World) : Calls Tryz.prog 112 #[] w fun e w' => e = .returned (fv mP.M) ∧ Fr Nob w w' := by
 go_enter Tryz.func112, Tryz.ntmps112
 have st0 := St.start Nob w
 go_wp2_with (with_reducible refine wSk 0 ?_)
 refine a0c st0 rfl rfl (z := .agg #[.int .u64 0, .int .u64 0, .int .u64 0, .int .u64 0, .int .u64 0, .int .u64 0, .int .u64 0, .int .u64 0]) (by kernel_rfl) (cw 8 0) (by rw [a0e]; rfl) ?_
 intro g0 w1 st1
 clear st0
 go_wp2_with fail
 refine (x0X hK0 _).mono ?_
 rintro e' w2 ⟨rfl, hf2⟩
 have st2 := st1.keep hf2
 clear st1 hf2
 go_wp2_with (with_reducible refine wSn ?_)
 refine a0b st2 0 rfl rfl rfl rfl (cs := cw 4 mP.M ++ cw 4 (B64 ^ 4 - mP.M)) rfl (by first | (simp only [a0a]; done) | (simp only [List.length_append, a0a]; done)) (by first | (rw [a0a]; kernel_rfl) | (simp only [List.length_append, a0a]; kernel_rfl)) (h0G _ _ _ _) ?_
 intro w3 st3
 clear st2
 have hr := st3.at 0 rfl
 have hfr := st3.fr
 clear st3
 go_wp2_with fail
 exact bodyPost_ret (a0u rfl rfl hr Tryz.underlying78 rfl (by first | (rw [a0a]; kernel_rfl) | (simp only [List.length_append, a0a]; kernel_rfl))) rfl ⟨rfl, hfr⟩
theorem e0e (a b r : K) (hr : a * b = r) (w : World) : Calls Tryz.prog 58 #[fv mP.M, i4 (kN a), i4 (kN b)] w fun e w' => e = .returned (i4 (kN r)) ∧ Fr Nob w w' := by
 have h := f0X mP.M (kN a) (kN b) w (by have := c0l.one; omega) c0l.lt (e0U a) (e0U b)
 have e : kN a * kN b % mP.M = kN r := by rw [mPM, ← p0n, a0E, p0o, p0o, hr]
 rwa [e] at h
theorem x0r (a b r : K) (hr : a + b = r) (w : World) : Calls Tryz.prog 57 #[fv mP.M, i4 (kN a), i4 (kN b)] w fun e w' => e = .returned (i4 (kN r)) ∧ Fr Nob w w' := by
 have h := m0s mP.M (kN a) (kN b) w (by have := c0l.one; omega) c0l.lt (e0U a) (e0U b)
 have e : (kN a + kN b) % mP.M = kN r := by rw [mPM, ← p0n, g0c, p0o, p0o, hr]
 rwa [e] at h
theorem u0g (a b r : K) (hr : a - b = r) (w : World) : Calls Tryz.prog 137 #[fv mP.M, i4 (kN a), i4 (kN b)] w fun e w' => e = .returned (i4 (kN r)) ∧ Fr Nob w w' := by
 have hb := Nat.mod_eq_of_lt (u0f b)
 refine z0E mP.M (kN a) (kN b) (kN r) w (by have := c0l.one; omega) c0l.lt (e0U a) (e0U b) (Nat.le_of_lt (u0f b)) ?_
 rw [← hb, mPM, ← p0n, c0I, p0o, p0o, hr]
theorem A0d (a r : K) (hr : c0b a = r) (w : World) : Calls Tryz.prog 113 #[fv mP.M, i4 (kN a)] w fun e w' => e = .returned (i4 (kN r)) ∧ Fr Nob w w' := by
 refine z0F mP.M (kN a) (kN r) w c0l.one c0l.lt (e0U a) ?_
 rw [← hr, mPM]
 unfold c0b
 rw [p0n]
 unfold kN
 generalize fP - 2 = z
 rfl
theorem y0N (a : K) (b : Bool) (hb : decide (a = 0) = b) (w : World) : Calls Tryz.prog 123 #[i4 (kN a)] w fun e w' => e = .returned (.bool b) ∧ Fr Nob w w' := by
 have h := j0v (kN a) w (e0U a)
 have e : decide (kN a = 0) = b := by
  rw [← hb, Bool.eq_iff_iff, decide_eq_true_eq, decide_eq_true_eq]
  exact ⟨fun h => v0f (h.trans rfl), fun h => by rw [h]; rfl⟩
 rwa [e] at h
theorem r0K (w : World) : Calls Tryz.prog 156 #[.int .u64 1] w fun e w' => e = .returned (i4 (kN 1)) ∧ Fr Nob w w' := h0F 1 w (by decide)
theorem w0U (w : World) : Calls Tryz.prog 156 #[.int .u64 7] w fun e w' => e = .returned (i4 (kN 7)) ∧ Fr Nob w w' := h0F 7 w (by decide)
theorem r0L (x y : K) {b : Bool} (hb : decide (x = y) = b) (w : World) : (Op.equal 60 (.agg (cw 4 (kN x)).toArray) (.agg (cw 4 (kN y)).toArray)).run Tryz.prog w = .ok b w := by
 rw [w0Q (kN x) (kN y) (e0U x) (e0U y) w]
 congr 1
 rw [← hb, Bool.eq_iff_iff, beq_iff_eq, decide_eq_true_eq]
 exact ⟨v0f, fun h => by rw [h]⟩
theorem i0e (x y : K) {o : Oper} {a : Act} {p q : Operand} {T : TypeId} (ho : o.op = .binOp .eql 60 p q T) (hp : a.eval p = i4 (kN x)) (hq : a.eval q = i4 (kN y)) {b : Bool} (hb : decide (x = y) = b) (w : World) :
  (execOp a.eval o).run Tryz.prog w = .ok (.value (.bool b)) w :=
 d0Q ho hp hq w (run_eqGuard_agg w .eql 60 p q _ _ Tryz.eqGuardType60) (e0u w (r0L x y hb w))
theorem w0V (n : Nat) (hn : n < mP.M) (hr : b0T fP n = true) (w : World) : Calls Tryz.prog 186 #[fv mP.M, i4 n] w fun e w' => e = .returned (.tuple #[i4 (kN (kc (rtV fP n))), .bool true]) ∧ Fr Nob w w' := by
 have h := u0e mP.M n w c0l.one c0l.lt hn (z0H hK0) (by rw [mPM]; exact hr)
 rw [mPM, ← p0n, ← mPM] at h
 exact h
end
section
open Go.RowKit Go.Mv Mvp Mvq
def rpL (x y z : K) : List Value := cw 4 (kN x) ++ (cw 4 (kN y) ++ cw 4 (kN z))
def rpV (x y z : K) : Value := .agg (rpL x y z).toArray
theorem w0W : kN 0 = 0 := rfl
theorem k0g (a b c : Nat) : Tryz.prog.built 62 [(0, i4 a), (1, i4 b), (2, i4 c)] = some (cw 4 a ++ (cw 4 b ++ cw 4 c)).toArray := by kernel_rfl
theorem r0M (b : Nat) : Tryz.prog.built 62 [(1, i4 b)] = some (cw 4 0 ++ (cw 4 b ++ cw 4 0)).toArray := by kernel_rfl
theorem e0V : (Tryz.prog.info? 60).map (·.zero) = some (some (.agg (cw 4 0).toArray)) := by kernel_rfl
attribute [local irreducible] a0F lw mix cw b0n b0v b0k a0M a0q beN b0C b0i b0z a0J a0R elN mdL b0o rtV b0T kN kc c0b b0Z
theorem l0M (w : World) : Calls Tryz.prog 95 #[] w fun e w' => e = .returned (rpV 0 1 0) ∧ Fr Nob w w' := by
 have st0 := St.start Nob w
 go_enter Tryz.func95, Tryz.ntmps95
 go_wp2_with (with_reducible refine wSk 0 ?_)
 refine a0c st0 rfl rfl (z := zAc) (by kernel_rfl) (cw 12 0) (by rw [a0e]; rfl) ?_
 intro g0 w1 st1
 clear st0
 go_wp2_with fail
 refine (r0K _).mono ?_
 rintro e' w2 ⟨rfl, hf2⟩
 have st2 := st1.keep hf2
 clear st1 hf2
 go_wp2_with (with_reducible refine wSk 2 ?_)
 refine b0y rfl rfl _ (r0M _) ?_
 go_wp2_with (with_reducible refine wSn ?_)
 refine a0b st2 0 rfl rfl rfl rfl rfl (by simp [a0a]) (by kernel_rfl) (b0g _ _ _) ?_
 intro w3 st3
 clear st2
 have hr := st3.at 0 rfl
 have hfr := st3.fr
 clear st3
 go_wp2_with fail
 exact bodyPost_ret (a0u rfl rfl hr Tryz.underlying62 rfl (by kernel_rfl)) rfl ⟨by unfold rpV rpL; rw [w0W], hfr⟩
theorem d0o (x y z : K) (b : Bool) (hb : decide (z = 0) = b) (w : World) : Calls Tryz.prog 111 #[rpV x y z] w fun e w' => e = .returned (.bool b) ∧ Fr Nob w w' := by
 have HB := qH hb
 clear hb
 unfold rpV rpL
 have st0 := St.start Nob w
 go_enter Tryz.func111, Tryz.ntmps111
 go_wp2_with (with_reducible refine wSk 1 ?_)
 refine a0m st0 rfl rfl rfl (cw 4 (kN x) ++ (cw 4 (kN y) ++ cw 4 (kN z))) rfl ?_
 intro g1 w1 st1
 clear st0
 go_wp2_with (with_reducible refine wSk 4 ?_)
 refine b0N rfl rfl Tryz.underlying60 rfl (st1.at 0 rfl) (cw 4 (kN z)) (f0E _ _ _) (by kernel_rfl) ?_
 go_wp2_with fail
 refine (y0N z b HB.out _).mono ?_
 rintro e' w2 ⟨rfl, hf2⟩
 have st2 := st1.keep hf2
 clear st1 hf2
 have hfr := st2.fr
 clear st2
 go_wp2_with fail
 go_ret
 exact ⟨rfl, hfr⟩
theorem r0N (x y z : K) (xx d1 d y2 ee e2 e3 t1 t2 x2 t3 t X s1 s2 s3 s4 Y Z : K) (exx : x * x = xx) (ed1 : xx + xx = d1) (ed : d1 + xx = d) (ey2 : y + y = y2) (eee : y2 * z = ee) (ee2 : ee * ee = e2) (ee3 : e2 * ee = e3) (et1 : d * d = t1) (et2 : t1 * z = t2) (ex2 : x + x = x2) (et3 : x2 * e2 = t3) (et : t2 - t3 = t) (eX : ee * t = X) (es1 : x * e2 = s1) (es2 : s1 - t = s2) (es3 : d * s2 = s3) (es4 : y * e3 = s4) (eY : s3 - s4 = Y) (eZ : e3 * z = Z) (w : World) : Calls Tryz.prog 136 #[rpV x y z] w fun e w' => e = .returned (rpV X Y Z) ∧ Fr Nob w w' := by
 have Hxx := qH exx
 have Hd1 := qH ed1
 have Hd := qH ed
 have Hy2 := qH ey2
 have Hee := qH eee
 have He2 := qH ee2
 have He3 := qH ee3
 have Ht1 := qH et1
 have Ht2 := qH et2
 have Hx2 := qH ex2
 have Ht3 := qH et3
 have Ht := qH et
 have HX := qH eX
 have Hs1 := qH es1
 have Hs2 := qH es2
 have Hs3 := qH es3
 have Hs4 := qH es4
 have HY := qH eY
 have HZ := qH eZ
 clear exx ed1 ed ey2 eee ee2 ee3 et1 et2 ex2 et3 et eX es1 es2 es3 es4 eY eZ
 unfold rpV rpL
 have st0 := St.start Nob w
 go_enter Tryz.func136, Tryz.ntmps136
 go_wp2_with (with_reducible refine wSk 1 ?_)
 refine a0m st0 rfl rfl rfl (cw 4 (kN x) ++ (cw 4 (kN y) ++ cw 4 (kN z))) rfl ?_
 intro g1 w1 st1
 clear st0
 go_wp2_with (with_reducible refine wSk 2 ?_)
 refine a0c st1 rfl rfl (z := zAc) (by kernel_rfl) (cw 12 0) (by rw [a0e]; rfl) ?_
 intro g2 w2 st2
 clear st1
 go_wp2_with fail
 refine wp_region_noPanic ?_
 refine a0h st2 7 [.o 6, .w 1, .t 2, .w 3, .t 4, .c 0, .c 5, .j 6] (.m 7 .nil) (by kernel_rfl) (by kernel_rfl) (fun _ _ _ _ _ h => h) ?_
 clear st2
 refine b0l rfl rfl rfl e0V (cw 4 0) rfl ?_
 try simp only [clL]
 refine a0n (v := ?_) rfl rfl (fun xq wx => ?_) ?_; rotate_left 1; · (go_simp; with_reducible rfl)
 try simp only [clL]
 refine a0f rfl rfl rfl (fun _ => rfl) (cw 4 (kN x)) (fun wx hS => St.rangeL hS 0 rfl 0 _ (k0k _ _ _)) Tryz.underlying60 rfl (by kernel_rfl) ?_
 try simp only [clL]
 refine a0n (v := ?_) rfl rfl (fun xq wx => ?_) ?_; rotate_left 1; · (go_simp; with_reducible rfl)
 try simp only [clL]
 refine a0f rfl rfl rfl (fun _ => rfl) (cw 4 (kN x)) (fun wx hS => St.rangeL hS 0 rfl 0 _ (k0k _ _ _)) Tryz.underlying60 rfl (by kernel_rfl) ?_
 try simp only [clL]
 refine a0d rfl rfl rfl Tryz.call112 (fun w hS hR => a0L _) (fun _ => rfl) ?_
 try simp only [clL]
 refine a0d rfl rfl rfl Tryz.call58 (fun w hS hR => e0e x x xx Hxx.out _) (fun _ => rfl) ?_
 try simp only [clL]
 refine b0m List.mem_cons_self fun g3 => ?_
 simp only [upd, reduceIte]
 refine a0y fun xq w3 st3 hR => ?_
 try dsimp only
 clear hR xq
 refine a0r rfl rfl ?_
 refine a0j st3 2 rfl rfl rfl rfl (by simp [a0a]) (by kernel_rfl) (a0g _ _) ?_
 intro w4 st4
 repeat (first | simp only [List.cons_append] at st4 | simp only [List.nil_append] at st4 | simp only [List.set_cons_succ] at st4 | simp only [List.set_cons_zero] at st4)
 clear st3
 try simp only [Act.put]
 refine a0k ?_
 refine NoPanic.normal ?_
 go_wp2_with fail
 refine wp_region_noPanic ?_
 refine a0h st4 8 [.o 7, .t 2, .t 3, .t 5, .c 0, .c 1, .c 4, .c 6, .j 7] (.m 8 .nil) (by kernel_rfl) (by kernel_rfl) (fun _ _ _ _ _ h => h) ?_
 clear st4
 refine b0l rfl rfl rfl e0V (cw 4 0) rfl ?_
 try simp only [clL]
 refine a0f rfl rfl rfl (fun _ => rfl) (cw 4 (kN xx)) (fun wx hS => St.rangeL hS 2 rfl 0 _ dZl) Tryz.underlying60 rfl (by kernel_rfl) ?_
 try simp only [clL]
 refine a0f rfl rfl rfl (fun _ => rfl) (cw 4 (kN xx)) (fun wx hS => St.rangeL hS 2 rfl 0 _ dZl) Tryz.underlying60 rfl (by kernel_rfl) ?_
 try simp only [clL]
 refine a0f rfl rfl rfl (fun _ => rfl) (cw 4 (kN xx)) (fun wx hS => St.rangeL hS 2 rfl 0 _ dZl) Tryz.underlying60 rfl (by kernel_rfl) ?_
 try simp only [clL]
 refine a0d rfl rfl rfl Tryz.call112 (fun w hS hR => a0L _) (fun _ => rfl) ?_
 try simp only [clL]
 refine a0d rfl rfl rfl Tryz.call112 (fun w hS hR => a0L _) (fun _ => rfl) ?_
 try simp only [clL]
 refine a0d rfl rfl rfl Tryz.call57 (fun w hS hR => x0r xx xx d1 Hd1.out _) (fun _ => rfl) ?_
 try simp only [clL]
 refine a0d rfl rfl rfl Tryz.call57 (fun w hS hR => x0r d1 xx d Hd.out _) (fun _ => rfl) ?_
 try simp only [clL]
 refine b0m List.mem_cons_self fun g4 => ?_
 simp only [upd, reduceIte]
 refine a0y fun xq w5 st5 hR => ?_
 try dsimp only
 clear hR xq
 refine a0r rfl rfl ?_
 refine a0j st5 3 rfl rfl rfl rfl (by simp [a0a]) (by kernel_rfl) (a0g _ _) ?_
 intro w6 st6
 repeat (first | simp only [List.cons_append] at st6 | simp only [List.nil_append] at st6 | simp only [List.set_cons_succ] at st6 | simp only [List.set_cons_zero] at st6)
 clear st5
 try simp only [Act.put]
 refine a0k ?_
 refine NoPanic.normal ?_
 go_wp2_with fail
 refine wp_region_noPanic ?_
 refine a0h st6 11 [.o 10, .w 2, .t 3, .w 4, .t 5, .w 7, .t 8, .c 0, .c 1, .c 6, .c 9, .j 10] (.m 11 .nil) (by kernel_rfl) (by kernel_rfl) (fun _ _ _ _ _ h => h) ?_
 clear st6
 refine b0l rfl rfl rfl e0V (cw 4 0) rfl ?_
 try simp only [clL]
 refine a0n (v := ?_) rfl rfl (fun xq wx => ?_) ?_; rotate_left 1; · (go_simp; with_reducible rfl)
 try simp only [clL]
 refine a0f rfl rfl rfl (fun _ => rfl) (cw 4 (kN y)) (fun wx hS => St.rangeL hS 0 rfl 4 _ (l0Q _ _ _)) Tryz.underlying60 rfl (by kernel_rfl) ?_
 try simp only [clL]
 refine a0n (v := ?_) rfl rfl (fun xq wx => ?_) ?_; rotate_left 1; · (go_simp; with_reducible rfl)
 try simp only [clL]
 refine a0f rfl rfl rfl (fun _ => rfl) (cw 4 (kN y)) (fun wx hS => St.rangeL hS 0 rfl 4 _ (l0Q _ _ _)) Tryz.underlying60 rfl (by kernel_rfl) ?_
 try simp only [clL]
 refine a0n (v := ?_) rfl rfl (fun xq wx => ?_) ?_; rotate_left 1; · (go_simp; with_reducible rfl)
 try simp only [clL]
 refine a0f rfl rfl rfl (fun _ => rfl) (cw 4 (kN z)) (fun wx hS => St.rangeL hS 0 rfl 8 _ (f0E _ _ _)) Tryz.underlying60 rfl (by kernel_rfl) ?_
 try simp only [clL]
 refine a0d rfl rfl rfl Tryz.call112 (fun w hS hR => a0L _) (fun _ => rfl) ?_
 try simp only [clL]
 refine a0d rfl rfl rfl Tryz.call112 (fun w hS hR => a0L _) (fun _ => rfl) ?_
 try simp only [clL]
 refine a0d rfl rfl rfl Tryz.call57 (fun w hS hR => x0r y y y2 Hy2.out _) (fun _ => rfl) ?_
 try simp only [clL]
 refine a0d rfl rfl rfl Tryz.call58 (fun w hS hR => e0e y2 z ee Hee.out _) (fun _ => rfl) ?_
 try simp only [clL]
 refine b0m List.mem_cons_self fun g5 => ?_
 simp only [upd, reduceIte]
 refine a0y fun xq w7 st7 hR => ?_
 try dsimp only
 clear hR xq
 refine a0r rfl rfl ?_
 refine a0j st7 4 rfl rfl rfl rfl (by simp [a0a]) (by kernel_rfl) (a0g _ _) ?_
 intro w8 st8
 repeat (first | simp only [List.cons_append] at st8 | simp only [List.nil_append] at st8 | simp only [List.set_cons_succ] at st8 | simp only [List.set_cons_zero] at st8)
 clear st7
 try simp only [Act.put]
 refine a0k ?_
 refine NoPanic.normal ?_
 go_wp2_with fail
 refine wp_region_noPanic ?_
 refine a0h st8 5 [.o 4, .t 1, .t 2, .c 0, .c 3, .j 4] (.m 5 .nil) (by kernel_rfl) (by kernel_rfl) (fun _ _ _ _ _ h => h) ?_
 clear st8
 refine b0l rfl rfl rfl e0V (cw 4 0) rfl ?_
 try simp only [clL]
 refine a0f rfl rfl rfl (fun _ => rfl) (cw 4 (kN ee)) (fun wx hS => St.rangeL hS 4 rfl 0 _ dZl) Tryz.underlying60 rfl (by kernel_rfl) ?_
 try simp only [clL]
 refine a0f rfl rfl rfl (fun _ => rfl) (cw 4 (kN ee)) (fun wx hS => St.rangeL hS 4 rfl 0 _ dZl) Tryz.underlying60 rfl (by kernel_rfl) ?_
 try simp only [clL]
 refine a0d rfl rfl rfl Tryz.call112 (fun w hS hR => a0L _) (fun _ => rfl) ?_
 try simp only [clL]
 refine a0d rfl rfl rfl Tryz.call58 (fun w hS hR => e0e ee ee e2 He2.out _) (fun _ => rfl) ?_
 try simp only [clL]
 refine b0m List.mem_cons_self fun g6 => ?_
 simp only [upd, reduceIte]
 refine a0y fun xq w9 st9 hR => ?_
 try dsimp only
 clear hR xq
 refine a0r rfl rfl ?_
 refine a0j st9 5 rfl rfl rfl rfl (by simp [a0a]) (by kernel_rfl) (a0g _ _) ?_
 intro w10 st10
 repeat (first | simp only [List.cons_append] at st10 | simp only [List.nil_append] at st10 | simp only [List.set_cons_succ] at st10 | simp only [List.set_cons_zero] at st10)
 clear st9
 try simp only [Act.put]
 refine a0k ?_
 refine NoPanic.normal ?_
 go_wp2_with fail
 refine wp_region_noPanic ?_
 refine a0h st10 5 [.o 4, .t 1, .t 2, .c 0, .c 3, .j 4] (.m 5 .nil) (by kernel_rfl) (by kernel_rfl) (fun _ _ _ _ _ h => h) ?_
 clear st10
 refine b0l rfl rfl rfl e0V (cw 4 0) rfl ?_
 try simp only [clL]
 refine a0f rfl rfl rfl (fun _ => rfl) (cw 4 (kN e2)) (fun wx hS => St.rangeL hS 5 rfl 0 _ dZl) Tryz.underlying60 rfl (by kernel_rfl) ?_
 try simp only [clL]
 refine a0f rfl rfl rfl (fun _ => rfl) (cw 4 (kN ee)) (fun wx hS => St.rangeL hS 4 rfl 0 _ dZl) Tryz.underlying60 rfl (by kernel_rfl) ?_
 try simp only [clL]
 refine a0d rfl rfl rfl Tryz.call112 (fun w hS hR => a0L _) (fun _ => rfl) ?_
 try simp only [clL]
 refine a0d rfl rfl rfl Tryz.call58 (fun w hS hR => e0e e2 ee e3 He3.out _) (fun _ => rfl) ?_
 try simp only [clL]
 refine b0m List.mem_cons_self fun g7 => ?_
 simp only [upd, reduceIte]
 refine a0y fun xq w11 st11 hR => ?_
 try dsimp only
 clear hR xq
 refine a0r rfl rfl ?_
 refine a0j st11 6 rfl rfl rfl rfl (by simp [a0a]) (by kernel_rfl) (a0g _ _) ?_
 intro w12 st12
 repeat (first | simp only [List.cons_append] at st12 | simp only [List.nil_append] at st12 | simp only [List.set_cons_succ] at st12 | simp only [List.set_cons_zero] at st12)
 clear st11
 try simp only [Act.put]
 refine a0k ?_
 refine NoPanic.normal ?_
 go_wp2_with fail
 refine wp_region_noPanic ?_
 refine a0h st12 20 [.o 19, .t 3, .t 4, .w 6, .t 7, .w 11, .t 12, .w 13, .t 14, .t 16, .c 0, .c 1, .c 2, .c 5, .c 8, .c 9, .c 10, .c 15, .c 17, .c 18, .j 19] (.m 20 .nil) (by kernel_rfl) (by kernel_rfl) (fun _ _ _ _ _ h => h) ?_
 clear st12
 refine b0l rfl rfl rfl e0V (cw 4 0) rfl ?_
 try simp only [clL]
 refine a0f rfl rfl rfl (fun _ => rfl) (cw 4 (kN d)) (fun wx hS => St.rangeL hS 3 rfl 0 _ dZl) Tryz.underlying60 rfl (by kernel_rfl) ?_
 try simp only [clL]
 refine a0f rfl rfl rfl (fun _ => rfl) (cw 4 (kN d)) (fun wx hS => St.rangeL hS 3 rfl 0 _ dZl) Tryz.underlying60 rfl (by kernel_rfl) ?_
 try simp only [clL]
 refine a0n (v := ?_) rfl rfl (fun xq wx => ?_) ?_; rotate_left 1; · (go_simp; with_reducible rfl)
 try simp only [clL]
 refine a0f rfl rfl rfl (fun _ => rfl) (cw 4 (kN z)) (fun wx hS => St.rangeL hS 0 rfl 8 _ (f0E _ _ _)) Tryz.underlying60 rfl (by kernel_rfl) ?_
 try simp only [clL]
 refine a0n (v := ?_) rfl rfl (fun xq wx => ?_) ?_; rotate_left 1; · (go_simp; with_reducible rfl)
 try simp only [clL]
 refine a0f rfl rfl rfl (fun _ => rfl) (cw 4 (kN x)) (fun wx hS => St.rangeL hS 0 rfl 0 _ (k0k _ _ _)) Tryz.underlying60 rfl (by kernel_rfl) ?_
 try simp only [clL]
 refine a0n (v := ?_) rfl rfl (fun xq wx => ?_) ?_; rotate_left 1; · (go_simp; with_reducible rfl)
 try simp only [clL]
 refine a0f rfl rfl rfl (fun _ => rfl) (cw 4 (kN x)) (fun wx hS => St.rangeL hS 0 rfl 0 _ (k0k _ _ _)) Tryz.underlying60 rfl (by kernel_rfl) ?_
 try simp only [clL]
 refine a0f rfl rfl rfl (fun _ => rfl) (cw 4 (kN e2)) (fun wx hS => St.rangeL hS 5 rfl 0 _ dZl) Tryz.underlying60 rfl (by kernel_rfl) ?_
 try simp only [clL]
 refine a0d rfl rfl rfl Tryz.call112 (fun w hS hR => a0L _) (fun _ => rfl) ?_
 try simp only [clL]
 refine a0d rfl rfl rfl Tryz.call112 (fun w hS hR => a0L _) (fun _ => rfl) ?_
 try simp only [clL]
 refine a0d rfl rfl rfl Tryz.call112 (fun w hS hR => a0L _) (fun _ => rfl) ?_
 try simp only [clL]
 refine a0d rfl rfl rfl Tryz.call58 (fun w hS hR => e0e d d t1 Ht1.out _) (fun _ => rfl) ?_
 try simp only [clL]
 refine a0d rfl rfl rfl Tryz.call58 (fun w hS hR => e0e t1 z t2 Ht2.out _) (fun _ => rfl) ?_
 try simp only [clL]
 refine a0d rfl rfl rfl Tryz.call112 (fun w hS hR => a0L _) (fun _ => rfl) ?_
 try simp only [clL]
 refine a0d rfl rfl rfl Tryz.call112 (fun w hS hR => a0L _) (fun _ => rfl) ?_
 try simp only [clL]
 refine a0d rfl rfl rfl Tryz.call57 (fun w hS hR => x0r x x x2 Hx2.out _) (fun _ => rfl) ?_
 try simp only [clL]
 refine a0d rfl rfl rfl Tryz.call58 (fun w hS hR => e0e x2 e2 t3 Ht3.out _) (fun _ => rfl) ?_
 try simp only [clL]
 refine a0d rfl rfl rfl Tryz.call137 (fun w hS hR => u0g t2 t3 t Ht.out _) (fun _ => rfl) ?_
 try simp only [clL]
 refine b0m List.mem_cons_self fun g8 => ?_
 simp only [upd, reduceIte]
 refine a0y fun xq w13 st13 hR => ?_
 try dsimp only
 clear hR xq
 refine a0r rfl rfl ?_
 refine a0j st13 7 rfl rfl rfl rfl (by simp [a0a]) (by kernel_rfl) (a0g _ _) ?_
 intro w14 st14
 repeat (first | simp only [List.cons_append] at st14 | simp only [List.nil_append] at st14 | simp only [List.set_cons_succ] at st14 | simp only [List.set_cons_zero] at st14)
 clear st13
 try simp only [Act.put]
 refine a0k ?_
 refine NoPanic.normal ?_
 go_wp2_with fail
 refine wp_region_noPanic ?_
 refine a0h st14 5 [.o 4, .t 1, .t 2, .c 0, .c 3, .j 4] (.m 5 .nil) (by kernel_rfl) (by kernel_rfl) (fun _ _ _ _ _ h => h) ?_
 clear st14
 refine b0l rfl rfl rfl e0V (cw 4 0) rfl ?_
 try simp only [clL]
 refine a0f rfl rfl rfl (fun _ => rfl) (cw 4 (kN ee)) (fun wx hS => St.rangeL hS 4 rfl 0 _ dZl) Tryz.underlying60 rfl (by kernel_rfl) ?_
 try simp only [clL]
 refine a0f rfl rfl rfl (fun _ => rfl) (cw 4 (kN t)) (fun wx hS => St.rangeL hS 7 rfl 0 _ dZl) Tryz.underlying60 rfl (by kernel_rfl) ?_
 try simp only [clL]
 refine a0d rfl rfl rfl Tryz.call112 (fun w hS hR => a0L _) (fun _ => rfl) ?_
 try simp only [clL]
 refine a0d rfl rfl rfl Tryz.call58 (fun w hS hR => e0e ee t X HX.out _) (fun _ => rfl) ?_
 try simp only [clL]
 refine b0m List.mem_cons_self fun g9 => ?_
 simp only [upd, reduceIte]
 refine a0y fun xq w15 st15 hR => ?_
 try dsimp only
 clear hR xq
 refine a0r rfl rfl ?_
 refine a0j st15 8 rfl rfl rfl rfl (by simp [a0a]) (by kernel_rfl) (a0g _ _) ?_
 intro w16 st16
 repeat (first | simp only [List.cons_append] at st16 | simp only [List.nil_append] at st16 | simp only [List.set_cons_succ] at st16 | simp only [List.set_cons_zero] at st16)
 clear st15
 try simp only [Act.put]
 refine a0k ?_
 refine NoPanic.normal ?_
 go_wp2_with fail
 refine wp_region_noPanic ?_
 refine a0h st16 19 [.o 18, .t 2, .w 5, .t 6, .t 7, .t 9, .w 13, .t 14, .t 15, .c 0, .c 1, .c 3, .c 4, .c 8, .c 10, .c 11, .c 12, .c 16, .c 17, .j 18] (.m 19 .nil) (by kernel_rfl) (by kernel_rfl) (fun _ _ _ _ _ h => h) ?_
 clear st16
 refine b0l rfl rfl rfl e0V (cw 4 0) rfl ?_
 try simp only [clL]
 refine a0f rfl rfl rfl (fun _ => rfl) (cw 4 (kN d)) (fun wx hS => St.rangeL hS 3 rfl 0 _ dZl) Tryz.underlying60 rfl (by kernel_rfl) ?_
 try simp only [clL]
 refine a0n (v := ?_) rfl rfl (fun xq wx => ?_) ?_; rotate_left 1; · (go_simp; with_reducible rfl)
 try simp only [clL]
 refine a0f rfl rfl rfl (fun _ => rfl) (cw 4 (kN x)) (fun wx hS => St.rangeL hS 0 rfl 0 _ (k0k _ _ _)) Tryz.underlying60 rfl (by kernel_rfl) ?_
 try simp only [clL]
 refine a0f rfl rfl rfl (fun _ => rfl) (cw 4 (kN e2)) (fun wx hS => St.rangeL hS 5 rfl 0 _ dZl) Tryz.underlying60 rfl (by kernel_rfl) ?_
 try simp only [clL]
 refine a0f rfl rfl rfl (fun _ => rfl) (cw 4 (kN t)) (fun wx hS => St.rangeL hS 7 rfl 0 _ dZl) Tryz.underlying60 rfl (by kernel_rfl) ?_
 try simp only [clL]
 refine a0n (v := ?_) rfl rfl (fun xq wx => ?_) ?_; rotate_left 1; · (go_simp; with_reducible rfl)
 try simp only [clL]
 refine a0f rfl rfl rfl (fun _ => rfl) (cw 4 (kN y)) (fun wx hS => St.rangeL hS 0 rfl 4 _ (l0Q _ _ _)) Tryz.underlying60 rfl (by kernel_rfl) ?_
 try simp only [clL]
 refine a0f rfl rfl rfl (fun _ => rfl) (cw 4 (kN e3)) (fun wx hS => St.rangeL hS 6 rfl 0 _ dZl) Tryz.underlying60 rfl (by kernel_rfl) ?_
 try simp only [clL]
 refine a0d rfl rfl rfl Tryz.call112 (fun w hS hR => a0L _) (fun _ => rfl) ?_
 try simp only [clL]
 refine a0d rfl rfl rfl Tryz.call112 (fun w hS hR => a0L _) (fun _ => rfl) ?_
 try simp only [clL]
 refine a0d rfl rfl rfl Tryz.call112 (fun w hS hR => a0L _) (fun _ => rfl) ?_
 try simp only [clL]
 refine a0d rfl rfl rfl Tryz.call112 (fun w hS hR => a0L _) (fun _ => rfl) ?_
 try simp only [clL]
 refine a0d rfl rfl rfl Tryz.call58 (fun w hS hR => e0e x e2 s1 Hs1.out _) (fun _ => rfl) ?_
 try simp only [clL]
 refine a0d rfl rfl rfl Tryz.call137 (fun w hS hR => u0g s1 t s2 Hs2.out _) (fun _ => rfl) ?_
 try simp only [clL]
 refine a0d rfl rfl rfl Tryz.call58 (fun w hS hR => e0e d s2 s3 Hs3.out _) (fun _ => rfl) ?_
 try simp only [clL]
 refine a0d rfl rfl rfl Tryz.call112 (fun w hS hR => a0L _) (fun _ => rfl) ?_
 try simp only [clL]
 refine a0d rfl rfl rfl Tryz.call58 (fun w hS hR => e0e y e3 s4 Hs4.out _) (fun _ => rfl) ?_
 try simp only [clL]
 refine a0d rfl rfl rfl Tryz.call137 (fun w hS hR => u0g s3 s4 Y HY.out _) (fun _ => rfl) ?_
 try simp only [clL]
 refine b0m List.mem_cons_self fun g10 => ?_
 simp only [upd, reduceIte]
 refine a0y fun xq w17 st17 hR => ?_
 try dsimp only
 clear hR xq
 refine a0r rfl rfl ?_
 refine a0j st17 9 rfl rfl rfl rfl (by simp [a0a]) (by kernel_rfl) (a0g _ _) ?_
 intro w18 st18
 repeat (first | simp only [List.cons_append] at st18 | simp only [List.nil_append] at st18 | simp only [List.set_cons_succ] at st18 | simp only [List.set_cons_zero] at st18)
 clear st17
 try simp only [Act.put]
 refine a0k ?_
 refine NoPanic.normal ?_
 go_wp2_with fail
 refine wp_region_noPanic ?_
 refine a0h st18 8 [.t 0, .t 1, .t 3, .w 4, .t 5, .c 2, .c 6, .w 7] (.m 8 .nil) (by kernel_rfl) (by kernel_rfl) (fun _ _ _ _ _ h => h) ?_
 clear st18
 refine a0f rfl rfl rfl (fun _ => rfl) (cw 4 (kN X)) (fun wx hS => St.rangeL hS 8 rfl 0 _ dZl) Tryz.underlying60 rfl (by kernel_rfl) ?_
 try simp only [clL]
 refine a0f rfl rfl rfl (fun _ => rfl) (cw 4 (kN Y)) (fun wx hS => St.rangeL hS 9 rfl 0 _ dZl) Tryz.underlying60 rfl (by kernel_rfl) ?_
 try simp only [clL]
 refine a0f rfl rfl rfl (fun _ => rfl) (cw 4 (kN e3)) (fun wx hS => St.rangeL hS 6 rfl 0 _ dZl) Tryz.underlying60 rfl (by kernel_rfl) ?_
 try simp only [clL]
 refine a0n (v := ?_) rfl rfl (fun xq wx => ?_) ?_; rotate_left 1; · (go_simp; with_reducible rfl)
 try simp only [clL]
 refine a0f rfl rfl rfl (fun _ => rfl) (cw 4 (kN z)) (fun wx hS => St.rangeL hS 0 rfl 8 _ (f0E _ _ _)) Tryz.underlying60 rfl (by kernel_rfl) ?_
 try simp only [clL]
 refine a0d rfl rfl rfl Tryz.call112 (fun w hS hR => a0L _) (fun _ => rfl) ?_
 try simp only [clL]
 refine a0d rfl rfl rfl Tryz.call58 (fun w hS hR => e0e e3 z Z HZ.out _) (fun _ => rfl) ?_
 try simp only [clL]
 refine a0n rfl rfl (fun _ => b0u rfl _ (k0g _ _ _)) ?_
 try simp only [clL]
 refine a0y fun xq w19 st19 hR => ?_
 try dsimp only
 clear hR xq
 refine a0r rfl rfl ?_
 refine a0j st19 1 rfl rfl rfl rfl (by simp [a0a]) (by kernel_rfl) (b0g _ _ _) ?_
 intro w20 st20
 try simp only [List.set_cons_zero, List.set_cons_succ] at st20
 clear st19
 try simp only [Act.put]
 refine a0k ?_
 refine NoPanic.normal ?_
 have hr := st20.at 1 rfl
 have hfr := st20.fr
 clear st20
 go_wp2_with fail
 exact bodyPost_ret (a0u rfl rfl hr Tryz.underlying62 rfl (by kernel_rfl)) rfl ⟨rfl, hfr⟩
theorem m0Q (x1 y1 z1 x2 y2 z2 : K) (hb1 : decide (z1 = 0) = true) (w : World) : Calls Tryz.prog 68 #[rpV x1 y1 z1, rpV x2 y2 z2] w fun e w' => e = .returned (rpV x2 y2 z2) ∧ Fr Nob w w' := by
 have HB1 := qH hb1
 clear hb1
 unfold rpV rpL
 have st0 := St.start Nob w
 go_enter Tryz.func68, Tryz.ntmps68
 go_wp2_with (with_reducible refine wSk 2 ?_)
 refine a0m st0 rfl rfl rfl (cw 4 (kN x1) ++ (cw 4 (kN y1) ++ cw 4 (kN z1))) rfl ?_
 intro g2 w1 st1
 clear st0
 go_wp2_with (with_reducible refine wSk 3 ?_)
 refine a0m st1 rfl rfl rfl (cw 4 (kN x2) ++ (cw 4 (kN y2) ++ cw 4 (kN z2))) rfl ?_
 intro g3 w2 st2
 clear st1
 go_wp2_with (with_reducible refine wSk 4 ?_)
 refine a0c st2 rfl rfl (z := zAc) (by kernel_rfl) (cw 12 0) (by rw [a0e]; rfl) ?_
 intro g4 w3 st3
 clear st2
 go_wp2_with (with_reducible refine wSk 16 ?_)
 refine a0p st3 0 rfl rfl rfl Tryz.underlying62 rfl rfl (by kernel_rfl) ?_
 go_wp2_with fail
 refine (d0o x1 y1 z1 true HB1.out _).mono ?_
 rintro e' w4 ⟨rfl, hf4⟩
 have st4 := st3.keep hf4
 clear st3 hf4
 go_wp2_with (with_reducible refine wSk 19 ?_)
 refine a0p st4 1 rfl rfl rfl Tryz.underlying62 rfl rfl (by kernel_rfl) ?_
 go_wp2_with (with_reducible refine wSn ?_)
 refine a0b st4 2 rfl rfl rfl rfl rfl (by simp [a0a]) (by kernel_rfl) (b0g _ _ _) ?_
 intro w5 st5
 clear st4
 have hr := st5.at 2 rfl
 have hfr := st5.fr
 clear st5
 go_wp2_with fail
 exact bodyPost_ret (a0u rfl rfl hr Tryz.underlying62 rfl (by kernel_rfl)) rfl ⟨rfl, hfr⟩
theorem m0R (x1 y1 z1 x2 y2 z2 : K) (hb1 : decide (z1 = 0) = false) (hb2 : decide (z2 = 0) = true) (w : World) : Calls Tryz.prog 68 #[rpV x1 y1 z1, rpV x2 y2 z2] w fun e w' => e = .returned (rpV x1 y1 z1) ∧ Fr Nob w w' := by
 have HB1 := qH hb1
 have HB2 := qH hb2
 clear hb1 hb2
 unfold rpV rpL
 have st0 := St.start Nob w
 go_enter Tryz.func68, Tryz.ntmps68
 go_wp2_with (with_reducible refine wSk 2 ?_)
 refine a0m st0 rfl rfl rfl (cw 4 (kN x1) ++ (cw 4 (kN y1) ++ cw 4 (kN z1))) rfl ?_
 intro g2 w1 st1
 clear st0
 go_wp2_with (with_reducible refine wSk 3 ?_)
 refine a0m st1 rfl rfl rfl (cw 4 (kN x2) ++ (cw 4 (kN y2) ++ cw 4 (kN z2))) rfl ?_
 intro g3 w2 st2
 clear st1
 go_wp2_with (with_reducible refine wSk 4 ?_)
 refine a0c st2 rfl rfl (z := zAc) (by kernel_rfl) (cw 12 0) (by rw [a0e]; rfl) ?_
 intro g4 w3 st3
 clear st2
 go_wp2_with (with_reducible refine wSk 16 ?_)
 refine a0p st3 0 rfl rfl rfl Tryz.underlying62 rfl rfl (by kernel_rfl) ?_
 go_wp2_with fail
 refine (d0o x1 y1 z1 false HB1.out _).mono ?_
 rintro e' w4 ⟨rfl, hf4⟩
 have st4 := st3.keep hf4
 clear st3 hf4
 go_wp2_with (with_reducible refine wSk 20 ?_)
 refine a0p st4 1 rfl rfl rfl Tryz.underlying62 rfl rfl (by kernel_rfl) ?_
 go_wp2_with fail
 refine (d0o x2 y2 z2 true HB2.out _).mono ?_
 rintro e' w5 ⟨rfl, hf5⟩
 have st5 := st4.keep hf5
 clear st4 hf5
 go_wp2_with (with_reducible refine wSk 23 ?_)
 refine a0p st5 0 rfl rfl rfl Tryz.underlying62 rfl rfl (by kernel_rfl) ?_
 go_wp2_with (with_reducible refine wSn ?_)
 refine a0b st5 2 rfl rfl rfl rfl rfl (by simp [a0a]) (by kernel_rfl) (b0g _ _ _) ?_
 intro w6 st6
 clear st5
 have hr := st6.at 2 rfl
 have hfr := st6.fr
 clear st6
 go_wp2_with fail
 exact bodyPost_ret (a0u rfl rfl hr Tryz.underlying62 rfl (by kernel_rfl)) rfl ⟨rfl, hfr⟩
theorem y0O {P : Program} {ops : Array Oper} {Q : Exit → Act → World → Prop} {a : Act} {w : World} {rest : List Oper} {o : Oper} (hw : Region.wanted o (yielded ops a.tmps) = true) (h : wpList P ops Q ({o with guard := none} :: rest) a w) : wpList P ops Q (o :: rest) a w := by
 unfold wpList at h ⊢
 rw [if_pos hw]
 rw [if_pos (by simp [Region.wanted])] at h
 exact h
theorem l0N (x y : K) {o : Oper} {a : Act} {p q : Operand} {T : TypeId} (ho : o.op = .binOp .neq 60 p q T) (hp : a.eval p = i4 (kN x)) (hq : a.eval q = i4 (kN y)) {b : Bool} (hb : decide (x = y) = b) (w : World) :
  (execOp a.eval o).run Tryz.prog w = .ok (.value (.bool !b)) w :=
 d0Q ho hp hq w (run_eqGuard_agg w .neq 60 p q _ _ Tryz.eqGuardType60) (by
  show (do pure (Value.bool (!(← Op.equal 60 (.agg (cw 4 (kN x)).toArray) (.agg (cw 4 (kN y)).toArray))))).run Tryz.prog w = _
  simp only [Sem.run_bind, r0L x y hb w, Result.andThen_ok]
  rfl)
theorem w0X (w : World) : Calls Tryz.prog 95 #[] w fun e w' => e = .returned (.agg (cw 4 (kN 0) ++ (cw 4 (kN 1) ++ cw 4 (kN 0))).toArray) ∧ Fr Nob w w' := l0M w
theorem r0O (x1 y1 z1 x2 y2 z2 : K) (hb1 : decide (z1 = 0) = false) (hb2 : decide (z2 = 0) = false) (u v u2 v2 : K) (eu : y2 * z1 = u) (ev : x2 * z1 = v) (eu2 : y1 * z2 = u2) (ev2 : x1 * z2 = v2) (hv : decide (v = v2) = true) (hu : decide (u = u2) = false) (w : World) : Calls Tryz.prog 68 #[rpV x1 y1 z1, rpV x2 y2 z2] w fun e w' => e = .returned (rpV 0 1 0) ∧ Fr Nob w w' := by
 have HB1 := qH hb1
 have HB2 := qH hb2
 clear hb1 hb2
 have Hu := qH eu
 have Hv := qH ev
 have Hu2 := qH eu2
 have Hv2 := qH ev2
 clear eu ev eu2 ev2
 have HV := qH hv
 clear hv
 have HU := qH hu
 clear hu
 unfold rpV rpL
 have st0 := St.start Nob w
 go_enter Tryz.func68, Tryz.ntmps68
 go_wp2_with (with_reducible refine wSk 2 ?_)
 refine a0m st0 rfl rfl rfl (cw 4 (kN x1) ++ (cw 4 (kN y1) ++ cw 4 (kN z1))) rfl ?_
 intro g2 w1 st1
 clear st0
 go_wp2_with (with_reducible refine wSk 3 ?_)
 refine a0m st1 rfl rfl rfl (cw 4 (kN x2) ++ (cw 4 (kN y2) ++ cw 4 (kN z2))) rfl ?_
 intro g3 w2 st2
 clear st1
 go_wp2_with (with_reducible refine wSk 4 ?_)
 refine a0c st2 rfl rfl (z := zAc) (by kernel_rfl) (cw 12 0) (by rw [a0e]; rfl) ?_
 intro g4 w3 st3
 clear st2
 go_wp2_with (with_reducible refine wSk 16 ?_)
 refine a0p st3 0 rfl rfl rfl Tryz.underlying62 rfl rfl (by kernel_rfl) ?_
 go_wp2_with fail
 refine (d0o x1 y1 z1 false HB1.out _).mono ?_
 rintro e' w4 ⟨rfl, hf4⟩
 have st4 := st3.keep hf4
 clear st3 hf4
 go_wp2_with (with_reducible refine wSk 20 ?_)
 refine a0p st4 1 rfl rfl rfl Tryz.underlying62 rfl rfl (by kernel_rfl) ?_
 go_wp2_with fail
 refine (d0o x2 y2 z2 false HB2.out _).mono ?_
 rintro e' w5 ⟨rfl, hf5⟩
 have st5 := st4.keep hf5
 clear st4 hf5
 go_wp2_with fail
 refine wp_region_noPanic ?_
 refine a0h st5 7 [.o 6, .w 1, .t 2, .w 3, .t 4, .c 0, .c 5, .j 6] (.m 7 .nil) (by kernel_rfl) (by kernel_rfl) (fun _ _ _ _ _ h => h) ?_
 clear st5
 refine b0l rfl rfl rfl e0V (cw 4 0) rfl ?_
 try simp only [clL]
 refine a0n (v := ?_) rfl rfl (fun xq wx => ?_) ?_; rotate_left 1; · (go_simp; with_reducible rfl)
 try simp only [clL]
 refine a0f rfl rfl rfl (fun _ => rfl) (cw 4 (kN y2)) (fun wx hS => St.rangeL hS 1 rfl 4 _ (l0Q _ _ _)) Tryz.underlying60 rfl (by kernel_rfl) ?_
 try simp only [clL]
 refine a0n (v := ?_) rfl rfl (fun xq wx => ?_) ?_; rotate_left 1; · (go_simp; with_reducible rfl)
 try simp only [clL]
 refine a0f rfl rfl rfl (fun _ => rfl) (cw 4 (kN z1)) (fun wx hS => St.rangeL hS 0 rfl 8 _ (f0E _ _ _)) Tryz.underlying60 rfl (by kernel_rfl) ?_
 try simp only [clL]
 refine a0d rfl rfl rfl Tryz.call112 (fun w hS hR => a0L _) (fun _ => rfl) ?_
 try simp only [clL]
 refine a0d rfl rfl rfl Tryz.call58 (fun w hS hR => e0e y2 z1 u Hu.out _) (fun _ => rfl) ?_
 try simp only [clL]
 refine b0m List.mem_cons_self fun g6 => ?_
 simp only [upd, reduceIte]
 refine a0y fun xq w6 st6 hR => ?_
 try dsimp only
 clear hR xq
 refine a0r rfl rfl ?_
 refine a0j st6 3 rfl rfl rfl rfl (by simp [a0a]) (by kernel_rfl) (a0g _ _) ?_
 intro w7 st7
 repeat (first | simp only [List.cons_append] at st7 | simp only [List.nil_append] at st7 | simp only [List.set_cons_succ] at st7 | simp only [List.set_cons_zero] at st7)
 clear st6
 try simp only [Act.put]
 refine a0k ?_
 refine NoPanic.normal ?_
 go_wp2_with fail
 refine wp_region_noPanic ?_
 refine a0h st7 7 [.o 6, .w 1, .t 2, .w 3, .t 4, .c 0, .c 5, .j 6] (.m 7 .nil) (by kernel_rfl) (by kernel_rfl) (fun _ _ _ _ _ h => h) ?_
 clear st7
 refine b0l rfl rfl rfl e0V (cw 4 0) rfl ?_
 try simp only [clL]
 refine a0n (v := ?_) rfl rfl (fun xq wx => ?_) ?_; rotate_left 1; · (go_simp; with_reducible rfl)
 try simp only [clL]
 refine a0f rfl rfl rfl (fun _ => rfl) (cw 4 (kN x2)) (fun wx hS => St.rangeL hS 1 rfl 0 _ (k0k _ _ _)) Tryz.underlying60 rfl (by kernel_rfl) ?_
 try simp only [clL]
 refine a0n (v := ?_) rfl rfl (fun xq wx => ?_) ?_; rotate_left 1; · (go_simp; with_reducible rfl)
 try simp only [clL]
 refine a0f rfl rfl rfl (fun _ => rfl) (cw 4 (kN z1)) (fun wx hS => St.rangeL hS 0 rfl 8 _ (f0E _ _ _)) Tryz.underlying60 rfl (by kernel_rfl) ?_
 try simp only [clL]
 refine a0d rfl rfl rfl Tryz.call112 (fun w hS hR => a0L _) (fun _ => rfl) ?_
 try simp only [clL]
 refine a0d rfl rfl rfl Tryz.call58 (fun w hS hR => e0e x2 z1 v Hv.out _) (fun _ => rfl) ?_
 try simp only [clL]
 refine b0m List.mem_cons_self fun g7 => ?_
 simp only [upd, reduceIte]
 refine a0y fun xq w8 st8 hR => ?_
 try dsimp only
 clear hR xq
 refine a0r rfl rfl ?_
 refine a0j st8 4 rfl rfl rfl rfl (by simp [a0a]) (by kernel_rfl) (a0g _ _) ?_
 intro w9 st9
 repeat (first | simp only [List.cons_append] at st9 | simp only [List.nil_append] at st9 | simp only [List.set_cons_succ] at st9 | simp only [List.set_cons_zero] at st9)
 clear st8
 try simp only [Act.put]
 refine a0k ?_
 refine NoPanic.normal ?_
 go_wp2_with fail
 refine wp_region_noPanic ?_
 refine a0h st9 7 [.o 6, .w 1, .t 2, .w 3, .t 4, .c 0, .c 5, .j 6] (.m 7 .nil) (by kernel_rfl) (by kernel_rfl) (fun _ _ _ _ _ h => h) ?_
 clear st9
 refine b0l rfl rfl rfl e0V (cw 4 0) rfl ?_
 try simp only [clL]
 refine a0n (v := ?_) rfl rfl (fun xq wx => ?_) ?_; rotate_left 1; · (go_simp; with_reducible rfl)
 try simp only [clL]
 refine a0f rfl rfl rfl (fun _ => rfl) (cw 4 (kN y1)) (fun wx hS => St.rangeL hS 0 rfl 4 _ (l0Q _ _ _)) Tryz.underlying60 rfl (by kernel_rfl) ?_
 try simp only [clL]
 refine a0n (v := ?_) rfl rfl (fun xq wx => ?_) ?_; rotate_left 1; · (go_simp; with_reducible rfl)
 try simp only [clL]
 refine a0f rfl rfl rfl (fun _ => rfl) (cw 4 (kN z2)) (fun wx hS => St.rangeL hS 1 rfl 8 _ (f0E _ _ _)) Tryz.underlying60 rfl (by kernel_rfl) ?_
 try simp only [clL]
 refine a0d rfl rfl rfl Tryz.call112 (fun w hS hR => a0L _) (fun _ => rfl) ?_
 try simp only [clL]
 refine a0d rfl rfl rfl Tryz.call58 (fun w hS hR => e0e y1 z2 u2 Hu2.out _) (fun _ => rfl) ?_
 try simp only [clL]
 refine b0m List.mem_cons_self fun g8 => ?_
 simp only [upd, reduceIte]
 refine a0y fun xq w10 st10 hR => ?_
 try dsimp only
 clear hR xq
 refine a0r rfl rfl ?_
 refine a0j st10 5 rfl rfl rfl rfl (by simp [a0a]) (by kernel_rfl) (a0g _ _) ?_
 intro w11 st11
 repeat (first | simp only [List.cons_append] at st11 | simp only [List.nil_append] at st11 | simp only [List.set_cons_succ] at st11 | simp only [List.set_cons_zero] at st11)
 clear st10
 try simp only [Act.put]
 refine a0k ?_
 refine NoPanic.normal ?_
 go_wp2_with fail
 refine wp_region_noPanic ?_
 refine a0h st11 7 [.o 6, .w 1, .t 2, .w 3, .t 4, .c 0, .c 5, .j 6] (.m 7 .nil) (by kernel_rfl) (by kernel_rfl) (fun _ _ _ _ _ h => h) ?_
 clear st11
 refine b0l rfl rfl rfl e0V (cw 4 0) rfl ?_
 try simp only [clL]
 refine a0n (v := ?_) rfl rfl (fun xq wx => ?_) ?_; rotate_left 1; · (go_simp; with_reducible rfl)
 try simp only [clL]
 refine a0f rfl rfl rfl (fun _ => rfl) (cw 4 (kN x1)) (fun wx hS => St.rangeL hS 0 rfl 0 _ (k0k _ _ _)) Tryz.underlying60 rfl (by kernel_rfl) ?_
 try simp only [clL]
 refine a0n (v := ?_) rfl rfl (fun xq wx => ?_) ?_; rotate_left 1; · (go_simp; with_reducible rfl)
 try simp only [clL]
 refine a0f rfl rfl rfl (fun _ => rfl) (cw 4 (kN z2)) (fun wx hS => St.rangeL hS 1 rfl 8 _ (f0E _ _ _)) Tryz.underlying60 rfl (by kernel_rfl) ?_
 try simp only [clL]
 refine a0d rfl rfl rfl Tryz.call112 (fun w hS hR => a0L _) (fun _ => rfl) ?_
 try simp only [clL]
 refine a0d rfl rfl rfl Tryz.call58 (fun w hS hR => e0e x1 z2 v2 Hv2.out _) (fun _ => rfl) ?_
 try simp only [clL]
 refine b0m List.mem_cons_self fun g9 => ?_
 simp only [upd, reduceIte]
 refine a0y fun xq w12 st12 hR => ?_
 try dsimp only
 clear hR xq
 refine a0r rfl rfl ?_
 refine a0j st12 6 rfl rfl rfl rfl (by simp [a0a]) (by kernel_rfl) (a0g _ _) ?_
 intro w13 st13
 repeat (first | simp only [List.cons_append] at st13 | simp only [List.nil_append] at st13 | simp only [List.set_cons_succ] at st13 | simp only [List.set_cons_zero] at st13)
 clear st12
 try simp only [Act.put]
 refine a0k ?_
 refine NoPanic.normal ?_
 go_wp2_with (with_reducible refine wSk 48 ?_)
 refine a0i st13 4 rfl rfl rfl Tryz.underlying60 rfl (by kernel_rfl) ?_
 go_wp2_with (with_reducible refine wSk 49 ?_)
 refine a0i st13 6 rfl rfl rfl Tryz.underlying60 rfl (by kernel_rfl) ?_
 go_wp2_with (with_reducible refine wSk 50 ?_)
 refine e0v rfl (i0e v v2 rfl rfl rfl HV.out _) ?_
 go_wp2_with (with_reducible refine wSk 51 ?_)
 refine a0i st13 3 rfl rfl rfl Tryz.underlying60 rfl (by kernel_rfl) ?_
 go_wp2_with (with_reducible refine wSk 52 ?_)
 refine a0i st13 5 rfl rfl rfl Tryz.underlying60 rfl (by kernel_rfl) ?_
 go_wp2_with (with_reducible refine wSk 53 ?_)
 refine e0v rfl (l0N u u2 rfl rfl rfl HU.out _) ?_
 go_wp2_with fail
 refine (w0X _).mono ?_
 rintro e' w14 ⟨rfl, hf14⟩
 have st14 := st13.keep hf14
 clear st13 hf14
 go_wp2_with (with_reducible refine wSn ?_)
 refine a0b st14 2 rfl rfl rfl rfl rfl (by simp [a0a]) (by kernel_rfl) (b0g _ _ _) ?_
 intro w15 st15
 clear st14
 have hr := st15.at 2 rfl
 have hfr := st15.fr
 clear st15
 go_wp2_with fail
 exact bodyPost_ret (a0u rfl rfl hr Tryz.underlying62 rfl (by kernel_rfl)) rfl ⟨rfl, hfr⟩
theorem r0P (x y z X Y Z : K) (w : World) (h : Calls Tryz.prog 136 #[rpV x y z] w fun e w' => e = .returned (rpV X Y Z) ∧ Fr Nob w w') : Calls Tryz.prog 136 #[.agg (cw 4 (kN x) ++ (cw 4 (kN y) ++ cw 4 (kN z))).toArray] w fun e w' => e = .returned (.agg (cw 4 (kN X) ++ (cw 4 (kN Y) ++ cw 4 (kN Z))).toArray) ∧ Fr Nob w w' := h
theorem r0Q (x1 y1 z1 x2 y2 z2 : K) (hb1 : decide (z1 = 0) = false) (hb2 : decide (z2 = 0) = false) (u v u2 v2 : K) (eu : y2 * z1 = u) (ev : x2 * z1 = v) (eu2 : y1 * z2 = u2) (ev2 : x1 * z2 = v2) (hv : decide (v = v2) = true) (hu : decide (u = u2) = true) (hz : decide (u = 0) = false) (X Y Z : K) (hdb : ∀ wx, Calls Tryz.prog 136 #[rpV x1 y1 z1] wx fun e w' => e = .returned (rpV X Y Z) ∧ Fr Nob wx w') (w : World) : Calls Tryz.prog 68 #[rpV x1 y1 z1, rpV x2 y2 z2] w fun e w' => e = .returned (rpV X Y Z) ∧ Fr Nob w w' := by
 have HB1 := qH hb1
 have HB2 := qH hb2
 clear hb1 hb2
 have Hu := qH eu
 have Hv := qH ev
 have Hu2 := qH eu2
 have Hv2 := qH ev2
 clear eu ev eu2 ev2
 have HV := qH hv
 clear hv
 have HU := qH hu
 clear hu
 have HZ := qH hz
 have HDB := qH hdb
 clear hz hdb
 unfold rpV rpL
 have st0 := St.start Nob w
 go_enter Tryz.func68, Tryz.ntmps68
 go_wp2_with (with_reducible refine wSk 2 ?_)
 refine a0m st0 rfl rfl rfl (cw 4 (kN x1) ++ (cw 4 (kN y1) ++ cw 4 (kN z1))) rfl ?_
 intro g2 w1 st1
 clear st0
 go_wp2_with (with_reducible refine wSk 3 ?_)
 refine a0m st1 rfl rfl rfl (cw 4 (kN x2) ++ (cw 4 (kN y2) ++ cw 4 (kN z2))) rfl ?_
 intro g3 w2 st2
 clear st1
 go_wp2_with (with_reducible refine wSk 4 ?_)
 refine a0c st2 rfl rfl (z := zAc) (by kernel_rfl) (cw 12 0) (by rw [a0e]; rfl) ?_
 intro g4 w3 st3
 clear st2
 go_wp2_with (with_reducible refine wSk 16 ?_)
 refine a0p st3 0 rfl rfl rfl Tryz.underlying62 rfl rfl (by kernel_rfl) ?_
 go_wp2_with fail
 refine (d0o x1 y1 z1 false HB1.out _).mono ?_
 rintro e' w4 ⟨rfl, hf4⟩
 have st4 := st3.keep hf4
 clear st3 hf4
 go_wp2_with (with_reducible refine wSk 20 ?_)
 refine a0p st4 1 rfl rfl rfl Tryz.underlying62 rfl rfl (by kernel_rfl) ?_
 go_wp2_with fail
 refine (d0o x2 y2 z2 false HB2.out _).mono ?_
 rintro e' w5 ⟨rfl, hf5⟩
 have st5 := st4.keep hf5
 clear st4 hf5
 go_wp2_with fail
 refine wp_region_noPanic ?_
 refine a0h st5 7 [.o 6, .w 1, .t 2, .w 3, .t 4, .c 0, .c 5, .j 6] (.m 7 .nil) (by kernel_rfl) (by kernel_rfl) (fun _ _ _ _ _ h => h) ?_
 clear st5
 refine b0l rfl rfl rfl e0V (cw 4 0) rfl ?_
 try simp only [clL]
 refine a0n (v := ?_) rfl rfl (fun xq wx => ?_) ?_; rotate_left 1; · (go_simp; with_reducible rfl)
 try simp only [clL]
 refine a0f rfl rfl rfl (fun _ => rfl) (cw 4 (kN y2)) (fun wx hS => St.rangeL hS 1 rfl 4 _ (l0Q _ _ _)) Tryz.underlying60 rfl (by kernel_rfl) ?_
 try simp only [clL]
 refine a0n (v := ?_) rfl rfl (fun xq wx => ?_) ?_; rotate_left 1; · (go_simp; with_reducible rfl)
 try simp only [clL]
 refine a0f rfl rfl rfl (fun _ => rfl) (cw 4 (kN z1)) (fun wx hS => St.rangeL hS 0 rfl 8 _ (f0E _ _ _)) Tryz.underlying60 rfl (by kernel_rfl) ?_
 try simp only [clL]
 refine a0d rfl rfl rfl Tryz.call112 (fun w hS hR => a0L _) (fun _ => rfl) ?_
 try simp only [clL]
 refine a0d rfl rfl rfl Tryz.call58 (fun w hS hR => e0e y2 z1 u Hu.out _) (fun _ => rfl) ?_
 try simp only [clL]
 refine b0m List.mem_cons_self fun g6 => ?_
 simp only [upd, reduceIte]
 refine a0y fun xq w6 st6 hR => ?_
 try dsimp only
 clear hR xq
 refine a0r rfl rfl ?_
 refine a0j st6 3 rfl rfl rfl rfl (by simp [a0a]) (by kernel_rfl) (a0g _ _) ?_
 intro w7 st7
 repeat (first | simp only [List.cons_append] at st7 | simp only [List.nil_append] at st7 | simp only [List.set_cons_succ] at st7 | simp only [List.set_cons_zero] at st7)
 clear st6
 try simp only [Act.put]
 refine a0k ?_
 refine NoPanic.normal ?_
 go_wp2_with fail
 refine wp_region_noPanic ?_
 refine a0h st7 7 [.o 6, .w 1, .t 2, .w 3, .t 4, .c 0, .c 5, .j 6] (.m 7 .nil) (by kernel_rfl) (by kernel_rfl) (fun _ _ _ _ _ h => h) ?_
 clear st7
 refine b0l rfl rfl rfl e0V (cw 4 0) rfl ?_
 try simp only [clL]
 refine a0n (v := ?_) rfl rfl (fun xq wx => ?_) ?_; rotate_left 1; · (go_simp; with_reducible rfl)
 try simp only [clL]
 refine a0f rfl rfl rfl (fun _ => rfl) (cw 4 (kN x2)) (fun wx hS => St.rangeL hS 1 rfl 0 _ (k0k _ _ _)) Tryz.underlying60 rfl (by kernel_rfl) ?_
 try simp only [clL]
 refine a0n (v := ?_) rfl rfl (fun xq wx => ?_) ?_; rotate_left 1; · (go_simp; with_reducible rfl)
 try simp only [clL]
 refine a0f rfl rfl rfl (fun _ => rfl) (cw 4 (kN z1)) (fun wx hS => St.rangeL hS 0 rfl 8 _ (f0E _ _ _)) Tryz.underlying60 rfl (by kernel_rfl) ?_
 try simp only [clL]
 refine a0d rfl rfl rfl Tryz.call112 (fun w hS hR => a0L _) (fun _ => rfl) ?_
 try simp only [clL]
 refine a0d rfl rfl rfl Tryz.call58 (fun w hS hR => e0e x2 z1 v Hv.out _) (fun _ => rfl) ?_
 try simp only [clL]
 refine b0m List.mem_cons_self fun g7 => ?_
 simp only [upd, reduceIte]
 refine a0y fun xq w8 st8 hR => ?_
 try dsimp only
 clear hR xq
 refine a0r rfl rfl ?_
 refine a0j st8 4 rfl rfl rfl rfl (by simp [a0a]) (by kernel_rfl) (a0g _ _) ?_
 intro w9 st9
 repeat (first | simp only [List.cons_append] at st9 | simp only [List.nil_append] at st9 | simp only [List.set_cons_succ] at st9 | simp only [List.set_cons_zero] at st9)
 clear st8
 try simp only [Act.put]
 refine a0k ?_
 refine NoPanic.normal ?_
 go_wp2_with fail
 refine wp_region_noPanic ?_
 refine a0h st9 7 [.o 6, .w 1, .t 2, .w 3, .t 4, .c 0, .c 5, .j 6] (.m 7 .nil) (by kernel_rfl) (by kernel_rfl) (fun _ _ _ _ _ h => h) ?_
 clear st9
 refine b0l rfl rfl rfl e0V (cw 4 0) rfl ?_
 try simp only [clL]
 refine a0n (v := ?_) rfl rfl (fun xq wx => ?_) ?_; rotate_left 1; · (go_simp; with_reducible rfl)
 try simp only [clL]
 refine a0f rfl rfl rfl (fun _ => rfl) (cw 4 (kN y1)) (fun wx hS => St.rangeL hS 0 rfl 4 _ (l0Q _ _ _)) Tryz.underlying60 rfl (by kernel_rfl) ?_
 try simp only [clL]
 refine a0n (v := ?_) rfl rfl (fun xq wx => ?_) ?_; rotate_left 1; · (go_simp; with_reducible rfl)
 try simp only [clL]
 refine a0f rfl rfl rfl (fun _ => rfl) (cw 4 (kN z2)) (fun wx hS => St.rangeL hS 1 rfl 8 _ (f0E _ _ _)) Tryz.underlying60 rfl (by kernel_rfl) ?_
 try simp only [clL]
 refine a0d rfl rfl rfl Tryz.call112 (fun w hS hR => a0L _) (fun _ => rfl) ?_
 try simp only [clL]
 refine a0d rfl rfl rfl Tryz.call58 (fun w hS hR => e0e y1 z2 u2 Hu2.out _) (fun _ => rfl) ?_
 try simp only [clL]
 refine b0m List.mem_cons_self fun g8 => ?_
 simp only [upd, reduceIte]
 refine a0y fun xq w10 st10 hR => ?_
 try dsimp only
 clear hR xq
 refine a0r rfl rfl ?_
 refine a0j st10 5 rfl rfl rfl rfl (by simp [a0a]) (by kernel_rfl) (a0g _ _) ?_
 intro w11 st11
 repeat (first | simp only [List.cons_append] at st11 | simp only [List.nil_append] at st11 | simp only [List.set_cons_succ] at st11 | simp only [List.set_cons_zero] at st11)
 clear st10
 try simp only [Act.put]
 refine a0k ?_
 refine NoPanic.normal ?_
 go_wp2_with fail
 refine wp_region_noPanic ?_
 refine a0h st11 7 [.o 6, .w 1, .t 2, .w 3, .t 4, .c 0, .c 5, .j 6] (.m 7 .nil) (by kernel_rfl) (by kernel_rfl) (fun _ _ _ _ _ h => h) ?_
 clear st11
 refine b0l rfl rfl rfl e0V (cw 4 0) rfl ?_
 try simp only [clL]
 refine a0n (v := ?_) rfl rfl (fun xq wx => ?_) ?_; rotate_left 1; · (go_simp; with_reducible rfl)
 try simp only [clL]
 refine a0f rfl rfl rfl (fun _ => rfl) (cw 4 (kN x1)) (fun wx hS => St.rangeL hS 0 rfl 0 _ (k0k _ _ _)) Tryz.underlying60 rfl (by kernel_rfl) ?_
 try simp only [clL]
 refine a0n (v := ?_) rfl rfl (fun xq wx => ?_) ?_; rotate_left 1; · (go_simp; with_reducible rfl)
 try simp only [clL]
 refine a0f rfl rfl rfl (fun _ => rfl) (cw 4 (kN z2)) (fun wx hS => St.rangeL hS 1 rfl 8 _ (f0E _ _ _)) Tryz.underlying60 rfl (by kernel_rfl) ?_
 try simp only [clL]
 refine a0d rfl rfl rfl Tryz.call112 (fun w hS hR => a0L _) (fun _ => rfl) ?_
 try simp only [clL]
 refine a0d rfl rfl rfl Tryz.call58 (fun w hS hR => e0e x1 z2 v2 Hv2.out _) (fun _ => rfl) ?_
 try simp only [clL]
 refine b0m List.mem_cons_self fun g9 => ?_
 simp only [upd, reduceIte]
 refine a0y fun xq w12 st12 hR => ?_
 try dsimp only
 clear hR xq
 refine a0r rfl rfl ?_
 refine a0j st12 6 rfl rfl rfl rfl (by simp [a0a]) (by kernel_rfl) (a0g _ _) ?_
 intro w13 st13
 repeat (first | simp only [List.cons_append] at st13 | simp only [List.nil_append] at st13 | simp only [List.set_cons_succ] at st13 | simp only [List.set_cons_zero] at st13)
 clear st12
 try simp only [Act.put]
 refine a0k ?_
 refine NoPanic.normal ?_
 go_wp2_with (with_reducible refine wSk 48 ?_)
 refine a0i st13 4 rfl rfl rfl Tryz.underlying60 rfl (by kernel_rfl) ?_
 go_wp2_with (with_reducible refine wSk 49 ?_)
 refine a0i st13 6 rfl rfl rfl Tryz.underlying60 rfl (by kernel_rfl) ?_
 go_wp2_with (with_reducible refine wSk 50 ?_)
 refine e0v rfl (i0e v v2 rfl rfl rfl HV.out _) ?_
 go_wp2_with (with_reducible refine wSk 51 ?_)
 refine a0i st13 3 rfl rfl rfl Tryz.underlying60 rfl (by kernel_rfl) ?_
 go_wp2_with (with_reducible refine wSk 52 ?_)
 refine a0i st13 5 rfl rfl rfl Tryz.underlying60 rfl (by kernel_rfl) ?_
 go_wp2_with (with_reducible refine wSk 53 ?_)
 refine e0v rfl (l0N u u2 rfl rfl rfl HU.out _) ?_
 go_wp2_with (with_reducible refine wSk 55 ?_)
 refine y0O rfl ?_
 refine a0i st13 3 rfl rfl rfl Tryz.underlying60 rfl (by kernel_rfl) ?_
 go_wp2_with fail
 refine (y0N u false HZ.out _).mono ?_
 rintro e' w14 ⟨rfl, hf14⟩
 have st14 := st13.keep hf14
 clear st13 hf14
 go_wp2_with (with_reducible refine wSk 59 ?_)
 refine a0p st14 0 rfl rfl rfl Tryz.underlying62 rfl rfl (by kernel_rfl) ?_
 go_wp2_with fail
 refine (r0P x1 y1 z1 X Y Z _ (HDB.out _)).mono ?_
 rintro e' w15 ⟨rfl, hf15⟩
 have st15 := st14.keep hf15
 clear st14 hf15
 go_wp2_with (with_reducible refine wSn ?_)
 refine a0b st15 2 rfl rfl rfl rfl rfl (by simp [a0a]) (by kernel_rfl) (b0g _ _ _) ?_
 intro w16 st16
 clear st15
 have hr := st16.at 2 rfl
 have hfr := st16.fr
 clear st16
 go_wp2_with fail
 exact bodyPost_ret (a0u rfl rfl hr Tryz.underlying62 rfl (by kernel_rfl)) rfl ⟨rfl, hfr⟩
theorem w0Y (x1 y1 z1 x2 y2 z2 : K) (hb1 : decide (z1 = 0) = false) (hb2 : decide (z2 = 0) = false) (u v u2 v2 d ee ww e2 e3 t1 t2 t3 t4 t5 t X s1 s2 s3 s4 Y Z : K) (eu : y2 * z1 = u) (ev : x2 * z1 = v) (eu2 : y1 * z2 = u2) (ev2 : x1 * z2 = v2) (ed : u - u2 = d) (eee : v - v2 = ee) (eww : z1 * z2 = ww) (ee2 : ee * ee = e2) (ee3 : e2 * ee = e3) (et1 : d * d = t1) (et2 : t1 * ww = t2) (et3 : t2 - e3 = t3) (et4 : v2 + v2 = t4) (et5 : t4 * e2 = t5) (et : t3 - t5 = t) (eX : ee * t = X) (es1 : v2 * e2 = s1) (es2 : s1 - t = s2) (es3 : d * s2 = s3) (es4 : u2 * e3 = s4) (eY : s3 - s4 = Y) (eZ : e3 * ww = Z) (hv : decide (v = v2) = false) (w : World) : Calls Tryz.prog 68 #[rpV x1 y1 z1, rpV x2 y2 z2] w fun e w' => e = .returned (rpV X Y Z) ∧ Fr Nob w w' := by
 have HB1 := qH hb1
 have HB2 := qH hb2
 clear hb1 hb2
 have Hu := qH eu
 have Hv := qH ev
 have Hu2 := qH eu2
 have Hv2 := qH ev2
 have Hd := qH ed
 have Hee := qH eee
 have Hww := qH eww
 have He2 := qH ee2
 have He3 := qH ee3
 have Ht1 := qH et1
 have Ht2 := qH et2
 have Ht3 := qH et3
 have Ht4 := qH et4
 have Ht5 := qH et5
 have Ht := qH et
 have HX := qH eX
 have Hs1 := qH es1
 have Hs2 := qH es2
 have Hs3 := qH es3
 have Hs4 := qH es4
 have HY := qH eY
 have HZ := qH eZ
 clear eu ev eu2 ev2 ed eee eww ee2 ee3 et1 et2 et3 et4 et5 et eX es1 es2 es3 es4 eY eZ
 have HV := qH hv
 clear hv
 unfold rpV rpL
 have st0 := St.start Nob w
 go_enter Tryz.func68, Tryz.ntmps68
 go_wp2_with (with_reducible refine wSk 2 ?_)
 refine a0m st0 rfl rfl rfl (cw 4 (kN x1) ++ (cw 4 (kN y1) ++ cw 4 (kN z1))) rfl ?_
 intro g2 w1 st1
 clear st0
 go_wp2_with (with_reducible refine wSk 3 ?_)
 refine a0m st1 rfl rfl rfl (cw 4 (kN x2) ++ (cw 4 (kN y2) ++ cw 4 (kN z2))) rfl ?_
 intro g3 w2 st2
 clear st1
 go_wp2_with (with_reducible refine wSk 4 ?_)
 refine a0c st2 rfl rfl (z := zAc) (by kernel_rfl) (cw 12 0) (by rw [a0e]; rfl) ?_
 intro g4 w3 st3
 clear st2
 go_wp2_with (with_reducible refine wSk 16 ?_)
 refine a0p st3 0 rfl rfl rfl Tryz.underlying62 rfl rfl (by kernel_rfl) ?_
 go_wp2_with fail
 refine (d0o x1 y1 z1 false HB1.out _).mono ?_
 rintro e' w4 ⟨rfl, hf4⟩
 have st4 := st3.keep hf4
 clear st3 hf4
 go_wp2_with (with_reducible refine wSk 20 ?_)
 refine a0p st4 1 rfl rfl rfl Tryz.underlying62 rfl rfl (by kernel_rfl) ?_
 go_wp2_with fail
 refine (d0o x2 y2 z2 false HB2.out _).mono ?_
 rintro e' w5 ⟨rfl, hf5⟩
 have st5 := st4.keep hf5
 clear st4 hf5
 go_wp2_with fail
 refine wp_region_noPanic ?_
 refine a0h st5 7 [.o 6, .w 1, .t 2, .w 3, .t 4, .c 0, .c 5, .j 6] (.m 7 .nil) (by kernel_rfl) (by kernel_rfl) (fun _ _ _ _ _ h => h) ?_
 clear st5
 refine b0l rfl rfl rfl e0V (cw 4 0) rfl ?_
 try simp only [clL]
 refine a0n (v := ?_) rfl rfl (fun xq wx => ?_) ?_; rotate_left 1; · (go_simp; with_reducible rfl)
 try simp only [clL]
 refine a0f rfl rfl rfl (fun _ => rfl) (cw 4 (kN y2)) (fun wx hS => St.rangeL hS 1 rfl 4 _ (l0Q _ _ _)) Tryz.underlying60 rfl (by kernel_rfl) ?_
 try simp only [clL]
 refine a0n (v := ?_) rfl rfl (fun xq wx => ?_) ?_; rotate_left 1; · (go_simp; with_reducible rfl)
 try simp only [clL]
 refine a0f rfl rfl rfl (fun _ => rfl) (cw 4 (kN z1)) (fun wx hS => St.rangeL hS 0 rfl 8 _ (f0E _ _ _)) Tryz.underlying60 rfl (by kernel_rfl) ?_
 try simp only [clL]
 refine a0d rfl rfl rfl Tryz.call112 (fun w hS hR => a0L _) (fun _ => rfl) ?_
 try simp only [clL]
 refine a0d rfl rfl rfl Tryz.call58 (fun w hS hR => e0e y2 z1 u Hu.out _) (fun _ => rfl) ?_
 try simp only [clL]
 refine b0m List.mem_cons_self fun g6 => ?_
 simp only [upd, reduceIte]
 refine a0y fun xq w6 st6 hR => ?_
 try dsimp only
 clear hR xq
 refine a0r rfl rfl ?_
 refine a0j st6 3 rfl rfl rfl rfl (by simp [a0a]) (by kernel_rfl) (a0g _ _) ?_
 intro w7 st7
 repeat (first | simp only [List.cons_append] at st7 | simp only [List.nil_append] at st7 | simp only [List.set_cons_succ] at st7 | simp only [List.set_cons_zero] at st7)
 clear st6
 try simp only [Act.put]
 refine a0k ?_
 refine NoPanic.normal ?_
 go_wp2_with fail
 refine wp_region_noPanic ?_
 refine a0h st7 7 [.o 6, .w 1, .t 2, .w 3, .t 4, .c 0, .c 5, .j 6] (.m 7 .nil) (by kernel_rfl) (by kernel_rfl) (fun _ _ _ _ _ h => h) ?_
 clear st7
 refine b0l rfl rfl rfl e0V (cw 4 0) rfl ?_
 try simp only [clL]
 refine a0n (v := ?_) rfl rfl (fun xq wx => ?_) ?_; rotate_left 1; · (go_simp; with_reducible rfl)
 try simp only [clL]
 refine a0f rfl rfl rfl (fun _ => rfl) (cw 4 (kN x2)) (fun wx hS => St.rangeL hS 1 rfl 0 _ (k0k _ _ _)) Tryz.underlying60 rfl (by kernel_rfl) ?_
 try simp only [clL]
 refine a0n (v := ?_) rfl rfl (fun xq wx => ?_) ?_; rotate_left 1; · (go_simp; with_reducible rfl)
 try simp only [clL]
 refine a0f rfl rfl rfl (fun _ => rfl) (cw 4 (kN z1)) (fun wx hS => St.rangeL hS 0 rfl 8 _ (f0E _ _ _)) Tryz.underlying60 rfl (by kernel_rfl) ?_
 try simp only [clL]
 refine a0d rfl rfl rfl Tryz.call112 (fun w hS hR => a0L _) (fun _ => rfl) ?_
 try simp only [clL]
 refine a0d rfl rfl rfl Tryz.call58 (fun w hS hR => e0e x2 z1 v Hv.out _) (fun _ => rfl) ?_
 try simp only [clL]
 refine b0m List.mem_cons_self fun g7 => ?_
 simp only [upd, reduceIte]
 refine a0y fun xq w8 st8 hR => ?_
 try dsimp only
 clear hR xq
 refine a0r rfl rfl ?_
 refine a0j st8 4 rfl rfl rfl rfl (by simp [a0a]) (by kernel_rfl) (a0g _ _) ?_
 intro w9 st9
 repeat (first | simp only [List.cons_append] at st9 | simp only [List.nil_append] at st9 | simp only [List.set_cons_succ] at st9 | simp only [List.set_cons_zero] at st9)
 clear st8
 try simp only [Act.put]
 refine a0k ?_
 refine NoPanic.normal ?_
 go_wp2_with fail
 refine wp_region_noPanic ?_
 refine a0h st9 7 [.o 6, .w 1, .t 2, .w 3, .t 4, .c 0, .c 5, .j 6] (.m 7 .nil) (by kernel_rfl) (by kernel_rfl) (fun _ _ _ _ _ h => h) ?_
 clear st9
 refine b0l rfl rfl rfl e0V (cw 4 0) rfl ?_
 try simp only [clL]
 refine a0n (v := ?_) rfl rfl (fun xq wx => ?_) ?_; rotate_left 1; · (go_simp; with_reducible rfl)
 try simp only [clL]
 refine a0f rfl rfl rfl (fun _ => rfl) (cw 4 (kN y1)) (fun wx hS => St.rangeL hS 0 rfl 4 _ (l0Q _ _ _)) Tryz.underlying60 rfl (by kernel_rfl) ?_
 try simp only [clL]
 refine a0n (v := ?_) rfl rfl (fun xq wx => ?_) ?_; rotate_left 1; · (go_simp; with_reducible rfl)
 try simp only [clL]
 refine a0f rfl rfl rfl (fun _ => rfl) (cw 4 (kN z2)) (fun wx hS => St.rangeL hS 1 rfl 8 _ (f0E _ _ _)) Tryz.underlying60 rfl (by kernel_rfl) ?_
 try simp only [clL]
 refine a0d rfl rfl rfl Tryz.call112 (fun w hS hR => a0L _) (fun _ => rfl) ?_
 try simp only [clL]
 refine a0d rfl rfl rfl Tryz.call58 (fun w hS hR => e0e y1 z2 u2 Hu2.out _) (fun _ => rfl) ?_
 try simp only [clL]
 refine b0m List.mem_cons_self fun g8 => ?_
 simp only [upd, reduceIte]
 refine a0y fun xq w10 st10 hR => ?_
 try dsimp only
 clear hR xq
 refine a0r rfl rfl ?_
 refine a0j st10 5 rfl rfl rfl rfl (by simp [a0a]) (by kernel_rfl) (a0g _ _) ?_
 intro w11 st11
 repeat (first | simp only [List.cons_append] at st11 | simp only [List.nil_append] at st11 | simp only [List.set_cons_succ] at st11 | simp only [List.set_cons_zero] at st11)
 clear st10
 try simp only [Act.put]
 refine a0k ?_
 refine NoPanic.normal ?_
 go_wp2_with fail
 refine wp_region_noPanic ?_
 refine a0h st11 7 [.o 6, .w 1, .t 2, .w 3, .t 4, .c 0, .c 5, .j 6] (.m 7 .nil) (by kernel_rfl) (by kernel_rfl) (fun _ _ _ _ _ h => h) ?_
 clear st11
 refine b0l rfl rfl rfl e0V (cw 4 0) rfl ?_
 try simp only [clL]
 refine a0n (v := ?_) rfl rfl (fun xq wx => ?_) ?_; rotate_left 1; · (go_simp; with_reducible rfl)
 try simp only [clL]
 refine a0f rfl rfl rfl (fun _ => rfl) (cw 4 (kN x1)) (fun wx hS => St.rangeL hS 0 rfl 0 _ (k0k _ _ _)) Tryz.underlying60 rfl (by kernel_rfl) ?_
 try simp only [clL]
 refine a0n (v := ?_) rfl rfl (fun xq wx => ?_) ?_; rotate_left 1; · (go_simp; with_reducible rfl)
 try simp only [clL]
 refine a0f rfl rfl rfl (fun _ => rfl) (cw 4 (kN z2)) (fun wx hS => St.rangeL hS 1 rfl 8 _ (f0E _ _ _)) Tryz.underlying60 rfl (by kernel_rfl) ?_
 try simp only [clL]
 refine a0d rfl rfl rfl Tryz.call112 (fun w hS hR => a0L _) (fun _ => rfl) ?_
 try simp only [clL]
 refine a0d rfl rfl rfl Tryz.call58 (fun w hS hR => e0e x1 z2 v2 Hv2.out _) (fun _ => rfl) ?_
 try simp only [clL]
 refine b0m List.mem_cons_self fun g9 => ?_
 simp only [upd, reduceIte]
 refine a0y fun xq w12 st12 hR => ?_
 try dsimp only
 clear hR xq
 refine a0r rfl rfl ?_
 refine a0j st12 6 rfl rfl rfl rfl (by simp [a0a]) (by kernel_rfl) (a0g _ _) ?_
 intro w13 st13
 repeat (first | simp only [List.cons_append] at st13 | simp only [List.nil_append] at st13 | simp only [List.set_cons_succ] at st13 | simp only [List.set_cons_zero] at st13)
 clear st12
 try simp only [Act.put]
 refine a0k ?_
 refine NoPanic.normal ?_
 go_wp2_with (with_reducible refine wSk 48 ?_)
 refine a0i st13 4 rfl rfl rfl Tryz.underlying60 rfl (by kernel_rfl) ?_
 go_wp2_with (with_reducible refine wSk 49 ?_)
 refine a0i st13 6 rfl rfl rfl Tryz.underlying60 rfl (by kernel_rfl) ?_
 go_wp2_with (with_reducible refine wSk 50 ?_)
 refine e0v rfl (i0e v v2 rfl rfl rfl HV.out _) ?_
 go_wp2_with fail
 refine wp_region_noPanic ?_
 refine a0h st13 5 [.o 4, .t 1, .t 2, .c 0, .c 3, .j 4] (.m 5 .nil) (by kernel_rfl) (by kernel_rfl) (fun _ _ _ _ _ h => h) ?_
 clear st13
 refine b0l rfl rfl rfl e0V (cw 4 0) rfl ?_
 try simp only [clL]
 refine a0f rfl rfl rfl (fun _ => rfl) (cw 4 (kN u)) (fun wx hS => St.rangeL hS 3 rfl 0 _ dZl) Tryz.underlying60 rfl (by kernel_rfl) ?_
 try simp only [clL]
 refine a0f rfl rfl rfl (fun _ => rfl) (cw 4 (kN u2)) (fun wx hS => St.rangeL hS 5 rfl 0 _ dZl) Tryz.underlying60 rfl (by kernel_rfl) ?_
 try simp only [clL]
 refine a0d rfl rfl rfl Tryz.call112 (fun w hS hR => a0L _) (fun _ => rfl) ?_
 try simp only [clL]
 refine a0d rfl rfl rfl Tryz.call137 (fun w hS hR => u0g u u2 d Hd.out _) (fun _ => rfl) ?_
 try simp only [clL]
 refine b0m List.mem_cons_self fun g10 => ?_
 simp only [upd, reduceIte]
 refine a0y fun xq w14 st14 hR => ?_
 try dsimp only
 clear hR xq
 refine a0r rfl rfl ?_
 refine a0j st14 7 rfl rfl rfl rfl (by simp [a0a]) (by kernel_rfl) (a0g _ _) ?_
 intro w15 st15
 repeat (first | simp only [List.cons_append] at st15 | simp only [List.nil_append] at st15 | simp only [List.set_cons_succ] at st15 | simp only [List.set_cons_zero] at st15)
 clear st14
 try simp only [Act.put]
 refine a0k ?_
 refine NoPanic.normal ?_
 go_wp2_with fail
 refine wp_region_noPanic ?_
 refine a0h st15 5 [.o 4, .t 1, .t 2, .c 0, .c 3, .j 4] (.m 5 .nil) (by kernel_rfl) (by kernel_rfl) (fun _ _ _ _ _ h => h) ?_
 clear st15
 refine b0l rfl rfl rfl e0V (cw 4 0) rfl ?_
 try simp only [clL]
 refine a0f rfl rfl rfl (fun _ => rfl) (cw 4 (kN v)) (fun wx hS => St.rangeL hS 4 rfl 0 _ dZl) Tryz.underlying60 rfl (by kernel_rfl) ?_
 try simp only [clL]
 refine a0f rfl rfl rfl (fun _ => rfl) (cw 4 (kN v2)) (fun wx hS => St.rangeL hS 6 rfl 0 _ dZl) Tryz.underlying60 rfl (by kernel_rfl) ?_
 try simp only [clL]
 refine a0d rfl rfl rfl Tryz.call112 (fun w hS hR => a0L _) (fun _ => rfl) ?_
 try simp only [clL]
 refine a0d rfl rfl rfl Tryz.call137 (fun w hS hR => u0g v v2 ee Hee.out _) (fun _ => rfl) ?_
 try simp only [clL]
 refine b0m List.mem_cons_self fun g11 => ?_
 simp only [upd, reduceIte]
 refine a0y fun xq w16 st16 hR => ?_
 try dsimp only
 clear hR xq
 refine a0r rfl rfl ?_
 refine a0j st16 8 rfl rfl rfl rfl (by simp [a0a]) (by kernel_rfl) (a0g _ _) ?_
 intro w17 st17
 repeat (first | simp only [List.cons_append] at st17 | simp only [List.nil_append] at st17 | simp only [List.set_cons_succ] at st17 | simp only [List.set_cons_zero] at st17)
 clear st16
 try simp only [Act.put]
 refine a0k ?_
 refine NoPanic.normal ?_
 go_wp2_with fail
 refine wp_region_noPanic ?_
 refine a0h st17 7 [.o 6, .w 1, .t 2, .w 3, .t 4, .c 0, .c 5, .j 6] (.m 7 .nil) (by kernel_rfl) (by kernel_rfl) (fun _ _ _ _ _ h => h) ?_
 clear st17
 refine b0l rfl rfl rfl e0V (cw 4 0) rfl ?_
 try simp only [clL]
 refine a0n (v := ?_) rfl rfl (fun xq wx => ?_) ?_; rotate_left 1; · (go_simp; with_reducible rfl)
 try simp only [clL]
 refine a0f rfl rfl rfl (fun _ => rfl) (cw 4 (kN z1)) (fun wx hS => St.rangeL hS 0 rfl 8 _ (f0E _ _ _)) Tryz.underlying60 rfl (by kernel_rfl) ?_
 try simp only [clL]
 refine a0n (v := ?_) rfl rfl (fun xq wx => ?_) ?_; rotate_left 1; · (go_simp; with_reducible rfl)
 try simp only [clL]
 refine a0f rfl rfl rfl (fun _ => rfl) (cw 4 (kN z2)) (fun wx hS => St.rangeL hS 1 rfl 8 _ (f0E _ _ _)) Tryz.underlying60 rfl (by kernel_rfl) ?_
 try simp only [clL]
 refine a0d rfl rfl rfl Tryz.call112 (fun w hS hR => a0L _) (fun _ => rfl) ?_
 try simp only [clL]
 refine a0d rfl rfl rfl Tryz.call58 (fun w hS hR => e0e z1 z2 ww Hww.out _) (fun _ => rfl) ?_
 try simp only [clL]
 refine b0m List.mem_cons_self fun g12 => ?_
 simp only [upd, reduceIte]
 refine a0y fun xq w18 st18 hR => ?_
 try dsimp only
 clear hR xq
 refine a0r rfl rfl ?_
 refine a0j st18 9 rfl rfl rfl rfl (by simp [a0a]) (by kernel_rfl) (a0g _ _) ?_
 intro w19 st19
 repeat (first | simp only [List.cons_append] at st19 | simp only [List.nil_append] at st19 | simp only [List.set_cons_succ] at st19 | simp only [List.set_cons_zero] at st19)
 clear st18
 try simp only [Act.put]
 refine a0k ?_
 refine NoPanic.normal ?_
 go_wp2_with fail
 refine wp_region_noPanic ?_
 refine a0h st19 5 [.o 4, .t 1, .t 2, .c 0, .c 3, .j 4] (.m 5 .nil) (by kernel_rfl) (by kernel_rfl) (fun _ _ _ _ _ h => h) ?_
 clear st19
 refine b0l rfl rfl rfl e0V (cw 4 0) rfl ?_
 try simp only [clL]
 refine a0f rfl rfl rfl (fun _ => rfl) (cw 4 (kN ee)) (fun wx hS => St.rangeL hS 8 rfl 0 _ dZl) Tryz.underlying60 rfl (by kernel_rfl) ?_
 try simp only [clL]
 refine a0f rfl rfl rfl (fun _ => rfl) (cw 4 (kN ee)) (fun wx hS => St.rangeL hS 8 rfl 0 _ dZl) Tryz.underlying60 rfl (by kernel_rfl) ?_
 try simp only [clL]
 refine a0d rfl rfl rfl Tryz.call112 (fun w hS hR => a0L _) (fun _ => rfl) ?_
 try simp only [clL]
 refine a0d rfl rfl rfl Tryz.call58 (fun w hS hR => e0e ee ee e2 He2.out _) (fun _ => rfl) ?_
 try simp only [clL]
 refine b0m List.mem_cons_self fun g13 => ?_
 simp only [upd, reduceIte]
 refine a0y fun xq w20 st20 hR => ?_
 try dsimp only
 clear hR xq
 refine a0r rfl rfl ?_
 refine a0j st20 10 rfl rfl rfl rfl (by simp [a0a]) (by kernel_rfl) (a0g _ _) ?_
 intro w21 st21
 repeat (first | simp only [List.cons_append] at st21 | simp only [List.nil_append] at st21 | simp only [List.set_cons_succ] at st21 | simp only [List.set_cons_zero] at st21)
 clear st20
 try simp only [Act.put]
 refine a0k ?_
 refine NoPanic.normal ?_
 go_wp2_with fail
 refine wp_region_noPanic ?_
 refine a0h st21 5 [.o 4, .t 1, .t 2, .c 0, .c 3, .j 4] (.m 5 .nil) (by kernel_rfl) (by kernel_rfl) (fun _ _ _ _ _ h => h) ?_
 clear st21
 refine b0l rfl rfl rfl e0V (cw 4 0) rfl ?_
 try simp only [clL]
 refine a0f rfl rfl rfl (fun _ => rfl) (cw 4 (kN e2)) (fun wx hS => St.rangeL hS 10 rfl 0 _ dZl) Tryz.underlying60 rfl (by kernel_rfl) ?_
 try simp only [clL]
 refine a0f rfl rfl rfl (fun _ => rfl) (cw 4 (kN ee)) (fun wx hS => St.rangeL hS 8 rfl 0 _ dZl) Tryz.underlying60 rfl (by kernel_rfl) ?_
 try simp only [clL]
 refine a0d rfl rfl rfl Tryz.call112 (fun w hS hR => a0L _) (fun _ => rfl) ?_
 try simp only [clL]
 refine a0d rfl rfl rfl Tryz.call58 (fun w hS hR => e0e e2 ee e3 He3.out _) (fun _ => rfl) ?_
 try simp only [clL]
 refine b0m List.mem_cons_self fun g14 => ?_
 simp only [upd, reduceIte]
 refine a0y fun xq w22 st22 hR => ?_
 try dsimp only
 clear hR xq
 refine a0r rfl rfl ?_
 refine a0j st22 11 rfl rfl rfl rfl (by simp [a0a]) (by kernel_rfl) (a0g _ _) ?_
 intro w23 st23
 repeat (first | simp only [List.cons_append] at st23 | simp only [List.nil_append] at st23 | simp only [List.set_cons_succ] at st23 | simp only [List.set_cons_zero] at st23)
 clear st22
 try simp only [Act.put]
 refine a0k ?_
 refine NoPanic.normal ?_
 go_wp2_with fail
 refine wp_region_noPanic ?_
 refine a0h st23 20 [.o 19, .t 4, .t 5, .t 7, .t 9, .t 13, .t 14, .t 16, .c 0, .c 1, .c 2, .c 3, .c 6, .c 8, .c 10, .c 11, .c 12, .c 15, .c 17, .c 18, .j 19] (.m 20 .nil) (by kernel_rfl) (by kernel_rfl) (fun _ _ _ _ _ h => h) ?_
 clear st23
 refine b0l rfl rfl rfl e0V (cw 4 0) rfl ?_
 try simp only [clL]
 refine a0f rfl rfl rfl (fun _ => rfl) (cw 4 (kN d)) (fun wx hS => St.rangeL hS 7 rfl 0 _ dZl) Tryz.underlying60 rfl (by kernel_rfl) ?_
 try simp only [clL]
 refine a0f rfl rfl rfl (fun _ => rfl) (cw 4 (kN d)) (fun wx hS => St.rangeL hS 7 rfl 0 _ dZl) Tryz.underlying60 rfl (by kernel_rfl) ?_
 try simp only [clL]
 refine a0f rfl rfl rfl (fun _ => rfl) (cw 4 (kN ww)) (fun wx hS => St.rangeL hS 9 rfl 0 _ dZl) Tryz.underlying60 rfl (by kernel_rfl) ?_
 try simp only [clL]
 refine a0f rfl rfl rfl (fun _ => rfl) (cw 4 (kN e3)) (fun wx hS => St.rangeL hS 11 rfl 0 _ dZl) Tryz.underlying60 rfl (by kernel_rfl) ?_
 try simp only [clL]
 refine a0f rfl rfl rfl (fun _ => rfl) (cw 4 (kN v2)) (fun wx hS => St.rangeL hS 6 rfl 0 _ dZl) Tryz.underlying60 rfl (by kernel_rfl) ?_
 try simp only [clL]
 refine a0f rfl rfl rfl (fun _ => rfl) (cw 4 (kN v2)) (fun wx hS => St.rangeL hS 6 rfl 0 _ dZl) Tryz.underlying60 rfl (by kernel_rfl) ?_
 try simp only [clL]
 refine a0f rfl rfl rfl (fun _ => rfl) (cw 4 (kN e2)) (fun wx hS => St.rangeL hS 10 rfl 0 _ dZl) Tryz.underlying60 rfl (by kernel_rfl) ?_
 try simp only [clL]
 refine a0d rfl rfl rfl Tryz.call112 (fun w hS hR => a0L _) (fun _ => rfl) ?_
 try simp only [clL]
 refine a0d rfl rfl rfl Tryz.call112 (fun w hS hR => a0L _) (fun _ => rfl) ?_
 try simp only [clL]
 refine a0d rfl rfl rfl Tryz.call112 (fun w hS hR => a0L _) (fun _ => rfl) ?_
 try simp only [clL]
 refine a0d rfl rfl rfl Tryz.call112 (fun w hS hR => a0L _) (fun _ => rfl) ?_
 try simp only [clL]
 refine a0d rfl rfl rfl Tryz.call58 (fun w hS hR => e0e d d t1 Ht1.out _) (fun _ => rfl) ?_
 try simp only [clL]
 refine a0d rfl rfl rfl Tryz.call58 (fun w hS hR => e0e t1 ww t2 Ht2.out _) (fun _ => rfl) ?_
 try simp only [clL]
 refine a0d rfl rfl rfl Tryz.call137 (fun w hS hR => u0g t2 e3 t3 Ht3.out _) (fun _ => rfl) ?_
 try simp only [clL]
 refine a0d rfl rfl rfl Tryz.call112 (fun w hS hR => a0L _) (fun _ => rfl) ?_
 try simp only [clL]
 refine a0d rfl rfl rfl Tryz.call112 (fun w hS hR => a0L _) (fun _ => rfl) ?_
 try simp only [clL]
 refine a0d rfl rfl rfl Tryz.call57 (fun w hS hR => x0r v2 v2 t4 Ht4.out _) (fun _ => rfl) ?_
 try simp only [clL]
 refine a0d rfl rfl rfl Tryz.call58 (fun w hS hR => e0e t4 e2 t5 Ht5.out _) (fun _ => rfl) ?_
 try simp only [clL]
 refine a0d rfl rfl rfl Tryz.call137 (fun w hS hR => u0g t3 t5 t Ht.out _) (fun _ => rfl) ?_
 try simp only [clL]
 refine b0m List.mem_cons_self fun g15 => ?_
 simp only [upd, reduceIte]
 refine a0y fun xq w24 st24 hR => ?_
 try dsimp only
 clear hR xq
 refine a0r rfl rfl ?_
 refine a0j st24 12 rfl rfl rfl rfl (by simp [a0a]) (by kernel_rfl) (a0g _ _) ?_
 intro w25 st25
 repeat (first | simp only [List.cons_append] at st25 | simp only [List.nil_append] at st25 | simp only [List.set_cons_succ] at st25 | simp only [List.set_cons_zero] at st25)
 clear st24
 try simp only [Act.put]
 refine a0k ?_
 refine NoPanic.normal ?_
 go_wp2_with fail
 refine wp_region_noPanic ?_
 refine a0h st25 25 [.t 1, .t 2, .t 6, .t 9, .t 10, .t 12, .t 16, .t 17, .t 21, .t 22, .c 0, .c 3, .c 4, .c 5, .c 7, .c 8, .c 11, .c 13, .c 14, .c 15, .c 18, .c 19, .c 20, .c 23, .w 24] (.m 25 .nil) (by kernel_rfl) (by kernel_rfl) (fun _ _ _ _ _ h => h) ?_
 clear st25
 refine a0f rfl rfl rfl (fun _ => rfl) (cw 4 (kN ee)) (fun wx hS => St.rangeL hS 8 rfl 0 _ dZl) Tryz.underlying60 rfl (by kernel_rfl) ?_
 try simp only [clL]
 refine a0f rfl rfl rfl (fun _ => rfl) (cw 4 (kN t)) (fun wx hS => St.rangeL hS 12 rfl 0 _ dZl) Tryz.underlying60 rfl (by kernel_rfl) ?_
 try simp only [clL]
 refine a0f rfl rfl rfl (fun _ => rfl) (cw 4 (kN d)) (fun wx hS => St.rangeL hS 7 rfl 0 _ dZl) Tryz.underlying60 rfl (by kernel_rfl) ?_
 try simp only [clL]
 refine a0f rfl rfl rfl (fun _ => rfl) (cw 4 (kN v2)) (fun wx hS => St.rangeL hS 6 rfl 0 _ dZl) Tryz.underlying60 rfl (by kernel_rfl) ?_
 try simp only [clL]
 refine a0f rfl rfl rfl (fun _ => rfl) (cw 4 (kN e2)) (fun wx hS => St.rangeL hS 10 rfl 0 _ dZl) Tryz.underlying60 rfl (by kernel_rfl) ?_
 try simp only [clL]
 refine a0f rfl rfl rfl (fun _ => rfl) (cw 4 (kN t)) (fun wx hS => St.rangeL hS 12 rfl 0 _ dZl) Tryz.underlying60 rfl (by kernel_rfl) ?_
 try simp only [clL]
 refine a0f rfl rfl rfl (fun _ => rfl) (cw 4 (kN u2)) (fun wx hS => St.rangeL hS 5 rfl 0 _ dZl) Tryz.underlying60 rfl (by kernel_rfl) ?_
 try simp only [clL]
 refine a0f rfl rfl rfl (fun _ => rfl) (cw 4 (kN e3)) (fun wx hS => St.rangeL hS 11 rfl 0 _ dZl) Tryz.underlying60 rfl (by kernel_rfl) ?_
 try simp only [clL]
 refine a0f rfl rfl rfl (fun _ => rfl) (cw 4 (kN e3)) (fun wx hS => St.rangeL hS 11 rfl 0 _ dZl) Tryz.underlying60 rfl (by kernel_rfl) ?_
 try simp only [clL]
 refine a0f rfl rfl rfl (fun _ => rfl) (cw 4 (kN ww)) (fun wx hS => St.rangeL hS 9 rfl 0 _ dZl) Tryz.underlying60 rfl (by kernel_rfl) ?_
 try simp only [clL]
 refine a0d rfl rfl rfl Tryz.call112 (fun w hS hR => a0L _) (fun _ => rfl) ?_
 try simp only [clL]
 refine a0d rfl rfl rfl Tryz.call58 (fun w hS hR => e0e ee t X HX.out _) (fun _ => rfl) ?_
 try simp only [clL]
 refine a0d rfl rfl rfl Tryz.call112 (fun w hS hR => a0L _) (fun _ => rfl) ?_
 try simp only [clL]
 refine a0d rfl rfl rfl Tryz.call112 (fun w hS hR => a0L _) (fun _ => rfl) ?_
 try simp only [clL]
 refine a0d rfl rfl rfl Tryz.call112 (fun w hS hR => a0L _) (fun _ => rfl) ?_
 try simp only [clL]
 refine a0d rfl rfl rfl Tryz.call112 (fun w hS hR => a0L _) (fun _ => rfl) ?_
 try simp only [clL]
 refine a0d rfl rfl rfl Tryz.call58 (fun w hS hR => e0e v2 e2 s1 Hs1.out _) (fun _ => rfl) ?_
 try simp only [clL]
 refine a0d rfl rfl rfl Tryz.call137 (fun w hS hR => u0g s1 t s2 Hs2.out _) (fun _ => rfl) ?_
 try simp only [clL]
 refine a0d rfl rfl rfl Tryz.call58 (fun w hS hR => e0e d s2 s3 Hs3.out _) (fun _ => rfl) ?_
 try simp only [clL]
 refine a0d rfl rfl rfl Tryz.call112 (fun w hS hR => a0L _) (fun _ => rfl) ?_
 try simp only [clL]
 refine a0d rfl rfl rfl Tryz.call58 (fun w hS hR => e0e u2 e3 s4 Hs4.out _) (fun _ => rfl) ?_
 try simp only [clL]
 refine a0d rfl rfl rfl Tryz.call137 (fun w hS hR => u0g s3 s4 Y HY.out _) (fun _ => rfl) ?_
 try simp only [clL]
 refine a0d rfl rfl rfl Tryz.call112 (fun w hS hR => a0L _) (fun _ => rfl) ?_
 try simp only [clL]
 refine a0d rfl rfl rfl Tryz.call58 (fun w hS hR => e0e e3 ww Z HZ.out _) (fun _ => rfl) ?_
 try simp only [clL]
 refine a0n rfl rfl (fun _ => b0u rfl _ (k0g _ _ _)) ?_
 try simp only [clL]
 refine a0y fun xq w26 st26 hR => ?_
 try dsimp only
 clear hR xq
 refine a0r rfl rfl ?_
 refine a0j st26 2 rfl rfl rfl rfl (by simp [a0a]) (by kernel_rfl) (b0g _ _ _) ?_
 intro w27 st27
 try simp only [List.set_cons_zero, List.set_cons_succ] at st27
 clear st26
 try simp only [Act.put]
 refine a0k ?_
 refine NoPanic.normal ?_
 have hr := st27.at 2 rfl
 have hfr := st27.fr
 clear st27
 go_wp2_with fail
 exact bodyPost_ret (a0u rfl rfl hr Tryz.underlying62 rfl (by kernel_rfl)) rfl ⟨rfl, hfr⟩
end
section
open Go.RowKit Go.Mv Mvp Mvq
structure RT where
 x : K
 y : K
 z : K
 on : onC (nm x y z)
def RT.pt (s : RT) : Pt := nm s.x s.y s.z
def RT.L (s : RT) : List Value := rpL s.x s.y s.z
theorem a0v (x y z : K) : (rpL x y z).length = 12 := by simp [rpL, a0a]
theorem RT.len (s : RT) : s.L.length = 12 := a0v _ _ _
theorem RT.one (s : RT) : ∀ v ∈ s.L, v.oneCell' = true := b0g _ _ _
theorem RT.onP (s : RT) : onC s.pt := s.on
theorem p0p (x y z : K) (ho : onC (nm x y z)) (hz : z ≠ 0) : ∃ X Y Z, nm X Y Z = a0Y (nm x y z) (nm x y z) ∧ ∀ wx, Calls Tryz.prog 136 #[rpV x y z] wx fun e w' => e = .returned (rpV X Y Z) ∧ Fr Nob wx w' := by
 refine ⟨_, _, _, ?_, fun wx => r0N x y z _ _ _ _ _ _ _ _ _ _ _ _ _ _ _ _ _ _ _ rfl rfl rfl rfl rfl rfl rfl rfl rfl rfl rfl rfl rfl rfl rfl rfl rfl rfl rfl wx⟩
 exact l0w ho hz (x * x) _ _ _ _ _ rfl (by grind -lia -linarith) (by grind -lia -linarith) rfl rfl (by grind -lia -linarith)
theorem u0h (x1 y1 z1 x2 y2 z2 : K) (ho1 : onC (nm x1 y1 z1)) (ho2 : onC (nm x2 y2 z2)) : ∃ X Y Z, nm X Y Z = a0Y (nm x1 y1 z1) (nm x2 y2 z2) ∧ ∀ wx, Calls Tryz.prog 68 #[rpV x1 y1 z1, rpV x2 y2 z2] wx fun e w' => e = .returned (rpV X Y Z) ∧ Fr Nob wx w' := by
 by_cases hz1 : z1 = 0
 ·exact ⟨x2, y2, z2, by rw [x0p hz1]; rfl, fun wx => m0Q x1 y1 z1 x2 y2 z2 (by simpa using hz1) wx⟩
 ·by_cases hz2 : z2 = 0
  ·exact ⟨x1, y1, z1, by rw [x0p hz2, b0H], fun wx => m0R x1 y1 z1 x2 y2 z2 (by simpa using hz1) (by simpa using hz2) wx⟩
  ·by_cases hv : x2 * z1 = x1 * z2
   ·have hs := w0q ho1 ho2 hz1 hz2 hv
    by_cases hu : y2 * z1 = y1 * z2
    ·obtain ⟨X, Y, Z, h1, h2⟩ := p0p x1 y1 z1 ho1 hz1
     refine ⟨X, Y, Z, by rw [h1, hs.1 hu], fun wx => r0Q x1 y1 z1 x2 y2 z2 (by simpa using hz1) (by simpa using hz2) _ _ _ _ rfl rfl rfl rfl (by simpa using hv) (by simpa using hu) (by simpa using hs.2.2) X Y Z h2 wx⟩
    ·exact ⟨0, 1, 0, by rw [x0p rfl, hs.2.1 hu], fun wx => r0O x1 y1 z1 x2 y2 z2 (by simpa using hz1) (by simpa using hz2) _ _ _ _ rfl rfl rfl rfl (by simpa using hv) (by simpa using hu) wx⟩
   ·refine ⟨_, _, _, ?_, fun wx => w0Y x1 y1 z1 x2 y2 z2 (by simpa using hz1) (by simpa using hz2) _ _ _ _ _ _ _ _ _ _ _ _ _ _ _ _ _ _ _ _ _ _ rfl rfl rfl rfl rfl rfl rfl rfl rfl rfl rfl rfl rfl rfl rfl rfl rfl rfl rfl rfl rfl rfl (by simpa using hv) wx⟩
    exact r0c ho1 ho2 hz1 hz2 (y2 * z1) (x2 * z1) (y1 * z2) (x1 * z2) _ _ _ _ _ _ rfl rfl rfl rfl rfl rfl (fun h => hv (by
     have h2 : x2 * z1 - x1 * z2 + x1 * z2 = 0 + x1 * z2 := by rw [h]
     grind -lia -linarith)) rfl rfl rfl (by grind -lia -linarith)
theorem m0S (s t : RT) : ∃ r : RT, r.pt = a0Y s.pt t.pt ∧ ∀ wx, Calls Tryz.prog 68 #[.agg s.L.toArray, .agg t.L.toArray] wx fun e w' => e = .returned (.agg r.L.toArray) ∧ Fr Nob wx w' := by
 obtain ⟨X, Y, Z, h1, h2⟩ := u0h s.x s.y s.z t.x t.y t.z s.on t.on
 exact ⟨⟨X, Y, Z, by rw [h1]; exact c0g s.on t.on⟩, h1, h2⟩
noncomputable def f0P (s t : RT) : RT := Classical.choose (m0S s t)
theorem m0T (s t : RT) : (f0P s t).pt = a0Y s.pt t.pt := (Classical.choose_spec (m0S s t)).1
theorem r0R (s t : RT) (w : World) : Calls Tryz.prog 68 #[.agg s.L.toArray, .agg t.L.toArray] w fun e w' => e = .returned (.agg (f0P s t).L.toArray) ∧ Fr Nob w w' := (Classical.choose_spec (m0S s t)).2 w
def noR : RT := ⟨0, 1, 0, by rw [x0p rfl]; trivial⟩
theorem y0P : noR.pt = .O := x0p rfl
theorem w0Z (w : World) : Calls Tryz.prog 95 #[] w fun e w' => e = .returned (.agg noR.L.toArray) ∧ Fr Nob w w' := l0M w
def RT.isO (s : RT) : Bool := decide (s.z = 0)
theorem RT.isO_t {s : RT} (h : s.isO = true) : s.pt = .O := x0p (by simpa [RT.isO] using h)
theorem v0g (x y : K) : nm x y 1 = .A x y := p0c (by decide) (by grind -lia -linarith) (by grind -lia -linarith)
def z0I (x y : K) (h : onC (.A x y)) : RT := ⟨x, y, 1, by rw [v0g]; exact h⟩
theorem x0a (x y : K) (h : onC (.A x y)) : (z0I x y h).pt = .A x y := v0g x y
noncomputable def f0c (n : Nat) (s : RT) : Nat → RT
 | 0 => noR
 | k + 1 => if n / 2 ^ (255 - k) % 2 = 1 then f0P (f0P (f0c n s k) (f0c n s k)) s else f0P (f0c n s k) (f0c n s k)
theorem r0S (n : Nat) (s : RT) (k : Nat) : f0c n s (k + 1) = if n / 2 ^ (255 - k) % 2 = 1 then f0P (f0P (f0c n s k) (f0c n s k)) s else f0P (f0c n s k) (f0c n s k) := rfl
theorem r0T (n : Nat) (s : RT) : f0c n s 0 = noR := rfl
theorem r0U (n : Nat) (hn : n < 2 ^ 256) (s : RT) : ∀ k, k ≤ 256 → (f0c n s k).pt = b0b (n / 2 ^ (256 - k)) s.pt
 | 0, _ => by
  show noR.pt = _
  rw [y0P, Nat.sub_zero, Nat.div_eq_of_lt hn]
  rfl
 | k + 1, h => by
  have ih := r0U n hn s k (by omega)
  have hb := n0P s.on n (255 - k)
  rw [show 256 - (k + 1) = 255 - k by omega]
  rw [show 256 - k = 255 - k + 1 by omega] at ih
  show _ = b0b (n / 2 ^ (255 - k)) (nm s.x s.y s.z)
  rw [hb]
  show (if n / 2 ^ (255 - k) % 2 = 1 then f0P (f0P (f0c n s k) (f0c n s k)) s else f0P (f0c n s k) (f0c n s k)).pt = _
  by_cases h1 : n / 2 ^ (255 - k) % 2 = 1
  ·rw [if_pos h1, if_pos h1, m0T, m0T, ih]; rfl
  ·rw [if_neg h1, if_neg h1, m0T, ih, b0H]; rfl
noncomputable def c0c (n : Nat) (s : RT) : RT := f0c n s 256
theorem l0O (n : Nat) (hn : n < 2 ^ 256) (s : RT) : (c0c n s).pt = b0b n s.pt := by
 have := r0U n hn s 256 (Nat.le_refl _)
 rwa [Nat.sub_self, Nat.pow_zero, Nat.div_one] at this
end
section
open Go.RowKit Go.Mv Mvp Mvq
attribute [local irreducible] a0F lw mix cw b0n b0v b0k a0M a0q beN b0C b0i b0z a0J a0R elN mdL b0o rtV b0T kN kc c0b b0Z f0P noR c0c f0c RT.L
theorem u0i (n : Nat) (s : RT) (w : World) : Calls Tryz.prog 69 #[i4 n, .agg s.L.toArray] w fun e w' => e = .returned (.agg (c0c n s).L.toArray) ∧ Fr Nob w w' := by
 unfold c0c
 have st0 := St.start Nob w
 go_enter Tryz.func69, Tryz.ntmps69
 go_wp2_with (with_reducible refine wSk 2 ?_)
 refine a0m st0 rfl rfl rfl (cw 4 n) rfl ?_
 intro g2 w1 st1
 clear st0
 go_wp2_with (with_reducible refine wSk 3 ?_)
 refine a0m st1 rfl rfl rfl (s.L) rfl ?_
 intro g3 w2 st2
 clear st1
 go_wp2_with (with_reducible refine wSk 4 ?_)
 refine a0c st2 rfl rfl (z := zAc) (by kernel_rfl) (cw 12 0) (by rw [a0e]; rfl) ?_
 intro g4 w3 st3
 clear st2
 go_wp2_with fail
 refine (w0Z _).mono ?_
 rintro e' w4 ⟨rfl, hf4⟩
 have st4 := st3.keep hf4
 clear st3 hf4
 go_wp2_with (with_reducible refine wSk 5 ?_)
 refine a0c st4 rfl rfl (z := zAc) (by kernel_rfl) (cw 12 0) (by rw [a0e]; rfl) ?_
 intro g5 w5 st5
 clear st4
 go_wp2_with (with_reducible refine wSn ?_)
 refine a0b st5 3 rfl rfl rfl rfl rfl (by first | (simp [a0a]; done) | (simp [RT.len]; done) | (simp [a0a, RT.len]; done) | simp [a0a, RT.len]) (by kernel_rfl) (RT.one _) ?_
 intro w6 st6
 clear st5
 go_wp2
 go_loopw [6] (fun i wr => ∃ k : Nat, k ≤ 256 ∧ i = .int .i64 (255 - (k : Int)) ∧ St Nob w wr [(g2, cw 4 n, 60), (g3, s.L, 62), (g4, cw 12 0, 62), (g5, (f0c n s k).L, 62)]) (fun i _ => (intOf i + 1).toNat)
 case atStart => exact ⟨0, by omega, rfl, by rw [r0T]; exact st6⟩
 case round =>
  obtain ⟨k, hk, rfl, st⟩ := hrel
  clear st6
  rcases Nat.lt_or_ge k 256 with hk2 | hk2
  ·have hge : (0 : Int) ≤ 255 - (k : Int) := by omega
   have hrec := r0S n s k
   generalize hT' : f0c n s (k + 1) = T' at *
   have HT' := qH hT'
   clear hT'
   generalize f0c n s k = T at *
   have hbit := fun wx => g0N n (255 - k) wx (by omega)
   rw [show (((255 - k : Nat)) : Int) = 255 - (k : Int) by omega] at hbit
   have hb2 : n / 2 ^ (255 - k) % 2 < 2 := Nat.mod_lt _ (by decide)
   generalize n / 2 ^ (255 - k) % 2 = b at *
   have HREC := qH hrec
   have HBIT := qH hbit
   clear hrec hbit
   go_wp2_with (with_reducible refine wSk 12 ?_)
   refine a0p st 3 rfl rfl rfl Tryz.underlying62 rfl rfl (by kernel_rfl) ?_
   go_wp2_with (with_reducible refine wSk 13 ?_)
   refine a0p st 3 rfl rfl rfl Tryz.underlying62 rfl rfl (by kernel_rfl) ?_
   go_wp2_with fail
   refine (r0R T T _).mono ?_
   rintro e' w7 ⟨rfl, hf7⟩
   have st7 := st.keep hf7
   clear st hf7
   go_wp2_with (with_reducible refine wSn ?_)
   refine a0b st7 3 rfl rfl rfl rfl rfl (by simp [RT.len]) (by kernel_rfl) (RT.one _) ?_
   intro w8 st8
   clear st7
   go_wp2_with (with_reducible refine wSk 15 ?_)
   refine a0i st8 0 rfl rfl rfl Tryz.underlying60 rfl (by kernel_rfl) ?_
   go_wp2_with fail
   refine (HBIT.out _).mono ?_
   rintro e' w9 ⟨rfl, hf9⟩
   have st9 := st8.keep hf9
   clear st8 hf9
   obtain rfl | rfl : b = 0 ∨ b = 1 := by omega
   ·have HE := qH (show T' = f0P T T by rw [HREC.out]; rfl)
    clear hb2
    go_wp2
    go_roundw
    case rel => exact ⟨k + 1, by omega, by go_num, by rw [HT'.out, HE.out]; exact st9⟩
    case measure => simp [intOf]; omega
   ·have HE := qH (show T' = f0P (f0P T T) s by rw [HREC.out]; rfl)
    clear hb2
    go_wp2_with (with_reducible refine wSk 19 ?_)
    refine a0p st9 3 rfl rfl rfl Tryz.underlying62 rfl rfl (by kernel_rfl) ?_
    go_wp2_with (with_reducible refine wSk 20 ?_)
    refine a0p st9 1 rfl rfl rfl Tryz.underlying62 rfl rfl (by kernel_rfl) ?_
    go_wp2_with fail
    refine (r0R (f0P T T) s _).mono ?_
    rintro e' w10 ⟨rfl, hf10⟩
    have st10 := st9.keep hf10
    clear st9 hf10
    go_wp2_with (with_reducible refine wSn ?_)
    refine a0b st10 3 rfl rfl rfl rfl rfl (by simp [RT.len]) (by kernel_rfl) (RT.one _) ?_
    intro w11 st11
    clear st10
    go_wp2
    go_roundw
    case rel => exact ⟨k + 1, by omega, by go_num, by rw [HT'.out, HE.out]; exact st11⟩
    case measure => simp [intOf]; omega
  ·have hk3 : k = 256 := by omega
   subst hk3
   have hge : ¬ ((0 : Int) ≤ 255 - ((256 : Nat) : Int)) := by omega
   go_wp2_with (with_reducible refine wSk 22 ?_)
   refine a0p st 3 rfl rfl rfl Tryz.underlying62 rfl rfl (by kernel_rfl) ?_
   go_wp2_with (with_reducible refine wSn ?_)
   refine a0b st 2 rfl rfl rfl rfl rfl (by first | (simp [a0a]; done) | (simp [RT.len]; done) | (simp [a0a, RT.len]; done) | simp [a0a, RT.len]) (by kernel_rfl) (RT.one _) ?_
   intro w7 st7
   clear st
   have hr := st7.at 2 rfl
   have hfr := st7.fr
   clear st7
   go_wp2_with fail
   exact bodyPost_ret (a0u rfl rfl hr Tryz.underlying62 rfl (by kernel_rfl)) rfl ⟨rfl, hfr⟩
theorem z0J (x : K) (xx x3 cv : K) (exx : x * x = xx) (ex3 : xx * x = x3) (ecv : x3 + 7 = cv) (hr : b0T fP (kN cv) = true) (w : World) : Calls Tryz.prog 141 #[i4 (kN x)] w fun e w' => e = .returned (.tuple #[rpV x (kc (rtV fP (kN cv))) 1, .bool true]) ∧ Fr Nob w w' := by
 have HR := qH hr
 clear hr
 have Hxx := qH exx
 have Hx3 := qH ex3
 have Hcv := qH ecv
 clear exx ex3 ecv
 unfold rpV rpL
 have st0 := St.start Nob w
 go_enter Tryz.func141, Tryz.ntmps141
 go_wp2_with (with_reducible refine wSk 1 ?_)
 refine a0m st0 rfl rfl rfl (cw 4 (kN x)) rfl ?_
 intro g1 w1 st1
 clear st0
 go_wp2_with (with_reducible refine wSk 2 ?_)
 refine a0c st1 rfl rfl (z := zAc) (by kernel_rfl) (cw 12 0) (by rw [a0e]; rfl) ?_
 intro g2 w2 st2
 clear st1
 go_wp2_with fail
 refine wp_region_noPanic ?_
 refine a0h st2 17 [.o 15, .t 4, .t 5, .t 7, .c 0, .c 1, .c 2, .c 3, .c 6, .c 8, .c 9, .c 10, .c 11, .w 12, .w 13, .w 14, .j 15] (.r 16 (.m 17 .nil)) (by kernel_rfl) (by kernel_rfl) (fun _ _ _ _ _ h => h) ?_
 clear st2
 refine b0l rfl rfl rfl e0V (cw 4 0) rfl ?_
 try simp only [clL]
 refine a0f rfl rfl rfl (fun _ => rfl) (cw 4 (kN x)) (fun wx hS => St.rangeL hS 0 rfl 0 _ dZl) Tryz.underlying60 rfl (by kernel_rfl) ?_
 try simp only [clL]
 refine a0f rfl rfl rfl (fun _ => rfl) (cw 4 (kN x)) (fun wx hS => St.rangeL hS 0 rfl 0 _ dZl) Tryz.underlying60 rfl (by kernel_rfl) ?_
 try simp only [clL]
 refine a0f rfl rfl rfl (fun _ => rfl) (cw 4 (kN x)) (fun wx hS => St.rangeL hS 0 rfl 0 _ dZl) Tryz.underlying60 rfl (by kernel_rfl) ?_
 try simp only [clL]
 refine a0d rfl rfl rfl Tryz.call112 (fun w hS hR => a0L _) (fun _ => rfl) ?_
 try simp only [clL]
 refine a0d rfl rfl rfl Tryz.call112 (fun w hS hR => a0L _) (fun _ => rfl) ?_
 try simp only [clL]
 refine a0d rfl rfl rfl Tryz.call112 (fun w hS hR => a0L _) (fun _ => rfl) ?_
 try simp only [clL]
 refine a0d rfl rfl rfl Tryz.call112 (fun w hS hR => a0L _) (fun _ => rfl) ?_
 try simp only [clL]
 refine a0d rfl rfl rfl Tryz.call58 (fun w hS hR => e0e x x xx Hxx.out _) (fun _ => rfl) ?_
 try simp only [clL]
 refine a0d rfl rfl rfl Tryz.call58 (fun w hS hR => e0e xx x x3 Hx3.out _) (fun _ => rfl) ?_
 try simp only [clL]
 refine a0d rfl rfl rfl Tryz.call156 (fun w hS hR => w0U _) (fun _ => rfl) ?_
 try simp only [clL]
 refine a0d rfl rfl rfl Tryz.call57 (fun w hS hR => x0r x3 7 cv Hcv.out _) (fun _ => rfl) ?_
 try simp only [clL]
 refine a0d rfl rfl rfl Tryz.call186 (fun w hS hR => w0V (kN cv) (u0f _) HR.out _) (fun _ => rfl) ?_
 try simp only [clL]
 iterate 3 (refine a0n (v := ?_) rfl rfl (fun xq wx => ?_) ?_; rotate_left 1; · (go_simp; with_reducible rfl); try simp only [clL])
 refine b0m List.mem_cons_self fun g4 => ?_
 simp only [upd, reduceIte]
 refine a0y fun xq w3 st3 hR => ?_
 try dsimp only
 clear hR xq
 refine a0A rfl rfl ?_
 refine a0j st3 2 rfl rfl rfl rfl (by simp [a0a]) (by kernel_rfl) (a0g _ _) ?_
 intro w4 st4
 repeat (first | simp only [List.cons_append] at st4 | simp only [List.nil_append] at st4 | simp only [List.set_cons_succ] at st4 | simp only [List.set_cons_zero] at st4)
 clear st3
 refine ⟨by first | exact st4 | exact St.less st4 (by simp), ?_⟩
 try simp only [Act.put]
 refine a0r rfl rfl ?_
 go_simp
 try simp only [clL]
 refine a0k ?_
 refine NoPanic.normal ?_
 go_wp2_with fail
 refine wp_region_noPanic ?_
 refine a0h st4 5 [.t 0, .t 1, .w 4, .c 2, .w 3] (.m 5 (.w 6 .nil)) (by kernel_rfl) (by kernel_rfl) (fun _ _ _ _ _ h => h) ?_
 clear st4
 refine a0f rfl rfl rfl (fun _ => rfl) (cw 4 (kN x)) (fun wx hS => St.rangeL hS 0 rfl 0 _ dZl) Tryz.underlying60 rfl (by kernel_rfl) ?_
 try simp only [clL]
 refine a0f rfl rfl rfl (fun _ => rfl) (cw 4 (kN (kc (rtV fP (kN cv))))) (fun wx hS => St.rangeL hS 2 rfl 0 _ dZl) Tryz.underlying60 rfl (by kernel_rfl) ?_
 try simp only [clL]
 refine a0n (v := ?_) rfl rfl (fun xq wx => ?_) ?_; rotate_left 1; · (go_simp; with_reducible rfl)
 try simp only [clL]
 refine a0d rfl rfl rfl Tryz.call156 (fun w hS hR => r0K _) (fun _ => rfl) ?_
 try simp only [clL]
 refine a0n rfl rfl (fun _ => b0u rfl _ (k0g _ _ _)) ?_
 try simp only [clL]
 refine a0y fun xq w5 st5 hR => ?_
 try dsimp only
 clear hR xq
 refine a0r rfl rfl ?_
 refine a0j st5 1 rfl rfl rfl rfl (by simp [a0a]) (by kernel_rfl) (b0g _ _ _) ?_
 intro w6 st6
 try simp only [List.set_cons_zero, List.set_cons_succ] at st6
 clear st5
 try simp only [Act.put]
 refine a0l (v := ?_) rfl rfl (fun wx => ?_) ?_; rotate_left 1; · (go_simp; with_reducible rfl)
 try simp only [clL]
 refine a0k ?_
 refine NoPanic.normal ?_
 have hr := st6.at 1 rfl
 have hfr := st6.fr
 clear st6
 go_wp2_with fail
 exact bodyPost_ret (a0P rfl rfl hr Tryz.underlying62 rfl (by kernel_rfl) rfl) rfl ⟨rfl, hfr⟩
end
end Go.Proofs.YtemcankmggmgoaaGreat
namespace Go.Mv
open Go.RowKit
section
variable {P : Program} {Q : Exit → Act → World → Prop} {Sx : World → Prop} {S : Nat → Prop} {w0 : World} {tl : Pl} {l : List Oper} {i : Nat} {s : List LS} {Γ : List Flt} {BL : List Blk} {R : World → Prop} {A : (Nat → Value) → Act} {o : Oper}
theorem r0V {parts : Array (Nat × Operand)} {ρ : Operand → Value} {M : List (Nat × Value)} (h : (parts.toList.map fun p => (p.1, ρ p.2)) = M) : (parts.map fun (i, x) => (i, ρ x)) = M.toArray := by
 apply Array.toList_inj.1
 rw [Array.toList_map, ← h]
theorem x0b {t e : TypeId} {k : Nat} {M : List (Nat × Value)} (hu : P.underlying t = some (.slice e)) {z : Value} {sz by_ : Nat} (hi0 : (P.info? e).map (fun i => (i.zero, i.size, i.bytes)) = some (some z, sz, by_)) (vs : List Value) (hp : M = (vs.zipIdx 0).map fun x => (x.2, x.1))
  (hv : ∀ v ∈ vs, v.cells.size = sz) (hk : vs.length = k) (L : List Value) (hL : (vs.flatMap fun v => v.cells.toList) = L) (hk0 : 0 < k * sz := by decide) (hk24 : k * sz ≤ 16777216 := by decide) :
  Mk P (do pure (.value (← Instr.buildSlice t k M.toArray))) (fun g => .slice (some ⟨g, 0, none⟩) k k) L e := by
 intro w
 obtain ⟨i, hi, hz0⟩ : ∃ i, P.info? e = some i ∧ (i.zero, i.size, i.bytes) = (some z, sz, by_) := by simpa using hi0
 simp only [Prod.mk.injEq] at hz0
 obtain ⟨hz1, hsz, hby⟩ := hz0
 have hs0 : 0 < sz := Nat.pos_of_mul_pos_left hk0
 have hf : Instr.fill (fun j => some (j * i.size, i.size)) ((Array.range (k * i.size)).map (z.cells[· % z.cells.size]!)) M = some L.toArray := by
  rw [hp, hsz, ← hL]
  exact Great.fill_whole hs0 vs _ hv (by simp [hk])
 refine ⟨w.heap.size, w.alloc (.cells L.toArray e), ?_, (Fr.refl _ w).alloc _, Nat.le_refl _, Has.new w L.toArray e⟩
 simp only [Sem.run_bind, run_buildSlice w t e k M.toArray L.toArray i z hu hi hz1 (by rw [hsz]; omega) (by rw [hsz]; omega) (by simpa using hf), Result.andThen_ok, Sem.run_pure]
theorem i0U {a : Act} {w : World} {K : Act → World → Prop} {v : Value} (hv : (execOp a.eval o).run P w = .ok (.value v) w) (h : K (a.put o.dst v) w) : o.wp P a w K Q := by
 unfold Oper.wp
 rw [hv]
 exact h
theorem r0W {a : Act} {w : World} {K : Act → World → Prop} {t e : TypeId} {k : Nat} {parts : Array (Nat × Operand)} (hst : St S w0 w BL) (hop : o.op = .buildSlice t k parts) (hu : P.underlying t = some (.slice e)) {z : Value} {sz by_ : Nat} (hi0 : (P.info? e).map (fun i => (i.zero, i.size, i.bytes)) = some (some z, sz, by_))
  (vs : List Value) (hp : (parts.toList.map fun p => (p.1, a.eval p.2)) = (vs.zipIdx 0).map fun x => (x.2, x.1)) (hv : ∀ v ∈ vs, v.cells.size = sz) (hk : vs.length = k) (L : List Value) (hL : (vs.flatMap fun v => v.cells.toList) = L)
  (h : ∀ g w', St S w0 w' (BL ++ [(g, L, e)]) → K (a.put o.dst (.slice (some ⟨g, 0, none⟩) k k)) w') (hk0 : 0 < k * sz := by decide) (hk24 : k * sz ≤ 16777216 := by decide) : o.wp P a w K Q :=
 y0c (x0b hu hi0 vs rfl hv hk L hL hk0 hk24) (by unfold execOp; simp only [hop]; rw [r0V hp]) hst fun g w' h1 _ => h g w' h1
theorem e0W {id : Nat} {a : Act} {w : World} (hst : St S w0 w BL) (R : World → Prop) (hR : R w.drew) (hRm : ∀ w w', R w → Fr Nob w w' → R w') (m : Nat) (s : List LS) (tl : Pl) (hm : P.follows .mixedOrders = true) (hB : n0L l.toArray m s tl = true)
  (hQ : ∀ c (d : Option Tmp) v a w, Q (.panic c) (Act.put a d v) w → Q (.panic c) a w)
  (h : Lad P l.toArray Q (fun w => St S w0 w BL) S w0 tl s [] BL R (fun _ => a)) : (Code.region id l.toArray true).wp P Q a w := by
 simp only [n0L, Bool.and_eq_true, decide_eq_true_eq] at hB
 obtain ⟨⟨⟨hsel, hms⟩, hlen⟩, hok⟩ := hB
 have hmk : e0g (Array.replicate l.toArray.size false) (List.map Prod.fst ([] : List (Nat × Value × Blk))) = Array.replicate l.toArray.size false := by
  refine f0b (b0r _ _) fun k hk => ?_
  rw [c0x _ _ _ (by simpa [b0r] using hk)]; simp
 have inv0 : Cl .any l.toArray (Array.replicate l.toArray.size false) :=
  ⟨by simp, fun j oj _ hl => (by rw [getD_replicate_false] at hl; cases hl)⟩
 have H := i0K (md := .any) (Sx := fun w => St S w0 w BL) hsel hms hQ (l.toArray.size + s.length) l.toArray.size s [] (Array.replicate l.toArray.size false) [] (fun _ => undef) w.drew BL R (fun _ => a)
  (Nat.le_refl _) (by simp [hlen]) (by simp) (by simp) (by simp) (by rw [hmk]; exact inv0) hok (by simp) ⟨by simp, by simp, by simp, fun _ _ _ _ => rfl⟩ (by simp) (by simpa using hst.drew) hR hRm (fun _ h => h) h
 rw [hmk] at H
 exact wp_region_any hm (d0N _ _ _ _ H)
end
end Go.Mv
