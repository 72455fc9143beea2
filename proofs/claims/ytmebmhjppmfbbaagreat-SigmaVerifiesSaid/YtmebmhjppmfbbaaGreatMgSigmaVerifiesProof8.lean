/- ; ; ; ; ; ; ; . -/
import Derived.Test.YtmebmhjppmfbbaaGreatMgSigmaVerifiesProof7
import Derived.Test.YtmebmhjppmfbbaaGreatMgSigmaVerifiesProof6
import Derived.Test.YtmebmhjppmfbbaaGreatMgSigmaVerifiesProof2
import Derived.Test.YtmebmhjppmfbbaaGreatMgSigmaVerifiesProof1
import Derived.Lib.SlBytesConst
import Derived.ProofKit
import Derived.OpenShut
import Derived.Carry

set_option maxHeartbeats 16000000
set_option maxRecDepth 1000000
namespace Go.Mv
open Go.RowKit
section
variable {P : Program} {w w0 : World} {o : Oper} {a : Act} {S : Nat → Prop} {bl : List (Nat × List Value × TypeId)} {K : Act → World → Prop} {Q : Exit → Act → World → Prop}
theorem r0l {s x : Operand} {t : TypeId} (ho : o.op = .call { callee := .builtin .append, args := #[s, x], argTypes := #[t, t] })
  {e : TypeId} {z : Value} {sz by_ : Nat} (ht : P.underlying t = some (.slice e)) (hi0 : (P.info? e).map (fun i => (i.zero, i.size, i.bytes)) = some (some z, sz, by_))
  (hzs : z.cells.size = sz) (hsz : 0 < sz)
  {v : Value} {n base : Nat} {L : List Value} (hown : Own w base e sz v n L) (hs : a.eval s = v)
  {xa : Option Addr} {m c : Nat} {news : List Value} (hx : a.eval x = .slice xa m c) (hnews : Rd w xa (m * sz) news) (h1 : ∀ u ∈ news, u.oneCell' = true)
  (h63 : n + m ≤ maxLen) (hbytes : (n + m) * by_ ≤ 140737488355328) (hbase : base ≤ w.heap.size)
  (h : ∀ v' w', Own w' base e sz v' (n + m) (L ++ news) → Fr (k0c v) w w' → K (a.put o.dst v') w') : o.wp P a w K Q := by
 obtain ⟨v', w', hr, h2, h3, -⟩ := h0O (P := P) base t o.type e z sz by_ ht hi0 hzs hsz v n L hown xa m c news hnews h1 h63 hbytes hbase
 unfold Oper.wp execOp
 simp only [ho, resolve, invoke, builtin, Sem.run_bind, Sem.run_pure, Result.andThen_ok, List.map_toArray, List.map_cons, List.map_nil, hs, hx, hr]
 exact h v' w' h2 h3
theorem St.ofFr (h : Fr S w0 w) : St S w0 w [] := ⟨h, by simp, by simp, List.Pairwise.nil⟩
end
end Go.Mv
namespace Go.Proofs.YtmebmhjppmfbbaaGreat
open Go.RowKit Go.Mv Mvp Mvq
theorem D0b (x : Nat) : (b0C (a0P x gP)).length = 33 := c0j _
theorem OwnB1.ptb {w w' : World} {v : Value} {l : List UInt8} (h : OwnB1 w w' v l) (hn : l.length ≤ 1000000) : PartIs w' v l := b0Y h hn
attribute [local irreducible] a0E lw mix cw b0o b0x b0l a0L a0q beN b0F b0c b0z a0J a0N elN mdL b0e rtV b0Q b0C b0D c0r b0B d0q o0t j0W a0P b0t b0K toB a0w a0I b0u c0v a0K c0B b0n a0G c0G e0U d0N j0T sgF sgZ b0I chN c0c tS
theorem e0K {w : World} {a : Option Addr} {n c : Nat} {l : List UInt8} (h : PartIs w (.slice a n c) l) : RdB w a n l := by
 obtain ⟨a', n', c', he, -, -, hr, -⟩ := h
 cases he
 exact hr
theorem A0e (ak : Option Addr) (nk ck : Nat) (key : List UInt8) (at_ : Option Addr) (nt ct : Nat) (text : List UInt8) (w : World) (hkey : PartIs w (.slice ak nk ck) key) (htext : PartIs w (.slice at_ nt ct) text) (hq : j0T key = false) : Calls Tryz.prog 12 #[.slice ak nk ck, .slice at_ nt ct] w fun e w' => e = .returned (.tuple #[.slice none 0 0, .int .i64 3]) ∧ Fr Nob w w' := by
 have HPK := Lib.hid hkey
 have HPT := Lib.hid htext
 have HKY := Lib.hid (e0K hkey)
 have HQ := Lib.hid hq
 clear hkey htext hq
 clear HPK HPT
 have st0 := St.start Nob w
 go_enter Tryz.func12, Tryz.ntmps12
 go_wp2_with fail
 refine (u0j ak nk ck key _ (HKY.out.still st0.fr) HQ.out).mono ?_
 rintro e' w1 ⟨⟨N, rfl⟩, hf1⟩
 have st1 := st0.keep hf1
 clear st0 hf1
 go_wp2_with (with_reducible refine wSk 6 ?_)
 refine a0a st1 rfl rfl (z := zAd) ap11 (cw 4 0) ap9 ?_
 intro g6 w2 st2
 clear st1
 go_wp2_with (with_reducible refine wSn ?_)
 refine a0b st2 0 rfl rfl rfl rfl rfl ap5 ap4 (a0g _ _) ?_
 intro w3 st3
 clear st2
 have hfr := st3.fr
 clear st3
 go_wp2_with fail
 go_ret2
 exact ⟨rfl, hfr⟩
theorem A0f (ak : Option Addr) (nk ck : Nat) (key : List UInt8) (at_ : Option Addr) (nt ct : Nat) (text : List UInt8) (w : World) (hkey : PartIs w (.slice ak nk ck) key) (htext : PartIs w (.slice at_ nt ct) text) (hq : j0T key = true) : Calls Tryz.prog 12 #[.slice ak nk ck, .slice at_ nt ct] w fun e w' => ∃ v, e = .returned (.tuple #[v, .int .i64 0]) ∧ OwnB1 w w' v (sgF key text ++ b0c (sgZ key text)) ∧ Fr Nob w w' := by
 have HPK := Lib.hid hkey
 have HPT := Lib.hid htext
 have HKY := Lib.hid (e0K hkey)
 have HQ := Lib.hid hq
 clear hkey htext hq
 have st0 := St.start Nob w
 go_enter Tryz.func12, Tryz.ntmps12
 go_wp2_with fail
 refine (u0i ak nk ck key _ (HKY.out.still st0.fr) HQ.out).mono ?_
 rintro e' w1 ⟨rfl, hf1⟩
 have st1 := st0.keep hf1
 clear st0 hf1
 go_wp2_with (with_reducible refine wSk 6 ?_)
 refine a0a st1 rfl rfl (z := zAd) ap11 (cw 4 0) ap9 ?_
 intro g6 w2 st2
 clear st1
 go_wp2_with (with_reducible refine wSn ?_)
 refine a0b st2 0 rfl rfl rfl rfl rfl ap5 ap4 (a0g _ _) ?_
 intro w3 st3
 clear st2
 go_wp2_with (with_reducible refine wSk 20 ?_)
 refine c0n rfl rfl Tryz.underlying39 d0A [.slice ak nk ck, .slice at_ nt ct] rfl (by simp; exact ⟨rfl, rfl⟩) rfl rfl ?_
 intro w4 hh4 hf4 hz4
 have st4 := st3.keep hf4
 have HSL := Lib.hid hh4
 clear hh4 hf4 hz4 st3
 generalize w3.heap.size = gl20 at *
 go_wp2_with fail
 refine (w0w ⟨#[110, 111, 110, 99, 101, 32, 115, 105, 103, 110]⟩ c0a rfl _ 2 [.slice ak nk ck, .slice at_ nt ct] [key, text] _ ap12 HSL.out ⟨HPK.out.still st4.fr, HPT.out.still st4.fr, trivial⟩ ap14).mono ?_
 rintro e' w5 ⟨rfl, hf5⟩
 have st5 := st4.keep hf5
 clear st4 hf5
 clear HSL
 go_wp2_with (with_reducible refine wSk 8 ?_)
 refine a0a st5 rfl rfl (z := zAd) ap11 (cw 4 0) ap9 ?_
 intro g8 w6 st6
 clear st5
 go_wp2_with (with_reducible refine wSn ?_)
 refine a0b st6 1 rfl rfl rfl rfl rfl ap5 ap4 (a0g _ _) ?_
 intro w7 st7
 clear st6
 go_wp2_with (with_reducible refine wSk 22 ?_)
 refine a0m st7 1 rfl rfl rfl Tryz.underlying61 rfl rfl ap4 ?_
 go_wp2_with fail
 have HSZ0 := Lib.hid st7.fr.size
 refine (x0T (chN c0a [key, text]) _).mono ?_
 rintro e' w8 ⟨vf, rfl, ho, hf8⟩
 have st8 := st7.keep hf8
 have HFI0 := Lib.hid ho
 clear ho
 clear st7 hf8
 have HFI := Lib.hid (show OwnB1 w w8 vf (sgF key text) from by have h := HFI0.out; unfold sgF; exact Own.mono h (HSZ0.out))
 clear HFI0 HSZ0
 have HLF := Lib.hid (show (sgF key text).length = 33 by unfold sgF; exact c0j _)
 have HPK2 := Lib.hid (HPT.out.still st8.fr)
 go_wp2_with fail
 refine wp_region_noPanic ?_
 refine j0j st8 (fun wz => Fr Nob w8 wz) (Fr.refl Nob _).drew (fun _ _ h k => h.then k) 10 [.w 0, .t 1, .t 2, .w 4, .w 5, .t 7, .c 3, .c 6, .c 8, .c 9] (.m 10 (.w 11 (.w 12 .nil))) ap11 ap11 (fun _ _ _ _ _ h => h) ?_
 clear st8
 refine a0p rfl rfl apX ?_
 try simp only [clL]
 refine a0d rfl rfl rfl (fun _ => rfl) (cw 4 (elN mQ (chN c0a [key, text]))) (fun wx hS => St.rangeL hS 1 rfl 0 _ dZl) Tryz.underlying61 rfl ap4 ?_
 try simp only [clL]
 refine a0d rfl rfl rfl (fun _ => rfl) (cw 4 (elN mQ (beN key))) (fun wx hS => St.rangeL hS 0 rfl 0 _ dZl) Tryz.underlying61 rfl ap4 ?_
 try simp only [clL]
 refine a0p rfl rfl apX ?_
 try simp only [clL]
 refine a0p rfl rfl apX ?_
 try simp only [clL]
 refine a0d rfl rfl rfl (fun _ => rfl) (cw 4 (elN mQ (beN key))) (fun wx hS => St.rangeL hS 0 rfl 0 _ dZl) Tryz.underlying61 rfl ap4 ?_
 try simp only [clL]
 refine d0g (X := Value) (fun v => v) (fun v wx => PartIs wx v (b0C (a0P (beN key) gP))) (fun _ _ _ h k => h.still k) rfl rfl rfl Tryz.call43 (fun w hS hR => (x0T (beN key) _).mono fun e w' ⟨v, h1, h2, h3⟩ => ⟨v, h1, OwnB1.ptb h2 (by rw [D0b]; decide), h3⟩) (fun _ => rfl) fun vb => ?_
 try simp only [clL]
 refine a0c rfl rfl rfl Tryz.call45 (fun w hS hR => t0F vb (b0C (a0P (beN key) gP)) vf (sgF key text) (.slice at_ nt ct) text _ hR.2 ((OwnB1.ptb HFI.out (by rw [HLF.out]; decide)).still hR.1) (HPK2.out.still hR.1)) (fun _ => rfl) ?_
 try simp only [clL]
 refine a0c rfl rfl rfl Tryz.call44 (fun w hS hR => C0Z (chN c0a [key, text]) (b0I (b0C (a0P (beN key) gP)) (sgF key text) text) (beN key) _) (fun _ => rfl) ?_
 try simp only [clL]
 refine d0g (X := Option Addr × Nat) (fun y => .slice y.1 32 y.2) (fun y wx => BPart wx (.slice y.1 32 y.2) (b0c (((chN c0a [key, text]) + (b0I (b0C (a0P (beN key) gP)) (sgF key text) text) * beN key) % mQ.M))) (fun _ _ _ h k => h.still k) rfl rfl rfl Tryz.call46 (fun w hS hR => p0O ((chN c0a [key, text]) + (b0I (b0C (a0P (beN key) gP)) (sgF key text) text) * beN key) _) (fun _ => rfl) fun yb => ?_
 try simp only [clL]
 refine a0v fun xq w9 st9 hR => ?_
 try dsimp only
 have HFRX := Lib.hid hR.1.1
 obtain ⟨ay, ny, cy, hey, -, hry⟩ := hR.2
 cases hey
 have HRB := Lib.hid (show RdB _ yb.1 32 _ from hry)
 clear hry
 clear hR xq
 refine a0r rfl rfl ?_
 refine r0l rfl Tryz.underlying22 b0y rfl ap12 (Own.still HFI.out HFRX.out) rfl rfl HRB.out (j0n _) (by rw [HLF.out]; decide) (by rw [HLF.out]; decide) st9.fr.size ?_
 intro va wa hown hfa
 have st10 := St.ofFr (((Own.still HFI.out HFRX.out)).fr st9.fr (Nat.le_refl _) hfa)
 have HOWN := Lib.hid hown
 clear hown hfa
 clear st9
 try simp only [clL]
 refine a0k rfl rfl apW ?_
 try simp only [clL]
 refine a0k rfl rfl apW ?_
 try simp only [clL]
 refine a0j ?_
 refine NoPanic.normal ?_
 clear HFI HFRX HRB
 have hfr := st10.fr
 clear st10
 go_wp2_with fail
 go_ret2
 refine ⟨va, rfl, ?_, hfr⟩
 have h := HOWN.out
 rw [← d0D] at h
 unfold sgZ
 exact OwnB1.of h (by rw [List.length_append, b0P])
end Go.Proofs.YtmebmhjppmfbbaaGreat


set_option maxHeartbeats 16000000
set_option maxRecDepth 1000000
namespace Go.Proofs.YtmebmhjppmfbbaaGreat
open Go.RowKit Go.Mv Mvp Mvq
def B0Z : List UInt8 := [112, 111, 105, 110, 116, 32]
def hB (label b : List UInt8) (i : Nat) : List UInt8 := c0G (B0Z ++ label) [b, [UInt8.ofNat i]]
def hN (label b : List UInt8) (i : Nat) : Nat := beN (hB label b i)
theorem D0D {n : Nat} (h : b0Q mP.M (e0I n) = true) : onC (.A (kc n) (kc (atY mP.M n))) := by
 rw [D0l n h]
 rw [d0x] at h
 exact B0y h
open Classical in
noncomputable def j0k (label b : List UInt8) (i : Nat) : Option PT := if h : hN label b i < mP.M ∧ b0Q mP.M (e0I (hN label b i)) = true then some (t0d (hN label b i) (atY mP.M (hN label b i)) (D0D h.2)) else none
noncomputable def j0l (label b : List UInt8) (k : Nat) : List PT := (List.range k).filterMap (j0k label b)
noncomputable def o0w (label b : List UInt8) : PT := ((j0l label b 256).head?).getD m0K
theorem j0Y {w : World} {g : Nat} {L : List Value} {T : TypeId} (hg : Has w g L T) {o : Oper} {a : Act} {ty : TypeId} {x : Operand} (ho : o.op = .load ty x) {p : Nat} (hx : a.eval x = .pointer (some ⟨g, p, none⟩)) (cs : List Value) (hc : (L.drop p).take cs.length = cs)
  {d : TypeDesc} (hu : Tryz.prog.underlying ty = some d) (hd : d.isRow = true) (hi : (Tryz.prog.info? ty).map (·.size) = some cs.length) : (execOp a.eval o).run Tryz.prog w = .ok (.value (.agg cs.toArray)) w := by
 unfold execOp
 simp only [ho, hx, Instr.loadAt, Instr.sureAddr, Sem.run_bind, Sem.run_pure, Result.andThen_ok, run_loadVar_mid w g p ty cs d (hg.range p cs hc) hu hd hi]
end Go.Proofs.YtmebmhjppmfbbaaGreat


set_option maxHeartbeats 16000000
set_option maxRecDepth 1000000
namespace Go.Mv
open Go.RowKit
section
variable {P : Program} {ops : Array Oper} {md : Region.Mode} {Q : Exit → Act → World → Prop} {m : Nat} {S : Nat → Prop} {w0 : World} {tl : Pl}
def d0a (l : List Nat) (x : Nat → Value) : Nat → Value := fun k => if l.contains k then x k else undef
theorem u0k {l : List Nat} {x : Nat → Value} {k : Nat} {v : Value} (h : l.contains k = false) : d0a l (upd x k v) = d0a l x := by
 funext j
 unfold d0a
 by_cases e : l.contains j = true
 ·rw [if_pos e, if_pos e, d0J]
  cases h2 : (j == k) with
  | false => rfl
  | true => rw [eq_of_beq h2, h] at e; cases e
 ·rw [if_neg e, if_neg e]
def A0g (ops : Array Oper) (i : Nat) (a : Act) (v : Value) : Act := match ops[i]? with | some o => a.put o.dst v | none => a
theorem f0l {i : Nat} {o : Oper} (ho : ops[i]? = some o) (a : Act) (v : Value) : A0g ops i a v = a.put o.dst v := by unfold A0g; rw [ho]
def h0s (ops : Array Oper) : List Nat → Act → (Nat → Value) → Act
 | [], a, _ => a
 | i :: s, a, x => h0s ops s (A0g ops i a (x i)) x
theorem m0Y {d : Option Tmp} {v : Value} (x : Nat → Value) : ∀ (s : List Nat) (a : Act), (∀ k ∈ s, ∀ ok, ops[k]? = some ok → ok.dst ≠ d ∨ ok.dst = none) → (h0s ops s a x).put d v = h0s ops s (a.put d v) x
 | [], _, _ => rfl
 | i :: s, a, h => by
  unfold h0s
  rw [m0Y x s _ fun k hk => h k (List.mem_cons_of_mem _ hk)]
  congr 1
  cases ho : ops[i]? with
  | none => unfold A0g; simp only [ho]
  | some o => rw [f0l ho, f0l ho, k0R _ _ _ _ _ (h i List.mem_cons_self o ho)]
theorem l0n {i : Nat} {v : Value} (x : Nat → Value) : ∀ (s : List Nat) (a : Act), i ∉ s → h0s ops s a (upd x i v) = h0s ops s a x
 | [], _, _ => rfl
 | j :: s, a, h => by
  simp only [List.mem_cons, not_or] at h
  unfold h0s
  rw [l0n x s _ h.2, d0J _ _ _ _ (by simpa using fun e => h.1 e.symm)]
def Apd (ops : Array Oper) (s : List Nat) : Prop := ∀ j ∈ s, ∀ k ∈ s, j ≠ k → ∀ oj ok, ops[j]? = some oj → ops[k]? = some ok → ok.dst ≠ oj.dst ∨ ok.dst = none
theorem Apd.tail {i : Nat} {s : List Nat} (h : Apd ops (i :: s)) : Apd ops s := fun j hj k hk => h j (List.mem_cons_of_mem _ hj) k (List.mem_cons_of_mem _ hk)
theorem p0R {i : Nat} {v : Value} {o : Oper} (ho : ops[i]? = some o) (x : Nat → Value) : ∀ (s : List Nat) (a : Act), i ∈ s → s.Nodup → Apd ops s → (h0s ops s a x).put o.dst v = h0s ops s a (upd x i v)
 | [], _, h, _, _ => by cases h
 | j :: s, a, h, hn, hd => by
  rw [List.nodup_cons] at hn
  by_cases e : i = j
  ·subst e
   unfold h0s
   rw [m0Y x s _ fun k hk ok hok => hd i List.mem_cons_self k (List.mem_cons_of_mem _ hk) (fun e => hn.1 (e ▸ hk)) o ok ho hok]
   rw [f0l ho, f0l ho, m0r, l0n x s _ hn.1, g0v]
  ·have hi : i ∈ s := by
    rcases List.mem_cons.1 h with h | h
    ·exact absurd h e
    ·exact h
   unfold h0s
   rw [p0R ho x s _ hi hn.2 hd.tail, d0J _ _ _ _ (by simpa using fun h => e h.symm)]
theorem m0Z : ∀ (s : List Nat) (a : Act), s.Nodup → ∃ x, h0s ops s a x = a
 | [], _, _ => ⟨fun _ => undef, rfl⟩
 | i :: s, a, hn => by
  rw [List.nodup_cons] at hn
  obtain ⟨x, hx⟩ := m0Z s a hn.2
  cases ho : ops[i]? with
  | none => exact ⟨x, by unfold h0s A0g; simp only [ho]; exact hx⟩
  | some o =>
   obtain ⟨u, hu⟩ := p0k a o.dst
   refine ⟨upd x i u, ?_⟩
   unfold h0s
   rw [f0l ho, g0v, hu, l0n x s _ hn.1, hx]
def D0n (ops : Array Oper) (s : List Nat) : Bool := s.all fun j => s.all fun k => j == k || match ops[j]?, ops[k]? with | some a, some b => decide (b.dst ≠ a.dst) || decide (b.dst = none) | _, _ => false
theorem u0l {s : List Nat} (h : D0n ops s = true) : Apd ops s := by
 intro j hj k hk hne oj ok hoj hok
 have := List.all_eq_true.1 (List.all_eq_true.1 h j hj) k hk
 simp only [hoj, hok, Bool.or_eq_true, beq_iff_eq, decide_eq_true_eq] at this
 rcases this with h | h
 ·exact absurd h hne
 ·exact h
def p0S : List Nat → Bool
 | [] => true
 | i :: s => !s.contains i && p0S s
theorem f0O : ∀ {s : List Nat}, p0S s = true → s.Nodup
 | [], _ => List.nodup_nil
 | i :: s, h => by
  simp only [p0S, Bool.and_eq_true, Bool.not_eq_true'] at h
  exact List.nodup_cons.2 ⟨by simpa using h.1, f0O h.2⟩
def u0m (md : Region.Mode) (ops : Array Oper) (m : Nat) (F Lz : List Nat) (pre : Nat → List Nat) (tl : Pl) : Bool :=
 (Lz.all fun i => match ops[i]? with | some o => decide (i ≠ m) && (List.range ops.size).all fun j => j == i || v0w md ops i ops.size j || (match ops[j]? with | some oj => (oj.after.any fun e => Region.binds md e && e.on == i) || o.apart ops oj | none => true) | none => false) && p0S F && D0n ops F &&
 (F.all fun i => match ops[i]? with | some o => o.after.all fun e => !Region.binds md e || (F.contains e.on && decide (e.on < i)) | none => false) &&
 (F.all fun i => (pre i).all fun j => F.contains j && v0w md ops i ops.size j) &&
 ((List.range ops.size).all fun t => F.contains t || F.all fun i => Lz.contains i || v0w md ops t ops.size i) &&
 b0W md ops m tl (e0E (Array.replicate ops.size false) F)
def Obl (P : Program) (ops : Array Oper) (Q : Exit → Act → World → Prop) (G : World → Prop) (A : (Nat → Value) → Act) (pre : Nat → List Nat) (Φ : Nat → (Nat → Value) → World → Prop) (i : Nat) (o : Oper) : Bool → Prop
 | false => ∀ x w, G w → (∀ j ∈ pre i, Φ j (d0a (j :: pre j) x) w) → (Region.wanted o (yielded ops (A x).tmps) = true ∧ o.wp P (A x) w (fun a' w' => ∃ v, a' = (A x).put o.dst v ∧ Fr Nob w w' ∧ Φ i (d0a (i :: pre i) (upd x i v)) w') Q) ∨ (Region.wanted o (yielded ops (A x).tmps) = false ∧ Φ i (d0a (i :: pre i) (upd x i undef)) w)
 | true => ∀ x w, G w → (∀ j ∈ pre i, Φ j (d0a (j :: pre j) x) w) → Region.wanted o (yielded ops (A x).tmps) = true ∧ ∃ v, (∀ wx, (execOp (A x).eval o).run P wx = .ok (.value v) wx) ∧ Φ i (d0a (i :: pre i) (upd x i v)) w
def Obls (P : Program) (ops : Array Oper) (Q : Exit → Act → World → Prop) (G : World → Prop) (A : (Nat → Value) → Act) (pre : Nat → List Nat) (Φ : Nat → (Nat → Value) → World → Prop) (Lz : List Nat) : List Nat → Prop
 | [] => True
 | i :: s => ((∀ o, ops[i]? = some o → Obl P ops Q G A pre Φ i o (Lz.contains i)) ∧
   ∀ y w w', Φ i (d0a (i :: pre i) y) w → Fr Nob w w' → Φ i (d0a (i :: pre i) y) w') ∧ Obls P ops Q G A pre Φ Lz s
theorem Obls.at {G : World → Prop} {A : (Nat → Value) → Act} {pre : Nat → List Nat} {Φ : Nat → (Nat → Value) → World → Prop} {Lz : List Nat} : ∀ {s : List Nat}, Obls P ops Q G A pre Φ Lz s → ∀ i ∈ s, (∀ o, ops[i]? = some o → Obl P ops Q G A pre Φ i o (Lz.contains i)) ∧
      ∀ y w w', Φ i (d0a (i :: pre i) y) w → Fr Nob w w' → Φ i (d0a (i :: pre i) y) w'
  | [], _, _, h => by cases h
  | _ :: _, h, i, hi => by
    rcases List.mem_cons.1 hi with rfl | hi
    · exact h.1
    · exact Obls.at h.2 i hi
theorem j0Z {listed : Array Bool} (inv : Cl md ops listed) {k : Nat} : ∀ (f i : Nat), v0w md ops k f i = true → listed.getD k false = true → listed.getD i true = false → False
 | 0, i, h, _, _ => by cases h
 | f + 1, i, h, hk, hun => by
  obtain ⟨j, hj, hj2⟩ := List.any_eq_true.1 h
  simp only [Bool.and_eq_true, Bool.or_eq_true, decide_eq_true_eq] at hj2
  obtain ⟨oj, hoj, e, he, hb, hon⟩ := Region.waitsFor_spec hj2.1
  have hjl : listed.getD j false = true := by
   rcases hj2.2 with rfl | hja
   ·exact hk
   ·cases hl : listed.getD j false with
    | true => rfl
    | false =>
     have hjs : j < listed.size := by rw [inv.size]; exact (Array.getElem?_eq_some_iff.1 hoj).1
     exact (j0Z inv f j hja hk (getD_in hjs hl)).elim
  have h2 := inv.closed j oj hoj hjl e he hb
  rw [hon, getD_both hun] at h2
  cases h2
def unl (F : List Nat) (listed : Array Bool) : List Nat := F.filter fun k => !listed.getD k false
theorem A0h {F : List Nat} {listed : Array Bool} {i : Nat} (hi : i < listed.size) : unl F (listed.setIfInBounds i true) = (unl F listed).filter (· != i) := by
 unfold unl
 rw [List.filter_filter]
 refine List.filter_congr fun k _ => ?_
 by_cases e : i = k
 ·subst e; simp [hi]
 ·rw [getD_set_ne false e]
  have h2 : (k != i) = true := by simpa using fun h => e h.symm
  rw [h2, Bool.true_and]
theorem u0n {i : Nat} {o : Oper} {a : Act} {w : World} {K : Act → World → Prop} (ho : ops[i]? = some o) (hg : Region.wanted o (yielded ops a.tmps) = true) (h : o.wp P a w K Q) : wpOp P ops Q i K a w := by
 unfold wpOp
 simp only [ho]
 rw [if_pos hg]
 exact .inl h
theorem r0m {G : World → Prop} {F Lz : List Nat} {a : Act} {pre : Nat → List Nat} {Φ : Nat → (Nat → Value) → World → Prop} (hsel : Region.noSelect ops = true) (hm : m < ops.size) (hQ : ∀ c (d : Option Tmp) v a w, Q (.panic c) (Act.put a d v) w → Q (.panic c) a w)
  (hok : u0m md ops m F Lz pre tl = true) (hG : ∀ w w', G w → Fr Nob w w' → G w') (hob : Obls P ops Q G (h0s ops F a) pre Φ Lz F)
  (hend : ∀ x w, G w → (∀ i ∈ F, Φ i (d0a (i :: pre i) x) w) → b0v P ops Q (fun _ => True) tl (h0s ops F a x) w) :
  ∀ (N : Nat) (listed : Array Bool) (x : Nat → Value) (w : World), (unl F listed).length = N → listed.size = ops.size → Cl md ops listed → (∀ k, listed.getD k false = true → k ∈ F) → G w → (∀ i ∈ F, listed.getD i false = true → Φ i (d0a (i :: pre i) x) w) →
   wpP P md ops Q (fun _ => True) m (N + tl.len) listed (h0s ops F a x) w := by
 simp only [u0m, Bool.and_eq_true] at hok
 obtain ⟨⟨⟨⟨⟨⟨hlz, hnd⟩, hap⟩, haf⟩, hpre⟩, htl⟩, hpl⟩ := hok
 have hnd := f0O hnd
 have hap := u0l hap
 have hF : ∀ i ∈ F, ∃ o, ops[i]? = some o ∧ True ∧ ∀ e ∈ o.after, Region.binds md e = true → e.on ∈ F ∧ e.on < i := by
  intro i hi
  have := List.all_eq_true.1 haf i hi
  cases ho : ops[i]? with
  | none => simp only [ho] at this; cases this
  | some o =>
   simp only [ho] at this
   refine ⟨o, rfl, trivial, fun e he hb => ?_⟩
   have h2 := Array.all_eq_true'.1 this e he
   simpa [hb] using h2
 have hlt : ∀ i ∈ F, i < ops.size := fun i hi => by obtain ⟨o, ho, _⟩ := hF i hi; exact (Array.getElem?_eq_some_iff.1 ho).1
 intro N
 induction N with
 | zero =>
  intro listed x w hu hsz inv hLF hGw hfacts
  have hall : ∀ i ∈ F, listed.getD i false = true := by
   intro i hi
   cases h : listed.getD i false with
   | true => rfl
   | false =>
    have : i ∈ unl F listed := List.mem_filter.2 ⟨hi, by simp [h]⟩
    rw [List.eq_nil_of_length_eq_zero hu] at this
    cases this
  have he : listed = e0E (Array.replicate ops.size false) F := by
   refine f0d (by simp [b0s, hsz]) fun k hk => ?_
   rw [c0y _ _ _ (by simpa [hsz] using hk)]
   have hk' : k < listed.size := hk
   by_cases hkF : k ∈ F
   ·have h3 : listed.getD k true = true := by
     cases h : listed.getD k true with
     | true => rfl
     | false => have := hall k hkF; rw [getD_both h] at this; cases this
    rw [h3]; simp [hkF]
   ·cases h : listed.getD k true with
    | true =>
     have h2 : listed.getD k false = true := by simpa [hk'] using h
     exact absurd (hLF k h2) hkF
    | false => simp [hkF, hsz ▸ hk']
  have := b0m (md := md) (S := fun _ => True) hsel hm hQ tl listed (h0s ops F a x) w inv (by rw [he]; exact hpl) (fun _ => trivial) (hend x w hGw fun i hi => hfacts i hi (hall i hi))
  simpa using this
 | succ N ih =>
  intro listed x w hu hsz inv hLF hGw hfacts
  have hsome : ∀ (b i : Nat), i < b → i ∈ F → listed.getD i false = false → ∃ k ∈ F, listed.getD k false = false ∧ k ∈ Region.ready md ops listed := by
   intro b
   induction b with
   | zero => intro i h; omega
   | succ b ihb =>
    intro i hib hi hun
    obtain ⟨o, ho, hg, hafter⟩ := hF i hi
    by_cases hall : ∀ e ∈ o.after, Region.binds md e = true → listed.getD e.on false = true
    ·exact ⟨i, hi, hun, mem_ready.2 ⟨getD_in (by rw [hsz]; exact hlt i hi) hun, o, ho, hall⟩⟩
    ·simp only [Classical.not_forall] at hall
     obtain ⟨e, he, hb, hl⟩ := hall
     obtain ⟨h1, h2⟩ := hafter e he hb
     exact ihb e.on ap13 h1 (by simpa using hl)
  have hex : ∃ i, i ∈ F ∧ listed.getD i false = false := by
   cases h : unl F listed with
   | nil => rw [h] at hu; cases hu
   | cons i s =>
    have : i ∈ unl F listed := by rw [h]; exact List.mem_cons_self
    obtain ⟨h1, h2⟩ := List.mem_filter.1 this
    exact ⟨i, h1, by simpa using h2⟩
  obtain ⟨i00, hi00, hun00⟩ := hex
  obtain ⟨i0, hi0, hun0, hr0⟩ := hsome (i00 + 1) i00 (Nat.lt_succ_self _) hi00 hun00
  have e1 : N + 1 + tl.len = (N + tl.len) + 1 := by omega
  rw [e1]
  have hprel : ∀ i ∈ F, i ∈ Region.ready md ops listed → ∀ j ∈ pre i, j ∈ F ∧ listed.getD j false = true := by
   intro i hiF hi j hj
   have h := List.all_eq_true.1 (List.all_eq_true.1 hpre i hiF) j hj
   simp only [Bool.and_eq_true] at h
   have hjF : j ∈ F := by simpa using h.1
   refine ⟨hjF, ?_⟩
   cases hl : listed.getD j false with
   | true => rfl
   | false => exact absurd hi (e0X inv _ _ h.2 (getD_in (by rw [hsz]; exact hlt j hjF) hl))
  have next : ∀ i ∈ F, i ∈ Region.ready md ops listed → ∀ o, ops[i]? = some o → ∀ v w', Fr Nob w w' → Φ i (d0a (i :: pre i) (upd x i v)) w' →
    wpP P md ops Q (fun _ => True) m (N + tl.len) (listed.setIfInBounds i true) ((h0s ops F a x).put o.dst v) w' := by
   intro i hiF hi o ho v w' hfr hΦ
   obtain ⟨hiun, _⟩ := mem_ready.1 hi
   rw [p0R ho x F a hiF hnd hap]
   have hil : i < listed.size := by rw [hsz]; exact hlt i hiF
   refine ih (listed.setIfInBounds i true) (upd x i v) w' ?_ (by simpa using hsz) (inv.set hi) ?_ (hG w w' hGw hfr) ?_
   ·rw [A0h hil]
    have hmem : i ∈ unl F listed := List.mem_filter.2 ⟨hiF, by
     cases h : listed.getD i false with
     | false => rfl
     | true => rw [getD_both hiun] at h; cases h⟩
    have := g0W (l := unl F listed) (m0s hnd _) hmem
    omega
   ·intro k hk
    by_cases e : i = k
    ·subst e; exact hiF
    ·rw [getD_set_ne false e] at hk; exact hLF k hk
   ·intro k hkF hk
    by_cases e : i = k
    ·subst e; exact hΦ
    ·rw [getD_set_ne false e] at hk
     have h1 := (hob.at k hkF).2 _ _ _ (hfacts k hkF hk) hfr
     rwa [u0k]
     cases h : (k :: pre k).contains i with
     | false => rfl
     | true =>
      exfalso
      have hm : i ∈ k :: pre k := by simpa using h
      rcases List.mem_cons.1 hm with h2 | h2
      ·exact e h2
      ·have h3 := List.all_eq_true.1 (List.all_eq_true.1 hpre k hkF) i h2
       simp only [Bool.and_eq_true] at h3
       exact j0Z inv _ _ h3.2 hk hiun
  by_cases hlo : ∃ i ∈ F, i ∈ Region.ready md ops listed ∧ i ∈ Lz
  ·
   obtain ⟨i, hiF, hir, hiL⟩ := hlo
   obtain ⟨o, ho, hg, -⟩ := hF i hiF
   have hO := (hob.at i hiF).1 o ho
   rw [show Lz.contains i = true by simpa using hiL] at hO
   obtain ⟨hg, v, hv, hΦ⟩ := hO x w hGw fun j hj => hfacts j (hprel i hiF hir j hj).1 (hprel i hiF hir j hj).2
   have hl := List.all_eq_true.1 hlz i hiL
   simp only [ho, Bool.and_eq_true, decide_eq_true_eq] at hl
   refine g0r ho (Region.noSelect_spec hsel) (fun c a w => hQ c o.dst v a w) hl.1 hm (N + tl.len) listed (h0s ops F a x) w inv ?_ hir (.inl ⟨hg, fun wx _ => hv wx⟩) (fun _ => trivial) (next i hiF hir o ho v w (Fr.refl _ _) hΦ)
   intro j oj hoj hji hjun hno
   have h := List.all_eq_true.1 hl.2 j (List.mem_range.2 (Array.getElem?_eq_some_iff.1 hoj).1)
   simp only [hoj, Bool.or_eq_true, beq_iff_eq] at h
   rcases h with (h | h) | h | h
   ·exact absurd h hji
   ·exact absurd hir (e0X inv _ _ h hjun)
   ·obtain ⟨k, hk, h2⟩ := Array.any_eq_true.1 h
    simp only [Bool.and_eq_true, beq_iff_eq] at h2
    exact absurd h2.2 (hno _ (Array.getElem_mem hk) h2.1)
   ·exact h
  refine ⟨fun h => (by rw [h] at hr0; cases hr0), fun i hi => ?_⟩
  obtain ⟨hiun, oi, hoi, hiall⟩ := mem_ready.1 hi
  have hisz : i < ops.size := (Array.getElem?_eq_some_iff.1 hoi).1
  have hiF : i ∈ F := by
   have h := List.all_eq_true.1 htl i (List.mem_range.2 hisz)
   simp only [Bool.or_eq_true] at h
   rcases h with h | h
   ·simpa using h
   ·have h2 := List.all_eq_true.1 h i0 hi0
    simp only [Bool.or_eq_true] at h2
    rcases h2 with h2 | h2
    ·exact absurd ⟨i0, hi0, hr0, by simpa using h2⟩ hlo
    ·exact absurd hi (e0X inv _ _ h2 (getD_in (by rw [hsz]; exact hlt i0 hi0) hun0))
  obtain ⟨o, ho, hg, -⟩ := hF i hiF
  have hO := (hob.at i hiF).1 o ho
  have hnl : Lz.contains i = false := by
   cases h : Lz.contains i with
   | false => rfl
   | true => exact absurd ⟨i, hiF, hi, by simpa using h⟩ hlo
  rw [hnl] at hO
  rcases hO x w hGw fun j hj => hfacts j (hprel i hiF hi j hj).1 (hprel i hiF hi j hj).2 with ⟨hgd, hO⟩ | ⟨hgd, hO⟩
  rotate_left 1
  ·unfold wpOp
   simp only [ho]
   rw [if_neg (by rw [hgd]; decide)]
   exact ⟨fun _ _ => trivial, next i hiF hi o ho undef w (Fr.refl _ _) hO⟩
  refine u0n ho hgd (Oper.wp_mono (fun a' w' h' => ?_) hO)
  obtain ⟨v, rfl, hfr, hΦ⟩ := h'
  exact ⟨fun _ _ => trivial, next i hiF hi o ho v w' hfr hΦ⟩
theorem l0o {id : Nat} {a : Act} {w : World} {l : List Oper} (G : World → Prop) (F Lz : List Nat) (pre : Nat → List Nat) (Φ : Nat → (Nat → Value) → World → Prop) (m : Nat) (tl : Pl) (hm : P.follows .mixedOrders = true)
  (hB : (Region.noSelect l.toArray && decide (m < l.toArray.size) && decide (F.length + tl.len = l.toArray.size) && u0m .any l.toArray m F Lz pre tl) = true)
  (hQ : ∀ c (d : Option Tmp) v a w, Q (.panic c) (Act.put a d v) w → Q (.panic c) a w) (hG0 : G w.drew) (hG : ∀ w w', G w → Fr Nob w w' → G w') (hob : Obls P l.toArray Q G (h0s l.toArray F a) pre Φ Lz F)
  (hend : ∀ x w, G w → (∀ i ∈ F, Φ i (d0a (i :: pre i) x) w) → b0v P l.toArray Q (fun _ => True) tl (h0s l.toArray F a x) w) : (Code.region id l.toArray true).wp P Q a w := by
 simp only [Bool.and_eq_true, decide_eq_true_eq] at hB
 obtain ⟨⟨⟨hsel, hms⟩, hlen⟩, hok⟩ := hB
 have inv0 : Cl .any l.toArray (Array.replicate l.toArray.size false) :=
  ⟨by simp, fun j oj _ hl => (by rw [getD_replicate_false] at hl; cases hl)⟩
 have hnd : F.Nodup := by
  have h := hok
  simp only [u0m, Bool.and_eq_true] at h
  exact f0O h.1.1.1.1.1.2
 obtain ⟨x0, hx0⟩ := m0Z (ops := l.toArray) F a hnd
 have hul : unl F (Array.replicate l.toArray.size false) = F := by
  unfold unl
  exact List.filter_eq_self.2 fun k _ => by rw [getD_replicate_false]; rfl
 have H := r0m (md := .any) hsel hms hQ hok hG hob hend F.length (Array.replicate l.toArray.size false) x0 w.drew (by rw [hul]) ap14 inv0 (fun k hk => by rw [getD_replicate_false] at hk; cases hk) hG0 (fun i _ hk => by rw [getD_replicate_false] at hk; cases hk)
 rw [hx0, hlen] at H
 exact wp_region_any hm (d0C _ _ _ _ H)
theorem f0F {id : Nat} {a : Act} {w : World} {l : List Oper} (G : World → Prop) (F Lz : List Nat) (pre : Nat → List Nat) (Φ : Nat → (Nat → Value) → World → Prop) (m : Nat) (tl : Pl) (A : (Nat → Value) → Act) (hA : ∀ x, h0s l.toArray F a x = A x) (hm : P.follows .mixedOrders = true)
  (hB : (Region.noSelect l.toArray && decide (m < l.toArray.size) && decide (F.length + tl.len = l.toArray.size) && u0m .any l.toArray m F Lz pre tl) = true)
  (hQ : ∀ c (d : Option Tmp) v a w, Q (.panic c) (Act.put a d v) w → Q (.panic c) a w) (hG0 : G w.drew) (hG : ∀ w w', G w → Fr Nob w w' → G w') (hob : Obls P l.toArray Q G A pre Φ Lz F)
  (hend : ∀ x w, G w → (∀ i ∈ F, Φ i (d0a (i :: pre i) x) w) → b0v P l.toArray Q (fun _ => True) tl (A x) w) : (Code.region id l.toArray true).wp P Q a w := by
 obtain rfl : (h0s l.toArray F a) = A := funext hA
 exact l0o G F Lz pre Φ m tl hm hB hQ hG0 hG hob hend
theorem g0J {G : World → Prop} {A : (Nat → Value) → Act} {pre : Nat → List Nat} {Φ : Nat → (Nat → Value) → World → Prop} {Lz : List Nat} {i : Nat} {s : List Nat} {o : Oper} (ho : ops[i]? = some o) (hl : Lz.contains i = false)
  (h : ∀ x w, G w → (∀ j ∈ pre i, Φ j (d0a (j :: pre j) x) w) → o.wp P (A x) w (fun a' w' => ∃ v, a' = (A x).put o.dst v ∧ Fr Nob w w' ∧ Φ i (d0a (i :: pre i) (upd x i v)) w') Q)
  (hm : ∀ y w w', Φ i (d0a (i :: pre i) y) w → Fr Nob w w' → Φ i (d0a (i :: pre i) y) w') (hs : Obls P ops Q G A pre Φ Lz s) (hg : o.guard = none := by rfl) : Obls P ops Q G A pre Φ Lz (i :: s) :=
 ⟨⟨fun o' ho' => by
  obtain rfl : o = o' := Option.some.inj (ho.symm.trans ho')
  rw [hl]
  exact fun x w h1 h2 => .inl ⟨by simp [Region.wanted, hg], h x w h1 h2⟩, hm⟩, hs⟩
theorem b0g {G : World → Prop} {A : (Nat → Value) → Act} {pre : Nat → List Nat} {Φ : Nat → (Nat → Value) → World → Prop} {Lz : List Nat} {i : Nat} {s : List Nat} {o : Oper} (ho : ops[i]? = some o) (hl : Lz.contains i = false)
  (hw : ∀ x w, G w → (∀ j ∈ pre i, Φ j (d0a (j :: pre j) x) w) → Region.wanted o (yielded ops (A x).tmps) = true) (h : ∀ x w, G w → (∀ j ∈ pre i, Φ j (d0a (j :: pre j) x) w) → o.wp P (A x) w (fun a' w' => ∃ v, a' = (A x).put o.dst v ∧ Fr Nob w w' ∧ Φ i (d0a (i :: pre i) (upd x i v)) w') Q)
  (hm : ∀ y w w', Φ i (d0a (i :: pre i) y) w → Fr Nob w w' → Φ i (d0a (i :: pre i) y) w') (hs : Obls P ops Q G A pre Φ Lz s) : Obls P ops Q G A pre Φ Lz (i :: s) :=
 ⟨⟨fun o' ho' => by
  obtain rfl : o = o' := Option.some.inj (ho.symm.trans ho')
  rw [hl]
  exact fun x w h1 h2 => .inl ⟨hw x w h1 h2, h x w h1 h2⟩, hm⟩, hs⟩
theorem b0w {G : World → Prop} {A : (Nat → Value) → Act} {pre : Nat → List Nat} {Φ : Nat → (Nat → Value) → World → Prop} {Lz : List Nat} {i : Nat} {s : List Nat} {o : Oper} (ho : ops[i]? = some o) (hl : Lz.contains i = false)
  (hw : ∀ x w, G w → (∀ j ∈ pre i, Φ j (d0a (j :: pre j) x) w) → Region.wanted o (yielded ops (A x).tmps) = false) (h : ∀ x w, Φ i x w)
  (hs : Obls P ops Q G A pre Φ Lz s) : Obls P ops Q G A pre Φ Lz (i :: s) :=
 ⟨⟨fun o' ho' => by
  obtain rfl : o = o' := Option.some.inj (ho.symm.trans ho')
  rw [hl]
  exact fun x w h1 h2 => .inr ⟨hw x w h1 h2, h _ _⟩, fun _ _ _ _ _ => h _ _⟩, hs⟩
variable {o : Oper} {a : Act} {w : World} {Ψ : Value → World → Prop}
theorem h0t {v : Value} (h : (execOp a.eval o).run P w = .ok (.value v) w) (hΨ : Ψ v w) : o.wp P a w (fun a' w' => ∃ v, a' = a.put o.dst v ∧ Fr Nob w w' ∧ Ψ v w') Q := by
 unfold Oper.wp
 rw [h]
 exact ⟨v, rfl, Fr.refl _ _, hΨ⟩
theorem C0a {v : Nat → Value} {L : List Value} {T : TypeId} (hk : Mk P (execOp a.eval o) v L T) (h : ∀ g w', Fr Nob w w' → w.heap.size ≤ g → Has w' g L T → Ψ (v g) w') : o.wp P a w (fun a' w' => ∃ v, a' = a.put o.dst v ∧ Fr Nob w w' ∧ Ψ v w') Q := by
 obtain ⟨g, w', hr, hf, hle, hg⟩ := hk w
 unfold Oper.wp
 rw [hr]
 exact ⟨v g, rfl, hf, h g w' hf hle hg⟩
theorem p0T {t e : TypeId} {k : Nat} {parts : Array (Nat × Operand)} (hop : o.op = .buildSlice t k parts) (hu : P.underlying t = some (.slice e)) {z : Value} {sz by_ : Nat} (hi0 : (P.info? e).map (fun i => (i.zero, i.size, i.bytes)) = some (some z, sz, by_))
  (vs : List Value) (hp : (parts.toList.map fun p => (p.1, a.eval p.2)) = (vs.zipIdx 0).map fun x => (x.2, x.1)) (hv : ∀ v ∈ vs, v.cells.size = sz) (hk : vs.length = k) (L : List Value) (hL : (vs.flatMap fun v => v.cells.toList) = L)
  (h : ∀ g w', Fr Nob w w' → w.heap.size ≤ g → Has w' g L e → Ψ (.slice (some ⟨g, 0, none⟩) k k) w') (hk0 : 0 < k * sz := by decide) (hk24 : k * sz ≤ 16777216 := by decide) : o.wp P a w (fun a' w' => ∃ v, a' = a.put o.dst v ∧ Fr Nob w w' ∧ Ψ v w') Q :=
 C0a (v := fun g => .slice (some ⟨g, 0, none⟩) k k) (by unfold execOp; simp only [hop]; rw [t0X hp]; exact z0R hu hi0 vs rfl hv hk L hL hk0 hk24) h
theorem k0a {f : FuncId} {xs : Array Operand} {ats : Array TypeId} (hop : o.op = .call { callee := .value (.func f), args := xs, argTypes := ats }) (hcl : ∀ us w, (callFunc f us).run P w = .ok (.enter f us) w)
  {vs : List Value} (hargs : xs.toList.map a.eval = vs) (h : Calls P f vs.toArray w fun e w' => ∃ v, e = .returned v ∧ Fr Nob w w' ∧ Ψ v w') : o.wp P a w (fun a' w' => ∃ v, a' = a.put o.dst v ∧ Fr Nob w w' ∧ Ψ v w') Q :=
 y0U hop hcl hargs (h.mono fun _ _ ⟨v, h1, h2, h3⟩ => ⟨v, h1, v, rfl, h2, h3⟩)
end
end Go.Mv


set_option maxHeartbeats 16000000
set_option maxRecDepth 1000000
namespace Go.Proofs.YtmebmhjppmfbbaaGreat
open Go.RowKit Go.Mv Mvp Mvt
attribute [local irreducible] a0E lw mix cw b0o b0x b0l a0L a0q beN b0F b0c b0z a0J a0N elN mdL b0B b0e b0t b0K toB a0w a0I b0u c0v a0K c0B b0n a0G c0G u0z
theorem D0E (p : Nat) (D : List UInt8) (w : World) (hp0 : 0 < p) (hp : p < B64 ^ 4) :
  Calls Tryz.prog 92 #[fv p, .string (mkS (a0K D 31 64))] w fun e w' => e = .returned (i4 (beN (a0K D 31 64) % p)) ∧ Fr Nob w w' := by
 have h := y0O p (mkS (a0K D 31 64)) w hp0 hp (by rw [a0A, i0c]; decide)
 simpa [mkS] using h
end Go.Proofs.YtmebmhjppmfbbaaGreat


namespace Go.Mv
open Go.RowKit
variable {P : Program}
end Go.Mv


set_option maxHeartbeats 16000000
set_option maxRecDepth 1000000
namespace Go.Mv
open Go.RowKit Go.ChangeShapes Go.WideShapes
theorem Below.trodAll {H : Type} {enc : TypeId × Value → H} {P : Program} (hl : laidOutB P = true) {W W' : World} (hb : Below W.heap.size W W') :
  ∀ (ts : List TypeId) (vs : List Value) (ds : List (DataW H)) (ps : List MemPlace), (∀ t ∈ ts, P.readableRec t = true ∧ t < P.types.size) → DataW.TrodAll enc P W 0 (fun _ => true) true ts vs ds ps → (∀ x ∈ ps, x.block < W.heap.size) →
   DataW.TrodAll enc P W' 0 (fun b => decide (b < W.heap.size)) true ts vs ds ps
 | [], vs, ds, ps, _, h, _ => by
  obtain ⟨rfl, rfl, rfl⟩ := trodAll_nil h
  exact trodAll_mk0
 | t :: ts, vs, ds, ps, hr, h, hlt => by
  obtain ⟨v, vs', d, ds', p, q, rfl, rfl, rfl, h0, hs⟩ := trodAll_cons h
  have h1 := hr t ap14
  exact trodAll_cons_mk (Below.trod hl h1.1 h1.2 h0 hb (fun x hx => hlt x (by simp [hx]))) (Below.trodAll hl hb ts vs' ds' q (fun t ht => hr t (by simp [ht])) hs (fun x hx => hlt x (by simp [hx])))
theorem w0Z {H : Type} {enc : TypeId × Value → H} {P : Program} {f : Func} {s : ChangeSpec} {W W' : World} {args : Array Value} {ds gs : List (DataW H)} {before : List MemPlace}
  (hl : laidOutB P = true) (hr : ∀ t ∈ f.params.toList, P.readableRec t = true ∧ t < P.types.size) (hW : DataW.Whole enc P f.params.toList s.vars false W args.toList ds gs before)
  (hv : s.vars = []) (hres : (s.fn H (ds ++ gs)).results = [.lit (.bool true)]) (harg : (s.fn H (ds ++ gs)).args = ds) (hvar : (s.fn H (ds ++ gs)).vars = [])
  {tb : TypeId} (hrt : f.resultTypes = #[tb]) (hu : P.underlying tb = some .bool) (hf : Fr Nob W W') :
  s.post enc P f false true false false W args (.bool true) W' := by
 have hW' := hW
 obtain ⟨p, q, hA, hV, rfl, hfz, hnd⟩ := hW
 rw [hv] at hV
 obtain ⟨rfl, rfl⟩ := trodVars_none hV
 have hlt : ∀ x ∈ p ++ [], x.block < W.heap.size := fun x hx => hW'.lt x hx
 refine ⟨ds, [], p ++ [], [], p, [], hW', ?_, ?_, ?_, World.keptBut_mono (fun x hx => ⟨hx, ?_⟩) (hf.below.frame (· ∈ p ++ [])), fun h => by cases h⟩
 ·rw [hres, hrt]
  exact trodAll_mk1 (shut_bool hu true)
 ·rw [harg]
  exact Below.trodAll hl hf.below _ _ _ _ hr hA (fun x hx => hlt x (by simp [hx]))
 ·rw [hvar, hv]; exact rfl
 ·simp only [List.append_nil] at hx
  exact .inr (.inl hx)
end Go.Mv


set_option maxHeartbeats 16000000
set_option maxRecDepth 1000000
namespace Go.Proofs.YtmebmhjppmfbbaaGreat
open Go.RowKit Go.Mv Mvp Mvq
def sgC (vp vf : Value) (c z : Nat) : List Value := [vp, vf] ++ (cw 4 c ++ cw 4 z)
theorem b0O (vp vf : Value) (c z : Nat) : (sgC vp vf c z).length = 10 := by simp [sgC, a0e]
theorem d0Z (p f : Option Addr) (a b c d : Nat) (x y : Nat) : ∀ v ∈ sgC (.slice p a b) (.slice f c d) x y, v.oneCell' = true := by
 intro v hv
 unfold sgC at hv
 rcases List.mem_append.1 hv with h | h
 ·simp only [List.mem_cons, List.not_mem_nil, or_false] at h
  rcases h with rfl | rfl <;> rfl
 ·rcases List.mem_append.1 h with h | h
  ·exact a0g _ _ v h
  ·exact a0g _ _ v h
theorem o0x : (Tryz.prog.info? 82).map (·.zero) = some (some (.agg (sgC (.slice none 0 0) (.slice none 0 0) 0 0).toArray)) := by unfold sgC; rw [f0L]; kernel_rfl
theorem d0r (vp vf : Value) (c z : Nat) : (Tryz.prog.info? 82).map (·.size) = some (sgC vp vf c z).length := by rw [b0O]; kernel_rfl
theorem D0c (vp vf : Value) (c z : Nat) : ((sgC vp vf c z).drop 2).take (cw 4 c).length = cw 4 c := by
 unfold sgC
 rw [List.drop_append, List.drop_of_length_le ap14, List.nil_append]
 simp only [List.length_cons, List.length_nil, Nat.sub_self, List.drop_zero]
 exact List.take_left
theorem D0d (vp vf : Value) (c z : Nat) : ((sgC vp vf c z).drop 6).take (cw 4 z).length = cw 4 z := by
 unfold sgC
 rw [← List.append_assoc, List.drop_append, List.drop_of_length_le ap10, List.nil_append]
 simp only [List.length_append, List.length_cons, List.length_nil, a0e]
 rw [List.drop_zero, List.take_of_length_le (by rw [a0e]; exact Nat.le_refl _)]
theorem x0U (vp vf : Value) (c z x : Nat) : splice (sgC vp vf c z) 6 (cw 4 x) = sgC vp vf c x := by
 unfold sgC splice
 rw [a0e, ← List.append_assoc, List.take_append, List.take_of_length_le ap10, List.drop_of_length_le ap10]
 simp [a0e]
theorem C0b (vp vf : Value) (c z x : Nat) : splice (sgC vp vf c z) 2 (cw 4 x) = sgC vp vf x z := by
 have h : sgC vp vf c z = [vp, vf] ++ (cw 4 c ++ cw 4 z) := rfl
 unfold splice
 rw [h, a0e, List.take_append, List.drop_append]
 have e1 : List.drop (2 + 4) [vp, vf] = [] := rfl
 rw [e1]
 simp only [List.length_cons, List.length_nil, Nat.sub_self, List.take_zero, List.append_nil]
 rw [List.drop_append, List.drop_of_length_le (by rw [a0e]; omega), a0e]
 simp [sgC]
theorem u0o {w w4 : World} {g6 : Nat} {up uf : Value} {c z : Nat} {T : TypeId} (h : St Nob w w4 [(g6, sgC up uf c z, T)]) (vp vf : Value) : St Nob w ((w4.setCell ⟨g6, 0, none⟩ vp).setCell ⟨g6, 1, none⟩ vf).drew [(g6, sgC vp vf c z, T)] := ((h.set 0 rfl 0 vp).set 0 rfl 1 vf).drew
theorem u0p {w w4 : World} {g6 : Nat} {up uf : Value} {c z : Nat} {T : TypeId} (h : St Nob w w4 [(g6, sgC up uf c z, T)]) (vp vf : Value) : St Nob w ((w4.setCell ⟨g6, 1, none⟩ vf).setCell ⟨g6, 0, none⟩ vp).drew [(g6, sgC vp vf c z, T)] := ((h.set 0 rfl 1 vf).set 0 rfl 0 vp).drew
def rdG (pub s : List UInt8) : Bool := c0c pub && (decide (s.length = 65) && (b0D (s.take 33) && b0e mQ (s.drop 33)))
theorem f0s {w : World} {a : Option Addr} {n c : Nat} {l : List UInt8} (h : PartIs w (.slice a n c) l) (k : Nat) (hk : k ≤ n) : PartIs w (.slice a k c) (l.take k) := by
 obtain ⟨a', n', c', he, hc, hn, hr, ho⟩ := h
 cases he
 have h2 := Rd.take (show Rd w a n (bs l) from hr) k hk
 rw [e0O] at h2
 exact ⟨a, k, c, rfl, by omega, by omega, h2, ho⟩
theorem h0c {w : World} {b o n c : Nat} {l : List UInt8} (h : PartIs w (.slice (some ⟨b, o, none⟩) n c) l) (k : Nat) (hk : k ≤ n) : PartIs w (.slice (some ⟨b, o + k, none⟩) (n - k) (c - k)) (l.drop k) := by
 obtain ⟨a', n', c', he, hc, hn, hr, ho⟩ := h
 cases he
 have hlen := hr.len
 refine ⟨_, _, _, rfl, by omega, by omega, ?_, ?_⟩
 ·refine ⟨by rw [a0M, List.length_drop]; omega, ?_⟩
  by_cases hz : n - k = 0
  ·exact .inl hz
  ·obtain ⟨b', o', e, hat⟩ := Rd.at hr ap13
   cases e
   refine .inr ⟨_, _, rfl, ?_⟩
   have h2 := hat.sub k (n - k)
   have e2 : ((bs l).drop k).take (n - k) = bs (l.drop k) := by
    rw [List.take_of_length_le (by rw [List.length_drop, a0M]; omega)]
    simp [bs, List.map_drop]
   rwa [e2] at h2
 ·intro x hx
  cases hx
  exact ho ⟨b, o, none⟩ rfl
theorem e0q (l : List UInt8) : c0F [l] = c0c l := by unfold c0F; simp
theorem e0a {w : World} {v : Value} {l : List UInt8} (h : PartIs w v l) : BPart w v l := h.bpart
attribute [local irreducible] a0E lw mix cw b0o b0x b0l a0L a0q beN b0F b0c b0z a0J a0N elN mdL b0e rtV b0Q b0C b0D c0r b0B d0q o0t j0W a0P b0t b0K toB a0w a0I b0u c0v a0K c0B b0n a0G c0G e0U d0N j0T sgF sgZ b0I chN c0c c0F tS sgC rdG
theorem C0c (ap : Option Addr) (np cp : Nat) (pub : List UInt8) (at_ : Option Addr) (nt ct : Nat) (text : List UInt8) (as_ : Option Addr) (ns cs : Nat) (s : List UInt8) (w : World) (hp : PartIs w (.slice ap np cp) pub) (ht : PartIs w (.slice at_ nt ct) text) (hs : PartIs w (.slice as_ ns cs) s) (hq : c0c pub = false) : Calls Tryz.prog 56 #[.slice ap np cp, .slice at_ nt ct, .slice as_ ns cs] w fun e w' => ∃ cells : List Value, e = .returned (.tuple #[.agg cells.toArray, .bool false]) ∧ cells.length = 10 ∧ (∀ v ∈ cells, v.oneCell' = true) ∧ Fr Nob w w' := by
 have HP := Lib.hid hp
 have HT := Lib.hid ht
 have HS := Lib.hid hs
 have HR := Lib.hid (show c0F [pub] = false by rw [e0q]; exact hq)
 clear hp ht hs hq
 have st0 := St.start Nob w
 go_enter Tryz.func56, Tryz.ntmps56
 go_wp2_with (with_reducible refine wSk 6 ?_)
 refine a0a st0 rfl rfl o0x (sgC (.slice none 0 0) (.slice none 0 0) 0 0) rfl ?_
 intro g6 w1 st1
 clear st0
 go_wp2_with (with_reducible refine wSk 9 ?_)
 refine c0n rfl rfl Tryz.underlying39 d0A [.slice ap np cp] rfl (by simp; rfl) rfl rfl ?_
 intro w2 hh2 hf2 hz2
 have st2 := st1.keep hf2
 have HSL := Lib.hid hh2
 clear hh2 hf2 hz2 st1
 generalize w1.heap.size = gl9 at *
 go_wp2_with fail
 refine (g0I _ 1 1 [.slice ap np cp] [pub] _ (Rd.whole HSL.out) (BParts.one (e0a (HP.out.still st2.fr))) ap12).mono ?_
 rintro e' w3 ⟨rfl, hf3⟩
 have st3 := st2.keep hf3
 clear st2 hf3
 clear HSL
 rw [HR.out]
 go_wp2_with (with_reducible refine wSk 23 ?_)
 refine a0m st3 0 rfl rfl rfl Tryz.underlying82 rfl rfl (d0r _ _ _ _) ?_
 go_wp2_with (with_reducible refine wSn ?_)
 refine a0b st3 0 rfl rfl rfl rfl rfl (by simp only [b0O]) (d0r _ _ _ _) (d0Z _ _ _ _ _ _ _ _) ?_
 intro w4 st4
 clear st3
 have hr := st4.at 0 rfl
 have hfr := st4.fr
 clear st4
 go_wp2_with fail
 exact bodyPost_ret (a0x rfl rfl hr Tryz.underlying82 rfl (d0r _ _ _ _) rfl) rfl ⟨_, rfl, b0O _ _ _ _, d0Z _ _ _ _ _ _ _ _, hfr⟩
theorem C0d (ap : Option Addr) (np cp : Nat) (pub : List UInt8) (at_ : Option Addr) (nt ct : Nat) (text : List UInt8) (as_ : Option Addr) (ns cs : Nat) (s : List UInt8) (w : World) (hp : PartIs w (.slice ap np cp) pub) (ht : PartIs w (.slice at_ nt ct) text) (hs : PartIs w (.slice as_ ns cs) s) (hq : c0c pub = true) (hl : ns ≠ 65) : Calls Tryz.prog 56 #[.slice ap np cp, .slice at_ nt ct, .slice as_ ns cs] w fun e w' => ∃ cells : List Value, e = .returned (.tuple #[.agg cells.toArray, .bool false]) ∧ cells.length = 10 ∧ (∀ v ∈ cells, v.oneCell' = true) ∧ Fr Nob w w' := by
 have HP := Lib.hid hp
 have HT := Lib.hid ht
 have HS := Lib.hid hs
 have HR := Lib.hid (show c0F [pub] = true by rw [e0q]; exact hq)
 have hne : ((ns : Int) != 65) = true := by simp; omega
 clear hp ht hs hq hl
 have st0 := St.start Nob w
 go_enter Tryz.func56, Tryz.ntmps56
 go_wp2_with (with_reducible refine wSk 6 ?_)
 refine a0a st0 rfl rfl o0x (sgC (.slice none 0 0) (.slice none 0 0) 0 0) rfl ?_
 intro g6 w1 st1
 clear st0
 go_wp2_with (with_reducible refine wSk 9 ?_)
 refine c0n rfl rfl Tryz.underlying39 d0A [.slice ap np cp] rfl (by simp; rfl) rfl rfl ?_
 intro w2 hh2 hf2 hz2
 have st2 := st1.keep hf2
 have HSL := Lib.hid hh2
 clear hh2 hf2 hz2 st1
 generalize w1.heap.size = gl9 at *
 go_wp2_with fail
 refine (g0I _ 1 1 [.slice ap np cp] [pub] _ (Rd.whole HSL.out) (BParts.one (e0a (HP.out.still st2.fr))) ap12).mono ?_
 rintro e' w3 ⟨rfl, hf3⟩
 have st3 := st2.keep hf3
 clear st2 hf3
 clear HSL
 rw [HR.out]
 go_wp2_with (with_reducible refine wSk 23 ?_)
 refine a0m st3 0 rfl rfl rfl Tryz.underlying82 rfl rfl (d0r _ _ _ _) ?_
 go_wp2_with (with_reducible refine wSn ?_)
 refine a0b st3 0 rfl rfl rfl rfl rfl (by simp only [b0O]) (d0r _ _ _ _) (d0Z _ _ _ _ _ _ _ _) ?_
 intro w4 st4
 clear st3
 have hr := st4.at 0 rfl
 have hfr := st4.fr
 clear st4
 go_wp2_with fail
 exact bodyPost_ret (a0x rfl rfl hr Tryz.underlying82 rfl (d0r _ _ _ _) rfl) rfl ⟨_, rfl, b0O _ _ _ _, d0Z _ _ _ _ _ _ _ _, hfr⟩
theorem C0e (ap : Option Addr) (np cp : Nat) (pub : List UInt8) (at_ : Option Addr) (nt ct : Nat) (text : List UInt8) (b o cs : Nat) (s : List UInt8) (w : World) (hp : PartIs w (.slice ap np cp) pub) (ht : PartIs w (.slice at_ nt ct) text) (hs : PartIs w (.slice (some ⟨b, o, none⟩) 65 cs) s) (hq : c0c pub = true) (ho : b0D (s.take 33) = false) : Calls Tryz.prog 56 #[.slice ap np cp, .slice at_ nt ct, .slice (some ⟨b, o, none⟩) 65 cs] w fun e w' => ∃ cells : List Value, e = .returned (.tuple #[.agg cells.toArray, .bool false]) ∧ cells.length = 10 ∧ (∀ v ∈ cells, v.oneCell' = true) ∧ Fr Nob w w' := by
 have HP := Lib.hid hp
 have HT := Lib.hid ht
 have HS := Lib.hid hs
 have HR := Lib.hid (show c0F [pub] = true by rw [e0q]; exact hq)
 have hcs : 65 ≤ cs := by obtain ⟨a', n', c', he, hc, -⟩ := hs; cases he; exact hc
 have HSF := Lib.hid (f0s hs 33 ap12)
 have HSZ := Lib.hid (h0c hs 33 ap12)
 have k1 := fun wx => c0m (P := Tryz.prog) wx Tryz.underlying22 c0d (some ⟨b, o, none⟩) 65 cs .i64 33 ap13
 have k2 := fun wx => d0e (P := Tryz.prog) wx Tryz.underlying22 c0d (some ⟨b, o, none⟩) 65 cs .i64 33 ap13
 have hcI : (33 : Int) ≤ (cs : Int) := by omega
 have hcN : ¬ (cs = 33) := by omega
 have HO := Lib.hid ho
 clear hp ht hs hq ho hcs
 have st0 := St.start Nob w
 go_enter Tryz.func56, Tryz.ntmps56
 go_wp2_with (with_reducible refine wSk 6 ?_)
 refine a0a st0 rfl rfl o0x (sgC (.slice none 0 0) (.slice none 0 0) 0 0) rfl ?_
 intro g6 w1 st1
 clear st0
 go_wp2_with (with_reducible refine wSk 9 ?_)
 refine c0n rfl rfl Tryz.underlying39 d0A [.slice ap np cp] rfl (by simp; rfl) rfl rfl ?_
 intro w2 hh2 hf2 hz2
 have st2 := st1.keep hf2
 have HSL := Lib.hid hh2
 clear hh2 hf2 hz2 st1
 generalize w1.heap.size = gl9 at *
 go_wp2_with fail
 refine (g0I _ 1 1 [.slice ap np cp] [pub] _ (Rd.whole HSL.out) (BParts.one (e0a (HP.out.still st2.fr))) ap12).mono ?_
 rintro e' w3 ⟨rfl, hf3⟩
 have st3 := st2.keep hf3
 clear st2 hf3
 clear HSL
 rw [HR.out]
 go_wp2_with fail
 refine (h0r _ (s.take 33) _ (e0a (HSF.out.still st3.fr)) HO.out).mono ?_
 rintro e' w4 ⟨rfl, hf4⟩
 have st4 := st3.keep hf4
 clear st3 hf4
 go_wp2_with (with_reducible refine wSk 23 ?_)
 refine a0m st4 0 rfl rfl rfl Tryz.underlying82 rfl rfl (d0r _ _ _ _) ?_
 go_wp2_with (with_reducible refine wSn ?_)
 refine a0b st4 0 rfl rfl rfl rfl rfl (by simp only [b0O]) (d0r _ _ _ _) (d0Z _ _ _ _ _ _ _ _) ?_
 intro w5 st5
 clear st4
 have hr := st5.at 0 rfl
 have hfr := st5.fr
 clear st5
 go_wp2_with fail
 exact bodyPost_ret (a0x rfl rfl hr Tryz.underlying82 rfl (d0r _ _ _ _) rfl) rfl ⟨_, rfl, b0O _ _ _ _, d0Z _ _ _ _ _ _ _ _, hfr⟩
theorem C0f (ap : Option Addr) (np cp : Nat) (pub : List UInt8) (at_ : Option Addr) (nt ct : Nat) (text : List UInt8) (b o cs : Nat) (s : List UInt8) (w : World) (hp : PartIs w (.slice ap np cp) pub) (ht : PartIs w (.slice at_ nt ct) text) (hs : PartIs w (.slice (some ⟨b, o, none⟩) 65 cs) s) (hq : c0c pub = true) (ho : b0D (s.take 33) = true) (hn : b0e mQ (s.drop 33) = false) : Calls Tryz.prog 56 #[.slice ap np cp, .slice at_ nt ct, .slice (some ⟨b, o, none⟩) 65 cs] w fun e w' => ∃ cells : List Value, e = .returned (.tuple #[.agg cells.toArray, .bool false]) ∧ cells.length = 10 ∧ (∀ v ∈ cells, v.oneCell' = true) ∧ Fr Nob w w' := by
 have HP := Lib.hid hp
 have HT := Lib.hid ht
 have HS := Lib.hid hs
 have HR := Lib.hid (show c0F [pub] = true by rw [e0q]; exact hq)
 have hcs : 65 ≤ cs := by obtain ⟨a', n', c', he, hc, -⟩ := hs; cases he; exact hc
 have HSF := Lib.hid (f0s hs 33 ap12)
 have HSZ := Lib.hid (h0c hs 33 ap12)
 have k1 := fun wx => c0m (P := Tryz.prog) wx Tryz.underlying22 c0d (some ⟨b, o, none⟩) 65 cs .i64 33 ap13
 have k2 := fun wx => d0e (P := Tryz.prog) wx Tryz.underlying22 c0d (some ⟨b, o, none⟩) 65 cs .i64 33 ap13
 have hcI : (33 : Int) ≤ (cs : Int) := by omega
 have hcN : ¬ (cs = 33) := by omega
 have HO := Lib.hid ho
 have HN := Lib.hid hn
 clear hp ht hs hq ho hn hcs
 have st0 := St.start Nob w
 go_enter Tryz.func56, Tryz.ntmps56
 go_wp2_with (with_reducible refine wSk 6 ?_)
 refine a0a st0 rfl rfl o0x (sgC (.slice none 0 0) (.slice none 0 0) 0 0) rfl ?_
 intro g6 w1 st1
 clear st0
 go_wp2_with (with_reducible refine wSk 9 ?_)
 refine c0n rfl rfl Tryz.underlying39 d0A [.slice ap np cp] rfl (by simp; rfl) rfl rfl ?_
 intro w2 hh2 hf2 hz2
 have st2 := st1.keep hf2
 have HSL := Lib.hid hh2
 clear hh2 hf2 hz2 st1
 generalize w1.heap.size = gl9 at *
 go_wp2_with fail
 refine (g0I _ 1 1 [.slice ap np cp] [pub] _ (Rd.whole HSL.out) (BParts.one (e0a (HP.out.still st2.fr))) ap12).mono ?_
 rintro e' w3 ⟨rfl, hf3⟩
 have st3 := st2.keep hf3
 clear st2 hf3
 clear HSL
 rw [HR.out]
 go_wp2_with fail
 refine (f0M _ (s.take 33) _ (e0a (HSF.out.still st3.fr)) HO.out).mono ?_
 rintro e' w4 ⟨rfl, hf4⟩
 have st4 := st3.keep hf4
 clear st3 hf4
 have hz0 := (st4.at 0 rfl).free 0 (by rw [b0O]; decide)
 have hz1 := (st4.at 0 rfl).free 1 (by rw [b0O]; decide)
 have hd0 := (st4.at 0 rfl).cell (i := 0) (v := .slice none 0 0) (by unfold sgC; rfl)
 have hd1 := (st4.at 0 rfl).cell (i := 1) (v := .slice none 0 0) (by unfold sgC; rfl)
 go_wp2_with fail
 go_region
 all_goals
  clear hz0 hz1 hd0 hd1
  go_wp2_with fail
  first
   | (have stn := u0o st4 (.slice ap np cp) (.slice (some ⟨b, o, none⟩) 33 cs); refine (y0S mQ .one _ _ _ (s.drop 33) _ (e0K (HSZ.out.still stn.fr)) HN.out).mono ?_)
   | (have stn := u0p st4 (.slice ap np cp) (.slice (some ⟨b, o, none⟩) 33 cs); refine (y0S mQ .one _ _ _ (s.drop 33) _ (e0K (HSZ.out.still stn.fr)) HN.out).mono ?_)
  all_goals clear st4
  rintro e' w5 ⟨rfl, hf5⟩
  have st5 := stn.keep hf5
  clear stn hf5
  go_wp2_with (with_reducible refine wSn ?_)
  refine d0d (cs := cw 4 0) rfl rfl rfl rfl (st5.at 0 rfl) (by rw [a0e, b0O]; decide) (f0h _) (a0g _ _) ?_
  intro w6 hg6 hf6 hz6
  rw [x0U] at hg6
  have st6 := st5.put 0 rfl hf6 hg6
  clear st5 hf6 hg6 hz6
  go_wp2_with (with_reducible refine wSk 43 ?_)
  refine a0m st6 0 rfl rfl rfl Tryz.underlying82 rfl rfl (d0r _ _ _ _) ?_
  go_wp2_with (with_reducible refine wSn ?_)
  refine a0b st6 0 rfl rfl rfl rfl rfl (by simp only [b0O]) (d0r _ _ _ _) (d0Z _ _ _ _ _ _ _ _) ?_
  intro w7 st7
  clear st6
  have hr := st7.at 0 rfl
  have hfr := st7.fr
  clear st7
  go_wp2_with fail
  exact bodyPost_ret (a0x rfl rfl hr Tryz.underlying82 rfl (d0r _ _ _ _) rfl) rfl ⟨_, rfl, b0O _ _ _ _, d0Z _ _ _ _ _ _ _ _, hfr⟩
theorem C0g (ap : Option Addr) (np cp : Nat) (pub : List UInt8) (at_ : Option Addr) (nt ct : Nat) (text : List UInt8) (b o cs : Nat) (s : List UInt8) (w : World) (hp : PartIs w (.slice ap np cp) pub) (ht : PartIs w (.slice at_ nt ct) text) (hs : PartIs w (.slice (some ⟨b, o, none⟩) 65 cs) s) (hq : c0c pub = true) (ho : b0D (s.take 33) = true) (hn : b0e mQ (s.drop 33) = true) : Calls Tryz.prog 56 #[.slice ap np cp, .slice at_ nt ct, .slice (some ⟨b, o, none⟩) 65 cs] w fun e w' => e = .returned (.tuple #[.agg (sgC (.slice ap np cp) (.slice (some ⟨b, o, none⟩) 33 cs) (elN mQ (b0I pub (s.take 33) text)) (elN mQ (beN (s.drop 33)))).toArray, .bool true]) ∧ Fr Nob w w' := by
 have HP := Lib.hid hp
 have HT := Lib.hid ht
 have HS := Lib.hid hs
 have HR := Lib.hid (show c0F [pub] = true by rw [e0q]; exact hq)
 have hcs : 65 ≤ cs := by obtain ⟨a', n', c', he, hc, -⟩ := hs; cases he; exact hc
 have HSF := Lib.hid (f0s hs 33 ap12)
 have HSZ := Lib.hid (h0c hs 33 ap12)
 have k1 := fun wx => c0m (P := Tryz.prog) wx Tryz.underlying22 c0d (some ⟨b, o, none⟩) 65 cs .i64 33 ap13
 have k2 := fun wx => d0e (P := Tryz.prog) wx Tryz.underlying22 c0d (some ⟨b, o, none⟩) 65 cs .i64 33 ap13
 have hcI : (33 : Int) ≤ (cs : Int) := by omega
 have hcN : ¬ (cs = 33) := by omega
 have HO := Lib.hid ho
 have HN := Lib.hid hn
 clear hp ht hs hq ho hn hcs
 have st0 := St.start Nob w
 go_enter Tryz.func56, Tryz.ntmps56
 go_wp2_with (with_reducible refine wSk 6 ?_)
 refine a0a st0 rfl rfl o0x (sgC (.slice none 0 0) (.slice none 0 0) 0 0) rfl ?_
 intro g6 w1 st1
 clear st0
 go_wp2_with (with_reducible refine wSk 9 ?_)
 refine c0n rfl rfl Tryz.underlying39 d0A [.slice ap np cp] rfl (by simp; rfl) rfl rfl ?_
 intro w2 hh2 hf2 hz2
 have st2 := st1.keep hf2
 have HSL := Lib.hid hh2
 clear hh2 hf2 hz2 st1
 generalize w1.heap.size = gl9 at *
 go_wp2_with fail
 refine (g0I _ 1 1 [.slice ap np cp] [pub] _ (Rd.whole HSL.out) (BParts.one (e0a (HP.out.still st2.fr))) ap12).mono ?_
 rintro e' w3 ⟨rfl, hf3⟩
 have st3 := st2.keep hf3
 clear st2 hf3
 clear HSL
 rw [HR.out]
 go_wp2_with fail
 refine (f0M _ (s.take 33) _ (e0a (HSF.out.still st3.fr)) HO.out).mono ?_
 rintro e' w4 ⟨rfl, hf4⟩
 have st4 := st3.keep hf4
 clear st3 hf4
 have hz0 := (st4.at 0 rfl).free 0 (by rw [b0O]; decide)
 have hz1 := (st4.at 0 rfl).free 1 (by rw [b0O]; decide)
 have hd0 := (st4.at 0 rfl).cell (i := 0) (v := .slice none 0 0) (by unfold sgC; rfl)
 have hd1 := (st4.at 0 rfl).cell (i := 1) (v := .slice none 0 0) (by unfold sgC; rfl)
 go_wp2_with fail
 go_region
 all_goals
  clear hz0 hz1 hd0 hd1
  go_wp2_with fail
  first
   | (have stn := u0o st4 (.slice ap np cp) (.slice (some ⟨b, o, none⟩) 33 cs); refine (v0D mQ .one _ _ _ (s.drop 33) _ (e0K (HSZ.out.still stn.fr)) HN.out).mono ?_)
   | (have stn := u0p st4 (.slice ap np cp) (.slice (some ⟨b, o, none⟩) 33 cs); refine (v0D mQ .one _ _ _ (s.drop 33) _ (e0K (HSZ.out.still stn.fr)) HN.out).mono ?_)
  all_goals clear st4
  rintro e' w5 ⟨rfl, hf5⟩
  have st5 := stn.keep hf5
  clear stn hf5
  go_wp2_with (with_reducible refine wSn ?_)
  refine d0d (cs := cw 4 (elN mQ (beN (s.drop 33)))) rfl rfl rfl rfl (st5.at 0 rfl) (by rw [a0e, b0O]; decide) (f0h _) (a0g _ _) ?_
  intro w6 hg6 hf6 hz6
  rw [x0U] at hg6
  have st6 := st5.put 0 rfl hf6 hg6
  clear st5 hf6 hg6 hz6
  have hc1 := (st6.at 0 rfl).cell (i := 1) (v := .slice (some ⟨b, o, none⟩) 33 cs) (by unfold sgC; rfl)
  go_wp2_with fail
  refine (t0F (.slice ap np cp) pub (.slice (some ⟨b, o, none⟩) 33 cs) (s.take 33) (.slice at_ nt ct) text _ (HP.out.still st6.fr) (HSF.out.still st6.fr) (HT.out.still st6.fr)).mono ?_
  rintro e' w7 ⟨rfl, hf7⟩
  have st7 := st6.keep hf7
  clear st6 hf7 hc1
  go_wp2_with (with_reducible refine wSn ?_)
  refine d0d (cs := cw 4 (elN mQ (b0I pub (s.take 33) text))) rfl rfl rfl rfl (st7.at 0 rfl) (by first | (simp [a0e]; done) | (simp [b0O]; done) | (simp [a0e, b0O]; done) | simp [a0e, b0O]) (f0h _) (a0g _ _) ?_
  intro w8 hg8 hf8 hz8
  rw [C0b] at hg8
  have st8 := st7.put 0 rfl hf8 hg8
  clear st7 hf8 hg8 hz8
  go_wp2_with (with_reducible refine wSk 43 ?_)
  refine a0m st8 0 rfl rfl rfl Tryz.underlying82 rfl rfl (d0r _ _ _ _) ?_
  go_wp2_with (with_reducible refine wSn ?_)
  refine a0b st8 0 rfl rfl rfl rfl rfl (by simp only [b0O]) (d0r _ _ _ _) (d0Z _ _ _ _ _ _ _ _) ?_
  intro w9 st9
  clear st8
  have hr := st9.at 0 rfl
  have hfr := st9.fr
  clear st9
  go_wp2_with fail
  exact bodyPost_ret (a0x rfl rfl hr Tryz.underlying82 rfl (d0r _ _ _ _) rfl) rfl ⟨rfl, hfr⟩
end Go.Proofs.YtmebmhjppmfbbaaGreat


set_option maxHeartbeats 16000000
set_option maxRecDepth 1000000
namespace Go.Proofs.YtmebmhjppmfbbaaGreat
open Go.RowKit Go.Mv Mvp Mvq
theorem p0U : ∀ (xs : List Nat) (lp : List (List UInt8)), (∀ l ∈ lp, b0D l = true) → f0u (List.zipWith (fun x l => (x % mQ.M, c0r l)) xs lp) = f0u (List.zipWith (fun x l => (x, c0r l)) xs lp)
 | [], _, _ => rfl
 | _ :: _, [], _ => rfl
 | x :: xs, l :: lp, h => by
  simp only [List.zipWith_cons_cons, f0u]
  rw [p0U xs lp fun k hk => h k (List.mem_cons_of_mem _ hk), w0T, h0K (m0I (h l List.mem_cons_self))]
theorem C0h (xs : List Nat) (lp : List (List UInt8)) (hl : xs.length = lp.length) (h5 : xs.length ≤ 512) (hr : ∀ l ∈ lp, b0D l = true) : j0W (zB xs) lp = b0C (f0u (List.zipWith (fun x l => (x, c0r l)) xs lp)) := by
 have hn : b0B mQ (zB xs) = true := by
  unfold b0B zB
  rw [List.all_eq_true]
  intro y hy
  obtain ⟨x, _, rfl⟩ := List.mem_map.1 hy
  exact l0m x
 have hr2 : d0q lp = true := by unfold d0q; rw [List.all_eq_true]; exact hr
 unfold j0W
 rw [if_pos (by rw [p0Q]; exact hl), if_pos (by rw [p0Q]; exact h5), hn, hr2, if_pos rfl, if_pos rfl, ← p0U xs lp hr]
 congr 2
 apply List.ext_getElem (by simp [smL, hl])
 intro i h1 h2
 simp only [smL, List.length_map, List.length_range] at h1
 have h3 : i < xs.length := by omega
 simp [smL, zB, List.getD_eq_getElem?_getD, h1, h3, p0P]
open Classical in
theorem D0F {p : Pt} : ((((b0C p).getD 0 0).toNat : Int) == 0) = decide (p = .O) := by
 cases p with
 | O => rw [decide_eq_true rfl, wrO]; rfl
 | A x y =>
  have h : (b0C (.A x y)).getD 0 0 = UInt8.ofNat (2 + y.val % 2) := rfl
  have h2 : (UInt8.ofNat (2 + y.val % 2)).toNat = 2 + y.val % 2 := by rw [UInt8.toNat_ofNat']; omega
  rw [h, h2, decide_eq_false (by intro h; cases h)]
  simp
  omega
theorem A0i {P F : List UInt8} (z c : Nat) (hF : b0D F = true) (hP : b0D P = true) :
  j0W (zB [z, mQ.M - 1 % mQ.M, mQ.M - c % mQ.M]) [b0C gP, F, P] = b0C (a0U (a0P z gP) (a0U (d0w (c0r F)) (d0w (a0P c (c0r P))))) := by
 have hO : b0D (b0C gP) = true := (n0V l0d).1
 rw [C0h _ _ rfl ap14 (by intro l hl; simp only [List.mem_cons, List.not_mem_nil, or_false] at hl; rcases hl with rfl | rfl | rfl <;> assumption)]
 simp only [List.zipWith_cons_cons, List.zipWith_nil_left, f0u]
 rw [(n0V l0d).2, b0G, w0T, t0C (m0I hF), p0A (m0I hP)]
open Classical in
theorem A0j {P F : List UInt8} (z c : Nat) (hF : b0D F = true) (hP : b0D P = true) :
  ((((b0C (a0U (a0P z gP) (a0U (d0w (c0r F)) (d0w (a0P c (c0r P)))))).getD 0 0).toNat : Int) == 0) = decide (a0P z gP = a0U (c0r F) (a0P c (c0r P))) := by
 rw [D0F]
 have h := z0B (a0W l0d z) (m0I hF) (a0W (m0I hP) c)
 by_cases h2 : a0P z gP = a0U (c0r F) (a0P c (c0r P))
 ·rw [decide_eq_true h2, decide_eq_true (h.2 h2)]
 ·rw [decide_eq_false h2, decide_eq_false (fun h3 => h2 (h.1 h3))]
open Classical in
theorem u0q {pub text s : List UInt8} (h : rdG pub s = true) : veB pub text s = decide (a0P (beN (s.drop 33)) gP = a0U (c0r (s.take 33)) (a0P (b0I pub (s.take 33) text) (c0r pub))) := by
 unfold veB
 unfold rdG at h
 simp only [Bool.and_eq_true] at h
 rw [h.1, h.2.1, h.2.2.1, h.2.2.2]
 rfl
theorem C0i {pub text s : List UInt8} (h : rdG pub s = false) : veB pub text s = false := by
 unfold veB
 unfold rdG at h
 rw [Bool.and_assoc, Bool.and_assoc] at *
 have e : ∀ a b c d e : Bool, (a && (b && (c && d))) = false → (a && (b && (c && (d && e)))) = false := by decide
 simp only [Bool.and_assoc] at *
 exact e _ _ _ _ _ h
theorem l0p {l : List UInt8} (h : c0c l = true) : b0D l = true := by unfold c0c at h; rw [Bool.and_eq_true] at h; exact h.1
theorem i0W {w : World} {a : Option Addr} {n c : Nat} {b : List UInt8} (hb : PartIs w (.slice a n c) b) : b.length = n := (e0K hb).len
theorem D0e (x : Nat) : (i4 x).cells.size = 4 := by simp [i4, Value.cells, a0e]
attribute [local irreducible] a0E lw mix cw b0o b0x b0l a0L a0q beN b0F b0c b0z a0J a0N elN mdL b0e rtV b0Q b0C b0D c0r b0B d0q o0t j0W a0P b0t b0K toB a0w a0I b0u c0v a0K c0B b0n a0G c0G e0U d0N j0T sgF sgZ b0I chN c0c c0F tS sgC rdG f0u
theorem A0k (ap : Option Addr) (np cp : Nat) (pub : List UInt8) (at_ : Option Addr) (nt ct : Nat) (text : List UInt8) (as_ : Option Addr) (ns cs : Nat) (s : List UInt8) (w : World) (hp : PartIs w (.slice ap np cp) pub) (ht : PartIs w (.slice at_ nt ct) text) (hs : PartIs w (.slice as_ ns cs) s) (h : rdG pub s = false) : Calls Tryz.prog 56 #[.slice ap np cp, .slice at_ nt ct, .slice as_ ns cs] w fun e w' => ∃ cells : List Value, e = .returned (.tuple #[.agg cells.toArray, .bool false]) ∧ cells.length = 10 ∧ (∀ v ∈ cells, v.oneCell' = true) ∧ Fr Nob w w' := by
 have hl := i0W hs
 unfold rdG at h
 cases h1 : c0c pub with
 | false => exact C0c ap np cp pub at_ nt ct text as_ ns cs s w hp ht hs h1
 | true =>
  by_cases h2 : ns = 65
  ·subst h2
   obtain ⟨b, o, rfl, -⟩ := (e0K hs).at ap12
   rw [h1, decide_eq_true hl, Bool.true_and, Bool.true_and] at h
   cases h3 : b0D (s.take 33) with
   | false => exact C0e ap np cp pub at_ nt ct text b o cs s w hp ht hs h1 h3
   | true =>
    rw [h3, Bool.true_and] at h
    exact C0f ap np cp pub at_ nt ct text b o cs s w hp ht hs h1 h3 h
  ·exact C0d ap np cp pub at_ nt ct text as_ ns cs s w hp ht hs h1 h2
theorem x0a (ap : Option Addr) (np cp : Nat) (pub : List UInt8) (at_ : Option Addr) (nt ct : Nat) (text : List UInt8) (as_ : Option Addr) (ns cs : Nat) (s : List UInt8) (w : World) (hp : PartIs w (.slice ap np cp) pub) (ht : PartIs w (.slice at_ nt ct) text) (hs : PartIs w (.slice as_ ns cs) s) (h : rdG pub s = true) : Calls Tryz.prog 56 #[.slice ap np cp, .slice at_ nt ct, .slice as_ ns cs] w fun e w' => ∃ b o, as_ = some ⟨b, o, none⟩ ∧ e = .returned (.tuple #[.agg (sgC (.slice ap np cp) (.slice (some ⟨b, o, none⟩) 33 cs) (elN mQ (b0I pub (s.take 33) text)) (elN mQ (beN (s.drop 33)))).toArray, .bool true]) ∧ Fr Nob w w' := by
 have hl := i0W hs
 unfold rdG at h
 simp only [Bool.and_eq_true, decide_eq_true_eq] at h
 obtain rfl : ns = 65 := by omega
 obtain ⟨b, o, rfl, -⟩ := (e0K hs).at ap12
 exact (C0g ap np cp pub at_ nt ct text b o cs s w hp ht hs h.1 h.2.2.1 h.2.2.2).mono fun e w' k => ⟨b, o, rfl, k⟩
theorem u0r (ap : Option Addr) (np cp : Nat) (pub : List UInt8) (at_ : Option Addr) (nt ct : Nat) (text : List UInt8) (as_ : Option Addr) (ns cs : Nat) (s : List UInt8) (w : World) (hp : PartIs w (.slice ap np cp) pub) (ht : PartIs w (.slice at_ nt ct) text) (hs : PartIs w (.slice as_ ns cs) s) (h : rdG pub s = false) : Calls Tryz.prog 16 #[.slice ap np cp, .slice at_ nt ct, .slice as_ ns cs] w fun e w' => e = .returned (.bool false) ∧ Fr Nob w w' := by
 have HP := Lib.hid hp
 have HT := Lib.hid ht
 have HS := Lib.hid hs
 have HG := Lib.hid h
 clear hp ht hs h
 have st0 := St.start Nob w
 go_enter Tryz.func16, Tryz.ntmps16
 go_wp2_with fail
 refine (A0k ap np cp pub at_ nt ct text as_ ns cs s _ HP.out HT.out HS.out HG.out).mono ?_
 rintro e' w1 ⟨cells, rfl, hl, hone, hf1⟩
 have st1 := st0.keep hf1
 clear st0 hf1
 have HL := Lib.hid hl
 have HONE := Lib.hid hone
 clear hl hone
 go_wp2_with (with_reducible refine wSk 7 ?_)
 refine a0a st1 rfl rfl o0x (sgC (.slice none 0 0) (.slice none 0 0) 0 0) rfl ?_
 intro g7 w2 st2
 clear st1
 go_wp2_with (with_reducible refine wSn ?_)
 refine a0b (cs := cells) st2 0 rfl rfl rfl rfl rfl (by rw [HL.out, b0O]) (by rw [HL.out]; kernel_rfl) HONE.out ?_
 intro w3 st3
 clear st2
 go_wp2_with fail
 refine wp_region_noPanic ?_
 have hd3 := st3.drew
 clear st3
 refine f0F (fun wx => St Nob w wx [(g7, cells, 82)] ∧ Fr Nob (World.drew _) wx) [0, 1, 2, 3, 4, 5, 6, 7, 8, 9, 10, 11, 12, 13, 14, 15, 16, 17] [] (fun i => match i with | 0 => [] | 1 => [0] | 2 => [1] | 3 => [1] | 4 => [1] | 5 => [1] | 6 => [1] | 7 => [1] | 8 => [1] | 9 => [1] | 10 => [1] | 11 => [1] | 12 => [1] | 13 => [1] | 14 => [1] | 15 => [1] | 16 => [1] | 17 => [1] | _ => []) (fun i x wx => match i with | 0 => x 0 = .bool false | 1 => x 1 = .bool false | 2 => True | 3 => True | 4 => True | 5 => True | 6 => True | 7 => True | 8 => True | 9 => True | 10 => True | 11 => True | 12 => True | 13 => True | 14 => True | 15 => True | 16 => True | 17 => True | _ => True) 19 (.w 18 (.m 19 .nil)) ?_ (fun x => ?_) ap11 ap11 (fun _ _ _ _ _ h => h) ⟨hd3, Fr.refl _ _⟩ (fun _ _ h k => ⟨h.1.keep k, h.2.then k⟩) ?_ ?_
 rotate_left 1
 ·simp only [h0s, A0g, Act.put, List.getElem?_toArray, List.getElem?_cons_zero, List.getElem?_cons_succ, List.setIfInBounds_toArray, List.set_cons_zero, List.set_cons_succ]
  exact rfl
 refine g0J rfl rfl (fun x wx hG hp => ?_) (fun y _ _ h k => h) ?_
 ·try dsimp only
  clear hp
  exact h0t (v := .bool false) (by go_simp; try with_reducible rfl) rfl
 refine g0J rfl rfl (fun x wx hG hp => ?_) (fun y _ _ h k => h) ?_
 ·try dsimp only
  have e0 : x 0 = .bool false := hp 0 ap12
  generalize x 0 = v0 at e0 ⊢
  subst e0
  clear hp
  exact h0t (v := .bool false) (by go_simp; try with_reducible rfl) rfl
 refine b0w rfl rfl (fun x wx hG hp => ?_) (fun _ _ => trivial) ?_
 ·try dsimp only
  have e1 : x 1 = .bool false := hp 1 ap12
  generalize x 1 = v1 at e1 ⊢
  subst e1
  clear hp
  rfl
 refine b0w rfl rfl (fun x wx hG hp => ?_) (fun _ _ => trivial) ?_
 ·try dsimp only
  have e1 : x 1 = .bool false := hp 1 ap12
  generalize x 1 = v1 at e1 ⊢
  subst e1
  clear hp
  rfl
 refine b0w rfl rfl (fun x wx hG hp => ?_) (fun _ _ => trivial) ?_
 ·try dsimp only
  have e1 : x 1 = .bool false := hp 1 ap12
  generalize x 1 = v1 at e1 ⊢
  subst e1
  clear hp
  rfl
 refine b0w rfl rfl (fun x wx hG hp => ?_) (fun _ _ => trivial) ?_
 ·try dsimp only
  have e1 : x 1 = .bool false := hp 1 ap12
  generalize x 1 = v1 at e1 ⊢
  subst e1
  clear hp
  rfl
 refine b0w rfl rfl (fun x wx hG hp => ?_) (fun _ _ => trivial) ?_
 ·try dsimp only
  have e1 : x 1 = .bool false := hp 1 ap12
  generalize x 1 = v1 at e1 ⊢
  subst e1
  clear hp
  rfl
 refine b0w rfl rfl (fun x wx hG hp => ?_) (fun _ _ => trivial) ?_
 ·try dsimp only
  have e1 : x 1 = .bool false := hp 1 ap12
  generalize x 1 = v1 at e1 ⊢
  subst e1
  clear hp
  rfl
 refine b0w rfl rfl (fun x wx hG hp => ?_) (fun _ _ => trivial) ?_
 ·try dsimp only
  have e1 : x 1 = .bool false := hp 1 ap12
  generalize x 1 = v1 at e1 ⊢
  subst e1
  clear hp
  rfl
 refine b0w rfl rfl (fun x wx hG hp => ?_) (fun _ _ => trivial) ?_
 ·try dsimp only
  have e1 : x 1 = .bool false := hp 1 ap12
  generalize x 1 = v1 at e1 ⊢
  subst e1
  clear hp
  rfl
 refine b0w rfl rfl (fun x wx hG hp => ?_) (fun _ _ => trivial) ?_
 ·try dsimp only
  have e1 : x 1 = .bool false := hp 1 ap12
  generalize x 1 = v1 at e1 ⊢
  subst e1
  clear hp
  rfl
 refine b0w rfl rfl (fun x wx hG hp => ?_) (fun _ _ => trivial) ?_
 ·try dsimp only
  have e1 : x 1 = .bool false := hp 1 ap12
  generalize x 1 = v1 at e1 ⊢
  subst e1
  clear hp
  rfl
 refine b0w rfl rfl (fun x wx hG hp => ?_) (fun _ _ => trivial) ?_
 ·try dsimp only
  have e1 : x 1 = .bool false := hp 1 ap12
  generalize x 1 = v1 at e1 ⊢
  subst e1
  clear hp
  rfl
 refine b0w rfl rfl (fun x wx hG hp => ?_) (fun _ _ => trivial) ?_
 ·try dsimp only
  have e1 : x 1 = .bool false := hp 1 ap12
  generalize x 1 = v1 at e1 ⊢
  subst e1
  clear hp
  rfl
 refine b0w rfl rfl (fun x wx hG hp => ?_) (fun _ _ => trivial) ?_
 ·try dsimp only
  have e1 : x 1 = .bool false := hp 1 ap12
  generalize x 1 = v1 at e1 ⊢
  subst e1
  clear hp
  rfl
 refine b0w rfl rfl (fun x wx hG hp => ?_) (fun _ _ => trivial) ?_
 ·try dsimp only
  have e1 : x 1 = .bool false := hp 1 ap12
  generalize x 1 = v1 at e1 ⊢
  subst e1
  clear hp
  rfl
 refine b0w rfl rfl (fun x wx hG hp => ?_) (fun _ _ => trivial) ?_
 ·try dsimp only
  have e1 : x 1 = .bool false := hp 1 ap12
  generalize x 1 = v1 at e1 ⊢
  subst e1
  clear hp
  rfl
 refine b0w rfl rfl (fun x wx hG hp => ?_) (fun _ _ => trivial) ?_
 ·try dsimp only
  have e1 : x 1 = .bool false := hp 1 ap12
  generalize x 1 = v1 at e1 ⊢
  subst e1
  clear hp
  rfl
 exact trivial
 intro x w4 hG hp
 try dsimp only
 have e1 : x 1 = .bool false := hp 1 ap12
 generalize x 1 = v1 at e1 ⊢
 subst e1
 clear hp
 generalize x 0 = v0
 generalize x 2 = v2
 generalize x 3 = v3
 generalize x 4 = v4
 generalize x 5 = v5
 generalize x 6 = v6
 generalize x 7 = v7
 generalize x 8 = v8
 generalize x 9 = v9
 generalize x 10 = v10
 generalize x 11 = v11
 generalize x 12 = v12
 generalize x 13 = v13
 generalize x 14 = v14
 generalize x 15 = v15
 generalize x 16 = v16
 generalize x 17 = v17
 have st4 := hG.1
 clear hG hd3
 refine a0k rfl rfl apW ?_
 try simp only [clL]
 refine a0r rfl rfl ?_
 go_simp
 try simp only [clL]
 refine a0j ?_
 refine NoPanic.normal ?_
 have hfr := st4.fr
 clear st4
 go_wp2_with fail
 go_ret
 exact ⟨rfl, hfr⟩
theorem BParts.three {w : World} {v1 v2 v3 : Value} {l1 l2 l3 : List UInt8} (h1 : BPart w v1 l1) (h2 : BPart w v2 l2) (h3 : BPart w v3 l3) : BParts w [v1, v2, v3] [l1, l2, l3] := ⟨rfl, fun i x hx => by
 match i with
 | 0 => simp at hx; subst hx; exact h1
 | 1 => simp at hx; subst hx; exact h2
 | 2 => simp at hx; subst hx; exact h3
 | i + 3 => simp at hx⟩
theorem r0n (ap : Option Addr) (np cp : Nat) (pub : List UInt8) (at_ : Option Addr) (nt ct : Nat) (text : List UInt8) (as_ : Option Addr) (ns cs : Nat) (s : List UInt8) (w : World) (hp : PartIs w (.slice ap np cp) pub) (ht : PartIs w (.slice at_ nt ct) text) (hs : PartIs w (.slice as_ ns cs) s) (h : rdG pub s = true) : Calls Tryz.prog 16 #[.slice ap np cp, .slice at_ nt ct, .slice as_ ns cs] w fun e w' => e = .returned (.bool (veB pub text s)) ∧ Fr Nob w w' := by
 have HP := Lib.hid hp
 have HT := Lib.hid ht
 have HS := Lib.hid hs
 have HG := Lib.hid h
 clear hp ht hs h
 have st0 := St.start Nob w
 go_enter Tryz.func16, Tryz.ntmps16
 go_wp2_with fail
 refine (x0a ap np cp pub at_ nt ct text as_ ns cs s _ HP.out HT.out HS.out HG.out).mono ?_
 rintro e' w1 ⟨b, o, rfl, rfl, hf1⟩
 have st1 := st0.keep hf1
 clear st0 hf1
 go_wp2_with (with_reducible refine wSk 7 ?_)
 refine a0a st1 rfl rfl o0x (sgC (.slice none 0 0) (.slice none 0 0) 0 0) rfl ?_
 intro g7 w2 st2
 clear st1
 go_wp2_with (with_reducible refine wSn ?_)
 refine a0b (cs := sgC (.slice ap np cp) (.slice (some ⟨b, o, none⟩) 33 cs) (elN mQ (b0I pub (s.take 33) text)) (elN mQ (beN (s.drop 33)))) st2 0 rfl rfl rfl rfl rfl (by simp only [b0O]) (d0r _ _ _ _) (d0Z _ _ _ _ _ _ _ _) ?_
 intro w3 st3
 clear st2
 have HSF := Lib.hid (f0s HS.out 33 (by have h := HG.out; have h2 := i0W HS.out; unfold rdG at h; simp only [Bool.and_eq_true, decide_eq_true_eq] at h; omega))
 obtain ⟨B, hB⟩ : ∃ B, (((((b0C (a0U (a0P (beN (s.drop 33)) gP) (a0U (d0w (c0r (s.take 33))) (d0w (a0P (b0I pub (s.take 33) text) (c0r pub))))))).getD 0 0).toNat : Int) == 0) = B := ⟨_, rfl⟩
 have HB := Lib.hid hB
 clear hB HT HS
 have HVS := Lib.hid (show j0W (zB [beN (s.drop 33), (mQ.M - 1 % mQ.M), (mQ.M - (b0I pub (s.take 33) text) % mQ.M)]) [b0C gP, s.take 33, pub] = (b0C (a0U (a0P (beN (s.drop 33)) gP) (a0U (d0w (c0r (s.take 33))) (d0w (a0P (b0I pub (s.take 33) text) (c0r pub)))))) from A0i _ _ (by have h := HG.out; unfold rdG at h; simp only [Bool.and_eq_true] at h; exact h.2.2.1) (by have h := HG.out; unfold rdG at h; simp only [Bool.and_eq_true] at h; exact l0p h.1))
 have HDB := Lib.hid (show B = veB pub text s by rw [← HB.out, u0q HG.out]; exact A0j _ _ (by have h := HG.out; unfold rdG at h; simp only [Bool.and_eq_true] at h; exact h.2.2.1) (by have h := HG.out; unfold rdG at h; simp only [Bool.and_eq_true] at h; exact l0p h.1))
 go_wp2_with fail
 refine wp_region_noPanic ?_
 have hd3 := st3.drew
 clear st3
 refine f0F (fun wx => St Nob w wx [(g7, sgC (.slice ap np cp) (.slice (some ⟨b, o, none⟩) 33 cs) (elN mQ (b0I pub (s.take 33) text)) (elN mQ (beN (s.drop 33))), 82)] ∧ Fr Nob (World.drew _) wx) [0, 1, 2, 3, 4, 5, 6, 7, 8, 9, 10, 11, 12, 13, 14, 15, 16, 17] [] (fun i => match i with | 0 => [] | 1 => [0] | 2 => [1] | 3 => [2, 1] | 4 => [1] | 5 => [4, 1] | 6 => [1] | 7 => [6, 1] | 8 => [7, 1] | 9 => [3, 5, 8, 1] | 10 => [1] | 11 => [1] | 12 => [11, 1] | 13 => [1] | 14 => [13, 1] | 15 => [10, 12, 14, 1] | 16 => [9, 15, 1] | 17 => [16, 1] | _ => []) (fun i x wx => match i with | 0 => x 0 = .bool true | 1 => x 1 = .bool true | 2 => x 2 = .pointer (some ⟨g7, 6, none⟩) | 3 => x 3 = i4 (elN mQ (beN (s.drop 33))) | 4 => x 4 = i4 (elN mQ 1) | 5 => x 5 = i4 (elN mQ (mQ.M - 1 % mQ.M)) | 6 => x 6 = .pointer (some ⟨g7, 2, none⟩) | 7 => x 7 = i4 (elN mQ (b0I pub (s.take 33) text)) | 8 => x 8 = i4 (elN mQ (mQ.M - (b0I pub (s.take 33) text) % mQ.M)) | 9 => ∃ g, x 9 = .slice (some ⟨g, 0, none⟩) 3 3 ∧ Has wx g (d0N [beN (s.drop 33), (mQ.M - 1 % mQ.M), (mQ.M - (b0I pub (s.take 33) text) % mQ.M)]) 61 | 10 => ∃ y : Option Addr × Nat, x 10 = .slice y.1 33 y.2 ∧ BPart wx (.slice y.1 33 y.2) (b0C gP) | 11 => x 11 = .pointer (some ⟨g7, 1, none⟩) | 12 => x 12 = .slice (some ⟨b, o, none⟩) 33 cs | 13 => x 13 = .pointer (some ⟨g7, 0, none⟩) | 14 => x 14 = .slice ap np cp | 15 => ∃ (g : Nat) (y : Option Addr × Nat), x 15 = .slice (some ⟨g, 0, none⟩) 3 3 ∧ Has wx g [.slice y.1 33 y.2, .slice (some ⟨b, o, none⟩) 33 cs, .slice ap np cp] 22 ∧ BPart wx (.slice y.1 33 y.2) (b0C gP) | 16 => ∃ y : Option Addr × Nat, x 16 = .slice y.1 33 y.2 ∧ RdB wx y.1 33 (b0C (a0U (a0P (beN (s.drop 33)) gP) (a0U (d0w (c0r (s.take 33))) (d0w (a0P (b0I pub (s.take 33) text) (c0r pub)))))) | 17 => x 17 = .bool B | _ => True) 19 (.w 18 (.m 19 .nil)) ?_ (fun x => ?_) ap11 ap11 (fun _ _ _ _ _ h => h) ⟨hd3, Fr.refl _ _⟩ (fun _ _ h k => ⟨h.1.keep k, h.2.then k⟩) ?_ ?_
 rotate_left 1
 ·simp only [h0s, A0g, Act.put, List.getElem?_toArray, List.getElem?_cons_zero, List.getElem?_cons_succ, List.setIfInBounds_toArray, List.set_cons_zero, List.set_cons_succ]
  exact rfl
 refine g0J rfl rfl (fun x wx hG hp => ?_) (fun y _ _ h k => h) ?_
 ·try dsimp only
  clear hp
  exact h0t (v := .bool true) (by go_simp; try with_reducible rfl) rfl
 refine g0J rfl rfl (fun x wx hG hp => ?_) (fun y _ _ h k => h) ?_
 ·try dsimp only
  have e0 : x 0 = .bool true := hp 0 ap12
  generalize x 0 = v0 at e0 ⊢
  subst e0
  clear hp
  exact h0t (v := .bool true) (by go_simp; try with_reducible rfl) rfl
 refine b0g rfl rfl (fun x wx hG hp => ?_) (fun x wx hG hp => ?_) (fun y _ _ h k => h) ?_
 ·try dsimp only
  have e1 : x 1 = .bool true := hp 1 ap12
  generalize x 1 = v1 at e1 ⊢
  subst e1
  clear hp
  rfl
 ·try dsimp only
  have e1 : x 1 = .bool true := hp 1 ap12
  generalize x 1 = v1 at e1 ⊢
  subst e1
  clear hp
  exact h0t (v := .pointer (some ⟨g7, 6, none⟩)) (by go_simp; try with_reducible rfl) rfl
 refine b0g rfl rfl (fun x wx hG hp => ?_) (fun x wx hG hp => ?_) (fun y _ _ h k => h) ?_
 ·try dsimp only
  have e1 : x 1 = .bool true := hp 1 ap12
  generalize x 1 = v1 at e1 ⊢
  subst e1
  clear hp
  rfl
 ·try dsimp only
  have e2 : x 2 = .pointer (some ⟨g7, 6, none⟩) := hp 2 ap12
  generalize x 2 = v2 at e2 ⊢
  subst e2
  have e1 : x 1 = .bool true := hp 1 ap12
  generalize x 1 = v1 at e1 ⊢
  subst e1
  clear hp
  exact h0t (v := i4 (elN mQ (beN (s.drop 33)))) (j0Y (hG.1.at 0 rfl) (x := .tmp 18) (p := 6) rfl rfl (cw 4 (elN mQ (beN (s.drop 33)))) (D0d _ _ _ _) Tryz.underlying61 rfl (f0h _)) rfl
 refine b0g rfl rfl (fun x wx hG hp => ?_) (fun x wx hG hp => ?_) (fun y _ _ h k => h) ?_
 ·try dsimp only
  have e1 : x 1 = .bool true := hp 1 ap12
  generalize x 1 = v1 at e1 ⊢
  subst e1
  clear hp
  rfl
 ·try dsimp only
  have e1 : x 1 = .bool true := hp 1 ap12
  generalize x 1 = v1 at e1 ⊢
  subst e1
  clear hp
  refine k0a rfl Tryz.call59 (vs := [.int .u64 1]) rfl ?_
  refine (q0M mQ .one 1 ap12 _).mono ?_
  rintro e w' ⟨rfl, hf⟩
  exact ⟨_, rfl, hf, rfl⟩
 refine b0g rfl rfl (fun x wx hG hp => ?_) (fun x wx hG hp => ?_) (fun y _ _ h k => h) ?_
 ·try dsimp only
  have e1 : x 1 = .bool true := hp 1 ap12
  generalize x 1 = v1 at e1 ⊢
  subst e1
  clear hp
  rfl
 ·try dsimp only
  have e4 : x 4 = i4 (elN mQ 1) := hp 4 ap12
  generalize x 4 = v4 at e4 ⊢
  subst e4
  have e1 : x 1 = .bool true := hp 1 ap12
  generalize x 1 = v1 at e1 ⊢
  subst e1
  clear hp
  refine k0a rfl Tryz.call60 (vs := [i4 (elN mQ 1)]) rfl ?_
  refine (p0N mQ .one 1 _).mono ?_
  rintro e w' ⟨rfl, hf⟩
  exact ⟨_, rfl, hf, rfl⟩
 refine b0g rfl rfl (fun x wx hG hp => ?_) (fun x wx hG hp => ?_) (fun y _ _ h k => h) ?_
 ·try dsimp only
  have e1 : x 1 = .bool true := hp 1 ap12
  generalize x 1 = v1 at e1 ⊢
  subst e1
  clear hp
  rfl
 ·try dsimp only
  have e1 : x 1 = .bool true := hp 1 ap12
  generalize x 1 = v1 at e1 ⊢
  subst e1
  clear hp
  exact h0t (v := .pointer (some ⟨g7, 2, none⟩)) (by go_simp; try with_reducible rfl) rfl
 refine b0g rfl rfl (fun x wx hG hp => ?_) (fun x wx hG hp => ?_) (fun y _ _ h k => h) ?_
 ·try dsimp only
  have e1 : x 1 = .bool true := hp 1 ap12
  generalize x 1 = v1 at e1 ⊢
  subst e1
  clear hp
  rfl
 ·try dsimp only
  have e6 : x 6 = .pointer (some ⟨g7, 2, none⟩) := hp 6 ap12
  generalize x 6 = v6 at e6 ⊢
  subst e6
  have e1 : x 1 = .bool true := hp 1 ap12
  generalize x 1 = v1 at e1 ⊢
  subst e1
  clear hp
  exact h0t (v := i4 (elN mQ (b0I pub (s.take 33) text))) (j0Y (hG.1.at 0 rfl) (x := .tmp 22) (p := 2) rfl rfl (cw 4 (elN mQ (b0I pub (s.take 33) text))) (D0c _ _ _ _) Tryz.underlying61 rfl (f0h _)) rfl
 refine b0g rfl rfl (fun x wx hG hp => ?_) (fun x wx hG hp => ?_) (fun y _ _ h k => h) ?_
 ·try dsimp only
  have e1 : x 1 = .bool true := hp 1 ap12
  generalize x 1 = v1 at e1 ⊢
  subst e1
  clear hp
  rfl
 ·try dsimp only
  have e7 : x 7 = i4 (elN mQ (b0I pub (s.take 33) text)) := hp 7 ap12
  generalize x 7 = v7 at e7 ⊢
  subst e7
  have e1 : x 1 = .bool true := hp 1 ap12
  generalize x 1 = v1 at e1 ⊢
  subst e1
  clear hp
  refine k0a rfl Tryz.call60 (vs := [i4 (elN mQ (b0I pub (s.take 33) text))]) rfl ?_
  refine (p0N mQ .one (b0I pub (s.take 33) text) _).mono ?_
  rintro e w' ⟨rfl, hf⟩
  exact ⟨_, rfl, hf, rfl⟩
 refine b0g rfl rfl (fun x wx hG hp => ?_) (fun x wx hG hp => ?_) (fun y _ _ h k => by obtain ⟨g, h1, h2⟩ := h; exact ⟨g, h1, h2.keep k id⟩) ?_
 ·try dsimp only
  have e1 : x 1 = .bool true := hp 1 ap12
  generalize x 1 = v1 at e1 ⊢
  subst e1
  clear hp
  rfl
 ·try dsimp only
  have e3 : x 3 = i4 (elN mQ (beN (s.drop 33))) := hp 3 ap12
  generalize x 3 = v3 at e3 ⊢
  subst e3
  have e5 : x 5 = i4 (elN mQ (mQ.M - 1 % mQ.M)) := hp 5 ap12
  generalize x 5 = v5 at e5 ⊢
  subst e5
  have e8 : x 8 = i4 (elN mQ (mQ.M - (b0I pub (s.take 33) text) % mQ.M)) := hp 8 ap12
  generalize x 8 = v8 at e8 ⊢
  subst e8
  have e1 : x 1 = .bool true := hp 1 ap12
  generalize x 1 = v1 at e1 ⊢
  subst e1
  clear hp
  refine p0T rfl Tryz.underlying90 B0d [i4 (elN mQ (beN (s.drop 33))), i4 (elN mQ (mQ.M - 1 % mQ.M)), i4 (elN mQ (mQ.M - (b0I pub (s.take 33) text) % mQ.M))] rfl (by intro u hu; simp only [List.mem_cons, List.not_mem_nil, or_false] at hu; rcases hu with rfl | rfl | rfl <;> exact D0e _) rfl (d0N [beN (s.drop 33), (mQ.M - 1 % mQ.M), (mQ.M - (b0I pub (s.take 33) text) % mQ.M)]) (by unfold d0N; simp [v0h]) (fun g w' _ _ hg => ⟨g, rfl, hg⟩)
 refine b0g rfl rfl (fun x wx hG hp => ?_) (fun x wx hG hp => ?_) (fun y _ _ h k => by obtain ⟨y, h1, h2⟩ := h; exact ⟨y, h1, h2.still k⟩) ?_
 ·try dsimp only
  have e1 : x 1 = .bool true := hp 1 ap12
  generalize x 1 = v1 at e1 ⊢
  subst e1
  clear hp
  rfl
 ·try dsimp only
  have e1 : x 1 = .bool true := hp 1 ap12
  generalize x 1 = v1 at e1 ⊢
  subst e1
  clear hp
  refine k0a rfl Tryz.call28 (vs := []) rfl ?_
  refine (u0g _).mono ?_
  rintro e w' ⟨y, rfl, hb, hf⟩
  exact ⟨_, rfl, hf, y, rfl, hb⟩
 refine b0g rfl rfl (fun x wx hG hp => ?_) (fun x wx hG hp => ?_) (fun y _ _ h k => h) ?_
 ·try dsimp only
  have e1 : x 1 = .bool true := hp 1 ap12
  generalize x 1 = v1 at e1 ⊢
  subst e1
  clear hp
  rfl
 ·try dsimp only
  have e1 : x 1 = .bool true := hp 1 ap12
  generalize x 1 = v1 at e1 ⊢
  subst e1
  clear hp
  exact h0t (v := .pointer (some ⟨g7, 1, none⟩)) (by go_simp; try with_reducible rfl) rfl
 refine b0g rfl rfl (fun x wx hG hp => ?_) (fun x wx hG hp => ?_) (fun y _ _ h k => h) ?_
 ·try dsimp only
  have e1 : x 1 = .bool true := hp 1 ap12
  generalize x 1 = v1 at e1 ⊢
  subst e1
  clear hp
  rfl
 ·try dsimp only
  have e11 : x 11 = .pointer (some ⟨g7, 1, none⟩) := hp 11 ap12
  generalize x 11 = v11 at e11 ⊢
  subst e11
  have e1 : x 1 = .bool true := hp 1 ap12
  generalize x 1 = v1 at e1 ⊢
  subst e1
  clear hp
  have hc := (hG.1.at 0 rfl).cell (i := 1) (v := .slice (some ⟨b, o, none⟩) 33 cs) (by unfold sgC; rfl)
  exact h0t (v := .slice (some ⟨b, o, none⟩) 33 cs) (by clear hG; go_simp; try with_reducible rfl) rfl
 refine b0g rfl rfl (fun x wx hG hp => ?_) (fun x wx hG hp => ?_) (fun y _ _ h k => h) ?_
 ·try dsimp only
  have e1 : x 1 = .bool true := hp 1 ap12
  generalize x 1 = v1 at e1 ⊢
  subst e1
  clear hp
  rfl
 ·try dsimp only
  have e1 : x 1 = .bool true := hp 1 ap12
  generalize x 1 = v1 at e1 ⊢
  subst e1
  clear hp
  exact h0t (v := .pointer (some ⟨g7, 0, none⟩)) (by go_simp; try with_reducible rfl) rfl
 refine b0g rfl rfl (fun x wx hG hp => ?_) (fun x wx hG hp => ?_) (fun y _ _ h k => h) ?_
 ·try dsimp only
  have e1 : x 1 = .bool true := hp 1 ap12
  generalize x 1 = v1 at e1 ⊢
  subst e1
  clear hp
  rfl
 ·try dsimp only
  have e13 : x 13 = .pointer (some ⟨g7, 0, none⟩) := hp 13 ap12
  generalize x 13 = v13 at e13 ⊢
  subst e13
  have e1 : x 1 = .bool true := hp 1 ap12
  generalize x 1 = v1 at e1 ⊢
  subst e1
  clear hp
  have hc := (hG.1.at 0 rfl).cell (i := 0) (v := .slice ap np cp) (by unfold sgC; rfl)
  exact h0t (v := .slice ap np cp) (by clear hG; go_simp; try with_reducible rfl) rfl
 refine b0g rfl rfl (fun x wx hG hp => ?_) (fun x wx hG hp => ?_) (fun y _ _ h k => by obtain ⟨g, y, h1, h2, h3⟩ := h; exact ⟨g, y, h1, h2.keep k id, h3.still k⟩) ?_
 ·try dsimp only
  have e1 : x 1 = .bool true := hp 1 ap12
  generalize x 1 = v1 at e1 ⊢
  subst e1
  clear hp
  rfl
 ·try dsimp only
  have e10 : ∃ y : Option Addr × Nat, x 10 = .slice y.1 33 y.2 ∧ BPart wx (.slice y.1 33 y.2) (b0C gP) := hp 10 ap12
  obtain ⟨yb, e10, HYB⟩ := e10
  generalize x 10 = v10 at e10 ⊢
  subst e10
  have e12 : x 12 = .slice (some ⟨b, o, none⟩) 33 cs := hp 12 ap12
  generalize x 12 = v12 at e12 ⊢
  subst e12
  have e14 : x 14 = .slice ap np cp := hp 14 ap12
  generalize x 14 = v14 at e14 ⊢
  subst e14
  have e1 : x 1 = .bool true := hp 1 ap12
  generalize x 1 = v1 at e1 ⊢
  subst e1
  clear hp
  refine p0T rfl Tryz.underlying39 d0A [.slice yb.1 33 yb.2, .slice (some ⟨b, o, none⟩) 33 cs, .slice ap np cp] rfl (by intro u hu; simp only [List.mem_cons, List.not_mem_nil, or_false] at hu; rcases hu with rfl | rfl | rfl <;> rfl) rfl [.slice yb.1 33 yb.2, .slice (some ⟨b, o, none⟩) 33 cs, .slice ap np cp] rfl (fun g w' hf _ hg => ⟨g, yb, rfl, hg, HYB.still hf⟩)
 refine b0g rfl rfl (fun x wx hG hp => ?_) (fun x wx hG hp => ?_) (fun y _ _ h k => by obtain ⟨y, h1, h2⟩ := h; exact ⟨y, h1, h2.still k⟩) ?_
 ·try dsimp only
  have e1 : x 1 = .bool true := hp 1 ap12
  generalize x 1 = v1 at e1 ⊢
  subst e1
  clear hp
  rfl
 ·try dsimp only
  have e9 : ∃ g, x 9 = .slice (some ⟨g, 0, none⟩) 3 3 ∧ Has wx g (d0N [beN (s.drop 33), (mQ.M - 1 % mQ.M), (mQ.M - (b0I pub (s.take 33) text) % mQ.M)]) 61 := hp 9 ap12
  obtain ⟨ga, e9, HGA⟩ := e9
  generalize x 9 = v9 at e9 ⊢
  subst e9
  have e15 : ∃ (g : Nat) (y : Option Addr × Nat), x 15 = .slice (some ⟨g, 0, none⟩) 3 3 ∧ Has wx g [.slice y.1 33 y.2, .slice (some ⟨b, o, none⟩) 33 cs, .slice ap np cp] 22 ∧ BPart wx (.slice y.1 33 y.2) (b0C gP) := hp 15 ap12
  obtain ⟨gb, yc, e15, HGB, HYC⟩ := e15
  generalize x 15 = v15 at e15 ⊢
  subst e15
  have e1 : x 1 = .bool true := hp 1 ap12
  generalize x 1 = v1 at e1 ⊢
  subst e1
  clear hp
  refine k0a rfl Tryz.call58 (vs := [.slice (some ⟨ga, 0, none⟩) 3 3, .slice (some ⟨gb, 0, none⟩) 3 3]) rfl ?_
  refine (D0a (some ⟨ga, 0, none⟩) 3 [beN (s.drop 33), (mQ.M - 1 % mQ.M), (mQ.M - (b0I pub (s.take 33) text) % mQ.M)] (some ⟨gb, 0, none⟩) 3 [.slice yc.1 33 yc.2, .slice (some ⟨b, o, none⟩) 33 cs, .slice ap np cp] [b0C gP, s.take 33, pub] _ (by have h := Rd.whole HGA; rwa [r0j] at h) ap14 (Rd.whole HGB) (BParts.three HYC (e0a (HSF.out.still hG.1.fr)) (e0a (HP.out.still hG.1.fr)))).mono ?_
  rintro e w' ⟨v, rfl, ho, hf⟩
  rw [HVS.out] at ho
  obtain ⟨a, c, rfl, hc, hr, -⟩ := Own.form ho
  rw [c0j] at hr ⊢
  exact ⟨_, rfl, hf, (a, c), rfl, hr⟩
 refine b0g rfl rfl (fun x wx hG hp => ?_) (fun x wx hG hp => ?_) (fun y _ _ h k => h) ?_
 ·try dsimp only
  have e1 : x 1 = .bool true := hp 1 ap12
  generalize x 1 = v1 at e1 ⊢
  subst e1
  clear hp
  rfl
 ·try dsimp only
  have e16 : ∃ y : Option Addr × Nat, x 16 = .slice y.1 33 y.2 ∧ RdB wx y.1 33 (b0C (a0U (a0P (beN (s.drop 33)) gP) (a0U (d0w (c0r (s.take 33))) (d0w (a0P (b0I pub (s.take 33) text) (c0r pub)))))) := hp 16 ap12
  obtain ⟨yd, e16, HYD⟩ := e16
  generalize x 16 = v16 at e16 ⊢
  subst e16
  have e1 : x 1 = .bool true := hp 1 ap12
  generalize x 1 = v1 at e1 ⊢
  subst e1
  clear hp
  refine k0a rfl Tryz.call57 (vs := [.slice yd.1 33 yd.2]) rfl ?_
  refine (o0u yd.1 yd.2 (b0C (a0U (a0P (beN (s.drop 33)) gP) (a0U (d0w (c0r (s.take 33))) (d0w (a0P (b0I pub (s.take 33) text) (c0r pub)))))) (c0j _) _ HYD B HB.out).mono ?_
  rintro e w' ⟨rfl, rfl⟩
  exact ⟨_, rfl, Fr.refl _ _, rfl⟩
 exact trivial
 intro x w4 hG hp
 try dsimp only
 have e1 : x 1 = .bool true := hp 1 ap12
 generalize x 1 = v1 at e1 ⊢
 subst e1
 have e17 : x 17 = .bool B := hp 17 ap12
 generalize x 17 = v17 at e17 ⊢
 subst e17
 clear hp
 generalize x 0 = v0
 generalize x 2 = v2
 generalize x 3 = v3
 generalize x 4 = v4
 generalize x 5 = v5
 generalize x 6 = v6
 generalize x 7 = v7
 generalize x 8 = v8
 generalize x 9 = v9
 generalize x 10 = v10
 generalize x 11 = v11
 generalize x 12 = v12
 generalize x 13 = v13
 generalize x 14 = v14
 generalize x 15 = v15
 generalize x 16 = v16
 have st4 := hG.1
 clear hG hd3
 refine a0k rfl rfl apW ?_
 try simp only [clL]
 refine a0r rfl rfl ?_
 go_simp
 try simp only [clL]
 refine a0j ?_
 refine NoPanic.normal ?_
 have hfr := st4.fr
 clear st4
 go_wp2_with fail
 go_ret
 exact ⟨by rw [← HDB.out]; rfl, hfr⟩
theorem p0V (ap : Option Addr) (np cp : Nat) (pub : List UInt8) (at_ : Option Addr) (nt ct : Nat) (text : List UInt8) (as_ : Option Addr) (ns cs : Nat) (s : List UInt8) (w : World) (hp : PartIs w (.slice ap np cp) pub) (ht : PartIs w (.slice at_ nt ct) text) (hs : PartIs w (.slice as_ ns cs) s) : Calls Tryz.prog 16 #[.slice ap np cp, .slice at_ nt ct, .slice as_ ns cs] w fun e w' => e = .returned (.bool (veB pub text s)) ∧ Fr Nob w w' := by
 cases h : rdG pub s with
 | false => rw [C0i h]; exact u0r ap np cp pub at_ nt ct text as_ ns cs s w hp ht hs h
 | true => exact r0n ap np cp pub at_ nt ct text as_ ns cs s w hp ht hs h
end Go.Proofs.YtmebmhjppmfbbaaGreat
