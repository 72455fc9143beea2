/- span.Read: the walk (printed by gen_sp12.py); The reference's Read: its closure; The reference's Read: the walk (printed by gen_sp14.py); Slices and structs that were handed in, of any element type, opened; An api.Range that came in, opened; The law SpanPuts (printed by gen_sp16.py); From a walk that turns nothing (Fr Nob) to what a law's row asks behind the call. -/
import Derived.Test.YtdadnajbdnbbdaaMgSpanPutsProof2
import Derived.Test.YtdadnajbdnbbdaaMgSpanPutsProof1
import Derived.ProofKit
import Derived.OpenShut
import Derived.Carry
namespace Go.Proofs.Ytdadnajbdnbbdaa
open Go.RowKit Go.Mv Mvp
attribute [local irreducible] cutL szL slotL
theorem info_u8c1 : (Try.prog.info? 5).map (·.size) = some 1 := by kernel_rfl
theorem cut_rdB {w : World} {p : Option Addr} {n : Nat} {l : List UInt8} (hr : RdB w p n l) (k c : Nat) (hk : k ≤ n) (hc : n ≤ c) : RdB w (cutAt p k c) (n - k) (l.drop k) := by
  have h := cutAt_rd hr k n c hk hc (Nat.le_refl _)
  have hl := hr.len
  unfold RdB
  rw [bs_drop, List.take_of_length_le (by rw [length_bs, List.length_drop]; omega)] at h
  exact h
theorem take_rdB {w : World} {p : Option Addr} {n : Nat} {l : List UInt8} (hr : RdB w p n l) (k : Nat) (hk : k ≤ n) : RdB w p k (l.take k) := by
  have h := cutAt_rd hr 0 k n (Nat.zero_le _) hk hk
  rw [cutAt_0, List.drop_zero, bs_take, Nat.sub_zero] at h
  exact h
theorem szL_two (n j k : Nat) (h : (szL n n)[j]? = some k) : k = 33 ∨ k = 32 := by
  have hm := List.mem_of_getElem? h
  unfold szL at hm
  simp only [List.mem_append, List.mem_cons, List.mem_replicate, List.not_mem_nil, or_false] at hm
  omega
theorem RdS.c7 {w : World} {base g n gL gR : Nat} {vs : List Value} (h : RdS w base g n gL gR vs) : (vs.take 7 ++ [.slice (some ⟨gL, 0, none⟩) n n, .slice (some ⟨gR, 0, none⟩) n n] ++ vs.drop (7 + (n + n)))[7]? = some (.slice (some ⟨gL, 0, none⟩) n n) := by
  have := h.len
  rw [List.append_assoc, List.getElem?_append_right (by simp; omega)]
  simp [show min 7 vs.length = 7 by omega]
theorem RdS.c8 {w : World} {base g n gL gR : Nat} {vs : List Value} (h : RdS w base g n gL gR vs) : (vs.take 7 ++ [.slice (some ⟨gL, 0, none⟩) n n, .slice (some ⟨gR, 0, none⟩) n n] ++ vs.drop (7 + (n + n)))[8]? = some (.slice (some ⟨gR, 0, none⟩) n n) := by
  have := h.len
  rw [List.append_assoc, List.getElem?_append_right (by simp; omega)]
  simp [show min 7 vs.length = 7 by omega]
theorem set_take_succ {α : Type} (vs : List α) (j : Nat) (v : α) (h : j < vs.length) : (vs.set j v).take (j + 1) = vs.take j ++ [v] := by
  rw [List.take_add_one, List.take_set, set_past _ _ _ (by simp; omega)]
  simp [h]
theorem cutL_take_succ (ks : List Nat) (s : List UInt8) (j k : Nat) (h : ks[j]? = some k) : (cutL ks s).take (j + 1) = (cutL ks s).take j ++ [(s.drop (ks.take j).sum).take k] := by
  rw [List.take_add_one, cutL_get ks s j k h]; rfl
set_option maxHeartbeats 4000000 in
set_option maxRecDepth 1000000 in
theorem Read6_any (a : Option Addr) (n0 c0 : Nat) (s : List UInt8) (w : World) (hb : RdB w a n0 s) (hc : n0 ≤ c0) (hn0 : n0 ≤ 1000000) :
    Calls Try.prog 10 #[.slice a n0 c0] w (ReadPost w s) := by
  have hlen := hb.len
  have HB := Lib.hid hb
  have HC := Lib.hid hc
  clear hb hc
  go_enter Try.func10, Try.ntmps10
  go_wp2_with (with_reducible refine wl_stop (o := ⟨some 2, _, _, _, _, _⟩) ?_)
  unfold Stop
  refine wl_alloc rfl rfl zero_range zR rfl ?_
  intro w1 hh2 hf1 hz1
  have HH2a := Lib.hid hh2
  have hfr1 := hf1
  clear hh2 hf1
  go_wp2_with (with_reducible refine wl_stop (o := ⟨some 4, _, _, _, _, _⟩) ?_)
  unfold Stop
  refine wl_alloc rfl rfl zero_range zR rfl ?_
  intro w2 hh4 hf2 hz2
  have HH4 := Lib.hid hh4
  have HH2 := Lib.hid (HH2a.out.keep hf2 id)
  have HF2 := Lib.hid (hfr1.then hf2)
  have HZ1 := Lib.hid (show w.heap.size + 1 ≤ w1.heap.size by omega)
  have HZ2 := Lib.hid (show w1.heap.size + 1 ≤ w2.heap.size by omega)
  clear hh4 hf2 hz2 hfr1 HH2a hz1
  generalize hg2 : w.heap.size = g2 at *
  generalize hg4 : w1.heap.size = g4 at *
  have HG2 := Lib.hid hg2
  have HG4 := Lib.hid hg4
  clear hg2 hg4
  have HG24 := Lib.hid (show w.heap.size ≤ g4 by have := HG2.out; have := HZ1.out; omega)
  have HNE := Lib.hid (show ¬ One g4 g2 from fun e => by have := HZ1.out; change g2 = g4 at e; omega)
  by_cases h0 : n0 = 0
  · subst h0
    have hbad : okR s = false := by unfold okR; rw [decide_eq_false]; rintro ⟨h, -⟩; exact h (List.eq_nil_of_length_eq_zero hlen)
    have HBAD := Lib.hid hbad
    clear hbad hlen
    go_wp2_with (with_reducible refine wl_stop (o := ⟨some 16, _, _, _, _, _⟩) ?_)
    unfold Stop
    refine wl_loadR rfl rfl Try.underlying27 rfl rfl (cs := zR) (show At w2 g4 0 zR from fun j v hv => by rw [Nat.zero_add]; exact HH4.out.cell hv) info_range ?_
    go_wp2_with (with_reducible refine wl_stop (o := ⟨none, .store 27 _ _, _, _, _, _⟩) ?_)
    unfold Stop
    refine wl_storeA rfl rfl rfl (cs := zR) rfl HH2.out (by simp [zR]) info_range (by simp [zR]; repeat' constructor) ?_
    intro w9 hh9 hf9 hz9
    have hr : Has w9 g2 zR 27 := by simpa [zR, splice] using hh9
    have hfr := HF2.out.new hf9 (Nat.le_of_eq HG2.out)
    clear hh9 hf9 hz9
    go_wp2_with fail
    exact bodyPost_ret (results_stR rfl rfl hr Try.underlying27 rfl info_range rfl) rfl (ReadPost.bad HBAD.out rfl hfr)
  have hI0 : ((n0 : Int) == 0) = false := by simp; omega
  have hI1 : (0 : Int) < (n0 : Int) := by omega
  have hI2 : 0 < n0 := by omega
  obtain ⟨b, o, rfl, hat⟩ := HB.out.at (by omega)
  have hcb0 : w.cell? ⟨b, o, none⟩ = some (.int .u8 ((hdR s : Nat) : Int)) := hat 0 (by omega)
  have hcb : w2.cell? ⟨b, o, none⟩ = some (.int .u8 ((hdR s : Nat) : Int)) := HF2.out.cell id hcb0
  clear hat
  obtain ⟨n, hn⟩ : ∃ n, n = hdR s := ⟨_, rfl⟩
  rw [← hn] at hcb hcb0
  have HN := Lib.hid hn
  clear hn
  by_cases h6 : 6 < n
  · have h6I : (6 : Int) < (n : Int) := by omega
    have hbad : okR s = false := by unfold okR; rw [decide_eq_false]; rintro ⟨-, h, -⟩; have := HN.out; omega
    have HBAD := Lib.hid hbad
    have HLEN := Lib.hid hlen
    clear hbad hlen h6
    go_wp2_with (with_reducible refine wl_stop (o := ⟨some 16, _, _, _, _, _⟩) ?_)
    unfold Stop
    refine wl_loadR rfl rfl Try.underlying27 rfl rfl (cs := zR) (show At w2 g4 0 zR from fun j v hv => by rw [Nat.zero_add]; exact HH4.out.cell hv) info_range ?_
    go_wp2_with (with_reducible refine wl_stop (o := ⟨none, .store 27 _ _, _, _, _, _⟩) ?_)
    unfold Stop
    refine wl_storeA rfl rfl rfl (cs := zR) rfl HH2.out (by simp [zR]) info_range (by simp [zR]; repeat' constructor) ?_
    intro w9 hh9 hf9 hz9
    have hr : Has w9 g2 zR 27 := by simpa [zR, splice] using hh9
    have hfr := HF2.out.new hf9 (Nat.le_of_eq HG2.out)
    clear hh9 hf9 hz9
    go_wp2_with fail
    exact bodyPost_ret (results_stR rfl rfl hr Try.underlying27 rfl info_range rfl) rfl (ReadPost.bad HBAD.out rfl hfr)
  have h6I : ¬ (6 : Int) < (n : Int) := by omega
  have hn6 : n ≤ 6 := by omega
  have HLEN := Lib.hid hlen
  clear hlen h6 h0
  go_wp2_with fail
  refine wp_region_noPanic ?_
  refine wp_region_plan (fun wx => Fr Nob w wx) 13 (.w 0 (.w 1 (.t 2 (.w 4 (.w 5 (.t 6 (.b 3 7 (.w 8 (.w 9 (.b 7 10 (.r 10 (.w 11 (.w 12 (.m 13 .nil)))) (.r 7 (.w 11 (.w 12 (.m 13 .nil))))))) (.r 3 (.w 8 (.w 9 (.r 10 (.w 11 (.w 12 (.m 13 .nil)))))))))))))) (by kernel_rfl) (by kernel_rfl) HF2.out.drew (fun _ _ _ _ _ h => h) ?_
  refine plan_w (v := ?_) rfl rfl (fun wx => ?_) ?_; rotate_left 1; (go_simp; with_reducible rfl)
  try simp only [Act.put, List.setIfInBounds_toArray, List.set_cons_zero, List.set_cons_succ]
  refine plan_w (v := ?_) rfl rfl (fun wx => ?_) ?_; rotate_left 1; (go_simp; with_reducible rfl)
  try simp only [Act.put, List.setIfInBounds_toArray, List.set_cons_zero, List.set_cons_succ]
  refine plan_t (v := .int .u8 (n : Int)) rfl rfl (fun wx hS => ?_) ?_
  · have hc := hS.cell id hcb0; clear hS; go_simp
  try simp only [Act.put, List.setIfInBounds_toArray, List.set_cons_zero, List.set_cons_succ]
  refine plan_w (v := ?_) rfl rfl (fun wx => ?_) ?_; rotate_left 1; (go_simp; with_reducible rfl)
  try simp only [Act.put, List.setIfInBounds_toArray, List.set_cons_zero, List.set_cons_succ]
  refine plan_w (v := ?_) rfl rfl (fun wx => ?_) ?_; rotate_left 1; (go_simp; with_reducible rfl)
  try simp only [Act.put, List.setIfInBounds_toArray, List.set_cons_zero, List.set_cons_succ]
  refine plan_t (v := .int .u8 (n : Int)) rfl rfl (fun wx hS => ?_) ?_
  · have hc := hS.cell id hcb0; clear hS; go_simp
  try simp only [Act.put, List.setIfInBounds_toArray, List.set_cons_zero, List.set_cons_succ]
  have hd4 := HH4.out.drew
  have hd2 := HH2.out.drew
  have hdF := HF2.out.drew
  refine plan_key2 (C := fun gL gR wz => RdS wz (g2 + 1) g4 n gL gR (List.replicate (n + n + 9) (.slice none 0 0)) ∧ Fr Nob w wz ∧ Has wz g2 zR 27) (F := ?_) (fun key => ?_) ?_
  rotate_left 1
  · skip
    refine plan_b0 rfl rfl rfl rfl ?_ ?_
    · skip
      refine wp_makeP rfl Try.underlying23 info_sl24 rfl rfl rfl n n rfl rfl (Nat.le_refl _) (by omega) (by unfold maxLen; omega) ?_
      intro v1L hL1 hfv1L hzv1L
      have hbL : g2 + 1 ≤ w2.drew.heap.size := hd2.lt
      have hd4_1 := hd4.keep hfv1L id
      have hd2_1 := hd2.keep hfv1L id
      have hdF_1 := hdF.then hfv1L
      clear hfv1L hzv1L
      generalize w2.drew.heap.size = gL at *
      refine ⟨hdF_1, ?_⟩
      try simp only [Act.put, List.setIfInBounds_toArray, List.set_cons_zero, List.set_cons_succ]
      refine plan_w (v := ?_) rfl rfl (fun wx => ?_) ?_; rotate_left 1; (go_simp; with_reducible rfl)
      try simp only [Act.put, List.setIfInBounds_toArray, List.set_cons_zero, List.set_cons_succ]
      refine plan_w (v := ?_) rfl rfl (fun wx => ?_) ?_; rotate_left 1; (go_simp; with_reducible rfl)
      try simp only [Act.put, List.setIfInBounds_toArray, List.set_cons_zero, List.set_cons_succ]
      refine plan_b0 rfl rfl rfl rfl ?_ ?_
      · skip
        refine wp_makeP rfl Try.underlying23 info_sl24 rfl rfl rfl n n rfl rfl (Nat.le_refl _) (by omega) (by unfold maxLen; omega) ?_
        intro v2R hR2 hfv2R hzv2R
        have hbR : g2 + 1 ≤ v1L.heap.size := hd2_1.lt
        have hltLR : gL < v1L.heap.size := hL1.lt
        have hL1_2 := hL1.keep hfv2R id
        have hd4_1_2 := hd4_1.keep hfv2R id
        have hd2_1_2 := hd2_1.keep hfv2R id
        have hdF_1_2 := hdF_1.then hfv2R
        clear hfv2R hzv2R
        generalize v1L.heap.size = gR at *
        refine ⟨hdF_1_2, ?_⟩
        try simp only [Act.put, List.setIfInBounds_toArray, List.set_cons_zero, List.set_cons_succ]
        refine plan_r rfl rfl ?_
        obtain ⟨u7, cu7, fu7⟩ := hd4_1_2.ready (i := 7) (by simp [zR])
        have hp7 := hd4_1_2.putR 7 (.slice (some ⟨gL, 0, none⟩) n n)
        go_simp
        refine ⟨hdF_1_2.new hp7.2 HG24.out, ?_⟩
        have h4_7 := hp7.1
        have h2_7 := hd2_1_2.keep hp7.2 HNE.out
        have F_7 := hdF_1_2.new hp7.2 HG24.out
        have hL1_2_3 := hL1_2.keep hp7.2 (fun (e : gL = g4) => by have e1 := hL1_2; rw [e] at e1; obtain ⟨_, _, x1, -⟩ := e1; obtain ⟨_, _, x2, -⟩ := hd4_1_2; rw [x1] at x2; simp at x2)
        have hR2_3 := hR2.keep hp7.2 (fun (e : gR = g4) => by have e1 := hR2; rw [e] at e1; obtain ⟨_, _, x1, -⟩ := e1; obtain ⟨_, _, x2, -⟩ := hd4_1_2; rw [x1] at x2; simp at x2)
        clear hp7 cu7 fu7
        generalize hW7 : v2R.setCell ⟨g4, 7, none⟩ (.slice (some ⟨gL, 0, none⟩) n n) = w7x at *
        clear hW7
        try simp only [Act.put, List.setIfInBounds_toArray, List.set_cons_zero, List.set_cons_succ]
        refine plan_w (v := ?_) rfl rfl (fun wx => ?_) ?_; rotate_left 1; (go_simp; with_reducible rfl)
        try simp only [Act.put, List.setIfInBounds_toArray, List.set_cons_zero, List.set_cons_succ]
        refine plan_w (v := ?_) rfl rfl (fun wx => ?_) ?_; rotate_left 1; (go_simp; with_reducible rfl)
        try simp only [Act.put, List.setIfInBounds_toArray, List.set_cons_zero, List.set_cons_succ]
        refine plan_m rfl rfl ?_
        obtain ⟨u8, cu8, fu8⟩ := h4_7.ready (i := 8) (by simp [zR])
        have hp8 := h4_7.putR 8 (.slice (some ⟨gR, 0, none⟩) n n)
        go_simp
        have h4_8 := hp8.1
        have h2_8 := h2_7.keep hp8.2 HNE.out
        have F_8 := F_7.new hp8.2 HG24.out
        have hL1_2_3_4 := hL1_2_3.keep hp8.2 (fun (e : gL = g4) => by have e1 := hL1_2_3; rw [e] at e1; obtain ⟨_, _, x1, -⟩ := e1; obtain ⟨_, _, x2, -⟩ := h4_7; rw [x1] at x2; simp at x2)
        have hR2_3_4 := hR2_3.keep hp8.2 (fun (e : gR = g4) => by have e1 := hR2_3; rw [e] at e1; obtain ⟨_, _, x1, -⟩ := e1; obtain ⟨_, _, x2, -⟩ := h4_7; rw [x1] at x2; simp at x2)
        clear hp8 cu8 fu8
        try simp only [Act.put, List.setIfInBounds_toArray, List.set_cons_zero, List.set_cons_succ]
        refine plan_end ?_
        exact key gL gR _ ⟨RdS.start h4_8 hL1_2_3_4 hR2_3_4 (by omega) HZ1.out hbL hbR, F_8, h2_8⟩
      · skip
        obtain ⟨u7, cu7, fu7⟩ := hd4_1.ready (i := 7) (by simp [zR])
        have hp7 := hd4_1.putR 7 (.slice (some ⟨gL, 0, none⟩) n n)
        go_simp
        refine ⟨hdF_1.new hp7.2 HG24.out, ?_⟩
        have h4_7 := hp7.1
        have h2_7 := hd2_1.keep hp7.2 HNE.out
        have F_7 := hdF_1.new hp7.2 HG24.out
        have hL1_2 := hL1.keep hp7.2 (fun (e : gL = g4) => by have e1 := hL1; rw [e] at e1; obtain ⟨_, _, x1, -⟩ := e1; obtain ⟨_, _, x2, -⟩ := hd4_1; rw [x1] at x2; simp at x2)
        clear hp7 cu7 fu7
        generalize hW7 : v1L.setCell ⟨g4, 7, none⟩ (.slice (some ⟨gL, 0, none⟩) n n) = w7x at *
        clear hW7
        try simp only [Act.put, List.setIfInBounds_toArray, List.set_cons_zero, List.set_cons_succ]
        refine plan_r rfl rfl ?_
        refine wp_makeP rfl Try.underlying23 info_sl24 rfl rfl rfl n n rfl rfl (Nat.le_refl _) (by omega) (by unfold maxLen; omega) ?_
        intro v3R hR3 hfv3R hzv3R
        have hbR : g2 + 1 ≤ w7x.heap.size := h2_7.lt
        have hltLR : gL < w7x.heap.size := hL1_2.lt
        have hL1_2_3 := hL1_2.keep hfv3R id
        have h4_7_3 := h4_7.keep hfv3R id
        have h2_7_3 := h2_7.keep hfv3R id
        have F_7_3 := F_7.then hfv3R
        clear hfv3R hzv3R
        generalize w7x.heap.size = gR at *
        refine ⟨F_7_3, ?_⟩
        try simp only [Act.put, List.setIfInBounds_toArray, List.set_cons_zero, List.set_cons_succ]
        refine plan_w (v := ?_) rfl rfl (fun wx => ?_) ?_; rotate_left 1; (go_simp; with_reducible rfl)
        try simp only [Act.put, List.setIfInBounds_toArray, List.set_cons_zero, List.set_cons_succ]
        refine plan_w (v := ?_) rfl rfl (fun wx => ?_) ?_; rotate_left 1; (go_simp; with_reducible rfl)
        try simp only [Act.put, List.setIfInBounds_toArray, List.set_cons_zero, List.set_cons_succ]
        refine plan_m rfl rfl ?_
        obtain ⟨u8, cu8, fu8⟩ := h4_7_3.ready (i := 8) (by simp [zR])
        have hp8 := h4_7_3.putR 8 (.slice (some ⟨gR, 0, none⟩) n n)
        go_simp
        have h4_8 := hp8.1
        have h2_8 := h2_7_3.keep hp8.2 HNE.out
        have F_8 := F_7_3.new hp8.2 HG24.out
        have hL1_2_3_4 := hL1_2_3.keep hp8.2 (fun (e : gL = g4) => by have e1 := hL1_2_3; rw [e] at e1; obtain ⟨_, _, x1, -⟩ := e1; obtain ⟨_, _, x2, -⟩ := h4_7_3; rw [x1] at x2; simp at x2)
        have hR3_4 := hR3.keep hp8.2 (fun (e : gR = g4) => by have e1 := hR3; rw [e] at e1; obtain ⟨_, _, x1, -⟩ := e1; obtain ⟨_, _, x2, -⟩ := h4_7_3; rw [x1] at x2; simp at x2)
        clear hp8 cu8 fu8
        try simp only [Act.put, List.setIfInBounds_toArray, List.set_cons_zero, List.set_cons_succ]
        refine plan_end ?_
        exact key gL gR _ ⟨RdS.start h4_8 hL1_2_3_4 hR3_4 (by omega) HZ1.out hbL hbR, F_8, h2_8⟩
    · skip
      refine wp_makeP rfl Try.underlying23 info_sl24 rfl rfl rfl n n rfl rfl (Nat.le_refl _) (by omega) (by unfold maxLen; omega) ?_
      intro v1R hR1 hfv1R hzv1R
      have hbR : g2 + 1 ≤ w2.drew.heap.size := hd2.lt
      have hd4_1 := hd4.keep hfv1R id
      have hd2_1 := hd2.keep hfv1R id
      have hdF_1 := hdF.then hfv1R
      clear hfv1R hzv1R
      generalize w2.drew.heap.size = gR at *
      refine ⟨hdF_1, ?_⟩
      try simp only [Act.put, List.setIfInBounds_toArray, List.set_cons_zero, List.set_cons_succ]
      refine plan_r rfl rfl ?_
      refine wp_makeP rfl Try.underlying23 info_sl24 rfl rfl rfl n n rfl rfl (Nat.le_refl _) (by omega) (by unfold maxLen; omega) ?_
      intro v2L hL2 hfv2L hzv2L
      have hbL : g2 + 1 ≤ v1R.heap.size := hd2_1.lt
      have hltRL : gR < v1R.heap.size := hR1.lt
      have hR1_2 := hR1.keep hfv2L id
      have hd4_1_2 := hd4_1.keep hfv2L id
      have hd2_1_2 := hd2_1.keep hfv2L id
      have hdF_1_2 := hdF_1.then hfv2L
      clear hfv2L hzv2L
      generalize v1R.heap.size = gL at *
      refine ⟨hdF_1_2, ?_⟩
      try simp only [Act.put, List.setIfInBounds_toArray, List.set_cons_zero, List.set_cons_succ]
      refine plan_w (v := ?_) rfl rfl (fun wx => ?_) ?_; rotate_left 1; (go_simp; with_reducible rfl)
      try simp only [Act.put, List.setIfInBounds_toArray, List.set_cons_zero, List.set_cons_succ]
      refine plan_w (v := ?_) rfl rfl (fun wx => ?_) ?_; rotate_left 1; (go_simp; with_reducible rfl)
      try simp only [Act.put, List.setIfInBounds_toArray, List.set_cons_zero, List.set_cons_succ]
      refine plan_r rfl rfl ?_
      obtain ⟨u7, cu7, fu7⟩ := hd4_1_2.ready (i := 7) (by simp [zR])
      have hp7 := hd4_1_2.putR 7 (.slice (some ⟨gL, 0, none⟩) n n)
      go_simp
      refine ⟨hdF_1_2.new hp7.2 HG24.out, ?_⟩
      have h4_7 := hp7.1
      have h2_7 := hd2_1_2.keep hp7.2 HNE.out
      have F_7 := hdF_1_2.new hp7.2 HG24.out
      have hR1_2_3 := hR1_2.keep hp7.2 (fun (e : gR = g4) => by have e1 := hR1_2; rw [e] at e1; obtain ⟨_, _, x1, -⟩ := e1; obtain ⟨_, _, x2, -⟩ := hd4_1_2; rw [x1] at x2; simp at x2)
      have hL2_3 := hL2.keep hp7.2 (fun (e : gL = g4) => by have e1 := hL2; rw [e] at e1; obtain ⟨_, _, x1, -⟩ := e1; obtain ⟨_, _, x2, -⟩ := hd4_1_2; rw [x1] at x2; simp at x2)
      clear hp7 cu7 fu7
      generalize hW7 : v2L.setCell ⟨g4, 7, none⟩ (.slice (some ⟨gL, 0, none⟩) n n) = w7x at *
      clear hW7
      try simp only [Act.put, List.setIfInBounds_toArray, List.set_cons_zero, List.set_cons_succ]
      refine plan_w (v := ?_) rfl rfl (fun wx => ?_) ?_; rotate_left 1; (go_simp; with_reducible rfl)
      try simp only [Act.put, List.setIfInBounds_toArray, List.set_cons_zero, List.set_cons_succ]
      refine plan_w (v := ?_) rfl rfl (fun wx => ?_) ?_; rotate_left 1; (go_simp; with_reducible rfl)
      try simp only [Act.put, List.setIfInBounds_toArray, List.set_cons_zero, List.set_cons_succ]
      refine plan_m rfl rfl ?_
      obtain ⟨u8, cu8, fu8⟩ := h4_7.ready (i := 8) (by simp [zR])
      have hp8 := h4_7.putR 8 (.slice (some ⟨gR, 0, none⟩) n n)
      go_simp
      have h4_8 := hp8.1
      have h2_8 := h2_7.keep hp8.2 HNE.out
      have F_8 := F_7.new hp8.2 HG24.out
      have hR1_2_3_4 := hR1_2_3.keep hp8.2 (fun (e : gR = g4) => by have e1 := hR1_2_3; rw [e] at e1; obtain ⟨_, _, x1, -⟩ := e1; obtain ⟨_, _, x2, -⟩ := h4_7; rw [x1] at x2; simp at x2)
      have hL2_3_4 := hL2_3.keep hp8.2 (fun (e : gL = g4) => by have e1 := hL2_3; rw [e] at e1; obtain ⟨_, _, x1, -⟩ := e1; obtain ⟨_, _, x2, -⟩ := h4_7; rw [x1] at x2; simp at x2)
      clear hp8 cu8 fu8
      try simp only [Act.put, List.setIfInBounds_toArray, List.set_cons_zero, List.set_cons_succ]
      refine plan_end ?_
      exact key gL gR _ ⟨RdS.start h4_8 hL2_3_4 hR1_2_3_4 (by omega) HZ1.out hbL hbR, F_8, h2_8⟩
  rintro gL gR w3 ⟨hS, hF, h2⟩
  refine NoPanic.normal ?_
  have HS := Lib.hid hS
  have HF := Lib.hid hF
  have H2 := Lib.hid h2
  have hcut := run_slice_lo (P := Try.prog) w3 Try.underlying22 info_u8c1 (some ⟨b, o, none⟩) n0 c0 .i64 1 (by omega)
  obtain ⟨m0, hm0⟩ : ∃ m0, n0 - 1 = m0 := ⟨_, rfl⟩
  obtain ⟨k0, hk0⟩ : ∃ k0, c0 - 1 = k0 := ⟨_, rfl⟩
  have hbm := cut_rdB HB.out 1 c0 (by omega) HC.out
  rw [hm0, hk0, show ((1 : Nat) : Int) = 1 from rfl] at hcut
  rw [hm0] at hbm
  generalize cutAt (some ⟨b, o, none⟩) 1 c0 = ab0 at *
  have HBM := Lib.hid hbm
  have HM0 := Lib.hid (show m0 + 1 = s.length by have := HLEN.out; omega)
  have HMK := Lib.hid (show m0 ≤ k0 by have := HC.out; omega)
  clear hS hF h2 hbm hm0 hk0 hcb hcb0
  go_wp2_with fail
  clear hcut
  refine (slots_any g4 _ (some ⟨gL, 0, none⟩) n n (some ⟨gR, 0, none⟩) n n w3 HS.out.h HS.out.c7 HS.out.c8 hn6 hn6 (fun _ => ⟨gL, 0, rfl⟩) (fun _ => ⟨gR, 0, rfl⟩)).mono ?_
  rintro e w4 ⟨v3, rfl, hq3, hf4⟩
  rw [← slotL_flat] at hq3
  obtain ⟨a3, c3, rfl, -⟩ := id hq3.form
  have HS4 := Lib.hid (HS.out.still hf4)
  have HF4 := Lib.hid (HF.out.then hf4)
  have H24 := Lib.hid (H2.out.keep hf4 id)
  have HQ4 := Lib.hid (hq3.mono (show w.heap.size ≤ w3.heap.size from HF.out.size))
  have HB4 := HBM
  have HXL := Lib.hid (slotL_len g4 (some ⟨gL, 0, none⟩) n (some ⟨gR, 0, none⟩) n)
  have HXS := Lib.hid (slotL_sz g4 (some ⟨gL, 0, none⟩) n (some ⟨gR, 0, none⟩) n)
  have HPUT := Lib.hid (fun (wx : World) (vs : List Value) (h : RdS wx (g2 + 1) g4 n gL gR vs) => h.put)
  clear hq3 hf4 HS HF H2
  generalize slotL g4 (some ⟨gL, 0, none⟩) n (some ⟨gR, 0, none⟩) n = xs at *
  obtain ⟨N, hN⟩ : ∃ N, N = n + n + 9 := ⟨_, rfl⟩
  have HN9 := Lib.hid hN
  have hN21 : N ≤ 21 := by omega
  rw [← hN] at HQ4
  have hgo : (n + n + 9 : Nat) = N := hN.symm
  simp only [hgo]
  clear hN
  go_wp2_with fail
  go_loopw [33, 0] (fun i bv wr => ∃ (j m k : Nat) (ab : Option Addr) (vs : List Value), j ≤ N ∧ i = .int .i64 (j : Int) ∧ bv = .slice ab m k ∧ Hid (m ≤ k) ∧ Hid (RdB w ab m (s.drop (1 + ((szL n n).take j).sum))) ∧ Hid (m + 1 + ((szL n n).take j).sum = s.length) ∧ Hid (RdS wr (g2 + 1) g4 n gL gR vs) ∧ Hid (POwn wr w.heap.size (vs.take j) ((cutL (szL n n) (s.drop 1)).take j)) ∧ Hid (Sep (vs.take j)) ∧ Hid (Own wr w.heap.size 74 2 (.slice a3 N c3) N (xs.flatMap slotF)) ∧ Hid (Has wr g2 zR 27) ∧ Hid (Fr Nob w wr)) (fun i _ _ => (N - intOf i).toNat)
  case atStart => exact ⟨0, m0, k0, ab0, _, by omega, by go_num, rfl, HMK, Lib.hid (by simpa using HB4.out), Lib.hid (by simpa using HM0.out), HS4, Lib.hid trivial, Lib.hid List.Pairwise.nil, HQ4, H24, HF4⟩
  case round =>
    obtain ⟨j, m, k, ab, vs, hj, rfl, rfl, HMK, HBJ, HMJ, HSJ, HPJ, HEJ, HQJ, H2J, HFJ⟩ := hrel
    by_cases hlt : j < N
    · have hltI : (j : Int) < (N : Int) := by omega
      have hjx : j < xs.length := by rw [HXL.out, ← HN9.out]; exact hlt
      obtain ⟨b3, o3, rfl, hat⟩ := (show Rd wr a3 (N * 2) (xs.flatMap slotF) by obtain ⟨_, _, e1, -, h, -⟩ := HQJ.out.form; simp only [Value.slice.injEq] at e1; obtain ⟨rfl, -, rfl⟩ := e1; exact h).at (by omega)
      have hat2 : At wr b3 (o3 + j * 2) (slotF xs[j]) := by
        have := hat.sub (j * 2) 2
        rwa [flat2_get xs j hjx] at this
      clear hat
      obtain ⟨hrd, hbx, ⟨Lx, Tx, hHx, hT1, hT2⟩, hput⟩ := HPUT.out wr vs HSJ.out j xs[j] (List.getElem?_eq_getElem hjx)
      have hszj : (szL n n)[j]? = some xs[j].2.2 := by rw [← HXS.out]; simp [List.getElem?_eq_getElem hjx]
      have hxj : xs[j]? = some xs[j] := List.getElem?_eq_getElem hjx
      generalize xs[j] = x at *
      have HXJ := Lib.hid hxj
      clear hxj
      obtain ⟨xb, xo, xn⟩ := x
      have h2r := szL_two n j xn hszj
      have HSZ := Lib.hid hszj
      have HPX := Lib.hid hput
      have HHX := Lib.hid hHx
      have HBX := Lib.hid hbx
      have HRD := Lib.hid hrd
      have hat3 : At wr b3 (o3 + j * 2) [.pointer (some ⟨xb, xo, none⟩), .int .i64 (xn : Int)] := hat2
      have hx33 : xn ≤ 33 := by omega
      have hx32 : 32 ≤ xn := by omega
      clear hszj hput hHx hbx hrd hat2 h2r hjx
      go_wp2_with (with_reducible refine wl_stop (o := ⟨some 36, _, _, _, _, _⟩) ?_)
      unfold Stop
      refine wl_loadR rfl rfl Try.underlying74 rfl rfl hat3 info_slot2 ?_
      clear hat3
      go_wp2_with (with_reducible refine wl_stop (o := ⟨some 6, _, _, _, _, _⟩) ?_)
      unfold Stop
      refine wl_alloc rfl rfl zero_slot [.pointer none, .int .i64 0] rfl ?_
      intro w5 hs5 hf5 hz5
      clear hz5
      go_wp2_with (with_reducible refine wl_stop (o := ⟨none, .store 74 _ _, _, _, _, _⟩) ?_)
      unfold Stop
      refine wl_storeA rfl rfl rfl rfl hs5 (by simp) info_slot2 (by simp; exact ⟨rfl, rfl⟩) ?_
      intro w6 hs6 hf6 hz6
      have hf56 : Fr Nob wr w6 := hf5.new hf6 (Nat.le_refl _)
      have hg6 : Has w6 wr.heap.size [.pointer (some ⟨xb, xo, none⟩), .int .i64 (xn : Int)] 74 := by simpa [splice] using hs6
      have d0 := hg6.cell (i := 0) rfl
      have d1 := hg6.cell (i := 1) rfl
      have HG6 := Lib.hid hg6
      have HS6 := Lib.hid (HSJ.out.still hf56)
      have HP6 := Lib.hid (HPJ.out.still hf56)
      have HQ6 := Lib.hid (HQJ.out.still hf56)
      have H26 := Lib.hid (H2J.out.keep hf56 id)
      have HF6 := Lib.hid (HFJ.out.then hf56)
      have HB6 := Lib.hid (HBJ.out.still HF6.out)
      have HHX6 := Lib.hid (HHX.out.keep hf56 id)
      have HL6 := Lib.hid (show w.heap.size ≤ wr.heap.size from HFJ.out.size)
      clear hs5 hf5 hs6 hf6 hz6 hg6 HSJ HPJ HQJ H2J HFJ HHX HRD HPX
      generalize wr.heap.size = g6 at *
      by_cases hsh : m < xn
      · have hI : (m : Int) < (xn : Int) := by omega
        have hbad : okR s = false := by
          unfold okR
          rw [decide_eq_false]
          rintro ⟨-, -, h3⟩
          have h4 := sum_take_succ _ j xn HSZ.out
          have h5 := sum_take_le (szL n n) (j + 1)
          rw [szL_sum] at h5
          have h6 := HMJ.out
          have h7 := HN.out
          omega
        have HBAD := Lib.hid hbad
        clear hbad
        go_wp2_with (with_reducible refine wl_stop (o := ⟨some 42, _, _, _, _, _⟩) ?_)
        unfold Stop
        refine wl_buildL rfl rfl _ built_range ?_
        go_wp2_with (with_reducible refine wl_stop (o := ⟨none, .store 27 _ _, _, _, _, _⟩) ?_)
        unfold Stop
        refine wl_storeA rfl rfl rfl (cs := zR) rfl H26.out (by simp [zR]) info_range (by simp [zR]; repeat' constructor) ?_
        intro w9 hh9 hf9 hz9
        have hr : Has w9 g2 zR 27 := by simpa [zR, splice] using hh9
        have hfr := HF6.out.new hf9 (Nat.le_of_eq HG2.out)
        clear hh9 hf9 hz9
        go_wp2_with fail
        exact bodyPost_ret (results_stR rfl rfl hr Try.underlying27 rfl info_range rfl) rfl (ReadPost.bad HBAD.out rfl hfr)
      · have hI : ¬ (m : Int) < (xn : Int) := by omega
        have hmn : xn ≤ m := by omega
        obtain ⟨bb, ob, rfl, -⟩ := HB6.out.at (by omega)
        have hsl := fun wx => run_slice_hmR (P := Try.prog) wx Try.underlying22 info_u8c1 (some ⟨bb, ob, none⟩) m k .i64 xn (by have := HMK.out; omega)
        have HR6 := Lib.hid (take_rdB HB6.out xn hmn)
        have hn6x : g6 ≠ xb := by
          rintro rfl
          obtain ⟨_, _, x1, -⟩ := HG6.out
          obtain ⟨_, _, x2, -⟩ := HHX6.out
          rw [x1] at x2; simp at x2; exact hT2 x2.2.1.symm
        have HN6 := Lib.hid hn6x
        clear hn6x hsh
        go_wp2_with fail
        refine wp_region_noPanic ?_
        refine wp_region_plan (fun wx => Fr Nob w6 wx) 10 (.w 0 (.t 1 (.w 2 (.w 3 (.t 4 (.w 5 (.t 6 (.w 7 (.r 8 (.w 9 (.m 10 .nil))))))))))) (by kernel_rfl) (by kernel_rfl) (Fr.refl Nob _).drew (fun _ _ _ _ _ h => h) ?_
        refine plan_w (v := ?_) rfl rfl (fun wx => ?_) ?_; rotate_left 1; (go_simp; with_reducible rfl)
        try simp only [Act.put, List.setIfInBounds_toArray, List.set_cons_zero, List.set_cons_succ]
        refine plan_t (v := .pointer (some ⟨xb, xo, none⟩)) rfl rfl (fun wx hS => ?_) ?_
        · have hc := hS.cell id d0; clear hS; go_simp
        try simp only [Act.put, List.setIfInBounds_toArray, List.set_cons_zero, List.set_cons_succ]
        refine plan_w (v := ?_) rfl rfl (fun wx => ?_) ?_; rotate_left 1; (go_simp; with_reducible rfl)
        try simp only [Act.put, List.setIfInBounds_toArray, List.set_cons_zero, List.set_cons_succ]
        refine plan_w (v := ?_) rfl rfl (fun wx => ?_) ?_; rotate_left 1; (go_simp; with_reducible rfl)
        try simp only [Act.put, List.setIfInBounds_toArray, List.set_cons_zero, List.set_cons_succ]
        refine plan_t (v := .int .i64 (xn : Int)) rfl rfl (fun wx hS => ?_) ?_
        · have hc := hS.cell id d1; clear hS; go_simp
        try simp only [Act.put, List.setIfInBounds_toArray, List.set_cons_zero, List.set_cons_succ]
        refine plan_w (v := ?_) rfl rfl (fun wx => ?_) ?_; rotate_left 1; (go_simp; with_reducible rfl)
        try simp only [Act.put, List.setIfInBounds_toArray, List.set_cons_zero, List.set_cons_succ]
        refine plan_t (v := .int .i64 (xn : Int)) rfl rfl (fun wx hS => ?_) ?_
        · have hc := hS.cell id d1; clear hS; go_simp
        try simp only [Act.put, List.setIfInBounds_toArray, List.set_cons_zero, List.set_cons_succ]
        refine plan_w (v := .slice (some ⟨bb, ob, none⟩) xn xn) rfl rfl (fun wx => ?_) ?_
        · have hc := hsl wx; clear hsl; go_simp
        try simp only [Act.put, List.setIfInBounds_toArray, List.set_cons_zero, List.set_cons_succ]
        clear hsl
        refine plan_r rfl rfl ?_
        go_simp
        refine (bclone_some ⟨bb, ob, none⟩ xn xn _ _ (by omega) (HR6.out.still (Fr.refl Nob w6).drew)).mono ?_
        rintro e7 w7 ⟨v, rfl, ho, hf7⟩
        obtain ⟨av, cv, rfl, -⟩ := id ho.form
        have hfd := (Fr.refl Nob w6).drew.then hf7
        refine ⟨hfd, ?_⟩
        have hS7 := HS6.out.still hfd
        obtain ⟨⟨u, cu, fu⟩, -, ⟨Ly, Ty, hHy, hU1, hU2⟩, hput⟩ := HPUT.out w7 vs hS7 j _ HXJ.out
        have hfs : Fr (One xb) w7 (w7.setCell ⟨xb, xo, none⟩ (.slice av xn cv)) := (Fr.refl (One xb) w7).setCell xb xo none _ fun _ => rfl
        have HS8 := Lib.hid (hput (.slice av xn cv))
        have HF8 := Lib.hid ((HF6.out.then hfd).new hfs (by have e1 := HBX.out; have e2 := HG2.out; change g2 + 1 ≤ xb at e1; change w.heap.size ≤ xb; omega))
        have HG8 := Lib.hid ((HG6.out.keep hfd id).other xo none (.slice av xn cv) HN6.out)
        have H28 := Lib.hid ((H26.out.keep hfd id).keep hfs (fun e => by have e1 := HBX.out; change g2 = xb at e; change g2 + 1 ≤ xb at e1; omega))
        have HQ8 := Lib.hid ((HQ6.out.still hfd).keep hfs fun q hq e => (HQ6.out.still hfd).ne hHy (Ne.symm hU2) (by change q = xb at e; exact e ▸ hq))
        have HP7 := HP6.out.still (Fr.refl Nob w6).drew
        have HE8 := Lib.hid (Sep.snoc HEJ.out HP7 ho)
        have hpl : ((s.drop (1 + ((szL n n).take j).sum)).take xn).length = xn := by have := HR6.out.len; exact this
        have hov := (ho.keep hfs fun q hq e => ho.ne hHy (Ne.symm hU1) (by change q = xb at e; exact e ▸ hq)).mono (show w.heap.size ≤ w6.drew.heap.size from (HF6.out.drew).size)
        rw [← hpl] at hov
        have hvl : j < vs.length := by have := HS6.out.len; have := HN9.out; omega
        have HP8 := Lib.hid (show POwn (w7.setCell ⟨xb, xo, none⟩ (.slice av xn cv)) w.heap.size ((vs.set j (.slice av xn cv)).take (j + 1)) ((cutL (szL n n) (s.drop 1)).take (j + 1)) from by
          rw [set_take_succ vs j _ hvl, cutL_take_succ _ _ j xn HSZ.out, List.drop_drop]
          refine POwn.snoc ?_ (POwn.keep hfs (HP6.out.still hfd) fun _ _ _ hq k hk e => hq.ne hHy (Ne.symm hU1) (by change k = xb at e; exact e ▸ hk))
          rw [hpl] at hov ⊢
          exact hov)
        have HE9 := Lib.hid (show Sep ((vs.set j (.slice av xn cv)).take (j + 1)) from by rw [set_take_succ vs j _ hvl]; exact HE8.out)
        try simp only [Act.put, List.setIfInBounds_toArray, List.set_cons_zero, List.set_cons_succ]
        clear hov hpl HP7 hput hHy hS7 ho hf7 hfs hfd
        refine plan_w (v := ?_) rfl rfl (fun wx => ?_) ?_; rotate_left 1; (go_simp; with_reducible rfl)
        try simp only [Act.put, List.setIfInBounds_toArray, List.set_cons_zero, List.set_cons_succ]
        refine plan_m rfl rfl ?_
        go_simp
        try simp only [Act.put, List.setIfInBounds_toArray, List.set_cons_zero, List.set_cons_succ]
        refine plan_end ?_
        refine NoPanic.normal ?_
        generalize hW : w7.setCell ⟨xb, xo, none⟩ (.slice av xn cv) = w8 at *
        clear hW cu fu d0 d1
        have d1 := HG8.out.cell (i := 1) rfl
        have hs2 := run_slice_lo (P := Try.prog) w8 Try.underlying22 info_u8c1 (some ⟨bb, ob, none⟩) m k .i64 xn hmn
        have hcb := cut_rdB HBJ.out xn k hmn HMK.out
        rw [List.drop_drop, Nat.add_assoc, ← sum_take_succ _ j xn HSZ.out] at hcb
        obtain ⟨m', hm'⟩ : ∃ m', m - xn = m' := ⟨_, rfl⟩
        obtain ⟨k', hk'⟩ : ∃ k', k - xn = k' := ⟨_, rfl⟩
        rw [hm', hk'] at hs2
        rw [hm'] at hcb
        generalize cutAt (some ⟨bb, ob, none⟩) xn k = ab' at *
        have HCB := Lib.hid hcb
        have HMK' := Lib.hid (show m' ≤ k' by have := HMK.out; omega)
        have HM' := Lib.hid (show m' + 1 + ((szL n n).take (j + 1)).sum = s.length by rw [sum_take_succ _ j xn HSZ.out]; have := HMJ.out; omega)
        clear hcb hm' hk'
        go_wp2_with fail
        go_roundw
        case rel => exact ⟨j + 1, m', k', ab', _, by omega, by go_num, rfl, HMK', HCB, HM', HS8, HP8, HE9, HQ8, H28, HF8⟩
        case measure => simp [intOf]; omega
    · have hltI : ¬ (j : Int) < (N : Int) := by omega
      have hjN : j = n + n + 9 := by have := HN9.out; omega
      have hszl := szL_len n n
      have hsum : ((szL n n).take j).sum = 292 + 66 * n := by
        rw [List.take_of_length_le (by omega), szL_sum]
      have hMJ := HMJ.out
      rw [hsum] at hMJ
      have hNn := HN.out
      by_cases hm0 : 0 < m
      · have hI : (0 : Int) < (m : Int) := by omega
        have hbad : okR s = false := by
          unfold okR
          rw [decide_eq_false]
          rintro ⟨-, -, h3⟩
          omega
        have HBAD := Lib.hid hbad
        clear hbad hMJ hNn hsum hszl hjN
        go_wp2_with (with_reducible refine wl_stop (o := ⟨some 61, _, _, _, _, _⟩) ?_)
        unfold Stop
        refine wl_buildL rfl rfl _ built_range ?_
        go_wp2_with (with_reducible refine wl_stop (o := ⟨none, .store 27 _ _, _, _, _, _⟩) ?_)
        unfold Stop
        refine wl_storeA rfl rfl rfl (cs := zR) rfl H2J.out (by simp [zR]) info_range (by simp [zR]; repeat' constructor) ?_
        intro w9 hh9 hf9 hz9
        have hr : Has w9 g2 zR 27 := by simpa [zR, splice] using hh9
        have hfr := HFJ.out.new hf9 (Nat.le_of_eq HG2.out)
        clear hh9 hf9 hz9
        go_wp2_with fail
        exact bodyPost_ret (results_stR rfl rfl hr Try.underlying27 rfl info_range rfl) rfl (ReadPost.bad HBAD.out rfl hfr)
      · obtain rfl : m = 0 := by omega
        have hok : okR s = true := by
          unfold okR
          rw [decide_eq_true]
          refine ⟨fun e => ?_, by omega, by omega⟩
          rw [e] at hMJ; simp at hMJ
        have HOK := Lib.hid hok
        have hvl := HSJ.out.len
        have HPJ' := HPJ.out
        have HEJ' := HEJ.out
        rw [List.take_of_length_le (by omega)] at HEJ'
        rw [List.take_of_length_le (by omega), List.take_of_length_le (by rw [cutL_len]; omega)] at HPJ'
        obtain ⟨A, S, T1, T2, Tau, Mu, T, IA, IB, vL, vR, hH4, hRG, h1c⟩ := HSJ.out.done (show w.heap.size ≤ g2 + 1 by have := HG2.out; omega) HPJ' HEJ' hn6
        have HH4' := Lib.hid hH4
        have HRG := Lib.hid hRG
        have H1C := Lib.hid h1c
        have HAT := Lib.hid (show At wr g4 0 [A, S, T1, T2, Tau, Mu, T, .slice (some ⟨gL, 0, none⟩) n n, .slice (some ⟨gR, 0, none⟩) n n, IA, IB] from fun j v hv => by rw [Nat.zero_add]; exact hH4.cell hv)
        clear hok hMJ hNn hsum hszl hjN hvl HPJ' HEJ' hH4 hRG h1c
        go_wp2_with (with_reducible refine wl_stop (o := ⟨some 62, _, _, _, _, _⟩) ?_)
        unfold Stop
        refine wl_loadR rfl rfl Try.underlying27 rfl rfl HAT.out info_range ?_
        go_wp2_with (with_reducible refine wl_stop (o := ⟨none, .store 27 _ _, _, _, _, _⟩) ?_)
        unfold Stop
        refine wl_storeA rfl rfl rfl rfl H2J.out (by simp [zR]) info_range H1C.out ?_
        intro w9 hh9 hf9 hz9
        have hr : Has w9 g2 [A, S, T1, T2, Tau, Mu, T, .slice (some ⟨gL, 0, none⟩) n n, .slice (some ⟨gR, 0, none⟩) n n, IA, IB] 27 := by simpa [zR, splice] using hh9
        have hfr := HFJ.out.new hf9 (Nat.le_of_eq HG2.out)
        have hrg := HRG.out.off H2J.out (by decide) (by decide) hf9
        clear hh9 hf9 hz9
        go_wp2_with fail
        exact bodyPost_ret (results_stR rfl rfl hr Try.underlying27 rfl info_range rfl) rfl (ReadPost.good HOK.out HN.out rfl hrg rfl hfr)
end Go.Proofs.Ytdadnajbdnbbdaa

/- The reference's Read: its closure. -/
namespace Go.Proofs.Ytdadnajbdnbbdaa
open Go.RowKit Go.Mv Mvp
attribute [local irreducible] cutL
theorem szL_h (n j k : Nat) (h : ([33, 33, 33, 33, 32, 32, 32] : List Nat)[j]? = some k) : (szL n n)[j]? = some k := by
  unfold szL
  rw [List.append_assoc, List.append_assoc, List.getElem?_append_left (by have := (List.getElem?_eq_some_iff.mp h).1; simpa using this)]
  exact h
theorem szL_a (n j : Nat) (h : j < n) : (szL n n)[7 + j]? = some 33 := by
  unfold szL
  rw [List.append_assoc, List.append_assoc, List.getElem?_append_right (by simp)]
  simp [List.getElem?_append, h]
theorem szL_b (n j : Nat) (h : j < n) : (szL n n)[7 + n + j]? = some 33 := by
  unfold szL
  rw [List.append_assoc, List.append_assoc, List.getElem?_append_right (by simp; omega), List.getElem?_append_right (by simp; omega), List.getElem?_append_left (by simp; omega)]
  rw [List.getElem?_replicate, if_pos (by simp; omega)]
theorem szL_c (n : Nat) : (szL n n)[7 + n + n]? = some 32 ∧ (szL n n)[7 + n + n + 1]? = some 32 := by
  unfold szL
  constructor
  · rw [List.append_assoc, List.append_assoc, List.getElem?_append_right (by simp; omega), List.getElem?_append_right (by simp; omega), List.getElem?_append_right (by simp; omega)]
    simp [show 7 + n + n - 7 - n - n = 0 by omega]
  · rw [List.append_assoc, List.append_assoc, List.getElem?_append_right (by simp; omega), List.getElem?_append_right (by simp; omega), List.getElem?_append_right (by simp; omega)]
    simp [show 7 + n + n - 6 - n - n = 1 by omega]
theorem ext_midR (s : List UInt8) (k m : Nat) (hk : k ≤ m) (hm : m ≤ s.length) : ((mkS s).extract k m).data.toList = (s.drop k).take (m - k) ∧ ((mkS s).extract k m).size = m - k := by
  constructor
  · simp [mkS, List.extract_eq_take_drop]
  · simp [mkS, ByteArray.size]; omega
theorem run_cutMidR (w : World) {T : TypeId} (hT : Try.prog.underlying T = some .string) (q : ByteArray) (j k : Nat) (hjk : j ≤ k) (h : k ≤ q.size) : (Instr.sliceAt T (.string q) (some (.int .i64 (j : Int))) (some (.int .i64 (k : Int))) none).run Try.prog w = .ok (.string (q.extract j k)) w := by
  have h1 : (k : Int) ≤ (q.size : Int) := by omega
  have h2 : (j : Int) ≤ (k : Int) := by omega
  go_simp
attribute [local irreducible] szL
set_option maxHeartbeats 2000000 in
set_option maxRecDepth 1000000 in
theorem next6_any (a z ga gs : Nat) (zI : Int) (hz : zI = (z : Int)) (q : ByteArray) (w : World) (h1 : Has w ga [.int .i64 (a : Int)] 3) (h2 : Has w gs [.string q] 9) (hle : a + z ≤ q.size) (hs : q.size ≤ 4096) :
    Calls Try.prog 32 #[.int .i64 zI, .pointer (some ⟨ga, 0, none⟩), .pointer (some ⟨gs, 0, none⟩)] w fun e w' => ∃ av cv, e = .returned (.slice av z cv) ∧ Go.Mv.Own w' w.heap.size 5 1 (.slice av z cv) z (bs (q.extract a (a + z)).data.toList) ∧ Has w' ga [.int .i64 ((a + z : Nat) : Int)] 3 ∧ Fr (One ga) w w' := by
  subst hz
  have hb : (a : Int) + (z : Int) ≤ 4096 := by omega
  have c1 := h1.cell (i := 0) rfl
  obtain ⟨u, cu, fu⟩ := h1.ready (i := 0) (by simp)
  have c2 := h2.cell (i := 0) rfl
  have hne : gs ≠ ga := by
    rintro rfl
    obtain ⟨_, _, x1, -⟩ := h1
    obtain ⟨_, _, x2, -⟩ := h2
    rw [x1] at x2; simp at x2
  have hp := h1.putR 0 (.int .i64 ((a : Int) + (z : Int)))
  have h2' := (h2.other 0 none (.int .i64 ((a : Int) + (z : Int))) hne).cell (i := 0) rfl
  have hH := hp.1
  have hcut := fun wx => run_cutMidR wx Try.underlying9 q a (a + z) (Nat.le_add_right _ _) hle
  have hqs : (q.extract a (a + z)).size = z := by simp [ByteArray.size_extract]; omega
  have HQS := Lib.hid hqs
  have HP := Lib.hid hp.2
  have HH := Lib.hid hH
  simp only [Int.natCast_add] at hcut
  clear cu hp h1 h2 hle hs hqs hH
  generalize hqq : q.extract a (a + z) = q2 at *
  clear hqq
  go_enter Try.func32, Try.ntmps32
  go_wp2_with (with_reducible refine wl_stop (o := ⟨some 14, _, _, _, _, _⟩) ?_)
  unfold Stop
  refine wl_bytes rfl rfl Try.underlying9 Try.underlying22 Try.underlying5 (q := q2) rfl (by rw [HQS.out]; unfold maxLen; omega) w.heap.size HP.out.size ?_
  intro cap w3 ho hf hlt
  have HO := Lib.hid ho
  have HF := Lib.hid hf
  have HH3 := Lib.hid (HH.out.keep hf id)
  clear ho hf hlt
  go_wp2_with fail
  go_ret
  refine ⟨some ⟨w.heap.size, 0, none⟩, cap, ?_, ?_, HH3.out, HP.out.same HF.out⟩
  · first | rfl | (show Ending.returned (.slice (some ⟨w.heap.size, 0, none⟩) q2.size cap) = _; rw [HQS.out])
  have h9 := HO.out
  have e9 : (w.setCell ⟨ga, 0, none⟩ (.int .i64 ((a : Int) + (z : Int)))).heap.size = w.heap.size := by simp
  rw [e9] at h9
  first | exact h9 | (rw [HQS.out] at h9; exact h9)
/-- the reference's Read, part i of it done -/
structure NS (w0 wr : World) (g1 g6 n i : Nat) (s : List UInt8) (vs : List Value) : Prop where
  a : Has wr g6 [.int .i64 ((1 + ((szL n n).take i).sum : Nat) : Int)] 3
  q : Has wr g1 [.string (mkS s)] 9
  p : POwn wr w0.heap.size vs ((cutL (szL n n) (s.drop 1)).take i)
  f : Fr Nob w0 wr
  b : w0.heap.size ≤ g6
  l : vs.length = i
theorem NS.off {w0 w w' : World} {g1 g6 n i : Nat} {s : List UInt8} {vs : List Value} (h : NS w0 w g1 g6 n i s vs) {g : Nat} {L' : List Value} {T' : TypeId} (hg : Has w g L' T') (h1 : 5 ≠ T') (hb : w0.heap.size ≤ g) (h6 : ¬ One g g6) (h7 : ¬ One g g1) (hf : Fr (One g) w w') : NS w0 w' g1 g6 n i s vs :=
  ⟨h.a.keep hf h6, h.q.keep hf h7, POwn.keep hf h.p (fun _ _ _ ho k hk e => ho.ne hg h1 (by change k = g at e; exact e ▸ hk)), h.f.new hf hb, h.b, h.l⟩
theorem NS.still {w0 w w' : World} {g1 g6 n i : Nat} {s : List UInt8} {vs : List Value} (h : NS w0 w g1 g6 n i s vs) (hf : Fr Nob w w') : NS w0 w' g1 g6 n i s vs :=
  ⟨h.a.keep hf id, h.q.keep hf id, h.p.still hf, h.f.then hf, h.b, h.l⟩
set_option maxHeartbeats 2000000 in
theorem next6_ns (w0 w : World) (g1 g6 n i z : Nat) (zI : Int) (hz : zI = (z : Int)) (s : List UInt8) (vs : List Value) (h : NS w0 w g1 g6 n i s vs) (hi : (szL n n)[i]? = some z) (hs : s.length = 293 + 66 * n) (hn : n ≤ 6) :
    Calls Try.prog 32 #[.int .i64 zI, .pointer (some ⟨g6, 0, none⟩), .pointer (some ⟨g1, 0, none⟩)] w fun e w' => ∃ av cv, e = .returned (.slice av z cv) ∧ NS w0 w' g1 g6 n (i + 1) s (vs ++ [.slice av z cv]) ∧ Fr (One g6) w w' := by
  have h4 := sum_take_succ _ i z hi
  have h5 := sum_take_le (szL n n) (i + 1)
  rw [szL_sum] at h5
  refine (next6_any (1 + ((szL n n).take i).sum) z g6 g1 zI hz (mkS s) w h.a h.q (by rw [mkS_size]; omega) (by rw [mkS_size]; omega)).mono ?_
  rintro e w' ⟨av, cv, rfl, ho, ha, hf⟩
  obtain ⟨e1, e2⟩ := ext_midR s (1 + ((szL n n).take i).sum) (1 + ((szL n n).take i).sum + z) (Nat.le_add_right _ _) (by omega)
  rw [e1, Nat.add_sub_cancel_left] at ho
  have hne : ¬ One g6 g1 := by
    intro e
    change g1 = g6 at e
    obtain ⟨_, _, x1, -⟩ := h.a
    obtain ⟨_, _, x2, -⟩ := h.q
    rw [e, x1] at x2; simp at x2
  refine ⟨av, cv, rfl, ⟨?_, h.q.keep hf hne, ?_, h.f.new hf h.b, h.b, by simp [h.l]⟩, hf⟩
  · rw [h4, ← Nat.add_assoc]; exact ha
  · rw [cutL_take_succ _ _ i z hi, List.drop_drop]
    refine POwn.snoc ?_ (POwn.keep hf h.p (fun _ _ _ hq k hk e => hq.ne h.a (by decide) (by change k = g6 at e; exact e ▸ hk)))
    have hl : ((s.drop (1 + ((szL n n).take i).sum)).take z).length = z := by simp; omega
    rw [hl]
    exact ho.mono h.f.size
end Go.Proofs.Ytdadnajbdnbbdaa

/- The reference's Read: the walk (printed by gen_sp14.py). -/
namespace Go.Proofs.Ytdadnajbdnbbdaa
open Go.RowKit Go.Mv Mvp
attribute [local irreducible] cutL szL
/-- a proof of a range, read -/
structure RgQ (w : World) (A S T1 T2 Tau Mu T : Value) (aL : Option Addr) (n : Nat) (aR : Option Addr) (IA IB : Value) (vL vR : List Value) (ls : List (List UInt8)) : Prop where
  l : Rd w aL n vL
  r : Rd w aR n vR
  p : Prts6 w ([A, S, T1, T2, Tau, Mu, T] ++ (vL ++ vR ++ [IA, IB])) ls
def RReadPost (w : World) (s : List UInt8) (e : Ending) (w' : World) : Prop :=
  ∃ A S T1 T2 Tau Mu T aL cL aR cR IA IB vL vR, e = .returned (.tuple #[.agg #[A, S, T1, T2, Tau, Mu, T, .slice aL (nR s) cL, .slice aR (nR s) cR, IA, IB], .int .i64 (if okR s then 0 else 2)]) ∧ RgQ w' A S T1 T2 Tau Mu T aL (nR s) aR IA IB vL vR (lsR s) ∧ Fr Nob w w'
theorem RReadPost.bad {w w' : World} {s : List UInt8} {e : Ending} (h : okR s = false) (he : e = .returned (.tuple #[.agg zR.toArray, .int .i64 2])) (hf : Fr Nob w w') : RReadPost w s e w' := by
  have hn : nR s = 0 := by unfold nR; rw [h]; rfl
  unfold RReadPost
  rw [hn, h]
  refine ⟨.slice none 0 0, .slice none 0 0, .slice none 0 0, .slice none 0 0, .slice none 0 0, .slice none 0 0, .slice none 0 0, none, 0, none, 0, .slice none 0 0, .slice none 0 0, [], [], he, ⟨Rd.nil _ _, Rd.nil _ _, ?_⟩, hf⟩
  unfold lsR; rw [h]; exact Prts6.of ((POwn.nils w' 0 9).parts (by simp))
theorem RReadPost.good {w w' : World} {s : List UInt8} {e : Ending} {A S T1 T2 Tau Mu T : Value} {aL : Option Addr} {n cL : Nat} {aR : Option Addr} {cR : Nat} {IA IB : Value} {vL vR : List Value} (h : okR s = true) (hn : n = hdR s)
    (hr : RgQ w' A S T1 T2 Tau Mu T aL n aR IA IB vL vR (cutL (szL n n) (s.drop 1))) (he : e = .returned (.tuple #[.agg #[A, S, T1, T2, Tau, Mu, T, .slice aL n cL, .slice aR n cR, IA, IB], .int .i64 0])) (hf : Fr Nob w w') : RReadPost w s e w' := by
  have h1 : nR s = hdR s := by unfold nR; rw [h]; rfl
  have h2 : lsR s = cutL (szL (hdR s) (hdR s)) (s.drop 1) := by unfold lsR; rw [h]; rfl
  subst hn
  unfold RReadPost
  rw [h1, h2, h]
  exact ⟨A, S, T1, T2, Tau, Mu, T, aL, cL, aR, cR, IA, IB, vL, vR, he, hr, hf⟩
theorem cutL_le : ∀ (ks : List Nat) (s : List UInt8), ∀ x ∈ cutL ks s, x.length ≤ s.length
  | [], s, x, h => by unfold cutL at h; simp at h
  | k :: ks, s, x, h => by
    unfold cutL at h
    rcases List.mem_cons.mp h with rfl | h
    · rw [List.length_take]; exact Nat.min_le_right _ _
    · have := cutL_le ks (s.drop k) x h
      rw [List.length_drop] at this; omega
theorem NS.app {w0 w w' : World} {g1 g6 n i m : Nat} {s : List UInt8} {vs : List Value} (h : NS w0 w g1 g6 n i s vs) {v : Value} {L : List Value} (ho : Go.Mv.Own w w0.heap.size 22 1 v m L) (hf : Fr (OwnB v) w w') : NS w0 w' g1 g6 n i s vs :=
  ⟨h.a.keep hf (ho.ne h.a (by decide)), h.q.keep hf (ho.ne h.q (by decide)), POwn.keep hf h.p (fun _ _ _ hq k hk hk' => hq.ne2 ho (by decide) k hk hk'), h.f.trans hf (fun k hk t => by have := (ho.lt t).1; omega), h.b, h.l⟩
theorem built_rng7 (a0 : Option Addr) (c0 : Nat) (a1 : Option Addr) (c1 : Nat) (a2 : Option Addr) (c2 : Nat) (a3 : Option Addr) (c3 : Nat) (a4 : Option Addr) (c4 : Nat) (a5 : Option Addr) (c5 : Nat) (a6 : Option Addr) (c6 : Nat) : Try.prog.built 27 [(0, (.slice a0 33 c0)), (1, (.slice a1 33 c1)), (2, (.slice a2 33 c2)), (3, (.slice a3 33 c3)), (4, (.slice a4 32 c4)), (5, (.slice a5 32 c5)), (6, (.slice a6 32 c6))] = some #[(Value.slice a0 33 c0), (Value.slice a1 33 c1), (Value.slice a2 33 c2), (Value.slice a3 33 c3), (Value.slice a4 32 c4), (Value.slice a5 32 c5), (Value.slice a6 32 c6), .slice none 0 0, .slice none 0 0, .slice none 0 0, .slice none 0 0] := by kernel_rfl
theorem own_rd1 {w : World} {base : Nat} {T : TypeId} {a : Option Addr} {n c : Nat} {L : List Value} (h : Go.Mv.Own w base T 1 (.slice a n c) n L) : Rd w a n L := by
  obtain ⟨_, _, e, -, hr, -⟩ := h.form
  simp only [Value.slice.injEq, true_and] at e
  obtain ⟨rfl, -⟩ := e
  rwa [Nat.mul_one] at hr
theorem zero_int6 : (Try.prog.info? 3).map (·.zero) = some (some (.int .i64 0)) := by kernel_rfl
set_option maxHeartbeats 4000000 in
set_option maxRecDepth 1000000 in
theorem RRead6_any (s : List UInt8) (w : World) (hs : s.length ≤ 4096) :
    Calls Try.prog 12 #[.string (mkS s)] w (RReadPost w s) := by
  obtain ⟨q, hq⟩ : ∃ q, mkS s = q := ⟨_, rfl⟩
  have hqs : q.size = s.length := by rw [← hq, mkS_size]
  have hq0 : ∀ h : 0 < q.size, ((q[0]'h).toNat : Int) = ((hdR s : Nat) : Int) := by
    subst hq
    intro h
    unfold hdR
    cases s with
    | nil => exact absurd h (by rw [mkS_size]; exact Nat.lt_irrefl 0)
    | cons a s => rfl
  rw [hq]
  have HQ := Lib.hid hq
  have HQS := Lib.hid hqs
  clear hq hqs
  have hqI : (q.size : Int) ≤ 4096 := by have := HQS.out; omega
  clear hs
  go_enter Try.func12, Try.ntmps12
  go_wp2_with (with_reducible refine wl_stop (o := ⟨some 1, _, _, _, _, _⟩) ?_)
  unfold Stop
  refine wl_box rfl rfl rfl [.string q] rfl ?_
  intro w1 hh1 hf1 hz1
  try simp only [Act.put, List.setIfInBounds_toArray, List.set_cons_zero, List.set_cons_succ]
  refine wl_alloc rfl rfl zero_range zR rfl ?_
  intro w2 hh2 hf2 hz2
  have HH1a := Lib.hid (hh1.keep hf2 id)
  have HH2a := Lib.hid hh2
  have hf12 := hf1.then hf2
  have HB2 := Lib.hid (show w.heap.size ≤ w1.heap.size by omega)
  have HL12 := Lib.hid (show w.heap.size < w1.heap.size by omega)
  have HL2 := Lib.hid (show w1.heap.size < w2.heap.size by omega)
  clear hh1 hh2 hf1 hf2 hz1 hz2
  go_wp2_with (with_reducible refine wl_stop (o := ⟨some 4, _, _, _, _, _⟩) ?_)
  unfold Stop
  refine wl_alloc rfl rfl zero_range zR rfl ?_
  intro w4 hh4 hf4 hz4
  have HH1 := Lib.hid (HH1a.out.keep hf4 id)
  have HH2 := Lib.hid (HH2a.out.keep hf4 id)
  have HF := Lib.hid (hf12.then hf4)
  have HAT4 := Lib.hid (show At w4 w2.heap.size 0 zR from fun j v hv => by rw [Nat.zero_add]; exact hh4.cell hv)
  have HL4 := Lib.hid (show w2.heap.size < w4.heap.size by omega)
  have c1 := HH1.out.cell (i := 0) rfl
  clear hh4 hf4 hz4 HH1a HH2a hf12
  generalize hg1 : w.heap.size = g1 at *
  have HG1 := Lib.hid hg1
  clear hg1
  generalize w1.heap.size = g2 at *
  generalize w2.heap.size = g4 at *
  by_cases h0 : q.size = 0
  · have hbad : okR s = false := by
      unfold okR; rw [decide_eq_false]; rintro ⟨h, -⟩; exact h (List.eq_nil_of_length_eq_zero (by rw [← HQS.out]; exact h0))
    have HBAD := Lib.hid hbad
    clear hbad
    go_wp2_with (with_reducible refine wl_stop (o := ⟨some 21, _, _, _, _, _⟩) ?_)
    unfold Stop
    refine wl_loadR rfl rfl Try.underlying27 rfl rfl (cs := zR) HAT4.out info_range ?_
    go_wp2_with (with_reducible refine wl_stop (o := ⟨none, .store 27 _ _, _, _, _, _⟩) ?_)
    unfold Stop
    refine wl_storeA rfl rfl rfl (cs := zR) rfl HH2.out (by simp [zR]) info_range (by simp [zR]; repeat' constructor) ?_
    intro w9 hh9 hf9 hz9
    have hr : Has w9 g2 zR 27 := by simpa [zR, splice] using hh9
    have hfr := HF.out.new hf9 (by have := HG1.out; have := HB2.out; omega)
    clear hh9 hf9 hz9
    go_wp2_with fail
    exact bodyPost_ret (results_stR rfl rfl hr Try.underlying27 rfl info_range rfl) rfl (RReadPost.bad HBAD.out rfl hfr)
  have h0I : 0 < q.size := by omega
  have h0E : ((q.size : Int) == 0) = false := by rw [beq_eq_false_iff_ne]; omega
  obtain ⟨n, hn⟩ : ∃ n, n = hdR s := ⟨_, rfl⟩
  rw [← hn] at hq0
  have HN := Lib.hid hn
  clear hn h0
  by_cases h6 : 6 < n
  · have h6I : (6 : Int) < (n : Int) := by omega
    have hbad : okR s = false := by unfold okR; rw [decide_eq_false]; rintro ⟨-, h, -⟩; have := HN.out; omega
    have HBAD := Lib.hid hbad
    clear hbad h6
    go_wp2_with (with_reducible refine wl_stop (o := ⟨some 21, _, _, _, _, _⟩) ?_)
    unfold Stop
    refine wl_loadR rfl rfl Try.underlying27 rfl rfl (cs := zR) HAT4.out info_range ?_
    go_wp2_with (with_reducible refine wl_stop (o := ⟨none, .store 27 _ _, _, _, _, _⟩) ?_)
    unfold Stop
    refine wl_storeA rfl rfl rfl (cs := zR) rfl HH2.out (by simp [zR]) info_range (by simp [zR]; repeat' constructor) ?_
    intro w9 hh9 hf9 hz9
    have hr : Has w9 g2 zR 27 := by simpa [zR, splice] using hh9
    have hfr := HF.out.new hf9 (by have := HG1.out; have := HB2.out; omega)
    clear hh9 hf9 hz9
    go_wp2_with fail
    exact bodyPost_ret (results_stR rfl rfl hr Try.underlying27 rfl info_range rfl) rfl (RReadPost.bad HBAD.out rfl hfr)
  have h6I : ¬ (6 : Int) < (n : Int) := by omega
  have hn6 : n ≤ 6 := by omega
  have hn6I : (n : Int) ≤ 6 := by omega
  by_cases he : q.size = 293 + 66 * n
  case neg =>
    have heE : ((q.size : Int) == 293 + 66 * (n : Int)) = false := by rw [beq_eq_false_iff_ne]; omega
    have heI : ¬ (q.size : Int) = 293 + 66 * (n : Int) := by omega
    have hbad : okR s = false := by unfold okR; rw [decide_eq_false]; rintro ⟨-, -, h⟩; have := HN.out; have := HQS.out; omega
    have HBAD := Lib.hid hbad
    clear hbad he h6
    go_wp2_with (with_reducible refine wl_stop (o := ⟨some 31, _, _, _, _, _⟩) ?_)
    unfold Stop
    refine wl_loadR rfl rfl Try.underlying27 rfl rfl (cs := zR) HAT4.out info_range ?_
    go_wp2_with (with_reducible refine wl_stop (o := ⟨none, .store 27 _ _, _, _, _, _⟩) ?_)
    unfold Stop
    refine wl_storeA rfl rfl rfl (cs := zR) rfl HH2.out (by simp [zR]) info_range (by simp [zR]; repeat' constructor) ?_
    intro w9 hh9 hf9 hz9
    have hr : Has w9 g2 zR 27 := by simpa [zR, splice] using hh9
    have hfr := HF.out.new hf9 (by have := HG1.out; have := HB2.out; omega)
    clear hh9 hf9 hz9
    go_wp2_with fail
    exact bodyPost_ret (results_stR rfl rfl hr Try.underlying27 rfl info_range rfl) rfl (RReadPost.bad HBAD.out rfl hfr)
  have heI : (q.size : Int) = 293 + 66 * (n : Int) := by omega
  have HLS := Lib.hid (show s.length = 293 + 66 * n by rw [← HQS.out]; exact he)
  have hok : okR s = true := by
    unfold okR
    rw [decide_eq_true]
    refine ⟨fun e => ?_, by have := HN.out; omega, by have := HN.out; have := HLS.out; omega⟩
    have h9 := HLS.out; rw [e, List.length_nil] at h9; omega
  have HOK := Lib.hid hok
  clear hok he h6
  go_wp2_with (with_reducible refine wl_stop (o := ⟨some 6, _, _, _, _, _⟩) ?_)
  unfold Stop
  refine wl_alloc rfl rfl zero_int6 [.int .i64 0] rfl ?_
  intro w5 hh5 hf5 hz5
  have hH1 := HH1.out.keep hf5 id
  have hH2 := HH2.out.keep hf5 id
  have hF := HF.out.then hf5
  have HB6 := Lib.hid (show w.heap.size ≤ w4.heap.size by have := HG1.out; have := HL12.out; have := HL2.out; have := HL4.out; omega)
  have HN62 := Lib.hid (show ¬ One w4.heap.size g2 from fun e => by have := HL2.out; have := HL4.out; change g2 = w4.heap.size at e; omega)
  have HN61 := Lib.hid (show ¬ One w4.heap.size g1 from fun e => by have := HL12.out; have := HL2.out; have := HL4.out; change g1 = w4.heap.size at e; omega)
  have HL6 := Lib.hid (show w4.heap.size < w5.heap.size by omega)
  obtain ⟨u6, cu6, fu6⟩ := hh5.ready (i := 0) (by simp)
  have hp6 := hh5.putR 0 (.int .i64 1)
  generalize w4.heap.size = g6 at *
  have HN0 := Lib.hid (show NS w (w5.setCell ⟨g6, 0, none⟩ (.int .i64 1)) g1 g6 n 0 s [] from ⟨by simpa using hp6.1, by rw [HQ.out]; exact hH1.keep hp6.2 HN61.out, trivial, hF.new hp6.2 HB6.out, HB6.out, rfl⟩)
  have HT0 := Lib.hid (hH2.keep hp6.2 HN62.out)
  clear hh5 hf5 hz5 hH1 hH2 hF hp6 c1 HAT4 HH1 HH2 HF hq0 heI
  go_wp2_with fail
  refine (next6_ns w _ g1 g6 n 0 33 33 rfl s [] HN0.out (szL_h n 0 33 rfl) HLS.out hn6).mono ?_
  rintro e v0 ⟨a0, c0, rfl, hns, hf⟩
  have HN1 := Lib.hid hns
  have HT1 := Lib.hid (HT0.out.keep hf HN62.out)
  clear hns hf HN0 HT0
  go_wp2_with fail
  refine (next6_ns w _ g1 g6 n 1 33 33 rfl s [(.slice a0 33 c0)] HN1.out (szL_h n 1 33 rfl) HLS.out hn6).mono ?_
  rintro e v1 ⟨a1, c1, rfl, hns, hf⟩
  have HN2 := Lib.hid hns
  have HT2 := Lib.hid (HT1.out.keep hf HN62.out)
  clear hns hf HN1 HT1
  go_wp2_with fail
  refine (next6_ns w _ g1 g6 n 2 33 33 rfl s [(.slice a0 33 c0), (.slice a1 33 c1)] HN2.out (szL_h n 2 33 rfl) HLS.out hn6).mono ?_
  rintro e v2 ⟨a2, c2, rfl, hns, hf⟩
  have HN3 := Lib.hid hns
  have HT3 := Lib.hid (HT2.out.keep hf HN62.out)
  clear hns hf HN2 HT2
  go_wp2_with fail
  refine (next6_ns w _ g1 g6 n 3 33 33 rfl s [(.slice a0 33 c0), (.slice a1 33 c1), (.slice a2 33 c2)] HN3.out (szL_h n 3 33 rfl) HLS.out hn6).mono ?_
  rintro e v3 ⟨a3, c3, rfl, hns, hf⟩
  have HN4 := Lib.hid hns
  have HT4 := Lib.hid (HT3.out.keep hf HN62.out)
  clear hns hf HN3 HT3
  go_wp2_with fail
  refine (next6_ns w _ g1 g6 n 4 32 32 rfl s [(.slice a0 33 c0), (.slice a1 33 c1), (.slice a2 33 c2), (.slice a3 33 c3)] HN4.out (szL_h n 4 32 rfl) HLS.out hn6).mono ?_
  rintro e v4 ⟨a4, c4, rfl, hns, hf⟩
  have HN5 := Lib.hid hns
  have HT5 := Lib.hid (HT4.out.keep hf HN62.out)
  clear hns hf HN4 HT4
  go_wp2_with fail
  refine (next6_ns w _ g1 g6 n 5 32 32 rfl s [(.slice a0 33 c0), (.slice a1 33 c1), (.slice a2 33 c2), (.slice a3 33 c3), (.slice a4 32 c4)] HN5.out (szL_h n 5 32 rfl) HLS.out hn6).mono ?_
  rintro e v5 ⟨a5, c5, rfl, hns, hf⟩
  have HN6 := Lib.hid hns
  have HT6 := Lib.hid (HT5.out.keep hf HN62.out)
  clear hns hf HN5 HT5
  go_wp2_with fail
  refine (next6_ns w _ g1 g6 n 6 32 32 rfl s [(.slice a0 33 c0), (.slice a1 33 c1), (.slice a2 33 c2), (.slice a3 33 c3), (.slice a4 32 c4), (.slice a5 32 c5)] HN6.out (szL_h n 6 32 rfl) HLS.out hn6).mono ?_
  rintro e v6 ⟨a6, c6, rfl, hns, hf⟩
  have HN7 := Lib.hid hns
  have HT7 := Lib.hid (HT6.out.keep hf HN62.out)
  clear hns hf HN6 HT6
  go_wp2_with (with_reducible refine wl_stop (o := ⟨some 47, _, _, _, _, _⟩) ?_)
  unfold Stop
  refine wl_buildL rfl rfl _ (built_rng7 a0 c0 a1 c1 a2 c2 a3 c3 a4 c4 a5 c5 a6 c6) ?_
  try simp only [Act.put, List.setIfInBounds_toArray, List.set_cons_zero, List.set_cons_succ]
  refine wl_alloc rfl rfl zero_range zR rfl ?_
  intro w8 hh8 hf8 hz8
  try simp only [Act.put, List.setIfInBounds_toArray, List.set_cons_zero, List.set_cons_succ]
  refine wl_storeA rfl rfl rfl rfl hh8 (by simp [zR]) info_range (by simp; repeat' constructor) ?_
  intro w10 hh10 hf10 hz10
  have hf810 : Fr Nob v6 w10 := hf8.new hf10 (Nat.le_refl _)
  have HH8 := Lib.hid (show Has w10 v6.heap.size [(.slice a0 33 c0), (.slice a1 33 c1), (.slice a2 33 c2), (.slice a3 33 c3), (.slice a4 32 c4), (.slice a5 32 c5), (.slice a6 32 c6), .slice none 0 0, .slice none 0 0, .slice none 0 0, .slice none 0 0] 27 by simpa [zR, splice] using hh10)
  have HNS := Lib.hid (HN7.out.still hf810)
  have HT := Lib.hid (HT7.out.keep hf810 id)
  have HB8 := Lib.hid HN7.out.f.size
  have HN86 := Lib.hid (show ¬ One v6.heap.size g6 from fun e => by have e1 := HN7.out.a.lt; change g6 = v6.heap.size at e; omega)
  have HN81 := Lib.hid (show ¬ One v6.heap.size g1 from fun e => by have e1 := HN7.out.q.lt; change g1 = v6.heap.size at e; omega)
  have HN82 := Lib.hid (show ¬ One v6.heap.size g2 from fun e => by have e1 := HT7.out.lt; change g2 = v6.heap.size at e; omega)
  have HN68 := Lib.hid (show ¬ One g6 v6.heap.size from fun e => by have e1 := HN7.out.a.lt; change v6.heap.size = g6 at e; omega)
  clear hh8 hf8 hz8 hh10 hf10 hz10 hf810 HN7 HT7
  generalize v6.heap.size = g8 at *
  go_wp2_with fail
  go_loopw [9] (fun i wr => ∃ (j : Nat) (aL : Option Addr) (cL : Nat) (vL : List Value), j ≤ n ∧ i = .int .i64 (j : Int) ∧ Hid (NS w wr g1 g6 n (7 + j) s ([(.slice a0 33 c0), (.slice a1 33 c1), (.slice a2 33 c2), (.slice a3 33 c3), (.slice a4 32 c4), (.slice a5 32 c5), (.slice a6 32 c6)] ++ vL)) ∧ Hid (Go.Mv.Own wr w.heap.size 22 1 (.slice aL j cL) j vL) ∧ Hid (Has wr g8 [(.slice a0 33 c0), (.slice a1 33 c1), (.slice a2 33 c2), (.slice a3 33 c3), (.slice a4 32 c4), (.slice a5 32 c5), (.slice a6 32 c6), .slice aL j cL, .slice none 0 0, .slice none 0 0, .slice none 0 0] 27) ∧ Hid (Has wr g2 zR 27)) (fun i _ => (n - intOf i).toNat)
  case atStart => exact ⟨0, none, 0, [], by omega, by go_num, Lib.hid (by simpa using HNS.out), Lib.hid (Go.Mv.Own.nil _ _ _ _), HH8, HT⟩
  case round =>
    obtain ⟨j, aL, cL, vL, hj, rfl, HNJ, HLJ, H8J, H2J⟩ := hrel
    by_cases hlt : j < n
    · have hltI : (j : Int) < (n : Int) := by omega
      go_wp2_with fail
      refine (next6_ns w _ g1 g6 n (7 + j) 33 33 rfl s _ HNJ.out (szL_a n j hlt) HLS.out hn6).mono ?_
      rintro e w20 ⟨ax, cx, rfl, hns, hf⟩
      have HNX := Lib.hid hns
      have H8X := Lib.hid (H8J.out.keep hf HN68.out)
      have H2X := Lib.hid (H2J.out.keep hf HN62.out)
      have HLX := Lib.hid (HLJ.out.keep hf fun k hk e => HLJ.out.ne HNJ.out.a (by decide) (by change k = g6 at e; exact e ▸ hk))
      have c7 := H8X.out.cell (i := 7) rfl
      clear hns hf HNJ H8J H2J HLJ
      go_wp2_with (with_reducible refine wl_stop (o := ⟨some 59, _, _, _, _, _⟩) ?_)
      unfold Stop
      refine wl_slit rfl rfl Try.underlying23 info_sl [.slice ax 33 cx] rfl (by simp [Value.cells]) rfl rfl ?_
      intro w21 hh21 hf21 hz21
      have HN21 := Lib.hid (HNX.out.still hf21)
      have H821 := Lib.hid (H8X.out.keep hf21 id)
      have H221 := Lib.hid (H2X.out.keep hf21 id)
      have HL21 := Lib.hid (HLX.out.still hf21)
      clear hf21 hz21 HNX H8X H2X HLX c7
      go_wp2_with (with_reducible refine wl_stop (o := ⟨some 60, _, _, _, _, _⟩) ?_)
      unfold Stop
      refine wl_append rfl rfl Try.underlying23 info_sl rfl (by decide) HL21.out rfl rfl (Rd.whole hh21) (by intro u hu; simp only [List.mem_cons, List.not_mem_nil, or_false] at hu; rw [hu]; rfl) (by unfold maxLen; omega) (by omega) HN21.out.f.size ?_
      intro v22 w22 ho22 hf22 hb22
      have ho22' : Go.Mv.Own w22 w.heap.size 22 1 v22 (j + 1) (vL ++ [.slice ax 33 cx]) := ho22
      obtain ⟨a22, c22, rfl, -⟩ := id ho22'.form
      have HN22 := HN21.out.app HL21.out hf22
      have h822 := H821.out.keep hf22 (HL21.out.ne H821.out (by decide))
      have h222 := H221.out.keep hf22 (HL21.out.ne H221.out (by decide))
      obtain ⟨u, cu, fu⟩ := h822.ready (i := 7) (by simp)
      have hp := h822.putR 7 (.slice a22 (j + 1) c22)
      have HN23 := Lib.hid (HN22.off h822 (by decide) HB8.out HN86.out HN81.out hp.2)
      have HL23 := Lib.hid (ho22'.keep hp.2 fun k hk e => ho22'.ne h822 (by decide) (by change k = g8 at e; exact e ▸ hk))
      have H823 := Lib.hid hp.1
      have H223 := Lib.hid (h222.keep hp.2 HN82.out)
      clear hh21 hf22 hb22 ho22 ho22' HN22 h822 h222 hp HN21 H821 H221 HL21
      go_wp2_with fail
      go_roundw
      case rel => exact ⟨j + 1, a22, c22, vL ++ [.slice ax 33 cx], by omega, by go_num, Lib.hid (by rw [← Nat.add_assoc, ← List.append_assoc]; exact HN23.out), HL23, H823, H223⟩
      case measure => simp [intOf]; omega
    · have hltI : ¬ (j : Int) < (n : Int) := by omega
      have hjn : j = n := by omega
      rw [hjn] at HNJ HLJ H8J
      obtain ⟨gM, hgM⟩ : ∃ gM, gM = wr.heap.size := ⟨_, rfl⟩
      have HLT := Lib.hid (show ∀ k, OwnB (.slice aL n cL) k → k < gM from fun k hk => by rw [hgM]; exact (HLJ.out.lt hk).2)
      have HBM := Lib.hid (show w.heap.size ≤ gM by rw [hgM]; exact HNJ.out.f.size)
      have HGM := Lib.hid (show gM ≤ wr.heap.size by rw [hgM]; exact Nat.le_refl _)
      clear hgM hjn
      go_wp2_with fail
      clear hltI hj
      go_loopw [11] (fun i wr => ∃ (j : Nat) (aR : Option Addr) (cR : Nat) (vR : List Value), j ≤ n ∧ i = .int .i64 (j : Int) ∧ Hid (NS w wr g1 g6 n (7 + n + j) s ([(.slice a0 33 c0), (.slice a1 33 c1), (.slice a2 33 c2), (.slice a3 33 c3), (.slice a4 32 c4), (.slice a5 32 c5), (.slice a6 32 c6)] ++ vL ++ vR)) ∧ Hid (Go.Mv.Own wr w.heap.size 22 1 (.slice aL n cL) n vL) ∧ Hid (Go.Mv.Own wr gM 22 1 (.slice aR j cR) j vR) ∧ Hid (gM ≤ wr.heap.size) ∧ Hid (Has wr g8 [(.slice a0 33 c0), (.slice a1 33 c1), (.slice a2 33 c2), (.slice a3 33 c3), (.slice a4 32 c4), (.slice a5 32 c5), (.slice a6 32 c6), .slice aL n cL, .slice aR j cR, .slice none 0 0, .slice none 0 0] 27) ∧ Hid (Has wr g2 zR 27)) (fun i _ => (n - intOf i).toNat)
      case atStart => exact ⟨0, none, 0, [], by omega, by go_num, Lib.hid (by simpa using HNJ.out), HLJ, Lib.hid (Go.Mv.Own.nil _ _ _ _), HGM, H8J, H2J⟩
      case round =>
        obtain ⟨k, aR, cR, vR, hj, rfl, HNK, HLK, HRK, HGK, H8K, H2K⟩ := hrel
        by_cases hlt2 : k < n
        · have hltI : (k : Int) < (n : Int) := by omega
          go_wp2_with fail
          refine (next6_ns w _ g1 g6 n (7 + n + k) 33 33 rfl s _ HNK.out (szL_b n k hlt2) HLS.out hn6).mono ?_
          rintro e w20 ⟨ax, cx, rfl, hns, hf⟩
          have HNX := Lib.hid hns
          have H8X := Lib.hid (H8K.out.keep hf HN68.out)
          have H2X := Lib.hid (H2K.out.keep hf HN62.out)
          have HLX := Lib.hid (HLK.out.keep hf fun k hk e => HLK.out.ne HNK.out.a (by decide) (by change k = g6 at e; exact e ▸ hk))
          have HRX := Lib.hid (HRK.out.keep hf fun k hk e => HRK.out.ne HNK.out.a (by decide) (by change k = g6 at e; exact e ▸ hk))
          have HGX := Lib.hid (Nat.le_trans HGK.out hf.size)
          have c8 := H8X.out.cell (i := 8) rfl
          clear hns hf HNK H8K H2K HLK HRK HGK
          go_wp2_with (with_reducible refine wl_stop (o := ⟨some 74, _, _, _, _, _⟩) ?_)
          unfold Stop
          refine wl_slit rfl rfl Try.underlying23 info_sl [.slice ax 33 cx] rfl (by simp [Value.cells]) rfl rfl ?_
          intro w21 hh21 hf21 hz21
          have HN21 := Lib.hid (HNX.out.still hf21)
          have H821 := Lib.hid (H8X.out.keep hf21 id)
          have H221 := Lib.hid (H2X.out.keep hf21 id)
          have HL21 := Lib.hid (HLX.out.still hf21)
          have HR21 := Lib.hid (HRX.out.still hf21)
          have HG21 := Lib.hid (Nat.le_trans HGX.out hf21.size)
          clear hf21 hz21 HNX H8X H2X HLX HRX HGX c8
          go_wp2_with (with_reducible refine wl_stop (o := ⟨some 75, _, _, _, _, _⟩) ?_)
          unfold Stop
          refine wl_append rfl rfl Try.underlying23 info_sl rfl (by decide) HR21.out rfl rfl (Rd.whole hh21) (by intro u hu; simp only [List.mem_cons, List.not_mem_nil, or_false] at hu; rw [hu]; rfl) (by unfold maxLen; omega) (by omega) HG21.out ?_
          intro v22 w22 ho22 hf22 hb22
          have ho22' : Go.Mv.Own w22 gM 22 1 v22 (k + 1) (vR ++ [.slice ax 33 cx]) := ho22
          obtain ⟨a22, c22, rfl, -⟩ := id ho22'.form
          have HN22 := HN21.out.app (HR21.out.mono HBM.out) hf22
          have h822 := H821.out.keep hf22 (HR21.out.ne H821.out (by decide))
          have h222 := H221.out.keep hf22 (HR21.out.ne H221.out (by decide))
          have hl22 := HL21.out.keep hf22 fun q hq hq' => by have e1 := HLT.out q hq; have e2 := (HR21.out.lt hq').1; omega
          obtain ⟨u, cu, fu⟩ := h822.ready (i := 8) (by simp)
          have hp := h822.putR 8 (.slice a22 (k + 1) c22)
          have HN23 := Lib.hid (HN22.off h822 (by decide) HB8.out HN86.out HN81.out hp.2)
          have HR23 := Lib.hid (ho22'.keep hp.2 fun k hk e => ho22'.ne h822 (by decide) (by change k = g8 at e; exact e ▸ hk))
          have HL23 := Lib.hid (hl22.keep hp.2 fun k hk e => hl22.ne h822 (by decide) (by change k = g8 at e; exact e ▸ hk))
          have H823 := Lib.hid hp.1
          have H223 := Lib.hid (h222.keep hp.2 HN82.out)
          have HG23 := Lib.hid (Nat.le_trans (Nat.le_trans HG21.out hf22.size) hp.2.size)
          clear hh21 hf22 hb22 ho22 ho22' HN22 h822 h222 hl22 hp HN21 H821 H221 HL21 HR21 HG21
          go_wp2_with fail
          go_roundw
          case rel => exact ⟨k + 1, a22, c22, vR ++ [.slice ax 33 cx], by omega, by go_num, Lib.hid (by rw [← Nat.add_assoc, ← List.append_assoc]; exact HN23.out), HL23, HR23, HG23, H823, H223⟩
          case measure => simp [intOf]; omega
        · have hltI : ¬ (k : Int) < (n : Int) := by omega
          have hkn : k = n := by omega
          rw [hkn] at HNK HRK H8K
          clear hkn HNJ HLJ H8J H2J HGM
          go_wp2_with fail
          refine (next6_ns w _ g1 g6 n (7 + n + n) 32 32 rfl s _ HNK.out (szL_c n).1 HLS.out hn6).mono ?_
          rintro e w20 ⟨ax, cx, rfl, hns, hf⟩
          have h8X := H8K.out.keep hf HN68.out
          obtain ⟨u, cu, fu⟩ := h8X.ready (i := 9) (by simp)
          have hp := h8X.putR 9 (.slice ax 32 cx)
          have hl := HLK.out.keep hf fun k hk e => HLK.out.ne HNK.out.a (by decide) (by change k = g6 at e; exact e ▸ hk)
          have hr := HRK.out.keep hf fun k hk e => HRK.out.ne HNK.out.a (by decide) (by change k = g6 at e; exact e ▸ hk)
          have HNX := Lib.hid (hns.off h8X (by decide) HB8.out HN86.out HN81.out hp.2)
          have H2X := Lib.hid ((H2K.out.keep hf HN62.out).keep hp.2 HN82.out)
          have HLX := Lib.hid (hl.keep hp.2 fun k hk e => hl.ne h8X (by decide) (by change k = g8 at e; exact e ▸ hk))
          have HRX := Lib.hid (hr.keep hp.2 fun k hk e => hr.ne h8X (by decide) (by change k = g8 at e; exact e ▸ hk))
          have H8X := Lib.hid hp.1
          clear hns hf h8X hp hl hr HNK H8K H2K HLK HRK HGK
          go_wp2_with fail
          refine (next6_ns w _ g1 g6 n (7 + n + n + 1) 32 32 rfl s _ HNX.out (szL_c n).2 HLS.out hn6).mono ?_
          rintro e w30 ⟨ay, cy, rfl, hns, hf⟩
          clear cu fu
          have h8Y := H8X.out.keep hf HN68.out
          obtain ⟨u2, cu2, fu2⟩ := h8Y.ready (i := 10) (by simp)
          have hp := h8Y.putR 10 (.slice ay 32 cy)
          have hl := HLX.out.keep hf fun k hk e => HLX.out.ne HNX.out.a (by decide) (by change k = g6 at e; exact e ▸ hk)
          have hr := HRX.out.keep hf fun k hk e => HRX.out.ne HNX.out.a (by decide) (by change k = g6 at e; exact e ▸ hk)
          have HNY := Lib.hid (hns.off h8Y (by decide) HB8.out HN86.out HN81.out hp.2)
          have H2Y := Lib.hid ((H2X.out.keep hf HN62.out).keep hp.2 HN82.out)
          have HLY := Lib.hid (hl.keep hp.2 fun k hk e => hl.ne h8Y (by decide) (by change k = g8 at e; exact e ▸ hk))
          have HRY := Lib.hid (hr.keep hp.2 fun k hk e => hr.ne h8Y (by decide) (by change k = g8 at e; exact e ▸ hk))
          have HAT := Lib.hid (show At (w30.setCell ⟨g8, 10, none⟩ (.slice ay 32 cy)) g8 0 [(.slice a0 33 c0), (.slice a1 33 c1), (.slice a2 33 c2), (.slice a3 33 c3), (.slice a4 32 c4), (.slice a5 32 c5), (.slice a6 32 c6), .slice aL n cL, .slice aR n cR, .slice ax 32 cx, .slice ay 32 cy] from fun j v hv => by rw [Nat.zero_add]; exact hp.1.cell hv)
          clear hns hf h8Y hp hl hr HNX H8X H2X HLX HRX
          go_wp2_with (with_reducible refine wl_stop (o := ⟨some 86, _, _, _, _, _⟩) ?_)
          unfold Stop
          refine wl_loadR rfl rfl Try.underlying27 rfl rfl HAT.out info_range ?_
          go_wp2_with (with_reducible refine wl_stop (o := ⟨none, .store 27 _ _, _, _, _, _⟩) ?_)
          unfold Stop
          refine wl_storeA rfl rfl rfl rfl H2Y.out (by simp [zR]) info_range (by simp; repeat' constructor) ?_
          intro w40 hh40 hf40 hz40
          have hr : Has w40 g2 [(.slice a0 33 c0), (.slice a1 33 c1), (.slice a2 33 c2), (.slice a3 33 c3), (.slice a4 32 c4), (.slice a5 32 c5), (.slice a6 32 c6), .slice aL n cL, .slice aR n cR, .slice ax 32 cx, .slice ay 32 cy] 27 := by simpa [zR, splice] using hh40
          have hpo := POwn.keep hf40 HNY.out.p (fun _ _ _ hq k hk e => hq.ne H2Y.out (by decide) (by change k = g2 at e; exact e ▸ hk))
          have hl := own_rd1 (HLY.out.keep hf40 fun k hk e => HLY.out.ne H2Y.out (by decide) (by change k = g2 at e; exact e ▸ hk))
          have hrr := own_rd1 (HRY.out.keep hf40 fun k hk e => HRY.out.ne H2Y.out (by decide) (by change k = g2 at e; exact e ▸ hk))
          have hfr := HNY.out.f.new hf40 (by have := HG1.out; have := HB2.out; omega)
          rw [List.take_of_length_le (by rw [cutL_len, szL_len]; omega)] at hpo
          have hpp := Prts6.of <| hpo.parts fun x hx => by
            have e1 := cutL_le _ _ x hx
            have e2 := HLS.out
            rw [List.length_drop] at e1
            omega
          have hq9 : RgQ w40 (.slice a0 33 c0) (.slice a1 33 c1) (.slice a2 33 c2) (.slice a3 33 c3) (.slice a4 32 c4) (.slice a5 32 c5) (.slice a6 32 c6) aL n aR (.slice ax 32 cx) (.slice ay 32 cy) vL vR (cutL (szL n n) (s.drop 1)) := ⟨hl, hrr, by
            have e : [(.slice a0 33 c0), (.slice a1 33 c1), (.slice a2 33 c2), (.slice a3 33 c3), (.slice a4 32 c4), (.slice a5 32 c5), (.slice a6 32 c6)] ++ vL ++ vR ++ [.slice ax 32 cx] ++ [.slice ay 32 cy] = [(.slice a0 33 c0), (.slice a1 33 c1), (.slice a2 33 c2), (.slice a3 33 c3), (.slice a4 32 c4), (.slice a5 32 c5), (.slice a6 32 c6)] ++ (vL ++ vR ++ [.slice ax 32 cx, .slice ay 32 cy]) := by simp
            rw [← e]; exact hpp⟩
          clear hh40 hf40 hz40 hpo hpp hl hrr
          go_wp2_with fail
          exact bodyPost_ret (results_stR rfl rfl hr Try.underlying27 rfl info_range rfl) rfl (RReadPost.good HOK.out HN.out hq9 rfl hfr)
end Go.Proofs.Ytdadnajbdnbbdaa

/- Slices and structs that were handed in, of any element type, opened. -/
namespace Go.Mv
open Go.RowKit Go.ChangeShapes Go.WideShapes
section
variable {H : Type} {enc : TypeId × Value → H} {P : Program} {w : World} {base : Nat} {held : Bool} {spare : Nat → Bool}
/-- what was read takes no more room than a machine has -/
def Fits (P : Program) (t : TypeId) (d : DataW H) : Prop := ∀ k ∈ d.weights P t, k ≤ 140737488351232
theorem fits_of {ts : List TypeId} {ds : List (DataW H)} (hz : (DataW.weightsEach P ts ds).all (· ≤ reachBytes) = true) {j : Nat} {t : TypeId} {d : DataW H} (ht : ts[j]? = some t) (hd : ds[j]? = some d) : Fits P t d := by
  intro k hk
  have := List.all_eq_true.1 hz k (DataW.weights_mem_each ht hd k hk)
  have hr : reachBytes = 140737488351232 := rfl
  rw [hr] at this
  simpa using this
/-- cells that read as a value of type t -/
def Reads (enc : TypeId × Value → H) (P : Program) (w : World) (spare : Nat → Bool) (held : Bool) (t : TypeId) (cs : List Value) : Prop := ∃ n y, DataW.trod enc P w 0 spare held n t cs = some y ∧ Fits P t y.1

theorem open_cells {t e : TypeId} {sz : Nat} {cs : List Value} (ht : P.underlying t = some (.slice e)) (hsz : P.cellsOf e = sz) (hpos : 0 < sz) (h : Reads enc P w spare held t cs) :
    ∃ a c css, cs = [.slice a (List.length css) c] ∧ Rd w a (css.length * sz) css.flatten ∧ (∀ x ∈ css, x.length = sz ∧ Reads enc P w spare held e x) ∧ css.length ≤ c ∧ c ≤ 9223372036854775807 ∧ css.length * P.bytesOf e ≤ 140737488351232 := by
  obtain ⟨fuel, y, hf, hfit⟩ := h
  rcases DataW.trod_slice ht hf with ⟨hcs, hx⟩ | ⟨a, len, cap, elems, rest, n, _, rfl, rfl, hb, hl, hm, hlen, hel, hsp, hns⟩
  · exact ⟨none, 0, [], hcs, by simpa using Rd.nil w none, by simp, by simp, by simp, by simp⟩
  · have hget : ∀ i, (hi : i < len) → ∃ x : List Value, w.cells? 0 (a.add (i * P.cellsOf e)) (P.cellsOf e) = some x ∧ DataW.trod enc P w 0 spare held n e x = some (elems[i]'(by omega)) := fun i hi => by
      have := hel i hi
      rw [List.getElem?_eq_getElem (by omega), Option.bind_eq_some_iff] at this
      exact this
    have hall : ∀ d ∈ elems.map (·.1), ∀ k ∈ d.weights P e, k ≤ 140737488351232 := fun d hd k hk => by
      refine hfit k ?_
      simp only [DataW.weights, ht, List.mem_cons, List.mem_append]
      exact .inr (.inl (weightsAll_mem hd k hk))
    have hone : (elems.map (·.1)).length * P.bytesOf e ≤ 140737488351232 := by
      have h1 := hfit (((elems.map (·.1)).length + (rest.map (·.1)).length) * P.bytesOf e) (by simp [DataW.weights, ht])
      have h2 : (elems.map (·.1)).length * P.bytesOf e ≤ ((elems.map (·.1)).length + (rest.map (·.1)).length) * P.bytesOf e := Nat.mul_le_mul_right _ (by omega)
      omega
    -- the cells of each
    let f : Nat → List Value := fun i => if hi : i < len then (hget i hi).choose else []
    have hf' : ∀ i, (hi : i < len) → w.cells? 0 (a.add (i * P.cellsOf e)) (P.cellsOf e) = some (f i) ∧ DataW.trod enc P w 0 spare held n e (f i) = some (elems[i]'(by omega)) := fun i hi => by
      have := (hget i hi).choose_spec
      simp only [f, dif_pos hi]
      exact this
    have hfl : ∀ i, (hi : i < len) → (f i).length = sz := fun i hi => by
      have := (World.cells?_some (hf' i hi).1).2.1
      rw [hsz] at this; exact this
    refine ⟨some a, cap, (List.range len).map f, by simp, ?_, ?_, by simpa using hl, by simpa [maxLen] using hm, by simpa [hlen] using hone⟩
    · have hflat : ((List.range len).map f).flatten.length = len * sz := by
        have : ∀ m, m ≤ len → ((List.range m).map f).flatten.length = m * sz := by
          intro m
          induction m with
          | zero => intro _; simp
          | succ m ih =>
            intro hm
            rw [List.range_succ, List.map_append, List.flatten_append, List.length_append, ih (by omega)]
            simp only [List.map_cons, List.map_nil, List.flatten_cons, List.flatten_nil, List.append_nil]
            rw [hfl m (by omega), Nat.succ_mul]
        exact this len (Nat.le_refl _)
      refine ⟨by rw [hflat]; simp, ?_⟩
      rcases Nat.eq_zero_or_pos len with h0 | h0
      · left; simp [h0]
      · right
        obtain ⟨b, o, spot⟩ := a
        have hspot : spot = none := by
          have h1 := (World.cells?_some (hf' 0 h0).1).2.2 0 (by omega)
          have h2 : (f 0)[0]? = some ((f 0)[0]'(by rw [hfl 0 h0]; exact hpos)) := List.getElem?_eq_getElem _
          rw [h2] at h1
          simpa [Addr.add] using World.cell?_spot h1
        subst hspot
        refine ⟨b, o, rfl, ?_⟩
        intro i v hv
        -- the element that place i lies in
        have hi : i < len * sz := by
          rcases Nat.lt_or_ge i (len * sz) with k | k
          · exact k
          · rw [List.getElem?_eq_none (by rw [hflat]; exact k)] at hv; cases hv
        have key : ∀ m, m ≤ len → ∀ i v, i < m * sz → ((List.range m).map f).flatten[i]? = some v → w.cell? ⟨b, o + i, none⟩ = some v := by
          intro m
          induction m with
          | zero => intro _ i v hi; omega
          | succ m ih =>
            intro hm i v hi hv
            rw [List.range_succ, List.map_append, List.flatten_append] at hv
            have hml : ((List.range m).map f).flatten.length = m * sz := by
              have : ∀ m, m ≤ len → ((List.range m).map f).flatten.length = m * sz := by
                intro m
                induction m with
                | zero => intro _; simp
                | succ m ih =>
                  intro hm
                  rw [List.range_succ, List.map_append, List.flatten_append, List.length_append, ih (by omega)]
                  simp only [List.map_cons, List.map_nil, List.flatten_cons, List.flatten_nil, List.append_nil]
                  rw [hfl m (by omega), Nat.succ_mul]
              exact this m (by omega)
            by_cases hlt : i < m * sz
            · rw [List.getElem?_append_left (by omega)] at hv
              exact ih (by omega) i v hlt hv
            · rw [List.getElem?_append_right (by omega), hml] at hv
              simp only [List.map_cons, List.map_nil, List.flatten_cons, List.flatten_nil, List.append_nil] at hv
              rw [Nat.succ_mul] at hi
              have h1 := (World.cells?_some (hf' m (by omega)).1).2.2 (i - m * sz) (by omega)
              rw [hv, hsz, addr_add, addr_add] at h1
              rwa [show o + m * sz + (i - m * sz) = o + i by omega] at h1
        exact key len (Nat.le_refl _) i v hi hv
    · intro x hx
      simp only [List.mem_map, List.mem_range] at hx
      obtain ⟨i, hi, rfl⟩ := hx
      refine ⟨hfl i hi, n, _, (hf' i hi).2, ?_⟩
      exact hall _ (List.mem_map.2 ⟨elems[i]'(by omega), List.getElem_mem _, rfl⟩)
theorem reads_of {t : TypeId} {v : Value} {d : DataW H} {ps : List MemPlace} (h : DataW.Trod enc P w 0 spare held t v d ps) (hf : Fits P t d) : Reads enc P w spare held t v.cells.toList := by
  obtain ⟨n, h⟩ := h
  exact ⟨n, _, h, hf⟩
/-- a string in cells -/
theorem Reads.string {t : TypeId} {cs : List Value} (ht : P.underlying t = some .string) (h : Reads enc P w spare held t cs) : ∃ l : List UInt8, cs = [.string (mkS l)] ∧ l.length ≤ 140737488351232 := by
  obtain ⟨n, y, h, hf⟩ := h
  obtain ⟨s, h1, h2, h3⟩ := DataW.trod_string ht h
  refine ⟨s.data.toList, by rw [h1, mkS_data], ?_⟩
  rw [h2] at hf
  have := hf s.data.toList.length (by simp [DataW.weights])
  simpa using this
theorem Reads.int {t : TypeId} {k : IntKind} {cs : List Value} (ht : P.underlying t = some (.int k)) (h : Reads enc P w spare held t cs) : ∃ n : Int, cs = [.int k n] ∧ (Lit.int k n).wf = true := by
  obtain ⟨n, y, h, hf⟩ := h
  obtain ⟨s, h1, h2, h3⟩ := DataW.trod_int ht h
  exact ⟨s, h1, h3⟩
theorem weightsEach_get {ts : List TypeId} {ds : List (DataW H)} {j : Nat} {t : TypeId} {d : DataW H} (ht : ts[j]? = some t) (hd : ds[j]? = some d) : ∀ n ∈ d.weights P t, n ∈ DataW.weightsEach P ts ds := DataW.weights_mem_each ht hd
/-- a struct in cells: its fields -/
theorem Reads.struct {t : TypeId} {fs : Array Field} {cs : List Value} (ht : P.underlying t = some (.struct fs)) (h : Reads enc P w spare held t cs) : cs.length = P.cellsOf t ∧ ∀ (i : Nat) (f : Field), fs[i]? = some f → ∀ (u : TypeId) (o k : Nat), f.type = u → f.offset = o → P.cellsOf u = k → Reads enc P w spare held u ((cs.drop o).take k) := by
  obtain ⟨n, y, h, hf⟩ := h
  obtain ⟨xs, m, -, hx, hl, hxl, hi⟩ := DataW.trod_struct ht h
  refine ⟨hl, fun i f hfi u o k hu ho hk => ?_⟩
  subst hu ho hk
  have h1 := hi i f hfi
  have hlt : i < xs.length := by
    rw [hxl]; exact (Array.getElem?_eq_some_iff.1 hfi).1
  rw [List.getElem?_eq_getElem hlt] at h1
  refine ⟨m, _, h1, ?_⟩
  intro k hk
  refine hf k ?_
  rw [hx]
  simp only [DataW.weights, ht]
  exact weightsEach_get (j := i) (by simp [hfi]) (by simp [List.getElem?_eq_getElem hlt]) k hk
theorem map_of_each {α : Type} {f : α → List Value} : ∀ {css : List (List Value)}, (∀ x ∈ css, ∃ s, x = f s) → ∃ l : List α, css = l.map f
  | [], _ => ⟨[], rfl⟩
  | x :: css, h => by
    obtain ⟨s, hs⟩ := h x (by simp)
    obtain ⟨l, hl⟩ := map_of_each (css := css) (fun y hy => h y (by simp [hy]))
    exact ⟨s :: l, by rw [hs, hl]; rfl⟩
end
end Go.Mv

/- An api.Range that came in, opened. -/
namespace Go.Proofs.Ytdadnajbdnbbdaa
open Go.RowKit Go.Mv Mvp
theorem flat_one6 {α β : Type} (f : α → β) : ∀ l : List α, (l.flatMap fun x => [f x]) = l.map f
  | [] => rfl
  | a :: l => by rw [List.flatMap_cons, flat_one6 f l]; rfl
theorem u8_wf6 {n : Int} (h : (Lit.int .u8 n).wf = true) : 0 ≤ n ∧ n ≤ 255 := by
  simpa [Lit.wf, IntKind.min, IntKind.max, IntKind.signed, IntKind.bits] using h
/-- bytes that can be read, as many as may be -/
def Pre6 (w : World) (v : Value) (l : List UInt8) : Prop := ∃ a n c, v = .slice a n c ∧ n ≤ c ∧ RdB w a n l
def Pres6 (w : World) : List Value → List (List UInt8) → Prop
  | [], [] => True
  | v :: vs, l :: ls => Pre6 w v l ∧ Pres6 w vs ls
  | _, _ => False
theorem Pres6.app {w : World} : ∀ {va vb : List Value} {la lb : List (List UInt8)}, Pres6 w va la → Pres6 w vb lb → Pres6 w (va ++ vb) (la ++ lb)
  | [], _, [], _, _, h => h
  | _ :: _, _, _ :: _, _, h1, h2 => ⟨h1.1, Pres6.app h1.2 h2⟩
  | [], _, _ :: _, _, h, _ => h.elim
  | _ :: _, _, [], _, h, _ => h.elim
theorem Pres6.sl {w : World} : ∀ {vs : List Value} {ls : List (List UInt8)}, Pres6 w vs ls → ∀ v ∈ vs, IsSl v
  | [], _, _, v, h => by simp at h
  | a :: vs, l :: ls, h, v, hv => by
    rcases List.mem_cons.mp hv with rfl | hv
    · obtain ⟨a, n, c, rfl, -⟩ := h.1; exact ⟨a, n, c, rfl⟩
    · exact Pres6.sl h.2 v hv
  | _ :: _, [], h, _, _ => h.elim
/-- once their sizes are known -/
theorem Pres6.parts {w w' : World} (hf : Fr Nob w w') : ∀ {vs : List Value} {ls : List (List UInt8)}, Pres6 w vs ls → (∀ v ∈ vs, slLen v ≤ 100) → Prts6 w' vs ls ∧ ∀ l ∈ ls, l.length ≤ 100
  | [], [], _, _ => ⟨trivial, by simp⟩
  | v :: vs, l :: ls, h, hx => by
    obtain ⟨h1, h2⟩ := Pres6.parts hf h.2 (fun u hu => hx u (by simp [hu]))
    obtain ⟨a, n, c, rfl, hc, hr⟩ := h.1
    have hn : n ≤ 100 := hx (.slice a n c) (by simp)
    refine ⟨⟨⟨a, n, c, rfl, hc, by omega, hr.still hf, trivial⟩, h1⟩, fun u hu => ?_⟩
    rcases List.mem_cons.mp hu with rfl | hu
    · rw [hr.len]; exact hn
    · exact h2 u hu
  | [], _ :: _, h, _ => h.elim
  | _ :: _, [], h, _ => h.elim
theorem cells_u8 : Try.prog.cellsOf 5 = 1 := by kernel_rfl
theorem cells_b6 : Try.prog.cellsOf 22 = 1 := by kernel_rfl
theorem cells_bb6 : Try.prog.cellsOf 23 = 1 := by kernel_rfl
theorem cells_in6 : Try.prog.cellsOf 25 = 4 := by kernel_rfl
theorem cells_rg6 : Try.prog.cellsOf 27 = 11 := by kernel_rfl
section
open Go.ChangeShapes Go.WideShapes
variable {H : Type} {enc : TypeId × Value → H} {w : World} {held : Bool} {spare : Nat → Bool}
theorem reads_bytes {cs : List Value} (h : Reads enc Try.prog w spare held 22 cs) : ∃ v l, cs = [v] ∧ Pre6 w v l := by
  obtain ⟨a, c, css, rfl, hr, hx, hc, -, -⟩ := open_cells Try.underlying22 cells_u8 (by decide) h
  have hs : ∀ x ∈ css, ∃ y : UInt8, x = [.int .u8 (y.toNat : Int)] := by
    intro x hxm
    obtain ⟨n, e, hw⟩ := Reads.int Try.underlying5 (hx x hxm).2
    obtain ⟨h1, h2⟩ := u8_wf6 hw
    refine ⟨UInt8.ofNat n.toNat, ?_⟩
    rw [e, UInt8.toNat_ofNat', Nat.mod_eq_of_lt (by omega), Int.toNat_of_nonneg h1]
  obtain ⟨l, rfl⟩ := map_of_each hs
  rw [List.length_map] at hr hc ⊢
  refine ⟨_, l, rfl, a, l.length, c, rfl, hc, ?_⟩
  rw [Nat.mul_one] at hr
  have e : (l.map fun y : UInt8 => ([.int .u8 (y.toNat : Int)] : List Value)).flatten = bs l := by
    unfold bs
    rw [← List.flatMap_def]
    exact flat_one6 _ l
  rw [e] at hr
  exact hr
theorem reads_bss {cs : List Value} (h : Reads enc Try.prog w spare held 23 cs) : ∃ a n c vs ls, cs = [.slice a n c] ∧ Rd w a n vs ∧ Pres6 w vs ls := by
  obtain ⟨a, c, css, rfl, hr, hx, hc, -, -⟩ := open_cells Try.underlying23 cells_b6 (by decide) h
  have hs : ∀ x ∈ css, ∃ p : {p : Value × List UInt8 // Pre6 w p.1 p.2}, x = [p.1.1] := by
    intro x hxm
    obtain ⟨v, l, e, hp⟩ := reads_bytes (hx x hxm).2
    exact ⟨⟨(v, l), hp⟩, e⟩
  obtain ⟨l, rfl⟩ := map_of_each hs
  rw [List.length_map, Nat.mul_one] at hr
  refine ⟨a, l.length, c, l.map (·.1.1), l.map (·.1.2), by rw [List.length_map], ?_, ?_⟩
  · have e : (l.map fun p => ([p.1.1] : List Value)).flatten = l.map (·.1.1) := by
      rw [← List.flatMap_def]
      exact flat_one6 _ l
    rw [e] at hr
    exact hr
  · clear hr hx hc h
    induction l with
    | nil => trivial
    | cons p l ih => exact ⟨p.2, ih (fun x hx => by obtain ⟨q, -, rfl⟩ := List.mem_map.mp hx; exact ⟨q, rfl⟩)⟩
set_option maxRecDepth 100000 in
theorem open_range {base : Nat} {v : Value} {d : DataW H} {ps : List MemPlace} (hv : Value.okWide Try.prog w .any base 27 v) (h : DataW.Trod enc Try.prog w 0 spare held 27 v d ps) (hfit : Fits Try.prog 27 d) :
    ∃ A S T1 T2 Tau Mu T aL n cL aR m cR IA IB vL vR ls, v = .agg #[A, S, T1, T2, Tau, Mu, T, .slice aL n cL, .slice aR m cR, IA, IB] ∧ Rd w aL n vL ∧ Rd w aR m vR ∧ Pres6 w ([A, S, T1, T2, Tau, Mu, T] ++ vL ++ vR ++ [IA, IB]) ls := by
  obtain ⟨cs, rfl, hsz⟩ := okWide_struct Try.underlying27 hv
  have hr := reads_of h hfit
  have hcs : (Value.agg cs).cells.toList = cs.toList := rfl
  rw [hcs] at hr
  obtain ⟨x, hx⟩ : ∃ x, cs.toList = x := ⟨_, rfl⟩
  have hl : x.length = 11 := by rw [← hx]; simpa using hsz.trans cells_rg6
  obtain rfl : cs = x.toArray := by rw [← hx]
  rw [hx] at hr
  clear hx hsz h hv hcs hfit
  obtain ⟨-, hf⟩ := hr.struct Try.underlying27
  match x, hl with
  | [x0, x1, x2, x3, x4, x5, x6, x7, x8, x9, x10], _ =>
    obtain ⟨v0, l0, e0, p0⟩ := reads_bytes (hf 0 _ rfl _ 0 1 rfl rfl cells_b6)
    obtain ⟨v1, l1, e1, p1⟩ := reads_bytes (hf 1 _ rfl _ 1 1 rfl rfl cells_b6)
    obtain ⟨v2, l2, e2, p2⟩ := reads_bytes (hf 2 _ rfl _ 2 1 rfl rfl cells_b6)
    obtain ⟨v3, l3, e3, p3⟩ := reads_bytes (hf 3 _ rfl _ 3 1 rfl rfl cells_b6)
    obtain ⟨v4, l4, e4, p4⟩ := reads_bytes (hf 4 _ rfl _ 4 1 rfl rfl cells_b6)
    obtain ⟨v5, l5, e5, p5⟩ := reads_bytes (hf 5 _ rfl _ 5 1 rfl rfl cells_b6)
    obtain ⟨v6, l6, e6, p6⟩ := reads_bytes (hf 6 _ rfl _ 6 1 rfl rfl cells_b6)
    have hin := hf 7 _ rfl _ 7 4 rfl rfl cells_in6
    obtain ⟨-, hg⟩ := hin.struct Try.underlying25
    obtain ⟨aL, n, cL, vL, lL, e7, r7, p7⟩ := reads_bss (hg 0 _ rfl _ 0 1 rfl rfl cells_bb6)
    obtain ⟨aR, m, cR, vR, lR, e8, r8, p8⟩ := reads_bss (hg 1 _ rfl _ 1 1 rfl rfl cells_bb6)
    obtain ⟨v9, l9, e9, p9⟩ := reads_bytes (hg 2 _ rfl _ 2 1 rfl rfl cells_b6)
    obtain ⟨v10, l10, e10, p10⟩ := reads_bytes (hg 3 _ rfl _ 3 1 rfl rfl cells_b6)
    simp only [List.drop_zero, List.take_succ_cons, List.take_zero, List.drop_succ_cons, List.cons.injEq, and_true] at e0 e1 e2 e3 e4 e5 e6 e7 e8 e9 e10
    subst e0 e1 e2 e3 e4 e5 e6 e7 e8 e9 e10
    exact ⟨x0, x1, x2, x3, x4, x5, x6, aL, n, cL, aR, m, cR, x9, x10, vL, vR, [l0, l1, l2, l3, l4, l5, l6] ++ lL ++ lR ++ [l9, l10], rfl, r7, r8, Pres6.app (Pres6.app (Pres6.app (va := [x0, x1, x2, x3, x4, x5, x6]) (la := [l0, l1, l2, l3, l4, l5, l6]) ⟨p0, p1, p2, p3, p4, p5, p6, trivial⟩ p7) p8) ⟨p9, p10, trivial⟩⟩
end
end Go.Proofs.Ytdadnajbdnbbdaa

/- The law SpanPuts (printed by gen_sp16.py). -/
namespace Go.Proofs.Ytdadnajbdnbbdaa
open Go.RowKit Go.Mv Mvp
attribute [local irreducible] cutL szL
theorem RgO.below {w w' : World} {base : Nat} {A S T1 T2 Tau Mu T : Value} {aL : Option Addr} {n cL : Nat} {aR : Option Addr} {cR : Nat} {IA IB : Value} {vL vR : List Value} {ls : List (List UInt8)} (h : RgO w base A S T1 T2 Tau Mu T aL n cL aR cR IA IB vL vR ls) {g : Nat} (hg : g < base) (hf : Fr (One g) w w') : RgO w' base A S T1 T2 Tau Mu T aL n cL aR cR IA IB vL vR ls :=
  ⟨h.l.keep hf (fun k hk e => by have := (h.l.lt hk).1; change k = g at e; omega), h.r.keep hf (fun k hk e => by have := (h.r.lt hk).1; change k = g at e; omega), POwn.keep hf h.p (fun _ _ _ ho k hk e => by have := (ho.lt hk).1; change k = g at e; omega), h.s⟩
theorem RgO.still {w w' : World} {base : Nat} {A S T1 T2 Tau Mu T : Value} {aL : Option Addr} {n cL : Nat} {aR : Option Addr} {cR : Nat} {IA IB : Value} {vL vR : List Value} {ls : List (List UInt8)} (h : RgO w base A S T1 T2 Tau Mu T aL n cL aR cR IA IB vL vR ls) (hf : Fr Nob w w') : RgO w' base A S T1 T2 Tau Mu T aL n cL aR cR IA IB vL vR ls :=
  ⟨h.l.still hf, h.r.still hf, h.p.still hf, h.s⟩
theorem Prts6.split7 {w : World} {A S T1 T2 Tau Mu T : Value} {vi : List Value} {ls : List (List UInt8)} (h : Prts6 w ([A, S, T1, T2, Tau, Mu, T] ++ vi) ls) : Prts6 w [A, S, T1, T2, Tau, Mu, T] (ls.take 7) ∧ Prts6 w vi (ls.drop 7) := by
  obtain ⟨la, lb, rfl, h1, h2⟩ := Prts6.split h
  have e := h1.len
  rw [show ([A, S, T1, T2, Tau, Mu, T] : List Value).length = 7 from rfl] at e
  rw [List.take_append_of_le_length (by omega), List.take_of_length_le (by omega), List.drop_append_of_le_length (by omega), List.drop_of_length_le (by omega), List.nil_append]
  exact ⟨h1, h2⟩
theorem lsR_le (s : List UInt8) : ∀ x ∈ lsR s, x.length ≤ s.length := by
  unfold lsR
  split
  · intro x hx
    have := cutL_le _ _ x hx
    rw [List.length_drop] at this
    omega
  · intro x hx
    obtain ⟨-, rfl⟩ := List.mem_replicate.mp hx
    simp
theorem RgO.rgp {w : World} {base : Nat} {A S T1 T2 Tau Mu T : Value} {aL : Option Addr} {n cL : Nat} {aR : Option Addr} {cR : Nat} {IA IB : Value} {vL vR : List Value} {ls : List (List UInt8)} (h : RgO w base A S T1 T2 Tau Mu T aL n cL aR cR IA IB vL vR ls) (hl : ∀ x ∈ ls, x.length ≤ 1000000) : RgP w A S T1 T2 Tau Mu T aL n aR n IA IB vL vR (ls.take 7) (ls.drop 7) := by
  obtain ⟨h1, h2⟩ := Prts6.split7 (Prts6.of (h.p.parts hl))
  exact ⟨⟨own_rd1 h.l, own_rd1 h.r, h2⟩, h1⟩
theorem RgQ.rgp {w : World} {A S T1 T2 Tau Mu T : Value} {aL : Option Addr} {n : Nat} {aR : Option Addr} {IA IB : Value} {vL vR : List Value} {ls : List (List UInt8)} (h : RgQ w A S T1 T2 Tau Mu T aL n aR IA IB vL vR ls) : RgP w A S T1 T2 Tau Mu T aL n aR n IA IB vL vR (ls.take 7) (ls.drop 7) := by
  obtain ⟨h1, h2⟩ := Prts6.split7 h.p
  exact ⟨⟨h.l, h.r, h2⟩, h1⟩
theorem POwn.split6 {w : World} {base : Nat} : ∀ {va vb : List Value} {ls : List (List UInt8)}, POwn w base (va ++ vb) ls → ∃ la lb, ls = la ++ lb ∧ POwn w base va la ∧ POwn w base vb lb
  | [], _, ls, h => ⟨[], ls, rfl, trivial, h⟩
  | _ :: _, _, l :: _, h => by
    obtain ⟨la, lb, e, h1, h2⟩ := POwn.split6 h.2
    exact ⟨l :: la, lb, by rw [e]; rfl, ⟨h.1, h1⟩, h2⟩
  | _ :: _, _, [], h => h.elim
theorem POwn.app6 {w : World} {base : Nat} : ∀ {va vb : List Value} {la lb : List (List UInt8)}, POwn w base va la → POwn w base vb lb → POwn w base (va ++ vb) (la ++ lb)
  | [], _, [], _, _, h => h
  | _ :: _, _, _ :: _, _, h1, h2 => ⟨h1.1, POwn.app6 h1.2 h2⟩
  | [], _, _ :: _, _, h, _ => h.elim
  | _ :: _, _, [], _, h, _ => h.elim
theorem Sep.swap {va vb : List Value} (h : Sep (va ++ vb)) : Sep (vb ++ va) := by
  unfold Sep at *
  rw [List.pairwise_append] at h ⊢
  exact ⟨h.2.1, h.1, fun a ha b hb k h1 h2 => h.2.2 b hb a ha k h2 h1⟩
theorem one_sl6 {A S T1 T2 Tau Mu T IA IB : Value} {vL vR : List Value} (h : ∀ v ∈ [A, S, T1, T2, Tau, Mu, T] ++ (vL ++ vR ++ [IA, IB]), IsSl v) (aL : Option Addr) (n cL : Nat) (aR : Option Addr) (m cR : Nat) :
    (∀ v ∈ [A, S, T1, T2, Tau, Mu, T, .slice aL n cL, .slice aR m cR, IA, IB], v.oneCell' = true) ∧ (∀ u ∈ vL, u.oneCell' = true) ∧ (∀ u ∈ vR, u.oneCell' = true) ∧ (∀ v ∈ [A, S, T1, T2, Tau, Mu, T, IA, IB], IsSl v) := by
  refine ⟨fun v hv => ?_, fun u hu => (h u (by simp [hu])).one, fun u hu => (h u (by simp [hu])).one, fun v hv => ?_⟩
  · have hv' : v ∈ [A, S, T1, T2, Tau, Mu, T] ++ ([.slice aL n cL, .slice aR m cR] ++ [IA, IB]) := hv
    rcases List.mem_append.mp hv' with h3 | h3
    · exact (h v (List.mem_append_left _ h3)).one
    · rcases List.mem_append.mp h3 with h3 | h3
      · simp at h3
        rcases h3 with rfl | rfl <;> rfl
      · exact (h v (List.mem_append_right _ (List.mem_append_right _ h3))).one
  · have hv' : v ∈ [A, S, T1, T2, Tau, Mu, T] ++ [IA, IB] := hv
    rcases List.mem_append.mp hv' with h3 | h3
    · exact h v (List.mem_append_left _ h3)
    · exact h v (List.mem_append_right _ (List.mem_append_right _ h3))
theorem POwn.sl6 {w : World} {base : Nat} {vs : List Value} {ls : List (List UInt8)} (h : POwn w base vs ls) : ∀ v ∈ vs, IsSl v := fun v hv => by
  obtain ⟨l, -, ho⟩ := h.mem hv
  obtain ⟨a, c, rfl, -⟩ := ho.form
  exact ⟨a, _, c, rfl⟩
theorem nR_le (s : List UInt8) : nR s ≤ 6 := by
  unfold nR
  split
  · rename_i h
    unfold okR at h
    rw [decide_eq_true_eq] at h
    exact h.2.1
  · omega
theorem still_same6 (b : Option Addr) (n c : Nat) (x : List UInt8) (w : World) (hs : x.length ≤ 1000000) (hb : RdB w b n (lentL x)) :
    Calls Try.prog 11 #[.slice b n c, .string (mkS x)] w fun e w' => e = .returned (.bool true) ∧ Fr Nob w w' := by
  refine (still_any b n c (lentL x) (mkS x) w (by rw [mkS_size]; exact hs) hb).mono ?_
  rintro e w' ⟨rfl, hf⟩
  rw [mkS_toList]
  exact ⟨ret_bool (decide_eq_true rfl), hf⟩
theorem lent_part6 {w : World} {g : Nat} {x : List UInt8} (h : Has w g (bs (lentL x)) 5) : RdB w (some ⟨g, 0, none⟩) x.length x := by
  have := Rd.ofHas h 0 (n := x.length) (by rw [length_bs, lentL_len]; omega)
  rw [List.drop_zero, bs_take] at this
  unfold lentL at this
  rwa [List.take_left] at this
attribute [local irreducible] lentL okP okR putS
set_option maxHeartbeats 4000000 in
set_option maxRecDepth 1000000 in
theorem law_SpanPuts (A S T1 T2 Tau Mu T : Value) (aL : Option Addr) (n cL : Nat) (aR : Option Addr) (m cR : Nat) (IA IB : Value) (vL vR : List Value) (ls : List (List UInt8)) (s : ByteArray) (W : World) (hL : Rd W aL n vL) (hR : Rd W aR m vR) (hp : Pres6 W ([A, S, T1, T2, Tau, Mu, T] ++ vL ++ vR ++ [IA, IB]) ls) :
    Calls Try.prog 3 #[.agg #[A, S, T1, T2, Tau, Mu, T, .slice aL n cL, .slice aR m cR, IA, IB], .string s] W fun e W' => e = .returned (.bool true) ∧ Fr Nob W W' := by
  obtain ⟨x, hx⟩ : ∃ x, mkS x = s := ⟨s.data.toList, mkS_data s⟩
  have HX := Lib.hid hx
  have HXS := Lib.hid (show s.size = x.length by rw [← hx, mkS_size])
  have HXD := Lib.hid (show s.data.toList = x by rw [← hx, mkS_toList])
  have hsl := hp.sl
  have HL := Lib.hid hL
  have HR := Lib.hid hR
  have HP := Lib.hid hp
  have H1L := Lib.hid (show ∀ u ∈ vL, IsSl u from fun u hu => hsl u (by simp [hu]))
  have H1R := Lib.hid (show ∀ u ∈ vR, IsSl u from fun u hu => hsl u (by simp [hu]))
  have HS := Lib.hid (show ∀ v ∈ [A, S, T1, T2, Tau, Mu, T, IA, IB], IsSl v from fun v hv => by
    have hv' : v ∈ [A, S, T1, T2, Tau, Mu, T] ++ [IA, IB] := hv
    rcases List.mem_append.mp hv' with h | h
    · exact hsl v (by rw [List.append_assoc, List.append_assoc]; exact List.mem_append_left _ h)
    · exact hsl v (List.mem_append_right _ h))
  clear hL hR hp hsl hx
  go_enter Try.func3, Try.ntmps3
  go_wp2_with (with_reducible refine wl_stop (o := ⟨some 2, _, _, _, _, _⟩) ?_)
  unfold Stop
  refine wl_box rfl rfl rfl [A, S, T1, T2, Tau, Mu, T, .slice aL n cL, .slice aR m cR, IA, IB] rfl ?_
  intro w1 hh1 hf1 hz1
  have HAT := Lib.hid (show At w1 W.heap.size 0 [A, S, T1, T2, Tau, Mu, T, .slice aL n cL, .slice aR m cR, IA, IB] from fun j v hv => by rw [Nat.zero_add]; exact hh1.cell hv)
  have HF1 := Lib.hid hf1
  clear hh1 hf1 hz1
  generalize W.heap.size = g1 at *
  go_wp2_with (with_reducible refine wl_stop (o := ⟨some 17, _, _, _, _, _⟩) ?_)
  unfold Stop
  refine wl_loadR rfl rfl Try.underlying27 rfl rfl HAT.out info_range ?_
  go_wp2_with fail
  refine (claimed6_any A S T1 T2 Tau Mu T aL n cL aR m cR IA IB vL vR w1 (HL.out.still HF1.out) (HR.out.still HF1.out) H1L.out H1R.out HS.out).mono ?_
  rintro e w2 ⟨b, rfl, hf2, hcl⟩
  have HF2 := Lib.hid (HF1.out.then hf2)
  have HAT2 := Lib.hid (At.go HAT.out hf2)
  clear hf2 HAT HF1
  cases b with
  | false =>
    clear hcl
    go_wp2_with fail
    go_ret
    exact ⟨rfl, HF2.out⟩
  | true =>
  obtain ⟨hn, hm, h100⟩ := hcl rfl
  clear hcl
  by_cases hsz : 4096 < s.size
  · have hI : (4096 : Int) < (s.size : Int) := by omega
    clear h100
    go_wp2_with fail
    go_ret
    exact ⟨rfl, HF2.out⟩
  have hI : ¬ (4096 : Int) < (s.size : Int) := by omega
  have H100 := Lib.hid (show ∀ v ∈ [A, S, T1, T2, Tau, Mu, T] ++ vL ++ vR ++ [IA, IB], slLen v ≤ 100 from fun v hv => h100 v (by
    have e : [A, S, T1, T2, Tau, Mu, T] ++ vL ++ vR ++ [IA, IB] = [A, S, T1, T2, Tau, Mu, T] ++ (vL ++ vR ++ [IA, IB]) := by simp
    rw [e] at hv
    rcases List.mem_append.mp hv with h | h
    · exact List.mem_append_right _ h
    · exact List.mem_append_left _ h))
  have HPP := Lib.hid (Pres6.parts HF2.out HP.out H100.out)
  have HSZ := Lib.hid (show s.size ≤ 4096 by omega)
  have HXL := Lib.hid (show x.length ≤ 4096 by rw [← HXS.out]; omega)
  clear h100 hsz
  go_wp2_with (with_reducible refine wl_stop (o := ⟨some 27, _, _, _, _, _⟩) ?_)
  unfold Stop
  refine wl_loadR rfl rfl Try.underlying27 rfl rfl HAT2.out info_range ?_
  go_wp2_with fail
  refine (Put6_any A S T1 T2 Tau Mu T aL n cL aR m cR IA IB vL vR ls w2 (HL.out.still HF2.out) (HR.out.still HF2.out) HPP.out.1 hn hm HPP.out.2).mono ?_
  rintro e w3 ⟨hput, hf3⟩
  have HF3 := Lib.hid (HF2.out.then hf3)
  have HAT3 := Lib.hid (At.go HAT2.out hf3)
  have HRP := Lib.hid (RPut6_any A S T1 T2 Tau Mu T aL n cL aR m cR IA IB vL vR ls)
  have hmain : ∃ v er q, e = .returned (.tuple #[v, .int .i64 er]) ∧ (∃ a k c l, v = .slice a k c ∧ RdB w3 a k l ∧ mkS l = q) ∧ ∀ w', (if okP n m ls = true then (Ending.returned (.tuple #[.string (mkS (putS n ls)), .int .i64 0])) else .returned (.tuple #[.string ⟨#[]⟩, .int .i64 2])) = .returned (.tuple #[.string q, .int .i64 er]) ∧ (w' : World) = w' := by
    cases hk : okP n m ls with
    | true =>
      rw [hk] at hput
      obtain ⟨v, rfl, ho⟩ := hput
      obtain ⟨a, c, rfl, -, hr, -⟩ := ho.form
      rw [Nat.mul_one] at hr
      exact ⟨_, 0, _, rfl, ⟨a, _, c, putS n ls, rfl, hr, rfl⟩, fun w' => ⟨rfl, rfl⟩⟩
    | false =>
      rw [hk] at hput
      exact ⟨_, 2, ⟨#[]⟩, hput, ⟨none, 0, 0, [], rfl, Rd.nil _ _, rfl⟩, fun w' => ⟨rfl, rfl⟩⟩
  obtain ⟨v, er, q, rfl, ⟨av, kv, cv, lv, rfl, hrv, hqv⟩, hrp⟩ := hmain
  have HER := Lib.hid (hrp W).1
  have HRV := Lib.hid hrv
  have HQV := Lib.hid hqv
  clear hput hf3 hrv hqv hrp HAT2
  go_wp2_with (with_reducible refine wl_stop (o := ⟨some 32, _, _, _, _, _⟩) ?_)
  unfold Stop
  refine wl_loadR rfl rfl Try.underlying27 rfl rfl HAT3.out info_range ?_
  go_wp2_with fail
  refine (HRP.out w3 (HL.out.still HF3.out) (HR.out.still HF3.out) H1L.out H1R.out HS.out (Pres6.parts HF3.out HP.out H100.out).1 hn hm HPP.out.2).mono ?_
  rintro e w4 ⟨hput, hf4⟩
  have he : e = .returned (.tuple #[.string q, .int .i64 er]) := by
    rw [← HER.out]
    split at hput <;> simp_all
  subst he
  have hcv := run_string (P := Try.prog) (HRV.out.still hf4) cv Try.underlying22 Try.underlying5 Try.underlying9
  rw [HQV.out] at hcv
  have HF4 := Lib.hid (HF3.out.then hf4)
  clear hput hf4 HER HRV HQV HAT3 HRP HF2 HF3
  go_wp2_with fail
  refine (lent_any s _ (by have := HSZ.out; omega)).mono ?_
  rintro e w5 ⟨rfl, hh5, hf5, hz5⟩
  rw [HXD.out] at hh5
  have HI5 := Lib.hid hh5
  have HF5 := Lib.hid (HF4.out.then hf5)
  have HG5 := Lib.hid (show W.heap.size ≤ w4.heap.size from HF4.out.size)
  have HZ5 := Lib.hid (show w4.heap.size < w5.heap.size by omega)
  clear hh5 hf5 hz5 hcv HF4
  generalize w4.heap.size = gi at *
  have hcut := run_slice_hi (P := Try.prog) w5 Try.underlying22 info_u8c1 (some ⟨gi, 0, none⟩) (s.size + 160) (s.size + 160) .i64 s.size (by omega)
  go_wp2_with fail
  clear hcut
  refine (Read6_any (some ⟨gi, 0, none⟩) s.size (s.size + 160) x w5 (by rw [HXS.out]; exact lent_part6 HI5.out) (by omega) (by have := HSZ.out; omega)).mono ?_
  rintro e w6 ⟨A', S', T1', T2', Tau', Mu', T', aL', cL', aR', cR', IA', IB', vL', vR', rfl, hrg, hf6⟩
  obtain ⟨o1, o2, o3, o4⟩ := one_sl6 hrg.p.sl6 aL' (nR x) cL' aR' (nR x) cR'
  have HO1 := Lib.hid o1
  have HO2 := Lib.hid o2
  have HO3 := Lib.hid o3
  have HO4 := Lib.hid o4
  have HRG := Lib.hid hrg
  have HI6 := Lib.hid (HI5.out.keep hf6 id)
  have HF6 := Lib.hid (HF5.out.then hf6)
  have HB6 := Lib.hid (show W.heap.size ≤ w5.heap.size from HF5.out.size)
  have HB7 := Lib.hid hf6.size
  have HNR := Lib.hid (nR_le x)
  clear hrg hf6 o1 o2 o3 o4 HI5 HF5
  generalize w5.heap.size = gB at *
  generalize her : (if okR x = true then (0 : Int) else 2) = er2 at *
  have HER := Lib.hid her
  clear her
  have HLR := Lib.hid (show ∀ y ∈ lsR x, y.length ≤ 1000000 from fun y hy => by have e1 := lsR_le x y hy; have e2 := HXL.out; omega)
  have HRR := Lib.hid (RRead6_any x)
  go_wp2_with (with_reducible refine wl_stop (o := ⟨some 11, _, _, _, _, _⟩) ?_)
  unfold Stop
  refine wl_alloc rfl rfl zero_range zR rfl ?_
  intro w7 hh7 hf7 hz7
  try simp only [Act.put, List.setIfInBounds_toArray, List.set_cons_zero, List.set_cons_succ]
  refine wl_storeA rfl rfl rfl rfl hh7 (by simp [zR]) info_range HO1.out ?_
  intro w8 hh8 hf8 hz8
  have hf78 : Fr Nob w6 w8 := hf7.new hf8 (Nat.le_refl _)
  have HQ8 := Lib.hid (show Has w8 w6.heap.size [A', S', T1', T2', Tau', Mu', T', .slice aL' (nR x) cL', .slice aR' (nR x) cR', IA', IB'] 27 by simpa [zR, splice] using hh8)
  have HRG8 := Lib.hid (HRG.out.still hf78)
  have HI8 := Lib.hid (HI6.out.keep hf78 id)
  have HF8 := Lib.hid (HF6.out.then hf78)
  have HGQ := Lib.hid (show gi ≠ w6.heap.size from fun e => by have e1 := HZ5.out; have e2 := HB7.out; omega)
  clear hh7 hf7 hz7 hh8 hf8 hz8 hf78 HRG HI6 HF6
  generalize w6.heap.size = gq at *
  go_wp2_with fail
  have hst := still_same6 (some ⟨gi, 0, none⟩) (s.size + 160) (s.size + 160) x w8 (by have := HXL.out; omega) (by have h := Rd.whole HI8.out; rw [length_bs, lentL_len, ← HXS.out] at h; exact h)
  rw [HX.out] at hst
  refine hst.mono ?_
  rintro e w9 ⟨rfl, hf9⟩
  have HQ9 := Lib.hid (HQ8.out.keep hf9 id)
  have HRG9 := Lib.hid (HRG8.out.still hf9)
  have hI9 := HI8.out.keep hf9 id
  have HF9 := Lib.hid (HF8.out.then hf9)
  obtain ⟨M, hM⟩ : ∃ M, s.size + 160 = M := ⟨_, rfl⟩
  have hLM : (bs (lentL x)).length = M := by rw [length_bs, lentL_len, ← HXS.out, hM]
  have hM9 : M ≤ 5000 := by have := HSZ.out; omega
  generalize bs (lentL x) = L0 at *
  rw [hM]
  have HI9 := Lib.hid hI9
  have HLM := Lib.hid hLM
  clear hst hf9 hI9 hLM hM HQ8 HRG8 HI8 HF8
  go_wp2_with fail
  go_loopw [13] (fun i wr => ∃ (j : Nat) (L : List Value), j ≤ M ∧ i = .int .i64 (j : Int) ∧ Hid (L.length = M) ∧ Hid (Has wr gi L 5) ∧ Hid (RgO wr gB A' S' T1' T2' Tau' Mu' T' aL' (nR x) cL' aR' cR' IA' IB' vL' vR' (lsR x)) ∧ Hid (Has wr gq [A', S', T1', T2', Tau', Mu', T', .slice aL' (nR x) cL', .slice aR' (nR x) cR', IA', IB'] 27) ∧ Hid (Fr Nob W wr)) (fun i _ => (M - intOf i).toNat)
  case atStart => exact ⟨0, L0, Nat.zero_le _, by go_num, HLM, HI9, HRG9, HQ9, HF9⟩
  case round =>
    obtain ⟨j, L, hj, rfl, HLJ, HIJ, HRJ, HQJ, HFJ⟩ := hrel
    by_cases hlt : j < M
    · have hltI : (j : Int) < (M : Int) := by omega
      obtain ⟨u, cu, fu⟩ := HIJ.out.ready (i := j) (by rw [HLJ.out]; exact hlt)
      have hp := HIJ.out.putR j (.int .u8 7)
      have HI10 := Lib.hid hp.1
      have HL10 := Lib.hid (show (L.set j (.int .u8 7)).length = M by rw [List.length_set]; exact HLJ.out)
      have HR10 := Lib.hid (HRJ.out.below HZ5.out hp.2)
      have HQ10 := Lib.hid (HQJ.out.keep hp.2 (fun e => HGQ.out e.symm))
      have HF10 := Lib.hid (HFJ.out.new hp.2 HG5.out)
      clear hp
      go_wp2_with fail
      go_roundw
      case rel => exact ⟨j + 1, _, by omega, by go_num, HL10, HI10, HR10, HQ10, HF10⟩
      case measure => simp [intOf]; omega
    · have hltI : ¬ (j : Int) < (M : Int) := by omega
      go_wp2_with fail
      have hrr := HRR.out wr HXL.out
      rw [HX.out] at hrr
      refine hrr.mono ?_
      rintro e w20 ⟨A2, S2, T12, T22, Tau2, Mu2, T02, aL2, cL2, aR2, cR2, IA2, IB2, vL2, vR2, rfl, hrq, hf20⟩
      obtain ⟨q1, -, -, -⟩ := one_sl6 hrq.p.sl aL2 (nR x) cL2 aR2 (nR x) cR2
      rw [HER.out]
      have HP2 := Lib.hid hrq.rgp
      have HQ1 := Lib.hid q1
      have HR20 := Lib.hid (HRJ.out.still hf20)
      have HQ20 := Lib.hid (HQJ.out.keep hf20 id)
      have HF20 := Lib.hid (HFJ.out.then hf20)
      clear hrr hrq q1 hf20 HRJ HQJ HFJ HIJ HLJ
      go_wp2_with (with_reducible refine wl_stop (o := ⟨some 14, _, _, _, _, _⟩) ?_)
      unfold Stop
      refine wl_alloc rfl rfl zero_range zR rfl ?_
      intro w21 hh21 hf21 hz21
      try simp only [Act.put, List.setIfInBounds_toArray, List.set_cons_zero, List.set_cons_succ]
      refine wl_storeA rfl rfl rfl rfl hh21 (by simp [zR]) info_range HQ1.out ?_
      intro w22 hh22 hf22 hz22
      have hf2122 : Fr Nob w20 w22 := hf21.new hf22 (Nat.le_refl _)
      have hV22 : Has w22 w20.heap.size [A2, S2, T12, T22, Tau2, Mu2, T02, .slice aL2 (nR x) cL2, .slice aR2 (nR x) cR2, IA2, IB2] 27 := by simpa [zR, splice] using hh22
      have hQ22 := HQ20.out.keep hf2122 id
      have HR22 := Lib.hid (HR20.out.still hf2122)
      have HQ22 := Lib.hid hQ22
      have HF22 := Lib.hid (HF20.out.then hf2122)
      have HP22 := Lib.hid (HP2.out.still hf2122)
      have HAQ := Lib.hid (show At w22 gq 0 [A', S', T1', T2', Tau', Mu', T', .slice aL' (nR x) cL', .slice aR' (nR x) cR', IA', IB'] from fun j v hv => by rw [Nat.zero_add]; exact hQ22.cell hv)
      have HAV := Lib.hid (show At w22 w20.heap.size 0 [A2, S2, T12, T22, Tau2, Mu2, T02, .slice aL2 (nR x) cL2, .slice aR2 (nR x) cR2, IA2, IB2] from fun j v hv => by rw [Nat.zero_add]; exact hV22.cell hv)
      clear hh21 hf21 hz21 hh22 hf22 hz22 hf2122 hV22 hQ22 HR20 HQ20 HF20 HP2
      generalize w20.heap.size = gv at *
      go_wp2_with (with_reducible refine wl_stop (o := ⟨some 72, _, _, _, _, _⟩) ?_)
      unfold Stop
      refine wl_loadR rfl rfl Try.underlying27 rfl rfl HAQ.out info_range ?_
      try simp only [Act.put, List.setIfInBounds_toArray, List.set_cons_zero, List.set_cons_succ]
      refine wl_loadR rfl rfl Try.underlying27 rfl rfl HAV.out info_range ?_
      go_wp2_with fail
      refine (sameRange_true A' S' T1' T2' Tau' Mu' T' aL' (nR x) cL' aR' (nR x) cR' IA' IB' vL' vR' A2 S2 T12 T22 Tau2 Mu2 T02 aL2 cL2 aR2 cR2 IA2 IB2 vL2 vR2 _ _ w22 (by have := HNR.out; omega) (by have := HNR.out; omega) (HR22.out.rgp HLR.out) HP22.out).mono ?_
      rintro e w23 ⟨rfl, hf23⟩
      have HR23 := Lib.hid (HR22.out.still hf23)
      have HF23 := Lib.hid (HF22.out.then hf23)
      have HQ23 := Lib.hid (HQ22.out.keep hf23 id)
      have HA23 := Lib.hid (At.go HAQ.out hf23)
      have HB23 := Lib.hid (show gB ≤ w23.heap.size by have e1 := HQ23.out.lt; have e2 := HB7.out; omega)
      clear hf23 HR22 HF22 HQ22 HAQ HAV HP22
      go_wp2_with (with_reducible refine wl_stop (o := ⟨some 75, _, _, _, _, _⟩) ?_)
      unfold Stop
      refine wl_loadR rfl rfl Try.underlying27 rfl rfl HA23.out info_range ?_
      go_wp2_with fail
      refine (all6_any A' S' T1' T2' Tau' Mu' T' aL' (nR x) cL' aR' (nR x) cR' IA' IB' vL' vR' w23 (by have := HNR.out; omega) (by have := HNR.out; omega) (own_rd1 HR23.out.l) (own_rd1 HR23.out.r) HO2.out HO3.out HO4.out).mono ?_
      rintro e w24 ⟨v24, rfl, ho24, hf24⟩
      have HR24 := Lib.hid (HR23.out.still hf24)
      have HF24 := Lib.hid (HF23.out.then hf24)
      have HO24 := Lib.hid (ho24.mono HB23.out)
      have HB24 := Lib.hid (Nat.le_trans HB23.out hf24.size)
      obtain ⟨la, lb, e6, h6a, h6b⟩ := POwn.split6 HR24.out.p
      have HPO := Lib.hid (POwn.app6 h6b h6a)
      have HSE := Lib.hid (Sep.swap HR24.out.s)
      have HLL := Lib.hid (show ∀ y ∈ lb ++ la, y.length ≤ 1000000 from fun y hy => HLR.out y (by rw [e6]; exact List.mem_append.mpr ((List.mem_append.mp hy).symm)))
      clear ho24 hf24 e6 h6a h6b HR23 HF23 HA23 HQ23
      obtain ⟨av24, cv24, rfl, -⟩ := id HO24.out.form
      go_wp2_with fail
      refine (apart_any _ gB _ _ _ w24 HO24.out HPO.out HSE.out (by have := HNR.out; omega) HLL.out HB24.out).mono ?_
      rintro e w25 ⟨rfl, hf25⟩
      have HF25 := Lib.hid (HF24.out.trans hf25 (fun k hk t => by have e1 := HB6.out; change gB ≤ k at t; omega))
      clear hf25
      go_wp2_with fail
      go_ret
      exact ⟨rfl, HF25.out⟩
end Go.Proofs.Ytdadnajbdnbbdaa

/- From a walk that turns nothing (Fr Nob) to what a law's row asks behind the call. -/
namespace Go.Mv
open Go.RowKit Go.ChangeShapes Go.WideShapes

/-- the arguments read behind the call as they read before -/
theorem Below.trodAll {H : Type} {enc : TypeId × Value → H} {P : Program} (hl : laidOutB P = true) {W W' : World} (hb : Below W.heap.size W W') :
    ∀ (ts : List TypeId) (vs : List Value) (ds : List (DataW H)) (ps : List MemPlace), (∀ t ∈ ts, P.readableRec t = true ∧ t < P.types.size) → DataW.TrodAll enc P W 0 (fun _ => true) true ts vs ds ps → (∀ x ∈ ps, x.block < W.heap.size) →
      DataW.TrodAll enc P W' 0 (fun b => decide (b < W.heap.size)) true ts vs ds ps
  | [], vs, ds, ps, _, h, _ => by
    obtain ⟨rfl, rfl, rfl⟩ := trodAll_nil h
    exact trodAll_mk0
  | t :: ts, vs, ds, ps, hr, h, hlt => by
    obtain ⟨v, vs', d, ds', p, q, rfl, rfl, rfl, h0, hs⟩ := trodAll_cons h
    have h1 := hr t (by simp)
    exact trodAll_cons_mk (Below.trod hl h1.1 h1.2 h0 hb (fun x hx => hlt x (by simp [hx]))) (Below.trodAll hl hb ts vs' ds' q (fun t ht => hr t (by simp [ht])) hs (fun x hx => hlt x (by simp [hx])))

/-- what a law's row asks behind the call -/
theorem law_post {H : Type} {enc : TypeId × Value → H} {P : Program} {f : Func} {s : ChangeSpec} {W W' : World} {args : Array Value} {ds gs : List (DataW H)} {before : List MemPlace}
    (hl : laidOutB P = true) (hr : ∀ t ∈ f.params.toList, P.readableRec t = true ∧ t < P.types.size) (hW : DataW.Whole enc P f.params.toList s.vars false W args.toList ds gs before)
    (hv : s.vars = []) (hres : (s.fn H (ds ++ gs)).results = [.lit (.bool true)]) (harg : (s.fn H (ds ++ gs)).args = ds) (hvar : (s.fn H (ds ++ gs)).vars = [])
    {tb : TypeId} (hrt : f.resultTypes = #[tb]) (hu : P.underlying tb = some .bool) (hf : Fr Nob W W') :
    s.post enc P f false true false false W args (.bool true) W' := by
  have hW' := hW
  obtain ⟨p, q, hA, hV, rfl, hfz, hnd⟩ := hW
  rw [hv] at hV
  obtain ⟨rfl, rfl⟩ := trodVars_none hV
  have hlt : ∀ x ∈ p ++ [], x.block < W.heap.size := fun x hx => hW'.lt x hx
  refine ⟨ds, [], p ++ [], [], p, [], hW', ?_, ?_, ?_, World.keptBut_mono (fun x hx => ⟨hx, ?_⟩) (hf.below.frame (· ∈ p ++ [])), fun h => by cases h⟩
  · rw [hres, hrt]
    exact trodAll_mk1 (shut_bool hu true)
  · rw [harg]
    exact Below.trodAll hl hf.below _ _ _ _ hr hA (fun x hx => hlt x (by simp [hx]))
  · rw [hvar, hv]; exact rfl
  · simp only [List.append_nil] at hx
    exact .inr (.inl hx)
end Go.Mv
