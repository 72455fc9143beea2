/- Letters, plain: bytes and letters as the digits of one number. -/
namespace Mvl
/-- the number of digits, the highest first -/
def val (b : Nat) (l : List Nat) : Nat := l.foldl (fun n x => b * n + x) 0
/-- the k lowest digits of a number, the highest first -/
def digs (b k w : Nat) : List Nat := (List.range k).map fun j => w / b ^ (k - 1 - j) % b

theorem digs_len (b k w : Nat) : (digs b k w).length = k := by simp [digs]
theorem digs_get (b k w j : Nat) (h : j < k) : (digs b k w)[j]? = some (w / b ^ (k - 1 - j) % b) := by simp [digs, h]
theorem digs_lt (b k w : Nat) (hb : 0 < b) : ∀ x ∈ digs b k w, x < b := by
  intro x hx; simp only [digs, List.mem_map] at hx; obtain ⟨j, _, rfl⟩ := hx; exact Nat.mod_lt _ hb
theorem val_snoc (b : Nat) (l : List Nat) (x : Nat) : val b (l ++ [x]) = b * val b l + x := by simp [val]
theorem val_lt (b : Nat) (l : List Nat) (h : ∀ x ∈ l, x < b) : val b l < b ^ l.length := by
  generalize hk : l.length = k
  induction k generalizing l with
  | zero => obtain rfl := List.eq_nil_of_length_eq_zero hk; simp [val]
  | succ k ih =>
    obtain ⟨l', x, rfl⟩ : ∃ l' x, l = l' ++ [x] := ⟨l.dropLast, l.getLast (by intro h; simp [h] at hk), (List.dropLast_concat_getLast _).symm⟩
    rw [val_snoc]
    have h1 := ih l' (fun y hy => h y (by simp [hy])) (by simpa using hk)
    have h2 := h x (by simp)
    rw [Nat.pow_succ, Nat.mul_comm (b ^ k) b]
    calc b * val b l' + x < b * val b l' + b := by omega
      _ = b * (val b l' + 1) := by rw [Nat.mul_succ]
      _ ≤ b * b ^ k := Nat.mul_le_mul_left _ h1
theorem digs_succ (b k w : Nat) (_hb : 0 < b) : digs b (k + 1) w = digs b k (w / b) ++ [w % b] := by
  apply List.ext_getElem?
  intro j
  rcases Nat.lt_or_ge j (k + 1) with h | h
  · rw [digs_get _ _ _ _ h]
    rcases Nat.lt_or_ge j k with h2 | h2
    · rw [List.getElem?_append_left (by rw [digs_len]; exact h2), digs_get _ _ _ _ h2, Nat.div_div_eq_div_mul, ← Nat.pow_succ', show (k - 1 - j).succ = k + 1 - 1 - j by omega]
    · obtain rfl : j = k := by omega
      rw [List.getElem?_append_right (by rw [digs_len]; exact Nat.le_refl _), digs_len, Nat.sub_self]
      simp
  · rw [List.getElem?_eq_none (by rw [digs_len]; exact h), List.getElem?_eq_none (by simp [digs_len]; omega)]
theorem val_digs (b k : Nat) (hb : 0 < b) : ∀ w, val b (digs b k w) = w % b ^ k := by
  induction k with
  | zero => intro w; simp [digs, val, Nat.mod_one]
  | succ k ih => intro w; rw [digs_succ b k w hb, val_snoc, ih, Nat.pow_succ', Nat.mod_mul]; omega
theorem digs_val (b : Nat) (hb : 0 < b) (l : List Nat) (h : ∀ x ∈ l, x < b) : digs b l.length (val b l) = l := by
  generalize hk : l.length = k
  induction k generalizing l with
  | zero => obtain rfl := List.eq_nil_of_length_eq_zero hk; rfl
  | succ k ih =>
    obtain ⟨l', x, rfl⟩ : ∃ l' x, l = l' ++ [x] := ⟨l.dropLast, l.getLast (by intro h; simp [h] at hk), (List.dropLast_concat_getLast _).symm⟩
    have h2 := h x (by simp)
    rw [digs_succ b k _ hb, val_snoc, Nat.mul_add_div hb, Nat.div_eq_of_lt h2, Nat.add_zero, Nat.mul_add_mod, Nat.mod_eq_of_lt h2, ih l' (fun y hy => h y (by simp [hy])) (by simpa using hk)]
/-- of the first k digits -/
theorem val_take (b : Nat) (hb : 0 < b) (l : List Nat) (h : ∀ x ∈ l, x < b) (k : Nat) (hk : k ≤ l.length) : val b (l.take k) = val b l / b ^ (l.length - k) := by
  obtain ⟨m, hm⟩ : ∃ m, l.length = k + m := ⟨l.length - k, by omega⟩
  rw [hm, Nat.add_sub_cancel_left]
  induction m generalizing l with
  | zero => rw [List.take_of_length_le (by omega)]; simp
  | succ m ih =>
    obtain ⟨l', x, rfl⟩ : ∃ l' x, l = l' ++ [x] := ⟨l.dropLast, l.getLast (by intro h; simp [h] at hm), (List.dropLast_concat_getLast _).symm⟩
    have h2 := h x (by simp)
    have hl : l'.length = k + m := by simp at hm; omega
    rw [List.take_append_of_le_length (by omega), ih l' (fun y hy => h y (by simp [hy])) (by omega) hl, val_snoc, Nat.pow_succ', ← Nat.div_div_eq_div_mul, Nat.mul_add_div hb, Nat.div_eq_of_lt h2, Nat.add_zero]
theorem take_succ_val (b : Nat) (l : List Nat) (k : Nat) (hk : k < l.length) : val b (l.take (k + 1)) = b * val b (l.take k) + l.getD k 0 := by
  rw [List.take_succ_eq_append_getElem hk, val_snoc]; simp [List.getD_eq_getElem?_getD, hk]

/-- the letters -/
def table : List UInt8 := [65,66,67,68,69,70,71,72,73,74,75,76,77,78,79,80,81,82,83,84,85,86,87,88,89,90,97,98,99,100,101,102,103,104,105,106,107,108,109,110,111,112,113,114,115,116,117,118,119,120,121,122,48,49,50,51,52,53,54,55,56,57,45,95]
def letter (i : Nat) : UInt8 := table.getD i 0
/-- bytes as a number -/
def bigN (s : List UInt8) : Nat := val 256 (s.map UInt8.toNat)
/-- how many letters -/
def lets (n : Nat) : Nat := (8 * n + 5) / 6
/-- the letters of bytes -/
def nums (s : List UInt8) : List Nat := digs 64 (lets s.length) (bigN s * 2 ^ (6 * lets s.length - 8 * s.length))
def lettersL (s : List UInt8) : List UInt8 := (nums s).map letter
/-- the bytes of numbers below 64 -/
def decL (vs : List Nat) : List UInt8 := (digs 256 (6 * vs.length / 8) (val 64 vs / 2 ^ (6 * vs.length % 8))).map UInt8.ofNat
/-- nothing is left over -/
def fine (vs : List Nat) : Bool := 6 * vs.length % 8 != 6 && val 64 vs % 2 ^ (6 * vs.length % 8) == 0

theorem bytes_lt (s : List UInt8) : ∀ x ∈ s.map UInt8.toNat, x < 256 := by
  intro x hx; simp only [List.mem_map] at hx; obtain ⟨y, _, rfl⟩ := hx; exact y.toNat_lt
theorem bigN_lt (s : List UInt8) : bigN s < 256 ^ s.length := by have := val_lt 256 _ (bytes_lt s); rwa [List.length_map] at this
theorem ofNat_toNat (l : List UInt8) : (l.map UInt8.toNat).map UInt8.ofNat = l := by
  rw [List.map_map]; conv => rhs; rw [← List.map_id l]
  apply List.map_congr_left; intro x _; simp
theorem lettersL_len (s : List UInt8) : (lettersL s).length = lets s.length := by simp [lettersL, nums, digs_len]
theorem nums_len (s : List UInt8) : (nums s).length = lets s.length := by simp [nums, digs_len]
theorem decL_len (vs : List Nat) : (decL vs).length = 6 * vs.length / 8 := by simp [decL, digs_len]
theorem nums_lt (s : List UInt8) : ∀ x ∈ nums s, x < 64 := digs_lt 64 _ _ (by decide)
theorem table_inj (i j : Nat) (hi : i < 64) (hj : j < 64) : letter i = letter j → i = j := by
  have := (by decide +kernel : ∀ a b : Fin 64, letter a.1 = letter b.1 → a.1 = b.1) ⟨i, hi⟩ ⟨j, hj⟩
  exact this
theorem pow64 (k : Nat) : 64 ^ k = 2 ^ (6 * k) := by rw [Nat.pow_mul]
theorem pow256 (k : Nat) : 256 ^ k = 2 ^ (8 * k) := by rw [Nat.pow_mul]
theorem val_nums (s : List UInt8) : val 64 (nums s) = bigN s * 2 ^ (6 * lets s.length - 8 * s.length) := by
  unfold nums
  rw [val_digs _ _ (by decide)]
  apply Nat.mod_eq_of_lt
  have h := bigN_lt s
  rw [pow256] at h
  rw [pow64]
  have hl : 8 * s.length ≤ 6 * lets s.length := by unfold lets; omega
  calc bigN s * 2 ^ (6 * lets s.length - 8 * s.length) < 2 ^ (8 * s.length) * 2 ^ (6 * lets s.length - 8 * s.length) := Nat.mul_lt_mul_of_pos_right h (Nat.two_pow_pos _)
    _ = 2 ^ (6 * lets s.length) := by rw [← Nat.pow_add]; congr 1; omega
/-- there and back -/
theorem there_back (s : List UInt8) : fine (nums s) = true ∧ decL (nums s) = s := by
  have hl : 6 * lets s.length % 8 = 6 * lets s.length - 8 * s.length ∧ 6 * lets s.length / 8 = s.length ∧ 6 * lets s.length - 8 * s.length ≠ 6 := by unfold lets; omega
  obtain ⟨h1, h2, h3⟩ := hl
  constructor
  · simp [fine, nums_len, h1, h3, val_nums]
  · unfold decL
    rw [nums_len, h1, h2, val_nums, Nat.mul_div_cancel _ (Nat.two_pow_pos _)]
    have := digs_val 256 (by decide) (s.map UInt8.toNat) (bytes_lt s)
    rw [List.length_map] at this
    unfold bigN
    rw [this, ofNat_toNat]
theorem bigN_decL (vs : List Nat) (h : ∀ x ∈ vs, x < 64) : bigN (decL vs) = val 64 vs / 2 ^ (6 * vs.length % 8) := by
  have hv := val_lt 64 vs h
  have e : (decL vs).map UInt8.toNat = digs 256 (6 * vs.length / 8) (val 64 vs / 2 ^ (6 * vs.length % 8)) := by
    unfold decL
    rw [List.map_map]; conv => rhs; rw [← List.map_id (digs _ _ _)]
    apply List.map_congr_left
    intro x hx
    have := digs_lt 256 _ _ (by decide) x hx
    simp; omega
  unfold bigN
  rw [e, val_digs _ _ (by decide)]
  apply Nat.mod_eq_of_lt
  rw [pow256]
  rw [pow64] at hv
  apply (Nat.div_lt_iff_lt_mul (Nat.two_pow_pos _)).2
  rw [← Nat.pow_add]
  rwa [show 8 * (6 * vs.length / 8) + 6 * vs.length % 8 = 6 * vs.length by omega]
/-- back and there -/
theorem back_there (vs : List Nat) (h : ∀ x ∈ vs, x < 64) : lettersL (decL vs) = vs.map letter ↔ fine vs = true := by
  have hd := bigN_decL vs h
  have hl := decL_len vs
  constructor
  · intro he
    have e1 : lets (6 * vs.length / 8) = vs.length := by
      have := congrArg List.length he
      rwa [lettersL_len, hl, List.length_map] at this
    have e2 : nums (decL vs) = vs := by
      apply List.ext_getElem (by rw [nums_len, hl, e1])
      intro i h1 h2
      have := congrArg (fun l => l[i]?) he
      simp only [lettersL, List.getElem?_map, List.getElem?_eq_getElem h1, List.getElem?_eq_getElem h2, Option.map_some, Option.some.injEq] at this
      exact table_inj _ _ (nums_lt _ _ (List.getElem_mem _)) (h _ (List.getElem_mem _)) this
    have e3 := val_nums (decL vs)
    rw [e2, hd, hl, e1] at e3
    have hr : 6 * vs.length - 8 * (6 * vs.length / 8) = 6 * vs.length % 8 := by omega
    rw [hr] at e3
    have h6 : 6 * vs.length % 8 ≠ 6 := by unfold lets at e1; omega
    simp only [fine, Bool.and_eq_true, bne_iff_ne, beq_iff_eq]
    refine ⟨h6, ?_⟩
    have := Nat.div_add_mod (val 64 vs) (2 ^ (6 * vs.length % 8))
    rw [Nat.mul_comm] at this
    omega
  · intro hf
    simp only [fine, Bool.and_eq_true, bne_iff_ne, beq_iff_eq] at hf
    have e1 : lets (6 * vs.length / 8) = vs.length := by unfold lets; omega
    have hr : 6 * vs.length - 8 * (6 * vs.length / 8) = 6 * vs.length % 8 := by omega
    have e4 : nums (decL vs) = vs := by
      unfold nums
      rw [hl, e1, hd, hr]
      have := Nat.div_add_mod (val 64 vs) (2 ^ (6 * vs.length % 8))
      rw [hf.2, Nat.add_zero, Nat.mul_comm] at this
      rw [this]
      exact digs_val 64 (by decide) vs h
    unfold lettersL
    rw [e4]
end Mvl
