/- Layer 1 (pack), in plain Lean: rows of texts as bytes, and how bytes come apart. No program. -/
import Derived.Lib.ItoaNum
import Derived.Lib.ItoaMem
namespace Go.Pk
open Go.Lib

/-- One text of a row. -/
def cell (s : List UInt8) : List UInt8 := decDigits s.length ++ 58 :: s
/-- A row's bytes. -/
def row : List (List UInt8) → List UInt8
  | [] => []
  | s :: l => cell s ++ row l

/-- The number ahead of a text: 'inl e': the error's number; 'inr (n, rest)'. -/
def head : Nat → Nat → List UInt8 → Nat ⊕ (Nat × List UInt8)
  | _, _, [] => .inl 4
  | i, n, c :: r =>
    if c.toNat = 58 ∧ 0 < i then .inr (n, r)
    else if c.toNat < 48 ∨ 57 < c.toNat ∨ i = 9 ∨ (0 < i ∧ n = 0) then .inl 3
    else head (i + 1) (10 * n + (c.toNat - 48)) r

theorem head_lt : ∀ (b : List UInt8) (i n m : Nat) (r : List UInt8), head i n b = .inr (m, r) → r.length < b.length := by
  intro b
  induction b with
  | nil => intro i n m r h; simp [head] at h
  | cons c t ih =>
    intro i n m r h
    unfold head at h
    split at h
    · simp only [Sum.inr.injEq, Prod.mk.injEq] at h
      obtain ⟨_, rfl⟩ := h
      simp
    · split at h
      · cases h
      · have := ih _ _ _ _ h
        simp only [List.length_cons]
        omega

theorem head_err : ∀ (b : List UInt8) (i n e : Nat), head i n b = .inl e → e = 3 ∨ e = 4 := by
  intro b
  induction b with
  | nil => intro i n e h; cases h; exact .inr rfl
  | cons c t ih =>
    intro i n e h
    unfold head at h
    split at h
    · cases h
    · split at h
      · cases h; exact .inl rfl
      · exact ih _ _ _ h
/-- Bytes come apart: with so much fuel. -/
def textsF : Nat → List UInt8 → Nat ⊕ List (List UInt8)
  | 0, _ => .inl 0
  | k + 1, b =>
    if b = [] then .inr []
    else match head 0 0 b with
      | .inl e => .inl e
      | .inr (n, rest) =>
        if rest.length < n then .inl 4
        else match textsF k (rest.drop n) with
          | .inl e => .inl e
          | .inr l => .inr (rest.take n :: l)
/-- The row of bytes, or the error's number. -/
def texts (b : List UInt8) : Nat ⊕ List (List UInt8) := textsF (b.length + 1) b

theorem textsF_more : ∀ (k : Nat) (b : List UInt8), b.length < k → textsF (k + 1) b = textsF k b := by
  intro k
  induction k with
  | zero => intro b h; omega
  | succ k ih =>
    intro b h
    rw [textsF, textsF]
    by_cases hb : b = []
    · simp [hb]
    · simp only [hb, if_false]
      cases hh : head 0 0 b with
      | inl e => rfl
      | inr p =>
        obtain ⟨n, rest⟩ := p
        have hl := head_lt _ _ _ _ _ hh
        simp only
        by_cases hn : rest.length < n
        · simp [hn]
        · rw [if_neg hn, if_neg hn, ih (rest.drop n) (by simp only [List.length_drop]; omega)]
theorem textsF_at (b : List UInt8) : ∀ k, b.length < k → textsF k b = texts b := by
  intro k
  induction k with
  | zero => intro h; omega
  | succ k ih =>
    intro h
    by_cases hk : b.length < k
    · rw [textsF_more k b hk, ih hk]
    · have : k = b.length := by omega
      subst this
      rfl
theorem texts_nil : texts [] = .inr [] := by simp [texts, textsF]
theorem texts_step (b : List UInt8) (hb : b ≠ []) : texts b = match head 0 0 b with
      | .inl e => .inl e
      | .inr (n, rest) =>
        if rest.length < n then .inl 4
        else match texts (rest.drop n) with
          | .inl e => .inl e
          | .inr l => .inr (rest.take n :: l) := by
  unfold texts
  rw [textsF]
  simp only [hb, if_false]
  cases hh : head 0 0 b with
  | inl e => rfl
  | inr p =>
    obtain ⟨n, rest⟩ := p
    have hl := head_lt _ _ _ _ _ hh
    simp only
    by_cases hn : rest.length < n
    · simp [hn]
    · rw [if_neg hn, if_neg hn, textsF_at (rest.drop n) b.length (by simp only [List.length_drop]; omega)]
      rfl

/-! ### Numbers and their digits -/
theorem decDigits_ne (u : Nat) : decDigits u ≠ [] := by
  intro h
  have := decDigits_length u
  rw [h] at this
  have := nDigits_pos u
  simp at *
  omega
theorem decDigits_digit (u : Nat) : ∀ c ∈ decDigits u, 48 ≤ c.toNat ∧ c.toNat ≤ 57 := by
  induction u using Nat.strongRecOn with
  | _ u ih =>
    intro c hc
    rw [decDigits] at hc
    split at hc
    · simp only [List.mem_singleton] at hc
      subst hc
      rw [UInt8.toNat_ofNat']
      omega
    · rcases List.mem_append.1 hc with hc | hc
      · exact ih (u / 10) (by omega) c hc
      · simp only [List.mem_singleton] at hc
        subst hc
        rw [UInt8.toNat_ofNat']
        omega

/-- What digits spell, behind a number. -/
def spell (n : Nat) (l : List UInt8) : Nat := l.foldl (fun a c => 10 * a + (c.toNat - 48)) n
theorem spell_append (n : Nat) (a b : List UInt8) : spell n (a ++ b) = spell (spell n a) b := by simp [spell]
theorem spell_dec (u : Nat) : spell 0 (decDigits u) = u := by
  induction u using Nat.strongRecOn with
  | _ u ih =>
    rw [decDigits]
    split
    · simp only [spell, List.foldl_cons, List.foldl_nil]
      rw [UInt8.toNat_ofNat']
      omega
    · rw [spell_append, ih (u / 10) (by omega)]
      simp only [spell, List.foldl_cons, List.foldl_nil]
      rw [UInt8.toNat_ofNat']
      omega
theorem dec_head (u : Nat) (hu : 0 < u) : ∃ c t, decDigits u = c :: t ∧ 49 ≤ c.toNat := by
  induction u using Nat.strongRecOn with
  | _ u ih =>
    rw [decDigits]
    split
    · refine ⟨_, _, rfl, ?_⟩
      rw [UInt8.toNat_ofNat']
      omega
    · obtain ⟨c, t, e, hc⟩ := ih (u / 10) (by omega) (by omega)
      exact ⟨c, t ++ _, by rw [e]; rfl, hc⟩
/-- Digits without a leading zero are the number's own. -/
theorem dec_spell : ∀ (k : Nat) (l : List UInt8), l.length = k → l ≠ [] → (∀ c ∈ l, 48 ≤ c.toNat ∧ c.toNat ≤ 57) → (l.length = 1 ∨ ∀ c t, l = c :: t → 49 ≤ c.toNat) → decDigits (spell 0 l) = l ∧ (1 < l.length → 0 < spell 0 l) := by
  intro k
  induction k with
  | zero => intro l hl hne; simp at hl; exact absurd hl hne
  | succ k ih =>
    intro l hl hne hd h0
    obtain ⟨a, c, rfl⟩ : ∃ a c, l = a ++ [c] := ⟨l.dropLast, l.getLast hne, (List.dropLast_concat_getLast hne).symm⟩
    have hc := hd c (by simp)
    have hlen : (a ++ [c]).length = a.length + 1 := by simp
    rw [spell_append]
    simp only [spell, List.foldl_cons, List.foldl_nil]
    by_cases ha : a = []
    · subst ha
      simp only [List.foldl_nil, List.nil_append, List.length_singleton]
      refine ⟨?_, by omega⟩
      rw [decDigits, dif_pos (by omega)]
      congr 1
      apply UInt8.toNat_inj.1
      rw [UInt8.toNat_ofNat']
      omega
    · have h1 := ih a (by omega) ha (fun x hx => hd x (by simp [hx])) (by
        rcases h0 with h0 | h0
        · have : 0 < a.length := List.length_pos_iff.2 ha
          omega
        · right
          intro x t e
          exact h0 x (t ++ [c]) (by rw [e]; rfl))
      have hpos : 0 < spell 0 a := by
        rcases Nat.lt_or_ge 1 a.length with h | h
        · exact h1.2 h
        · have hl1 : a.length = 1 := by have : 0 < a.length := List.length_pos_iff.2 ha; omega
          obtain ⟨x, rfl⟩ := List.length_eq_one_iff.1 hl1
          rcases h0 with h0 | h0
          · simp at h0
          · have := h0 x [c] rfl
            simp only [spell, List.foldl_cons, List.foldl_nil]
            omega
      change decDigits (10 * spell 0 a + (c.toNat - 48)) = a ++ [c] ∧ _
      refine ⟨?_, fun _ => by change 0 < 10 * spell 0 a + _; omega⟩
      rw [decDigits, dif_neg (by omega)]
      have e1 : (10 * spell 0 a + (c.toNat - 48)) / 10 = spell 0 a := by omega
      have e2 : (10 * spell 0 a + (c.toNat - 48)) % 10 = c.toNat - 48 := by omega
      rw [e1, e2, h1.1]
      congr 2
      apply UInt8.toNat_inj.1
      rw [UInt8.toNat_ofNat']
      omega

/-! ### The head of a cell -/
theorem head_skip : ∀ (d : List UInt8) (i n : Nat) (r : List UInt8), (∀ c ∈ d, 48 ≤ c.toNat ∧ c.toNat ≤ 57) → i + d.length ≤ 9 → (d ≠ [] → 0 < i → 0 < n) → (d.length ≤ 1 ∨ 0 < i ∨ ∀ c t, d = c :: t → 49 ≤ c.toNat) →
    head i n (d ++ r) = head (i + d.length) (spell n d) r := by
  intro d
  induction d with
  | nil => intro i n r _ _ _ _; simp [spell]
  | cons c t ih =>
    intro i n r hd hi hn h0
    have hc := hd c (by simp)
    have hlen : (c :: t).length = t.length + 1 := rfl
    rw [List.cons_append, head, if_neg (by omega), if_neg (by
      intro h
      rcases h with h | h | h | ⟨h, h'⟩
      · omega
      · omega
      · omega
      · have := hn (by simp) h
        omega)]
    rw [ih (i + 1) _ r (fun x hx => hd x (by simp [hx])) (by omega) (fun hne _ => by
      rcases h0 with h0 | h0 | h0
      · have : 0 < t.length := List.length_pos_iff.2 hne
        omega
      · have := hn (by simp) h0
        omega
      · have := h0 c t rfl
        omega) (.inr (.inl (by omega)))]
    rw [show i + 1 + t.length = i + (c :: t).length by rw [hlen]; omega]
    rfl
theorem dec_shape (u : Nat) : (decDigits u).length ≤ 1 ∨ 0 < 0 ∨ ∀ c t, decDigits u = c :: t → 49 ≤ c.toNat := by
  rcases Nat.eq_zero_or_pos u with h | h
  · left
    subst h
    rw [decDigits_one (by omega)]
    simp
  · right; right
    intro c t e
    obtain ⟨c', t', e', hc⟩ := dec_head u h
    rw [e] at e'
    cases e'
    exact hc
theorem dec_len (u : Nat) (h : u < 1000000000) : (decDigits u).length ≤ 9 := by
  rw [decDigits_length]
  rcases Nat.lt_or_ge 9 (nDigits u) with h9 | h9
  · exfalso
    have key : ∀ (k v : Nat), v < 10 ^ k → 1 ≤ k → nDigits v ≤ k := by
      intro k
      induction k with
      | zero => intro v _ h; omega
      | succ k ih =>
        intro v hv _
        by_cases h10 : v < 10
        · rw [nDigits_small h10]; omega
        · rw [nDigits_big h10]
          rcases Nat.eq_zero_or_pos k with hk | hk
          · subst hk
            omega
          · have := ih (v / 10) (by rw [Nat.pow_succ] at hv; omega) hk
            omega
    have := key 9 u (by omega) (by omega)
    omega
  · exact h9
/-- A cell's head is read as its length. -/
theorem head_cell (u : Nat) (h : u < 1000000000) (r : List UInt8) : head 0 0 (decDigits u ++ 58 :: r) = .inr (u, r) := by
  rw [head_skip (decDigits u) 0 0 (58 :: r) (decDigits_digit u) (by have := dec_len u h; omega) (fun _ h => by omega) (dec_shape u)]
  rw [spell_dec, head, if_pos]
  refine ⟨rfl, ?_⟩
  have : 0 < (decDigits u).length := List.length_pos_iff.2 (decDigits_ne u)
  omega
/-- What was read, in full. -/
theorem head_inv : ∀ (b : List UInt8) (i n m : Nat) (r : List UInt8), head i n b = .inr (m, r) → ∃ d, b = d ++ 58 :: r ∧ m = spell n d ∧ (∀ c ∈ d, 48 ≤ c.toNat ∧ c.toNat ≤ 57) ∧ i + d.length ≤ 9 ∧ 0 < i + d.length ∧ (d ≠ [] → 0 < i → 0 < n) ∧ (1 < d.length → ∀ c t, d = c :: t → 49 ≤ c.toNat ∨ 0 < n) ∨ 9 < i := by
  intro b
  induction b with
  | nil => intro i n m r h; simp [head] at h
  | cons c t ih =>
    intro i n m r h
    by_cases hi9 : 9 < i
    · exact ⟨[], .inr hi9⟩
    unfold head at h
    split at h
    · rename_i h1
      simp only [Sum.inr.injEq, Prod.mk.injEq] at h
      obtain ⟨rfl, rfl⟩ := h
      refine ⟨[], .inl ⟨?_, rfl, by simp, by simp; omega, by simp; omega, by simp, by simp⟩⟩
      congr 1
      exact UInt8.toNat_inj.1 h1.1
    · split at h
      · cases h
      · rename_i h1 h2
        have h3 : ¬ (0 < i ∧ n = 0) := fun h => h2 (.inr (.inr (.inr h)))
        obtain ⟨d, hd | hd⟩ := ih _ _ _ _ h
        · obtain ⟨e1, e2, e3, e4, e5, e6, e7⟩ := hd
          refine ⟨c :: d, .inl ⟨by rw [e1]; rfl, by rw [e2]; rfl, ?_, by simp only [List.length_cons]; omega, by simp only [List.length_cons]; omega, fun _ h => by omega, ?_⟩⟩
          · intro x hx
            rcases List.mem_cons.1 hx with rfl | hx
            · omega
            · exact e3 x hx
          · intro hl x u e
            cases e
            by_cases hn : 0 < n
            · exact .inr hn
            · left
              have hdne : d ≠ [] := by intro hd; subst hd; simp at hl
              have := e6 hdne (by omega)
              omega
        · exact absurd hd (by omega)
theorem head_back (b : List UInt8) (m : Nat) (r : List UInt8) (h : head 0 0 b = .inr (m, r)) : b = decDigits m ++ 58 :: r ∧ m < 1000000000 := by
  obtain ⟨d, hd | hd⟩ := head_inv b 0 0 m r h
  · obtain ⟨e1, e2, e3, e4, e5, _, e7⟩ := hd
    have hne : d ≠ [] := by intro h; subst h; simp at e5
    have hk := dec_spell d.length d rfl hne e3 (by
      rcases Nat.lt_or_ge 1 d.length with h | h
      · right
        intro c t e
        rcases e7 h c t e with h' | h'
        · exact h'
        · omega
      · left; omega)
    rw [e2, hk.1]
    refine ⟨e1, ?_⟩
    have hb : ∀ (l : List UInt8) (n k : Nat), (∀ c ∈ l, 48 ≤ c.toNat ∧ c.toNat ≤ 57) → n < 10 ^ k → spell n l < 10 ^ (k + l.length) := by
      intro l
      induction l with
      | nil => intro n k _ h; simpa [spell] using h
      | cons c t ih =>
        intro n k hc h
        have := hc c (by simp)
        have := ih (10 * n + (c.toNat - 48)) (k + 1) (fun x hx => hc x (by simp [hx])) (by rw [Nat.pow_succ]; omega)
        rw [show k + (c :: t).length = k + 1 + t.length by simp only [List.length_cons]; omega]
        exact this
    have := hb d 0 0 e3 (by simp)
    have : 10 ^ (0 + d.length) ≤ 10 ^ 9 := Nat.pow_le_pow_right (by omega) (by omega)
    omega
  · omega

/-! ### Rows -/
theorem cell_ne (s : List UInt8) : cell s ≠ [] := by simp [cell]
theorem texts_cons (s : List UInt8) (h : s.length < 1000000000) (r : List UInt8) : texts (cell s ++ r) = match texts r with
    | .inl e => .inl e
    | .inr l => .inr (s :: l) := by
  rw [texts_step _ (by simp [cell])]
  unfold cell
  rw [List.append_assoc, List.cons_append, head_cell _ h]
  simp only
  rw [if_neg (by simp), List.drop_left, List.take_left]
/-- What is written is read. -/
theorem texts_row : ∀ (l : List (List UInt8)), (∀ s ∈ l, s.length < 1000000000) → texts (row l) = .inr l := by
  intro l
  induction l with
  | nil => intro _; exact texts_nil
  | cons s l ih =>
    intro h
    rw [row, texts_cons s (h s (by simp)), ih (fun x hx => h x (by simp [hx]))]
/-- What is read was written so. -/
theorem row_texts : ∀ (k : Nat) (b : List UInt8) (l : List (List UInt8)), b.length < k → texts b = .inr l → row l = b ∧ ∀ s ∈ l, s.length < 1000000000 := by
  intro k
  induction k with
  | zero => intro b l h; omega
  | succ k ih =>
    intro b l hk h
    by_cases hb : b = []
    · subst hb
      rw [texts_nil] at h
      cases h
      exact ⟨rfl, by simp⟩
    · rw [texts_step b hb] at h
      cases hh : head 0 0 b with
      | inl e => rw [hh] at h; cases h
      | inr p =>
        obtain ⟨n, rest⟩ := p
        rw [hh] at h
        simp only at h
        have hl := head_lt _ _ _ _ _ hh
        split at h
        · cases h
        · rename_i hn
          cases ht : texts (rest.drop n) with
          | inl e => rw [ht] at h; cases h
          | inr l' =>
            rw [ht] at h
            simp only [Sum.inr.injEq] at h
            subst h
            obtain ⟨hb1, hb2⟩ := head_back b n rest hh
            obtain ⟨h1, h2⟩ := ih (rest.drop n) l' (by simp only [List.length_drop]; omega) ht
            have hlen : (rest.take n).length = n := by rw [List.length_take]; omega
            refine ⟨?_, ?_⟩
            · rw [row, h1, cell, hlen, hb1]
              rw [List.append_assoc, List.cons_append, List.take_append_drop]
            · intro s hs
              rcases List.mem_cons.1 hs with rfl | hs
              · omega
              · exact h2 s hs
theorem row_append (a b : List (List UInt8)) : row (a ++ b) = row a ++ row b := by
  induction a with
  | nil => rfl
  | cons s a ih => rw [List.cons_append, row, row, ih, List.append_assoc]
theorem row_inj {a b : List (List UInt8)} (ha : ∀ s ∈ a, s.length < 1000000000) (hb : ∀ s ∈ b, s.length < 1000000000) : row a = row b ↔ a = b := by
  constructor
  · intro h
    have h1 := texts_row a ha
    have h2 := texts_row b hb
    rw [h, h2] at h1
    cases h1
    rfl
  · rintro rfl; rfl
theorem row_nil_iff (a : List (List UInt8)) : row a = [] ↔ a = [] := by
  cases a with
  | nil => simp [row]
  | cons s l => simp [row, cell]
/-- How much there is of a row: each text's bytes and one. -/
def bulk : List (List UInt8) → Nat
  | [] => 0
  | s :: l => s.length + 1 + bulk l
theorem bulk_len (l : List (List UInt8)) : l.length ≤ bulk l := by
  induction l with
  | nil => exact Nat.zero_le _
  | cons s l ih => rw [bulk, List.length_cons]; omega
theorem bulk_mem {l : List (List UInt8)} {s : List UInt8} (h : s ∈ l) : s.length + 1 ≤ bulk l := by
  induction l with
  | nil => cases h
  | cons x l ih =>
    rw [bulk]
    rcases List.mem_cons.1 h with rfl | h
    · omega
    · have := ih h
      omega
theorem bulk_small {l : List (List UInt8)} (h : bulk l ≤ 1000000000) : ∀ s ∈ l, s.length < 1000000000 := fun s hs => by
  have := bulk_mem hs
  omega
theorem row_len (l : List (List UInt8)) (h : ∀ s ∈ l, s.length < 1000000000) : (row l).length ≤ 10 * bulk l := by
  induction l with
  | nil => simp [row]
  | cons s l ih =>
    have h1 := ih (fun x hx => h x (by simp [hx]))
    have h2 := dec_len s.length (h s (by simp))
    rw [row, bulk, List.length_append, cell, List.length_append, List.length_cons]
    omega

theorem bulk_le_row (l : List (List UInt8)) : bulk l ≤ (row l).length := by
  induction l with
  | nil => exact Nat.zero_le _
  | cons s l ih =>
    rw [row, bulk, List.length_append, cell, List.length_append, List.length_cons]
    omega
theorem texts_err : ∀ (k : Nat) (b : List UInt8) (e : Nat), b.length < k → texts b = .inl e → e = 3 ∨ e = 4 := by
  intro k
  induction k with
  | zero => intro b e h; omega
  | succ k ih =>
    intro b e hk h
    by_cases hb : b = []
    · subst hb
      rw [texts_nil] at h
      cases h
    · rw [texts_step b hb] at h
      cases hh : head 0 0 b with
      | inl e' => rw [hh] at h; cases h; exact head_err _ _ _ _ hh
      | inr p =>
        obtain ⟨n, rest⟩ := p
        rw [hh] at h
        simp only at h
        have hl := head_lt _ _ _ _ _ hh
        split at h
        · cases h; exact .inr rfl
        · cases ht : texts (rest.drop n) with
          | inl e' =>
            rw [ht] at h
            cases h
            exact ih _ _ (by simp only [List.length_drop]; omega) ht
          | inr l' => rw [ht] at h; cases h

/-! ### Whatever is cut from the end -/
theorem head_short (u : Nat) (h : u < 1000000000) (k : Nat) (hk : k ≤ (decDigits u).length) : head 0 0 ((decDigits u).take k) = .inl 4 := by
  have hs := head_skip ((decDigits u).take k) 0 0 [] (fun c hc => decDigits_digit u c (List.mem_of_mem_take hc)) (by
    have := dec_len u h
    rw [List.length_take]
    omega) (fun _ h => by omega) (by
    rcases dec_shape u with h1 | h1 | h1
    · left
      rw [List.length_take]
      omega
    · omega
    · right; right
      intro c t e
      cases hd : decDigits u with
      | nil => rw [hd] at e; simp at e
      | cons x y =>
        rw [hd] at e
        cases k with
        | zero => simp at e
        | succ k =>
          simp only [List.take_succ_cons, List.cons.injEq] at e
          obtain ⟨rfl, _⟩ := e
          exact h1 x y hd)
  rw [List.append_nil] at hs
  rw [hs, head]
theorem texts_cut : ∀ (a : List (List UInt8)), (∀ s ∈ a, s.length < 1000000000) → ∀ k, k < (row a).length → texts ((row a).take k) = .inl 4 ∨ ∃ l, texts ((row a).take k) = .inr l ∧ l.length < a.length := by
  intro a
  induction a with
  | nil => intro _ k hk; simp [row] at hk
  | cons s a ih =>
    intro h k hk
    rw [row] at hk ⊢
    rw [List.length_append] at hk
    have hs := h s (by simp)
    by_cases hc : k < (cell s).length
    · rw [List.take_append_of_le_length (by omega)]
      rcases Nat.eq_zero_or_pos k with h0 | h0
      · subst h0
        right
        exact ⟨[], by rw [List.take_zero]; exact texts_nil, by simp⟩
      · left
        have hne : (cell s).take k ≠ [] := by
          intro e
          have := congrArg List.length e
          rw [List.length_take, List.length_nil] at this
          omega
        rw [texts_step _ hne]
        unfold cell at hc ⊢
        rw [List.length_append, List.length_cons] at hc
        by_cases hk2 : k ≤ (decDigits s.length).length
        · rw [List.take_append_of_le_length hk2, head_short _ hs k hk2]
        · obtain ⟨j, rfl⟩ : ∃ j, k = (decDigits s.length).length + (j + 1) := ⟨k - (decDigits s.length).length - 1, by omega⟩
          rw [List.take_length_add_append, List.take_succ_cons, head_cell _ hs]
          simp only
          rw [if_pos (by rw [List.length_take]; omega)]
    · obtain ⟨j, rfl⟩ : ∃ j, k = (cell s).length + j := ⟨k - (cell s).length, by omega⟩
      rw [List.take_length_add_append, texts_cons s hs]
      rcases ih (fun x hx => h x (by simp [hx])) j (by omega) with h1 | ⟨l, h1, h2⟩
      · left; rw [h1]
      · right
        exact ⟨s :: l, by rw [h1], by simp only [List.length_cons]; omega⟩
end Go.Pk
