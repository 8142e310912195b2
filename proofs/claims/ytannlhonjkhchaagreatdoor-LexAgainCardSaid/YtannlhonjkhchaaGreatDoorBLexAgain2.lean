/- Texts towards the law LexAgain, one behind the other: each begins with its own sentence. Conditions: each theorem's own. -/
import Derived.OpenShut
import Derived.ProofKit
import Derived.SizedLaws
import Derived.Test.YtannlhonjkhchaaGreatDoorBLexAgain0
import Derived.Test.YtannlhonjkhchaaGreatDoorBLexAgain1
import Derived.Test.YtannlhonjkhchaaGreatDoorWMore
/- Layer 9 (lex), in plain Lean, the second part: parts, faults, places, remarks, quoted texts, once more. No program. -/
namespace Go.Lx
theorem quoted_some : ∀ (k : Nat) (s : List UInt8), s.length ≤ k → ∀ t n, quoted s = some (t, n) → ∀ x, quoted (s ++ x) = some (t, n) := by
  intro k
  induction k with
  | zero =>
    intro s hs t n h
    have : s = [] := List.length_eq_zero_iff.1 (by omega)
    subst this
    simp [quoted] at h
  | succ k ih =>
    intro s hs t n h x
    match s with
    | [] => simp [quoted] at h
    | c :: r =>
      simp only [List.length_cons] at hs
      rw [List.cons_append, quoted_cons]
      rw [quoted_cons] at h
      by_cases h1 : c = 34
      · rw [if_pos h1] at h ⊢; exact h
      · rw [if_neg h1] at h ⊢
        by_cases h2 : c.toNat < 32 ∨ c = 127
        · rw [if_pos h2] at h; cases h
        · rw [if_neg h2] at h ⊢
          by_cases h3 : c = 92
          · rw [if_pos h3] at h ⊢
            match r with
            | [] => cases h
            | d :: r' =>
              simp only [List.cons_append] at h ⊢
              simp only [List.length_cons] at hs
              cases he : esc d with
              | none => rw [he] at h; cases h
              | some y =>
                rw [he] at h
                simp only at h ⊢
                cases hq : quoted r' with
                | none => rw [hq] at h; cases h
                | some z =>
                  obtain ⟨t', n'⟩ := z
                  rw [hq] at h
                  rw [ih r' (by omega) t' n' hq x]
                  exact h
          · rw [if_neg h3] at h ⊢
            cases hq : quoted r with
            | none => rw [hq] at h; cases h
            | some z =>
              obtain ⟨t', n'⟩ := z
              rw [hq] at h
              rw [ih r (by omega) t' n' hq x]
              exact h
theorem quoted_none : ∀ (k : Nat) (s : List UInt8), s.length ≤ k → quoted s = none → ∀ x, quoted (s ++ 10 :: x) = none := by
  intro k
  induction k with
  | zero =>
    intro s hs h x
    have : s = [] := List.length_eq_zero_iff.1 (by omega)
    subst this
    simp [quoted_cons]
  | succ k ih =>
    intro s hs h x
    match s with
    | [] => simp [quoted_cons]
    | c :: r =>
      simp only [List.length_cons] at hs
      rw [List.cons_append, quoted_cons]
      rw [quoted_cons] at h
      by_cases h1 : c = 34
      · rw [if_pos h1] at h; cases h
      · rw [if_neg h1] at h ⊢
        by_cases h2 : c.toNat < 32 ∨ c = 127
        · rw [if_pos h2]
        · rw [if_neg h2] at h ⊢
          by_cases h3 : c = 92
          · rw [if_pos h3] at h ⊢
            match r with
            | [] => simp [esc]
            | d :: r' =>
              simp only [List.cons_append] at h ⊢
              simp only [List.length_cons] at hs
              cases he : esc d with
              | none => rfl
              | some y =>
                rw [he] at h
                simp only at h ⊢
                cases hq : quoted r' with
                | none => rw [ih r' (by omega) hq x]
                | some z => rw [hq] at h; cases h
          · rw [if_neg h3] at h ⊢
            cases hq : quoted r with
            | none => rw [ih r (by omega) hq x]
            | some z => rw [hq] at h; cases h
theorem head_app (s : List UInt8) (x : UInt8) (r : List UInt8) (h : s ≠ []) : (s ++ x :: r).head? = s.head? := by
  cases s with
  | nil => exact absurd rfl h
  | cons c s => rfl
/-- A line feed behind changes nothing of what a text begins with. -/
theorem piece_lf (s : List UInt8) (hs : s ≠ []) (x : List UInt8) : piece (s ++ 10 :: x) = piece s := by
  match s with
  | [] => exact absurd rfl hs
  | c :: r =>
    rw [List.cons_append, piece_cons, piece_cons]
    have e : ∀ p : UInt8 → Bool, p 10 = false → (c :: (r ++ 10 :: x)).takeWhile p = (c :: r).takeWhile p := fun p hp => takeWhile_stop p 10 hp x (c :: r)
    have en : number (c :: (r ++ 10 :: x)) = number (c :: r) := by
      unfold number
      rw [e digitc (by decide)]
      rfl
    rw [e notLf (by decide), e wordc (by decide), en]
    have eq : quoted (r ++ 10 :: x) = quoted r := by
      cases hq : quoted r with
      | none => exact quoted_none r.length r (by omega) hq x
      | some z =>
        obtain ⟨t, n⟩ := z
        exact quoted_some r.length r (by omega) t n hq (10 :: x)
    rw [eq]
    have eh : ((r ++ 10 :: x).head? = some 61 ∧ (c = 61 ∨ c = 33)) ↔ (r.head? = some 61 ∧ (c = 61 ∨ c = 33)) := by
      cases r with
      | nil => simp
      | cons d r => simp
    simp only [eh]

/-- Tokens ahead of what else there is. -/
def ahead (l : List Tok) : (Nat × (Nat × Nat)) ⊕ List Tok → (Nat × (Nat × Nat)) ⊕ List Tok
  | .inl e => .inl e
  | .inr m => .inr (l ++ m)
theorem ahead_nil (x : (Nat × (Nat × Nat)) ⊕ List Tok) : ahead [] x = x := by cases x <;> rfl
/-- P9.3: a line feed ends what stands ahead of it. -/
theorem all_parts (x : List UInt8) : ∀ (k : Nat) (a : List UInt8), a.length ≤ k → ∀ (p : Nat × Nat) (l : List Tok), all p a = .inr l →
    all p (a ++ 10 :: x) = ahead l (all (pass p (a ++ [10])) x) := by
  intro k
  induction k with
  | zero =>
    intro a ha p l h
    have : a = [] := List.length_eq_zero_iff.1 (by omega)
    subst this
    rw [all_nil] at h
    cases h
    rw [ahead_nil]
    exact all_gaps [10] p x (by simp [gapc])
  | succ k ih =>
    intro a ha p l h
    by_cases ha0 : a = []
    · subst ha0
      rw [all_nil] at h
      cases h
      rw [ahead_nil]
      exact all_gaps [10] p x (by simp [gapc])
    · have hp := piece_size a ha0
      rw [all_step _ _ (by simp), piece_lf a ha0 x]
      rw [all_step p a ha0] at h
      cases hh : piece a with
      | bad e => rw [hh] at h; cases h
      | gap n =>
        rw [hh] at h hp
        simp only [Piece.size] at h hp ⊢
        have h1 : 1 ≤ n := by rcases hp.2 with ⟨e, he⟩ | h1; cases he; exact h1
        have hd : (a ++ 10 :: x).drop n = a.drop n ++ 10 :: x := by rw [List.drop_append_of_le_length hp.1]
        have ht : (a ++ 10 :: x).take n = a.take n := by rw [List.take_append_of_le_length hp.1]
        rw [hd, ht, ih (a.drop n) (by rw [List.length_drop]; omega) _ l h, ← pass_append, ← List.append_assoc, List.take_append_drop]
      | tok kd t n =>
        rw [hh] at h hp
        simp only [Piece.size] at h hp ⊢
        have h1 : 1 ≤ n := by rcases hp.2 with ⟨e, he⟩ | h1; cases he; exact h1
        have hd : (a ++ 10 :: x).drop n = a.drop n ++ 10 :: x := by rw [List.drop_append_of_le_length hp.1]
        have ht : (a ++ 10 :: x).take n = a.take n := by rw [List.take_append_of_le_length hp.1]
        cases hr : all (pass p (a.take n)) (a.drop n) with
        | inl e => rw [hr] at h; cases h
        | inr l' =>
          rw [hr] at h
          cases h
          rw [hd, ht, ih (a.drop n) (by rw [List.length_drop]; omega) _ l' hr, ← pass_append, ← List.append_assoc, List.take_append_drop]
          cases all (pass p (a ++ [10])) x <;> rfl
/-- P9.1: what isn't right stays so. -/
theorem all_fault (x : List UInt8) : ∀ (k : Nat) (a : List UInt8), a.length ≤ k → ∀ (p : Nat × Nat) (e : Nat × (Nat × Nat)), all p a = .inl e → all p (a ++ 10 :: x) = .inl e := by
  intro k
  induction k with
  | zero =>
    intro a ha p e h
    have : a = [] := List.length_eq_zero_iff.1 (by omega)
    subst this
    rw [all_nil] at h
    cases h
  | succ k ih =>
    intro a ha p e h
    by_cases ha0 : a = []
    · subst ha0
      rw [all_nil] at h
      cases h
    · have hp := piece_size a ha0
      rw [all_step _ _ (by simp), piece_lf a ha0 x]
      rw [all_step p a ha0] at h
      cases hh : piece a with
      | bad e' => rw [hh] at h; exact h
      | gap n =>
        rw [hh] at h hp
        simp only [Piece.size] at h hp ⊢
        have h1 : 1 ≤ n := by rcases hp.2 with ⟨e, he⟩ | h1; cases he; exact h1
        have hd : (a ++ 10 :: x).drop n = a.drop n ++ 10 :: x := by rw [List.drop_append_of_le_length hp.1]
        have ht : (a ++ 10 :: x).take n = a.take n := by rw [List.take_append_of_le_length hp.1]
        rw [hd, ht, ih (a.drop n) (by rw [List.length_drop]; omega) _ e h]
      | tok kd t n =>
        rw [hh] at h hp
        simp only [Piece.size] at h hp ⊢
        have h1 : 1 ≤ n := by rcases hp.2 with ⟨e, he⟩ | h1; cases he; exact h1
        have hd : (a ++ 10 :: x).drop n = a.drop n ++ 10 :: x := by rw [List.drop_append_of_le_length hp.1]
        have ht : (a ++ 10 :: x).take n = a.take n := by rw [List.take_append_of_le_length hp.1]
        cases hr : all (pass p (a.take n)) (a.drop n) with
        | inl e' =>
          rw [hr] at h
          cases h
          rw [hd, ht, ih (a.drop n) (by rw [List.length_drop]; omega) _ e hr]
        | inr l' => rw [hr] at h; cases h

/-! ### Further down -/
def Tok.down (d : Nat) (t : Tok) : Tok := { t with place := (t.place.1 + d, t.place.2) }
theorem pass_down (d : Nat) : ∀ (s : List UInt8) (p : Nat × Nat), pass (p.1 + d, p.2) s = ((pass p s).1 + d, (pass p s).2) := by
  intro s
  induction s with
  | nil => intro p; rfl
  | cons c s ih =>
    intro p
    have h1 : pass1 (p.1 + d, p.2) c = ((pass1 p c).1 + d, (pass1 p c).2) := by
      unfold pass1
      split
      · simp only [Prod.mk.injEq, and_true]; omega
      · rfl
    show pass (pass1 (p.1 + d, p.2) c) s = _
    rw [h1, ih]
    rfl
theorem all_down (d : Nat) : ∀ (k : Nat) (s : List UInt8), s.length ≤ k → ∀ p : Nat × Nat, all (p.1 + d, p.2) s = (match all p s with
    | .inl e => .inl (e.1, (e.2.1 + d, e.2.2))
    | .inr l => .inr (l.map (Tok.down d))) := by
  intro k
  induction k with
  | zero =>
    intro a ha p
    have : a = [] := List.length_eq_zero_iff.1 (by omega)
    subst this
    rfl
  | succ k ih =>
    intro a ha p
    by_cases ha0 : a = []
    · subst ha0; rfl
    · have hp := piece_size a ha0
      rw [all_step _ a ha0, all_step _ a ha0]
      cases hh : piece a with
      | bad e => rfl
      | gap n =>
        rw [hh] at hp
        simp only [Piece.size] at hp ⊢
        have h1 : 1 ≤ n := by rcases hp.2 with ⟨e, he⟩ | h1; cases he; exact h1
        have hlen := List.length_pos_iff.2 ha0
        rw [pass_down, ih _ (by rw [List.length_drop]; omega)]
      | tok kd t n =>
        rw [hh] at hp
        simp only [Piece.size] at hp ⊢
        have h1 : 1 ≤ n := by rcases hp.2 with ⟨e, he⟩ | h1; cases he; exact h1
        have hlen := List.length_pos_iff.2 ha0
        rw [pass_down, ih _ (by rw [List.length_drop]; omega)]
        cases all (pass p (a.take n)) (a.drop n) <;> rfl
theorem pass_lf (p : Nat × Nat) (a : List UInt8) : pass p (a ++ [10]) = ((pass p a).1 + 1, 1) := by rw [pass_append]; rfl

/-! ### A remark behind -/
theorem pass_line (y : List UInt8) (h : ∀ c ∈ y, notLf c = true) : ∀ p : Nat × Nat, (pass p y).1 = p.1 := by
  induction y with
  | nil => intro p; rfl
  | cons c y ih =>
    intro p
    have hc := h c (by simp)
    show (pass (pass1 p c) y).1 = p.1
    rw [ih (fun x hx => h x (by simp [hx]))]
    unfold pass1
    rw [if_neg (by simpa [notLf] using hc)]
theorem takeWhile_part (p : UInt8 → Bool) : ∀ s : List UInt8, (∃ c ∈ s, p c = false) → ∀ r, (s ++ r).takeWhile p = s.takeWhile p := by
  intro s
  induction s with
  | nil => rintro ⟨c, hc, _⟩; cases hc
  | cons c s ih =>
    rintro ⟨x, hx, hpx⟩ r
    cases hc : p c with
    | false => rw [List.cons_append, List.takeWhile_cons_of_neg (by simp [hc]), List.takeWhile_cons_of_neg (by simp [hc])]
    | true =>
      rcases List.mem_cons.1 hx with rfl | hx
      · rw [hc] at hpx; cases hpx
      · rw [List.cons_append, List.takeWhile_cons_of_pos hc, List.takeWhile_cons_of_pos hc, ih ⟨x, hx, hpx⟩]
theorem piece_hash (s : List UInt8) (hs : s ≠ []) (hb : ∀ e, piece s ≠ .bad e) (y : List UInt8) :
    piece (s ++ 35 :: y) = piece s ∨ ∃ r, s = 35 :: r ∧ ∀ c ∈ s, notLf c = true := by
  match s with
  | [] => exact absurd rfl hs
  | c :: r =>
    by_cases hr : c = 35 ∧ ∀ d ∈ c :: r, notLf d = true
    · exact .inr ⟨r, by rw [hr.1], hr.2⟩
    left
    rw [List.cons_append, piece_cons, piece_cons]
    rw [piece_cons] at hb
    by_cases h1 : gapc c = true
    · rw [if_pos h1, if_pos h1]
    · rw [if_neg h1] at hb ⊢
      rw [if_neg h1]
      by_cases h2 : c = 35
      · rw [if_pos h2, if_pos h2]
        have hlf : ∃ d ∈ c :: r, notLf d = false := by
          apply Classical.byContradiction
          intro hn
          refine hr ⟨h2, fun d hd => ?_⟩
          cases hx : notLf d with
          | true => rfl
          | false => exact absurd ⟨d, hd, hx⟩ hn
        have := takeWhile_part notLf (c :: r) hlf (35 :: y)
        rw [List.cons_append] at this
        rw [this]
      · rw [if_neg h2] at hb ⊢
        rw [if_neg h2]
        have e : ∀ p : UInt8 → Bool, p 35 = false → (c :: (r ++ 35 :: y)).takeWhile p = (c :: r).takeWhile p := fun p hp => takeWhile_stop p 35 hp y (c :: r)
        have en : number (c :: (r ++ 35 :: y)) = number (c :: r) := by
          unfold number
          rw [e digitc (by decide)]
          rfl
        rw [e wordc (by decide), en]
        by_cases h3 : letterc c = true
        · rw [if_pos h3, if_pos h3]
        · rw [if_neg h3] at hb ⊢
          rw [if_neg h3]
          by_cases h4 : digitc c = true
          · rw [if_pos h4, if_pos h4]
          · rw [if_neg h4] at hb ⊢
            rw [if_neg h4]
            by_cases h5 : c = 34
            · rw [if_pos h5] at hb ⊢
              rw [if_pos h5]
              cases hq : quoted r with
              | none => rw [hq] at hb; exact absurd rfl (hb 3)
              | some z =>
                obtain ⟨t, n⟩ := z
                rw [quoted_some r.length r (by omega) t n hq]
            · rw [if_neg h5, if_neg h5]
              have eh : ((r ++ 35 :: y).head? = some 61 ∧ (c = 61 ∨ c = 33)) ↔ (r.head? = some 61 ∧ (c = 61 ∨ c = 33)) := by
                cases r with
                | nil => simp
                | cons d r => simp
              simp only [eh]
/-- P9.3: a remark at the end of what stands ahead plays no part. -/
theorem all_remarked (rem x : List UInt8) (hrem : ∀ c ∈ rem, notLf c = true) : ∀ (k : Nat) (a : List UInt8), a.length ≤ k → ∀ (p : Nat × Nat) (l : List Tok), all p a = .inr l →
    all p (a ++ (35 :: (rem ++ 10 :: x))) = ahead l (all (pass p (a ++ 35 :: (rem ++ [10]))) x) := by
  have hash : ∀ r : List UInt8, (∀ c ∈ 35 :: r, notLf c = true) → ∀ p : Nat × Nat, all p (35 :: (r ++ 10 :: x)) = all (pass p (35 :: (r ++ [10]))) x := by
    intro r hr p
    have hpc : piece (35 :: (r ++ 10 :: x)) = .gap (35 :: r).length := by
      rw [piece_cons, if_neg (by decide), if_pos rfl]
      have := takeWhile_stop notLf 10 (by decide) x (35 :: r)
      rw [List.cons_append] at this
      rw [this]
      have h2 := takeWhile_all notLf (35 :: r) hr []
      rw [List.append_nil, List.takeWhile_nil, List.append_nil] at h2
      rw [h2]
    rw [all_step _ _ (by simp), hpc]
    simp only
    have hd : (35 :: (r ++ 10 :: x)).drop (35 :: r).length = 10 :: x := by rw [← List.cons_append, List.drop_left]
    have ht : (35 :: (r ++ 10 :: x)).take (35 :: r).length = 35 :: r := by rw [← List.cons_append, List.take_left]
    rw [hd, ht]
    have := all_gaps [10] (pass p (35 :: r)) x (by simp [gapc])
    rw [List.cons_append, List.nil_append] at this
    rw [this, ← pass_append, List.cons_append]
  intro k
  induction k with
  | zero =>
    intro a ha p l h
    have : a = [] := List.length_eq_zero_iff.1 (by omega)
    subst this
    rw [all_nil] at h
    cases h
    rw [ahead_nil]
    exact hash rem (fun c hc => by rcases List.mem_cons.1 hc with rfl | hc; decide; exact hrem c hc) p
  | succ k ih =>
    intro a ha p l h
    by_cases ha0 : a = []
    · subst ha0
      rw [all_nil] at h
      cases h
      rw [ahead_nil]
      exact hash rem (fun c hc => by rcases List.mem_cons.1 hc with rfl | hc; decide; exact hrem c hc) p
    · have hp := piece_size a ha0
      have hnb : ∀ e, piece a ≠ .bad e := by
        intro e he
        rw [all_step p a ha0, he] at h
        cases h
      rcases piece_hash a ha0 hnb (rem ++ 10 :: x) with hpa | ⟨r, rfl, hr⟩
      · rw [all_step _ _ (by simp), hpa]
        rw [all_step p a ha0] at h
        cases hh : piece a with
        | bad e => exact absurd hh (hnb e)
        | gap n =>
          rw [hh] at h hp
          simp only [Piece.size] at h hp ⊢
          have h1 : 1 ≤ n := by rcases hp.2 with ⟨e, he⟩ | h1; cases he; exact h1
          rw [List.drop_append_of_le_length hp.1, List.take_append_of_le_length hp.1, ih (a.drop n) (by rw [List.length_drop]; omega) _ l h, ← pass_append, ← List.append_assoc, List.take_append_drop]
        | tok kd t n =>
          rw [hh] at h hp
          simp only [Piece.size] at h hp ⊢
          have h1 : 1 ≤ n := by rcases hp.2 with ⟨e, he⟩ | h1; cases he; exact h1
          cases hr : all (pass p (a.take n)) (a.drop n) with
          | inl e => rw [hr] at h; cases h
          | inr l' =>
            rw [hr] at h
            cases h
            rw [List.drop_append_of_le_length hp.1, List.take_append_of_le_length hp.1, ih (a.drop n) (by rw [List.length_drop]; omega) _ l' hr, ← pass_append, ← List.append_assoc, List.take_append_drop]
            cases all (pass p (a ++ 35 :: (rem ++ [10]))) x <;> rfl
      · have hl : l = [] := by
          rw [all_step p (35 :: r) (by simp), piece_cons, if_neg (by decide), if_pos rfl] at h
          have h2 := takeWhile_all notLf (35 :: r) hr []
          rw [List.append_nil, List.takeWhile_nil, List.append_nil] at h2
          rw [h2] at h
          simp only [List.drop_length, all_nil, Sum.inr.injEq] at h
          exact h.symm
        subst hl
        rw [ahead_nil]
        have := hash (r ++ 35 :: rem) (fun c hc => by
          rcases List.mem_cons.1 hc with rfl | hc
          · decide
          · rcases List.mem_append.1 hc with hc | hc
            · exact hr c (by simp [hc])
            · rcases List.mem_cons.1 hc with rfl | hc
              · decide
              · exact hrem c hc) p
        simpa using this

/-- A text that was read is quoted as it stood there. -/
theorem body_quoted : ∀ (k : Nat) (s : List UInt8), s.length ≤ k → ∀ t n, quoted s = some (t, n) → ∃ b, body t = some b ∧ s.take n = b ++ [34] ∧ b.length + 1 = n := by
  intro k
  induction k with
  | zero =>
    intro s hs t n h
    have : s = [] := List.length_eq_zero_iff.1 (by omega)
    subst this
    simp [quoted] at h
  | succ k ih =>
    intro s hs t n h
    match s with
    | [] => simp [quoted] at h
    | c :: r =>
      simp only [List.length_cons] at hs
      rw [quoted_cons] at h
      split at h
      · rename_i h1
        cases h
        exact ⟨[], rfl, by simp [h1], rfl⟩
      · split at h
        · cases h
        · rename_i h1 h2
          split at h
          · rename_i h3
            match r with
            | [] => cases h
            | d :: r' =>
              simp only [List.length_cons] at hs h
              cases he : esc d with
              | none => rw [he] at h; cases h
              | some y =>
                rw [he] at h
                simp only at h
                cases hq : quoted r' with
                | none => rw [hq] at h; cases h
                | some z =>
                  obtain ⟨t', n'⟩ := z
                  rw [hq] at h
                  cases h
                  obtain ⟨b, hb1, hb2, hb3⟩ := ih r' (by omega) t' n' hq
                  refine ⟨92 :: d :: b, ?_, ?_, ?_⟩
                  · unfold esc at he
                    unfold body
                    split at he
                    · rename_i hd
                      cases he
                      rw [if_neg (by decide), if_neg (by decide), if_pos (.inl rfl), hb1, hd]
                      rfl
                    · split at he
                      · rename_i hd
                        cases he
                        rw [if_neg (by decide), if_neg (by decide), if_pos (.inr rfl), hb1, hd]
                        rfl
                      · split at he
                        · rename_i hd
                          cases he
                          rw [if_pos rfl, hb1, hd]
                          rfl
                        · cases he
                  · rw [h3]
                    simp only [List.take_succ_cons, List.cons_append, hb2]
                  · simp only [List.length_cons]; omega
          · rename_i h3
            cases hq : quoted r with
            | none => rw [hq] at h; cases h
            | some z =>
              obtain ⟨t', n'⟩ := z
              rw [hq] at h
              cases h
              obtain ⟨b, hb1, hb2, hb3⟩ := ih r (by omega) t' n' hq
              refine ⟨c :: b, ?_, ?_, ?_⟩
              · unfold body
                rw [if_neg (by intro e; subst e; exact h2 (.inl (by decide))), if_neg h2, if_neg (fun e => by
                  rcases e with e | e
                  · exact h1 e
                  · exact h3 e), hb1]
                rfl
              · simp only [List.take_succ_cons, List.cons_append, hb2]
              · simp only [List.length_cons]; omega

theorem pass_blanks : ∀ (k : Nat) (p : Nat × Nat), pass p (List.replicate k 32) = (p.1, p.2 + k) := by
  intro k
  induction k with
  | zero => intro p; rfl
  | succ k ih =>
    intro p
    rw [List.replicate_succ]
    show pass (pass1 p 32) (List.replicate k 32) = _
    rw [ih]
    show (p.1, p.2 + 1 + k) = _
    simp only [Prod.mk.injEq, true_and]; omega
/-- P9.2, P9.3: a quoted text is one token that says it, whatever gap stands ahead. -/
theorem all_quote (s b : List UInt8) (h : body s = some b) (k : Nat) : all (1, 1) (List.replicate k 32 ++ quote s) = .inr [⟨3, s, (1, 1 + k)⟩] := by
  rw [all_gaps _ _ _ (by intro c hc; rw [List.eq_of_mem_replicate hc]; decide), pass_blanks]
  have hq : quote s = 34 :: (b ++ [34]) := by unfold quote; rw [h]
  rw [hq, all_step _ _ (by simp)]
  have hp : piece (34 :: (b ++ [34])) = .tok 3 s (b.length + 1 + 1) := by
    rw [piece_cons, if_neg (by decide), if_neg (by decide), if_neg (by decide), if_neg (by decide), if_pos rfl, quoted_body s b [] h]
  rw [hp]
  simp only
  have hd : (34 :: (b ++ [34])).drop (b.length + 1 + 1) = [] := by
    rw [List.drop_eq_nil_iff]
    simp
  rw [hd, all_nil]

/-! ### Once more -/
/-- A token as it is written. -/
def Tok.written (t : Tok) : List UInt8 := if t.kind = 3 then quote t.text else t.text
/-- Tokens with a blank behind each. -/
def spaced : List Tok → List UInt8
  | [] => []
  | t :: l => t.written ++ 32 :: spaced l
theorem take_takeWhile (p : UInt8 → Bool) (s : List UInt8) : s.take (s.takeWhile p).length = s.takeWhile p := by
  induction s with
  | nil => rfl
  | cons c s ih =>
    cases h : p c with
    | true => rw [List.takeWhile_cons_of_pos h, List.length_cons, List.take_succ_cons, ih]
    | false => rw [List.takeWhile_cons_of_neg (by simp [h])]; rfl
theorem takeWhile_twice (p : UInt8 → Bool) (s : List UInt8) : (s.takeWhile p).takeWhile p = s.takeWhile p := by
  induction s with
  | nil => rfl
  | cons c s ih =>
    cases h : p c with
    | true => rw [List.takeWhile_cons_of_pos h, List.takeWhile_cons_of_pos h, ih]
    | false => rw [List.takeWhile_cons_of_neg (by simp [h])]; rfl
theorem piece_written (s : List UInt8) (kd : Nat) (t : List UInt8) (n : Nat) (h : piece s = .tok kd t n) (p : Nat × Nat) :
    (⟨kd, t, p⟩ : Tok).written = s.take n ∧ n ≤ s.length ∧ 1 ≤ n ∧ ∀ z, piece (s.take n ++ 32 :: z) = .tok kd t n := by
  match s with
  | [] => simp [piece] at h
  | c :: r =>
    have hsz := piece_size (c :: r) (by simp)
    rw [h] at hsz
    simp only [Piece.size] at hsz
    have hn1 : 1 ≤ n := by
      rcases hsz.2 with ⟨e, he⟩ | h1
      · cases he
      · exact h1
    refine ⟨?_, hsz.1, hn1, ?_⟩
    all_goals rw [piece_cons] at h
    all_goals by_cases h1 : gapc c = true
    all_goals first | (rw [if_pos h1] at h; cases h; done) | rw [if_neg h1] at h
    all_goals by_cases h2 : c = 35
    all_goals first | (rw [if_pos h2] at h; cases h; done) | rw [if_neg h2] at h
    all_goals by_cases h3 : letterc c = true
    all_goals first | rw [if_pos h3] at h | rw [if_neg h3] at h
    · cases h
      show (if 1 = 3 then _ else _) = _
      rw [if_neg (by decide), take_takeWhile]
    · by_cases h4 : digitc c = true
      · rw [if_pos h4] at h
        unfold number at h
        split at h
        · cases h
        · split at h
          · cases h
          · cases h
            show (if 2 = 3 then _ else _) = _
            rw [if_neg (by decide), take_takeWhile]
      · rw [if_neg h4] at h
        by_cases h5 : c = 34
        · rw [if_pos h5] at h
          cases hq : quoted r with
          | none => rw [hq] at h; cases h
          | some w =>
            obtain ⟨t', n'⟩ := w
            rw [hq] at h
            cases h
            obtain ⟨b, hb1, hb2, hb3⟩ := body_quoted r.length r (by omega) _ _ hq
            show quote t = _
            unfold quote
            rw [hb1, List.take_succ_cons, hb2, h5]
        · rw [if_neg h5] at h
          by_cases h6 : r.head? = some 61 ∧ (c = 61 ∨ c = 33)
          · rw [if_pos h6] at h
            cases h
            show (if 4 = 3 then _ else _) = _
            rw [if_neg (by decide)]
            match r with
            | [] => simp at h6
            | d :: r' =>
              have : d = 61 := by simpa using h6.1
              rw [this]
              rfl
          · rw [if_neg h6] at h
            split at h
            · cases h
              show (if 4 = 3 then _ else _) = _
              rw [if_neg (by decide)]
              rfl
            · cases h
    · cases h
      intro z
      have e1 := takeWhile_stop wordc 32 (by decide) z ((c :: r).takeWhile wordc)
      rw [takeWhile_twice] at e1
      rw [take_takeWhile]
      obtain ⟨y, hy⟩ : ∃ y, (c :: r).takeWhile wordc = c :: y := ⟨_, List.takeWhile_cons_of_pos (by simp [wordc, h3])⟩
      rw [hy] at e1 ⊢
      rw [List.cons_append] at e1 ⊢
      rw [piece_cons, if_neg h1, if_neg h2, if_pos h3, e1]
    · intro z
      by_cases h4 : digitc c = true
      · rw [if_pos h4] at h
        unfold number at h
        split at h
        · cases h
        · rename_i g1
          split at h
          · cases h
          · rename_i g2
            cases h
            have e1 := takeWhile_stop digitc 32 (by decide) z ((c :: r).takeWhile digitc)
            rw [takeWhile_twice] at e1
            rw [take_takeWhile]
            obtain ⟨y, hy⟩ : ∃ y, (c :: r).takeWhile digitc = c :: y := ⟨_, List.takeWhile_cons_of_pos h4⟩
            rw [hy] at e1 g1 g2 ⊢
            rw [List.cons_append] at e1 ⊢
            rw [piece_cons, if_neg h1, if_neg h2, if_neg h3, if_pos h4]
            unfold number
            rw [e1, if_neg (by simpa using g1), if_neg g2]
      · rw [if_neg h4] at h
        by_cases h5 : c = 34
        · rw [if_pos h5] at h
          cases hq : quoted r with
          | none => rw [hq] at h; cases h
          | some w =>
            obtain ⟨t', n'⟩ := w
            rw [hq] at h
            cases h
            obtain ⟨b, hb1, hb2, hb3⟩ := body_quoted r.length r (by omega) _ _ hq
            rw [List.take_succ_cons, List.cons_append, piece_cons, if_neg h1, if_neg h2, if_neg h3, if_neg h4, if_pos h5, hb2]
            have := quoted_body t b (32 :: z) hb1
            rw [List.append_assoc, List.cons_append, List.nil_append, this, hb3]
        · rw [if_neg h5] at h
          by_cases h6 : r.head? = some 61 ∧ (c = 61 ∨ c = 33)
          · rw [if_pos h6] at h
            cases h
            match r with
            | [] => simp at h6
            | d :: r' =>
              have hd : d = 61 := by simpa using h6.1
              show piece (c :: (d :: 32 :: z)) = _
              rw [piece_cons, if_neg h1, if_neg h2, if_neg h3, if_neg h4, if_neg h5, if_pos ⟨by simp [hd], h6.2⟩]
          · rw [if_neg h6] at h
            split at h
            · rename_i h7
              cases h
              show piece (c :: (32 :: z)) = _
              rw [piece_cons, if_neg h1, if_neg h2, if_neg h3, if_neg h4, if_neg h5, if_neg (by simp), if_pos h7]
            · cases h
/-- What a token says. -/
def Tok.says (t : Tok) : Nat × List UInt8 := (t.kind, t.text)
/-- P9.3: the tokens of any text, written with a blank between each two, are cut the same, but for places. -/
theorem all_again : ∀ (k : Nat) (s : List UInt8), s.length ≤ k → ∀ (p : Nat × Nat) (l : List Tok), all p s = .inr l →
    (spaced l).length ≤ 2 * s.length ∧ ∀ q, ∃ m, all q (spaced l) = .inr m ∧ m.map Tok.says = l.map Tok.says := by
  intro k
  induction k with
  | zero =>
    intro s hs p l h
    have : s = [] := List.length_eq_zero_iff.1 (by omega)
    subst this
    rw [all_nil] at h
    cases h
    exact ⟨by simp [spaced], fun q => ⟨[], rfl, rfl⟩⟩
  | succ k ih =>
    intro s hs p l h
    by_cases hs0 : s = []
    · subst hs0
      rw [all_nil] at h
      cases h
      exact ⟨by simp [spaced], fun q => ⟨[], rfl, rfl⟩⟩
    · have hp := piece_size s hs0
      rw [all_step p s hs0] at h
      cases hh : piece s with
      | bad e => rw [hh] at h; cases h
      | gap n =>
        rw [hh] at h hp
        simp only [Piece.size] at h hp
        have h1 : 1 ≤ n := by rcases hp.2 with ⟨e, he⟩ | h1; cases he; exact h1
        have := ih (s.drop n) (by rw [List.length_drop]; omega) _ l h
        rw [List.length_drop] at this
        exact ⟨by omega, this.2⟩
      | tok kd t n =>
        rw [hh] at h
        simp only at h
        obtain ⟨w1, w2, w3, w4⟩ := piece_written s kd t n hh p
        cases hr : all (pass p (s.take n)) (s.drop n) with
        | inl e => rw [hr] at h; cases h
        | inr l' =>
          rw [hr] at h
          cases h
          have hi := ih (s.drop n) (by rw [List.length_drop]; omega) _ l' hr
          rw [List.length_drop] at hi
          have hlen : (s.take n).length = n := by rw [List.length_take]; omega
          refine ⟨?_, fun q => ?_⟩
          · rw [spaced, w1, List.length_append, List.length_cons, hlen]
            omega
          · rw [spaced, w1, all_step _ _ (by simp), w4]
            simp only
            rw [List.drop_append_of_le_length (by omega), List.drop_eq_nil_of_le (by omega : (s.take n).length ≤ n), List.nil_append, List.take_append_of_le_length (by omega), List.take_take, Nat.min_self]
            obtain ⟨m, hm1, hm2⟩ := hi.2 (pass (pass q (s.take n)) [32])
            have hg := all_gaps [32] (pass q (s.take n)) (spaced l') (by simp [gapc])
            rw [List.cons_append, List.nil_append] at hg
            rw [hg, hm1]
            exact ⟨_, rfl, by simp [Tok.says, hm2]⟩
end Go.Lx

/- The tokens' texts, in plain Lean. -/
namespace Go.Proofs.YtannlhonjkhchaaGreatDoor.G
open Go.RowKit Go.Gw Go.Proofs.YtannlhonjkhchaaGreatDoorW.PrintWords
set_option linter.unusedVariables false
set_option linter.unusedSimpArgs false

theorem quoted_text : ∀ (k : Nat) (s : List UInt8), s.length ≤ k → ∀ t n, Lx.quoted s = some (t, n) → t.length + 1 ≤ n := by
  intro k
  induction k with
  | zero =>
    intro s hs t n h
    have : s = [] := List.length_eq_zero_iff.1 (by omega)
    subst this
    simp [Lx.quoted] at h
  | succ k ih =>
    intro s hs t n h
    match s with
    | [] => simp [Lx.quoted] at h
    | c :: r =>
      simp only [List.length_cons] at hs
      rw [Lx.quoted_cons] at h
      split at h
      · cases h; simp
      · split at h
        · cases h
        · split at h
          · match r with
            | [] => cases h
            | d :: r' =>
              simp only [List.length_cons] at hs h
              split at h
              · cases h
              · split at h
                · cases h
                · rename_i hq
                  cases h
                  have := ih r' (by omega) _ _ hq
                  simp only [List.length_cons]; omega
          · split at h
            · cases h
            · rename_i hq
              cases h
              have := ih r (by omega) _ _ hq
              simp only [List.length_cons]; omega
theorem piece_text (s : List UInt8) (kd : Nat) (t : List UInt8) (n : Nat) (h : Lx.piece s = .tok kd t n) : t.length ≤ s.length := by
  match s with
  | [] => simp [Lx.piece] at h
  | c :: r =>
    have hw : ∀ p : UInt8 → Bool, ((c :: r).takeWhile p).length ≤ (c :: r).length := fun p => (List.takeWhile_sublist p).length_le
    rw [Lx.piece_cons] at h
    split at h
    · cases h
    · split at h
      · cases h
      · split at h
        · cases h; exact hw _
        · split at h
          · rcases number_cases (c :: r) with g | g | ⟨t', n', g⟩
            · rw [g] at h; cases h
            · rw [g] at h; cases h
            · unfold Lx.number at h
              split at h
              · cases h
              · split at h
                · cases h
                · cases h; exact hw _
          · split at h
            · split at h
              · cases h
              · rename_i hq
                cases h
                have h1 := quoted_text r.length r (Nat.le_refl _) _ _ hq
                have h2 := Lx.quoted_le r.length r (Nat.le_refl _) _ _ hq
                simp only [List.length_cons]
                omega
            · split at h
              · rename_i hr
                cases h
                match r with
                | [] => simp at hr
                | d :: r' => simp
              · split at h
                · cases h; simp
                · cases h
theorem allF_text : ∀ (k : Nat) (p : Nat × Nat) (s : List UInt8) (l : List Lx.Tok), Lx.allF k p s = .inr l → ∀ t ∈ l, t.text.length ≤ s.length := by
  intro k
  induction k with
  | zero => intro p s l h t ht; cases h; cases ht
  | succ k ih =>
    intro p s l h t ht
    unfold Lx.allF at h
    split at h
    · cases h; cases ht
    · rcases piece_cases s with ⟨n, g⟩ | g | g | ⟨kd, tx, n, _, _, g⟩
      · rw [g] at h
        have := ih _ _ _ h t ht
        rw [List.length_drop] at this
        omega
      · rw [g] at h; cases h
      · rw [g] at h; cases h
      · have hp := piece_text s kd tx n g
        rw [g] at h
        simp only at h
        cases hr : Lx.allF k (Lx.pass p (s.take n)) (s.drop n) with
        | inl x => rw [hr] at h; cases h
        | inr x =>
          rw [hr] at h
          cases h
          rcases List.mem_cons.1 ht with rfl | ht
          · exact hp
          · have := ih _ _ _ hr t ht
            rw [List.length_drop] at this
            omega
theorem rd_tok (l : List Lx.Tok) (i : Nat) (h : i < l.length) : rd_T33 (l.map tokS) (i : Int) = tokS (l[i]'h) := by
  unfold rd_T33
  rw [Int.toNat_natCast, List.getD_eq_getElem?_getD, List.getElem?_map, List.getElem?_eq_getElem h]
  rfl
theorem spaced_app (a b : List Lx.Tok) : Lx.spaced (a ++ b) = Lx.spaced a ++ Lx.spaced b := by
  induction a with
  | nil => rfl
  | cons t a ih => simp [Lx.spaced, ih]
theorem take_snoc' {α : Type} (l : List α) (i : Nat) (h : i < l.length) : l.take (i + 1) = l.take i ++ [l[i]] := by
  rw [List.take_succ_eq_append_getElem h]
end Go.Proofs.YtannlhonjkhchaaGreatDoor.G

/- Go functions as Lean functions, each with its contract: written by a program of mine over the kit's print. Conditions: each contract's own. -/
namespace Go.Proofs.YtannlhonjkhchaaGreatDoor.G
open Go.RowKit Go.Proofs.YtannlhonjkhchaaGreatDoorW.PrintWords Go.Proofs.YtannlhonjkhchaaGreatDoorW.PrintLast Go.Proofs.YtannlhonjkhchaaGreatDoorW.PrintMore
attribute [local go_sem] max2_int min2_int max_two min_two max_three min_three max_four min_four   -- for this text's walks alone
set_option linter.unusedVariables false
set_option linter.unusedSimpArgs false

/-! ### bloomerylaw09_written: function 14 -/
def bloomerylaw09_written.f (a0_0 : Int) (a0_1 : ByteArray) (a0_2 : Int) (a0_3 : Int) : Option (ByteArray) := if a0_0 = 3 then ((bloomeryref09_Quote.f a0_1).bind fun t230 => (some t230)) else (some a0_1)
set_option maxHeartbeats 8000000 in
set_option maxRecDepth 100000 in
theorem bloomerylaw09_written.calls (a0_0 : Int) (a0_1 : ByteArray) (a0_2 : Int) (a0_3 : Int) (r : ByteArray) (w : World) (h : bloomerylaw09_written.f a0_0 a0_1 a0_2 a0_3 = some r) :
  Calls Tryz.prog 14 #[.agg #[.int .i64 a0_0, .string a0_1, .int .i64 a0_2, .int .i64 a0_3]] w fun e w' => e = .returned (.string r) ∧ Below w.heap.size w w' := by
 have hu33 := Tryz.underlying33
 have HB := Aside0.mk (Below.refl w.heap.size w)
 have H : (if a0_0 = 3 then ((bloomeryref09_Quote.f a0_1).bind fun t230 => (some t230)) else (some a0_1)) = some r := h
 clear h
 by_cases c2 : a0_0 = 3
 ·rw [if_pos c2] at H
  have c2b0 : (a0_0 == 3) = true := beq_iff_eq.mpr c2
  have c2b1 : (a0_0 != 3) = false := bne_eq_false_iff_eq.mpr c2
  clear c2
  replace H := Option.bind_eq_some_iff.mp H
  obtain ⟨t230, A30, H⟩ := H
  replace H : (some t230) = some r := H
  have A3 := Aside0.mk A30
  clear A30
  obtain rfl := Option.some.inj H
  go_enter Tryz.func14, Tryz.ntmps14
  go_wp2_with (first | ((with_reducible refine gate_dst (N := 1) rfl ?_); refine box_event ?hg (N := 1) ?hd (cs := #[.int .i64 a0_0, .string a0_1, .int .i64 a0_2, .int .i64 a0_3]) (t := 33) ?hr ?_; (case hd => rfl); (case hg => rfl); (case hr => first | (go_simp; done) | (go_simp; rfl)); intro gb229 hg w4 hbox hb; have n0_ := Aside0.mk (below_step (by repeat (first | (with_reducible first | exact HB.out | apply below_alloc | apply pw_below_drewN | apply below_drew1) | exact HB.out)) hb); have n1_ := Aside0.mk (hbox); have n2_ := Aside0.mk ((by rw [hg]; exact (below_size (by repeat (first | (with_reducible first | exact HB.out | apply below_alloc | apply pw_below_drewN | apply below_drew1) | exact HB.out))) : w.heap.size ≤ gb229)); have n3_ := Aside0.mk ((by rw [hg]; exact (below_size (by repeat (first | (with_reducible first | exact HB.out | apply below_alloc | apply pw_below_drewN | apply below_drew1) | exact HB.out))) : w.heap.size ≤ gb229)); clear HB; have HB := n0_; have BK229 := n1_; have GW229 := n2_; have GE229 := n3_; clear n0_ n1_ n2_ n3_; clear hb hbox hg; have hcz5_0 : w4.cell? ⟨gb229, 0, none⟩ = some (.int .i64 a0_0) := (blk_cell BK229.out 0).trans rfl; have hcz5_1 : w4.cell? ⟨gb229, 1, none⟩ = some (.string a0_1) := (blk_cell BK229.out 1).trans rfl; have hcz5_2 : w4.cell? ⟨gb229, 2, none⟩ = some (.int .i64 a0_2) := (blk_cell BK229.out 2).trans rfl; have hcz5_3 : w4.cell? ⟨gb229, 3, none⟩ = some (.int .i64 a0_3) := (blk_cell BK229.out 3).trans rfl; have hfz5_0 := blk_frozen BK229.out 0; have hfz5_1 := blk_frozen BK229.out 1; have hfz5_2 := blk_frozen BK229.out 2; have hfz5_3 := blk_frozen BK229.out 3) | ((with_reducible refine gate_callee (f := 13) rfl ?_); refine goesL_ (some 8) rfl rfl Tryz.func13 (by kernel_rfl) rfl #[.string a0_1] rfl (by (try simp only [List.map_toArray, List.map_cons, List.map_nil]); first | done | rfl | (simp only [List.length_drop, List.length_take]; rfl)) ?_; (with_reducible refine (bloomeryref09_Quote.calls a0_1 t230 _ A3.out).mono ?_); rintro e w6 ⟨rfl, hb⟩; refine ⟨_, rfl, ?_⟩; have n0_ := Aside0.mk (blk_below (g := gb229) (o := .cells #[.int .i64 a0_0, .string a0_1, .int .i64 a0_2, .int .i64 a0_3] 33 (0, 0)) (by (with_reducible repeat (first | refine blk_drewN ?_ _ | refine blk_drew ?_ | refine blk_alloc ?_ _)); exact BK229.out) hb); have n1_ := Aside0.mk (below_step (by repeat (first | (with_reducible first | exact HB.out | apply below_alloc | apply pw_below_drewN | apply below_drew1 | refine below_set ?_ GE229.out) | exact HB.out)) hb); clear BK229; clear HB; have BK229 := n0_; have HB := n1_; clear n0_ n1_; (try clear hb); (try clear hb2); (try clear hk); (try clear hi)))
  go_ret
  exact ⟨by first | rfl | (simp [errW_none, errW_some] <;> rfl) | (simp [*, errW_none, errW_some] <;> rfl), by repeat (first | (with_reducible first | exact HB.out | apply below_alloc | apply pw_below_drewN | apply below_drew1 | refine below_set ?_ GE229.out) | exact HB.out)⟩
 ·rw [if_neg c2] at H
  have c2b0 : (a0_0 == 3) = false := beq_eq_false_iff_ne.mpr c2
  have c2b1 : (a0_0 != 3) = true := bne_iff_ne.mpr c2
  obtain rfl := Option.some.inj H
  go_enter Tryz.func14, Tryz.ntmps14
  go_wp2_with (first | ((with_reducible refine gate_dst (N := 1) rfl ?_); refine box_event ?hg (N := 1) ?hd (cs := #[.int .i64 a0_0, .string a0_1, .int .i64 a0_2, .int .i64 a0_3]) (t := 33) ?hr ?_; (case hd => rfl); (case hg => rfl); (case hr => first | (go_simp; done) | (go_simp; rfl)); intro gb229 hg w7 hbox hb; have n0_ := Aside0.mk (below_step (by repeat (first | (with_reducible first | exact HB.out | apply below_alloc | apply pw_below_drewN | apply below_drew1) | exact HB.out)) hb); have n1_ := Aside0.mk (hbox); have n2_ := Aside0.mk ((by rw [hg]; exact (below_size (by repeat (first | (with_reducible first | exact HB.out | apply below_alloc | apply pw_below_drewN | apply below_drew1) | exact HB.out))) : w.heap.size ≤ gb229)); have n3_ := Aside0.mk ((by rw [hg]; exact (below_size (by repeat (first | (with_reducible first | exact HB.out | apply below_alloc | apply pw_below_drewN | apply below_drew1) | exact HB.out))) : w.heap.size ≤ gb229)); clear HB; have HB := n0_; have BK229 := n1_; have GW229 := n2_; have GE229 := n3_; clear n0_ n1_ n2_ n3_; clear hb hbox hg; have hcz8_0 : w7.cell? ⟨gb229, 0, none⟩ = some (.int .i64 a0_0) := (blk_cell BK229.out 0).trans rfl; have hcz8_1 : w7.cell? ⟨gb229, 1, none⟩ = some (.string a0_1) := (blk_cell BK229.out 1).trans rfl; have hcz8_2 : w7.cell? ⟨gb229, 2, none⟩ = some (.int .i64 a0_2) := (blk_cell BK229.out 2).trans rfl; have hcz8_3 : w7.cell? ⟨gb229, 3, none⟩ = some (.int .i64 a0_3) := (blk_cell BK229.out 3).trans rfl; have hfz8_0 := blk_frozen BK229.out 0; have hfz8_1 := blk_frozen BK229.out 1; have hfz8_2 := blk_frozen BK229.out 2; have hfz8_3 := blk_frozen BK229.out 3))
  go_ret
  exact ⟨by first | rfl | (simp [errW_none, errW_some] <;> rfl) | (simp [*, errW_none, errW_some] <;> rfl), by repeat (first | (with_reducible first | exact HB.out | apply below_alloc | apply pw_below_drewN | apply below_drew1 | refine below_set ?_ GE229.out) | exact HB.out)⟩

end Go.Proofs.YtannlhonjkhchaaGreatDoor.G

/- Go functions as Lean functions, each with its contract: written by a program of mine over the kit's print. Conditions: each contract's own. -/
namespace Go.Proofs.YtannlhonjkhchaaGreatDoor.G
open Go.RowKit Go.Proofs.YtannlhonjkhchaaGreatDoorW.PrintWords Go.Proofs.YtannlhonjkhchaaGreatDoorW.PrintLast Go.Proofs.YtannlhonjkhchaaGreatDoorW.PrintMore
attribute [local go_sem] max2_int min2_int max_two min_two max_three min_three max_four min_four   -- for this text's walks alone
set_option linter.unusedVariables false
set_option linter.unusedSimpArgs false

/-! ### bloomerylaw09_LexAgain: function 5 -/
mutual
def bloomerylaw09_LexAgain.l0 : Nat → List (S33) → ByteArray → Int → Option (Bool)
 | 0, _, _, _ => none
 | k + 1, x3, x6, x7 => if x7 < (x3.length : Int) then (if 0 ≤ x7 then ((bloomerylaw09_written.f ((rd_T33 x3 x7).f0) ((rd_T33 x3 x7).f1) ((rd_T33 x3 x7).f2.f0) ((rd_T33 x3 x7).f2.f1)).bind fun t240 => (if x6.size + t240.size ≤ 9223372036854775807 then (if (x6 ++ t240).size + 1 ≤ 9223372036854775807 then (bloomerylaw09_LexAgain.l0 k x3 ((x6 ++ t240) ++ (⟨#[32]⟩ : ByteArray)) (wrap64 (x7 + 1))) else (none)) else (none))) else (none)) else ((lex_All.f k x6).bind fun bt241 => (if bt241.2.1 = 0 then (bloomerylaw09_LexAgain.j1 k x3 bt241.1 ((bt241.1.length : Int) != (x3.length : Int))) else (bloomerylaw09_LexAgain.j1 k x3 bt241.1 true)))
def bloomerylaw09_LexAgain.j1 : Nat → List (S33) → List (S33) → Bool → Option (Bool)
 | 0, _, _, _ => none
 | k + 1, x3, x8, x56 => if x56 = true then (some false) else (bloomerylaw09_LexAgain.l1 k x3 x8 0)
def bloomerylaw09_LexAgain.l1 : Nat → List (S33) → List (S33) → Int → Option (Bool)
 | 0, _, _, _ => none
 | k + 1, x3, x8, x11 => if x11 < (x3.length : Int) then (if 0 ≤ x11 then (if x11 < (x8.length : Int) then (if ((rd_T33 x8 x11).f0) = ((rd_T33 x3 x11).f0) then (if ((rd_T33 x8 x11).f1).toList = ((rd_T33 x3 x11).f1).toList then (bloomerylaw09_LexAgain.l1 k x3 x8 (wrap64 (x11 + 1))) else (some false)) else (some false)) else (none)) else (none)) else (some true)
end
def bloomerylaw09_LexAgain.f (k : Nat) (a0 : ByteArray) : Option (Bool) := (bloomerylaw09_alive.f k).bind fun t231 => (if t231 = true then (if (a0.size : Int) > 600 then (some true) else ((lex_All.f k a0).bind fun bt232 => (if bt232.2.1 = 0 then (bloomerylaw09_LexAgain.l0 k bt232.1 (⟨#[]⟩ : ByteArray) 0) else (some ((bt232.1.length : Int) == 0))))) else (some false))
set_option maxHeartbeats 8000000 in
set_option maxRecDepth 100000 in
theorem bloomerylaw09_LexAgain.calls (k : Nat) (a0 : ByteArray) (r : Bool) (w : World) (hgl : Gl w) (h : bloomerylaw09_LexAgain.f k a0 = some r) :
  Calls Tryz.prog 5 #[.string a0] w fun e w' => e = .returned (.bool r) ∧ Below w.heap.size w w' := by
 have HGL := Aside0.mk hgl
 clear hgl
 have hu26 := Tryz.underlying26
 have hu33 := Tryz.underlying33
 have HB := Aside0.mk (Below.refl w.heap.size w)
 have H : ((bloomerylaw09_alive.f k).bind fun t231 => (if t231 = true then (if (a0.size : Int) > 600 then (some true) else ((lex_All.f k a0).bind fun bt232 => (if bt232.2.1 = 0 then (bloomerylaw09_LexAgain.l0 k bt232.1 (⟨#[]⟩ : ByteArray) 0) else (some ((bt232.1.length : Int) == 0))))) else (some false))) = some r := h
 clear h
 replace H := Option.bind_eq_some_iff.mp H
 obtain ⟨t231, A20, H⟩ := H
 replace H : (if t231 = true then (if (a0.size : Int) > 600 then (some true) else ((lex_All.f k a0).bind fun bt232 => (if bt232.2.1 = 0 then (bloomerylaw09_LexAgain.l0 k bt232.1 (⟨#[]⟩ : ByteArray) 0) else (some ((bt232.1.length : Int) == 0))))) else (some false)) = some r := H
 have A2 := Aside0.mk A20
 clear A20
 by_cases c3 : t231 = true
 ·subst c3
  have H1 : (if (a0.size : Int) > 600 then (some true) else ((lex_All.f k a0).bind fun bt232 => (if bt232.2.1 = 0 then (bloomerylaw09_LexAgain.l0 k bt232.1 (⟨#[]⟩ : ByteArray) 0) else (some ((bt232.1.length : Int) == 0))))) = some r := by rw [if_pos rfl] at H; exact H
  clear H
  have H := H1
  clear H1
  by_cases c4 : (a0.size : Int) > 600
  ·rw [if_pos c4] at H
   have c4b0 : decide (600 < (a0.size : Int)) = true := decide_eq_true c4
   have c4b1 : decide (600 < a0.size) = true := decide_eq_true (by omega)
   clear c4
   obtain rfl := Option.some.inj H
   go_enter Tryz.func5, Tryz.ntmps5
   go_wp2_with (first | (go_at_call 8; (with_reducible refine (bloomerylaw09_alive.calls k  true _ ?side1 A2.out).mono ?_); (case side1 => exact Gl.below HGL.out (by repeat (first | (with_reducible first | exact HB.out | apply below_alloc | apply pw_below_drewN | apply below_drew1) | exact HB.out))); rintro e w5 ⟨rfl, hb⟩; have n0_ := Aside0.mk (below_step (by repeat (first | (with_reducible first | exact HB.out | apply below_alloc | apply pw_below_drewN | apply below_drew1) | exact HB.out)) hb); clear HB; have HB := n0_; clear n0_; (try clear hb); (try clear hb2); (try clear hk); (try clear hi)))
   repeat (go_quiet (first | (go_at_call 8; (with_reducible refine (bloomerylaw09_alive.calls k  true _ ?side1 A2.out).mono ?_); (case side1 => exact Gl.below HGL.out (by repeat (first | (with_reducible first | exact HB.out | apply below_alloc | apply pw_below_drewN | apply below_drew1) | exact HB.out))); rintro e w5 ⟨rfl, hb⟩; have n0_ := Aside0.mk (below_step (by repeat (first | (with_reducible first | exact HB.out | apply below_alloc | apply pw_below_drewN | apply below_drew1) | exact HB.out)) hb); clear HB; have HB := n0_; clear n0_; (try clear hb); (try clear hb2); (try clear hk); (try clear hi))); try go_wp2_with (first | (go_at_call 8; (with_reducible refine (bloomerylaw09_alive.calls k  true _ ?side1 A2.out).mono ?_); (case side1 => exact Gl.below HGL.out (by repeat (first | (with_reducible first | exact HB.out | apply below_alloc | apply pw_below_drewN | apply below_drew1) | exact HB.out))); rintro e w5 ⟨rfl, hb⟩; have n0_ := Aside0.mk (below_step (by repeat (first | (with_reducible first | exact HB.out | apply below_alloc | apply pw_below_drewN | apply below_drew1) | exact HB.out)) hb); clear HB; have HB := n0_; clear n0_; (try clear hb); (try clear hb2); (try clear hk); (try clear hi))))
   go_ret
   exact ⟨by first | rfl | (simp [errW_none, errW_some] <;> rfl) | (simp [*, errW_none, errW_some] <;> rfl), by repeat (first | (with_reducible first | exact HB.out | apply below_alloc | apply pw_below_drewN | apply below_drew1) | exact HB.out)⟩
  ·rw [if_neg c4] at H
   have c4b0 : decide (600 < (a0.size : Int)) = false := decide_eq_false c4
   have c4b1 : decide (600 < a0.size) = false := decide_eq_false (by omega)
   clear c4
   replace H := Option.bind_eq_some_iff.mp H
   obtain ⟨⟨t232, t235, t236, t237⟩, A60, H⟩ := H
   replace H : (if t235 = 0 then (bloomerylaw09_LexAgain.l0 k t232 (⟨#[]⟩ : ByteArray) 0) else (some ((t232.length : Int) == 0))) = some r := H
   have A6 := Aside0.mk A60
   clear A60
   by_cases c7 : t235 = 0
   ·rw [if_pos c7] at H
    have c7b0 : (t235 == 0) = true := beq_iff_eq.mpr c7
    have c7b1 : (t235 != 0) = false := bne_eq_false_iff_eq.mpr c7
    clear c7
    have H' := Aside0.mk H
    clear H
    go_enter Tryz.func5, Tryz.ntmps5
    go_wp2_with (first | (go_at_call 8; (with_reducible refine (bloomerylaw09_alive.calls k  true _ ?side1 A2.out).mono ?_); (case side1 => exact Gl.below HGL.out (by repeat (first | (with_reducible first | exact HB.out | apply below_alloc | apply pw_below_drewN | apply below_drew1) | exact HB.out))); rintro e w8 ⟨rfl, hb⟩; have n0_ := Aside0.mk (below_step (by repeat (first | (with_reducible first | exact HB.out | apply below_alloc | apply pw_below_drewN | apply below_drew1) | exact HB.out)) hb); clear HB; have HB := n0_; clear n0_; (try clear hb); (try clear hb2); (try clear hk); (try clear hi)) | (go_at_call 9; (with_reducible refine (lex_All.calls k a0 t232 t235 t236 t237 _ ?side1 A6.out).mono ?_); (case side1 => exact Gl.below HGL.out (by repeat (first | (with_reducible first | exact HB.out | apply below_alloc | apply pw_below_drewN | apply below_drew1) | exact HB.out))); rintro e w9 ⟨v233, rfl, ho0, hb⟩; have n0_ := Aside0.mk (Kd.R_lower ho0 (below_size (by repeat (first | (with_reducible first | exact HB.out | apply below_alloc | apply pw_below_drewN | apply below_drew1) | exact HB.out)))); have n1_ := Aside0.mk (below_step (by repeat (first | (with_reducible first | exact HB.out | apply below_alloc | apply pw_below_drewN | apply below_drew1) | exact HB.out)) hb); clear HB; have HO234 := n0_; have HB := n1_; clear n0_ n1_; (try clear hb); (try clear hb2); (try clear hk); (try clear hi); (try clear ho0)) | ((with_reducible refine gate_dst (N := 5) rfl ?_); (try (refine gate_guard (by rfl) ?_; dsimp only)); refine box_event ?hg (N := 5) ?hd (cs := #[.int .i64 0, .int .i64 0]) (t := 26) ?hr ?_; (case hd => rfl); (case hg => rfl); (case hr => first | (go_simp; done) | (go_simp; rfl)); intro gb238 hg w10 hbox hb; have n0_ := Aside0.mk (Kd.R_below (by (with_reducible repeat (first | apply Kd.R_alloc | apply Kd.R_drewN | apply Kd.R_drew)); exact HO234.out) hb); have n1_ := Aside0.mk (below_step (by repeat (first | (with_reducible first | exact HB.out | apply below_alloc | apply pw_below_drewN | apply below_drew1) | exact HB.out)) hb); have n2_ := Aside0.mk (hbox); have n3_ := Aside0.mk ((by rw [hg]; exact (below_size (by repeat (first | (with_reducible first | exact HB.out | apply below_alloc | apply pw_below_drewN | apply below_drew1) | exact HB.out))) : w.heap.size ≤ gb238)); have n4_ := Aside0.mk ((by rw [hg]; exact (below_size (by repeat (first | (with_reducible first | exact HB.out | apply below_alloc | apply pw_below_drewN | apply below_drew1) | exact HB.out))) : w.heap.size ≤ gb238)); clear HO234; clear HB; have HO234 := n0_; have HB := n1_; have BK238 := n2_; have GW238 := n3_; have GE238 := n4_; clear n0_ n1_ n2_ n3_ n4_; clear hb hbox hg; have hcz11_0 : w10.cell? ⟨gb238, 0, none⟩ = some (.int .i64 0) := (blk_cell BK238.out 0).trans rfl; have hcz11_1 : w10.cell? ⟨gb238, 1, none⟩ = some (.int .i64 0) := (blk_cell BK238.out 1).trans rfl; have hfz11_0 := blk_frozen BK238.out 0; have hfz11_1 := blk_frozen BK238.out 1))
    repeat (go_quiet (first | (go_at_call 8; (with_reducible refine (bloomerylaw09_alive.calls k  true _ ?side1 A2.out).mono ?_); (case side1 => exact Gl.below HGL.out (by repeat (first | (with_reducible first | exact HB.out | apply below_alloc | apply pw_below_drewN | apply below_drew1) | exact HB.out))); rintro e w8 ⟨rfl, hb⟩; have n0_ := Aside0.mk (below_step (by repeat (first | (with_reducible first | exact HB.out | apply below_alloc | apply pw_below_drewN | apply below_drew1) | exact HB.out)) hb); clear HB; have HB := n0_; clear n0_; (try clear hb); (try clear hb2); (try clear hk); (try clear hi)) | (go_at_call 9; (with_reducible refine (lex_All.calls k a0 t232 t235 t236 t237 _ ?side1 A6.out).mono ?_); (case side1 => exact Gl.below HGL.out (by repeat (first | (with_reducible first | exact HB.out | apply below_alloc | apply pw_below_drewN | apply below_drew1) | exact HB.out))); rintro e w9 ⟨v233, rfl, ho0, hb⟩; have n0_ := Aside0.mk (Kd.R_lower ho0 (below_size (by repeat (first | (with_reducible first | exact HB.out | apply below_alloc | apply pw_below_drewN | apply below_drew1) | exact HB.out)))); have n1_ := Aside0.mk (below_step (by repeat (first | (with_reducible first | exact HB.out | apply below_alloc | apply pw_below_drewN | apply below_drew1) | exact HB.out)) hb); clear HB; have HO234 := n0_; have HB := n1_; clear n0_ n1_; (try clear hb); (try clear hb2); (try clear hk); (try clear hi); (try clear ho0)) | ((with_reducible refine gate_dst (N := 5) rfl ?_); (try (refine gate_guard (by rfl) ?_; dsimp only)); refine box_event ?hg (N := 5) ?hd (cs := #[.int .i64 0, .int .i64 0]) (t := 26) ?hr ?_; (case hd => rfl); (case hg => rfl); (case hr => first | (go_simp; done) | (go_simp; rfl)); intro gb238 hg w10 hbox hb; have n0_ := Aside0.mk (Kd.R_below (by (with_reducible repeat (first | apply Kd.R_alloc | apply Kd.R_drewN | apply Kd.R_drew)); exact HO234.out) hb); have n1_ := Aside0.mk (below_step (by repeat (first | (with_reducible first | exact HB.out | apply below_alloc | apply pw_below_drewN | apply below_drew1) | exact HB.out)) hb); have n2_ := Aside0.mk (hbox); have n3_ := Aside0.mk ((by rw [hg]; exact (below_size (by repeat (first | (with_reducible first | exact HB.out | apply below_alloc | apply pw_below_drewN | apply below_drew1) | exact HB.out))) : w.heap.size ≤ gb238)); have n4_ := Aside0.mk ((by rw [hg]; exact (below_size (by repeat (first | (with_reducible first | exact HB.out | apply below_alloc | apply pw_below_drewN | apply below_drew1) | exact HB.out))) : w.heap.size ≤ gb238)); clear HO234; clear HB; have HO234 := n0_; have HB := n1_; have BK238 := n2_; have GW238 := n3_; have GE238 := n4_; clear n0_ n1_ n2_ n3_ n4_; clear hb hbox hg; have hcz11_0 : w10.cell? ⟨gb238, 0, none⟩ = some (.int .i64 0) := (blk_cell BK238.out 0).trans rfl; have hcz11_1 : w10.cell? ⟨gb238, 1, none⟩ = some (.int .i64 0) := (blk_cell BK238.out 1).trans rfl; have hfz11_0 := blk_frozen BK238.out 0; have hfz11_1 := blk_frozen BK238.out 1)); try go_wp2_with (first | (go_at_call 8; (with_reducible refine (bloomerylaw09_alive.calls k  true _ ?side1 A2.out).mono ?_); (case side1 => exact Gl.below HGL.out (by repeat (first | (with_reducible first | exact HB.out | apply below_alloc | apply pw_below_drewN | apply below_drew1) | exact HB.out))); rintro e w8 ⟨rfl, hb⟩; have n0_ := Aside0.mk (below_step (by repeat (first | (with_reducible first | exact HB.out | apply below_alloc | apply pw_below_drewN | apply below_drew1) | exact HB.out)) hb); clear HB; have HB := n0_; clear n0_; (try clear hb); (try clear hb2); (try clear hk); (try clear hi)) | (go_at_call 9; (with_reducible refine (lex_All.calls k a0 t232 t235 t236 t237 _ ?side1 A6.out).mono ?_); (case side1 => exact Gl.below HGL.out (by repeat (first | (with_reducible first | exact HB.out | apply below_alloc | apply pw_below_drewN | apply below_drew1) | exact HB.out))); rintro e w9 ⟨v233, rfl, ho0, hb⟩; have n0_ := Aside0.mk (Kd.R_lower ho0 (below_size (by repeat (first | (with_reducible first | exact HB.out | apply below_alloc | apply pw_below_drewN | apply below_drew1) | exact HB.out)))); have n1_ := Aside0.mk (below_step (by repeat (first | (with_reducible first | exact HB.out | apply below_alloc | apply pw_below_drewN | apply below_drew1) | exact HB.out)) hb); clear HB; have HO234 := n0_; have HB := n1_; clear n0_ n1_; (try clear hb); (try clear hb2); (try clear hk); (try clear hi); (try clear ho0)) | ((with_reducible refine gate_dst (N := 5) rfl ?_); (try (refine gate_guard (by rfl) ?_; dsimp only)); refine box_event ?hg (N := 5) ?hd (cs := #[.int .i64 0, .int .i64 0]) (t := 26) ?hr ?_; (case hd => rfl); (case hg => rfl); (case hr => first | (go_simp; done) | (go_simp; rfl)); intro gb238 hg w10 hbox hb; have n0_ := Aside0.mk (Kd.R_below (by (with_reducible repeat (first | apply Kd.R_alloc | apply Kd.R_drewN | apply Kd.R_drew)); exact HO234.out) hb); have n1_ := Aside0.mk (below_step (by repeat (first | (with_reducible first | exact HB.out | apply below_alloc | apply pw_below_drewN | apply below_drew1) | exact HB.out)) hb); have n2_ := Aside0.mk (hbox); have n3_ := Aside0.mk ((by rw [hg]; exact (below_size (by repeat (first | (with_reducible first | exact HB.out | apply below_alloc | apply pw_below_drewN | apply below_drew1) | exact HB.out))) : w.heap.size ≤ gb238)); have n4_ := Aside0.mk ((by rw [hg]; exact (below_size (by repeat (first | (with_reducible first | exact HB.out | apply below_alloc | apply pw_below_drewN | apply below_drew1) | exact HB.out))) : w.heap.size ≤ gb238)); clear HO234; clear HB; have HO234 := n0_; have HB := n1_; have BK238 := n2_; have GW238 := n3_; have GE238 := n4_; clear n0_ n1_ n2_ n3_ n4_; clear hb hbox hg; have hcz11_0 : w10.cell? ⟨gb238, 0, none⟩ = some (.int .i64 0) := (blk_cell BK238.out 0).trans rfl; have hcz11_1 : w10.cell? ⟨gb238, 1, none⟩ = some (.int .i64 0) := (blk_cell BK238.out 1).trans rfl; have hfz11_0 := blk_frozen BK238.out 0; have hfz11_1 := blk_frozen BK238.out 1)))
    go_loopg [6, 7] k (fun kq v6 v7 w' => ∃ (x6_1 : ByteArray) (x7_1 : Int), v6 = .string x6_1 ∧ v7 = .int .i64 x7_1 ∧ Aside0 (bloomerylaw09_LexAgain.l0 kq t232 x6_1 x7_1 = some r) ∧ Aside0 (kq ≤ k) ∧ Aside0 (Kd.R k33 33 w' w.heap.size (fun _ => True) v233 t232) ∧ Aside0 (w'.heap[gb238]? = some (.cells #[.int .i64 t236, .int .i64 t237] 26 (0, 0))) ∧ Aside0 (Below w.heap.size w w'))
    case atStart => exact ⟨((⟨#[]⟩ : ByteArray)), (0), (by first | rfl | (simp; done) | (simp [*]; done)), (by first | rfl | (simp; done) | (simp [*]; done)), (by first | exact H' | (subst_vars; exact H')), ⟨Nat.le_refl _⟩, ⟨by (with_reducible repeat (first | apply Kd.R_alloc | apply Kd.R_drewN | apply Kd.R_drew)); exact Kd.R_mono (Kd.R_far (p := ⟨gb238, 1, none⟩) (Kd.R_far (p := ⟨gb238, 0, none⟩) (Kd.R_types HO234.out BK238.out (by decide)) (fun _ hk => hk.2) (.int .i64 t236)) (fun _ hk => hk.2) (.int .i64 t237)) (fun _ hk => trivial)⟩, ⟨by (with_reducible repeat (first | refine blk_drewN ?_ _ | refine blk_drew ?_ | refine blk_alloc ?_ _)); refine blk_put (cs := #[.int .i64 t236, .int .i64 0]) ?_ 1 _ rfl; (with_reducible repeat (first | refine blk_drewN ?_ _ | refine blk_drew ?_ | refine blk_alloc ?_ _)); refine blk_put (cs := #[.int .i64 0, .int .i64 0]) ?_ 0 _ rfl; (with_reducible repeat (first | refine blk_drewN ?_ _ | refine blk_drew ?_ | refine blk_alloc ?_ _)); exact BK238.out⟩, ⟨by repeat (first | (with_reducible first | exact HB.out | apply below_alloc | apply pw_below_drewN | apply below_drew1 | refine below_set ?_ GE238.out) | exact HB.out)⟩⟩
    case round =>
     clear H'
     try clear p2
     try clear c3
     try clear c4
     try clear c4b0
     try clear c4b1
     try clear c5
     try clear c7
     try clear c7b0
     try clear c7b1
     try clear hcz11_0
     try clear hcz11_1
     try clear hfz11_0
     try clear hfz11_1
     obtain ⟨x6_1, x7_1, rfl, rfl, HA, HK1, HO_3, BK238, HB⟩ := hrel
     cases gk with
     | zero => exact absurd HA.out (by simp [bloomerylaw09_LexAgain.l0])
     | succ k1 =>
      have H := HA.out
      clear HA
      simp only [bloomerylaw09_LexAgain.l0] at H
      by_cases c12 : x7_1 < (t232.length : Int)
      ·rw [if_pos c12] at H
       have c12b0 : decide (x7_1 < (t232.length : Int)) = true := decide_eq_true c12
       clear c12
       by_cases c13 : 0 ≤ x7_1
       ·rw [if_pos c13] at H
        have c13b0 : decide (0 ≤ x7_1) = true := decide_eq_true c13
        clear c13
        replace H := Option.bind_eq_some_iff.mp H
        obtain ⟨t240, A140, H⟩ := H
        replace H : (if x6_1.size + t240.size ≤ 9223372036854775807 then (if (x6_1 ++ t240).size + 1 ≤ 9223372036854775807 then (bloomerylaw09_LexAgain.l0 k1 t232 ((x6_1 ++ t240) ++ (⟨#[32]⟩ : ByteArray)) (wrap64 (x7_1 + 1))) else (none)) else (none)) = some r := H
        have A14 := Aside0.mk A140
        clear A140
        by_cases c15 : x6_1.size + t240.size ≤ 9223372036854775807
        ·rw [if_pos c15] at H
         have c15b0 := eq_true c15
         have c15b1 : decide (x6_1.size + t240.size ≤ 9223372036854775807) = true := decide_eq_true c15
         try have c15b2 : (9223372036854775807 < x6_1.size + t240.size) = False := eq_false (Nat.not_lt.2 c15)
         by_cases c16 : (x6_1 ++ t240).size + 1 ≤ 9223372036854775807
         ·rw [if_pos c16] at H
          have c16b0 := eq_true c16
          have c16b7 := c16
          try simp only [ByteArray.size_append] at c16b7
          have c16b8 := decide_eq_true c16b7
          try have c16b9 := Nat.not_lt.2 c16b7
          replace c16b7 := eq_true c16b7
          have c16b1 : decide ((x6_1 ++ t240).size + 1 ≤ 9223372036854775807) = true := decide_eq_true c16
          try have c16b2 : (9223372036854775807 < (x6_1 ++ t240).size + 1) = False := eq_false (Nat.not_lt.2 c16)
          have H' := Aside0.mk H
          clear H
          obtain ⟨Ao17, co17, eo17⟩ := Kd.R_slice HO_3.out
          subst eo17
          have p239 : 0 ≤ (x7_1 : Int) := of_decide_eq_true (by first | (with_reducible assumption) | assumption)
          have q239 : x7_1 < (t232.length : Int) := of_decide_eq_true (by first | (with_reducible assumption) | assumption)
          obtain ⟨ad239, e239, hx239_0, hx239_1, hx239_2, hx239_3⟩ := at_T33 (Kd.R_reads' HO_3.out).2.2 x7_1 p239 q239
          cases e239
          replace p239 := eq_true p239
          replace q239 := eq_true q239
          go_wp2_with (first | (go_at_call 14; (with_reducible refine (bloomerylaw09_written.calls ((rd_T33 t232 x7_1).f0) ((rd_T33 t232 x7_1).f1) ((rd_T33 t232 x7_1).f2.f0) ((rd_T33 t232 x7_1).f2.f1) t240 _ A14.out).mono ?_); rintro e w18 ⟨rfl, hb⟩; have n0_ := Aside0.mk (Kd.R_below (by (with_reducible repeat (first | apply Kd.R_alloc | apply Kd.R_drewN | apply Kd.R_drew)); exact HO_3.out) hb); have n1_ := Aside0.mk (blk_below (g := gb238) (o := .cells #[.int .i64 t236, .int .i64 t237] 26 (0, 0)) (by (with_reducible repeat (first | refine blk_drewN ?_ _ | refine blk_drew ?_ | refine blk_alloc ?_ _)); exact BK238.out) hb); have n2_ := Aside0.mk (below_step (by repeat (first | (with_reducible first | exact HB.out | apply below_alloc | apply pw_below_drewN | apply below_drew1 | refine below_set ?_ GE238.out) | exact HB.out)) hb); clear HO_3; clear BK238; clear HB; have HO_3 := n0_; have BK238 := n1_; have HB := n2_; clear n0_ n1_ n2_; (try clear hb); (try clear hb2); (try clear hk); (try clear hi)))
          repeat (go_quiet (first | (go_at_call 14; (with_reducible refine (bloomerylaw09_written.calls ((rd_T33 t232 x7_1).f0) ((rd_T33 t232 x7_1).f1) ((rd_T33 t232 x7_1).f2.f0) ((rd_T33 t232 x7_1).f2.f1) t240 _ A14.out).mono ?_); rintro e w18 ⟨rfl, hb⟩; have n0_ := Aside0.mk (Kd.R_below (by (with_reducible repeat (first | apply Kd.R_alloc | apply Kd.R_drewN | apply Kd.R_drew)); exact HO_3.out) hb); have n1_ := Aside0.mk (blk_below (g := gb238) (o := .cells #[.int .i64 t236, .int .i64 t237] 26 (0, 0)) (by (with_reducible repeat (first | refine blk_drewN ?_ _ | refine blk_drew ?_ | refine blk_alloc ?_ _)); exact BK238.out) hb); have n2_ := Aside0.mk (below_step (by repeat (first | (with_reducible first | exact HB.out | apply below_alloc | apply pw_below_drewN | apply below_drew1 | refine below_set ?_ GE238.out) | exact HB.out)) hb); clear HO_3; clear BK238; clear HB; have HO_3 := n0_; have BK238 := n1_; have HB := n2_; clear n0_ n1_ n2_; (try clear hb); (try clear hb2); (try clear hk); (try clear hi))); try go_wp2_with (first | (go_at_call 14; (with_reducible refine (bloomerylaw09_written.calls ((rd_T33 t232 x7_1).f0) ((rd_T33 t232 x7_1).f1) ((rd_T33 t232 x7_1).f2.f0) ((rd_T33 t232 x7_1).f2.f1) t240 _ A14.out).mono ?_); rintro e w18 ⟨rfl, hb⟩; have n0_ := Aside0.mk (Kd.R_below (by (with_reducible repeat (first | apply Kd.R_alloc | apply Kd.R_drewN | apply Kd.R_drew)); exact HO_3.out) hb); have n1_ := Aside0.mk (blk_below (g := gb238) (o := .cells #[.int .i64 t236, .int .i64 t237] 26 (0, 0)) (by (with_reducible repeat (first | refine blk_drewN ?_ _ | refine blk_drew ?_ | refine blk_alloc ?_ _)); exact BK238.out) hb); have n2_ := Aside0.mk (below_step (by repeat (first | (with_reducible first | exact HB.out | apply below_alloc | apply pw_below_drewN | apply below_drew1 | refine below_set ?_ GE238.out) | exact HB.out)) hb); clear HO_3; clear BK238; clear HB; have HO_3 := n0_; have BK238 := n1_; have HB := n2_; clear n0_ n1_ n2_; (try clear hb); (try clear hb2); (try clear hk); (try clear hi))))
          go_roundg k1
          case measure => have := HK1.out; omega
          case rel => exact ⟨((x6_1 ++ t240) ++ (⟨#[32]⟩ : ByteArray)), (wrap64 (x7_1 + 1)), (by first | rfl | (simp; done) | (simp [*]; done)), (by first | rfl | (simp; done) | (simp [*]; done)), (by first | exact H' | (subst_vars; exact H')), ⟨by have := HK1.out; omega⟩, ⟨by (with_reducible repeat (first | apply Kd.R_alloc | apply Kd.R_drewN | apply Kd.R_drew)); exact HO_3.out⟩, ⟨by (with_reducible repeat (first | refine blk_drewN ?_ _ | refine blk_drew ?_ | refine blk_alloc ?_ _)); exact BK238.out⟩, ⟨by repeat (first | (with_reducible first | exact HB.out | apply below_alloc | apply pw_below_drewN | apply below_drew1 | refine below_set ?_ GE238.out) | exact HB.out)⟩⟩
         ·rw [if_neg c16] at H
          exact absurd H (by simp)
        ·rw [if_neg c15] at H
         exact absurd H (by simp)
       ·rw [if_neg c13] at H
        exact absurd H (by simp)
      ·rw [if_neg c12] at H
       have c12b0 : decide (x7_1 < (t232.length : Int)) = false := decide_eq_false c12
       clear c12
       replace H := Option.bind_eq_some_iff.mp H
       obtain ⟨⟨t241, t244, t245, t246⟩, A190, H⟩ := H
       replace H : (if t244 = 0 then (bloomerylaw09_LexAgain.j1 k1 t232 t241 ((t241.length : Int) != (t232.length : Int))) else (bloomerylaw09_LexAgain.j1 k1 t232 t241 true)) = some r := H
       have A19 := Aside0.mk A190
       clear A190
       have HC20 := Aside0.mk H
       clear H
       obtain ⟨Ao21, co21, eo21⟩ := Kd.R_slice HO_3.out
       subst eo21
       go_upto_region 14 with (first | (go_at_call 9; (with_reducible refine (lex_All.calls k1 x6_1 t241 t244 t245 t246 _ ?side1 A19.out).mono ?_); (case side1 => exact Gl.below HGL.out (by repeat (first | (with_reducible first | exact HB.out | apply below_alloc | apply pw_below_drewN | apply below_drew1 | refine below_set ?_ GE238.out) | exact HB.out))); rintro e w22 ⟨v242, rfl, ho0, hb⟩; have n0_ := Aside0.mk (Kd.R_elder' (by (with_reducible repeat (first | apply Kd.R_alloc | apply Kd.R_drewN | apply Kd.R_drew)); exact HO_3.out) (Kd.R_base ho0) hb); have n1_ := Aside0.mk (Kd.R_lower (Kd.R_new' ho0 (Kd.R_lt (by (with_reducible repeat (first | apply Kd.R_alloc | apply Kd.R_drewN | apply Kd.R_drew)); exact HO_3.out))) (below_size (by repeat (first | (with_reducible first | exact HB.out | apply below_alloc | apply pw_below_drewN | apply below_drew1 | refine below_set ?_ GE238.out) | exact HB.out)))); have n2_ := Aside0.mk (blk_below (g := gb238) (o := .cells #[.int .i64 t236, .int .i64 t237] 26 (0, 0)) (by (with_reducible repeat (first | refine blk_drewN ?_ _ | refine blk_drew ?_ | refine blk_alloc ?_ _)); exact BK238.out) hb); have n3_ := Aside0.mk (below_step (by repeat (first | (with_reducible first | exact HB.out | apply below_alloc | apply pw_below_drewN | apply below_drew1 | refine below_set ?_ GE238.out) | exact HB.out)) hb); clear HO_3; clear BK238; clear HB; have HO_3 := n0_; have HO243 := n1_; have BK238 := n2_; have HB := n3_; clear n0_ n1_ n2_ n3_; (try clear hb); (try clear hb2); (try clear hk); (try clear hi); (try clear ho0)) | ((with_reducible refine gate_dst (N := 10) rfl ?_); (try (refine gate_guard (by rfl) ?_; dsimp only)); refine box_event ?hg (N := 10) ?hd (cs := #[.int .i64 0, .int .i64 0]) (t := 26) ?hr ?_; (case hd => rfl); (case hg => rfl); (case hr => first | (go_simp; done) | (go_simp; rfl)); intro gb247 hg w23 hbox hb; have n0_ := Aside0.mk (Kd.R_below (by (with_reducible repeat (first | apply Kd.R_alloc | apply Kd.R_drewN | apply Kd.R_drew)); exact HO_3.out) hb); have n1_ := Aside0.mk (Kd.R_below (by (with_reducible repeat (first | apply Kd.R_alloc | apply Kd.R_drewN | apply Kd.R_drew)); exact HO243.out) hb); have n2_ := Aside0.mk (blk_below (g := gb238) (o := .cells #[.int .i64 t236, .int .i64 t237] 26 (0, 0)) (by (with_reducible repeat (first | refine blk_drewN ?_ _ | refine blk_drew ?_ | refine blk_alloc ?_ _)); exact BK238.out) hb); have n3_ := Aside0.mk (below_step (by repeat (first | (with_reducible first | exact HB.out | apply below_alloc | apply pw_below_drewN | apply below_drew1 | refine below_set ?_ GE238.out) | exact HB.out)) hb); have n4_ := Aside0.mk (hbox); have n5_ := Aside0.mk ((by rw [hg]; exact (below_size (by repeat (first | (with_reducible first | exact HB.out | apply below_alloc | apply pw_below_drewN | apply below_drew1 | refine below_set ?_ GE238.out) | exact HB.out))) : w.heap.size ≤ gb247)); have n6_ := Aside0.mk ((by rw [hg]; exact (below_size (by repeat (first | (with_reducible first | exact HB.out | apply below_alloc | apply pw_below_drewN | apply below_drew1 | refine below_set ?_ GE238.out) | exact HB.out))) : w.heap.size ≤ gb247)); have n7_ := Aside0.mk ((by rw [hg]; exact Nat.ne_of_lt (blk_lt (g := gb238) (o := .cells #[.int .i64 t236, .int .i64 t237] 26 (0, 0)) (by (with_reducible repeat (first | refine blk_drewN ?_ _ | refine blk_drew ?_ | refine blk_alloc ?_ _)); exact BK238.out)) : gb238 ≠ gb247)); have n8_ := Aside0.mk ((by rw [hg]; exact Nat.ne_of_gt (blk_lt (g := gb238) (o := .cells #[.int .i64 t236, .int .i64 t237] 26 (0, 0)) (by (with_reducible repeat (first | refine blk_drewN ?_ _ | refine blk_drew ?_ | refine blk_alloc ?_ _)); exact BK238.out)) : gb247 ≠ gb238)); clear HO_3; clear HO243; clear BK238; clear HB; have HO_3 := n0_; have HO243 := n1_; have BK238 := n2_; have HB := n3_; have BK247 := n4_; have GW247 := n5_; have GE247 := n6_; have NB238_247 := n7_; have NB247_238 := n8_; clear n0_ n1_ n2_ n3_ n4_ n5_ n6_ n7_ n8_; clear hb hbox hg; have hnb24 := NB247_238.out; have hnc24 := NB238_247.out; have hcz25_0 : w23.cell? ⟨gb247, 0, none⟩ = some (.int .i64 0) := (blk_cell BK247.out 0).trans rfl; have hcz25_1 : w23.cell? ⟨gb247, 1, none⟩ = some (.int .i64 0) := (blk_cell BK247.out 1).trans rfl; have hfz25_0 := blk_frozen BK247.out 0; have hfz25_1 := blk_frozen BK247.out 1))
       repeat (go_quiet (first | (go_at_call 9; (with_reducible refine (lex_All.calls k1 x6_1 t241 t244 t245 t246 _ ?side1 A19.out).mono ?_); (case side1 => exact Gl.below HGL.out (by repeat (first | (with_reducible first | exact HB.out | apply below_alloc | apply pw_below_drewN | apply below_drew1 | refine below_set ?_ GE238.out) | exact HB.out))); rintro e w22 ⟨v242, rfl, ho0, hb⟩; have n0_ := Aside0.mk (Kd.R_elder' (by (with_reducible repeat (first | apply Kd.R_alloc | apply Kd.R_drewN | apply Kd.R_drew)); exact HO_3.out) (Kd.R_base ho0) hb); have n1_ := Aside0.mk (Kd.R_lower (Kd.R_new' ho0 (Kd.R_lt (by (with_reducible repeat (first | apply Kd.R_alloc | apply Kd.R_drewN | apply Kd.R_drew)); exact HO_3.out))) (below_size (by repeat (first | (with_reducible first | exact HB.out | apply below_alloc | apply pw_below_drewN | apply below_drew1 | refine below_set ?_ GE238.out) | exact HB.out)))); have n2_ := Aside0.mk (blk_below (g := gb238) (o := .cells #[.int .i64 t236, .int .i64 t237] 26 (0, 0)) (by (with_reducible repeat (first | refine blk_drewN ?_ _ | refine blk_drew ?_ | refine blk_alloc ?_ _)); exact BK238.out) hb); have n3_ := Aside0.mk (below_step (by repeat (first | (with_reducible first | exact HB.out | apply below_alloc | apply pw_below_drewN | apply below_drew1 | refine below_set ?_ GE238.out) | exact HB.out)) hb); clear HO_3; clear BK238; clear HB; have HO_3 := n0_; have HO243 := n1_; have BK238 := n2_; have HB := n3_; clear n0_ n1_ n2_ n3_; (try clear hb); (try clear hb2); (try clear hk); (try clear hi); (try clear ho0)) | ((with_reducible refine gate_dst (N := 10) rfl ?_); (try (refine gate_guard (by rfl) ?_; dsimp only)); refine box_event ?hg (N := 10) ?hd (cs := #[.int .i64 0, .int .i64 0]) (t := 26) ?hr ?_; (case hd => rfl); (case hg => rfl); (case hr => first | (go_simp; done) | (go_simp; rfl)); intro gb247 hg w23 hbox hb; have n0_ := Aside0.mk (Kd.R_below (by (with_reducible repeat (first | apply Kd.R_alloc | apply Kd.R_drewN | apply Kd.R_drew)); exact HO_3.out) hb); have n1_ := Aside0.mk (Kd.R_below (by (with_reducible repeat (first | apply Kd.R_alloc | apply Kd.R_drewN | apply Kd.R_drew)); exact HO243.out) hb); have n2_ := Aside0.mk (blk_below (g := gb238) (o := .cells #[.int .i64 t236, .int .i64 t237] 26 (0, 0)) (by (with_reducible repeat (first | refine blk_drewN ?_ _ | refine blk_drew ?_ | refine blk_alloc ?_ _)); exact BK238.out) hb); have n3_ := Aside0.mk (below_step (by repeat (first | (with_reducible first | exact HB.out | apply below_alloc | apply pw_below_drewN | apply below_drew1 | refine below_set ?_ GE238.out) | exact HB.out)) hb); have n4_ := Aside0.mk (hbox); have n5_ := Aside0.mk ((by rw [hg]; exact (below_size (by repeat (first | (with_reducible first | exact HB.out | apply below_alloc | apply pw_below_drewN | apply below_drew1 | refine below_set ?_ GE238.out) | exact HB.out))) : w.heap.size ≤ gb247)); have n6_ := Aside0.mk ((by rw [hg]; exact (below_size (by repeat (first | (with_reducible first | exact HB.out | apply below_alloc | apply pw_below_drewN | apply below_drew1 | refine below_set ?_ GE238.out) | exact HB.out))) : w.heap.size ≤ gb247)); have n7_ := Aside0.mk ((by rw [hg]; exact Nat.ne_of_lt (blk_lt (g := gb238) (o := .cells #[.int .i64 t236, .int .i64 t237] 26 (0, 0)) (by (with_reducible repeat (first | refine blk_drewN ?_ _ | refine blk_drew ?_ | refine blk_alloc ?_ _)); exact BK238.out)) : gb238 ≠ gb247)); have n8_ := Aside0.mk ((by rw [hg]; exact Nat.ne_of_gt (blk_lt (g := gb238) (o := .cells #[.int .i64 t236, .int .i64 t237] 26 (0, 0)) (by (with_reducible repeat (first | refine blk_drewN ?_ _ | refine blk_drew ?_ | refine blk_alloc ?_ _)); exact BK238.out)) : gb247 ≠ gb238)); clear HO_3; clear HO243; clear BK238; clear HB; have HO_3 := n0_; have HO243 := n1_; have BK238 := n2_; have HB := n3_; have BK247 := n4_; have GW247 := n5_; have GE247 := n6_; have NB238_247 := n7_; have NB247_238 := n8_; clear n0_ n1_ n2_ n3_ n4_ n5_ n6_ n7_ n8_; clear hb hbox hg; have hnb24 := NB247_238.out; have hnc24 := NB238_247.out; have hcz25_0 : w23.cell? ⟨gb247, 0, none⟩ = some (.int .i64 0) := (blk_cell BK247.out 0).trans rfl; have hcz25_1 : w23.cell? ⟨gb247, 1, none⟩ = some (.int .i64 0) := (blk_cell BK247.out 1).trans rfl; have hfz25_0 := blk_frozen BK247.out 0; have hfz25_1 := blk_frozen BK247.out 1)); go_upto_region 14 with (first | (go_at_call 9; (with_reducible refine (lex_All.calls k1 x6_1 t241 t244 t245 t246 _ ?side1 A19.out).mono ?_); (case side1 => exact Gl.below HGL.out (by repeat (first | (with_reducible first | exact HB.out | apply below_alloc | apply pw_below_drewN | apply below_drew1 | refine below_set ?_ GE238.out) | exact HB.out))); rintro e w22 ⟨v242, rfl, ho0, hb⟩; have n0_ := Aside0.mk (Kd.R_elder' (by (with_reducible repeat (first | apply Kd.R_alloc | apply Kd.R_drewN | apply Kd.R_drew)); exact HO_3.out) (Kd.R_base ho0) hb); have n1_ := Aside0.mk (Kd.R_lower (Kd.R_new' ho0 (Kd.R_lt (by (with_reducible repeat (first | apply Kd.R_alloc | apply Kd.R_drewN | apply Kd.R_drew)); exact HO_3.out))) (below_size (by repeat (first | (with_reducible first | exact HB.out | apply below_alloc | apply pw_below_drewN | apply below_drew1 | refine below_set ?_ GE238.out) | exact HB.out)))); have n2_ := Aside0.mk (blk_below (g := gb238) (o := .cells #[.int .i64 t236, .int .i64 t237] 26 (0, 0)) (by (with_reducible repeat (first | refine blk_drewN ?_ _ | refine blk_drew ?_ | refine blk_alloc ?_ _)); exact BK238.out) hb); have n3_ := Aside0.mk (below_step (by repeat (first | (with_reducible first | exact HB.out | apply below_alloc | apply pw_below_drewN | apply below_drew1 | refine below_set ?_ GE238.out) | exact HB.out)) hb); clear HO_3; clear BK238; clear HB; have HO_3 := n0_; have HO243 := n1_; have BK238 := n2_; have HB := n3_; clear n0_ n1_ n2_ n3_; (try clear hb); (try clear hb2); (try clear hk); (try clear hi); (try clear ho0)) | ((with_reducible refine gate_dst (N := 10) rfl ?_); (try (refine gate_guard (by rfl) ?_; dsimp only)); refine box_event ?hg (N := 10) ?hd (cs := #[.int .i64 0, .int .i64 0]) (t := 26) ?hr ?_; (case hd => rfl); (case hg => rfl); (case hr => first | (go_simp; done) | (go_simp; rfl)); intro gb247 hg w23 hbox hb; have n0_ := Aside0.mk (Kd.R_below (by (with_reducible repeat (first | apply Kd.R_alloc | apply Kd.R_drewN | apply Kd.R_drew)); exact HO_3.out) hb); have n1_ := Aside0.mk (Kd.R_below (by (with_reducible repeat (first | apply Kd.R_alloc | apply Kd.R_drewN | apply Kd.R_drew)); exact HO243.out) hb); have n2_ := Aside0.mk (blk_below (g := gb238) (o := .cells #[.int .i64 t236, .int .i64 t237] 26 (0, 0)) (by (with_reducible repeat (first | refine blk_drewN ?_ _ | refine blk_drew ?_ | refine blk_alloc ?_ _)); exact BK238.out) hb); have n3_ := Aside0.mk (below_step (by repeat (first | (with_reducible first | exact HB.out | apply below_alloc | apply pw_below_drewN | apply below_drew1 | refine below_set ?_ GE238.out) | exact HB.out)) hb); have n4_ := Aside0.mk (hbox); have n5_ := Aside0.mk ((by rw [hg]; exact (below_size (by repeat (first | (with_reducible first | exact HB.out | apply below_alloc | apply pw_below_drewN | apply below_drew1 | refine below_set ?_ GE238.out) | exact HB.out))) : w.heap.size ≤ gb247)); have n6_ := Aside0.mk ((by rw [hg]; exact (below_size (by repeat (first | (with_reducible first | exact HB.out | apply below_alloc | apply pw_below_drewN | apply below_drew1 | refine below_set ?_ GE238.out) | exact HB.out))) : w.heap.size ≤ gb247)); have n7_ := Aside0.mk ((by rw [hg]; exact Nat.ne_of_lt (blk_lt (g := gb238) (o := .cells #[.int .i64 t236, .int .i64 t237] 26 (0, 0)) (by (with_reducible repeat (first | refine blk_drewN ?_ _ | refine blk_drew ?_ | refine blk_alloc ?_ _)); exact BK238.out)) : gb238 ≠ gb247)); have n8_ := Aside0.mk ((by rw [hg]; exact Nat.ne_of_gt (blk_lt (g := gb238) (o := .cells #[.int .i64 t236, .int .i64 t237] 26 (0, 0)) (by (with_reducible repeat (first | refine blk_drewN ?_ _ | refine blk_drew ?_ | refine blk_alloc ?_ _)); exact BK238.out)) : gb247 ≠ gb238)); clear HO_3; clear HO243; clear BK238; clear HB; have HO_3 := n0_; have HO243 := n1_; have BK238 := n2_; have HB := n3_; have BK247 := n4_; have GW247 := n5_; have GE247 := n6_; have NB238_247 := n7_; have NB247_238 := n8_; clear n0_ n1_ n2_ n3_ n4_ n5_ n6_ n7_ n8_; clear hb hbox hg; have hnb24 := NB247_238.out; have hnc24 := NB238_247.out; have hcz25_0 : w23.cell? ⟨gb247, 0, none⟩ = some (.int .i64 0) := (blk_cell BK247.out 0).trans rfl; have hcz25_1 : w23.cell? ⟨gb247, 1, none⟩ = some (.int .i64 0) := (blk_cell BK247.out 1).trans rfl; have hfz25_0 := blk_frozen BK247.out 0; have hfz25_1 := blk_frozen BK247.out 1)))
       (try simp only [Act.put, List.setIfInBounds_toArray, List.set_cons_zero, List.set_cons_succ])
       go_cut [56] (fun v56 wc => ∃ (kq : Nat) (x56_19 : Bool), v56 = .bool x56_19 ∧ Aside0 (bloomerylaw09_LexAgain.j1 kq t232 t241 x56_19 = some r) ∧ Aside0 (kq ≤ k1) ∧ Aside0 (Kd.R k33 33 wc w.heap.size (fun k_ => some k_ ≠ (v242 : Value).ownBlock) (.slice Ao21 t232.length co21) t232) ∧ Aside0 (Kd.R k33 33 wc w.heap.size (fun k_ => some k_ ≠ ((.slice Ao21 t232.length co21) : Value).ownBlock) v242 t241) ∧ Aside0 (wc.heap[gb238]? = some (.cells #[.int .i64 t236, .int .i64 t237] 26 (0, 0))) ∧ Aside0 (wc.heap[gb247]? = some (.cells #[.int .i64 t245, .int .i64 t246] 26 (0, 0))) ∧ Aside0 (Below w.heap.size w wc))
       case first =>
        have H := HC20.out
        clear HC20
        by_cases c26 : t244 = 0
        ·rw [if_pos c26] at H
         have c26b0 : (t244 == 0) = true := beq_iff_eq.mpr c26
         have c26b1 : (t244 != 0) = false := bne_eq_false_iff_eq.mpr c26
         clear c26
         (first | rw [c26b0] | (simp only [i64_w, i32_w]; rw [c26b0]) | skip)
         have H' := Aside0.mk H
         clear H
         obtain ⟨Ao27, co27, eo27⟩ := Kd.R_slice HO243.out
         subst eo27
         go_wp2
         repeat (go_quiet (fail); try go_wp2)
         go_meet
         case rel => exact ⟨_, (((t241.length : Int) != (t232.length : Int))), (by first | rfl | (simp; done) | (simp [*]; done)), (by first | exact H' | (subst_vars; exact H')), ⟨by have := HK1.out; first | omega | exact Nat.le_refl _⟩, ⟨by (with_reducible repeat (first | apply Kd.R_alloc | apply Kd.R_drewN | apply Kd.R_drew)); exact Kd.R_mono (Kd.R_far (p := ⟨gb247, 1, none⟩) (Kd.R_far (p := ⟨gb247, 0, none⟩) (Kd.R_types HO_3.out BK247.out (by decide)) (fun _ hk => hk.2) (.int .i64 t245)) (fun _ hk => hk.2) (.int .i64 t246)) (fun _ hk => hk.1.2)⟩, ⟨by (with_reducible repeat (first | apply Kd.R_alloc | apply Kd.R_drewN | apply Kd.R_drew)); exact Kd.R_mono (Kd.R_far (p := ⟨gb247, 1, none⟩) (Kd.R_far (p := ⟨gb247, 0, none⟩) (Kd.R_types HO243.out BK247.out (by decide)) (fun _ hk => hk.2) (.int .i64 t245)) (fun _ hk => hk.2) (.int .i64 t246)) (fun _ hk => hk.1.2)⟩, ⟨by (with_reducible repeat (first | refine blk_drewN ?_ _ | refine blk_drew ?_ | refine blk_alloc ?_ _)); refine blk_far ?_ NB238_247.out _; (with_reducible repeat (first | refine blk_drewN ?_ _ | refine blk_drew ?_ | refine blk_alloc ?_ _)); refine blk_far ?_ NB238_247.out _; (with_reducible repeat (first | refine blk_drewN ?_ _ | refine blk_drew ?_ | refine blk_alloc ?_ _)); exact BK238.out⟩, ⟨by (with_reducible repeat (first | refine blk_drewN ?_ _ | refine blk_drew ?_ | refine blk_alloc ?_ _)); refine blk_put (cs := #[.int .i64 t245, .int .i64 0]) ?_ 1 _ rfl; (with_reducible repeat (first | refine blk_drewN ?_ _ | refine blk_drew ?_ | refine blk_alloc ?_ _)); refine blk_put (cs := #[.int .i64 0, .int .i64 0]) ?_ 0 _ rfl; (with_reducible repeat (first | refine blk_drewN ?_ _ | refine blk_drew ?_ | refine blk_alloc ?_ _)); exact BK247.out⟩, ⟨by repeat (first | (with_reducible first | exact HB.out | apply below_alloc | apply pw_below_drewN | apply below_drew1 | refine below_set ?_ GE238.out | refine below_set ?_ GE247.out) | exact HB.out)⟩⟩
        ·rw [if_neg c26] at H
         have c26b0 : (t244 == 0) = false := beq_eq_false_iff_ne.mpr c26
         have c26b1 : (t244 != 0) = true := bne_iff_ne.mpr c26
         (first | rw [c26b0] | (simp only [i64_w, i32_w]; rw [c26b0]) | skip)
         have H' := Aside0.mk H
         clear H
         go_wp2
         repeat (go_quiet (fail); try go_wp2)
         go_meet
         case rel => exact ⟨_, (true), (by first | rfl | (simp; done) | (simp [*]; done)), (by first | exact H' | (subst_vars; exact H')), ⟨by have := HK1.out; first | omega | exact Nat.le_refl _⟩, ⟨by (with_reducible repeat (first | apply Kd.R_alloc | apply Kd.R_drewN | apply Kd.R_drew)); exact Kd.R_mono (Kd.R_far (p := ⟨gb247, 1, none⟩) (Kd.R_far (p := ⟨gb247, 0, none⟩) (Kd.R_types HO_3.out BK247.out (by decide)) (fun _ hk => hk.2) (.int .i64 t245)) (fun _ hk => hk.2) (.int .i64 t246)) (fun _ hk => hk.1.2)⟩, ⟨by (with_reducible repeat (first | apply Kd.R_alloc | apply Kd.R_drewN | apply Kd.R_drew)); exact Kd.R_mono (Kd.R_far (p := ⟨gb247, 1, none⟩) (Kd.R_far (p := ⟨gb247, 0, none⟩) (Kd.R_types HO243.out BK247.out (by decide)) (fun _ hk => hk.2) (.int .i64 t245)) (fun _ hk => hk.2) (.int .i64 t246)) (fun _ hk => hk.1.2)⟩, ⟨by (with_reducible repeat (first | refine blk_drewN ?_ _ | refine blk_drew ?_ | refine blk_alloc ?_ _)); refine blk_far ?_ NB238_247.out _; (with_reducible repeat (first | refine blk_drewN ?_ _ | refine blk_drew ?_ | refine blk_alloc ?_ _)); refine blk_far ?_ NB238_247.out _; (with_reducible repeat (first | refine blk_drewN ?_ _ | refine blk_drew ?_ | refine blk_alloc ?_ _)); exact BK238.out⟩, ⟨by (with_reducible repeat (first | refine blk_drewN ?_ _ | refine blk_drew ?_ | refine blk_alloc ?_ _)); refine blk_put (cs := #[.int .i64 t245, .int .i64 0]) ?_ 1 _ rfl; (with_reducible repeat (first | refine blk_drewN ?_ _ | refine blk_drew ?_ | refine blk_alloc ?_ _)); refine blk_put (cs := #[.int .i64 0, .int .i64 0]) ?_ 0 _ rfl; (with_reducible repeat (first | refine blk_drewN ?_ _ | refine blk_drew ?_ | refine blk_alloc ?_ _)); exact BK247.out⟩, ⟨by repeat (first | (with_reducible first | exact HB.out | apply below_alloc | apply pw_below_drewN | apply below_drew1 | refine below_set ?_ GE238.out | refine below_set ?_ GE247.out) | exact HB.out)⟩⟩
       case rest =>
        clear HC20
        try clear c1
        try clear c2
        try clear p2
        try clear q2
        try clear hx2
        try clear c3
        try clear c4
        try clear c4b0
        try clear c4b1
        try clear c5
        try clear p6
        try clear c7
        try clear c7b0
        try clear c7b1
        try clear c12
        try clear c12b0
        try clear c13
        try clear c13b0
        try clear c15
        try clear c15b0
        try clear c15b1
        try clear c15b2
        try clear c16
        try clear c16b0
        try clear c16b1
        try clear c16b2
        try clear p23
        try clear q23
        try clear hx23
        try clear c24
        try clear c26
        try clear c26b0
        try clear c26b1
        try clear hcz11_0
        try clear hcz11_1
        try clear hcz25_0
        try clear hcz25_1
        try clear hfz11_0
        try clear hfz11_1
        try clear hfz25_0
        try clear hfz25_1
        try clear hx239_0
        try clear hx239_1
        try clear hx239_2
        try clear hx239_3
        try clear p2
        try clear p239
        try clear q239
        obtain ⟨kq, x56_19, rfl, HA, HJ19, HO_3, HO_8, BK238, BK247, HB⟩ := hcut
        cases kq with
        | zero => exact absurd HA.out (by simp [bloomerylaw09_LexAgain.j1])
        | succ kj19 =>
         have H := HA.out
         clear HA
         simp only [bloomerylaw09_LexAgain.j1] at H
         by_cases c28 : x56_19 = true
         ·subst c28
          have H1 : (some false) = some r := by rw [if_pos rfl] at H; exact H
          clear H
          have H := H1
          clear H1
          obtain rfl := Option.some.inj H
          go_wp2
          repeat (go_quiet (fail); try go_wp2)
          go_ret
          exact ⟨by first | rfl | (simp [errW_none, errW_some] <;> rfl) | (simp [*, errW_none, errW_some] <;> rfl), by repeat (first | (with_reducible first | exact HB.out | apply below_alloc | apply pw_below_drewN | apply below_drew1 | refine below_set ?_ GE238.out | refine below_set ?_ GE247.out) | exact HB.out)⟩
         ·replace c28 := Bool.eq_false_iff.mpr c28
          subst c28
          have H1 : (bloomerylaw09_LexAgain.l1 kj19 t232 t241 0) = some r := by rw [if_neg (show ¬ (false = true) by decide)] at H; exact H
          clear H
          have H := H1
          clear H1
          have H' := Aside0.mk H
          clear H
          go_wp2
          repeat (go_quiet (fail); try go_wp2)
          go_loopg [11] kj19 (fun kq v11 w' => ∃ (x11_3 : Int), v11 = .int .i64 x11_3 ∧ Aside0 (bloomerylaw09_LexAgain.l1 kq t232 t241 x11_3 = some r) ∧ Aside0 (kq ≤ kj19) ∧ Aside0 (Kd.R k33 33 w' w.heap.size (fun k_ => some k_ ≠ (v242 : Value).ownBlock) (.slice Ao21 t232.length co21) t232) ∧ Aside0 (Kd.R k33 33 w' w.heap.size (fun k_ => some k_ ≠ ((.slice Ao21 t232.length co21) : Value).ownBlock) v242 t241) ∧ Aside0 (w'.heap[gb238]? = some (.cells #[.int .i64 t236, .int .i64 t237] 26 (0, 0))) ∧ Aside0 (w'.heap[gb247]? = some (.cells #[.int .i64 t245, .int .i64 t246] 26 (0, 0))) ∧ Aside0 (Below w.heap.size w w'))
          case atStart => exact ⟨(0), (by first | rfl | (simp; done) | (simp [*]; done)), (by first | exact H' | (subst_vars; exact H')), ⟨Nat.le_refl _⟩, ⟨by (with_reducible repeat (first | apply Kd.R_alloc | apply Kd.R_drewN | apply Kd.R_drew)); exact HO_3.out⟩, ⟨by (with_reducible repeat (first | apply Kd.R_alloc | apply Kd.R_drewN | apply Kd.R_drew)); exact HO_8.out⟩, ⟨by (with_reducible repeat (first | refine blk_drewN ?_ _ | refine blk_drew ?_ | refine blk_alloc ?_ _)); exact BK238.out⟩, ⟨by (with_reducible repeat (first | refine blk_drewN ?_ _ | refine blk_drew ?_ | refine blk_alloc ?_ _)); exact BK247.out⟩, ⟨by repeat (first | (with_reducible first | exact HB.out | apply below_alloc | apply pw_below_drewN | apply below_drew1 | refine below_set ?_ GE238.out | refine below_set ?_ GE247.out) | exact HB.out)⟩⟩
          case round =>
           clear H'
           try clear c1
           try clear c2
           try clear p2
           try clear q2
           try clear hx2
           try clear c3
           try clear c4
           try clear c4b0
           try clear c4b1
           try clear c5
           try clear p6
           try clear c7
           try clear c7b0
           try clear c7b1
           try clear c12
           try clear c12b0
           try clear c13
           try clear c13b0
           try clear c15
           try clear c15b0
           try clear c15b1
           try clear c15b2
           try clear c16
           try clear c16b0
           try clear c16b1
           try clear c16b2
           try clear p23
           try clear q23
           try clear hx23
           try clear c24
           try clear c26
           try clear c26b0
           try clear c26b1
           try clear c28
           try clear hcz11_0
           try clear hcz11_1
           try clear hcz25_0
           try clear hcz25_1
           try clear hfz11_0
           try clear hfz11_1
           try clear hfz25_0
           try clear hfz25_1
           try clear hx239_0
           try clear hx239_1
           try clear hx239_2
           try clear hx239_3
           try clear p2
           try clear p23
           try clear p239
           try clear p6
           try clear q2
           try clear q23
           try clear q239
           obtain ⟨x11_3, rfl, HA, HK3, HO_3, HO_8, BK238, BK247, HB⟩ := hrel
           cases gk with
           | zero => exact absurd HA.out (by simp [bloomerylaw09_LexAgain.l1])
           | succ k3 =>
            have H := HA.out
            clear HA
            simp only [bloomerylaw09_LexAgain.l1] at H
            by_cases c29 : x11_3 < (t232.length : Int)
            ·rw [if_pos c29] at H
             have c29b0 : decide (x11_3 < (t232.length : Int)) = true := decide_eq_true c29
             clear c29
             by_cases c30 : 0 ≤ x11_3
             ·rw [if_pos c30] at H
              have c30b0 : decide (0 ≤ x11_3) = true := decide_eq_true c30
              clear c30
              by_cases c31 : x11_3 < (t241.length : Int)
              ·rw [if_pos c31] at H
               have c31b0 : decide (x11_3 < (t241.length : Int)) = true := decide_eq_true c31
               clear c31
               by_cases c32 : ((rd_T33 t241 x11_3).f0) = ((rd_T33 t232 x11_3).f0)
               ·rw [if_pos c32] at H
                have c32b0 : (((rd_T33 t241 x11_3).f0) == ((rd_T33 t232 x11_3).f0)) = true := beq_iff_eq.mpr c32
                have c32b1 : (((rd_T33 t241 x11_3).f0) != ((rd_T33 t232 x11_3).f0)) = false := bne_eq_false_iff_eq.mpr c32
                clear c32
                by_cases c33 : ((rd_T33 t241 x11_3).f1).toList = ((rd_T33 t232 x11_3).f1).toList
                ·rw [if_pos c33] at H
                 have c33b0 : (((rd_T33 t241 x11_3).f1).toList == ((rd_T33 t232 x11_3).f1).toList) = true := beq_iff_eq.mpr c33
                 have c33b1 : (((rd_T33 t241 x11_3).f1).toList != ((rd_T33 t232 x11_3).f1).toList) = false := bne_eq_false_iff_eq.mpr c33
                 clear c33
                 have H' := Aside0.mk H
                 clear H
                 obtain ⟨Ao34, co34, eo34⟩ := Kd.R_slice HO_8.out
                 subst eo34
                 have p248 : 0 ≤ (x11_3 : Int) := of_decide_eq_true (by first | (with_reducible assumption) | assumption)
                 have q248 : x11_3 < (t241.length : Int) := of_decide_eq_true (by first | (with_reducible assumption) | assumption)
                 obtain ⟨ad248, e248, hx248_0, hx248_1, hx248_2, hx248_3⟩ := at_T33 (Kd.R_reads' HO_8.out).2.2 x11_3 p248 q248
                 cases e248
                 replace p248 := eq_true p248
                 replace q248 := eq_true q248
                 have p249 : 0 ≤ (x11_3 : Int) := of_decide_eq_true (by first | (with_reducible assumption) | assumption)
                 have q249 : x11_3 < (t232.length : Int) := of_decide_eq_true (by first | (with_reducible assumption) | assumption)
                 obtain ⟨ad249, e249, hx249_0, hx249_1, hx249_2, hx249_3⟩ := at_T33 (Kd.R_reads' HO_3.out).2.2 x11_3 p249 q249
                 cases e249
                 replace p249 := eq_true p249
                 replace q249 := eq_true q249
                 have p250 : 0 ≤ (x11_3 : Int) := of_decide_eq_true (by first | (with_reducible assumption) | assumption)
                 have q250 : x11_3 < (t241.length : Int) := of_decide_eq_true (by first | (with_reducible assumption) | assumption)
                 obtain ⟨ad250, e250, hx250_0, hx250_1, hx250_2, hx250_3⟩ := at_T33 (Kd.R_reads' HO_8.out).2.2 x11_3 p250 q250
                 obtain rfl : ad248 = ad250 := (by injection e250)
                 replace p250 := eq_true p250
                 replace q250 := eq_true q250
                 have p251 : 0 ≤ (x11_3 : Int) := of_decide_eq_true (by first | (with_reducible assumption) | assumption)
                 have q251 : x11_3 < (t232.length : Int) := of_decide_eq_true (by first | (with_reducible assumption) | assumption)
                 obtain ⟨ad251, e251, hx251_0, hx251_1, hx251_2, hx251_3⟩ := at_T33 (Kd.R_reads' HO_3.out).2.2 x11_3 p251 q251
                 obtain rfl : ad249 = ad251 := (by injection e251)
                 replace p251 := eq_true p251
                 replace q251 := eq_true q251
                 go_wp2
                 repeat (go_quiet (fail); try go_wp2)
                 go_roundg k3
                 case measure => have := HK1.out; have := HJ19.out; have := HK3.out; omega
                 case rel => exact ⟨(wrap64 (x11_3 + 1)), (by first | rfl | (simp; done) | (simp [*]; done)), (by first | exact H' | (subst_vars; exact H')), ⟨by have := HK1.out; have := HJ19.out; have := HK3.out; omega⟩, ⟨by (with_reducible repeat (first | apply Kd.R_alloc | apply Kd.R_drewN | apply Kd.R_drew)); exact HO_3.out⟩, ⟨by (with_reducible repeat (first | apply Kd.R_alloc | apply Kd.R_drewN | apply Kd.R_drew)); exact HO_8.out⟩, ⟨by (with_reducible repeat (first | refine blk_drewN ?_ _ | refine blk_drew ?_ | refine blk_alloc ?_ _)); exact BK238.out⟩, ⟨by (with_reducible repeat (first | refine blk_drewN ?_ _ | refine blk_drew ?_ | refine blk_alloc ?_ _)); exact BK247.out⟩, ⟨by repeat (first | (with_reducible first | exact HB.out | apply below_alloc | apply pw_below_drewN | apply below_drew1 | refine below_set ?_ GE238.out | refine below_set ?_ GE247.out) | exact HB.out)⟩⟩
                ·rw [if_neg c33] at H
                 have c33b0 : (((rd_T33 t241 x11_3).f1).toList == ((rd_T33 t232 x11_3).f1).toList) = false := beq_eq_false_iff_ne.mpr c33
                 have c33b1 : (((rd_T33 t241 x11_3).f1).toList != ((rd_T33 t232 x11_3).f1).toList) = true := bne_iff_ne.mpr c33
                 obtain rfl := Option.some.inj H
                 obtain ⟨Ao35, co35, eo35⟩ := Kd.R_slice HO_8.out
                 subst eo35
                 have p248 : 0 ≤ (x11_3 : Int) := of_decide_eq_true (by first | (with_reducible assumption) | assumption)
                 have q248 : x11_3 < (t241.length : Int) := of_decide_eq_true (by first | (with_reducible assumption) | assumption)
                 obtain ⟨ad248, e248, hx248_0, hx248_1, hx248_2, hx248_3⟩ := at_T33 (Kd.R_reads' HO_8.out).2.2 x11_3 p248 q248
                 cases e248
                 replace p248 := eq_true p248
                 replace q248 := eq_true q248
                 have p249 : 0 ≤ (x11_3 : Int) := of_decide_eq_true (by first | (with_reducible assumption) | assumption)
                 have q249 : x11_3 < (t232.length : Int) := of_decide_eq_true (by first | (with_reducible assumption) | assumption)
                 obtain ⟨ad249, e249, hx249_0, hx249_1, hx249_2, hx249_3⟩ := at_T33 (Kd.R_reads' HO_3.out).2.2 x11_3 p249 q249
                 cases e249
                 replace p249 := eq_true p249
                 replace q249 := eq_true q249
                 have p250 : 0 ≤ (x11_3 : Int) := of_decide_eq_true (by first | (with_reducible assumption) | assumption)
                 have q250 : x11_3 < (t241.length : Int) := of_decide_eq_true (by first | (with_reducible assumption) | assumption)
                 obtain ⟨ad250, e250, hx250_0, hx250_1, hx250_2, hx250_3⟩ := at_T33 (Kd.R_reads' HO_8.out).2.2 x11_3 p250 q250
                 obtain rfl : ad248 = ad250 := (by injection e250)
                 replace p250 := eq_true p250
                 replace q250 := eq_true q250
                 have p251 : 0 ≤ (x11_3 : Int) := of_decide_eq_true (by first | (with_reducible assumption) | assumption)
                 have q251 : x11_3 < (t232.length : Int) := of_decide_eq_true (by first | (with_reducible assumption) | assumption)
                 obtain ⟨ad251, e251, hx251_0, hx251_1, hx251_2, hx251_3⟩ := at_T33 (Kd.R_reads' HO_3.out).2.2 x11_3 p251 q251
                 obtain rfl : ad249 = ad251 := (by injection e251)
                 replace p251 := eq_true p251
                 replace q251 := eq_true q251
                 go_wp2
                 repeat (go_quiet (fail); try go_wp2)
                 go_ret
                 exact ⟨by first | rfl | (simp [errW_none, errW_some] <;> rfl) | (simp [*, errW_none, errW_some] <;> rfl), by repeat (first | (with_reducible first | exact HB.out | apply below_alloc | apply pw_below_drewN | apply below_drew1 | refine below_set ?_ GE238.out | refine below_set ?_ GE247.out) | exact HB.out)⟩
               ·rw [if_neg c32] at H
                have c32b0 : (((rd_T33 t241 x11_3).f0) == ((rd_T33 t232 x11_3).f0)) = false := beq_eq_false_iff_ne.mpr c32
                have c32b1 : (((rd_T33 t241 x11_3).f0) != ((rd_T33 t232 x11_3).f0)) = true := bne_iff_ne.mpr c32
                obtain rfl := Option.some.inj H
                obtain ⟨Ao36, co36, eo36⟩ := Kd.R_slice HO_8.out
                subst eo36
                have p248 : 0 ≤ (x11_3 : Int) := of_decide_eq_true (by first | (with_reducible assumption) | assumption)
                have q248 : x11_3 < (t241.length : Int) := of_decide_eq_true (by first | (with_reducible assumption) | assumption)
                obtain ⟨ad248, e248, hx248_0, hx248_1, hx248_2, hx248_3⟩ := at_T33 (Kd.R_reads' HO_8.out).2.2 x11_3 p248 q248
                cases e248
                replace p248 := eq_true p248
                replace q248 := eq_true q248
                have p249 : 0 ≤ (x11_3 : Int) := of_decide_eq_true (by first | (with_reducible assumption) | assumption)
                have q249 : x11_3 < (t232.length : Int) := of_decide_eq_true (by first | (with_reducible assumption) | assumption)
                obtain ⟨ad249, e249, hx249_0, hx249_1, hx249_2, hx249_3⟩ := at_T33 (Kd.R_reads' HO_3.out).2.2 x11_3 p249 q249
                cases e249
                replace p249 := eq_true p249
                replace q249 := eq_true q249
                go_wp2
                repeat (go_quiet (fail); try go_wp2)
                go_ret
                exact ⟨by first | rfl | (simp [errW_none, errW_some] <;> rfl) | (simp [*, errW_none, errW_some] <;> rfl), by repeat (first | (with_reducible first | exact HB.out | apply below_alloc | apply pw_below_drewN | apply below_drew1 | refine below_set ?_ GE238.out | refine below_set ?_ GE247.out) | exact HB.out)⟩
              ·rw [if_neg c31] at H
               exact absurd H (by simp)
             ·rw [if_neg c30] at H
              exact absurd H (by simp)
            ·rw [if_neg c29] at H
             have c29b0 : decide (x11_3 < (t232.length : Int)) = false := decide_eq_false c29
             clear c29
             obtain rfl := Option.some.inj H
             go_wp2
             repeat (go_quiet (fail); try go_wp2)
             go_ret
             exact ⟨by first | rfl | (simp [errW_none, errW_some] <;> rfl) | (simp [*, errW_none, errW_some] <;> rfl), by repeat (first | (with_reducible first | exact HB.out | apply below_alloc | apply pw_below_drewN | apply below_drew1 | refine below_set ?_ GE238.out | refine below_set ?_ GE247.out) | exact HB.out)⟩
   ·rw [if_neg c7] at H
    have c7b0 : (t235 == 0) = false := beq_eq_false_iff_ne.mpr c7
    have c7b1 : (t235 != 0) = true := bne_iff_ne.mpr c7
    obtain rfl := Option.some.inj H
    go_enter Tryz.func5, Tryz.ntmps5
    go_wp2_with (first | (go_at_call 8; (with_reducible refine (bloomerylaw09_alive.calls k  true _ ?side1 A2.out).mono ?_); (case side1 => exact Gl.below HGL.out (by repeat (first | (with_reducible first | exact HB.out | apply below_alloc | apply pw_below_drewN | apply below_drew1) | exact HB.out))); rintro e w37 ⟨rfl, hb⟩; have n0_ := Aside0.mk (below_step (by repeat (first | (with_reducible first | exact HB.out | apply below_alloc | apply pw_below_drewN | apply below_drew1) | exact HB.out)) hb); clear HB; have HB := n0_; clear n0_; (try clear hb); (try clear hb2); (try clear hk); (try clear hi)) | (go_at_call 9; (with_reducible refine (lex_All.calls k a0 t232 t235 t236 t237 _ ?side1 A6.out).mono ?_); (case side1 => exact Gl.below HGL.out (by repeat (first | (with_reducible first | exact HB.out | apply below_alloc | apply pw_below_drewN | apply below_drew1) | exact HB.out))); rintro e w38 ⟨v233, rfl, ho0, hb⟩; have n0_ := Aside0.mk (Kd.R_lower ho0 (below_size (by repeat (first | (with_reducible first | exact HB.out | apply below_alloc | apply pw_below_drewN | apply below_drew1) | exact HB.out)))); have n1_ := Aside0.mk (below_step (by repeat (first | (with_reducible first | exact HB.out | apply below_alloc | apply pw_below_drewN | apply below_drew1) | exact HB.out)) hb); clear HB; have HO234 := n0_; have HB := n1_; clear n0_ n1_; (try clear hb); (try clear hb2); (try clear hk); (try clear hi); (try clear ho0)) | ((with_reducible refine gate_dst (N := 5) rfl ?_); (try (refine gate_guard (by rfl) ?_; dsimp only)); refine box_event ?hg (N := 5) ?hd (cs := #[.int .i64 0, .int .i64 0]) (t := 26) ?hr ?_; (case hd => rfl); (case hg => rfl); (case hr => first | (go_simp; done) | (go_simp; rfl)); intro gb238 hg w39 hbox hb; have n0_ := Aside0.mk (Kd.R_below (by (with_reducible repeat (first | apply Kd.R_alloc | apply Kd.R_drewN | apply Kd.R_drew)); exact HO234.out) hb); have n1_ := Aside0.mk (below_step (by repeat (first | (with_reducible first | exact HB.out | apply below_alloc | apply pw_below_drewN | apply below_drew1) | exact HB.out)) hb); have n2_ := Aside0.mk (hbox); have n3_ := Aside0.mk ((by rw [hg]; exact (below_size (by repeat (first | (with_reducible first | exact HB.out | apply below_alloc | apply pw_below_drewN | apply below_drew1) | exact HB.out))) : w.heap.size ≤ gb238)); have n4_ := Aside0.mk ((by rw [hg]; exact (below_size (by repeat (first | (with_reducible first | exact HB.out | apply below_alloc | apply pw_below_drewN | apply below_drew1) | exact HB.out))) : w.heap.size ≤ gb238)); clear HO234; clear HB; have HO234 := n0_; have HB := n1_; have BK238 := n2_; have GW238 := n3_; have GE238 := n4_; clear n0_ n1_ n2_ n3_ n4_; clear hb hbox hg; have hcz40_0 : w39.cell? ⟨gb238, 0, none⟩ = some (.int .i64 0) := (blk_cell BK238.out 0).trans rfl; have hcz40_1 : w39.cell? ⟨gb238, 1, none⟩ = some (.int .i64 0) := (blk_cell BK238.out 1).trans rfl; have hfz40_0 := blk_frozen BK238.out 0; have hfz40_1 := blk_frozen BK238.out 1; obtain ⟨Ao41, co41, eo41⟩ := Kd.R_slice HO234.out; subst eo41))
    repeat (go_quiet (first | (go_at_call 8; (with_reducible refine (bloomerylaw09_alive.calls k  true _ ?side1 A2.out).mono ?_); (case side1 => exact Gl.below HGL.out (by repeat (first | (with_reducible first | exact HB.out | apply below_alloc | apply pw_below_drewN | apply below_drew1) | exact HB.out))); rintro e w37 ⟨rfl, hb⟩; have n0_ := Aside0.mk (below_step (by repeat (first | (with_reducible first | exact HB.out | apply below_alloc | apply pw_below_drewN | apply below_drew1) | exact HB.out)) hb); clear HB; have HB := n0_; clear n0_; (try clear hb); (try clear hb2); (try clear hk); (try clear hi)) | (go_at_call 9; (with_reducible refine (lex_All.calls k a0 t232 t235 t236 t237 _ ?side1 A6.out).mono ?_); (case side1 => exact Gl.below HGL.out (by repeat (first | (with_reducible first | exact HB.out | apply below_alloc | apply pw_below_drewN | apply below_drew1) | exact HB.out))); rintro e w38 ⟨v233, rfl, ho0, hb⟩; have n0_ := Aside0.mk (Kd.R_lower ho0 (below_size (by repeat (first | (with_reducible first | exact HB.out | apply below_alloc | apply pw_below_drewN | apply below_drew1) | exact HB.out)))); have n1_ := Aside0.mk (below_step (by repeat (first | (with_reducible first | exact HB.out | apply below_alloc | apply pw_below_drewN | apply below_drew1) | exact HB.out)) hb); clear HB; have HO234 := n0_; have HB := n1_; clear n0_ n1_; (try clear hb); (try clear hb2); (try clear hk); (try clear hi); (try clear ho0)) | ((with_reducible refine gate_dst (N := 5) rfl ?_); (try (refine gate_guard (by rfl) ?_; dsimp only)); refine box_event ?hg (N := 5) ?hd (cs := #[.int .i64 0, .int .i64 0]) (t := 26) ?hr ?_; (case hd => rfl); (case hg => rfl); (case hr => first | (go_simp; done) | (go_simp; rfl)); intro gb238 hg w39 hbox hb; have n0_ := Aside0.mk (Kd.R_below (by (with_reducible repeat (first | apply Kd.R_alloc | apply Kd.R_drewN | apply Kd.R_drew)); exact HO234.out) hb); have n1_ := Aside0.mk (below_step (by repeat (first | (with_reducible first | exact HB.out | apply below_alloc | apply pw_below_drewN | apply below_drew1) | exact HB.out)) hb); have n2_ := Aside0.mk (hbox); have n3_ := Aside0.mk ((by rw [hg]; exact (below_size (by repeat (first | (with_reducible first | exact HB.out | apply below_alloc | apply pw_below_drewN | apply below_drew1) | exact HB.out))) : w.heap.size ≤ gb238)); have n4_ := Aside0.mk ((by rw [hg]; exact (below_size (by repeat (first | (with_reducible first | exact HB.out | apply below_alloc | apply pw_below_drewN | apply below_drew1) | exact HB.out))) : w.heap.size ≤ gb238)); clear HO234; clear HB; have HO234 := n0_; have HB := n1_; have BK238 := n2_; have GW238 := n3_; have GE238 := n4_; clear n0_ n1_ n2_ n3_ n4_; clear hb hbox hg; have hcz40_0 : w39.cell? ⟨gb238, 0, none⟩ = some (.int .i64 0) := (blk_cell BK238.out 0).trans rfl; have hcz40_1 : w39.cell? ⟨gb238, 1, none⟩ = some (.int .i64 0) := (blk_cell BK238.out 1).trans rfl; have hfz40_0 := blk_frozen BK238.out 0; have hfz40_1 := blk_frozen BK238.out 1; obtain ⟨Ao41, co41, eo41⟩ := Kd.R_slice HO234.out; subst eo41)); try go_wp2_with (first | (go_at_call 8; (with_reducible refine (bloomerylaw09_alive.calls k  true _ ?side1 A2.out).mono ?_); (case side1 => exact Gl.below HGL.out (by repeat (first | (with_reducible first | exact HB.out | apply below_alloc | apply pw_below_drewN | apply below_drew1) | exact HB.out))); rintro e w37 ⟨rfl, hb⟩; have n0_ := Aside0.mk (below_step (by repeat (first | (with_reducible first | exact HB.out | apply below_alloc | apply pw_below_drewN | apply below_drew1) | exact HB.out)) hb); clear HB; have HB := n0_; clear n0_; (try clear hb); (try clear hb2); (try clear hk); (try clear hi)) | (go_at_call 9; (with_reducible refine (lex_All.calls k a0 t232 t235 t236 t237 _ ?side1 A6.out).mono ?_); (case side1 => exact Gl.below HGL.out (by repeat (first | (with_reducible first | exact HB.out | apply below_alloc | apply pw_below_drewN | apply below_drew1) | exact HB.out))); rintro e w38 ⟨v233, rfl, ho0, hb⟩; have n0_ := Aside0.mk (Kd.R_lower ho0 (below_size (by repeat (first | (with_reducible first | exact HB.out | apply below_alloc | apply pw_below_drewN | apply below_drew1) | exact HB.out)))); have n1_ := Aside0.mk (below_step (by repeat (first | (with_reducible first | exact HB.out | apply below_alloc | apply pw_below_drewN | apply below_drew1) | exact HB.out)) hb); clear HB; have HO234 := n0_; have HB := n1_; clear n0_ n1_; (try clear hb); (try clear hb2); (try clear hk); (try clear hi); (try clear ho0)) | ((with_reducible refine gate_dst (N := 5) rfl ?_); (try (refine gate_guard (by rfl) ?_; dsimp only)); refine box_event ?hg (N := 5) ?hd (cs := #[.int .i64 0, .int .i64 0]) (t := 26) ?hr ?_; (case hd => rfl); (case hg => rfl); (case hr => first | (go_simp; done) | (go_simp; rfl)); intro gb238 hg w39 hbox hb; have n0_ := Aside0.mk (Kd.R_below (by (with_reducible repeat (first | apply Kd.R_alloc | apply Kd.R_drewN | apply Kd.R_drew)); exact HO234.out) hb); have n1_ := Aside0.mk (below_step (by repeat (first | (with_reducible first | exact HB.out | apply below_alloc | apply pw_below_drewN | apply below_drew1) | exact HB.out)) hb); have n2_ := Aside0.mk (hbox); have n3_ := Aside0.mk ((by rw [hg]; exact (below_size (by repeat (first | (with_reducible first | exact HB.out | apply below_alloc | apply pw_below_drewN | apply below_drew1) | exact HB.out))) : w.heap.size ≤ gb238)); have n4_ := Aside0.mk ((by rw [hg]; exact (below_size (by repeat (first | (with_reducible first | exact HB.out | apply below_alloc | apply pw_below_drewN | apply below_drew1) | exact HB.out))) : w.heap.size ≤ gb238)); clear HO234; clear HB; have HO234 := n0_; have HB := n1_; have BK238 := n2_; have GW238 := n3_; have GE238 := n4_; clear n0_ n1_ n2_ n3_ n4_; clear hb hbox hg; have hcz40_0 : w39.cell? ⟨gb238, 0, none⟩ = some (.int .i64 0) := (blk_cell BK238.out 0).trans rfl; have hcz40_1 : w39.cell? ⟨gb238, 1, none⟩ = some (.int .i64 0) := (blk_cell BK238.out 1).trans rfl; have hfz40_0 := blk_frozen BK238.out 0; have hfz40_1 := blk_frozen BK238.out 1; obtain ⟨Ao41, co41, eo41⟩ := Kd.R_slice HO234.out; subst eo41)))
    go_ret
    exact ⟨by first | rfl | (simp [errW_none, errW_some] <;> rfl) | (simp [*, errW_none, errW_some] <;> rfl), by repeat (first | (with_reducible first | exact HB.out | apply below_alloc | apply pw_below_drewN | apply below_drew1 | refine below_set ?_ GE238.out) | exact HB.out)⟩
 ·replace c3 := Bool.eq_false_iff.mpr c3
  subst c3
  have H1 : (some false) = some r := by rw [if_neg (show ¬ (false = true) by decide)] at H; exact H
  clear H
  have H := H1
  clear H1
  obtain rfl := Option.some.inj H
  go_enter Tryz.func5, Tryz.ntmps5
  go_wp2_with (first | (go_at_call 8; (with_reducible refine (bloomerylaw09_alive.calls k  false _ ?side1 A2.out).mono ?_); (case side1 => exact Gl.below HGL.out (by repeat (first | (with_reducible first | exact HB.out | apply below_alloc | apply pw_below_drewN | apply below_drew1) | exact HB.out))); rintro e w42 ⟨rfl, hb⟩; have n0_ := Aside0.mk (below_step (by repeat (first | (with_reducible first | exact HB.out | apply below_alloc | apply pw_below_drewN | apply below_drew1) | exact HB.out)) hb); clear HB; have HB := n0_; clear n0_; (try clear hb); (try clear hb2); (try clear hk); (try clear hi)))
  repeat (go_quiet (first | (go_at_call 8; (with_reducible refine (bloomerylaw09_alive.calls k  false _ ?side1 A2.out).mono ?_); (case side1 => exact Gl.below HGL.out (by repeat (first | (with_reducible first | exact HB.out | apply below_alloc | apply pw_below_drewN | apply below_drew1) | exact HB.out))); rintro e w42 ⟨rfl, hb⟩; have n0_ := Aside0.mk (below_step (by repeat (first | (with_reducible first | exact HB.out | apply below_alloc | apply pw_below_drewN | apply below_drew1) | exact HB.out)) hb); clear HB; have HB := n0_; clear n0_; (try clear hb); (try clear hb2); (try clear hk); (try clear hi))); try go_wp2_with (first | (go_at_call 8; (with_reducible refine (bloomerylaw09_alive.calls k  false _ ?side1 A2.out).mono ?_); (case side1 => exact Gl.below HGL.out (by repeat (first | (with_reducible first | exact HB.out | apply below_alloc | apply pw_below_drewN | apply below_drew1) | exact HB.out))); rintro e w42 ⟨rfl, hb⟩; have n0_ := Aside0.mk (below_step (by repeat (first | (with_reducible first | exact HB.out | apply below_alloc | apply pw_below_drewN | apply below_drew1) | exact HB.out)) hb); clear HB; have HB := n0_; clear n0_; (try clear hb); (try clear hb2); (try clear hk); (try clear hi))))
  go_ret
  exact ⟨by first | rfl | (simp [errW_none, errW_some] <;> rfl) | (simp [*, errW_none, errW_some] <;> rfl), by repeat (first | (with_reducible first | exact HB.out | apply below_alloc | apply pw_below_drewN | apply below_drew1) | exact HB.out)⟩

end Go.Proofs.YtannlhonjkhchaaGreatDoor.G

/- Layer 9's law LexAgain: as a Lean function it comes to true; what a call of it does. Conditions: the library's two errors of numbers as they were laid. -/
namespace Go.Proofs.YtannlhonjkhchaaGreatDoor.G
open Go.RowKit Go.Gw Go.Proofs.YtannlhonjkhchaaGreatDoorW.PrintWords
set_option linter.unusedVariables false
set_option linter.unusedSimpArgs false

theorem written_f (t : Lx.Tok) (h : t.text.length ≤ 1000000) : bloomerylaw09_written.f (tokS t).f0 (tokS t).f1 (tokS t).f2.f0 (tokS t).f2.f1 = some (B t.written) := by
  unfold bloomerylaw09_written.f Lx.Tok.written tokS
  simp only
  by_cases hk : t.kind = 3
  · rw [if_pos (by omega), if_pos hk, rquote_f _ h]
    rfl
  · rw [if_neg (by omega), if_neg hk]
/-- The tokens are compared, but for places. -/
theorem again_l1 (l m : List Lx.Tok) (h : m.map Lx.Tok.says = l.map Lx.Tok.says) (hl : l.length ≤ 1000000) : ∀ d i, d + i = l.length → Ev (fun k => bloomerylaw09_LexAgain.l1 k (l.map tokS) (m.map tokS) i) true := by
  have hlen : m.length = l.length := by have := congrArg List.length h; simpa using this
  intro d
  induction d with
  | zero =>
    intro i hi
    exact Ev.step (fun k => by rw [bloomerylaw09_LexAgain.l1]) (Ev.neg (by rw [List.length_map]; omega) (Ev.now _))
  | succ d ih =>
    intro i hi
    have h1 : i < l.length := by omega
    have h2 : i < m.length := by omega
    have hs : Lx.Tok.says (m[i]'h2) = Lx.Tok.says (l[i]'h1) := by
      have e1 : (m.map Lx.Tok.says)[i]'(by simpa using h2) = Lx.Tok.says (m[i]'h2) := by simp
      have e2 : (l.map Lx.Tok.says)[i]'(by simpa using h1) = Lx.Tok.says (l[i]'h1) := by simp
      rw [← e1, ← e2]
      congr 1
    unfold Lx.Tok.says at hs
    rw [Prod.mk.injEq] at hs
    refine Ev.step (fun k => by rw [bloomerylaw09_LexAgain.l1]) (Ev.pos (by rw [List.length_map]; omega) (Ev.pos (by omega) (Ev.pos (by rw [List.length_map]; omega) ?_)))
    rw [rd_tok l i h1, rd_tok m i h2, w64 (by omega) (by omega)]
    refine Ev.pos (by simp only [tokS]; omega) (Ev.pos (by simp only [tokS, B_toList]; exact hs.2) ?_)
    exact ih (i + 1) (by omega)
theorem LexAgain_ev (s : List UInt8) : Ev (fun k => bloomerylaw09_LexAgain.f k (B s)) true := by
  unfold bloomerylaw09_LexAgain.f
  refine Ev.bind alive_ev (Ev.pos rfl ?_)
  rw [B_size]
  by_cases hs : (s.length : Int) > 600
  · exact Ev.pos hs (Ev.now _)
  · refine Ev.neg hs ?_
    cases h : Lx.all (1, 1) s with
    | inl x =>
      have h1 := allF_err _ _ _ _ _ h
      refine Ev.bind (all_inl h (by omega)) (Ev.neg (by simp only; omega) ⟨0, fun k _ => rfl⟩)
    | inr l =>
      obtain ⟨hsp, hag⟩ := Lx.all_again s.length s (Nat.le_refl _) (1, 1) l h
      obtain ⟨m, hm1, hm2⟩ := hag (1, 1)
      have htx := allF_text _ _ _ _ h
      have hll : l.length ≤ (Lx.spaced l).length := by
        clear hsp hag hm1 hm2 htx h
        induction l with
        | nil => simp [Lx.spaced]
        | cons t l ih => simp [Lx.spaced]; omega
      refine Ev.bind (all_inr h (by omega)) (Ev.pos rfl ?_)
      have key : ∀ d i, d + i = l.length → Ev (fun k => bloomerylaw09_LexAgain.l0 k (l.map tokS) (B (Lx.spaced (l.take i))) i) true := by
        intro d
        induction d with
        | zero =>
          intro i hi
          have hi : i = l.length := by omega
          subst hi
          rw [List.take_length]
          refine Ev.step (fun k => by rw [bloomerylaw09_LexAgain.l0]) (Ev.neg (by rw [List.length_map]; omega) (Ev.bind (all_inr hm1 (by omega)) (Ev.pos rfl ?_)))
          have hlen : m.length = l.length := by have := congrArg List.length hm2; simpa using this
          rw [show (((m.map tokS).length : Int) != ((l.map tokS).length : Int)) = false by simp [hlen]]
          refine Ev.step (fun k => by rw [bloomerylaw09_LexAgain.j1]) (Ev.neg (by decide) ?_)
          exact again_l1 l m hm2 (by omega) l.length 0 (by omega)
        | succ d ih =>
          intro i hi
          have h1 : i < l.length := by omega
          have hpre : (Lx.spaced (l.take (i + 1))).length ≤ (Lx.spaced l).length := by
            conv => rhs; rw [← List.take_append_drop (i + 1) l]
            rw [spaced_app, List.length_append]
            omega
          rw [take_snoc' l i h1, spaced_app] at hpre
          have e1 : Lx.spaced [l[i]] = l[i].written ++ [32] := by simp [Lx.spaced]
          rw [e1, List.length_append, List.length_append] at hpre
          refine Ev.step (fun k => by rw [bloomerylaw09_LexAgain.l0]) (Ev.pos (by rw [List.length_map]; omega) (Ev.pos (by omega) ?_))
          rw [rd_tok l i h1, written_f _ (by have := htx l[i] (List.getElem_mem h1); omega)]
          simp only [Option.bind_some, blank_B, B_app, B_size]
          refine Ev.pos (by omega) (Ev.pos (by rw [List.length_append]; omega) ?_)
          have := ih (i + 1) (by omega)
          rw [take_snoc' l i h1, spaced_app, e1, ← List.append_assoc] at this
          rw [w64 (by omega) (by omega)]
          exact this
      exact key l.length 0 (by omega)
end Go.Proofs.YtannlhonjkhchaaGreatDoor.G
namespace Go.Proofs.YtannlhonjkhchaaGreatDoor
open Go.RowKit Go.Gw Go.Proofs.YtannlhonjkhchaaGreatDoorW.PrintWords G
theorem LexAgain_row (a : ByteArray) (w : World) (_ : Tab Tryz.prog w) (E : Errs Tryz.prog w) (_ : a.size ≤ 140737488351232) :
    Calls Tryz.prog 5 #[.string a] w fun e w' => e = .returned (.bool true) ∧ Below w.heap.size w w' := by
  obtain ⟨k, hk⟩ := (LexAgain_ev a.data.toList).rounds
  rw [B_of] at hk
  exact bloomerylaw09_LexAgain.calls k a true w ⟨E⟩ hk
end Go.Proofs.YtannlhonjkhchaaGreatDoor

/- How a value that came in reads as one of a kind, and how great it is. Of no program. -/
namespace Go.Proofs.YtannlhonjkhchaaGreatDoor
open Go.RowKit Go.Gw Go.Proofs.YtannlhonjkhchaaGreatDoorW.PrintWords
set_option linter.unusedVariables false

/-- Whatever reads as data of type t, so deep, is of the kind d; Bd: how great it is. -/
def Opens (P : Program) (n : Nat) (t : TypeId) {α : Type} (d : Kd α) (Bd : α → Prop) : Prop :=
  ∀ {H : Type} (enc : TypeId × Value → H) (w : World) (base : Nat) (spare : Nat → Bool) (held : Bool) (fuel : Nat) (cs : List Value) (y : DataW H × List MemPlace), fuel ≤ n →
    DataW.trod enc P w base spare held fuel t cs = some y → (y.1.weights P t).all (· ≤ reachBytes) = true → ∃ x, d.K w x cs ∧ Bd x

def strBd (s : ByteArray) : Prop := s.size ≤ 140737488351232
def intBd (k : IntKind) (n : Int) : Prop := (Lit.int k n).wf = true
def rowBd {α : Type} (B : Nat) (Bd : α → Prop) (l : List α) : Prop := l.length * B ≤ 140737488351232 ∧ ∀ x ∈ l, Bd x

theorem opens_string {P : Program} {n : Nat} {t : TypeId} (ht : P.underlying t = some .string) : Opens P n t Kd.string strBd := by
  intro H enc w base spare held fuel cs y _ h hw
  obtain ⟨s, rfl, rfl, _⟩ := DataW.trod_string ht h
  refine ⟨s, rfl, ?_⟩
  simp only [DataW.weights, List.all_cons, List.all_nil, Bool.and_true, reachBytes, data_length] at hw
  show s.size ≤ 140737488351232
  exact of_decide_eq_true hw
theorem opens_int {P : Program} {n : Nat} {t : TypeId} {k : IntKind} (ht : P.underlying t = some (.int k)) : Opens P n t (Kd.int k) (intBd k) := by
  intro H enc w base spare held fuel cs y _ h hw
  obtain ⟨m, rfl, rfl, hwf⟩ := DataW.trod_int ht h
  exact ⟨m, rfl, hwf⟩
theorem weightsAll_mem {H : Type} {P : Program} {e : TypeId} : ∀ (l : List (DataW H)) (d : DataW H), d ∈ l → ∀ q ∈ d.weights P e, q ∈ DataW.weightsAll P e l := by
  intro l
  induction l with
  | nil => intro d h; cases h
  | cons x l ih =>
    intro d h q hq
    rw [DataW.weightsAll, List.mem_append]
    rcases List.mem_cons.1 h with rfl | h
    · exact .inl hq
    · exact .inr (ih d h q hq)
theorem list_of {α : Type} {Q : Nat → α → Prop} : ∀ n, (∀ i, i < n → ∃ x, Q i x) → ∃ l : List α, l.length = n ∧ ∀ i x, l[i]? = some x → Q i x := by
  intro n
  induction n with
  | zero => intro _; exact ⟨[], rfl, fun i x h => by simp at h⟩
  | succ n ih =>
    intro h
    obtain ⟨l, hl, hq⟩ := ih (fun i hi => h i (by omega))
    obtain ⟨x, hx⟩ := h n (by omega)
    refine ⟨l ++ [x], by simp [hl], fun i y hy => ?_⟩
    rw [List.getElem?_append] at hy
    split at hy
    · exact hq i y hy
    · rename_i hi
      have : i = n := by
        rcases Nat.lt_or_ge (i - l.length) 1 with h1 | h1
        · omega
        · rw [List.getElem?_eq_none (by simpa using h1)] at hy; cases hy
      subst this
      simp [hl] at hy
      rw [← hy]
      exact hx
theorem opens_slice {P : Program} {n : Nat} {t e : TypeId} {α : Type} {d : Kd α} {Bd : α → Prop} {B : Nat} (ht : P.underlying t = some (.slice e)) (hc : P.cellsOf e = d.sz) (hB : P.bytesOf e = B) (hE : Opens P n e d Bd) :
    Opens P (n + 1) t (Kd.slice e d) (rowBd B Bd) := by
  intro H enc w base spare held fuel cs y hf h hw
  rcases DataW.trod_slice ht h with ⟨rfl, rfl⟩ | ⟨a, len, cap, elems, rest, m, rfl, rfl, rfl, hb, hl, hm, hlen, hel, _, _⟩
  · exact ⟨[], ⟨none, 0, rfl, Nat.le_refl _, ⟨rfl, Nat.zero_le _, fun h => absurd h (Nat.lt_irrefl 0)⟩⟩, ⟨by simp, by simp⟩⟩
  · have hw' : ((elems.length + rest.length) * B ≤ 140737488351232) ∧ ∀ q ∈ elems.map (·.1), ∀ z ∈ q.weights P e, z ≤ reachBytes := by
      simp only [DataW.weights, ht, List.all_cons, Bool.and_eq_true, decide_eq_true_eq, List.all_append, List.length_map, hB] at hw
      refine ⟨by simpa [reachBytes] using hw.1, fun q hq z hz => ?_⟩
      have := List.all_eq_true.1 hw.2.1 z (weightsAll_mem _ q hq z hz)
      simpa using this
    have each : ∀ i, i < len → ∃ x c, c.length = d.sz ∧ d.K w x c ∧ Bd x ∧ ∀ j u, c[j]? = some u → w.cell? (a.add (i * d.sz + j)) = some u := by
      intro i hi
      have h1 := hel i hi
      rw [List.getElem?_eq_getElem (by omega : i < elems.length), Option.bind_eq_some_iff] at h1
      obtain ⟨c, hcs, ht2⟩ := h1
      obtain ⟨x, hK, hBd⟩ := hE enc w base spare held m c elems[i] (by omega) ht2 (List.all_eq_true.2 fun z hz => by
        have := hw'.2 elems[i].1 (List.mem_map.2 ⟨_, List.getElem_mem (by omega : i < elems.length), rfl⟩) z hz
        simpa using this)
      refine ⟨x, c, d.K_len hK, hK, hBd, fun j u hu => ?_⟩
      rw [hc] at hcs
      have hj : j < d.sz := by
        have := (List.getElem?_eq_some_iff.1 hu).1
        rw [d.K_len hK] at this
        exact this
      have := (World.cells?_some hcs).2.2 j hj
      rw [hu, Addr.add_add] at this
      exact this
    obtain ⟨l, hll, hq⟩ := list_of len each
    refine ⟨l, ⟨some a, cap, by rw [hll], by omega, rfl, by rw [hll]; unfold maxLen at hm; omega, fun _ => ⟨a, rfl, fun j p hj => ?_⟩⟩, ?_, ?_⟩
    · obtain ⟨c, h1, h2, _, h4⟩ := hq j p hj
      exact ⟨c, h1, h2, h4⟩
    · rw [hll, ← hlen]
      exact Nat.le_trans (Nat.mul_le_mul_right _ (Nat.le_add_right _ _)) hw'.1
    · intro x hx
      obtain ⟨i, hi⟩ := List.getElem?_of_mem hx
      obtain ⟨_, _, _, h3, _⟩ := hq i x hi
      exact h3
/-- A slice's reading, as a walk takes it. -/
theorem C_of_slice {α : Type} {e : Nat} {d : Kd α} {w : World} {l : List α} {v : Value} (h : (Kd.slice e d).K w l [v]) : ∃ A c, v = .slice A l.length c ∧ l.length ≤ c ∧ d.C w A l.length l := by
  obtain ⟨A, c, e, h1, h2⟩ := h
  simp only [List.cons.injEq, and_true] at e
  exact ⟨A, c, e, h1, h2⟩
end Go.Proofs.YtannlhonjkhchaaGreatDoor
