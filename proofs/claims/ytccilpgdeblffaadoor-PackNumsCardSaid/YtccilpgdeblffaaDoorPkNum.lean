/- Layer 1 (pack), in plain Lean: a number's text, and the number of a text. No program. -/
import Derived.Lib.ItoaMem
import Derived.Lib.ParseIntB
namespace Go.Pk
open Go.Lib

def inRange (n : Int) : Prop := -9223372036854775808 ≤ n ∧ n ≤ 9223372036854775807
/-- The number of a text. -/
def int (s : List UInt8) : Option Int := match parseIntB 64 s with
  | .ok v => if itoa v = s then some v else none
  | _ => none
/-- What digits spell, behind a number. -/
def spellN (n : Nat) (l : List UInt8) : Nat := l.foldl (fun a c => 10 * a + (c.toNat - 48)) n
theorem spellN_append (n : Nat) (a b : List UInt8) : spellN n (a ++ b) = spellN (spellN n a) b := by simp [spellN]
theorem spellN_dec (u : Nat) : spellN 0 (decDigits u) = u := by
  induction u using Nat.strongRecOn with
  | _ u ih =>
    rw [decDigits]
    split
    · simp only [spellN, List.foldl_cons, List.foldl_nil]
      rw [UInt8.toNat_ofNat']
      omega
    · rw [spellN_append, ih (u / 10) (by omega)]
      simp only [spellN, List.foldl_cons, List.foldl_nil]
      rw [UInt8.toNat_ofNat']
      omega
theorem decDigits_digits (u : Nat) : ∀ c ∈ decDigits u, 48 ≤ c.toNat ∧ c.toNat ≤ 57 := by
  induction u using Nat.strongRecOn with
  | _ u ih =>
    intro c hc
    rw [decDigits] at hc
    split at hc
    · simp only [List.mem_singleton] at hc
      subst hc
      rw [UInt8.toNat_ofNat']
      omega
    · rcases List.mem_append.1 hc with hc | hc
      · exact ih (u / 10) (by omega) c hc
      · simp only [List.mem_singleton] at hc
        subst hc
        rw [UInt8.toNat_ofNat']
        omega
theorem spellN_ge (l : List UInt8) : ∀ n, n ≤ spellN n l := by
  induction l with
  | nil => intro n; exact Nat.le_refl _
  | cons c l ih =>
    intro n
    have := ih (10 * n + (c.toNat - 48))
    show n ≤ spellN (10 * n + (c.toNat - 48)) l
    omega
theorem parseUintM_spell (M : Nat) (hM : M ≤ 18446744073709551615) : ∀ (l : List UInt8) (acc : Nat), (∀ c ∈ l, 48 ≤ c.toNat ∧ c.toNat ≤ 57) → spellN acc l ≤ M → parseUintM M acc l = .ok (spellN acc l) := by
  intro l
  induction l with
  | nil => intro acc _ _; rfl
  | cons c l ih =>
    intro acc hd h
    have hc := hd c (by simp)
    have h1 : spellN (10 * acc + (c.toNat - 48)) l ≤ M := h
    have h2 := spellN_ge l (10 * acc + (c.toNat - 48))
    rw [parseUintM, if_pos hc, if_neg (by omega), if_neg (by omega)]
    rw [show acc * 10 + (c.toNat - 48) = 10 * acc + (c.toNat - 48) by omega]
    exact ih _ (fun x hx => hd x (by simp [hx])) h1
theorem decDigits_ne' (u : Nat) : decDigits u ≠ [] := by
  intro h
  have := decDigits_length u
  rw [h] at this
  have := nDigits_pos u
  simp at *
  omega
theorem parseUintB_dec (u : Nat) (hu : u ≤ 18446744073709551615) : parseUintB 64 (decDigits u) = .ok u := by
  unfold parseUintB
  rw [if_neg (decDigits_ne' u), parseUintM_spell _ (by decide) _ _ (decDigits_digits u) (by rw [spellN_dec]; exact Nat.le_trans hu (by decide)), spellN_dec]
theorem parse_itoa (n : Int) (h : inRange n) : parseIntB 64 (itoa n) = .ok n := by
  unfold inRange at h
  unfold itoa
  by_cases h0 : n < 0
  · rw [if_pos h0]
    simp only [parseIntB]
    rw [if_pos (by decide), parseUintB_dec n.natAbs (by omega)]
    simp only
    rw [if_neg (by simp), if_neg (by have : n.natAbs ≤ 9223372036854775808 := by omega
                                     simp only [Nat.reduceSub, Nat.reducePow]; intro h; omega), if_pos (by decide)]
    congr 1
    omega
  · rw [if_neg h0]
    cases hd : decDigits n.toNat with
    | nil => exact absurd hd (decDigits_ne' _)
    | cons c r =>
      have hc := decDigits_digits n.toNat c (by rw [hd]; simp)
      simp only [parseIntB]
      rw [if_neg (by omega), ← hd, parseUintB_dec n.toNat (by omega)]
      simp only
      rw [if_neg (by simp only [Nat.reduceSub, Nat.reducePow]; omega), if_neg (by omega), if_neg (by omega)]
      congr 1
      omega
theorem parseIntB_range {s : List UInt8} {v : Int} (h : parseIntB 64 s = .ok v) : inRange v := by
  unfold inRange
  cases s with
  | nil => simp [parseIntB] at h
  | cons c r =>
    simp only [parseIntB] at h
    split at h
    · cases h
    · cases h
    · rename_i u hu
      split at h
      · cases h
      · rename_i h1
        split at h
        · cases h
        · rename_i h2
          simp only [Nat.reduceSub, Nat.reducePow] at h1 h2
          injection h with h
          split at h
          · omega
          · omega
theorem int_itoa (n : Int) (h : inRange n) : int (itoa n) = some n := by
  unfold int
  rw [parse_itoa n h]
  simp
theorem int_some {s : List UInt8} {n : Int} : int s = some n ↔ inRange n ∧ itoa n = s := by
  constructor
  · intro h
    unfold int at h
    split at h
    · rename_i v hv
      split at h
      · rename_i e
        cases h
        exact ⟨parseIntB_range hv, e⟩
      · cases h
    · cases h
  · rintro ⟨h, rfl⟩
    exact int_itoa n h
theorem int_none {s : List UInt8} : int s = none ↔ ∀ n, inRange n → itoa n ≠ s := by
  constructor
  · intro h n hn e
    rw [int_some.2 ⟨hn, e⟩] at h
    cases h
  · intro h
    cases hi : int s with
    | none => rfl
    | some n =>
      obtain ⟨h1, h2⟩ := int_some.1 hi
      exact absurd h2 (h n h1)

/-! ### The other way to reckon it -/
theorem itoa_step (n : Int) (h : 10 ≤ n ∨ n ≤ -10) : itoa n = itoa (n.tdiv 10) ++ itoa (if n.tmod 10 < 0 then -(n.tmod 10) else n.tmod 10) := by
  rcases h with h | h
  · obtain ⟨u, rfl⟩ : ∃ u : Nat, n = u := ⟨n.toNat, by omega⟩
    have e1 : (u : Int).tdiv 10 = ((u / 10 : Nat) : Int) := by rw [Int.tdiv_eq_ediv_of_nonneg (by omega)]; omega
    have e2 : (u : Int).tmod 10 = ((u % 10 : Nat) : Int) := by rw [Int.tmod_eq_emod_of_nonneg (by omega)]; omega
    rw [e1, e2, if_neg (by omega), itoa_nonneg, itoa_nonneg, itoa_nonneg]
    rw [decDigits, dif_neg (by omega), decDigits_one (show u % 10 < 10 by omega)]
  · obtain ⟨u, rfl⟩ : ∃ u : Nat, n = -(u : Int) := ⟨n.natAbs, by omega⟩
    have e1 : (-(u : Int)).tdiv 10 = -((u / 10 : Nat) : Int) := by rw [Int.neg_tdiv, Int.tdiv_eq_ediv_of_nonneg (by omega)]; omega
    have e2 : (-(u : Int)).tmod 10 = -((u % 10 : Nat) : Int) := by rw [Int.neg_tmod, Int.tmod_eq_emod_of_nonneg (by omega)]; omega
    have e3 : (if -((u % 10 : Nat) : Int) < 0 then - -((u % 10 : Nat) : Int) else -((u % 10 : Nat) : Int)) = ((u % 10 : Nat) : Int) := by split <;> omega
    rw [e1, e2, e3, itoa_nonneg, itoa_neg u (by omega), itoa_neg (u / 10) (by omega)]
    rw [decDigits, dif_neg (by omega), decDigits_one (show u % 10 < 10 by omega)]
    rfl
end Go.Pk
