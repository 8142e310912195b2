/- Layer 1's numbers (pack.Num, pack.Int) and the reference's: what calls of them do. Conditions: the library's table of powers of ten, its two errors of numbers, as they were laid; the text at most a million bytes. -/
import Derived.Test.YtccilpgdeblffaaDoorPkLaws
import Derived.Test.YtccilpgdeblffaaDoorShelfB
import Derived.Test.YtccilpgdeblffaaDoorPkNum
import Derived.Test.YtccilpgdeblffaaDoorPkRef
import Derived.Lib.ItoaLen
import Derived.Shelf.Strconv.ErrVarParseInt
namespace Go.Proofs.YtccilpgdeblffaaDoor
open Go.RowKit Go.Gw Go.Proofs.YtccilpgdeblffaaDoorW.PrintWords
set_option linter.unusedVariables false
set_option linter.unusedSimpArgs false

def numS (n : Int) : ByteArray := ⟨(Lib.itoa n).toArray⟩
theorem Num_calls (n : Int) (hn : Pk.inRange n) (w : World) (G : Tab Tryd.prog w) :
    Calls Tryd.prog 17 #[.int .i64 n] w fun e w' => e = .returned (.string (numS n)) ∧ Below w.heap.size w w' := by
  have hf : Calls Tryd.prog 27 #[.int .i64 n, .int .i64 10] w fun e w' => e = .returned (.string (numS n)) ∧ Below w.heap.size w w' := by
    refine (Tryd.strconv_FormatInt_10 n hn.1 hn.2 w G.tab).mono ?_
    rintro e w' ⟨rfl, k, os, rfl⟩
    exact ⟨rfl, below_grow (below_drewN' (Below.refl _ _) _) (Nat.le_refl _) _⟩
  go_enter Tryd.func17, Tryd.ntmps17
  go_wp2_with fail
  refine hf.mono ?_
  rintro e w1 ⟨rfl, hb1⟩
  have HB := Lib.hid hb1; clear hb1
  go_wp2
  go_ret
  exact ⟨rfl, HB.out⟩

/-- The library's two errors of numbers are there. -/
structure Errs (P : Program) (w : World) : Prop where
  syn : ∃ tp p, w.var? P "strconv.ErrSyntax" = some #[.iface tp p]
  rng : ∃ tp p, w.var? P "strconv.ErrRange" = some #[.iface tp p]
theorem Errs.below {P : Program} {w w' : World} (h : Errs P w) (hb : Below w.heap.size w w') : Errs P w' :=
  ⟨by obtain ⟨tp, p, h⟩ := h.syn; exact ⟨tp, p, var_below h hb⟩, by obtain ⟨tp, p, h⟩ := h.rng; exact ⟨tp, p, var_below h hb⟩⟩

theorem ParseInt_calls (s : ByteArray) (hs : s.size ≤ 1000000) (w : World) (E : Errs Tryd.prog w) :
    Calls Tryd.prog 26 #[.string s, .int .i64 10, .int .i64 64] w fun e w' => Below w.heap.size w w' ∧
      ((∃ v, Lib.parseIntB 64 s.data.toList = .ok v ∧ e = .returned (.tuple #[.int .i64 v, .nilIface])) ∨
       ((∀ v, Lib.parseIntB 64 s.data.toList ≠ .ok v) ∧ ∃ n t p, e = .returned (.tuple #[.int .i64 n, .iface t (.pointer (some p))]))) := by
  cases h : Lib.parseIntB 64 s.data.toList with
  | ok v =>
    refine (Tryd.strconv_ParseInt_10_at64_ok s (by omega) v h w).mono ?_
    rintro e w' ⟨rfl, hw⟩
    refine ⟨?_, .inl ⟨v, rfl, rfl⟩⟩
    rcases hw with rfl | ⟨t, rfl⟩
    · exact Below.refl _ _
    · exact bytes_below (Below.refl _ _) (Nat.le_refl _) _ _
  | range =>
    obtain ⟨tp, p, hv⟩ := E.rng
    refine (Any.strconv_ParseInt_10_at64_range_var Tryd.laysC174 s (by omega) h tp p w hv).mono ?_
    rintro e w' ⟨N, rfl, _, _, hb⟩
    exact ⟨hb, .inr ⟨(fun v hv => by cases hv), _, _, _, rfl⟩⟩
  | _ =>
    obtain ⟨tp, p, hv⟩ := E.syn
    refine (Any.strconv_ParseInt_10_at64_syntax_var Tryd.laysC174 s (by omega) h tp p w hv).mono ?_
    rintro e w' ⟨N, rfl, _, _, hb⟩
    exact ⟨hb, .inr ⟨(fun v hv => by cases hv), _, _, _, rfl⟩⟩

def intOr (x : Option Int) : Value := .tuple #[.int .i64 (x.getD 0), .bool x.isSome]
set_option maxHeartbeats 1000000 in
set_option maxRecDepth 100000 in
theorem Int_calls (s : ByteArray) (hs : s.size ≤ 1000000) (w : World) (G : Tab Tryd.prog w) (E : Errs Tryd.prog w) :
    Calls Tryd.prog 15 #[.string s] w fun e w' => e = .returned (intOr (Pk.int s.data.toList)) ∧ Below w.heap.size w w' := by
  have HG := Lib.hid G; clear G
  have HE := Lib.hid E; clear E
  go_enter Tryd.func15, Tryd.ntmps15
  go_wp2_with fail
  refine (ParseInt_calls s hs w HE.out).mono ?_
  rintro e w1 ⟨hb1, ⟨v, hv, rfl⟩ | ⟨hn, n, t, p, rfl⟩⟩
  · have HB := Lib.hid hb1; clear hb1
    have HV := Lib.hid hv; clear hv
    go_wp2_with fail
    refine (Num_calls v (Pk.parseIntB_range HV.out) w1 (HG.out.below HB.out)).mono ?_
    rintro e w2 ⟨rfl, hb2⟩
    have HB2 := Lib.hid (HB.out.trans (hb2.mono HB.out.size)); clear hb2
    by_cases hq : numS v = s
    · have hq1 : ((numS v).toList != s.toList) = false := by simp [hq]
      have hq2 : ((numS v).toList == s.toList) = true := by simp [hq]
      have HQ := Lib.hid hq; clear hq
      go_wp2
      go_ret2
      refine ⟨?_, HB2.out⟩
      have e2 : Pk.int s.data.toList = some v := Pk.int_some.2 ⟨Pk.parseIntB_range HV.out, by rw [← HQ.out]; rfl⟩
      rw [e2]
      rfl
    · have hq1 : ((numS v).toList != s.toList) = true := by
        rw [bne_iff_ne, Lib.toList_data, Lib.toList_data]
        exact fun h => hq (str_ext h)
      have hq2 : ((numS v).toList == s.toList) = false := by simpa [bne] using hq1
      have HQ := Lib.hid hq; clear hq
      go_wp2
      go_ret2
      refine ⟨?_, HB2.out⟩
      have e2 : Pk.int s.data.toList = none := by
        unfold Pk.int
        rw [HV.out]
        exact if_neg (fun h => HQ.out (str_ext h))
      rw [e2]
      rfl
  · have HB := Lib.hid hb1; clear hb1
    have HN := Lib.hid hn; clear hn
    go_wp2
    go_ret2
    refine ⟨?_, HB.out⟩
    have e2 : Pk.int s.data.toList = none := by
      unfold Pk.int
      split
      · rename_i v hv; exact absurd hv (HN.out v)
      · rfl
    rw [e2]
    rfl

/-! ### The reference -/
theorem numS_nonneg (n : Nat) : numS n = mkS (Lib.decDigits n) := by show (⟨_⟩ : ByteArray) = ⟨_⟩; rw [Lib.itoa_nonneg]
theorem numS_size {n : Int} (h : Pk.inRange n) : (numS n).size ≤ 21 := Lib.itoa_length_le n h.1 h.2
set_option maxHeartbeats 1000000 in
set_option maxRecDepth 100000 in
theorem RNum_one (n : Nat) (h : n < 10) (w : World) :
    Calls Tryd.prog 18 #[.int .i64 n] w fun e w' => e = .returned (.string (numS n)) ∧ Below w.heap.size w w' := by
  have hcv := one_byte (48 + (n : Int)) w
  have HD := Lib.hid (strOf_dec n h)
  go_enter Tryd.func18, Tryd.ntmps18
  go_wp2
  go_ret
  exact ⟨ret_str (by rw [numS_nonneg]; exact HD.out), (Below.refl _ _).alloc (Nat.le_refl _) _⟩
set_option maxHeartbeats 1000000 in
set_option maxRecDepth 100000 in
theorem RNum_calls (m : Nat) : ∀ n : Int, n.natAbs = m → Pk.inRange n → ∀ w : World,
    Calls Tryd.prog 18 #[.int .i64 n] w fun e w' => e = .returned (.string (numS n)) ∧ Below w.heap.size w w' := by
  induction m using Nat.strongRecOn with
  | _ m ih =>
    intro n hm hr w
    by_cases h : 0 ≤ n ∧ n < 10
    · obtain ⟨u, rfl⟩ : ∃ u : Nat, n = u := ⟨n.toNat, by omega⟩
      exact RNum_one u (by omega) w
    by_cases h2 : -10 < n ∧ n < 0
    · obtain ⟨u, rfl, hu⟩ : ∃ u : Nat, n = -(u : Int) ∧ 1 ≤ u := ⟨n.natAbs, by omega, by omega⟩
      have hz := numS_size (n := (u : Int)) ⟨by omega, by omega⟩
      have HQ : Hid (numS (-(u : Int)) = mkS [45] ++ numS u) := by
        unfold Hid
        rw [numS_nonneg, mkS_append]
        show (⟨_⟩ : ByteArray) = ⟨_⟩
        rw [Lib.itoa_neg u hu]
        rfl
      go_enter Tryd.func18, Tryd.ntmps18
      go_wp2_with fail
      refine (RNum_one u (by omega) w).mono ?_
      rintro e w1 ⟨rfl, hb1⟩
      have HB1 := Lib.hid hb1; clear hb1
      go_wp2
      go_ret
      exact ⟨ret_str (by rw [HQ.out]; rfl), HB1.out⟩
    · have h3 : 10 ≤ n ∨ n ≤ -10 := by omega
      have HQ : Hid (numS n = numS (n.tdiv 10) ++ numS (if n.tmod 10 < 0 then -(n.tmod 10) else n.tmod 10)) := by
        unfold Hid
        have e := Pk.itoa_step n h3
        apply str_ext
        rw [ByteArray.data_append, Array.toList_append]
        exact e
      obtain ⟨r1, r2⟩ := hr
      rcases h3 with h3 | h3
      · obtain ⟨u, rfl⟩ : ∃ u : Nat, n = u := ⟨n.toNat, by omega⟩
        rw [show (u : Int).tdiv 10 = ((u / 10 : Nat) : Int) by rw [Int.tdiv_eq_ediv_of_nonneg (by omega)]; omega, show (u : Int).tmod 10 = ((u % 10 : Nat) : Int) by rw [Int.tmod_eq_emod_of_nonneg (by omega)]; omega, if_neg (by omega)] at HQ
        obtain ⟨v, hv⟩ : ∃ v, v = u / 10 := ⟨_, rfl⟩
        obtain ⟨z, hz⟩ : ∃ z, z = u % 10 := ⟨_, rfl⟩
        rw [← hv, ← hz] at HQ
        have IH := Lib.hid (ih v (by omega) (v : Int) (by omega) ⟨by omega, by omega⟩); clear ih
        have hz1 := numS_size (n := (v : Int)) ⟨by omega, by omega⟩
        have hz2 := numS_size (n := (z : Int)) ⟨by omega, by omega⟩
        have e1 : (u : Int) / 10 = (v : Int) := by omega
        have e2 : (u : Int) % 10 = (z : Int) := by omega
        have E1 := Lib.hid e1; have E2 := Lib.hid e2; clear e1 e2
        have hlt : z < 10 := by omega
        clear hv hz
        go_enter Tryd.func18, Tryd.ntmps18
        go_wp2_with fail
        rw [E1.out]
        refine (IH.out _).mono ?_
        rintro e w1 ⟨rfl, hb1⟩
        have HB1 := Lib.hid hb1; clear hb1
        go_wp2_with fail
        rw [E2.out]
        refine (RNum_one z hlt _).mono ?_
        rintro e w2 ⟨rfl, hb2⟩
        have HB2 := Lib.hid (HB1.out.trans (hb2.mono HB1.out.size)); clear hb2
        go_wp2
        go_ret
        exact ⟨ret_str HQ.out.symm, HB2.out⟩
      · obtain ⟨u, rfl, hu⟩ : ∃ u : Nat, n = -(u : Int) ∧ 10 ≤ u := ⟨n.natAbs, by omega, by omega⟩
        have e1 : (-(u : Int)).tdiv 10 = -((u / 10 : Nat) : Int) := by rw [Int.neg_tdiv, Int.tdiv_eq_ediv_of_nonneg (by omega)]; omega
        have e2 : (-(u : Int)).tmod 10 = -((u % 10 : Nat) : Int) := by rw [Int.neg_tmod, Int.tmod_eq_emod_of_nonneg (by omega)]; omega
        rw [e1, e2, show (if -((u % 10 : Nat) : Int) < 0 then - -((u % 10 : Nat) : Int) else -((u % 10 : Nat) : Int)) = ((u % 10 : Nat) : Int) by split <;> omega] at HQ
        clear e1 e2
        obtain ⟨v, hv⟩ : ∃ v, v = u / 10 := ⟨_, rfl⟩
        obtain ⟨z, hz⟩ : ∃ z, z = u % 10 := ⟨_, rfl⟩
        rw [← hv, ← hz] at HQ
        have IH := Lib.hid (ih v (by omega) (-(v : Int)) (by omega) ⟨by omega, by omega⟩); clear ih
        have hz1 := numS_size (n := -(v : Int)) ⟨by omega, by omega⟩
        have hz2 := numS_size (n := (z : Int)) ⟨by omega, by omega⟩
        have e1 : -((u : Int) / 10) = -(v : Int) := by omega
        have e2 : (u : Int) % 10 = (z : Int) := by omega
        have E1 := Lib.hid e1; have E2 := Lib.hid e2; clear e1 e2
        have hlt : z < 10 := by omega
        clear hv hz
        by_cases h0 : z = 0
        · subst h0
          have hz3 : (numS 0).size ≤ 21 := hz2
          have e3 : ((u : Int) % 10 ≤ 0) := by have := E2.out; omega
          have e4 : (-((u : Int) % 10)) = ((0 : Nat) : Int) := by have := E2.out; omega
          have E4 := Lib.hid e4; clear e4
          go_enter Tryd.func18, Tryd.ntmps18
          go_wp2_with fail
          rw [E1.out]
          refine (IH.out _).mono ?_
          rintro e w1 ⟨rfl, hb1⟩
          have HB1 := Lib.hid hb1; clear hb1
          go_wp2_with fail
          rw [E4.out]
          refine (RNum_one 0 hlt _).mono ?_
          rintro e w2 ⟨rfl, hb2⟩
          have HB2 := Lib.hid (HB1.out.trans (hb2.mono HB1.out.size)); clear hb2
          go_wp2
          go_ret
          exact ⟨ret_str HQ.out.symm, HB2.out⟩
        · have e3 : (0 < (u : Int) % 10) := by have := E2.out; omega
          go_enter Tryd.func18, Tryd.ntmps18
          go_wp2_with fail
          rw [E1.out]
          refine (IH.out _).mono ?_
          rintro e w1 ⟨rfl, hb1⟩
          have HB1 := Lib.hid hb1; clear hb1
          go_wp2_with fail
          rw [E2.out]
          refine (RNum_one z hlt _).mono ?_
          rintro e w2 ⟨rfl, hb2⟩
          have HB2 := Lib.hid (HB1.out.trans (hb2.mono HB1.out.size)); clear hb2
          go_wp2
          go_ret
          exact ⟨ret_str HQ.out.symm, HB2.out⟩

/-! ### The reference's Int -/
theorem itoa_shape {n : Int} {s : List UInt8} (e : Lib.itoa n = s) : (0 ≤ n ∧ s = Lib.decDigits n.toNat) ∨ (n < 0 ∧ s = 45 :: Lib.decDigits n.natAbs) := by
  subst e
  by_cases h : n < 0
  · refine .inr ⟨h, ?_⟩
    obtain ⟨u, rfl, hu⟩ : ∃ u : Nat, n = -(u : Int) ∧ 1 ≤ u := ⟨n.natAbs, by omega, by omega⟩
    rw [Lib.itoa_neg u hu, show (-(u : Int)).natAbs = u by omega]
  · refine .inl ⟨by omega, ?_⟩
    obtain ⟨u, rfl⟩ : ∃ u : Nat, n = u := ⟨n.toNat, by omega⟩
    rw [Lib.itoa_nonneg, show (u : Int).toNat = u by omega]
theorem nDigits_pow : ∀ (k u : Nat), u < 10 ^ k → 1 ≤ k → Lib.nDigits u ≤ k := by
  intro k
  induction k with
  | zero => intro u _ h; omega
  | succ k ih =>
    intro u hu _
    by_cases h : u < 10
    · rw [Lib.nDigits_small h]; omega
    · rw [Lib.nDigits_big h]
      rw [Nat.pow_succ] at hu
      rcases Nat.eq_zero_or_pos k with h0 | h0
      · subst h0; simp at hu; omega
      · have := ih (u / 10) (by omega) h0
        omega
theorem dec_len19 (u : Nat) (h : u ≤ 9223372036854775808) : (Lib.decDigits u).length ≤ 19 ∧ 1 ≤ (Lib.decDigits u).length := by
  refine ⟨?_, List.length_pos_iff.2 (Pk.decDigits_ne' u)⟩
  rw [Lib.decDigits_length]
  exact nDigits_pow 19 u (by omega) (by omega)
/-- What lies behind the sign, and the sign. -/
def sgn (mi : Bool) (x : Int) : Int := if mi then -x else x
def signed (mi : Bool) (r : List UInt8) : List UInt8 := if mi then 45 :: r else r
/-- A text that spells a number of the range: its sign, its digits. -/
theorem int_signed {mi : Bool} {r : List UInt8} (hr : mi = false → ∀ t, r ≠ 45 :: t) {n : Int} (h : Pk.int (signed mi r) = some n) :
    Pk.inRange n ∧ ∃ u : Nat, n = sgn mi u ∧ r = Lib.decDigits u ∧ u ≤ 9223372036854775808 := by
  obtain ⟨h1, h2⟩ := Pk.int_some.1 h
  refine ⟨h1, ?_⟩
  obtain ⟨a, b⟩ := h1
  cases mi with
  | true =>
    rcases itoa_shape h2 with ⟨h3, h4⟩ | ⟨h3, h4⟩
    · exfalso
      have hd := Pk.decDigits_digits n.toNat 45 (by rw [← h4]; simp [signed])
      simp at hd
    · simp only [signed, if_true, List.cons.injEq, true_and] at h4
      exact ⟨n.natAbs, by simp only [sgn, if_true]; omega, h4, by omega⟩
  | false =>
    simp only [signed, Bool.false_eq_true, if_false] at h2
    rcases itoa_shape h2 with ⟨h3, h4⟩ | ⟨h3, h4⟩
    · exact ⟨n.toNat, by simp only [sgn, Bool.false_eq_true, if_false]; omega, h4, by omega⟩
    · exact absurd h4 (hr rfl _)
theorem int_short {mi : Bool} {r : List UInt8} (hr : mi = false → ∀ t, r ≠ 45 :: t) (h : r.length = 0 ∨ 19 < r.length) : Pk.int (signed mi r) = none := by
  cases hi : Pk.int (signed mi r) with
  | none => rfl
  | some n =>
    obtain ⟨_, u, _, rfl, hu⟩ := int_signed hr hi
    have := dec_len19 u hu
    omega
theorem int_nodigit {mi : Bool} {r : List UInt8} (hr : mi = false → ∀ t, r ≠ 45 :: t) {c : UInt8} (hc : c ∈ r) (h : ¬ (48 ≤ c.toNat ∧ c.toNat ≤ 57)) : Pk.int (signed mi r) = none := by
  cases hi : Pk.int (signed mi r) with
  | none => rfl
  | some n =>
    obtain ⟨_, u, _, rfl, hu⟩ := int_signed hr hi
    exact absurd (Pk.decDigits_digits u c hc) h
theorem byte0 {s : ByteArray} {c : UInt8} {t : List UInt8} (h : s.data.toList = c :: t) : ∃ h : 0 < s.size, s[0] = c := by
  have hz : s.size = t.length + 1 := by rw [← data_length, h]; rfl
  refine ⟨by omega, ?_⟩
  have hd : 0 < s.data.size := by have : s.data.size = s.size := rfl; omega
  show s.data[0] = c
  rw [← Array.getElem_toList]
  simp only [h, List.getElem_cons_zero]
theorem byte0_ne {s : ByteArray} (h0 : 0 < s.size) (h : ∀ t, s.data.toList ≠ 45 :: t) : (((s[0]'h0).toNat : Int) == 45) = false := by
  cases hl : s.data.toList with
  | nil =>
    have : s.data.toList.length = 0 := by rw [hl]; rfl
    rw [data_length] at this
    omega
  | cons c t =>
    obtain ⟨_, hc⟩ := byte0 hl
    rw [hc, beq_eq_false_iff_ne]
    intro e
    apply h t
    rw [hl]
    congr 1
    apply UInt8.toNat_inj.1
    have : (45 : UInt8).toNat = 45 := rfl
    omega
theorem wrap64_range (x : Int) : Pk.inRange (wrap64 x) := by
  unfold Pk.inRange wrap64
  omega
theorem wrap64_id {x : Int} (h : Pk.inRange x) : wrap64 x = x := by
  obtain ⟨h1, h2⟩ := h
  unfold wrap64
  omega
theorem int_end {mi : Bool} {r : List UInt8} (hr : mi = false → ∀ t, r ≠ 45 :: t) {s : ByteArray} (hs : s.data.toList = signed mi r) (h : numS (wrap64 (sgn mi (Pk.spellN 0 r))) ≠ s) : Pk.int s.data.toList = none := by
  rw [hs]
  cases hi : Pk.int (signed mi r) with
  | none => rfl
  | some n =>
    obtain ⟨h1, u, h2, rfl, hu⟩ := int_signed hr hi
    rw [Pk.spellN_dec, ← h2, wrap64_id h1] at h
    exfalso
    apply h
    apply str_ext
    rw [hs]
    exact (Pk.int_some.1 hi).2
theorem int_done {s : ByteArray} {x : Int} (h : numS (wrap64 x) = s) : Pk.int s.data.toList = some (wrap64 x) :=
  Pk.int_some.2 ⟨wrap64_range x, by rw [← h]; rfl⟩
theorem wrap_step_pos (x : Int) (c : Nat) (h1 : 48 ≤ c) (h2 : c ≤ 57) : wrap64 (wrap64 (wrap64 x * 10) + wrap64 (wrap64 c - 48)) = wrap64 (10 * x + ((c : Int) - 48)) := by
  simp only [wrap64]
  omega
theorem wrap_step_neg (x : Int) (c : Nat) (h1 : 48 ≤ c) (h2 : c ≤ 57) : wrap64 (wrap64 (wrap64 x * 10) - wrap64 (wrap64 c - 48)) = wrap64 (10 * x - ((c : Int) - 48)) := by
  simp only [wrap64]
  omega
set_option maxHeartbeats 1000000 in
set_option maxRecDepth 100000 in
theorem digit_calls (c : UInt8) (w : World) :
    Calls Tryd.prog 25 #[.int .u8 c.toNat] w fun e w' => e = .returned (.bool (decide (48 ≤ c.toNat ∧ c.toNat ≤ 57))) ∧ w' = w := by
  by_cases h1 : 48 ≤ c.toNat
  · by_cases h2 : c.toNat ≤ 57
    · rw [decide_eq_true ⟨h1, h2⟩]
      go_enter Tryd.func25, Tryd.ntmps25
      go_wp2
      go_ret
      exact ⟨ret_bool (by simp; omega), rfl⟩
    · rw [decide_eq_false (by omega)]
      go_enter Tryd.func25, Tryd.ntmps25
      go_wp2
      go_ret
      exact ⟨ret_bool (by simp; omega), rfl⟩
  · rw [decide_eq_false (by omega)]
    go_enter Tryd.func25, Tryd.ntmps25
    go_wp2
    go_ret
    exact ⟨ret_bool (by simp), rfl⟩
theorem byteAt (r : ByteArray) (k : Nat) (h : k < r.size) : ∃ c : UInt8, r[k] = c ∧ c ∈ r.data.toList ∧ r.data.toList.take (k + 1) = r.data.toList.take k ++ [c] := by
  have hd : k < r.data.size := h
  have hl : k < r.data.toList.length := by rw [Array.length_toList]; exact hd
  refine ⟨_, rfl, ?_, ?_⟩
  · show r.data[k] ∈ _
    rw [← Array.getElem_toList]
    exact List.getElem_mem hl
  · rw [List.take_succ_eq_append_getElem hl]
    congr 2
theorem sgn_step (mi : Bool) (l : List UInt8) (c : UInt8) (h : 48 ≤ c.toNat) : sgn mi (Pk.spellN 0 (l ++ [c])) = if mi then 10 * sgn mi (Pk.spellN 0 l) - ((c.toNat : Int) - 48) else 10 * sgn mi (Pk.spellN 0 l) + ((c.toNat : Int) - 48) := by
  rw [Pk.spellN_append]
  have e : Pk.spellN (Pk.spellN 0 l) [c] = 10 * Pk.spellN 0 l + (c.toNat - 48) := rfl
  rw [e]
  cases mi with
  | true => simp only [sgn, if_true]; omega
  | false => simp only [sgn, Bool.false_eq_true, if_false]; omega
set_option maxHeartbeats 1000000 in
set_option maxRecDepth 100000 in
theorem RInt_calls (s : ByteArray) (hs : s.size ≤ 1000000) (w : World) :
    Calls Tryd.prog 16 #[.string s] w fun e w' => e = .returned (intOr (Pk.int s.data.toList)) ∧ Below w.heap.size w w' := by
  by_cases hm : ∃ t, s.data.toList = 45 :: t
  · have HM : Hid (∃ r : ByteArray, s.extract 1 s.size = r ∧ s.data.toList = signed true r.data.toList ∧ r.size = s.size - 1) := by
      obtain ⟨t, ht⟩ := hm
      refine ⟨_, rfl, ?_, ?_⟩
      · rw [ext_drop, ht]; rfl
      · simp only [ByteArray.size_extract]; omega
    obtain ⟨h0, hb⟩ : ∃ h : 0 < s.size, s[0] = 45 := by
      obtain ⟨t, ht⟩ := hm
      exact byte0 ht
    have hb2 : (((s[0]'h0).toNat : Int) == 45) = true := by rw [hb]; rfl
    clear hm hb
    obtain ⟨r, er, es, ez⟩ := HM.out
    have ER := Lib.hid er; have ES := Lib.hid es; have EZ := Lib.hid ez; clear er es HM
    by_cases hl : r.size = 0 ∨ 19 < r.size
    · have HQ : Hid (Pk.int s.data.toList = none) := by
        unfold Hid
        rw [ES.out]
        exact int_short (by simp) hl
      have hl2 : s.size - 1 = 0 ∨ 19 < ((s.size - 1 : Nat) : Int) := by omega
      go_enter Tryd.func16, Tryd.ntmps16
      rcases hl2 with hl2 | hl2
      all_goals
        go_wp2
        go_ret2
        exact ⟨by rw [HQ.out]; rfl, Below.refl _ _⟩
    · have hl2 : ¬ (s.size - 1 = 0) := by omega
      have hl3 : ((s.size - 1 : Nat) : Int) ≤ 19 := by omega
      have hl4 : (((s.size - 1 : Nat) : Int) == 0) = false := by simpa using hl2
      have hl5 : r.size ≤ 19 := by omega
      clear ez
      go_enter Tryd.func16, Tryd.ntmps16
      go_wp2
      rw [ER.out]
      go_loopw [2, 3, 6, 7] (fun _ _ mv iv wr => ∃ (k : Nat) (m : Int), k ≤ r.size ∧ iv = .int .i64 k ∧ mv = .int .i64 m ∧ Aside0 (m = wrap64 (sgn true (Pk.spellN 0 (r.data.toList.take k)))) ∧ wr = w) (fun _ _ _ i _ => r.size - (intOf i).toNat)
      case atStart => exact ⟨0, 0, Nat.zero_le _, rfl, rfl, ⟨by simp [sgn, Pk.spellN, wrap64]⟩, rfl⟩
      case round =>
        obtain ⟨k, m, hk, rfl, rfl, HM, rfl⟩ := hrel
        by_cases hlt : k < r.size
        · obtain ⟨ch, hc1, hc2, hc3⟩ := byteAt r k hlt
          have HC1 := Lib.hid hc1; have HC2 := Lib.hid hc2; have HC3 := Lib.hid hc3; clear hc1 hc2 hc3
          go_wp2_with fail
          rw [HC1.out]
          refine (digit_calls ch _).mono ?_
          rintro e w1 ⟨rfl, rfl⟩
          by_cases hd : 48 ≤ ch.toNat ∧ ch.toNat ≤ 57
          · rw [decide_eq_true hd]
            obtain ⟨hd1, hd2⟩ := hd
            go_wp2
            go_roundw
            case rel =>
              refine ⟨k + 1, _, by omega, by go_num, rfl, ⟨?_⟩, trivial⟩
              rw [HC1.out, HC3.out, sgn_step _ _ _ hd1, HM.out]
              exact wrap_step_neg _ _ hd1 hd2
            case measure => simp [intOf]; omega
          · rw [decide_eq_false hd]
            go_wp2
            go_ret2
            refine ⟨?_, Below.refl _ _⟩
            have hq : Pk.int s.data.toList = none := by
              rw [ES.out]
              exact int_nodigit (by simp) HC2.out hd
            rw [hq]
            rfl
        · obtain rfl : k = r.size := by omega
          have hm := HM.out
          rw [← data_length, List.take_length] at hm
          have hmr : Pk.inRange m := by rw [hm]; exact wrap64_range _
          have HMM := Lib.hid hm; clear hm HM
          go_wp2_with fail
          refine (RNum_calls m.natAbs m rfl hmr _).mono ?_
          rintro e w1 ⟨rfl, hb1⟩
          have HB := Lib.hid hb1; clear hb1
          by_cases hq : numS m = s
          · have hq2 : ((numS m).toList == s.toList) = true := by simp [hq]
            have HQ := Lib.hid hq; clear hq
            go_wp2
            go_ret2
            refine ⟨?_, HB.out⟩
            have e2 : Pk.int s.data.toList = some m := by rw [HMM.out]; exact int_done (by rw [← HMM.out]; exact HQ.out)
            rw [e2]
            rfl
          · have hq2 : ((numS m).toList == s.toList) = false := by
              rw [beq_eq_false_iff_ne, Lib.toList_data, Lib.toList_data]
              exact fun h => hq (str_ext h)
            have HQ := Lib.hid hq; clear hq
            go_wp2
            go_ret2
            refine ⟨?_, HB.out⟩
            have e2 : Pk.int s.data.toList = none := int_end (by simp) ES.out (by rw [← HMM.out]; exact HQ.out)
            rw [e2]
            rfl
  · have HM0 : Hid (∀ t, s.data.toList ≠ 45 :: t) := fun t ht => hm ⟨t, ht⟩
    clear hm
    by_cases hl : s.size = 0 ∨ 19 < s.size
    · have HQ : Hid (Pk.int s.data.toList = none) := int_short (mi := false) (fun _ => HM0.out) hl
      by_cases h0 : 0 < s.size
      · have hb2 : (((s[0]'h0).toNat : Int) == 45) = false := byte0_ne h0 HM0.out
        have hl2 : 19 < (s.size : Int) := by omega
        have hne : ¬ s = ByteArray.empty := by rintro rfl; simp at h0
        go_enter Tryd.func16, Tryd.ntmps16
        go_wp2
        go_ret2
        exact ⟨by rw [HQ.out]; rfl, Below.refl _ _⟩
      · have hne : s = ByteArray.empty := by
          apply str_ext
          have h1 : s.data.toList.length = 0 := by rw [data_length]; omega
          rw [List.length_eq_zero_iff.1 h1]
          rfl
        rw [hne] at HQ ⊢
        have HQ2 := HQ
        clear hl h0 HM0 hne hs
        go_enter Tryd.func16, Tryd.ntmps16
        go_wp2
        go_ret2
        exact ⟨by rw [HQ2.out]; rfl, Below.refl _ _⟩
    · have h0 : 0 < s.size := by omega
      have hb2 : (((s[0]'h0).toNat : Int) == 45) = false := byte0_ne h0 HM0.out
      have hne : ¬ s = ByteArray.empty := by rintro rfl; simp at h0
      have hl3 : (s.size : Int) ≤ 19 := by omega
      have hl4 : ((s.size : Int) == 0) = false := by simp; omega
      go_enter Tryd.func16, Tryd.ntmps16
      go_wp2
      go_loopw [2, 3, 6, 7] (fun _ _ mv iv wr => ∃ (k : Nat) (m : Int), k ≤ s.size ∧ iv = .int .i64 k ∧ mv = .int .i64 m ∧ Aside0 (m = wrap64 (sgn false (Pk.spellN 0 (s.data.toList.take k)))) ∧ wr = w) (fun _ _ _ i _ => s.size - (intOf i).toNat)
      case atStart => exact ⟨0, 0, Nat.zero_le _, rfl, rfl, ⟨by simp [sgn, Pk.spellN, wrap64]⟩, rfl⟩
      case round =>
        obtain ⟨k, m, hk, rfl, rfl, HM, rfl⟩ := hrel
        by_cases hlt : k < s.size
        · obtain ⟨ch, hc1, hc2, hc3⟩ := byteAt s k hlt
          have HC1 := Lib.hid hc1; have HC2 := Lib.hid hc2; have HC3 := Lib.hid hc3; clear hc1 hc2 hc3
          go_wp2_with fail
          rw [HC1.out]
          refine (digit_calls ch _).mono ?_
          rintro e w1 ⟨rfl, rfl⟩
          by_cases hd : 48 ≤ ch.toNat ∧ ch.toNat ≤ 57
          · rw [decide_eq_true hd]
            obtain ⟨hd1, hd2⟩ := hd
            go_wp2
            go_roundw
            case rel =>
              refine ⟨k + 1, _, by omega, by go_num, rfl, ⟨?_⟩, trivial⟩
              rw [HC1.out, HC3.out, sgn_step _ _ _ hd1, HM.out]
              exact wrap_step_pos _ _ hd1 hd2
            case measure => simp [intOf]; omega
          · rw [decide_eq_false hd]
            go_wp2
            go_ret2
            refine ⟨?_, Below.refl _ _⟩
            have hq : Pk.int s.data.toList = none := by
              exact int_nodigit (mi := false) (fun _ => HM0.out) HC2.out hd
            rw [hq]
            rfl
        · obtain rfl : k = s.size := by omega
          have hm := HM.out
          rw [← data_length, List.take_length] at hm
          have hmr : Pk.inRange m := by rw [hm]; exact wrap64_range _
          have HMM := Lib.hid hm; clear hm HM
          go_wp2_with fail
          refine (RNum_calls m.natAbs m rfl hmr _).mono ?_
          rintro e w1 ⟨rfl, hb1⟩
          have HB := Lib.hid hb1; clear hb1
          by_cases hq : numS m = s
          · have hq2 : ((numS m).toList == s.toList) = true := by simp [hq]
            have HQ := Lib.hid hq; clear hq
            go_wp2
            go_ret2
            refine ⟨?_, HB.out⟩
            have e2 : Pk.int s.data.toList = some m := by rw [HMM.out]; exact int_done (by rw [← HMM.out]; exact HQ.out)
            rw [e2]
            rfl
          · have hq2 : ((numS m).toList == s.toList) = false := by
              rw [beq_eq_false_iff_ne, Lib.toList_data, Lib.toList_data]
              exact fun h => hq (str_ext h)
            have HQ := Lib.hid hq; clear hq
            go_wp2
            go_ret2
            refine ⟨?_, HB.out⟩
            have e2 : Pk.int s.data.toList = none := int_end (mi := false) (fun _ => HM0.out) rfl (by rw [← HMM.out]; exact HQ.out)
            rw [e2]
            rfl
end Go.Proofs.YtccilpgdeblffaaDoor
