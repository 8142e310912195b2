/- Layer 1's laws PackTexts and PackApart: what calls of them do. Conditions: the library's table of powers of ten as it was laid; each slice that came in takes at most 2^47 - 4096 bytes. -/
import Derived.Test.YtccilpgdeblffaaDoorPkLaws
namespace Go.Proofs.YtccilpgdeblffaaDoor
open Go.RowKit Go.Gw Go.Proofs.YtccilpgdeblffaaDoorW.PrintWords
set_option linter.unusedVariables false
set_option linter.unusedSimpArgs false

theorem raws_mkS (l : List (List UInt8)) : raws (l.map mkS) = l := by
  induction l with
  | nil => rfl
  | cons s l ih => simp only [raws, List.map_cons, List.map_map] at ih ⊢; rw [ih]; rfl

theorem Row_calls_n (l : List ByteArray) (n : Nat) (hn : l.length = n) (w : World) (G : Tab Tryd.prog w) (A : Option Addr) (c : Nat) (hr : Kd.C Kd.string w A l.length l) (hb : Pk.bulk (raws l) ≤ 1000000) :
    Calls Tryd.prog 10 #[.slice A n c] w fun e w' => e = .returned (.string (rowS l)) ∧ Below w.heap.size w w' := by
  subst hn
  exact Row_calls l w G A c hr hb

/-! ### PackTexts -/
set_option maxHeartbeats 1000000 in
set_option maxRecDepth 100000 in
theorem PackTexts_row (b : ByteArray) (w : World) (G : Tab Tryd.prog w) (hb : b.size ≤ 140737488351232) :
    Calls Tryd.prog 4 #[.string b] w fun e w' => e = .returned (.bool true) ∧ Below w.heap.size w w' := by
  have HG := Lib.hid G; clear G
  go_enter Tryd.func4, Tryd.ntmps4
  go_wp2_with fail
  refine (alive_calls _ HG.out).mono ?_
  rintro e w1 ⟨rfl, hb1⟩
  have HB1 := Lib.hid hb1; clear hb1
  by_cases hgt : 5000 < b.size
  · go_wp2
    go_ret
    exact ⟨rfl, HB1.out⟩
  · have hle : b.size ≤ 5000 := by omega
    go_wp2_with fail
    refine (Texts_calls b (by omega) _).mono ?_
    rintro e w2 ⟨v, rfl, hR, hb2⟩
    have HB2 := Lib.hid (HB1.out.trans (hb2.mono HB1.out.size)); clear hb2
    obtain ⟨A2, c2, rfl, hle2, hC⟩ := Kd.R_reads hR
    have HC := Lib.hid hC; clear hC hR hle2
    go_wp2_with fail
    refine (RefTexts_calls b (by omega) _).mono ?_
    rintro e w3 ⟨v, rfl, hR, hb3⟩
    have HC3 := Lib.hid (Kd.C_below HC.out hb3)
    have HB3 := Lib.hid (HB2.out.trans (hb3.mono HB2.out.size)); clear hb3
    obtain ⟨A3, c3, rfl, hle3, hC⟩ := Kd.R_reads hR
    have HD := Lib.hid hC; clear hC hR hle3
    have hll : (textsL (Pk.texts b.data.toList)).length ≤ 140737488351232 := by
      cases hx : Pk.texts b.data.toList with
      | inl e => simp [textsL]
      | inr l =>
        have h1 := Pk.row_texts _ _ _ (Nat.lt_succ_self _) hx
        have h2 := Pk.bulk_le_row l
        have h3 := Pk.bulk_len l
        rw [h1.1, data_length] at h2
        simp only [textsL, List.length_map]
        omega
    go_wp2_with fail
    refine (Same_calls _ _ _ _ _ _ _ HC3.out HD.out hll).mono ?_
    rintro e w4 ⟨rfl, hb4⟩
    have HC4 := Lib.hid (Kd.C_below HC3.out hb4)
    have HB4 := Lib.hid (HB3.out.trans (hb4.mono HB3.out.size)); clear hb4
    simp only [decide_true]
    cases hx : Pk.texts b.data.toList with
    | inl e =>
      have he := Pk.texts_err _ _ _ (Nat.lt_succ_self _) hx
      clear hx HC HD HC3 HC4 hll
      simp only [textsE]
      rcases he with rfl | rfl
      all_goals
        go_wp2
        go_ret
        exact ⟨rfl, HB4.out⟩
    | inr l =>
      have h1 := Pk.row_texts _ _ _ (Nat.lt_succ_self _) hx
      have h2 := Pk.bulk_le_row l
      rw [h1.1, data_length] at h2
      have HX := Lib.hid h1; clear h1
      have HC5 := HC4.out
      rw [hx] at HC5
      simp only [textsL] at HC5
      have HC6 := Lib.hid HC5
      clear HC5 HC HD HC3 HC4 hll hx
      simp only [textsE, textsL]
      go_wp2_with fail
      refine (Row_calls_n (l.map mkS) l.length (by simp) _ (HG.out.below HB4.out) _ _ HC6.out (by rw [raws_mkS]; omega)).mono ?_
      rintro e w5 ⟨rfl, hb5⟩
      have HB5 := Lib.hid (HB4.out.trans (hb5.mono HB4.out.size)); clear hb5
      have er : rowS (l.map mkS) = b := by
        apply str_ext
        rw [rowS_data, raws_mkS, HX.out.1]
      rw [er]
      go_wp2
      go_ret
      exact ⟨rfl, HB5.out⟩

/-! ### PackApart -/
theorem rowS_inj {a b : List ByteArray} (ha : Pk.bulk (raws a) ≤ 5000) (hb : Pk.bulk (raws b) ≤ 5000) : ((rowS a).toList == (rowS b).toList) = decide (a = b) := by
  rw [Bool.eq_iff_iff, beq_iff_eq, Lib.toList_data, Lib.toList_data, rowS_data, rowS_data, Pk.row_inj (raws_small (by omega)) (raws_small (by omega)), raws_inj]
  simp
theorem raws_len (a : List ByteArray) : (raws a).length = a.length := by simp [raws]
theorem raws_append (a b : List ByteArray) : raws (a ++ b) = raws a ++ raws b := by simp [raws]
theorem bulk_append (a b : List (List UInt8)) : Pk.bulk (a ++ b) = Pk.bulk a + Pk.bulk b := by
  induction a with
  | nil => simp [Pk.bulk]
  | cons s a ih => rw [List.cons_append, Pk.bulk, ih, Pk.bulk]; omega
theorem rowS_append (a b : List ByteArray) : rowS (a ++ b) = rowS a ++ rowS b := by
  show mkS (Pk.row (raws (a ++ b))) = mkS (Pk.row (raws a)) ++ mkS (Pk.row (raws b))
  rw [mkS_append, raws_append, Pk.row_append]
theorem rowS_size (a : List ByteArray) (h : Pk.bulk (raws a) ≤ 5000) : (rowS a).size ≤ 50000 := by
  have := Pk.row_len (raws a) (raws_small (by omega))
  show (Pk.row (raws a)).length ≤ _
  omega

theorem rowS_pos {a : List ByteArray} (h : a ≠ []) : 0 < (rowS a).size := by
  have h1 : Pk.row (raws a) ≠ [] := fun e => h (by have := (Pk.row_nil_iff (raws a)).1 e; cases a with | nil => rfl | cons => simp [raws] at this)
  exact List.length_pos_iff.2 h1

set_option maxHeartbeats 2000000 in
set_option maxRecDepth 100000 in
theorem PackApart_row (a b : List ByteArray) (cut : Int) (w : World) (G : Tab Tryd.prog w) {A B : Option Addr} {c d : Nat} (hr : Kd.C Kd.string w A a.length a) (_ : a.length ≤ c) (hb : rowBd 16 strBd a) (hq : Kd.C Kd.string w B b.length b) (_ : b.length ≤ d) (hd : rowBd 16 strBd b) (hcut : (Lit.int .u16 cut).wf = true) :
    Calls Tryd.prog 5 #[.slice A a.length c, .slice B b.length d, .int .u16 cut] w fun e w' => e = .returned (.bool true) ∧ Below w.heap.size w w' := by
  have HG := Lib.hid G; clear G
  have HA := Lib.hid hr; clear hr
  have HQ := Lib.hid hq; clear hq
  obtain ⟨hla, hsa⟩ := getD_bd hb
  obtain ⟨hlb, hsb⟩ := getD_bd hd
  clear hb hd
  have HSA := Lib.hid hsa; clear hsa
  have HSB := Lib.hid hsb; clear hsb
  have hc0 : 0 ≤ cut ∧ cut ≤ 65535 := bounds_u16 hcut
  clear hcut
  obtain ⟨hc0, hc1⟩ := hc0
  go_enter Tryd.func5, Tryd.ntmps5
  go_wp2_with fail
  refine (alive_calls _ HG.out).mono ?_
  rintro e w1 ⟨rfl, hb1⟩
  have HB1 := Lib.hid hb1; clear hb1
  go_wp2_with fail
  refine (long_calls a _ _ _ (Kd.C_below HA.out HB1.out) hla HSA.out).mono ?_
  rintro e w2 ⟨rfl, hb2⟩
  have HB2 := Lib.hid (HB1.out.trans (hb2.mono HB1.out.size)); clear hb2
  cases hg : decide (5000 < Pk.bulk (raws a)) with
  | true =>
    clear hg
    go_wp2
    go_ret
    exact ⟨rfl, HB2.out⟩
  | false =>
    have hka := bulk_of_not hg
    clear hg
    go_wp2_with fail
    refine (long_calls b _ _ _ (Kd.C_below HQ.out HB2.out) hlb HSB.out).mono ?_
    rintro e w3 ⟨rfl, hb3⟩
    have HB3 := Lib.hid (HB2.out.trans (hb3.mono HB2.out.size)); clear hb3
    cases hg : decide (5000 < Pk.bulk (raws b)) with
    | true =>
      clear hg
      go_wp2
      go_ret
      exact ⟨rfl, HB3.out⟩
    | false =>
      have hkb := bulk_of_not hg
      clear hg
      go_wp2_with fail
      refine (Row_calls a _ (HG.out.below HB3.out) _ _ (Kd.C_below HA.out HB3.out) (by omega)).mono ?_
      rintro e w4 ⟨rfl, hb4⟩
      have HB4 := Lib.hid (HB3.out.trans (hb4.mono HB3.out.size)); clear hb4
      go_wp2_with fail
      refine (Row_calls b _ (HG.out.below HB4.out) _ _ (Kd.C_below HQ.out HB4.out) (by omega)).mono ?_
      rintro e w5 ⟨rfl, hb5⟩
      have HB5 := Lib.hid (HB4.out.trans (hb5.mono HB4.out.size)); clear hb5
      have Z5 : w.heap.size ≤ w5.heap.size := HB5.out.size
      have hn0 := (show Kd.R Kd.string 9 (w5.alloc (.cells #[] 9)) w5.heap.size (fun _ => True) (.slice (some ⟨w5.heap.size, 0, none⟩) 0 0) [] from ⟨fun _ _ => trivial, OwnRow.lit w5 w5.heap.size (ps := []) (Reps.none _ _) (Nat.le_refl _) (by simp)⟩)
      have HN0 := Lib.hid hn0; clear hn0
      have HB6 := Lib.hid (HB5.out.alloc Z5 (.cells #[] 9))
      have ka : a.length ≤ 5000 := by have h := Pk.bulk_len (raws a); rw [raws_len] at h; omega
      have kb : b.length ≤ 5000 := by have h := Pk.bulk_len (raws b); rw [raws_len] at h; omega
      go_wp2_with (first | (at_builtin; refine Kd.R_append_row Value.string ByteArray.empty (h1 := fun _ => rfl) (w0 := w5) w5.heap.size rfl (.tmp 24) (.tmp 25) 22 9 (.string ⟨#[]⟩) 16 rfl Tryd.underlying22 info_str rfl (by decide) _ [] a A a.length c (fun _ => True) rfl rfl (fun _ _ => trivial) ?aO ?aR ?aB ?aS ?aL ?_; (case aO => exact HN0.out); (case aR => exact Kd.C_below HA.out HB6.out); (case aB => exact (Below.refl _ _).alloc (Nat.le_refl _) _); (case aS => simp); (case aL => simp only [List.length_nil]; omega); intro v1 w6 ho hbb hg hat; have HO1 := Lib.hid ho; have HC1 := Lib.hid hbb; clear ho hbb hg hat) | (at_builtin; (refine Kd.R_append_row Value.string ByteArray.empty (h1 := fun _ => rfl) (w0 := w5) w5.heap.size rfl (.tmp 26) (.tmp 27) 22 9 (.string ⟨#[]⟩) 16 rfl Tryd.underlying22 info_str rfl (by decide) _ ([] ++ a) b B b.length d (fun _ => True) rfl rfl (fun _ _ => trivial) ?bO ?bR ?bB ?bS ?bL ?_); (case bO => exact HO1.out); (case bR => exact Kd.C_below HQ.out (HB5.out.trans (HC1.out.mono Z5))); (case bB => exact HC1.out); (case bS => exact HC1.out.size); (case bL => simp only [List.nil_append]; omega); intro v2 w7 ho hbb hg hat; have HO2 := Lib.hid ho; have HC2 := Lib.hid hbb; clear ho hbb hg hat))
      obtain ⟨A7, c7, rfl, hle7, hC7⟩ := Kd.R_reads HO2.out
      simp only [List.nil_append] at hC7 hle7
      have HC7 := Lib.hid hC7; clear hC7
      have HB7 := Lib.hid (HB5.out.trans (HC2.out.mono Z5)); clear HO1 HO2 HC1 HC2 HN0
      refine (Same_calls a b w7 A B c d (Kd.C_below HA.out HB7.out) (Kd.C_below HQ.out HB7.out) hla).mono ?_
      rintro e w8 ⟨rfl, hb8⟩
      have HC8 := Lib.hid (Kd.C_below HC7.out hb8); clear HC7
      have HB8 := Lib.hid (HB7.out.trans (hb8.mono HB7.out.size)); clear hb8
      have eab := rowS_inj hka hkb
      have hn8 : (a ++ b).length = a.length + b.length := List.length_append
      have hk8 : Pk.bulk (raws (a ++ b)) ≤ 10000 := by rw [raws_append, bulk_append]; omega
      have EAB := Lib.hid eab; clear eab
      go_wp2_with fail
      refine (Row_calls_n (a ++ b) (a.length + b.length) hn8 w8 (HG.out.below HB8.out) A7 c7 HC8.out (by omega)).mono ?_
      rintro e w9 ⟨rfl, hb9⟩
      have HB9 := Lib.hid (HB8.out.trans (hb9.mono HB8.out.size)); clear hb9 HC8 HB1 HB2 HB3 HB4 HB5 HB6 HB7 HB8
      rw [rowS_append]
      have hz : (rowS a).size ≤ 50000 := rowS_size a hka
      have hzb : (rowS b).size ≤ 50000 := rowS_size b hkb
      by_cases ha0 : a = []
      · subst ha0
        have e0 : rowS [] = ByteArray.empty := rfl
        have e1 : (rowS []).size = 0 := rfl
        go_wp2
        go_ret
        exact ⟨rfl, HB9.out⟩
      · have hp : 0 < (rowS a).size := rowS_pos ha0
        have hm0 : 0 ≤ cut % ((rowS a).size : Int) := Int.emod_nonneg _ (by omega)
        have hm1 : cut % ((rowS a).size : Int) < ((rowS a).size : Int) := Int.emod_lt_of_pos _ (by omega)
        go_wp2_with fail
        obtain ⟨k, hk, hkl⟩ : ∃ k, (cut % ((rowS a).size : Int)).toNat = k ∧ k < (rowS a).size := ⟨_, rfl, by omega⟩
        rw [hk]
        have es : ((rowS a).extract 0 k).data.toList = (Pk.row (raws a)).take k := by rw [ext_take]; rfl
        have ez : ((rowS a).extract 0 k).size ≤ 50000 := by simp only [ByteArray.size_extract]; omega
        refine (Texts_calls ((rowS a).extract 0 k) (by omega) w9).mono ?_
        rintro e w10 ⟨v, rfl, hR, hb10⟩
        have HB10 := Lib.hid (HB9.out.trans (hb10.mono HB9.out.size)); clear hb10
        obtain ⟨A10, c10, rfl, hle10, hC10⟩ := Kd.R_reads hR
        clear hR hC10 hle10
        rw [es]
        have hlt : k < (Pk.row (raws a)).length := hkl
        rcases Pk.texts_cut (raws a) (raws_small (by omega)) k hlt with ht | ⟨l, ht, hl⟩
        · rw [ht]
          clear ht
          simp only [textsE, textsL, List.length_nil]
          go_wp2
          go_ret
          exact ⟨rfl, HB10.out⟩
        · rw [ht]
          clear ht
          have hl' : l.length < a.length := by rwa [raws_len] at hl
          simp only [textsE, textsL, List.length_map]
          go_wp2
          go_ret
          exact ⟨rfl, HB10.out⟩
end Go.Proofs.YtccilpgdeblffaaDoor
