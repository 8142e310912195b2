/- Layer 1's law PackNests: what a call of it does. Conditions: the library's table of powers of ten as it was laid; each slice that came in takes at most 2^47 - 4096 bytes. -/
import Derived.Test.YtccilpgdeblffaaDoorPkLawB
namespace Go.Proofs.YtccilpgdeblffaaDoor
open Go.RowKit Go.Gw Go.Proofs.YtccilpgdeblffaaDoorW.PrintWords
set_option linter.unusedVariables false
set_option linter.unusedSimpArgs false

/-- An element of a row of rows. -/
theorem at_row {α : Type} {e : Nat} {d : Kd α} {w : World} {A : Option Addr} {n : Nat} {xs : List (List α)} (h : Kd.C (Kd.slice e d) w A n xs) (k : Nat) (hk : k < n) :
    ∃ ad A' c', A = some ad ∧ w.cell? (ad.add k) = some (.slice A' (xs.getD k []).length c') ∧ (xs.getD k []).length ≤ c' ∧ Kd.C d w A' (xs.getD k []).length (xs.getD k []) := by
  obtain ⟨ad, c, rfl, hl, hK, hc⟩ := ReadsRow.get_ h [] k (by omega) (by omega)
  rw [show ((k : Nat) : Int).toNat = k from by omega] at hK hc
  obtain ⟨A', c', rfl, h1, h2⟩ := hK
  have := hc 0 _ rfl
  refine ⟨ad, A', c', rfl, ?_, h1, h2⟩
  simpa [Kd.slice] using this

theorem dec_len_le : ∀ (k u : Nat), u ≤ k → 1 ≤ u → (Lib.decDigits u).length ≤ u := by
  intro k
  induction k with
  | zero => intro u h1 h2; omega
  | succ k ih =>
    intro u h1 h2
    rw [Lib.decDigits]
    split
    · simp; omega
    · have := ih (u / 10) (by omega) (by omega)
      simp only [List.length_append, List.length_cons, List.length_nil]
      omega
theorem row_len2 : ∀ (l : List (List UInt8)), (Pk.row l).length ≤ 2 * Pk.bulk l := by
  intro l
  induction l with
  | nil => simp [Pk.row]
  | cons s l ih =>
    have h1 : (Lib.decDigits s.length).length ≤ s.length + 1 := by
      cases hs : s.length with
      | zero => rw [Lib.decDigits]; simp
      | succ n => exact Nat.le_trans (dec_len_le _ (n + 1) (Nat.le_refl _) (by omega)) (by omega)
    simp only [Pk.row, Pk.cell, Pk.bulk, List.length_append, List.length_cons] at ih ⊢
    omega
theorem mkS_raws (l : List ByteArray) : (raws l).map mkS = l := by
  induction l with
  | nil => rfl
  | cons s l ih =>
    simp only [raws, List.map_cons] at ih ⊢
    rw [ih]
    congr 1
def rowsOk (a : List (List ByteArray)) : Prop := ∀ l ∈ a, Pk.bulk (raws l) ≤ 5000
theorem rowS_size2 (l : List ByteArray) (h : Pk.bulk (raws l) ≤ 5000) : (rowS l).size ≤ 10000 := by
  have := row_len2 (raws l)
  show (Pk.row (raws l)).length ≤ _
  omega
theorem bulk_rows : ∀ (a : List (List ByteArray)), rowsOk a → Pk.bulk (raws (a.map rowS)) ≤ 10001 * a.length := by
  intro a
  induction a with
  | nil => intro _; simp [raws, Pk.bulk]
  | cons l a ih =>
    intro h
    have h1 := ih (fun x hx => h x (List.mem_cons_of_mem _ hx))
    have h2 := rowS_size2 l (h l List.mem_cons_self)
    simp only [raws, List.map_cons, Pk.bulk, List.length_cons, data_length] at h1 ⊢
    omega
theorem take_getL {α : Type} (a : List (List α)) (k : Nat) (h : k < a.length) : a.take (k + 1) = a.take k ++ [a.getD k []] := by
  rw [List.take_succ_eq_append_getElem h, List.getD_eq_getElem?_getD, List.getElem?_eq_getElem h, Option.getD_some]
theorem rowsOk_succ {a : List (List ByteArray)} {k : Nat} (h : k < a.length) (h1 : rowsOk (a.take k)) (h2 : Pk.bulk (raws (a.getD k [])) ≤ 5000) : rowsOk (a.take (k + 1)) := by
  rw [take_getL a k h]
  intro l hl
  rcases List.mem_append.1 hl with hl | hl
  · exact h1 l hl
  · rw [List.mem_singleton.1 hl]
    exact h2
theorem rows_succ {a : List (List ByteArray)} {k : Nat} (h : k < a.length) : (a.take (k + 1)).map rowS = (a.take k).map rowS ++ [rowS (a.getD k [])] := by
  rw [take_getL a k h, List.map_append]
  rfl
theorem same_succ {a b : List (List ByteArray)} {k : Nat} (ha : k < a.length) (hb : k < b.length) : decide (a.take (k + 1) = b.take (k + 1)) = (decide (a.take k = b.take k) && decide (a.getD k [] = b.getD k [])) := by
  rw [take_getL a k ha, take_getL b k hb, ← Bool.decide_and, decide_eq_decide]
  constructor
  · intro h
    have := List.append_inj' h rfl
    exact ⟨this.1, by simpa using this.2⟩
  · rintro ⟨h1, h2⟩
    rw [h1, h2]
theorem rowS_inj' {a b : List ByteArray} (ha : Pk.bulk (raws a) ≤ 1000000) (hb : Pk.bulk (raws b) ≤ 1000000) : ((rowS a).toList == (rowS b).toList) = decide (a = b) := by
  rw [Bool.eq_iff_iff, beq_iff_eq, Lib.toList_data, Lib.toList_data, rowS_data, rowS_data, Pk.row_inj (raws_small (by omega)) (raws_small (by omega)), raws_inj]
  simp
theorem mapRow_inj {a b : List (List ByteArray)} (ha : rowsOk a) (hb : rowsOk b) : a.map rowS = b.map rowS ↔ a = b := by
  constructor
  · intro h
    induction a generalizing b with
    | nil => cases b with
      | nil => rfl
      | cons => simp at h
    | cons x a ih =>
      cases b with
      | nil => simp at h
      | cons y b =>
        simp only [List.map_cons, List.cons.injEq] at h
        have hx := rowS_inj' (a := x) (b := y) (by have := ha x List.mem_cons_self; omega) (by have := hb y List.mem_cons_self; omega)
        rw [h.1] at hx
        simp only [BEq.rfl] at hx
        rw [ih (fun l hl => ha l (List.mem_cons_of_mem _ hl)) (fun l hl => hb l (List.mem_cons_of_mem _ hl)) h.2, of_decide_eq_true hx.symm]
  · rintro rfl; rfl
theorem bds {a : List (List ByteArray)} (h : rowBd 24 (rowBd 16 strBd) a) (k : Nat) (hk : k < a.length) : (a.getD k []).length ≤ 140737488351232 ∧ ∀ j, j < (a.getD k []).length → ((a.getD k []).getD j ByteArray.empty).size ≤ 140737488351232 := by
  have hm : a.getD k [] ∈ a := by
    rw [List.getD_eq_getElem?_getD, List.getElem?_eq_getElem hk, Option.getD_some]
    exact List.getElem_mem hk
  exact getD_bd (h.2 _ hm)

theorem rows_getD {a : List (List ByteArray)} {k : Nat} (h : k < a.length) : (a.map rowS).getD k ByteArray.empty = rowS (a.getD k []) := by
  simp only [List.getD_eq_getElem?_getD, List.getElem?_map, List.getElem?_eq_getElem h, Option.map_some, Option.getD_some]
theorem rowsOk_getD {a : List (List ByteArray)} {k : Nat} (h : k < a.length) (ho : rowsOk a) : Pk.bulk (raws (a.getD k [])) ≤ 5000 := by
  apply ho
  rw [List.getD_eq_getElem?_getD, List.getElem?_eq_getElem h, Option.getD_some]
  exact List.getElem_mem h
theorem same_all {a b : List (List ByteArray)} (ha : rowsOk a) (hb : rowsOk b) : decide (a.map rowS = b.map rowS) = (decide (a.length = b.length) && decide (a = b.take a.length)) := by
  rw [← Bool.decide_and, decide_eq_decide, mapRow_inj ha hb]
  constructor
  · rintro rfl
    simp
  · rintro ⟨h1, h2⟩
    rw [h2, h1, List.take_length]

set_option maxHeartbeats 2000000 in
set_option maxRecDepth 100000 in
theorem PackNests_row (a b : List (List ByteArray)) (w : World) (G : Tab Tryd.prog w) {A B : Option Addr} {c d : Nat} (hr : Kd.C (Kd.slice 9 Kd.string) w A a.length a) (_ : a.length ≤ c) (hb : rowBd 24 (rowBd 16 strBd) a) (hq : Kd.C (Kd.slice 9 Kd.string) w B b.length b) (_ : b.length ≤ d) (hd : rowBd 24 (rowBd 16 strBd) b) :
    Calls Tryd.prog 6 #[.slice A a.length c, .slice B b.length d] w fun e w' => e = .returned (.bool true) ∧ Below w.heap.size w w' := by
  have HG := Lib.hid G; clear G
  have HA := Lib.hid hr; clear hr
  have HQ := Lib.hid hq; clear hq
  have HSA := Lib.hid (bds hb); clear hb
  have HSB := Lib.hid (bds hd); clear hd
  go_enter Tryd.func6, Tryd.ntmps6
  go_wp2_with fail
  refine (alive_calls _ HG.out).mono ?_
  rintro e w1 ⟨rfl, hb1⟩
  have HB1 := Lib.hid hb1; clear hb1
  by_cases hla : 30 < a.length
  · go_wp2
    go_ret
    exact ⟨rfl, HB1.out⟩
  by_cases hlb : 30 < b.length
  · go_wp2
    go_ret
    exact ⟨rfl, HB1.out⟩
  obtain ⟨q, hq⟩ : ∃ q, q = (decide (a.length = b.length)) := ⟨_, rfl⟩
  have hq1 : (a.length == b.length) = q := by rw [hq, Bool.eq_iff_iff]; simp
  have hq2 : ((a.length : Int) == (b.length : Int)) = q := by rw [hq, Bool.eq_iff_iff]; simp [Int.ofNat_inj]
  have HQQ := Lib.hid hq; clear hq
  go_wp2
  go_loopw [5, 6, 35] (fun sv xv iv wr => ∃ (k : Nat) (t : Bool), k ≤ a.length ∧ iv = .int .i64 k ∧ sv = .bool t ∧ Aside0 (t = (q && decide (a.take k = b.take k))) ∧ Aside0 (Kd.R Kd.string 9 wr w.heap.size (fun _ => True) xv ((a.take k).map rowS)) ∧ Aside0 (rowsOk (a.take k)) ∧ Aside0 (Below w.heap.size w wr)) (fun _ _ i _ => a.length - (intOf i).toNat)
  case atStart => exact ⟨0, q, Nat.zero_le _, rfl, rfl, ⟨by simp⟩, ⟨Kd.R_nil _ _ _ _ _⟩, ⟨by intro l hl; simp at hl⟩, ⟨HB1.out⟩⟩
  case round =>
    obtain ⟨k, t, hk, rfl, rfl, HT, HX, HO, HW⟩ := hrel
    by_cases hlt : k < a.length
    · obtain ⟨ad, A', c', e1, hc1, hle', hC'⟩ := at_row HA.out k hlt
      cases e1
      replace hc1 := pw_cell_below HW.out hc1
      have hbd := HSA.out k hlt
      have hos := rowsOk_succ hlt HO.out
      have hrs := rows_succ hlt
      have hss := fun hb => same_succ (a := a) (b := b) hlt hb
      generalize a.getD k [] = l at hc1 hle' hC' hbd hos hrs hss
      have HC1 := Lib.hid hC'; clear hC'
      have HOS := Lib.hid hos; clear hos
      have HRS := Lib.hid hrs; clear hrs
      have HSS := Lib.hid hss; clear hss
      obtain ⟨hbl, hbe⟩ := hbd
      have HBE := Lib.hid hbe; clear hbe
      go_wp2_with fail
      refine (long_calls l _ _ _ (Kd.C_below HC1.out HW.out) hbl HBE.out).mono ?_
      rintro e w2 ⟨rfl, hb2⟩
      have HB2 := Lib.hid (HW.out.trans (hb2.mono HW.out.size))
      have HX2 := Lib.hid (Kd.R_below HX.out hb2); clear hb2
      cases hg : decide (5000 < Pk.bulk (raws l)) with
      | true =>
        clear hg
        go_wp2
        go_ret
        exact ⟨rfl, HB2.out⟩
      | false =>
        have hkl := bulk_of_not hg
        clear hg
        go_wp2_with fail
        refine (Row_calls l _ (HG.out.below HB2.out) _ _ (Kd.C_below HC1.out HB2.out) (by omega)).mono ?_
        rintro e w3 ⟨rfl, hb3⟩
        have HB3 := Lib.hid (HB2.out.trans (hb3.mono HB2.out.size))
        have HX3 := Lib.hid (Kd.R_below HX2.out hb3); clear hb3
        have Z3 : w.heap.size ≤ w3.heap.size := HB3.out.size
        have htl : ((a.take k).map rowS).length = k := by rw [List.length_map, List.length_take]; omega
        have HTL := Lib.hid htl; clear htl
        cases t with
        | false =>
          go_wp2_with (first | (at_builtin; refine Kd.R_append Kd.string (w0 := w) w.heap.size rfl (.tmp 42) (.tmp 45) 22 9 (.string ⟨#[]⟩) 16 rfl Tryd.underlying22 info_str rfl (by decide) (by omega) u6 ((a.take k).map rowS) (rowS l) [.string (rowS l)] (fun _ => True) (fun _ => False) rfl rfl ?aP (fun _ hk => hk.elim) ?aF ?aO ?aB ?aS ?aL ?_; (case aP => exact rfl); (case aF => exact (fun _ _ => trivial)); (case aO => exact HX3.out); (case aB => exact HB3.out); (case aS => omega); (case aL => rw [HTL.out]; omega); intro v1 w4 ho hbb hg hat; have HX4 := Lib.hid ho; have HB4 := Lib.hid hbb; clear ho hbb hg hat))
          go_roundw
          case rel =>
            refine ⟨k + 1, false, by omega, by go_num, rfl, ⟨?_⟩, ⟨?_⟩, ⟨HOS.out hkl⟩, ⟨HB4.out⟩⟩
            · cases q with
              | false => rfl
              | true =>
                have he : a.length = b.length := of_decide_eq_true HQQ.out.symm
                rw [HSS.out (by omega), ← Bool.and_assoc, ← HT.out]
                rfl
            · rw [HRS.out]
              exact HX4.out
          case measure => simp [intOf]; omega
        | true =>
          have hqt : q = true := by
            have := HT.out
            cases q with
            | true => rfl
            | false => cases this
          subst hqt
          have he : a.length = b.length := of_decide_eq_true HQQ.out.symm
          have hkb : k < b.length := by omega
          clear he
          obtain ⟨ad2, A2, c2, e2, hc2, hle2, hC2⟩ := at_row HQ.out k hkb
          cases e2
          have hss := HSS.out hkb
          generalize b.getD k [] = m at hc2 hle2 hC2 hss
          have HC2 := Lib.hid hC2; clear hC2
          have HS2 := Lib.hid hss; clear hss
          go_wp2_with (first | (at_builtin; refine Kd.R_append Kd.string (w0 := w) w.heap.size rfl (.tmp 42) (.tmp 45) 22 9 (.string ⟨#[]⟩) 16 rfl Tryd.underlying22 info_str rfl (by decide) (by omega) u6 ((a.take k).map rowS) (rowS l) [.string (rowS l)] (fun _ => True) (fun _ => False) rfl rfl ?aP (fun _ hk => hk.elim) ?aF ?aO ?aB ?aS ?aL ?_; (case aP => exact rfl); (case aF => exact (fun _ _ => trivial)); (case aO => exact HX3.out); (case aB => exact HB3.out); (case aS => omega); (case aL => rw [HTL.out]; omega); intro v1 w4 ho hbb hg hat; have HX4 := Lib.hid ho; have HB4 := Lib.hid hbb; replace hc2 := pw_cell_below HB4.out hc2; clear ho hbb hg hat))
          refine (Same_calls l m _ _ _ _ _ (Kd.C_below HC1.out HB4.out) (Kd.C_below HC2.out HB4.out) hbl).mono ?_
          rintro e w5 ⟨rfl, hb5⟩
          have HB5 := Lib.hid (HB4.out.trans (hb5.mono HB4.out.size))
          have HX5 := Lib.hid (Kd.R_below HX4.out hb5); clear hb5
          obtain ⟨t2, ht2⟩ : ∃ t2, t2 = decide (l = m) := ⟨_, rfl⟩
          rw [← ht2]
          have HT2 := Lib.hid ht2; clear ht2
          go_wp2
          go_roundw
          case rel =>
            refine ⟨k + 1, t2, by omega, by go_num, by simp, ⟨?_⟩, ⟨?_⟩, ⟨HOS.out hkl⟩, ⟨HB5.out⟩⟩
            · rw [HS2.out, ← Bool.and_assoc, ← HT.out, ← HT2.out]
              rfl
            · rw [HRS.out]
              exact HX5.out
          case measure => simp [intOf]; omega
    · obtain rfl : k = a.length := by omega
      rename World => wA
      have hoa := HO.out
      have hxa := HX.out
      have hta := HT.out
      rw [List.take_length] at hoa hxa hta
      have HOA := Lib.hid hoa
      have HXA := Lib.hid hxa
      have HTA := Lib.hid hta
      clear hoa hxa hta HT HX HO
      go_wp2
      go_loopw [7, 65] (fun yv iv wq => ∃ (k : Nat), k ≤ b.length ∧ iv = .int .i64 k ∧ Aside0 (Kd.R Kd.string 9 wq wA.heap.size (fun _ => True) yv ((b.take k).map rowS)) ∧ Aside0 (rowsOk (b.take k)) ∧ Aside0 (Below wA.heap.size wA wq)) (fun _ i _ => b.length - (intOf i).toNat)
      case atStart => exact ⟨0, Nat.zero_le _, rfl, ⟨Kd.R_nil _ _ _ _ _⟩, ⟨by intro l hl; simp at hl⟩, ⟨Below.refl _ _⟩⟩
      case round =>
        obtain ⟨k, hk, rfl, HY, HO, HV⟩ := hrel
        by_cases hlt : k < b.length
        · obtain ⟨ad, A', c', e1, hc1, hle', hC'⟩ := at_row HQ.out k hlt
          cases e1
          have HB2 := Lib.hid (HW.out.trans (HV.out.mono HW.out.size))
          replace hc1 := pw_cell_below HB2.out hc1
          have hbd := HSB.out k hlt
          have hos := rowsOk_succ hlt HO.out
          have hrs := rows_succ hlt
          generalize b.getD k [] = l at hc1 hle' hC' hbd hos hrs
          have HC1 := Lib.hid hC'; clear hC'
          have HOS := Lib.hid hos; clear hos
          have HRS := Lib.hid hrs; clear hrs
          obtain ⟨hbl, hbe⟩ := hbd
          have HBE := Lib.hid hbe; clear hbe
          go_wp2_with fail
          refine (long_calls l _ _ _ (Kd.C_below HC1.out HB2.out) hbl HBE.out).mono ?_
          rintro e w3 ⟨rfl, hb3⟩
          have HV3 := Lib.hid (HV.out.trans (hb3.mono HV.out.size))
          have HB3 := Lib.hid (HB2.out.trans (hb3.mono HB2.out.size))
          have HY3 := Lib.hid (Kd.R_below HY.out hb3); clear hb3
          cases hg : decide (5000 < Pk.bulk (raws l)) with
          | true =>
            clear hg
            go_wp2
            go_ret
            exact ⟨rfl, HB3.out⟩
          | false =>
            have hkl := bulk_of_not hg
            clear hg
            go_wp2_with fail
            refine (Row_calls l _ (HG.out.below HB3.out) _ _ (Kd.C_below HC1.out HB3.out) (by omega)).mono ?_
            rintro e w4 ⟨rfl, hb4⟩
            have HV4 := Lib.hid (HV3.out.trans (hb4.mono HV3.out.size))
            have HB4 := Lib.hid (HB3.out.trans (hb4.mono HB3.out.size))
            have HY4 := Lib.hid (Kd.R_below HY3.out hb4); clear hb4
            have Z4 : wA.heap.size ≤ w4.heap.size := HV4.out.size
            have htl : ((b.take k).map rowS).length = k := by rw [List.length_map, List.length_take]; omega
            have HTL := Lib.hid htl; clear htl
            go_wp2_with (first | (at_builtin; refine Kd.R_append Kd.string (w0 := wA) wA.heap.size rfl (.tmp 71) (.tmp 74) 22 9 (.string ⟨#[]⟩) 16 rfl Tryd.underlying22 info_str rfl (by decide) (by omega) u7 ((b.take k).map rowS) (rowS l) [.string (rowS l)] (fun _ => True) (fun _ => False) rfl rfl ?aP (fun _ hk => hk.elim) ?aF ?aO ?aB ?aS ?aL ?_; (case aP => exact rfl); (case aF => exact (fun _ _ => trivial)); (case aO => exact HY4.out); (case aB => exact HV4.out); (case aS => omega); (case aL => rw [HTL.out]; omega); intro v1 w5 ho hbb hg hat; have HY5 := Lib.hid ho; have HV5 := Lib.hid hbb; clear ho hbb hg hat))
            go_roundw
            case rel =>
              refine ⟨k + 1, by omega, by go_num, ⟨?_⟩, ⟨HOS.out hkl⟩, ⟨HV5.out⟩⟩
              rw [HRS.out]
              exact HY5.out
            case measure => simp [intOf]; omega
        · obtain rfl : k = b.length := by omega
          have hob := HO.out
          have hyb := HY.out
          rw [List.take_length] at hob hyb
          have HOB := Lib.hid hob
          have hxq := Kd.R_below HXA.out HV.out
          have HB2 := Lib.hid (HW.out.trans (HV.out.mono HW.out.size))
          obtain ⟨AX, cX, rfl, hlX, hCX⟩ := Kd.R_reads hxq
          obtain ⟨AY, cY, rfl, hlY, hCY⟩ := Kd.R_reads hyb
          have HCX := Lib.hid hCX; have HCY := Lib.hid hCY
          clear hCX hCY hxq hyb hob HY HO HXA
          have hma : (a.map rowS).length = a.length := List.length_map ..
          have hmb : (b.map rowS).length = b.length := List.length_map ..
          rw [hma] at hlX
          rw [hmb] at hlY
          have HMA := Lib.hid hma; clear hma
          have HMB := Lib.hid hmb; clear hmb
          have hbx := bulk_rows a HOA.out
          have hby := bulk_rows b HOB.out
          go_wp2_with fail
          refine (Row_calls_n (a.map rowS) a.length HMA.out _ (HG.out.below HB2.out) _ _ HCX.out (by omega)).mono ?_
          rintro e w3 ⟨rfl, hb3⟩
          have HB3 := Lib.hid (HB2.out.trans (hb3.mono HB2.out.size))
          have HCX3 := Lib.hid (Kd.C_below HCX.out hb3)
          have HCY3 := Lib.hid (Kd.C_below HCY.out hb3); clear hb3
          have htx : Pk.texts (rowS (a.map rowS)).data.toList = .inr (raws (a.map rowS)) := by
            rw [rowS_data]
            exact Pk.texts_row _ (raws_small (by omega))
          have hzx : (rowS (a.map rowS)).size ≤ 1000000 := by
            have := row_len2 (raws (a.map rowS))
            show (Pk.row (raws (a.map rowS))).length ≤ _
            omega
          go_wp2_with fail
          refine (Texts_calls (rowS (a.map rowS)) (by omega) w3).mono ?_
          rintro e w4 ⟨v, rfl, hR, hb4⟩
          rw [htx] at hR ⊢
          simp only [textsL, textsE, mkS_raws] at hR ⊢
          have HB4 := Lib.hid (HB3.out.trans (hb4.mono HB3.out.size))
          have HCX4 := Lib.hid (Kd.C_below HCX3.out hb4)
          have HCY4 := Lib.hid (Kd.C_below HCY3.out hb4); clear hb4 htx hzx
          obtain ⟨AR, cR, rfl, hlR, hCR⟩ := Kd.R_reads hR
          have HCR := Lib.hid hCR
          clear hCR hR
          rw [HMA.out] at hlR ⊢
          go_wp2
          rename World => wC
          go_loopw [94] (fun iv wq => ∃ (k : Nat), k ≤ a.length ∧ iv = .int .i64 k ∧ Aside0 (Below wC.heap.size wC wq)) (fun i _ => a.length - (intOf i).toNat)
          case atStart => exact ⟨0, Nat.zero_le _, rfl, ⟨Below.refl _ _⟩⟩
          case round =>
            obtain ⟨k, hk, rfl, HV⟩ := hrel
            by_cases hlt : k < a.length
            · obtain ⟨ad, A', c', e1, hc1, hle', hC'⟩ := at_row HA.out k hlt
              cases e1
              obtain ⟨ar, e2, hr1⟩ := Kd.at_string (Kd.C_below HCR.out HV.out) k (by omega) (by rw [HMA.out]; omega)
              cases e2
              have HB5 := Lib.hid (HB4.out.trans (HV.out.mono HB4.out.size))
              replace hc1 := pw_cell_below HB5.out hc1
              have hr2 : wr.cell? (ar.add k) = some (.string (rowS (a.getD k []))) := by
                rw [← rows_getD hlt]
                exact hr1
              clear hr1
              have hok := rowsOk_getD hlt HOA.out
              obtain ⟨hbl, -⟩ := HSA.out k hlt
              generalize a.getD k [] = l at hc1 hle' hC' hr2 hok hbl
              have HC1 := Lib.hid hC'; clear hC'
              have hz := rowS_size2 l hok
              have htl : Pk.texts (rowS l).data.toList = .inr (raws l) := by
                rw [rowS_data]
                exact Pk.texts_row _ (raws_small (by omega))
              have HTL := Lib.hid htl; clear htl
              go_wp2_with fail
              refine (Texts_calls (rowS l) (by omega) wr).mono ?_
              rintro e w5 ⟨v, rfl, hR, hb5⟩
              rw [HTL.out] at hR ⊢
              simp only [textsL, textsE, mkS_raws] at hR ⊢
              replace hc1 := pw_cell_below hb5 hc1
              have HB6 := Lib.hid (HB5.out.trans (hb5.mono HB5.out.size))
              have HV6 := Lib.hid (HV.out.trans (hb5.mono HV.out.size))
              clear hb5
              obtain ⟨AL, cL, rfl, hlL, hCL⟩ := Kd.R_reads hR
              have HCL := Lib.hid hCL
              clear hCL hR
              go_wp2_with fail
              refine (Same_calls l l w5 _ _ _ _ HCL.out (Kd.C_below HC1.out HB6.out) hbl).mono ?_
              rintro e w6 ⟨rfl, hb6⟩
              have HV7 := Lib.hid (HV6.out.trans (hb6.mono HV6.out.size))
              clear hb6
              simp only [decide_true]
              go_wp2
              go_roundw
              case rel => exact ⟨k + 1, by omega, by go_num, ⟨HV7.out⟩⟩
              case measure => simp [intOf]; omega
            · obtain rfl : k = a.length := by omega
              have HB5 := Lib.hid (HB4.out.trans (HV.out.mono HB4.out.size))
              go_wp2_with fail
              refine (Row_calls_n (a.map rowS) a.length HMA.out _ (HG.out.below HB5.out) _ _ (Kd.C_below HCX4.out HV.out) (by omega)).mono ?_
              rintro e w5 ⟨rfl, hb5⟩
              have HB6 := Lib.hid (HB5.out.trans (hb5.mono HB5.out.size))
              have HV6 := Lib.hid (HV.out.trans (hb5.mono HV.out.size))
              clear hb5
              go_wp2_with fail
              refine (Row_calls_n (b.map rowS) b.length HMB.out _ (HG.out.below HB6.out) _ _ (Kd.C_below HCY4.out HV6.out) (by omega)).mono ?_
              rintro e w6 ⟨rfl, hb6⟩
              have HB7 := Lib.hid (HB6.out.trans (hb6.mono HB6.out.size))
              clear hb6
              have heq : ((rowS (a.map rowS)).toList == (rowS (b.map rowS)).toList) = t := by
                rw [rowS_inj' (by omega) (by omega), HTA.out, HQQ.out]
                exact same_all HOA.out HOB.out
              have HEQ := Lib.hid heq; clear heq
              go_wp2
              go_ret
              exact ⟨ret_bool (by rw [HEQ.out]; simp), HB7.out⟩
end Go.Proofs.YtccilpgdeblffaaDoor
