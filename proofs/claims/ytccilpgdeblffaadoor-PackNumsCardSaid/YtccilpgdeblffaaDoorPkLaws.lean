/- Layer 1's laws: what calls of them do: each returns true. Conditions: the library's table of powers of ten as it was laid; each slice that came in takes at most 2^47 - 4096 bytes. -/
import Derived.Test.YtccilpgdeblffaaDoorPkRefT
import Derived.Test.YtccilpgdeblffaaDoorGwOpen
namespace Go.Proofs.YtccilpgdeblffaaDoor
open Go.RowKit Go.Gw Go.Proofs.YtccilpgdeblffaaDoorW.PrintWords
set_option linter.unusedVariables false
set_option linter.unusedSimpArgs false

def exS : ByteArray := ⟨#[50, 58, 97, 98, 48, 58]⟩
theorem ex_texts : Pk.texts [50, 58, 97, 98, 48, 58] = .inr [[97, 98], []] := by rfl
theorem ex_row : rowS [⟨#[97, 98]⟩, ⟨#[]⟩] = exS := by
  unfold rowS raws
  simp only [List.map_cons, List.map_nil, Pk.row, Pk.cell, List.length_cons, List.length_nil, Nat.zero_add, Nat.reduceAdd]
  rw [Lib.decDigits_one (by decide), Lib.decDigits_one (by decide)]
  rfl
/-- A literal row of two texts. -/
theorem lit2 (w : World) (x y : ByteArray) : Kd.C Kd.string (w.alloc (.cells #[.string x, .string y] 9)) (some ⟨w.heap.size, 0, none⟩) 2 [x, y] := by
  have h : Kd.R Kd.string 9 (w.alloc (.cells #[.string x, .string y] 9)) w.heap.size (fun _ => True) (.slice (some ⟨w.heap.size, 0, none⟩) 2 2) [x, y] :=
    ⟨fun _ _ => trivial, OwnRow.lit w w.heap.size (ps := [x, y]) (inner := [.string x, .string y]) (((Reps.none _ _).snoc (p := x) (c := [.string x]) rfl rfl).snoc (p := y) (c := [.string y]) rfl rfl) (Nat.le_refl _) (by simp)⟩
  obtain ⟨A, c, e, _, hC⟩ := Kd.R_reads h
  cases e
  exact hC

set_option maxHeartbeats 1000000 in
set_option maxRecDepth 100000 in
theorem alive_calls (w : World) (G : Tab Tryd.prog w) : Calls Tryd.prog 8 #[] w fun e w' => e = .returned (.bool true) ∧ Below w.heap.size w w' := by
  have HG := Lib.hid G; clear G
  go_enter Tryd.func8, Tryd.ntmps8
  go_wp2_with fail
  refine (Texts_calls exS (by decide) _).mono ?_
  rintro e w1 ⟨v, rfl, hR, hb1⟩
  rw [show exS.data.toList = [50, 58, 97, 98, 48, 58] from rfl, ex_texts] at hR ⊢
  obtain ⟨A, c, rfl, hle, hC⟩ := Kd.R_reads hR
  have HC := Lib.hid hC; clear hC hR
  have HB1 := Lib.hid hb1; clear hb1
  simp only [textsE, textsL, List.map_cons, List.map_nil, List.length_cons, List.length_nil, Nat.zero_add, Nat.reduceAdd] at HC hle ⊢
  go_wp2_with fail
  have hb2 := below_grow (os := #[.cells #[.string ⟨#[97, 98]⟩, .string ⟨#[]⟩] 9]) HB1.out HB1.out.size
  rw [← Sort.alloc_eq_grow] at hb2
  have HB2 := Lib.hid hb2; clear hb2
  refine (Row_calls [⟨#[97, 98]⟩, ⟨#[]⟩] _ (HG.out.below HB2.out) _ 2 (lit2 _ _ _) (by decide)).mono ?_
  rintro e w3 ⟨rfl, hb3⟩
  have hb4 := HB2.out.trans (hb3.mono HB2.out.size)
  have HB4 := Lib.hid hb4; clear hb4
  rw [ex_row]
  obtain ⟨ad, e1, hc1⟩ := Kd.at_string (Kd.C_below HC.out (((Below.refl _ _).alloc (Nat.le_refl _) _).trans (hb3.mono (by simp)))) 0 (by omega) (by omega)
  cases e1
  have hc2 : w3.cell? ad = some (.string ⟨#[97, 98]⟩) := by
    rw [show ad = ad.add 0 by simp [Addr.add]]
    exact hc1
  clear hc1 hb3
  have hex : exS.toList = [50, 58, 97, 98, 48, 58] := by rw [Lib.toList_data]; rfl
  go_wp2
  go_ret
  exact ⟨rfl, HB4.out⟩

/-- The guard's fact, small. -/
theorem bulk_of_not {l : List ByteArray} (h : decide (5000 < Pk.bulk (raws l)) = false) : Pk.bulk (raws l) ≤ 5000 := by
  have := of_decide_eq_false h
  omega
theorem raws_map (l : List ByteArray) : (raws l).map mkS = l := by
  induction l with
  | nil => rfl
  | cons s l ih => simp only [raws, List.map_cons] at ih ⊢; rw [ih, mkS_raw]
theorem raws_inj {l m : List ByteArray} : raws l = raws m ↔ l = m := by
  constructor
  · intro h
    rw [← raws_map l, ← raws_map m, h]
  · rintro rfl; rfl
theorem raws_small {l : List ByteArray} (h : Pk.bulk (raws l) ≤ 1000000) : ∀ s ∈ raws l, s.length < 1000000000 := Pk.bulk_small (by omega)
theorem rowS_data (l : List ByteArray) : (rowS l).data.toList = Pk.row (raws l) := rfl

/-! ### PackRows -/
set_option maxHeartbeats 1000000 in
set_option maxRecDepth 100000 in
theorem PackRows_calls (l : List ByteArray) (w : World) (G : Tab Tryd.prog w) (A : Option Addr) (c : Nat) (hr : Kd.C Kd.string w A l.length l) (hl : l.length ≤ 140737488351232) (hs : ∀ k, k < l.length → (l.getD k ByteArray.empty).size ≤ 140737488351232) :
    Calls Tryd.prog 3 #[.slice A l.length c] w fun e w' => e = .returned (.bool true) ∧ Below w.heap.size w w' := by
  have HR := Lib.hid hr; clear hr
  have HG := Lib.hid G; clear G
  have HS := Lib.hid hs; clear hs
  go_enter Tryd.func3, Tryd.ntmps3
  go_wp2_with fail
  refine (alive_calls _ HG.out).mono ?_
  rintro e w1 ⟨rfl, hb1⟩
  have HB1 := Lib.hid hb1; clear hb1
  go_wp2_with fail
  refine (long_calls l _ _ _ (Kd.C_below HR.out HB1.out) hl HS.out).mono ?_
  rintro e w2 ⟨rfl, hb2⟩
  have HB2 := Lib.hid (HB1.out.trans (hb2.mono HB1.out.size)); clear hb2
  cases hg : decide (5000 < Pk.bulk (raws l)) with
  | true =>
    clear hg
    go_wp2
    go_ret
    exact ⟨rfl, HB2.out⟩
  | false =>
    have hbk := bulk_of_not hg
    clear hg
    go_wp2_with fail
    refine (Row_calls l _ (HG.out.below HB2.out) _ _ (Kd.C_below HR.out HB2.out) (by omega)).mono ?_
    rintro e w3 ⟨rfl, hb3⟩
    have HB3 := Lib.hid (HB2.out.trans (hb3.mono HB2.out.size)); clear hb3
    go_wp2_with fail
    have hrs : (rowS l).size ≤ 1000000 := by
      have := Pk.row_len (raws l) (raws_small (by omega))
      show (Pk.row (raws l)).toArray.size ≤ _
      rw [List.size_toArray]
      omega
    refine (Texts_calls (rowS l) hrs _).mono ?_
    rintro e w4 ⟨v, rfl, hR, hb4⟩
    rw [rowS_data, Pk.texts_row _ (raws_small (by omega))] at hR ⊢
    have HB4 := Lib.hid (HB3.out.trans (hb4.mono HB3.out.size)); clear hb4
    obtain ⟨A4, c4, rfl, hle, hC⟩ := Kd.R_reads hR
    have HC := Lib.hid hC; clear hC hR hle hrs
    simp only [textsE, textsL, raws_map] at HC ⊢
    go_wp2_with fail
    refine (RefRow_calls l _ _ _ (Kd.C_below HR.out HB4.out) (by omega)).mono ?_
    rintro e w5 ⟨rfl, hb5⟩
    have HC5 := Lib.hid (Kd.C_below HC.out hb5)
    have HB5 := Lib.hid (HB4.out.trans (hb5.mono HB4.out.size)); clear hb5
    go_wp2_with fail
    refine (Same_calls l l _ _ _ _ _ HC5.out (Kd.C_below HR.out HB5.out) hl).mono ?_
    rintro e w6 ⟨rfl, hb6⟩
    have HB6 := Lib.hid (HB5.out.trans (hb6.mono HB5.out.size)); clear hb6
    go_wp2
    go_ret
    exact ⟨by simp, HB6.out⟩
theorem getD_bd {l : List ByteArray} (h : rowBd 16 strBd l) : l.length ≤ 140737488351232 ∧ ∀ k, k < l.length → (l.getD k ByteArray.empty).size ≤ 140737488351232 :=
  ⟨by have := h.1; omega, fun k hk => h.2 _ (by rw [List.getD_eq_getElem?_getD, List.getElem?_eq_getElem hk, Option.getD_some]; exact List.getElem_mem hk)⟩
theorem PackRows_row (l : List ByteArray) (w : World) (G : Tab Tryd.prog w) {A : Option Addr} {c : Nat} (hr : Kd.C Kd.string w A l.length l) (_ : l.length ≤ c) (hb : rowBd 16 strBd l) :
    Calls Tryd.prog 3 #[.slice A l.length c] w fun e w' => e = .returned (.bool true) ∧ Below w.heap.size w w' :=
  PackRows_calls l w G A c hr (getD_bd hb).1 (getD_bd hb).2
end Go.Proofs.YtccilpgdeblffaaDoor
