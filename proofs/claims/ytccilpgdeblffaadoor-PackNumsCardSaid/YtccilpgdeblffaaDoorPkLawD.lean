/- Layer 1's law PackNums: what a call of it does. Conditions: the library's table of powers of ten and its two errors of numbers as they were laid; the text that came in takes at most 2^47 - 4096 bytes. -/
import Derived.Test.YtccilpgdeblffaaDoorPkNums
namespace Go.Proofs.YtccilpgdeblffaaDoor
open Go.RowKit Go.Gw Go.Proofs.YtccilpgdeblffaaDoorW.PrintWords
set_option linter.unusedVariables false
set_option linter.unusedSimpArgs false

theorem inRange_of_wf {n : Int} (h : (Lit.int .i64 n).wf = true) : Pk.inRange n := bounds_i64 h
set_option maxHeartbeats 2000000 in
set_option maxRecDepth 100000 in
theorem PackNums_row (n : Int) (s : ByteArray) (w : World) (G : Tab Tryd.prog w) (E : Errs Tryd.prog w) (hn : (Lit.int .i64 n).wf = true) (hb : s.size ≤ 140737488351232) :
    Calls Tryd.prog 7 #[.int .i64 n, .string s] w fun e w' => e = .returned (.bool true) ∧ Below w.heap.size w w' := by
  have HG := Lib.hid G; clear G
  have HE := Lib.hid E; clear E
  have HN := Lib.hid (inRange_of_wf hn); clear hn
  go_enter Tryd.func7, Tryd.ntmps7
  go_wp2_with fail
  refine (alive_calls _ HG.out).mono ?_
  rintro e w1 ⟨rfl, hb1⟩
  have HB1 := Lib.hid hb1; clear hb1
  by_cases hgt : 2000 < s.size
  · go_wp2
    go_ret
    exact ⟨rfl, HB1.out⟩
  go_wp2_with fail
  refine (Int_calls s (by omega) _ (HG.out.below HB1.out) (HE.out.below HB1.out)).mono ?_
  rintro e w2 ⟨rfl, hb2⟩
  have HB2 := Lib.hid (HB1.out.trans (hb2.mono HB1.out.size)); clear hb2 HB1
  rw [intOr]
  go_wp2_with fail
  refine (RInt_calls s (by omega) _).mono ?_
  rintro e w3 ⟨rfl, hb3⟩
  have HB3 := Lib.hid (HB2.out.trans (hb3.mono HB2.out.size)); clear hb3 HB2
  rw [intOr]
  have HQ : Hid (∀ m, Pk.int s.data.toList = some m → Pk.inRange m ∧ numS m = s) := fun m hm => by
    obtain ⟨h1, h2⟩ := Pk.int_some.1 hm
    exact ⟨h1, str_ext h2⟩
  generalize Pk.int s.data.toList = q at HQ
  go_wp2_with fail
  refine (Num_calls n HN.out _ (HG.out.below HB3.out)).mono ?_
  rintro e w4 ⟨rfl, hb4⟩
  have HB4 := Lib.hid (HB3.out.trans (hb4.mono HB3.out.size)); clear hb4 HB3
  go_wp2_with fail
  have hsz := numS_size HN.out
  refine (Int_calls (numS n) (by omega) _ (HG.out.below HB4.out) (HE.out.below HB4.out)).mono ?_
  rintro e w5 ⟨rfl, hb5⟩
  have HB5 := Lib.hid (HB4.out.trans (hb5.mono HB4.out.size)); clear hb5 HB4
  rw [show Pk.int (numS n).data.toList = some n from Pk.int_itoa n HN.out, intOr]
  simp only [Option.getD_some, Option.isSome_some]
  go_wp2_with fail
  refine (Num_calls n HN.out _ (HG.out.below HB5.out)).mono ?_
  rintro e w6 ⟨rfl, hb6⟩
  have HB6 := Lib.hid (HB5.out.trans (hb6.mono HB5.out.size)); clear hb6 HB5
  go_wp2_with fail
  refine (RNum_calls n.natAbs n rfl HN.out _).mono ?_
  rintro e w7 ⟨rfl, hb7⟩
  have HB7 := Lib.hid (HB6.out.trans (hb7.mono HB6.out.size)); clear hb7 HB6
  cases q with
  | none =>
    go_wp2
    go_ret
    exact ⟨ret_bool (by simp), HB7.out⟩
  | some m =>
    obtain ⟨hm, hq⟩ := HQ.out m rfl
    have HM := Lib.hid hm; have HS := Lib.hid hq; clear hm hq
    go_wp2_with fail
    refine (Num_calls m HM.out _ (HG.out.below HB7.out)).mono ?_
    rintro e w8 ⟨rfl, hb8⟩
    have HB8 := Lib.hid (HB7.out.trans (hb8.mono HB7.out.size)); clear hb8
    rw [HS.out]
    go_wp2
    go_ret
    exact ⟨ret_bool (by simp), HB8.out⟩
end Go.Proofs.YtccilpgdeblffaaDoor
