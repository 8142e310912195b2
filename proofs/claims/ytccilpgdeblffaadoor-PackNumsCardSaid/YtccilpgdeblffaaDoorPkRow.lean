/- Layer 1's Row: what a call of it does. Conditions: the texts together at most a million bytes; the library's table of powers of ten as it was laid. -/
import Derived.Test.YtccilpgdeblffaaDoorBld
import Derived.Test.YtccilpgdeblffaaDoorShelf
import Derived.Test.YtccilpgdeblffaaDoorGwBase
import Derived.Test.YtccilpgdeblffaaDoorPkPure
import Derived.Test.YtccilpgdeblffaaDoorWMore
import Derived.WalkKit
import Derived.WalkSpells
import Derived.Deep.LoopGhost
namespace Go.Proofs.YtccilpgdeblffaaDoor
open Go.RowKit Go.Gw Go.Proofs.YtccilpgdeblffaaDoorW.PrintWords
set_option linter.unusedVariables false
set_option linter.unusedSimpArgs false

theorem Itoa_calls (n : Nat) (hn : n ≤ 9223372036854775807) (w : World) (G : Tab Tryd.prog w) :
    Calls Tryd.prog 20 #[.int .i64 n] w fun e w' => e = .returned (.string ⟨(Lib.decDigits n).toArray⟩) ∧ Below w.heap.size w w' := by
  refine (Tryd.strconv_Itoa n (by omega) (by omega) w G.tab).mono ?_
  rintro e w' ⟨rfl, k, os, rfl⟩
  exact ⟨by rw [Lib.itoa_nonneg], below_grow (below_drewN' (Below.refl _ _) _) (Nat.le_refl _) _⟩

/-- Texts' bytes. -/
def raws (l : List ByteArray) : List (List UInt8) := l.map fun s => s.data.toList
def rowS (l : List ByteArray) : ByteArray := ⟨(Pk.row (raws l)).toArray⟩
theorem row_snoc (l : List (List UInt8)) (s : List UInt8) : Pk.row (l ++ [s]) = Pk.row l ++ Lib.decDigits s.length ++ [58] ++ s := by
  rw [Pk.row_append]; simp [Pk.row, Pk.cell]

theorem raws_take_len (l : List ByteArray) (k : Nat) : Pk.bulk (raws (l.take k)) ≤ Pk.bulk (raws l) := by
  induction l generalizing k with
  | nil => simp
  | cons s l ih =>
    cases k with
    | zero => simp [raws, Pk.bulk]
    | succ k => have := ih k; simp only [raws, List.take_succ_cons, List.map_cons, Pk.bulk] at this ⊢; omega
theorem take_get (l : List ByteArray) (k : Nat) (h : k < l.length) : raws (l.take (k + 1)) = raws (l.take k) ++ [(l.getD k ByteArray.empty).data.toList] := by
  rw [List.take_succ_eq_append_getElem h]
  simp only [raws, List.map_append, List.map_cons, List.map_nil, List.getD_eq_getElem?_getD, List.getElem?_eq_getElem h, Option.getD_some]
theorem row_take_len (l : List ByteArray) (k : Nat) (hb : Pk.bulk (raws l) ≤ 1000000) : (Pk.row (raws (l.take k))).length ≤ 10000000 := by
  have h1 := raws_take_len l k
  have := Pk.row_len (raws (l.take k)) (Pk.bulk_small (by omega))
  omega

set_option maxHeartbeats 1000000 in
set_option maxRecDepth 100000 in
theorem Row_calls (l : List ByteArray) (w : World) (G : Tab Tryd.prog w) (A : Option Addr) (c : Nat) (hr : Kd.C Kd.string w A l.length l) (hb : Pk.bulk (raws l) ≤ 1000000) :
    Calls Tryd.prog 10 #[.slice A l.length c] w fun e w' => e = .returned (.string (rowS l)) ∧ Below w.heap.size w w' := by
  have HR := Lib.hid hr; clear hr
  have HG := Lib.hid G; clear G
  have hll : l.length ≤ 1000000 := by
    have := Pk.bulk_len (raws l)
    simp only [raws, List.length_map] at this hb
    omega
  have HB := Lib.hid hb; clear hb
  go_enter Tryd.func10, Tryd.ntmps10
  go_wp2
  go_loopw [8] (fun i wr => ∃ k : Nat, k ≤ l.length ∧ i = .int .i64 k ∧ Aside0 (Lib.IsBuilder 45 5 w.heap.size w.heap.size (Lib.byteCells (Pk.row (raws (l.take k)))) wr) ∧ Aside0 (Below w.heap.size w wr)) (fun i _ => l.length - (intOf i).toNat)
  case atStart => exact ⟨0, Nat.zero_le _, rfl, ⟨by simpa [raws, Pk.row, Lib.byteCells] using Lib.fresh_isBuilder _ _ w⟩, ⟨(Below.refl _ _).alloc (Nat.le_refl _) _⟩⟩
  case round =>
    obtain ⟨k, hk, rfl, HI, HW⟩ := hrel
    by_cases hlt : k < l.length
    · obtain ⟨ad, e1, hc1⟩ := Kd.at_string (Kd.C_below HR.out HW.out) k (by omega) (by omega)
      cases e1
      have hc2 : wr.cell? (ad.add k) = some (.string (l.getD k ByteArray.empty)) := hc1
      clear hc1
      have hlen : (l.getD k ByteArray.empty).size ≤ 1000000 := by
        have := Pk.bulk_mem (l := raws l) (s := (l.getD k ByteArray.empty).data.toList) (by
          refine List.mem_map.2 ⟨_, ?_, rfl⟩
          rw [List.getD_eq_getElem?_getD, List.getElem?_eq_getElem hlt, Option.getD_some]
          exact List.getElem_mem hlt)
        have h2 := HB.out
        rw [data_length] at this
        omega
      generalize hs : l.getD k ByteArray.empty = s at hc2 hlen
      have HS := Lib.hid hs; clear hs
      go_wp2_with fail
      refine (Itoa_calls _ (by omega) _ (HG.out.below HW.out)).mono ?_
      rintro e w1 ⟨rfl, hb1⟩
      have HI1 := Aside0.mk (isBuilder_below HI.out hb1)
      have HB1 := Lib.hid hb1; clear hb1
      go_wp2_with fail
      have L1 : (Lib.byteCells (Pk.row (raws (l.take k)))).length ≤ 10000000 := by rw [Lib.byteCells_length]; exact row_take_len l k HB.out
      have L2 : (Lib.decDigits s.size).length ≤ 9 := Pk.dec_len s.size (by omega)
      have Z0 : w.heap.size ≤ wr.heap.size := HW.out.size
      have Z1 : wr.heap.size ≤ w1.heap.size := HB1.out.size
      refine (WriteString_calls _ _ _ _ _ HI1.out (by
        have : (⟨(Lib.decDigits s.size).toArray⟩ : ByteArray).size = (Lib.decDigits s.size).length := rfl
        omega) (by omega)).mono ?_
      rintro e w2 ⟨rfl, hI2, hb2⟩
      have HI2 := Lib.hid hI2; clear hI2
      have HB2 := Lib.hid hb2; clear hb2
      have Z2 : w1.heap.size ≤ w2.heap.size := HB2.out.size
      go_wp2_with fail
      refine (WriteByte_calls _ _ _ _ _ (.inr HI2.out) (by simp only [List.length_append, strCells_mk, Lib.byteCells_length] at L1 ⊢; omega) (by omega)).mono ?_
      rintro e w3 ⟨rfl, hI3, hb3⟩
      have HI3 := Lib.hid hI3; clear hI3
      have HB3 := Lib.hid hb3; clear hb3
      have Z3 : w2.heap.size ≤ w3.heap.size := HB3.out.size
      go_wp2_with fail
      refine (WriteString_calls _ _ _ _ _ (.inr HI3.out) (by simp only [List.length_append, strCells_mk, Lib.byteCells_length, List.length_cons, List.length_nil] at L1 ⊢; omega) (by omega)).mono ?_
      rintro e w4 ⟨rfl, hI4, hb4⟩
      have HI4 := Lib.hid hI4; clear hI4
      have HB4 := Lib.hid hb4; clear hb4
      go_wp2
      go_roundw
      case rel =>
        refine ⟨k + 1, by omega, by go_num, ⟨.inr ?_⟩, ⟨?_⟩⟩
        · rw [take_get l k hlt, HS.out, row_snoc, Lib.byteCells_append, Lib.byteCells_append, Lib.byteCells_append]
          have := HI4.out
          rw [data_length]
          simpa [strCells_mk, Lib.strCells_eq, Lib.byteCells] using this
        · exact (((HW.out.trans (HB1.out.mono Z0)).trans (HB2.out)).trans HB3.out).trans HB4.out
      case measure => simp [intOf]; omega
    · obtain rfl : k = l.length := by omega
      go_wp2_with fail
      refine (Tryd.Builder_String_any _ _ _ _ HI.out HW.out.size).mono ?_
      rintro e w1 ⟨rfl, hb1⟩
      have HB1 := Lib.hid hb1; clear hb1
      go_wp2
      go_ret
      exact ⟨by simp [rowS], HW.out.trans HB1.out⟩
end Go.Proofs.YtccilpgdeblffaaDoor
