/- The reference's layer 1, and the law's guard: what calls of them do. Conditions: a million bytes at most where texts are written or read. -/
import Derived.Test.YtccilpgdeblffaaDoorPkTexts
import Derived.Lib.ConvBytes
namespace Go.Proofs.YtccilpgdeblffaaDoor
open Go.RowKit Go.Gw Go.Proofs.YtccilpgdeblffaaDoorW.PrintWords
set_option linter.unusedVariables false
set_option linter.unusedSimpArgs false

/-! ### long -/
theorem bulk_raws_succ (l : List ByteArray) (k : Nat) (h : k < l.length) : Pk.bulk (raws (l.take (k + 1))) = Pk.bulk (raws (l.take k)) + ((l.getD k ByteArray.empty).size + 1) := by
  rw [take_get l k h]
  generalize raws (l.take k) = m
  induction m with
  | nil => simp [Pk.bulk, data_length]
  | cons s m ih => rw [List.cons_append, Pk.bulk, ih, Pk.bulk]; omega

set_option maxHeartbeats 1000000 in
set_option maxRecDepth 100000 in
theorem long_calls (l : List ByteArray) (w : World) (A : Option Addr) (c : Nat) (hr : Kd.C Kd.string w A l.length l) (hl : l.length ≤ 140737488351232) (hs : ∀ k, k < l.length → (l.getD k ByteArray.empty).size ≤ 140737488351232) :
    Calls Tryd.prog 9 #[.slice A l.length c] w fun e w' => e = .returned (.bool (decide (5000 < Pk.bulk (raws l)))) ∧ Below w.heap.size w w' := by
  have HR := Lib.hid hr; clear hr
  have HS := Lib.hid hs; clear hs
  go_enter Tryd.func9, Tryd.ntmps9
  go_wp2
  go_loop [3, 8] (fun nv iv => ∃ k n : Nat, k ≤ l.length ∧ n ≤ 5000 ∧ iv = .int .i64 k ∧ nv = .int .i64 n ∧ Aside0 (n = Pk.bulk (raws (l.take k)))) (fun _ i => l.length - (intOf i).toNat)
  case atStart => exact ⟨0, 0, Nat.zero_le _, by omega, rfl, rfl, ⟨by simp [raws, Pk.bulk]⟩⟩
  case round =>
    obtain ⟨k, n, hk, hn, rfl, rfl, HN⟩ := hrel
    by_cases hlt : k < l.length
    · obtain ⟨ad, e1, hc1⟩ := Kd.at_string HR.out k (by omega) (by omega)
      cases e1
      have hc2 : w.cell? (ad.add k) = some (.string (l.getD k ByteArray.empty)) := hc1
      clear hc1
      have hlen := HS.out k hlt
      have HB := bulk_raws_succ l k hlt
      rw [← HN.out] at HB
      have HBT := raws_take_len l (k + 1)
      generalize hs : l.getD k ByteArray.empty = s at hc2 hlen HB
      have HS := Lib.hid hs; clear hs
      have HB := Lib.hid HB
      go_wp2
      · go_ret
        have := HB.out
        have hgt : 5000 < (n : Int) + (s.size + 1) := by assumption
        rw [decide_eq_true (by omega)]
        exact ⟨rfl, Below.refl _ _⟩
      · go_round
        case rel => exact ⟨k + 1, n + (s.size + 1), by omega, by omega, by go_num, by go_num, ⟨by rw [HB.out]⟩⟩
        case measure => simp [intOf]; omega
    · obtain rfl : k = l.length := by omega
      go_wp2
      go_ret
      have := HN.out
      rw [List.take_length] at this
      rw [decide_eq_false (by omega)]
      exact ⟨rfl, Below.refl _ _⟩

/-! ### digits -/
/-- One byte's row as a string. -/
theorem one_byte (x : Int) (w : World) : (convert 43 9 (.slice (some ⟨w.heap.size, 0, none⟩) 1 1)).run Tryd.prog (w.alloc (.cells #[.int .u8 x] 5)) = .ok (.string (strOfNums [x])) (w.alloc (.cells #[.int .u8 x] 5)) :=
  run_convert_bytes_arg _ _ _ Tryd.underlying43 Tryd.underlying5 w.heap.size 0 1 1 [x] rfl (fun i hi => by
    obtain rfl : i = 0 := by omega
    exact (World.cell?_alloc_new w _ _ 0).trans rfl) _ Tryd.underlying9
theorem strOf_dec (n : Nat) (h : n < 10) : strOfNums [48 + (n : Int)] = mkS (Lib.decDigits n) := by
  rw [Lib.decDigits_one h]
  show (⟨#[UInt8.ofNat (48 + (n : Int)).toNat]⟩ : ByteArray) = ⟨#[UInt8.ofNat (48 + n)]⟩
  rw [show (48 + (n : Int)).toNat = 48 + n by omega]
theorem mkS_append (a b : List UInt8) : mkS a ++ mkS b = mkS (a ++ b) := by
  apply str_ext
  rw [ByteArray.data_append, Array.toList_append]
  rfl
theorem mkS_size (a : List UInt8) : (mkS a).size = a.length := rfl
theorem mkS_data (a : List UInt8) : (mkS a).data.toList = a := rfl
theorem mkS_raw (s : ByteArray) : mkS s.data.toList = s := str_mk s

set_option maxHeartbeats 1000000 in
set_option maxRecDepth 100000 in
theorem digits_one (n : Nat) (h : n < 10) (w : World) :
    Calls Tryd.prog 24 #[.int .i64 n] w fun e w' => e = .returned (.string (mkS (Lib.decDigits n))) ∧ Below w.heap.size w w' := by
  have hcv := one_byte (48 + (n : Int)) w
  have HD := Lib.hid (strOf_dec n h)
  go_enter Tryd.func24, Tryd.ntmps24
  go_wp2
  go_ret
  exact ⟨ret_str HD.out, (Below.refl _ _).alloc (Nat.le_refl _) _⟩
set_option maxHeartbeats 1000000 in
set_option maxRecDepth 100000 in
theorem digits_calls (n : Nat) : n ≤ 9223372036854775807 → ∀ w : World,
    Calls Tryd.prog 24 #[.int .i64 n] w fun e w' => e = .returned (.string (mkS (Lib.decDigits n))) ∧ Below w.heap.size w w' := by
  induction n using Nat.strongRecOn with
  | _ n ih =>
    intro hn w
    by_cases h : n < 10
    · exact digits_one n h w
    · have IH := Lib.hid (ih (n / 10) (by omega) (by omega)); clear ih
      have HL : Hid ((Lib.decDigits n).length ≤ 100) := by
        have : ∀ (k u : Nat), u < 10 ^ k → 1 ≤ k → Lib.nDigits u ≤ k := by
          intro k
          induction k with
          | zero => intro u _ h; omega
          | succ k ih =>
            intro u hu _
            by_cases h : u < 10
            · rw [Lib.nDigits_small h]; omega
            · rw [Lib.nDigits_big h]
              rw [Nat.pow_succ] at hu
              rcases Nat.eq_zero_or_pos k with h0 | h0
              · subst h0; simp at hu; omega
              · have := ih (u / 10) (by omega) h0
                omega
        have h2 := this 100 n (by omega) (by omega)
        rw [← Lib.decDigits_length] at h2
        exact h2
      have HD : Hid (Lib.decDigits n = Lib.decDigits (n / 10) ++ Lib.decDigits (n % 10)) := by
        unfold Hid
        rw [Lib.decDigits, dif_neg h, Lib.decDigits_one (show n % 10 < 10 by omega)]
      have e1 : (n : Int) / 10 = ((n / 10 : Nat) : Int) := by omega
      have e2 : (n : Int) % 10 = ((n % 10 : Nat) : Int) := by omega
      have E1 := Lib.hid e1; clear e1
      have E2 := Lib.hid e2; clear e2
      have hlt : n % 10 < 10 := by omega
      have hh := HL.out
      rw [HD.out, List.length_append] at hh
      have hl1 : (mkS (Lib.decDigits (n / 10))).size ≤ 100 := by rw [mkS_size]; omega
      have hl2 : (mkS (Lib.decDigits (n % 10))).size ≤ 100 := by rw [mkS_size]; omega
      clear hh
      go_enter Tryd.func24, Tryd.ntmps24
      go_wp2_with fail
      rw [E1.out]
      refine (IH.out _).mono ?_
      rintro e w1 ⟨rfl, hb1⟩
      have HB1 := Lib.hid hb1; clear hb1
      go_wp2_with fail
      rw [E2.out]
      refine (digits_one _ hlt _).mono ?_
      rintro e w2 ⟨rfl, hb2⟩
      have HB2 := Lib.hid hb2; clear hb2
      go_wp2
      go_ret
      exact ⟨ret_str (by rw [HD.out, mkS_append]), HB1.out.trans (HB2.out.mono HB1.out.size)⟩

/-! ### Row -/
set_option maxHeartbeats 1000000 in
set_option maxRecDepth 100000 in
theorem RefRow_calls (l : List ByteArray) (w : World) (A : Option Addr) (c : Nat) (hr : Kd.C Kd.string w A l.length l) (hb : Pk.bulk (raws l) ≤ 1000000) :
    Calls Tryd.prog 12 #[.slice A l.length c] w fun e w' => e = .returned (.string (rowS l)) ∧ Below w.heap.size w w' := by
  have HR := Lib.hid hr; clear hr
  have hll : l.length ≤ 1000000 := by
    have := Pk.bulk_len (raws l)
    simp only [raws, List.length_map] at this hb
    omega
  have HB := Lib.hid hb; clear hb
  go_enter Tryd.func12, Tryd.ntmps12
  go_wp2
  go_loopw [3, 8] (fun bv iv wr => ∃ (k : Nat) (s : ByteArray), k ≤ l.length ∧ s.size ≤ 10000000 ∧ iv = .int .i64 k ∧ bv = .string s ∧ Aside0 (s = mkS (Pk.row (raws (l.take k)))) ∧ Aside0 (Below w.heap.size w wr)) (fun _ i _ => l.length - (intOf i).toNat)
  case atStart => exact ⟨0, ⟨#[]⟩, Nat.zero_le _, by decide, rfl, rfl, ⟨rfl⟩, ⟨Below.refl _ _⟩⟩
  case round =>
    obtain ⟨k, s, hk, hss, rfl, rfl, HS, HW⟩ := hrel
    by_cases hlt : k < l.length
    · obtain ⟨ad, e1, hc1⟩ := Kd.at_string (Kd.C_below HR.out HW.out) k (by omega) (by omega)
      cases e1
      have hc2 : wr.cell? (ad.add k) = some (.string (l.getD k ByteArray.empty)) := hc1
      clear hc1
      have hlen : (l.getD k ByteArray.empty).size ≤ 1000000 := by
        have := Pk.bulk_mem (l := raws l) (s := (l.getD k ByteArray.empty).data.toList) (by
          refine List.mem_map.2 ⟨_, ?_, rfl⟩
          rw [List.getD_eq_getElem?_getD, List.getElem?_eq_getElem hlt, Option.getD_some]
          exact List.getElem_mem hlt)
        have h2 := HB.out
        rw [data_length] at this
        omega
      generalize hs : l.getD k ByteArray.empty = x at hc2 hlen
      have HX := Lib.hid hs; clear hs
      have L2 : (mkS (Lib.decDigits x.size)).size ≤ 9 := Pk.dec_len x.size (by omega)
      have L3 : (mkS (Lib.decDigits x.size) ++ (⟨#[58]⟩ : ByteArray)).size = (mkS (Lib.decDigits x.size)).size + 1 := by rw [ByteArray.size_append]; rfl
      have L4 : (mkS (Lib.decDigits x.size) ++ (⟨#[58]⟩ : ByteArray) ++ x).size = (mkS (Lib.decDigits x.size)).size + 1 + x.size := by rw [ByteArray.size_append, L3]
      go_wp2_with fail
      refine (digits_calls _ (by omega) _).mono ?_
      rintro e w1 ⟨rfl, hb1⟩
      have HB1 := Lib.hid hb1; clear hb1
      go_wp2
      go_roundw
      case rel =>
        have hs2 : s ++ (mkS (Lib.decDigits x.size) ++ (⟨#[58]⟩ : ByteArray) ++ x) = mkS (Pk.row (raws (l.take (k + 1)))) := by
          rw [take_get l k hlt, HX.out, row_snoc, HS.out, data_length, show (⟨#[58]⟩ : ByteArray) = mkS [58] from rfl]
          have hx : x = mkS x.data.toList := (mkS_raw x).symm
          generalize Lib.decDigits x.size = dd
          conv => lhs; rw [hx]
          rw [mkS_append, mkS_append, mkS_append]
          simp
        refine ⟨k + 1, _, by omega, ?_, by go_num, rfl, ⟨hs2⟩, ⟨HW.out.trans (HB1.out.mono HW.out.size)⟩⟩
        rw [hs2]
        exact row_take_len l (k + 1) HB.out
      case measure => simp [intOf]; omega
    · obtain rfl : k = l.length := by omega
      go_wp2
      go_ret
      exact ⟨ret_str (by rw [HS.out, List.take_length]; rfl), HW.out⟩

/-! ### Same -/
set_option maxHeartbeats 1000000 in
set_option maxRecDepth 100000 in
theorem Same_calls (l m : List ByteArray) (w : World) (A B : Option Addr) (c d : Nat) (hr : Kd.C Kd.string w A l.length l) (hq : Kd.C Kd.string w B m.length m) (hl : l.length ≤ 140737488351232) :
    Calls Tryd.prog 13 #[.slice A l.length c, .slice B m.length d] w fun e w' => e = .returned (.bool (decide (l = m))) ∧ Below w.heap.size w w' := by
  have HR := Lib.hid hr; clear hr
  have HQ := Lib.hid hq; clear hq
  by_cases hlm : l.length = m.length
  · have h1 : ((l.length : Int) != (m.length : Int)) = false := by simp [hlm]
    have h2 : (l.length != m.length) = false := by simp [hlm]
    have HE := Lib.hid hlm; clear hlm
    go_enter Tryd.func13, Tryd.ntmps13
    go_wp2
    go_loopw [13] (fun iv wr => ∃ k : Nat, k ≤ l.length ∧ iv = .int .i64 k ∧ Aside0 (l.take k = m.take k) ∧ Aside0 (Below w.heap.size w wr)) (fun i _ => l.length - (intOf i).toNat)
    case atStart => exact ⟨0, Nat.zero_le _, rfl, ⟨rfl⟩, ⟨Below.refl _ _⟩⟩
    case round =>
      obtain ⟨k, hk, rfl, HT, HW⟩ := hrel
      by_cases hlt : k < l.length
      · have hlt2 : k < m.length := by have := HE.out; omega
        obtain ⟨ad, e1, hc1⟩ := Kd.at_string (Kd.C_below HR.out HW.out) k (by omega) (by omega)
        obtain ⟨ad2, e2, hd1⟩ := Kd.at_string (Kd.C_below HQ.out HW.out) k (by omega) (by omega)
        cases e1
        cases e2
        have hc2 : wr.cell? (ad.add k) = some (.string (l.getD k ByteArray.empty)) := hc1
        have hd2 : wr.cell? (ad2.add k) = some (.string (m.getD k ByteArray.empty)) := hd1
        clear hc1 hd1
        have el : l.take (k + 1) = l.take k ++ [l.getD k ByteArray.empty] := by
          rw [List.take_succ_eq_append_getElem hlt, List.getD_eq_getElem?_getD, List.getElem?_eq_getElem hlt, Option.getD_some]
        have em : m.take (k + 1) = m.take k ++ [m.getD k ByteArray.empty] := by
          rw [List.take_succ_eq_append_getElem hlt2, List.getD_eq_getElem?_getD, List.getElem?_eq_getElem hlt2, Option.getD_some]
        generalize l.getD k ByteArray.empty = x at hc2 el
        generalize m.getD k ByteArray.empty = y at hd2 em
        have EL := Lib.hid el; clear el
        have EM := Lib.hid em; clear em
        by_cases hxy : x.toList = y.toList
        · have b1 : (x.toList == y.toList) = true := by simpa using hxy
          have b2 : (x.toList != y.toList) = false := by simpa using hxy
          have HX := Lib.hid hxy; clear hxy
          go_wp2
          go_quiet (fail)
          go_wp2
          go_roundw
          case rel =>
            refine ⟨k + 1, by omega, by go_num, ⟨?_⟩, ⟨below_drewN' HW.out _⟩⟩
            rw [EL.out, EM.out, HT.out]
            congr 2
            apply str_ext
            rw [← Lib.toList_data, ← Lib.toList_data]
            exact HX.out
          case measure => simp [intOf]; omega
        · have b1 : (x.toList == y.toList) = false := by simpa using hxy
          have b2 : (x.toList != y.toList) = true := by simpa using hxy
          have HX := Lib.hid hxy; clear hxy
          go_wp2
          go_quiet (fail)
          go_wp2
          go_ret
          refine ⟨ret_bool (decide_eq_false ?_).symm, below_drewN' HW.out _⟩
          intro e
          have h3 : l.take (k + 1) = m.take (k + 1) := by rw [e]
          rw [EL.out, EM.out, HT.out] at h3
          have h4 := List.append_cancel_left h3
          simp only [List.cons.injEq, and_true] at h4
          exact HX.out (by rw [h4])
      · obtain rfl : k = l.length := by omega
        go_wp2
        go_ret
        have h3 := HT.out
        rw [List.take_length, List.take_of_length_le (by have := HE.out; omega)] at h3
        exact ⟨ret_bool (decide_eq_true h3).symm, HW.out⟩
  · have h1 : ((l.length : Int) != (m.length : Int)) = true := by simp; omega
    have h2 : (l.length != m.length) = true := by simpa using hlm
    have HE := Lib.hid hlm; clear hlm
    go_enter Tryd.func13, Tryd.ntmps13
    go_wp2
    go_ret
    exact ⟨ret_bool (decide_eq_false (fun e => HE.out (by rw [e]))).symm, Below.refl _ _⟩
end Go.Proofs.YtccilpgdeblffaaDoor
