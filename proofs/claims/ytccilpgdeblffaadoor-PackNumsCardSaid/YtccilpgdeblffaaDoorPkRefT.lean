/- The reference's Texts: what a call of it does. Conditions: a million bytes at most. -/
import Derived.Test.YtccilpgdeblffaaDoorPkRef
namespace Go.Proofs.YtccilpgdeblffaaDoor
open Go.RowKit Go.Gw Go.Proofs.YtccilpgdeblffaaDoorW.PrintWords
set_option linter.unusedVariables false
set_option linter.unusedSimpArgs false

theorem drop_get (s : ByteArray) (a k : Nat) (h : a + k < s.size) : (s.data.toList.drop a).drop k = s[a + k] :: (s.data.toList.drop a).drop (k + 1) := by
  rw [List.drop_drop, List.drop_drop, data_get s (a + k) h]
  rfl
theorem hr_end (b : ByteArray) (a k n : Nat) (h : ¬ a + k < b.size) : Pk.head k n ((b.data.toList.drop a).drop k) = .inl 4 := by
  rw [List.drop_drop, List.drop_eq_nil_of_le (by rw [data_length]; omega), Pk.head]
theorem hr_colon (b : ByteArray) (a k n : Nat) (h : a + k < b.size) (hc : (b[a + k].toNat : Int) = 58) (h0 : 0 < k) : Pk.head k n ((b.data.toList.drop a).drop k) = .inr (n, (b.data.toList.drop a).drop (k + 1)) := by
  rw [drop_get b a k h, Pk.head, if_pos ⟨by omega, h0⟩]
theorem hr_bad (b : ByteArray) (a k n : Nat) (h : a + k < b.size) (h1 : ¬ ((b[a + k].toNat : Int) = 58 ∧ 0 < k)) (h2 : (b[a + k].toNat : Int) < 48 ∨ 57 < (b[a + k].toNat : Int) ∨ k = 9 ∨ (0 < k ∧ n = 0)) : Pk.head k n ((b.data.toList.drop a).drop k) = .inl 3 := by
  rw [drop_get b a k h, Pk.head, if_neg (by omega), if_pos (by omega)]
theorem hr_go (b : ByteArray) (a k n : Nat) (h : a + k < b.size) (h2 : ¬ ((b[a + k].toNat : Int) < 48 ∨ 57 < (b[a + k].toNat : Int) ∨ k = 9 ∨ (0 < k ∧ n = 0))) : Pk.head k n ((b.data.toList.drop a).drop k) = Pk.head (k + 1) (10 * n + (b[a + k].toNat - 48)) ((b.data.toList.drop a).drop (k + 1)) := by
  rw [drop_get b a k h, Pk.head, if_neg (by omega), if_neg (by omega)]

set_option maxHeartbeats 2000000 in
set_option maxRecDepth 100000 in
theorem RefTexts_calls (b : ByteArray) (hb : b.size ≤ 1000000) (w : World) :
    Calls Tryd.prog 14 #[.string b] w (TextsPost (Pk.texts b.data.toList) w) := by
  go_enter Tryd.func14, Tryd.ntmps14
  go_wp2
  go_loopw [4, 5] (fun lv av wr => ∃ (a : Nat) (l : List (List UInt8)), a ≤ b.size ∧ l.length ≤ a ∧ av = .int .i64 a ∧ Aside0 (Kd.R Kd.string 9 wr w.heap.size (fun _ => True) lv (l.map mkS)) ∧ Aside0 (Pk.texts b.data.toList = aheadT l (Pk.texts (b.data.toList.drop a))) ∧ Aside0 (Below w.heap.size w wr)) (fun _ a _ => b.size - (intOf a).toNat)
  case atStart => exact ⟨0, [], Nat.zero_le _, by simp, rfl, ⟨⟨fun _ _ => trivial, OwnRow.lit w w.heap.size (ps := []) (Reps.none _ _) (Nat.le_refl _) (by simp)⟩⟩, ⟨by rw [List.drop_zero]; cases Pk.texts b.data.toList <;> rfl⟩, ⟨(Below.refl _ _).alloc (Nat.le_refl _) _⟩⟩
  case round =>
    obtain ⟨a, l, ha, hla, rfl, HL, HT, HW⟩ := hrel
    by_cases h0 : a < b.size
    · obtain ⟨wo, hwo⟩ : ∃ wo : World, wo = wr := ⟨_, rfl⟩
      rw [← hwo] at HL HW ⊢
      clear hwo wr
      have hdne : b.data.toList.drop a ≠ [] := by rw [data_get b a h0]; simp
      have hF := Pk.texts_step _ hdne
      have HF := Lib.hid hF; clear hF
      go_wp2
      go_loopw [5, 6, 7] (fun av nv kv wr => ∃ (k n : Nat), a + k ≤ b.size ∧ k ≤ 9 ∧ n < 10 ^ k ∧ av = .int .i64 ((a + k : Nat) : Int) ∧ nv = .int .i64 n ∧ kv = .int .i64 k ∧ Aside0 (Pk.head 0 0 (b.data.toList.drop a) = Pk.head k n ((b.data.toList.drop a).drop k)) ∧ Aside0 (wr = wo)) (fun a _ _ _ => b.size - (intOf a).toNat)
      case atStart => exact ⟨0, 0, by omega, by omega, by decide, by simp, rfl, rfl, ⟨by rw [List.drop_zero]⟩, ⟨rfl⟩⟩
      case round =>
        obtain ⟨k, n, hk, hk9, hn, rfl, rfl, rfl, HH, HX⟩ := hrel
        obtain rfl := HX.out
        clear HX
        have hp10 : 10 ^ k ≤ 10 ^ 10 := Nat.pow_le_pow_right (by omega) (by omega)
        have hn2 : n ≤ 10000000000 := by omega
        clear hp10
        by_cases hlt : a + k < b.size
        · by_cases hd : 48 ≤ (b[a + k].toNat : Int) ∧ (b[a + k].toNat : Int) ≤ 57
          · obtain ⟨hd1, hd2⟩ := hd
            by_cases hbad : k = 9 ∨ (0 < k ∧ n = 0)
            · have hE := hr_bad b a k n hlt (by omega) (by omega)
              rw [← HH.out] at hE
              have HE := Lib.hid hE; clear hE
              go_wp2
              all_goals try simp only [beq_iff_eq, beq_eq_false_iff_ne, ne_eq] at *
              all_goals try (exfalso; omega)
              all_goals
                go_ret2
                refine ⟨.slice none 0 0, ?_, ?_, HW.out⟩
                · rw [HT.out, HF.out, HE.out]; rfl
                · rw [HT.out, HF.out, HE.out]; exact Kd.R_nil _ _ _ _ _
            · have hE := hr_go b a k n hlt (by omega)
              rw [← HH.out] at hE
              have HE := Lib.hid hE; clear hE
              go_wp2
              all_goals try simp only [beq_iff_eq, beq_eq_false_iff_ne, ne_eq] at *
              all_goals try (exfalso; omega)
              all_goals
                go_roundw
                case rel =>
                  refine ⟨k + 1, 10 * n + (b[a + k].toNat - 48), by omega, by omega, by rw [Nat.pow_succ]; omega, by go_num, ?_, by go_num, ⟨HE.out⟩, ⟨by first | rfl | trivial⟩⟩
                  congr 1
                  omega
                case measure => simp [intOf]; omega
          · by_cases hc : b[a + k].toNat = 58 ∧ 0 < k
            · obtain ⟨hc1, hc2⟩ := hc
              have hE := hr_colon b a k n hlt (by omega) hc2
              rw [← HH.out] at hE
              rw [hE] at HF
              have hl : ((b.data.toList.drop a).drop (k + 1)).length = b.size - (a + k + 1) := by
                rw [List.length_drop, List.length_drop, data_length]; omega
              have HL2 := Lib.hid hl; clear hl
              clear hE hd
              have hne : ((b[a + k].toNat : Int) != 58) = false := by simp; omega
              by_cases hn : b.size - (a + k + 1) < n
              · go_wp2
                all_goals try (exfalso; omega)
                all_goals
                  go_ret2
                  refine ⟨.slice none 0 0, ?_, ?_, HW.out⟩
                  · rw [HT.out, HF.out]
                    rw [if_pos (by rw [HL2.out]; exact hn)]
                    rfl
                  · rw [HT.out, HF.out]
                    rw [if_pos (by rw [HL2.out]; exact hn)]
                    exact Kd.R_nil _ _ _ _ _
              · go_wp2_with (first | go_in | (at_builtin; refine Kd.R_append Kd.string (w0 := w) w.heap.size rfl (.tmp 65) (.tmp 72) 22 9 (.string ⟨#[]⟩) 16 rfl Tryd.underlying22 info_str rfl (by decide) (by omega) u4 (l.map mkS) (b.extract (a + k + 1) (a + k + 1 + n)) [.string (b.extract (a + k + 1) (a + k + 1 + n))] (fun _ => True) (fun _ => False) rfl rfl ?aP (fun _ hk => hk.elim) ?aF ?aO ?aB ?aS ?aL ?_; (case aP => exact rfl); (case aF => exact (fun _ _ => trivial)); (case aO => exact HL.out); (case aB => exact HW.out); (case aS => exact HW.out.size); (case aL => simp only [List.length_map]; omega); intro v1 w2 ho hbb hg hat; have HO2 := Aside0.mk ho; have HBB := Aside0.mk hbb; clear ho hbb hg hat))
                all_goals try (exfalso; omega)
                all_goals
                  go_roundw
                  case rel =>
                    refine ⟨a + k + 1 + n, l ++ [((b.data.toList.drop a).drop (k + 1)).take n], by omega, by simp only [List.length_append, List.length_singleton]; omega, by go_num, ⟨?_⟩, ⟨?_⟩, ⟨HBB.out⟩⟩
                    · rw [List.map_append, List.map_cons, List.map_nil, show mkS (((b.data.toList.drop a).drop (k + 1)).take n) = b.extract (a + k + 1) (a + k + 1 + n) by
                        rw [ext_mid, List.drop_drop, show a + k + 1 + n - (a + k + 1) = n by omega, Nat.add_assoc]; rfl]
                      exact HO2.out
                    · rw [HT.out, HF.out]
                      rw [if_neg (by rw [HL2.out]; exact hn), List.drop_drop, List.drop_drop, show a + k + 1 + n = a + (k + 1 + n) by omega]
                      cases Pk.texts (b.data.toList.drop (a + (k + 1 + n))) with
                      | inl e => rfl
                      | inr m => simp [aheadT]
                  case measure => simp [intOf]; omega
            · have hE := hr_bad b a k n hlt (by omega) (by omega)
              rw [← HH.out] at hE
              have HE := Lib.hid hE; clear hE
              go_wp2
              all_goals try simp only [beq_iff_eq, beq_eq_false_iff_ne, bne_iff_ne, bne_eq_false_iff_eq, ne_eq] at *
              all_goals try (exfalso; omega)
              all_goals
                go_ret2
                refine ⟨.slice none 0 0, ?_, ?_, HW.out⟩
                · rw [HT.out, HF.out, HE.out]; rfl
                · rw [HT.out, HF.out, HE.out]; exact Kd.R_nil _ _ _ _ _
        · have hE := hr_end b a k n hlt
          rw [← HH.out] at hE
          have HE := Lib.hid hE; clear hE
          obtain rfl : k = b.size - a := by omega
          go_wp2
          all_goals try (exfalso; omega)
          all_goals
            go_ret2
            refine ⟨.slice none 0 0, ?_, ?_, HW.out⟩
            · rw [HT.out, HF.out, HE.out]; rfl
            · rw [HT.out, HF.out, HE.out]; exact Kd.R_nil _ _ _ _ _
    · go_wp2
      go_ret2
      have e0 : b.data.toList.drop a = [] := List.drop_eq_nil_of_le (by rw [data_length]; omega)
      refine ⟨u4, ?_, ?_, HW.out⟩
      · rw [HT.out, e0, Pk.texts_nil]
        rfl
      · rw [HT.out, e0, Pk.texts_nil]
        simpa [aheadT, textsL] using HL.out
end Go.Proofs.YtccilpgdeblffaaDoor
