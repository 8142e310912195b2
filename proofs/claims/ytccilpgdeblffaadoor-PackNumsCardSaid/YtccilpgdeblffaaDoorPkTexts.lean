/- Layer 1's head and Texts: what calls of them do. Conditions: the bytes at most a million. -/
import Derived.Test.YtccilpgdeblffaaDoorPkRow
import Derived.BigQuiet
import Derived.Deep.QuietTactic
namespace Go.Proofs.YtccilpgdeblffaaDoor
open Go.RowKit Go.Gw Go.Proofs.YtccilpgdeblffaaDoorW.PrintWords
set_option linter.unusedVariables false
set_option linter.unusedSimpArgs false

def headV : Nat ⊕ (Nat × List UInt8) → Value
  | .inl e => .tuple #[.int .i64 0, .string ⟨#[]⟩, .int .i64 e]
  | .inr (n, r) => .tuple #[.int .i64 n, .string ⟨r.toArray⟩, .int .i64 0]
theorem data_get (s : ByteArray) (k : Nat) (h : k < s.size) : s.data.toList.drop k = s[k] :: s.data.toList.drop (k + 1) := by
  rw [List.drop_eq_getElem_cons (by simpa using h)]; rfl

theorem hd_end (b : ByteArray) (k n : Nat) (h : ¬ k < b.size) : Pk.head k n (b.data.toList.drop k) = .inl 4 := by
  rw [List.drop_eq_nil_of_le (by rw [data_length]; omega), Pk.head]
theorem hd_colon (b : ByteArray) (k n : Nat) (h : k < b.size) (hc : (b[k].toNat : Int) = 58) (h0 : 0 < k) : Pk.head k n (b.data.toList.drop k) = .inr (n, b.data.toList.drop (k + 1)) := by
  rw [data_get b k h, Pk.head, if_pos ⟨by omega, h0⟩]
theorem hd_bad (b : ByteArray) (k n : Nat) (h : k < b.size) (h1 : ¬ ((b[k].toNat : Int) = 58 ∧ 0 < k)) (h2 : (b[k].toNat : Int) < 48 ∨ 57 < (b[k].toNat : Int) ∨ k = 9 ∨ (0 < k ∧ n = 0)) : Pk.head k n (b.data.toList.drop k) = .inl 3 := by
  rw [data_get b k h, Pk.head, if_neg (by omega), if_pos (by omega)]
theorem hd_go (b : ByteArray) (k n : Nat) (h : k < b.size) (h2 : ¬ ((b[k].toNat : Int) < 48 ∨ 57 < (b[k].toNat : Int) ∨ k = 9 ∨ (0 < k ∧ n = 0))) : Pk.head k n (b.data.toList.drop k) = Pk.head (k + 1) (10 * n + (b[k].toNat - 48)) (b.data.toList.drop (k + 1)) := by
  rw [data_get b k h, Pk.head, if_neg (by omega), if_neg (by omega)]

set_option maxHeartbeats 1000000 in
set_option maxRecDepth 100000 in
theorem head_calls (b : ByteArray) (hb : b.size ≤ 1000000) (w : World) :
    Calls Tryd.prog 23 #[.string b] w fun e w' => e = .returned (headV (Pk.head 0 0 b.data.toList)) ∧ Below w.heap.size w w' := by
  go_enter Tryd.func23, Tryd.ntmps23
  go_wp2
  go_loopw [5, 10] (fun nv iv wr => ∃ (k n : Nat), k ≤ b.size ∧ k ≤ 9 ∧ n < 10 ^ k ∧ iv = .int .i64 k ∧ nv = .int .i64 n ∧ Aside0 (Pk.head 0 0 b.data.toList = Pk.head k n (b.data.toList.drop k)) ∧ Aside0 (Below w.heap.size w wr)) (fun _ i _ => b.size - (intOf i).toNat)
  case atStart => exact ⟨0, 0, by omega, by omega, by decide, rfl, rfl, ⟨rfl⟩, ⟨Below.refl _ _⟩⟩
  case round =>
    obtain ⟨k, n, hk, hk10, hn, rfl, rfl, HH, HW⟩ := hrel
    have hp10 : 10 ^ k ≤ 10 ^ 10 := Nat.pow_le_pow_right (by omega) (by omega)
    have hn2 : n ≤ 10000000000 := by omega
    clear hp10
    by_cases hlt : k < b.size
    · go_wp2
      all_goals try simp only [beq_iff_eq, beq_eq_false_iff_ne, ne_eq] at *
      all_goals try (go_ret3; exact ⟨by rw [HH.out, hd_bad b k n hlt (by omega) (by omega)]; rfl, HW.out⟩)
      · go_quiet (fail)
        go_wp2
        go_ret3
        exact ⟨by rw [HH.out, hd_colon b k n hlt (by assumption) (by assumption), ext_drop]; rfl, below_drewN' HW.out _⟩
      all_goals
        go_roundw
        case rel =>
          refine ⟨k + 1, 10 * n + (b[k].toNat - 48), by omega, by omega, by rw [Nat.pow_succ]; omega, by go_num, ?_, ⟨?_⟩, ⟨HW.out⟩⟩
          · congr 1
            omega
          · rw [HH.out]
            exact hd_go b k n hlt (by omega)
        case measure => simp [intOf]; omega
    · go_wp2
      go_ret3
      exact ⟨by rw [HH.out, hd_end b k n hlt]; rfl, HW.out⟩

/-! ### Texts -/
def mkS (l : List UInt8) : ByteArray := ⟨l.toArray⟩
def textsE : Nat ⊕ List (List UInt8) → Int
  | .inl e => e
  | .inr _ => 0
def textsL : Nat ⊕ List (List UInt8) → List ByteArray
  | .inl _ => []
  | .inr l => l.map mkS
/-- What goes ahead of what is left. -/
def aheadT (l : List (List UInt8)) : Nat ⊕ List (List UInt8) → Nat ⊕ List (List UInt8)
  | .inl e => .inl e
  | .inr m => .inr (l ++ m)
theorem info_str : (Tryd.prog.info? 9).map (fun i => (i.zero, i.size, i.bytes)) = some (some (.string ⟨#[]⟩), 1, 16) := by kernel_rfl

/-- What Texts leaves: a row of its own, and the error's number. -/
def TextsPost (x : Nat ⊕ List (List UInt8)) (w : World) (e : Ending) (w' : World) : Prop :=
  ∃ v, e = .returned (.tuple #[v, .int .i64 (textsE x)]) ∧ Kd.R Kd.string 9 w' w.heap.size (fun _ => True) v (textsL x) ∧ Below w.heap.size w w'

set_option maxHeartbeats 1000000 in
set_option maxRecDepth 100000 in
theorem Texts_calls (b : ByteArray) (hb : b.size ≤ 1000000) (w : World) :
    Calls Tryd.prog 11 #[.string b] w (TextsPost (Pk.texts b.data.toList) w) := by
  go_enter Tryd.func11, Tryd.ntmps11
  go_wp2
  go_loopw [0, 4] (fun sv lv wr => ∃ (s : ByteArray) (l : List (List UInt8)), s.size ≤ b.size ∧ l.length + s.size ≤ b.size ∧ sv = .string s ∧ Aside0 (Kd.R Kd.string 9 wr w.heap.size (fun _ => True) lv (l.map mkS)) ∧ Aside0 (Pk.texts b.data.toList = aheadT l (Pk.texts s.data.toList)) ∧ Aside0 (Below w.heap.size w wr)) (fun s _ _ => match s with | .string s => s.size | _ => 0)
  case atStart => exact ⟨b, [], by omega, by simp, rfl, ⟨Kd.R_nil _ _ _ _ _⟩, ⟨by cases Pk.texts b.data.toList <;> rfl⟩, ⟨Below.refl _ _⟩⟩
  case round =>
    obtain ⟨s, l, hs, hls, rfl, HL, HT, HW⟩ := hrel
    by_cases h0 : s.data.toList = []
    · have hne : s.toList.isEmpty = true := by rw [Lib.toList_data, h0]; rfl
      go_wp2
      go_ret2
      refine ⟨u4, ?_, ?_, HW.out⟩
      · rw [HT.out, h0, Pk.texts_nil]
        rfl
      · rw [HT.out, h0, Pk.texts_nil]
        simpa [aheadT, textsL] using HL.out
    · have hne : s.toList.isEmpty = false := by rw [Lib.toList_data]; simpa using h0
      have HT2 := Pk.texts_step _ h0
      go_wp2_with fail
      refine (head_calls s (by omega) _).mono ?_
      rintro e w1 ⟨rfl, hb1⟩
      have HB1 := Lib.hid hb1; clear hb1
      cases hh : Pk.head 0 0 s.data.toList with
      | inl e =>
        rw [hh] at HT2
        have HF := Lib.hid HT2
        clear HT2
        have he := Pk.head_err _ _ _ _ hh
        have HE := Lib.hid hh; clear hh
        simp only [headV]
        rcases he with rfl | rfl
        all_goals
          go_wp2
          go_ret2
          refine ⟨.slice none 0 0, ?_, ?_, HW.out.trans (HB1.out.mono HW.out.size)⟩
          · rw [HT.out, HF.out]
            rfl
          · rw [HT.out, HF.out]
            exact Kd.R_nil _ _ _ _ _
      | inr p =>
        obtain ⟨n, r⟩ := p
        have hl := Pk.head_lt _ _ _ _ _ hh
        rw [hh] at HT2
        have HF := Lib.hid HT2
        clear HT2
        have HE := Lib.hid hh; clear hh
        rw [data_length] at hl
        simp only [headV]
        obtain ⟨rb, hrb⟩ : ∃ rb : ByteArray, rb = ⟨r.toArray⟩ := ⟨_, rfl⟩
        rw [← hrb]
        have hsz : r.length = rb.size := by rw [hrb]; rfl
        have hrd : r = rb.data.toList := by rw [hrb]
        have HRD := Lib.hid hrd
        clear hrb hrd
        by_cases hn : rb.size < n
        · have hn' : r.length < n := by omega
          have HS := Lib.hid hsz; clear hsz
          go_wp2
          go_ret2
          refine ⟨.slice none 0 0, ?_, ?_, HW.out.trans (HB1.out.mono HW.out.size)⟩
          · rw [HT.out, HF.out]
            simp only [if_pos hn']
            rfl
          · rw [HT.out, HF.out]
            simp only [if_pos hn']
            exact Kd.R_nil _ _ _ _ _
        · have HL1 := Aside0.mk (Kd.R_below HL.out HB1.out)
          have Z1 : wr.heap.size ≤ w1.heap.size := HB1.out.size
          have Z0 : w.heap.size ≤ wr.heap.size := HW.out.size
          have hn' : ¬ r.length < n := by omega
          have hn3 : n ≤ rb.size := by omega
          have hrs : rb.size < s.size := by omega
          have HS := Lib.hid hsz; clear hsz
          have HB0 := Lib.hid (HW.out.trans (HB1.out.mono HW.out.size))
          go_wp2_with (first | (at_builtin; refine Kd.R_append Kd.string (w0 := w) w.heap.size rfl (.tmp 25) (.tmp 29) 22 9 (.string ⟨#[]⟩) 16 rfl Tryd.underlying22 info_str rfl (by decide) (by omega) u4 (l.map mkS) (rb.extract 0 n) [.string (rb.extract 0 n)] (fun _ => True) (fun _ => False) rfl rfl ?aP (fun _ hk => hk.elim) ?aF ?aO ?aB ?aS ?aL ?_; (case aP => exact rfl); (case aF => exact (fun _ _ => trivial)); (case aO => exact HL1.out); (case aB => exact HB0.out); (case aS => omega); (case aL => simp only [List.length_map]; omega); intro v1 w2 ho hbb hg hat; have HO2 := Aside0.mk ho; have HBB := Aside0.mk hbb; clear ho hbb hg hat))
          go_roundw
          case rel =>
            have es : (rb.extract n rb.size).size = rb.size - n := by rw [ByteArray.size_extract]; omega
            refine ⟨rb.extract n rb.size, l ++ [r.take n], by omega, by rw [List.length_append, List.length_singleton]; omega, rfl, ⟨?_⟩, ⟨?_⟩, ⟨HBB.out⟩⟩
            · rw [List.map_append, List.map_cons, List.map_nil, show mkS (r.take n) = rb.extract 0 n by rw [ext_take, HRD.out]; rfl]
              exact HO2.out
            · rw [HT.out, HF.out, Lib.extract_to_end, ← HRD.out]
              simp only [if_neg hn']
              cases Pk.texts (r.drop n) with
              | inl e => rfl
              | inr m => simp [aheadT]
          case measure =>
            have es : (rb.extract n rb.size).size = rb.size - n := by rw [ByteArray.size_extract]; omega
            simp only [Array.getD_eq_getD_getElem?]
            simp
            omega
end Go.Proofs.YtccilpgdeblffaaDoor
