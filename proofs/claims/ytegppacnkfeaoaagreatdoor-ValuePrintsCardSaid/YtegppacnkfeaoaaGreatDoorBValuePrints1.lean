/- Texts towards the law ValuePrints, one behind the other: each begins with its own sentence. Conditions: each theorem's own. -/
import Derived.Laws.Cover1
import Derived.RegionTactic
import Derived.BigRegion
import Derived.Test.YtegppacnkfeaoaaGreatDoorBValuePrints0
set_option linter.unusedSectionVars false
set_option linter.unusedVariables false
set_option linter.unusedSimpArgs false
/- value's may on a value: kind by kind. Conditions: each contract's own. -/
namespace Go.Proofs.YtegppacnkfeaoaaGreatDoor.G
open Go.RowKit Go.Gw Go.Proofs.YtegppacnkfeaoaaGreatDoorW.PrintWords Go.Proofs.YtegppacnkfeaoaaGreatDoorW.PrintLast Go.Proofs.YtegppacnkfeaoaaGreatDoorW.PrintMore
set_option linter.unusedVariables false
set_option linter.unusedSimpArgs false

theorem Left.put {w w1 : World} {g b : Nat} {n : Int} (h : Left w g n w1) {i : Nat} (hb : w.heap.size ≤ b) (hne : g ≠ b) (u : Value) : Left w g n (w1.setCell ⟨b, i, none⟩ u) :=
  ⟨h.os, h.tape, h.output, by simpa using h.size, fun k hk hg => (Below.heap_setCell w1 ⟨b, i, none⟩ u k (show k ≠ b by omega)).trans (h.block k hk hg), (Below.heap_setCell w1 ⟨b, i, none⟩ u g hne).trans h.count⟩
theorem Left.drew {w w1 : World} {g : Nat} {n : Int} (h : Left w g n w1) : Left w g n w1.drew := h.below (below_drew (Below.refl _ _))

set_option maxHeartbeats 4000000 in
set_option maxRecDepth 100000 in
theorem may_stop (kd n : Int) (s : ByteArray) (l : List S25) (ks : List ByteArray) (deep left : Int) (g : Nat) (A3 : Option Addr) (c3 : Nat) (A4 : Option Addr) (c4 : Nat) (w : World) (d1 : 1 ≤ deep) (d2 : deep ≤ 61) (l1 : 0 ≤ left) (l2 : left ≤ 20000) (hg : CountAt w g left) (hs : 60 < deep ∨ left - 1 < 0) :
    Calls Tryz.prog 37 #[.agg #[.int .i64 kd, .int .i64 n, .string s, .slice A3 l.length c3, .slice A4 ks.length c4], .int .i64 deep, .pointer (some ⟨g, 0, none⟩)] w fun e w' => e = .returned (.bool false) ∧ Left w g (left - 1) w' := by
  have z : g < w.heap.size := blk_lt hg
  have HG := Lib.hid hg; clear hg
  have hu := Tryz.underlying25
  go_enter Tryz.func37, Tryz.ntmps37
  by_cases hd : 60 < deep
  · clear hs
    go_wp2_with (first | ((with_reducible refine gate_dst (N := 3) rfl ?_); (refine box_event ?hg (N := 3) ?hd (cs := #[.int .i64 kd, .int .i64 n, .string s, .slice A3 l.length c3, .slice A4 ks.length c4]) (t := 25) ?hr ?_; (case hd => rfl); (case hg => rfl); (case hr => first | (go_simp; done) | (go_simp; rfl)); intro b3 e3 w3 k3 m3; have z3 := Nat.le_of_eq e3.symm; clear e3; have K3 := Aside0.mk k3; have M3 := Aside0.mk m3; have G3 := Aside0.mk ((m3.block g (blk_lt HG.out)).trans HG.out); clear k3 m3)) | ((with_reducible refine gate_dst (N := 4) rfl ?_); (refine box_event ?hg (N := 4) ?hd (cs := #[.int .i64 deep]) (t := 3) ?hr ?_; (case hd => rfl); (case hg => rfl); (case hr => first | (go_simp; done) | (go_simp; rfl)); intro b4 e4 w4 k4 m4; have z4 := Nat.le_trans M3.out.size (Nat.le_of_eq e4.symm); clear e4; have K4 := Aside0.mk k4; have K3' := Aside0.mk (blk_below K3.out m4); have M4 := Aside0.mk (M3.out.trans (m4.mono M3.out.size)); have G4 := Aside0.mk ((m4.block g (blk_lt G3.out)).trans G3.out); clear k4 m4 K3 M3 G3)) | ((with_reducible refine gate_dst (N := 5) rfl ?_); (refine box_event ?hg (N := 5) ?hd (cs := #[.pointer (some ⟨g, 0, none⟩)]) (t := 46) ?hr ?_; (case hd => rfl); (case hg => rfl); (case hr => first | (go_simp; done) | (go_simp; rfl)); intro b5 e5 w5 k5 m5; have z5 := Nat.le_trans M4.out.size (Nat.le_of_eq e5.symm); clear e5; have K5 := Aside0.mk k5; have K4' := Aside0.mk (blk_below K4.out m5); have K3 := Aside0.mk (blk_below K3'.out m5); have M5 := Aside0.mk (M4.out.trans (m5.mono M4.out.size)); have G5 := Aside0.mk ((m5.block g (blk_lt G4.out)).trans G4.out); clear k5 m5 K3' K4 M4 G4; have N3 := Nat.ne_of_gt (Nat.lt_of_lt_of_le z z3); have N4 := Nat.ne_of_gt (Nat.lt_of_lt_of_le z z4); have N5 := Nat.ne_of_gt (Nat.lt_of_lt_of_le z z5); have cw5_b5_0 : w5.cell? ⟨b5, 0, none⟩ = some (.pointer (some ⟨g, 0, none⟩)) := (blk_cell K5.out 0).trans rfl; have fw5_b5_0 := blk_frozen K5.out 0; have cw5_g_0 : w5.cell? ⟨g, 0, none⟩ = some (.int .i64 left) := (blk_cell G5.out 0).trans rfl; have fw5_g_0 := blk_frozen G5.out 0; )) | ((with_reducible refine gate_store (t := 3) (p := 13) rfl ?_); (refine store_event (t := 3) (p := 13) (v := ?vo_w6) (w1 := w5.setCell ⟨g, 0, none⟩ (.int .i64 (left - 1))) ?hg ?ho ?hn ?hr ?_; (case ho => rfl); (case hg => rfl); (case hn => rfl); (case hr => first | (go_simp; done) | (go_simp; rfl)); intro w6 hw; have L6 := Aside0.mk (show Left w g (left - 1) w6 by rw [hw]; exact Left.from M5.out (Left.set G5.out (left - 1))); have h_ := blk_far (p := ⟨g, 0, none⟩) K3.out N3 (.int .i64 (left - 1)); rw [← hw] at h_; have K36 := Aside0.mk h_; clear h_; have h_ := blk_far (p := ⟨g, 0, none⟩) K4'.out N4 (.int .i64 (left - 1)); rw [← hw] at h_; have K46 := Aside0.mk h_; clear h_; have h_ := blk_far (p := ⟨g, 0, none⟩) K5.out N5 (.int .i64 (left - 1)); rw [← hw] at h_; have K56 := Aside0.mk h_; clear h_; have G6 := Aside0.mk L6.out.count; clear hw K3 K4' K5 G5 M5 cw5_b5_0 fw5_b5_0 cw5_g_0 fw5_g_0; have cw6_b3_0 : w6.cell? ⟨b3, 0, none⟩ = some (.int .i64 kd) := (blk_cell K36.out 0).trans rfl; have fw6_b3_0 := blk_frozen K36.out 0; have cw6_b4_0 : w6.cell? ⟨b4, 0, none⟩ = some (.int .i64 deep) := (blk_cell K46.out 0).trans rfl; have fw6_b4_0 := blk_frozen K46.out 0; have cw6_b5_0 : w6.cell? ⟨b5, 0, none⟩ = some (.pointer (some ⟨g, 0, none⟩)) := (blk_cell K56.out 0).trans rfl; have fw6_b5_0 := blk_frozen K56.out 0; have cw6_g_0 : w6.cell? ⟨g, 0, none⟩ = some (.int .i64 (left - 1)) := (blk_cell G6.out 0).trans rfl; have fw6_g_0 := blk_frozen G6.out 0; )))
    go_ret
    exact ⟨rfl, L6.out⟩
  · have hl : left - 1 < 0 := by omega
    clear hs
    go_wp2_with (first | ((with_reducible refine gate_dst (N := 3) rfl ?_); (refine box_event ?hg (N := 3) ?hd (cs := #[.int .i64 kd, .int .i64 n, .string s, .slice A3 l.length c3, .slice A4 ks.length c4]) (t := 25) ?hr ?_; (case hd => rfl); (case hg => rfl); (case hr => first | (go_simp; done) | (go_simp; rfl)); intro b3 e3 w3 k3 m3; have z3 := Nat.le_of_eq e3.symm; clear e3; have K3 := Aside0.mk k3; have M3 := Aside0.mk m3; have G3 := Aside0.mk ((m3.block g (blk_lt HG.out)).trans HG.out); clear k3 m3)) | ((with_reducible refine gate_dst (N := 4) rfl ?_); (refine box_event ?hg (N := 4) ?hd (cs := #[.int .i64 deep]) (t := 3) ?hr ?_; (case hd => rfl); (case hg => rfl); (case hr => first | (go_simp; done) | (go_simp; rfl)); intro b4 e4 w4 k4 m4; have z4 := Nat.le_trans M3.out.size (Nat.le_of_eq e4.symm); clear e4; have K4 := Aside0.mk k4; have K3' := Aside0.mk (blk_below K3.out m4); have M4 := Aside0.mk (M3.out.trans (m4.mono M3.out.size)); have G4 := Aside0.mk ((m4.block g (blk_lt G3.out)).trans G3.out); clear k4 m4 K3 M3 G3)) | ((with_reducible refine gate_dst (N := 5) rfl ?_); (refine box_event ?hg (N := 5) ?hd (cs := #[.pointer (some ⟨g, 0, none⟩)]) (t := 46) ?hr ?_; (case hd => rfl); (case hg => rfl); (case hr => first | (go_simp; done) | (go_simp; rfl)); intro b5 e5 w5 k5 m5; have z5 := Nat.le_trans M4.out.size (Nat.le_of_eq e5.symm); clear e5; have K5 := Aside0.mk k5; have K4' := Aside0.mk (blk_below K4.out m5); have K3 := Aside0.mk (blk_below K3'.out m5); have M5 := Aside0.mk (M4.out.trans (m5.mono M4.out.size)); have G5 := Aside0.mk ((m5.block g (blk_lt G4.out)).trans G4.out); clear k5 m5 K3' K4 M4 G4; have N3 := Nat.ne_of_gt (Nat.lt_of_lt_of_le z z3); have N4 := Nat.ne_of_gt (Nat.lt_of_lt_of_le z z4); have N5 := Nat.ne_of_gt (Nat.lt_of_lt_of_le z z5); have cw5_b5_0 : w5.cell? ⟨b5, 0, none⟩ = some (.pointer (some ⟨g, 0, none⟩)) := (blk_cell K5.out 0).trans rfl; have fw5_b5_0 := blk_frozen K5.out 0; have cw5_g_0 : w5.cell? ⟨g, 0, none⟩ = some (.int .i64 left) := (blk_cell G5.out 0).trans rfl; have fw5_g_0 := blk_frozen G5.out 0; )) | ((with_reducible refine gate_store (t := 3) (p := 13) rfl ?_); (refine store_event (t := 3) (p := 13) (v := ?vo_w6) (w1 := w5.setCell ⟨g, 0, none⟩ (.int .i64 (left - 1))) ?hg ?ho ?hn ?hr ?_; (case ho => rfl); (case hg => rfl); (case hn => rfl); (case hr => first | (go_simp; done) | (go_simp; rfl)); intro w6 hw; have L6 := Aside0.mk (show Left w g (left - 1) w6 by rw [hw]; exact Left.from M5.out (Left.set G5.out (left - 1))); have h_ := blk_far (p := ⟨g, 0, none⟩) K3.out N3 (.int .i64 (left - 1)); rw [← hw] at h_; have K36 := Aside0.mk h_; clear h_; have h_ := blk_far (p := ⟨g, 0, none⟩) K4'.out N4 (.int .i64 (left - 1)); rw [← hw] at h_; have K46 := Aside0.mk h_; clear h_; have h_ := blk_far (p := ⟨g, 0, none⟩) K5.out N5 (.int .i64 (left - 1)); rw [← hw] at h_; have K56 := Aside0.mk h_; clear h_; have G6 := Aside0.mk L6.out.count; clear hw K3 K4' K5 G5 M5 cw5_b5_0 fw5_b5_0 cw5_g_0 fw5_g_0; have cw6_b3_0 : w6.cell? ⟨b3, 0, none⟩ = some (.int .i64 kd) := (blk_cell K36.out 0).trans rfl; have fw6_b3_0 := blk_frozen K36.out 0; have cw6_b4_0 : w6.cell? ⟨b4, 0, none⟩ = some (.int .i64 deep) := (blk_cell K46.out 0).trans rfl; have fw6_b4_0 := blk_frozen K46.out 0; have cw6_b5_0 : w6.cell? ⟨b5, 0, none⟩ = some (.pointer (some ⟨g, 0, none⟩)) := (blk_cell K56.out 0).trans rfl; have fw6_b5_0 := blk_frozen K56.out 0; have cw6_g_0 : w6.cell? ⟨g, 0, none⟩ = some (.int .i64 (left - 1)) := (blk_cell G6.out 0).trans rfl; have fw6_g_0 := blk_frozen G6.out 0; )))
    go_ret
    exact ⟨rfl, L6.out⟩


theorem mayT_no {v : S25} {deep left : Int} (d : deep ≤ 60) (l : 1 ≤ left) (h : ¬ nodeP v) : mayT v deep left = (false, left - 1) := by
  rw [mayT_eq, if_neg (by omega), if_neg (by rw [nodeB_iff]; exact h)]
theorem mayT_yes {v : S25} {deep left : Int} (d : deep ≤ 60) (l : 1 ≤ left) (h : nodeP v) : mayT v deep left = mayTs v.f3 (deep + 1) (left - 1) := by
  rw [mayT_eq, if_neg (by omega), if_pos (by rw [nodeB_iff]; exact h)]
theorem bne_t {a b : Nat} (h : ((a : Int) != (b : Int)) = true) : a ≠ b := by
  rintro rfl
  simp at h
theorem bne_f {a b : Nat} (h : ((a : Int) != (b : Int)) = false) : a = b := by
  have := bne_eq_false_iff_eq.1 h
  omega
theorem size_nil {s : ByteArray} : s.toList = [] ↔ s.size = 0 := by
  rw [Lib.toList_data, ← data_length, List.length_eq_zero_iff]
theorem node0 {s : ByteArray} {l : List S25} {ks : List ByteArray} : nodeP ⟨0, 0, s, l, ks⟩ ↔ s.size = 0 ∧ l.length = 0 ∧ ks.length = 0 := by simp [nodeP]
theorem node1 {n : Int} {s : ByteArray} {l : List S25} {ks : List ByteArray} : nodeP ⟨1, n, s, l, ks⟩ ↔ (n = 0 ∨ n = 1) ∧ s.size = 0 ∧ l.length = 0 ∧ ks.length = 0 := by simp [nodeP]
theorem node2 {n : Int} {s : ByteArray} {l : List S25} {ks : List ByteArray} : nodeP ⟨2, n, s, l, ks⟩ ↔ s.size = 0 ∧ l.length = 0 ∧ ks.length = 0 := by simp [nodeP]
theorem node3 {s : ByteArray} {l : List S25} {ks : List ByteArray} : nodeP ⟨3, 0, s, l, ks⟩ ↔ s.size ≤ 65536 ∧ l.length = 0 ∧ ks.length = 0 := by simp [nodeP]
theorem node4 {s : ByteArray} {l : List S25} {ks : List ByteArray} : nodeP ⟨4, 0, s, l, ks⟩ ↔ s.size = 0 ∧ l.length ≤ 1000 ∧ ks.length = 0 := by simp [nodeP]
theorem node5 {s : ByteArray} {l : List S25} {ks : List ByteArray} : nodeP ⟨5, 0, s, l, ks⟩ ↔ s.size = 0 ∧ l.length = ks.length ∧ risesP ks := by simp [nodeP]
theorem nodeN {kd n : Int} {s : ByteArray} {l : List S25} {ks : List ByteArray} (h1 : kd ≠ 1) (h2 : kd ≠ 2) (hn : n ≠ 0) : ¬ nodeP ⟨kd, n, s, l, ks⟩ := by
  intro h
  simp only [nodeP] at h
  omega

set_option maxHeartbeats 4000000 in
set_option maxRecDepth 100000 in
theorem may_0 (v : S25) (s : ByteArray) (l : List S25) (ks : List ByteArray) (hv : Hid (v = ⟨0, 0, s, l, ks⟩)) (deep left : Int) (g : Nat) (A3 : Option Addr) (c3 : Nat) (A4 : Option Addr) (c4 : Nat) (w : World) (d1 : 1 ≤ deep) (d2 : deep ≤ 61) (l1 : 0 ≤ left) (l2 : left ≤ 20000) (hg : CountAt w g left) (d3 : deep ≤ 60) (l3 : 1 ≤ left) (hr3 : FA g w A3 l) (hc3 : l.length ≤ c3) (hr4 : FS g w A4 ks) (hc4 : ks.length ≤ c4) (ih : ∀ x ∈ l, MayOK x) :
    Calls Tryz.prog 37 #[.agg #[.int .i64 0, .int .i64 0, .string s, .slice A3 l.length c3, .slice A4 ks.length c4], .int .i64 deep, .pointer (some ⟨g, 0, none⟩)] w fun e w' => e = .returned (.bool (mayT v deep left).1) ∧ Left w g (mayT v deep left).2 w' := by
  have z : g < w.heap.size := blk_lt hg
  have HG := Lib.hid hg; clear hg
  have hu := Tryz.underlying25
  have HR3 := Lib.hid hr3; clear hr3
  have HR4 := Lib.hid hr4; clear hr4
  have IH := Lib.hid ih; clear ih
  have l4 : ¬ left - 1 < 0 := by omega
  have d4 : ¬ 60 < deep := by omega
  go_enter Tryz.func37, Tryz.ntmps37

  go_wp2_with (first | ((with_reducible refine gate_dst (N := 3) rfl ?_); (refine box_event ?hg (N := 3) ?hd (cs := #[.int .i64 0, .int .i64 0, .string s, .slice A3 l.length c3, .slice A4 ks.length c4]) (t := 25) ?hr ?_; (case hd => rfl); (case hg => rfl); (case hr => first | (go_simp; done) | (go_simp; rfl)); intro b3 e3 w3 k3 m3; have z3 := Nat.le_of_eq e3.symm; clear e3; have K3 := Aside0.mk k3; have M3 := Aside0.mk m3; have G3 := Aside0.mk ((m3.block g (blk_lt HG.out)).trans HG.out); clear k3 m3)) | ((with_reducible refine gate_dst (N := 4) rfl ?_); (refine box_event ?hg (N := 4) ?hd (cs := #[.int .i64 deep]) (t := 3) ?hr ?_; (case hd => rfl); (case hg => rfl); (case hr => first | (go_simp; done) | (go_simp; rfl)); intro b4 e4 w4 k4 m4; have z4 := Nat.le_trans M3.out.size (Nat.le_of_eq e4.symm); clear e4; have K4 := Aside0.mk k4; have K3' := Aside0.mk (blk_below K3.out m4); have M4 := Aside0.mk (M3.out.trans (m4.mono M3.out.size)); have G4 := Aside0.mk ((m4.block g (blk_lt G3.out)).trans G3.out); clear k4 m4 K3 M3 G3)) | ((with_reducible refine gate_dst (N := 5) rfl ?_); (refine box_event ?hg (N := 5) ?hd (cs := #[.pointer (some ⟨g, 0, none⟩)]) (t := 46) ?hr ?_; (case hd => rfl); (case hg => rfl); (case hr => first | (go_simp; done) | (go_simp; rfl)); intro b5 e5 w5 k5 m5; have z5 := Nat.le_trans M4.out.size (Nat.le_of_eq e5.symm); clear e5; have K5 := Aside0.mk k5; have K4' := Aside0.mk (blk_below K4.out m5); have K3 := Aside0.mk (blk_below K3'.out m5); have M5 := Aside0.mk (M4.out.trans (m5.mono M4.out.size)); have G5 := Aside0.mk ((m5.block g (blk_lt G4.out)).trans G4.out); clear k5 m5 K3' K4 M4 G4; have N3 := Nat.ne_of_gt (Nat.lt_of_lt_of_le z z3); have N4 := Nat.ne_of_gt (Nat.lt_of_lt_of_le z z4); have N5 := Nat.ne_of_gt (Nat.lt_of_lt_of_le z z5); have cw5_b5_0 : w5.cell? ⟨b5, 0, none⟩ = some (.pointer (some ⟨g, 0, none⟩)) := (blk_cell K5.out 0).trans rfl; have fw5_b5_0 := blk_frozen K5.out 0; have cw5_g_0 : w5.cell? ⟨g, 0, none⟩ = some (.int .i64 left) := (blk_cell G5.out 0).trans rfl; have fw5_g_0 := blk_frozen G5.out 0; )) | ((with_reducible refine gate_store (t := 3) (p := 13) rfl ?_); (refine store_event (t := 3) (p := 13) (v := ?vo_w6) (w1 := w5.setCell ⟨g, 0, none⟩ (.int .i64 (left - 1))) ?hg ?ho ?hn ?hr ?_; (case ho => rfl); (case hg => rfl); (case hn => rfl); (case hr => first | (go_simp; done) | (go_simp; rfl)); intro w6 hw; have L6 := Aside0.mk (show Left w g (left - 1) w6 by rw [hw]; exact Left.from M5.out (Left.set G5.out (left - 1))); have h_ := blk_far (p := ⟨g, 0, none⟩) K3.out N3 (.int .i64 (left - 1)); rw [← hw] at h_; have K36 := Aside0.mk h_; clear h_; have h_ := blk_far (p := ⟨g, 0, none⟩) K4'.out N4 (.int .i64 (left - 1)); rw [← hw] at h_; have K46 := Aside0.mk h_; clear h_; have h_ := blk_far (p := ⟨g, 0, none⟩) K5.out N5 (.int .i64 (left - 1)); rw [← hw] at h_; have K56 := Aside0.mk h_; clear h_; have G6 := Aside0.mk L6.out.count; clear hw K3 K4' K5 G5 M5 cw5_b5_0 fw5_b5_0 cw5_g_0 fw5_g_0; have cw6_b3_0 : w6.cell? ⟨b3, 0, none⟩ = some (.int .i64 0) := (blk_cell K36.out 0).trans rfl; have fw6_b3_0 := blk_frozen K36.out 0; have cw6_b4_0 : w6.cell? ⟨b4, 0, none⟩ = some (.int .i64 deep) := (blk_cell K46.out 0).trans rfl; have fw6_b4_0 := blk_frozen K46.out 0; have cw6_b5_0 : w6.cell? ⟨b5, 0, none⟩ = some (.pointer (some ⟨g, 0, none⟩)) := (blk_cell K56.out 0).trans rfl; have fw6_b5_0 := blk_frozen K56.out 0; have cw6_g_0 : w6.cell? ⟨g, 0, none⟩ = some (.int .i64 (left - 1)) := (blk_cell G6.out 0).trans rfl; have fw6_g_0 := blk_frozen G6.out 0; )) | ((with_reducible refine gate_dst (N := 7) rfl ?_); (refine box_event ?hg (N := 7) ?hd (cs := #[.int .i64 0, .int .i64 0, .string ⟨#[]⟩, .slice none 0 0, .slice none 0 0]) (t := 25) ?hr ?_; (case hd => rfl); (case hg => rfl); (case hr => first | (go_simp; done) | (go_simp; rfl)); intro b7 e7 w7 k7 m7; have z7 := Nat.le_trans L6.out.size (Nat.le_of_eq e7.symm); have n37 : b3 ≠ b7 := Nat.ne_of_lt (Nat.lt_of_lt_of_eq (blk_lt K36.out) e7.symm); have n47 : b4 ≠ b7 := Nat.ne_of_lt (Nat.lt_of_lt_of_eq (blk_lt K46.out) e7.symm); have n57 : b5 ≠ b7 := Nat.ne_of_lt (Nat.lt_of_lt_of_eq (blk_lt K56.out) e7.symm); have n7g : g ≠ b7 := Nat.ne_of_lt (Nat.lt_of_lt_of_le z z7); clear e7; have K7 := Aside0.mk k7; have L7 := Aside0.mk (L6.out.below m7); have K37 := Aside0.mk (blk_below K36.out m7); have K47 := Aside0.mk (blk_below K46.out m7); have K57 := Aside0.mk (blk_below K56.out m7); clear k7 m7 L6 K36 K46 K56 G6 cw6_b3_0 fw6_b3_0 cw6_b4_0 fw6_b4_0 cw6_b5_0 fw6_b5_0 cw6_g_0 fw6_g_0; have cw7_b7_0 : w7.cell? ⟨b7, 0, none⟩ = some (.int .i64 0) := (blk_cell K7.out 0).trans rfl; have fw7_b7_0 := blk_frozen K7.out 0; have cw7_b7_1 : w7.cell? ⟨b7, 1, none⟩ = some (.int .i64 0) := (blk_cell K7.out 1).trans rfl; have fw7_b7_1 := blk_frozen K7.out 1; have cw7_b7_2 : w7.cell? ⟨b7, 2, none⟩ = some (.string ⟨#[]⟩) := (blk_cell K7.out 2).trans rfl; have fw7_b7_2 := blk_frozen K7.out 2; have cw7_b7_3 : w7.cell? ⟨b7, 3, none⟩ = some (.slice none 0 0) := (blk_cell K7.out 3).trans rfl; have fw7_b7_3 := blk_frozen K7.out 3; have cw7_b7_4 : w7.cell? ⟨b7, 4, none⟩ = some (.slice none 0 0) := (blk_cell K7.out 4).trans rfl; have fw7_b7_4 := blk_frozen K7.out 4; )) | ((with_reducible refine gate_store (t := 25) (p := 7) rfl ?_); (refine store_event (t := 25) (p := 7) (v := ?vo_w8) (w1 := (((((w7.setCell ⟨b7, 0, none⟩ (.int .i64 0)).setCell ⟨b7, 1, none⟩ (.int .i64 0)).setCell ⟨b7, 2, none⟩ (.string ⟨#[]⟩)).setCell ⟨b7, 3, none⟩ (.slice none 0 0)).setCell ⟨b7, 4, none⟩ (.slice none 0 0))) ?hg ?ho ?hn ?hr ?_; (case ho => rfl); (case hg => rfl); (case hn => rfl); (case hr => first | (go_simp; done) | (go_simp; rfl)); intro w8 hw; have K78 : Aside0 (w8.heap[b7]? = some (.cells #[.int .i64 0, .int .i64 0, .string ⟨#[]⟩, .slice none 0 0, .slice none 0 0] 25 (0, 0))) := ⟨by rw [hw]; simpa using blk_set (blk_set (blk_set (blk_set (blk_set K7.out 0 (.int .i64 0)) 1 (.int .i64 0)) 2 (.string ⟨#[]⟩)) 3 (.slice none 0 0)) 4 (.slice none 0 0)⟩; have h_ := (blk_far (p := ⟨b7, 4, none⟩) (blk_far (p := ⟨b7, 3, none⟩) (blk_far (p := ⟨b7, 2, none⟩) (blk_far (p := ⟨b7, 1, none⟩) (blk_far (p := ⟨b7, 0, none⟩) K37.out n37 (.int .i64 0)) n37 (.int .i64 0)) n37 (.string ⟨#[]⟩)) n37 (.slice none 0 0)) n37 (.slice none 0 0)); rw [← hw] at h_; have K38 := Aside0.mk h_; clear h_; have h_ := (blk_far (p := ⟨b7, 4, none⟩) (blk_far (p := ⟨b7, 3, none⟩) (blk_far (p := ⟨b7, 2, none⟩) (blk_far (p := ⟨b7, 1, none⟩) (blk_far (p := ⟨b7, 0, none⟩) K47.out n47 (.int .i64 0)) n47 (.int .i64 0)) n47 (.string ⟨#[]⟩)) n47 (.slice none 0 0)) n47 (.slice none 0 0)); rw [← hw] at h_; have K48 := Aside0.mk h_; clear h_; have h_ := (blk_far (p := ⟨b7, 4, none⟩) (blk_far (p := ⟨b7, 3, none⟩) (blk_far (p := ⟨b7, 2, none⟩) (blk_far (p := ⟨b7, 1, none⟩) (blk_far (p := ⟨b7, 0, none⟩) K57.out n57 (.int .i64 0)) n57 (.int .i64 0)) n57 (.string ⟨#[]⟩)) n57 (.slice none 0 0)) n57 (.slice none 0 0)); rw [← hw] at h_; have K58 := Aside0.mk h_; clear h_; have L8 : Aside0 (Left w g (left - 1) w8) := ⟨by rw [hw]; exact ((((L7.out.put z7 n7g _).put z7 n7g _).put z7 n7g _).put z7 n7g _).put z7 n7g _⟩; have G8 := Aside0.mk L8.out.count; clear hw K7 K37 K47 K57 L7 cw7_b7_0 fw7_b7_0 cw7_b7_1 fw7_b7_1 cw7_b7_2 fw7_b7_2 cw7_b7_3 fw7_b7_3 cw7_b7_4 fw7_b7_4; have cw8_b3_0 : w8.cell? ⟨b3, 0, none⟩ = some (.int .i64 0) := (blk_cell K38.out 0).trans rfl; have fw8_b3_0 := blk_frozen K38.out 0; have cw8_b3_1 : w8.cell? ⟨b3, 1, none⟩ = some (.int .i64 0) := (blk_cell K38.out 1).trans rfl; have fw8_b3_1 := blk_frozen K38.out 1; have cw8_b3_2 : w8.cell? ⟨b3, 2, none⟩ = some (.string s) := (blk_cell K38.out 2).trans rfl; have fw8_b3_2 := blk_frozen K38.out 2; have cw8_b3_3 : w8.cell? ⟨b3, 3, none⟩ = some (.slice A3 l.length c3) := (blk_cell K38.out 3).trans rfl; have fw8_b3_3 := blk_frozen K38.out 3; have cw8_b3_4 : w8.cell? ⟨b3, 4, none⟩ = some (.slice A4 ks.length c4) := (blk_cell K38.out 4).trans rfl; have fw8_b3_4 := blk_frozen K38.out 4; have cw8_b7_0 : w8.cell? ⟨b7, 0, none⟩ = some (.int .i64 0) := (blk_cell K78.out 0).trans rfl; have fw8_b7_0 := blk_frozen K78.out 0; have cw8_b7_1 : w8.cell? ⟨b7, 1, none⟩ = some (.int .i64 0) := (blk_cell K78.out 1).trans rfl; have fw8_b7_1 := blk_frozen K78.out 1; have cw8_b7_2 : w8.cell? ⟨b7, 2, none⟩ = some (.string ⟨#[]⟩) := (blk_cell K78.out 2).trans rfl; have fw8_b7_2 := blk_frozen K78.out 2; have cw8_b7_3 : w8.cell? ⟨b7, 3, none⟩ = some (.slice none 0 0) := (blk_cell K78.out 3).trans rfl; have fw8_b7_3 := blk_frozen K78.out 3; have cw8_b7_4 : w8.cell? ⟨b7, 4, none⟩ = some (.slice none 0 0) := (blk_cell K78.out 4).trans rfl; have fw8_b7_4 := blk_frozen K78.out 4; have cw8_b4_0 : w8.cell? ⟨b4, 0, none⟩ = some (.int .i64 deep) := (blk_cell K48.out 0).trans rfl; have fw8_b4_0 := blk_frozen K48.out 0; have cw8_b5_0 : w8.cell? ⟨b5, 0, none⟩ = some (.pointer (some ⟨g, 0, none⟩)) := (blk_cell K58.out 0).trans rfl; have fw8_b5_0 := blk_frozen K58.out 0; )))
  all_goals first | (refine (has_calls l IH.out deep (left - 1) g b4 b5 A3 c3 w8 (by omega) d3 (by omega) (by omega) L8.out.count N4 K48.out K58.out (L8.out.fa HR3.out) hc3).mono ?_; rintro e w9 ⟨rfl, hl9⟩; have H9 := Lib.hid (L8.out.trans hl9); clear hl9; go_wp2; go_ret; have hn : nodeP ⟨0, 0, s, l, ks⟩ := ?hn; rotate_left; (case hn => (refine node0.2 ⟨size_nil.1 ?_, ?_, ?_⟩; assumption; (suffices h_ : (0 : Int) = l.length by omega); assumption; (suffices h_ : ((l.length : Int) != (ks.length : Int)) = false by (suffices h2_ : (0 : Int) = l.length by (have := bne_f h_; omega)); assumption); assumption)); have hy := mayT_yes (deep := deep) (left := left) d3 l3 hn; exact ⟨ret_bool (by rw [hv.out, hy] <;> simp), by rw [hv.out, hy]; exact H9.out⟩) | (go_ret; have hn : ¬ nodeP ⟨0, 0, s, l, ks⟩ := ?hn; rotate_left; (case hn => first | (refine fun h => absurd (size_nil.2 (node0.1 h).1) ?_; assumption) | (intro h; have q := (node0.1 h).2.1; (suffices h_ : ¬ (0 : Int) = l.length by omega); assumption) | (intro h; have q := (node0.1 h).2; (suffices h_ : ((l.length : Int) != (ks.length : Int)) = true by (have := bne_t h_; omega)); assumption)); have hy := mayT_no (deep := deep) (left := left) d3 l3 hn; exact ⟨ret_bool (by rw [hv.out, hy]), by rw [hv.out, hy]; exact L8.out⟩)

set_option maxHeartbeats 4000000 in
set_option maxRecDepth 100000 in
theorem may_1a (v : S25) (n : Int) (s : ByteArray) (l : List S25) (ks : List ByteArray) (hv : Hid (v = ⟨1, n, s, l, ks⟩)) (deep left : Int) (g : Nat) (A3 : Option Addr) (c3 : Nat) (A4 : Option Addr) (c4 : Nat) (w : World) (d1 : 1 ≤ deep) (d2 : deep ≤ 61) (l1 : 0 ≤ left) (l2 : left ≤ 20000) (hg : CountAt w g left) (d3 : deep ≤ 60) (l3 : 1 ≤ left) (hr3 : FA g w A3 l) (hc3 : l.length ≤ c3) (hr4 : FS g w A4 ks) (hc4 : ks.length ≤ c4) (ih : ∀ x ∈ l, MayOK x) (hn : Hid (n = 0)) (h0 : (n == 0) = true) :
    Calls Tryz.prog 37 #[.agg #[.int .i64 1, .int .i64 n, .string s, .slice A3 l.length c3, .slice A4 ks.length c4], .int .i64 deep, .pointer (some ⟨g, 0, none⟩)] w fun e w' => e = .returned (.bool (mayT v deep left).1) ∧ Left w g (mayT v deep left).2 w' := by
  have z : g < w.heap.size := blk_lt hg
  have HG := Lib.hid hg; clear hg
  have hu := Tryz.underlying25
  have HR3 := Lib.hid hr3; clear hr3
  have HR4 := Lib.hid hr4; clear hr4
  have IH := Lib.hid ih; clear ih
  have l4 : ¬ left - 1 < 0 := by omega
  have d4 : ¬ 60 < deep := by omega
  go_enter Tryz.func37, Tryz.ntmps37

  go_wp2_with (first | ((with_reducible refine gate_dst (N := 3) rfl ?_); (refine box_event ?hg (N := 3) ?hd (cs := #[.int .i64 1, .int .i64 n, .string s, .slice A3 l.length c3, .slice A4 ks.length c4]) (t := 25) ?hr ?_; (case hd => rfl); (case hg => rfl); (case hr => first | (go_simp; done) | (go_simp; rfl)); intro b3 e3 w3 k3 m3; have z3 := Nat.le_of_eq e3.symm; clear e3; have K3 := Aside0.mk k3; have M3 := Aside0.mk m3; have G3 := Aside0.mk ((m3.block g (blk_lt HG.out)).trans HG.out); clear k3 m3)) | ((with_reducible refine gate_dst (N := 4) rfl ?_); (refine box_event ?hg (N := 4) ?hd (cs := #[.int .i64 deep]) (t := 3) ?hr ?_; (case hd => rfl); (case hg => rfl); (case hr => first | (go_simp; done) | (go_simp; rfl)); intro b4 e4 w4 k4 m4; have z4 := Nat.le_trans M3.out.size (Nat.le_of_eq e4.symm); clear e4; have K4 := Aside0.mk k4; have K3' := Aside0.mk (blk_below K3.out m4); have M4 := Aside0.mk (M3.out.trans (m4.mono M3.out.size)); have G4 := Aside0.mk ((m4.block g (blk_lt G3.out)).trans G3.out); clear k4 m4 K3 M3 G3)) | ((with_reducible refine gate_dst (N := 5) rfl ?_); (refine box_event ?hg (N := 5) ?hd (cs := #[.pointer (some ⟨g, 0, none⟩)]) (t := 46) ?hr ?_; (case hd => rfl); (case hg => rfl); (case hr => first | (go_simp; done) | (go_simp; rfl)); intro b5 e5 w5 k5 m5; have z5 := Nat.le_trans M4.out.size (Nat.le_of_eq e5.symm); clear e5; have K5 := Aside0.mk k5; have K4' := Aside0.mk (blk_below K4.out m5); have K3 := Aside0.mk (blk_below K3'.out m5); have M5 := Aside0.mk (M4.out.trans (m5.mono M4.out.size)); have G5 := Aside0.mk ((m5.block g (blk_lt G4.out)).trans G4.out); clear k5 m5 K3' K4 M4 G4; have N3 := Nat.ne_of_gt (Nat.lt_of_lt_of_le z z3); have N4 := Nat.ne_of_gt (Nat.lt_of_lt_of_le z z4); have N5 := Nat.ne_of_gt (Nat.lt_of_lt_of_le z z5); have cw5_b5_0 : w5.cell? ⟨b5, 0, none⟩ = some (.pointer (some ⟨g, 0, none⟩)) := (blk_cell K5.out 0).trans rfl; have fw5_b5_0 := blk_frozen K5.out 0; have cw5_g_0 : w5.cell? ⟨g, 0, none⟩ = some (.int .i64 left) := (blk_cell G5.out 0).trans rfl; have fw5_g_0 := blk_frozen G5.out 0; )) | ((with_reducible refine gate_store (t := 3) (p := 13) rfl ?_); (refine store_event (t := 3) (p := 13) (v := ?vo_w6) (w1 := w5.setCell ⟨g, 0, none⟩ (.int .i64 (left - 1))) ?hg ?ho ?hn ?hr ?_; (case ho => rfl); (case hg => rfl); (case hn => rfl); (case hr => first | (go_simp; done) | (go_simp; rfl)); intro w6 hw; have L6 := Aside0.mk (show Left w g (left - 1) w6 by rw [hw]; exact Left.from M5.out (Left.set G5.out (left - 1))); have h_ := blk_far (p := ⟨g, 0, none⟩) K3.out N3 (.int .i64 (left - 1)); rw [← hw] at h_; have K36 := Aside0.mk h_; clear h_; have h_ := blk_far (p := ⟨g, 0, none⟩) K4'.out N4 (.int .i64 (left - 1)); rw [← hw] at h_; have K46 := Aside0.mk h_; clear h_; have h_ := blk_far (p := ⟨g, 0, none⟩) K5.out N5 (.int .i64 (left - 1)); rw [← hw] at h_; have K56 := Aside0.mk h_; clear h_; have G6 := Aside0.mk L6.out.count; clear hw K3 K4' K5 G5 M5 cw5_b5_0 fw5_b5_0 cw5_g_0 fw5_g_0; have cw6_b3_0 : w6.cell? ⟨b3, 0, none⟩ = some (.int .i64 1) := (blk_cell K36.out 0).trans rfl; have fw6_b3_0 := blk_frozen K36.out 0; have cw6_b4_0 : w6.cell? ⟨b4, 0, none⟩ = some (.int .i64 deep) := (blk_cell K46.out 0).trans rfl; have fw6_b4_0 := blk_frozen K46.out 0; have cw6_b5_0 : w6.cell? ⟨b5, 0, none⟩ = some (.pointer (some ⟨g, 0, none⟩)) := (blk_cell K56.out 0).trans rfl; have fw6_b5_0 := blk_frozen K56.out 0; have cw6_g_0 : w6.cell? ⟨g, 0, none⟩ = some (.int .i64 (left - 1)) := (blk_cell G6.out 0).trans rfl; have fw6_g_0 := blk_frozen G6.out 0; )) | ((with_reducible refine gate_dst (N := 7) rfl ?_); (refine box_event ?hg (N := 7) ?hd (cs := #[.int .i64 0, .int .i64 0, .string ⟨#[]⟩, .slice none 0 0, .slice none 0 0]) (t := 25) ?hr ?_; (case hd => rfl); (case hg => rfl); (case hr => first | (go_simp; done) | (go_simp; rfl)); intro b7 e7 w7 k7 m7; have z7 := Nat.le_trans L6.out.size (Nat.le_of_eq e7.symm); have n37 : b3 ≠ b7 := Nat.ne_of_lt (Nat.lt_of_lt_of_eq (blk_lt K36.out) e7.symm); have n47 : b4 ≠ b7 := Nat.ne_of_lt (Nat.lt_of_lt_of_eq (blk_lt K46.out) e7.symm); have n57 : b5 ≠ b7 := Nat.ne_of_lt (Nat.lt_of_lt_of_eq (blk_lt K56.out) e7.symm); have n7g : g ≠ b7 := Nat.ne_of_lt (Nat.lt_of_lt_of_le z z7); clear e7; have K7 := Aside0.mk k7; have L7 := Aside0.mk (L6.out.below m7); have K37 := Aside0.mk (blk_below K36.out m7); have K47 := Aside0.mk (blk_below K46.out m7); have K57 := Aside0.mk (blk_below K56.out m7); clear k7 m7 L6 K36 K46 K56 G6 cw6_b3_0 fw6_b3_0 cw6_b4_0 fw6_b4_0 cw6_b5_0 fw6_b5_0 cw6_g_0 fw6_g_0; have cw7_b7_0 : w7.cell? ⟨b7, 0, none⟩ = some (.int .i64 0) := (blk_cell K7.out 0).trans rfl; have fw7_b7_0 := blk_frozen K7.out 0; have cw7_b7_1 : w7.cell? ⟨b7, 1, none⟩ = some (.int .i64 0) := (blk_cell K7.out 1).trans rfl; have fw7_b7_1 := blk_frozen K7.out 1; have cw7_b7_2 : w7.cell? ⟨b7, 2, none⟩ = some (.string ⟨#[]⟩) := (blk_cell K7.out 2).trans rfl; have fw7_b7_2 := blk_frozen K7.out 2; have cw7_b7_3 : w7.cell? ⟨b7, 3, none⟩ = some (.slice none 0 0) := (blk_cell K7.out 3).trans rfl; have fw7_b7_3 := blk_frozen K7.out 3; have cw7_b7_4 : w7.cell? ⟨b7, 4, none⟩ = some (.slice none 0 0) := (blk_cell K7.out 4).trans rfl; have fw7_b7_4 := blk_frozen K7.out 4; )) | ((with_reducible refine gate_store (t := 25) (p := 7) rfl ?_); (refine store_event (t := 25) (p := 7) (v := ?vo_w8) (w1 := (((((w7.setCell ⟨b7, 0, none⟩ (.int .i64 1)).setCell ⟨b7, 1, none⟩ (.int .i64 0)).setCell ⟨b7, 2, none⟩ (.string ⟨#[]⟩)).setCell ⟨b7, 3, none⟩ (.slice none 0 0)).setCell ⟨b7, 4, none⟩ (.slice none 0 0))) ?hg ?ho ?hn ?hr ?_; (case ho => rfl); (case hg => rfl); (case hn => rfl); (case hr => first | (go_simp; done) | (go_simp; rfl)); intro w8 hw; have K78 : Aside0 (w8.heap[b7]? = some (.cells #[.int .i64 1, .int .i64 0, .string ⟨#[]⟩, .slice none 0 0, .slice none 0 0] 25 (0, 0))) := ⟨by rw [hw]; simpa using blk_set (blk_set (blk_set (blk_set (blk_set K7.out 0 (.int .i64 1)) 1 (.int .i64 0)) 2 (.string ⟨#[]⟩)) 3 (.slice none 0 0)) 4 (.slice none 0 0)⟩; have h_ := (blk_far (p := ⟨b7, 4, none⟩) (blk_far (p := ⟨b7, 3, none⟩) (blk_far (p := ⟨b7, 2, none⟩) (blk_far (p := ⟨b7, 1, none⟩) (blk_far (p := ⟨b7, 0, none⟩) K37.out n37 (.int .i64 1)) n37 (.int .i64 0)) n37 (.string ⟨#[]⟩)) n37 (.slice none 0 0)) n37 (.slice none 0 0)); rw [← hw] at h_; have K38 := Aside0.mk h_; clear h_; have h_ := (blk_far (p := ⟨b7, 4, none⟩) (blk_far (p := ⟨b7, 3, none⟩) (blk_far (p := ⟨b7, 2, none⟩) (blk_far (p := ⟨b7, 1, none⟩) (blk_far (p := ⟨b7, 0, none⟩) K47.out n47 (.int .i64 1)) n47 (.int .i64 0)) n47 (.string ⟨#[]⟩)) n47 (.slice none 0 0)) n47 (.slice none 0 0)); rw [← hw] at h_; have K48 := Aside0.mk h_; clear h_; have h_ := (blk_far (p := ⟨b7, 4, none⟩) (blk_far (p := ⟨b7, 3, none⟩) (blk_far (p := ⟨b7, 2, none⟩) (blk_far (p := ⟨b7, 1, none⟩) (blk_far (p := ⟨b7, 0, none⟩) K57.out n57 (.int .i64 1)) n57 (.int .i64 0)) n57 (.string ⟨#[]⟩)) n57 (.slice none 0 0)) n57 (.slice none 0 0)); rw [← hw] at h_; have K58 := Aside0.mk h_; clear h_; have L8 : Aside0 (Left w g (left - 1) w8) := ⟨by rw [hw]; exact ((((L7.out.put z7 n7g _).put z7 n7g _).put z7 n7g _).put z7 n7g _).put z7 n7g _⟩; have G8 := Aside0.mk L8.out.count; clear hw K7 K37 K47 K57 L7 cw7_b7_0 fw7_b7_0 cw7_b7_1 fw7_b7_1 cw7_b7_2 fw7_b7_2 cw7_b7_3 fw7_b7_3 cw7_b7_4 fw7_b7_4; have cw8_b3_0 : w8.cell? ⟨b3, 0, none⟩ = some (.int .i64 1) := (blk_cell K38.out 0).trans rfl; have fw8_b3_0 := blk_frozen K38.out 0; have cw8_b3_1 : w8.cell? ⟨b3, 1, none⟩ = some (.int .i64 n) := (blk_cell K38.out 1).trans rfl; have fw8_b3_1 := blk_frozen K38.out 1; have cw8_b3_2 : w8.cell? ⟨b3, 2, none⟩ = some (.string s) := (blk_cell K38.out 2).trans rfl; have fw8_b3_2 := blk_frozen K38.out 2; have cw8_b3_3 : w8.cell? ⟨b3, 3, none⟩ = some (.slice A3 l.length c3) := (blk_cell K38.out 3).trans rfl; have fw8_b3_3 := blk_frozen K38.out 3; have cw8_b3_4 : w8.cell? ⟨b3, 4, none⟩ = some (.slice A4 ks.length c4) := (blk_cell K38.out 4).trans rfl; have fw8_b3_4 := blk_frozen K38.out 4; have cw8_b7_0 : w8.cell? ⟨b7, 0, none⟩ = some (.int .i64 1) := (blk_cell K78.out 0).trans rfl; have fw8_b7_0 := blk_frozen K78.out 0; have cw8_b7_1 : w8.cell? ⟨b7, 1, none⟩ = some (.int .i64 0) := (blk_cell K78.out 1).trans rfl; have fw8_b7_1 := blk_frozen K78.out 1; have cw8_b7_2 : w8.cell? ⟨b7, 2, none⟩ = some (.string ⟨#[]⟩) := (blk_cell K78.out 2).trans rfl; have fw8_b7_2 := blk_frozen K78.out 2; have cw8_b7_3 : w8.cell? ⟨b7, 3, none⟩ = some (.slice none 0 0) := (blk_cell K78.out 3).trans rfl; have fw8_b7_3 := blk_frozen K78.out 3; have cw8_b7_4 : w8.cell? ⟨b7, 4, none⟩ = some (.slice none 0 0) := (blk_cell K78.out 4).trans rfl; have fw8_b7_4 := blk_frozen K78.out 4; have cw8_b4_0 : w8.cell? ⟨b4, 0, none⟩ = some (.int .i64 deep) := (blk_cell K48.out 0).trans rfl; have fw8_b4_0 := blk_frozen K48.out 0; have cw8_b5_0 : w8.cell? ⟨b5, 0, none⟩ = some (.pointer (some ⟨g, 0, none⟩)) := (blk_cell K58.out 0).trans rfl; have fw8_b5_0 := blk_frozen K58.out 0; )))
  go_region
  go_wp2_with fail
  all_goals first | (refine (has_calls l IH.out deep (left - 1) g b4 b5 A3 c3 _ (by omega) d3 (by omega) (by omega) (Aside0.mk (Left.drew (L8.out.put (b := b7) (i := 1) z7 n7g (.int .i64 n)))).out.count N4 (Aside0.mk (blk_drew (blk_far (p := ⟨b7, 1, none⟩) K48.out n47 (.int .i64 n)))).out (Aside0.mk (blk_drew (blk_far (p := ⟨b7, 1, none⟩) K58.out n57 (.int .i64 n)))).out ((Aside0.mk (Left.drew (L8.out.put (b := b7) (i := 1) z7 n7g (.int .i64 n)))).out.fa HR3.out) hc3).mono ?_; rintro e w9 ⟨rfl, hl9⟩; have H9 := Lib.hid ((Aside0.mk (Left.drew (L8.out.put (b := b7) (i := 1) z7 n7g (.int .i64 n)))).out.trans hl9); clear hl9; go_wp2; go_ret; have hn : nodeP ⟨1, n, s, l, ks⟩ := ?hn; rotate_left; (case hn => (refine node1.2 ⟨Or.inl hn.out, size_nil.1 ?_, ?_, ?_⟩; assumption; (suffices h_ : (0 : Int) = l.length by omega); assumption; (suffices h_ : ((l.length : Int) != (ks.length : Int)) = false by (suffices h2_ : (0 : Int) = l.length by (have := bne_f h_; omega)); assumption); assumption)); have hy := mayT_yes (deep := deep) (left := left) d3 l3 hn; exact ⟨ret_bool (by rw [hv.out, hy] <;> simp), by rw [hv.out, hy]; exact H9.out⟩) | (go_ret; have hn : ¬ nodeP ⟨1, n, s, l, ks⟩ := ?hn; rotate_left; (case hn => first | (refine fun h => absurd (size_nil.2 (node1.1 h).2.1) ?_; assumption) | (intro h; have q := (node1.1 h).2.2.1; (suffices h_ : ¬ (0 : Int) = l.length by omega); assumption) | (intro h; have q := (node1.1 h).2.2; (suffices h_ : ((l.length : Int) != (ks.length : Int)) = true by (have := bne_t h_; omega)); assumption)); have hy := mayT_no (deep := deep) (left := left) d3 l3 hn; exact ⟨ret_bool (by rw [hv.out, hy]), by rw [hv.out, hy]; exact (Aside0.mk (Left.drew (L8.out.put (b := b7) (i := 1) z7 n7g (.int .i64 n)))).out⟩)

set_option maxHeartbeats 4000000 in
set_option maxRecDepth 100000 in
theorem may_1b (v : S25) (n : Int) (s : ByteArray) (l : List S25) (ks : List ByteArray) (hv : Hid (v = ⟨1, n, s, l, ks⟩)) (deep left : Int) (g : Nat) (A3 : Option Addr) (c3 : Nat) (A4 : Option Addr) (c4 : Nat) (w : World) (d1 : 1 ≤ deep) (d2 : deep ≤ 61) (l1 : 0 ≤ left) (l2 : left ≤ 20000) (hg : CountAt w g left) (d3 : deep ≤ 60) (l3 : 1 ≤ left) (hr3 : FA g w A3 l) (hc3 : l.length ≤ c3) (hr4 : FS g w A4 ks) (hc4 : ks.length ≤ c4) (ih : ∀ x ∈ l, MayOK x) (hn : Hid (n = 1)) (h0 : (n == 0) = false) (h1 : (n == 1) = true) :
    Calls Tryz.prog 37 #[.agg #[.int .i64 1, .int .i64 n, .string s, .slice A3 l.length c3, .slice A4 ks.length c4], .int .i64 deep, .pointer (some ⟨g, 0, none⟩)] w fun e w' => e = .returned (.bool (mayT v deep left).1) ∧ Left w g (mayT v deep left).2 w' := by
  have z : g < w.heap.size := blk_lt hg
  have HG := Lib.hid hg; clear hg
  have hu := Tryz.underlying25
  have HR3 := Lib.hid hr3; clear hr3
  have HR4 := Lib.hid hr4; clear hr4
  have IH := Lib.hid ih; clear ih
  have l4 : ¬ left - 1 < 0 := by omega
  have d4 : ¬ 60 < deep := by omega
  go_enter Tryz.func37, Tryz.ntmps37

  go_wp2_with (first | ((with_reducible refine gate_dst (N := 3) rfl ?_); (refine box_event ?hg (N := 3) ?hd (cs := #[.int .i64 1, .int .i64 n, .string s, .slice A3 l.length c3, .slice A4 ks.length c4]) (t := 25) ?hr ?_; (case hd => rfl); (case hg => rfl); (case hr => first | (go_simp; done) | (go_simp; rfl)); intro b3 e3 w3 k3 m3; have z3 := Nat.le_of_eq e3.symm; clear e3; have K3 := Aside0.mk k3; have M3 := Aside0.mk m3; have G3 := Aside0.mk ((m3.block g (blk_lt HG.out)).trans HG.out); clear k3 m3)) | ((with_reducible refine gate_dst (N := 4) rfl ?_); (refine box_event ?hg (N := 4) ?hd (cs := #[.int .i64 deep]) (t := 3) ?hr ?_; (case hd => rfl); (case hg => rfl); (case hr => first | (go_simp; done) | (go_simp; rfl)); intro b4 e4 w4 k4 m4; have z4 := Nat.le_trans M3.out.size (Nat.le_of_eq e4.symm); clear e4; have K4 := Aside0.mk k4; have K3' := Aside0.mk (blk_below K3.out m4); have M4 := Aside0.mk (M3.out.trans (m4.mono M3.out.size)); have G4 := Aside0.mk ((m4.block g (blk_lt G3.out)).trans G3.out); clear k4 m4 K3 M3 G3)) | ((with_reducible refine gate_dst (N := 5) rfl ?_); (refine box_event ?hg (N := 5) ?hd (cs := #[.pointer (some ⟨g, 0, none⟩)]) (t := 46) ?hr ?_; (case hd => rfl); (case hg => rfl); (case hr => first | (go_simp; done) | (go_simp; rfl)); intro b5 e5 w5 k5 m5; have z5 := Nat.le_trans M4.out.size (Nat.le_of_eq e5.symm); clear e5; have K5 := Aside0.mk k5; have K4' := Aside0.mk (blk_below K4.out m5); have K3 := Aside0.mk (blk_below K3'.out m5); have M5 := Aside0.mk (M4.out.trans (m5.mono M4.out.size)); have G5 := Aside0.mk ((m5.block g (blk_lt G4.out)).trans G4.out); clear k5 m5 K3' K4 M4 G4; have N3 := Nat.ne_of_gt (Nat.lt_of_lt_of_le z z3); have N4 := Nat.ne_of_gt (Nat.lt_of_lt_of_le z z4); have N5 := Nat.ne_of_gt (Nat.lt_of_lt_of_le z z5); have cw5_b5_0 : w5.cell? ⟨b5, 0, none⟩ = some (.pointer (some ⟨g, 0, none⟩)) := (blk_cell K5.out 0).trans rfl; have fw5_b5_0 := blk_frozen K5.out 0; have cw5_g_0 : w5.cell? ⟨g, 0, none⟩ = some (.int .i64 left) := (blk_cell G5.out 0).trans rfl; have fw5_g_0 := blk_frozen G5.out 0; )) | ((with_reducible refine gate_store (t := 3) (p := 13) rfl ?_); (refine store_event (t := 3) (p := 13) (v := ?vo_w6) (w1 := w5.setCell ⟨g, 0, none⟩ (.int .i64 (left - 1))) ?hg ?ho ?hn ?hr ?_; (case ho => rfl); (case hg => rfl); (case hn => rfl); (case hr => first | (go_simp; done) | (go_simp; rfl)); intro w6 hw; have L6 := Aside0.mk (show Left w g (left - 1) w6 by rw [hw]; exact Left.from M5.out (Left.set G5.out (left - 1))); have h_ := blk_far (p := ⟨g, 0, none⟩) K3.out N3 (.int .i64 (left - 1)); rw [← hw] at h_; have K36 := Aside0.mk h_; clear h_; have h_ := blk_far (p := ⟨g, 0, none⟩) K4'.out N4 (.int .i64 (left - 1)); rw [← hw] at h_; have K46 := Aside0.mk h_; clear h_; have h_ := blk_far (p := ⟨g, 0, none⟩) K5.out N5 (.int .i64 (left - 1)); rw [← hw] at h_; have K56 := Aside0.mk h_; clear h_; have G6 := Aside0.mk L6.out.count; clear hw K3 K4' K5 G5 M5 cw5_b5_0 fw5_b5_0 cw5_g_0 fw5_g_0; have cw6_b3_0 : w6.cell? ⟨b3, 0, none⟩ = some (.int .i64 1) := (blk_cell K36.out 0).trans rfl; have fw6_b3_0 := blk_frozen K36.out 0; have cw6_b4_0 : w6.cell? ⟨b4, 0, none⟩ = some (.int .i64 deep) := (blk_cell K46.out 0).trans rfl; have fw6_b4_0 := blk_frozen K46.out 0; have cw6_b5_0 : w6.cell? ⟨b5, 0, none⟩ = some (.pointer (some ⟨g, 0, none⟩)) := (blk_cell K56.out 0).trans rfl; have fw6_b5_0 := blk_frozen K56.out 0; have cw6_g_0 : w6.cell? ⟨g, 0, none⟩ = some (.int .i64 (left - 1)) := (blk_cell G6.out 0).trans rfl; have fw6_g_0 := blk_frozen G6.out 0; )) | ((with_reducible refine gate_dst (N := 7) rfl ?_); (refine box_event ?hg (N := 7) ?hd (cs := #[.int .i64 0, .int .i64 0, .string ⟨#[]⟩, .slice none 0 0, .slice none 0 0]) (t := 25) ?hr ?_; (case hd => rfl); (case hg => rfl); (case hr => first | (go_simp; done) | (go_simp; rfl)); intro b7 e7 w7 k7 m7; have z7 := Nat.le_trans L6.out.size (Nat.le_of_eq e7.symm); have n37 : b3 ≠ b7 := Nat.ne_of_lt (Nat.lt_of_lt_of_eq (blk_lt K36.out) e7.symm); have n47 : b4 ≠ b7 := Nat.ne_of_lt (Nat.lt_of_lt_of_eq (blk_lt K46.out) e7.symm); have n57 : b5 ≠ b7 := Nat.ne_of_lt (Nat.lt_of_lt_of_eq (blk_lt K56.out) e7.symm); have n7g : g ≠ b7 := Nat.ne_of_lt (Nat.lt_of_lt_of_le z z7); clear e7; have K7 := Aside0.mk k7; have L7 := Aside0.mk (L6.out.below m7); have K37 := Aside0.mk (blk_below K36.out m7); have K47 := Aside0.mk (blk_below K46.out m7); have K57 := Aside0.mk (blk_below K56.out m7); clear k7 m7 L6 K36 K46 K56 G6 cw6_b3_0 fw6_b3_0 cw6_b4_0 fw6_b4_0 cw6_b5_0 fw6_b5_0 cw6_g_0 fw6_g_0; have cw7_b7_0 : w7.cell? ⟨b7, 0, none⟩ = some (.int .i64 0) := (blk_cell K7.out 0).trans rfl; have fw7_b7_0 := blk_frozen K7.out 0; have cw7_b7_1 : w7.cell? ⟨b7, 1, none⟩ = some (.int .i64 0) := (blk_cell K7.out 1).trans rfl; have fw7_b7_1 := blk_frozen K7.out 1; have cw7_b7_2 : w7.cell? ⟨b7, 2, none⟩ = some (.string ⟨#[]⟩) := (blk_cell K7.out 2).trans rfl; have fw7_b7_2 := blk_frozen K7.out 2; have cw7_b7_3 : w7.cell? ⟨b7, 3, none⟩ = some (.slice none 0 0) := (blk_cell K7.out 3).trans rfl; have fw7_b7_3 := blk_frozen K7.out 3; have cw7_b7_4 : w7.cell? ⟨b7, 4, none⟩ = some (.slice none 0 0) := (blk_cell K7.out 4).trans rfl; have fw7_b7_4 := blk_frozen K7.out 4; )) | ((with_reducible refine gate_store (t := 25) (p := 7) rfl ?_); (refine store_event (t := 25) (p := 7) (v := ?vo_w8) (w1 := (((((w7.setCell ⟨b7, 0, none⟩ (.int .i64 1)).setCell ⟨b7, 1, none⟩ (.int .i64 0)).setCell ⟨b7, 2, none⟩ (.string ⟨#[]⟩)).setCell ⟨b7, 3, none⟩ (.slice none 0 0)).setCell ⟨b7, 4, none⟩ (.slice none 0 0))) ?hg ?ho ?hn ?hr ?_; (case ho => rfl); (case hg => rfl); (case hn => rfl); (case hr => first | (go_simp; done) | (go_simp; rfl)); intro w8 hw; have K78 : Aside0 (w8.heap[b7]? = some (.cells #[.int .i64 1, .int .i64 0, .string ⟨#[]⟩, .slice none 0 0, .slice none 0 0] 25 (0, 0))) := ⟨by rw [hw]; simpa using blk_set (blk_set (blk_set (blk_set (blk_set K7.out 0 (.int .i64 1)) 1 (.int .i64 0)) 2 (.string ⟨#[]⟩)) 3 (.slice none 0 0)) 4 (.slice none 0 0)⟩; have h_ := (blk_far (p := ⟨b7, 4, none⟩) (blk_far (p := ⟨b7, 3, none⟩) (blk_far (p := ⟨b7, 2, none⟩) (blk_far (p := ⟨b7, 1, none⟩) (blk_far (p := ⟨b7, 0, none⟩) K37.out n37 (.int .i64 1)) n37 (.int .i64 0)) n37 (.string ⟨#[]⟩)) n37 (.slice none 0 0)) n37 (.slice none 0 0)); rw [← hw] at h_; have K38 := Aside0.mk h_; clear h_; have h_ := (blk_far (p := ⟨b7, 4, none⟩) (blk_far (p := ⟨b7, 3, none⟩) (blk_far (p := ⟨b7, 2, none⟩) (blk_far (p := ⟨b7, 1, none⟩) (blk_far (p := ⟨b7, 0, none⟩) K47.out n47 (.int .i64 1)) n47 (.int .i64 0)) n47 (.string ⟨#[]⟩)) n47 (.slice none 0 0)) n47 (.slice none 0 0)); rw [← hw] at h_; have K48 := Aside0.mk h_; clear h_; have h_ := (blk_far (p := ⟨b7, 4, none⟩) (blk_far (p := ⟨b7, 3, none⟩) (blk_far (p := ⟨b7, 2, none⟩) (blk_far (p := ⟨b7, 1, none⟩) (blk_far (p := ⟨b7, 0, none⟩) K57.out n57 (.int .i64 1)) n57 (.int .i64 0)) n57 (.string ⟨#[]⟩)) n57 (.slice none 0 0)) n57 (.slice none 0 0)); rw [← hw] at h_; have K58 := Aside0.mk h_; clear h_; have L8 : Aside0 (Left w g (left - 1) w8) := ⟨by rw [hw]; exact ((((L7.out.put z7 n7g _).put z7 n7g _).put z7 n7g _).put z7 n7g _).put z7 n7g _⟩; have G8 := Aside0.mk L8.out.count; clear hw K7 K37 K47 K57 L7 cw7_b7_0 fw7_b7_0 cw7_b7_1 fw7_b7_1 cw7_b7_2 fw7_b7_2 cw7_b7_3 fw7_b7_3 cw7_b7_4 fw7_b7_4; have cw8_b3_0 : w8.cell? ⟨b3, 0, none⟩ = some (.int .i64 1) := (blk_cell K38.out 0).trans rfl; have fw8_b3_0 := blk_frozen K38.out 0; have cw8_b3_1 : w8.cell? ⟨b3, 1, none⟩ = some (.int .i64 n) := (blk_cell K38.out 1).trans rfl; have fw8_b3_1 := blk_frozen K38.out 1; have cw8_b3_2 : w8.cell? ⟨b3, 2, none⟩ = some (.string s) := (blk_cell K38.out 2).trans rfl; have fw8_b3_2 := blk_frozen K38.out 2; have cw8_b3_3 : w8.cell? ⟨b3, 3, none⟩ = some (.slice A3 l.length c3) := (blk_cell K38.out 3).trans rfl; have fw8_b3_3 := blk_frozen K38.out 3; have cw8_b3_4 : w8.cell? ⟨b3, 4, none⟩ = some (.slice A4 ks.length c4) := (blk_cell K38.out 4).trans rfl; have fw8_b3_4 := blk_frozen K38.out 4; have cw8_b7_0 : w8.cell? ⟨b7, 0, none⟩ = some (.int .i64 1) := (blk_cell K78.out 0).trans rfl; have fw8_b7_0 := blk_frozen K78.out 0; have cw8_b7_1 : w8.cell? ⟨b7, 1, none⟩ = some (.int .i64 0) := (blk_cell K78.out 1).trans rfl; have fw8_b7_1 := blk_frozen K78.out 1; have cw8_b7_2 : w8.cell? ⟨b7, 2, none⟩ = some (.string ⟨#[]⟩) := (blk_cell K78.out 2).trans rfl; have fw8_b7_2 := blk_frozen K78.out 2; have cw8_b7_3 : w8.cell? ⟨b7, 3, none⟩ = some (.slice none 0 0) := (blk_cell K78.out 3).trans rfl; have fw8_b7_3 := blk_frozen K78.out 3; have cw8_b7_4 : w8.cell? ⟨b7, 4, none⟩ = some (.slice none 0 0) := (blk_cell K78.out 4).trans rfl; have fw8_b7_4 := blk_frozen K78.out 4; have cw8_b4_0 : w8.cell? ⟨b4, 0, none⟩ = some (.int .i64 deep) := (blk_cell K48.out 0).trans rfl; have fw8_b4_0 := blk_frozen K48.out 0; have cw8_b5_0 : w8.cell? ⟨b5, 0, none⟩ = some (.pointer (some ⟨g, 0, none⟩)) := (blk_cell K58.out 0).trans rfl; have fw8_b5_0 := blk_frozen K58.out 0; )))
  go_region
  go_wp2_with fail
  all_goals first | (refine (has_calls l IH.out deep (left - 1) g b4 b5 A3 c3 _ (by omega) d3 (by omega) (by omega) (Aside0.mk (Left.drew (L8.out.put (b := b7) (i := 1) z7 n7g (.int .i64 n)))).out.count N4 (Aside0.mk (blk_drew (blk_far (p := ⟨b7, 1, none⟩) K48.out n47 (.int .i64 n)))).out (Aside0.mk (blk_drew (blk_far (p := ⟨b7, 1, none⟩) K58.out n57 (.int .i64 n)))).out ((Aside0.mk (Left.drew (L8.out.put (b := b7) (i := 1) z7 n7g (.int .i64 n)))).out.fa HR3.out) hc3).mono ?_; rintro e w9 ⟨rfl, hl9⟩; have H9 := Lib.hid ((Aside0.mk (Left.drew (L8.out.put (b := b7) (i := 1) z7 n7g (.int .i64 n)))).out.trans hl9); clear hl9; go_wp2; go_ret; have hn : nodeP ⟨1, n, s, l, ks⟩ := ?hn; rotate_left; (case hn => (refine node1.2 ⟨Or.inr hn.out, size_nil.1 ?_, ?_, ?_⟩; assumption; (suffices h_ : (0 : Int) = l.length by omega); assumption; (suffices h_ : ((l.length : Int) != (ks.length : Int)) = false by (suffices h2_ : (0 : Int) = l.length by (have := bne_f h_; omega)); assumption); assumption)); have hy := mayT_yes (deep := deep) (left := left) d3 l3 hn; exact ⟨ret_bool (by rw [hv.out, hy] <;> simp), by rw [hv.out, hy]; exact H9.out⟩) | (go_ret; have hn : ¬ nodeP ⟨1, n, s, l, ks⟩ := ?hn; rotate_left; (case hn => first | (refine fun h => absurd (size_nil.2 (node1.1 h).2.1) ?_; assumption) | (intro h; have q := (node1.1 h).2.2.1; (suffices h_ : ¬ (0 : Int) = l.length by omega); assumption) | (intro h; have q := (node1.1 h).2.2; (suffices h_ : ((l.length : Int) != (ks.length : Int)) = true by (have := bne_t h_; omega)); assumption)); have hy := mayT_no (deep := deep) (left := left) d3 l3 hn; exact ⟨ret_bool (by rw [hv.out, hy]), by rw [hv.out, hy]; exact (Aside0.mk (Left.drew (L8.out.put (b := b7) (i := 1) z7 n7g (.int .i64 n)))).out⟩)

set_option maxHeartbeats 4000000 in
set_option maxRecDepth 100000 in
theorem may_1c (v : S25) (n : Int) (s : ByteArray) (l : List S25) (ks : List ByteArray) (hv : Hid (v = ⟨1, n, s, l, ks⟩)) (deep left : Int) (g : Nat) (A3 : Option Addr) (c3 : Nat) (A4 : Option Addr) (c4 : Nat) (w : World) (d1 : 1 ≤ deep) (d2 : deep ≤ 61) (l1 : 0 ≤ left) (l2 : left ≤ 20000) (hg : CountAt w g left) (d3 : deep ≤ 60) (l3 : 1 ≤ left) (hr3 : FA g w A3 l) (hc3 : l.length ≤ c3) (hr4 : FS g w A4 ks) (hc4 : ks.length ≤ c4) (ih : ∀ x ∈ l, MayOK x) (h0 : (n == 0) = false) (h1 : (n == 1) = false) :
    Calls Tryz.prog 37 #[.agg #[.int .i64 1, .int .i64 n, .string s, .slice A3 l.length c3, .slice A4 ks.length c4], .int .i64 deep, .pointer (some ⟨g, 0, none⟩)] w fun e w' => e = .returned (.bool (mayT v deep left).1) ∧ Left w g (mayT v deep left).2 w' := by
  have z : g < w.heap.size := blk_lt hg
  have HG := Lib.hid hg; clear hg
  have hu := Tryz.underlying25
  have HR3 := Lib.hid hr3; clear hr3
  have HR4 := Lib.hid hr4; clear hr4
  have IH := Lib.hid ih; clear ih
  have l4 : ¬ left - 1 < 0 := by omega
  have d4 : ¬ 60 < deep := by omega
  go_enter Tryz.func37, Tryz.ntmps37

  go_wp2_with (first | ((with_reducible refine gate_dst (N := 3) rfl ?_); (refine box_event ?hg (N := 3) ?hd (cs := #[.int .i64 1, .int .i64 n, .string s, .slice A3 l.length c3, .slice A4 ks.length c4]) (t := 25) ?hr ?_; (case hd => rfl); (case hg => rfl); (case hr => first | (go_simp; done) | (go_simp; rfl)); intro b3 e3 w3 k3 m3; have z3 := Nat.le_of_eq e3.symm; clear e3; have K3 := Aside0.mk k3; have M3 := Aside0.mk m3; have G3 := Aside0.mk ((m3.block g (blk_lt HG.out)).trans HG.out); clear k3 m3)) | ((with_reducible refine gate_dst (N := 4) rfl ?_); (refine box_event ?hg (N := 4) ?hd (cs := #[.int .i64 deep]) (t := 3) ?hr ?_; (case hd => rfl); (case hg => rfl); (case hr => first | (go_simp; done) | (go_simp; rfl)); intro b4 e4 w4 k4 m4; have z4 := Nat.le_trans M3.out.size (Nat.le_of_eq e4.symm); clear e4; have K4 := Aside0.mk k4; have K3' := Aside0.mk (blk_below K3.out m4); have M4 := Aside0.mk (M3.out.trans (m4.mono M3.out.size)); have G4 := Aside0.mk ((m4.block g (blk_lt G3.out)).trans G3.out); clear k4 m4 K3 M3 G3)) | ((with_reducible refine gate_dst (N := 5) rfl ?_); (refine box_event ?hg (N := 5) ?hd (cs := #[.pointer (some ⟨g, 0, none⟩)]) (t := 46) ?hr ?_; (case hd => rfl); (case hg => rfl); (case hr => first | (go_simp; done) | (go_simp; rfl)); intro b5 e5 w5 k5 m5; have z5 := Nat.le_trans M4.out.size (Nat.le_of_eq e5.symm); clear e5; have K5 := Aside0.mk k5; have K4' := Aside0.mk (blk_below K4.out m5); have K3 := Aside0.mk (blk_below K3'.out m5); have M5 := Aside0.mk (M4.out.trans (m5.mono M4.out.size)); have G5 := Aside0.mk ((m5.block g (blk_lt G4.out)).trans G4.out); clear k5 m5 K3' K4 M4 G4; have N3 := Nat.ne_of_gt (Nat.lt_of_lt_of_le z z3); have N4 := Nat.ne_of_gt (Nat.lt_of_lt_of_le z z4); have N5 := Nat.ne_of_gt (Nat.lt_of_lt_of_le z z5); have cw5_b5_0 : w5.cell? ⟨b5, 0, none⟩ = some (.pointer (some ⟨g, 0, none⟩)) := (blk_cell K5.out 0).trans rfl; have fw5_b5_0 := blk_frozen K5.out 0; have cw5_g_0 : w5.cell? ⟨g, 0, none⟩ = some (.int .i64 left) := (blk_cell G5.out 0).trans rfl; have fw5_g_0 := blk_frozen G5.out 0; )) | ((with_reducible refine gate_store (t := 3) (p := 13) rfl ?_); (refine store_event (t := 3) (p := 13) (v := ?vo_w6) (w1 := w5.setCell ⟨g, 0, none⟩ (.int .i64 (left - 1))) ?hg ?ho ?hn ?hr ?_; (case ho => rfl); (case hg => rfl); (case hn => rfl); (case hr => first | (go_simp; done) | (go_simp; rfl)); intro w6 hw; have L6 := Aside0.mk (show Left w g (left - 1) w6 by rw [hw]; exact Left.from M5.out (Left.set G5.out (left - 1))); have h_ := blk_far (p := ⟨g, 0, none⟩) K3.out N3 (.int .i64 (left - 1)); rw [← hw] at h_; have K36 := Aside0.mk h_; clear h_; have h_ := blk_far (p := ⟨g, 0, none⟩) K4'.out N4 (.int .i64 (left - 1)); rw [← hw] at h_; have K46 := Aside0.mk h_; clear h_; have h_ := blk_far (p := ⟨g, 0, none⟩) K5.out N5 (.int .i64 (left - 1)); rw [← hw] at h_; have K56 := Aside0.mk h_; clear h_; have G6 := Aside0.mk L6.out.count; clear hw K3 K4' K5 G5 M5 cw5_b5_0 fw5_b5_0 cw5_g_0 fw5_g_0; have cw6_b3_0 : w6.cell? ⟨b3, 0, none⟩ = some (.int .i64 1) := (blk_cell K36.out 0).trans rfl; have fw6_b3_0 := blk_frozen K36.out 0; have cw6_b4_0 : w6.cell? ⟨b4, 0, none⟩ = some (.int .i64 deep) := (blk_cell K46.out 0).trans rfl; have fw6_b4_0 := blk_frozen K46.out 0; have cw6_b5_0 : w6.cell? ⟨b5, 0, none⟩ = some (.pointer (some ⟨g, 0, none⟩)) := (blk_cell K56.out 0).trans rfl; have fw6_b5_0 := blk_frozen K56.out 0; have cw6_g_0 : w6.cell? ⟨g, 0, none⟩ = some (.int .i64 (left - 1)) := (blk_cell G6.out 0).trans rfl; have fw6_g_0 := blk_frozen G6.out 0; )) | ((with_reducible refine gate_dst (N := 7) rfl ?_); (refine box_event ?hg (N := 7) ?hd (cs := #[.int .i64 0, .int .i64 0, .string ⟨#[]⟩, .slice none 0 0, .slice none 0 0]) (t := 25) ?hr ?_; (case hd => rfl); (case hg => rfl); (case hr => first | (go_simp; done) | (go_simp; rfl)); intro b7 e7 w7 k7 m7; have z7 := Nat.le_trans L6.out.size (Nat.le_of_eq e7.symm); have n37 : b3 ≠ b7 := Nat.ne_of_lt (Nat.lt_of_lt_of_eq (blk_lt K36.out) e7.symm); have n47 : b4 ≠ b7 := Nat.ne_of_lt (Nat.lt_of_lt_of_eq (blk_lt K46.out) e7.symm); have n57 : b5 ≠ b7 := Nat.ne_of_lt (Nat.lt_of_lt_of_eq (blk_lt K56.out) e7.symm); have n7g : g ≠ b7 := Nat.ne_of_lt (Nat.lt_of_lt_of_le z z7); clear e7; have K7 := Aside0.mk k7; have L7 := Aside0.mk (L6.out.below m7); have K37 := Aside0.mk (blk_below K36.out m7); have K47 := Aside0.mk (blk_below K46.out m7); have K57 := Aside0.mk (blk_below K56.out m7); clear k7 m7 L6 K36 K46 K56 G6 cw6_b3_0 fw6_b3_0 cw6_b4_0 fw6_b4_0 cw6_b5_0 fw6_b5_0 cw6_g_0 fw6_g_0; have cw7_b7_0 : w7.cell? ⟨b7, 0, none⟩ = some (.int .i64 0) := (blk_cell K7.out 0).trans rfl; have fw7_b7_0 := blk_frozen K7.out 0; have cw7_b7_1 : w7.cell? ⟨b7, 1, none⟩ = some (.int .i64 0) := (blk_cell K7.out 1).trans rfl; have fw7_b7_1 := blk_frozen K7.out 1; have cw7_b7_2 : w7.cell? ⟨b7, 2, none⟩ = some (.string ⟨#[]⟩) := (blk_cell K7.out 2).trans rfl; have fw7_b7_2 := blk_frozen K7.out 2; have cw7_b7_3 : w7.cell? ⟨b7, 3, none⟩ = some (.slice none 0 0) := (blk_cell K7.out 3).trans rfl; have fw7_b7_3 := blk_frozen K7.out 3; have cw7_b7_4 : w7.cell? ⟨b7, 4, none⟩ = some (.slice none 0 0) := (blk_cell K7.out 4).trans rfl; have fw7_b7_4 := blk_frozen K7.out 4; )) | ((with_reducible refine gate_store (t := 25) (p := 7) rfl ?_); (refine store_event (t := 25) (p := 7) (v := ?vo_w8) (w1 := (((((w7.setCell ⟨b7, 0, none⟩ (.int .i64 1)).setCell ⟨b7, 1, none⟩ (.int .i64 0)).setCell ⟨b7, 2, none⟩ (.string ⟨#[]⟩)).setCell ⟨b7, 3, none⟩ (.slice none 0 0)).setCell ⟨b7, 4, none⟩ (.slice none 0 0))) ?hg ?ho ?hn ?hr ?_; (case ho => rfl); (case hg => rfl); (case hn => rfl); (case hr => first | (go_simp; done) | (go_simp; rfl)); intro w8 hw; have K78 : Aside0 (w8.heap[b7]? = some (.cells #[.int .i64 1, .int .i64 0, .string ⟨#[]⟩, .slice none 0 0, .slice none 0 0] 25 (0, 0))) := ⟨by rw [hw]; simpa using blk_set (blk_set (blk_set (blk_set (blk_set K7.out 0 (.int .i64 1)) 1 (.int .i64 0)) 2 (.string ⟨#[]⟩)) 3 (.slice none 0 0)) 4 (.slice none 0 0)⟩; have h_ := (blk_far (p := ⟨b7, 4, none⟩) (blk_far (p := ⟨b7, 3, none⟩) (blk_far (p := ⟨b7, 2, none⟩) (blk_far (p := ⟨b7, 1, none⟩) (blk_far (p := ⟨b7, 0, none⟩) K37.out n37 (.int .i64 1)) n37 (.int .i64 0)) n37 (.string ⟨#[]⟩)) n37 (.slice none 0 0)) n37 (.slice none 0 0)); rw [← hw] at h_; have K38 := Aside0.mk h_; clear h_; have h_ := (blk_far (p := ⟨b7, 4, none⟩) (blk_far (p := ⟨b7, 3, none⟩) (blk_far (p := ⟨b7, 2, none⟩) (blk_far (p := ⟨b7, 1, none⟩) (blk_far (p := ⟨b7, 0, none⟩) K47.out n47 (.int .i64 1)) n47 (.int .i64 0)) n47 (.string ⟨#[]⟩)) n47 (.slice none 0 0)) n47 (.slice none 0 0)); rw [← hw] at h_; have K48 := Aside0.mk h_; clear h_; have h_ := (blk_far (p := ⟨b7, 4, none⟩) (blk_far (p := ⟨b7, 3, none⟩) (blk_far (p := ⟨b7, 2, none⟩) (blk_far (p := ⟨b7, 1, none⟩) (blk_far (p := ⟨b7, 0, none⟩) K57.out n57 (.int .i64 1)) n57 (.int .i64 0)) n57 (.string ⟨#[]⟩)) n57 (.slice none 0 0)) n57 (.slice none 0 0)); rw [← hw] at h_; have K58 := Aside0.mk h_; clear h_; have L8 : Aside0 (Left w g (left - 1) w8) := ⟨by rw [hw]; exact ((((L7.out.put z7 n7g _).put z7 n7g _).put z7 n7g _).put z7 n7g _).put z7 n7g _⟩; have G8 := Aside0.mk L8.out.count; clear hw K7 K37 K47 K57 L7 cw7_b7_0 fw7_b7_0 cw7_b7_1 fw7_b7_1 cw7_b7_2 fw7_b7_2 cw7_b7_3 fw7_b7_3 cw7_b7_4 fw7_b7_4; have cw8_b3_0 : w8.cell? ⟨b3, 0, none⟩ = some (.int .i64 1) := (blk_cell K38.out 0).trans rfl; have fw8_b3_0 := blk_frozen K38.out 0; have cw8_b3_1 : w8.cell? ⟨b3, 1, none⟩ = some (.int .i64 n) := (blk_cell K38.out 1).trans rfl; have fw8_b3_1 := blk_frozen K38.out 1; have cw8_b3_2 : w8.cell? ⟨b3, 2, none⟩ = some (.string s) := (blk_cell K38.out 2).trans rfl; have fw8_b3_2 := blk_frozen K38.out 2; have cw8_b3_3 : w8.cell? ⟨b3, 3, none⟩ = some (.slice A3 l.length c3) := (blk_cell K38.out 3).trans rfl; have fw8_b3_3 := blk_frozen K38.out 3; have cw8_b3_4 : w8.cell? ⟨b3, 4, none⟩ = some (.slice A4 ks.length c4) := (blk_cell K38.out 4).trans rfl; have fw8_b3_4 := blk_frozen K38.out 4; have cw8_b7_0 : w8.cell? ⟨b7, 0, none⟩ = some (.int .i64 1) := (blk_cell K78.out 0).trans rfl; have fw8_b7_0 := blk_frozen K78.out 0; have cw8_b7_1 : w8.cell? ⟨b7, 1, none⟩ = some (.int .i64 0) := (blk_cell K78.out 1).trans rfl; have fw8_b7_1 := blk_frozen K78.out 1; have cw8_b7_2 : w8.cell? ⟨b7, 2, none⟩ = some (.string ⟨#[]⟩) := (blk_cell K78.out 2).trans rfl; have fw8_b7_2 := blk_frozen K78.out 2; have cw8_b7_3 : w8.cell? ⟨b7, 3, none⟩ = some (.slice none 0 0) := (blk_cell K78.out 3).trans rfl; have fw8_b7_3 := blk_frozen K78.out 3; have cw8_b7_4 : w8.cell? ⟨b7, 4, none⟩ = some (.slice none 0 0) := (blk_cell K78.out 4).trans rfl; have fw8_b7_4 := blk_frozen K78.out 4; have cw8_b4_0 : w8.cell? ⟨b4, 0, none⟩ = some (.int .i64 deep) := (blk_cell K48.out 0).trans rfl; have fw8_b4_0 := blk_frozen K48.out 0; have cw8_b5_0 : w8.cell? ⟨b5, 0, none⟩ = some (.pointer (some ⟨g, 0, none⟩)) := (blk_cell K58.out 0).trans rfl; have fw8_b5_0 := blk_frozen K58.out 0; )))
  go_region
  go_wp2_with fail
  all_goals (go_ret; have hn : ¬ nodeP ⟨1, n, s, l, ks⟩ := ?hn; rotate_left; (case hn => first | (intro h; have q := (node1.1 h).1; have q0 := beq_eq_false_iff_ne.1 h0; have q1 := beq_eq_false_iff_ne.1 h1; omega)); have hy := mayT_no (deep := deep) (left := left) d3 l3 hn; exact ⟨ret_bool (by rw [hv.out, hy]), by rw [hv.out, hy]; exact (Aside0.mk (Left.drew (L8.out.put (b := b7) (i := 1) z7 n7g (.int .i64 n)))).out⟩)

set_option maxHeartbeats 4000000 in
set_option maxRecDepth 100000 in
theorem may_2 (v : S25) (n : Int) (s : ByteArray) (l : List S25) (ks : List ByteArray) (hv : Hid (v = ⟨2, n, s, l, ks⟩)) (deep left : Int) (g : Nat) (A3 : Option Addr) (c3 : Nat) (A4 : Option Addr) (c4 : Nat) (w : World) (d1 : 1 ≤ deep) (d2 : deep ≤ 61) (l1 : 0 ≤ left) (l2 : left ≤ 20000) (hg : CountAt w g left) (d3 : deep ≤ 60) (l3 : 1 ≤ left) (hr3 : FA g w A3 l) (hc3 : l.length ≤ c3) (hr4 : FS g w A4 ks) (hc4 : ks.length ≤ c4) (ih : ∀ x ∈ l, MayOK x) :
    Calls Tryz.prog 37 #[.agg #[.int .i64 2, .int .i64 n, .string s, .slice A3 l.length c3, .slice A4 ks.length c4], .int .i64 deep, .pointer (some ⟨g, 0, none⟩)] w fun e w' => e = .returned (.bool (mayT v deep left).1) ∧ Left w g (mayT v deep left).2 w' := by
  have z : g < w.heap.size := blk_lt hg
  have HG := Lib.hid hg; clear hg
  have hu := Tryz.underlying25
  have HR3 := Lib.hid hr3; clear hr3
  have HR4 := Lib.hid hr4; clear hr4
  have IH := Lib.hid ih; clear ih
  have l4 : ¬ left - 1 < 0 := by omega
  have d4 : ¬ 60 < deep := by omega
  go_enter Tryz.func37, Tryz.ntmps37

  go_wp2_with (first | ((with_reducible refine gate_dst (N := 3) rfl ?_); (refine box_event ?hg (N := 3) ?hd (cs := #[.int .i64 2, .int .i64 n, .string s, .slice A3 l.length c3, .slice A4 ks.length c4]) (t := 25) ?hr ?_; (case hd => rfl); (case hg => rfl); (case hr => first | (go_simp; done) | (go_simp; rfl)); intro b3 e3 w3 k3 m3; have z3 := Nat.le_of_eq e3.symm; clear e3; have K3 := Aside0.mk k3; have M3 := Aside0.mk m3; have G3 := Aside0.mk ((m3.block g (blk_lt HG.out)).trans HG.out); clear k3 m3)) | ((with_reducible refine gate_dst (N := 4) rfl ?_); (refine box_event ?hg (N := 4) ?hd (cs := #[.int .i64 deep]) (t := 3) ?hr ?_; (case hd => rfl); (case hg => rfl); (case hr => first | (go_simp; done) | (go_simp; rfl)); intro b4 e4 w4 k4 m4; have z4 := Nat.le_trans M3.out.size (Nat.le_of_eq e4.symm); clear e4; have K4 := Aside0.mk k4; have K3' := Aside0.mk (blk_below K3.out m4); have M4 := Aside0.mk (M3.out.trans (m4.mono M3.out.size)); have G4 := Aside0.mk ((m4.block g (blk_lt G3.out)).trans G3.out); clear k4 m4 K3 M3 G3)) | ((with_reducible refine gate_dst (N := 5) rfl ?_); (refine box_event ?hg (N := 5) ?hd (cs := #[.pointer (some ⟨g, 0, none⟩)]) (t := 46) ?hr ?_; (case hd => rfl); (case hg => rfl); (case hr => first | (go_simp; done) | (go_simp; rfl)); intro b5 e5 w5 k5 m5; have z5 := Nat.le_trans M4.out.size (Nat.le_of_eq e5.symm); clear e5; have K5 := Aside0.mk k5; have K4' := Aside0.mk (blk_below K4.out m5); have K3 := Aside0.mk (blk_below K3'.out m5); have M5 := Aside0.mk (M4.out.trans (m5.mono M4.out.size)); have G5 := Aside0.mk ((m5.block g (blk_lt G4.out)).trans G4.out); clear k5 m5 K3' K4 M4 G4; have N3 := Nat.ne_of_gt (Nat.lt_of_lt_of_le z z3); have N4 := Nat.ne_of_gt (Nat.lt_of_lt_of_le z z4); have N5 := Nat.ne_of_gt (Nat.lt_of_lt_of_le z z5); have cw5_b5_0 : w5.cell? ⟨b5, 0, none⟩ = some (.pointer (some ⟨g, 0, none⟩)) := (blk_cell K5.out 0).trans rfl; have fw5_b5_0 := blk_frozen K5.out 0; have cw5_g_0 : w5.cell? ⟨g, 0, none⟩ = some (.int .i64 left) := (blk_cell G5.out 0).trans rfl; have fw5_g_0 := blk_frozen G5.out 0; )) | ((with_reducible refine gate_store (t := 3) (p := 13) rfl ?_); (refine store_event (t := 3) (p := 13) (v := ?vo_w6) (w1 := w5.setCell ⟨g, 0, none⟩ (.int .i64 (left - 1))) ?hg ?ho ?hn ?hr ?_; (case ho => rfl); (case hg => rfl); (case hn => rfl); (case hr => first | (go_simp; done) | (go_simp; rfl)); intro w6 hw; have L6 := Aside0.mk (show Left w g (left - 1) w6 by rw [hw]; exact Left.from M5.out (Left.set G5.out (left - 1))); have h_ := blk_far (p := ⟨g, 0, none⟩) K3.out N3 (.int .i64 (left - 1)); rw [← hw] at h_; have K36 := Aside0.mk h_; clear h_; have h_ := blk_far (p := ⟨g, 0, none⟩) K4'.out N4 (.int .i64 (left - 1)); rw [← hw] at h_; have K46 := Aside0.mk h_; clear h_; have h_ := blk_far (p := ⟨g, 0, none⟩) K5.out N5 (.int .i64 (left - 1)); rw [← hw] at h_; have K56 := Aside0.mk h_; clear h_; have G6 := Aside0.mk L6.out.count; clear hw K3 K4' K5 G5 M5 cw5_b5_0 fw5_b5_0 cw5_g_0 fw5_g_0; have cw6_b3_0 : w6.cell? ⟨b3, 0, none⟩ = some (.int .i64 2) := (blk_cell K36.out 0).trans rfl; have fw6_b3_0 := blk_frozen K36.out 0; have cw6_b4_0 : w6.cell? ⟨b4, 0, none⟩ = some (.int .i64 deep) := (blk_cell K46.out 0).trans rfl; have fw6_b4_0 := blk_frozen K46.out 0; have cw6_b5_0 : w6.cell? ⟨b5, 0, none⟩ = some (.pointer (some ⟨g, 0, none⟩)) := (blk_cell K56.out 0).trans rfl; have fw6_b5_0 := blk_frozen K56.out 0; have cw6_g_0 : w6.cell? ⟨g, 0, none⟩ = some (.int .i64 (left - 1)) := (blk_cell G6.out 0).trans rfl; have fw6_g_0 := blk_frozen G6.out 0; )) | ((with_reducible refine gate_dst (N := 7) rfl ?_); (refine box_event ?hg (N := 7) ?hd (cs := #[.int .i64 0, .int .i64 0, .string ⟨#[]⟩, .slice none 0 0, .slice none 0 0]) (t := 25) ?hr ?_; (case hd => rfl); (case hg => rfl); (case hr => first | (go_simp; done) | (go_simp; rfl)); intro b7 e7 w7 k7 m7; have z7 := Nat.le_trans L6.out.size (Nat.le_of_eq e7.symm); have n37 : b3 ≠ b7 := Nat.ne_of_lt (Nat.lt_of_lt_of_eq (blk_lt K36.out) e7.symm); have n47 : b4 ≠ b7 := Nat.ne_of_lt (Nat.lt_of_lt_of_eq (blk_lt K46.out) e7.symm); have n57 : b5 ≠ b7 := Nat.ne_of_lt (Nat.lt_of_lt_of_eq (blk_lt K56.out) e7.symm); have n7g : g ≠ b7 := Nat.ne_of_lt (Nat.lt_of_lt_of_le z z7); clear e7; have K7 := Aside0.mk k7; have L7 := Aside0.mk (L6.out.below m7); have K37 := Aside0.mk (blk_below K36.out m7); have K47 := Aside0.mk (blk_below K46.out m7); have K57 := Aside0.mk (blk_below K56.out m7); clear k7 m7 L6 K36 K46 K56 G6 cw6_b3_0 fw6_b3_0 cw6_b4_0 fw6_b4_0 cw6_b5_0 fw6_b5_0 cw6_g_0 fw6_g_0; have cw7_b7_0 : w7.cell? ⟨b7, 0, none⟩ = some (.int .i64 0) := (blk_cell K7.out 0).trans rfl; have fw7_b7_0 := blk_frozen K7.out 0; have cw7_b7_1 : w7.cell? ⟨b7, 1, none⟩ = some (.int .i64 0) := (blk_cell K7.out 1).trans rfl; have fw7_b7_1 := blk_frozen K7.out 1; have cw7_b7_2 : w7.cell? ⟨b7, 2, none⟩ = some (.string ⟨#[]⟩) := (blk_cell K7.out 2).trans rfl; have fw7_b7_2 := blk_frozen K7.out 2; have cw7_b7_3 : w7.cell? ⟨b7, 3, none⟩ = some (.slice none 0 0) := (blk_cell K7.out 3).trans rfl; have fw7_b7_3 := blk_frozen K7.out 3; have cw7_b7_4 : w7.cell? ⟨b7, 4, none⟩ = some (.slice none 0 0) := (blk_cell K7.out 4).trans rfl; have fw7_b7_4 := blk_frozen K7.out 4; )) | ((with_reducible refine gate_store (t := 25) (p := 7) rfl ?_); (refine store_event (t := 25) (p := 7) (v := ?vo_w8) (w1 := (((((w7.setCell ⟨b7, 0, none⟩ (.int .i64 2)).setCell ⟨b7, 1, none⟩ (.int .i64 0)).setCell ⟨b7, 2, none⟩ (.string ⟨#[]⟩)).setCell ⟨b7, 3, none⟩ (.slice none 0 0)).setCell ⟨b7, 4, none⟩ (.slice none 0 0))) ?hg ?ho ?hn ?hr ?_; (case ho => rfl); (case hg => rfl); (case hn => rfl); (case hr => first | (go_simp; done) | (go_simp; rfl)); intro w8 hw; have K78 : Aside0 (w8.heap[b7]? = some (.cells #[.int .i64 2, .int .i64 0, .string ⟨#[]⟩, .slice none 0 0, .slice none 0 0] 25 (0, 0))) := ⟨by rw [hw]; simpa using blk_set (blk_set (blk_set (blk_set (blk_set K7.out 0 (.int .i64 2)) 1 (.int .i64 0)) 2 (.string ⟨#[]⟩)) 3 (.slice none 0 0)) 4 (.slice none 0 0)⟩; have h_ := (blk_far (p := ⟨b7, 4, none⟩) (blk_far (p := ⟨b7, 3, none⟩) (blk_far (p := ⟨b7, 2, none⟩) (blk_far (p := ⟨b7, 1, none⟩) (blk_far (p := ⟨b7, 0, none⟩) K37.out n37 (.int .i64 2)) n37 (.int .i64 0)) n37 (.string ⟨#[]⟩)) n37 (.slice none 0 0)) n37 (.slice none 0 0)); rw [← hw] at h_; have K38 := Aside0.mk h_; clear h_; have h_ := (blk_far (p := ⟨b7, 4, none⟩) (blk_far (p := ⟨b7, 3, none⟩) (blk_far (p := ⟨b7, 2, none⟩) (blk_far (p := ⟨b7, 1, none⟩) (blk_far (p := ⟨b7, 0, none⟩) K47.out n47 (.int .i64 2)) n47 (.int .i64 0)) n47 (.string ⟨#[]⟩)) n47 (.slice none 0 0)) n47 (.slice none 0 0)); rw [← hw] at h_; have K48 := Aside0.mk h_; clear h_; have h_ := (blk_far (p := ⟨b7, 4, none⟩) (blk_far (p := ⟨b7, 3, none⟩) (blk_far (p := ⟨b7, 2, none⟩) (blk_far (p := ⟨b7, 1, none⟩) (blk_far (p := ⟨b7, 0, none⟩) K57.out n57 (.int .i64 2)) n57 (.int .i64 0)) n57 (.string ⟨#[]⟩)) n57 (.slice none 0 0)) n57 (.slice none 0 0)); rw [← hw] at h_; have K58 := Aside0.mk h_; clear h_; have L8 : Aside0 (Left w g (left - 1) w8) := ⟨by rw [hw]; exact ((((L7.out.put z7 n7g _).put z7 n7g _).put z7 n7g _).put z7 n7g _).put z7 n7g _⟩; have G8 := Aside0.mk L8.out.count; clear hw K7 K37 K47 K57 L7 cw7_b7_0 fw7_b7_0 cw7_b7_1 fw7_b7_1 cw7_b7_2 fw7_b7_2 cw7_b7_3 fw7_b7_3 cw7_b7_4 fw7_b7_4; have cw8_b3_0 : w8.cell? ⟨b3, 0, none⟩ = some (.int .i64 2) := (blk_cell K38.out 0).trans rfl; have fw8_b3_0 := blk_frozen K38.out 0; have cw8_b3_1 : w8.cell? ⟨b3, 1, none⟩ = some (.int .i64 n) := (blk_cell K38.out 1).trans rfl; have fw8_b3_1 := blk_frozen K38.out 1; have cw8_b3_2 : w8.cell? ⟨b3, 2, none⟩ = some (.string s) := (blk_cell K38.out 2).trans rfl; have fw8_b3_2 := blk_frozen K38.out 2; have cw8_b3_3 : w8.cell? ⟨b3, 3, none⟩ = some (.slice A3 l.length c3) := (blk_cell K38.out 3).trans rfl; have fw8_b3_3 := blk_frozen K38.out 3; have cw8_b3_4 : w8.cell? ⟨b3, 4, none⟩ = some (.slice A4 ks.length c4) := (blk_cell K38.out 4).trans rfl; have fw8_b3_4 := blk_frozen K38.out 4; have cw8_b7_0 : w8.cell? ⟨b7, 0, none⟩ = some (.int .i64 2) := (blk_cell K78.out 0).trans rfl; have fw8_b7_0 := blk_frozen K78.out 0; have cw8_b7_1 : w8.cell? ⟨b7, 1, none⟩ = some (.int .i64 0) := (blk_cell K78.out 1).trans rfl; have fw8_b7_1 := blk_frozen K78.out 1; have cw8_b7_2 : w8.cell? ⟨b7, 2, none⟩ = some (.string ⟨#[]⟩) := (blk_cell K78.out 2).trans rfl; have fw8_b7_2 := blk_frozen K78.out 2; have cw8_b7_3 : w8.cell? ⟨b7, 3, none⟩ = some (.slice none 0 0) := (blk_cell K78.out 3).trans rfl; have fw8_b7_3 := blk_frozen K78.out 3; have cw8_b7_4 : w8.cell? ⟨b7, 4, none⟩ = some (.slice none 0 0) := (blk_cell K78.out 4).trans rfl; have fw8_b7_4 := blk_frozen K78.out 4; have cw8_b4_0 : w8.cell? ⟨b4, 0, none⟩ = some (.int .i64 deep) := (blk_cell K48.out 0).trans rfl; have fw8_b4_0 := blk_frozen K48.out 0; have cw8_b5_0 : w8.cell? ⟨b5, 0, none⟩ = some (.pointer (some ⟨g, 0, none⟩)) := (blk_cell K58.out 0).trans rfl; have fw8_b5_0 := blk_frozen K58.out 0; )))
  all_goals first | (refine (has_calls l IH.out deep (left - 1) g b4 b5 A3 c3 _ (by omega) d3 (by omega) (by omega) (Aside0.mk (L8.out.put (b := b7) (i := 1) z7 n7g (.int .i64 n))).out.count N4 (Aside0.mk (blk_far (p := ⟨b7, 1, none⟩) K48.out n47 (.int .i64 n))).out (Aside0.mk (blk_far (p := ⟨b7, 1, none⟩) K58.out n57 (.int .i64 n))).out ((Aside0.mk (L8.out.put (b := b7) (i := 1) z7 n7g (.int .i64 n))).out.fa HR3.out) hc3).mono ?_; rintro e w9 ⟨rfl, hl9⟩; have H9 := Lib.hid ((Aside0.mk (L8.out.put (b := b7) (i := 1) z7 n7g (.int .i64 n))).out.trans hl9); clear hl9; go_wp2; go_ret; have hn : nodeP ⟨2, n, s, l, ks⟩ := ?hn; rotate_left; (case hn => (refine node2.2 ⟨size_nil.1 ?_, ?_, ?_⟩; assumption; (suffices h_ : (0 : Int) = l.length by omega); assumption; (suffices h_ : ((l.length : Int) != (ks.length : Int)) = false by (suffices h2_ : (0 : Int) = l.length by (have := bne_f h_; omega)); assumption); assumption)); have hy := mayT_yes (deep := deep) (left := left) d3 l3 hn; exact ⟨ret_bool (by rw [hv.out, hy] <;> simp), by rw [hv.out, hy]; exact H9.out⟩) | (go_ret; have hn : ¬ nodeP ⟨2, n, s, l, ks⟩ := ?hn; rotate_left; (case hn => first | (refine fun h => absurd (size_nil.2 (node2.1 h).1) ?_; assumption) | (intro h; have q := (node2.1 h).2.1; (suffices h_ : ¬ (0 : Int) = l.length by omega); assumption) | (intro h; have q := (node2.1 h).2; (suffices h_ : ((l.length : Int) != (ks.length : Int)) = true by (have := bne_t h_; omega)); assumption)); have hy := mayT_no (deep := deep) (left := left) d3 l3 hn; exact ⟨ret_bool (by rw [hv.out, hy]), by rw [hv.out, hy]; exact (Aside0.mk (L8.out.put (b := b7) (i := 1) z7 n7g (.int .i64 n))).out⟩)

set_option maxHeartbeats 4000000 in
set_option maxRecDepth 100000 in
theorem may_3 (v : S25) (s : ByteArray) (l : List S25) (ks : List ByteArray) (hv : Hid (v = ⟨3, 0, s, l, ks⟩)) (deep left : Int) (g : Nat) (A3 : Option Addr) (c3 : Nat) (A4 : Option Addr) (c4 : Nat) (w : World) (d1 : 1 ≤ deep) (d2 : deep ≤ 61) (l1 : 0 ≤ left) (l2 : left ≤ 20000) (hg : CountAt w g left) (d3 : deep ≤ 60) (l3 : 1 ≤ left) (hr3 : FA g w A3 l) (hc3 : l.length ≤ c3) (hr4 : FS g w A4 ks) (hc4 : ks.length ≤ c4) (ih : ∀ x ∈ l, MayOK x) :
    Calls Tryz.prog 37 #[.agg #[.int .i64 3, .int .i64 0, .string s, .slice A3 l.length c3, .slice A4 ks.length c4], .int .i64 deep, .pointer (some ⟨g, 0, none⟩)] w fun e w' => e = .returned (.bool (mayT v deep left).1) ∧ Left w g (mayT v deep left).2 w' := by
  have z : g < w.heap.size := blk_lt hg
  have HG := Lib.hid hg; clear hg
  have hu := Tryz.underlying25
  have HR3 := Lib.hid hr3; clear hr3
  have HR4 := Lib.hid hr4; clear hr4
  have IH := Lib.hid ih; clear ih
  have l4 : ¬ left - 1 < 0 := by omega
  have d4 : ¬ 60 < deep := by omega
  go_enter Tryz.func37, Tryz.ntmps37

  go_wp2_with (first | ((with_reducible refine gate_dst (N := 3) rfl ?_); (refine box_event ?hg (N := 3) ?hd (cs := #[.int .i64 3, .int .i64 0, .string s, .slice A3 l.length c3, .slice A4 ks.length c4]) (t := 25) ?hr ?_; (case hd => rfl); (case hg => rfl); (case hr => first | (go_simp; done) | (go_simp; rfl)); intro b3 e3 w3 k3 m3; have z3 := Nat.le_of_eq e3.symm; clear e3; have K3 := Aside0.mk k3; have M3 := Aside0.mk m3; have G3 := Aside0.mk ((m3.block g (blk_lt HG.out)).trans HG.out); clear k3 m3)) | ((with_reducible refine gate_dst (N := 4) rfl ?_); (refine box_event ?hg (N := 4) ?hd (cs := #[.int .i64 deep]) (t := 3) ?hr ?_; (case hd => rfl); (case hg => rfl); (case hr => first | (go_simp; done) | (go_simp; rfl)); intro b4 e4 w4 k4 m4; have z4 := Nat.le_trans M3.out.size (Nat.le_of_eq e4.symm); clear e4; have K4 := Aside0.mk k4; have K3' := Aside0.mk (blk_below K3.out m4); have M4 := Aside0.mk (M3.out.trans (m4.mono M3.out.size)); have G4 := Aside0.mk ((m4.block g (blk_lt G3.out)).trans G3.out); clear k4 m4 K3 M3 G3)) | ((with_reducible refine gate_dst (N := 5) rfl ?_); (refine box_event ?hg (N := 5) ?hd (cs := #[.pointer (some ⟨g, 0, none⟩)]) (t := 46) ?hr ?_; (case hd => rfl); (case hg => rfl); (case hr => first | (go_simp; done) | (go_simp; rfl)); intro b5 e5 w5 k5 m5; have z5 := Nat.le_trans M4.out.size (Nat.le_of_eq e5.symm); clear e5; have K5 := Aside0.mk k5; have K4' := Aside0.mk (blk_below K4.out m5); have K3 := Aside0.mk (blk_below K3'.out m5); have M5 := Aside0.mk (M4.out.trans (m5.mono M4.out.size)); have G5 := Aside0.mk ((m5.block g (blk_lt G4.out)).trans G4.out); clear k5 m5 K3' K4 M4 G4; have N3 := Nat.ne_of_gt (Nat.lt_of_lt_of_le z z3); have N4 := Nat.ne_of_gt (Nat.lt_of_lt_of_le z z4); have N5 := Nat.ne_of_gt (Nat.lt_of_lt_of_le z z5); have cw5_b5_0 : w5.cell? ⟨b5, 0, none⟩ = some (.pointer (some ⟨g, 0, none⟩)) := (blk_cell K5.out 0).trans rfl; have fw5_b5_0 := blk_frozen K5.out 0; have cw5_g_0 : w5.cell? ⟨g, 0, none⟩ = some (.int .i64 left) := (blk_cell G5.out 0).trans rfl; have fw5_g_0 := blk_frozen G5.out 0; )) | ((with_reducible refine gate_store (t := 3) (p := 13) rfl ?_); (refine store_event (t := 3) (p := 13) (v := ?vo_w6) (w1 := w5.setCell ⟨g, 0, none⟩ (.int .i64 (left - 1))) ?hg ?ho ?hn ?hr ?_; (case ho => rfl); (case hg => rfl); (case hn => rfl); (case hr => first | (go_simp; done) | (go_simp; rfl)); intro w6 hw; have L6 := Aside0.mk (show Left w g (left - 1) w6 by rw [hw]; exact Left.from M5.out (Left.set G5.out (left - 1))); have h_ := blk_far (p := ⟨g, 0, none⟩) K3.out N3 (.int .i64 (left - 1)); rw [← hw] at h_; have K36 := Aside0.mk h_; clear h_; have h_ := blk_far (p := ⟨g, 0, none⟩) K4'.out N4 (.int .i64 (left - 1)); rw [← hw] at h_; have K46 := Aside0.mk h_; clear h_; have h_ := blk_far (p := ⟨g, 0, none⟩) K5.out N5 (.int .i64 (left - 1)); rw [← hw] at h_; have K56 := Aside0.mk h_; clear h_; have G6 := Aside0.mk L6.out.count; clear hw K3 K4' K5 G5 M5 cw5_b5_0 fw5_b5_0 cw5_g_0 fw5_g_0; have cw6_b3_0 : w6.cell? ⟨b3, 0, none⟩ = some (.int .i64 3) := (blk_cell K36.out 0).trans rfl; have fw6_b3_0 := blk_frozen K36.out 0; have cw6_b4_0 : w6.cell? ⟨b4, 0, none⟩ = some (.int .i64 deep) := (blk_cell K46.out 0).trans rfl; have fw6_b4_0 := blk_frozen K46.out 0; have cw6_b5_0 : w6.cell? ⟨b5, 0, none⟩ = some (.pointer (some ⟨g, 0, none⟩)) := (blk_cell K56.out 0).trans rfl; have fw6_b5_0 := blk_frozen K56.out 0; have cw6_g_0 : w6.cell? ⟨g, 0, none⟩ = some (.int .i64 (left - 1)) := (blk_cell G6.out 0).trans rfl; have fw6_g_0 := blk_frozen G6.out 0; )) | ((with_reducible refine gate_dst (N := 7) rfl ?_); (refine box_event ?hg (N := 7) ?hd (cs := #[.int .i64 0, .int .i64 0, .string ⟨#[]⟩, .slice none 0 0, .slice none 0 0]) (t := 25) ?hr ?_; (case hd => rfl); (case hg => rfl); (case hr => first | (go_simp; done) | (go_simp; rfl)); intro b7 e7 w7 k7 m7; have z7 := Nat.le_trans L6.out.size (Nat.le_of_eq e7.symm); have n37 : b3 ≠ b7 := Nat.ne_of_lt (Nat.lt_of_lt_of_eq (blk_lt K36.out) e7.symm); have n47 : b4 ≠ b7 := Nat.ne_of_lt (Nat.lt_of_lt_of_eq (blk_lt K46.out) e7.symm); have n57 : b5 ≠ b7 := Nat.ne_of_lt (Nat.lt_of_lt_of_eq (blk_lt K56.out) e7.symm); have n7g : g ≠ b7 := Nat.ne_of_lt (Nat.lt_of_lt_of_le z z7); clear e7; have K7 := Aside0.mk k7; have L7 := Aside0.mk (L6.out.below m7); have K37 := Aside0.mk (blk_below K36.out m7); have K47 := Aside0.mk (blk_below K46.out m7); have K57 := Aside0.mk (blk_below K56.out m7); clear k7 m7 L6 K36 K46 K56 G6 cw6_b3_0 fw6_b3_0 cw6_b4_0 fw6_b4_0 cw6_b5_0 fw6_b5_0 cw6_g_0 fw6_g_0; have cw7_b7_0 : w7.cell? ⟨b7, 0, none⟩ = some (.int .i64 0) := (blk_cell K7.out 0).trans rfl; have fw7_b7_0 := blk_frozen K7.out 0; have cw7_b7_1 : w7.cell? ⟨b7, 1, none⟩ = some (.int .i64 0) := (blk_cell K7.out 1).trans rfl; have fw7_b7_1 := blk_frozen K7.out 1; have cw7_b7_2 : w7.cell? ⟨b7, 2, none⟩ = some (.string ⟨#[]⟩) := (blk_cell K7.out 2).trans rfl; have fw7_b7_2 := blk_frozen K7.out 2; have cw7_b7_3 : w7.cell? ⟨b7, 3, none⟩ = some (.slice none 0 0) := (blk_cell K7.out 3).trans rfl; have fw7_b7_3 := blk_frozen K7.out 3; have cw7_b7_4 : w7.cell? ⟨b7, 4, none⟩ = some (.slice none 0 0) := (blk_cell K7.out 4).trans rfl; have fw7_b7_4 := blk_frozen K7.out 4; )) | ((with_reducible refine gate_store (t := 25) (p := 7) rfl ?_); (refine store_event (t := 25) (p := 7) (v := ?vo_w8) (w1 := (((((w7.setCell ⟨b7, 0, none⟩ (.int .i64 3)).setCell ⟨b7, 1, none⟩ (.int .i64 0)).setCell ⟨b7, 2, none⟩ (.string ⟨#[]⟩)).setCell ⟨b7, 3, none⟩ (.slice none 0 0)).setCell ⟨b7, 4, none⟩ (.slice none 0 0))) ?hg ?ho ?hn ?hr ?_; (case ho => rfl); (case hg => rfl); (case hn => rfl); (case hr => first | (go_simp; done) | (go_simp; rfl)); intro w8 hw; have K78 : Aside0 (w8.heap[b7]? = some (.cells #[.int .i64 3, .int .i64 0, .string ⟨#[]⟩, .slice none 0 0, .slice none 0 0] 25 (0, 0))) := ⟨by rw [hw]; simpa using blk_set (blk_set (blk_set (blk_set (blk_set K7.out 0 (.int .i64 3)) 1 (.int .i64 0)) 2 (.string ⟨#[]⟩)) 3 (.slice none 0 0)) 4 (.slice none 0 0)⟩; have h_ := (blk_far (p := ⟨b7, 4, none⟩) (blk_far (p := ⟨b7, 3, none⟩) (blk_far (p := ⟨b7, 2, none⟩) (blk_far (p := ⟨b7, 1, none⟩) (blk_far (p := ⟨b7, 0, none⟩) K37.out n37 (.int .i64 3)) n37 (.int .i64 0)) n37 (.string ⟨#[]⟩)) n37 (.slice none 0 0)) n37 (.slice none 0 0)); rw [← hw] at h_; have K38 := Aside0.mk h_; clear h_; have h_ := (blk_far (p := ⟨b7, 4, none⟩) (blk_far (p := ⟨b7, 3, none⟩) (blk_far (p := ⟨b7, 2, none⟩) (blk_far (p := ⟨b7, 1, none⟩) (blk_far (p := ⟨b7, 0, none⟩) K47.out n47 (.int .i64 3)) n47 (.int .i64 0)) n47 (.string ⟨#[]⟩)) n47 (.slice none 0 0)) n47 (.slice none 0 0)); rw [← hw] at h_; have K48 := Aside0.mk h_; clear h_; have h_ := (blk_far (p := ⟨b7, 4, none⟩) (blk_far (p := ⟨b7, 3, none⟩) (blk_far (p := ⟨b7, 2, none⟩) (blk_far (p := ⟨b7, 1, none⟩) (blk_far (p := ⟨b7, 0, none⟩) K57.out n57 (.int .i64 3)) n57 (.int .i64 0)) n57 (.string ⟨#[]⟩)) n57 (.slice none 0 0)) n57 (.slice none 0 0)); rw [← hw] at h_; have K58 := Aside0.mk h_; clear h_; have L8 : Aside0 (Left w g (left - 1) w8) := ⟨by rw [hw]; exact ((((L7.out.put z7 n7g _).put z7 n7g _).put z7 n7g _).put z7 n7g _).put z7 n7g _⟩; have G8 := Aside0.mk L8.out.count; clear hw K7 K37 K47 K57 L7 cw7_b7_0 fw7_b7_0 cw7_b7_1 fw7_b7_1 cw7_b7_2 fw7_b7_2 cw7_b7_3 fw7_b7_3 cw7_b7_4 fw7_b7_4; have cw8_b3_0 : w8.cell? ⟨b3, 0, none⟩ = some (.int .i64 3) := (blk_cell K38.out 0).trans rfl; have fw8_b3_0 := blk_frozen K38.out 0; have cw8_b3_1 : w8.cell? ⟨b3, 1, none⟩ = some (.int .i64 0) := (blk_cell K38.out 1).trans rfl; have fw8_b3_1 := blk_frozen K38.out 1; have cw8_b3_2 : w8.cell? ⟨b3, 2, none⟩ = some (.string s) := (blk_cell K38.out 2).trans rfl; have fw8_b3_2 := blk_frozen K38.out 2; have cw8_b3_3 : w8.cell? ⟨b3, 3, none⟩ = some (.slice A3 l.length c3) := (blk_cell K38.out 3).trans rfl; have fw8_b3_3 := blk_frozen K38.out 3; have cw8_b3_4 : w8.cell? ⟨b3, 4, none⟩ = some (.slice A4 ks.length c4) := (blk_cell K38.out 4).trans rfl; have fw8_b3_4 := blk_frozen K38.out 4; have cw8_b7_0 : w8.cell? ⟨b7, 0, none⟩ = some (.int .i64 3) := (blk_cell K78.out 0).trans rfl; have fw8_b7_0 := blk_frozen K78.out 0; have cw8_b7_1 : w8.cell? ⟨b7, 1, none⟩ = some (.int .i64 0) := (blk_cell K78.out 1).trans rfl; have fw8_b7_1 := blk_frozen K78.out 1; have cw8_b7_2 : w8.cell? ⟨b7, 2, none⟩ = some (.string ⟨#[]⟩) := (blk_cell K78.out 2).trans rfl; have fw8_b7_2 := blk_frozen K78.out 2; have cw8_b7_3 : w8.cell? ⟨b7, 3, none⟩ = some (.slice none 0 0) := (blk_cell K78.out 3).trans rfl; have fw8_b7_3 := blk_frozen K78.out 3; have cw8_b7_4 : w8.cell? ⟨b7, 4, none⟩ = some (.slice none 0 0) := (blk_cell K78.out 4).trans rfl; have fw8_b7_4 := blk_frozen K78.out 4; have cw8_b4_0 : w8.cell? ⟨b4, 0, none⟩ = some (.int .i64 deep) := (blk_cell K48.out 0).trans rfl; have fw8_b4_0 := blk_frozen K48.out 0; have cw8_b5_0 : w8.cell? ⟨b5, 0, none⟩ = some (.pointer (some ⟨g, 0, none⟩)) := (blk_cell K58.out 0).trans rfl; have fw8_b5_0 := blk_frozen K58.out 0; )))
  go_region
  go_wp2_with fail
  all_goals first | (refine (has_calls l IH.out deep (left - 1) g b4 b5 A3 c3 _ (by omega) d3 (by omega) (by omega) (Aside0.mk (Left.drew (L8.out.put (b := b7) (i := 2) z7 n7g (.string s)))).out.count N4 (Aside0.mk (blk_drew (blk_far (p := ⟨b7, 2, none⟩) K48.out n47 (.string s)))).out (Aside0.mk (blk_drew (blk_far (p := ⟨b7, 2, none⟩) K58.out n57 (.string s)))).out ((Aside0.mk (Left.drew (L8.out.put (b := b7) (i := 2) z7 n7g (.string s)))).out.fa HR3.out) hc3).mono ?_; rintro e w9 ⟨rfl, hl9⟩; have H9 := Lib.hid ((Aside0.mk (Left.drew (L8.out.put (b := b7) (i := 2) z7 n7g (.string s)))).out.trans hl9); clear hl9; go_wp2; go_ret; have hn : nodeP ⟨3, 0, s, l, ks⟩ := ?hn; rotate_left; (case hn => (refine node3.2 ⟨?_, ?_, ?_⟩; (suffices h_ : (s.size : Int) ≤ 65536 by omega); assumption; (suffices h_ : (0 : Int) = l.length by omega); assumption; (suffices h_ : ((l.length : Int) != (ks.length : Int)) = false by (suffices h2_ : (0 : Int) = l.length by (have := bne_f h_; omega)); assumption); assumption)); have hy := mayT_yes (deep := deep) (left := left) d3 l3 hn; exact ⟨ret_bool (by rw [hv.out, hy] <;> simp), by rw [hv.out, hy]; exact H9.out⟩) | (go_ret; have hn : ¬ nodeP ⟨3, 0, s, l, ks⟩ := ?hn; rotate_left; (case hn => first | (intro h; have q := (node3.1 h).1; (suffices h_ : 65536 < (s.size : Int) by omega); assumption) | (intro h; have q := (node3.1 h).2.1; (suffices h_ : ¬ (0 : Int) = l.length by omega); assumption) | (intro h; have q := (node3.1 h).2; (suffices h_ : ((l.length : Int) != (ks.length : Int)) = true by (have := bne_t h_; omega)); assumption)); have hy := mayT_no (deep := deep) (left := left) d3 l3 hn; exact ⟨ret_bool (by rw [hv.out, hy]), by rw [hv.out, hy]; exact (Aside0.mk (Left.drew (L8.out.put (b := b7) (i := 2) z7 n7g (.string s)))).out⟩)

set_option maxHeartbeats 4000000 in
set_option maxRecDepth 100000 in
theorem may_4 (v : S25) (s : ByteArray) (l : List S25) (ks : List ByteArray) (hv : Hid (v = ⟨4, 0, s, l, ks⟩)) (deep left : Int) (g : Nat) (A3 : Option Addr) (c3 : Nat) (A4 : Option Addr) (c4 : Nat) (w : World) (d1 : 1 ≤ deep) (d2 : deep ≤ 61) (l1 : 0 ≤ left) (l2 : left ≤ 20000) (hg : CountAt w g left) (d3 : deep ≤ 60) (l3 : 1 ≤ left) (hr3 : FA g w A3 l) (hc3 : l.length ≤ c3) (hr4 : FS g w A4 ks) (hc4 : ks.length ≤ c4) (ih : ∀ x ∈ l, MayOK x) :
    Calls Tryz.prog 37 #[.agg #[.int .i64 4, .int .i64 0, .string s, .slice A3 l.length c3, .slice A4 ks.length c4], .int .i64 deep, .pointer (some ⟨g, 0, none⟩)] w fun e w' => e = .returned (.bool (mayT v deep left).1) ∧ Left w g (mayT v deep left).2 w' := by
  have z : g < w.heap.size := blk_lt hg
  have HG := Lib.hid hg; clear hg
  have hu := Tryz.underlying25
  have HR3 := Lib.hid hr3; clear hr3
  have HR4 := Lib.hid hr4; clear hr4
  have IH := Lib.hid ih; clear ih
  have l4 : ¬ left - 1 < 0 := by omega
  have d4 : ¬ 60 < deep := by omega
  go_enter Tryz.func37, Tryz.ntmps37

  go_wp2_with (first | ((with_reducible refine gate_dst (N := 3) rfl ?_); (refine box_event ?hg (N := 3) ?hd (cs := #[.int .i64 4, .int .i64 0, .string s, .slice A3 l.length c3, .slice A4 ks.length c4]) (t := 25) ?hr ?_; (case hd => rfl); (case hg => rfl); (case hr => first | (go_simp; done) | (go_simp; rfl)); intro b3 e3 w3 k3 m3; have z3 := Nat.le_of_eq e3.symm; clear e3; have K3 := Aside0.mk k3; have M3 := Aside0.mk m3; have G3 := Aside0.mk ((m3.block g (blk_lt HG.out)).trans HG.out); clear k3 m3)) | ((with_reducible refine gate_dst (N := 4) rfl ?_); (refine box_event ?hg (N := 4) ?hd (cs := #[.int .i64 deep]) (t := 3) ?hr ?_; (case hd => rfl); (case hg => rfl); (case hr => first | (go_simp; done) | (go_simp; rfl)); intro b4 e4 w4 k4 m4; have z4 := Nat.le_trans M3.out.size (Nat.le_of_eq e4.symm); clear e4; have K4 := Aside0.mk k4; have K3' := Aside0.mk (blk_below K3.out m4); have M4 := Aside0.mk (M3.out.trans (m4.mono M3.out.size)); have G4 := Aside0.mk ((m4.block g (blk_lt G3.out)).trans G3.out); clear k4 m4 K3 M3 G3)) | ((with_reducible refine gate_dst (N := 5) rfl ?_); (refine box_event ?hg (N := 5) ?hd (cs := #[.pointer (some ⟨g, 0, none⟩)]) (t := 46) ?hr ?_; (case hd => rfl); (case hg => rfl); (case hr => first | (go_simp; done) | (go_simp; rfl)); intro b5 e5 w5 k5 m5; have z5 := Nat.le_trans M4.out.size (Nat.le_of_eq e5.symm); clear e5; have K5 := Aside0.mk k5; have K4' := Aside0.mk (blk_below K4.out m5); have K3 := Aside0.mk (blk_below K3'.out m5); have M5 := Aside0.mk (M4.out.trans (m5.mono M4.out.size)); have G5 := Aside0.mk ((m5.block g (blk_lt G4.out)).trans G4.out); clear k5 m5 K3' K4 M4 G4; have N3 := Nat.ne_of_gt (Nat.lt_of_lt_of_le z z3); have N4 := Nat.ne_of_gt (Nat.lt_of_lt_of_le z z4); have N5 := Nat.ne_of_gt (Nat.lt_of_lt_of_le z z5); have cw5_b5_0 : w5.cell? ⟨b5, 0, none⟩ = some (.pointer (some ⟨g, 0, none⟩)) := (blk_cell K5.out 0).trans rfl; have fw5_b5_0 := blk_frozen K5.out 0; have cw5_g_0 : w5.cell? ⟨g, 0, none⟩ = some (.int .i64 left) := (blk_cell G5.out 0).trans rfl; have fw5_g_0 := blk_frozen G5.out 0; )) | ((with_reducible refine gate_store (t := 3) (p := 13) rfl ?_); (refine store_event (t := 3) (p := 13) (v := ?vo_w6) (w1 := w5.setCell ⟨g, 0, none⟩ (.int .i64 (left - 1))) ?hg ?ho ?hn ?hr ?_; (case ho => rfl); (case hg => rfl); (case hn => rfl); (case hr => first | (go_simp; done) | (go_simp; rfl)); intro w6 hw; have L6 := Aside0.mk (show Left w g (left - 1) w6 by rw [hw]; exact Left.from M5.out (Left.set G5.out (left - 1))); have h_ := blk_far (p := ⟨g, 0, none⟩) K3.out N3 (.int .i64 (left - 1)); rw [← hw] at h_; have K36 := Aside0.mk h_; clear h_; have h_ := blk_far (p := ⟨g, 0, none⟩) K4'.out N4 (.int .i64 (left - 1)); rw [← hw] at h_; have K46 := Aside0.mk h_; clear h_; have h_ := blk_far (p := ⟨g, 0, none⟩) K5.out N5 (.int .i64 (left - 1)); rw [← hw] at h_; have K56 := Aside0.mk h_; clear h_; have G6 := Aside0.mk L6.out.count; clear hw K3 K4' K5 G5 M5 cw5_b5_0 fw5_b5_0 cw5_g_0 fw5_g_0; have cw6_b3_0 : w6.cell? ⟨b3, 0, none⟩ = some (.int .i64 4) := (blk_cell K36.out 0).trans rfl; have fw6_b3_0 := blk_frozen K36.out 0; have cw6_b4_0 : w6.cell? ⟨b4, 0, none⟩ = some (.int .i64 deep) := (blk_cell K46.out 0).trans rfl; have fw6_b4_0 := blk_frozen K46.out 0; have cw6_b5_0 : w6.cell? ⟨b5, 0, none⟩ = some (.pointer (some ⟨g, 0, none⟩)) := (blk_cell K56.out 0).trans rfl; have fw6_b5_0 := blk_frozen K56.out 0; have cw6_g_0 : w6.cell? ⟨g, 0, none⟩ = some (.int .i64 (left - 1)) := (blk_cell G6.out 0).trans rfl; have fw6_g_0 := blk_frozen G6.out 0; )) | ((with_reducible refine gate_dst (N := 7) rfl ?_); (refine box_event ?hg (N := 7) ?hd (cs := #[.int .i64 0, .int .i64 0, .string ⟨#[]⟩, .slice none 0 0, .slice none 0 0]) (t := 25) ?hr ?_; (case hd => rfl); (case hg => rfl); (case hr => first | (go_simp; done) | (go_simp; rfl)); intro b7 e7 w7 k7 m7; have z7 := Nat.le_trans L6.out.size (Nat.le_of_eq e7.symm); have n37 : b3 ≠ b7 := Nat.ne_of_lt (Nat.lt_of_lt_of_eq (blk_lt K36.out) e7.symm); have n47 : b4 ≠ b7 := Nat.ne_of_lt (Nat.lt_of_lt_of_eq (blk_lt K46.out) e7.symm); have n57 : b5 ≠ b7 := Nat.ne_of_lt (Nat.lt_of_lt_of_eq (blk_lt K56.out) e7.symm); have n7g : g ≠ b7 := Nat.ne_of_lt (Nat.lt_of_lt_of_le z z7); clear e7; have K7 := Aside0.mk k7; have L7 := Aside0.mk (L6.out.below m7); have K37 := Aside0.mk (blk_below K36.out m7); have K47 := Aside0.mk (blk_below K46.out m7); have K57 := Aside0.mk (blk_below K56.out m7); clear k7 m7 L6 K36 K46 K56 G6 cw6_b3_0 fw6_b3_0 cw6_b4_0 fw6_b4_0 cw6_b5_0 fw6_b5_0 cw6_g_0 fw6_g_0; have cw7_b7_0 : w7.cell? ⟨b7, 0, none⟩ = some (.int .i64 0) := (blk_cell K7.out 0).trans rfl; have fw7_b7_0 := blk_frozen K7.out 0; have cw7_b7_1 : w7.cell? ⟨b7, 1, none⟩ = some (.int .i64 0) := (blk_cell K7.out 1).trans rfl; have fw7_b7_1 := blk_frozen K7.out 1; have cw7_b7_2 : w7.cell? ⟨b7, 2, none⟩ = some (.string ⟨#[]⟩) := (blk_cell K7.out 2).trans rfl; have fw7_b7_2 := blk_frozen K7.out 2; have cw7_b7_3 : w7.cell? ⟨b7, 3, none⟩ = some (.slice none 0 0) := (blk_cell K7.out 3).trans rfl; have fw7_b7_3 := blk_frozen K7.out 3; have cw7_b7_4 : w7.cell? ⟨b7, 4, none⟩ = some (.slice none 0 0) := (blk_cell K7.out 4).trans rfl; have fw7_b7_4 := blk_frozen K7.out 4; )) | ((with_reducible refine gate_store (t := 25) (p := 7) rfl ?_); (refine store_event (t := 25) (p := 7) (v := ?vo_w8) (w1 := (((((w7.setCell ⟨b7, 0, none⟩ (.int .i64 4)).setCell ⟨b7, 1, none⟩ (.int .i64 0)).setCell ⟨b7, 2, none⟩ (.string ⟨#[]⟩)).setCell ⟨b7, 3, none⟩ (.slice none 0 0)).setCell ⟨b7, 4, none⟩ (.slice none 0 0))) ?hg ?ho ?hn ?hr ?_; (case ho => rfl); (case hg => rfl); (case hn => rfl); (case hr => first | (go_simp; done) | (go_simp; rfl)); intro w8 hw; have K78 : Aside0 (w8.heap[b7]? = some (.cells #[.int .i64 4, .int .i64 0, .string ⟨#[]⟩, .slice none 0 0, .slice none 0 0] 25 (0, 0))) := ⟨by rw [hw]; simpa using blk_set (blk_set (blk_set (blk_set (blk_set K7.out 0 (.int .i64 4)) 1 (.int .i64 0)) 2 (.string ⟨#[]⟩)) 3 (.slice none 0 0)) 4 (.slice none 0 0)⟩; have h_ := (blk_far (p := ⟨b7, 4, none⟩) (blk_far (p := ⟨b7, 3, none⟩) (blk_far (p := ⟨b7, 2, none⟩) (blk_far (p := ⟨b7, 1, none⟩) (blk_far (p := ⟨b7, 0, none⟩) K37.out n37 (.int .i64 4)) n37 (.int .i64 0)) n37 (.string ⟨#[]⟩)) n37 (.slice none 0 0)) n37 (.slice none 0 0)); rw [← hw] at h_; have K38 := Aside0.mk h_; clear h_; have h_ := (blk_far (p := ⟨b7, 4, none⟩) (blk_far (p := ⟨b7, 3, none⟩) (blk_far (p := ⟨b7, 2, none⟩) (blk_far (p := ⟨b7, 1, none⟩) (blk_far (p := ⟨b7, 0, none⟩) K47.out n47 (.int .i64 4)) n47 (.int .i64 0)) n47 (.string ⟨#[]⟩)) n47 (.slice none 0 0)) n47 (.slice none 0 0)); rw [← hw] at h_; have K48 := Aside0.mk h_; clear h_; have h_ := (blk_far (p := ⟨b7, 4, none⟩) (blk_far (p := ⟨b7, 3, none⟩) (blk_far (p := ⟨b7, 2, none⟩) (blk_far (p := ⟨b7, 1, none⟩) (blk_far (p := ⟨b7, 0, none⟩) K57.out n57 (.int .i64 4)) n57 (.int .i64 0)) n57 (.string ⟨#[]⟩)) n57 (.slice none 0 0)) n57 (.slice none 0 0)); rw [← hw] at h_; have K58 := Aside0.mk h_; clear h_; have L8 : Aside0 (Left w g (left - 1) w8) := ⟨by rw [hw]; exact ((((L7.out.put z7 n7g _).put z7 n7g _).put z7 n7g _).put z7 n7g _).put z7 n7g _⟩; have G8 := Aside0.mk L8.out.count; clear hw K7 K37 K47 K57 L7 cw7_b7_0 fw7_b7_0 cw7_b7_1 fw7_b7_1 cw7_b7_2 fw7_b7_2 cw7_b7_3 fw7_b7_3 cw7_b7_4 fw7_b7_4; have cw8_b3_0 : w8.cell? ⟨b3, 0, none⟩ = some (.int .i64 4) := (blk_cell K38.out 0).trans rfl; have fw8_b3_0 := blk_frozen K38.out 0; have cw8_b3_1 : w8.cell? ⟨b3, 1, none⟩ = some (.int .i64 0) := (blk_cell K38.out 1).trans rfl; have fw8_b3_1 := blk_frozen K38.out 1; have cw8_b3_2 : w8.cell? ⟨b3, 2, none⟩ = some (.string s) := (blk_cell K38.out 2).trans rfl; have fw8_b3_2 := blk_frozen K38.out 2; have cw8_b3_3 : w8.cell? ⟨b3, 3, none⟩ = some (.slice A3 l.length c3) := (blk_cell K38.out 3).trans rfl; have fw8_b3_3 := blk_frozen K38.out 3; have cw8_b3_4 : w8.cell? ⟨b3, 4, none⟩ = some (.slice A4 ks.length c4) := (blk_cell K38.out 4).trans rfl; have fw8_b3_4 := blk_frozen K38.out 4; have cw8_b7_0 : w8.cell? ⟨b7, 0, none⟩ = some (.int .i64 4) := (blk_cell K78.out 0).trans rfl; have fw8_b7_0 := blk_frozen K78.out 0; have cw8_b7_1 : w8.cell? ⟨b7, 1, none⟩ = some (.int .i64 0) := (blk_cell K78.out 1).trans rfl; have fw8_b7_1 := blk_frozen K78.out 1; have cw8_b7_2 : w8.cell? ⟨b7, 2, none⟩ = some (.string ⟨#[]⟩) := (blk_cell K78.out 2).trans rfl; have fw8_b7_2 := blk_frozen K78.out 2; have cw8_b7_3 : w8.cell? ⟨b7, 3, none⟩ = some (.slice none 0 0) := (blk_cell K78.out 3).trans rfl; have fw8_b7_3 := blk_frozen K78.out 3; have cw8_b7_4 : w8.cell? ⟨b7, 4, none⟩ = some (.slice none 0 0) := (blk_cell K78.out 4).trans rfl; have fw8_b7_4 := blk_frozen K78.out 4; have cw8_b4_0 : w8.cell? ⟨b4, 0, none⟩ = some (.int .i64 deep) := (blk_cell K48.out 0).trans rfl; have fw8_b4_0 := blk_frozen K48.out 0; have cw8_b5_0 : w8.cell? ⟨b5, 0, none⟩ = some (.pointer (some ⟨g, 0, none⟩)) := (blk_cell K58.out 0).trans rfl; have fw8_b5_0 := blk_frozen K58.out 0; )))
  go_region
  go_wp2_with fail
  all_goals first | (refine (has_calls l IH.out deep (left - 1) g b4 b5 A3 c3 _ (by omega) d3 (by omega) (by omega) (Aside0.mk (Left.drew (L8.out.put (b := b7) (i := 3) z7 n7g (.slice A3 l.length c3)))).out.count N4 (Aside0.mk (blk_drew (blk_far (p := ⟨b7, 3, none⟩) K48.out n47 (.slice A3 l.length c3)))).out (Aside0.mk (blk_drew (blk_far (p := ⟨b7, 3, none⟩) K58.out n57 (.slice A3 l.length c3)))).out ((Aside0.mk (Left.drew (L8.out.put (b := b7) (i := 3) z7 n7g (.slice A3 l.length c3)))).out.fa HR3.out) hc3).mono ?_; rintro e w9 ⟨rfl, hl9⟩; have H9 := Lib.hid ((Aside0.mk (Left.drew (L8.out.put (b := b7) (i := 3) z7 n7g (.slice A3 l.length c3)))).out.trans hl9); clear hl9; go_wp2; go_ret; have hn : nodeP ⟨4, 0, s, l, ks⟩ := ?hn; rotate_left; (case hn => (refine node4.2 ⟨size_nil.1 ?_, ?_, ?_⟩; assumption; (suffices h_ : (l.length : Int) ≤ 1000 by omega); assumption; (suffices h_ : ((0 : Int) != (ks.length : Int)) = false by (have := bne_f (a := 0) h_; omega)); assumption)); have hy := mayT_yes (deep := deep) (left := left) d3 l3 hn; exact ⟨ret_bool (by rw [hv.out, hy] <;> simp), by rw [hv.out, hy]; exact H9.out⟩) | (go_ret; have hn : ¬ nodeP ⟨4, 0, s, l, ks⟩ := ?hn; rotate_left; (case hn => first | (refine fun h => absurd (size_nil.2 (node4.1 h).1) ?_; assumption) | (intro h; have q := (node4.1 h).2.1; (suffices h_ : 1000 < (l.length : Int) by omega); assumption) | (intro h; have q := (node4.1 h).2; (suffices h_ : ((0 : Int) != (ks.length : Int)) = true by (have := bne_t (a := 0) h_; omega)); assumption)); have hy := mayT_no (deep := deep) (left := left) d3 l3 hn; exact ⟨ret_bool (by rw [hv.out, hy]), by rw [hv.out, hy]; exact (Aside0.mk (Left.drew (L8.out.put (b := b7) (i := 3) z7 n7g (.slice A3 l.length c3)))).out⟩)

set_option maxHeartbeats 4000000 in
set_option maxRecDepth 100000 in
theorem may_x (v : S25) (kd n : Int) (s : ByteArray) (l : List S25) (ks : List ByteArray) (hv : Hid (v = ⟨kd, n, s, l, ks⟩)) (deep left : Int) (g : Nat) (A3 : Option Addr) (c3 : Nat) (A4 : Option Addr) (c4 : Nat) (w : World) (d1 : 1 ≤ deep) (d2 : deep ≤ 61) (l1 : 0 ≤ left) (l2 : left ≤ 20000) (hg : CountAt w g left) (d3 : deep ≤ 60) (l3 : 1 ≤ left) (hr3 : FA g w A3 l) (hc3 : l.length ≤ c3) (hr4 : FS g w A4 ks) (hc4 : ks.length ≤ c4) (ih : ∀ x ∈ l, MayOK x) (x0 : (kd == 0) = false) (x1 : (kd == 1) = false) (x2 : (kd == 2) = false) (x3 : (kd == 3) = false) (x4 : (kd == 4) = false) (x5 : (kd == 5) = false) :
    Calls Tryz.prog 37 #[.agg #[.int .i64 kd, .int .i64 n, .string s, .slice A3 l.length c3, .slice A4 ks.length c4], .int .i64 deep, .pointer (some ⟨g, 0, none⟩)] w fun e w' => e = .returned (.bool (mayT v deep left).1) ∧ Left w g (mayT v deep left).2 w' := by
  have z : g < w.heap.size := blk_lt hg
  have HG := Lib.hid hg; clear hg
  have hu := Tryz.underlying25
  have HR3 := Lib.hid hr3; clear hr3
  have HR4 := Lib.hid hr4; clear hr4
  have IH := Lib.hid ih; clear ih
  have l4 : ¬ left - 1 < 0 := by omega
  have d4 : ¬ 60 < deep := by omega
  go_enter Tryz.func37, Tryz.ntmps37

  go_wp2_with (first | ((with_reducible refine gate_dst (N := 3) rfl ?_); (refine box_event ?hg (N := 3) ?hd (cs := #[.int .i64 kd, .int .i64 n, .string s, .slice A3 l.length c3, .slice A4 ks.length c4]) (t := 25) ?hr ?_; (case hd => rfl); (case hg => rfl); (case hr => first | (go_simp; done) | (go_simp; rfl)); intro b3 e3 w3 k3 m3; have z3 := Nat.le_of_eq e3.symm; clear e3; have K3 := Aside0.mk k3; have M3 := Aside0.mk m3; have G3 := Aside0.mk ((m3.block g (blk_lt HG.out)).trans HG.out); clear k3 m3)) | ((with_reducible refine gate_dst (N := 4) rfl ?_); (refine box_event ?hg (N := 4) ?hd (cs := #[.int .i64 deep]) (t := 3) ?hr ?_; (case hd => rfl); (case hg => rfl); (case hr => first | (go_simp; done) | (go_simp; rfl)); intro b4 e4 w4 k4 m4; have z4 := Nat.le_trans M3.out.size (Nat.le_of_eq e4.symm); clear e4; have K4 := Aside0.mk k4; have K3' := Aside0.mk (blk_below K3.out m4); have M4 := Aside0.mk (M3.out.trans (m4.mono M3.out.size)); have G4 := Aside0.mk ((m4.block g (blk_lt G3.out)).trans G3.out); clear k4 m4 K3 M3 G3)) | ((with_reducible refine gate_dst (N := 5) rfl ?_); (refine box_event ?hg (N := 5) ?hd (cs := #[.pointer (some ⟨g, 0, none⟩)]) (t := 46) ?hr ?_; (case hd => rfl); (case hg => rfl); (case hr => first | (go_simp; done) | (go_simp; rfl)); intro b5 e5 w5 k5 m5; have z5 := Nat.le_trans M4.out.size (Nat.le_of_eq e5.symm); clear e5; have K5 := Aside0.mk k5; have K4' := Aside0.mk (blk_below K4.out m5); have K3 := Aside0.mk (blk_below K3'.out m5); have M5 := Aside0.mk (M4.out.trans (m5.mono M4.out.size)); have G5 := Aside0.mk ((m5.block g (blk_lt G4.out)).trans G4.out); clear k5 m5 K3' K4 M4 G4; have N3 := Nat.ne_of_gt (Nat.lt_of_lt_of_le z z3); have N4 := Nat.ne_of_gt (Nat.lt_of_lt_of_le z z4); have N5 := Nat.ne_of_gt (Nat.lt_of_lt_of_le z z5); have cw5_b5_0 : w5.cell? ⟨b5, 0, none⟩ = some (.pointer (some ⟨g, 0, none⟩)) := (blk_cell K5.out 0).trans rfl; have fw5_b5_0 := blk_frozen K5.out 0; have cw5_g_0 : w5.cell? ⟨g, 0, none⟩ = some (.int .i64 left) := (blk_cell G5.out 0).trans rfl; have fw5_g_0 := blk_frozen G5.out 0; )) | ((with_reducible refine gate_store (t := 3) (p := 13) rfl ?_); (refine store_event (t := 3) (p := 13) (v := ?vo_w6) (w1 := w5.setCell ⟨g, 0, none⟩ (.int .i64 (left - 1))) ?hg ?ho ?hn ?hr ?_; (case ho => rfl); (case hg => rfl); (case hn => rfl); (case hr => first | (go_simp; done) | (go_simp; rfl)); intro w6 hw; have L6 := Aside0.mk (show Left w g (left - 1) w6 by rw [hw]; exact Left.from M5.out (Left.set G5.out (left - 1))); have h_ := blk_far (p := ⟨g, 0, none⟩) K3.out N3 (.int .i64 (left - 1)); rw [← hw] at h_; have K36 := Aside0.mk h_; clear h_; have h_ := blk_far (p := ⟨g, 0, none⟩) K4'.out N4 (.int .i64 (left - 1)); rw [← hw] at h_; have K46 := Aside0.mk h_; clear h_; have h_ := blk_far (p := ⟨g, 0, none⟩) K5.out N5 (.int .i64 (left - 1)); rw [← hw] at h_; have K56 := Aside0.mk h_; clear h_; have G6 := Aside0.mk L6.out.count; clear hw K3 K4' K5 G5 M5 cw5_b5_0 fw5_b5_0 cw5_g_0 fw5_g_0; have cw6_b3_0 : w6.cell? ⟨b3, 0, none⟩ = some (.int .i64 kd) := (blk_cell K36.out 0).trans rfl; have fw6_b3_0 := blk_frozen K36.out 0; have cw6_b4_0 : w6.cell? ⟨b4, 0, none⟩ = some (.int .i64 deep) := (blk_cell K46.out 0).trans rfl; have fw6_b4_0 := blk_frozen K46.out 0; have cw6_b5_0 : w6.cell? ⟨b5, 0, none⟩ = some (.pointer (some ⟨g, 0, none⟩)) := (blk_cell K56.out 0).trans rfl; have fw6_b5_0 := blk_frozen K56.out 0; have cw6_g_0 : w6.cell? ⟨g, 0, none⟩ = some (.int .i64 (left - 1)) := (blk_cell G6.out 0).trans rfl; have fw6_g_0 := blk_frozen G6.out 0; )) | ((with_reducible refine gate_dst (N := 7) rfl ?_); (refine box_event ?hg (N := 7) ?hd (cs := #[.int .i64 0, .int .i64 0, .string ⟨#[]⟩, .slice none 0 0, .slice none 0 0]) (t := 25) ?hr ?_; (case hd => rfl); (case hg => rfl); (case hr => first | (go_simp; done) | (go_simp; rfl)); intro b7 e7 w7 k7 m7; have z7 := Nat.le_trans L6.out.size (Nat.le_of_eq e7.symm); have n37 : b3 ≠ b7 := Nat.ne_of_lt (Nat.lt_of_lt_of_eq (blk_lt K36.out) e7.symm); have n47 : b4 ≠ b7 := Nat.ne_of_lt (Nat.lt_of_lt_of_eq (blk_lt K46.out) e7.symm); have n57 : b5 ≠ b7 := Nat.ne_of_lt (Nat.lt_of_lt_of_eq (blk_lt K56.out) e7.symm); have n7g : g ≠ b7 := Nat.ne_of_lt (Nat.lt_of_lt_of_le z z7); clear e7; have K7 := Aside0.mk k7; have L7 := Aside0.mk (L6.out.below m7); have K37 := Aside0.mk (blk_below K36.out m7); have K47 := Aside0.mk (blk_below K46.out m7); have K57 := Aside0.mk (blk_below K56.out m7); clear k7 m7 L6 K36 K46 K56 G6 cw6_b3_0 fw6_b3_0 cw6_b4_0 fw6_b4_0 cw6_b5_0 fw6_b5_0 cw6_g_0 fw6_g_0; have cw7_b7_0 : w7.cell? ⟨b7, 0, none⟩ = some (.int .i64 0) := (blk_cell K7.out 0).trans rfl; have fw7_b7_0 := blk_frozen K7.out 0; have cw7_b7_1 : w7.cell? ⟨b7, 1, none⟩ = some (.int .i64 0) := (blk_cell K7.out 1).trans rfl; have fw7_b7_1 := blk_frozen K7.out 1; have cw7_b7_2 : w7.cell? ⟨b7, 2, none⟩ = some (.string ⟨#[]⟩) := (blk_cell K7.out 2).trans rfl; have fw7_b7_2 := blk_frozen K7.out 2; have cw7_b7_3 : w7.cell? ⟨b7, 3, none⟩ = some (.slice none 0 0) := (blk_cell K7.out 3).trans rfl; have fw7_b7_3 := blk_frozen K7.out 3; have cw7_b7_4 : w7.cell? ⟨b7, 4, none⟩ = some (.slice none 0 0) := (blk_cell K7.out 4).trans rfl; have fw7_b7_4 := blk_frozen K7.out 4; )) | ((with_reducible refine gate_store (t := 25) (p := 7) rfl ?_); (refine store_event (t := 25) (p := 7) (v := ?vo_w8) (w1 := (((((w7.setCell ⟨b7, 0, none⟩ (.int .i64 kd)).setCell ⟨b7, 1, none⟩ (.int .i64 0)).setCell ⟨b7, 2, none⟩ (.string ⟨#[]⟩)).setCell ⟨b7, 3, none⟩ (.slice none 0 0)).setCell ⟨b7, 4, none⟩ (.slice none 0 0))) ?hg ?ho ?hn ?hr ?_; (case ho => rfl); (case hg => rfl); (case hn => rfl); (case hr => first | (go_simp; done) | (go_simp; rfl)); intro w8 hw; have K78 : Aside0 (w8.heap[b7]? = some (.cells #[.int .i64 kd, .int .i64 0, .string ⟨#[]⟩, .slice none 0 0, .slice none 0 0] 25 (0, 0))) := ⟨by rw [hw]; simpa using blk_set (blk_set (blk_set (blk_set (blk_set K7.out 0 (.int .i64 kd)) 1 (.int .i64 0)) 2 (.string ⟨#[]⟩)) 3 (.slice none 0 0)) 4 (.slice none 0 0)⟩; have h_ := (blk_far (p := ⟨b7, 4, none⟩) (blk_far (p := ⟨b7, 3, none⟩) (blk_far (p := ⟨b7, 2, none⟩) (blk_far (p := ⟨b7, 1, none⟩) (blk_far (p := ⟨b7, 0, none⟩) K37.out n37 (.int .i64 kd)) n37 (.int .i64 0)) n37 (.string ⟨#[]⟩)) n37 (.slice none 0 0)) n37 (.slice none 0 0)); rw [← hw] at h_; have K38 := Aside0.mk h_; clear h_; have h_ := (blk_far (p := ⟨b7, 4, none⟩) (blk_far (p := ⟨b7, 3, none⟩) (blk_far (p := ⟨b7, 2, none⟩) (blk_far (p := ⟨b7, 1, none⟩) (blk_far (p := ⟨b7, 0, none⟩) K47.out n47 (.int .i64 kd)) n47 (.int .i64 0)) n47 (.string ⟨#[]⟩)) n47 (.slice none 0 0)) n47 (.slice none 0 0)); rw [← hw] at h_; have K48 := Aside0.mk h_; clear h_; have h_ := (blk_far (p := ⟨b7, 4, none⟩) (blk_far (p := ⟨b7, 3, none⟩) (blk_far (p := ⟨b7, 2, none⟩) (blk_far (p := ⟨b7, 1, none⟩) (blk_far (p := ⟨b7, 0, none⟩) K57.out n57 (.int .i64 kd)) n57 (.int .i64 0)) n57 (.string ⟨#[]⟩)) n57 (.slice none 0 0)) n57 (.slice none 0 0)); rw [← hw] at h_; have K58 := Aside0.mk h_; clear h_; have L8 : Aside0 (Left w g (left - 1) w8) := ⟨by rw [hw]; exact ((((L7.out.put z7 n7g _).put z7 n7g _).put z7 n7g _).put z7 n7g _).put z7 n7g _⟩; have G8 := Aside0.mk L8.out.count; clear hw K7 K37 K47 K57 L7 cw7_b7_0 fw7_b7_0 cw7_b7_1 fw7_b7_1 cw7_b7_2 fw7_b7_2 cw7_b7_3 fw7_b7_3 cw7_b7_4 fw7_b7_4; have cw8_b3_0 : w8.cell? ⟨b3, 0, none⟩ = some (.int .i64 kd) := (blk_cell K38.out 0).trans rfl; have fw8_b3_0 := blk_frozen K38.out 0; have cw8_b3_1 : w8.cell? ⟨b3, 1, none⟩ = some (.int .i64 n) := (blk_cell K38.out 1).trans rfl; have fw8_b3_1 := blk_frozen K38.out 1; have cw8_b3_2 : w8.cell? ⟨b3, 2, none⟩ = some (.string s) := (blk_cell K38.out 2).trans rfl; have fw8_b3_2 := blk_frozen K38.out 2; have cw8_b3_3 : w8.cell? ⟨b3, 3, none⟩ = some (.slice A3 l.length c3) := (blk_cell K38.out 3).trans rfl; have fw8_b3_3 := blk_frozen K38.out 3; have cw8_b3_4 : w8.cell? ⟨b3, 4, none⟩ = some (.slice A4 ks.length c4) := (blk_cell K38.out 4).trans rfl; have fw8_b3_4 := blk_frozen K38.out 4; have cw8_b7_0 : w8.cell? ⟨b7, 0, none⟩ = some (.int .i64 kd) := (blk_cell K78.out 0).trans rfl; have fw8_b7_0 := blk_frozen K78.out 0; have cw8_b7_1 : w8.cell? ⟨b7, 1, none⟩ = some (.int .i64 0) := (blk_cell K78.out 1).trans rfl; have fw8_b7_1 := blk_frozen K78.out 1; have cw8_b7_2 : w8.cell? ⟨b7, 2, none⟩ = some (.string ⟨#[]⟩) := (blk_cell K78.out 2).trans rfl; have fw8_b7_2 := blk_frozen K78.out 2; have cw8_b7_3 : w8.cell? ⟨b7, 3, none⟩ = some (.slice none 0 0) := (blk_cell K78.out 3).trans rfl; have fw8_b7_3 := blk_frozen K78.out 3; have cw8_b7_4 : w8.cell? ⟨b7, 4, none⟩ = some (.slice none 0 0) := (blk_cell K78.out 4).trans rfl; have fw8_b7_4 := blk_frozen K78.out 4; have cw8_b4_0 : w8.cell? ⟨b4, 0, none⟩ = some (.int .i64 deep) := (blk_cell K48.out 0).trans rfl; have fw8_b4_0 := blk_frozen K48.out 0; have cw8_b5_0 : w8.cell? ⟨b5, 0, none⟩ = some (.pointer (some ⟨g, 0, none⟩)) := (blk_cell K58.out 0).trans rfl; have fw8_b5_0 := blk_frozen K58.out 0; )))
  all_goals (go_ret; have hn : ¬ nodeP ⟨kd, n, s, l, ks⟩ := ?hn; rotate_left; (case hn => first | (intro h; simp only [nodeP] at h; have q0 := beq_eq_false_iff_ne.1 x0; have q1 := beq_eq_false_iff_ne.1 x1; have q2 := beq_eq_false_iff_ne.1 x2; have q3 := beq_eq_false_iff_ne.1 x3; have q4 := beq_eq_false_iff_ne.1 x4; have q5 := beq_eq_false_iff_ne.1 x5; omega)); have hy := mayT_no (deep := deep) (left := left) d3 l3 hn; exact ⟨ret_bool (by rw [hv.out, hy]), by rw [hv.out, hy]; exact L8.out⟩)

set_option maxHeartbeats 4000000 in
set_option maxRecDepth 100000 in
theorem may_0n (v : S25) (n : Int) (s : ByteArray) (l : List S25) (ks : List ByteArray) (hv : Hid (v = ⟨0, n, s, l, ks⟩)) (deep left : Int) (g : Nat) (A3 : Option Addr) (c3 : Nat) (A4 : Option Addr) (c4 : Nat) (w : World) (d1 : 1 ≤ deep) (d2 : deep ≤ 61) (l1 : 0 ≤ left) (l2 : left ≤ 20000) (hg : CountAt w g left) (d3 : deep ≤ 60) (l3 : 1 ≤ left) (hr3 : FA g w A3 l) (hc3 : l.length ≤ c3) (hr4 : FS g w A4 ks) (hc4 : ks.length ≤ c4) (ih : ∀ x ∈ l, MayOK x) (hn : (0 == n) = false) (hn' : ¬ (0 : Int) = n) :
    Calls Tryz.prog 37 #[.agg #[.int .i64 0, .int .i64 n, .string s, .slice A3 l.length c3, .slice A4 ks.length c4], .int .i64 deep, .pointer (some ⟨g, 0, none⟩)] w fun e w' => e = .returned (.bool (mayT v deep left).1) ∧ Left w g (mayT v deep left).2 w' := by
  have z : g < w.heap.size := blk_lt hg
  have HG := Lib.hid hg; clear hg
  have hu := Tryz.underlying25
  have HR3 := Lib.hid hr3; clear hr3
  have HR4 := Lib.hid hr4; clear hr4
  have IH := Lib.hid ih; clear ih
  have l4 : ¬ left - 1 < 0 := by omega
  have d4 : ¬ 60 < deep := by omega
  go_enter Tryz.func37, Tryz.ntmps37

  go_wp2_with (first | ((with_reducible refine gate_dst (N := 3) rfl ?_); (refine box_event ?hg (N := 3) ?hd (cs := #[.int .i64 0, .int .i64 n, .string s, .slice A3 l.length c3, .slice A4 ks.length c4]) (t := 25) ?hr ?_; (case hd => rfl); (case hg => rfl); (case hr => first | (go_simp; done) | (go_simp; rfl)); intro b3 e3 w3 k3 m3; have z3 := Nat.le_of_eq e3.symm; clear e3; have K3 := Aside0.mk k3; have M3 := Aside0.mk m3; have G3 := Aside0.mk ((m3.block g (blk_lt HG.out)).trans HG.out); clear k3 m3)) | ((with_reducible refine gate_dst (N := 4) rfl ?_); (refine box_event ?hg (N := 4) ?hd (cs := #[.int .i64 deep]) (t := 3) ?hr ?_; (case hd => rfl); (case hg => rfl); (case hr => first | (go_simp; done) | (go_simp; rfl)); intro b4 e4 w4 k4 m4; have z4 := Nat.le_trans M3.out.size (Nat.le_of_eq e4.symm); clear e4; have K4 := Aside0.mk k4; have K3' := Aside0.mk (blk_below K3.out m4); have M4 := Aside0.mk (M3.out.trans (m4.mono M3.out.size)); have G4 := Aside0.mk ((m4.block g (blk_lt G3.out)).trans G3.out); clear k4 m4 K3 M3 G3)) | ((with_reducible refine gate_dst (N := 5) rfl ?_); (refine box_event ?hg (N := 5) ?hd (cs := #[.pointer (some ⟨g, 0, none⟩)]) (t := 46) ?hr ?_; (case hd => rfl); (case hg => rfl); (case hr => first | (go_simp; done) | (go_simp; rfl)); intro b5 e5 w5 k5 m5; have z5 := Nat.le_trans M4.out.size (Nat.le_of_eq e5.symm); clear e5; have K5 := Aside0.mk k5; have K4' := Aside0.mk (blk_below K4.out m5); have K3 := Aside0.mk (blk_below K3'.out m5); have M5 := Aside0.mk (M4.out.trans (m5.mono M4.out.size)); have G5 := Aside0.mk ((m5.block g (blk_lt G4.out)).trans G4.out); clear k5 m5 K3' K4 M4 G4; have N3 := Nat.ne_of_gt (Nat.lt_of_lt_of_le z z3); have N4 := Nat.ne_of_gt (Nat.lt_of_lt_of_le z z4); have N5 := Nat.ne_of_gt (Nat.lt_of_lt_of_le z z5); have cw5_b5_0 : w5.cell? ⟨b5, 0, none⟩ = some (.pointer (some ⟨g, 0, none⟩)) := (blk_cell K5.out 0).trans rfl; have fw5_b5_0 := blk_frozen K5.out 0; have cw5_g_0 : w5.cell? ⟨g, 0, none⟩ = some (.int .i64 left) := (blk_cell G5.out 0).trans rfl; have fw5_g_0 := blk_frozen G5.out 0; )) | ((with_reducible refine gate_store (t := 3) (p := 13) rfl ?_); (refine store_event (t := 3) (p := 13) (v := ?vo_w6) (w1 := w5.setCell ⟨g, 0, none⟩ (.int .i64 (left - 1))) ?hg ?ho ?hn ?hr ?_; (case ho => rfl); (case hg => rfl); (case hn => rfl); (case hr => first | (go_simp; done) | (go_simp; rfl)); intro w6 hw; have L6 := Aside0.mk (show Left w g (left - 1) w6 by rw [hw]; exact Left.from M5.out (Left.set G5.out (left - 1))); have h_ := blk_far (p := ⟨g, 0, none⟩) K3.out N3 (.int .i64 (left - 1)); rw [← hw] at h_; have K36 := Aside0.mk h_; clear h_; have h_ := blk_far (p := ⟨g, 0, none⟩) K4'.out N4 (.int .i64 (left - 1)); rw [← hw] at h_; have K46 := Aside0.mk h_; clear h_; have h_ := blk_far (p := ⟨g, 0, none⟩) K5.out N5 (.int .i64 (left - 1)); rw [← hw] at h_; have K56 := Aside0.mk h_; clear h_; have G6 := Aside0.mk L6.out.count; clear hw K3 K4' K5 G5 M5 cw5_b5_0 fw5_b5_0 cw5_g_0 fw5_g_0; have cw6_b3_0 : w6.cell? ⟨b3, 0, none⟩ = some (.int .i64 0) := (blk_cell K36.out 0).trans rfl; have fw6_b3_0 := blk_frozen K36.out 0; have cw6_b4_0 : w6.cell? ⟨b4, 0, none⟩ = some (.int .i64 deep) := (blk_cell K46.out 0).trans rfl; have fw6_b4_0 := blk_frozen K46.out 0; have cw6_b5_0 : w6.cell? ⟨b5, 0, none⟩ = some (.pointer (some ⟨g, 0, none⟩)) := (blk_cell K56.out 0).trans rfl; have fw6_b5_0 := blk_frozen K56.out 0; have cw6_g_0 : w6.cell? ⟨g, 0, none⟩ = some (.int .i64 (left - 1)) := (blk_cell G6.out 0).trans rfl; have fw6_g_0 := blk_frozen G6.out 0; )) | ((with_reducible refine gate_dst (N := 7) rfl ?_); (refine box_event ?hg (N := 7) ?hd (cs := #[.int .i64 0, .int .i64 0, .string ⟨#[]⟩, .slice none 0 0, .slice none 0 0]) (t := 25) ?hr ?_; (case hd => rfl); (case hg => rfl); (case hr => first | (go_simp; done) | (go_simp; rfl)); intro b7 e7 w7 k7 m7; have z7 := Nat.le_trans L6.out.size (Nat.le_of_eq e7.symm); have n37 : b3 ≠ b7 := Nat.ne_of_lt (Nat.lt_of_lt_of_eq (blk_lt K36.out) e7.symm); have n47 : b4 ≠ b7 := Nat.ne_of_lt (Nat.lt_of_lt_of_eq (blk_lt K46.out) e7.symm); have n57 : b5 ≠ b7 := Nat.ne_of_lt (Nat.lt_of_lt_of_eq (blk_lt K56.out) e7.symm); have n7g : g ≠ b7 := Nat.ne_of_lt (Nat.lt_of_lt_of_le z z7); clear e7; have K7 := Aside0.mk k7; have L7 := Aside0.mk (L6.out.below m7); have K37 := Aside0.mk (blk_below K36.out m7); have K47 := Aside0.mk (blk_below K46.out m7); have K57 := Aside0.mk (blk_below K56.out m7); clear k7 m7 L6 K36 K46 K56 G6 cw6_b3_0 fw6_b3_0 cw6_b4_0 fw6_b4_0 cw6_b5_0 fw6_b5_0 cw6_g_0 fw6_g_0; have cw7_b7_0 : w7.cell? ⟨b7, 0, none⟩ = some (.int .i64 0) := (blk_cell K7.out 0).trans rfl; have fw7_b7_0 := blk_frozen K7.out 0; have cw7_b7_1 : w7.cell? ⟨b7, 1, none⟩ = some (.int .i64 0) := (blk_cell K7.out 1).trans rfl; have fw7_b7_1 := blk_frozen K7.out 1; have cw7_b7_2 : w7.cell? ⟨b7, 2, none⟩ = some (.string ⟨#[]⟩) := (blk_cell K7.out 2).trans rfl; have fw7_b7_2 := blk_frozen K7.out 2; have cw7_b7_3 : w7.cell? ⟨b7, 3, none⟩ = some (.slice none 0 0) := (blk_cell K7.out 3).trans rfl; have fw7_b7_3 := blk_frozen K7.out 3; have cw7_b7_4 : w7.cell? ⟨b7, 4, none⟩ = some (.slice none 0 0) := (blk_cell K7.out 4).trans rfl; have fw7_b7_4 := blk_frozen K7.out 4; )) | ((with_reducible refine gate_store (t := 25) (p := 7) rfl ?_); (refine store_event (t := 25) (p := 7) (v := ?vo_w8) (w1 := (((((w7.setCell ⟨b7, 0, none⟩ (.int .i64 0)).setCell ⟨b7, 1, none⟩ (.int .i64 0)).setCell ⟨b7, 2, none⟩ (.string ⟨#[]⟩)).setCell ⟨b7, 3, none⟩ (.slice none 0 0)).setCell ⟨b7, 4, none⟩ (.slice none 0 0))) ?hg ?ho ?hn ?hr ?_; (case ho => rfl); (case hg => rfl); (case hn => rfl); (case hr => first | (go_simp; done) | (go_simp; rfl)); intro w8 hw; have K78 : Aside0 (w8.heap[b7]? = some (.cells #[.int .i64 0, .int .i64 0, .string ⟨#[]⟩, .slice none 0 0, .slice none 0 0] 25 (0, 0))) := ⟨by rw [hw]; simpa using blk_set (blk_set (blk_set (blk_set (blk_set K7.out 0 (.int .i64 0)) 1 (.int .i64 0)) 2 (.string ⟨#[]⟩)) 3 (.slice none 0 0)) 4 (.slice none 0 0)⟩; have h_ := (blk_far (p := ⟨b7, 4, none⟩) (blk_far (p := ⟨b7, 3, none⟩) (blk_far (p := ⟨b7, 2, none⟩) (blk_far (p := ⟨b7, 1, none⟩) (blk_far (p := ⟨b7, 0, none⟩) K37.out n37 (.int .i64 0)) n37 (.int .i64 0)) n37 (.string ⟨#[]⟩)) n37 (.slice none 0 0)) n37 (.slice none 0 0)); rw [← hw] at h_; have K38 := Aside0.mk h_; clear h_; have h_ := (blk_far (p := ⟨b7, 4, none⟩) (blk_far (p := ⟨b7, 3, none⟩) (blk_far (p := ⟨b7, 2, none⟩) (blk_far (p := ⟨b7, 1, none⟩) (blk_far (p := ⟨b7, 0, none⟩) K47.out n47 (.int .i64 0)) n47 (.int .i64 0)) n47 (.string ⟨#[]⟩)) n47 (.slice none 0 0)) n47 (.slice none 0 0)); rw [← hw] at h_; have K48 := Aside0.mk h_; clear h_; have h_ := (blk_far (p := ⟨b7, 4, none⟩) (blk_far (p := ⟨b7, 3, none⟩) (blk_far (p := ⟨b7, 2, none⟩) (blk_far (p := ⟨b7, 1, none⟩) (blk_far (p := ⟨b7, 0, none⟩) K57.out n57 (.int .i64 0)) n57 (.int .i64 0)) n57 (.string ⟨#[]⟩)) n57 (.slice none 0 0)) n57 (.slice none 0 0)); rw [← hw] at h_; have K58 := Aside0.mk h_; clear h_; have L8 : Aside0 (Left w g (left - 1) w8) := ⟨by rw [hw]; exact ((((L7.out.put z7 n7g _).put z7 n7g _).put z7 n7g _).put z7 n7g _).put z7 n7g _⟩; have G8 := Aside0.mk L8.out.count; clear hw K7 K37 K47 K57 L7 cw7_b7_0 fw7_b7_0 cw7_b7_1 fw7_b7_1 cw7_b7_2 fw7_b7_2 cw7_b7_3 fw7_b7_3 cw7_b7_4 fw7_b7_4; have cw8_b3_0 : w8.cell? ⟨b3, 0, none⟩ = some (.int .i64 0) := (blk_cell K38.out 0).trans rfl; have fw8_b3_0 := blk_frozen K38.out 0; have cw8_b3_1 : w8.cell? ⟨b3, 1, none⟩ = some (.int .i64 n) := (blk_cell K38.out 1).trans rfl; have fw8_b3_1 := blk_frozen K38.out 1; have cw8_b3_2 : w8.cell? ⟨b3, 2, none⟩ = some (.string s) := (blk_cell K38.out 2).trans rfl; have fw8_b3_2 := blk_frozen K38.out 2; have cw8_b3_3 : w8.cell? ⟨b3, 3, none⟩ = some (.slice A3 l.length c3) := (blk_cell K38.out 3).trans rfl; have fw8_b3_3 := blk_frozen K38.out 3; have cw8_b3_4 : w8.cell? ⟨b3, 4, none⟩ = some (.slice A4 ks.length c4) := (blk_cell K38.out 4).trans rfl; have fw8_b3_4 := blk_frozen K38.out 4; have cw8_b7_0 : w8.cell? ⟨b7, 0, none⟩ = some (.int .i64 0) := (blk_cell K78.out 0).trans rfl; have fw8_b7_0 := blk_frozen K78.out 0; have cw8_b7_1 : w8.cell? ⟨b7, 1, none⟩ = some (.int .i64 0) := (blk_cell K78.out 1).trans rfl; have fw8_b7_1 := blk_frozen K78.out 1; have cw8_b7_2 : w8.cell? ⟨b7, 2, none⟩ = some (.string ⟨#[]⟩) := (blk_cell K78.out 2).trans rfl; have fw8_b7_2 := blk_frozen K78.out 2; have cw8_b7_3 : w8.cell? ⟨b7, 3, none⟩ = some (.slice none 0 0) := (blk_cell K78.out 3).trans rfl; have fw8_b7_3 := blk_frozen K78.out 3; have cw8_b7_4 : w8.cell? ⟨b7, 4, none⟩ = some (.slice none 0 0) := (blk_cell K78.out 4).trans rfl; have fw8_b7_4 := blk_frozen K78.out 4; have cw8_b4_0 : w8.cell? ⟨b4, 0, none⟩ = some (.int .i64 deep) := (blk_cell K48.out 0).trans rfl; have fw8_b4_0 := blk_frozen K48.out 0; have cw8_b5_0 : w8.cell? ⟨b5, 0, none⟩ = some (.pointer (some ⟨g, 0, none⟩)) := (blk_cell K58.out 0).trans rfl; have fw8_b5_0 := blk_frozen K58.out 0; )))
  all_goals (go_ret; have hn : ¬ nodeP ⟨0, n, s, l, ks⟩ := ?hn; rotate_left; (case hn => first | exact nodeN (by decide) (by decide) (fun h => hn' h.symm)); have hy := mayT_no (deep := deep) (left := left) d3 l3 hn; exact ⟨ret_bool (by rw [hv.out, hy]), by rw [hv.out, hy]; exact L8.out⟩)

set_option maxHeartbeats 4000000 in
set_option maxRecDepth 100000 in
theorem may_3n (v : S25) (n : Int) (s : ByteArray) (l : List S25) (ks : List ByteArray) (hv : Hid (v = ⟨3, n, s, l, ks⟩)) (deep left : Int) (g : Nat) (A3 : Option Addr) (c3 : Nat) (A4 : Option Addr) (c4 : Nat) (w : World) (d1 : 1 ≤ deep) (d2 : deep ≤ 61) (l1 : 0 ≤ left) (l2 : left ≤ 20000) (hg : CountAt w g left) (d3 : deep ≤ 60) (l3 : 1 ≤ left) (hr3 : FA g w A3 l) (hc3 : l.length ≤ c3) (hr4 : FS g w A4 ks) (hc4 : ks.length ≤ c4) (ih : ∀ x ∈ l, MayOK x) (hn : (0 == n) = false) (hn' : ¬ (0 : Int) = n) :
    Calls Tryz.prog 37 #[.agg #[.int .i64 3, .int .i64 n, .string s, .slice A3 l.length c3, .slice A4 ks.length c4], .int .i64 deep, .pointer (some ⟨g, 0, none⟩)] w fun e w' => e = .returned (.bool (mayT v deep left).1) ∧ Left w g (mayT v deep left).2 w' := by
  have z : g < w.heap.size := blk_lt hg
  have HG := Lib.hid hg; clear hg
  have hu := Tryz.underlying25
  have HR3 := Lib.hid hr3; clear hr3
  have HR4 := Lib.hid hr4; clear hr4
  have IH := Lib.hid ih; clear ih
  have l4 : ¬ left - 1 < 0 := by omega
  have d4 : ¬ 60 < deep := by omega
  go_enter Tryz.func37, Tryz.ntmps37

  go_wp2_with (first | ((with_reducible refine gate_dst (N := 3) rfl ?_); (refine box_event ?hg (N := 3) ?hd (cs := #[.int .i64 3, .int .i64 n, .string s, .slice A3 l.length c3, .slice A4 ks.length c4]) (t := 25) ?hr ?_; (case hd => rfl); (case hg => rfl); (case hr => first | (go_simp; done) | (go_simp; rfl)); intro b3 e3 w3 k3 m3; have z3 := Nat.le_of_eq e3.symm; clear e3; have K3 := Aside0.mk k3; have M3 := Aside0.mk m3; have G3 := Aside0.mk ((m3.block g (blk_lt HG.out)).trans HG.out); clear k3 m3)) | ((with_reducible refine gate_dst (N := 4) rfl ?_); (refine box_event ?hg (N := 4) ?hd (cs := #[.int .i64 deep]) (t := 3) ?hr ?_; (case hd => rfl); (case hg => rfl); (case hr => first | (go_simp; done) | (go_simp; rfl)); intro b4 e4 w4 k4 m4; have z4 := Nat.le_trans M3.out.size (Nat.le_of_eq e4.symm); clear e4; have K4 := Aside0.mk k4; have K3' := Aside0.mk (blk_below K3.out m4); have M4 := Aside0.mk (M3.out.trans (m4.mono M3.out.size)); have G4 := Aside0.mk ((m4.block g (blk_lt G3.out)).trans G3.out); clear k4 m4 K3 M3 G3)) | ((with_reducible refine gate_dst (N := 5) rfl ?_); (refine box_event ?hg (N := 5) ?hd (cs := #[.pointer (some ⟨g, 0, none⟩)]) (t := 46) ?hr ?_; (case hd => rfl); (case hg => rfl); (case hr => first | (go_simp; done) | (go_simp; rfl)); intro b5 e5 w5 k5 m5; have z5 := Nat.le_trans M4.out.size (Nat.le_of_eq e5.symm); clear e5; have K5 := Aside0.mk k5; have K4' := Aside0.mk (blk_below K4.out m5); have K3 := Aside0.mk (blk_below K3'.out m5); have M5 := Aside0.mk (M4.out.trans (m5.mono M4.out.size)); have G5 := Aside0.mk ((m5.block g (blk_lt G4.out)).trans G4.out); clear k5 m5 K3' K4 M4 G4; have N3 := Nat.ne_of_gt (Nat.lt_of_lt_of_le z z3); have N4 := Nat.ne_of_gt (Nat.lt_of_lt_of_le z z4); have N5 := Nat.ne_of_gt (Nat.lt_of_lt_of_le z z5); have cw5_b5_0 : w5.cell? ⟨b5, 0, none⟩ = some (.pointer (some ⟨g, 0, none⟩)) := (blk_cell K5.out 0).trans rfl; have fw5_b5_0 := blk_frozen K5.out 0; have cw5_g_0 : w5.cell? ⟨g, 0, none⟩ = some (.int .i64 left) := (blk_cell G5.out 0).trans rfl; have fw5_g_0 := blk_frozen G5.out 0; )) | ((with_reducible refine gate_store (t := 3) (p := 13) rfl ?_); (refine store_event (t := 3) (p := 13) (v := ?vo_w6) (w1 := w5.setCell ⟨g, 0, none⟩ (.int .i64 (left - 1))) ?hg ?ho ?hn ?hr ?_; (case ho => rfl); (case hg => rfl); (case hn => rfl); (case hr => first | (go_simp; done) | (go_simp; rfl)); intro w6 hw; have L6 := Aside0.mk (show Left w g (left - 1) w6 by rw [hw]; exact Left.from M5.out (Left.set G5.out (left - 1))); have h_ := blk_far (p := ⟨g, 0, none⟩) K3.out N3 (.int .i64 (left - 1)); rw [← hw] at h_; have K36 := Aside0.mk h_; clear h_; have h_ := blk_far (p := ⟨g, 0, none⟩) K4'.out N4 (.int .i64 (left - 1)); rw [← hw] at h_; have K46 := Aside0.mk h_; clear h_; have h_ := blk_far (p := ⟨g, 0, none⟩) K5.out N5 (.int .i64 (left - 1)); rw [← hw] at h_; have K56 := Aside0.mk h_; clear h_; have G6 := Aside0.mk L6.out.count; clear hw K3 K4' K5 G5 M5 cw5_b5_0 fw5_b5_0 cw5_g_0 fw5_g_0; have cw6_b3_0 : w6.cell? ⟨b3, 0, none⟩ = some (.int .i64 3) := (blk_cell K36.out 0).trans rfl; have fw6_b3_0 := blk_frozen K36.out 0; have cw6_b4_0 : w6.cell? ⟨b4, 0, none⟩ = some (.int .i64 deep) := (blk_cell K46.out 0).trans rfl; have fw6_b4_0 := blk_frozen K46.out 0; have cw6_b5_0 : w6.cell? ⟨b5, 0, none⟩ = some (.pointer (some ⟨g, 0, none⟩)) := (blk_cell K56.out 0).trans rfl; have fw6_b5_0 := blk_frozen K56.out 0; have cw6_g_0 : w6.cell? ⟨g, 0, none⟩ = some (.int .i64 (left - 1)) := (blk_cell G6.out 0).trans rfl; have fw6_g_0 := blk_frozen G6.out 0; )) | ((with_reducible refine gate_dst (N := 7) rfl ?_); (refine box_event ?hg (N := 7) ?hd (cs := #[.int .i64 0, .int .i64 0, .string ⟨#[]⟩, .slice none 0 0, .slice none 0 0]) (t := 25) ?hr ?_; (case hd => rfl); (case hg => rfl); (case hr => first | (go_simp; done) | (go_simp; rfl)); intro b7 e7 w7 k7 m7; have z7 := Nat.le_trans L6.out.size (Nat.le_of_eq e7.symm); have n37 : b3 ≠ b7 := Nat.ne_of_lt (Nat.lt_of_lt_of_eq (blk_lt K36.out) e7.symm); have n47 : b4 ≠ b7 := Nat.ne_of_lt (Nat.lt_of_lt_of_eq (blk_lt K46.out) e7.symm); have n57 : b5 ≠ b7 := Nat.ne_of_lt (Nat.lt_of_lt_of_eq (blk_lt K56.out) e7.symm); have n7g : g ≠ b7 := Nat.ne_of_lt (Nat.lt_of_lt_of_le z z7); clear e7; have K7 := Aside0.mk k7; have L7 := Aside0.mk (L6.out.below m7); have K37 := Aside0.mk (blk_below K36.out m7); have K47 := Aside0.mk (blk_below K46.out m7); have K57 := Aside0.mk (blk_below K56.out m7); clear k7 m7 L6 K36 K46 K56 G6 cw6_b3_0 fw6_b3_0 cw6_b4_0 fw6_b4_0 cw6_b5_0 fw6_b5_0 cw6_g_0 fw6_g_0; have cw7_b7_0 : w7.cell? ⟨b7, 0, none⟩ = some (.int .i64 0) := (blk_cell K7.out 0).trans rfl; have fw7_b7_0 := blk_frozen K7.out 0; have cw7_b7_1 : w7.cell? ⟨b7, 1, none⟩ = some (.int .i64 0) := (blk_cell K7.out 1).trans rfl; have fw7_b7_1 := blk_frozen K7.out 1; have cw7_b7_2 : w7.cell? ⟨b7, 2, none⟩ = some (.string ⟨#[]⟩) := (blk_cell K7.out 2).trans rfl; have fw7_b7_2 := blk_frozen K7.out 2; have cw7_b7_3 : w7.cell? ⟨b7, 3, none⟩ = some (.slice none 0 0) := (blk_cell K7.out 3).trans rfl; have fw7_b7_3 := blk_frozen K7.out 3; have cw7_b7_4 : w7.cell? ⟨b7, 4, none⟩ = some (.slice none 0 0) := (blk_cell K7.out 4).trans rfl; have fw7_b7_4 := blk_frozen K7.out 4; )) | ((with_reducible refine gate_store (t := 25) (p := 7) rfl ?_); (refine store_event (t := 25) (p := 7) (v := ?vo_w8) (w1 := (((((w7.setCell ⟨b7, 0, none⟩ (.int .i64 3)).setCell ⟨b7, 1, none⟩ (.int .i64 0)).setCell ⟨b7, 2, none⟩ (.string ⟨#[]⟩)).setCell ⟨b7, 3, none⟩ (.slice none 0 0)).setCell ⟨b7, 4, none⟩ (.slice none 0 0))) ?hg ?ho ?hn ?hr ?_; (case ho => rfl); (case hg => rfl); (case hn => rfl); (case hr => first | (go_simp; done) | (go_simp; rfl)); intro w8 hw; have K78 : Aside0 (w8.heap[b7]? = some (.cells #[.int .i64 3, .int .i64 0, .string ⟨#[]⟩, .slice none 0 0, .slice none 0 0] 25 (0, 0))) := ⟨by rw [hw]; simpa using blk_set (blk_set (blk_set (blk_set (blk_set K7.out 0 (.int .i64 3)) 1 (.int .i64 0)) 2 (.string ⟨#[]⟩)) 3 (.slice none 0 0)) 4 (.slice none 0 0)⟩; have h_ := (blk_far (p := ⟨b7, 4, none⟩) (blk_far (p := ⟨b7, 3, none⟩) (blk_far (p := ⟨b7, 2, none⟩) (blk_far (p := ⟨b7, 1, none⟩) (blk_far (p := ⟨b7, 0, none⟩) K37.out n37 (.int .i64 3)) n37 (.int .i64 0)) n37 (.string ⟨#[]⟩)) n37 (.slice none 0 0)) n37 (.slice none 0 0)); rw [← hw] at h_; have K38 := Aside0.mk h_; clear h_; have h_ := (blk_far (p := ⟨b7, 4, none⟩) (blk_far (p := ⟨b7, 3, none⟩) (blk_far (p := ⟨b7, 2, none⟩) (blk_far (p := ⟨b7, 1, none⟩) (blk_far (p := ⟨b7, 0, none⟩) K47.out n47 (.int .i64 3)) n47 (.int .i64 0)) n47 (.string ⟨#[]⟩)) n47 (.slice none 0 0)) n47 (.slice none 0 0)); rw [← hw] at h_; have K48 := Aside0.mk h_; clear h_; have h_ := (blk_far (p := ⟨b7, 4, none⟩) (blk_far (p := ⟨b7, 3, none⟩) (blk_far (p := ⟨b7, 2, none⟩) (blk_far (p := ⟨b7, 1, none⟩) (blk_far (p := ⟨b7, 0, none⟩) K57.out n57 (.int .i64 3)) n57 (.int .i64 0)) n57 (.string ⟨#[]⟩)) n57 (.slice none 0 0)) n57 (.slice none 0 0)); rw [← hw] at h_; have K58 := Aside0.mk h_; clear h_; have L8 : Aside0 (Left w g (left - 1) w8) := ⟨by rw [hw]; exact ((((L7.out.put z7 n7g _).put z7 n7g _).put z7 n7g _).put z7 n7g _).put z7 n7g _⟩; have G8 := Aside0.mk L8.out.count; clear hw K7 K37 K47 K57 L7 cw7_b7_0 fw7_b7_0 cw7_b7_1 fw7_b7_1 cw7_b7_2 fw7_b7_2 cw7_b7_3 fw7_b7_3 cw7_b7_4 fw7_b7_4; have cw8_b3_0 : w8.cell? ⟨b3, 0, none⟩ = some (.int .i64 3) := (blk_cell K38.out 0).trans rfl; have fw8_b3_0 := blk_frozen K38.out 0; have cw8_b3_1 : w8.cell? ⟨b3, 1, none⟩ = some (.int .i64 n) := (blk_cell K38.out 1).trans rfl; have fw8_b3_1 := blk_frozen K38.out 1; have cw8_b3_2 : w8.cell? ⟨b3, 2, none⟩ = some (.string s) := (blk_cell K38.out 2).trans rfl; have fw8_b3_2 := blk_frozen K38.out 2; have cw8_b3_3 : w8.cell? ⟨b3, 3, none⟩ = some (.slice A3 l.length c3) := (blk_cell K38.out 3).trans rfl; have fw8_b3_3 := blk_frozen K38.out 3; have cw8_b3_4 : w8.cell? ⟨b3, 4, none⟩ = some (.slice A4 ks.length c4) := (blk_cell K38.out 4).trans rfl; have fw8_b3_4 := blk_frozen K38.out 4; have cw8_b7_0 : w8.cell? ⟨b7, 0, none⟩ = some (.int .i64 3) := (blk_cell K78.out 0).trans rfl; have fw8_b7_0 := blk_frozen K78.out 0; have cw8_b7_1 : w8.cell? ⟨b7, 1, none⟩ = some (.int .i64 0) := (blk_cell K78.out 1).trans rfl; have fw8_b7_1 := blk_frozen K78.out 1; have cw8_b7_2 : w8.cell? ⟨b7, 2, none⟩ = some (.string ⟨#[]⟩) := (blk_cell K78.out 2).trans rfl; have fw8_b7_2 := blk_frozen K78.out 2; have cw8_b7_3 : w8.cell? ⟨b7, 3, none⟩ = some (.slice none 0 0) := (blk_cell K78.out 3).trans rfl; have fw8_b7_3 := blk_frozen K78.out 3; have cw8_b7_4 : w8.cell? ⟨b7, 4, none⟩ = some (.slice none 0 0) := (blk_cell K78.out 4).trans rfl; have fw8_b7_4 := blk_frozen K78.out 4; have cw8_b4_0 : w8.cell? ⟨b4, 0, none⟩ = some (.int .i64 deep) := (blk_cell K48.out 0).trans rfl; have fw8_b4_0 := blk_frozen K48.out 0; have cw8_b5_0 : w8.cell? ⟨b5, 0, none⟩ = some (.pointer (some ⟨g, 0, none⟩)) := (blk_cell K58.out 0).trans rfl; have fw8_b5_0 := blk_frozen K58.out 0; )))
  go_region
  go_wp2_with fail
  all_goals (go_ret; have hn : ¬ nodeP ⟨3, n, s, l, ks⟩ := ?hn; rotate_left; (case hn => first | exact nodeN (by decide) (by decide) (fun h => hn' h.symm)); have hy := mayT_no (deep := deep) (left := left) d3 l3 hn; exact ⟨ret_bool (by rw [hv.out, hy]), by rw [hv.out, hy]; exact (Aside0.mk (Left.drew (L8.out.put (b := b7) (i := 2) z7 n7g (.string s)))).out⟩)

set_option maxHeartbeats 4000000 in
set_option maxRecDepth 100000 in
theorem may_4n (v : S25) (n : Int) (s : ByteArray) (l : List S25) (ks : List ByteArray) (hv : Hid (v = ⟨4, n, s, l, ks⟩)) (deep left : Int) (g : Nat) (A3 : Option Addr) (c3 : Nat) (A4 : Option Addr) (c4 : Nat) (w : World) (d1 : 1 ≤ deep) (d2 : deep ≤ 61) (l1 : 0 ≤ left) (l2 : left ≤ 20000) (hg : CountAt w g left) (d3 : deep ≤ 60) (l3 : 1 ≤ left) (hr3 : FA g w A3 l) (hc3 : l.length ≤ c3) (hr4 : FS g w A4 ks) (hc4 : ks.length ≤ c4) (ih : ∀ x ∈ l, MayOK x) (hn : (0 == n) = false) (hn' : ¬ (0 : Int) = n) :
    Calls Tryz.prog 37 #[.agg #[.int .i64 4, .int .i64 n, .string s, .slice A3 l.length c3, .slice A4 ks.length c4], .int .i64 deep, .pointer (some ⟨g, 0, none⟩)] w fun e w' => e = .returned (.bool (mayT v deep left).1) ∧ Left w g (mayT v deep left).2 w' := by
  have z : g < w.heap.size := blk_lt hg
  have HG := Lib.hid hg; clear hg
  have hu := Tryz.underlying25
  have HR3 := Lib.hid hr3; clear hr3
  have HR4 := Lib.hid hr4; clear hr4
  have IH := Lib.hid ih; clear ih
  have l4 : ¬ left - 1 < 0 := by omega
  have d4 : ¬ 60 < deep := by omega
  go_enter Tryz.func37, Tryz.ntmps37

  go_wp2_with (first | ((with_reducible refine gate_dst (N := 3) rfl ?_); (refine box_event ?hg (N := 3) ?hd (cs := #[.int .i64 4, .int .i64 n, .string s, .slice A3 l.length c3, .slice A4 ks.length c4]) (t := 25) ?hr ?_; (case hd => rfl); (case hg => rfl); (case hr => first | (go_simp; done) | (go_simp; rfl)); intro b3 e3 w3 k3 m3; have z3 := Nat.le_of_eq e3.symm; clear e3; have K3 := Aside0.mk k3; have M3 := Aside0.mk m3; have G3 := Aside0.mk ((m3.block g (blk_lt HG.out)).trans HG.out); clear k3 m3)) | ((with_reducible refine gate_dst (N := 4) rfl ?_); (refine box_event ?hg (N := 4) ?hd (cs := #[.int .i64 deep]) (t := 3) ?hr ?_; (case hd => rfl); (case hg => rfl); (case hr => first | (go_simp; done) | (go_simp; rfl)); intro b4 e4 w4 k4 m4; have z4 := Nat.le_trans M3.out.size (Nat.le_of_eq e4.symm); clear e4; have K4 := Aside0.mk k4; have K3' := Aside0.mk (blk_below K3.out m4); have M4 := Aside0.mk (M3.out.trans (m4.mono M3.out.size)); have G4 := Aside0.mk ((m4.block g (blk_lt G3.out)).trans G3.out); clear k4 m4 K3 M3 G3)) | ((with_reducible refine gate_dst (N := 5) rfl ?_); (refine box_event ?hg (N := 5) ?hd (cs := #[.pointer (some ⟨g, 0, none⟩)]) (t := 46) ?hr ?_; (case hd => rfl); (case hg => rfl); (case hr => first | (go_simp; done) | (go_simp; rfl)); intro b5 e5 w5 k5 m5; have z5 := Nat.le_trans M4.out.size (Nat.le_of_eq e5.symm); clear e5; have K5 := Aside0.mk k5; have K4' := Aside0.mk (blk_below K4.out m5); have K3 := Aside0.mk (blk_below K3'.out m5); have M5 := Aside0.mk (M4.out.trans (m5.mono M4.out.size)); have G5 := Aside0.mk ((m5.block g (blk_lt G4.out)).trans G4.out); clear k5 m5 K3' K4 M4 G4; have N3 := Nat.ne_of_gt (Nat.lt_of_lt_of_le z z3); have N4 := Nat.ne_of_gt (Nat.lt_of_lt_of_le z z4); have N5 := Nat.ne_of_gt (Nat.lt_of_lt_of_le z z5); have cw5_b5_0 : w5.cell? ⟨b5, 0, none⟩ = some (.pointer (some ⟨g, 0, none⟩)) := (blk_cell K5.out 0).trans rfl; have fw5_b5_0 := blk_frozen K5.out 0; have cw5_g_0 : w5.cell? ⟨g, 0, none⟩ = some (.int .i64 left) := (blk_cell G5.out 0).trans rfl; have fw5_g_0 := blk_frozen G5.out 0; )) | ((with_reducible refine gate_store (t := 3) (p := 13) rfl ?_); (refine store_event (t := 3) (p := 13) (v := ?vo_w6) (w1 := w5.setCell ⟨g, 0, none⟩ (.int .i64 (left - 1))) ?hg ?ho ?hn ?hr ?_; (case ho => rfl); (case hg => rfl); (case hn => rfl); (case hr => first | (go_simp; done) | (go_simp; rfl)); intro w6 hw; have L6 := Aside0.mk (show Left w g (left - 1) w6 by rw [hw]; exact Left.from M5.out (Left.set G5.out (left - 1))); have h_ := blk_far (p := ⟨g, 0, none⟩) K3.out N3 (.int .i64 (left - 1)); rw [← hw] at h_; have K36 := Aside0.mk h_; clear h_; have h_ := blk_far (p := ⟨g, 0, none⟩) K4'.out N4 (.int .i64 (left - 1)); rw [← hw] at h_; have K46 := Aside0.mk h_; clear h_; have h_ := blk_far (p := ⟨g, 0, none⟩) K5.out N5 (.int .i64 (left - 1)); rw [← hw] at h_; have K56 := Aside0.mk h_; clear h_; have G6 := Aside0.mk L6.out.count; clear hw K3 K4' K5 G5 M5 cw5_b5_0 fw5_b5_0 cw5_g_0 fw5_g_0; have cw6_b3_0 : w6.cell? ⟨b3, 0, none⟩ = some (.int .i64 4) := (blk_cell K36.out 0).trans rfl; have fw6_b3_0 := blk_frozen K36.out 0; have cw6_b4_0 : w6.cell? ⟨b4, 0, none⟩ = some (.int .i64 deep) := (blk_cell K46.out 0).trans rfl; have fw6_b4_0 := blk_frozen K46.out 0; have cw6_b5_0 : w6.cell? ⟨b5, 0, none⟩ = some (.pointer (some ⟨g, 0, none⟩)) := (blk_cell K56.out 0).trans rfl; have fw6_b5_0 := blk_frozen K56.out 0; have cw6_g_0 : w6.cell? ⟨g, 0, none⟩ = some (.int .i64 (left - 1)) := (blk_cell G6.out 0).trans rfl; have fw6_g_0 := blk_frozen G6.out 0; )) | ((with_reducible refine gate_dst (N := 7) rfl ?_); (refine box_event ?hg (N := 7) ?hd (cs := #[.int .i64 0, .int .i64 0, .string ⟨#[]⟩, .slice none 0 0, .slice none 0 0]) (t := 25) ?hr ?_; (case hd => rfl); (case hg => rfl); (case hr => first | (go_simp; done) | (go_simp; rfl)); intro b7 e7 w7 k7 m7; have z7 := Nat.le_trans L6.out.size (Nat.le_of_eq e7.symm); have n37 : b3 ≠ b7 := Nat.ne_of_lt (Nat.lt_of_lt_of_eq (blk_lt K36.out) e7.symm); have n47 : b4 ≠ b7 := Nat.ne_of_lt (Nat.lt_of_lt_of_eq (blk_lt K46.out) e7.symm); have n57 : b5 ≠ b7 := Nat.ne_of_lt (Nat.lt_of_lt_of_eq (blk_lt K56.out) e7.symm); have n7g : g ≠ b7 := Nat.ne_of_lt (Nat.lt_of_lt_of_le z z7); clear e7; have K7 := Aside0.mk k7; have L7 := Aside0.mk (L6.out.below m7); have K37 := Aside0.mk (blk_below K36.out m7); have K47 := Aside0.mk (blk_below K46.out m7); have K57 := Aside0.mk (blk_below K56.out m7); clear k7 m7 L6 K36 K46 K56 G6 cw6_b3_0 fw6_b3_0 cw6_b4_0 fw6_b4_0 cw6_b5_0 fw6_b5_0 cw6_g_0 fw6_g_0; have cw7_b7_0 : w7.cell? ⟨b7, 0, none⟩ = some (.int .i64 0) := (blk_cell K7.out 0).trans rfl; have fw7_b7_0 := blk_frozen K7.out 0; have cw7_b7_1 : w7.cell? ⟨b7, 1, none⟩ = some (.int .i64 0) := (blk_cell K7.out 1).trans rfl; have fw7_b7_1 := blk_frozen K7.out 1; have cw7_b7_2 : w7.cell? ⟨b7, 2, none⟩ = some (.string ⟨#[]⟩) := (blk_cell K7.out 2).trans rfl; have fw7_b7_2 := blk_frozen K7.out 2; have cw7_b7_3 : w7.cell? ⟨b7, 3, none⟩ = some (.slice none 0 0) := (blk_cell K7.out 3).trans rfl; have fw7_b7_3 := blk_frozen K7.out 3; have cw7_b7_4 : w7.cell? ⟨b7, 4, none⟩ = some (.slice none 0 0) := (blk_cell K7.out 4).trans rfl; have fw7_b7_4 := blk_frozen K7.out 4; )) | ((with_reducible refine gate_store (t := 25) (p := 7) rfl ?_); (refine store_event (t := 25) (p := 7) (v := ?vo_w8) (w1 := (((((w7.setCell ⟨b7, 0, none⟩ (.int .i64 4)).setCell ⟨b7, 1, none⟩ (.int .i64 0)).setCell ⟨b7, 2, none⟩ (.string ⟨#[]⟩)).setCell ⟨b7, 3, none⟩ (.slice none 0 0)).setCell ⟨b7, 4, none⟩ (.slice none 0 0))) ?hg ?ho ?hn ?hr ?_; (case ho => rfl); (case hg => rfl); (case hn => rfl); (case hr => first | (go_simp; done) | (go_simp; rfl)); intro w8 hw; have K78 : Aside0 (w8.heap[b7]? = some (.cells #[.int .i64 4, .int .i64 0, .string ⟨#[]⟩, .slice none 0 0, .slice none 0 0] 25 (0, 0))) := ⟨by rw [hw]; simpa using blk_set (blk_set (blk_set (blk_set (blk_set K7.out 0 (.int .i64 4)) 1 (.int .i64 0)) 2 (.string ⟨#[]⟩)) 3 (.slice none 0 0)) 4 (.slice none 0 0)⟩; have h_ := (blk_far (p := ⟨b7, 4, none⟩) (blk_far (p := ⟨b7, 3, none⟩) (blk_far (p := ⟨b7, 2, none⟩) (blk_far (p := ⟨b7, 1, none⟩) (blk_far (p := ⟨b7, 0, none⟩) K37.out n37 (.int .i64 4)) n37 (.int .i64 0)) n37 (.string ⟨#[]⟩)) n37 (.slice none 0 0)) n37 (.slice none 0 0)); rw [← hw] at h_; have K38 := Aside0.mk h_; clear h_; have h_ := (blk_far (p := ⟨b7, 4, none⟩) (blk_far (p := ⟨b7, 3, none⟩) (blk_far (p := ⟨b7, 2, none⟩) (blk_far (p := ⟨b7, 1, none⟩) (blk_far (p := ⟨b7, 0, none⟩) K47.out n47 (.int .i64 4)) n47 (.int .i64 0)) n47 (.string ⟨#[]⟩)) n47 (.slice none 0 0)) n47 (.slice none 0 0)); rw [← hw] at h_; have K48 := Aside0.mk h_; clear h_; have h_ := (blk_far (p := ⟨b7, 4, none⟩) (blk_far (p := ⟨b7, 3, none⟩) (blk_far (p := ⟨b7, 2, none⟩) (blk_far (p := ⟨b7, 1, none⟩) (blk_far (p := ⟨b7, 0, none⟩) K57.out n57 (.int .i64 4)) n57 (.int .i64 0)) n57 (.string ⟨#[]⟩)) n57 (.slice none 0 0)) n57 (.slice none 0 0)); rw [← hw] at h_; have K58 := Aside0.mk h_; clear h_; have L8 : Aside0 (Left w g (left - 1) w8) := ⟨by rw [hw]; exact ((((L7.out.put z7 n7g _).put z7 n7g _).put z7 n7g _).put z7 n7g _).put z7 n7g _⟩; have G8 := Aside0.mk L8.out.count; clear hw K7 K37 K47 K57 L7 cw7_b7_0 fw7_b7_0 cw7_b7_1 fw7_b7_1 cw7_b7_2 fw7_b7_2 cw7_b7_3 fw7_b7_3 cw7_b7_4 fw7_b7_4; have cw8_b3_0 : w8.cell? ⟨b3, 0, none⟩ = some (.int .i64 4) := (blk_cell K38.out 0).trans rfl; have fw8_b3_0 := blk_frozen K38.out 0; have cw8_b3_1 : w8.cell? ⟨b3, 1, none⟩ = some (.int .i64 n) := (blk_cell K38.out 1).trans rfl; have fw8_b3_1 := blk_frozen K38.out 1; have cw8_b3_2 : w8.cell? ⟨b3, 2, none⟩ = some (.string s) := (blk_cell K38.out 2).trans rfl; have fw8_b3_2 := blk_frozen K38.out 2; have cw8_b3_3 : w8.cell? ⟨b3, 3, none⟩ = some (.slice A3 l.length c3) := (blk_cell K38.out 3).trans rfl; have fw8_b3_3 := blk_frozen K38.out 3; have cw8_b3_4 : w8.cell? ⟨b3, 4, none⟩ = some (.slice A4 ks.length c4) := (blk_cell K38.out 4).trans rfl; have fw8_b3_4 := blk_frozen K38.out 4; have cw8_b7_0 : w8.cell? ⟨b7, 0, none⟩ = some (.int .i64 4) := (blk_cell K78.out 0).trans rfl; have fw8_b7_0 := blk_frozen K78.out 0; have cw8_b7_1 : w8.cell? ⟨b7, 1, none⟩ = some (.int .i64 0) := (blk_cell K78.out 1).trans rfl; have fw8_b7_1 := blk_frozen K78.out 1; have cw8_b7_2 : w8.cell? ⟨b7, 2, none⟩ = some (.string ⟨#[]⟩) := (blk_cell K78.out 2).trans rfl; have fw8_b7_2 := blk_frozen K78.out 2; have cw8_b7_3 : w8.cell? ⟨b7, 3, none⟩ = some (.slice none 0 0) := (blk_cell K78.out 3).trans rfl; have fw8_b7_3 := blk_frozen K78.out 3; have cw8_b7_4 : w8.cell? ⟨b7, 4, none⟩ = some (.slice none 0 0) := (blk_cell K78.out 4).trans rfl; have fw8_b7_4 := blk_frozen K78.out 4; have cw8_b4_0 : w8.cell? ⟨b4, 0, none⟩ = some (.int .i64 deep) := (blk_cell K48.out 0).trans rfl; have fw8_b4_0 := blk_frozen K48.out 0; have cw8_b5_0 : w8.cell? ⟨b5, 0, none⟩ = some (.pointer (some ⟨g, 0, none⟩)) := (blk_cell K58.out 0).trans rfl; have fw8_b5_0 := blk_frozen K58.out 0; )))
  go_region
  go_wp2_with fail
  all_goals (go_ret; have hn : ¬ nodeP ⟨4, n, s, l, ks⟩ := ?hn; rotate_left; (case hn => first | exact nodeN (by decide) (by decide) (fun h => hn' h.symm)); have hy := mayT_no (deep := deep) (left := left) d3 l3 hn; exact ⟨ret_bool (by rw [hv.out, hy]), by rw [hv.out, hy]; exact (Aside0.mk (Left.drew (L8.out.put (b := b7) (i := 3) z7 n7g (.slice A3 l.length c3)))).out⟩)

end Go.Proofs.YtegppacnkfeaoaaGreatDoor.G

/- value's may on a value: kind by kind. Conditions: each contract's own. -/
namespace Go.Proofs.YtegppacnkfeaoaaGreatDoor.G
open Go.RowKit Go.Gw Go.Proofs.YtegppacnkfeaoaaGreatDoorW.PrintWords Go.Proofs.YtegppacnkfeaoaaGreatDoorW.PrintLast Go.Proofs.YtegppacnkfeaoaaGreatDoorW.PrintMore
set_option linter.unusedVariables false
set_option linter.unusedSimpArgs false


set_option maxHeartbeats 4000000 in
set_option maxRecDepth 100000 in
theorem may_5a (v : S25) (s : ByteArray) (l : List S25) (ks : List ByteArray) (hv : Hid (v = ⟨5, 0, s, l, ks⟩)) (deep left : Int) (g : Nat) (A3 : Option Addr) (c3 : Nat) (A4 : Option Addr) (c4 : Nat) (w : World) (d1 : 1 ≤ deep) (d2 : deep ≤ 61) (l1 : 0 ≤ left) (l2 : left ≤ 20000) (hg : CountAt w g left) (d3 : deep ≤ 60) (l3 : 1 ≤ left) (hr3 : FA g w A3 l) (hc3 : l.length ≤ c3) (hr4 : FS g w A4 ks) (hc4 : ks.length ≤ c4) (ih : ∀ x ∈ l, MayOK x) (hl : ((l.length : Int) == (ks.length : Int)) = true) :
    Calls Tryz.prog 37 #[.agg #[.int .i64 5, .int .i64 0, .string s, .slice A3 l.length c3, .slice A4 ks.length c4], .int .i64 deep, .pointer (some ⟨g, 0, none⟩)] w fun e w' => e = .returned (.bool (mayT v deep left).1) ∧ Left w g (mayT v deep left).2 w' := by
  have z : g < w.heap.size := blk_lt hg
  have HG := Lib.hid hg; clear hg
  have hu := Tryz.underlying25
  have HR3 := Lib.hid hr3; clear hr3
  have HR4 := Lib.hid hr4; clear hr4
  have IH := Lib.hid ih; clear ih
  have l4 : ¬ left - 1 < 0 := by omega
  have d4 : ¬ 60 < deep := by omega
  go_enter Tryz.func37, Tryz.ntmps37

  go_wp2_with (first | ((with_reducible refine gate_dst (N := 3) rfl ?_); (refine box_event ?hg (N := 3) ?hd (cs := #[.int .i64 5, .int .i64 0, .string s, .slice A3 l.length c3, .slice A4 ks.length c4]) (t := 25) ?hr ?_; (case hd => rfl); (case hg => rfl); (case hr => first | (go_simp; done) | (go_simp; rfl)); intro b3 e3 w3 k3 m3; have z3 := Nat.le_of_eq e3.symm; clear e3; have K3 := Aside0.mk k3; have M3 := Aside0.mk m3; have G3 := Aside0.mk ((m3.block g (blk_lt HG.out)).trans HG.out); clear k3 m3)) | ((with_reducible refine gate_dst (N := 4) rfl ?_); (refine box_event ?hg (N := 4) ?hd (cs := #[.int .i64 deep]) (t := 3) ?hr ?_; (case hd => rfl); (case hg => rfl); (case hr => first | (go_simp; done) | (go_simp; rfl)); intro b4 e4 w4 k4 m4; have z4 := Nat.le_trans M3.out.size (Nat.le_of_eq e4.symm); clear e4; have K4 := Aside0.mk k4; have K3' := Aside0.mk (blk_below K3.out m4); have M4 := Aside0.mk (M3.out.trans (m4.mono M3.out.size)); have G4 := Aside0.mk ((m4.block g (blk_lt G3.out)).trans G3.out); clear k4 m4 K3 M3 G3)) | ((with_reducible refine gate_dst (N := 5) rfl ?_); (refine box_event ?hg (N := 5) ?hd (cs := #[.pointer (some ⟨g, 0, none⟩)]) (t := 46) ?hr ?_; (case hd => rfl); (case hg => rfl); (case hr => first | (go_simp; done) | (go_simp; rfl)); intro b5 e5 w5 k5 m5; have z5 := Nat.le_trans M4.out.size (Nat.le_of_eq e5.symm); clear e5; have K5 := Aside0.mk k5; have K4' := Aside0.mk (blk_below K4.out m5); have K3 := Aside0.mk (blk_below K3'.out m5); have M5 := Aside0.mk (M4.out.trans (m5.mono M4.out.size)); have G5 := Aside0.mk ((m5.block g (blk_lt G4.out)).trans G4.out); clear k5 m5 K3' K4 M4 G4; have N3 := Nat.ne_of_gt (Nat.lt_of_lt_of_le z z3); have N4 := Nat.ne_of_gt (Nat.lt_of_lt_of_le z z4); have N5 := Nat.ne_of_gt (Nat.lt_of_lt_of_le z z5); have cw5_b5_0 : w5.cell? ⟨b5, 0, none⟩ = some (.pointer (some ⟨g, 0, none⟩)) := (blk_cell K5.out 0).trans rfl; have fw5_b5_0 := blk_frozen K5.out 0; have cw5_g_0 : w5.cell? ⟨g, 0, none⟩ = some (.int .i64 left) := (blk_cell G5.out 0).trans rfl; have fw5_g_0 := blk_frozen G5.out 0; )) | ((with_reducible refine gate_store (t := 3) (p := 13) rfl ?_); (refine store_event (t := 3) (p := 13) (v := ?vo_w6) (w1 := w5.setCell ⟨g, 0, none⟩ (.int .i64 (left - 1))) ?hg ?ho ?hn ?hr ?_; (case ho => rfl); (case hg => rfl); (case hn => rfl); (case hr => first | (go_simp; done) | (go_simp; rfl)); intro w6 hw; have L6 := Aside0.mk (show Left w g (left - 1) w6 by rw [hw]; exact Left.from M5.out (Left.set G5.out (left - 1))); have h_ := blk_far (p := ⟨g, 0, none⟩) K3.out N3 (.int .i64 (left - 1)); rw [← hw] at h_; have K36 := Aside0.mk h_; clear h_; have h_ := blk_far (p := ⟨g, 0, none⟩) K4'.out N4 (.int .i64 (left - 1)); rw [← hw] at h_; have K46 := Aside0.mk h_; clear h_; have h_ := blk_far (p := ⟨g, 0, none⟩) K5.out N5 (.int .i64 (left - 1)); rw [← hw] at h_; have K56 := Aside0.mk h_; clear h_; have G6 := Aside0.mk L6.out.count; clear hw K3 K4' K5 G5 M5 cw5_b5_0 fw5_b5_0 cw5_g_0 fw5_g_0; have cw6_b3_0 : w6.cell? ⟨b3, 0, none⟩ = some (.int .i64 5) := (blk_cell K36.out 0).trans rfl; have fw6_b3_0 := blk_frozen K36.out 0; have cw6_b4_0 : w6.cell? ⟨b4, 0, none⟩ = some (.int .i64 deep) := (blk_cell K46.out 0).trans rfl; have fw6_b4_0 := blk_frozen K46.out 0; have cw6_b5_0 : w6.cell? ⟨b5, 0, none⟩ = some (.pointer (some ⟨g, 0, none⟩)) := (blk_cell K56.out 0).trans rfl; have fw6_b5_0 := blk_frozen K56.out 0; have cw6_g_0 : w6.cell? ⟨g, 0, none⟩ = some (.int .i64 (left - 1)) := (blk_cell G6.out 0).trans rfl; have fw6_g_0 := blk_frozen G6.out 0; )) | ((with_reducible refine gate_dst (N := 7) rfl ?_); (refine box_event ?hg (N := 7) ?hd (cs := #[.int .i64 0, .int .i64 0, .string ⟨#[]⟩, .slice none 0 0, .slice none 0 0]) (t := 25) ?hr ?_; (case hd => rfl); (case hg => rfl); (case hr => first | (go_simp; done) | (go_simp; rfl)); intro b7 e7 w7 k7 m7; have z7 := Nat.le_trans L6.out.size (Nat.le_of_eq e7.symm); have n37 : b3 ≠ b7 := Nat.ne_of_lt (Nat.lt_of_lt_of_eq (blk_lt K36.out) e7.symm); have n47 : b4 ≠ b7 := Nat.ne_of_lt (Nat.lt_of_lt_of_eq (blk_lt K46.out) e7.symm); have n57 : b5 ≠ b7 := Nat.ne_of_lt (Nat.lt_of_lt_of_eq (blk_lt K56.out) e7.symm); have n7g : g ≠ b7 := Nat.ne_of_lt (Nat.lt_of_lt_of_le z z7); clear e7; have K7 := Aside0.mk k7; have L7 := Aside0.mk (L6.out.below m7); have K37 := Aside0.mk (blk_below K36.out m7); have K47 := Aside0.mk (blk_below K46.out m7); have K57 := Aside0.mk (blk_below K56.out m7); clear k7 m7 L6 K36 K46 K56 G6 cw6_b3_0 fw6_b3_0 cw6_b4_0 fw6_b4_0 cw6_b5_0 fw6_b5_0 cw6_g_0 fw6_g_0; have cw7_b7_0 : w7.cell? ⟨b7, 0, none⟩ = some (.int .i64 0) := (blk_cell K7.out 0).trans rfl; have fw7_b7_0 := blk_frozen K7.out 0; have cw7_b7_1 : w7.cell? ⟨b7, 1, none⟩ = some (.int .i64 0) := (blk_cell K7.out 1).trans rfl; have fw7_b7_1 := blk_frozen K7.out 1; have cw7_b7_2 : w7.cell? ⟨b7, 2, none⟩ = some (.string ⟨#[]⟩) := (blk_cell K7.out 2).trans rfl; have fw7_b7_2 := blk_frozen K7.out 2; have cw7_b7_3 : w7.cell? ⟨b7, 3, none⟩ = some (.slice none 0 0) := (blk_cell K7.out 3).trans rfl; have fw7_b7_3 := blk_frozen K7.out 3; have cw7_b7_4 : w7.cell? ⟨b7, 4, none⟩ = some (.slice none 0 0) := (blk_cell K7.out 4).trans rfl; have fw7_b7_4 := blk_frozen K7.out 4; )) | ((with_reducible refine gate_store (t := 25) (p := 7) rfl ?_); (refine store_event (t := 25) (p := 7) (v := ?vo_w8) (w1 := (((((w7.setCell ⟨b7, 0, none⟩ (.int .i64 5)).setCell ⟨b7, 1, none⟩ (.int .i64 0)).setCell ⟨b7, 2, none⟩ (.string ⟨#[]⟩)).setCell ⟨b7, 3, none⟩ (.slice none 0 0)).setCell ⟨b7, 4, none⟩ (.slice none 0 0))) ?hg ?ho ?hn ?hr ?_; (case ho => rfl); (case hg => rfl); (case hn => rfl); (case hr => first | (go_simp; done) | (go_simp; rfl)); intro w8 hw; have K78 : Aside0 (w8.heap[b7]? = some (.cells #[.int .i64 5, .int .i64 0, .string ⟨#[]⟩, .slice none 0 0, .slice none 0 0] 25 (0, 0))) := ⟨by rw [hw]; simpa using blk_set (blk_set (blk_set (blk_set (blk_set K7.out 0 (.int .i64 5)) 1 (.int .i64 0)) 2 (.string ⟨#[]⟩)) 3 (.slice none 0 0)) 4 (.slice none 0 0)⟩; have h_ := (blk_far (p := ⟨b7, 4, none⟩) (blk_far (p := ⟨b7, 3, none⟩) (blk_far (p := ⟨b7, 2, none⟩) (blk_far (p := ⟨b7, 1, none⟩) (blk_far (p := ⟨b7, 0, none⟩) K37.out n37 (.int .i64 5)) n37 (.int .i64 0)) n37 (.string ⟨#[]⟩)) n37 (.slice none 0 0)) n37 (.slice none 0 0)); rw [← hw] at h_; have K38 := Aside0.mk h_; clear h_; have h_ := (blk_far (p := ⟨b7, 4, none⟩) (blk_far (p := ⟨b7, 3, none⟩) (blk_far (p := ⟨b7, 2, none⟩) (blk_far (p := ⟨b7, 1, none⟩) (blk_far (p := ⟨b7, 0, none⟩) K47.out n47 (.int .i64 5)) n47 (.int .i64 0)) n47 (.string ⟨#[]⟩)) n47 (.slice none 0 0)) n47 (.slice none 0 0)); rw [← hw] at h_; have K48 := Aside0.mk h_; clear h_; have h_ := (blk_far (p := ⟨b7, 4, none⟩) (blk_far (p := ⟨b7, 3, none⟩) (blk_far (p := ⟨b7, 2, none⟩) (blk_far (p := ⟨b7, 1, none⟩) (blk_far (p := ⟨b7, 0, none⟩) K57.out n57 (.int .i64 5)) n57 (.int .i64 0)) n57 (.string ⟨#[]⟩)) n57 (.slice none 0 0)) n57 (.slice none 0 0)); rw [← hw] at h_; have K58 := Aside0.mk h_; clear h_; have L8 : Aside0 (Left w g (left - 1) w8) := ⟨by rw [hw]; exact ((((L7.out.put z7 n7g _).put z7 n7g _).put z7 n7g _).put z7 n7g _).put z7 n7g _⟩; have G8 := Aside0.mk L8.out.count; clear hw K7 K37 K47 K57 L7 cw7_b7_0 fw7_b7_0 cw7_b7_1 fw7_b7_1 cw7_b7_2 fw7_b7_2 cw7_b7_3 fw7_b7_3 cw7_b7_4 fw7_b7_4; have cw8_b3_0 : w8.cell? ⟨b3, 0, none⟩ = some (.int .i64 5) := (blk_cell K38.out 0).trans rfl; have fw8_b3_0 := blk_frozen K38.out 0; have cw8_b3_1 : w8.cell? ⟨b3, 1, none⟩ = some (.int .i64 0) := (blk_cell K38.out 1).trans rfl; have fw8_b3_1 := blk_frozen K38.out 1; have cw8_b3_2 : w8.cell? ⟨b3, 2, none⟩ = some (.string s) := (blk_cell K38.out 2).trans rfl; have fw8_b3_2 := blk_frozen K38.out 2; have cw8_b3_3 : w8.cell? ⟨b3, 3, none⟩ = some (.slice A3 l.length c3) := (blk_cell K38.out 3).trans rfl; have fw8_b3_3 := blk_frozen K38.out 3; have cw8_b3_4 : w8.cell? ⟨b3, 4, none⟩ = some (.slice A4 ks.length c4) := (blk_cell K38.out 4).trans rfl; have fw8_b3_4 := blk_frozen K38.out 4; have cw8_b7_0 : w8.cell? ⟨b7, 0, none⟩ = some (.int .i64 5) := (blk_cell K78.out 0).trans rfl; have fw8_b7_0 := blk_frozen K78.out 0; have cw8_b7_1 : w8.cell? ⟨b7, 1, none⟩ = some (.int .i64 0) := (blk_cell K78.out 1).trans rfl; have fw8_b7_1 := blk_frozen K78.out 1; have cw8_b7_2 : w8.cell? ⟨b7, 2, none⟩ = some (.string ⟨#[]⟩) := (blk_cell K78.out 2).trans rfl; have fw8_b7_2 := blk_frozen K78.out 2; have cw8_b7_3 : w8.cell? ⟨b7, 3, none⟩ = some (.slice none 0 0) := (blk_cell K78.out 3).trans rfl; have fw8_b7_3 := blk_frozen K78.out 3; have cw8_b7_4 : w8.cell? ⟨b7, 4, none⟩ = some (.slice none 0 0) := (blk_cell K78.out 4).trans rfl; have fw8_b7_4 := blk_frozen K78.out 4; have cw8_b4_0 : w8.cell? ⟨b4, 0, none⟩ = some (.int .i64 deep) := (blk_cell K48.out 0).trans rfl; have fw8_b4_0 := blk_frozen K48.out 0; have cw8_b5_0 : w8.cell? ⟨b5, 0, none⟩ = some (.pointer (some ⟨g, 0, none⟩)) := (blk_cell K58.out 0).trans rfl; have fw8_b5_0 := blk_frozen K58.out 0; )))
  have K3d := Aside0.mk (blk_drew K38.out)
  have K4d := Aside0.mk (blk_drew K48.out)
  have K5d := Aside0.mk (blk_drew K58.out)
  have K7d := Aside0.mk (blk_drew K78.out)
  have Ld := Aside0.mk (Left.drew L8.out)
  refine start_ (n := 21) (S := fun w' => w'.cell? ⟨b3, 3, none⟩ = some (.slice A3 l.length c3) ∧ w'.cell? ⟨b3, 4, none⟩ = some (.slice A4 ks.length c4)) (ds := []) #[false, false, false, false, false, false, false, false, false, false, false, false, false, false, false, false, false, false, false, false, false] (by kernel_rfl) rfl rfl ⟨(blk_cell K3d.out 3).trans rfl, (blk_cell K3d.out 4).trans rfl⟩ (fun hHeld => ?_)
  clear cw8_b3_0 fw8_b3_0 cw8_b3_1 fw8_b3_1 cw8_b3_2 fw8_b3_2 cw8_b3_3 fw8_b3_3 cw8_b3_4 fw8_b3_4 cw8_b7_0 fw8_b7_0 cw8_b7_1 fw8_b7_1 cw8_b7_2 fw8_b7_2 cw8_b7_3 fw8_b7_3 cw8_b7_4 fw8_b7_4 cw8_b4_0 fw8_b4_0 cw8_b5_0 fw8_b5_0
  clear K38 K48 K58 K78 L8 G8
  generalize w8.drew = w9 at K3d K4d K5d K7d Ld hHeld ⊢
  refine pure_ (i := 0) (N := some 67) (v := ?_) (a' := ?_) #[true, false, false, false, false, false, false, false, false, false, false, false, false, false, false, false, false, false, false, false, false] rfl rfl (by kernel_rfl) (fun _ _ _ h => h) (Or.inl ⟨by rfl, ?_⟩) ?_ ?_
  rotate_left
  · intro w'
    go_simp
    with_reducible rfl
  rotate_left
  · simp only [Act.put, List.setIfInBounds_toArray, List.set_cons_zero, List.set_cons_succ, i64_w, i32_w]
    rfl
  refine pure_ (i := 2) (N := some 69) (v := ?_) (a' := ?_) #[true, false, true, false, false, false, false, false, false, false, false, false, false, false, false, false, false, false, false, false, false] rfl rfl (by kernel_rfl) (fun _ _ _ h => h) (Or.inl ⟨by rfl, ?_⟩) ?_ ?_
  rotate_left
  · intro w'
    go_simp
    with_reducible rfl
  rotate_left
  · simp only [Act.put, List.setIfInBounds_toArray, List.set_cons_zero, List.set_cons_succ, i64_w, i32_w]
    rfl
  refine pure_ (i := 4) (N := some 71) (v := ?_) (a' := ?_) #[true, false, true, false, true, false, false, false, false, false, false, false, false, false, false, false, false, false, false, false, false] rfl rfl (by kernel_rfl) (fun _ _ _ h => h) (Or.inl ⟨by rfl, ?_⟩) ?_ ?_
  rotate_left
  · intro w'
    go_simp
    with_reducible rfl
  rotate_left
  · simp only [Act.put, List.setIfInBounds_toArray, List.set_cons_zero, List.set_cons_succ, i64_w, i32_w]
    rfl
  refine pure_ (i := 7) (N := some 74) (v := ?_) (a' := ?_) #[true, false, true, false, true, false, false, true, false, false, false, false, false, false, false, false, false, false, false, false, false] rfl rfl (by kernel_rfl) (fun _ _ _ h => h) (Or.inl ⟨by rfl, ?_⟩) ?_ ?_
  rotate_left
  · intro w'
    go_simp
    with_reducible rfl
  rotate_left
  · simp only [Act.put, List.setIfInBounds_toArray, List.set_cons_zero, List.set_cons_succ, i64_w, i32_w]
    rfl
  refine take_ (i := 1) (N := some 68) (v := ?_) (a' := ?_) #[true, true, true, false, true, false, false, true, false, false, false, false, false, false, false, false, false, false, false, false, false] rfl rfl (by kernel_rfl) (fun _ _ _ h => h) (Or.inl ⟨by rfl, ?_⟩) hHeld ?_ ?_
  rotate_left
  · rintro w' ⟨s0, s1⟩
    go_simp
    with_reducible rfl
  rotate_left
  · simp only [Act.put, List.setIfInBounds_toArray, List.set_cons_zero, List.set_cons_succ, i64_w, i32_w]
    rfl
  refine take_ (i := 3) (N := some 70) (v := ?_) (a' := ?_) #[true, true, true, true, true, false, false, true, false, false, false, false, false, false, false, false, false, false, false, false, false] rfl rfl (by kernel_rfl) (fun _ _ _ h => h) (Or.inl ⟨by rfl, ?_⟩) hHeld ?_ ?_
  rotate_left
  · rintro w' ⟨s0, s1⟩
    go_simp
    with_reducible rfl
  rotate_left
  · simp only [Act.put, List.setIfInBounds_toArray, List.set_cons_zero, List.set_cons_succ, i64_w, i32_w]
    rfl
  refine take_ (i := 5) (N := some 72) (v := ?_) (a' := ?_) #[true, true, true, true, true, true, false, true, false, false, false, false, false, false, false, false, false, false, false, false, false] rfl rfl (by kernel_rfl) (fun _ _ _ h => h) (Or.inl ⟨by rfl, ?_⟩) hHeld ?_ ?_
  rotate_left
  · rintro w' ⟨s0, s1⟩
    go_simp
    with_reducible rfl
  rotate_left
  · simp only [Act.put, List.setIfInBounds_toArray, List.set_cons_zero, List.set_cons_succ, i64_w, i32_w]
    rfl
  refine take_ (i := 8) (N := some 75) (v := ?_) (a' := ?_) #[true, true, true, true, true, true, false, true, true, false, false, false, false, false, false, false, false, false, false, false, false] rfl rfl (by kernel_rfl) (fun _ _ _ h => h) (Or.inl ⟨by rfl, ?_⟩) hHeld ?_ ?_
  rotate_left
  · rintro w' ⟨s0, s1⟩
    go_simp
    with_reducible rfl
  rotate_left
  · simp only [Act.put, List.setIfInBounds_toArray, List.set_cons_zero, List.set_cons_succ, i64_w, i32_w]
    rfl
  refine pure_ (i := 6) (N := some 73) (v := ?_) (a' := ?_) #[true, true, true, true, true, true, true, true, true, false, false, false, false, false, false, false, false, false, false, false, false] rfl rfl (by kernel_rfl) (fun _ _ _ h => h) (Or.inl ⟨by rfl, ?_⟩) ?_ ?_
  rotate_left
  · intro w'
    go_simp
    with_reducible rfl
  rotate_left
  · simp only [Act.put, List.setIfInBounds_toArray, List.set_cons_zero, List.set_cons_succ, i64_w, i32_w]
    rfl
  refine pure_ (i := 9) (N := some 76) (v := ?_) (a' := ?_) #[true, true, true, true, true, true, true, true, true, true, false, false, false, false, false, false, false, false, false, false, false] rfl rfl (by kernel_rfl) (fun _ _ _ h => h) (Or.inl ⟨by rfl, ?_⟩) ?_ ?_
  rotate_left
  · intro w'
    go_simp
    with_reducible rfl
  rotate_left
  · simp only [Act.put, List.setIfInBounds_toArray, List.set_cons_zero, List.set_cons_succ, i64_w, i32_w]
    rfl
  refine pure_ (i := 10) (N := some 77) (v := ?_) (a' := ?_) #[true, true, true, true, true, true, true, true, true, true, true, false, false, false, false, false, false, false, false, false, false] rfl rfl (by kernel_rfl) (fun _ _ _ h => h) (Or.inl ⟨by rfl, ?_⟩) ?_ ?_
  rotate_left
  · intro w'
    go_simp
    with_reducible rfl
  rotate_left
  · simp only [Act.put, List.setIfInBounds_toArray, List.set_cons_zero, List.set_cons_succ, i64_w, i32_w]
    rfl
  refine pure_ (i := 11) (N := some 78) (v := ?_) (a' := ?_) #[true, true, true, true, true, true, true, true, true, true, true, true, false, false, false, false, false, false, false, false, false] rfl rfl (by kernel_rfl) (fun _ _ _ h => h) (Or.inl ⟨by rfl, ?_⟩) ?_ ?_
  rotate_left
  · intro w'
    go_simp
    with_reducible rfl
  rotate_left
  · simp only [Act.put, List.setIfInBounds_toArray, List.set_cons_zero, List.set_cons_succ, i64_w, i32_w]
    rfl
  refine pure_ (i := 12) (N := some 79) (v := ?_) (a' := ?_) #[true, true, true, true, true, true, true, true, true, true, true, true, true, false, false, false, false, false, false, false, false] rfl rfl (by kernel_rfl) (fun _ _ _ h => h) (Or.inl ⟨by rfl, ?_⟩) ?_ ?_
  rotate_left
  · intro w'
    go_simp
    with_reducible rfl
  rotate_left
  · simp only [Act.put, List.setIfInBounds_toArray, List.set_cons_zero, List.set_cons_succ, i64_w, i32_w]
    rfl
  refine take_ (i := 13) (N := some 80) (v := ?_) (a' := ?_) #[true, true, true, true, true, true, true, true, true, true, true, true, true, true, false, false, false, false, false, false, false] rfl rfl (by kernel_rfl) (fun _ _ _ h => h) (Or.inl ⟨by rfl, ?_⟩) hHeld ?_ ?_
  rotate_left
  · rintro w' ⟨s0, s1⟩
    go_simp
    with_reducible rfl
  rotate_left
  · simp only [Act.put, List.setIfInBounds_toArray, List.set_cons_zero, List.set_cons_succ, i64_w, i32_w]
    rfl
  refine pure_ (i := 16) (N := some 83) (v := ?_) (a' := ?_) #[true, true, true, true, true, true, true, true, true, true, true, true, true, true, false, false, true, false, false, false, false] rfl rfl (by kernel_rfl) (fun _ _ _ h => h) (Or.inl ⟨by rfl, ?_⟩) ?_ ?_
  rotate_left
  · intro w'
    go_simp
    with_reducible rfl
  rotate_left
  · simp only [Act.put, List.setIfInBounds_toArray, List.set_cons_zero, List.set_cons_succ, i64_w, i32_w]
    rfl
  refine one_ (i := 14) (N := some 81) #[true, true, true, true, true, true, true, true, true, true, true, true, true, true, true, false, true, false, false, false, false] rfl rfl (by kernel_rfl) (by decide) (fun K hK => ?_)
  refine goes_ Tryz.func56 (by kernel_rfl) rfl #[.slice A4 ks.length c4] (by rfl) rfl rfl (by (try simp only [List.map_toArray, List.map_cons, List.map_nil]); first | done | rfl) ?_
  refine (rises_calls ks A4 c4 _ (Kd.F_now (Ld.out.fs HR4.out)) hc4).mono ?_
  rintro e wz ⟨rfl, nd, rfl⟩
  refine ⟨_, rfl, ?_⟩
  refine hK.out _ _ ⟨(blk_cell (blk_drewN K3d.out _) 3).trans rfl, (blk_cell (blk_drewN K3d.out _) 4).trans rfl⟩ (fun hHeld => ?_)
  clear hK K
  refine norm_ (a' := ?_) ?_ ?_
  rotate_left
  · show Act.put _ (some 81) _ = _
    simp only [Act.put, List.setIfInBounds_toArray, List.set_cons_zero, List.set_cons_succ, i64_w, i32_w]
    rfl
  have K3e := Aside0.mk (blk_drewN K3d.out nd)
  have K4e := Aside0.mk (blk_drewN K4d.out nd)
  have K5e := Aside0.mk (blk_drewN K5d.out nd)
  have K7e := Aside0.mk (blk_drewN K7d.out nd)
  have Le := Aside0.mk (Ld.out.below (pw_below_drewN (Below.refl _ _) nd))
  clear K3d K4d K5d K7d Ld
  generalize w9.drewN nd = w10 at K3e K4e K5e K7e Le hHeld ⊢
  refine pure_ (i := 15) (N := some 82) (v := ?_) (a' := ?_) #[true, true, true, true, true, true, true, true, true, true, true, true, true, true, true, true, true, false, false, false, false] rfl rfl (by kernel_rfl) (fun _ _ _ h => h) (Or.inl ⟨by rfl, ?_⟩) ?_ ?_
  rotate_left
  · intro w'
    go_simp
    with_reducible rfl
  rotate_left
  · simp only [Act.put, List.setIfInBounds_toArray, List.set_cons_zero, List.set_cons_succ, i64_w, i32_w]
    rfl
  have cs_ : w10.cell? ⟨b7, 3, none⟩ = some (.slice none 0 0) := (blk_cell K7e.out 3).trans rfl
  have fs_ := blk_frozen K7e.out 3
  refine one_ (i := 17) (N := none) #[true, true, true, true, true, true, true, true, true, true, true, true, true, true, true, true, true, true, false, false, false] rfl rfl (by kernel_rfl) (by decide) (fun K hK => ?_)
  refine skip_ (w1 := ?_) (by rfl) rfl ?_ ?_
  rotate_left
  · go_simp
    rfl
  clear cs_ fs_
  have K3f := Aside0.mk (blk_far (p := ⟨b7, 3, none⟩) K3e.out n37 (.slice A3 l.length c3))
  have K4f := Aside0.mk (blk_far (p := ⟨b7, 3, none⟩) K4e.out n47 (.slice A3 l.length c3))
  have K5f := Aside0.mk (blk_far (p := ⟨b7, 3, none⟩) K5e.out n57 (.slice A3 l.length c3))
  have K7f := Aside0.mk (show (w10.setCell ⟨b7, 3, none⟩ (.slice A3 l.length c3)).heap[b7]? = some (.cells #[.int .i64 5, .int .i64 0, .string ⟨#[]⟩, .slice A3 l.length c3, .slice none 0 0] 25 (0, 0)) by simpa using blk_set K7e.out 3 (.slice A3 l.length c3))
  have Lf := Aside0.mk ((Le.out).put (b := b7) (i := 3) z7 n7g (.slice A3 l.length c3))
  refine hK.out _ _ ⟨(blk_cell K3f.out 3).trans rfl, (blk_cell K3f.out 4).trans rfl⟩ (fun hHeld => ?_)
  clear hK K K3e K4e K5e K7e Le
  generalize w10.setCell ⟨b7, 3, none⟩ (.slice A3 l.length c3) = w11 at K3f K4f K5f K7f Lf hHeld ⊢
  refine pure_ (i := 18) (N := some 84) (v := ?_) (a' := ?_) #[true, true, true, true, true, true, true, true, true, true, true, true, true, true, true, true, true, true, true, false, false] rfl rfl (by kernel_rfl) (fun _ _ _ h => h) (Or.inl ⟨by rfl, ?_⟩) ?_ ?_
  rotate_left
  · intro w'
    go_simp
    with_reducible rfl
  rotate_left
  · simp only [Act.put, List.setIfInBounds_toArray, List.set_cons_zero, List.set_cons_succ, i64_w, i32_w]
    rfl
  have cs_ : w11.cell? ⟨b7, 4, none⟩ = some (.slice none 0 0) := (blk_cell K7f.out 4).trans rfl
  have fs_ := blk_frozen K7f.out 4
  refine one_ (i := 19) (N := none) #[true, true, true, true, true, true, true, true, true, true, true, true, true, true, true, true, true, true, true, true, false] rfl rfl (by kernel_rfl) (by decide) (fun K hK => ?_)
  refine skip_ (w1 := ?_) (by rfl) rfl ?_ ?_
  rotate_left
  · go_simp
    rfl
  clear cs_ fs_
  have K3g := Aside0.mk (blk_far (p := ⟨b7, 4, none⟩) K3f.out n37 (.slice A4 ks.length c4))
  have K4g := Aside0.mk (blk_far (p := ⟨b7, 4, none⟩) K4f.out n47 (.slice A4 ks.length c4))
  have K5g := Aside0.mk (blk_far (p := ⟨b7, 4, none⟩) K5f.out n57 (.slice A4 ks.length c4))
  have K7g := Aside0.mk (show (w11.setCell ⟨b7, 4, none⟩ (.slice A4 ks.length c4)).heap[b7]? = some (.cells #[.int .i64 5, .int .i64 0, .string ⟨#[]⟩, .slice A3 l.length c3, .slice A4 ks.length c4] 25 (0, 0)) by simpa using blk_set K7f.out 4 (.slice A4 ks.length c4))
  have Lg := Aside0.mk (Lf.out.put (b := b7) (i := 4) z7 n7g (.slice A4 ks.length c4))
  refine hK.out _ _ ⟨(blk_cell K3g.out 3).trans rfl, (blk_cell K3g.out 4).trans rfl⟩ (fun hHeld => ?_)
  clear hK K K3f K4f K5f K7f Lf
  generalize w11.setCell ⟨b7, 4, none⟩ (.slice A4 ks.length c4) = w12 at K3g K4g K5g K7g Lg hHeld ⊢
  refine pure_ (i := 20) (N := some 8) (v := ?_) (a' := ?_) #[true, true, true, true, true, true, true, true, true, true, true, true, true, true, true, true, true, true, true, true, true] rfl rfl (by kernel_rfl) (fun _ _ _ h => h) (Or.inl ⟨by rfl, ?_⟩) ?_ ?_
  rotate_left
  · intro w'
    go_simp
    with_reducible rfl
  rotate_left
  · simp only [Act.put, List.setIfInBounds_toArray, List.set_cons_zero, List.set_cons_succ, i64_w, i32_w]
    rfl
  refine done_ (by kernel_rfl) ?_
  clear hHeld
  have cw12_b3_0 : w12.cell? ⟨b3, 0, none⟩ = some (.int .i64 5) := (blk_cell K3g.out 0).trans rfl
  have fw12_b3_0 := blk_frozen K3g.out 0
  have cw12_b3_1 : w12.cell? ⟨b3, 1, none⟩ = some (.int .i64 0) := (blk_cell K3g.out 1).trans rfl
  have fw12_b3_1 := blk_frozen K3g.out 1
  have cw12_b3_2 : w12.cell? ⟨b3, 2, none⟩ = some (.string s) := (blk_cell K3g.out 2).trans rfl
  have fw12_b3_2 := blk_frozen K3g.out 2
  have cw12_b3_3 : w12.cell? ⟨b3, 3, none⟩ = some (.slice A3 l.length c3) := (blk_cell K3g.out 3).trans rfl
  have fw12_b3_3 := blk_frozen K3g.out 3
  have cw12_b3_4 : w12.cell? ⟨b3, 4, none⟩ = some (.slice A4 ks.length c4) := (blk_cell K3g.out 4).trans rfl
  have fw12_b3_4 := blk_frozen K3g.out 4
  have cw12_b7_0 : w12.cell? ⟨b7, 0, none⟩ = some (.int .i64 5) := (blk_cell K7g.out 0).trans rfl
  have fw12_b7_0 := blk_frozen K7g.out 0
  have cw12_b7_1 : w12.cell? ⟨b7, 1, none⟩ = some (.int .i64 0) := (blk_cell K7g.out 1).trans rfl
  have fw12_b7_1 := blk_frozen K7g.out 1
  have cw12_b7_2 : w12.cell? ⟨b7, 2, none⟩ = some (.string ⟨#[]⟩) := (blk_cell K7g.out 2).trans rfl
  have fw12_b7_2 := blk_frozen K7g.out 2
  have cw12_b7_3 : w12.cell? ⟨b7, 3, none⟩ = some (.slice A3 l.length c3) := (blk_cell K7g.out 3).trans rfl
  have fw12_b7_3 := blk_frozen K7g.out 3
  have cw12_b7_4 : w12.cell? ⟨b7, 4, none⟩ = some (.slice A4 ks.length c4) := (blk_cell K7g.out 4).trans rfl
  have fw12_b7_4 := blk_frozen K7g.out 4
  have cw12_b4_0 : w12.cell? ⟨b4, 0, none⟩ = some (.int .i64 deep) := (blk_cell K4g.out 0).trans rfl
  have fw12_b4_0 := blk_frozen K4g.out 0
  have cw12_b5_0 : w12.cell? ⟨b5, 0, none⟩ = some (.pointer (some ⟨g, 0, none⟩)) := (blk_cell K5g.out 0).trans rfl
  have fw12_b5_0 := blk_frozen K5g.out 0
  go_wp2_with fail
  all_goals first | (refine (has_calls l IH.out deep (left - 1) g b4 b5 A3 c3 w12 (by omega) d3 (by omega) (by omega) Lg.out.count N4 K4g.out K5g.out (Lg.out.fa HR3.out) hc3).mono ?_; rintro e w9 ⟨rfl, hl9⟩; have H9 := Lib.hid (Lg.out.trans hl9); clear hl9; go_wp2; go_ret; have hn : nodeP ⟨5, 0, s, l, ks⟩ := ?hn; rotate_left; (case hn => (refine node5.2 ⟨size_nil.1 ?_, ?_, (risesB_iff ks).1 ?_⟩; assumption; (have q_ := beq_iff_eq.1 hl; omega); assumption)); have hy := mayT_yes (deep := deep) (left := left) d3 l3 hn; exact ⟨ret_bool (by rw [hv.out, hy] <;> simp), by rw [hv.out, hy]; exact H9.out⟩) | (go_ret; have hn : ¬ nodeP ⟨5, 0, s, l, ks⟩ := ?hn; rotate_left; (case hn => first | (refine fun h => absurd (size_nil.2 (node5.1 h).1) ?_; assumption) | (refine fun h => absurd ((risesB_iff ks).2 (node5.1 h).2.2) ?_; assumption)); have hy := mayT_no (deep := deep) (left := left) d3 l3 hn; exact ⟨ret_bool (by rw [hv.out, hy]), by rw [hv.out, hy]; exact Lg.out⟩)

set_option maxHeartbeats 4000000 in
set_option maxRecDepth 100000 in
theorem may_5b (v : S25) (s : ByteArray) (l : List S25) (ks : List ByteArray) (hv : Hid (v = ⟨5, 0, s, l, ks⟩)) (deep left : Int) (g : Nat) (A3 : Option Addr) (c3 : Nat) (A4 : Option Addr) (c4 : Nat) (w : World) (d1 : 1 ≤ deep) (d2 : deep ≤ 61) (l1 : 0 ≤ left) (l2 : left ≤ 20000) (hg : CountAt w g left) (d3 : deep ≤ 60) (l3 : 1 ≤ left) (hr3 : FA g w A3 l) (hc3 : l.length ≤ c3) (hr4 : FS g w A4 ks) (hc4 : ks.length ≤ c4) (ih : ∀ x ∈ l, MayOK x) (hl : ((l.length : Int) == (ks.length : Int)) = false) :
    Calls Tryz.prog 37 #[.agg #[.int .i64 5, .int .i64 0, .string s, .slice A3 l.length c3, .slice A4 ks.length c4], .int .i64 deep, .pointer (some ⟨g, 0, none⟩)] w fun e w' => e = .returned (.bool (mayT v deep left).1) ∧ Left w g (mayT v deep left).2 w' := by
  have z : g < w.heap.size := blk_lt hg
  have HG := Lib.hid hg; clear hg
  have hu := Tryz.underlying25
  have HR3 := Lib.hid hr3; clear hr3
  have HR4 := Lib.hid hr4; clear hr4
  have IH := Lib.hid ih; clear ih
  have l4 : ¬ left - 1 < 0 := by omega
  have d4 : ¬ 60 < deep := by omega
  go_enter Tryz.func37, Tryz.ntmps37

  go_wp2_with (first | ((with_reducible refine gate_dst (N := 3) rfl ?_); (refine box_event ?hg (N := 3) ?hd (cs := #[.int .i64 5, .int .i64 0, .string s, .slice A3 l.length c3, .slice A4 ks.length c4]) (t := 25) ?hr ?_; (case hd => rfl); (case hg => rfl); (case hr => first | (go_simp; done) | (go_simp; rfl)); intro b3 e3 w3 k3 m3; have z3 := Nat.le_of_eq e3.symm; clear e3; have K3 := Aside0.mk k3; have M3 := Aside0.mk m3; have G3 := Aside0.mk ((m3.block g (blk_lt HG.out)).trans HG.out); clear k3 m3)) | ((with_reducible refine gate_dst (N := 4) rfl ?_); (refine box_event ?hg (N := 4) ?hd (cs := #[.int .i64 deep]) (t := 3) ?hr ?_; (case hd => rfl); (case hg => rfl); (case hr => first | (go_simp; done) | (go_simp; rfl)); intro b4 e4 w4 k4 m4; have z4 := Nat.le_trans M3.out.size (Nat.le_of_eq e4.symm); clear e4; have K4 := Aside0.mk k4; have K3' := Aside0.mk (blk_below K3.out m4); have M4 := Aside0.mk (M3.out.trans (m4.mono M3.out.size)); have G4 := Aside0.mk ((m4.block g (blk_lt G3.out)).trans G3.out); clear k4 m4 K3 M3 G3)) | ((with_reducible refine gate_dst (N := 5) rfl ?_); (refine box_event ?hg (N := 5) ?hd (cs := #[.pointer (some ⟨g, 0, none⟩)]) (t := 46) ?hr ?_; (case hd => rfl); (case hg => rfl); (case hr => first | (go_simp; done) | (go_simp; rfl)); intro b5 e5 w5 k5 m5; have z5 := Nat.le_trans M4.out.size (Nat.le_of_eq e5.symm); clear e5; have K5 := Aside0.mk k5; have K4' := Aside0.mk (blk_below K4.out m5); have K3 := Aside0.mk (blk_below K3'.out m5); have M5 := Aside0.mk (M4.out.trans (m5.mono M4.out.size)); have G5 := Aside0.mk ((m5.block g (blk_lt G4.out)).trans G4.out); clear k5 m5 K3' K4 M4 G4; have N3 := Nat.ne_of_gt (Nat.lt_of_lt_of_le z z3); have N4 := Nat.ne_of_gt (Nat.lt_of_lt_of_le z z4); have N5 := Nat.ne_of_gt (Nat.lt_of_lt_of_le z z5); have cw5_b5_0 : w5.cell? ⟨b5, 0, none⟩ = some (.pointer (some ⟨g, 0, none⟩)) := (blk_cell K5.out 0).trans rfl; have fw5_b5_0 := blk_frozen K5.out 0; have cw5_g_0 : w5.cell? ⟨g, 0, none⟩ = some (.int .i64 left) := (blk_cell G5.out 0).trans rfl; have fw5_g_0 := blk_frozen G5.out 0; )) | ((with_reducible refine gate_store (t := 3) (p := 13) rfl ?_); (refine store_event (t := 3) (p := 13) (v := ?vo_w6) (w1 := w5.setCell ⟨g, 0, none⟩ (.int .i64 (left - 1))) ?hg ?ho ?hn ?hr ?_; (case ho => rfl); (case hg => rfl); (case hn => rfl); (case hr => first | (go_simp; done) | (go_simp; rfl)); intro w6 hw; have L6 := Aside0.mk (show Left w g (left - 1) w6 by rw [hw]; exact Left.from M5.out (Left.set G5.out (left - 1))); have h_ := blk_far (p := ⟨g, 0, none⟩) K3.out N3 (.int .i64 (left - 1)); rw [← hw] at h_; have K36 := Aside0.mk h_; clear h_; have h_ := blk_far (p := ⟨g, 0, none⟩) K4'.out N4 (.int .i64 (left - 1)); rw [← hw] at h_; have K46 := Aside0.mk h_; clear h_; have h_ := blk_far (p := ⟨g, 0, none⟩) K5.out N5 (.int .i64 (left - 1)); rw [← hw] at h_; have K56 := Aside0.mk h_; clear h_; have G6 := Aside0.mk L6.out.count; clear hw K3 K4' K5 G5 M5 cw5_b5_0 fw5_b5_0 cw5_g_0 fw5_g_0; have cw6_b3_0 : w6.cell? ⟨b3, 0, none⟩ = some (.int .i64 5) := (blk_cell K36.out 0).trans rfl; have fw6_b3_0 := blk_frozen K36.out 0; have cw6_b4_0 : w6.cell? ⟨b4, 0, none⟩ = some (.int .i64 deep) := (blk_cell K46.out 0).trans rfl; have fw6_b4_0 := blk_frozen K46.out 0; have cw6_b5_0 : w6.cell? ⟨b5, 0, none⟩ = some (.pointer (some ⟨g, 0, none⟩)) := (blk_cell K56.out 0).trans rfl; have fw6_b5_0 := blk_frozen K56.out 0; have cw6_g_0 : w6.cell? ⟨g, 0, none⟩ = some (.int .i64 (left - 1)) := (blk_cell G6.out 0).trans rfl; have fw6_g_0 := blk_frozen G6.out 0; )) | ((with_reducible refine gate_dst (N := 7) rfl ?_); (refine box_event ?hg (N := 7) ?hd (cs := #[.int .i64 0, .int .i64 0, .string ⟨#[]⟩, .slice none 0 0, .slice none 0 0]) (t := 25) ?hr ?_; (case hd => rfl); (case hg => rfl); (case hr => first | (go_simp; done) | (go_simp; rfl)); intro b7 e7 w7 k7 m7; have z7 := Nat.le_trans L6.out.size (Nat.le_of_eq e7.symm); have n37 : b3 ≠ b7 := Nat.ne_of_lt (Nat.lt_of_lt_of_eq (blk_lt K36.out) e7.symm); have n47 : b4 ≠ b7 := Nat.ne_of_lt (Nat.lt_of_lt_of_eq (blk_lt K46.out) e7.symm); have n57 : b5 ≠ b7 := Nat.ne_of_lt (Nat.lt_of_lt_of_eq (blk_lt K56.out) e7.symm); have n7g : g ≠ b7 := Nat.ne_of_lt (Nat.lt_of_lt_of_le z z7); clear e7; have K7 := Aside0.mk k7; have L7 := Aside0.mk (L6.out.below m7); have K37 := Aside0.mk (blk_below K36.out m7); have K47 := Aside0.mk (blk_below K46.out m7); have K57 := Aside0.mk (blk_below K56.out m7); clear k7 m7 L6 K36 K46 K56 G6 cw6_b3_0 fw6_b3_0 cw6_b4_0 fw6_b4_0 cw6_b5_0 fw6_b5_0 cw6_g_0 fw6_g_0; have cw7_b7_0 : w7.cell? ⟨b7, 0, none⟩ = some (.int .i64 0) := (blk_cell K7.out 0).trans rfl; have fw7_b7_0 := blk_frozen K7.out 0; have cw7_b7_1 : w7.cell? ⟨b7, 1, none⟩ = some (.int .i64 0) := (blk_cell K7.out 1).trans rfl; have fw7_b7_1 := blk_frozen K7.out 1; have cw7_b7_2 : w7.cell? ⟨b7, 2, none⟩ = some (.string ⟨#[]⟩) := (blk_cell K7.out 2).trans rfl; have fw7_b7_2 := blk_frozen K7.out 2; have cw7_b7_3 : w7.cell? ⟨b7, 3, none⟩ = some (.slice none 0 0) := (blk_cell K7.out 3).trans rfl; have fw7_b7_3 := blk_frozen K7.out 3; have cw7_b7_4 : w7.cell? ⟨b7, 4, none⟩ = some (.slice none 0 0) := (blk_cell K7.out 4).trans rfl; have fw7_b7_4 := blk_frozen K7.out 4; )) | ((with_reducible refine gate_store (t := 25) (p := 7) rfl ?_); (refine store_event (t := 25) (p := 7) (v := ?vo_w8) (w1 := (((((w7.setCell ⟨b7, 0, none⟩ (.int .i64 5)).setCell ⟨b7, 1, none⟩ (.int .i64 0)).setCell ⟨b7, 2, none⟩ (.string ⟨#[]⟩)).setCell ⟨b7, 3, none⟩ (.slice none 0 0)).setCell ⟨b7, 4, none⟩ (.slice none 0 0))) ?hg ?ho ?hn ?hr ?_; (case ho => rfl); (case hg => rfl); (case hn => rfl); (case hr => first | (go_simp; done) | (go_simp; rfl)); intro w8 hw; have K78 : Aside0 (w8.heap[b7]? = some (.cells #[.int .i64 5, .int .i64 0, .string ⟨#[]⟩, .slice none 0 0, .slice none 0 0] 25 (0, 0))) := ⟨by rw [hw]; simpa using blk_set (blk_set (blk_set (blk_set (blk_set K7.out 0 (.int .i64 5)) 1 (.int .i64 0)) 2 (.string ⟨#[]⟩)) 3 (.slice none 0 0)) 4 (.slice none 0 0)⟩; have h_ := (blk_far (p := ⟨b7, 4, none⟩) (blk_far (p := ⟨b7, 3, none⟩) (blk_far (p := ⟨b7, 2, none⟩) (blk_far (p := ⟨b7, 1, none⟩) (blk_far (p := ⟨b7, 0, none⟩) K37.out n37 (.int .i64 5)) n37 (.int .i64 0)) n37 (.string ⟨#[]⟩)) n37 (.slice none 0 0)) n37 (.slice none 0 0)); rw [← hw] at h_; have K38 := Aside0.mk h_; clear h_; have h_ := (blk_far (p := ⟨b7, 4, none⟩) (blk_far (p := ⟨b7, 3, none⟩) (blk_far (p := ⟨b7, 2, none⟩) (blk_far (p := ⟨b7, 1, none⟩) (blk_far (p := ⟨b7, 0, none⟩) K47.out n47 (.int .i64 5)) n47 (.int .i64 0)) n47 (.string ⟨#[]⟩)) n47 (.slice none 0 0)) n47 (.slice none 0 0)); rw [← hw] at h_; have K48 := Aside0.mk h_; clear h_; have h_ := (blk_far (p := ⟨b7, 4, none⟩) (blk_far (p := ⟨b7, 3, none⟩) (blk_far (p := ⟨b7, 2, none⟩) (blk_far (p := ⟨b7, 1, none⟩) (blk_far (p := ⟨b7, 0, none⟩) K57.out n57 (.int .i64 5)) n57 (.int .i64 0)) n57 (.string ⟨#[]⟩)) n57 (.slice none 0 0)) n57 (.slice none 0 0)); rw [← hw] at h_; have K58 := Aside0.mk h_; clear h_; have L8 : Aside0 (Left w g (left - 1) w8) := ⟨by rw [hw]; exact ((((L7.out.put z7 n7g _).put z7 n7g _).put z7 n7g _).put z7 n7g _).put z7 n7g _⟩; have G8 := Aside0.mk L8.out.count; clear hw K7 K37 K47 K57 L7 cw7_b7_0 fw7_b7_0 cw7_b7_1 fw7_b7_1 cw7_b7_2 fw7_b7_2 cw7_b7_3 fw7_b7_3 cw7_b7_4 fw7_b7_4; have cw8_b3_0 : w8.cell? ⟨b3, 0, none⟩ = some (.int .i64 5) := (blk_cell K38.out 0).trans rfl; have fw8_b3_0 := blk_frozen K38.out 0; have cw8_b3_1 : w8.cell? ⟨b3, 1, none⟩ = some (.int .i64 0) := (blk_cell K38.out 1).trans rfl; have fw8_b3_1 := blk_frozen K38.out 1; have cw8_b3_2 : w8.cell? ⟨b3, 2, none⟩ = some (.string s) := (blk_cell K38.out 2).trans rfl; have fw8_b3_2 := blk_frozen K38.out 2; have cw8_b3_3 : w8.cell? ⟨b3, 3, none⟩ = some (.slice A3 l.length c3) := (blk_cell K38.out 3).trans rfl; have fw8_b3_3 := blk_frozen K38.out 3; have cw8_b3_4 : w8.cell? ⟨b3, 4, none⟩ = some (.slice A4 ks.length c4) := (blk_cell K38.out 4).trans rfl; have fw8_b3_4 := blk_frozen K38.out 4; have cw8_b7_0 : w8.cell? ⟨b7, 0, none⟩ = some (.int .i64 5) := (blk_cell K78.out 0).trans rfl; have fw8_b7_0 := blk_frozen K78.out 0; have cw8_b7_1 : w8.cell? ⟨b7, 1, none⟩ = some (.int .i64 0) := (blk_cell K78.out 1).trans rfl; have fw8_b7_1 := blk_frozen K78.out 1; have cw8_b7_2 : w8.cell? ⟨b7, 2, none⟩ = some (.string ⟨#[]⟩) := (blk_cell K78.out 2).trans rfl; have fw8_b7_2 := blk_frozen K78.out 2; have cw8_b7_3 : w8.cell? ⟨b7, 3, none⟩ = some (.slice none 0 0) := (blk_cell K78.out 3).trans rfl; have fw8_b7_3 := blk_frozen K78.out 3; have cw8_b7_4 : w8.cell? ⟨b7, 4, none⟩ = some (.slice none 0 0) := (blk_cell K78.out 4).trans rfl; have fw8_b7_4 := blk_frozen K78.out 4; have cw8_b4_0 : w8.cell? ⟨b4, 0, none⟩ = some (.int .i64 deep) := (blk_cell K48.out 0).trans rfl; have fw8_b4_0 := blk_frozen K48.out 0; have cw8_b5_0 : w8.cell? ⟨b5, 0, none⟩ = some (.pointer (some ⟨g, 0, none⟩)) := (blk_cell K58.out 0).trans rfl; have fw8_b5_0 := blk_frozen K58.out 0; )))
  have K3d := Aside0.mk (blk_drew K38.out)
  have K4d := Aside0.mk (blk_drew K48.out)
  have K5d := Aside0.mk (blk_drew K58.out)
  have K7d := Aside0.mk (blk_drew K78.out)
  have Ld := Aside0.mk (Left.drew L8.out)
  refine start_ (n := 21) (S := fun w' => w'.cell? ⟨b3, 3, none⟩ = some (.slice A3 l.length c3) ∧ w'.cell? ⟨b3, 4, none⟩ = some (.slice A4 ks.length c4)) (ds := []) #[false, false, false, false, false, false, false, false, false, false, false, false, false, false, false, false, false, false, false, false, false] (by kernel_rfl) rfl rfl ⟨(blk_cell K3d.out 3).trans rfl, (blk_cell K3d.out 4).trans rfl⟩ (fun hHeld => ?_)
  clear cw8_b3_0 fw8_b3_0 cw8_b3_1 fw8_b3_1 cw8_b3_2 fw8_b3_2 cw8_b3_3 fw8_b3_3 cw8_b3_4 fw8_b3_4 cw8_b7_0 fw8_b7_0 cw8_b7_1 fw8_b7_1 cw8_b7_2 fw8_b7_2 cw8_b7_3 fw8_b7_3 cw8_b7_4 fw8_b7_4 cw8_b4_0 fw8_b4_0 cw8_b5_0 fw8_b5_0
  clear K38 K48 K58 K78 L8 G8
  generalize w8.drew = w9 at K3d K4d K5d K7d Ld hHeld ⊢
  refine pure_ (i := 0) (N := some 67) (v := ?_) (a' := ?_) #[true, false, false, false, false, false, false, false, false, false, false, false, false, false, false, false, false, false, false, false, false] rfl rfl (by kernel_rfl) (fun _ _ _ h => h) (Or.inl ⟨by rfl, ?_⟩) ?_ ?_
  rotate_left
  · intro w'
    go_simp
    with_reducible rfl
  rotate_left
  · simp only [Act.put, List.setIfInBounds_toArray, List.set_cons_zero, List.set_cons_succ, i64_w, i32_w]
    rfl
  refine pure_ (i := 2) (N := some 69) (v := ?_) (a' := ?_) #[true, false, true, false, false, false, false, false, false, false, false, false, false, false, false, false, false, false, false, false, false] rfl rfl (by kernel_rfl) (fun _ _ _ h => h) (Or.inl ⟨by rfl, ?_⟩) ?_ ?_
  rotate_left
  · intro w'
    go_simp
    with_reducible rfl
  rotate_left
  · simp only [Act.put, List.setIfInBounds_toArray, List.set_cons_zero, List.set_cons_succ, i64_w, i32_w]
    rfl
  refine pure_ (i := 4) (N := some 71) (v := ?_) (a' := ?_) #[true, false, true, false, true, false, false, false, false, false, false, false, false, false, false, false, false, false, false, false, false] rfl rfl (by kernel_rfl) (fun _ _ _ h => h) (Or.inl ⟨by rfl, ?_⟩) ?_ ?_
  rotate_left
  · intro w'
    go_simp
    with_reducible rfl
  rotate_left
  · simp only [Act.put, List.setIfInBounds_toArray, List.set_cons_zero, List.set_cons_succ, i64_w, i32_w]
    rfl
  refine pure_ (i := 7) (N := some 74) (v := ?_) (a' := ?_) #[true, false, true, false, true, false, false, true, false, false, false, false, false, false, false, false, false, false, false, false, false] rfl rfl (by kernel_rfl) (fun _ _ _ h => h) (Or.inl ⟨by rfl, ?_⟩) ?_ ?_
  rotate_left
  · intro w'
    go_simp
    with_reducible rfl
  rotate_left
  · simp only [Act.put, List.setIfInBounds_toArray, List.set_cons_zero, List.set_cons_succ, i64_w, i32_w]
    rfl
  refine take_ (i := 1) (N := some 68) (v := ?_) (a' := ?_) #[true, true, true, false, true, false, false, true, false, false, false, false, false, false, false, false, false, false, false, false, false] rfl rfl (by kernel_rfl) (fun _ _ _ h => h) (Or.inl ⟨by rfl, ?_⟩) hHeld ?_ ?_
  rotate_left
  · rintro w' ⟨s0, s1⟩
    go_simp
    with_reducible rfl
  rotate_left
  · simp only [Act.put, List.setIfInBounds_toArray, List.set_cons_zero, List.set_cons_succ, i64_w, i32_w]
    rfl
  refine take_ (i := 3) (N := some 70) (v := ?_) (a' := ?_) #[true, true, true, true, true, false, false, true, false, false, false, false, false, false, false, false, false, false, false, false, false] rfl rfl (by kernel_rfl) (fun _ _ _ h => h) (Or.inl ⟨by rfl, ?_⟩) hHeld ?_ ?_
  rotate_left
  · rintro w' ⟨s0, s1⟩
    go_simp
    with_reducible rfl
  rotate_left
  · simp only [Act.put, List.setIfInBounds_toArray, List.set_cons_zero, List.set_cons_succ, i64_w, i32_w]
    rfl
  refine take_ (i := 5) (N := some 72) (v := ?_) (a' := ?_) #[true, true, true, true, true, true, false, true, false, false, false, false, false, false, false, false, false, false, false, false, false] rfl rfl (by kernel_rfl) (fun _ _ _ h => h) (Or.inl ⟨by rfl, ?_⟩) hHeld ?_ ?_
  rotate_left
  · rintro w' ⟨s0, s1⟩
    go_simp
    with_reducible rfl
  rotate_left
  · simp only [Act.put, List.setIfInBounds_toArray, List.set_cons_zero, List.set_cons_succ, i64_w, i32_w]
    rfl
  refine take_ (i := 8) (N := some 75) (v := ?_) (a' := ?_) #[true, true, true, true, true, true, false, true, true, false, false, false, false, false, false, false, false, false, false, false, false] rfl rfl (by kernel_rfl) (fun _ _ _ h => h) (Or.inl ⟨by rfl, ?_⟩) hHeld ?_ ?_
  rotate_left
  · rintro w' ⟨s0, s1⟩
    go_simp
    with_reducible rfl
  rotate_left
  · simp only [Act.put, List.setIfInBounds_toArray, List.set_cons_zero, List.set_cons_succ, i64_w, i32_w]
    rfl
  refine pure_ (i := 6) (N := some 73) (v := ?_) (a' := ?_) #[true, true, true, true, true, true, true, true, true, false, false, false, false, false, false, false, false, false, false, false, false] rfl rfl (by kernel_rfl) (fun _ _ _ h => h) (Or.inl ⟨by rfl, ?_⟩) ?_ ?_
  rotate_left
  · intro w'
    go_simp
    with_reducible rfl
  rotate_left
  · simp only [Act.put, List.setIfInBounds_toArray, List.set_cons_zero, List.set_cons_succ, i64_w, i32_w]
    rfl
  refine pure_ (i := 9) (N := some 76) (v := ?_) (a' := ?_) #[true, true, true, true, true, true, true, true, true, true, false, false, false, false, false, false, false, false, false, false, false] rfl rfl (by kernel_rfl) (fun _ _ _ h => h) (Or.inl ⟨by rfl, ?_⟩) ?_ ?_
  rotate_left
  · intro w'
    go_simp
    with_reducible rfl
  rotate_left
  · simp only [Act.put, List.setIfInBounds_toArray, List.set_cons_zero, List.set_cons_succ, i64_w, i32_w]
    rfl
  refine pure_ (i := 10) (N := some 77) (v := ?_) (a' := ?_) #[true, true, true, true, true, true, true, true, true, true, true, false, false, false, false, false, false, false, false, false, false] rfl rfl (by kernel_rfl) (fun _ _ _ h => h) (Or.inl ⟨by rfl, ?_⟩) ?_ ?_
  rotate_left
  · intro w'
    go_simp
    with_reducible rfl
  rotate_left
  · simp only [Act.put, List.setIfInBounds_toArray, List.set_cons_zero, List.set_cons_succ, i64_w, i32_w]
    rfl
  refine pure_ (i := 11) (N := some 78) (v := ?_) (a' := ?_) #[true, true, true, true, true, true, true, true, true, true, true, true, false, false, false, false, false, false, false, false, false] rfl rfl (by kernel_rfl) (fun _ _ _ h => h) (Or.inl ⟨by rfl, ?_⟩) ?_ ?_
  rotate_left
  · intro w'
    go_simp
    with_reducible rfl
  rotate_left
  · simp only [Act.put, List.setIfInBounds_toArray, List.set_cons_zero, List.set_cons_succ, i64_w, i32_w]
    rfl
  refine pure_ (i := 12) (N := some 79) (v := undef) (a' := ?_) #[true, true, true, true, true, true, true, true, true, true, true, true, true, false, false, false, false, false, false, false, false] rfl rfl (by kernel_rfl) (fun _ _ _ h => h) (Or.inr ⟨by rfl, rfl⟩) ?_ ?_
  rotate_left
  · simp only [Act.put, List.setIfInBounds_toArray, List.set_cons_zero, List.set_cons_succ, i64_w, i32_w]
    rfl
  refine pure_ (i := 13) (N := some 80) (v := undef) (a' := ?_) #[true, true, true, true, true, true, true, true, true, true, true, true, true, true, false, false, false, false, false, false, false] rfl rfl (by kernel_rfl) (fun _ _ _ h => h) (Or.inr ⟨by rfl, rfl⟩) ?_ ?_
  rotate_left
  · simp only [Act.put, List.setIfInBounds_toArray, List.set_cons_zero, List.set_cons_succ, i64_w, i32_w]
    rfl
  refine pure_ (i := 16) (N := some 83) (v := ?_) (a' := ?_) #[true, true, true, true, true, true, true, true, true, true, true, true, true, true, false, false, true, false, false, false, false] rfl rfl (by kernel_rfl) (fun _ _ _ h => h) (Or.inl ⟨by rfl, ?_⟩) ?_ ?_
  rotate_left
  · intro w'
    go_simp
    with_reducible rfl
  rotate_left
  · simp only [Act.put, List.setIfInBounds_toArray, List.set_cons_zero, List.set_cons_succ, i64_w, i32_w]
    rfl
  refine pure_ (i := 14) (N := some 81) (v := undef) (a' := ?_) #[true, true, true, true, true, true, true, true, true, true, true, true, true, true, true, false, true, false, false, false, false] rfl rfl (by kernel_rfl) (fun _ _ _ h => h) (Or.inr ⟨by rfl, rfl⟩) ?_ ?_
  rotate_left
  · simp only [Act.put, List.setIfInBounds_toArray, List.set_cons_zero, List.set_cons_succ, i64_w, i32_w]
    rfl
  refine pure_ (i := 15) (N := some 82) (v := ?_) (a' := ?_) #[true, true, true, true, true, true, true, true, true, true, true, true, true, true, true, true, true, false, false, false, false] rfl rfl (by kernel_rfl) (fun _ _ _ h => h) (Or.inl ⟨by rfl, ?_⟩) ?_ ?_
  rotate_left
  · intro w'
    go_simp
    with_reducible rfl
  rotate_left
  · simp only [Act.put, List.setIfInBounds_toArray, List.set_cons_zero, List.set_cons_succ, i64_w, i32_w]
    rfl
  have cs_ : w9.cell? ⟨b7, 3, none⟩ = some (.slice none 0 0) := (blk_cell K7d.out 3).trans rfl
  have fs_ := blk_frozen K7d.out 3
  refine one_ (i := 17) (N := none) #[true, true, true, true, true, true, true, true, true, true, true, true, true, true, true, true, true, true, false, false, false] rfl rfl (by kernel_rfl) (by decide) (fun K hK => ?_)
  refine skip_ (w1 := ?_) (by rfl) rfl ?_ ?_
  rotate_left
  · go_simp
    rfl
  clear cs_ fs_
  have K3f := Aside0.mk (blk_far (p := ⟨b7, 3, none⟩) K3d.out n37 (.slice A3 l.length c3))
  have K4f := Aside0.mk (blk_far (p := ⟨b7, 3, none⟩) K4d.out n47 (.slice A3 l.length c3))
  have K5f := Aside0.mk (blk_far (p := ⟨b7, 3, none⟩) K5d.out n57 (.slice A3 l.length c3))
  have K7f := Aside0.mk (show (w9.setCell ⟨b7, 3, none⟩ (.slice A3 l.length c3)).heap[b7]? = some (.cells #[.int .i64 5, .int .i64 0, .string ⟨#[]⟩, .slice A3 l.length c3, .slice none 0 0] 25 (0, 0)) by simpa using blk_set K7d.out 3 (.slice A3 l.length c3))
  have Lf := Aside0.mk ((Ld.out).put (b := b7) (i := 3) z7 n7g (.slice A3 l.length c3))
  refine hK.out _ _ ⟨(blk_cell K3f.out 3).trans rfl, (blk_cell K3f.out 4).trans rfl⟩ (fun hHeld => ?_)
  clear hK K K3d K4d K5d K7d Ld
  generalize w9.setCell ⟨b7, 3, none⟩ (.slice A3 l.length c3) = w11 at K3f K4f K5f K7f Lf hHeld ⊢
  refine pure_ (i := 18) (N := some 84) (v := ?_) (a' := ?_) #[true, true, true, true, true, true, true, true, true, true, true, true, true, true, true, true, true, true, true, false, false] rfl rfl (by kernel_rfl) (fun _ _ _ h => h) (Or.inl ⟨by rfl, ?_⟩) ?_ ?_
  rotate_left
  · intro w'
    go_simp
    with_reducible rfl
  rotate_left
  · simp only [Act.put, List.setIfInBounds_toArray, List.set_cons_zero, List.set_cons_succ, i64_w, i32_w]
    rfl
  have cs_ : w11.cell? ⟨b7, 4, none⟩ = some (.slice none 0 0) := (blk_cell K7f.out 4).trans rfl
  have fs_ := blk_frozen K7f.out 4
  refine one_ (i := 19) (N := none) #[true, true, true, true, true, true, true, true, true, true, true, true, true, true, true, true, true, true, true, true, false] rfl rfl (by kernel_rfl) (by decide) (fun K hK => ?_)
  refine skip_ (w1 := ?_) (by rfl) rfl ?_ ?_
  rotate_left
  · go_simp
    rfl
  clear cs_ fs_
  have K3g := Aside0.mk (blk_far (p := ⟨b7, 4, none⟩) K3f.out n37 (.slice A4 ks.length c4))
  have K4g := Aside0.mk (blk_far (p := ⟨b7, 4, none⟩) K4f.out n47 (.slice A4 ks.length c4))
  have K5g := Aside0.mk (blk_far (p := ⟨b7, 4, none⟩) K5f.out n57 (.slice A4 ks.length c4))
  have K7g := Aside0.mk (show (w11.setCell ⟨b7, 4, none⟩ (.slice A4 ks.length c4)).heap[b7]? = some (.cells #[.int .i64 5, .int .i64 0, .string ⟨#[]⟩, .slice A3 l.length c3, .slice A4 ks.length c4] 25 (0, 0)) by simpa using blk_set K7f.out 4 (.slice A4 ks.length c4))
  have Lg := Aside0.mk (Lf.out.put (b := b7) (i := 4) z7 n7g (.slice A4 ks.length c4))
  refine hK.out _ _ ⟨(blk_cell K3g.out 3).trans rfl, (blk_cell K3g.out 4).trans rfl⟩ (fun hHeld => ?_)
  clear hK K K3f K4f K5f K7f Lf
  generalize w11.setCell ⟨b7, 4, none⟩ (.slice A4 ks.length c4) = w12 at K3g K4g K5g K7g Lg hHeld ⊢
  refine pure_ (i := 20) (N := some 8) (v := ?_) (a' := ?_) #[true, true, true, true, true, true, true, true, true, true, true, true, true, true, true, true, true, true, true, true, true] rfl rfl (by kernel_rfl) (fun _ _ _ h => h) (Or.inl ⟨by rfl, ?_⟩) ?_ ?_
  rotate_left
  · intro w'
    go_simp
    with_reducible rfl
  rotate_left
  · simp only [Act.put, List.setIfInBounds_toArray, List.set_cons_zero, List.set_cons_succ, i64_w, i32_w]
    rfl
  refine done_ (by kernel_rfl) ?_
  clear hHeld
  have cw12_b3_0 : w12.cell? ⟨b3, 0, none⟩ = some (.int .i64 5) := (blk_cell K3g.out 0).trans rfl
  have fw12_b3_0 := blk_frozen K3g.out 0
  have cw12_b3_1 : w12.cell? ⟨b3, 1, none⟩ = some (.int .i64 0) := (blk_cell K3g.out 1).trans rfl
  have fw12_b3_1 := blk_frozen K3g.out 1
  have cw12_b3_2 : w12.cell? ⟨b3, 2, none⟩ = some (.string s) := (blk_cell K3g.out 2).trans rfl
  have fw12_b3_2 := blk_frozen K3g.out 2
  have cw12_b3_3 : w12.cell? ⟨b3, 3, none⟩ = some (.slice A3 l.length c3) := (blk_cell K3g.out 3).trans rfl
  have fw12_b3_3 := blk_frozen K3g.out 3
  have cw12_b3_4 : w12.cell? ⟨b3, 4, none⟩ = some (.slice A4 ks.length c4) := (blk_cell K3g.out 4).trans rfl
  have fw12_b3_4 := blk_frozen K3g.out 4
  have cw12_b7_0 : w12.cell? ⟨b7, 0, none⟩ = some (.int .i64 5) := (blk_cell K7g.out 0).trans rfl
  have fw12_b7_0 := blk_frozen K7g.out 0
  have cw12_b7_1 : w12.cell? ⟨b7, 1, none⟩ = some (.int .i64 0) := (blk_cell K7g.out 1).trans rfl
  have fw12_b7_1 := blk_frozen K7g.out 1
  have cw12_b7_2 : w12.cell? ⟨b7, 2, none⟩ = some (.string ⟨#[]⟩) := (blk_cell K7g.out 2).trans rfl
  have fw12_b7_2 := blk_frozen K7g.out 2
  have cw12_b7_3 : w12.cell? ⟨b7, 3, none⟩ = some (.slice A3 l.length c3) := (blk_cell K7g.out 3).trans rfl
  have fw12_b7_3 := blk_frozen K7g.out 3
  have cw12_b7_4 : w12.cell? ⟨b7, 4, none⟩ = some (.slice A4 ks.length c4) := (blk_cell K7g.out 4).trans rfl
  have fw12_b7_4 := blk_frozen K7g.out 4
  have cw12_b4_0 : w12.cell? ⟨b4, 0, none⟩ = some (.int .i64 deep) := (blk_cell K4g.out 0).trans rfl
  have fw12_b4_0 := blk_frozen K4g.out 0
  have cw12_b5_0 : w12.cell? ⟨b5, 0, none⟩ = some (.pointer (some ⟨g, 0, none⟩)) := (blk_cell K5g.out 0).trans rfl
  have fw12_b5_0 := blk_frozen K5g.out 0
  go_wp2_with fail
  all_goals (go_ret; have hn : ¬ nodeP ⟨5, 0, s, l, ks⟩ := ?hn; rotate_left; (case hn => first | (intro h; have q := (node5.1 h).2.1; have q_ := beq_eq_false_iff_ne.1 hl; omega)); have hy := mayT_no (deep := deep) (left := left) d3 l3 hn; exact ⟨ret_bool (by rw [hv.out, hy]), by rw [hv.out, hy]; exact Lg.out⟩)

set_option maxHeartbeats 4000000 in
set_option maxRecDepth 100000 in
theorem may_5n (v : S25) (n : Int) (s : ByteArray) (l : List S25) (ks : List ByteArray) (hv : Hid (v = ⟨5, n, s, l, ks⟩)) (deep left : Int) (g : Nat) (A3 : Option Addr) (c3 : Nat) (A4 : Option Addr) (c4 : Nat) (w : World) (d1 : 1 ≤ deep) (d2 : deep ≤ 61) (l1 : 0 ≤ left) (l2 : left ≤ 20000) (hg : CountAt w g left) (d3 : deep ≤ 60) (l3 : 1 ≤ left) (hr3 : FA g w A3 l) (hc3 : l.length ≤ c3) (hr4 : FS g w A4 ks) (hc4 : ks.length ≤ c4) (ih : ∀ x ∈ l, MayOK x) (hn : (0 == n) = false) (hn' : ¬ (0 : Int) = n) (hl : ((l.length : Int) == (ks.length : Int)) = true) :
    Calls Tryz.prog 37 #[.agg #[.int .i64 5, .int .i64 n, .string s, .slice A3 l.length c3, .slice A4 ks.length c4], .int .i64 deep, .pointer (some ⟨g, 0, none⟩)] w fun e w' => e = .returned (.bool (mayT v deep left).1) ∧ Left w g (mayT v deep left).2 w' := by
  have z : g < w.heap.size := blk_lt hg
  have HG := Lib.hid hg; clear hg
  have hu := Tryz.underlying25
  have HR3 := Lib.hid hr3; clear hr3
  have HR4 := Lib.hid hr4; clear hr4
  have IH := Lib.hid ih; clear ih
  have l4 : ¬ left - 1 < 0 := by omega
  have d4 : ¬ 60 < deep := by omega
  go_enter Tryz.func37, Tryz.ntmps37

  go_wp2_with (first | ((with_reducible refine gate_dst (N := 3) rfl ?_); (refine box_event ?hg (N := 3) ?hd (cs := #[.int .i64 5, .int .i64 n, .string s, .slice A3 l.length c3, .slice A4 ks.length c4]) (t := 25) ?hr ?_; (case hd => rfl); (case hg => rfl); (case hr => first | (go_simp; done) | (go_simp; rfl)); intro b3 e3 w3 k3 m3; have z3 := Nat.le_of_eq e3.symm; clear e3; have K3 := Aside0.mk k3; have M3 := Aside0.mk m3; have G3 := Aside0.mk ((m3.block g (blk_lt HG.out)).trans HG.out); clear k3 m3)) | ((with_reducible refine gate_dst (N := 4) rfl ?_); (refine box_event ?hg (N := 4) ?hd (cs := #[.int .i64 deep]) (t := 3) ?hr ?_; (case hd => rfl); (case hg => rfl); (case hr => first | (go_simp; done) | (go_simp; rfl)); intro b4 e4 w4 k4 m4; have z4 := Nat.le_trans M3.out.size (Nat.le_of_eq e4.symm); clear e4; have K4 := Aside0.mk k4; have K3' := Aside0.mk (blk_below K3.out m4); have M4 := Aside0.mk (M3.out.trans (m4.mono M3.out.size)); have G4 := Aside0.mk ((m4.block g (blk_lt G3.out)).trans G3.out); clear k4 m4 K3 M3 G3)) | ((with_reducible refine gate_dst (N := 5) rfl ?_); (refine box_event ?hg (N := 5) ?hd (cs := #[.pointer (some ⟨g, 0, none⟩)]) (t := 46) ?hr ?_; (case hd => rfl); (case hg => rfl); (case hr => first | (go_simp; done) | (go_simp; rfl)); intro b5 e5 w5 k5 m5; have z5 := Nat.le_trans M4.out.size (Nat.le_of_eq e5.symm); clear e5; have K5 := Aside0.mk k5; have K4' := Aside0.mk (blk_below K4.out m5); have K3 := Aside0.mk (blk_below K3'.out m5); have M5 := Aside0.mk (M4.out.trans (m5.mono M4.out.size)); have G5 := Aside0.mk ((m5.block g (blk_lt G4.out)).trans G4.out); clear k5 m5 K3' K4 M4 G4; have N3 := Nat.ne_of_gt (Nat.lt_of_lt_of_le z z3); have N4 := Nat.ne_of_gt (Nat.lt_of_lt_of_le z z4); have N5 := Nat.ne_of_gt (Nat.lt_of_lt_of_le z z5); have cw5_b5_0 : w5.cell? ⟨b5, 0, none⟩ = some (.pointer (some ⟨g, 0, none⟩)) := (blk_cell K5.out 0).trans rfl; have fw5_b5_0 := blk_frozen K5.out 0; have cw5_g_0 : w5.cell? ⟨g, 0, none⟩ = some (.int .i64 left) := (blk_cell G5.out 0).trans rfl; have fw5_g_0 := blk_frozen G5.out 0; )) | ((with_reducible refine gate_store (t := 3) (p := 13) rfl ?_); (refine store_event (t := 3) (p := 13) (v := ?vo_w6) (w1 := w5.setCell ⟨g, 0, none⟩ (.int .i64 (left - 1))) ?hg ?ho ?hn ?hr ?_; (case ho => rfl); (case hg => rfl); (case hn => rfl); (case hr => first | (go_simp; done) | (go_simp; rfl)); intro w6 hw; have L6 := Aside0.mk (show Left w g (left - 1) w6 by rw [hw]; exact Left.from M5.out (Left.set G5.out (left - 1))); have h_ := blk_far (p := ⟨g, 0, none⟩) K3.out N3 (.int .i64 (left - 1)); rw [← hw] at h_; have K36 := Aside0.mk h_; clear h_; have h_ := blk_far (p := ⟨g, 0, none⟩) K4'.out N4 (.int .i64 (left - 1)); rw [← hw] at h_; have K46 := Aside0.mk h_; clear h_; have h_ := blk_far (p := ⟨g, 0, none⟩) K5.out N5 (.int .i64 (left - 1)); rw [← hw] at h_; have K56 := Aside0.mk h_; clear h_; have G6 := Aside0.mk L6.out.count; clear hw K3 K4' K5 G5 M5 cw5_b5_0 fw5_b5_0 cw5_g_0 fw5_g_0; have cw6_b3_0 : w6.cell? ⟨b3, 0, none⟩ = some (.int .i64 5) := (blk_cell K36.out 0).trans rfl; have fw6_b3_0 := blk_frozen K36.out 0; have cw6_b4_0 : w6.cell? ⟨b4, 0, none⟩ = some (.int .i64 deep) := (blk_cell K46.out 0).trans rfl; have fw6_b4_0 := blk_frozen K46.out 0; have cw6_b5_0 : w6.cell? ⟨b5, 0, none⟩ = some (.pointer (some ⟨g, 0, none⟩)) := (blk_cell K56.out 0).trans rfl; have fw6_b5_0 := blk_frozen K56.out 0; have cw6_g_0 : w6.cell? ⟨g, 0, none⟩ = some (.int .i64 (left - 1)) := (blk_cell G6.out 0).trans rfl; have fw6_g_0 := blk_frozen G6.out 0; )) | ((with_reducible refine gate_dst (N := 7) rfl ?_); (refine box_event ?hg (N := 7) ?hd (cs := #[.int .i64 0, .int .i64 0, .string ⟨#[]⟩, .slice none 0 0, .slice none 0 0]) (t := 25) ?hr ?_; (case hd => rfl); (case hg => rfl); (case hr => first | (go_simp; done) | (go_simp; rfl)); intro b7 e7 w7 k7 m7; have z7 := Nat.le_trans L6.out.size (Nat.le_of_eq e7.symm); have n37 : b3 ≠ b7 := Nat.ne_of_lt (Nat.lt_of_lt_of_eq (blk_lt K36.out) e7.symm); have n47 : b4 ≠ b7 := Nat.ne_of_lt (Nat.lt_of_lt_of_eq (blk_lt K46.out) e7.symm); have n57 : b5 ≠ b7 := Nat.ne_of_lt (Nat.lt_of_lt_of_eq (blk_lt K56.out) e7.symm); have n7g : g ≠ b7 := Nat.ne_of_lt (Nat.lt_of_lt_of_le z z7); clear e7; have K7 := Aside0.mk k7; have L7 := Aside0.mk (L6.out.below m7); have K37 := Aside0.mk (blk_below K36.out m7); have K47 := Aside0.mk (blk_below K46.out m7); have K57 := Aside0.mk (blk_below K56.out m7); clear k7 m7 L6 K36 K46 K56 G6 cw6_b3_0 fw6_b3_0 cw6_b4_0 fw6_b4_0 cw6_b5_0 fw6_b5_0 cw6_g_0 fw6_g_0; have cw7_b7_0 : w7.cell? ⟨b7, 0, none⟩ = some (.int .i64 0) := (blk_cell K7.out 0).trans rfl; have fw7_b7_0 := blk_frozen K7.out 0; have cw7_b7_1 : w7.cell? ⟨b7, 1, none⟩ = some (.int .i64 0) := (blk_cell K7.out 1).trans rfl; have fw7_b7_1 := blk_frozen K7.out 1; have cw7_b7_2 : w7.cell? ⟨b7, 2, none⟩ = some (.string ⟨#[]⟩) := (blk_cell K7.out 2).trans rfl; have fw7_b7_2 := blk_frozen K7.out 2; have cw7_b7_3 : w7.cell? ⟨b7, 3, none⟩ = some (.slice none 0 0) := (blk_cell K7.out 3).trans rfl; have fw7_b7_3 := blk_frozen K7.out 3; have cw7_b7_4 : w7.cell? ⟨b7, 4, none⟩ = some (.slice none 0 0) := (blk_cell K7.out 4).trans rfl; have fw7_b7_4 := blk_frozen K7.out 4; )) | ((with_reducible refine gate_store (t := 25) (p := 7) rfl ?_); (refine store_event (t := 25) (p := 7) (v := ?vo_w8) (w1 := (((((w7.setCell ⟨b7, 0, none⟩ (.int .i64 5)).setCell ⟨b7, 1, none⟩ (.int .i64 0)).setCell ⟨b7, 2, none⟩ (.string ⟨#[]⟩)).setCell ⟨b7, 3, none⟩ (.slice none 0 0)).setCell ⟨b7, 4, none⟩ (.slice none 0 0))) ?hg ?ho ?hn ?hr ?_; (case ho => rfl); (case hg => rfl); (case hn => rfl); (case hr => first | (go_simp; done) | (go_simp; rfl)); intro w8 hw; have K78 : Aside0 (w8.heap[b7]? = some (.cells #[.int .i64 5, .int .i64 0, .string ⟨#[]⟩, .slice none 0 0, .slice none 0 0] 25 (0, 0))) := ⟨by rw [hw]; simpa using blk_set (blk_set (blk_set (blk_set (blk_set K7.out 0 (.int .i64 5)) 1 (.int .i64 0)) 2 (.string ⟨#[]⟩)) 3 (.slice none 0 0)) 4 (.slice none 0 0)⟩; have h_ := (blk_far (p := ⟨b7, 4, none⟩) (blk_far (p := ⟨b7, 3, none⟩) (blk_far (p := ⟨b7, 2, none⟩) (blk_far (p := ⟨b7, 1, none⟩) (blk_far (p := ⟨b7, 0, none⟩) K37.out n37 (.int .i64 5)) n37 (.int .i64 0)) n37 (.string ⟨#[]⟩)) n37 (.slice none 0 0)) n37 (.slice none 0 0)); rw [← hw] at h_; have K38 := Aside0.mk h_; clear h_; have h_ := (blk_far (p := ⟨b7, 4, none⟩) (blk_far (p := ⟨b7, 3, none⟩) (blk_far (p := ⟨b7, 2, none⟩) (blk_far (p := ⟨b7, 1, none⟩) (blk_far (p := ⟨b7, 0, none⟩) K47.out n47 (.int .i64 5)) n47 (.int .i64 0)) n47 (.string ⟨#[]⟩)) n47 (.slice none 0 0)) n47 (.slice none 0 0)); rw [← hw] at h_; have K48 := Aside0.mk h_; clear h_; have h_ := (blk_far (p := ⟨b7, 4, none⟩) (blk_far (p := ⟨b7, 3, none⟩) (blk_far (p := ⟨b7, 2, none⟩) (blk_far (p := ⟨b7, 1, none⟩) (blk_far (p := ⟨b7, 0, none⟩) K57.out n57 (.int .i64 5)) n57 (.int .i64 0)) n57 (.string ⟨#[]⟩)) n57 (.slice none 0 0)) n57 (.slice none 0 0)); rw [← hw] at h_; have K58 := Aside0.mk h_; clear h_; have L8 : Aside0 (Left w g (left - 1) w8) := ⟨by rw [hw]; exact ((((L7.out.put z7 n7g _).put z7 n7g _).put z7 n7g _).put z7 n7g _).put z7 n7g _⟩; have G8 := Aside0.mk L8.out.count; clear hw K7 K37 K47 K57 L7 cw7_b7_0 fw7_b7_0 cw7_b7_1 fw7_b7_1 cw7_b7_2 fw7_b7_2 cw7_b7_3 fw7_b7_3 cw7_b7_4 fw7_b7_4; have cw8_b3_0 : w8.cell? ⟨b3, 0, none⟩ = some (.int .i64 5) := (blk_cell K38.out 0).trans rfl; have fw8_b3_0 := blk_frozen K38.out 0; have cw8_b3_1 : w8.cell? ⟨b3, 1, none⟩ = some (.int .i64 n) := (blk_cell K38.out 1).trans rfl; have fw8_b3_1 := blk_frozen K38.out 1; have cw8_b3_2 : w8.cell? ⟨b3, 2, none⟩ = some (.string s) := (blk_cell K38.out 2).trans rfl; have fw8_b3_2 := blk_frozen K38.out 2; have cw8_b3_3 : w8.cell? ⟨b3, 3, none⟩ = some (.slice A3 l.length c3) := (blk_cell K38.out 3).trans rfl; have fw8_b3_3 := blk_frozen K38.out 3; have cw8_b3_4 : w8.cell? ⟨b3, 4, none⟩ = some (.slice A4 ks.length c4) := (blk_cell K38.out 4).trans rfl; have fw8_b3_4 := blk_frozen K38.out 4; have cw8_b7_0 : w8.cell? ⟨b7, 0, none⟩ = some (.int .i64 5) := (blk_cell K78.out 0).trans rfl; have fw8_b7_0 := blk_frozen K78.out 0; have cw8_b7_1 : w8.cell? ⟨b7, 1, none⟩ = some (.int .i64 0) := (blk_cell K78.out 1).trans rfl; have fw8_b7_1 := blk_frozen K78.out 1; have cw8_b7_2 : w8.cell? ⟨b7, 2, none⟩ = some (.string ⟨#[]⟩) := (blk_cell K78.out 2).trans rfl; have fw8_b7_2 := blk_frozen K78.out 2; have cw8_b7_3 : w8.cell? ⟨b7, 3, none⟩ = some (.slice none 0 0) := (blk_cell K78.out 3).trans rfl; have fw8_b7_3 := blk_frozen K78.out 3; have cw8_b7_4 : w8.cell? ⟨b7, 4, none⟩ = some (.slice none 0 0) := (blk_cell K78.out 4).trans rfl; have fw8_b7_4 := blk_frozen K78.out 4; have cw8_b4_0 : w8.cell? ⟨b4, 0, none⟩ = some (.int .i64 deep) := (blk_cell K48.out 0).trans rfl; have fw8_b4_0 := blk_frozen K48.out 0; have cw8_b5_0 : w8.cell? ⟨b5, 0, none⟩ = some (.pointer (some ⟨g, 0, none⟩)) := (blk_cell K58.out 0).trans rfl; have fw8_b5_0 := blk_frozen K58.out 0; )))
  have K3d := Aside0.mk (blk_drew K38.out)
  have K4d := Aside0.mk (blk_drew K48.out)
  have K5d := Aside0.mk (blk_drew K58.out)
  have K7d := Aside0.mk (blk_drew K78.out)
  have Ld := Aside0.mk (Left.drew L8.out)
  refine start_ (n := 21) (S := fun w' => w'.cell? ⟨b3, 3, none⟩ = some (.slice A3 l.length c3) ∧ w'.cell? ⟨b3, 4, none⟩ = some (.slice A4 ks.length c4)) (ds := []) #[false, false, false, false, false, false, false, false, false, false, false, false, false, false, false, false, false, false, false, false, false] (by kernel_rfl) rfl rfl ⟨(blk_cell K3d.out 3).trans rfl, (blk_cell K3d.out 4).trans rfl⟩ (fun hHeld => ?_)
  clear cw8_b3_0 fw8_b3_0 cw8_b3_1 fw8_b3_1 cw8_b3_2 fw8_b3_2 cw8_b3_3 fw8_b3_3 cw8_b3_4 fw8_b3_4 cw8_b7_0 fw8_b7_0 cw8_b7_1 fw8_b7_1 cw8_b7_2 fw8_b7_2 cw8_b7_3 fw8_b7_3 cw8_b7_4 fw8_b7_4 cw8_b4_0 fw8_b4_0 cw8_b5_0 fw8_b5_0
  clear K38 K48 K58 K78 L8 G8
  generalize w8.drew = w9 at K3d K4d K5d K7d Ld hHeld ⊢
  refine pure_ (i := 0) (N := some 67) (v := ?_) (a' := ?_) #[true, false, false, false, false, false, false, false, false, false, false, false, false, false, false, false, false, false, false, false, false] rfl rfl (by kernel_rfl) (fun _ _ _ h => h) (Or.inl ⟨by rfl, ?_⟩) ?_ ?_
  rotate_left
  · intro w'
    go_simp
    with_reducible rfl
  rotate_left
  · simp only [Act.put, List.setIfInBounds_toArray, List.set_cons_zero, List.set_cons_succ, i64_w, i32_w]
    rfl
  refine pure_ (i := 2) (N := some 69) (v := ?_) (a' := ?_) #[true, false, true, false, false, false, false, false, false, false, false, false, false, false, false, false, false, false, false, false, false] rfl rfl (by kernel_rfl) (fun _ _ _ h => h) (Or.inl ⟨by rfl, ?_⟩) ?_ ?_
  rotate_left
  · intro w'
    go_simp
    with_reducible rfl
  rotate_left
  · simp only [Act.put, List.setIfInBounds_toArray, List.set_cons_zero, List.set_cons_succ, i64_w, i32_w]
    rfl
  refine pure_ (i := 4) (N := some 71) (v := ?_) (a' := ?_) #[true, false, true, false, true, false, false, false, false, false, false, false, false, false, false, false, false, false, false, false, false] rfl rfl (by kernel_rfl) (fun _ _ _ h => h) (Or.inl ⟨by rfl, ?_⟩) ?_ ?_
  rotate_left
  · intro w'
    go_simp
    with_reducible rfl
  rotate_left
  · simp only [Act.put, List.setIfInBounds_toArray, List.set_cons_zero, List.set_cons_succ, i64_w, i32_w]
    rfl
  refine pure_ (i := 7) (N := some 74) (v := ?_) (a' := ?_) #[true, false, true, false, true, false, false, true, false, false, false, false, false, false, false, false, false, false, false, false, false] rfl rfl (by kernel_rfl) (fun _ _ _ h => h) (Or.inl ⟨by rfl, ?_⟩) ?_ ?_
  rotate_left
  · intro w'
    go_simp
    with_reducible rfl
  rotate_left
  · simp only [Act.put, List.setIfInBounds_toArray, List.set_cons_zero, List.set_cons_succ, i64_w, i32_w]
    rfl
  refine take_ (i := 1) (N := some 68) (v := ?_) (a' := ?_) #[true, true, true, false, true, false, false, true, false, false, false, false, false, false, false, false, false, false, false, false, false] rfl rfl (by kernel_rfl) (fun _ _ _ h => h) (Or.inl ⟨by rfl, ?_⟩) hHeld ?_ ?_
  rotate_left
  · rintro w' ⟨s0, s1⟩
    go_simp
    with_reducible rfl
  rotate_left
  · simp only [Act.put, List.setIfInBounds_toArray, List.set_cons_zero, List.set_cons_succ, i64_w, i32_w]
    rfl
  refine take_ (i := 3) (N := some 70) (v := ?_) (a' := ?_) #[true, true, true, true, true, false, false, true, false, false, false, false, false, false, false, false, false, false, false, false, false] rfl rfl (by kernel_rfl) (fun _ _ _ h => h) (Or.inl ⟨by rfl, ?_⟩) hHeld ?_ ?_
  rotate_left
  · rintro w' ⟨s0, s1⟩
    go_simp
    with_reducible rfl
  rotate_left
  · simp only [Act.put, List.setIfInBounds_toArray, List.set_cons_zero, List.set_cons_succ, i64_w, i32_w]
    rfl
  refine take_ (i := 5) (N := some 72) (v := ?_) (a' := ?_) #[true, true, true, true, true, true, false, true, false, false, false, false, false, false, false, false, false, false, false, false, false] rfl rfl (by kernel_rfl) (fun _ _ _ h => h) (Or.inl ⟨by rfl, ?_⟩) hHeld ?_ ?_
  rotate_left
  · rintro w' ⟨s0, s1⟩
    go_simp
    with_reducible rfl
  rotate_left
  · simp only [Act.put, List.setIfInBounds_toArray, List.set_cons_zero, List.set_cons_succ, i64_w, i32_w]
    rfl
  refine take_ (i := 8) (N := some 75) (v := ?_) (a' := ?_) #[true, true, true, true, true, true, false, true, true, false, false, false, false, false, false, false, false, false, false, false, false] rfl rfl (by kernel_rfl) (fun _ _ _ h => h) (Or.inl ⟨by rfl, ?_⟩) hHeld ?_ ?_
  rotate_left
  · rintro w' ⟨s0, s1⟩
    go_simp
    with_reducible rfl
  rotate_left
  · simp only [Act.put, List.setIfInBounds_toArray, List.set_cons_zero, List.set_cons_succ, i64_w, i32_w]
    rfl
  refine pure_ (i := 6) (N := some 73) (v := ?_) (a' := ?_) #[true, true, true, true, true, true, true, true, true, false, false, false, false, false, false, false, false, false, false, false, false] rfl rfl (by kernel_rfl) (fun _ _ _ h => h) (Or.inl ⟨by rfl, ?_⟩) ?_ ?_
  rotate_left
  · intro w'
    go_simp
    with_reducible rfl
  rotate_left
  · simp only [Act.put, List.setIfInBounds_toArray, List.set_cons_zero, List.set_cons_succ, i64_w, i32_w]
    rfl
  refine pure_ (i := 9) (N := some 76) (v := ?_) (a' := ?_) #[true, true, true, true, true, true, true, true, true, true, false, false, false, false, false, false, false, false, false, false, false] rfl rfl (by kernel_rfl) (fun _ _ _ h => h) (Or.inl ⟨by rfl, ?_⟩) ?_ ?_
  rotate_left
  · intro w'
    go_simp
    with_reducible rfl
  rotate_left
  · simp only [Act.put, List.setIfInBounds_toArray, List.set_cons_zero, List.set_cons_succ, i64_w, i32_w]
    rfl
  refine pure_ (i := 10) (N := some 77) (v := ?_) (a' := ?_) #[true, true, true, true, true, true, true, true, true, true, true, false, false, false, false, false, false, false, false, false, false] rfl rfl (by kernel_rfl) (fun _ _ _ h => h) (Or.inl ⟨by rfl, ?_⟩) ?_ ?_
  rotate_left
  · intro w'
    go_simp
    with_reducible rfl
  rotate_left
  · simp only [Act.put, List.setIfInBounds_toArray, List.set_cons_zero, List.set_cons_succ, i64_w, i32_w]
    rfl
  refine pure_ (i := 11) (N := some 78) (v := ?_) (a' := ?_) #[true, true, true, true, true, true, true, true, true, true, true, true, false, false, false, false, false, false, false, false, false] rfl rfl (by kernel_rfl) (fun _ _ _ h => h) (Or.inl ⟨by rfl, ?_⟩) ?_ ?_
  rotate_left
  · intro w'
    go_simp
    with_reducible rfl
  rotate_left
  · simp only [Act.put, List.setIfInBounds_toArray, List.set_cons_zero, List.set_cons_succ, i64_w, i32_w]
    rfl
  refine pure_ (i := 12) (N := some 79) (v := ?_) (a' := ?_) #[true, true, true, true, true, true, true, true, true, true, true, true, true, false, false, false, false, false, false, false, false] rfl rfl (by kernel_rfl) (fun _ _ _ h => h) (Or.inl ⟨by rfl, ?_⟩) ?_ ?_
  rotate_left
  · intro w'
    go_simp
    with_reducible rfl
  rotate_left
  · simp only [Act.put, List.setIfInBounds_toArray, List.set_cons_zero, List.set_cons_succ, i64_w, i32_w]
    rfl
  refine take_ (i := 13) (N := some 80) (v := ?_) (a' := ?_) #[true, true, true, true, true, true, true, true, true, true, true, true, true, true, false, false, false, false, false, false, false] rfl rfl (by kernel_rfl) (fun _ _ _ h => h) (Or.inl ⟨by rfl, ?_⟩) hHeld ?_ ?_
  rotate_left
  · rintro w' ⟨s0, s1⟩
    go_simp
    with_reducible rfl
  rotate_left
  · simp only [Act.put, List.setIfInBounds_toArray, List.set_cons_zero, List.set_cons_succ, i64_w, i32_w]
    rfl
  refine pure_ (i := 16) (N := some 83) (v := ?_) (a' := ?_) #[true, true, true, true, true, true, true, true, true, true, true, true, true, true, false, false, true, false, false, false, false] rfl rfl (by kernel_rfl) (fun _ _ _ h => h) (Or.inl ⟨by rfl, ?_⟩) ?_ ?_
  rotate_left
  · intro w'
    go_simp
    with_reducible rfl
  rotate_left
  · simp only [Act.put, List.setIfInBounds_toArray, List.set_cons_zero, List.set_cons_succ, i64_w, i32_w]
    rfl
  refine one_ (i := 14) (N := some 81) #[true, true, true, true, true, true, true, true, true, true, true, true, true, true, true, false, true, false, false, false, false] rfl rfl (by kernel_rfl) (by decide) (fun K hK => ?_)
  refine goes_ Tryz.func56 (by kernel_rfl) rfl #[.slice A4 ks.length c4] (by rfl) rfl rfl (by (try simp only [List.map_toArray, List.map_cons, List.map_nil]); first | done | rfl) ?_
  refine (rises_calls ks A4 c4 _ (Kd.F_now (Ld.out.fs HR4.out)) hc4).mono ?_
  rintro e wz ⟨rfl, nd, rfl⟩
  refine ⟨_, rfl, ?_⟩
  refine hK.out _ _ ⟨(blk_cell (blk_drewN K3d.out _) 3).trans rfl, (blk_cell (blk_drewN K3d.out _) 4).trans rfl⟩ (fun hHeld => ?_)
  clear hK K
  refine norm_ (a' := ?_) ?_ ?_
  rotate_left
  · show Act.put _ (some 81) _ = _
    simp only [Act.put, List.setIfInBounds_toArray, List.set_cons_zero, List.set_cons_succ, i64_w, i32_w]
    rfl
  have K3e := Aside0.mk (blk_drewN K3d.out nd)
  have K4e := Aside0.mk (blk_drewN K4d.out nd)
  have K5e := Aside0.mk (blk_drewN K5d.out nd)
  have K7e := Aside0.mk (blk_drewN K7d.out nd)
  have Le := Aside0.mk (Ld.out.below (pw_below_drewN (Below.refl _ _) nd))
  clear K3d K4d K5d K7d Ld
  generalize w9.drewN nd = w10 at K3e K4e K5e K7e Le hHeld ⊢
  refine pure_ (i := 15) (N := some 82) (v := ?_) (a' := ?_) #[true, true, true, true, true, true, true, true, true, true, true, true, true, true, true, true, true, false, false, false, false] rfl rfl (by kernel_rfl) (fun _ _ _ h => h) (Or.inl ⟨by rfl, ?_⟩) ?_ ?_
  rotate_left
  · intro w'
    go_simp
    with_reducible rfl
  rotate_left
  · simp only [Act.put, List.setIfInBounds_toArray, List.set_cons_zero, List.set_cons_succ, i64_w, i32_w]
    rfl
  have cs_ : w10.cell? ⟨b7, 3, none⟩ = some (.slice none 0 0) := (blk_cell K7e.out 3).trans rfl
  have fs_ := blk_frozen K7e.out 3
  refine one_ (i := 17) (N := none) #[true, true, true, true, true, true, true, true, true, true, true, true, true, true, true, true, true, true, false, false, false] rfl rfl (by kernel_rfl) (by decide) (fun K hK => ?_)
  refine skip_ (w1 := ?_) (by rfl) rfl ?_ ?_
  rotate_left
  · go_simp
    rfl
  clear cs_ fs_
  have K3f := Aside0.mk (blk_far (p := ⟨b7, 3, none⟩) K3e.out n37 (.slice A3 l.length c3))
  have K4f := Aside0.mk (blk_far (p := ⟨b7, 3, none⟩) K4e.out n47 (.slice A3 l.length c3))
  have K5f := Aside0.mk (blk_far (p := ⟨b7, 3, none⟩) K5e.out n57 (.slice A3 l.length c3))
  have K7f := Aside0.mk (show (w10.setCell ⟨b7, 3, none⟩ (.slice A3 l.length c3)).heap[b7]? = some (.cells #[.int .i64 5, .int .i64 0, .string ⟨#[]⟩, .slice A3 l.length c3, .slice none 0 0] 25 (0, 0)) by simpa using blk_set K7e.out 3 (.slice A3 l.length c3))
  have Lf := Aside0.mk ((Le.out).put (b := b7) (i := 3) z7 n7g (.slice A3 l.length c3))
  refine hK.out _ _ ⟨(blk_cell K3f.out 3).trans rfl, (blk_cell K3f.out 4).trans rfl⟩ (fun hHeld => ?_)
  clear hK K K3e K4e K5e K7e Le
  generalize w10.setCell ⟨b7, 3, none⟩ (.slice A3 l.length c3) = w11 at K3f K4f K5f K7f Lf hHeld ⊢
  refine pure_ (i := 18) (N := some 84) (v := ?_) (a' := ?_) #[true, true, true, true, true, true, true, true, true, true, true, true, true, true, true, true, true, true, true, false, false] rfl rfl (by kernel_rfl) (fun _ _ _ h => h) (Or.inl ⟨by rfl, ?_⟩) ?_ ?_
  rotate_left
  · intro w'
    go_simp
    with_reducible rfl
  rotate_left
  · simp only [Act.put, List.setIfInBounds_toArray, List.set_cons_zero, List.set_cons_succ, i64_w, i32_w]
    rfl
  have cs_ : w11.cell? ⟨b7, 4, none⟩ = some (.slice none 0 0) := (blk_cell K7f.out 4).trans rfl
  have fs_ := blk_frozen K7f.out 4
  refine one_ (i := 19) (N := none) #[true, true, true, true, true, true, true, true, true, true, true, true, true, true, true, true, true, true, true, true, false] rfl rfl (by kernel_rfl) (by decide) (fun K hK => ?_)
  refine skip_ (w1 := ?_) (by rfl) rfl ?_ ?_
  rotate_left
  · go_simp
    rfl
  clear cs_ fs_
  have K3g := Aside0.mk (blk_far (p := ⟨b7, 4, none⟩) K3f.out n37 (.slice A4 ks.length c4))
  have K4g := Aside0.mk (blk_far (p := ⟨b7, 4, none⟩) K4f.out n47 (.slice A4 ks.length c4))
  have K5g := Aside0.mk (blk_far (p := ⟨b7, 4, none⟩) K5f.out n57 (.slice A4 ks.length c4))
  have K7g := Aside0.mk (show (w11.setCell ⟨b7, 4, none⟩ (.slice A4 ks.length c4)).heap[b7]? = some (.cells #[.int .i64 5, .int .i64 0, .string ⟨#[]⟩, .slice A3 l.length c3, .slice A4 ks.length c4] 25 (0, 0)) by simpa using blk_set K7f.out 4 (.slice A4 ks.length c4))
  have Lg := Aside0.mk (Lf.out.put (b := b7) (i := 4) z7 n7g (.slice A4 ks.length c4))
  refine hK.out _ _ ⟨(blk_cell K3g.out 3).trans rfl, (blk_cell K3g.out 4).trans rfl⟩ (fun hHeld => ?_)
  clear hK K K3f K4f K5f K7f Lf
  generalize w11.setCell ⟨b7, 4, none⟩ (.slice A4 ks.length c4) = w12 at K3g K4g K5g K7g Lg hHeld ⊢
  refine pure_ (i := 20) (N := some 8) (v := ?_) (a' := ?_) #[true, true, true, true, true, true, true, true, true, true, true, true, true, true, true, true, true, true, true, true, true] rfl rfl (by kernel_rfl) (fun _ _ _ h => h) (Or.inl ⟨by rfl, ?_⟩) ?_ ?_
  rotate_left
  · intro w'
    go_simp
    with_reducible rfl
  rotate_left
  · simp only [Act.put, List.setIfInBounds_toArray, List.set_cons_zero, List.set_cons_succ, i64_w, i32_w]
    rfl
  refine done_ (by kernel_rfl) ?_
  clear hHeld
  have cw12_b3_0 : w12.cell? ⟨b3, 0, none⟩ = some (.int .i64 5) := (blk_cell K3g.out 0).trans rfl
  have fw12_b3_0 := blk_frozen K3g.out 0
  have cw12_b3_1 : w12.cell? ⟨b3, 1, none⟩ = some (.int .i64 n) := (blk_cell K3g.out 1).trans rfl
  have fw12_b3_1 := blk_frozen K3g.out 1
  have cw12_b3_2 : w12.cell? ⟨b3, 2, none⟩ = some (.string s) := (blk_cell K3g.out 2).trans rfl
  have fw12_b3_2 := blk_frozen K3g.out 2
  have cw12_b3_3 : w12.cell? ⟨b3, 3, none⟩ = some (.slice A3 l.length c3) := (blk_cell K3g.out 3).trans rfl
  have fw12_b3_3 := blk_frozen K3g.out 3
  have cw12_b3_4 : w12.cell? ⟨b3, 4, none⟩ = some (.slice A4 ks.length c4) := (blk_cell K3g.out 4).trans rfl
  have fw12_b3_4 := blk_frozen K3g.out 4
  have cw12_b7_0 : w12.cell? ⟨b7, 0, none⟩ = some (.int .i64 5) := (blk_cell K7g.out 0).trans rfl
  have fw12_b7_0 := blk_frozen K7g.out 0
  have cw12_b7_1 : w12.cell? ⟨b7, 1, none⟩ = some (.int .i64 0) := (blk_cell K7g.out 1).trans rfl
  have fw12_b7_1 := blk_frozen K7g.out 1
  have cw12_b7_2 : w12.cell? ⟨b7, 2, none⟩ = some (.string ⟨#[]⟩) := (blk_cell K7g.out 2).trans rfl
  have fw12_b7_2 := blk_frozen K7g.out 2
  have cw12_b7_3 : w12.cell? ⟨b7, 3, none⟩ = some (.slice A3 l.length c3) := (blk_cell K7g.out 3).trans rfl
  have fw12_b7_3 := blk_frozen K7g.out 3
  have cw12_b7_4 : w12.cell? ⟨b7, 4, none⟩ = some (.slice A4 ks.length c4) := (blk_cell K7g.out 4).trans rfl
  have fw12_b7_4 := blk_frozen K7g.out 4
  have cw12_b4_0 : w12.cell? ⟨b4, 0, none⟩ = some (.int .i64 deep) := (blk_cell K4g.out 0).trans rfl
  have fw12_b4_0 := blk_frozen K4g.out 0
  have cw12_b5_0 : w12.cell? ⟨b5, 0, none⟩ = some (.pointer (some ⟨g, 0, none⟩)) := (blk_cell K5g.out 0).trans rfl
  have fw12_b5_0 := blk_frozen K5g.out 0
  go_wp2_with fail
  all_goals (go_ret; have hn : ¬ nodeP ⟨5, n, s, l, ks⟩ := ?hn; rotate_left; (case hn => first | exact nodeN (by decide) (by decide) (fun h => hn' h.symm)); have hy := mayT_no (deep := deep) (left := left) d3 l3 hn; exact ⟨ret_bool (by rw [hv.out, hy]), by rw [hv.out, hy]; exact Lg.out⟩)

set_option maxHeartbeats 4000000 in
set_option maxRecDepth 100000 in
theorem may_5m (v : S25) (n : Int) (s : ByteArray) (l : List S25) (ks : List ByteArray) (hv : Hid (v = ⟨5, n, s, l, ks⟩)) (deep left : Int) (g : Nat) (A3 : Option Addr) (c3 : Nat) (A4 : Option Addr) (c4 : Nat) (w : World) (d1 : 1 ≤ deep) (d2 : deep ≤ 61) (l1 : 0 ≤ left) (l2 : left ≤ 20000) (hg : CountAt w g left) (d3 : deep ≤ 60) (l3 : 1 ≤ left) (hr3 : FA g w A3 l) (hc3 : l.length ≤ c3) (hr4 : FS g w A4 ks) (hc4 : ks.length ≤ c4) (ih : ∀ x ∈ l, MayOK x) (hn : (0 == n) = false) (hn' : ¬ (0 : Int) = n) (hl : ((l.length : Int) == (ks.length : Int)) = false) :
    Calls Tryz.prog 37 #[.agg #[.int .i64 5, .int .i64 n, .string s, .slice A3 l.length c3, .slice A4 ks.length c4], .int .i64 deep, .pointer (some ⟨g, 0, none⟩)] w fun e w' => e = .returned (.bool (mayT v deep left).1) ∧ Left w g (mayT v deep left).2 w' := by
  have z : g < w.heap.size := blk_lt hg
  have HG := Lib.hid hg; clear hg
  have hu := Tryz.underlying25
  have HR3 := Lib.hid hr3; clear hr3
  have HR4 := Lib.hid hr4; clear hr4
  have IH := Lib.hid ih; clear ih
  have l4 : ¬ left - 1 < 0 := by omega
  have d4 : ¬ 60 < deep := by omega
  go_enter Tryz.func37, Tryz.ntmps37

  go_wp2_with (first | ((with_reducible refine gate_dst (N := 3) rfl ?_); (refine box_event ?hg (N := 3) ?hd (cs := #[.int .i64 5, .int .i64 n, .string s, .slice A3 l.length c3, .slice A4 ks.length c4]) (t := 25) ?hr ?_; (case hd => rfl); (case hg => rfl); (case hr => first | (go_simp; done) | (go_simp; rfl)); intro b3 e3 w3 k3 m3; have z3 := Nat.le_of_eq e3.symm; clear e3; have K3 := Aside0.mk k3; have M3 := Aside0.mk m3; have G3 := Aside0.mk ((m3.block g (blk_lt HG.out)).trans HG.out); clear k3 m3)) | ((with_reducible refine gate_dst (N := 4) rfl ?_); (refine box_event ?hg (N := 4) ?hd (cs := #[.int .i64 deep]) (t := 3) ?hr ?_; (case hd => rfl); (case hg => rfl); (case hr => first | (go_simp; done) | (go_simp; rfl)); intro b4 e4 w4 k4 m4; have z4 := Nat.le_trans M3.out.size (Nat.le_of_eq e4.symm); clear e4; have K4 := Aside0.mk k4; have K3' := Aside0.mk (blk_below K3.out m4); have M4 := Aside0.mk (M3.out.trans (m4.mono M3.out.size)); have G4 := Aside0.mk ((m4.block g (blk_lt G3.out)).trans G3.out); clear k4 m4 K3 M3 G3)) | ((with_reducible refine gate_dst (N := 5) rfl ?_); (refine box_event ?hg (N := 5) ?hd (cs := #[.pointer (some ⟨g, 0, none⟩)]) (t := 46) ?hr ?_; (case hd => rfl); (case hg => rfl); (case hr => first | (go_simp; done) | (go_simp; rfl)); intro b5 e5 w5 k5 m5; have z5 := Nat.le_trans M4.out.size (Nat.le_of_eq e5.symm); clear e5; have K5 := Aside0.mk k5; have K4' := Aside0.mk (blk_below K4.out m5); have K3 := Aside0.mk (blk_below K3'.out m5); have M5 := Aside0.mk (M4.out.trans (m5.mono M4.out.size)); have G5 := Aside0.mk ((m5.block g (blk_lt G4.out)).trans G4.out); clear k5 m5 K3' K4 M4 G4; have N3 := Nat.ne_of_gt (Nat.lt_of_lt_of_le z z3); have N4 := Nat.ne_of_gt (Nat.lt_of_lt_of_le z z4); have N5 := Nat.ne_of_gt (Nat.lt_of_lt_of_le z z5); have cw5_b5_0 : w5.cell? ⟨b5, 0, none⟩ = some (.pointer (some ⟨g, 0, none⟩)) := (blk_cell K5.out 0).trans rfl; have fw5_b5_0 := blk_frozen K5.out 0; have cw5_g_0 : w5.cell? ⟨g, 0, none⟩ = some (.int .i64 left) := (blk_cell G5.out 0).trans rfl; have fw5_g_0 := blk_frozen G5.out 0; )) | ((with_reducible refine gate_store (t := 3) (p := 13) rfl ?_); (refine store_event (t := 3) (p := 13) (v := ?vo_w6) (w1 := w5.setCell ⟨g, 0, none⟩ (.int .i64 (left - 1))) ?hg ?ho ?hn ?hr ?_; (case ho => rfl); (case hg => rfl); (case hn => rfl); (case hr => first | (go_simp; done) | (go_simp; rfl)); intro w6 hw; have L6 := Aside0.mk (show Left w g (left - 1) w6 by rw [hw]; exact Left.from M5.out (Left.set G5.out (left - 1))); have h_ := blk_far (p := ⟨g, 0, none⟩) K3.out N3 (.int .i64 (left - 1)); rw [← hw] at h_; have K36 := Aside0.mk h_; clear h_; have h_ := blk_far (p := ⟨g, 0, none⟩) K4'.out N4 (.int .i64 (left - 1)); rw [← hw] at h_; have K46 := Aside0.mk h_; clear h_; have h_ := blk_far (p := ⟨g, 0, none⟩) K5.out N5 (.int .i64 (left - 1)); rw [← hw] at h_; have K56 := Aside0.mk h_; clear h_; have G6 := Aside0.mk L6.out.count; clear hw K3 K4' K5 G5 M5 cw5_b5_0 fw5_b5_0 cw5_g_0 fw5_g_0; have cw6_b3_0 : w6.cell? ⟨b3, 0, none⟩ = some (.int .i64 5) := (blk_cell K36.out 0).trans rfl; have fw6_b3_0 := blk_frozen K36.out 0; have cw6_b4_0 : w6.cell? ⟨b4, 0, none⟩ = some (.int .i64 deep) := (blk_cell K46.out 0).trans rfl; have fw6_b4_0 := blk_frozen K46.out 0; have cw6_b5_0 : w6.cell? ⟨b5, 0, none⟩ = some (.pointer (some ⟨g, 0, none⟩)) := (blk_cell K56.out 0).trans rfl; have fw6_b5_0 := blk_frozen K56.out 0; have cw6_g_0 : w6.cell? ⟨g, 0, none⟩ = some (.int .i64 (left - 1)) := (blk_cell G6.out 0).trans rfl; have fw6_g_0 := blk_frozen G6.out 0; )) | ((with_reducible refine gate_dst (N := 7) rfl ?_); (refine box_event ?hg (N := 7) ?hd (cs := #[.int .i64 0, .int .i64 0, .string ⟨#[]⟩, .slice none 0 0, .slice none 0 0]) (t := 25) ?hr ?_; (case hd => rfl); (case hg => rfl); (case hr => first | (go_simp; done) | (go_simp; rfl)); intro b7 e7 w7 k7 m7; have z7 := Nat.le_trans L6.out.size (Nat.le_of_eq e7.symm); have n37 : b3 ≠ b7 := Nat.ne_of_lt (Nat.lt_of_lt_of_eq (blk_lt K36.out) e7.symm); have n47 : b4 ≠ b7 := Nat.ne_of_lt (Nat.lt_of_lt_of_eq (blk_lt K46.out) e7.symm); have n57 : b5 ≠ b7 := Nat.ne_of_lt (Nat.lt_of_lt_of_eq (blk_lt K56.out) e7.symm); have n7g : g ≠ b7 := Nat.ne_of_lt (Nat.lt_of_lt_of_le z z7); clear e7; have K7 := Aside0.mk k7; have L7 := Aside0.mk (L6.out.below m7); have K37 := Aside0.mk (blk_below K36.out m7); have K47 := Aside0.mk (blk_below K46.out m7); have K57 := Aside0.mk (blk_below K56.out m7); clear k7 m7 L6 K36 K46 K56 G6 cw6_b3_0 fw6_b3_0 cw6_b4_0 fw6_b4_0 cw6_b5_0 fw6_b5_0 cw6_g_0 fw6_g_0; have cw7_b7_0 : w7.cell? ⟨b7, 0, none⟩ = some (.int .i64 0) := (blk_cell K7.out 0).trans rfl; have fw7_b7_0 := blk_frozen K7.out 0; have cw7_b7_1 : w7.cell? ⟨b7, 1, none⟩ = some (.int .i64 0) := (blk_cell K7.out 1).trans rfl; have fw7_b7_1 := blk_frozen K7.out 1; have cw7_b7_2 : w7.cell? ⟨b7, 2, none⟩ = some (.string ⟨#[]⟩) := (blk_cell K7.out 2).trans rfl; have fw7_b7_2 := blk_frozen K7.out 2; have cw7_b7_3 : w7.cell? ⟨b7, 3, none⟩ = some (.slice none 0 0) := (blk_cell K7.out 3).trans rfl; have fw7_b7_3 := blk_frozen K7.out 3; have cw7_b7_4 : w7.cell? ⟨b7, 4, none⟩ = some (.slice none 0 0) := (blk_cell K7.out 4).trans rfl; have fw7_b7_4 := blk_frozen K7.out 4; )) | ((with_reducible refine gate_store (t := 25) (p := 7) rfl ?_); (refine store_event (t := 25) (p := 7) (v := ?vo_w8) (w1 := (((((w7.setCell ⟨b7, 0, none⟩ (.int .i64 5)).setCell ⟨b7, 1, none⟩ (.int .i64 0)).setCell ⟨b7, 2, none⟩ (.string ⟨#[]⟩)).setCell ⟨b7, 3, none⟩ (.slice none 0 0)).setCell ⟨b7, 4, none⟩ (.slice none 0 0))) ?hg ?ho ?hn ?hr ?_; (case ho => rfl); (case hg => rfl); (case hn => rfl); (case hr => first | (go_simp; done) | (go_simp; rfl)); intro w8 hw; have K78 : Aside0 (w8.heap[b7]? = some (.cells #[.int .i64 5, .int .i64 0, .string ⟨#[]⟩, .slice none 0 0, .slice none 0 0] 25 (0, 0))) := ⟨by rw [hw]; simpa using blk_set (blk_set (blk_set (blk_set (blk_set K7.out 0 (.int .i64 5)) 1 (.int .i64 0)) 2 (.string ⟨#[]⟩)) 3 (.slice none 0 0)) 4 (.slice none 0 0)⟩; have h_ := (blk_far (p := ⟨b7, 4, none⟩) (blk_far (p := ⟨b7, 3, none⟩) (blk_far (p := ⟨b7, 2, none⟩) (blk_far (p := ⟨b7, 1, none⟩) (blk_far (p := ⟨b7, 0, none⟩) K37.out n37 (.int .i64 5)) n37 (.int .i64 0)) n37 (.string ⟨#[]⟩)) n37 (.slice none 0 0)) n37 (.slice none 0 0)); rw [← hw] at h_; have K38 := Aside0.mk h_; clear h_; have h_ := (blk_far (p := ⟨b7, 4, none⟩) (blk_far (p := ⟨b7, 3, none⟩) (blk_far (p := ⟨b7, 2, none⟩) (blk_far (p := ⟨b7, 1, none⟩) (blk_far (p := ⟨b7, 0, none⟩) K47.out n47 (.int .i64 5)) n47 (.int .i64 0)) n47 (.string ⟨#[]⟩)) n47 (.slice none 0 0)) n47 (.slice none 0 0)); rw [← hw] at h_; have K48 := Aside0.mk h_; clear h_; have h_ := (blk_far (p := ⟨b7, 4, none⟩) (blk_far (p := ⟨b7, 3, none⟩) (blk_far (p := ⟨b7, 2, none⟩) (blk_far (p := ⟨b7, 1, none⟩) (blk_far (p := ⟨b7, 0, none⟩) K57.out n57 (.int .i64 5)) n57 (.int .i64 0)) n57 (.string ⟨#[]⟩)) n57 (.slice none 0 0)) n57 (.slice none 0 0)); rw [← hw] at h_; have K58 := Aside0.mk h_; clear h_; have L8 : Aside0 (Left w g (left - 1) w8) := ⟨by rw [hw]; exact ((((L7.out.put z7 n7g _).put z7 n7g _).put z7 n7g _).put z7 n7g _).put z7 n7g _⟩; have G8 := Aside0.mk L8.out.count; clear hw K7 K37 K47 K57 L7 cw7_b7_0 fw7_b7_0 cw7_b7_1 fw7_b7_1 cw7_b7_2 fw7_b7_2 cw7_b7_3 fw7_b7_3 cw7_b7_4 fw7_b7_4; have cw8_b3_0 : w8.cell? ⟨b3, 0, none⟩ = some (.int .i64 5) := (blk_cell K38.out 0).trans rfl; have fw8_b3_0 := blk_frozen K38.out 0; have cw8_b3_1 : w8.cell? ⟨b3, 1, none⟩ = some (.int .i64 n) := (blk_cell K38.out 1).trans rfl; have fw8_b3_1 := blk_frozen K38.out 1; have cw8_b3_2 : w8.cell? ⟨b3, 2, none⟩ = some (.string s) := (blk_cell K38.out 2).trans rfl; have fw8_b3_2 := blk_frozen K38.out 2; have cw8_b3_3 : w8.cell? ⟨b3, 3, none⟩ = some (.slice A3 l.length c3) := (blk_cell K38.out 3).trans rfl; have fw8_b3_3 := blk_frozen K38.out 3; have cw8_b3_4 : w8.cell? ⟨b3, 4, none⟩ = some (.slice A4 ks.length c4) := (blk_cell K38.out 4).trans rfl; have fw8_b3_4 := blk_frozen K38.out 4; have cw8_b7_0 : w8.cell? ⟨b7, 0, none⟩ = some (.int .i64 5) := (blk_cell K78.out 0).trans rfl; have fw8_b7_0 := blk_frozen K78.out 0; have cw8_b7_1 : w8.cell? ⟨b7, 1, none⟩ = some (.int .i64 0) := (blk_cell K78.out 1).trans rfl; have fw8_b7_1 := blk_frozen K78.out 1; have cw8_b7_2 : w8.cell? ⟨b7, 2, none⟩ = some (.string ⟨#[]⟩) := (blk_cell K78.out 2).trans rfl; have fw8_b7_2 := blk_frozen K78.out 2; have cw8_b7_3 : w8.cell? ⟨b7, 3, none⟩ = some (.slice none 0 0) := (blk_cell K78.out 3).trans rfl; have fw8_b7_3 := blk_frozen K78.out 3; have cw8_b7_4 : w8.cell? ⟨b7, 4, none⟩ = some (.slice none 0 0) := (blk_cell K78.out 4).trans rfl; have fw8_b7_4 := blk_frozen K78.out 4; have cw8_b4_0 : w8.cell? ⟨b4, 0, none⟩ = some (.int .i64 deep) := (blk_cell K48.out 0).trans rfl; have fw8_b4_0 := blk_frozen K48.out 0; have cw8_b5_0 : w8.cell? ⟨b5, 0, none⟩ = some (.pointer (some ⟨g, 0, none⟩)) := (blk_cell K58.out 0).trans rfl; have fw8_b5_0 := blk_frozen K58.out 0; )))
  have K3d := Aside0.mk (blk_drew K38.out)
  have K4d := Aside0.mk (blk_drew K48.out)
  have K5d := Aside0.mk (blk_drew K58.out)
  have K7d := Aside0.mk (blk_drew K78.out)
  have Ld := Aside0.mk (Left.drew L8.out)
  refine start_ (n := 21) (S := fun w' => w'.cell? ⟨b3, 3, none⟩ = some (.slice A3 l.length c3) ∧ w'.cell? ⟨b3, 4, none⟩ = some (.slice A4 ks.length c4)) (ds := []) #[false, false, false, false, false, false, false, false, false, false, false, false, false, false, false, false, false, false, false, false, false] (by kernel_rfl) rfl rfl ⟨(blk_cell K3d.out 3).trans rfl, (blk_cell K3d.out 4).trans rfl⟩ (fun hHeld => ?_)
  clear cw8_b3_0 fw8_b3_0 cw8_b3_1 fw8_b3_1 cw8_b3_2 fw8_b3_2 cw8_b3_3 fw8_b3_3 cw8_b3_4 fw8_b3_4 cw8_b7_0 fw8_b7_0 cw8_b7_1 fw8_b7_1 cw8_b7_2 fw8_b7_2 cw8_b7_3 fw8_b7_3 cw8_b7_4 fw8_b7_4 cw8_b4_0 fw8_b4_0 cw8_b5_0 fw8_b5_0
  clear K38 K48 K58 K78 L8 G8
  generalize w8.drew = w9 at K3d K4d K5d K7d Ld hHeld ⊢
  refine pure_ (i := 0) (N := some 67) (v := ?_) (a' := ?_) #[true, false, false, false, false, false, false, false, false, false, false, false, false, false, false, false, false, false, false, false, false] rfl rfl (by kernel_rfl) (fun _ _ _ h => h) (Or.inl ⟨by rfl, ?_⟩) ?_ ?_
  rotate_left
  · intro w'
    go_simp
    with_reducible rfl
  rotate_left
  · simp only [Act.put, List.setIfInBounds_toArray, List.set_cons_zero, List.set_cons_succ, i64_w, i32_w]
    rfl
  refine pure_ (i := 2) (N := some 69) (v := ?_) (a' := ?_) #[true, false, true, false, false, false, false, false, false, false, false, false, false, false, false, false, false, false, false, false, false] rfl rfl (by kernel_rfl) (fun _ _ _ h => h) (Or.inl ⟨by rfl, ?_⟩) ?_ ?_
  rotate_left
  · intro w'
    go_simp
    with_reducible rfl
  rotate_left
  · simp only [Act.put, List.setIfInBounds_toArray, List.set_cons_zero, List.set_cons_succ, i64_w, i32_w]
    rfl
  refine pure_ (i := 4) (N := some 71) (v := ?_) (a' := ?_) #[true, false, true, false, true, false, false, false, false, false, false, false, false, false, false, false, false, false, false, false, false] rfl rfl (by kernel_rfl) (fun _ _ _ h => h) (Or.inl ⟨by rfl, ?_⟩) ?_ ?_
  rotate_left
  · intro w'
    go_simp
    with_reducible rfl
  rotate_left
  · simp only [Act.put, List.setIfInBounds_toArray, List.set_cons_zero, List.set_cons_succ, i64_w, i32_w]
    rfl
  refine pure_ (i := 7) (N := some 74) (v := ?_) (a' := ?_) #[true, false, true, false, true, false, false, true, false, false, false, false, false, false, false, false, false, false, false, false, false] rfl rfl (by kernel_rfl) (fun _ _ _ h => h) (Or.inl ⟨by rfl, ?_⟩) ?_ ?_
  rotate_left
  · intro w'
    go_simp
    with_reducible rfl
  rotate_left
  · simp only [Act.put, List.setIfInBounds_toArray, List.set_cons_zero, List.set_cons_succ, i64_w, i32_w]
    rfl
  refine take_ (i := 1) (N := some 68) (v := ?_) (a' := ?_) #[true, true, true, false, true, false, false, true, false, false, false, false, false, false, false, false, false, false, false, false, false] rfl rfl (by kernel_rfl) (fun _ _ _ h => h) (Or.inl ⟨by rfl, ?_⟩) hHeld ?_ ?_
  rotate_left
  · rintro w' ⟨s0, s1⟩
    go_simp
    with_reducible rfl
  rotate_left
  · simp only [Act.put, List.setIfInBounds_toArray, List.set_cons_zero, List.set_cons_succ, i64_w, i32_w]
    rfl
  refine take_ (i := 3) (N := some 70) (v := ?_) (a' := ?_) #[true, true, true, true, true, false, false, true, false, false, false, false, false, false, false, false, false, false, false, false, false] rfl rfl (by kernel_rfl) (fun _ _ _ h => h) (Or.inl ⟨by rfl, ?_⟩) hHeld ?_ ?_
  rotate_left
  · rintro w' ⟨s0, s1⟩
    go_simp
    with_reducible rfl
  rotate_left
  · simp only [Act.put, List.setIfInBounds_toArray, List.set_cons_zero, List.set_cons_succ, i64_w, i32_w]
    rfl
  refine take_ (i := 5) (N := some 72) (v := ?_) (a' := ?_) #[true, true, true, true, true, true, false, true, false, false, false, false, false, false, false, false, false, false, false, false, false] rfl rfl (by kernel_rfl) (fun _ _ _ h => h) (Or.inl ⟨by rfl, ?_⟩) hHeld ?_ ?_
  rotate_left
  · rintro w' ⟨s0, s1⟩
    go_simp
    with_reducible rfl
  rotate_left
  · simp only [Act.put, List.setIfInBounds_toArray, List.set_cons_zero, List.set_cons_succ, i64_w, i32_w]
    rfl
  refine take_ (i := 8) (N := some 75) (v := ?_) (a' := ?_) #[true, true, true, true, true, true, false, true, true, false, false, false, false, false, false, false, false, false, false, false, false] rfl rfl (by kernel_rfl) (fun _ _ _ h => h) (Or.inl ⟨by rfl, ?_⟩) hHeld ?_ ?_
  rotate_left
  · rintro w' ⟨s0, s1⟩
    go_simp
    with_reducible rfl
  rotate_left
  · simp only [Act.put, List.setIfInBounds_toArray, List.set_cons_zero, List.set_cons_succ, i64_w, i32_w]
    rfl
  refine pure_ (i := 6) (N := some 73) (v := ?_) (a' := ?_) #[true, true, true, true, true, true, true, true, true, false, false, false, false, false, false, false, false, false, false, false, false] rfl rfl (by kernel_rfl) (fun _ _ _ h => h) (Or.inl ⟨by rfl, ?_⟩) ?_ ?_
  rotate_left
  · intro w'
    go_simp
    with_reducible rfl
  rotate_left
  · simp only [Act.put, List.setIfInBounds_toArray, List.set_cons_zero, List.set_cons_succ, i64_w, i32_w]
    rfl
  refine pure_ (i := 9) (N := some 76) (v := ?_) (a' := ?_) #[true, true, true, true, true, true, true, true, true, true, false, false, false, false, false, false, false, false, false, false, false] rfl rfl (by kernel_rfl) (fun _ _ _ h => h) (Or.inl ⟨by rfl, ?_⟩) ?_ ?_
  rotate_left
  · intro w'
    go_simp
    with_reducible rfl
  rotate_left
  · simp only [Act.put, List.setIfInBounds_toArray, List.set_cons_zero, List.set_cons_succ, i64_w, i32_w]
    rfl
  refine pure_ (i := 10) (N := some 77) (v := ?_) (a' := ?_) #[true, true, true, true, true, true, true, true, true, true, true, false, false, false, false, false, false, false, false, false, false] rfl rfl (by kernel_rfl) (fun _ _ _ h => h) (Or.inl ⟨by rfl, ?_⟩) ?_ ?_
  rotate_left
  · intro w'
    go_simp
    with_reducible rfl
  rotate_left
  · simp only [Act.put, List.setIfInBounds_toArray, List.set_cons_zero, List.set_cons_succ, i64_w, i32_w]
    rfl
  refine pure_ (i := 11) (N := some 78) (v := ?_) (a' := ?_) #[true, true, true, true, true, true, true, true, true, true, true, true, false, false, false, false, false, false, false, false, false] rfl rfl (by kernel_rfl) (fun _ _ _ h => h) (Or.inl ⟨by rfl, ?_⟩) ?_ ?_
  rotate_left
  · intro w'
    go_simp
    with_reducible rfl
  rotate_left
  · simp only [Act.put, List.setIfInBounds_toArray, List.set_cons_zero, List.set_cons_succ, i64_w, i32_w]
    rfl
  refine pure_ (i := 12) (N := some 79) (v := undef) (a' := ?_) #[true, true, true, true, true, true, true, true, true, true, true, true, true, false, false, false, false, false, false, false, false] rfl rfl (by kernel_rfl) (fun _ _ _ h => h) (Or.inr ⟨by rfl, rfl⟩) ?_ ?_
  rotate_left
  · simp only [Act.put, List.setIfInBounds_toArray, List.set_cons_zero, List.set_cons_succ, i64_w, i32_w]
    rfl
  refine pure_ (i := 13) (N := some 80) (v := undef) (a' := ?_) #[true, true, true, true, true, true, true, true, true, true, true, true, true, true, false, false, false, false, false, false, false] rfl rfl (by kernel_rfl) (fun _ _ _ h => h) (Or.inr ⟨by rfl, rfl⟩) ?_ ?_
  rotate_left
  · simp only [Act.put, List.setIfInBounds_toArray, List.set_cons_zero, List.set_cons_succ, i64_w, i32_w]
    rfl
  refine pure_ (i := 16) (N := some 83) (v := ?_) (a' := ?_) #[true, true, true, true, true, true, true, true, true, true, true, true, true, true, false, false, true, false, false, false, false] rfl rfl (by kernel_rfl) (fun _ _ _ h => h) (Or.inl ⟨by rfl, ?_⟩) ?_ ?_
  rotate_left
  · intro w'
    go_simp
    with_reducible rfl
  rotate_left
  · simp only [Act.put, List.setIfInBounds_toArray, List.set_cons_zero, List.set_cons_succ, i64_w, i32_w]
    rfl
  refine pure_ (i := 14) (N := some 81) (v := undef) (a' := ?_) #[true, true, true, true, true, true, true, true, true, true, true, true, true, true, true, false, true, false, false, false, false] rfl rfl (by kernel_rfl) (fun _ _ _ h => h) (Or.inr ⟨by rfl, rfl⟩) ?_ ?_
  rotate_left
  · simp only [Act.put, List.setIfInBounds_toArray, List.set_cons_zero, List.set_cons_succ, i64_w, i32_w]
    rfl
  refine pure_ (i := 15) (N := some 82) (v := ?_) (a' := ?_) #[true, true, true, true, true, true, true, true, true, true, true, true, true, true, true, true, true, false, false, false, false] rfl rfl (by kernel_rfl) (fun _ _ _ h => h) (Or.inl ⟨by rfl, ?_⟩) ?_ ?_
  rotate_left
  · intro w'
    go_simp
    with_reducible rfl
  rotate_left
  · simp only [Act.put, List.setIfInBounds_toArray, List.set_cons_zero, List.set_cons_succ, i64_w, i32_w]
    rfl
  have cs_ : w9.cell? ⟨b7, 3, none⟩ = some (.slice none 0 0) := (blk_cell K7d.out 3).trans rfl
  have fs_ := blk_frozen K7d.out 3
  refine one_ (i := 17) (N := none) #[true, true, true, true, true, true, true, true, true, true, true, true, true, true, true, true, true, true, false, false, false] rfl rfl (by kernel_rfl) (by decide) (fun K hK => ?_)
  refine skip_ (w1 := ?_) (by rfl) rfl ?_ ?_
  rotate_left
  · go_simp
    rfl
  clear cs_ fs_
  have K3f := Aside0.mk (blk_far (p := ⟨b7, 3, none⟩) K3d.out n37 (.slice A3 l.length c3))
  have K4f := Aside0.mk (blk_far (p := ⟨b7, 3, none⟩) K4d.out n47 (.slice A3 l.length c3))
  have K5f := Aside0.mk (blk_far (p := ⟨b7, 3, none⟩) K5d.out n57 (.slice A3 l.length c3))
  have K7f := Aside0.mk (show (w9.setCell ⟨b7, 3, none⟩ (.slice A3 l.length c3)).heap[b7]? = some (.cells #[.int .i64 5, .int .i64 0, .string ⟨#[]⟩, .slice A3 l.length c3, .slice none 0 0] 25 (0, 0)) by simpa using blk_set K7d.out 3 (.slice A3 l.length c3))
  have Lf := Aside0.mk ((Ld.out).put (b := b7) (i := 3) z7 n7g (.slice A3 l.length c3))
  refine hK.out _ _ ⟨(blk_cell K3f.out 3).trans rfl, (blk_cell K3f.out 4).trans rfl⟩ (fun hHeld => ?_)
  clear hK K K3d K4d K5d K7d Ld
  generalize w9.setCell ⟨b7, 3, none⟩ (.slice A3 l.length c3) = w11 at K3f K4f K5f K7f Lf hHeld ⊢
  refine pure_ (i := 18) (N := some 84) (v := ?_) (a' := ?_) #[true, true, true, true, true, true, true, true, true, true, true, true, true, true, true, true, true, true, true, false, false] rfl rfl (by kernel_rfl) (fun _ _ _ h => h) (Or.inl ⟨by rfl, ?_⟩) ?_ ?_
  rotate_left
  · intro w'
    go_simp
    with_reducible rfl
  rotate_left
  · simp only [Act.put, List.setIfInBounds_toArray, List.set_cons_zero, List.set_cons_succ, i64_w, i32_w]
    rfl
  have cs_ : w11.cell? ⟨b7, 4, none⟩ = some (.slice none 0 0) := (blk_cell K7f.out 4).trans rfl
  have fs_ := blk_frozen K7f.out 4
  refine one_ (i := 19) (N := none) #[true, true, true, true, true, true, true, true, true, true, true, true, true, true, true, true, true, true, true, true, false] rfl rfl (by kernel_rfl) (by decide) (fun K hK => ?_)
  refine skip_ (w1 := ?_) (by rfl) rfl ?_ ?_
  rotate_left
  · go_simp
    rfl
  clear cs_ fs_
  have K3g := Aside0.mk (blk_far (p := ⟨b7, 4, none⟩) K3f.out n37 (.slice A4 ks.length c4))
  have K4g := Aside0.mk (blk_far (p := ⟨b7, 4, none⟩) K4f.out n47 (.slice A4 ks.length c4))
  have K5g := Aside0.mk (blk_far (p := ⟨b7, 4, none⟩) K5f.out n57 (.slice A4 ks.length c4))
  have K7g := Aside0.mk (show (w11.setCell ⟨b7, 4, none⟩ (.slice A4 ks.length c4)).heap[b7]? = some (.cells #[.int .i64 5, .int .i64 0, .string ⟨#[]⟩, .slice A3 l.length c3, .slice A4 ks.length c4] 25 (0, 0)) by simpa using blk_set K7f.out 4 (.slice A4 ks.length c4))
  have Lg := Aside0.mk (Lf.out.put (b := b7) (i := 4) z7 n7g (.slice A4 ks.length c4))
  refine hK.out _ _ ⟨(blk_cell K3g.out 3).trans rfl, (blk_cell K3g.out 4).trans rfl⟩ (fun hHeld => ?_)
  clear hK K K3f K4f K5f K7f Lf
  generalize w11.setCell ⟨b7, 4, none⟩ (.slice A4 ks.length c4) = w12 at K3g K4g K5g K7g Lg hHeld ⊢
  refine pure_ (i := 20) (N := some 8) (v := ?_) (a' := ?_) #[true, true, true, true, true, true, true, true, true, true, true, true, true, true, true, true, true, true, true, true, true] rfl rfl (by kernel_rfl) (fun _ _ _ h => h) (Or.inl ⟨by rfl, ?_⟩) ?_ ?_
  rotate_left
  · intro w'
    go_simp
    with_reducible rfl
  rotate_left
  · simp only [Act.put, List.setIfInBounds_toArray, List.set_cons_zero, List.set_cons_succ, i64_w, i32_w]
    rfl
  refine done_ (by kernel_rfl) ?_
  clear hHeld
  have cw12_b3_0 : w12.cell? ⟨b3, 0, none⟩ = some (.int .i64 5) := (blk_cell K3g.out 0).trans rfl
  have fw12_b3_0 := blk_frozen K3g.out 0
  have cw12_b3_1 : w12.cell? ⟨b3, 1, none⟩ = some (.int .i64 n) := (blk_cell K3g.out 1).trans rfl
  have fw12_b3_1 := blk_frozen K3g.out 1
  have cw12_b3_2 : w12.cell? ⟨b3, 2, none⟩ = some (.string s) := (blk_cell K3g.out 2).trans rfl
  have fw12_b3_2 := blk_frozen K3g.out 2
  have cw12_b3_3 : w12.cell? ⟨b3, 3, none⟩ = some (.slice A3 l.length c3) := (blk_cell K3g.out 3).trans rfl
  have fw12_b3_3 := blk_frozen K3g.out 3
  have cw12_b3_4 : w12.cell? ⟨b3, 4, none⟩ = some (.slice A4 ks.length c4) := (blk_cell K3g.out 4).trans rfl
  have fw12_b3_4 := blk_frozen K3g.out 4
  have cw12_b7_0 : w12.cell? ⟨b7, 0, none⟩ = some (.int .i64 5) := (blk_cell K7g.out 0).trans rfl
  have fw12_b7_0 := blk_frozen K7g.out 0
  have cw12_b7_1 : w12.cell? ⟨b7, 1, none⟩ = some (.int .i64 0) := (blk_cell K7g.out 1).trans rfl
  have fw12_b7_1 := blk_frozen K7g.out 1
  have cw12_b7_2 : w12.cell? ⟨b7, 2, none⟩ = some (.string ⟨#[]⟩) := (blk_cell K7g.out 2).trans rfl
  have fw12_b7_2 := blk_frozen K7g.out 2
  have cw12_b7_3 : w12.cell? ⟨b7, 3, none⟩ = some (.slice A3 l.length c3) := (blk_cell K7g.out 3).trans rfl
  have fw12_b7_3 := blk_frozen K7g.out 3
  have cw12_b7_4 : w12.cell? ⟨b7, 4, none⟩ = some (.slice A4 ks.length c4) := (blk_cell K7g.out 4).trans rfl
  have fw12_b7_4 := blk_frozen K7g.out 4
  have cw12_b4_0 : w12.cell? ⟨b4, 0, none⟩ = some (.int .i64 deep) := (blk_cell K4g.out 0).trans rfl
  have fw12_b4_0 := blk_frozen K4g.out 0
  have cw12_b5_0 : w12.cell? ⟨b5, 0, none⟩ = some (.pointer (some ⟨g, 0, none⟩)) := (blk_cell K5g.out 0).trans rfl
  have fw12_b5_0 := blk_frozen K5g.out 0
  go_wp2_with fail
  all_goals (go_ret; have hn : ¬ nodeP ⟨5, n, s, l, ks⟩ := ?hn; rotate_left; (case hn => first | exact nodeN (by decide) (by decide) (fun h => hn' h.symm)); have hy := mayT_no (deep := deep) (left := left) d3 l3 hn; exact ⟨ret_bool (by rw [hv.out, hy]), by rw [hv.out, hy]; exact Lg.out⟩)

end Go.Proofs.YtegppacnkfeaoaaGreatDoor.G

/- value's may and Check on any value. Conditions: each contract's own. -/
namespace Go.Proofs.YtegppacnkfeaoaaGreatDoor.G
open Go.RowKit Go.Gw Go.Proofs.YtegppacnkfeaoaaGreatDoorW.PrintWords
set_option linter.unusedVariables false
set_option linter.unusedSimpArgs false

theorem heapV : Kd.Heap k25 := Kd.heap_fix (fun _ h_ => Kd.heap_iso _ (Kd.heap_pair (Kd.heap_int .i64) (Kd.heap_pair (Kd.heap_int .i64) (Kd.heap_pair Kd.heap_string (Kd.heap_pair (Kd.heap_slice 25 h_) (Kd.heap_slice 9 Kd.heap_string))))))
theorem may_ok : ∀ v : S25, MayOK v := by
  refine tree_ind (P := MayOK) ?_
  intro v ih
  obtain ⟨kd, n, s, l, ks⟩ := v
  intro deep left g A3 c3 A4 c4 w d1 d2 l1 l2 hg h3 n3 h4 n4
  simp only at ih h3 n3 h4 n4 ⊢
  by_cases hs : 60 < deep ∨ left - 1 < 0
  · have e : mayT (⟨kd, n, s, l, ks⟩ : S25) deep left = (false, left - 1) := by rw [mayT_eq, if_pos hs]
    rw [e]
    exact may_stop kd n s l ks deep left g A3 c3 A4 c4 w d1 d2 l1 l2 hg hs
  · have d3 : deep ≤ 60 := by omega
    have l3 : 1 ≤ left := by omega
    have bn : ∀ {a b : Int}, ¬ a = b → (a == b) = false := fun h => beq_eq_false_iff_ne.2 h
    by_cases k0 : kd = 0
    · subst k0
      by_cases hn : n = 0
      · subst hn
        exact may_0 _ s l ks (Lib.hid rfl) deep left g A3 c3 A4 c4 w d1 d2 l1 l2 hg d3 l3 h3 n3 h4 n4 ih
      · exact may_0n _ n s l ks (Lib.hid rfl) deep left g A3 c3 A4 c4 w d1 d2 l1 l2 hg d3 l3 h3 n3 h4 n4 ih (bn (fun h => hn h.symm)) (fun h => hn h.symm)
    by_cases k1 : kd = 1
    · subst k1
      by_cases hn : n = 0
      · exact may_1a _ n s l ks (Lib.hid rfl) deep left g A3 c3 A4 c4 w d1 d2 l1 l2 hg d3 l3 h3 n3 h4 n4 ih (Lib.hid hn) (beq_iff_eq.2 hn)
      · by_cases hn1 : n = 1
        · exact may_1b _ n s l ks (Lib.hid rfl) deep left g A3 c3 A4 c4 w d1 d2 l1 l2 hg d3 l3 h3 n3 h4 n4 ih (Lib.hid hn1) (bn hn) (beq_iff_eq.2 hn1)
        · exact may_1c _ n s l ks (Lib.hid rfl) deep left g A3 c3 A4 c4 w d1 d2 l1 l2 hg d3 l3 h3 n3 h4 n4 ih (bn hn) (bn hn1)
    by_cases k2 : kd = 2
    · subst k2
      exact may_2 _ n s l ks (Lib.hid rfl) deep left g A3 c3 A4 c4 w d1 d2 l1 l2 hg d3 l3 h3 n3 h4 n4 ih
    by_cases k3 : kd = 3
    · subst k3
      by_cases hn : n = 0
      · subst hn
        exact may_3 _ s l ks (Lib.hid rfl) deep left g A3 c3 A4 c4 w d1 d2 l1 l2 hg d3 l3 h3 n3 h4 n4 ih
      · exact may_3n _ n s l ks (Lib.hid rfl) deep left g A3 c3 A4 c4 w d1 d2 l1 l2 hg d3 l3 h3 n3 h4 n4 ih (bn (fun h => hn h.symm)) (fun h => hn h.symm)
    by_cases k4 : kd = 4
    · subst k4
      by_cases hn : n = 0
      · subst hn
        exact may_4 _ s l ks (Lib.hid rfl) deep left g A3 c3 A4 c4 w d1 d2 l1 l2 hg d3 l3 h3 n3 h4 n4 ih
      · exact may_4n _ n s l ks (Lib.hid rfl) deep left g A3 c3 A4 c4 w d1 d2 l1 l2 hg d3 l3 h3 n3 h4 n4 ih (bn (fun h => hn h.symm)) (fun h => hn h.symm)
    by_cases k5 : kd = 5
    · subst k5
      by_cases hl : (l.length : Int) = (ks.length : Int)
      · by_cases hn : n = 0
        · subst hn
          exact may_5a _ s l ks (Lib.hid rfl) deep left g A3 c3 A4 c4 w d1 d2 l1 l2 hg d3 l3 h3 n3 h4 n4 ih (beq_iff_eq.2 hl)
        · exact may_5n _ n s l ks (Lib.hid rfl) deep left g A3 c3 A4 c4 w d1 d2 l1 l2 hg d3 l3 h3 n3 h4 n4 ih (bn (fun h => hn h.symm)) (fun h => hn h.symm) (beq_iff_eq.2 hl)
      · by_cases hn : n = 0
        · subst hn
          exact may_5b _ s l ks (Lib.hid rfl) deep left g A3 c3 A4 c4 w d1 d2 l1 l2 hg d3 l3 h3 n3 h4 n4 ih (bn hl)
        · exact may_5m _ n s l ks (Lib.hid rfl) deep left g A3 c3 A4 c4 w d1 d2 l1 l2 hg d3 l3 h3 n3 h4 n4 ih (bn (fun h => hn h.symm)) (fun h => hn h.symm) (bn hl)
    exact may_x _ kd n s l ks (Lib.hid rfl) deep left g A3 c3 A4 c4 w d1 d2 l1 l2 hg d3 l3 h3 n3 h4 n4 ih (bn k0) (bn k1) (bn k2) (bn k3) (bn k4) (bn k5)

set_option maxHeartbeats 1000000 in
set_option maxRecDepth 100000 in
theorem check_calls (v : S25) (A3 : Option Addr) (c3 : Nat) (A4 : Option Addr) (c4 : Nat) (w : World) (hr3 : Kd.C k25 w A3 v.f3.length v.f3) (hc3 : v.f3.length ≤ c3) (hr4 : Kd.C Kd.string w A4 v.f4.length v.f4) (hc4 : v.f4.length ≤ c4) :
    Calls Tryz.prog 22 #[.agg #[.int .i64 v.f0, .int .i64 v.f1, .string v.f2, .slice A3 v.f3.length c3, .slice A4 v.f4.length c4]] w fun e w' => e = .returned (.bool (checkT v)) ∧ Below w.heap.size w w' := by
  have H3 := Lib.hid (Kd.C_F heapV hr3); clear hr3
  have H4 := Lib.hid (Kd.C_F Kd.heap_string hr4); clear hr4
  have hu := Tryz.underlying25
  go_enter Tryz.func22, Tryz.ntmps22
  go_wp2_with fail
  have b1 : Below w.heap.size w ((w.alloc (.cells #[.int .i64 v.f0, .int .i64 v.f1, .string v.f2, .slice A3 v.f3.length c3, .slice A4 v.f4.length c4] 25)).alloc (.cells #[.int .i64 20000] 3)) := ((Below.refl _ _).alloc (Nat.le_refl _) _).alloc (by simp) _
  have B1 := Lib.hid b1; clear b1
  have hg : CountAt ((w.alloc (.cells #[.int .i64 v.f0, .int .i64 v.f1, .string v.f2, .slice A3 v.f3.length c3, .slice A4 v.f4.length c4] 25)).alloc (.cells #[.int .i64 20000] 3)) (w.heap.size + 1) 20000 := by
    have := blk_new (w.alloc (.cells #[.int .i64 v.f0, .int .i64 v.f1, .string v.f2, .slice A3 v.f3.length c3, .slice A4 v.f4.length c4] 25)) (.cells #[.int .i64 20000] 3)
    simpa [CountAt] using this
  have HG := Lib.hid hg; clear hg
  refine (may_ok v 1 20000 (w.heap.size + 1) A3 c3 A4 c4 _ (by omega) (by omega) (by omega) (by omega) HG.out (Kd.F_mono (Kd.F_below H3.out B1.out) (fun k hk => Nat.ne_of_lt (by omega))) hc3 (Kd.F_mono (Kd.F_below H4.out B1.out) (fun k hk => Nat.ne_of_lt (by omega))) hc4).mono ?_
  rintro e w1 ⟨rfl, hl⟩
  have HL := Lib.hid hl; clear hl
  go_wp2
  go_ret
  have hl := HL.out
  refine ⟨rfl, ?_, ?_, ?_, ?_, ?_⟩
  · exact hl.os.trans B1.out.os
  · exact hl.tape.trans B1.out.tape
  · exact hl.output.trans B1.out.output
  · exact Nat.le_trans B1.out.size hl.size
  · intro k hk
    exact (hl.block k (Nat.lt_of_lt_of_le hk B1.out.size) (by omega)).trans (B1.out.block k hk)
end Go.Proofs.YtegppacnkfeaoaaGreatDoor.G

/- value's functions that the print does not take, in the print's form: each a Lean function with its contract. Conditions: each contract's own; 'Gl': the library's table and errors as they were laid; what a function value does, of values that are not too great. -/
namespace Go.Proofs.YtegppacnkfeaoaaGreatDoor.G
open Go.RowKit Go.Gw Go.Proofs.YtegppacnkfeaoaaGreatDoorW.PrintWords
set_option linter.unusedVariables false
set_option linter.unusedSimpArgs false
variable [Inhabited Bound]

noncomputable def value_all.f (l0 : List S25) (a1 : Nat) : Option (List ByteArray) :=
  open Classical in
  if l0.length ≤ 1000000 then
    if a1 = 23 then (if ∀ x ∈ l0, SizeOf.sizeOf x < bnd ∧ mayText x then some (l0.map textT) else none)
    else if a1 = 30 then (if ∀ x ∈ l0, SizeOf.sizeOf x < bnd ∧ mayRow x then some (l0.map rowT) else none)
    else none
  else none
theorem value_all.calls (A0 : Option Addr) (c0 : Nat) (l0 : List S25) (a1 : Nat) (r : List ByteArray) (w : World) (hgl : Gl w) (hr0 : Kd.C k25 w A0 l0.length l0) (hc0 : l0.length ≤ c0) (h : value_all.f l0 a1 = some r) :
    Calls Tryz.prog 41 #[.slice A0 l0.length c0, .func (.func a1) #[] #[]] w fun e w' => ∃ v_ : Value, e = .returned v_ ∧ Kd.R Kd.string 9 w' w.heap.size (fun _ => True) v_ r ∧ Below w.heap.size w w' := by
  unfold value_all.f at h
  split at h
  · rename_i hl
    split at h
    · rename_i ha
      subst ha
      split at h
      · rename_i hx
        cases h
        exact all_calls 23 textT (enters_of Tryz.func23 (by kernel_rfl) rfl) l0 hl (fun x hx' => hgl.text x (hx x hx').1 (hx x hx').2) w hgl.gt A0 c0 hr0 hc0
      · cases h
    · split at h
      · rename_i ha
        subst ha
        split at h
        · rename_i hx
          cases h
          exact all_calls 30 rowT (enters_of Tryz.func30 (by kernel_rfl) rfl) l0 hl (fun x hx' => hgl.row x (hx x hx').1 (hx x hx').2) w hgl.gt A0 c0 hr0 hc0
        · cases h
      · cases h
  · cases h

noncomputable def api_Value.f (l0 l1 : List S25) (a2 : Nat) : Option Bool :=
  open Classical in
  if a2 = 13 then (if ∀ x ∈ l0, SizeOf.sizeOf x < bnd then some (sameTs l0 l1) else none) else none
theorem api_Value.calls (A0 : Option Addr) (c0 : Nat) (l0 : List S25) (A1 : Option Addr) (c1 : Nat) (l1 : List S25) (a2 : Nat) (r : Bool) (w : World) (hgl : Gl w) (hr0 : Kd.C k25 w A0 l0.length l0) (hc0 : l0.length ≤ c0) (hr1 : Kd.C k25 w A1 l1.length l1) (hc1 : l1.length ≤ c1) (h : api_Value.f l0 l1 a2 = some r) :
    Calls Tryz.prog 26 #[.slice A0 l0.length c0, .slice A1 l1.length c1, .func (.func a2) #[] #[]] w fun e w' => e = .returned (.bool r) ∧ Below w.heap.size w w' := by
  unfold api_Value.f at h
  split at h
  · rename_i ha
    subst ha
    split at h
    · rename_i hx
      cases h
      exact equal_calls 13 (enters_of Tryz.func13 (by kernel_rfl) rfl) l0 l1 (fun x hx' y => hgl.same x y (hx x hx')) w hgl.gt A0 c0 A1 c1 hr0 hc0 hr1 hc1
    · cases h
  · cases h

noncomputable def value_Check.f (a0_0 a0_1 : Int) (a0_2 : ByteArray) (l0_3 : List S25) (l0_4 : List ByteArray) : Option Bool := some (checkT ⟨a0_0, a0_1, a0_2, l0_3, l0_4⟩)
theorem value_Check.calls (a0_0 a0_1 : Int) (a0_2 : ByteArray) (A0_3 : Option Addr) (c0_3 : Nat) (l0_3 : List S25) (A0_4 : Option Addr) (c0_4 : Nat) (l0_4 : List ByteArray) (r : Bool) (w : World) (hr0_3 : Kd.C k25 w A0_3 l0_3.length l0_3) (hc0_3 : l0_3.length ≤ c0_3) (hr0_4 : Kd.C Kd.string w A0_4 l0_4.length l0_4) (hc0_4 : l0_4.length ≤ c0_4) (h : value_Check.f a0_0 a0_1 a0_2 l0_3 l0_4 = some r) :
    Calls Tryz.prog 22 #[.agg #[.int .i64 a0_0, .int .i64 a0_1, .string a0_2, .slice A0_3 l0_3.length c0_3, .slice A0_4 l0_4.length c0_4]] w fun e w' => e = .returned (.bool r) ∧ Below w.heap.size w w' := by
  cases h
  exact check_calls ⟨a0_0, a0_1, a0_2, l0_3, l0_4⟩ A0_3 c0_3 A0_4 c0_4 w hr0_3 hc0_3 hr0_4 hc0_4

def lex_Quote.f (a0 : ByteArray) : Option ByteArray := if a0.size ≤ 1000000 then some (quoteS a0) else none
theorem lex_Quote.calls (a0 : ByteArray) (r : ByteArray) (w : World) (h : lex_Quote.f a0 = some r) :
    Calls Tryz.prog 39 #[.string a0] w fun e w' => e = .returned (.string r) ∧ Below w.heap.size w w' := by
  unfold lex_Quote.f at h
  split at h
  · rename_i hs
    cases h
    exact Quote_calls a0 hs w
  · cases h
def bloomeryref09_Quote.f (a0 : ByteArray) : Option ByteArray := if a0.size ≤ 1000000 then some (quoteS a0) else none
theorem bloomeryref09_Quote.calls (a0 : ByteArray) (r : ByteArray) (w : World) (h : bloomeryref09_Quote.f a0 = some r) :
    Calls Tryz.prog 43 #[.string a0] w fun e w' => e = .returned (.string r) ∧ Below w.heap.size w w' := by
  unfold bloomeryref09_Quote.f at h
  split at h
  · rename_i hs
    cases h
    exact RefQuote_calls a0 hs w
  · cases h

def strings_Join.f (l0 : List ByteArray) (a1 : ByteArray) : Option ByteArray := if l0.length ≤ 1000000 ∧ (joinS l0 a1).size ≤ 10000000 then some (joinS l0 a1) else none
theorem strings_Join.calls (A0 : Option Addr) (c0 : Nat) (l0 : List ByteArray) (a1 : ByteArray) (r : ByteArray) (w : World) (hr0 : Kd.C Kd.string w A0 l0.length l0) (hc0 : l0.length ≤ c0) (h : strings_Join.f l0 a1 = some r) :
    Calls Tryz.prog 40 #[.slice A0 l0.length c0, .string a1] w fun e w' => e = .returned (.string r) ∧ Below w.heap.size w w' := by
  unfold strings_Join.f at h
  split at h
  · rename_i hs
    cases h
    exact Join_calls l0 a1 w A0 c0 hr0 hc0 hs.1 hs.2
  · cases h

noncomputable def pack_Num.f (a0 : Int) : Option ByteArray := open Classical in if Pk.inRange a0 then some (numS a0) else none
theorem pack_Num.calls (a0 : Int) (r : ByteArray) (w : World) (hgl : Gl w) (h : pack_Num.f a0 = some r) :
    Calls Tryz.prog 38 #[.int .i64 a0] w fun e w' => e = .returned (.string r) ∧ Below w.heap.size w w' := by
  unfold pack_Num.f at h
  split at h
  · rename_i hs
    cases h
    exact Num_calls a0 hs w hgl.gt.tab
  · cases h
noncomputable def bloomeryref01_Num.f (a0 : Int) : Option ByteArray := open Classical in if Pk.inRange a0 then some (numS a0) else none
theorem bloomeryref01_Num.calls (a0 : Int) (r : ByteArray) (w : World) (h : bloomeryref01_Num.f a0 = some r) :
    Calls Tryz.prog 42 #[.int .i64 a0] w fun e w' => e = .returned (.string r) ∧ Below w.heap.size w w' := by
  unfold bloomeryref01_Num.f at h
  split at h
  · rename_i hs
    cases h
    exact RNum_calls _ a0 rfl hs w
  · cases h
def pack_Row.f (l0 : List ByteArray) : Option ByteArray := if Pk.bulk (raws l0) ≤ 1000000 then some (rowS l0) else none
theorem pack_Row.calls (A0 : Option Addr) (c0 : Nat) (l0 : List ByteArray) (r : ByteArray) (w : World) (hgl : Gl w) (hr0 : Kd.C Kd.string w A0 l0.length l0) (hc0 : l0.length ≤ c0) (h : pack_Row.f l0 = some r) :
    Calls Tryz.prog 45 #[.slice A0 l0.length c0] w fun e w' => e = .returned (.string r) ∧ Below w.heap.size w w' := by
  unfold pack_Row.f at h
  split at h
  · rename_i hs
    cases h
    exact Row_calls l0 w hgl.gt.tab A0 c0 hr0 hs
  · cases h
def bloomeryref01_Row.f (l0 : List ByteArray) : Option ByteArray := if Pk.bulk (raws l0) ≤ 1000000 then some (rowS l0) else none
def pack_Texts.f (a0 : ByteArray) : Option (List ByteArray × Int) := if a0.size ≤ 1000000 then some (textsL (Pk.texts a0.data.toList), textsE (Pk.texts a0.data.toList)) else none
def bloomeryref01_Texts.f (a0 : ByteArray) : Option (List ByteArray × Int) := if a0.size ≤ 1000000 then some (textsL (Pk.texts a0.data.toList), textsE (Pk.texts a0.data.toList)) else none
def pack_Int.f (a0 : ByteArray) : Option (Int × Bool) := if a0.size ≤ 1000000 ∧ bnde = true then some ((Pk.int a0.data.toList).getD 0, (Pk.int a0.data.toList).isSome) else none
end Go.Proofs.YtegppacnkfeaoaaGreatDoor.G

/- Go functions as Lean functions, each with its contract: written by a program of mine over the kit's print. Conditions: each contract's own. -/
namespace Go.Proofs.YtegppacnkfeaoaaGreatDoor.G
open Go.RowKit Go.Proofs.YtegppacnkfeaoaaGreatDoorW.PrintWords Go.Proofs.YtegppacnkfeaoaaGreatDoorW.PrintLast Go.Proofs.YtegppacnkfeaoaaGreatDoorW.PrintMore
attribute [local go_sem] max2_int min2_int max_two min_two max_three min_three max_four min_four   -- for this text's walks alone
set_option linter.unusedVariables false
set_option linter.unusedSimpArgs false
noncomputable section
variable [Inhabited Bound]

/-! ### bloomeryref11_count: function 20 -/
mutual
def bloomeryref11_count.l0 : Nat → Int → Int → Int → Int → Int → Int → ByteArray → List (S25) → List ByteArray → Option (Int)
 | 0, _, _, _, _, _, _, _, _, _ => none
 | k + 1, x1, x5, x9, x10, x102000, x102001, x102002, x102003, x102004 => if x10 < x9 then (if x5 > x1 then (some x5) else (if 0 ≤ x10 then (if x10 < (x102003.length : Int) then ((bloomeryref11_count.f k ((rd_T25 x102003 x10).f0) ((rd_T25 x102003 x10).f1) ((rd_T25 x102003 x10).f2) ((rd_T25 x102003 x10).f3) ((rd_T25 x102003 x10).f4) x1).bind fun t103 => (bloomeryref11_count.l0 k x1 (wrap64 (x5 + t103)) x9 (wrap64 (x10 + 1)) x102000 x102001 x102002 x102003 x102004)) else (none)) else (none))) else (some x5)
def bloomeryref11_count.f : Nat → Int → Int → ByteArray → List (S25) → List ByteArray → Int → Option (Int)
 | 0, _, _, _, _, _, _ => none
 | k + 1, a0_0, a0_1, a0_2, l0_3, l0_4, a1 => bloomeryref11_count.l0 k a1 1 (l0_3.length : Int) 0 a0_0 a0_1 a0_2 l0_3 l0_4
end
set_option maxHeartbeats 8000000 in
set_option maxRecDepth 100000 in
theorem bloomeryref11_count.calls (k : Nat) : ∀ (a0_0 : Int) (a0_1 : Int) (a0_2 : ByteArray) (A0_3 : Option Addr) (c0_3 : Nat) (l0_3 : List (S25)) (A0_4 : Option Addr) (c0_4 : Nat) (l0_4 : List ByteArray) (a1 : Int) (r : Int) (w : World) (hr0_3 : Kd.C k25 w A0_3 l0_3.length l0_3) (hc0_3 : l0_3.length ≤ c0_3) (hr0_4 : Kd.C Kd.string w A0_4 l0_4.length l0_4) (hc0_4 : l0_4.length ≤ c0_4) (h : bloomeryref11_count.f k a0_0 a0_1 a0_2 l0_3 l0_4 a1 = some r),
  Calls Tryz.prog 20 #[.agg #[.int .i64 a0_0, .int .i64 a0_1, .string a0_2, .slice A0_3 l0_3.length c0_3, .slice A0_4 l0_4.length c0_4], .int .i64 a1] w fun e w' => e = .returned (.int .i64 r) ∧ Below w.heap.size w w' := by
 induction k using Nat.strongRecOn with
 | _ k ih =>
 intro a0_0 a0_1 a0_2 A0_3 c0_3 l0_3 A0_4 c0_4 l0_4 a1 r w hr0_3 hc0_3 hr0_4 hc0_4 h
 cases k with
 | zero => exact absurd h (by simp [bloomeryref11_count.f])
 | succ k =>
 simp only [bloomeryref11_count.f] at h
 have hu25 := Tryz.underlying25
 have HR0_3 := Aside0.mk hr0_3
 have HC0_3 := Aside0.mk hc0_3
 clear hr0_3 hc0_3
 have HR0_4 := Aside0.mk hr0_4
 have HC0_4 := Aside0.mk hc0_4
 clear hr0_4 hc0_4
 have HB := Aside0.mk (Below.refl w.heap.size w)
 have H : (bloomeryref11_count.l0 k a1 1 (l0_3.length : Int) 0 a0_0 a0_1 a0_2 l0_3 l0_4) = some r := h
 clear h
 have H' := Aside0.mk H
 clear H
 go_enter Tryz.func20, Tryz.ntmps20
 go_wp2_with (first | ((with_reducible refine gate_dst (N := 2) rfl ?_); refine box_event ?hg (N := 2) ?hd (cs := #[.int .i64 a0_0, .int .i64 a0_1, .string a0_2, .slice A0_3 l0_3.length c0_3, .slice A0_4 l0_4.length c0_4]) (t := 25) ?hr ?_; (case hd => rfl); (case hg => rfl); (case hr => first | (go_simp; done) | (go_simp; rfl)); intro gb101 hg w3 hbox hb; have n0_ := Aside0.mk (below_step (by repeat (first | (with_reducible first | exact HB.out | apply below_alloc | apply pw_below_drewN | apply below_drew1) | exact HB.out)) hb); have n1_ := Aside0.mk (hbox); have n2_ := Aside0.mk ((by rw [hg]; exact (below_size (by repeat (first | (with_reducible first | exact HB.out | apply below_alloc | apply pw_below_drewN | apply below_drew1) | exact HB.out))) : w.heap.size ≤ gb101)); have n3_ := Aside0.mk ((by rw [hg]; exact (below_size (by repeat (first | (with_reducible first | exact HB.out | apply below_alloc | apply pw_below_drewN | apply below_drew1) | exact HB.out))) : w.heap.size ≤ gb101)); clear HB; have HB := n0_; have BK101 := n1_; have GW101 := n2_; have GE101 := n3_; clear n0_ n1_ n2_ n3_; clear hb hbox hg; have hcz4_0 : w3.cell? ⟨gb101, 0, none⟩ = some (.int .i64 a0_0) := (blk_cell BK101.out 0).trans rfl; have hcz4_1 : w3.cell? ⟨gb101, 1, none⟩ = some (.int .i64 a0_1) := (blk_cell BK101.out 1).trans rfl; have hcz4_2 : w3.cell? ⟨gb101, 2, none⟩ = some (.string a0_2) := (blk_cell BK101.out 2).trans rfl; have hcz4_3 : w3.cell? ⟨gb101, 3, none⟩ = some (.slice A0_3 l0_3.length c0_3) := (blk_cell BK101.out 3).trans rfl; have hcz4_4 : w3.cell? ⟨gb101, 4, none⟩ = some (.slice A0_4 l0_4.length c0_4) := (blk_cell BK101.out 4).trans rfl; have hfz4_0 := blk_frozen BK101.out 0; have hfz4_1 := blk_frozen BK101.out 1; have hfz4_2 := blk_frozen BK101.out 2; have hfz4_3 := blk_frozen BK101.out 3; have hfz4_4 := blk_frozen BK101.out 4))
 go_loopg [5, 10] k (fun kq v5 v10 w' => ∃ (x5_1 : Int) (x10_1 : Int), v5 = .int .i64 x5_1 ∧ v10 = .int .i64 x10_1 ∧ Aside0 (bloomeryref11_count.l0 kq a1 x5_1 (l0_3.length : Int) x10_1 a0_0 a0_1 a0_2 l0_3 l0_4 = some r) ∧ Aside0 (kq ≤ k) ∧ Aside0 (w'.heap[gb101]? = some (.cells #[.int .i64 a0_0, .int .i64 a0_1, .string a0_2, (.slice A0_3 l0_3.length c0_3), (.slice A0_4 l0_4.length c0_4)] 25 (0, 0))) ∧ Aside0 (Below w.heap.size w w'))
 case atStart => exact ⟨(1), (0), (by first | rfl | (simp; done) | (simp [*]; done)), (by first | rfl | (simp; done) | (simp [*]; done)), (by first | exact H' | (subst_vars; exact H')), ⟨Nat.le_refl _⟩, ⟨by (with_reducible repeat (first | refine blk_drewN ?_ _ | refine blk_drew ?_ | refine blk_alloc ?_ _)); exact BK101.out⟩, ⟨by repeat (first | (with_reducible first | exact HB.out | apply below_alloc | apply pw_below_drewN | apply below_drew1 | refine below_set ?_ GE101.out) | exact HB.out)⟩⟩
 case round =>
  clear H'
  try clear c2
  try clear p2
  try clear hcz4_0
  try clear hcz4_1
  try clear hcz4_2
  try clear hcz4_3
  try clear hcz4_4
  try clear hfz4_0
  try clear hfz4_1
  try clear hfz4_2
  try clear hfz4_3
  try clear hfz4_4
  obtain ⟨x5_1, x10_1, rfl, rfl, HA, HK1, BK101, HB⟩ := hrel
  cases gk with
  | zero => exact absurd HA.out (by simp [bloomeryref11_count.l0])
  | succ k1 =>
   have H := HA.out
   clear HA
   simp only [bloomeryref11_count.l0] at H
   by_cases c5 : x10_1 < (l0_3.length : Int)
   ·rw [if_pos c5] at H
    have c5b0 : decide (x10_1 < (l0_3.length : Int)) = true := decide_eq_true c5
    clear c5
    by_cases c6 : x5_1 > a1
    ·rw [if_pos c6] at H
     have c6b0 : decide (a1 < x5_1) = true := decide_eq_true c6
     clear c6
     obtain rfl := Option.some.inj H
     go_wp2
     go_ret
     exact ⟨by first | rfl | (simp [errW_none, errW_some] <;> rfl) | (simp [*, errW_none, errW_some] <;> rfl), by repeat (first | (with_reducible first | exact HB.out | apply below_alloc | apply pw_below_drewN | apply below_drew1 | refine below_set ?_ GE101.out) | exact HB.out)⟩
    ·rw [if_neg c6] at H
     have c6b0 : decide (a1 < x5_1) = false := decide_eq_false c6
     clear c6
     by_cases c7 : 0 ≤ x10_1
     ·rw [if_pos c7] at H
      have c7b0 : decide (0 ≤ x10_1) = true := decide_eq_true c7
      clear c7
      by_cases c8 : x10_1 < (l0_3.length : Int)
      ·rw [if_pos c8] at H
       have c8b0 : decide (x10_1 < (l0_3.length : Int)) = true := decide_eq_true c8
       clear c8
       replace H := Option.bind_eq_some_iff.mp H
       obtain ⟨t103, A90, H⟩ := H
       replace H : (bloomeryref11_count.l0 k1 a1 (wrap64 (x5_1 + t103)) (l0_3.length : Int) (wrap64 (x10_1 + 1)) a0_0 a0_1 a0_2 l0_3 l0_4) = some r := H
       have A9 := Aside0.mk A90
       clear A90
       have H' := Aside0.mk H
       clear H
       have hcz10_0 : wr.cell? ⟨gb101, 0, none⟩ = some (.int .i64 a0_0) := (blk_cell BK101.out 0).trans rfl
       have hcz10_1 : wr.cell? ⟨gb101, 1, none⟩ = some (.int .i64 a0_1) := (blk_cell BK101.out 1).trans rfl
       have hcz10_2 : wr.cell? ⟨gb101, 2, none⟩ = some (.string a0_2) := (blk_cell BK101.out 2).trans rfl
       have hcz10_3 : wr.cell? ⟨gb101, 3, none⟩ = some (.slice A0_3 l0_3.length c0_3) := (blk_cell BK101.out 3).trans rfl
       have hcz10_4 : wr.cell? ⟨gb101, 4, none⟩ = some (.slice A0_4 l0_4.length c0_4) := (blk_cell BK101.out 4).trans rfl
       have hfz10_0 := blk_frozen BK101.out 0
       have hfz10_1 := blk_frozen BK101.out 1
       have hfz10_2 := blk_frozen BK101.out 2
       have hfz10_3 := blk_frozen BK101.out 3
       have hfz10_4 := blk_frozen BK101.out 4
       have p102 : 0 ≤ (x10_1 : Int) := of_decide_eq_true (by first | (with_reducible assumption) | assumption)
       have q102 : x10_1 < (l0_3.length : Int) := of_decide_eq_true (by first | (with_reducible assumption) | assumption)
       obtain ⟨ad102, A102_3, c102_3, A102_4, c102_4, e102, hx102_0, hx102_1, hx102_2, hx102_3, hx102_4, hl102_3, hi102_3, hl102_4, hi102_4⟩ := at_T25 HR0_3.out x10_1 p102 q102
       cases e102
       replace hx102_0 := (HB.out.cell (World.block_lt_of_cell? w _ hx102_0)).trans hx102_0
       replace hx102_1 := (HB.out.cell (World.block_lt_of_cell? w _ hx102_1)).trans hx102_1
       replace hx102_2 := (HB.out.cell (World.block_lt_of_cell? w _ hx102_2)).trans hx102_2
       replace hx102_3 := (HB.out.cell (World.block_lt_of_cell? w _ hx102_3)).trans hx102_3
       replace hx102_4 := (HB.out.cell (World.block_lt_of_cell? w _ hx102_4)).trans hx102_4
       have HR102_3 := Aside0.mk hi102_3
       have HC102_3 := Aside0.mk hl102_3
       clear hi102_3 hl102_3
       have HR102_4 := Aside0.mk hi102_4
       have HC102_4 := Aside0.mk hl102_4
       clear hi102_4 hl102_4
       replace p102 := eq_true p102
       replace q102 := eq_true q102
       go_wp2_with (first | ((with_reducible refine gate_callee (f := 20) rfl ?_); refine goesL_ (some 24) rfl rfl Tryz.func20 (by kernel_rfl) rfl #[.agg #[.int .i64 ((rd_T25 l0_3 x10_1).f0), .int .i64 ((rd_T25 l0_3 x10_1).f1), .string ((rd_T25 l0_3 x10_1).f2), .slice A102_3 ((rd_T25 l0_3 x10_1).f3).length c102_3, .slice A102_4 ((rd_T25 l0_3 x10_1).f4).length c102_4], .int .i64 a1] rfl (by (try simp only [List.map_toArray, List.map_cons, List.map_nil]); first | done | rfl | (simp only [List.length_drop, List.length_take]; rfl)) ?_; (with_reducible refine (ih k1 (by have := HK1.out; omega) ((rd_T25 l0_3 x10_1).f0) ((rd_T25 l0_3 x10_1).f1) ((rd_T25 l0_3 x10_1).f2) _ _ ((rd_T25 l0_3 x10_1).f3) _ _ ((rd_T25 l0_3 x10_1).f4) a1 t103 _ ?side1 ?side2 ?side3 ?side4 A9.out).mono ?_); (case side1 => repeat (first | exact (Kd.C_below HR102_3.out HB.out) | (with_reducible refine Kd.C_alloc ?_ _) | (with_reducible refine Kd.C_drewN ?_ _) | (with_reducible refine Kd.C_drew ?_))); (case side2 => exact HC102_3.out); (case side3 => repeat (first | exact (Kd.C_below HR102_4.out HB.out) | (with_reducible refine Kd.C_alloc ?_ _) | (with_reducible refine Kd.C_drewN ?_ _) | (with_reducible refine Kd.C_drew ?_))); (case side4 => exact HC102_4.out); rintro e w11 ⟨rfl, hb⟩; refine ⟨_, rfl, ?_⟩; have n0_ := Aside0.mk (blk_below (g := gb101) (o := .cells #[.int .i64 a0_0, .int .i64 a0_1, .string a0_2, .slice (some ad102) l0_3.length c0_3, .slice A0_4 l0_4.length c0_4] 25 (0, 0)) (by (with_reducible repeat (first | refine blk_drewN ?_ _ | refine blk_drew ?_ | refine blk_alloc ?_ _)); exact BK101.out) hb); have n1_ := Aside0.mk (below_step (by repeat (first | (with_reducible first | exact HB.out | apply below_alloc | apply pw_below_drewN | apply below_drew1 | refine below_set ?_ GE101.out) | exact HB.out)) hb); clear BK101; clear HB; have BK101 := n0_; have HB := n1_; clear n0_ n1_; (try clear hb); (try clear hb2); (try clear hk); (try clear hi)))
       go_roundg k1
       case measure => have := HK1.out; omega
       case rel => exact ⟨(wrap64 (x5_1 + t103)), (wrap64 (x10_1 + 1)), (by first | rfl | (simp; done) | (simp [*]; done)), (by first | rfl | (simp; done) | (simp [*]; done)), (by first | exact H' | (subst_vars; exact H')), ⟨by have := HK1.out; omega⟩, ⟨by (with_reducible repeat (first | refine blk_drewN ?_ _ | refine blk_drew ?_ | refine blk_alloc ?_ _)); exact BK101.out⟩, ⟨by repeat (first | (with_reducible first | exact HB.out | apply below_alloc | apply pw_below_drewN | apply below_drew1 | refine below_set ?_ GE101.out) | exact HB.out)⟩⟩
      ·rw [if_neg c8] at H
       exact absurd H (by simp)
     ·rw [if_neg c7] at H
      exact absurd H (by simp)
   ·rw [if_neg c5] at H
    have c5b0 : decide (x10_1 < (l0_3.length : Int)) = false := decide_eq_false c5
    clear c5
    obtain rfl := Option.some.inj H
    go_wp2
    go_ret
    exact ⟨by first | rfl | (simp [errW_none, errW_some] <;> rfl) | (simp [*, errW_none, errW_some] <;> rfl), by repeat (first | (with_reducible first | exact HB.out | apply below_alloc | apply pw_below_drewN | apply below_drew1 | refine below_set ?_ GE101.out) | exact HB.out)⟩

end
end Go.Proofs.YtegppacnkfeaoaaGreatDoor.G
