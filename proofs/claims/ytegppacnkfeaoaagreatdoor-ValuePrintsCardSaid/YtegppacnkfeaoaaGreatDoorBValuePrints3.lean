/- Texts towards the law ValuePrints, one behind the other: each begins with its own sentence. Conditions: each theorem's own. -/
import Derived.Test.YtegppacnkfeaoaaGreatDoorBValuePrints1
import Derived.Test.YtegppacnkfeaoaaGreatDoorBValuePrints0
import Derived.Test.YtegppacnkfeaoaaGreatDoorBValuePrints2
set_option linter.unusedSectionVars false
set_option linter.unusedVariables false
set_option linter.unusedSimpArgs false
/- Go functions as Lean functions, each with its contract: written by a program of mine over the kit's print. Conditions: each contract's own. -/
namespace Go.Proofs.YtegppacnkfeaoaaGreatDoor.G
open Go.RowKit Go.Proofs.YtegppacnkfeaoaaGreatDoorW.PrintWords Go.Proofs.YtegppacnkfeaoaaGreatDoorW.PrintLast Go.Proofs.YtegppacnkfeaoaaGreatDoorW.PrintMore
attribute [local go_sem] max2_int min2_int max_two min_two max_three min_three max_four min_four   -- for this text's walks alone
set_option linter.unusedVariables false
set_option linter.unusedSimpArgs false
noncomputable section
variable [Inhabited Bound]

/-! ### value_text: function 23 -/
mutual
def value_text.l0 : Nat → List ByteArray → List ByteArray → Int → Int → Option (ByteArray)
 | 0, _, _, _, _ => none
 | k + 1, x3, x37, x38, x39 => if x39 < x38 then (if 0 ≤ x39 then (if x39 < (x37.length : Int) then ((lex_Quote.f (rdOf ByteArray.empty x37 x39)).bind fun t122 => (if t122.size + 2 ≤ 9223372036854775807 then (if x39 < (x3.length : Int) then (if (t122 ++ (⟨#[58, 32]⟩ : ByteArray)).size + (rdOf ByteArray.empty x3 x39).size ≤ 9223372036854775807 then (value_text.l0 k (x3.set (x39 : Int).toNat ((t122 ++ (⟨#[58, 32]⟩ : ByteArray)) ++ (rdOf ByteArray.empty x3 x39))) x37 x38 (wrap64 (x39 + 1))) else (none)) else (none)) else (none))) else (none)) else (none)) else ((strings_Join.f x3 (⟨#[44, 32]⟩ : ByteArray)).bind fun t125 => (if 1 + t125.size ≤ 9223372036854775807 then (if ((⟨#[123]⟩ : ByteArray) ++ t125).size + 1 ≤ 9223372036854775807 then (some (((⟨#[123]⟩ : ByteArray) ++ t125) ++ (⟨#[125]⟩ : ByteArray))) else (none)) else (none)))
def value_text.f : Nat → Int → Int → ByteArray → List (S25) → List ByteArray → Option (ByteArray)
 | 0, _, _, _, _, _ => none
 | k + 1, a0_0, a0_1, a0_2, l0_3, l0_4 => if a0_0 = 1 then (if a0_1 = 1 then (some (⟨#[116, 114, 117, 101]⟩ : ByteArray)) else (some (⟨#[102, 97, 108, 115, 101]⟩ : ByteArray))) else (if a0_0 = 2 then ((pack_Num.f a0_1).bind fun t112 => (some t112)) else (if a0_0 = 3 then ((lex_Quote.f a0_2).bind fun t113 => (some t113)) else (if a0_0 = 4 then ((value_all.f l0_3 23).bind fun t114 => ((strings_Join.f t114 (⟨#[44, 32]⟩ : ByteArray)).bind fun t117 => (if 1 + t117.size ≤ 9223372036854775807 then (if ((⟨#[91]⟩ : ByteArray) ++ t117).size + 1 ≤ 9223372036854775807 then (some (((⟨#[91]⟩ : ByteArray) ++ t117) ++ (⟨#[93]⟩ : ByteArray))) else (none)) else (none)))) else (if a0_0 = 5 then ((value_all.f l0_3 23).bind fun t118 => (value_text.l0 k t118 l0_4 (l0_4.length : Int) 0)) else (some (⟨#[110, 111, 110, 101]⟩ : ByteArray))))))
end
def value_text.T17 : Bool × List (List Nat × List Nat) := (true, [([], []), ([], []), ([], []), ([2], [2]), ([3], [3]), ([], []), ([], []), ([5, 6], [5, 6]), ([7], [7]), ([4, 8], [4, 8]), ([0, 1, 0, 1, 2, 3, 4, 5, 6, 7, 8, 9], [0, 1]), ([10, 9, 3, 0, 1, 2, 3, 4, 5, 6, 7, 8, 9], [9, 10])])
def value_text.B17 : List Nat := [0, 0, 0, 4, 12, 0, 0, 96, 224, 508, 1023, 2047]
theorem value_text.tab17 : rtab .any (opsOf Tryz.f23 17) = value_text.T17 := by kernel_rfl
theorem value_text.bits17 : waitsOk value_text.T17.2 value_text.B17 = true := by kernel_rfl
set_option maxHeartbeats 8000000 in
set_option maxRecDepth 100000 in
theorem value_text.calls (k : Nat) : ∀ (a0_0 : Int) (a0_1 : Int) (a0_2 : ByteArray) (A0_3 : Option Addr) (c0_3 : Nat) (l0_3 : List (S25)) (A0_4 : Option Addr) (c0_4 : Nat) (l0_4 : List ByteArray) (r : ByteArray) (w : World) (hgl : Gl w) (hr0_3 : Kd.C k25 w A0_3 l0_3.length l0_3) (hc0_3 : l0_3.length ≤ c0_3) (hr0_4 : Kd.C Kd.string w A0_4 l0_4.length l0_4) (hc0_4 : l0_4.length ≤ c0_4) (h : value_text.f k a0_0 a0_1 a0_2 l0_3 l0_4 = some r),
  Calls Tryz.prog 23 #[.agg #[.int .i64 a0_0, .int .i64 a0_1, .string a0_2, .slice A0_3 l0_3.length c0_3, .slice A0_4 l0_4.length c0_4]] w fun e w' => e = .returned (.string r) ∧ Below w.heap.size w w' := by
 induction k using Nat.strongRecOn with
 | _ k ih =>
 intro a0_0 a0_1 a0_2 A0_3 c0_3 l0_3 A0_4 c0_4 l0_4 r w hgl hr0_3 hc0_3 hr0_4 hc0_4 h
 cases k with
 | zero => exact absurd h (by simp [value_text.f])
 | succ k =>
 simp only [value_text.f] at h
 have HGL := Aside0.mk hgl
 clear hgl
 have hu25 := Tryz.underlying25
 have HR0_3 := Aside0.mk hr0_3
 have HC0_3 := Aside0.mk hc0_3
 clear hr0_3 hc0_3
 have HR0_4 := Aside0.mk hr0_4
 have HC0_4 := Aside0.mk hc0_4
 clear hr0_4 hc0_4
 have HB := Aside0.mk (Below.refl w.heap.size w)
 have H : (if a0_0 = 1 then (if a0_1 = 1 then (some (⟨#[116, 114, 117, 101]⟩ : ByteArray)) else (some (⟨#[102, 97, 108, 115, 101]⟩ : ByteArray))) else (if a0_0 = 2 then ((pack_Num.f a0_1).bind fun t112 => (some t112)) else (if a0_0 = 3 then ((lex_Quote.f a0_2).bind fun t113 => (some t113)) else (if a0_0 = 4 then ((value_all.f l0_3 23).bind fun t114 => ((strings_Join.f t114 (⟨#[44, 32]⟩ : ByteArray)).bind fun t117 => (if 1 + t117.size ≤ 9223372036854775807 then (if ((⟨#[91]⟩ : ByteArray) ++ t117).size + 1 ≤ 9223372036854775807 then (some (((⟨#[91]⟩ : ByteArray) ++ t117) ++ (⟨#[93]⟩ : ByteArray))) else (none)) else (none)))) else (if a0_0 = 5 then ((value_all.f l0_3 23).bind fun t118 => (value_text.l0 k t118 l0_4 (l0_4.length : Int) 0)) else (some (⟨#[110, 111, 110, 101]⟩ : ByteArray))))))) = some r := h
 clear h
 by_cases c2 : a0_0 = 1
 ·rw [if_pos c2] at H
  have c2b0 : (a0_0 == 1) = true := beq_iff_eq.mpr c2
  have c2b1 : (a0_0 != 1) = false := bne_eq_false_iff_eq.mpr c2
  clear c2
  by_cases c3 : a0_1 = 1
  ·rw [if_pos c3] at H
   have c3b0 : (a0_1 == 1) = true := beq_iff_eq.mpr c3
   have c3b1 : (a0_1 != 1) = false := bne_eq_false_iff_eq.mpr c3
   clear c3
   obtain rfl := Option.some.inj H
   go_enter Tryz.func23, Tryz.ntmps23
   go_wp2_with (first | ((with_reducible refine gate_dst (N := 1) rfl ?_); refine box_event ?hg (N := 1) ?hd (cs := #[.int .i64 a0_0, .int .i64 a0_1, .string a0_2, .slice A0_3 l0_3.length c0_3, .slice A0_4 l0_4.length c0_4]) (t := 25) ?hr ?_; (case hd => rfl); (case hg => rfl); (case hr => first | (go_simp; done) | (go_simp; rfl)); intro gb111 hg w4 hbox hb; have n0_ := Aside0.mk (below_step (by repeat (first | (with_reducible first | exact HB.out | apply below_alloc | apply pw_below_drewN | apply below_drew1) | exact HB.out)) hb); have n1_ := Aside0.mk (hbox); have n2_ := Aside0.mk ((by rw [hg]; exact (below_size (by repeat (first | (with_reducible first | exact HB.out | apply below_alloc | apply pw_below_drewN | apply below_drew1) | exact HB.out))) : w.heap.size ≤ gb111)); have n3_ := Aside0.mk ((by rw [hg]; exact (below_size (by repeat (first | (with_reducible first | exact HB.out | apply below_alloc | apply pw_below_drewN | apply below_drew1) | exact HB.out))) : w.heap.size ≤ gb111)); clear HB; have HB := n0_; have BK111 := n1_; have GW111 := n2_; have GE111 := n3_; clear n0_ n1_ n2_ n3_; clear hb hbox hg; have hcz5_0 : w4.cell? ⟨gb111, 0, none⟩ = some (.int .i64 a0_0) := (blk_cell BK111.out 0).trans rfl; have hcz5_1 : w4.cell? ⟨gb111, 1, none⟩ = some (.int .i64 a0_1) := (blk_cell BK111.out 1).trans rfl; have hcz5_2 : w4.cell? ⟨gb111, 2, none⟩ = some (.string a0_2) := (blk_cell BK111.out 2).trans rfl; have hcz5_3 : w4.cell? ⟨gb111, 3, none⟩ = some (.slice A0_3 l0_3.length c0_3) := (blk_cell BK111.out 3).trans rfl; have hcz5_4 : w4.cell? ⟨gb111, 4, none⟩ = some (.slice A0_4 l0_4.length c0_4) := (blk_cell BK111.out 4).trans rfl; have hfz5_0 := blk_frozen BK111.out 0; have hfz5_1 := blk_frozen BK111.out 1; have hfz5_2 := blk_frozen BK111.out 2; have hfz5_3 := blk_frozen BK111.out 3; have hfz5_4 := blk_frozen BK111.out 4))
   go_ret
   exact ⟨by first | rfl | (simp [errW_none, errW_some] <;> rfl) | (simp [*, errW_none, errW_some] <;> rfl), by repeat (first | (with_reducible first | exact HB.out | apply below_alloc | apply pw_below_drewN | apply below_drew1 | refine below_set ?_ GE111.out) | exact HB.out)⟩
  ·rw [if_neg c3] at H
   have c3b0 : (a0_1 == 1) = false := beq_eq_false_iff_ne.mpr c3
   have c3b1 : (a0_1 != 1) = true := bne_iff_ne.mpr c3
   obtain rfl := Option.some.inj H
   go_enter Tryz.func23, Tryz.ntmps23
   go_wp2_with (first | ((with_reducible refine gate_dst (N := 1) rfl ?_); refine box_event ?hg (N := 1) ?hd (cs := #[.int .i64 a0_0, .int .i64 a0_1, .string a0_2, .slice A0_3 l0_3.length c0_3, .slice A0_4 l0_4.length c0_4]) (t := 25) ?hr ?_; (case hd => rfl); (case hg => rfl); (case hr => first | (go_simp; done) | (go_simp; rfl)); intro gb111 hg w6 hbox hb; have n0_ := Aside0.mk (below_step (by repeat (first | (with_reducible first | exact HB.out | apply below_alloc | apply pw_below_drewN | apply below_drew1) | exact HB.out)) hb); have n1_ := Aside0.mk (hbox); have n2_ := Aside0.mk ((by rw [hg]; exact (below_size (by repeat (first | (with_reducible first | exact HB.out | apply below_alloc | apply pw_below_drewN | apply below_drew1) | exact HB.out))) : w.heap.size ≤ gb111)); have n3_ := Aside0.mk ((by rw [hg]; exact (below_size (by repeat (first | (with_reducible first | exact HB.out | apply below_alloc | apply pw_below_drewN | apply below_drew1) | exact HB.out))) : w.heap.size ≤ gb111)); clear HB; have HB := n0_; have BK111 := n1_; have GW111 := n2_; have GE111 := n3_; clear n0_ n1_ n2_ n3_; clear hb hbox hg; have hcz7_0 : w6.cell? ⟨gb111, 0, none⟩ = some (.int .i64 a0_0) := (blk_cell BK111.out 0).trans rfl; have hcz7_1 : w6.cell? ⟨gb111, 1, none⟩ = some (.int .i64 a0_1) := (blk_cell BK111.out 1).trans rfl; have hcz7_2 : w6.cell? ⟨gb111, 2, none⟩ = some (.string a0_2) := (blk_cell BK111.out 2).trans rfl; have hcz7_3 : w6.cell? ⟨gb111, 3, none⟩ = some (.slice A0_3 l0_3.length c0_3) := (blk_cell BK111.out 3).trans rfl; have hcz7_4 : w6.cell? ⟨gb111, 4, none⟩ = some (.slice A0_4 l0_4.length c0_4) := (blk_cell BK111.out 4).trans rfl; have hfz7_0 := blk_frozen BK111.out 0; have hfz7_1 := blk_frozen BK111.out 1; have hfz7_2 := blk_frozen BK111.out 2; have hfz7_3 := blk_frozen BK111.out 3; have hfz7_4 := blk_frozen BK111.out 4))
   go_ret
   exact ⟨by first | rfl | (simp [errW_none, errW_some] <;> rfl) | (simp [*, errW_none, errW_some] <;> rfl), by repeat (first | (with_reducible first | exact HB.out | apply below_alloc | apply pw_below_drewN | apply below_drew1 | refine below_set ?_ GE111.out) | exact HB.out)⟩
 ·rw [if_neg c2] at H
  have c2b0 : (a0_0 == 1) = false := beq_eq_false_iff_ne.mpr c2
  have c2b1 : (a0_0 != 1) = true := bne_iff_ne.mpr c2
  by_cases c8 : a0_0 = 2
  ·rw [if_pos c8] at H
   have c8b0 : (a0_0 == 2) = true := beq_iff_eq.mpr c8
   have c8b1 : (a0_0 != 2) = false := bne_eq_false_iff_eq.mpr c8
   clear c8
   replace H := Option.bind_eq_some_iff.mp H
   obtain ⟨t112, A90, H⟩ := H
   replace H : (some t112) = some r := H
   have A9 := Aside0.mk A90
   clear A90
   obtain rfl := Option.some.inj H
   go_enter Tryz.func23, Tryz.ntmps23
   go_wp2_with (first | ((with_reducible refine gate_dst (N := 1) rfl ?_); refine box_event ?hg (N := 1) ?hd (cs := #[.int .i64 a0_0, .int .i64 a0_1, .string a0_2, .slice A0_3 l0_3.length c0_3, .slice A0_4 l0_4.length c0_4]) (t := 25) ?hr ?_; (case hd => rfl); (case hg => rfl); (case hr => first | (go_simp; done) | (go_simp; rfl)); intro gb111 hg w10 hbox hb; have n0_ := Aside0.mk (below_step (by repeat (first | (with_reducible first | exact HB.out | apply below_alloc | apply pw_below_drewN | apply below_drew1) | exact HB.out)) hb); have n1_ := Aside0.mk (hbox); have n2_ := Aside0.mk ((by rw [hg]; exact (below_size (by repeat (first | (with_reducible first | exact HB.out | apply below_alloc | apply pw_below_drewN | apply below_drew1) | exact HB.out))) : w.heap.size ≤ gb111)); have n3_ := Aside0.mk ((by rw [hg]; exact (below_size (by repeat (first | (with_reducible first | exact HB.out | apply below_alloc | apply pw_below_drewN | apply below_drew1) | exact HB.out))) : w.heap.size ≤ gb111)); clear HB; have HB := n0_; have BK111 := n1_; have GW111 := n2_; have GE111 := n3_; clear n0_ n1_ n2_ n3_; clear hb hbox hg; have hcz11_0 : w10.cell? ⟨gb111, 0, none⟩ = some (.int .i64 a0_0) := (blk_cell BK111.out 0).trans rfl; have hcz11_1 : w10.cell? ⟨gb111, 1, none⟩ = some (.int .i64 a0_1) := (blk_cell BK111.out 1).trans rfl; have hcz11_2 : w10.cell? ⟨gb111, 2, none⟩ = some (.string a0_2) := (blk_cell BK111.out 2).trans rfl; have hcz11_3 : w10.cell? ⟨gb111, 3, none⟩ = some (.slice A0_3 l0_3.length c0_3) := (blk_cell BK111.out 3).trans rfl; have hcz11_4 : w10.cell? ⟨gb111, 4, none⟩ = some (.slice A0_4 l0_4.length c0_4) := (blk_cell BK111.out 4).trans rfl; have hfz11_0 := blk_frozen BK111.out 0; have hfz11_1 := blk_frozen BK111.out 1; have hfz11_2 := blk_frozen BK111.out 2; have hfz11_3 := blk_frozen BK111.out 3; have hfz11_4 := blk_frozen BK111.out 4) | ((with_reducible refine gate_callee (f := 38) rfl ?_); refine goesL_ (some 17) rfl rfl Tryz.func38 (by kernel_rfl) rfl #[.int .i64 a0_1] rfl (by (try simp only [List.map_toArray, List.map_cons, List.map_nil]); first | done | rfl | (simp only [List.length_drop, List.length_take]; rfl)) ?_; (with_reducible refine (pack_Num.calls a0_1 t112 _ ?side1 A9.out).mono ?_); (case side1 => exact Gl.below HGL.out (by repeat (first | (with_reducible first | exact HB.out | apply below_alloc | apply pw_below_drewN | apply below_drew1 | refine below_set ?_ GE111.out) | exact HB.out))); rintro e w12 ⟨rfl, hb⟩; refine ⟨_, rfl, ?_⟩; have n0_ := Aside0.mk (blk_below (g := gb111) (o := .cells #[.int .i64 a0_0, .int .i64 a0_1, .string a0_2, .slice A0_3 l0_3.length c0_3, .slice A0_4 l0_4.length c0_4] 25 (0, 0)) (by (with_reducible repeat (first | refine blk_drewN ?_ _ | refine blk_drew ?_ | refine blk_alloc ?_ _)); exact BK111.out) hb); have n1_ := Aside0.mk (below_step (by repeat (first | (with_reducible first | exact HB.out | apply below_alloc | apply pw_below_drewN | apply below_drew1 | refine below_set ?_ GE111.out) | exact HB.out)) hb); clear BK111; clear HB; have BK111 := n0_; have HB := n1_; clear n0_ n1_; (try clear hb); (try clear hb2); (try clear hk); (try clear hi)))
   go_ret
   exact ⟨by first | rfl | (simp [errW_none, errW_some] <;> rfl) | (simp [*, errW_none, errW_some] <;> rfl), by repeat (first | (with_reducible first | exact HB.out | apply below_alloc | apply pw_below_drewN | apply below_drew1 | refine below_set ?_ GE111.out) | exact HB.out)⟩
  ·rw [if_neg c8] at H
   have c8b0 : (a0_0 == 2) = false := beq_eq_false_iff_ne.mpr c8
   have c8b1 : (a0_0 != 2) = true := bne_iff_ne.mpr c8
   by_cases c13 : a0_0 = 3
   ·rw [if_pos c13] at H
    have c13b0 : (a0_0 == 3) = true := beq_iff_eq.mpr c13
    have c13b1 : (a0_0 != 3) = false := bne_eq_false_iff_eq.mpr c13
    clear c13
    replace H := Option.bind_eq_some_iff.mp H
    obtain ⟨t113, A140, H⟩ := H
    replace H : (some t113) = some r := H
    have A14 := Aside0.mk A140
    clear A140
    obtain rfl := Option.some.inj H
    go_enter Tryz.func23, Tryz.ntmps23
    go_wp2_with (first | ((with_reducible refine gate_dst (N := 1) rfl ?_); refine box_event ?hg (N := 1) ?hd (cs := #[.int .i64 a0_0, .int .i64 a0_1, .string a0_2, .slice A0_3 l0_3.length c0_3, .slice A0_4 l0_4.length c0_4]) (t := 25) ?hr ?_; (case hd => rfl); (case hg => rfl); (case hr => first | (go_simp; done) | (go_simp; rfl)); intro gb111 hg w15 hbox hb; have n0_ := Aside0.mk (below_step (by repeat (first | (with_reducible first | exact HB.out | apply below_alloc | apply pw_below_drewN | apply below_drew1) | exact HB.out)) hb); have n1_ := Aside0.mk (hbox); have n2_ := Aside0.mk ((by rw [hg]; exact (below_size (by repeat (first | (with_reducible first | exact HB.out | apply below_alloc | apply pw_below_drewN | apply below_drew1) | exact HB.out))) : w.heap.size ≤ gb111)); have n3_ := Aside0.mk ((by rw [hg]; exact (below_size (by repeat (first | (with_reducible first | exact HB.out | apply below_alloc | apply pw_below_drewN | apply below_drew1) | exact HB.out))) : w.heap.size ≤ gb111)); clear HB; have HB := n0_; have BK111 := n1_; have GW111 := n2_; have GE111 := n3_; clear n0_ n1_ n2_ n3_; clear hb hbox hg; have hcz16_0 : w15.cell? ⟨gb111, 0, none⟩ = some (.int .i64 a0_0) := (blk_cell BK111.out 0).trans rfl; have hcz16_1 : w15.cell? ⟨gb111, 1, none⟩ = some (.int .i64 a0_1) := (blk_cell BK111.out 1).trans rfl; have hcz16_2 : w15.cell? ⟨gb111, 2, none⟩ = some (.string a0_2) := (blk_cell BK111.out 2).trans rfl; have hcz16_3 : w15.cell? ⟨gb111, 3, none⟩ = some (.slice A0_3 l0_3.length c0_3) := (blk_cell BK111.out 3).trans rfl; have hcz16_4 : w15.cell? ⟨gb111, 4, none⟩ = some (.slice A0_4 l0_4.length c0_4) := (blk_cell BK111.out 4).trans rfl; have hfz16_0 := blk_frozen BK111.out 0; have hfz16_1 := blk_frozen BK111.out 1; have hfz16_2 := blk_frozen BK111.out 2; have hfz16_3 := blk_frozen BK111.out 3; have hfz16_4 := blk_frozen BK111.out 4) | ((with_reducible refine gate_callee (f := 39) rfl ?_); refine goesL_ (some 22) rfl rfl Tryz.func39 (by kernel_rfl) rfl #[.string a0_2] rfl (by (try simp only [List.map_toArray, List.map_cons, List.map_nil]); first | done | rfl | (simp only [List.length_drop, List.length_take]; rfl)) ?_; (with_reducible refine (lex_Quote.calls a0_2 t113 _ A14.out).mono ?_); rintro e w17 ⟨rfl, hb⟩; refine ⟨_, rfl, ?_⟩; have n0_ := Aside0.mk (blk_below (g := gb111) (o := .cells #[.int .i64 a0_0, .int .i64 a0_1, .string a0_2, .slice A0_3 l0_3.length c0_3, .slice A0_4 l0_4.length c0_4] 25 (0, 0)) (by (with_reducible repeat (first | refine blk_drewN ?_ _ | refine blk_drew ?_ | refine blk_alloc ?_ _)); exact BK111.out) hb); have n1_ := Aside0.mk (below_step (by repeat (first | (with_reducible first | exact HB.out | apply below_alloc | apply pw_below_drewN | apply below_drew1 | refine below_set ?_ GE111.out) | exact HB.out)) hb); clear BK111; clear HB; have BK111 := n0_; have HB := n1_; clear n0_ n1_; (try clear hb); (try clear hb2); (try clear hk); (try clear hi)))
    go_ret
    exact ⟨by first | rfl | (simp [errW_none, errW_some] <;> rfl) | (simp [*, errW_none, errW_some] <;> rfl), by repeat (first | (with_reducible first | exact HB.out | apply below_alloc | apply pw_below_drewN | apply below_drew1 | refine below_set ?_ GE111.out) | exact HB.out)⟩
   ·rw [if_neg c13] at H
    have c13b0 : (a0_0 == 3) = false := beq_eq_false_iff_ne.mpr c13
    have c13b1 : (a0_0 != 3) = true := bne_iff_ne.mpr c13
    by_cases c18 : a0_0 = 4
    ·rw [if_pos c18] at H
     have c18b0 : (a0_0 == 4) = true := beq_iff_eq.mpr c18
     have c18b1 : (a0_0 != 4) = false := bne_eq_false_iff_eq.mpr c18
     clear c18
     replace H := Option.bind_eq_some_iff.mp H
     obtain ⟨t114, A190, H⟩ := H
     replace H : ((strings_Join.f t114 (⟨#[44, 32]⟩ : ByteArray)).bind fun t117 => (if 1 + t117.size ≤ 9223372036854775807 then (if ((⟨#[91]⟩ : ByteArray) ++ t117).size + 1 ≤ 9223372036854775807 then (some (((⟨#[91]⟩ : ByteArray) ++ t117) ++ (⟨#[93]⟩ : ByteArray))) else (none)) else (none))) = some r := H
     have A19 := Aside0.mk A190
     clear A190
     replace H := Option.bind_eq_some_iff.mp H
     obtain ⟨t117, A200, H⟩ := H
     replace H : (if 1 + t117.size ≤ 9223372036854775807 then (if ((⟨#[91]⟩ : ByteArray) ++ t117).size + 1 ≤ 9223372036854775807 then (some (((⟨#[91]⟩ : ByteArray) ++ t117) ++ (⟨#[93]⟩ : ByteArray))) else (none)) else (none)) = some r := H
     have A20 := Aside0.mk A200
     clear A200
     by_cases c21 : 1 + t117.size ≤ 9223372036854775807
     ·rw [if_pos c21] at H
      have c21b0 := eq_true c21
      have c21b1 : decide (1 + t117.size ≤ 9223372036854775807) = true := decide_eq_true c21
      try have c21b2 : (9223372036854775807 < 1 + t117.size) = False := eq_false (Nat.not_lt.2 c21)
      by_cases c22 : ((⟨#[91]⟩ : ByteArray) ++ t117).size + 1 ≤ 9223372036854775807
      ·rw [if_pos c22] at H
       have c22b0 := eq_true c22
       have c22b7 := c22
       try simp only [ByteArray.size_append] at c22b7
       have c22b8 := decide_eq_true c22b7
       try have c22b9 := Nat.not_lt.2 c22b7
       replace c22b7 := eq_true c22b7
       have c22b1 : decide (((⟨#[91]⟩ : ByteArray) ++ t117).size + 1 ≤ 9223372036854775807) = true := decide_eq_true c22
       try have c22b2 : (9223372036854775807 < ((⟨#[91]⟩ : ByteArray) ++ t117).size + 1) = False := eq_false (Nat.not_lt.2 c22)
       try have c22b5 : (9223372036854775807 < 1 + t117.size + 1) = False := (by have h_ := c22; simp only [ByteArray.size_append] at h_; exact eq_false (Nat.not_lt.2 h_))
       obtain rfl := Option.some.inj H
       go_enter Tryz.func23, Tryz.ntmps23
       go_wp2_with (first | ((with_reducible refine gate_dst (N := 1) rfl ?_); refine box_event ?hg (N := 1) ?hd (cs := #[.int .i64 a0_0, .int .i64 a0_1, .string a0_2, .slice A0_3 l0_3.length c0_3, .slice A0_4 l0_4.length c0_4]) (t := 25) ?hr ?_; (case hd => rfl); (case hg => rfl); (case hr => first | (go_simp; done) | (go_simp; rfl)); intro gb111 hg w23 hbox hb; have n0_ := Aside0.mk (below_step (by repeat (first | (with_reducible first | exact HB.out | apply below_alloc | apply pw_below_drewN | apply below_drew1) | exact HB.out)) hb); have n1_ := Aside0.mk (hbox); have n2_ := Aside0.mk ((by rw [hg]; exact (below_size (by repeat (first | (with_reducible first | exact HB.out | apply below_alloc | apply pw_below_drewN | apply below_drew1) | exact HB.out))) : w.heap.size ≤ gb111)); have n3_ := Aside0.mk ((by rw [hg]; exact (below_size (by repeat (first | (with_reducible first | exact HB.out | apply below_alloc | apply pw_below_drewN | apply below_drew1) | exact HB.out))) : w.heap.size ≤ gb111)); clear HB; have HB := n0_; have BK111 := n1_; have GW111 := n2_; have GE111 := n3_; clear n0_ n1_ n2_ n3_; clear hb hbox hg; have hcz24_0 : w23.cell? ⟨gb111, 0, none⟩ = some (.int .i64 a0_0) := (blk_cell BK111.out 0).trans rfl; have hcz24_1 : w23.cell? ⟨gb111, 1, none⟩ = some (.int .i64 a0_1) := (blk_cell BK111.out 1).trans rfl; have hcz24_2 : w23.cell? ⟨gb111, 2, none⟩ = some (.string a0_2) := (blk_cell BK111.out 2).trans rfl; have hcz24_3 : w23.cell? ⟨gb111, 3, none⟩ = some (.slice A0_3 l0_3.length c0_3) := (blk_cell BK111.out 3).trans rfl; have hcz24_4 : w23.cell? ⟨gb111, 4, none⟩ = some (.slice A0_4 l0_4.length c0_4) := (blk_cell BK111.out 4).trans rfl; have hfz24_0 := blk_frozen BK111.out 0; have hfz24_1 := blk_frozen BK111.out 1; have hfz24_2 := blk_frozen BK111.out 2; have hfz24_3 := blk_frozen BK111.out 3; have hfz24_4 := blk_frozen BK111.out 4) | ((with_reducible refine gate_callee (f := 41) rfl ?_); refine goesL_ (some 27) rfl rfl Tryz.func41 (by kernel_rfl) rfl #[.slice A0_3 l0_3.length c0_3, .func (.func 23) #[] #[]] rfl (by (try simp only [List.map_toArray, List.map_cons, List.map_nil]); first | done | rfl | (simp only [List.length_drop, List.length_take]; rfl)) ?_; (with_reducible refine (value_all.calls _ _ l0_3 23 t114 _ ?side3 ?side1 ?side2 A19.out).mono ?_); (case side1 => repeat (first | exact (Kd.C_below HR0_3.out HB.out) | (with_reducible refine Kd.C_alloc ?_ _) | (with_reducible refine Kd.C_drewN ?_ _) | (with_reducible refine Kd.C_drew ?_))); (case side2 => exact HC0_3.out); (case side3 => exact Gl.below HGL.out (by repeat (first | (with_reducible first | exact HB.out | apply below_alloc | apply pw_below_drewN | apply below_drew1 | refine below_set ?_ GE111.out) | exact HB.out))); rintro e w25 ⟨v115, rfl, ho0, hb⟩; refine ⟨_, rfl, ?_⟩; have n0_ := Aside0.mk (Kd.R_lower ho0 (below_size (by repeat (first | (with_reducible first | exact HB.out | apply below_alloc | apply pw_below_drewN | apply below_drew1 | refine below_set ?_ GE111.out) | exact HB.out)))); have n1_ := Aside0.mk (blk_below (g := gb111) (o := .cells #[.int .i64 a0_0, .int .i64 a0_1, .string a0_2, .slice A0_3 l0_3.length c0_3, .slice A0_4 l0_4.length c0_4] 25 (0, 0)) (by (with_reducible repeat (first | refine blk_drewN ?_ _ | refine blk_drew ?_ | refine blk_alloc ?_ _)); exact BK111.out) hb); have n2_ := Aside0.mk (below_step (by repeat (first | (with_reducible first | exact HB.out | apply below_alloc | apply pw_below_drewN | apply below_drew1 | refine below_set ?_ GE111.out) | exact HB.out)) hb); clear BK111; clear HB; have HO116 := n0_; have BK111 := n1_; have HB := n2_; clear n0_ n1_ n2_; (try clear hb); (try clear hb2); (try clear hk); (try clear hi); (try clear ho0); obtain ⟨Ao26, co26, eo26⟩ := Kd.R_slice HO116.out; subst eo26) | ((with_reducible refine gate_callee (f := 40) rfl ?_); refine goesL_ (some 28) rfl rfl Tryz.func40 (by kernel_rfl) rfl #[.slice Ao26 t114.length co26, .string (⟨#[44, 32]⟩ : ByteArray)] rfl (by (try simp only [List.map_toArray, List.map_cons, List.map_nil]); first | done | rfl | (simp only [List.length_drop, List.length_take]; rfl)) ?_; (with_reducible refine (strings_Join.calls _ _ t114 (⟨#[44, 32]⟩ : ByteArray) t117 _ ?side1 ?side2 A20.out).mono ?_); (case side1 => repeat (first | exact (Kd.R_reads' HO116.out).2.2 | (with_reducible refine Kd.C_alloc ?_ _) | (with_reducible refine Kd.C_drewN ?_ _) | (with_reducible refine Kd.C_drew ?_))); (case side2 => exact (Kd.R_reads' HO116.out).2.1); rintro e w27 ⟨rfl, hb⟩; refine ⟨_, rfl, ?_⟩; have n0_ := Aside0.mk (Kd.R_below (by (with_reducible repeat (first | apply Kd.R_alloc | apply Kd.R_drewN | apply Kd.R_drew)); exact HO116.out) hb); have n1_ := Aside0.mk (blk_below (g := gb111) (o := .cells #[.int .i64 a0_0, .int .i64 a0_1, .string a0_2, .slice A0_3 l0_3.length c0_3, .slice A0_4 l0_4.length c0_4] 25 (0, 0)) (by (with_reducible repeat (first | refine blk_drewN ?_ _ | refine blk_drew ?_ | refine blk_alloc ?_ _)); exact BK111.out) hb); have n2_ := Aside0.mk (below_step (by repeat (first | (with_reducible first | exact HB.out | apply below_alloc | apply pw_below_drewN | apply below_drew1 | refine below_set ?_ GE111.out) | exact HB.out)) hb); clear HO116; clear BK111; clear HB; have HO116 := n0_; have BK111 := n1_; have HB := n2_; clear n0_ n1_ n2_; (try clear hb); (try clear hb2); (try clear hk); (try clear hi)))
       go_ret
       exact ⟨by first | rfl | (simp [errW_none, errW_some] <;> rfl) | (simp [*, errW_none, errW_some] <;> rfl), by repeat (first | (with_reducible first | exact HB.out | apply below_alloc | apply pw_below_drewN | apply below_drew1 | refine below_set ?_ GE111.out) | exact HB.out)⟩
      ·rw [if_neg c22] at H
       exact absurd H (by simp)
     ·rw [if_neg c21] at H
      exact absurd H (by simp)
    ·rw [if_neg c18] at H
     have c18b0 : (a0_0 == 4) = false := beq_eq_false_iff_ne.mpr c18
     have c18b1 : (a0_0 != 4) = true := bne_iff_ne.mpr c18
     by_cases c28 : a0_0 = 5
     ·rw [if_pos c28] at H
      have c28b0 : (a0_0 == 5) = true := beq_iff_eq.mpr c28
      have c28b1 : (a0_0 != 5) = false := bne_eq_false_iff_eq.mpr c28
      clear c28
      replace H := Option.bind_eq_some_iff.mp H
      obtain ⟨t118, A290, H⟩ := H
      replace H : (value_text.l0 k t118 l0_4 (l0_4.length : Int) 0) = some r := H
      have A29 := Aside0.mk A290
      clear A290
      have H' := Aside0.mk H
      clear H
      go_enter Tryz.func23, Tryz.ntmps23
      go_wp2_with (first | ((with_reducible refine gate_dst (N := 1) rfl ?_); refine box_event ?hg (N := 1) ?hd (cs := #[.int .i64 a0_0, .int .i64 a0_1, .string a0_2, .slice A0_3 l0_3.length c0_3, .slice A0_4 l0_4.length c0_4]) (t := 25) ?hr ?_; (case hd => rfl); (case hg => rfl); (case hr => first | (go_simp; done) | (go_simp; rfl)); intro gb111 hg w30 hbox hb; have n0_ := Aside0.mk (below_step (by repeat (first | (with_reducible first | exact HB.out | apply below_alloc | apply pw_below_drewN | apply below_drew1) | exact HB.out)) hb); have n1_ := Aside0.mk (hbox); have n2_ := Aside0.mk ((by rw [hg]; exact (below_size (by repeat (first | (with_reducible first | exact HB.out | apply below_alloc | apply pw_below_drewN | apply below_drew1) | exact HB.out))) : w.heap.size ≤ gb111)); have n3_ := Aside0.mk ((by rw [hg]; exact (below_size (by repeat (first | (with_reducible first | exact HB.out | apply below_alloc | apply pw_below_drewN | apply below_drew1) | exact HB.out))) : w.heap.size ≤ gb111)); clear HB; have HB := n0_; have BK111 := n1_; have GW111 := n2_; have GE111 := n3_; clear n0_ n1_ n2_ n3_; clear hb hbox hg; have hcz31_0 : w30.cell? ⟨gb111, 0, none⟩ = some (.int .i64 a0_0) := (blk_cell BK111.out 0).trans rfl; have hcz31_1 : w30.cell? ⟨gb111, 1, none⟩ = some (.int .i64 a0_1) := (blk_cell BK111.out 1).trans rfl; have hcz31_2 : w30.cell? ⟨gb111, 2, none⟩ = some (.string a0_2) := (blk_cell BK111.out 2).trans rfl; have hcz31_3 : w30.cell? ⟨gb111, 3, none⟩ = some (.slice A0_3 l0_3.length c0_3) := (blk_cell BK111.out 3).trans rfl; have hcz31_4 : w30.cell? ⟨gb111, 4, none⟩ = some (.slice A0_4 l0_4.length c0_4) := (blk_cell BK111.out 4).trans rfl; have hfz31_0 := blk_frozen BK111.out 0; have hfz31_1 := blk_frozen BK111.out 1; have hfz31_2 := blk_frozen BK111.out 2; have hfz31_3 := blk_frozen BK111.out 3; have hfz31_4 := blk_frozen BK111.out 4) | ((with_reducible refine gate_callee (f := 41) rfl ?_); refine goesL_ (some 35) rfl rfl Tryz.func41 (by kernel_rfl) rfl #[.slice A0_3 l0_3.length c0_3, .func (.func 23) #[] #[]] rfl (by (try simp only [List.map_toArray, List.map_cons, List.map_nil]); first | done | rfl | (simp only [List.length_drop, List.length_take]; rfl)) ?_; (with_reducible refine (value_all.calls _ _ l0_3 23 t118 _ ?side3 ?side1 ?side2 A29.out).mono ?_); (case side1 => repeat (first | exact (Kd.C_below HR0_3.out HB.out) | (with_reducible refine Kd.C_alloc ?_ _) | (with_reducible refine Kd.C_drewN ?_ _) | (with_reducible refine Kd.C_drew ?_))); (case side2 => exact HC0_3.out); (case side3 => exact Gl.below HGL.out (by repeat (first | (with_reducible first | exact HB.out | apply below_alloc | apply pw_below_drewN | apply below_drew1 | refine below_set ?_ GE111.out) | exact HB.out))); rintro e w32 ⟨v119, rfl, ho0, hb⟩; refine ⟨_, rfl, ?_⟩; have n0_ := Aside0.mk (Kd.R_lower ho0 (below_size (by repeat (first | (with_reducible first | exact HB.out | apply below_alloc | apply pw_below_drewN | apply below_drew1 | refine below_set ?_ GE111.out) | exact HB.out)))); have n1_ := Aside0.mk (blk_below (g := gb111) (o := .cells #[.int .i64 a0_0, .int .i64 a0_1, .string a0_2, .slice A0_3 l0_3.length c0_3, .slice A0_4 l0_4.length c0_4] 25 (0, 0)) (by (with_reducible repeat (first | refine blk_drewN ?_ _ | refine blk_drew ?_ | refine blk_alloc ?_ _)); exact BK111.out) hb); have n2_ := Aside0.mk (below_step (by repeat (first | (with_reducible first | exact HB.out | apply below_alloc | apply pw_below_drewN | apply below_drew1 | refine below_set ?_ GE111.out) | exact HB.out)) hb); clear BK111; clear HB; have HO120 := n0_; have BK111 := n1_; have HB := n2_; clear n0_ n1_ n2_; (try clear hb); (try clear hb2); (try clear hk); (try clear hi); (try clear ho0); have hcz33_0 : w32.cell? ⟨gb111, 0, none⟩ = some (.int .i64 a0_0) := (blk_cell BK111.out 0).trans rfl; have hcz33_1 : w32.cell? ⟨gb111, 1, none⟩ = some (.int .i64 a0_1) := (blk_cell BK111.out 1).trans rfl; have hcz33_2 : w32.cell? ⟨gb111, 2, none⟩ = some (.string a0_2) := (blk_cell BK111.out 2).trans rfl; have hcz33_3 : w32.cell? ⟨gb111, 3, none⟩ = some (.slice A0_3 l0_3.length c0_3) := (blk_cell BK111.out 3).trans rfl; have hcz33_4 : w32.cell? ⟨gb111, 4, none⟩ = some (.slice A0_4 l0_4.length c0_4) := (blk_cell BK111.out 4).trans rfl; have hfz33_0 := blk_frozen BK111.out 0; have hfz33_1 := blk_frozen BK111.out 1; have hfz33_2 := blk_frozen BK111.out 2; have hfz33_3 := blk_frozen BK111.out 3; have hfz33_4 := blk_frozen BK111.out 4))
      go_loopg [39] k (fun kq v39 w' => ∃ (x3_1 : List ByteArray) (x39_1 : Int), v39 = .int .i64 x39_1 ∧ Aside0 (value_text.l0 kq x3_1 l0_4 (l0_4.length : Int) x39_1 = some r) ∧ Aside0 (kq ≤ k) ∧ Aside0 (Kd.R Kd.string 9 w' w.heap.size (fun _ => True) v119 x3_1) ∧ Aside0 (w'.heap[gb111]? = some (.cells #[.int .i64 a0_0, .int .i64 a0_1, .string a0_2, (.slice A0_3 l0_3.length c0_3), (.slice A0_4 l0_4.length c0_4)] 25 (0, 0))) ∧ Aside0 (Below w.heap.size w w'))
      case atStart => exact ⟨(t118), (0), (by first | rfl | (simp; done) | (simp [*]; done)), (by first | exact H' | (subst_vars; exact H')), ⟨Nat.le_refl _⟩, ⟨by (with_reducible repeat (first | apply Kd.R_alloc | apply Kd.R_drewN | apply Kd.R_drew)); exact HO120.out⟩, ⟨by (with_reducible repeat (first | refine blk_drewN ?_ _ | refine blk_drew ?_ | refine blk_alloc ?_ _)); exact BK111.out⟩, ⟨by repeat (first | (with_reducible first | exact HB.out | apply below_alloc | apply pw_below_drewN | apply below_drew1 | refine below_set ?_ GE111.out) | exact HB.out)⟩⟩
      case round =>
       clear H'
       try clear c1
       try clear c2
       try clear c2b0
       try clear c2b1
       try clear p2
       try clear c3
       try clear c3b0
       try clear c3b1
       try clear c4
       try clear c8
       try clear c8b0
       try clear c8b1
       try clear c13
       try clear c13b0
       try clear c13b1
       try clear c18
       try clear c18b0
       try clear c18b1
       try clear c21
       try clear c21b0
       try clear c21b1
       try clear c21b2
       try clear c22
       try clear c22b0
       try clear c22b1
       try clear c22b2
       try clear c23
       try clear c28
       try clear c28b0
       try clear c28b1
       try clear hcz11_0
       try clear hcz11_1
       try clear hcz11_2
       try clear hcz11_3
       try clear hcz11_4
       try clear hcz16_0
       try clear hcz16_1
       try clear hcz16_2
       try clear hcz16_3
       try clear hcz16_4
       try clear hcz24_0
       try clear hcz24_1
       try clear hcz24_2
       try clear hcz24_3
       try clear hcz24_4
       try clear hcz31_0
       try clear hcz31_1
       try clear hcz31_2
       try clear hcz31_3
       try clear hcz31_4
       try clear hcz33_0
       try clear hcz33_1
       try clear hcz33_2
       try clear hcz33_3
       try clear hcz33_4
       try clear hcz5_0
       try clear hcz5_1
       try clear hcz5_2
       try clear hcz5_3
       try clear hcz5_4
       try clear hcz7_0
       try clear hcz7_1
       try clear hcz7_2
       try clear hcz7_3
       try clear hcz7_4
       try clear hfz11_0
       try clear hfz11_1
       try clear hfz11_2
       try clear hfz11_3
       try clear hfz11_4
       try clear hfz16_0
       try clear hfz16_1
       try clear hfz16_2
       try clear hfz16_3
       try clear hfz16_4
       try clear hfz24_0
       try clear hfz24_1
       try clear hfz24_2
       try clear hfz24_3
       try clear hfz24_4
       try clear hfz31_0
       try clear hfz31_1
       try clear hfz31_2
       try clear hfz31_3
       try clear hfz31_4
       try clear hfz33_0
       try clear hfz33_1
       try clear hfz33_2
       try clear hfz33_3
       try clear hfz33_4
       try clear hfz5_0
       try clear hfz5_1
       try clear hfz5_2
       try clear hfz5_3
       try clear hfz5_4
       try clear hfz7_0
       try clear hfz7_1
       try clear hfz7_2
       try clear hfz7_3
       try clear hfz7_4
       obtain ⟨x3_1, x39_1, rfl, HA, HK1, HO_3, BK111, HB⟩ := hrel
       cases gk with
       | zero => exact absurd HA.out (by simp [value_text.l0])
       | succ k1 =>
        have H := HA.out
        clear HA
        simp only [value_text.l0] at H
        by_cases c34 : x39_1 < (l0_4.length : Int)
        ·rw [if_pos c34] at H
         have c34b0 : decide (x39_1 < (l0_4.length : Int)) = true := decide_eq_true c34
         clear c34
         by_cases c35 : 0 ≤ x39_1
         ·rw [if_pos c35] at H
          have c35b0 : decide (0 ≤ x39_1) = true := decide_eq_true c35
          clear c35
          by_cases c36 : x39_1 < (l0_4.length : Int)
          ·rw [if_pos c36] at H
           have c36b0 : decide (x39_1 < (l0_4.length : Int)) = true := decide_eq_true c36
           clear c36
           replace H := Option.bind_eq_some_iff.mp H
           obtain ⟨t122, A370, H⟩ := H
           replace H : (if t122.size + 2 ≤ 9223372036854775807 then (if x39_1 < (x3_1.length : Int) then (if (t122 ++ (⟨#[58, 32]⟩ : ByteArray)).size + (rdOf ByteArray.empty x3_1 x39_1).size ≤ 9223372036854775807 then (value_text.l0 k1 (x3_1.set (x39_1 : Int).toNat ((t122 ++ (⟨#[58, 32]⟩ : ByteArray)) ++ (rdOf ByteArray.empty x3_1 x39_1))) l0_4 (l0_4.length : Int) (wrap64 (x39_1 + 1))) else (none)) else (none)) else (none)) = some r := H
           have A37 := Aside0.mk A370
           clear A370
           by_cases c38 : t122.size + 2 ≤ 9223372036854775807
           ·rw [if_pos c38] at H
            have c38b0 := eq_true c38
            have c38b1 : decide (t122.size + 2 ≤ 9223372036854775807) = true := decide_eq_true c38
            try have c38b2 : (9223372036854775807 < t122.size + 2) = False := eq_false (Nat.not_lt.2 c38)
            by_cases c39 : x39_1 < (x3_1.length : Int)
            ·rw [if_pos c39] at H
             have c39b0 : decide (x39_1 < (x3_1.length : Int)) = true := decide_eq_true c39
             clear c39
             by_cases c40 : (t122 ++ (⟨#[58, 32]⟩ : ByteArray)).size + (rdOf ByteArray.empty x3_1 x39_1).size ≤ 9223372036854775807
             ·rw [if_pos c40] at H
              have c40b0 := eq_true c40
              have c40b7 := c40
              try simp only [ByteArray.size_append] at c40b7
              have c40b8 := decide_eq_true c40b7
              try have c40b9 := Nat.not_lt.2 c40b7
              replace c40b7 := eq_true c40b7
              have c40b1 : decide ((t122 ++ (⟨#[58, 32]⟩ : ByteArray)).size + (rdOf ByteArray.empty x3_1 x39_1).size ≤ 9223372036854775807) = true := decide_eq_true c40
              try have c40b2 : (9223372036854775807 < (t122 ++ (⟨#[58, 32]⟩ : ByteArray)).size + (rdOf ByteArray.empty x3_1 x39_1).size) = False := eq_false (Nat.not_lt.2 c40)
              try have c40b5 : (9223372036854775807 < t122.size + 2 + (rdOf ByteArray.empty x3_1 x39_1).size) = False := (by have h_ := c40; simp only [ByteArray.size_append] at h_; exact eq_false (Nat.not_lt.2 h_))
              obtain ⟨y124, hy124⟩ : ∃ y_ : List ByteArray, y_ = (x3_1.set (x39_1 : Int).toNat ((t122 ++ (⟨#[58, 32]⟩ : ByteArray)) ++ (rdOf ByteArray.empty x3_1 x39_1))) := ⟨_, rfl⟩
              replace H : (value_text.l0 k1 y124 l0_4 (l0_4.length : Int) (wrap64 (x39_1 + 1))) = some r := by first | (rw [hy124]; with_reducible exact H) | (have H2_ := (Option.bind_some _ _).symm.trans H; rw [hy124]; with_reducible exact H2_) | (have H2_ := (Option.bind_some _ _).symm.trans H; with_reducible exact H2_) | with_reducible exact H | (rw [hy124]; exact H) | exact H
              have Ny124 := Aside0.mk hy124
              clear hy124
              have H' := Aside0.mk H
              clear H
              have p121 : 0 ≤ (x39_1 : Int) := of_decide_eq_true (by first | (with_reducible assumption) | assumption)
              have q121 : x39_1 < (l0_4.length : Int) := of_decide_eq_true (by first | (with_reducible assumption) | assumption)
              obtain ⟨ad121, e121, hx121_0⟩ := Kd.at_string HR0_4.out x39_1 p121 q121
              cases e121
              replace hx121_0 := (HB.out.cell (World.block_lt_of_cell? w _ hx121_0)).trans hx121_0
              replace p121 := eq_true p121
              replace q121 := eq_true q121
              try go_wp2
              have n0_ := Aside0.mk (Kd.R_drew HO_3.out)
              have n1_ := Aside0.mk (blk_drew BK111.out)
              have n2_ := Aside0.mk (below_drew1 HB.out)
              clear HO_3
              clear BK111
              clear HB
              have HO_3 := n0_
              have BK111 := n1_
              have HB := n2_
              clear n0_ n1_ n2_
              obtain ⟨Ao43, co43, eo43⟩ := Kd.R_slice HO_3.out
              (first | subst eo43 | (injection eo43 with f1_ f2_ f3_; have f4_ := f1_.symm; have f5_ := f3_.symm; clear f1_ f2_ f3_; subst f4_; subst f5_))
              have p123 : 0 ≤ (x39_1 : Int) := of_decide_eq_true (by first | (with_reducible assumption) | assumption)
              have q123 : x39_1 < (x3_1.length : Int) := of_decide_eq_true (by first | (with_reducible assumption) | assumption)
              obtain ⟨ad123, e123, hx123_0⟩ := Kd.at_string (Kd.R_reads' HO_3.out).2.2 x39_1 p123 q123
              cases e123
              replace p123 := eq_true p123
              replace q123 := eq_true q123
              refine start_ (n := 12) (S := fun w' => w'.cell? (ad123.add (x39_1).toNat) = some (.string (rdOf ByteArray.empty x3_1 x39_1))) (ds := [11]) #[false, false, false, false, false, false, false, false, false, false, false, false] (by kernel_rfl) rfl rfl (hx123_0) (fun hHeld => ?_); refine with_tabW value_text.tab17 value_text.bits17 (fun HT_ HW_ => ?_)
              generalize wr.drew = w42 at HO_3 BK111 HB hx123_0 hHeld ⊢
              refine pure_ (i := 0) (N := some 44) (v := ?_) (a' := ?_) #[true, false, false, false, false, false, false, false, false, false, false, false] rfl rfl (any_of HT_.out (by kernel_rfl)) (fun _ _ _ h => h) (Or.inl ⟨by rfl, ?_⟩) ?_ ?_
              rotate_left
              ·intro w'
               go_simp
               with_reducible rfl
              rotate_left
              ·simp only [Act.put, List.setIfInBounds_toArray, List.set_cons_zero, List.set_cons_succ, i64_w, i32_w]
               rfl
              refine pure_ (i := 1) (N := some 45) (v := ?_) (a' := ?_) #[true, true, false, false, false, false, false, false, false, false, false, false] rfl rfl (any_of HT_.out (by kernel_rfl)) (fun _ _ _ h => h) (Or.inl ⟨by rfl, ?_⟩) ?_ ?_
              rotate_left
              ·intro w'
               go_simp
               with_reducible rfl
              rotate_left
              ·simp only [Act.put, List.setIfInBounds_toArray, List.set_cons_zero, List.set_cons_succ, i64_w, i32_w]
               rfl
              refine pure_ (i := 2) (N := some 46) (v := ?_) (a' := ?_) #[true, true, true, false, false, false, false, false, false, false, false, false] rfl rfl (any_of HT_.out (by kernel_rfl)) (fun _ _ _ h => h) (Or.inl ⟨by rfl, ?_⟩) ?_ ?_
              rotate_left
              ·intro w'
               go_simp
               with_reducible rfl
              rotate_left
              ·simp only [Act.put, List.setIfInBounds_toArray, List.set_cons_zero, List.set_cons_succ, i64_w, i32_w]
               rfl
              refine pure_ (i := 5) (N := some 49) (v := ?_) (a' := ?_) #[true, true, true, false, false, true, false, false, false, false, false, false] rfl rfl (any_of HT_.out (by kernel_rfl)) (fun _ _ _ h => h) (Or.inl ⟨by rfl, ?_⟩) ?_ ?_
              rotate_left
              ·intro w'
               go_simp
               with_reducible rfl
              rotate_left
              ·simp only [Act.put, List.setIfInBounds_toArray, List.set_cons_zero, List.set_cons_succ, i64_w, i32_w]
               rfl
              refine pure_ (i := 6) (N := some 50) (v := ?_) (a' := ?_) #[true, true, true, false, false, true, true, false, false, false, false, false] rfl rfl (any_of HT_.out (by kernel_rfl)) (fun _ _ _ h => h) (Or.inl ⟨by rfl, ?_⟩) ?_ ?_
              rotate_left
              ·intro w'
               go_simp
               with_reducible rfl
              rotate_left
              ·simp only [Act.put, List.setIfInBounds_toArray, List.set_cons_zero, List.set_cons_succ, i64_w, i32_w]
               rfl
              refine pure_ (i := 7) (N := some 51) (v := ?_) (a' := ?_) #[true, true, true, false, false, true, true, true, false, false, false, false] rfl rfl (any_of HT_.out (by kernel_rfl)) (fun _ _ _ h => h) (Or.inl ⟨by rfl, ?_⟩) ?_ ?_
              rotate_left
              ·intro w'
               go_simp
               with_reducible rfl
              rotate_left
              ·simp only [Act.put, List.setIfInBounds_toArray, List.set_cons_zero, List.set_cons_succ, i64_w, i32_w]
               rfl
              refine take_ (i := 8) (N := some 52) (v := ?_) (a' := ?_) #[true, true, true, false, false, true, true, true, true, false, false, false] rfl rfl (take_ofW HT_.out HW_.out (by kernel_rfl)) (fun _ _ _ h => h) (Or.inl ⟨by rfl, ?_⟩) hHeld ?_ ?_
              rotate_left
              ·intro w' s0
               go_simp
               with_reducible rfl
              rotate_left
              ·simp only [Act.put, List.setIfInBounds_toArray, List.set_cons_zero, List.set_cons_succ, i64_w, i32_w]
               rfl
              refine one_ (i := 3) (N := some 47) #[true, true, true, true, false, true, true, true, true, false, false, false] rfl rfl (one_of HT_.out (by kernel_rfl)) (by decide) (fun K hK => ?_)
              refine goes_ Tryz.func39 (by kernel_rfl) rfl #[.string (rdOf ByteArray.empty l0_4 x39_1)] (by rfl) rfl rfl (by (try simp only [List.map_toArray, List.map_cons, List.map_nil]); first | done | rfl | (simp only [List.length_drop, List.length_take]; rfl)) ?_
              with_reducible refine (lex_Quote.calls (rdOf ByteArray.empty l0_4 x39_1) t122 _ A37.out).mono ?_
              rintro e w44 ⟨rfl, hb⟩
              have HS0_ := (hb.cell (World.block_lt_of_cell? _ _ (hHeld))).trans (hHeld)
              refine ⟨_, rfl, ?_⟩
              have n0_ := Aside0.mk (Kd.R_below (by (with_reducible repeat (first | apply Kd.R_alloc | apply Kd.R_drewN | apply Kd.R_drew)); exact HO_3.out) hb)
              have n1_ := Aside0.mk (blk_below (g := gb111) (o := .cells #[.int .i64 a0_0, .int .i64 a0_1, .string a0_2, .slice A0_3 l0_3.length c0_3, .slice (some ad121) l0_4.length c0_4] 25 (0, 0)) (by (with_reducible repeat (first | refine blk_drewN ?_ _ | refine blk_drew ?_ | refine blk_alloc ?_ _)); exact BK111.out) hb)
              have n2_ := Aside0.mk (below_step (by repeat (first | (with_reducible first | exact HB.out | apply below_alloc | apply pw_below_drewN | apply below_drew1 | refine below_set ?_ GE111.out) | exact HB.out)) hb)
              clear HO_3
              clear BK111
              clear HB
              have HO_3 := n0_
              have BK111 := n1_
              have HB := n2_
              clear n0_ n1_ n2_
              (try clear hb)
              (try clear hb2)
              (try clear hk)
              (try clear hi)
              have p41 : 0 ≤ (x39_1 : Int) := of_decide_eq_true (by first | (with_reducible assumption) | assumption)
              have q41 : (x39_1 : Int) < ((x3_1.length : Int) : Int) := of_decide_eq_true (by first | (with_reducible assumption) | assumption)
              obtain ⟨go41, co41, eo41, gb41, gl41, cl41, HG41⟩ := Kd.R_form HO_3.out (by omega)
              (first | cases eo41 | (injection eo41 with ea_ en_ ec_; (first | subst ea_ | (injection ea_ with ea_; subst ea_)); subst ec_; clear en_))
              have GB41 := Aside0.mk gb41
              have GG41 := Aside0.mk HG41
              clear gb41 gl41 HG41
              (first | simp only [add_plain] at hx123_0 | skip)
              obtain ⟨hx41_0, hf41_0⟩ := Kd.R_celln (⟨#[]⟩ : ByteArray) HO_3.out (x39_1 : Int) p41 q41
              replace p41 := eq_true p41
              replace q41 := eq_true q41
              have HP45 := Kd.R_putn HO_3.out (x39_1 : Int) ((t122 ++ (⟨#[58, 32]⟩ : ByteArray)) ++ (rdOf ByteArray.empty x3_1 x39_1))
              rw [← Ny124.out] at HP45
              have HQ45 := Aside0.mk HP45
              clear HP45
              refine hK.out _ _ (HS0_) (fun hHeld => ?_)
              clear hK K
              refine norm_ (a' := ?_) ?_ ?_
              rotate_left
              ·show Act.put _ (some 47) _ = _
               simp only [Act.put, List.setIfInBounds_toArray, List.set_cons_zero, List.set_cons_succ, i64_w, i32_w]
               rfl
              refine pure_ (i := 4) (N := some 48) (v := ?_) (a' := ?_) #[true, true, true, true, true, true, true, true, true, false, false, false] rfl rfl (any_of HT_.out (by kernel_rfl)) (fun _ _ _ h => h) (Or.inl ⟨by rfl, ?_⟩) ?_ ?_
              rotate_left
              ·intro w'
               go_simp
               with_reducible rfl
              rotate_left
              ·simp only [Act.put, List.setIfInBounds_toArray, List.set_cons_zero, List.set_cons_succ, i64_w, i32_w]
               rfl
              refine pure_ (i := 9) (N := some 53) (v := ?_) (a' := ?_) #[true, true, true, true, true, true, true, true, true, true, false, false] rfl rfl (any_of HT_.out (by kernel_rfl)) (fun _ _ _ h => h) (Or.inl ⟨by rfl, ?_⟩) ?_ ?_
              rotate_left
              ·intro w'
               go_simp
               with_reducible rfl
              rotate_left
              ·simp only [Act.put, List.setIfInBounds_toArray, List.set_cons_zero, List.set_cons_succ, i64_w, i32_w]
               rfl
              refine pure_ (i := 10) (N := some 54) (v := ?_) (a' := ?_) #[true, true, true, true, true, true, true, true, true, true, true, false] rfl rfl (any_of HT_.out (by kernel_rfl)) (fun _ _ _ h => h) (Or.inl ⟨by rfl, ?_⟩) ?_ ?_
              rotate_left
              ·intro w'
               go_simp
               with_reducible rfl
              rotate_left
              ·simp only [Act.put, List.setIfInBounds_toArray, List.set_cons_zero, List.set_cons_succ, i64_w, i32_w]
               rfl
              refine last_ (i := 11) (N := none) #[true, true, true, true, true, true, true, true, true, true, true, true] rfl rfl (one_of HT_.out (by kernel_rfl)) (by decide) (fun K hK => ?_)
              refine skip_ (w1 := ?_) (by rfl) rfl ?_ ?_
              rotate_left
              ·go_simp
               rfl
              refine hK.out _ _ ?_
              clear hK K
              refine done_ (done_of HT_.out (by kernel_rfl)) ?_
              try go_wp2
              go_roundg k1
              case measure => have := HK1.out; omega
              case rel => exact ⟨(y124), (wrap64 (x39_1 + 1)), (by first | rfl | (simp; done) | (simp [*]; done)), (by first | exact H' | (subst_vars; exact H')), ⟨by have := HK1.out; omega⟩, ⟨by (with_reducible repeat (first | apply Kd.R_alloc | apply Kd.R_drewN | apply Kd.R_drew)); exact HQ45.out⟩, ⟨by (with_reducible repeat (first | refine blk_drewN ?_ _ | refine blk_drew ?_ | refine blk_alloc ?_ _)); refine blk_far ?_ (by have h_ := Kd.R_ne HO_3.out BK111.out (by decide); intro e_; exact h_ (by rw [e_]; rfl)) _; (with_reducible repeat (first | refine blk_drewN ?_ _ | refine blk_drew ?_ | refine blk_alloc ?_ _)); exact BK111.out⟩, ⟨by repeat (first | (with_reducible first | exact HB.out | apply below_alloc | apply pw_below_drewN | apply below_drew1 | refine below_set ?_ GB41.out | refine below_set ?_ GE111.out) | exact HB.out)⟩⟩
             ·rw [if_neg c40] at H
              exact absurd H (by simp)
            ·rw [if_neg c39] at H
             exact absurd H (by simp)
           ·rw [if_neg c38] at H
            exact absurd H (by simp)
          ·rw [if_neg c36] at H
           exact absurd H (by simp)
         ·rw [if_neg c35] at H
          exact absurd H (by simp)
        ·rw [if_neg c34] at H
         have c34b0 : decide (x39_1 < (l0_4.length : Int)) = false := decide_eq_false c34
         clear c34
         replace H := Option.bind_eq_some_iff.mp H
         obtain ⟨t125, A460, H⟩ := H
         replace H : (if 1 + t125.size ≤ 9223372036854775807 then (if ((⟨#[123]⟩ : ByteArray) ++ t125).size + 1 ≤ 9223372036854775807 then (some (((⟨#[123]⟩ : ByteArray) ++ t125) ++ (⟨#[125]⟩ : ByteArray))) else (none)) else (none)) = some r := H
         have A46 := Aside0.mk A460
         clear A460
         by_cases c47 : 1 + t125.size ≤ 9223372036854775807
         ·rw [if_pos c47] at H
          have c47b0 := eq_true c47
          have c47b1 : decide (1 + t125.size ≤ 9223372036854775807) = true := decide_eq_true c47
          try have c47b2 : (9223372036854775807 < 1 + t125.size) = False := eq_false (Nat.not_lt.2 c47)
          by_cases c48 : ((⟨#[123]⟩ : ByteArray) ++ t125).size + 1 ≤ 9223372036854775807
          ·rw [if_pos c48] at H
           have c48b0 := eq_true c48
           have c48b7 := c48
           try simp only [ByteArray.size_append] at c48b7
           have c48b8 := decide_eq_true c48b7
           try have c48b9 := Nat.not_lt.2 c48b7
           replace c48b7 := eq_true c48b7
           have c48b1 : decide (((⟨#[123]⟩ : ByteArray) ++ t125).size + 1 ≤ 9223372036854775807) = true := decide_eq_true c48
           try have c48b2 : (9223372036854775807 < ((⟨#[123]⟩ : ByteArray) ++ t125).size + 1) = False := eq_false (Nat.not_lt.2 c48)
           try have c48b5 : (9223372036854775807 < 1 + t125.size + 1) = False := (by have h_ := c48; simp only [ByteArray.size_append] at h_; exact eq_false (Nat.not_lt.2 h_))
           obtain rfl := Option.some.inj H
           obtain ⟨Ao49, co49, eo49⟩ := Kd.R_slice HO_3.out
           subst eo49
           go_wp2_with (first | ((with_reducible refine gate_callee (f := 40) rfl ?_); refine goesL_ (some 57) rfl rfl Tryz.func40 (by kernel_rfl) rfl #[.slice Ao49 x3_1.length co49, .string (⟨#[44, 32]⟩ : ByteArray)] rfl (by (try simp only [List.map_toArray, List.map_cons, List.map_nil]); first | done | rfl | (simp only [List.length_drop, List.length_take]; rfl)) ?_; (with_reducible refine (strings_Join.calls _ _ x3_1 (⟨#[44, 32]⟩ : ByteArray) t125 _ ?side1 ?side2 A46.out).mono ?_); (case side1 => repeat (first | exact (Kd.R_reads' HO_3.out).2.2 | (with_reducible refine Kd.C_alloc ?_ _) | (with_reducible refine Kd.C_drewN ?_ _) | (with_reducible refine Kd.C_drew ?_))); (case side2 => exact (Kd.R_reads' HO_3.out).2.1); rintro e w50 ⟨rfl, hb⟩; refine ⟨_, rfl, ?_⟩; have n0_ := Aside0.mk (Kd.R_below (by (with_reducible repeat (first | apply Kd.R_alloc | apply Kd.R_drewN | apply Kd.R_drew)); exact HO_3.out) hb); have n1_ := Aside0.mk (blk_below (g := gb111) (o := .cells #[.int .i64 a0_0, .int .i64 a0_1, .string a0_2, .slice A0_3 l0_3.length c0_3, .slice A0_4 l0_4.length c0_4] 25 (0, 0)) (by (with_reducible repeat (first | refine blk_drewN ?_ _ | refine blk_drew ?_ | refine blk_alloc ?_ _)); exact BK111.out) hb); have n2_ := Aside0.mk (below_step (by repeat (first | (with_reducible first | exact HB.out | apply below_alloc | apply pw_below_drewN | apply below_drew1 | refine below_set ?_ GE111.out) | exact HB.out)) hb); clear HO_3; clear BK111; clear HB; have HO_3 := n0_; have BK111 := n1_; have HB := n2_; clear n0_ n1_ n2_; (try clear hb); (try clear hb2); (try clear hk); (try clear hi)))
           go_ret
           exact ⟨by first | rfl | (simp [errW_none, errW_some] <;> rfl) | (simp [*, errW_none, errW_some] <;> rfl), by repeat (first | (with_reducible first | exact HB.out | apply below_alloc | apply pw_below_drewN | apply below_drew1 | refine below_set ?_ GE111.out) | exact HB.out)⟩
          ·rw [if_neg c48] at H
           exact absurd H (by simp)
         ·rw [if_neg c47] at H
          exact absurd H (by simp)
     ·rw [if_neg c28] at H
      have c28b0 : (a0_0 == 5) = false := beq_eq_false_iff_ne.mpr c28
      have c28b1 : (a0_0 != 5) = true := bne_iff_ne.mpr c28
      obtain rfl := Option.some.inj H
      go_enter Tryz.func23, Tryz.ntmps23
      go_wp2_with (first | ((with_reducible refine gate_dst (N := 1) rfl ?_); refine box_event ?hg (N := 1) ?hd (cs := #[.int .i64 a0_0, .int .i64 a0_1, .string a0_2, .slice A0_3 l0_3.length c0_3, .slice A0_4 l0_4.length c0_4]) (t := 25) ?hr ?_; (case hd => rfl); (case hg => rfl); (case hr => first | (go_simp; done) | (go_simp; rfl)); intro gb111 hg w51 hbox hb; have n0_ := Aside0.mk (below_step (by repeat (first | (with_reducible first | exact HB.out | apply below_alloc | apply pw_below_drewN | apply below_drew1) | exact HB.out)) hb); have n1_ := Aside0.mk (hbox); have n2_ := Aside0.mk ((by rw [hg]; exact (below_size (by repeat (first | (with_reducible first | exact HB.out | apply below_alloc | apply pw_below_drewN | apply below_drew1) | exact HB.out))) : w.heap.size ≤ gb111)); have n3_ := Aside0.mk ((by rw [hg]; exact (below_size (by repeat (first | (with_reducible first | exact HB.out | apply below_alloc | apply pw_below_drewN | apply below_drew1) | exact HB.out))) : w.heap.size ≤ gb111)); clear HB; have HB := n0_; have BK111 := n1_; have GW111 := n2_; have GE111 := n3_; clear n0_ n1_ n2_ n3_; clear hb hbox hg; have hcz52_0 : w51.cell? ⟨gb111, 0, none⟩ = some (.int .i64 a0_0) := (blk_cell BK111.out 0).trans rfl; have hcz52_1 : w51.cell? ⟨gb111, 1, none⟩ = some (.int .i64 a0_1) := (blk_cell BK111.out 1).trans rfl; have hcz52_2 : w51.cell? ⟨gb111, 2, none⟩ = some (.string a0_2) := (blk_cell BK111.out 2).trans rfl; have hcz52_3 : w51.cell? ⟨gb111, 3, none⟩ = some (.slice A0_3 l0_3.length c0_3) := (blk_cell BK111.out 3).trans rfl; have hcz52_4 : w51.cell? ⟨gb111, 4, none⟩ = some (.slice A0_4 l0_4.length c0_4) := (blk_cell BK111.out 4).trans rfl; have hfz52_0 := blk_frozen BK111.out 0; have hfz52_1 := blk_frozen BK111.out 1; have hfz52_2 := blk_frozen BK111.out 2; have hfz52_3 := blk_frozen BK111.out 3; have hfz52_4 := blk_frozen BK111.out 4))
      go_ret
      exact ⟨by first | rfl | (simp [errW_none, errW_some] <;> rfl) | (simp [*, errW_none, errW_some] <;> rfl), by repeat (first | (with_reducible first | exact HB.out | apply below_alloc | apply pw_below_drewN | apply below_drew1 | refine below_set ?_ GE111.out) | exact HB.out)⟩

end
end Go.Proofs.YtegppacnkfeaoaaGreatDoor.G

/- Go functions as Lean functions, each with its contract: written by a program of mine over the kit's print. Conditions: each contract's own. -/
namespace Go.Proofs.YtegppacnkfeaoaaGreatDoor.G
open Go.RowKit Go.Proofs.YtegppacnkfeaoaaGreatDoorW.PrintWords Go.Proofs.YtegppacnkfeaoaaGreatDoorW.PrintLast Go.Proofs.YtegppacnkfeaoaaGreatDoorW.PrintMore
attribute [local go_sem] max2_int min2_int max_two min_two max_three min_three max_four min_four   -- for this text's walks alone
set_option linter.unusedVariables false
set_option linter.unusedSimpArgs false
noncomputable section
variable [Inhabited Bound]

/-! ### value_Print: function 10 -/
def value_Print.f (k : Nat) (a0_0 : Int) (a0_1 : Int) (a0_2 : ByteArray) (l0_3 : List (S25)) (l0_4 : List ByteArray) : Option (ByteArray) := (value_Check.f a0_0 a0_1 a0_2 l0_3 l0_4).bind fun t127 => (if t127 = true then ((value_text.f k a0_0 a0_1 a0_2 l0_3 l0_4).bind fun t128 => (some t128)) else (some (⟨#[]⟩ : ByteArray)))
set_option maxHeartbeats 8000000 in
set_option maxRecDepth 100000 in
theorem value_Print.calls (k : Nat) (a0_0 : Int) (a0_1 : Int) (a0_2 : ByteArray) (A0_3 : Option Addr) (c0_3 : Nat) (l0_3 : List (S25)) (A0_4 : Option Addr) (c0_4 : Nat) (l0_4 : List ByteArray) (r : ByteArray) (w : World) (hgl : Gl w) (hr0_3 : Kd.C k25 w A0_3 l0_3.length l0_3) (hc0_3 : l0_3.length ≤ c0_3) (hr0_4 : Kd.C Kd.string w A0_4 l0_4.length l0_4) (hc0_4 : l0_4.length ≤ c0_4) (h : value_Print.f k a0_0 a0_1 a0_2 l0_3 l0_4 = some r) :
  Calls Tryz.prog 10 #[.agg #[.int .i64 a0_0, .int .i64 a0_1, .string a0_2, .slice A0_3 l0_3.length c0_3, .slice A0_4 l0_4.length c0_4]] w fun e w' => e = .returned (.string r) ∧ Below w.heap.size w w' := by
 have HGL := Aside0.mk hgl
 clear hgl
 have hu25 := Tryz.underlying25
 have HR0_3 := Aside0.mk hr0_3
 have HC0_3 := Aside0.mk hc0_3
 clear hr0_3 hc0_3
 have HR0_4 := Aside0.mk hr0_4
 have HC0_4 := Aside0.mk hc0_4
 clear hr0_4 hc0_4
 have HB := Aside0.mk (Below.refl w.heap.size w)
 have H : ((value_Check.f a0_0 a0_1 a0_2 l0_3 l0_4).bind fun t127 => (if t127 = true then ((value_text.f k a0_0 a0_1 a0_2 l0_3 l0_4).bind fun t128 => (some t128)) else (some (⟨#[]⟩ : ByteArray)))) = some r := h
 clear h
 replace H := Option.bind_eq_some_iff.mp H
 obtain ⟨t127, A20, H⟩ := H
 replace H : (if t127 = true then ((value_text.f k a0_0 a0_1 a0_2 l0_3 l0_4).bind fun t128 => (some t128)) else (some (⟨#[]⟩ : ByteArray))) = some r := H
 have A2 := Aside0.mk A20
 clear A20
 by_cases c3 : t127 = true
 ·subst c3
  have H1 : ((value_text.f k a0_0 a0_1 a0_2 l0_3 l0_4).bind fun t128 => (some t128)) = some r := by rw [if_pos rfl] at H; exact H
  clear H
  have H := H1
  clear H1
  replace H := Option.bind_eq_some_iff.mp H
  obtain ⟨t128, A40, H⟩ := H
  replace H : (some t128) = some r := H
  have A4 := Aside0.mk A40
  clear A40
  obtain rfl := Option.some.inj H
  go_enter Tryz.func10, Tryz.ntmps10
  go_wp2_with (first | ((with_reducible refine gate_dst (N := 1) rfl ?_); refine box_event ?hg (N := 1) ?hd (cs := #[.int .i64 a0_0, .int .i64 a0_1, .string a0_2, .slice A0_3 l0_3.length c0_3, .slice A0_4 l0_4.length c0_4]) (t := 25) ?hr ?_; (case hd => rfl); (case hg => rfl); (case hr => first | (go_simp; done) | (go_simp; rfl)); intro gb126 hg w5 hbox hb; have n0_ := Aside0.mk (below_step (by repeat (first | (with_reducible first | exact HB.out | apply below_alloc | apply pw_below_drewN | apply below_drew1) | exact HB.out)) hb); have n1_ := Aside0.mk (hbox); have n2_ := Aside0.mk ((by rw [hg]; exact (below_size (by repeat (first | (with_reducible first | exact HB.out | apply below_alloc | apply pw_below_drewN | apply below_drew1) | exact HB.out))) : w.heap.size ≤ gb126)); have n3_ := Aside0.mk ((by rw [hg]; exact (below_size (by repeat (first | (with_reducible first | exact HB.out | apply below_alloc | apply pw_below_drewN | apply below_drew1) | exact HB.out))) : w.heap.size ≤ gb126)); clear HB; have HB := n0_; have BK126 := n1_; have GW126 := n2_; have GE126 := n3_; clear n0_ n1_ n2_ n3_; clear hb hbox hg; have hcz6_0 : w5.cell? ⟨gb126, 0, none⟩ = some (.int .i64 a0_0) := (blk_cell BK126.out 0).trans rfl; have hcz6_1 : w5.cell? ⟨gb126, 1, none⟩ = some (.int .i64 a0_1) := (blk_cell BK126.out 1).trans rfl; have hcz6_2 : w5.cell? ⟨gb126, 2, none⟩ = some (.string a0_2) := (blk_cell BK126.out 2).trans rfl; have hcz6_3 : w5.cell? ⟨gb126, 3, none⟩ = some (.slice A0_3 l0_3.length c0_3) := (blk_cell BK126.out 3).trans rfl; have hcz6_4 : w5.cell? ⟨gb126, 4, none⟩ = some (.slice A0_4 l0_4.length c0_4) := (blk_cell BK126.out 4).trans rfl; have hfz6_0 := blk_frozen BK126.out 0; have hfz6_1 := blk_frozen BK126.out 1; have hfz6_2 := blk_frozen BK126.out 2; have hfz6_3 := blk_frozen BK126.out 3; have hfz6_4 := blk_frozen BK126.out 4) | ((with_reducible refine gate_callee (f := 22) rfl ?_); refine goesL_ (some 4) rfl rfl Tryz.func22 (by kernel_rfl) rfl #[.agg #[.int .i64 a0_0, .int .i64 a0_1, .string a0_2, .slice A0_3 l0_3.length c0_3, .slice A0_4 l0_4.length c0_4]] rfl (by (try simp only [List.map_toArray, List.map_cons, List.map_nil]); first | done | rfl | (simp only [List.length_drop, List.length_take]; rfl)) ?_; (with_reducible refine (value_Check.calls a0_0 a0_1 a0_2 _ _ l0_3 _ _ l0_4 true _ ?side1 ?side2 ?side3 ?side4 A2.out).mono ?_); (case side1 => repeat (first | exact (Kd.C_below HR0_3.out HB.out) | (with_reducible refine Kd.C_alloc ?_ _) | (with_reducible refine Kd.C_drewN ?_ _) | (with_reducible refine Kd.C_drew ?_))); (case side2 => exact HC0_3.out); (case side3 => repeat (first | exact (Kd.C_below HR0_4.out HB.out) | (with_reducible refine Kd.C_alloc ?_ _) | (with_reducible refine Kd.C_drewN ?_ _) | (with_reducible refine Kd.C_drew ?_))); (case side4 => exact HC0_4.out); rintro e w7 ⟨rfl, hb⟩; refine ⟨_, rfl, ?_⟩; have n0_ := Aside0.mk (blk_below (g := gb126) (o := .cells #[.int .i64 a0_0, .int .i64 a0_1, .string a0_2, .slice A0_3 l0_3.length c0_3, .slice A0_4 l0_4.length c0_4] 25 (0, 0)) (by (with_reducible repeat (first | refine blk_drewN ?_ _ | refine blk_drew ?_ | refine blk_alloc ?_ _)); exact BK126.out) hb); have n1_ := Aside0.mk (below_step (by repeat (first | (with_reducible first | exact HB.out | apply below_alloc | apply pw_below_drewN | apply below_drew1 | refine below_set ?_ GE126.out) | exact HB.out)) hb); clear BK126; clear HB; have BK126 := n0_; have HB := n1_; clear n0_ n1_; (try clear hb); (try clear hb2); (try clear hk); (try clear hi); have hcz8_0 : w7.cell? ⟨gb126, 0, none⟩ = some (.int .i64 a0_0) := (blk_cell BK126.out 0).trans rfl; have hcz8_1 : w7.cell? ⟨gb126, 1, none⟩ = some (.int .i64 a0_1) := (blk_cell BK126.out 1).trans rfl; have hcz8_2 : w7.cell? ⟨gb126, 2, none⟩ = some (.string a0_2) := (blk_cell BK126.out 2).trans rfl; have hcz8_3 : w7.cell? ⟨gb126, 3, none⟩ = some (.slice A0_3 l0_3.length c0_3) := (blk_cell BK126.out 3).trans rfl; have hcz8_4 : w7.cell? ⟨gb126, 4, none⟩ = some (.slice A0_4 l0_4.length c0_4) := (blk_cell BK126.out 4).trans rfl; have hfz8_0 := blk_frozen BK126.out 0; have hfz8_1 := blk_frozen BK126.out 1; have hfz8_2 := blk_frozen BK126.out 2; have hfz8_3 := blk_frozen BK126.out 3; have hfz8_4 := blk_frozen BK126.out 4) | ((with_reducible refine gate_callee (f := 23) rfl ?_); refine goesL_ (some 7) rfl rfl Tryz.func23 (by kernel_rfl) rfl #[.agg #[.int .i64 a0_0, .int .i64 a0_1, .string a0_2, .slice A0_3 l0_3.length c0_3, .slice A0_4 l0_4.length c0_4]] rfl (by (try simp only [List.map_toArray, List.map_cons, List.map_nil]); first | done | rfl | (simp only [List.length_drop, List.length_take]; rfl)) ?_; (with_reducible refine (value_text.calls k a0_0 a0_1 a0_2 _ _ l0_3 _ _ l0_4 t128 _ ?side5 ?side1 ?side2 ?side3 ?side4 A4.out).mono ?_); (case side1 => repeat (first | exact (Kd.C_below HR0_3.out HB.out) | (with_reducible refine Kd.C_alloc ?_ _) | (with_reducible refine Kd.C_drewN ?_ _) | (with_reducible refine Kd.C_drew ?_))); (case side2 => exact HC0_3.out); (case side3 => repeat (first | exact (Kd.C_below HR0_4.out HB.out) | (with_reducible refine Kd.C_alloc ?_ _) | (with_reducible refine Kd.C_drewN ?_ _) | (with_reducible refine Kd.C_drew ?_))); (case side4 => exact HC0_4.out); (case side5 => exact Gl.below HGL.out (by repeat (first | (with_reducible first | exact HB.out | apply below_alloc | apply pw_below_drewN | apply below_drew1 | refine below_set ?_ GE126.out) | exact HB.out))); rintro e w9 ⟨rfl, hb⟩; refine ⟨_, rfl, ?_⟩; have n0_ := Aside0.mk (blk_below (g := gb126) (o := .cells #[.int .i64 a0_0, .int .i64 a0_1, .string a0_2, .slice A0_3 l0_3.length c0_3, .slice A0_4 l0_4.length c0_4] 25 (0, 0)) (by (with_reducible repeat (first | refine blk_drewN ?_ _ | refine blk_drew ?_ | refine blk_alloc ?_ _)); exact BK126.out) hb); have n1_ := Aside0.mk (below_step (by repeat (first | (with_reducible first | exact HB.out | apply below_alloc | apply pw_below_drewN | apply below_drew1 | refine below_set ?_ GE126.out) | exact HB.out)) hb); clear BK126; clear HB; have BK126 := n0_; have HB := n1_; clear n0_ n1_; (try clear hb); (try clear hb2); (try clear hk); (try clear hi)))
  go_ret
  exact ⟨by first | rfl | (simp [errW_none, errW_some] <;> rfl) | (simp [*, errW_none, errW_some] <;> rfl), by repeat (first | (with_reducible first | exact HB.out | apply below_alloc | apply pw_below_drewN | apply below_drew1 | refine below_set ?_ GE126.out) | exact HB.out)⟩
 ·replace c3 := Bool.eq_false_iff.mpr c3
  subst c3
  have H1 : (some (⟨#[]⟩ : ByteArray)) = some r := by rw [if_neg (show ¬ (false = true) by decide)] at H; exact H
  clear H
  have H := H1
  clear H1
  obtain rfl := Option.some.inj H
  go_enter Tryz.func10, Tryz.ntmps10
  go_wp2_with (first | ((with_reducible refine gate_dst (N := 1) rfl ?_); refine box_event ?hg (N := 1) ?hd (cs := #[.int .i64 a0_0, .int .i64 a0_1, .string a0_2, .slice A0_3 l0_3.length c0_3, .slice A0_4 l0_4.length c0_4]) (t := 25) ?hr ?_; (case hd => rfl); (case hg => rfl); (case hr => first | (go_simp; done) | (go_simp; rfl)); intro gb126 hg w10 hbox hb; have n0_ := Aside0.mk (below_step (by repeat (first | (with_reducible first | exact HB.out | apply below_alloc | apply pw_below_drewN | apply below_drew1) | exact HB.out)) hb); have n1_ := Aside0.mk (hbox); have n2_ := Aside0.mk ((by rw [hg]; exact (below_size (by repeat (first | (with_reducible first | exact HB.out | apply below_alloc | apply pw_below_drewN | apply below_drew1) | exact HB.out))) : w.heap.size ≤ gb126)); have n3_ := Aside0.mk ((by rw [hg]; exact (below_size (by repeat (first | (with_reducible first | exact HB.out | apply below_alloc | apply pw_below_drewN | apply below_drew1) | exact HB.out))) : w.heap.size ≤ gb126)); clear HB; have HB := n0_; have BK126 := n1_; have GW126 := n2_; have GE126 := n3_; clear n0_ n1_ n2_ n3_; clear hb hbox hg; have hcz11_0 : w10.cell? ⟨gb126, 0, none⟩ = some (.int .i64 a0_0) := (blk_cell BK126.out 0).trans rfl; have hcz11_1 : w10.cell? ⟨gb126, 1, none⟩ = some (.int .i64 a0_1) := (blk_cell BK126.out 1).trans rfl; have hcz11_2 : w10.cell? ⟨gb126, 2, none⟩ = some (.string a0_2) := (blk_cell BK126.out 2).trans rfl; have hcz11_3 : w10.cell? ⟨gb126, 3, none⟩ = some (.slice A0_3 l0_3.length c0_3) := (blk_cell BK126.out 3).trans rfl; have hcz11_4 : w10.cell? ⟨gb126, 4, none⟩ = some (.slice A0_4 l0_4.length c0_4) := (blk_cell BK126.out 4).trans rfl; have hfz11_0 := blk_frozen BK126.out 0; have hfz11_1 := blk_frozen BK126.out 1; have hfz11_2 := blk_frozen BK126.out 2; have hfz11_3 := blk_frozen BK126.out 3; have hfz11_4 := blk_frozen BK126.out 4) | ((with_reducible refine gate_callee (f := 22) rfl ?_); refine goesL_ (some 4) rfl rfl Tryz.func22 (by kernel_rfl) rfl #[.agg #[.int .i64 a0_0, .int .i64 a0_1, .string a0_2, .slice A0_3 l0_3.length c0_3, .slice A0_4 l0_4.length c0_4]] rfl (by (try simp only [List.map_toArray, List.map_cons, List.map_nil]); first | done | rfl | (simp only [List.length_drop, List.length_take]; rfl)) ?_; (with_reducible refine (value_Check.calls a0_0 a0_1 a0_2 _ _ l0_3 _ _ l0_4 false _ ?side1 ?side2 ?side3 ?side4 A2.out).mono ?_); (case side1 => repeat (first | exact (Kd.C_below HR0_3.out HB.out) | (with_reducible refine Kd.C_alloc ?_ _) | (with_reducible refine Kd.C_drewN ?_ _) | (with_reducible refine Kd.C_drew ?_))); (case side2 => exact HC0_3.out); (case side3 => repeat (first | exact (Kd.C_below HR0_4.out HB.out) | (with_reducible refine Kd.C_alloc ?_ _) | (with_reducible refine Kd.C_drewN ?_ _) | (with_reducible refine Kd.C_drew ?_))); (case side4 => exact HC0_4.out); rintro e w12 ⟨rfl, hb⟩; refine ⟨_, rfl, ?_⟩; have n0_ := Aside0.mk (blk_below (g := gb126) (o := .cells #[.int .i64 a0_0, .int .i64 a0_1, .string a0_2, .slice A0_3 l0_3.length c0_3, .slice A0_4 l0_4.length c0_4] 25 (0, 0)) (by (with_reducible repeat (first | refine blk_drewN ?_ _ | refine blk_drew ?_ | refine blk_alloc ?_ _)); exact BK126.out) hb); have n1_ := Aside0.mk (below_step (by repeat (first | (with_reducible first | exact HB.out | apply below_alloc | apply pw_below_drewN | apply below_drew1 | refine below_set ?_ GE126.out) | exact HB.out)) hb); clear BK126; clear HB; have BK126 := n0_; have HB := n1_; clear n0_ n1_; (try clear hb); (try clear hb2); (try clear hk); (try clear hi)))
  go_ret
  exact ⟨by first | rfl | (simp [errW_none, errW_some] <;> rfl) | (simp [*, errW_none, errW_some] <;> rfl), by repeat (first | (with_reducible first | exact HB.out | apply below_alloc | apply pw_below_drewN | apply below_drew1 | refine below_set ?_ GE126.out) | exact HB.out)⟩

end
end Go.Proofs.YtegppacnkfeaoaaGreatDoor.G

/- What value's text and the reference's (as Lean functions) come to. No program's run. -/
namespace Go.Proofs.YtegppacnkfeaoaaGreatDoor.G
open Go.RowKit Go.Gw Go.Proofs.YtegppacnkfeaoaaGreatDoorW.PrintWords
set_option linter.unusedVariables false
set_option linter.unusedSimpArgs false
variable [Inhabited Bound]

theorem all_text {l : List S25} (hl : l.length ≤ 1000000) (h : ∀ x ∈ l, SizeOf.sizeOf x < bnd ∧ mayText x) : value_all.f l 23 = some (l.map textT) := by
  unfold value_all.f
  rw [if_pos hl, if_pos rfl, if_pos h]
theorem quote_f {s : ByteArray} (h : s.size ≤ 1000000) : lex_Quote.f s = some (quoteS s) := by unfold lex_Quote.f; rw [if_pos h]
theorem rquote_f {s : ByteArray} (h : s.size ≤ 1000000) : bloomeryref09_Quote.f s = some (quoteS s) := by unfold bloomeryref09_Quote.f; rw [if_pos h]
theorem num_f {n : Int} (h : Pk.inRange n) : pack_Num.f n = some (numS n) := by unfold pack_Num.f; rw [if_pos h]
theorem rnum_f {n : Int} (h : Pk.inRange n) : bloomeryref01_Num.f n = some (numS n) := by unfold bloomeryref01_Num.f; rw [if_pos h]
theorem join_f {l : List ByteArray} {sep : ByteArray} (h1 : l.length ≤ 1000000) (h2 : (joinS l sep).size ≤ 10000000) : strings_Join.f l sep = some (joinS l sep) := by unfold strings_Join.f; rw [if_pos ⟨h1, h2⟩]

/-- The pieces of a dict, one by one. -/
def pieceS (key t : ByteArray) : ByteArray := quoteS key ++ ⟨#[58, 32]⟩ ++ t
theorem text_loop (ks : List ByteArray) (hk : ∀ s ∈ ks, s.size ≤ 65536) (hl : ks.length ≤ 1000) : ∀ (kb ka done tb : List ByteArray), ks = ka ++ kb → kb.length = tb.length → done.length = ka.length → (∀ t ∈ tb, t.size ≤ 1000000) → (joinS (done ++ List.zipWith pieceS kb tb) ⟨#[44, 32]⟩).size ≤ 1000000 →
    Ev (fun k => value_text.l0 k (done ++ tb) ks (ks.length : Int) (ka.length : Int)) (⟨#[123]⟩ ++ joinS (done ++ List.zipWith pieceS kb tb) ⟨#[44, 32]⟩ ++ ⟨#[125]⟩) := by
  intro kb
  induction kb with
  | nil =>
    intro ka done tb e h1 h2 h3 h4
    obtain rfl : tb = [] := by cases tb with | nil => rfl | cons a b => simp at h1
    rw [List.zipWith_nil_left, List.append_nil] at h4 ⊢
    have e0 : ks.length = ka.length := by rw [e]; simp
    refine Ev.step (f := fun _ => some (⟨#[123]⟩ ++ joinS done ⟨#[44, 32]⟩ ++ ⟨#[125]⟩)) (fun k => ?_) (Ev.now _)
    have e1 : ((⟨#[123]⟩ : ByteArray) ++ joinS done ⟨#[44, 32]⟩).size = 1 + (joinS done ⟨#[44, 32]⟩).size := by rw [ByteArray.size_append]; rfl
    rw [value_text.l0, if_neg (by omega), join_f (by omega) (by omega), Option.bind_some, if_pos (by omega), if_pos (by omega)]
  | cons key kb ih =>
    intro ka done tb e h1 h2 h3 h4
    obtain ⟨t, tb, rfl⟩ : ∃ t r, tb = t :: r := by cases tb with | nil => simp at h1 | cons a b => exact ⟨a, b, rfl⟩
    have h0 : ks.length = ka.length + (kb.length + 1) := by rw [e]; simp
    have hkey : key.size ≤ 65536 := hk key (by rw [e]; simp)
    have ht : t.size ≤ 1000000 := h3 t List.mem_cons_self
    have hq := quoteS_size key
    have e1 : (quoteS key ++ (⟨#[58, 32]⟩ : ByteArray)).size = (quoteS key).size + 2 := by rw [ByteArray.size_append]; rfl
    have er : rdOf ByteArray.empty ks (ka.length : Int) = key := by rw [e]; exact rdOf_mid ka key kb
    have er2 : rdOf ByteArray.empty (done ++ t :: tb) (ka.length : Int) = t := by rw [← h2]; exact rdOf_mid done t tb
    have ew : wrap64 ((ka.length : Int) + 1) = ((ka ++ [key]).length : Int) := by rw [w64 (by omega) (by omega)]; simp
    have es : (done ++ t :: tb).set (ka.length : Int).toNat (quoteS key ++ ⟨#[58, 32]⟩ ++ t) = (done ++ [pieceS key t]) ++ tb := by
      rw [Int.toNat_natCast, ← h2, List.set_append_right _ _ (Nat.le_refl _), Nat.sub_self, List.set_cons_zero, List.append_assoc]
      rfl
    have el : ((done ++ t :: tb).length : Int) = (done.length : Int) + 1 + tb.length := by simp; omega
    have hz : done ++ List.zipWith pieceS (key :: kb) (t :: tb) = (done ++ [pieceS key t]) ++ List.zipWith pieceS kb tb := by rw [List.zipWith_cons_cons, List.append_assoc]; rfl
    rw [hz] at h4 ⊢
    refine Ev.step (f := fun k => value_text.l0 k ((done ++ [pieceS key t]) ++ tb) ks (ks.length : Int) ((ka ++ [key]).length : Int)) (fun k => ?_) (ih (ka ++ [key]) (done ++ [pieceS key t]) tb (by rw [e]; simp) (by simpa using h1) (by simp [h2]) (fun x hx => h3 x (List.mem_cons_of_mem _ hx)) h4)
    rw [value_text.l0, if_pos (by omega), if_pos (by omega), if_pos (by omega), er, quote_f (by omega), Option.bind_some, if_pos (by omega), if_pos (by omega), er2, if_pos (by omega), ew, es]
theorem text_ev (v : S25) (hv : mayText v) (hb : ∀ x ∈ v.f3, SizeOf.sizeOf x < bnd) : Ev (fun k => value_text.f k v.f0 v.f1 v.f2 v.f3 v.f4) (textT v) := by
  obtain ⟨n1, n2, n3, n4, n5, _⟩ := node_len hv.1.here.1
  have hr := hv.1.here.2
  have ha := all_text (l := v.f3) (by omega) (fun x hx => ⟨hb x hx, hv.kid hx⟩)
  have step : ∀ {g : Nat → Option ByteArray}, (∀ k, value_text.f (k + 1) v.f0 v.f1 v.f2 v.f3 v.f4 = g k) → Ev g (textT v) → Ev (fun k => value_text.f k v.f0 v.f1 v.f2 v.f3 v.f4) (textT v) := fun h e => Ev.step h e
  by_cases k1 : v.f0 = 1
  · refine step (g := fun _ => some (textT v)) (fun k => ?_) (Ev.now _)
    rw [value_text.f, if_pos k1, textT_eq, if_pos k1]
    split <;> rfl
  by_cases k2 : v.f0 = 2
  · refine step (g := fun _ => some (textT v)) (fun k => ?_) (Ev.now _)
    rw [value_text.f, if_neg k1, if_pos k2, num_f hr, textT_eq, if_neg k1, if_pos k2]; rfl
  by_cases k3 : v.f0 = 3
  · refine step (g := fun _ => some (textT v)) (fun k => ?_) (Ev.now _)
    rw [value_text.f, if_neg k1, if_neg k2, if_pos k3, quote_f (by omega), textT_eq, if_neg k1, if_neg k2, if_pos k3]; rfl
  by_cases k4 : v.f0 = 4
  · refine step (g := fun _ => some (textT v)) (fun k => ?_) (Ev.now _)
    have hj := join_le_text (v := v) (.inl k4)
    have hp : pieces v.f0 v.f4 (v.f3.map textT) = v.f3.map textT := by unfold pieces; rw [if_neg (by omega)]
    rw [hp] at hj
    have := hv.2
    have e1 : ((⟨#[91]⟩ : ByteArray) ++ joinS (v.f3.map textT) ⟨#[44, 32]⟩).size = 1 + (joinS (v.f3.map textT) ⟨#[44, 32]⟩).size := by rw [ByteArray.size_append]; rfl
    rw [value_text.f, if_neg k1, if_neg k2, if_neg k3, if_pos k4, ha, Option.bind_some, join_f (by rw [List.length_map]; omega) (by omega), Option.bind_some, if_pos (by omega), if_pos (by omega), textT_eq, if_neg k1, if_neg k2, if_neg k3, if_pos k4]
  by_cases k5 : v.f0 = 5
  · have hj := join_le_text (v := v) (.inr k5)
    have hp : pieces v.f0 v.f4 (v.f3.map textT) = List.zipWith pieceS v.f4 (v.f3.map textT) := by unfold pieces; rw [if_pos k5]; rfl
    rw [hp] at hj
    have hsz := hv.2
    have e := text_loop v.f4 n4 n2 v.f4 [] [] (v.f3.map textT) rfl (by rw [List.length_map]; exact (n5 k5).symm) rfl (fun t ht => by
      obtain ⟨x, hx, rfl⟩ := List.mem_map.1 ht
      exact (hv.kid hx).2) (by rw [List.nil_append]; omega)
    refine step (g := fun k => value_text.l0 k (v.f3.map textT) v.f4 (v.f4.length : Int) 0) (fun k => ?_) (Ev.to e ?_)
    · rw [value_text.f, if_neg k1, if_neg k2, if_neg k3, if_neg k4, if_pos k5, ha, Option.bind_some]
    · rw [textT_eq, if_neg k1, if_neg k2, if_neg k3, if_neg k4, if_pos k5]; rfl
  · refine step (g := fun _ => some (textT v)) (fun k => ?_) (Ev.now _)
    rw [value_text.f, if_neg k1, if_neg k2, if_neg k3, if_neg k4, if_neg k5, textT_eq, if_neg k1, if_neg k2, if_neg k3, if_neg k4, if_neg k5]

end Go.Proofs.YtegppacnkfeaoaaGreatDoor.G

/- Go functions as Lean functions, each with its contract: written by a program of mine over the kit's print. Conditions: each contract's own. -/
namespace Go.Proofs.YtegppacnkfeaoaaGreatDoor.G
open Go.RowKit Go.Proofs.YtegppacnkfeaoaaGreatDoorW.PrintWords Go.Proofs.YtegppacnkfeaoaaGreatDoorW.PrintLast Go.Proofs.YtegppacnkfeaoaaGreatDoorW.PrintMore
attribute [local go_sem] max2_int min2_int max_two min_two max_three min_three max_four min_four   -- for this text's walks alone
set_option linter.unusedVariables false
set_option linter.unusedSimpArgs false
noncomputable section
variable [Inhabited Bound]

/-! ### bloomerylaw11_fixed: function 9 -/
def bloomerylaw11_fixed.f (k : Nat)  : Option (Bool) := (value_Print.f k 4 0 (⟨#[]⟩ : ByteArray) (([(⟨2, 1, (⟨#[]⟩ : ByteArray), ([] : List (S25)), ([] : List ByteArray)⟩ : S25), (⟨3, 0, (⟨#[97]⟩ : ByteArray), ([] : List (S25)), ([] : List ByteArray)⟩ : S25)] : List (S25))) ([] : List ByteArray)).bind fun t132 => (some (t132.toList == ([91, 49, 44, 32, 34, 97, 34, 93] : List UInt8)))
set_option maxHeartbeats 8000000 in
set_option maxRecDepth 100000 in
theorem bloomerylaw11_fixed.calls (k : Nat)  (r : Bool) (w : World) (hgl : Gl w) (h : bloomerylaw11_fixed.f k  = some r) :
  Calls Tryz.prog 9 #[] w fun e w' => e = .returned (.bool r) ∧ Below w.heap.size w w' := by
 have HGL := Aside0.mk hgl
 clear hgl
 have hu25 := Tryz.underlying25
 have HB := Aside0.mk (Below.refl w.heap.size w)
 have H : ((value_Print.f k 4 0 (⟨#[]⟩ : ByteArray) (([(⟨2, 1, (⟨#[]⟩ : ByteArray), ([] : List (S25)), ([] : List ByteArray)⟩ : S25), (⟨3, 0, (⟨#[97]⟩ : ByteArray), ([] : List (S25)), ([] : List ByteArray)⟩ : S25)] : List (S25))) ([] : List ByteArray)).bind fun t132 => (some (t132.toList == ([91, 49, 44, 32, 34, 97, 34, 93] : List UInt8)))) = some r := h
 clear h
 obtain ⟨y129, hy129⟩ : ∃ y_ : List (S25), y_ = (([(⟨2, 1, (⟨#[]⟩ : ByteArray), ([] : List (S25)), ([] : List ByteArray)⟩ : S25), (⟨3, 0, (⟨#[97]⟩ : ByteArray), ([] : List (S25)), ([] : List ByteArray)⟩ : S25)] : List (S25))) := ⟨_, rfl⟩
 replace H : ((value_Print.f k 4 0 (⟨#[]⟩ : ByteArray) y129 ([] : List ByteArray)).bind fun t132 => (some (t132.toList == ([91, 49, 44, 32, 34, 97, 34, 93] : List UInt8)))) = some r := by first | (rw [hy129]; with_reducible exact H) | (have H2_ := (Option.bind_some _ _).symm.trans H; rw [hy129]; with_reducible exact H2_) | (have H2_ := (Option.bind_some _ _).symm.trans H; with_reducible exact H2_) | with_reducible exact H | (rw [hy129]; exact H) | exact H
 have Ny129 := Aside0.mk hy129
 clear hy129
 replace H := Option.bind_eq_some_iff.mp H
 obtain ⟨t132, A10, H⟩ := H
 replace H : (some (t132.toList == ([91, 49, 44, 32, 34, 97, 34, 93] : List UInt8))) = some r := H
 have A1 := Aside0.mk A10
 clear A10
 obtain rfl := Option.some.inj H
 go_enter Tryz.func9, Tryz.ntmps9
 go_wp2_with (first | ((with_reducible refine gate_dst (N := 3) rfl ?_); refine Kd.R_lit k25 _ 25 ?hg (N := 3) ?hd (xs := ([(⟨2, 1, (⟨#[]⟩ : ByteArray), ([] : List (S25)), ([] : List ByteArray)⟩ : S25), (⟨3, 0, (⟨#[97]⟩ : ByteArray), ([] : List (S25)), ([] : List ByteArray)⟩ : S25)] : List (S25))) (inner := [.int .i64 2, .int .i64 1, .string (⟨#[]⟩ : ByteArray), .slice none 0 0, .slice none 0 0, .int .i64 3, .int .i64 0, .string (⟨#[97]⟩ : ByteArray), .slice none 0 0, .slice none 0 0]) (ok := fun _ => True) (okp := fun _ => True) ?hr ?hp (fun _ hk => hk) trivial (Below.refl _ _) (Nat.le_refl _) (by simp) ?_; (case hd => rfl); (case hg => rfl); (case hr => first | (go_simp; done) | (go_simp; rfl)); (case hp => exact (Reps.c5 (show Kd.M k25 _ _ _ (⟨2, 1, (⟨#[]⟩ : ByteArray), ([] : List (S25)), ([] : List ByteArray)⟩ : S25) [.int .i64 2, .int .i64 1, .string (⟨#[]⟩ : ByteArray), .slice none 0 0, .slice none 0 0] from (k25_mkM _ _ _ (⟨2, 1, (⟨#[]⟩ : ByteArray), ([] : List (S25)), ([] : List ByteArray)⟩ : S25) (Kd.R_nil _ _ _ _ _) (Kd.R_nil _ _ _ _ _))) (Reps.c5 (show Kd.M k25 _ _ _ (⟨3, 0, (⟨#[97]⟩ : ByteArray), ([] : List (S25)), ([] : List ByteArray)⟩ : S25) [.int .i64 3, .int .i64 0, .string (⟨#[97]⟩ : ByteArray), .slice none 0 0, .slice none 0 0] from (k25_mkM _ _ _ (⟨3, 0, (⟨#[97]⟩ : ByteArray), ([] : List (S25)), ([] : List ByteArray)⟩ : S25) (Kd.R_nil _ _ _ _ _) (Kd.R_nil _ _ _ _ _))) (Reps.none _ _)))); intro v130 w2 ho3 hb hg_ hnew_; clear hg_ hnew_; (first | rw [← Ny129.out] at ho3 | (simp only [Int.reduceToNat] at ho3; rw [← Ny129.out] at ho3)); have n0_ := Aside0.mk (Kd.R_lower ho3 (below_size (by repeat (first | (with_reducible first | exact HB.out | apply below_alloc | apply pw_below_drewN | apply below_drew1) | exact HB.out)))); have n1_ := Aside0.mk (below_step (by repeat (first | (with_reducible first | exact HB.out | apply below_alloc | apply pw_below_drewN | apply below_drew1) | exact HB.out)) hb); clear HB; have HO131 := n0_; have HB := n1_; clear n0_ n1_; clear hb ho3; obtain ⟨Ao4, co4, eo4⟩ := Kd.R_slice HO131.out; subst eo4) | ((with_reducible refine gate_callee (f := 10) rfl ?_); refine goesL_ (some 5) rfl rfl Tryz.func10 (by kernel_rfl) rfl #[.agg #[.int .i64 4, .int .i64 0, .string (⟨#[]⟩ : ByteArray), .slice Ao4 y129.length co4, .slice none 0 0]] rfl (by (try simp only [List.map_toArray, List.map_cons, List.map_nil]); first | done | rfl | (simp only [List.length_drop, List.length_take]; rfl)) ?_; (refine (value_Print.calls k 4 0 (⟨#[]⟩ : ByteArray) _ _ y129 _ _ ([] : List ByteArray) t132 _ ?side5 ?side1 ?side2 ?side3 ?side4 A1.out).mono ?_); (case side1 => repeat (first | exact (Kd.R_reads' HO131.out).2.2 | (with_reducible refine Kd.C_alloc ?_ _) | (with_reducible refine Kd.C_drewN ?_ _) | (with_reducible refine Kd.C_drew ?_))); (case side2 => exact (Kd.R_reads' HO131.out).2.1); (case side3 => exact Kd.C_nil _ _); (case side4 => exact Nat.le_refl _); (case side5 => exact Gl.below HGL.out (by repeat (first | (with_reducible first | exact HB.out | apply below_alloc | apply pw_below_drewN | apply below_drew1) | exact HB.out))); rintro e w5 ⟨rfl, hb⟩; refine ⟨_, rfl, ?_⟩; have n0_ := Aside0.mk (Kd.R_below (by (with_reducible repeat (first | apply Kd.R_alloc | apply Kd.R_drewN | apply Kd.R_drew)); exact HO131.out) hb); have n1_ := Aside0.mk (below_step (by repeat (first | (with_reducible first | exact HB.out | apply below_alloc | apply pw_below_drewN | apply below_drew1) | exact HB.out)) hb); clear HO131; clear HB; have HO131 := n0_; have HB := n1_; clear n0_ n1_; (try clear hb); (try clear hb2); (try clear hk); (try clear hi)))
 go_ret
 exact ⟨by first | rfl | (simp [errW_none, errW_some] <;> rfl) | (simp [*, errW_none, errW_some] <;> rfl), by repeat (first | (with_reducible first | exact HB.out | apply below_alloc | apply pw_below_drewN | apply below_drew1) | exact HB.out)⟩

end
end Go.Proofs.YtegppacnkfeaoaaGreatDoor.G

/- The document's example of layer 11. -/
namespace Go.Proofs.YtegppacnkfeaoaaGreatDoor.G
open Go.RowKit Go.Gw Go.Proofs.YtegppacnkfeaoaaGreatDoorW.PrintWords
set_option linter.unusedVariables false
set_option linter.unusedSimpArgs false

/-! ### the document's example -/
def exI : S25 := ⟨2, 1, ⟨#[]⟩, [], []⟩
def exS : S25 := ⟨3, 0, ⟨#[97]⟩, [], []⟩
def exV : S25 := ⟨4, 0, ⟨#[]⟩, [exI, exS], []⟩
theorem exI_node : nodeR exI := ⟨by simp [nodeP, exI]; rfl, by unfold Pk.inRange exI; simp⟩
theorem exS_node : nodeR exS := ⟨by simp [nodeP, exS]; decide, by unfold Pk.inRange exS; simp⟩
theorem exV_node : nodeR exV := ⟨by simp [nodeP, exV]; rfl, by unfold Pk.inRange exV; simp⟩
theorem exV_all : AllV nodeR exV := ⟨exV, exV_node, fun x hx => by
  have : x = exI ∨ x = exS := by simpa [exV] using hx
  rcases this with rfl | rfl
  · exact ⟨exI, exI_node, fun y hy => by cases hy⟩
  · exact ⟨exS, exS_node, fun y hy => by cases hy⟩⟩
theorem exV_check : checkT exV = true := by
  rw [checkT_iff]
  exact ⟨by simp [cnt, cnts, exV, exI, exS], by simp [depth, depths, exV, exI, exS], AllV.imp (fun v h => h.1) _ exV_all⟩
theorem exV_text : textT exV = ⟨#[91, 49, 44, 32, 34, 97, 34, 93]⟩ := by
  have e1 : numS 1 = ⟨#[49]⟩ := by
    unfold numS
    have : Lib.itoa 1 = [49] := by
      unfold Lib.itoa
      rw [if_neg (by decide)]
      exact Lib.decDigits_one (i := 1) (by decide)
    rw [this]
  have e2 : quoteS ⟨#[97]⟩ = ⟨#[34, 97, 34]⟩ := by decide
  have e3 : textT exI = ⟨#[49]⟩ := by rw [textT_eq]; exact e1
  have e4 : textT exS = ⟨#[34, 97, 34]⟩ := by rw [textT_eq]; exact e2
  rw [textT_eq]
  show ⟨#[91]⟩ ++ joinS [textT exI, textT exS] ⟨#[44, 32]⟩ ++ ⟨#[93]⟩ = _
  rw [e3, e4]
  decide
/-- How great the example is. -/
noncomputable def exN : Nat := SizeOf.sizeOf exV

theorem eta (v : S25) : (⟨v.f0, v.f1, v.f2, v.f3, v.f4⟩ : S25) = v := by cases v; rfl
section
variable [Inhabited Bound]
theorem print_ev (v : S25) (hb : ∀ x ∈ v.f3, SizeOf.sizeOf x < bnd) (hm : checkT v = true → mayText v) : Ev (fun k => value_Print.f k v.f0 v.f1 v.f2 v.f3 v.f4) (if checkT v = true then textT v else ⟨#[]⟩) := by
  unfold value_Print.f value_Check.f
  rw [eta v]
  refine Ev.congr (fun k => Option.bind_some _ _) ?_
  by_cases h : checkT v = true
  · exact Ev.pos h (Ev.to (Ev.bind (f := fun k t => some t) (text_ev v (hm h) hb) (Ev.now _)) (by rw [if_pos h]))
  · exact Ev.neg h (Ev.to (Ev.now _) (by rw [if_neg h]))
theorem fixed_ev (hN : exN ≤ bnd) : Ev (fun k => bloomerylaw11_fixed.f k) true := by
  have hsz : ∀ x ∈ exV.f3, SizeOf.sizeOf x < bnd := fun x hx => Nat.lt_of_lt_of_le (size_mem hx) hN
  have h := print_ev exV hsz (fun _ => ⟨exV_all, by rw [exV_text]; decide⟩)
  rw [if_pos exV_check, exV_text] at h
  have h2 : Ev (fun k => value_Print.f k 4 0 (⟨#[]⟩ : ByteArray) [(⟨2, 1, ⟨#[]⟩, [], []⟩ : S25), ⟨3, 0, ⟨#[97]⟩, [], []⟩] []) (⟨#[91, 49, 44, 32, 34, 97, 34, 93]⟩ : ByteArray) := h
  unfold bloomerylaw11_fixed.f
  refine Ev.to (Ev.bind (f := fun k t => some (t.toList == ([91, 49, 44, 32, 34, 97, 34, 93] : List UInt8))) h2 (Ev.now _)) ?_
  rw [Lib.toList_data]
  decide
end
end Go.Proofs.YtegppacnkfeaoaaGreatDoor.G

/- Go functions as Lean functions, each with its contract: written by a program of mine over the kit's print. Conditions: each contract's own. -/
namespace Go.Proofs.YtegppacnkfeaoaaGreatDoor.G
open Go.RowKit Go.Proofs.YtegppacnkfeaoaaGreatDoorW.PrintWords Go.Proofs.YtegppacnkfeaoaaGreatDoorW.PrintLast Go.Proofs.YtegppacnkfeaoaaGreatDoorW.PrintMore
attribute [local go_sem] max2_int min2_int max_two min_two max_three min_three max_four min_four   -- for this text's walks alone
set_option linter.unusedVariables false
set_option linter.unusedSimpArgs false
noncomputable section
variable [Inhabited Bound]

/-! ### bloomeryref11_text: function 24 -/
mutual
def bloomeryref11_text.l0 : Nat → ByteArray → Int → Int → Int → Int → ByteArray → List (S25) → List ByteArray → Option (ByteArray)
 | 0, _, _, _, _, _, _, _, _ => none
 | k + 1, x3, x26, x27, x154000, x154001, x154002, x154003, x154004 => if x27 < x26 then (if x27 > 0 then (if x3.size + 2 ≤ 9223372036854775807 then (bloomeryref11_text.j1 k (x3 ++ (⟨#[44, 32]⟩ : ByteArray)) x27 x26 x27 x154000 x154001 x154002 x154003 x154004) else (none)) else (bloomeryref11_text.j1 k x3 x27 x26 x27 x154000 x154001 x154002 x154003 x154004)) else (if x154000 = 4 then (if 1 + x3.size ≤ 9223372036854775807 then (if ((⟨#[91]⟩ : ByteArray) ++ x3).size + 1 ≤ 9223372036854775807 then (some (((⟨#[91]⟩ : ByteArray) ++ x3) ++ (⟨#[93]⟩ : ByteArray))) else (none)) else (none)) else (if 1 + x3.size ≤ 9223372036854775807 then (if ((⟨#[123]⟩ : ByteArray) ++ x3).size + 1 ≤ 9223372036854775807 then (some (((⟨#[123]⟩ : ByteArray) ++ x3) ++ (⟨#[125]⟩ : ByteArray))) else (none)) else (none)))
def bloomeryref11_text.j1 : Nat → ByteArray → Int → Int → Int → Int → Int → ByteArray → List (S25) → List ByteArray → Option (ByteArray)
 | 0, _, _, _, _, _, _, _, _, _ => none
 | k + 1, x3, x4, x26, x27, x154000, x154001, x154002, x154003, x154004 => if x154000 = 5 then (if 0 ≤ x4 then (if x4 < (x154004.length : Int) then ((bloomeryref09_Quote.f (rdOf ByteArray.empty x154004 x4)).bind fun t157 => (if x3.size + t157.size ≤ 9223372036854775807 then (if (x3 ++ t157).size + 2 ≤ 9223372036854775807 then (if x4 < (x154003.length : Int) then ((bloomeryref11_text.f k ((rd_T25 x154003 x4).f0) ((rd_T25 x154003 x4).f1) ((rd_T25 x154003 x4).f2) ((rd_T25 x154003 x4).f3) ((rd_T25 x154003 x4).f4)).bind fun t159 => (if ((x3 ++ t157) ++ (⟨#[58, 32]⟩ : ByteArray)).size + t159.size ≤ 9223372036854775807 then (bloomeryref11_text.l0 k (((x3 ++ t157) ++ (⟨#[58, 32]⟩ : ByteArray)) ++ t159) x26 (wrap64 (x27 + 1)) x154000 x154001 x154002 x154003 x154004) else (none))) else (none)) else (none)) else (none))) else (none)) else (none)) else (if 0 ≤ x4 then (if x4 < (x154003.length : Int) then ((bloomeryref11_text.f k ((rd_T25 x154003 x4).f0) ((rd_T25 x154003 x4).f1) ((rd_T25 x154003 x4).f2) ((rd_T25 x154003 x4).f3) ((rd_T25 x154003 x4).f4)).bind fun t161 => (if x3.size + t161.size ≤ 9223372036854775807 then (bloomeryref11_text.l0 k (x3 ++ t161) x26 (wrap64 (x27 + 1)) x154000 x154001 x154002 x154003 x154004) else (none))) else (none)) else (none))
def bloomeryref11_text.f : Nat → Int → Int → ByteArray → List (S25) → List ByteArray → Option (ByteArray)
 | 0, _, _, _, _, _ => none
 | k + 1, a0_0, a0_1, a0_2, l0_3, l0_4 => if a0_0 = 0 then (some (⟨#[110, 111, 110, 101]⟩ : ByteArray)) else (if a0_0 = 1 then (if a0_1 = 1 then (some (⟨#[116, 114, 117, 101]⟩ : ByteArray)) else (some (⟨#[102, 97, 108, 115, 101]⟩ : ByteArray))) else (if a0_0 = 2 then ((bloomeryref01_Num.f a0_1).bind fun t154 => (some t154)) else (if a0_0 = 3 then ((bloomeryref09_Quote.f a0_2).bind fun t155 => (some t155)) else (bloomeryref11_text.l0 k (⟨#[]⟩ : ByteArray) (l0_3.length : Int) 0 a0_0 a0_1 a0_2 l0_3 l0_4))))
end
set_option maxHeartbeats 8000000 in
set_option maxRecDepth 100000 in
theorem bloomeryref11_text.calls (k : Nat) : ∀ (a0_0 : Int) (a0_1 : Int) (a0_2 : ByteArray) (A0_3 : Option Addr) (c0_3 : Nat) (l0_3 : List (S25)) (A0_4 : Option Addr) (c0_4 : Nat) (l0_4 : List ByteArray) (r : ByteArray) (w : World) (hr0_3 : Kd.C k25 w A0_3 l0_3.length l0_3) (hc0_3 : l0_3.length ≤ c0_3) (hr0_4 : Kd.C Kd.string w A0_4 l0_4.length l0_4) (hc0_4 : l0_4.length ≤ c0_4) (h : bloomeryref11_text.f k a0_0 a0_1 a0_2 l0_3 l0_4 = some r),
  Calls Tryz.prog 24 #[.agg #[.int .i64 a0_0, .int .i64 a0_1, .string a0_2, .slice A0_3 l0_3.length c0_3, .slice A0_4 l0_4.length c0_4]] w fun e w' => e = .returned (.string r) ∧ Below w.heap.size w w' := by
 induction k using Nat.strongRecOn with
 | _ k ih =>
 intro a0_0 a0_1 a0_2 A0_3 c0_3 l0_3 A0_4 c0_4 l0_4 r w hr0_3 hc0_3 hr0_4 hc0_4 h
 cases k with
 | zero => exact absurd h (by simp [bloomeryref11_text.f])
 | succ k =>
 simp only [bloomeryref11_text.f] at h
 have hu25 := Tryz.underlying25
 have HR0_3 := Aside0.mk hr0_3
 have HC0_3 := Aside0.mk hc0_3
 clear hr0_3 hc0_3
 have HR0_4 := Aside0.mk hr0_4
 have HC0_4 := Aside0.mk hc0_4
 clear hr0_4 hc0_4
 have HB := Aside0.mk (Below.refl w.heap.size w)
 have H : (if a0_0 = 0 then (some (⟨#[110, 111, 110, 101]⟩ : ByteArray)) else (if a0_0 = 1 then (if a0_1 = 1 then (some (⟨#[116, 114, 117, 101]⟩ : ByteArray)) else (some (⟨#[102, 97, 108, 115, 101]⟩ : ByteArray))) else (if a0_0 = 2 then ((bloomeryref01_Num.f a0_1).bind fun t154 => (some t154)) else (if a0_0 = 3 then ((bloomeryref09_Quote.f a0_2).bind fun t155 => (some t155)) else (bloomeryref11_text.l0 k (⟨#[]⟩ : ByteArray) (l0_3.length : Int) 0 a0_0 a0_1 a0_2 l0_3 l0_4))))) = some r := h
 clear h
 by_cases c2 : a0_0 = 0
 ·rw [if_pos c2] at H
  have c2b0 : (a0_0 == 0) = true := beq_iff_eq.mpr c2
  have c2b1 : (a0_0 != 0) = false := bne_eq_false_iff_eq.mpr c2
  clear c2
  obtain rfl := Option.some.inj H
  go_enter Tryz.func24, Tryz.ntmps24
  go_wp2_with (first | ((with_reducible refine gate_dst (N := 1) rfl ?_); refine box_event ?hg (N := 1) ?hd (cs := #[.int .i64 a0_0, .int .i64 a0_1, .string a0_2, .slice A0_3 l0_3.length c0_3, .slice A0_4 l0_4.length c0_4]) (t := 25) ?hr ?_; (case hd => rfl); (case hg => rfl); (case hr => first | (go_simp; done) | (go_simp; rfl)); intro gb153 hg w3 hbox hb; have n0_ := Aside0.mk (below_step (by repeat (first | (with_reducible first | exact HB.out | apply below_alloc | apply pw_below_drewN | apply below_drew1) | exact HB.out)) hb); have n1_ := Aside0.mk (hbox); have n2_ := Aside0.mk ((by rw [hg]; exact (below_size (by repeat (first | (with_reducible first | exact HB.out | apply below_alloc | apply pw_below_drewN | apply below_drew1) | exact HB.out))) : w.heap.size ≤ gb153)); have n3_ := Aside0.mk ((by rw [hg]; exact (below_size (by repeat (first | (with_reducible first | exact HB.out | apply below_alloc | apply pw_below_drewN | apply below_drew1) | exact HB.out))) : w.heap.size ≤ gb153)); clear HB; have HB := n0_; have BK153 := n1_; have GW153 := n2_; have GE153 := n3_; clear n0_ n1_ n2_ n3_; clear hb hbox hg; have hcz4_0 : w3.cell? ⟨gb153, 0, none⟩ = some (.int .i64 a0_0) := (blk_cell BK153.out 0).trans rfl; have hcz4_1 : w3.cell? ⟨gb153, 1, none⟩ = some (.int .i64 a0_1) := (blk_cell BK153.out 1).trans rfl; have hcz4_2 : w3.cell? ⟨gb153, 2, none⟩ = some (.string a0_2) := (blk_cell BK153.out 2).trans rfl; have hcz4_3 : w3.cell? ⟨gb153, 3, none⟩ = some (.slice A0_3 l0_3.length c0_3) := (blk_cell BK153.out 3).trans rfl; have hcz4_4 : w3.cell? ⟨gb153, 4, none⟩ = some (.slice A0_4 l0_4.length c0_4) := (blk_cell BK153.out 4).trans rfl; have hfz4_0 := blk_frozen BK153.out 0; have hfz4_1 := blk_frozen BK153.out 1; have hfz4_2 := blk_frozen BK153.out 2; have hfz4_3 := blk_frozen BK153.out 3; have hfz4_4 := blk_frozen BK153.out 4))
  go_ret
  exact ⟨by first | rfl | (simp [errW_none, errW_some] <;> rfl) | (simp [*, errW_none, errW_some] <;> rfl), by repeat (first | (with_reducible first | exact HB.out | apply below_alloc | apply pw_below_drewN | apply below_drew1 | refine below_set ?_ GE153.out) | exact HB.out)⟩
 ·rw [if_neg c2] at H
  have c2b0 : (a0_0 == 0) = false := beq_eq_false_iff_ne.mpr c2
  have c2b1 : (a0_0 != 0) = true := bne_iff_ne.mpr c2
  by_cases c5 : a0_0 = 1
  ·rw [if_pos c5] at H
   have c5b0 : (a0_0 == 1) = true := beq_iff_eq.mpr c5
   have c5b1 : (a0_0 != 1) = false := bne_eq_false_iff_eq.mpr c5
   clear c5
   by_cases c6 : a0_1 = 1
   ·rw [if_pos c6] at H
    have c6b0 : (a0_1 == 1) = true := beq_iff_eq.mpr c6
    have c6b1 : (a0_1 != 1) = false := bne_eq_false_iff_eq.mpr c6
    clear c6
    obtain rfl := Option.some.inj H
    go_enter Tryz.func24, Tryz.ntmps24
    go_wp2_with (first | ((with_reducible refine gate_dst (N := 1) rfl ?_); refine box_event ?hg (N := 1) ?hd (cs := #[.int .i64 a0_0, .int .i64 a0_1, .string a0_2, .slice A0_3 l0_3.length c0_3, .slice A0_4 l0_4.length c0_4]) (t := 25) ?hr ?_; (case hd => rfl); (case hg => rfl); (case hr => first | (go_simp; done) | (go_simp; rfl)); intro gb153 hg w7 hbox hb; have n0_ := Aside0.mk (below_step (by repeat (first | (with_reducible first | exact HB.out | apply below_alloc | apply pw_below_drewN | apply below_drew1) | exact HB.out)) hb); have n1_ := Aside0.mk (hbox); have n2_ := Aside0.mk ((by rw [hg]; exact (below_size (by repeat (first | (with_reducible first | exact HB.out | apply below_alloc | apply pw_below_drewN | apply below_drew1) | exact HB.out))) : w.heap.size ≤ gb153)); have n3_ := Aside0.mk ((by rw [hg]; exact (below_size (by repeat (first | (with_reducible first | exact HB.out | apply below_alloc | apply pw_below_drewN | apply below_drew1) | exact HB.out))) : w.heap.size ≤ gb153)); clear HB; have HB := n0_; have BK153 := n1_; have GW153 := n2_; have GE153 := n3_; clear n0_ n1_ n2_ n3_; clear hb hbox hg; have hcz8_0 : w7.cell? ⟨gb153, 0, none⟩ = some (.int .i64 a0_0) := (blk_cell BK153.out 0).trans rfl; have hcz8_1 : w7.cell? ⟨gb153, 1, none⟩ = some (.int .i64 a0_1) := (blk_cell BK153.out 1).trans rfl; have hcz8_2 : w7.cell? ⟨gb153, 2, none⟩ = some (.string a0_2) := (blk_cell BK153.out 2).trans rfl; have hcz8_3 : w7.cell? ⟨gb153, 3, none⟩ = some (.slice A0_3 l0_3.length c0_3) := (blk_cell BK153.out 3).trans rfl; have hcz8_4 : w7.cell? ⟨gb153, 4, none⟩ = some (.slice A0_4 l0_4.length c0_4) := (blk_cell BK153.out 4).trans rfl; have hfz8_0 := blk_frozen BK153.out 0; have hfz8_1 := blk_frozen BK153.out 1; have hfz8_2 := blk_frozen BK153.out 2; have hfz8_3 := blk_frozen BK153.out 3; have hfz8_4 := blk_frozen BK153.out 4))
    go_ret
    exact ⟨by first | rfl | (simp [errW_none, errW_some] <;> rfl) | (simp [*, errW_none, errW_some] <;> rfl), by repeat (first | (with_reducible first | exact HB.out | apply below_alloc | apply pw_below_drewN | apply below_drew1 | refine below_set ?_ GE153.out) | exact HB.out)⟩
   ·rw [if_neg c6] at H
    have c6b0 : (a0_1 == 1) = false := beq_eq_false_iff_ne.mpr c6
    have c6b1 : (a0_1 != 1) = true := bne_iff_ne.mpr c6
    obtain rfl := Option.some.inj H
    go_enter Tryz.func24, Tryz.ntmps24
    go_wp2_with (first | ((with_reducible refine gate_dst (N := 1) rfl ?_); refine box_event ?hg (N := 1) ?hd (cs := #[.int .i64 a0_0, .int .i64 a0_1, .string a0_2, .slice A0_3 l0_3.length c0_3, .slice A0_4 l0_4.length c0_4]) (t := 25) ?hr ?_; (case hd => rfl); (case hg => rfl); (case hr => first | (go_simp; done) | (go_simp; rfl)); intro gb153 hg w9 hbox hb; have n0_ := Aside0.mk (below_step (by repeat (first | (with_reducible first | exact HB.out | apply below_alloc | apply pw_below_drewN | apply below_drew1) | exact HB.out)) hb); have n1_ := Aside0.mk (hbox); have n2_ := Aside0.mk ((by rw [hg]; exact (below_size (by repeat (first | (with_reducible first | exact HB.out | apply below_alloc | apply pw_below_drewN | apply below_drew1) | exact HB.out))) : w.heap.size ≤ gb153)); have n3_ := Aside0.mk ((by rw [hg]; exact (below_size (by repeat (first | (with_reducible first | exact HB.out | apply below_alloc | apply pw_below_drewN | apply below_drew1) | exact HB.out))) : w.heap.size ≤ gb153)); clear HB; have HB := n0_; have BK153 := n1_; have GW153 := n2_; have GE153 := n3_; clear n0_ n1_ n2_ n3_; clear hb hbox hg; have hcz10_0 : w9.cell? ⟨gb153, 0, none⟩ = some (.int .i64 a0_0) := (blk_cell BK153.out 0).trans rfl; have hcz10_1 : w9.cell? ⟨gb153, 1, none⟩ = some (.int .i64 a0_1) := (blk_cell BK153.out 1).trans rfl; have hcz10_2 : w9.cell? ⟨gb153, 2, none⟩ = some (.string a0_2) := (blk_cell BK153.out 2).trans rfl; have hcz10_3 : w9.cell? ⟨gb153, 3, none⟩ = some (.slice A0_3 l0_3.length c0_3) := (blk_cell BK153.out 3).trans rfl; have hcz10_4 : w9.cell? ⟨gb153, 4, none⟩ = some (.slice A0_4 l0_4.length c0_4) := (blk_cell BK153.out 4).trans rfl; have hfz10_0 := blk_frozen BK153.out 0; have hfz10_1 := blk_frozen BK153.out 1; have hfz10_2 := blk_frozen BK153.out 2; have hfz10_3 := blk_frozen BK153.out 3; have hfz10_4 := blk_frozen BK153.out 4))
    go_ret
    exact ⟨by first | rfl | (simp [errW_none, errW_some] <;> rfl) | (simp [*, errW_none, errW_some] <;> rfl), by repeat (first | (with_reducible first | exact HB.out | apply below_alloc | apply pw_below_drewN | apply below_drew1 | refine below_set ?_ GE153.out) | exact HB.out)⟩
  ·rw [if_neg c5] at H
   have c5b0 : (a0_0 == 1) = false := beq_eq_false_iff_ne.mpr c5
   have c5b1 : (a0_0 != 1) = true := bne_iff_ne.mpr c5
   by_cases c11 : a0_0 = 2
   ·rw [if_pos c11] at H
    have c11b0 : (a0_0 == 2) = true := beq_iff_eq.mpr c11
    have c11b1 : (a0_0 != 2) = false := bne_eq_false_iff_eq.mpr c11
    clear c11
    replace H := Option.bind_eq_some_iff.mp H
    obtain ⟨t154, A120, H⟩ := H
    replace H : (some t154) = some r := H
    have A12 := Aside0.mk A120
    clear A120
    obtain rfl := Option.some.inj H
    go_enter Tryz.func24, Tryz.ntmps24
    go_wp2_with (first | ((with_reducible refine gate_dst (N := 1) rfl ?_); refine box_event ?hg (N := 1) ?hd (cs := #[.int .i64 a0_0, .int .i64 a0_1, .string a0_2, .slice A0_3 l0_3.length c0_3, .slice A0_4 l0_4.length c0_4]) (t := 25) ?hr ?_; (case hd => rfl); (case hg => rfl); (case hr => first | (go_simp; done) | (go_simp; rfl)); intro gb153 hg w13 hbox hb; have n0_ := Aside0.mk (below_step (by repeat (first | (with_reducible first | exact HB.out | apply below_alloc | apply pw_below_drewN | apply below_drew1) | exact HB.out)) hb); have n1_ := Aside0.mk (hbox); have n2_ := Aside0.mk ((by rw [hg]; exact (below_size (by repeat (first | (with_reducible first | exact HB.out | apply below_alloc | apply pw_below_drewN | apply below_drew1) | exact HB.out))) : w.heap.size ≤ gb153)); have n3_ := Aside0.mk ((by rw [hg]; exact (below_size (by repeat (first | (with_reducible first | exact HB.out | apply below_alloc | apply pw_below_drewN | apply below_drew1) | exact HB.out))) : w.heap.size ≤ gb153)); clear HB; have HB := n0_; have BK153 := n1_; have GW153 := n2_; have GE153 := n3_; clear n0_ n1_ n2_ n3_; clear hb hbox hg; have hcz14_0 : w13.cell? ⟨gb153, 0, none⟩ = some (.int .i64 a0_0) := (blk_cell BK153.out 0).trans rfl; have hcz14_1 : w13.cell? ⟨gb153, 1, none⟩ = some (.int .i64 a0_1) := (blk_cell BK153.out 1).trans rfl; have hcz14_2 : w13.cell? ⟨gb153, 2, none⟩ = some (.string a0_2) := (blk_cell BK153.out 2).trans rfl; have hcz14_3 : w13.cell? ⟨gb153, 3, none⟩ = some (.slice A0_3 l0_3.length c0_3) := (blk_cell BK153.out 3).trans rfl; have hcz14_4 : w13.cell? ⟨gb153, 4, none⟩ = some (.slice A0_4 l0_4.length c0_4) := (blk_cell BK153.out 4).trans rfl; have hfz14_0 := blk_frozen BK153.out 0; have hfz14_1 := blk_frozen BK153.out 1; have hfz14_2 := blk_frozen BK153.out 2; have hfz14_3 := blk_frozen BK153.out 3; have hfz14_4 := blk_frozen BK153.out 4) | ((with_reducible refine gate_callee (f := 42) rfl ?_); refine goesL_ (some 18) rfl rfl Tryz.func42 (by kernel_rfl) rfl #[.int .i64 a0_1] rfl (by (try simp only [List.map_toArray, List.map_cons, List.map_nil]); first | done | rfl | (simp only [List.length_drop, List.length_take]; rfl)) ?_; (with_reducible refine (bloomeryref01_Num.calls a0_1 t154 _ A12.out).mono ?_); rintro e w15 ⟨rfl, hb⟩; refine ⟨_, rfl, ?_⟩; have n0_ := Aside0.mk (blk_below (g := gb153) (o := .cells #[.int .i64 a0_0, .int .i64 a0_1, .string a0_2, .slice A0_3 l0_3.length c0_3, .slice A0_4 l0_4.length c0_4] 25 (0, 0)) (by (with_reducible repeat (first | refine blk_drewN ?_ _ | refine blk_drew ?_ | refine blk_alloc ?_ _)); exact BK153.out) hb); have n1_ := Aside0.mk (below_step (by repeat (first | (with_reducible first | exact HB.out | apply below_alloc | apply pw_below_drewN | apply below_drew1 | refine below_set ?_ GE153.out) | exact HB.out)) hb); clear BK153; clear HB; have BK153 := n0_; have HB := n1_; clear n0_ n1_; (try clear hb); (try clear hb2); (try clear hk); (try clear hi)))
    go_ret
    exact ⟨by first | rfl | (simp [errW_none, errW_some] <;> rfl) | (simp [*, errW_none, errW_some] <;> rfl), by repeat (first | (with_reducible first | exact HB.out | apply below_alloc | apply pw_below_drewN | apply below_drew1 | refine below_set ?_ GE153.out) | exact HB.out)⟩
   ·rw [if_neg c11] at H
    have c11b0 : (a0_0 == 2) = false := beq_eq_false_iff_ne.mpr c11
    have c11b1 : (a0_0 != 2) = true := bne_iff_ne.mpr c11
    by_cases c16 : a0_0 = 3
    ·rw [if_pos c16] at H
     have c16b0 : (a0_0 == 3) = true := beq_iff_eq.mpr c16
     have c16b1 : (a0_0 != 3) = false := bne_eq_false_iff_eq.mpr c16
     clear c16
     replace H := Option.bind_eq_some_iff.mp H
     obtain ⟨t155, A170, H⟩ := H
     replace H : (some t155) = some r := H
     have A17 := Aside0.mk A170
     clear A170
     obtain rfl := Option.some.inj H
     go_enter Tryz.func24, Tryz.ntmps24
     go_wp2_with (first | ((with_reducible refine gate_dst (N := 1) rfl ?_); refine box_event ?hg (N := 1) ?hd (cs := #[.int .i64 a0_0, .int .i64 a0_1, .string a0_2, .slice A0_3 l0_3.length c0_3, .slice A0_4 l0_4.length c0_4]) (t := 25) ?hr ?_; (case hd => rfl); (case hg => rfl); (case hr => first | (go_simp; done) | (go_simp; rfl)); intro gb153 hg w18 hbox hb; have n0_ := Aside0.mk (below_step (by repeat (first | (with_reducible first | exact HB.out | apply below_alloc | apply pw_below_drewN | apply below_drew1) | exact HB.out)) hb); have n1_ := Aside0.mk (hbox); have n2_ := Aside0.mk ((by rw [hg]; exact (below_size (by repeat (first | (with_reducible first | exact HB.out | apply below_alloc | apply pw_below_drewN | apply below_drew1) | exact HB.out))) : w.heap.size ≤ gb153)); have n3_ := Aside0.mk ((by rw [hg]; exact (below_size (by repeat (first | (with_reducible first | exact HB.out | apply below_alloc | apply pw_below_drewN | apply below_drew1) | exact HB.out))) : w.heap.size ≤ gb153)); clear HB; have HB := n0_; have BK153 := n1_; have GW153 := n2_; have GE153 := n3_; clear n0_ n1_ n2_ n3_; clear hb hbox hg; have hcz19_0 : w18.cell? ⟨gb153, 0, none⟩ = some (.int .i64 a0_0) := (blk_cell BK153.out 0).trans rfl; have hcz19_1 : w18.cell? ⟨gb153, 1, none⟩ = some (.int .i64 a0_1) := (blk_cell BK153.out 1).trans rfl; have hcz19_2 : w18.cell? ⟨gb153, 2, none⟩ = some (.string a0_2) := (blk_cell BK153.out 2).trans rfl; have hcz19_3 : w18.cell? ⟨gb153, 3, none⟩ = some (.slice A0_3 l0_3.length c0_3) := (blk_cell BK153.out 3).trans rfl; have hcz19_4 : w18.cell? ⟨gb153, 4, none⟩ = some (.slice A0_4 l0_4.length c0_4) := (blk_cell BK153.out 4).trans rfl; have hfz19_0 := blk_frozen BK153.out 0; have hfz19_1 := blk_frozen BK153.out 1; have hfz19_2 := blk_frozen BK153.out 2; have hfz19_3 := blk_frozen BK153.out 3; have hfz19_4 := blk_frozen BK153.out 4) | ((with_reducible refine gate_callee (f := 43) rfl ?_); refine goesL_ (some 23) rfl rfl Tryz.func43 (by kernel_rfl) rfl #[.string a0_2] rfl (by (try simp only [List.map_toArray, List.map_cons, List.map_nil]); first | done | rfl | (simp only [List.length_drop, List.length_take]; rfl)) ?_; (with_reducible refine (bloomeryref09_Quote.calls a0_2 t155 _ A17.out).mono ?_); rintro e w20 ⟨rfl, hb⟩; refine ⟨_, rfl, ?_⟩; have n0_ := Aside0.mk (blk_below (g := gb153) (o := .cells #[.int .i64 a0_0, .int .i64 a0_1, .string a0_2, .slice A0_3 l0_3.length c0_3, .slice A0_4 l0_4.length c0_4] 25 (0, 0)) (by (with_reducible repeat (first | refine blk_drewN ?_ _ | refine blk_drew ?_ | refine blk_alloc ?_ _)); exact BK153.out) hb); have n1_ := Aside0.mk (below_step (by repeat (first | (with_reducible first | exact HB.out | apply below_alloc | apply pw_below_drewN | apply below_drew1 | refine below_set ?_ GE153.out) | exact HB.out)) hb); clear BK153; clear HB; have BK153 := n0_; have HB := n1_; clear n0_ n1_; (try clear hb); (try clear hb2); (try clear hk); (try clear hi)))
     go_ret
     exact ⟨by first | rfl | (simp [errW_none, errW_some] <;> rfl) | (simp [*, errW_none, errW_some] <;> rfl), by repeat (first | (with_reducible first | exact HB.out | apply below_alloc | apply pw_below_drewN | apply below_drew1 | refine below_set ?_ GE153.out) | exact HB.out)⟩
    ·rw [if_neg c16] at H
     have c16b0 : (a0_0 == 3) = false := beq_eq_false_iff_ne.mpr c16
     have c16b1 : (a0_0 != 3) = true := bne_iff_ne.mpr c16
     have H' := Aside0.mk H
     clear H
     go_enter Tryz.func24, Tryz.ntmps24
     go_wp2_with (first | ((with_reducible refine gate_dst (N := 1) rfl ?_); refine box_event ?hg (N := 1) ?hd (cs := #[.int .i64 a0_0, .int .i64 a0_1, .string a0_2, .slice A0_3 l0_3.length c0_3, .slice A0_4 l0_4.length c0_4]) (t := 25) ?hr ?_; (case hd => rfl); (case hg => rfl); (case hr => first | (go_simp; done) | (go_simp; rfl)); intro gb153 hg w21 hbox hb; have n0_ := Aside0.mk (below_step (by repeat (first | (with_reducible first | exact HB.out | apply below_alloc | apply pw_below_drewN | apply below_drew1) | exact HB.out)) hb); have n1_ := Aside0.mk (hbox); have n2_ := Aside0.mk ((by rw [hg]; exact (below_size (by repeat (first | (with_reducible first | exact HB.out | apply below_alloc | apply pw_below_drewN | apply below_drew1) | exact HB.out))) : w.heap.size ≤ gb153)); have n3_ := Aside0.mk ((by rw [hg]; exact (below_size (by repeat (first | (with_reducible first | exact HB.out | apply below_alloc | apply pw_below_drewN | apply below_drew1) | exact HB.out))) : w.heap.size ≤ gb153)); clear HB; have HB := n0_; have BK153 := n1_; have GW153 := n2_; have GE153 := n3_; clear n0_ n1_ n2_ n3_; clear hb hbox hg; have hcz22_0 : w21.cell? ⟨gb153, 0, none⟩ = some (.int .i64 a0_0) := (blk_cell BK153.out 0).trans rfl; have hcz22_1 : w21.cell? ⟨gb153, 1, none⟩ = some (.int .i64 a0_1) := (blk_cell BK153.out 1).trans rfl; have hcz22_2 : w21.cell? ⟨gb153, 2, none⟩ = some (.string a0_2) := (blk_cell BK153.out 2).trans rfl; have hcz22_3 : w21.cell? ⟨gb153, 3, none⟩ = some (.slice A0_3 l0_3.length c0_3) := (blk_cell BK153.out 3).trans rfl; have hcz22_4 : w21.cell? ⟨gb153, 4, none⟩ = some (.slice A0_4 l0_4.length c0_4) := (blk_cell BK153.out 4).trans rfl; have hfz22_0 := blk_frozen BK153.out 0; have hfz22_1 := blk_frozen BK153.out 1; have hfz22_2 := blk_frozen BK153.out 2; have hfz22_3 := blk_frozen BK153.out 3; have hfz22_4 := blk_frozen BK153.out 4))
     go_loopg [3, 27] k (fun kq v3 v27 w' => ∃ (x3_1 : ByteArray) (x27_1 : Int), v3 = .string x3_1 ∧ v27 = .int .i64 x27_1 ∧ Aside0 (bloomeryref11_text.l0 kq x3_1 (l0_3.length : Int) x27_1 a0_0 a0_1 a0_2 l0_3 l0_4 = some r) ∧ Aside0 (kq ≤ k) ∧ Aside0 (w'.heap[gb153]? = some (.cells #[.int .i64 a0_0, .int .i64 a0_1, .string a0_2, (.slice A0_3 l0_3.length c0_3), (.slice A0_4 l0_4.length c0_4)] 25 (0, 0))) ∧ Aside0 (Below w.heap.size w w'))
     case atStart => exact ⟨((⟨#[]⟩ : ByteArray)), (0), (by first | rfl | (simp; done) | (simp [*]; done)), (by first | rfl | (simp; done) | (simp [*]; done)), (by first | exact H' | (subst_vars; exact H')), ⟨Nat.le_refl _⟩, ⟨by (with_reducible repeat (first | refine blk_drewN ?_ _ | refine blk_drew ?_ | refine blk_alloc ?_ _)); exact BK153.out⟩, ⟨by repeat (first | (with_reducible first | exact HB.out | apply below_alloc | apply pw_below_drewN | apply below_drew1 | refine below_set ?_ GE153.out) | exact HB.out)⟩⟩
     case round =>
      clear H'
      try clear c1
      try clear c2
      try clear c2b0
      try clear c2b1
      try clear p2
      try clear c4
      try clear c5
      try clear c5b0
      try clear c5b1
      try clear c6
      try clear c6b0
      try clear c6b1
      try clear c11
      try clear c11b0
      try clear c11b1
      try clear c16
      try clear c16b0
      try clear c16b1
      try clear hcz10_0
      try clear hcz10_1
      try clear hcz10_2
      try clear hcz10_3
      try clear hcz10_4
      try clear hcz14_0
      try clear hcz14_1
      try clear hcz14_2
      try clear hcz14_3
      try clear hcz14_4
      try clear hcz19_0
      try clear hcz19_1
      try clear hcz19_2
      try clear hcz19_3
      try clear hcz19_4
      try clear hcz22_0
      try clear hcz22_1
      try clear hcz22_2
      try clear hcz22_3
      try clear hcz22_4
      try clear hcz4_0
      try clear hcz4_1
      try clear hcz4_2
      try clear hcz4_3
      try clear hcz4_4
      try clear hcz8_0
      try clear hcz8_1
      try clear hcz8_2
      try clear hcz8_3
      try clear hcz8_4
      try clear hfz10_0
      try clear hfz10_1
      try clear hfz10_2
      try clear hfz10_3
      try clear hfz10_4
      try clear hfz14_0
      try clear hfz14_1
      try clear hfz14_2
      try clear hfz14_3
      try clear hfz14_4
      try clear hfz19_0
      try clear hfz19_1
      try clear hfz19_2
      try clear hfz19_3
      try clear hfz19_4
      try clear hfz22_0
      try clear hfz22_1
      try clear hfz22_2
      try clear hfz22_3
      try clear hfz22_4
      try clear hfz4_0
      try clear hfz4_1
      try clear hfz4_2
      try clear hfz4_3
      try clear hfz4_4
      try clear hfz8_0
      try clear hfz8_1
      try clear hfz8_2
      try clear hfz8_3
      try clear hfz8_4
      obtain ⟨x3_1, x27_1, rfl, rfl, HA, HK1, BK153, HB⟩ := hrel
      cases gk with
      | zero => exact absurd HA.out (by simp [bloomeryref11_text.l0])
      | succ k1 =>
       have H := HA.out
       clear HA
       simp only [bloomeryref11_text.l0] at H
       by_cases c23 : x27_1 < (l0_3.length : Int)
       ·rw [if_pos c23] at H
        have c23b0 : decide (x27_1 < (l0_3.length : Int)) = true := decide_eq_true c23
        clear c23
        have HC24 := Aside0.mk H
        clear H
        go_upto_if 31 with (fail)
        go_cut [3] (fun v3 wc => ∃ (kq : Nat) (x3_23 : ByteArray), v3 = .string x3_23 ∧ Aside0 (bloomeryref11_text.j1 kq x3_23 x27_1 (l0_3.length : Int) x27_1 a0_0 a0_1 a0_2 l0_3 l0_4 = some r) ∧ Aside0 (kq ≤ k1) ∧ Aside0 (wc.heap[gb153]? = some (.cells #[.int .i64 a0_0, .int .i64 a0_1, .string a0_2, (.slice A0_3 l0_3.length c0_3), (.slice A0_4 l0_4.length c0_4)] 25 (0, 0))) ∧ Aside0 (Below w.heap.size w wc))
        case first =>
         have H := HC24.out
         clear HC24
         by_cases c25 : x27_1 > 0
         ·rw [if_pos c25] at H
          have c25b0 : decide (0 < x27_1) = true := decide_eq_true c25
          clear c25
          (first | rw [c25b0] | (simp only [i64_w, i32_w]; rw [c25b0]) | skip)
          by_cases c26 : x3_1.size + 2 ≤ 9223372036854775807
          ·rw [if_pos c26] at H
           have c26b0 := eq_true c26
           have c26b1 : decide (x3_1.size + 2 ≤ 9223372036854775807) = true := decide_eq_true c26
           try have c26b2 : (9223372036854775807 < x3_1.size + 2) = False := eq_false (Nat.not_lt.2 c26)
           have H' := Aside0.mk H
           clear H
           go_wp2
           go_meet
           case rel => exact ⟨_, (x3_1 ++ (⟨#[44, 32]⟩ : ByteArray)), (by first | rfl | (simp; done) | (simp [*]; done)), (by first | exact H' | (subst_vars; exact H')), ⟨by have := HK1.out; first | omega | exact Nat.le_refl _⟩, ⟨by (with_reducible repeat (first | refine blk_drewN ?_ _ | refine blk_drew ?_ | refine blk_alloc ?_ _)); exact BK153.out⟩, ⟨by repeat (first | (with_reducible first | exact HB.out | apply below_alloc | apply pw_below_drewN | apply below_drew1 | refine below_set ?_ GE153.out) | exact HB.out)⟩⟩
          ·rw [if_neg c26] at H
           exact absurd H (by simp)
         ·rw [if_neg c25] at H
          have c25b0 : decide (0 < x27_1) = false := decide_eq_false c25
          clear c25
          (first | rw [c25b0] | (simp only [i64_w, i32_w]; rw [c25b0]) | skip)
          have H' := Aside0.mk H
          clear H
          go_wp2
          go_meet
          case rel => exact ⟨_, (x3_1), (by first | rfl | (simp; done) | (simp [*]; done)), (by first | exact H' | (subst_vars; exact H')), ⟨by have := HK1.out; first | omega | exact Nat.le_refl _⟩, ⟨by (with_reducible repeat (first | refine blk_drewN ?_ _ | refine blk_drew ?_ | refine blk_alloc ?_ _)); exact BK153.out⟩, ⟨by repeat (first | (with_reducible first | exact HB.out | apply below_alloc | apply pw_below_drewN | apply below_drew1 | refine below_set ?_ GE153.out) | exact HB.out)⟩⟩
        case rest =>
         clear HC24
         try clear c1
         try clear c2
         try clear c2b0
         try clear c2b1
         try clear p2
         try clear c4
         try clear c5
         try clear c5b0
         try clear c5b1
         try clear c6
         try clear c6b0
         try clear c6b1
         try clear c11
         try clear c11b0
         try clear c11b1
         try clear c16
         try clear c16b0
         try clear c16b1
         try clear c23
         try clear c23b0
         try clear c24
         try clear c25
         try clear c25b0
         try clear c26
         try clear c26b0
         try clear c26b1
         try clear c26b2
         try clear hcz10_0
         try clear hcz10_1
         try clear hcz10_2
         try clear hcz10_3
         try clear hcz10_4
         try clear hcz14_0
         try clear hcz14_1
         try clear hcz14_2
         try clear hcz14_3
         try clear hcz14_4
         try clear hcz19_0
         try clear hcz19_1
         try clear hcz19_2
         try clear hcz19_3
         try clear hcz19_4
         try clear hcz22_0
         try clear hcz22_1
         try clear hcz22_2
         try clear hcz22_3
         try clear hcz22_4
         try clear hcz4_0
         try clear hcz4_1
         try clear hcz4_2
         try clear hcz4_3
         try clear hcz4_4
         try clear hcz8_0
         try clear hcz8_1
         try clear hcz8_2
         try clear hcz8_3
         try clear hcz8_4
         try clear hfz10_0
         try clear hfz10_1
         try clear hfz10_2
         try clear hfz10_3
         try clear hfz10_4
         try clear hfz14_0
         try clear hfz14_1
         try clear hfz14_2
         try clear hfz14_3
         try clear hfz14_4
         try clear hfz19_0
         try clear hfz19_1
         try clear hfz19_2
         try clear hfz19_3
         try clear hfz19_4
         try clear hfz22_0
         try clear hfz22_1
         try clear hfz22_2
         try clear hfz22_3
         try clear hfz22_4
         try clear hfz4_0
         try clear hfz4_1
         try clear hfz4_2
         try clear hfz4_3
         try clear hfz4_4
         try clear hfz8_0
         try clear hfz8_1
         try clear hfz8_2
         try clear hfz8_3
         try clear hfz8_4
         try clear p2
         obtain ⟨kq, x3_23, rfl, HA, HJ23, BK153, HB⟩ := hcut
         cases kq with
         | zero => exact absurd HA.out (by simp [bloomeryref11_text.j1])
         | succ kj23 =>
          have H := HA.out
          clear HA
          simp only [bloomeryref11_text.j1] at H
          by_cases c27 : a0_0 = 5
          ·rw [if_pos c27] at H
           have c27b0 : (a0_0 == 5) = true := beq_iff_eq.mpr c27
           have c27b1 : (a0_0 != 5) = false := bne_eq_false_iff_eq.mpr c27
           clear c27
           by_cases c28 : 0 ≤ x27_1
           ·rw [if_pos c28] at H
            have c28b0 : decide (0 ≤ x27_1) = true := decide_eq_true c28
            clear c28
            by_cases c29 : x27_1 < (l0_4.length : Int)
            ·rw [if_pos c29] at H
             have c29b0 : decide (x27_1 < (l0_4.length : Int)) = true := decide_eq_true c29
             clear c29
             replace H := Option.bind_eq_some_iff.mp H
             obtain ⟨t157, A300, H⟩ := H
             replace H : (if x3_23.size + t157.size ≤ 9223372036854775807 then (if (x3_23 ++ t157).size + 2 ≤ 9223372036854775807 then (if x27_1 < (l0_3.length : Int) then ((bloomeryref11_text.f kj23 ((rd_T25 l0_3 x27_1).f0) ((rd_T25 l0_3 x27_1).f1) ((rd_T25 l0_3 x27_1).f2) ((rd_T25 l0_3 x27_1).f3) ((rd_T25 l0_3 x27_1).f4)).bind fun t159 => (if ((x3_23 ++ t157) ++ (⟨#[58, 32]⟩ : ByteArray)).size + t159.size ≤ 9223372036854775807 then (bloomeryref11_text.l0 kj23 (((x3_23 ++ t157) ++ (⟨#[58, 32]⟩ : ByteArray)) ++ t159) (l0_3.length : Int) (wrap64 (x27_1 + 1)) a0_0 a0_1 a0_2 l0_3 l0_4) else (none))) else (none)) else (none)) else (none)) = some r := H
             have A30 := Aside0.mk A300
             clear A300
             by_cases c31 : x3_23.size + t157.size ≤ 9223372036854775807
             ·rw [if_pos c31] at H
              have c31b0 := eq_true c31
              have c31b1 : decide (x3_23.size + t157.size ≤ 9223372036854775807) = true := decide_eq_true c31
              try have c31b2 : (9223372036854775807 < x3_23.size + t157.size) = False := eq_false (Nat.not_lt.2 c31)
              by_cases c32 : (x3_23 ++ t157).size + 2 ≤ 9223372036854775807
              ·rw [if_pos c32] at H
               have c32b0 := eq_true c32
               have c32b7 := c32
               try simp only [ByteArray.size_append] at c32b7
               have c32b8 := decide_eq_true c32b7
               try have c32b9 := Nat.not_lt.2 c32b7
               replace c32b7 := eq_true c32b7
               have c32b1 : decide ((x3_23 ++ t157).size + 2 ≤ 9223372036854775807) = true := decide_eq_true c32
               try have c32b2 : (9223372036854775807 < (x3_23 ++ t157).size + 2) = False := eq_false (Nat.not_lt.2 c32)
               try have c32b5 : (9223372036854775807 < x3_23.size + t157.size + 2) = False := (by have h_ := c32; simp only [ByteArray.size_append] at h_; exact eq_false (Nat.not_lt.2 h_))
               by_cases c33 : x27_1 < (l0_3.length : Int)
               ·rw [if_pos c33] at H
                have c33b0 : decide (x27_1 < (l0_3.length : Int)) = true := decide_eq_true c33
                clear c33
                replace H := Option.bind_eq_some_iff.mp H
                obtain ⟨t159, A340, H⟩ := H
                replace H : (if ((x3_23 ++ t157) ++ (⟨#[58, 32]⟩ : ByteArray)).size + t159.size ≤ 9223372036854775807 then (bloomeryref11_text.l0 kj23 (((x3_23 ++ t157) ++ (⟨#[58, 32]⟩ : ByteArray)) ++ t159) (l0_3.length : Int) (wrap64 (x27_1 + 1)) a0_0 a0_1 a0_2 l0_3 l0_4) else (none)) = some r := H
                have A34 := Aside0.mk A340
                clear A340
                by_cases c35 : ((x3_23 ++ t157) ++ (⟨#[58, 32]⟩ : ByteArray)).size + t159.size ≤ 9223372036854775807
                ·rw [if_pos c35] at H
                 have c35b0 := eq_true c35
                 have c35b7 := c35
                 try simp only [ByteArray.size_append] at c35b7
                 have c35b8 := decide_eq_true c35b7
                 try have c35b9 := Nat.not_lt.2 c35b7
                 replace c35b7 := eq_true c35b7
                 have c35b1 : decide (((x3_23 ++ t157) ++ (⟨#[58, 32]⟩ : ByteArray)).size + t159.size ≤ 9223372036854775807) = true := decide_eq_true c35
                 try have c35b2 : (9223372036854775807 < ((x3_23 ++ t157) ++ (⟨#[58, 32]⟩ : ByteArray)).size + t159.size) = False := eq_false (Nat.not_lt.2 c35)
                 try have c35b5 : (9223372036854775807 < x3_23.size + t157.size + 2 + t159.size) = False := (by have h_ := c35; simp only [ByteArray.size_append] at h_; exact eq_false (Nat.not_lt.2 h_))
                 have H' := Aside0.mk H
                 clear H
                 have hcz36_0 : wc.cell? ⟨gb153, 0, none⟩ = some (.int .i64 a0_0) := (blk_cell BK153.out 0).trans rfl
                 have hcz36_1 : wc.cell? ⟨gb153, 1, none⟩ = some (.int .i64 a0_1) := (blk_cell BK153.out 1).trans rfl
                 have hcz36_2 : wc.cell? ⟨gb153, 2, none⟩ = some (.string a0_2) := (blk_cell BK153.out 2).trans rfl
                 have hcz36_3 : wc.cell? ⟨gb153, 3, none⟩ = some (.slice A0_3 l0_3.length c0_3) := (blk_cell BK153.out 3).trans rfl
                 have hcz36_4 : wc.cell? ⟨gb153, 4, none⟩ = some (.slice A0_4 l0_4.length c0_4) := (blk_cell BK153.out 4).trans rfl
                 have hfz36_0 := blk_frozen BK153.out 0
                 have hfz36_1 := blk_frozen BK153.out 1
                 have hfz36_2 := blk_frozen BK153.out 2
                 have hfz36_3 := blk_frozen BK153.out 3
                 have hfz36_4 := blk_frozen BK153.out 4
                 have p156 : 0 ≤ (x27_1 : Int) := of_decide_eq_true (by first | (with_reducible assumption) | assumption)
                 have q156 : x27_1 < (l0_4.length : Int) := of_decide_eq_true (by first | (with_reducible assumption) | assumption)
                 obtain ⟨ad156, e156, hx156_0⟩ := Kd.at_string HR0_4.out x27_1 p156 q156
                 cases e156
                 replace hx156_0 := (HB.out.cell (World.block_lt_of_cell? w _ hx156_0)).trans hx156_0
                 replace p156 := eq_true p156
                 replace q156 := eq_true q156
                 go_wp2_with (first | ((with_reducible refine gate_callee (f := 43) rfl ?_); refine goesL_ (some 43) rfl rfl Tryz.func43 (by kernel_rfl) rfl #[.string (rdOf ByteArray.empty l0_4 x27_1)] rfl (by (try simp only [List.map_toArray, List.map_cons, List.map_nil]); first | done | rfl | (simp only [List.length_drop, List.length_take]; rfl)) ?_; (with_reducible refine (bloomeryref09_Quote.calls (rdOf ByteArray.empty l0_4 x27_1) t157 _ A30.out).mono ?_); rintro e w37 ⟨rfl, hb⟩; refine ⟨_, rfl, ?_⟩; have n0_ := Aside0.mk (blk_below (g := gb153) (o := .cells #[.int .i64 a0_0, .int .i64 a0_1, .string a0_2, .slice A0_3 l0_3.length c0_3, .slice (some ad156) l0_4.length c0_4] 25 (0, 0)) (by (with_reducible repeat (first | refine blk_drewN ?_ _ | refine blk_drew ?_ | refine blk_alloc ?_ _)); exact BK153.out) hb); have n1_ := Aside0.mk (below_step (by repeat (first | (with_reducible first | exact HB.out | apply below_alloc | apply pw_below_drewN | apply below_drew1 | refine below_set ?_ GE153.out) | exact HB.out)) hb); clear BK153; clear HB; have BK153 := n0_; have HB := n1_; clear n0_ n1_; (try clear hb); (try clear hb2); (try clear hk); (try clear hi); have hcz38_0 : w37.cell? ⟨gb153, 0, none⟩ = some (.int .i64 a0_0) := (blk_cell BK153.out 0).trans rfl; have hcz38_1 : w37.cell? ⟨gb153, 1, none⟩ = some (.int .i64 a0_1) := (blk_cell BK153.out 1).trans rfl; have hcz38_2 : w37.cell? ⟨gb153, 2, none⟩ = some (.string a0_2) := (blk_cell BK153.out 2).trans rfl; have hcz38_3 : w37.cell? ⟨gb153, 3, none⟩ = some (.slice A0_3 l0_3.length c0_3) := (blk_cell BK153.out 3).trans rfl; have hcz38_4 : w37.cell? ⟨gb153, 4, none⟩ = some (.slice (some ad156) l0_4.length c0_4) := (blk_cell BK153.out 4).trans rfl; have hfz38_0 := blk_frozen BK153.out 0; have hfz38_1 := blk_frozen BK153.out 1; have hfz38_2 := blk_frozen BK153.out 2; have hfz38_3 := blk_frozen BK153.out 3; have hfz38_4 := blk_frozen BK153.out 4; have p158 : 0 ≤ (x27_1 : Int) := of_decide_eq_true (by first | (with_reducible assumption) | assumption); have q158 : x27_1 < (l0_3.length : Int) := of_decide_eq_true (by first | (with_reducible assumption) | assumption); obtain ⟨ad158, A158_3, c158_3, A158_4, c158_4, e158, hx158_0, hx158_1, hx158_2, hx158_3, hx158_4, hl158_3, hi158_3, hl158_4, hi158_4⟩ := at_T25 HR0_3.out x27_1 p158 q158; cases e158; replace hx158_0 := (HB.out.cell (World.block_lt_of_cell? w _ hx158_0)).trans hx158_0; replace hx158_1 := (HB.out.cell (World.block_lt_of_cell? w _ hx158_1)).trans hx158_1; replace hx158_2 := (HB.out.cell (World.block_lt_of_cell? w _ hx158_2)).trans hx158_2; replace hx158_3 := (HB.out.cell (World.block_lt_of_cell? w _ hx158_3)).trans hx158_3; replace hx158_4 := (HB.out.cell (World.block_lt_of_cell? w _ hx158_4)).trans hx158_4; have HR158_3 := Aside0.mk hi158_3; have HC158_3 := Aside0.mk hl158_3; clear hi158_3 hl158_3; have HR158_4 := Aside0.mk hi158_4; have HC158_4 := Aside0.mk hl158_4; clear hi158_4 hl158_4; replace p158 := eq_true p158; replace q158 := eq_true q158) | ((with_reducible refine gate_callee (f := 24) rfl ?_); refine goesL_ (some 52) rfl rfl Tryz.func24 (by kernel_rfl) rfl #[.agg #[.int .i64 ((rd_T25 l0_3 x27_1).f0), .int .i64 ((rd_T25 l0_3 x27_1).f1), .string ((rd_T25 l0_3 x27_1).f2), .slice A158_3 ((rd_T25 l0_3 x27_1).f3).length c158_3, .slice A158_4 ((rd_T25 l0_3 x27_1).f4).length c158_4]] rfl (by (try simp only [List.map_toArray, List.map_cons, List.map_nil]); first | done | rfl | (simp only [List.length_drop, List.length_take]; rfl)) ?_; (with_reducible refine (ih kj23 (by have := HK1.out; have := HJ23.out; omega) ((rd_T25 l0_3 x27_1).f0) ((rd_T25 l0_3 x27_1).f1) ((rd_T25 l0_3 x27_1).f2) _ _ ((rd_T25 l0_3 x27_1).f3) _ _ ((rd_T25 l0_3 x27_1).f4) t159 _ ?side1 ?side2 ?side3 ?side4 A34.out).mono ?_); (case side1 => repeat (first | exact (Kd.C_below HR158_3.out HB.out) | (with_reducible refine Kd.C_alloc ?_ _) | (with_reducible refine Kd.C_drewN ?_ _) | (with_reducible refine Kd.C_drew ?_))); (case side2 => exact HC158_3.out); (case side3 => repeat (first | exact (Kd.C_below HR158_4.out HB.out) | (with_reducible refine Kd.C_alloc ?_ _) | (with_reducible refine Kd.C_drewN ?_ _) | (with_reducible refine Kd.C_drew ?_))); (case side4 => exact HC158_4.out); rintro e w39 ⟨rfl, hb⟩; refine ⟨_, rfl, ?_⟩; have n0_ := Aside0.mk (blk_below (g := gb153) (o := .cells #[.int .i64 a0_0, .int .i64 a0_1, .string a0_2, .slice (some ad158) l0_3.length c0_3, .slice (some ad156) l0_4.length c0_4] 25 (0, 0)) (by (with_reducible repeat (first | refine blk_drewN ?_ _ | refine blk_drew ?_ | refine blk_alloc ?_ _)); exact BK153.out) hb); have n1_ := Aside0.mk (below_step (by repeat (first | (with_reducible first | exact HB.out | apply below_alloc | apply pw_below_drewN | apply below_drew1 | refine below_set ?_ GE153.out) | exact HB.out)) hb); clear BK153; clear HB; have BK153 := n0_; have HB := n1_; clear n0_ n1_; (try clear hb); (try clear hb2); (try clear hk); (try clear hi)))
                 go_roundg kj23
                 case measure => have := HK1.out; have := HJ23.out; omega
                 case rel => exact ⟨(((x3_23 ++ t157) ++ (⟨#[58, 32]⟩ : ByteArray)) ++ t159), (wrap64 (x27_1 + 1)), (by first | rfl | (simp; done) | (simp [*]; done)), (by first | rfl | (simp; done) | (simp [*]; done)), (by first | exact H' | (subst_vars; exact H')), ⟨by have := HK1.out; have := HJ23.out; omega⟩, ⟨by (with_reducible repeat (first | refine blk_drewN ?_ _ | refine blk_drew ?_ | refine blk_alloc ?_ _)); exact BK153.out⟩, ⟨by repeat (first | (with_reducible first | exact HB.out | apply below_alloc | apply pw_below_drewN | apply below_drew1 | refine below_set ?_ GE153.out) | exact HB.out)⟩⟩
                ·rw [if_neg c35] at H
                 exact absurd H (by simp)
               ·rw [if_neg c33] at H
                exact absurd H (by simp)
              ·rw [if_neg c32] at H
               exact absurd H (by simp)
             ·rw [if_neg c31] at H
              exact absurd H (by simp)
            ·rw [if_neg c29] at H
             exact absurd H (by simp)
           ·rw [if_neg c28] at H
            exact absurd H (by simp)
          ·rw [if_neg c27] at H
           have c27b0 : (a0_0 == 5) = false := beq_eq_false_iff_ne.mpr c27
           have c27b1 : (a0_0 != 5) = true := bne_iff_ne.mpr c27
           by_cases c40 : 0 ≤ x27_1
           ·rw [if_pos c40] at H
            have c40b0 : decide (0 ≤ x27_1) = true := decide_eq_true c40
            clear c40
            by_cases c41 : x27_1 < (l0_3.length : Int)
            ·rw [if_pos c41] at H
             have c41b0 : decide (x27_1 < (l0_3.length : Int)) = true := decide_eq_true c41
             clear c41
             replace H := Option.bind_eq_some_iff.mp H
             obtain ⟨t161, A420, H⟩ := H
             replace H : (if x3_23.size + t161.size ≤ 9223372036854775807 then (bloomeryref11_text.l0 kj23 (x3_23 ++ t161) (l0_3.length : Int) (wrap64 (x27_1 + 1)) a0_0 a0_1 a0_2 l0_3 l0_4) else (none)) = some r := H
             have A42 := Aside0.mk A420
             clear A420
             by_cases c43 : x3_23.size + t161.size ≤ 9223372036854775807
             ·rw [if_pos c43] at H
              have c43b0 := eq_true c43
              have c43b1 : decide (x3_23.size + t161.size ≤ 9223372036854775807) = true := decide_eq_true c43
              try have c43b2 : (9223372036854775807 < x3_23.size + t161.size) = False := eq_false (Nat.not_lt.2 c43)
              have H' := Aside0.mk H
              clear H
              have hcz44_0 : wc.cell? ⟨gb153, 0, none⟩ = some (.int .i64 a0_0) := (blk_cell BK153.out 0).trans rfl
              have hcz44_1 : wc.cell? ⟨gb153, 1, none⟩ = some (.int .i64 a0_1) := (blk_cell BK153.out 1).trans rfl
              have hcz44_2 : wc.cell? ⟨gb153, 2, none⟩ = some (.string a0_2) := (blk_cell BK153.out 2).trans rfl
              have hcz44_3 : wc.cell? ⟨gb153, 3, none⟩ = some (.slice A0_3 l0_3.length c0_3) := (blk_cell BK153.out 3).trans rfl
              have hcz44_4 : wc.cell? ⟨gb153, 4, none⟩ = some (.slice A0_4 l0_4.length c0_4) := (blk_cell BK153.out 4).trans rfl
              have hfz44_0 := blk_frozen BK153.out 0
              have hfz44_1 := blk_frozen BK153.out 1
              have hfz44_2 := blk_frozen BK153.out 2
              have hfz44_3 := blk_frozen BK153.out 3
              have hfz44_4 := blk_frozen BK153.out 4
              have p160 : 0 ≤ (x27_1 : Int) := of_decide_eq_true (by first | (with_reducible assumption) | assumption)
              have q160 : x27_1 < (l0_3.length : Int) := of_decide_eq_true (by first | (with_reducible assumption) | assumption)
              obtain ⟨ad160, A160_3, c160_3, A160_4, c160_4, e160, hx160_0, hx160_1, hx160_2, hx160_3, hx160_4, hl160_3, hi160_3, hl160_4, hi160_4⟩ := at_T25 HR0_3.out x27_1 p160 q160
              cases e160
              replace hx160_0 := (HB.out.cell (World.block_lt_of_cell? w _ hx160_0)).trans hx160_0
              replace hx160_1 := (HB.out.cell (World.block_lt_of_cell? w _ hx160_1)).trans hx160_1
              replace hx160_2 := (HB.out.cell (World.block_lt_of_cell? w _ hx160_2)).trans hx160_2
              replace hx160_3 := (HB.out.cell (World.block_lt_of_cell? w _ hx160_3)).trans hx160_3
              replace hx160_4 := (HB.out.cell (World.block_lt_of_cell? w _ hx160_4)).trans hx160_4
              have HR160_3 := Aside0.mk hi160_3
              have HC160_3 := Aside0.mk hl160_3
              clear hi160_3 hl160_3
              have HR160_4 := Aside0.mk hi160_4
              have HC160_4 := Aside0.mk hl160_4
              clear hi160_4 hl160_4
              replace p160 := eq_true p160
              replace q160 := eq_true q160
              go_wp2_with (first | ((with_reducible refine gate_callee (f := 24) rfl ?_); refine goesL_ (some 52) rfl rfl Tryz.func24 (by kernel_rfl) rfl #[.agg #[.int .i64 ((rd_T25 l0_3 x27_1).f0), .int .i64 ((rd_T25 l0_3 x27_1).f1), .string ((rd_T25 l0_3 x27_1).f2), .slice A160_3 ((rd_T25 l0_3 x27_1).f3).length c160_3, .slice A160_4 ((rd_T25 l0_3 x27_1).f4).length c160_4]] rfl (by (try simp only [List.map_toArray, List.map_cons, List.map_nil]); first | done | rfl | (simp only [List.length_drop, List.length_take]; rfl)) ?_; (with_reducible refine (ih kj23 (by have := HK1.out; have := HJ23.out; omega) ((rd_T25 l0_3 x27_1).f0) ((rd_T25 l0_3 x27_1).f1) ((rd_T25 l0_3 x27_1).f2) _ _ ((rd_T25 l0_3 x27_1).f3) _ _ ((rd_T25 l0_3 x27_1).f4) t161 _ ?side1 ?side2 ?side3 ?side4 A42.out).mono ?_); (case side1 => repeat (first | exact (Kd.C_below HR160_3.out HB.out) | (with_reducible refine Kd.C_alloc ?_ _) | (with_reducible refine Kd.C_drewN ?_ _) | (with_reducible refine Kd.C_drew ?_))); (case side2 => exact HC160_3.out); (case side3 => repeat (first | exact (Kd.C_below HR160_4.out HB.out) | (with_reducible refine Kd.C_alloc ?_ _) | (with_reducible refine Kd.C_drewN ?_ _) | (with_reducible refine Kd.C_drew ?_))); (case side4 => exact HC160_4.out); rintro e w45 ⟨rfl, hb⟩; refine ⟨_, rfl, ?_⟩; have n0_ := Aside0.mk (blk_below (g := gb153) (o := .cells #[.int .i64 a0_0, .int .i64 a0_1, .string a0_2, .slice (some ad160) l0_3.length c0_3, .slice A0_4 l0_4.length c0_4] 25 (0, 0)) (by (with_reducible repeat (first | refine blk_drewN ?_ _ | refine blk_drew ?_ | refine blk_alloc ?_ _)); exact BK153.out) hb); have n1_ := Aside0.mk (below_step (by repeat (first | (with_reducible first | exact HB.out | apply below_alloc | apply pw_below_drewN | apply below_drew1 | refine below_set ?_ GE153.out) | exact HB.out)) hb); clear BK153; clear HB; have BK153 := n0_; have HB := n1_; clear n0_ n1_; (try clear hb); (try clear hb2); (try clear hk); (try clear hi)))
              go_roundg kj23
              case measure => have := HK1.out; have := HJ23.out; omega
              case rel => exact ⟨(x3_23 ++ t161), (wrap64 (x27_1 + 1)), (by first | rfl | (simp; done) | (simp [*]; done)), (by first | rfl | (simp; done) | (simp [*]; done)), (by first | exact H' | (subst_vars; exact H')), ⟨by have := HK1.out; have := HJ23.out; omega⟩, ⟨by (with_reducible repeat (first | refine blk_drewN ?_ _ | refine blk_drew ?_ | refine blk_alloc ?_ _)); exact BK153.out⟩, ⟨by repeat (first | (with_reducible first | exact HB.out | apply below_alloc | apply pw_below_drewN | apply below_drew1 | refine below_set ?_ GE153.out) | exact HB.out)⟩⟩
             ·rw [if_neg c43] at H
              exact absurd H (by simp)
            ·rw [if_neg c41] at H
             exact absurd H (by simp)
           ·rw [if_neg c40] at H
            exact absurd H (by simp)
       ·rw [if_neg c23] at H
        have c23b0 : decide (x27_1 < (l0_3.length : Int)) = false := decide_eq_false c23
        clear c23
        by_cases c46 : a0_0 = 4
        ·rw [if_pos c46] at H
         have c46b0 : (a0_0 == 4) = true := beq_iff_eq.mpr c46
         have c46b1 : (a0_0 != 4) = false := bne_eq_false_iff_eq.mpr c46
         clear c46
         by_cases c47 : 1 + x3_1.size ≤ 9223372036854775807
         ·rw [if_pos c47] at H
          have c47b0 := eq_true c47
          have c47b1 : decide (1 + x3_1.size ≤ 9223372036854775807) = true := decide_eq_true c47
          try have c47b2 : (9223372036854775807 < 1 + x3_1.size) = False := eq_false (Nat.not_lt.2 c47)
          by_cases c48 : ((⟨#[91]⟩ : ByteArray) ++ x3_1).size + 1 ≤ 9223372036854775807
          ·rw [if_pos c48] at H
           have c48b0 := eq_true c48
           have c48b7 := c48
           try simp only [ByteArray.size_append] at c48b7
           have c48b8 := decide_eq_true c48b7
           try have c48b9 := Nat.not_lt.2 c48b7
           replace c48b7 := eq_true c48b7
           have c48b1 : decide (((⟨#[91]⟩ : ByteArray) ++ x3_1).size + 1 ≤ 9223372036854775807) = true := decide_eq_true c48
           try have c48b2 : (9223372036854775807 < ((⟨#[91]⟩ : ByteArray) ++ x3_1).size + 1) = False := eq_false (Nat.not_lt.2 c48)
           try have c48b5 : (9223372036854775807 < 1 + x3_1.size + 1) = False := (by have h_ := c48; simp only [ByteArray.size_append] at h_; exact eq_false (Nat.not_lt.2 h_))
           obtain rfl := Option.some.inj H
           have hcz49_0 : wr.cell? ⟨gb153, 0, none⟩ = some (.int .i64 a0_0) := (blk_cell BK153.out 0).trans rfl
           have hcz49_1 : wr.cell? ⟨gb153, 1, none⟩ = some (.int .i64 a0_1) := (blk_cell BK153.out 1).trans rfl
           have hcz49_2 : wr.cell? ⟨gb153, 2, none⟩ = some (.string a0_2) := (blk_cell BK153.out 2).trans rfl
           have hcz49_3 : wr.cell? ⟨gb153, 3, none⟩ = some (.slice A0_3 l0_3.length c0_3) := (blk_cell BK153.out 3).trans rfl
           have hcz49_4 : wr.cell? ⟨gb153, 4, none⟩ = some (.slice A0_4 l0_4.length c0_4) := (blk_cell BK153.out 4).trans rfl
           have hfz49_0 := blk_frozen BK153.out 0
           have hfz49_1 := blk_frozen BK153.out 1
           have hfz49_2 := blk_frozen BK153.out 2
           have hfz49_3 := blk_frozen BK153.out 3
           have hfz49_4 := blk_frozen BK153.out 4
           go_wp2
           go_ret
           exact ⟨by first | rfl | (simp [errW_none, errW_some] <;> rfl) | (simp [*, errW_none, errW_some] <;> rfl), by repeat (first | (with_reducible first | exact HB.out | apply below_alloc | apply pw_below_drewN | apply below_drew1 | refine below_set ?_ GE153.out) | exact HB.out)⟩
          ·rw [if_neg c48] at H
           exact absurd H (by simp)
         ·rw [if_neg c47] at H
          exact absurd H (by simp)
        ·rw [if_neg c46] at H
         have c46b0 : (a0_0 == 4) = false := beq_eq_false_iff_ne.mpr c46
         have c46b1 : (a0_0 != 4) = true := bne_iff_ne.mpr c46
         by_cases c50 : 1 + x3_1.size ≤ 9223372036854775807
         ·rw [if_pos c50] at H
          have c50b0 := eq_true c50
          have c50b1 : decide (1 + x3_1.size ≤ 9223372036854775807) = true := decide_eq_true c50
          try have c50b2 : (9223372036854775807 < 1 + x3_1.size) = False := eq_false (Nat.not_lt.2 c50)
          by_cases c51 : ((⟨#[123]⟩ : ByteArray) ++ x3_1).size + 1 ≤ 9223372036854775807
          ·rw [if_pos c51] at H
           have c51b0 := eq_true c51
           have c51b7 := c51
           try simp only [ByteArray.size_append] at c51b7
           have c51b8 := decide_eq_true c51b7
           try have c51b9 := Nat.not_lt.2 c51b7
           replace c51b7 := eq_true c51b7
           have c51b1 : decide (((⟨#[123]⟩ : ByteArray) ++ x3_1).size + 1 ≤ 9223372036854775807) = true := decide_eq_true c51
           try have c51b2 : (9223372036854775807 < ((⟨#[123]⟩ : ByteArray) ++ x3_1).size + 1) = False := eq_false (Nat.not_lt.2 c51)
           try have c51b5 : (9223372036854775807 < 1 + x3_1.size + 1) = False := (by have h_ := c51; simp only [ByteArray.size_append] at h_; exact eq_false (Nat.not_lt.2 h_))
           obtain rfl := Option.some.inj H
           have hcz52_0 : wr.cell? ⟨gb153, 0, none⟩ = some (.int .i64 a0_0) := (blk_cell BK153.out 0).trans rfl
           have hcz52_1 : wr.cell? ⟨gb153, 1, none⟩ = some (.int .i64 a0_1) := (blk_cell BK153.out 1).trans rfl
           have hcz52_2 : wr.cell? ⟨gb153, 2, none⟩ = some (.string a0_2) := (blk_cell BK153.out 2).trans rfl
           have hcz52_3 : wr.cell? ⟨gb153, 3, none⟩ = some (.slice A0_3 l0_3.length c0_3) := (blk_cell BK153.out 3).trans rfl
           have hcz52_4 : wr.cell? ⟨gb153, 4, none⟩ = some (.slice A0_4 l0_4.length c0_4) := (blk_cell BK153.out 4).trans rfl
           have hfz52_0 := blk_frozen BK153.out 0
           have hfz52_1 := blk_frozen BK153.out 1
           have hfz52_2 := blk_frozen BK153.out 2
           have hfz52_3 := blk_frozen BK153.out 3
           have hfz52_4 := blk_frozen BK153.out 4
           go_wp2
           go_ret
           exact ⟨by first | rfl | (simp [errW_none, errW_some] <;> rfl) | (simp [*, errW_none, errW_some] <;> rfl), by repeat (first | (with_reducible first | exact HB.out | apply below_alloc | apply pw_below_drewN | apply below_drew1 | refine below_set ?_ GE153.out) | exact HB.out)⟩
          ·rw [if_neg c51] at H
           exact absurd H (by simp)
         ·rw [if_neg c50] at H
          exact absurd H (by simp)

end
end Go.Proofs.YtegppacnkfeaoaaGreatDoor.G

/- Go functions as Lean functions, each with its contract: written by a program of mine over the kit's print. Conditions: each contract's own. -/
namespace Go.Proofs.YtegppacnkfeaoaaGreatDoor.G
open Go.RowKit Go.Proofs.YtegppacnkfeaoaaGreatDoorW.PrintWords Go.Proofs.YtegppacnkfeaoaaGreatDoorW.PrintLast Go.Proofs.YtegppacnkfeaoaaGreatDoorW.PrintMore
attribute [local go_sem] max2_int min2_int max_two min_two max_three min_three max_four min_four   -- for this text's walks alone
set_option linter.unusedVariables false
set_option linter.unusedSimpArgs false
noncomputable section
variable [Inhabited Bound]

/-! ### bloomeryref11_Print: function 11 -/
def bloomeryref11_Print.f (k : Nat) (a0_0 : Int) (a0_1 : Int) (a0_2 : ByteArray) (l0_3 : List (S25)) (l0_4 : List ByteArray) : Option (ByteArray) := (bloomeryref11_Check.f k a0_0 a0_1 a0_2 l0_3 l0_4).bind fun t163 => (if t163 = true then ((bloomeryref11_text.f k a0_0 a0_1 a0_2 l0_3 l0_4).bind fun t164 => (some t164)) else (some (⟨#[]⟩ : ByteArray)))
set_option maxHeartbeats 8000000 in
set_option maxRecDepth 100000 in
theorem bloomeryref11_Print.calls (k : Nat) (a0_0 : Int) (a0_1 : Int) (a0_2 : ByteArray) (A0_3 : Option Addr) (c0_3 : Nat) (l0_3 : List (S25)) (A0_4 : Option Addr) (c0_4 : Nat) (l0_4 : List ByteArray) (r : ByteArray) (w : World) (hr0_3 : Kd.C k25 w A0_3 l0_3.length l0_3) (hc0_3 : l0_3.length ≤ c0_3) (hr0_4 : Kd.C Kd.string w A0_4 l0_4.length l0_4) (hc0_4 : l0_4.length ≤ c0_4) (h : bloomeryref11_Print.f k a0_0 a0_1 a0_2 l0_3 l0_4 = some r) :
  Calls Tryz.prog 11 #[.agg #[.int .i64 a0_0, .int .i64 a0_1, .string a0_2, .slice A0_3 l0_3.length c0_3, .slice A0_4 l0_4.length c0_4]] w fun e w' => e = .returned (.string r) ∧ Below w.heap.size w w' := by
 have hu25 := Tryz.underlying25
 have HR0_3 := Aside0.mk hr0_3
 have HC0_3 := Aside0.mk hc0_3
 clear hr0_3 hc0_3
 have HR0_4 := Aside0.mk hr0_4
 have HC0_4 := Aside0.mk hc0_4
 clear hr0_4 hc0_4
 have HB := Aside0.mk (Below.refl w.heap.size w)
 have H : ((bloomeryref11_Check.f k a0_0 a0_1 a0_2 l0_3 l0_4).bind fun t163 => (if t163 = true then ((bloomeryref11_text.f k a0_0 a0_1 a0_2 l0_3 l0_4).bind fun t164 => (some t164)) else (some (⟨#[]⟩ : ByteArray)))) = some r := h
 clear h
 replace H := Option.bind_eq_some_iff.mp H
 obtain ⟨t163, A20, H⟩ := H
 replace H : (if t163 = true then ((bloomeryref11_text.f k a0_0 a0_1 a0_2 l0_3 l0_4).bind fun t164 => (some t164)) else (some (⟨#[]⟩ : ByteArray))) = some r := H
 have A2 := Aside0.mk A20
 clear A20
 by_cases c3 : t163 = true
 ·subst c3
  have H1 : ((bloomeryref11_text.f k a0_0 a0_1 a0_2 l0_3 l0_4).bind fun t164 => (some t164)) = some r := by rw [if_pos rfl] at H; exact H
  clear H
  have H := H1
  clear H1
  replace H := Option.bind_eq_some_iff.mp H
  obtain ⟨t164, A40, H⟩ := H
  replace H : (some t164) = some r := H
  have A4 := Aside0.mk A40
  clear A40
  obtain rfl := Option.some.inj H
  go_enter Tryz.func11, Tryz.ntmps11
  go_wp2_with (first | ((with_reducible refine gate_dst (N := 1) rfl ?_); refine box_event ?hg (N := 1) ?hd (cs := #[.int .i64 a0_0, .int .i64 a0_1, .string a0_2, .slice A0_3 l0_3.length c0_3, .slice A0_4 l0_4.length c0_4]) (t := 25) ?hr ?_; (case hd => rfl); (case hg => rfl); (case hr => first | (go_simp; done) | (go_simp; rfl)); intro gb162 hg w5 hbox hb; have n0_ := Aside0.mk (below_step (by repeat (first | (with_reducible first | exact HB.out | apply below_alloc | apply pw_below_drewN | apply below_drew1) | exact HB.out)) hb); have n1_ := Aside0.mk (hbox); have n2_ := Aside0.mk ((by rw [hg]; exact (below_size (by repeat (first | (with_reducible first | exact HB.out | apply below_alloc | apply pw_below_drewN | apply below_drew1) | exact HB.out))) : w.heap.size ≤ gb162)); have n3_ := Aside0.mk ((by rw [hg]; exact (below_size (by repeat (first | (with_reducible first | exact HB.out | apply below_alloc | apply pw_below_drewN | apply below_drew1) | exact HB.out))) : w.heap.size ≤ gb162)); clear HB; have HB := n0_; have BK162 := n1_; have GW162 := n2_; have GE162 := n3_; clear n0_ n1_ n2_ n3_; clear hb hbox hg; have hcz6_0 : w5.cell? ⟨gb162, 0, none⟩ = some (.int .i64 a0_0) := (blk_cell BK162.out 0).trans rfl; have hcz6_1 : w5.cell? ⟨gb162, 1, none⟩ = some (.int .i64 a0_1) := (blk_cell BK162.out 1).trans rfl; have hcz6_2 : w5.cell? ⟨gb162, 2, none⟩ = some (.string a0_2) := (blk_cell BK162.out 2).trans rfl; have hcz6_3 : w5.cell? ⟨gb162, 3, none⟩ = some (.slice A0_3 l0_3.length c0_3) := (blk_cell BK162.out 3).trans rfl; have hcz6_4 : w5.cell? ⟨gb162, 4, none⟩ = some (.slice A0_4 l0_4.length c0_4) := (blk_cell BK162.out 4).trans rfl; have hfz6_0 := blk_frozen BK162.out 0; have hfz6_1 := blk_frozen BK162.out 1; have hfz6_2 := blk_frozen BK162.out 2; have hfz6_3 := blk_frozen BK162.out 3; have hfz6_4 := blk_frozen BK162.out 4) | ((with_reducible refine gate_callee (f := 14) rfl ?_); refine goesL_ (some 4) rfl rfl Tryz.func14 (by kernel_rfl) rfl #[.agg #[.int .i64 a0_0, .int .i64 a0_1, .string a0_2, .slice A0_3 l0_3.length c0_3, .slice A0_4 l0_4.length c0_4]] rfl (by (try simp only [List.map_toArray, List.map_cons, List.map_nil]); first | done | rfl | (simp only [List.length_drop, List.length_take]; rfl)) ?_; (with_reducible refine (bloomeryref11_Check.calls k a0_0 a0_1 a0_2 _ _ l0_3 _ _ l0_4 true _ ?side1 ?side2 ?side3 ?side4 A2.out).mono ?_); (case side1 => repeat (first | exact (Kd.C_below HR0_3.out HB.out) | (with_reducible refine Kd.C_alloc ?_ _) | (with_reducible refine Kd.C_drewN ?_ _) | (with_reducible refine Kd.C_drew ?_))); (case side2 => exact HC0_3.out); (case side3 => repeat (first | exact (Kd.C_below HR0_4.out HB.out) | (with_reducible refine Kd.C_alloc ?_ _) | (with_reducible refine Kd.C_drewN ?_ _) | (with_reducible refine Kd.C_drew ?_))); (case side4 => exact HC0_4.out); rintro e w7 ⟨rfl, hb⟩; refine ⟨_, rfl, ?_⟩; have n0_ := Aside0.mk (blk_below (g := gb162) (o := .cells #[.int .i64 a0_0, .int .i64 a0_1, .string a0_2, .slice A0_3 l0_3.length c0_3, .slice A0_4 l0_4.length c0_4] 25 (0, 0)) (by (with_reducible repeat (first | refine blk_drewN ?_ _ | refine blk_drew ?_ | refine blk_alloc ?_ _)); exact BK162.out) hb); have n1_ := Aside0.mk (below_step (by repeat (first | (with_reducible first | exact HB.out | apply below_alloc | apply pw_below_drewN | apply below_drew1 | refine below_set ?_ GE162.out) | exact HB.out)) hb); clear BK162; clear HB; have BK162 := n0_; have HB := n1_; clear n0_ n1_; (try clear hb); (try clear hb2); (try clear hk); (try clear hi); have hcz8_0 : w7.cell? ⟨gb162, 0, none⟩ = some (.int .i64 a0_0) := (blk_cell BK162.out 0).trans rfl; have hcz8_1 : w7.cell? ⟨gb162, 1, none⟩ = some (.int .i64 a0_1) := (blk_cell BK162.out 1).trans rfl; have hcz8_2 : w7.cell? ⟨gb162, 2, none⟩ = some (.string a0_2) := (blk_cell BK162.out 2).trans rfl; have hcz8_3 : w7.cell? ⟨gb162, 3, none⟩ = some (.slice A0_3 l0_3.length c0_3) := (blk_cell BK162.out 3).trans rfl; have hcz8_4 : w7.cell? ⟨gb162, 4, none⟩ = some (.slice A0_4 l0_4.length c0_4) := (blk_cell BK162.out 4).trans rfl; have hfz8_0 := blk_frozen BK162.out 0; have hfz8_1 := blk_frozen BK162.out 1; have hfz8_2 := blk_frozen BK162.out 2; have hfz8_3 := blk_frozen BK162.out 3; have hfz8_4 := blk_frozen BK162.out 4) | ((with_reducible refine gate_callee (f := 24) rfl ?_); refine goesL_ (some 7) rfl rfl Tryz.func24 (by kernel_rfl) rfl #[.agg #[.int .i64 a0_0, .int .i64 a0_1, .string a0_2, .slice A0_3 l0_3.length c0_3, .slice A0_4 l0_4.length c0_4]] rfl (by (try simp only [List.map_toArray, List.map_cons, List.map_nil]); first | done | rfl | (simp only [List.length_drop, List.length_take]; rfl)) ?_; (with_reducible refine (bloomeryref11_text.calls k a0_0 a0_1 a0_2 _ _ l0_3 _ _ l0_4 t164 _ ?side1 ?side2 ?side3 ?side4 A4.out).mono ?_); (case side1 => repeat (first | exact (Kd.C_below HR0_3.out HB.out) | (with_reducible refine Kd.C_alloc ?_ _) | (with_reducible refine Kd.C_drewN ?_ _) | (with_reducible refine Kd.C_drew ?_))); (case side2 => exact HC0_3.out); (case side3 => repeat (first | exact (Kd.C_below HR0_4.out HB.out) | (with_reducible refine Kd.C_alloc ?_ _) | (with_reducible refine Kd.C_drewN ?_ _) | (with_reducible refine Kd.C_drew ?_))); (case side4 => exact HC0_4.out); rintro e w9 ⟨rfl, hb⟩; refine ⟨_, rfl, ?_⟩; have n0_ := Aside0.mk (blk_below (g := gb162) (o := .cells #[.int .i64 a0_0, .int .i64 a0_1, .string a0_2, .slice A0_3 l0_3.length c0_3, .slice A0_4 l0_4.length c0_4] 25 (0, 0)) (by (with_reducible repeat (first | refine blk_drewN ?_ _ | refine blk_drew ?_ | refine blk_alloc ?_ _)); exact BK162.out) hb); have n1_ := Aside0.mk (below_step (by repeat (first | (with_reducible first | exact HB.out | apply below_alloc | apply pw_below_drewN | apply below_drew1 | refine below_set ?_ GE162.out) | exact HB.out)) hb); clear BK162; clear HB; have BK162 := n0_; have HB := n1_; clear n0_ n1_; (try clear hb); (try clear hb2); (try clear hk); (try clear hi)))
  go_ret
  exact ⟨by first | rfl | (simp [errW_none, errW_some] <;> rfl) | (simp [*, errW_none, errW_some] <;> rfl), by repeat (first | (with_reducible first | exact HB.out | apply below_alloc | apply pw_below_drewN | apply below_drew1 | refine below_set ?_ GE162.out) | exact HB.out)⟩
 ·replace c3 := Bool.eq_false_iff.mpr c3
  subst c3
  have H1 : (some (⟨#[]⟩ : ByteArray)) = some r := by rw [if_neg (show ¬ (false = true) by decide)] at H; exact H
  clear H
  have H := H1
  clear H1
  obtain rfl := Option.some.inj H
  go_enter Tryz.func11, Tryz.ntmps11
  go_wp2_with (first | ((with_reducible refine gate_dst (N := 1) rfl ?_); refine box_event ?hg (N := 1) ?hd (cs := #[.int .i64 a0_0, .int .i64 a0_1, .string a0_2, .slice A0_3 l0_3.length c0_3, .slice A0_4 l0_4.length c0_4]) (t := 25) ?hr ?_; (case hd => rfl); (case hg => rfl); (case hr => first | (go_simp; done) | (go_simp; rfl)); intro gb162 hg w10 hbox hb; have n0_ := Aside0.mk (below_step (by repeat (first | (with_reducible first | exact HB.out | apply below_alloc | apply pw_below_drewN | apply below_drew1) | exact HB.out)) hb); have n1_ := Aside0.mk (hbox); have n2_ := Aside0.mk ((by rw [hg]; exact (below_size (by repeat (first | (with_reducible first | exact HB.out | apply below_alloc | apply pw_below_drewN | apply below_drew1) | exact HB.out))) : w.heap.size ≤ gb162)); have n3_ := Aside0.mk ((by rw [hg]; exact (below_size (by repeat (first | (with_reducible first | exact HB.out | apply below_alloc | apply pw_below_drewN | apply below_drew1) | exact HB.out))) : w.heap.size ≤ gb162)); clear HB; have HB := n0_; have BK162 := n1_; have GW162 := n2_; have GE162 := n3_; clear n0_ n1_ n2_ n3_; clear hb hbox hg; have hcz11_0 : w10.cell? ⟨gb162, 0, none⟩ = some (.int .i64 a0_0) := (blk_cell BK162.out 0).trans rfl; have hcz11_1 : w10.cell? ⟨gb162, 1, none⟩ = some (.int .i64 a0_1) := (blk_cell BK162.out 1).trans rfl; have hcz11_2 : w10.cell? ⟨gb162, 2, none⟩ = some (.string a0_2) := (blk_cell BK162.out 2).trans rfl; have hcz11_3 : w10.cell? ⟨gb162, 3, none⟩ = some (.slice A0_3 l0_3.length c0_3) := (blk_cell BK162.out 3).trans rfl; have hcz11_4 : w10.cell? ⟨gb162, 4, none⟩ = some (.slice A0_4 l0_4.length c0_4) := (blk_cell BK162.out 4).trans rfl; have hfz11_0 := blk_frozen BK162.out 0; have hfz11_1 := blk_frozen BK162.out 1; have hfz11_2 := blk_frozen BK162.out 2; have hfz11_3 := blk_frozen BK162.out 3; have hfz11_4 := blk_frozen BK162.out 4) | ((with_reducible refine gate_callee (f := 14) rfl ?_); refine goesL_ (some 4) rfl rfl Tryz.func14 (by kernel_rfl) rfl #[.agg #[.int .i64 a0_0, .int .i64 a0_1, .string a0_2, .slice A0_3 l0_3.length c0_3, .slice A0_4 l0_4.length c0_4]] rfl (by (try simp only [List.map_toArray, List.map_cons, List.map_nil]); first | done | rfl | (simp only [List.length_drop, List.length_take]; rfl)) ?_; (with_reducible refine (bloomeryref11_Check.calls k a0_0 a0_1 a0_2 _ _ l0_3 _ _ l0_4 false _ ?side1 ?side2 ?side3 ?side4 A2.out).mono ?_); (case side1 => repeat (first | exact (Kd.C_below HR0_3.out HB.out) | (with_reducible refine Kd.C_alloc ?_ _) | (with_reducible refine Kd.C_drewN ?_ _) | (with_reducible refine Kd.C_drew ?_))); (case side2 => exact HC0_3.out); (case side3 => repeat (first | exact (Kd.C_below HR0_4.out HB.out) | (with_reducible refine Kd.C_alloc ?_ _) | (with_reducible refine Kd.C_drewN ?_ _) | (with_reducible refine Kd.C_drew ?_))); (case side4 => exact HC0_4.out); rintro e w12 ⟨rfl, hb⟩; refine ⟨_, rfl, ?_⟩; have n0_ := Aside0.mk (blk_below (g := gb162) (o := .cells #[.int .i64 a0_0, .int .i64 a0_1, .string a0_2, .slice A0_3 l0_3.length c0_3, .slice A0_4 l0_4.length c0_4] 25 (0, 0)) (by (with_reducible repeat (first | refine blk_drewN ?_ _ | refine blk_drew ?_ | refine blk_alloc ?_ _)); exact BK162.out) hb); have n1_ := Aside0.mk (below_step (by repeat (first | (with_reducible first | exact HB.out | apply below_alloc | apply pw_below_drewN | apply below_drew1 | refine below_set ?_ GE162.out) | exact HB.out)) hb); clear BK162; clear HB; have BK162 := n0_; have HB := n1_; clear n0_ n1_; (try clear hb); (try clear hb2); (try clear hk); (try clear hi)))
  go_ret
  exact ⟨by first | rfl | (simp [errW_none, errW_some] <;> rfl) | (simp [*, errW_none, errW_some] <;> rfl), by repeat (first | (with_reducible first | exact HB.out | apply below_alloc | apply pw_below_drewN | apply below_drew1 | refine below_set ?_ GE162.out) | exact HB.out)⟩

end
end Go.Proofs.YtegppacnkfeaoaaGreatDoor.G

/- What the reference's text (as a Lean function) comes to. No program's run. -/
namespace Go.Proofs.YtegppacnkfeaoaaGreatDoor.G
open Go.RowKit Go.Gw Go.Proofs.YtegppacnkfeaoaaGreatDoorW.PrintWords
set_option linter.unusedVariables false
set_option linter.unusedSimpArgs false

variable [Inhabited Bound]

/-! ### the reference's text -/
def RTextOK (x : S25) : Prop := Ev (fun k => bloomeryref11_text.f k x.f0 x.f1 x.f2 x.f3 x.f4) (textT x)
theorem app_size (a b : ByteArray) : (a ++ b).size = a.size + b.size := ByteArray.size_append
/-- What the round puts behind what is there. -/
theorem rtext_end (v : S25) (h45 : v.f0 = 4 ∨ v.f0 = 5) (out : ByteArray) (ho : out.size ≤ 1000000) (i : Nat) (hi : i = v.f3.length) :
    Ev (fun k => bloomeryref11_text.l0 k out (v.f3.length : Int) (i : Int) v.f0 v.f1 v.f2 v.f3 v.f4) ((if v.f0 = 4 then ⟨#[91]⟩ else ⟨#[123]⟩) ++ out ++ (if v.f0 = 4 then ⟨#[93]⟩ else ⟨#[125]⟩)) := by
  have e1 : ((⟨#[91]⟩ : ByteArray) ++ out).size = 1 + out.size := by rw [app_size]; rfl
  have e2 : ((⟨#[123]⟩ : ByteArray) ++ out).size = 1 + out.size := by rw [app_size]; rfl
  refine Ev.step (f := fun _ => some ((if v.f0 = 4 then ⟨#[91]⟩ else ⟨#[123]⟩) ++ out ++ (if v.f0 = 4 then ⟨#[93]⟩ else ⟨#[125]⟩))) (fun k => ?_) (Ev.now _)
  rw [bloomeryref11_text.l0, if_neg (by omega)]
  by_cases h : v.f0 = 4
  · rw [if_pos h, if_pos (by omega), if_pos (by omega), if_pos h, if_pos h]
  · rw [if_neg h, if_pos (by omega), if_pos (by omega), if_neg h, if_neg h]
theorem rtext_loop (v : S25) (hn : nodeP v) (h45 : v.f0 = 4 ∨ v.f0 = 5) (hj : (joinS (pieces v.f0 v.f4 (v.f3.map textT)) ⟨#[44, 32]⟩).size ≤ 1000000) (hc : ∀ x ∈ v.f3, RTextOK x ∧ (textT x).size ≤ 1000000) :
    ∀ (b a : List S25) (ka kb ps : List ByteArray), v.f3 = a ++ b → v.f4 = ka ++ kb → (v.f0 = 5 → ka.length = a.length) → pieces v.f0 v.f4 (v.f3.map textT) = ps ++ pieces v.f0 kb (b.map textT) → ps.length = a.length →
    Ev (fun k => bloomeryref11_text.l0 k (joinS ps ⟨#[44, 32]⟩) (v.f3.length : Int) (a.length : Int) v.f0 v.f1 v.f2 v.f3 v.f4) (textT v) := by
  obtain ⟨n1, n2, n3, n4, n5, _⟩ := node_len hn
  intro b
  induction b with
  | nil =>
    intro a ka kb ps e1 e2 e3 e4 e5
    have hp : pieces v.f0 v.f4 (v.f3.map textT) = ps := by
      rw [e4]
      unfold pieces
      split <;> simp
    rw [textT_list h45, hp]
    rw [hp] at hj
    exact rtext_end v h45 _ hj a.length (by rw [e1]; simp)
  | cons x b ih =>
    intro a ka kb ps e1 e2 e3 e4 e5
    obtain ⟨l1, l2, l3⟩ := len_mid e1 (by omega)
    have er : rd_T25 v.f3 (a.length : Int) = x := by rw [e1]; exact rd_mid a x b
    obtain ⟨hx1, hx2⟩ := hc x (by rw [e1]; simp)
    have hpart := joinS_part ps (pieces v.f0 kb ((x :: b).map textT)) ⟨#[44, 32]⟩
    rw [← e4] at hpart
    -- one piece more
    have more : ∀ (p : ByteArray) (kc : List ByteArray), pieces v.f0 kb ((x :: b).map textT) = p :: pieces v.f0 kc (b.map textT) → ∀ out, out ++ p = joinS (ps ++ [p]) ⟨#[44, 32]⟩ → out.size + p.size ≤ 1000000 := by
      intro p kc hp out ho
      have := joinS_part (ps ++ [p]) (pieces v.f0 kc (b.map textT)) ⟨#[44, 32]⟩
      rw [List.append_assoc, List.singleton_append, ← hp, ← e4, ← ho, app_size] at this
      omega
    -- what stands ahead of the piece
    obtain ⟨out, hout, hfirst⟩ : ∃ out, (∀ p, out ++ p = joinS (ps ++ [p]) ⟨#[44, 32]⟩) ∧ ∀ k, bloomeryref11_text.l0 (k + 1) (joinS ps ⟨#[44, 32]⟩) (v.f3.length : Int) (a.length : Int) v.f0 v.f1 v.f2 v.f3 v.f4 = bloomeryref11_text.j1 k out (a.length : Int) (v.f3.length : Int) (a.length : Int) v.f0 v.f1 v.f2 v.f3 v.f4 := by
      by_cases h0 : ps = []
      · subst h0
        refine ⟨⟨#[]⟩, fun p => ?_, fun k => ?_⟩
        · rw [List.nil_append, joinS_one]
          exact ByteArray.empty_append
        · have : a.length = 0 := by rw [← e5]; rfl
          rw [bloomeryref11_text.l0, if_pos l1, if_neg (by omega)]
          rfl
      · refine ⟨joinS ps ⟨#[44, 32]⟩ ++ ⟨#[44, 32]⟩, fun p => (joinS_snoc ps h0 p _).symm, fun k => ?_⟩
        have : 0 < ps.length := List.length_pos_iff.2 h0
        rw [bloomeryref11_text.l0, if_pos l1, if_pos (by omega), if_pos (by omega)]
    by_cases h5 : v.f0 = 5
    · have hk3 := e3 h5
      have hk4 := n5 h5
      obtain ⟨key, kb, rfl⟩ : ∃ key r, kb = key :: r := by
        cases kb with
        | nil => rw [e1, e2] at hk4; simp at hk4; omega
        | cons k r => exact ⟨k, r, rfl⟩
      have ek : rdOf ByteArray.empty v.f4 (a.length : Int) = key := by rw [e2, ← hk3]; exact rdOf_mid ka key kb
      have hkey : key.size ≤ 65536 := n4 key (by rw [e2]; simp)
      have hlt : (a.length : Int) < (v.f4.length : Int) := by omega
      have hp : pieces v.f0 (key :: kb) ((x :: b).map textT) = (quoteS key ++ ⟨#[58, 32]⟩ ++ textT x) :: pieces v.f0 kb (b.map textT) := by unfold pieces; rw [if_pos h5, if_pos h5]; rfl
      have hm := more _ kb hp out (hout _)
      have hq := quoteS_size key
      have s1 : (out ++ quoteS key).size = out.size + (quoteS key).size := app_size _ _
      have s2 : (out ++ quoteS key ++ (⟨#[58, 32]⟩ : ByteArray)).size = out.size + (quoteS key).size + 2 := by rw [app_size, app_size]; rfl
      have s3 : (quoteS key ++ ⟨#[58, 32]⟩ ++ textT x).size = (quoteS key).size + 2 + (textT x).size := by rw [app_size, app_size]; rfl
      have ih' := ih (a ++ [x]) (ka ++ [key]) kb (ps ++ [quoteS key ++ ⟨#[58, 32]⟩ ++ textT x]) l3 (by rw [e2]; simp) (fun _ => by simp [hk3]) (by rw [e4, hp]; simp) (by simp [e5])
      rw [← hout] at ih'
      have ea : out ++ quoteS key ++ ⟨#[58, 32]⟩ ++ textT x = out ++ (quoteS key ++ ⟨#[58, 32]⟩ ++ textT x) := by rw [ByteArray.append_assoc, ByteArray.append_assoc, ByteArray.append_assoc]
      rw [← ea] at ih'
      refine Ev.step hfirst (Ev.step (f := fun k => (bloomeryref11_text.f k x.f0 x.f1 x.f2 x.f3 x.f4).bind fun t => if (out ++ quoteS key ++ (⟨#[58, 32]⟩ : ByteArray)).size + t.size ≤ 9223372036854775807 then bloomeryref11_text.l0 k (out ++ quoteS key ++ (⟨#[58, 32]⟩ : ByteArray) ++ t) (v.f3.length : Int) ((a ++ [x]).length : Int) v.f0 v.f1 v.f2 v.f3 v.f4 else none) (fun k => ?_) (Ev.bind (f := fun k t => if (out ++ quoteS key ++ (⟨#[58, 32]⟩ : ByteArray)).size + t.size ≤ 9223372036854775807 then bloomeryref11_text.l0 k (out ++ quoteS key ++ (⟨#[58, 32]⟩ : ByteArray) ++ t) (v.f3.length : Int) ((a ++ [x]).length : Int) v.f0 v.f1 v.f2 v.f3 v.f4 else none) hx1 (Ev.pos (by omega) ih')))
      rw [bloomeryref11_text.j1, if_pos h5, if_pos (by omega), if_pos hlt, ek, rquote_f (by omega), Option.bind_some, if_pos (by omega), if_pos (by omega), if_pos l1, er, l2]
    · have hp : pieces v.f0 kb ((x :: b).map textT) = textT x :: pieces v.f0 kb (b.map textT) := by unfold pieces; rw [if_neg h5, if_neg h5]; rfl
      have hm := more _ kb hp out (hout _)
      have ih' := ih (a ++ [x]) ka kb (ps ++ [textT x]) l3 e2 (fun h => absurd h h5) (by rw [e4, hp]; simp) (by simp [e5])
      rw [← hout] at ih'
      refine Ev.step hfirst (Ev.step (f := fun k => (bloomeryref11_text.f k x.f0 x.f1 x.f2 x.f3 x.f4).bind fun t => if out.size + t.size ≤ 9223372036854775807 then bloomeryref11_text.l0 k (out ++ t) (v.f3.length : Int) ((a ++ [x]).length : Int) v.f0 v.f1 v.f2 v.f3 v.f4 else none) (fun k => ?_) (Ev.bind (f := fun k t => if out.size + t.size ≤ 9223372036854775807 then bloomeryref11_text.l0 k (out ++ t) (v.f3.length : Int) ((a ++ [x]).length : Int) v.f0 v.f1 v.f2 v.f3 v.f4 else none) hx1 (Ev.pos (by omega) ih')))
      rw [bloomeryref11_text.j1, if_neg h5, if_pos (by omega), if_pos l1, er, l2]
theorem rtext_ev : ∀ v : S25, mayText v → RTextOK v := by
  refine tree_ind (P := fun v => mayText v → RTextOK v) ?_
  intro v ih hv
  obtain ⟨n1, n2, n3, n4, n5, n6, n7⟩ := node_len hv.1.here.1
  have hr := hv.1.here.2
  have step : ∀ {g : Nat → Option ByteArray}, (∀ k, bloomeryref11_text.f (k + 1) v.f0 v.f1 v.f2 v.f3 v.f4 = g k) → Ev g (textT v) → RTextOK v := fun h e => Ev.step h e
  by_cases k0 : v.f0 = 0
  · refine step (g := fun _ => some (textT v)) (fun k => ?_) (Ev.now _)
    rw [bloomeryref11_text.f, if_pos k0, textT_eq, if_neg (by omega), if_neg (by omega), if_neg (by omega), if_neg (by omega), if_neg (by omega)]
  by_cases k1 : v.f0 = 1
  · refine step (g := fun _ => some (textT v)) (fun k => ?_) (Ev.now _)
    rw [bloomeryref11_text.f, if_neg k0, if_pos k1, textT_eq, if_pos k1]
    split <;> rfl
  by_cases k2 : v.f0 = 2
  · refine step (g := fun _ => some (textT v)) (fun k => ?_) (Ev.now _)
    rw [bloomeryref11_text.f, if_neg k0, if_neg k1, if_pos k2, rnum_f hr, textT_eq, if_neg k1, if_pos k2]; rfl
  by_cases k3 : v.f0 = 3
  · refine step (g := fun _ => some (textT v)) (fun k => ?_) (Ev.now _)
    rw [bloomeryref11_text.f, if_neg k0, if_neg k1, if_neg k2, if_pos k3, rquote_f (by omega), textT_eq, if_neg k1, if_neg k2, if_pos k3]; rfl
  have h45 : v.f0 = 4 ∨ v.f0 = 5 := by omega
  have hj := join_le_text h45
  have hsz := hv.2
  have := rtext_loop v hv.1.here.1 h45 (by omega) (fun x hx => ⟨ih x hx (hv.kid hx), (hv.kid hx).2⟩) v.f3 [] [] v.f4 [] rfl rfl (fun _ => rfl) rfl rfl
  refine step (g := fun k => bloomeryref11_text.l0 k (⟨#[]⟩ : ByteArray) (v.f3.length : Int) 0 v.f0 v.f1 v.f2 v.f3 v.f4) (fun k => ?_) this
  rw [bloomeryref11_text.f, if_neg k0, if_neg k1, if_neg k2, if_neg k3]
end Go.Proofs.YtegppacnkfeaoaaGreatDoor.G

/- Go functions as Lean functions, each with its contract: written by a program of mine over the kit's print. Conditions: each contract's own. -/
namespace Go.Proofs.YtegppacnkfeaoaaGreatDoor.G
open Go.RowKit Go.Proofs.YtegppacnkfeaoaaGreatDoorW.PrintWords Go.Proofs.YtegppacnkfeaoaaGreatDoorW.PrintLast Go.Proofs.YtegppacnkfeaoaaGreatDoorW.PrintMore
attribute [local go_sem] max2_int min2_int max_two min_two max_three min_three max_four min_four   -- for this text's walks alone
set_option linter.unusedVariables false
set_option linter.unusedSimpArgs false
noncomputable section
variable [Inhabited Bound]

/-! ### value_row: function 30 -/
mutual
def value_row.l0 : Nat → List ByteArray → List ByteArray → Int → Int → Int → Int → ByteArray → List (S25) → List ByteArray → Option (ByteArray)
 | 0, _, _, _, _, _, _, _, _, _ => none
 | k + 1, x3, x40, x41, x42, x185000, x185001, x185002, x185003, x185004 => if x42 < x41 then (if 0 ≤ x42 then (if x42 < (x40.length : Int) then (if x42 < (x185003.length : Int) then ((value_row.f k ((rd_T25 x185003 x42).f0) ((rd_T25 x185003 x42).f1) ((rd_T25 x185003 x42).f2) ((rd_T25 x185003 x42).f3) ((rd_T25 x185003 x42).f4)).bind fun t214 => ((some (([rdOf ByteArray.empty x40 x42, t214] : List ByteArray) : List ByteArray)).bind fun y215 => (if x3.length + y215.length < 8796093022208 then (value_row.l0 k (x3 ++ y215) x40 x41 (wrap64 (x42 + 1)) x185000 x185001 x185002 x185003 x185004) else (none)))) else (none)) else (none)) else (none)) else ((pack_Row.f x3).bind fun t221 => (some t221))
def value_row.f : Nat → Int → Int → ByteArray → List (S25) → List ByteArray → Option (ByteArray)
 | 0, _, _, _, _, _ => none
 | k + 1, a0_0, a0_1, a0_2, l0_3, l0_4 => if a0_0 = 1 then ((pack_Num.f a0_1).bind fun t185 => ((pack_Row.f (([(⟨#[98, 111, 111, 108]⟩ : ByteArray), t185] : List ByteArray))).bind fun t189 => (some t189))) else (if a0_0 = 2 then ((pack_Num.f a0_1).bind fun t190 => ((pack_Row.f (([(⟨#[105, 110, 116]⟩ : ByteArray), t190] : List ByteArray))).bind fun t194 => (some t194))) else (if a0_0 = 3 then ((pack_Row.f (([(⟨#[116, 101, 120, 116]⟩ : ByteArray), a0_2] : List ByteArray))).bind fun t198 => (some t198)) else (if a0_0 = 4 then ((some (([(⟨#[108, 105, 115, 116]⟩ : ByteArray)] : List ByteArray) : List ByteArray)).bind fun y199 => ((value_all.f l0_3 30).bind fun t202 => (if y199.length + t202.length < 8796093022208 then ((pack_Row.f (y199 ++ t202)).bind fun t208 => (some t208)) else (none)))) else (if a0_0 = 5 then (value_row.l0 k (([(⟨#[100, 105, 99, 116]⟩ : ByteArray)] : List ByteArray)) l0_4 (l0_4.length : Int) 0 a0_0 a0_1 a0_2 l0_3 l0_4) else ((pack_Row.f (([(⟨#[110, 111, 110, 101]⟩ : ByteArray)] : List ByteArray))).bind fun t225 => (some t225))))))
end
set_option maxHeartbeats 8000000 in
set_option maxRecDepth 100000 in
theorem value_row.calls (k : Nat) : ∀ (a0_0 : Int) (a0_1 : Int) (a0_2 : ByteArray) (A0_3 : Option Addr) (c0_3 : Nat) (l0_3 : List (S25)) (A0_4 : Option Addr) (c0_4 : Nat) (l0_4 : List ByteArray) (r : ByteArray) (w : World) (hgl : Gl w) (hr0_3 : Kd.C k25 w A0_3 l0_3.length l0_3) (hc0_3 : l0_3.length ≤ c0_3) (hr0_4 : Kd.C Kd.string w A0_4 l0_4.length l0_4) (hc0_4 : l0_4.length ≤ c0_4) (h : value_row.f k a0_0 a0_1 a0_2 l0_3 l0_4 = some r),
  Calls Tryz.prog 30 #[.agg #[.int .i64 a0_0, .int .i64 a0_1, .string a0_2, .slice A0_3 l0_3.length c0_3, .slice A0_4 l0_4.length c0_4]] w fun e w' => e = .returned (.string r) ∧ Below w.heap.size w w' := by
 induction k using Nat.strongRecOn with
 | _ k ih =>
 intro a0_0 a0_1 a0_2 A0_3 c0_3 l0_3 A0_4 c0_4 l0_4 r w hgl hr0_3 hc0_3 hr0_4 hc0_4 h
 cases k with
 | zero => exact absurd h (by simp [value_row.f])
 | succ k =>
 simp only [value_row.f] at h
 have HGL := Aside0.mk hgl
 clear hgl
 have hu25 := Tryz.underlying25
 have HR0_3 := Aside0.mk hr0_3
 have HC0_3 := Aside0.mk hc0_3
 clear hr0_3 hc0_3
 have HR0_4 := Aside0.mk hr0_4
 have HC0_4 := Aside0.mk hc0_4
 clear hr0_4 hc0_4
 have HB := Aside0.mk (Below.refl w.heap.size w)
 have H : (if a0_0 = 1 then ((pack_Num.f a0_1).bind fun t185 => ((pack_Row.f (([(⟨#[98, 111, 111, 108]⟩ : ByteArray), t185] : List ByteArray))).bind fun t189 => (some t189))) else (if a0_0 = 2 then ((pack_Num.f a0_1).bind fun t190 => ((pack_Row.f (([(⟨#[105, 110, 116]⟩ : ByteArray), t190] : List ByteArray))).bind fun t194 => (some t194))) else (if a0_0 = 3 then ((pack_Row.f (([(⟨#[116, 101, 120, 116]⟩ : ByteArray), a0_2] : List ByteArray))).bind fun t198 => (some t198)) else (if a0_0 = 4 then ((some (([(⟨#[108, 105, 115, 116]⟩ : ByteArray)] : List ByteArray) : List ByteArray)).bind fun y199 => ((value_all.f l0_3 30).bind fun t202 => (if y199.length + t202.length < 8796093022208 then ((pack_Row.f (y199 ++ t202)).bind fun t208 => (some t208)) else (none)))) else (if a0_0 = 5 then (value_row.l0 k (([(⟨#[100, 105, 99, 116]⟩ : ByteArray)] : List ByteArray)) l0_4 (l0_4.length : Int) 0 a0_0 a0_1 a0_2 l0_3 l0_4) else ((pack_Row.f (([(⟨#[110, 111, 110, 101]⟩ : ByteArray)] : List ByteArray))).bind fun t225 => (some t225))))))) = some r := h
 clear h
 by_cases c2 : a0_0 = 1
 ·rw [if_pos c2] at H
  have c2b0 : (a0_0 == 1) = true := beq_iff_eq.mpr c2
  have c2b1 : (a0_0 != 1) = false := bne_eq_false_iff_eq.mpr c2
  clear c2
  replace H := Option.bind_eq_some_iff.mp H
  obtain ⟨t185, A30, H⟩ := H
  replace H : ((pack_Row.f (([(⟨#[98, 111, 111, 108]⟩ : ByteArray), t185] : List ByteArray))).bind fun t189 => (some t189)) = some r := H
  have A3 := Aside0.mk A30
  clear A30
  obtain ⟨y186, hy186⟩ : ∃ y_ : List ByteArray, y_ = (([(⟨#[98, 111, 111, 108]⟩ : ByteArray), t185] : List ByteArray)) := ⟨_, rfl⟩
  replace H : ((pack_Row.f y186).bind fun t189 => (some t189)) = some r := by first | (rw [hy186]; with_reducible exact H) | (have H2_ := (Option.bind_some _ _).symm.trans H; rw [hy186]; with_reducible exact H2_) | (have H2_ := (Option.bind_some _ _).symm.trans H; with_reducible exact H2_) | with_reducible exact H | (rw [hy186]; exact H) | exact H
  have Ny186 := Aside0.mk hy186
  clear hy186
  replace H := Option.bind_eq_some_iff.mp H
  obtain ⟨t189, A40, H⟩ := H
  replace H : (some t189) = some r := H
  have A4 := Aside0.mk A40
  clear A40
  obtain rfl := Option.some.inj H
  go_enter Tryz.func30, Tryz.ntmps30
  go_wp2_with (first | ((with_reducible refine gate_dst (N := 1) rfl ?_); refine box_event ?hg (N := 1) ?hd (cs := #[.int .i64 a0_0, .int .i64 a0_1, .string a0_2, .slice A0_3 l0_3.length c0_3, .slice A0_4 l0_4.length c0_4]) (t := 25) ?hr ?_; (case hd => rfl); (case hg => rfl); (case hr => first | (go_simp; done) | (go_simp; rfl)); intro gb184 hg w5 hbox hb; have n0_ := Aside0.mk (below_step (by repeat (first | (with_reducible first | exact HB.out | apply below_alloc | apply pw_below_drewN | apply below_drew1) | exact HB.out)) hb); have n1_ := Aside0.mk (hbox); have n2_ := Aside0.mk ((by rw [hg]; exact (below_size (by repeat (first | (with_reducible first | exact HB.out | apply below_alloc | apply pw_below_drewN | apply below_drew1) | exact HB.out))) : w.heap.size ≤ gb184)); have n3_ := Aside0.mk ((by rw [hg]; exact (below_size (by repeat (first | (with_reducible first | exact HB.out | apply below_alloc | apply pw_below_drewN | apply below_drew1) | exact HB.out))) : w.heap.size ≤ gb184)); clear HB; have HB := n0_; have BK184 := n1_; have GW184 := n2_; have GE184 := n3_; clear n0_ n1_ n2_ n3_; clear hb hbox hg; have hcz6_0 : w5.cell? ⟨gb184, 0, none⟩ = some (.int .i64 a0_0) := (blk_cell BK184.out 0).trans rfl; have hcz6_1 : w5.cell? ⟨gb184, 1, none⟩ = some (.int .i64 a0_1) := (blk_cell BK184.out 1).trans rfl; have hcz6_2 : w5.cell? ⟨gb184, 2, none⟩ = some (.string a0_2) := (blk_cell BK184.out 2).trans rfl; have hcz6_3 : w5.cell? ⟨gb184, 3, none⟩ = some (.slice A0_3 l0_3.length c0_3) := (blk_cell BK184.out 3).trans rfl; have hcz6_4 : w5.cell? ⟨gb184, 4, none⟩ = some (.slice A0_4 l0_4.length c0_4) := (blk_cell BK184.out 4).trans rfl; have hfz6_0 := blk_frozen BK184.out 0; have hfz6_1 := blk_frozen BK184.out 1; have hfz6_2 := blk_frozen BK184.out 2; have hfz6_3 := blk_frozen BK184.out 3; have hfz6_4 := blk_frozen BK184.out 4) | ((with_reducible refine gate_callee (f := 38) rfl ?_); refine goesL_ (some 12) rfl rfl Tryz.func38 (by kernel_rfl) rfl #[.int .i64 a0_1] rfl (by (try simp only [List.map_toArray, List.map_cons, List.map_nil]); first | done | rfl | (simp only [List.length_drop, List.length_take]; rfl)) ?_; (with_reducible refine (pack_Num.calls a0_1 t185 _ ?side1 A3.out).mono ?_); (case side1 => exact Gl.below HGL.out (by repeat (first | (with_reducible first | exact HB.out | apply below_alloc | apply pw_below_drewN | apply below_drew1 | refine below_set ?_ GE184.out) | exact HB.out))); rintro e w7 ⟨rfl, hb⟩; refine ⟨_, rfl, ?_⟩; have n0_ := Aside0.mk (blk_below (g := gb184) (o := .cells #[.int .i64 a0_0, .int .i64 a0_1, .string a0_2, .slice A0_3 l0_3.length c0_3, .slice A0_4 l0_4.length c0_4] 25 (0, 0)) (by (with_reducible repeat (first | refine blk_drewN ?_ _ | refine blk_drew ?_ | refine blk_alloc ?_ _)); exact BK184.out) hb); have n1_ := Aside0.mk (below_step (by repeat (first | (with_reducible first | exact HB.out | apply below_alloc | apply pw_below_drewN | apply below_drew1 | refine below_set ?_ GE184.out) | exact HB.out)) hb); clear BK184; clear HB; have BK184 := n0_; have HB := n1_; clear n0_ n1_; (try clear hb); (try clear hb2); (try clear hk); (try clear hi)) | ((with_reducible refine gate_dst (N := 13) rfl ?_); refine Kd.R_lit Kd.string _ 9 ?hg (N := 13) ?hd (xs := ([(⟨#[98, 111, 111, 108]⟩ : ByteArray), t185] : List ByteArray)) (inner := [.string (⟨#[98, 111, 111, 108]⟩ : ByteArray), .string t185]) (ok := fun _ => True) (okp := fun _ => True) ?hr ?hp (fun _ hk => hk) trivial (Below.refl _ _) (Nat.le_refl _) (by simp) ?_; (case hd => rfl); (case hg => rfl); (case hr => first | (go_simp; done) | (go_simp; rfl)); (case hp => exact (Reps.one (show Kd.M Kd.string _ _ _ (⟨#[98, 111, 111, 108]⟩ : ByteArray) [.string (⟨#[98, 111, 111, 108]⟩ : ByteArray)] from rfl) (Reps.one (show Kd.M Kd.string _ _ _ t185 [.string t185] from rfl) (Reps.none _ _)))); intro v187 w8 ho9 hb hg_ hnew_; clear hg_ hnew_; (first | rw [← Ny186.out] at ho9 | (simp only [Int.reduceToNat] at ho9; rw [← Ny186.out] at ho9)); have n0_ := Aside0.mk (Kd.R_lower ho9 (below_size (by repeat (first | (with_reducible first | exact HB.out | apply below_alloc | apply pw_below_drewN | apply below_drew1 | refine below_set ?_ GE184.out) | exact HB.out)))); have n1_ := Aside0.mk (blk_below (g := gb184) (o := .cells #[.int .i64 a0_0, .int .i64 a0_1, .string a0_2, .slice A0_3 l0_3.length c0_3, .slice A0_4 l0_4.length c0_4] 25 (0, 0)) (by (with_reducible repeat (first | refine blk_drewN ?_ _ | refine blk_drew ?_ | refine blk_alloc ?_ _)); exact BK184.out) hb); have n2_ := Aside0.mk (below_step (by repeat (first | (with_reducible first | exact HB.out | apply below_alloc | apply pw_below_drewN | apply below_drew1 | refine below_set ?_ GE184.out) | exact HB.out)) hb); clear BK184; clear HB; have HO188 := n0_; have BK184 := n1_; have HB := n2_; clear n0_ n1_ n2_; clear hb ho9; obtain ⟨Ao10, co10, eo10⟩ := Kd.R_slice HO188.out; subst eo10) | ((with_reducible refine gate_callee (f := 45) rfl ?_); refine goesL_ (some 14) rfl rfl Tryz.func45 (by kernel_rfl) rfl #[.slice Ao10 y186.length co10] rfl (by (try simp only [List.map_toArray, List.map_cons, List.map_nil]); first | done | rfl | (simp only [List.length_drop, List.length_take]; rfl)) ?_; (with_reducible refine (pack_Row.calls _ _ y186 t189 _ ?side3 ?side1 ?side2 A4.out).mono ?_); (case side1 => repeat (first | exact (Kd.R_reads' HO188.out).2.2 | (with_reducible refine Kd.C_alloc ?_ _) | (with_reducible refine Kd.C_drewN ?_ _) | (with_reducible refine Kd.C_drew ?_))); (case side2 => exact (Kd.R_reads' HO188.out).2.1); (case side3 => exact Gl.below HGL.out (by repeat (first | (with_reducible first | exact HB.out | apply below_alloc | apply pw_below_drewN | apply below_drew1 | refine below_set ?_ GE184.out) | exact HB.out))); rintro e w11 ⟨rfl, hb⟩; refine ⟨_, rfl, ?_⟩; have n0_ := Aside0.mk (Kd.R_below (by (with_reducible repeat (first | apply Kd.R_alloc | apply Kd.R_drewN | apply Kd.R_drew)); exact HO188.out) hb); have n1_ := Aside0.mk (blk_below (g := gb184) (o := .cells #[.int .i64 a0_0, .int .i64 a0_1, .string a0_2, .slice A0_3 l0_3.length c0_3, .slice A0_4 l0_4.length c0_4] 25 (0, 0)) (by (with_reducible repeat (first | refine blk_drewN ?_ _ | refine blk_drew ?_ | refine blk_alloc ?_ _)); exact BK184.out) hb); have n2_ := Aside0.mk (below_step (by repeat (first | (with_reducible first | exact HB.out | apply below_alloc | apply pw_below_drewN | apply below_drew1 | refine below_set ?_ GE184.out) | exact HB.out)) hb); clear HO188; clear BK184; clear HB; have HO188 := n0_; have BK184 := n1_; have HB := n2_; clear n0_ n1_ n2_; (try clear hb); (try clear hb2); (try clear hk); (try clear hi)))
  go_ret
  exact ⟨by first | rfl | (simp [errW_none, errW_some] <;> rfl) | (simp [*, errW_none, errW_some] <;> rfl), by repeat (first | (with_reducible first | exact HB.out | apply below_alloc | apply pw_below_drewN | apply below_drew1 | refine below_set ?_ GE184.out) | exact HB.out)⟩
 ·rw [if_neg c2] at H
  have c2b0 : (a0_0 == 1) = false := beq_eq_false_iff_ne.mpr c2
  have c2b1 : (a0_0 != 1) = true := bne_iff_ne.mpr c2
  by_cases c12 : a0_0 = 2
  ·rw [if_pos c12] at H
   have c12b0 : (a0_0 == 2) = true := beq_iff_eq.mpr c12
   have c12b1 : (a0_0 != 2) = false := bne_eq_false_iff_eq.mpr c12
   clear c12
   replace H := Option.bind_eq_some_iff.mp H
   obtain ⟨t190, A130, H⟩ := H
   replace H : ((pack_Row.f (([(⟨#[105, 110, 116]⟩ : ByteArray), t190] : List ByteArray))).bind fun t194 => (some t194)) = some r := H
   have A13 := Aside0.mk A130
   clear A130
   obtain ⟨y191, hy191⟩ : ∃ y_ : List ByteArray, y_ = (([(⟨#[105, 110, 116]⟩ : ByteArray), t190] : List ByteArray)) := ⟨_, rfl⟩
   replace H : ((pack_Row.f y191).bind fun t194 => (some t194)) = some r := by first | (rw [hy191]; with_reducible exact H) | (have H2_ := (Option.bind_some _ _).symm.trans H; rw [hy191]; with_reducible exact H2_) | (have H2_ := (Option.bind_some _ _).symm.trans H; with_reducible exact H2_) | with_reducible exact H | (rw [hy191]; exact H) | exact H
   have Ny191 := Aside0.mk hy191
   clear hy191
   replace H := Option.bind_eq_some_iff.mp H
   obtain ⟨t194, A140, H⟩ := H
   replace H : (some t194) = some r := H
   have A14 := Aside0.mk A140
   clear A140
   obtain rfl := Option.some.inj H
   go_enter Tryz.func30, Tryz.ntmps30
   go_wp2_with (first | ((with_reducible refine gate_dst (N := 1) rfl ?_); refine box_event ?hg (N := 1) ?hd (cs := #[.int .i64 a0_0, .int .i64 a0_1, .string a0_2, .slice A0_3 l0_3.length c0_3, .slice A0_4 l0_4.length c0_4]) (t := 25) ?hr ?_; (case hd => rfl); (case hg => rfl); (case hr => first | (go_simp; done) | (go_simp; rfl)); intro gb184 hg w15 hbox hb; have n0_ := Aside0.mk (below_step (by repeat (first | (with_reducible first | exact HB.out | apply below_alloc | apply pw_below_drewN | apply below_drew1) | exact HB.out)) hb); have n1_ := Aside0.mk (hbox); have n2_ := Aside0.mk ((by rw [hg]; exact (below_size (by repeat (first | (with_reducible first | exact HB.out | apply below_alloc | apply pw_below_drewN | apply below_drew1) | exact HB.out))) : w.heap.size ≤ gb184)); have n3_ := Aside0.mk ((by rw [hg]; exact (below_size (by repeat (first | (with_reducible first | exact HB.out | apply below_alloc | apply pw_below_drewN | apply below_drew1) | exact HB.out))) : w.heap.size ≤ gb184)); clear HB; have HB := n0_; have BK184 := n1_; have GW184 := n2_; have GE184 := n3_; clear n0_ n1_ n2_ n3_; clear hb hbox hg; have hcz16_0 : w15.cell? ⟨gb184, 0, none⟩ = some (.int .i64 a0_0) := (blk_cell BK184.out 0).trans rfl; have hcz16_1 : w15.cell? ⟨gb184, 1, none⟩ = some (.int .i64 a0_1) := (blk_cell BK184.out 1).trans rfl; have hcz16_2 : w15.cell? ⟨gb184, 2, none⟩ = some (.string a0_2) := (blk_cell BK184.out 2).trans rfl; have hcz16_3 : w15.cell? ⟨gb184, 3, none⟩ = some (.slice A0_3 l0_3.length c0_3) := (blk_cell BK184.out 3).trans rfl; have hcz16_4 : w15.cell? ⟨gb184, 4, none⟩ = some (.slice A0_4 l0_4.length c0_4) := (blk_cell BK184.out 4).trans rfl; have hfz16_0 := blk_frozen BK184.out 0; have hfz16_1 := blk_frozen BK184.out 1; have hfz16_2 := blk_frozen BK184.out 2; have hfz16_3 := blk_frozen BK184.out 3; have hfz16_4 := blk_frozen BK184.out 4) | ((with_reducible refine gate_callee (f := 38) rfl ?_); refine goesL_ (some 19) rfl rfl Tryz.func38 (by kernel_rfl) rfl #[.int .i64 a0_1] rfl (by (try simp only [List.map_toArray, List.map_cons, List.map_nil]); first | done | rfl | (simp only [List.length_drop, List.length_take]; rfl)) ?_; (with_reducible refine (pack_Num.calls a0_1 t190 _ ?side1 A13.out).mono ?_); (case side1 => exact Gl.below HGL.out (by repeat (first | (with_reducible first | exact HB.out | apply below_alloc | apply pw_below_drewN | apply below_drew1 | refine below_set ?_ GE184.out) | exact HB.out))); rintro e w17 ⟨rfl, hb⟩; refine ⟨_, rfl, ?_⟩; have n0_ := Aside0.mk (blk_below (g := gb184) (o := .cells #[.int .i64 a0_0, .int .i64 a0_1, .string a0_2, .slice A0_3 l0_3.length c0_3, .slice A0_4 l0_4.length c0_4] 25 (0, 0)) (by (with_reducible repeat (first | refine blk_drewN ?_ _ | refine blk_drew ?_ | refine blk_alloc ?_ _)); exact BK184.out) hb); have n1_ := Aside0.mk (below_step (by repeat (first | (with_reducible first | exact HB.out | apply below_alloc | apply pw_below_drewN | apply below_drew1 | refine below_set ?_ GE184.out) | exact HB.out)) hb); clear BK184; clear HB; have BK184 := n0_; have HB := n1_; clear n0_ n1_; (try clear hb); (try clear hb2); (try clear hk); (try clear hi)) | ((with_reducible refine gate_dst (N := 20) rfl ?_); refine Kd.R_lit Kd.string _ 9 ?hg (N := 20) ?hd (xs := ([(⟨#[105, 110, 116]⟩ : ByteArray), t190] : List ByteArray)) (inner := [.string (⟨#[105, 110, 116]⟩ : ByteArray), .string t190]) (ok := fun _ => True) (okp := fun _ => True) ?hr ?hp (fun _ hk => hk) trivial (Below.refl _ _) (Nat.le_refl _) (by simp) ?_; (case hd => rfl); (case hg => rfl); (case hr => first | (go_simp; done) | (go_simp; rfl)); (case hp => exact (Reps.one (show Kd.M Kd.string _ _ _ (⟨#[105, 110, 116]⟩ : ByteArray) [.string (⟨#[105, 110, 116]⟩ : ByteArray)] from rfl) (Reps.one (show Kd.M Kd.string _ _ _ t190 [.string t190] from rfl) (Reps.none _ _)))); intro v192 w18 ho19 hb hg_ hnew_; clear hg_ hnew_; (first | rw [← Ny191.out] at ho19 | (simp only [Int.reduceToNat] at ho19; rw [← Ny191.out] at ho19)); have n0_ := Aside0.mk (Kd.R_lower ho19 (below_size (by repeat (first | (with_reducible first | exact HB.out | apply below_alloc | apply pw_below_drewN | apply below_drew1 | refine below_set ?_ GE184.out) | exact HB.out)))); have n1_ := Aside0.mk (blk_below (g := gb184) (o := .cells #[.int .i64 a0_0, .int .i64 a0_1, .string a0_2, .slice A0_3 l0_3.length c0_3, .slice A0_4 l0_4.length c0_4] 25 (0, 0)) (by (with_reducible repeat (first | refine blk_drewN ?_ _ | refine blk_drew ?_ | refine blk_alloc ?_ _)); exact BK184.out) hb); have n2_ := Aside0.mk (below_step (by repeat (first | (with_reducible first | exact HB.out | apply below_alloc | apply pw_below_drewN | apply below_drew1 | refine below_set ?_ GE184.out) | exact HB.out)) hb); clear BK184; clear HB; have HO193 := n0_; have BK184 := n1_; have HB := n2_; clear n0_ n1_ n2_; clear hb ho19; obtain ⟨Ao20, co20, eo20⟩ := Kd.R_slice HO193.out; subst eo20) | ((with_reducible refine gate_callee (f := 45) rfl ?_); refine goesL_ (some 21) rfl rfl Tryz.func45 (by kernel_rfl) rfl #[.slice Ao20 y191.length co20] rfl (by (try simp only [List.map_toArray, List.map_cons, List.map_nil]); first | done | rfl | (simp only [List.length_drop, List.length_take]; rfl)) ?_; (with_reducible refine (pack_Row.calls _ _ y191 t194 _ ?side3 ?side1 ?side2 A14.out).mono ?_); (case side1 => repeat (first | exact (Kd.R_reads' HO193.out).2.2 | (with_reducible refine Kd.C_alloc ?_ _) | (with_reducible refine Kd.C_drewN ?_ _) | (with_reducible refine Kd.C_drew ?_))); (case side2 => exact (Kd.R_reads' HO193.out).2.1); (case side3 => exact Gl.below HGL.out (by repeat (first | (with_reducible first | exact HB.out | apply below_alloc | apply pw_below_drewN | apply below_drew1 | refine below_set ?_ GE184.out) | exact HB.out))); rintro e w21 ⟨rfl, hb⟩; refine ⟨_, rfl, ?_⟩; have n0_ := Aside0.mk (Kd.R_below (by (with_reducible repeat (first | apply Kd.R_alloc | apply Kd.R_drewN | apply Kd.R_drew)); exact HO193.out) hb); have n1_ := Aside0.mk (blk_below (g := gb184) (o := .cells #[.int .i64 a0_0, .int .i64 a0_1, .string a0_2, .slice A0_3 l0_3.length c0_3, .slice A0_4 l0_4.length c0_4] 25 (0, 0)) (by (with_reducible repeat (first | refine blk_drewN ?_ _ | refine blk_drew ?_ | refine blk_alloc ?_ _)); exact BK184.out) hb); have n2_ := Aside0.mk (below_step (by repeat (first | (with_reducible first | exact HB.out | apply below_alloc | apply pw_below_drewN | apply below_drew1 | refine below_set ?_ GE184.out) | exact HB.out)) hb); clear HO193; clear BK184; clear HB; have HO193 := n0_; have BK184 := n1_; have HB := n2_; clear n0_ n1_ n2_; (try clear hb); (try clear hb2); (try clear hk); (try clear hi)))
   go_ret
   exact ⟨by first | rfl | (simp [errW_none, errW_some] <;> rfl) | (simp [*, errW_none, errW_some] <;> rfl), by repeat (first | (with_reducible first | exact HB.out | apply below_alloc | apply pw_below_drewN | apply below_drew1 | refine below_set ?_ GE184.out) | exact HB.out)⟩
  ·rw [if_neg c12] at H
   have c12b0 : (a0_0 == 2) = false := beq_eq_false_iff_ne.mpr c12
   have c12b1 : (a0_0 != 2) = true := bne_iff_ne.mpr c12
   by_cases c22 : a0_0 = 3
   ·rw [if_pos c22] at H
    have c22b0 : (a0_0 == 3) = true := beq_iff_eq.mpr c22
    have c22b1 : (a0_0 != 3) = false := bne_eq_false_iff_eq.mpr c22
    clear c22
    obtain ⟨y195, hy195⟩ : ∃ y_ : List ByteArray, y_ = (([(⟨#[116, 101, 120, 116]⟩ : ByteArray), a0_2] : List ByteArray)) := ⟨_, rfl⟩
    replace H : ((pack_Row.f y195).bind fun t198 => (some t198)) = some r := by first | (rw [hy195]; with_reducible exact H) | (have H2_ := (Option.bind_some _ _).symm.trans H; rw [hy195]; with_reducible exact H2_) | (have H2_ := (Option.bind_some _ _).symm.trans H; with_reducible exact H2_) | with_reducible exact H | (rw [hy195]; exact H) | exact H
    have Ny195 := Aside0.mk hy195
    clear hy195
    replace H := Option.bind_eq_some_iff.mp H
    obtain ⟨t198, A230, H⟩ := H
    replace H : (some t198) = some r := H
    have A23 := Aside0.mk A230
    clear A230
    obtain rfl := Option.some.inj H
    go_enter Tryz.func30, Tryz.ntmps30
    go_wp2_with (first | ((with_reducible refine gate_dst (N := 1) rfl ?_); refine box_event ?hg (N := 1) ?hd (cs := #[.int .i64 a0_0, .int .i64 a0_1, .string a0_2, .slice A0_3 l0_3.length c0_3, .slice A0_4 l0_4.length c0_4]) (t := 25) ?hr ?_; (case hd => rfl); (case hg => rfl); (case hr => first | (go_simp; done) | (go_simp; rfl)); intro gb184 hg w24 hbox hb; have n0_ := Aside0.mk (below_step (by repeat (first | (with_reducible first | exact HB.out | apply below_alloc | apply pw_below_drewN | apply below_drew1) | exact HB.out)) hb); have n1_ := Aside0.mk (hbox); have n2_ := Aside0.mk ((by rw [hg]; exact (below_size (by repeat (first | (with_reducible first | exact HB.out | apply below_alloc | apply pw_below_drewN | apply below_drew1) | exact HB.out))) : w.heap.size ≤ gb184)); have n3_ := Aside0.mk ((by rw [hg]; exact (below_size (by repeat (first | (with_reducible first | exact HB.out | apply below_alloc | apply pw_below_drewN | apply below_drew1) | exact HB.out))) : w.heap.size ≤ gb184)); clear HB; have HB := n0_; have BK184 := n1_; have GW184 := n2_; have GE184 := n3_; clear n0_ n1_ n2_ n3_; clear hb hbox hg; have hcz25_0 : w24.cell? ⟨gb184, 0, none⟩ = some (.int .i64 a0_0) := (blk_cell BK184.out 0).trans rfl; have hcz25_1 : w24.cell? ⟨gb184, 1, none⟩ = some (.int .i64 a0_1) := (blk_cell BK184.out 1).trans rfl; have hcz25_2 : w24.cell? ⟨gb184, 2, none⟩ = some (.string a0_2) := (blk_cell BK184.out 2).trans rfl; have hcz25_3 : w24.cell? ⟨gb184, 3, none⟩ = some (.slice A0_3 l0_3.length c0_3) := (blk_cell BK184.out 3).trans rfl; have hcz25_4 : w24.cell? ⟨gb184, 4, none⟩ = some (.slice A0_4 l0_4.length c0_4) := (blk_cell BK184.out 4).trans rfl; have hfz25_0 := blk_frozen BK184.out 0; have hfz25_1 := blk_frozen BK184.out 1; have hfz25_2 := blk_frozen BK184.out 2; have hfz25_3 := blk_frozen BK184.out 3; have hfz25_4 := blk_frozen BK184.out 4) | ((with_reducible refine gate_dst (N := 26) rfl ?_); refine Kd.R_lit Kd.string _ 9 ?hg (N := 26) ?hd (xs := ([(⟨#[116, 101, 120, 116]⟩ : ByteArray), a0_2] : List ByteArray)) (inner := [.string (⟨#[116, 101, 120, 116]⟩ : ByteArray), .string a0_2]) (ok := fun _ => True) (okp := fun _ => True) ?hr ?hp (fun _ hk => hk) trivial (Below.refl _ _) (Nat.le_refl _) (by simp) ?_; (case hd => rfl); (case hg => rfl); (case hr => first | (go_simp; done) | (go_simp; rfl)); (case hp => exact (Reps.one (show Kd.M Kd.string _ _ _ (⟨#[116, 101, 120, 116]⟩ : ByteArray) [.string (⟨#[116, 101, 120, 116]⟩ : ByteArray)] from rfl) (Reps.one (show Kd.M Kd.string _ _ _ a0_2 [.string a0_2] from rfl) (Reps.none _ _)))); intro v196 w26 ho27 hb hg_ hnew_; clear hg_ hnew_; (first | rw [← Ny195.out] at ho27 | (simp only [Int.reduceToNat] at ho27; rw [← Ny195.out] at ho27)); have n0_ := Aside0.mk (Kd.R_lower ho27 (below_size (by repeat (first | (with_reducible first | exact HB.out | apply below_alloc | apply pw_below_drewN | apply below_drew1 | refine below_set ?_ GE184.out) | exact HB.out)))); have n1_ := Aside0.mk (blk_below (g := gb184) (o := .cells #[.int .i64 a0_0, .int .i64 a0_1, .string a0_2, .slice A0_3 l0_3.length c0_3, .slice A0_4 l0_4.length c0_4] 25 (0, 0)) (by (with_reducible repeat (first | refine blk_drewN ?_ _ | refine blk_drew ?_ | refine blk_alloc ?_ _)); exact BK184.out) hb); have n2_ := Aside0.mk (below_step (by repeat (first | (with_reducible first | exact HB.out | apply below_alloc | apply pw_below_drewN | apply below_drew1 | refine below_set ?_ GE184.out) | exact HB.out)) hb); clear BK184; clear HB; have HO197 := n0_; have BK184 := n1_; have HB := n2_; clear n0_ n1_ n2_; clear hb ho27; obtain ⟨Ao28, co28, eo28⟩ := Kd.R_slice HO197.out; subst eo28) | ((with_reducible refine gate_callee (f := 45) rfl ?_); refine goesL_ (some 27) rfl rfl Tryz.func45 (by kernel_rfl) rfl #[.slice Ao28 y195.length co28] rfl (by (try simp only [List.map_toArray, List.map_cons, List.map_nil]); first | done | rfl | (simp only [List.length_drop, List.length_take]; rfl)) ?_; (with_reducible refine (pack_Row.calls _ _ y195 t198 _ ?side3 ?side1 ?side2 A23.out).mono ?_); (case side1 => repeat (first | exact (Kd.R_reads' HO197.out).2.2 | (with_reducible refine Kd.C_alloc ?_ _) | (with_reducible refine Kd.C_drewN ?_ _) | (with_reducible refine Kd.C_drew ?_))); (case side2 => exact (Kd.R_reads' HO197.out).2.1); (case side3 => exact Gl.below HGL.out (by repeat (first | (with_reducible first | exact HB.out | apply below_alloc | apply pw_below_drewN | apply below_drew1 | refine below_set ?_ GE184.out) | exact HB.out))); rintro e w29 ⟨rfl, hb⟩; refine ⟨_, rfl, ?_⟩; have n0_ := Aside0.mk (Kd.R_below (by (with_reducible repeat (first | apply Kd.R_alloc | apply Kd.R_drewN | apply Kd.R_drew)); exact HO197.out) hb); have n1_ := Aside0.mk (blk_below (g := gb184) (o := .cells #[.int .i64 a0_0, .int .i64 a0_1, .string a0_2, .slice A0_3 l0_3.length c0_3, .slice A0_4 l0_4.length c0_4] 25 (0, 0)) (by (with_reducible repeat (first | refine blk_drewN ?_ _ | refine blk_drew ?_ | refine blk_alloc ?_ _)); exact BK184.out) hb); have n2_ := Aside0.mk (below_step (by repeat (first | (with_reducible first | exact HB.out | apply below_alloc | apply pw_below_drewN | apply below_drew1 | refine below_set ?_ GE184.out) | exact HB.out)) hb); clear HO197; clear BK184; clear HB; have HO197 := n0_; have BK184 := n1_; have HB := n2_; clear n0_ n1_ n2_; (try clear hb); (try clear hb2); (try clear hk); (try clear hi)))
    go_ret
    exact ⟨by first | rfl | (simp [errW_none, errW_some] <;> rfl) | (simp [*, errW_none, errW_some] <;> rfl), by repeat (first | (with_reducible first | exact HB.out | apply below_alloc | apply pw_below_drewN | apply below_drew1 | refine below_set ?_ GE184.out) | exact HB.out)⟩
   ·rw [if_neg c22] at H
    have c22b0 : (a0_0 == 3) = false := beq_eq_false_iff_ne.mpr c22
    have c22b1 : (a0_0 != 3) = true := bne_iff_ne.mpr c22
    by_cases c30 : a0_0 = 4
    ·rw [if_pos c30] at H
     have c30b0 : (a0_0 == 4) = true := beq_iff_eq.mpr c30
     have c30b1 : (a0_0 != 4) = false := bne_eq_false_iff_eq.mpr c30
     clear c30
     obtain ⟨y199, hy199⟩ : ∃ y_ : List ByteArray, y_ = (([(⟨#[108, 105, 115, 116]⟩ : ByteArray)] : List ByteArray)) := ⟨_, rfl⟩
     replace H : ((value_all.f l0_3 30).bind fun t202 => (if y199.length + t202.length < 8796093022208 then ((pack_Row.f (y199 ++ t202)).bind fun t208 => (some t208)) else (none))) = some r := by first | (rw [hy199]; with_reducible exact H) | (have H2_ := (Option.bind_some _ _).symm.trans H; rw [hy199]; with_reducible exact H2_) | (have H2_ := (Option.bind_some _ _).symm.trans H; with_reducible exact H2_) | with_reducible exact H | (rw [hy199]; exact H) | exact H
     have Ny199 := Aside0.mk hy199
     clear hy199
     replace H := Option.bind_eq_some_iff.mp H
     obtain ⟨t202, A310, H⟩ := H
     replace H : (if y199.length + t202.length < 8796093022208 then ((pack_Row.f (y199 ++ t202)).bind fun t208 => (some t208)) else (none)) = some r := H
     have A31 := Aside0.mk A310
     clear A310
     by_cases c32 : y199.length + t202.length < 8796093022208
     ·rw [if_pos c32] at H
      have LMc32 := Aside0.mk c32
      clear c32
      obtain ⟨y205, hy205⟩ : ∃ y_ : List ByteArray, y_ = (y199 ++ t202) := ⟨_, rfl⟩
      replace H : ((pack_Row.f y205).bind fun t208 => (some t208)) = some r := by first | (rw [hy205]; with_reducible exact H) | (have H2_ := (Option.bind_some _ _).symm.trans H; rw [hy205]; with_reducible exact H2_) | (have H2_ := (Option.bind_some _ _).symm.trans H; with_reducible exact H2_) | with_reducible exact H | (rw [hy205]; exact H) | exact H
      have Ny205 := Aside0.mk hy205
      clear hy205
      replace H := Option.bind_eq_some_iff.mp H
      obtain ⟨t208, A330, H⟩ := H
      replace H : (some t208) = some r := H
      have A33 := Aside0.mk A330
      clear A330
      obtain rfl := Option.some.inj H
      go_enter Tryz.func30, Tryz.ntmps30
      go_wp2_with (first | ((with_reducible refine gate_ (.load 25 (.tmp 1)) rfl ?_); refine wpList_load_row rfl 25 (.tmp 1) rfl gb184 rfl 25 #[.int .i64 a0_0, .int .i64 a0_1, .string a0_2, .slice A0_3 l0_3.length c0_3, .slice A0_4 l0_4.length c0_4] (0, 0) _ (by (with_reducible repeat (first | refine blk_drewN ?_ _ | refine blk_drew ?_ | refine blk_alloc ?_ _)); exact BK184.out) Tryz.underlying25 rfl (by kernel_rfl) ?_) | ((with_reducible refine gate_dst (N := 1) rfl ?_); refine box_event ?hg (N := 1) ?hd (cs := #[.int .i64 a0_0, .int .i64 a0_1, .string a0_2, .slice A0_3 l0_3.length c0_3, .slice A0_4 l0_4.length c0_4]) (t := 25) ?hr ?_; (case hd => rfl); (case hg => rfl); (case hr => first | (go_simp; done) | (go_simp; rfl)); intro gb184 hg w34 hbox hb; have n0_ := Aside0.mk (below_step (by repeat (first | (with_reducible first | exact HB.out | apply below_alloc | apply pw_below_drewN | apply below_drew1) | exact HB.out)) hb); have n1_ := Aside0.mk (hbox); have n2_ := Aside0.mk ((by rw [hg]; exact (below_size (by repeat (first | (with_reducible first | exact HB.out | apply below_alloc | apply pw_below_drewN | apply below_drew1) | exact HB.out))) : w.heap.size ≤ gb184)); have n3_ := Aside0.mk ((by rw [hg]; exact (below_size (by repeat (first | (with_reducible first | exact HB.out | apply below_alloc | apply pw_below_drewN | apply below_drew1) | exact HB.out))) : w.heap.size ≤ gb184)); clear HB; have HB := n0_; have BK184 := n1_; have GW184 := n2_; have GE184 := n3_; clear n0_ n1_ n2_ n3_; clear hb hbox hg; have hcz35_0 : w34.cell? ⟨gb184, 0, none⟩ = some (.int .i64 a0_0) := (blk_cell BK184.out 0).trans rfl; have hcz35_1 : w34.cell? ⟨gb184, 1, none⟩ = some (.int .i64 a0_1) := (blk_cell BK184.out 1).trans rfl; have hcz35_2 : w34.cell? ⟨gb184, 2, none⟩ = some (.string a0_2) := (blk_cell BK184.out 2).trans rfl; have hcz35_3 : w34.cell? ⟨gb184, 3, none⟩ = some (.slice A0_3 l0_3.length c0_3) := (blk_cell BK184.out 3).trans rfl; have hcz35_4 : w34.cell? ⟨gb184, 4, none⟩ = some (.slice A0_4 l0_4.length c0_4) := (blk_cell BK184.out 4).trans rfl; have hfz35_0 := blk_frozen BK184.out 0; have hfz35_1 := blk_frozen BK184.out 1; have hfz35_2 := blk_frozen BK184.out 2; have hfz35_3 := blk_frozen BK184.out 3; have hfz35_4 := blk_frozen BK184.out 4) | ((with_reducible refine gate_dst (N := 30) rfl ?_); refine Kd.R_lit Kd.string _ 9 ?hg (N := 30) ?hd (xs := ([(⟨#[108, 105, 115, 116]⟩ : ByteArray)] : List ByteArray)) (inner := [.string (⟨#[108, 105, 115, 116]⟩ : ByteArray)]) (ok := fun _ => True) (okp := fun _ => True) ?hr ?hp (fun _ hk => hk) trivial (Below.refl _ _) (Nat.le_refl _) (by simp) ?_; (case hd => rfl); (case hg => rfl); (case hr => first | (go_simp; done) | (go_simp; rfl)); (case hp => exact (Reps.one (show Kd.M Kd.string _ _ _ (⟨#[108, 105, 115, 116]⟩ : ByteArray) [.string (⟨#[108, 105, 115, 116]⟩ : ByteArray)] from rfl) (Reps.none _ _))); intro v200 w36 ho37 hb hg_ hnew_; clear hg_ hnew_; (first | rw [← Ny199.out] at ho37 | (simp only [Int.reduceToNat] at ho37; rw [← Ny199.out] at ho37)); have n0_ := Aside0.mk (Kd.R_lower ho37 (below_size (by repeat (first | (with_reducible first | exact HB.out | apply below_alloc | apply pw_below_drewN | apply below_drew1 | refine below_set ?_ GE184.out) | exact HB.out)))); have n1_ := Aside0.mk (blk_below (g := gb184) (o := .cells #[.int .i64 a0_0, .int .i64 a0_1, .string a0_2, .slice A0_3 l0_3.length c0_3, .slice A0_4 l0_4.length c0_4] 25 (0, 0)) (by (with_reducible repeat (first | refine blk_drewN ?_ _ | refine blk_drew ?_ | refine blk_alloc ?_ _)); exact BK184.out) hb); have n2_ := Aside0.mk (below_step (by repeat (first | (with_reducible first | exact HB.out | apply below_alloc | apply pw_below_drewN | apply below_drew1 | refine below_set ?_ GE184.out) | exact HB.out)) hb); clear BK184; clear HB; have HO201 := n0_; have BK184 := n1_; have HB := n2_; clear n0_ n1_ n2_; clear hb ho37; have hcz38_0 : w36.cell? ⟨gb184, 0, none⟩ = some (.int .i64 a0_0) := (blk_cell BK184.out 0).trans rfl; have hcz38_1 : w36.cell? ⟨gb184, 1, none⟩ = some (.int .i64 a0_1) := (blk_cell BK184.out 1).trans rfl; have hcz38_2 : w36.cell? ⟨gb184, 2, none⟩ = some (.string a0_2) := (blk_cell BK184.out 2).trans rfl; have hcz38_3 : w36.cell? ⟨gb184, 3, none⟩ = some (.slice A0_3 l0_3.length c0_3) := (blk_cell BK184.out 3).trans rfl; have hcz38_4 : w36.cell? ⟨gb184, 4, none⟩ = some (.slice A0_4 l0_4.length c0_4) := (blk_cell BK184.out 4).trans rfl; have hfz38_0 := blk_frozen BK184.out 0; have hfz38_1 := blk_frozen BK184.out 1; have hfz38_2 := blk_frozen BK184.out 2; have hfz38_3 := blk_frozen BK184.out 3; have hfz38_4 := blk_frozen BK184.out 4) | ((with_reducible refine gate_callee (f := 41) rfl ?_); refine goesL_ (some 33) rfl rfl Tryz.func41 (by kernel_rfl) rfl #[.slice A0_3 l0_3.length c0_3, .func (.func 30) #[] #[]] rfl (by (try simp only [List.map_toArray, List.map_cons, List.map_nil]); first | done | rfl | (simp only [List.length_drop, List.length_take]; rfl)) ?_; (with_reducible refine (value_all.calls _ _ l0_3 30 t202 _ ?side3 ?side1 ?side2 A31.out).mono ?_); (case side1 => repeat (first | exact (Kd.C_below HR0_3.out HB.out) | (with_reducible refine Kd.C_alloc ?_ _) | (with_reducible refine Kd.C_drewN ?_ _) | (with_reducible refine Kd.C_drew ?_))); (case side2 => exact HC0_3.out); (case side3 => exact Gl.below HGL.out (by repeat (first | (with_reducible first | exact HB.out | apply below_alloc | apply pw_below_drewN | apply below_drew1 | refine below_set ?_ GE184.out) | exact HB.out))); rintro e w39 ⟨v203, rfl, ho0, hb⟩; refine ⟨_, rfl, ?_⟩; have n0_ := Aside0.mk (Kd.R_elder' (by (with_reducible repeat (first | apply Kd.R_alloc | apply Kd.R_drewN | apply Kd.R_drew)); exact HO201.out) (Kd.R_base ho0) hb); have n1_ := Aside0.mk (Kd.R_lower (Kd.R_new' ho0 (Kd.R_lt (by (with_reducible repeat (first | apply Kd.R_alloc | apply Kd.R_drewN | apply Kd.R_drew)); exact HO201.out))) (below_size (by repeat (first | (with_reducible first | exact HB.out | apply below_alloc | apply pw_below_drewN | apply below_drew1 | refine below_set ?_ GE184.out) | exact HB.out)))); have n2_ := Aside0.mk (blk_below (g := gb184) (o := .cells #[.int .i64 a0_0, .int .i64 a0_1, .string a0_2, .slice A0_3 l0_3.length c0_3, .slice A0_4 l0_4.length c0_4] 25 (0, 0)) (by (with_reducible repeat (first | refine blk_drewN ?_ _ | refine blk_drew ?_ | refine blk_alloc ?_ _)); exact BK184.out) hb); have n3_ := Aside0.mk (below_step (by repeat (first | (with_reducible first | exact HB.out | apply below_alloc | apply pw_below_drewN | apply below_drew1 | refine below_set ?_ GE184.out) | exact HB.out)) hb); clear HO201; clear BK184; clear HB; have HO201 := n0_; have HO204 := n1_; have BK184 := n2_; have HB := n3_; clear n0_ n1_ n2_ n3_; (try clear hb); (try clear hb2); (try clear hk); (try clear hi); (try clear ho0); obtain ⟨Ao41, co41, eo41⟩ := Kd.R_slice HO204.out; subst eo41) | ((with_reducible refine gate_builtin (b := .append) (xs := #[.tmp 30, .tmp 33]) rfl ?_); at_builtin; refine Kd.R_append_rows Kd.string (w0 := w) w.heap.size rfl (.tmp 30) (.tmp 33) 23 9 (.string ⟨#[]⟩) 16 rfl Tryz.underlying23 info9 rfl (by decide) (by omega) v200 y199 t202 _ _ _ (fun k_ => some k_ ≠ (.slice Ao41 t202.length co41 : Value).ownBlock) (fun _ => False) rfl rfl ?aO ?aR (fun _ _ h => h) (fun _ h => h.elim) ?aF ?aB ?aS ?aL ?_; (case aR => repeat (first | exact (Kd.R_reads' HO204.out).2.2 | (with_reducible refine Kd.C_alloc ?_ _) | (with_reducible refine Kd.C_drewN ?_ _) | (with_reducible refine Kd.C_drew ?_))); (case aB => exact (by repeat (first | (with_reducible first | exact HB.out | apply below_alloc | apply pw_below_drewN | apply below_drew1 | refine below_set ?_ GE184.out) | exact HB.out))); (case aF => exact (fun k_ hk => Kd.fresh' (Kd.R_lt (by (with_reducible repeat (first | apply Kd.R_alloc | apply Kd.R_drewN | apply Kd.R_drew)); exact HO204.out)) k_ hk)); (case aO => exact (by (with_reducible repeat (first | apply Kd.R_alloc | apply Kd.R_drewN | apply Kd.R_drew)); exact Kd.R_mono HO201.out (fun _ hk => hk.2))); (case aS => exact (below_size (by repeat (first | (with_reducible first | exact HB.out | apply below_alloc | apply pw_below_drewN | apply below_drew1 | refine below_set ?_ GE184.out) | exact HB.out)))); (case aL => have := LMc32.out; omega); intro v206 w40 ho hb hg hat; rw [← Ny205.out] at ho; have n0_ := Aside0.mk (blk_grown (g := gb184) (o := .cells #[.int .i64 a0_0, .int .i64 a0_1, .string a0_2, .slice A0_3 l0_3.length c0_3, .slice A0_4 l0_4.length c0_4] 25 (0, 0)) (by (with_reducible repeat (first | refine blk_drewN ?_ _ | refine blk_drew ?_ | refine blk_alloc ?_ _)); exact BK184.out) hg (Kd.R_ne HO201.out BK184.out (by decide))); have n1_ := Aside0.mk (Kd.R_after (ok := (fun _ => True)) (by (with_reducible repeat (first | apply Kd.R_alloc | apply Kd.R_drewN | apply Kd.R_drew)); exact HO204.out) hg hat); have n2_ := Aside0.mk (hb); have n3_ := Aside0.mk (ho); clear BK184; clear HO204; clear HB; clear HO201; have BK184 := n0_; have HO204 := n1_; have HB := n2_; have HO207 := n3_; clear n0_ n1_ n2_ n3_; clear ho hb hg hat; obtain ⟨Ao42, co42, eo42⟩ := Kd.R_slice HO207.out; subst eo42) | ((with_reducible refine gate_callee (f := 45) rfl ?_); refine goesL_ (some 35) rfl rfl Tryz.func45 (by kernel_rfl) rfl #[.slice Ao42 y205.length co42] rfl (by (try simp only [List.map_toArray, List.map_cons, List.map_nil]); first | done | rfl | (simp only [List.length_drop, List.length_take]; rfl)) ?_; (with_reducible refine (pack_Row.calls _ _ y205 t208 _ ?side3 ?side1 ?side2 A33.out).mono ?_); (case side1 => repeat (first | exact (Kd.R_reads' HO207.out).2.2 | (with_reducible refine Kd.C_alloc ?_ _) | (with_reducible refine Kd.C_drewN ?_ _) | (with_reducible refine Kd.C_drew ?_))); (case side2 => exact (Kd.R_reads' HO207.out).2.1); (case side3 => exact Gl.below HGL.out (by repeat (first | (with_reducible first | exact HB.out | apply below_alloc | apply pw_below_drewN | apply below_drew1 | refine below_set ?_ GE184.out) | exact HB.out))); rintro e w43 ⟨rfl, hb⟩; refine ⟨_, rfl, ?_⟩; have n0_ := Aside0.mk (Kd.R_below (by (with_reducible repeat (first | apply Kd.R_alloc | apply Kd.R_drewN | apply Kd.R_drew)); exact HO204.out) hb); have n1_ := Aside0.mk (Kd.R_below (by (with_reducible repeat (first | apply Kd.R_alloc | apply Kd.R_drewN | apply Kd.R_drew)); exact HO207.out) hb); have n2_ := Aside0.mk (blk_below (g := gb184) (o := .cells #[.int .i64 a0_0, .int .i64 a0_1, .string a0_2, .slice A0_3 l0_3.length c0_3, .slice A0_4 l0_4.length c0_4] 25 (0, 0)) (by (with_reducible repeat (first | refine blk_drewN ?_ _ | refine blk_drew ?_ | refine blk_alloc ?_ _)); exact BK184.out) hb); have n3_ := Aside0.mk (below_step (by repeat (first | (with_reducible first | exact HB.out | apply below_alloc | apply pw_below_drewN | apply below_drew1 | refine below_set ?_ GE184.out) | exact HB.out)) hb); clear HO204; clear HO207; clear BK184; clear HB; have HO204 := n0_; have HO207 := n1_; have BK184 := n2_; have HB := n3_; clear n0_ n1_ n2_ n3_; (try clear hb); (try clear hb2); (try clear hk); (try clear hi)))
      go_ret
      exact ⟨by first | rfl | (simp [errW_none, errW_some] <;> rfl) | (simp [*, errW_none, errW_some] <;> rfl), by repeat (first | (with_reducible first | exact HB.out | apply below_alloc | apply pw_below_drewN | apply below_drew1 | refine below_set ?_ GE184.out) | exact HB.out)⟩
     ·rw [if_neg c32] at H
      exact absurd H (by simp)
    ·rw [if_neg c30] at H
     have c30b0 : (a0_0 == 4) = false := beq_eq_false_iff_ne.mpr c30
     have c30b1 : (a0_0 != 4) = true := bne_iff_ne.mpr c30
     by_cases c44 : a0_0 = 5
     ·rw [if_pos c44] at H
      have c44b0 : (a0_0 == 5) = true := beq_iff_eq.mpr c44
      have c44b1 : (a0_0 != 5) = false := bne_eq_false_iff_eq.mpr c44
      clear c44
      obtain ⟨y209, hy209⟩ : ∃ y_ : List ByteArray, y_ = (([(⟨#[100, 105, 99, 116]⟩ : ByteArray)] : List ByteArray)) := ⟨_, rfl⟩
      replace H : (value_row.l0 k y209 l0_4 (l0_4.length : Int) 0 a0_0 a0_1 a0_2 l0_3 l0_4) = some r := by first | (rw [hy209]; with_reducible exact H) | (have H2_ := (Option.bind_some _ _).symm.trans H; rw [hy209]; with_reducible exact H2_) | (have H2_ := (Option.bind_some _ _).symm.trans H; with_reducible exact H2_) | with_reducible exact H | (rw [hy209]; exact H) | exact H
      have Ny209 := Aside0.mk hy209
      clear hy209
      have H' := Aside0.mk H
      clear H
      go_enter Tryz.func30, Tryz.ntmps30
      go_wp2_with (first | ((with_reducible refine gate_dst (N := 1) rfl ?_); refine box_event ?hg (N := 1) ?hd (cs := #[.int .i64 a0_0, .int .i64 a0_1, .string a0_2, .slice A0_3 l0_3.length c0_3, .slice A0_4 l0_4.length c0_4]) (t := 25) ?hr ?_; (case hd => rfl); (case hg => rfl); (case hr => first | (go_simp; done) | (go_simp; rfl)); intro gb184 hg w45 hbox hb; have n0_ := Aside0.mk (below_step (by repeat (first | (with_reducible first | exact HB.out | apply below_alloc | apply pw_below_drewN | apply below_drew1) | exact HB.out)) hb); have n1_ := Aside0.mk (hbox); have n2_ := Aside0.mk ((by rw [hg]; exact (below_size (by repeat (first | (with_reducible first | exact HB.out | apply below_alloc | apply pw_below_drewN | apply below_drew1) | exact HB.out))) : w.heap.size ≤ gb184)); have n3_ := Aside0.mk ((by rw [hg]; exact (below_size (by repeat (first | (with_reducible first | exact HB.out | apply below_alloc | apply pw_below_drewN | apply below_drew1) | exact HB.out))) : w.heap.size ≤ gb184)); clear HB; have HB := n0_; have BK184 := n1_; have GW184 := n2_; have GE184 := n3_; clear n0_ n1_ n2_ n3_; clear hb hbox hg; have hcz46_0 : w45.cell? ⟨gb184, 0, none⟩ = some (.int .i64 a0_0) := (blk_cell BK184.out 0).trans rfl; have hcz46_1 : w45.cell? ⟨gb184, 1, none⟩ = some (.int .i64 a0_1) := (blk_cell BK184.out 1).trans rfl; have hcz46_2 : w45.cell? ⟨gb184, 2, none⟩ = some (.string a0_2) := (blk_cell BK184.out 2).trans rfl; have hcz46_3 : w45.cell? ⟨gb184, 3, none⟩ = some (.slice A0_3 l0_3.length c0_3) := (blk_cell BK184.out 3).trans rfl; have hcz46_4 : w45.cell? ⟨gb184, 4, none⟩ = some (.slice A0_4 l0_4.length c0_4) := (blk_cell BK184.out 4).trans rfl; have hfz46_0 := blk_frozen BK184.out 0; have hfz46_1 := blk_frozen BK184.out 1; have hfz46_2 := blk_frozen BK184.out 2; have hfz46_3 := blk_frozen BK184.out 3; have hfz46_4 := blk_frozen BK184.out 4) | ((with_reducible refine gate_dst (N := 38) rfl ?_); refine Kd.R_lit Kd.string _ 9 ?hg (N := 38) ?hd (xs := ([(⟨#[100, 105, 99, 116]⟩ : ByteArray)] : List ByteArray)) (inner := [.string (⟨#[100, 105, 99, 116]⟩ : ByteArray)]) (ok := fun _ => True) (okp := fun _ => True) ?hr ?hp (fun _ hk => hk) trivial (Below.refl _ _) (Nat.le_refl _) (by simp) ?_; (case hd => rfl); (case hg => rfl); (case hr => first | (go_simp; done) | (go_simp; rfl)); (case hp => exact (Reps.one (show Kd.M Kd.string _ _ _ (⟨#[100, 105, 99, 116]⟩ : ByteArray) [.string (⟨#[100, 105, 99, 116]⟩ : ByteArray)] from rfl) (Reps.none _ _))); intro v210 w47 ho48 hb hg_ hnew_; clear hg_ hnew_; (first | rw [← Ny209.out] at ho48 | (simp only [Int.reduceToNat] at ho48; rw [← Ny209.out] at ho48)); have n0_ := Aside0.mk (Kd.R_lower ho48 (below_size (by repeat (first | (with_reducible first | exact HB.out | apply below_alloc | apply pw_below_drewN | apply below_drew1 | refine below_set ?_ GE184.out) | exact HB.out)))); have n1_ := Aside0.mk (blk_below (g := gb184) (o := .cells #[.int .i64 a0_0, .int .i64 a0_1, .string a0_2, .slice A0_3 l0_3.length c0_3, .slice A0_4 l0_4.length c0_4] 25 (0, 0)) (by (with_reducible repeat (first | refine blk_drewN ?_ _ | refine blk_drew ?_ | refine blk_alloc ?_ _)); exact BK184.out) hb); have n2_ := Aside0.mk (below_step (by repeat (first | (with_reducible first | exact HB.out | apply below_alloc | apply pw_below_drewN | apply below_drew1 | refine below_set ?_ GE184.out) | exact HB.out)) hb); clear BK184; clear HB; have HO211 := n0_; have BK184 := n1_; have HB := n2_; clear n0_ n1_ n2_; clear hb ho48; have hcz49_0 : w47.cell? ⟨gb184, 0, none⟩ = some (.int .i64 a0_0) := (blk_cell BK184.out 0).trans rfl; have hcz49_1 : w47.cell? ⟨gb184, 1, none⟩ = some (.int .i64 a0_1) := (blk_cell BK184.out 1).trans rfl; have hcz49_2 : w47.cell? ⟨gb184, 2, none⟩ = some (.string a0_2) := (blk_cell BK184.out 2).trans rfl; have hcz49_3 : w47.cell? ⟨gb184, 3, none⟩ = some (.slice A0_3 l0_3.length c0_3) := (blk_cell BK184.out 3).trans rfl; have hcz49_4 : w47.cell? ⟨gb184, 4, none⟩ = some (.slice A0_4 l0_4.length c0_4) := (blk_cell BK184.out 4).trans rfl; have hfz49_0 := blk_frozen BK184.out 0; have hfz49_1 := blk_frozen BK184.out 1; have hfz49_2 := blk_frozen BK184.out 2; have hfz49_3 := blk_frozen BK184.out 3; have hfz49_4 := blk_frozen BK184.out 4))
      go_loopg [3, 42] k (fun kq v3 v42 w' => ∃ (x3_1 : List ByteArray) (x42_1 : Int), v42 = .int .i64 x42_1 ∧ Aside0 (value_row.l0 kq x3_1 l0_4 (l0_4.length : Int) x42_1 a0_0 a0_1 a0_2 l0_3 l0_4 = some r) ∧ Aside0 (kq ≤ k) ∧ Aside0 (Kd.R Kd.string 9 w' w.heap.size (fun _ => True) v3 x3_1) ∧ Aside0 (w'.heap[gb184]? = some (.cells #[.int .i64 a0_0, .int .i64 a0_1, .string a0_2, (.slice A0_3 l0_3.length c0_3), (.slice A0_4 l0_4.length c0_4)] 25 (0, 0))) ∧ Aside0 (Below w.heap.size w w'))
      case atStart => exact ⟨(y209), (0), (by first | rfl | (simp; done) | (simp [*]; done)), (by first | exact H' | (subst_vars; exact H')), ⟨Nat.le_refl _⟩, ⟨by (with_reducible repeat (first | apply Kd.R_alloc | apply Kd.R_drewN | apply Kd.R_drew)); exact HO211.out⟩, ⟨by (with_reducible repeat (first | refine blk_drewN ?_ _ | refine blk_drew ?_ | refine blk_alloc ?_ _)); exact BK184.out⟩, ⟨by repeat (first | (with_reducible first | exact HB.out | apply below_alloc | apply pw_below_drewN | apply below_drew1 | refine below_set ?_ GE184.out) | exact HB.out)⟩⟩
      case round =>
       clear H'
       try clear c1
       try clear c2
       try clear c2b0
       try clear c2b1
       try clear p2
       try clear c3
       try clear c4
       try clear c12
       try clear c12b0
       try clear c12b1
       try clear c22
       try clear c22b0
       try clear c22b1
       try clear c30
       try clear c30b0
       try clear c30b1
       try clear c32
       try clear c38
       try clear c41
       try clear c44
       try clear c44b0
       try clear c44b1
       try clear c45
       try clear hcz16_0
       try clear hcz16_1
       try clear hcz16_2
       try clear hcz16_3
       try clear hcz16_4
       try clear hcz25_0
       try clear hcz25_1
       try clear hcz25_2
       try clear hcz25_3
       try clear hcz25_4
       try clear hcz35_0
       try clear hcz35_1
       try clear hcz35_2
       try clear hcz35_3
       try clear hcz35_4
       try clear hcz38_0
       try clear hcz38_1
       try clear hcz38_2
       try clear hcz38_3
       try clear hcz38_4
       try clear hcz46_0
       try clear hcz46_1
       try clear hcz46_2
       try clear hcz46_3
       try clear hcz46_4
       try clear hcz49_0
       try clear hcz49_1
       try clear hcz49_2
       try clear hcz49_3
       try clear hcz49_4
       try clear hcz6_0
       try clear hcz6_1
       try clear hcz6_2
       try clear hcz6_3
       try clear hcz6_4
       try clear hfz16_0
       try clear hfz16_1
       try clear hfz16_2
       try clear hfz16_3
       try clear hfz16_4
       try clear hfz25_0
       try clear hfz25_1
       try clear hfz25_2
       try clear hfz25_3
       try clear hfz25_4
       try clear hfz35_0
       try clear hfz35_1
       try clear hfz35_2
       try clear hfz35_3
       try clear hfz35_4
       try clear hfz38_0
       try clear hfz38_1
       try clear hfz38_2
       try clear hfz38_3
       try clear hfz38_4
       try clear hfz46_0
       try clear hfz46_1
       try clear hfz46_2
       try clear hfz46_3
       try clear hfz46_4
       try clear hfz49_0
       try clear hfz49_1
       try clear hfz49_2
       try clear hfz49_3
       try clear hfz49_4
       try clear hfz6_0
       try clear hfz6_1
       try clear hfz6_2
       try clear hfz6_3
       try clear hfz6_4
       obtain ⟨x3_1, x42_1, rfl, HA, HK1, HO_3, BK184, HB⟩ := hrel
       cases gk with
       | zero => exact absurd HA.out (by simp [value_row.l0])
       | succ k1 =>
        have H := HA.out
        clear HA
        simp only [value_row.l0] at H
        by_cases c50 : x42_1 < (l0_4.length : Int)
        ·rw [if_pos c50] at H
         have c50b0 : decide (x42_1 < (l0_4.length : Int)) = true := decide_eq_true c50
         clear c50
         by_cases c51 : 0 ≤ x42_1
         ·rw [if_pos c51] at H
          have c51b0 : decide (0 ≤ x42_1) = true := decide_eq_true c51
          clear c51
          by_cases c52 : x42_1 < (l0_4.length : Int)
          ·rw [if_pos c52] at H
           have c52b0 : decide (x42_1 < (l0_4.length : Int)) = true := decide_eq_true c52
           clear c52
           by_cases c53 : x42_1 < (l0_3.length : Int)
           ·rw [if_pos c53] at H
            have c53b0 : decide (x42_1 < (l0_3.length : Int)) = true := decide_eq_true c53
            clear c53
            replace H := Option.bind_eq_some_iff.mp H
            obtain ⟨t214, A540, H⟩ := H
            replace H : ((some (([rdOf ByteArray.empty l0_4 x42_1, t214] : List ByteArray) : List ByteArray)).bind fun y215 => (if x3_1.length + y215.length < 8796093022208 then (value_row.l0 k1 (x3_1 ++ y215) l0_4 (l0_4.length : Int) (wrap64 (x42_1 + 1)) a0_0 a0_1 a0_2 l0_3 l0_4) else (none))) = some r := H
            have A54 := Aside0.mk A540
            clear A540
            obtain ⟨y215, hy215⟩ : ∃ y_ : List ByteArray, y_ = (([rdOf ByteArray.empty l0_4 x42_1, t214] : List ByteArray)) := ⟨_, rfl⟩
            replace H : (if x3_1.length + y215.length < 8796093022208 then (value_row.l0 k1 (x3_1 ++ y215) l0_4 (l0_4.length : Int) (wrap64 (x42_1 + 1)) a0_0 a0_1 a0_2 l0_3 l0_4) else (none)) = some r := by first | (rw [hy215]; with_reducible exact H) | (have H2_ := (Option.bind_some _ _).symm.trans H; rw [hy215]; with_reducible exact H2_) | (have H2_ := (Option.bind_some _ _).symm.trans H; with_reducible exact H2_) | with_reducible exact H | (rw [hy215]; exact H) | exact H
            have Ny215 := Aside0.mk hy215
            clear hy215
            by_cases c55 : x3_1.length + y215.length < 8796093022208
            ·rw [if_pos c55] at H
             have LMc55 := Aside0.mk c55
             clear c55
             obtain ⟨y218, hy218⟩ : ∃ y_ : List ByteArray, y_ = (x3_1 ++ y215) := ⟨_, rfl⟩
             replace H : (value_row.l0 k1 y218 l0_4 (l0_4.length : Int) (wrap64 (x42_1 + 1)) a0_0 a0_1 a0_2 l0_3 l0_4) = some r := by first | (rw [hy218]; with_reducible exact H) | (have H2_ := (Option.bind_some _ _).symm.trans H; rw [hy218]; with_reducible exact H2_) | (have H2_ := (Option.bind_some _ _).symm.trans H; with_reducible exact H2_) | with_reducible exact H | (rw [hy218]; exact H) | exact H
             have Ny218 := Aside0.mk hy218
             clear hy218
             have H' := Aside0.mk H
             clear H
             have p212 : 0 ≤ (x42_1 : Int) := of_decide_eq_true (by first | (with_reducible assumption) | assumption)
             have q212 : x42_1 < (l0_4.length : Int) := of_decide_eq_true (by first | (with_reducible assumption) | assumption)
             obtain ⟨ad212, e212, hx212_0⟩ := Kd.at_string HR0_4.out x42_1 p212 q212
             cases e212
             replace hx212_0 := (HB.out.cell (World.block_lt_of_cell? w _ hx212_0)).trans hx212_0
             replace p212 := eq_true p212
             replace q212 := eq_true q212
             have hcz56_0 : wr.cell? ⟨gb184, 0, none⟩ = some (.int .i64 a0_0) := (blk_cell BK184.out 0).trans rfl
             have hcz56_1 : wr.cell? ⟨gb184, 1, none⟩ = some (.int .i64 a0_1) := (blk_cell BK184.out 1).trans rfl
             have hcz56_2 : wr.cell? ⟨gb184, 2, none⟩ = some (.string a0_2) := (blk_cell BK184.out 2).trans rfl
             have hcz56_3 : wr.cell? ⟨gb184, 3, none⟩ = some (.slice A0_3 l0_3.length c0_3) := (blk_cell BK184.out 3).trans rfl
             have hcz56_4 : wr.cell? ⟨gb184, 4, none⟩ = some (.slice (some ad212) l0_4.length c0_4) := (blk_cell BK184.out 4).trans rfl
             have hfz56_0 := blk_frozen BK184.out 0
             have hfz56_1 := blk_frozen BK184.out 1
             have hfz56_2 := blk_frozen BK184.out 2
             have hfz56_3 := blk_frozen BK184.out 3
             have hfz56_4 := blk_frozen BK184.out 4
             have p213 : 0 ≤ (x42_1 : Int) := of_decide_eq_true (by first | (with_reducible assumption) | assumption)
             have q213 : x42_1 < (l0_3.length : Int) := of_decide_eq_true (by first | (with_reducible assumption) | assumption)
             obtain ⟨ad213, A213_3, c213_3, A213_4, c213_4, e213, hx213_0, hx213_1, hx213_2, hx213_3, hx213_4, hl213_3, hi213_3, hl213_4, hi213_4⟩ := at_T25 HR0_3.out x42_1 p213 q213
             cases e213
             replace hx213_0 := (HB.out.cell (World.block_lt_of_cell? w _ hx213_0)).trans hx213_0
             replace hx213_1 := (HB.out.cell (World.block_lt_of_cell? w _ hx213_1)).trans hx213_1
             replace hx213_2 := (HB.out.cell (World.block_lt_of_cell? w _ hx213_2)).trans hx213_2
             replace hx213_3 := (HB.out.cell (World.block_lt_of_cell? w _ hx213_3)).trans hx213_3
             replace hx213_4 := (HB.out.cell (World.block_lt_of_cell? w _ hx213_4)).trans hx213_4
             have HR213_3 := Aside0.mk hi213_3
             have HC213_3 := Aside0.mk hl213_3
             clear hi213_3 hl213_3
             have HR213_4 := Aside0.mk hi213_4
             have HC213_4 := Aside0.mk hl213_4
             clear hi213_4 hl213_4
             replace p213 := eq_true p213
             replace q213 := eq_true q213
             go_wp2_with (first | ((with_reducible refine gate_callee (f := 30) rfl ?_); refine goesL_ (some 54) rfl rfl Tryz.func30 (by kernel_rfl) rfl #[.agg #[.int .i64 ((rd_T25 l0_3 x42_1).f0), .int .i64 ((rd_T25 l0_3 x42_1).f1), .string ((rd_T25 l0_3 x42_1).f2), .slice A213_3 ((rd_T25 l0_3 x42_1).f3).length c213_3, .slice A213_4 ((rd_T25 l0_3 x42_1).f4).length c213_4]] rfl (by (try simp only [List.map_toArray, List.map_cons, List.map_nil]); first | done | rfl | (simp only [List.length_drop, List.length_take]; rfl)) ?_; (with_reducible refine (ih k1 (by have := HK1.out; omega) ((rd_T25 l0_3 x42_1).f0) ((rd_T25 l0_3 x42_1).f1) ((rd_T25 l0_3 x42_1).f2) _ _ ((rd_T25 l0_3 x42_1).f3) _ _ ((rd_T25 l0_3 x42_1).f4) t214 _ ?side5 ?side1 ?side2 ?side3 ?side4 A54.out).mono ?_); (case side1 => repeat (first | exact (Kd.C_below HR213_3.out HB.out) | (with_reducible refine Kd.C_alloc ?_ _) | (with_reducible refine Kd.C_drewN ?_ _) | (with_reducible refine Kd.C_drew ?_))); (case side2 => exact HC213_3.out); (case side3 => repeat (first | exact (Kd.C_below HR213_4.out HB.out) | (with_reducible refine Kd.C_alloc ?_ _) | (with_reducible refine Kd.C_drewN ?_ _) | (with_reducible refine Kd.C_drew ?_))); (case side4 => exact HC213_4.out); (case side5 => exact Gl.below HGL.out (by repeat (first | (with_reducible first | exact HB.out | apply below_alloc | apply pw_below_drewN | apply below_drew1 | refine below_set ?_ GE184.out) | exact HB.out))); rintro e w57 ⟨rfl, hb⟩; refine ⟨_, rfl, ?_⟩; have n0_ := Aside0.mk (Kd.R_below (by (with_reducible repeat (first | apply Kd.R_alloc | apply Kd.R_drewN | apply Kd.R_drew)); exact HO_3.out) hb); have n1_ := Aside0.mk (blk_below (g := gb184) (o := .cells #[.int .i64 a0_0, .int .i64 a0_1, .string a0_2, .slice (some ad213) l0_3.length c0_3, .slice (some ad212) l0_4.length c0_4] 25 (0, 0)) (by (with_reducible repeat (first | refine blk_drewN ?_ _ | refine blk_drew ?_ | refine blk_alloc ?_ _)); exact BK184.out) hb); have n2_ := Aside0.mk (below_step (by repeat (first | (with_reducible first | exact HB.out | apply below_alloc | apply pw_below_drewN | apply below_drew1 | refine below_set ?_ GE184.out) | exact HB.out)) hb); clear HO_3; clear BK184; clear HB; have HO_3 := n0_; have BK184 := n1_; have HB := n2_; clear n0_ n1_ n2_; (try clear hb); (try clear hb2); (try clear hk); (try clear hi)) | ((with_reducible refine gate_dst (N := 55) rfl ?_); refine Kd.R_lit Kd.string _ 9 ?hg (N := 55) ?hd (xs := ([rdOf ByteArray.empty l0_4 x42_1, t214] : List ByteArray)) (inner := [.string (rdOf ByteArray.empty l0_4 x42_1), .string t214]) (ok := fun _ => True) (okp := fun _ => True) ?hr ?hp (fun _ hk => hk) trivial (Below.refl _ _) (Nat.le_refl _) (by simp) ?_; (case hd => rfl); (case hg => rfl); (case hr => first | (go_simp; done) | (go_simp; rfl)); (case hp => exact (Reps.one (show Kd.M Kd.string _ _ _ (rdOf ByteArray.empty l0_4 x42_1) [.string (rdOf ByteArray.empty l0_4 x42_1)] from rfl) (Reps.one (show Kd.M Kd.string _ _ _ t214 [.string t214] from rfl) (Reps.none _ _)))); intro v216 w58 ho59 hb hg_ hnew_; clear hg_ hnew_; (first | rw [← Ny215.out] at ho59 | (simp only [Int.reduceToNat] at ho59; rw [← Ny215.out] at ho59)); have n0_ := Aside0.mk (Kd.R_elder' (by (with_reducible repeat (first | apply Kd.R_alloc | apply Kd.R_drewN | apply Kd.R_drew)); exact HO_3.out) (Kd.R_base ho59) hb); have n1_ := Aside0.mk (Kd.R_lower (Kd.R_new' ho59 (Kd.R_lt (by (with_reducible repeat (first | apply Kd.R_alloc | apply Kd.R_drewN | apply Kd.R_drew)); exact HO_3.out))) (below_size (by repeat (first | (with_reducible first | exact HB.out | apply below_alloc | apply pw_below_drewN | apply below_drew1 | refine below_set ?_ GE184.out) | exact HB.out)))); have n2_ := Aside0.mk (blk_below (g := gb184) (o := .cells #[.int .i64 a0_0, .int .i64 a0_1, .string a0_2, .slice (some ad213) l0_3.length c0_3, .slice (some ad212) l0_4.length c0_4] 25 (0, 0)) (by (with_reducible repeat (first | refine blk_drewN ?_ _ | refine blk_drew ?_ | refine blk_alloc ?_ _)); exact BK184.out) hb); have n3_ := Aside0.mk (below_step (by repeat (first | (with_reducible first | exact HB.out | apply below_alloc | apply pw_below_drewN | apply below_drew1 | refine below_set ?_ GE184.out) | exact HB.out)) hb); clear HO_3; clear BK184; clear HB; have HO_3 := n0_; have HO217 := n1_; have BK184 := n2_; have HB := n3_; clear n0_ n1_ n2_ n3_; clear hb ho59; obtain ⟨Ao61, co61, eo61⟩ := Kd.R_slice HO217.out; subst eo61) | ((with_reducible refine gate_builtin (b := .append) (xs := #[.tmp 47, .tmp 55]) rfl ?_); at_builtin; refine Kd.R_append_rows Kd.string (w0 := w) w.heap.size rfl (.tmp 47) (.tmp 55) 23 9 (.string ⟨#[]⟩) 16 rfl Tryz.underlying23 info9 rfl (by decide) (by omega) u3 x3_1 y215 _ _ _ (fun k_ => some k_ ≠ (.slice Ao61 y215.length co61 : Value).ownBlock) (fun _ => False) rfl rfl ?aO ?aR (fun _ _ h => h) (fun _ h => h.elim) ?aF ?aB ?aS ?aL ?_; (case aR => repeat (first | exact (Kd.R_reads' HO217.out).2.2 | (with_reducible refine Kd.C_alloc ?_ _) | (with_reducible refine Kd.C_drewN ?_ _) | (with_reducible refine Kd.C_drew ?_))); (case aB => exact (by repeat (first | (with_reducible first | exact HB.out | apply below_alloc | apply pw_below_drewN | apply below_drew1 | refine below_set ?_ GE184.out) | exact HB.out))); (case aF => exact (fun k_ hk => Kd.fresh' (Kd.R_lt (by (with_reducible repeat (first | apply Kd.R_alloc | apply Kd.R_drewN | apply Kd.R_drew)); exact HO217.out)) k_ hk)); (case aO => exact (by (with_reducible repeat (first | apply Kd.R_alloc | apply Kd.R_drewN | apply Kd.R_drew)); exact Kd.R_mono HO_3.out (fun _ hk => hk.2))); (case aS => exact (below_size (by repeat (first | (with_reducible first | exact HB.out | apply below_alloc | apply pw_below_drewN | apply below_drew1 | refine below_set ?_ GE184.out) | exact HB.out)))); (case aL => have := LMc55.out; omega); intro v219 w60 ho hb hg hat; rw [← Ny218.out] at ho; have n0_ := Aside0.mk (blk_grown (g := gb184) (o := .cells #[.int .i64 a0_0, .int .i64 a0_1, .string a0_2, .slice (some ad213) l0_3.length c0_3, .slice (some ad212) l0_4.length c0_4] 25 (0, 0)) (by (with_reducible repeat (first | refine blk_drewN ?_ _ | refine blk_drew ?_ | refine blk_alloc ?_ _)); exact BK184.out) hg (Kd.R_ne HO_3.out BK184.out (by decide))); have n1_ := Aside0.mk (Kd.R_after (ok := (fun _ => True)) (by (with_reducible repeat (first | apply Kd.R_alloc | apply Kd.R_drewN | apply Kd.R_drew)); exact HO217.out) hg hat); have n2_ := Aside0.mk (hb); have n3_ := Aside0.mk (ho); clear BK184; clear HO217; clear HB; clear HO_3; have BK184 := n0_; have HO217 := n1_; have HB := n2_; have HO220 := n3_; clear n0_ n1_ n2_ n3_; clear ho hb hg hat))
             go_roundg k1
             case measure => have := HK1.out; omega
             case rel => exact ⟨(y218), (wrap64 (x42_1 + 1)), (by first | rfl | (simp; done) | (simp [*]; done)), (by first | exact H' | (subst_vars; exact H')), ⟨by have := HK1.out; omega⟩, ⟨by (with_reducible repeat (first | apply Kd.R_alloc | apply Kd.R_drewN | apply Kd.R_drew)); exact Kd.R_mono HO220.out (fun _ hk => trivial)⟩, ⟨by (with_reducible repeat (first | refine blk_drewN ?_ _ | refine blk_drew ?_ | refine blk_alloc ?_ _)); exact BK184.out⟩, ⟨by repeat (first | (with_reducible first | exact HB.out | apply below_alloc | apply pw_below_drewN | apply below_drew1 | refine below_set ?_ GE184.out) | exact HB.out)⟩⟩
            ·rw [if_neg c55] at H
             exact absurd H (by simp)
           ·rw [if_neg c53] at H
            exact absurd H (by simp)
          ·rw [if_neg c52] at H
           exact absurd H (by simp)
         ·rw [if_neg c51] at H
          exact absurd H (by simp)
        ·rw [if_neg c50] at H
         have c50b0 : decide (x42_1 < (l0_4.length : Int)) = false := decide_eq_false c50
         clear c50
         replace H := Option.bind_eq_some_iff.mp H
         obtain ⟨t221, A620, H⟩ := H
         replace H : (some t221) = some r := H
         have A62 := Aside0.mk A620
         clear A620
         obtain rfl := Option.some.inj H
         obtain ⟨Ao63, co63, eo63⟩ := Kd.R_slice HO_3.out
         subst eo63
         go_wp2_with (first | ((with_reducible refine gate_callee (f := 45) rfl ?_); refine goesL_ (some 59) rfl rfl Tryz.func45 (by kernel_rfl) rfl #[.slice Ao63 x3_1.length co63] rfl (by (try simp only [List.map_toArray, List.map_cons, List.map_nil]); first | done | rfl | (simp only [List.length_drop, List.length_take]; rfl)) ?_; (with_reducible refine (pack_Row.calls _ _ x3_1 t221 _ ?side3 ?side1 ?side2 A62.out).mono ?_); (case side1 => repeat (first | exact (Kd.R_reads' HO_3.out).2.2 | (with_reducible refine Kd.C_alloc ?_ _) | (with_reducible refine Kd.C_drewN ?_ _) | (with_reducible refine Kd.C_drew ?_))); (case side2 => exact (Kd.R_reads' HO_3.out).2.1); (case side3 => exact Gl.below HGL.out (by repeat (first | (with_reducible first | exact HB.out | apply below_alloc | apply pw_below_drewN | apply below_drew1 | refine below_set ?_ GE184.out) | exact HB.out))); rintro e w64 ⟨rfl, hb⟩; refine ⟨_, rfl, ?_⟩; have n0_ := Aside0.mk (Kd.R_below (by (with_reducible repeat (first | apply Kd.R_alloc | apply Kd.R_drewN | apply Kd.R_drew)); exact HO_3.out) hb); have n1_ := Aside0.mk (blk_below (g := gb184) (o := .cells #[.int .i64 a0_0, .int .i64 a0_1, .string a0_2, .slice A0_3 l0_3.length c0_3, .slice A0_4 l0_4.length c0_4] 25 (0, 0)) (by (with_reducible repeat (first | refine blk_drewN ?_ _ | refine blk_drew ?_ | refine blk_alloc ?_ _)); exact BK184.out) hb); have n2_ := Aside0.mk (below_step (by repeat (first | (with_reducible first | exact HB.out | apply below_alloc | apply pw_below_drewN | apply below_drew1 | refine below_set ?_ GE184.out) | exact HB.out)) hb); clear HO_3; clear BK184; clear HB; have HO_3 := n0_; have BK184 := n1_; have HB := n2_; clear n0_ n1_ n2_; (try clear hb); (try clear hb2); (try clear hk); (try clear hi)))
         go_ret
         exact ⟨by first | rfl | (simp [errW_none, errW_some] <;> rfl) | (simp [*, errW_none, errW_some] <;> rfl), by repeat (first | (with_reducible first | exact HB.out | apply below_alloc | apply pw_below_drewN | apply below_drew1 | refine below_set ?_ GE184.out) | exact HB.out)⟩
     ·rw [if_neg c44] at H
      have c44b0 : (a0_0 == 5) = false := beq_eq_false_iff_ne.mpr c44
      have c44b1 : (a0_0 != 5) = true := bne_iff_ne.mpr c44
      obtain ⟨y222, hy222⟩ : ∃ y_ : List ByteArray, y_ = (([(⟨#[110, 111, 110, 101]⟩ : ByteArray)] : List ByteArray)) := ⟨_, rfl⟩
      replace H : ((pack_Row.f y222).bind fun t225 => (some t225)) = some r := by first | (rw [hy222]; with_reducible exact H) | (have H2_ := (Option.bind_some _ _).symm.trans H; rw [hy222]; with_reducible exact H2_) | (have H2_ := (Option.bind_some _ _).symm.trans H; with_reducible exact H2_) | with_reducible exact H | (rw [hy222]; exact H) | exact H
      have Ny222 := Aside0.mk hy222
      clear hy222
      replace H := Option.bind_eq_some_iff.mp H
      obtain ⟨t225, A650, H⟩ := H
      replace H : (some t225) = some r := H
      have A65 := Aside0.mk A650
      clear A650
      obtain rfl := Option.some.inj H
      go_enter Tryz.func30, Tryz.ntmps30
      go_wp2_with (first | ((with_reducible refine gate_dst (N := 1) rfl ?_); refine box_event ?hg (N := 1) ?hd (cs := #[.int .i64 a0_0, .int .i64 a0_1, .string a0_2, .slice A0_3 l0_3.length c0_3, .slice A0_4 l0_4.length c0_4]) (t := 25) ?hr ?_; (case hd => rfl); (case hg => rfl); (case hr => first | (go_simp; done) | (go_simp; rfl)); intro gb184 hg w66 hbox hb; have n0_ := Aside0.mk (below_step (by repeat (first | (with_reducible first | exact HB.out | apply below_alloc | apply pw_below_drewN | apply below_drew1) | exact HB.out)) hb); have n1_ := Aside0.mk (hbox); have n2_ := Aside0.mk ((by rw [hg]; exact (below_size (by repeat (first | (with_reducible first | exact HB.out | apply below_alloc | apply pw_below_drewN | apply below_drew1) | exact HB.out))) : w.heap.size ≤ gb184)); have n3_ := Aside0.mk ((by rw [hg]; exact (below_size (by repeat (first | (with_reducible first | exact HB.out | apply below_alloc | apply pw_below_drewN | apply below_drew1) | exact HB.out))) : w.heap.size ≤ gb184)); clear HB; have HB := n0_; have BK184 := n1_; have GW184 := n2_; have GE184 := n3_; clear n0_ n1_ n2_ n3_; clear hb hbox hg; have hcz67_0 : w66.cell? ⟨gb184, 0, none⟩ = some (.int .i64 a0_0) := (blk_cell BK184.out 0).trans rfl; have hcz67_1 : w66.cell? ⟨gb184, 1, none⟩ = some (.int .i64 a0_1) := (blk_cell BK184.out 1).trans rfl; have hcz67_2 : w66.cell? ⟨gb184, 2, none⟩ = some (.string a0_2) := (blk_cell BK184.out 2).trans rfl; have hcz67_3 : w66.cell? ⟨gb184, 3, none⟩ = some (.slice A0_3 l0_3.length c0_3) := (blk_cell BK184.out 3).trans rfl; have hcz67_4 : w66.cell? ⟨gb184, 4, none⟩ = some (.slice A0_4 l0_4.length c0_4) := (blk_cell BK184.out 4).trans rfl; have hfz67_0 := blk_frozen BK184.out 0; have hfz67_1 := blk_frozen BK184.out 1; have hfz67_2 := blk_frozen BK184.out 2; have hfz67_3 := blk_frozen BK184.out 3; have hfz67_4 := blk_frozen BK184.out 4) | ((with_reducible refine gate_dst (N := 60) rfl ?_); refine Kd.R_lit Kd.string _ 9 ?hg (N := 60) ?hd (xs := ([(⟨#[110, 111, 110, 101]⟩ : ByteArray)] : List ByteArray)) (inner := [.string (⟨#[110, 111, 110, 101]⟩ : ByteArray)]) (ok := fun _ => True) (okp := fun _ => True) ?hr ?hp (fun _ hk => hk) trivial (Below.refl _ _) (Nat.le_refl _) (by simp) ?_; (case hd => rfl); (case hg => rfl); (case hr => first | (go_simp; done) | (go_simp; rfl)); (case hp => exact (Reps.one (show Kd.M Kd.string _ _ _ (⟨#[110, 111, 110, 101]⟩ : ByteArray) [.string (⟨#[110, 111, 110, 101]⟩ : ByteArray)] from rfl) (Reps.none _ _))); intro v223 w68 ho69 hb hg_ hnew_; clear hg_ hnew_; (first | rw [← Ny222.out] at ho69 | (simp only [Int.reduceToNat] at ho69; rw [← Ny222.out] at ho69)); have n0_ := Aside0.mk (Kd.R_lower ho69 (below_size (by repeat (first | (with_reducible first | exact HB.out | apply below_alloc | apply pw_below_drewN | apply below_drew1 | refine below_set ?_ GE184.out) | exact HB.out)))); have n1_ := Aside0.mk (blk_below (g := gb184) (o := .cells #[.int .i64 a0_0, .int .i64 a0_1, .string a0_2, .slice A0_3 l0_3.length c0_3, .slice A0_4 l0_4.length c0_4] 25 (0, 0)) (by (with_reducible repeat (first | refine blk_drewN ?_ _ | refine blk_drew ?_ | refine blk_alloc ?_ _)); exact BK184.out) hb); have n2_ := Aside0.mk (below_step (by repeat (first | (with_reducible first | exact HB.out | apply below_alloc | apply pw_below_drewN | apply below_drew1 | refine below_set ?_ GE184.out) | exact HB.out)) hb); clear BK184; clear HB; have HO224 := n0_; have BK184 := n1_; have HB := n2_; clear n0_ n1_ n2_; clear hb ho69; obtain ⟨Ao70, co70, eo70⟩ := Kd.R_slice HO224.out; subst eo70) | ((with_reducible refine gate_callee (f := 45) rfl ?_); refine goesL_ (some 61) rfl rfl Tryz.func45 (by kernel_rfl) rfl #[.slice Ao70 y222.length co70] rfl (by (try simp only [List.map_toArray, List.map_cons, List.map_nil]); first | done | rfl | (simp only [List.length_drop, List.length_take]; rfl)) ?_; (with_reducible refine (pack_Row.calls _ _ y222 t225 _ ?side3 ?side1 ?side2 A65.out).mono ?_); (case side1 => repeat (first | exact (Kd.R_reads' HO224.out).2.2 | (with_reducible refine Kd.C_alloc ?_ _) | (with_reducible refine Kd.C_drewN ?_ _) | (with_reducible refine Kd.C_drew ?_))); (case side2 => exact (Kd.R_reads' HO224.out).2.1); (case side3 => exact Gl.below HGL.out (by repeat (first | (with_reducible first | exact HB.out | apply below_alloc | apply pw_below_drewN | apply below_drew1 | refine below_set ?_ GE184.out) | exact HB.out))); rintro e w71 ⟨rfl, hb⟩; refine ⟨_, rfl, ?_⟩; have n0_ := Aside0.mk (Kd.R_below (by (with_reducible repeat (first | apply Kd.R_alloc | apply Kd.R_drewN | apply Kd.R_drew)); exact HO224.out) hb); have n1_ := Aside0.mk (blk_below (g := gb184) (o := .cells #[.int .i64 a0_0, .int .i64 a0_1, .string a0_2, .slice A0_3 l0_3.length c0_3, .slice A0_4 l0_4.length c0_4] 25 (0, 0)) (by (with_reducible repeat (first | refine blk_drewN ?_ _ | refine blk_drew ?_ | refine blk_alloc ?_ _)); exact BK184.out) hb); have n2_ := Aside0.mk (below_step (by repeat (first | (with_reducible first | exact HB.out | apply below_alloc | apply pw_below_drewN | apply below_drew1 | refine below_set ?_ GE184.out) | exact HB.out)) hb); clear HO224; clear BK184; clear HB; have HO224 := n0_; have BK184 := n1_; have HB := n2_; clear n0_ n1_ n2_; (try clear hb); (try clear hb2); (try clear hk); (try clear hi)))
      go_ret
      exact ⟨by first | rfl | (simp [errW_none, errW_some] <;> rfl) | (simp [*, errW_none, errW_some] <;> rfl), by repeat (first | (with_reducible first | exact HB.out | apply below_alloc | apply pw_below_drewN | apply below_drew1 | refine below_set ?_ GE184.out) | exact HB.out)⟩

end
end Go.Proofs.YtegppacnkfeaoaaGreatDoor.G

/- Nothing of this text is used here. -/

/- What value's row and the reference's bytes (as Lean functions) come to. No program's run. -/
namespace Go.Proofs.YtegppacnkfeaoaaGreatDoor.G
open Go.RowKit Go.Gw Go.Proofs.YtegppacnkfeaoaaGreatDoorW.PrintWords
set_option linter.unusedVariables false
set_option linter.unusedSimpArgs false

theorem rowS_size (l : List ByteArray) : (rowS l).size = (Pk.row (raws l)).length := rfl
theorem bulk_le (l : List ByteArray) : Pk.bulk (raws l) ≤ (rowS l).size := by rw [rowS_size]; exact Pk.bulk_le_row _
theorem mem_le {x : ByteArray} {l : List ByteArray} (h : x ∈ l) : x.size + 1 ≤ Pk.bulk (raws l) := by
  have := Pk.bulk_mem (l := raws l) (s := x.data.toList) (List.mem_map.2 ⟨x, h, rfl⟩)
  rwa [data_length] at this
theorem weave_mem {t : ByteArray} : ∀ (ks ts : List ByteArray), ks.length = ts.length → t ∈ ts → t ∈ weave ks ts := by
  intro ks
  induction ks with
  | nil => intro ts h ht; cases ts with
    | nil => cases ht
    | cons a b => simp at h
  | cons k ks ih =>
    intro ts h ht
    cases ts with
    | nil => cases ht
    | cons a b =>
      rw [weave]
      rcases List.mem_cons.1 ht with rfl | ht
      · simp
      · exact List.mem_cons_of_mem _ (List.mem_cons_of_mem _ (ih b (by simpa using h) ht))
theorem kid_le_row {v x : S25} (hn : nodeP v) (hx : x ∈ v.f3) : (rowT x).size ≤ (rowT v).size := by
  have hl : 0 < v.f3.length := List.length_pos_of_mem hx
  have h : v.f0 = 4 ∨ (v.f0 = 5 ∧ v.f3.length = v.f4.length) := by unfold nodeP at hn; rcases hn with h | h | h | h | h | h <;> (first | (exfalso; omega) | exact .inl h.1 | exact .inr ⟨h.1, h.2.2.2.1⟩)
  have hm : rowT x ∈ wordB v.f0 :: restT v := by
    refine List.mem_cons_of_mem _ ?_
    unfold restT
    rcases h with h | ⟨h, hk⟩
    · rw [if_neg (by omega), if_neg (by omega), if_pos h]
      exact List.mem_map.2 ⟨x, hx, rfl⟩
    · rw [if_neg (by omega), if_neg (by omega), if_neg (by omega), if_pos h]
      exact weave_mem _ _ (by simp [hk]) (List.mem_map.2 ⟨x, hx, rfl⟩)
  have h1 := mem_le hm
  have h2 := bulk_le (wordB v.f0 :: restT v)
  rw [rowT_eq v]
  omega
theorem mayRow.kid {v x : S25} (h : mayRow v) (hx : x ∈ v.f3) : mayRow x := ⟨h.1.kid hx, Nat.le_trans (kid_le_row h.1.here.1 hx) h.2⟩
theorem mayRow.bulk {v : S25} (h : mayRow v) : Pk.bulk (raws (wordB v.f0 :: restT v)) ≤ 1000000 := by
  have h1 := bulk_le (wordB v.f0 :: restT v)
  rw [← rowT_eq v] at h1
  have := h.2
  omega
theorem weave_append (a b c d : List ByteArray) (h : a.length = c.length) : weave (a ++ b) (c ++ d) = weave a c ++ weave b d := by
  induction a generalizing c with
  | nil => obtain rfl : c = [] := by cases c with | nil => rfl | cons x y => simp at h
           rfl
  | cons x a ih =>
    cases c with
    | nil => simp at h
    | cons y c => simp only [List.cons_append, weave]; rw [ih c (by simpa using h)]
theorem weave_len (a b : List ByteArray) (h : a.length = b.length) : (weave a b).length = 2 * a.length := by
  induction a generalizing b with
  | nil => cases b with | nil => rfl | cons x y => simp at h
  | cons x a ih =>
    cases b with
    | nil => simp at h
    | cons y b => simp only [weave, List.length_cons]; rw [ih b (by simpa using h)]; omega

section
variable [Inhabited Bound]
theorem all_row {l : List S25} (hl : l.length ≤ 1000000) (h : ∀ x ∈ l, SizeOf.sizeOf x < bnd ∧ mayRow x) : value_all.f l 30 = some (l.map rowT) := by
  unfold value_all.f
  rw [if_pos hl, if_neg (by decide), if_pos rfl, if_pos h]
theorem row_f {l : List ByteArray} (h : Pk.bulk (raws l) ≤ 1000000) : pack_Row.f l = some (rowS l) := by unfold pack_Row.f; rw [if_pos h]
def RowOK (x : S25) : Prop := Ev (fun k => value_row.f k x.f0 x.f1 x.f2 x.f3 x.f4) (rowT x)
theorem row_loop (v : S25) (hv : mayRow v) (h5 : v.f0 = 5) (hc : ∀ x ∈ v.f3, RowOK x) : ∀ (b a : List S25) (ka kb : List ByteArray), v.f3 = a ++ b → v.f4 = ka ++ kb → ka.length = a.length →
    Ev (fun k => value_row.l0 k (wordB 5 :: weave ka (a.map rowT)) v.f4 (v.f4.length : Int) (a.length : Int) v.f0 v.f1 v.f2 v.f3 v.f4) (rowT v) := by
  obtain ⟨n1, n2, n3, n4, n5, _⟩ := node_len hv.1.here.1
  have hr : restT v = weave v.f4 (v.f3.map rowT) := by unfold restT; rw [if_neg (by omega), if_neg (by omega), if_neg (by omega), if_pos h5]
  have hlen := n5 h5
  intro b
  induction b with
  | nil =>
    intro a ka kb e1 e2 e3
    rw [List.append_nil] at e1
    obtain rfl : kb = [] := by rw [e1, e2, List.length_append] at hlen; exact List.length_eq_zero_iff.1 (by omega)
    rw [List.append_nil] at e2
    have hel := congrArg List.length e2
    have hb := hv.bulk
    rw [hr, h5, e1, e2] at hb
    refine Ev.step (f := fun _ => some (rowT v)) (fun k => ?_) (Ev.now _)
    rw [value_row.l0, if_neg (by omega), row_f hb, rowT_eq v, hr, h5, e1, e2]
    rfl
  | cons x b ih =>
    intro a ka kb e1 e2 e3
    obtain ⟨key, kb, rfl⟩ : ∃ key r, kb = key :: r := by
      cases kb with
      | nil => rw [e1, e2] at hlen; simp at hlen; omega
      | cons k r => exact ⟨k, r, rfl⟩
    obtain ⟨l1, l2, l3⟩ := len_mid e1 (by omega)
    have er : rd_T25 v.f3 (a.length : Int) = x := by rw [e1]; exact rd_mid a x b
    have ek : rdOf ByteArray.empty v.f4 (a.length : Int) = key := by rw [e2, ← e3]; exact rdOf_mid ka key kb
    have hw := weave_len ka (a.map rowT) (by simp [e3])
    have ew : (wordB 5 :: weave ka (a.map rowT)) ++ [key, rowT x] = wordB 5 :: weave (ka ++ [key]) ((a ++ [x]).map rowT) := by
      rw [List.map_append, weave_append _ _ _ _ (by simp [e3])]; rfl
    have hl : (wordB 5 :: weave ka (a.map rowT)).length = 2 * ka.length + 1 := by rw [List.length_cons, hw]
    have ih' := ih (a ++ [x]) (ka ++ [key]) kb l3 (by rw [e2]; simp) (by simp [e3])
    rw [← ew] at ih'
    have ewr : wrap64 ((a.length : Int) + 1) = ((a ++ [x]).length : Int) := l2
    have hka : ka.length ≤ 1000 := by rw [e2, List.length_append] at n2; omega
    refine Ev.step (f := fun k => (value_row.f k x.f0 x.f1 x.f2 x.f3 x.f4).bind fun t => (some ([key, t] : List ByteArray)).bind fun y => if (wordB 5 :: weave ka (a.map rowT)).length + y.length < 8796093022208 then value_row.l0 k ((wordB 5 :: weave ka (a.map rowT)) ++ y) v.f4 (v.f4.length : Int) ((a ++ [x]).length : Int) v.f0 v.f1 v.f2 v.f3 v.f4 else none) (fun k => ?_)
      (Ev.bind (f := fun k t => (some ([key, t] : List ByteArray)).bind fun y => if (wordB 5 :: weave ka (a.map rowT)).length + y.length < 8796093022208 then value_row.l0 k ((wordB 5 :: weave ka (a.map rowT)) ++ y) v.f4 (v.f4.length : Int) ((a ++ [x]).length : Int) v.f0 v.f1 v.f2 v.f3 v.f4 else none) (hc x (by rw [e1]; simp)) (Ev.congr (fun k => Option.bind_some _ _) (Ev.pos (by rw [hl]; simp; omega) ih')))
    rw [value_row.l0, if_pos (by omega), if_pos (by omega), if_pos (by omega), if_pos l1, er, ek, ewr]
theorem row_ev : ∀ v : S25, mayRow v → (∀ x ∈ v.f3, SizeOf.sizeOf x < bnd) → RowOK v := by
  refine tree_ind (P := fun v => mayRow v → (∀ x ∈ v.f3, SizeOf.sizeOf x < bnd) → RowOK v) ?_
  intro v ih hv hb
  obtain ⟨n1, n2, n3, n4, n5, _⟩ := node_len hv.1.here.1
  have hr := hv.1.here.2
  have hbk := hv.bulk
  have ha := all_row (l := v.f3) (by omega) (fun x hx => ⟨hb x hx, hv.kid hx⟩)
  have step : ∀ {g : Nat → Option ByteArray}, (∀ k, value_row.f (k + 1) v.f0 v.f1 v.f2 v.f3 v.f4 = g k) → Ev g (rowT v) → RowOK v := fun h e => Ev.step h e
  have er := rowT_eq v
  by_cases k1 : v.f0 = 1
  · have e1 : restT v = [numS v.f1] := by unfold restT; rw [if_pos (.inl k1)]
    rw [e1, k1] at er hbk
    refine step (g := fun _ => some (rowT v)) (fun k => ?_) (Ev.now _)
    rw [value_row.f, if_pos k1, num_f hr, Option.bind_some, er]
    exact congrArg (fun o => o.bind fun t => some t) (row_f hbk)
  by_cases k2 : v.f0 = 2
  · have e1 : restT v = [numS v.f1] := by unfold restT; rw [if_pos (.inr k2)]
    rw [e1, k2] at er hbk
    refine step (g := fun _ => some (rowT v)) (fun k => ?_) (Ev.now _)
    rw [value_row.f, if_neg k1, if_pos k2, num_f hr, Option.bind_some, er]
    exact congrArg (fun o => o.bind fun t => some t) (row_f hbk)
  by_cases k3 : v.f0 = 3
  · have e1 : restT v = [v.f2] := by unfold restT; rw [if_neg (by omega), if_pos k3]
    rw [e1, k3] at er hbk
    refine step (g := fun _ => some (rowT v)) (fun k => ?_) (Ev.now _)
    rw [value_row.f, if_neg k1, if_neg k2, if_pos k3, er]
    exact congrArg (fun o => o.bind fun t => some t) (row_f hbk)
  by_cases k4 : v.f0 = 4
  · have e1 : restT v = v.f3.map rowT := by unfold restT; rw [if_neg (by omega), if_neg k3, if_pos k4]
    rw [e1, k4] at er hbk
    refine step (g := fun _ => some (rowT v)) (fun k => ?_) (Ev.now _)
    rw [value_row.f, if_neg k1, if_neg k2, if_neg k3, if_pos k4, Option.bind_some, ha, Option.bind_some, if_pos (by rw [List.length_map]; simp; omega), er]
    exact congrArg (fun o => o.bind fun t => some t) (row_f hbk)
  by_cases k5 : v.f0 = 5
  · refine step (g := fun k => value_row.l0 k (wordB 5 :: weave [] (([] : List S25).map rowT)) v.f4 (v.f4.length : Int) 0 v.f0 v.f1 v.f2 v.f3 v.f4) (fun k => ?_) (row_loop v hv k5 (fun x hx => ih x hx (hv.kid hx) (fun y hy => Nat.lt_trans (size_mem hy) (hb x hx))) v.f3 [] [] v.f4 rfl rfl rfl)
    rw [value_row.f, if_neg k1, if_neg k2, if_neg k3, if_neg k4, if_pos k5]
    rfl
  · have e1 : restT v = [] := by unfold restT; rw [if_neg (by omega), if_neg k3, if_neg k4, if_neg k5]
    have ew : wordB v.f0 = ⟨#[110, 111, 110, 101]⟩ := by unfold wordB; rw [if_neg k1, if_neg k2, if_neg k3, if_neg k4, if_neg k5]
    rw [e1, ew] at er hbk
    refine step (g := fun _ => some (rowT v)) (fun k => ?_) (Ev.now _)
    rw [value_row.f, if_neg k1, if_neg k2, if_neg k3, if_neg k4, if_neg k5, er]
    exact congrArg (fun o => o.bind fun t => some t) (row_f hbk)

end
end Go.Proofs.YtegppacnkfeaoaaGreatDoor.G

/- Go functions as Lean functions, each with its contract: written by a program of mine over the kit's print. Conditions: each contract's own. -/
namespace Go.Proofs.YtegppacnkfeaoaaGreatDoor.G
open Go.RowKit Go.Proofs.YtegppacnkfeaoaaGreatDoorW.PrintWords Go.Proofs.YtegppacnkfeaoaaGreatDoorW.PrintLast Go.Proofs.YtegppacnkfeaoaaGreatDoorW.PrintMore
attribute [local go_sem] max2_int min2_int max_two min_two max_three min_three max_four min_four   -- for this text's walks alone
set_option linter.unusedVariables false
set_option linter.unusedSimpArgs false
noncomputable section
variable [Inhabited Bound]

/-! ### slices_Equal_string_string: function 25 -/
def slices_Equal_string_string.l0 : Nat → List ByteArray → List ByteArray → Int → Int → Option (Bool)
 | 0, _, _, _, _ => none
 | k + 1, x0, x1, x12, x13 => if x13 < x12 then (if 0 ≤ x13 then (if x13 < (x0.length : Int) then (if x13 < (x1.length : Int) then (if (rdOf ByteArray.empty x0 x13).toList = (rdOf ByteArray.empty x1 x13).toList then (slices_Equal_string_string.l0 k x0 x1 x12 (wrap64 (x13 + 1))) else (some false)) else (none)) else (none)) else (none)) else (some true)
def slices_Equal_string_string.f (k : Nat) (l0 : List ByteArray) (l1 : List ByteArray) : Option (Bool) := if (l0.length : Int) = (l1.length : Int) then (slices_Equal_string_string.l0 k l0 l1 (l0.length : Int) 0) else (some false)
set_option maxHeartbeats 8000000 in
set_option maxRecDepth 100000 in
theorem slices_Equal_string_string.calls (k : Nat) (A0 : Option Addr) (c0 : Nat) (l0 : List ByteArray) (A1 : Option Addr) (c1 : Nat) (l1 : List ByteArray) (r : Bool) (w : World) (hr0 : Kd.C Kd.string w A0 l0.length l0) (hc0 : l0.length ≤ c0) (hr1 : Kd.C Kd.string w A1 l1.length l1) (hc1 : l1.length ≤ c1) (h : slices_Equal_string_string.f k l0 l1 = some r) :
  Calls Tryz.prog 25 #[.slice A0 l0.length c0, .slice A1 l1.length c1] w fun e w' => e = .returned (.bool r) ∧ Drawn0 w w' := by
 have HR0 := Aside0.mk hr0
 have HC0 := Aside0.mk hc0
 clear hr0 hc0
 have HR1 := Aside0.mk hr1
 have HC1 := Aside0.mk hc1
 clear hr1 hc1
 have H : (if (l0.length : Int) = (l1.length : Int) then (slices_Equal_string_string.l0 k l0 l1 (l0.length : Int) 0) else (some false)) = some r := h
 clear h
 by_cases c3 : (l0.length : Int) = (l1.length : Int)
 ·rw [if_pos c3] at H
  have c3b0 : ((l0.length : Int) == (l1.length : Int)) = true := beq_iff_eq.mpr c3
  have c3b1 : ((l0.length : Int) != (l1.length : Int)) = false := bne_eq_false_iff_eq.mpr c3
  have c3b2 : (l0.length == l1.length) = true := by first | simpa using c3 | (simp at c3 ⊢; omega)
  clear c3
  have H' := Aside0.mk H
  clear H
  go_enter Tryz.func25, Tryz.ntmps25
  go_wp2
  repeat (go_quiet (fail); try go_wp2)
  go_loopg [13] k (fun kq v13 w' => ∃ (x13_1 : Int), v13 = .int .i64 x13_1 ∧ Aside0 (slices_Equal_string_string.l0 kq l0 l1 (l0.length : Int) x13_1 = some r) ∧ Aside0 (kq ≤ k) ∧ Drawn0 w w')
  case atStart => exact ⟨(0), (by first | rfl | (simp; done) | (simp [*]; done)), (by first | exact H' | (subst_vars; exact H')), ⟨Nat.le_refl _⟩, by repeat (first | exact Drawn0.refl _ | apply Drawn0.step)⟩
  case round =>
   clear H'
   try clear c1
   try clear c2
   try clear p2
   try clear c3
   try clear c3b0
   try clear c3b1
   try clear c3b2
   obtain ⟨x13_1, rfl, HA, HK1, ⟨m1, rfl⟩⟩ := hrel
   cases gk with
   | zero => exact absurd HA.out (by simp [slices_Equal_string_string.l0])
   | succ k1 =>
    have H := HA.out
    clear HA
    simp only [slices_Equal_string_string.l0] at H
    by_cases c4 : x13_1 < (l0.length : Int)
    ·rw [if_pos c4] at H
     have c4b0 : decide (x13_1 < (l0.length : Int)) = true := decide_eq_true c4
     clear c4
     by_cases c5 : 0 ≤ x13_1
     ·rw [if_pos c5] at H
      have c5b0 : decide (0 ≤ x13_1) = true := decide_eq_true c5
      clear c5
      by_cases c6 : x13_1 < (l0.length : Int)
      ·rw [if_pos c6] at H
       have c6b0 : decide (x13_1 < (l0.length : Int)) = true := decide_eq_true c6
       clear c6
       by_cases c7 : x13_1 < (l1.length : Int)
       ·rw [if_pos c7] at H
        have c7b0 : decide (x13_1 < (l1.length : Int)) = true := decide_eq_true c7
        clear c7
        by_cases c8 : (rdOf ByteArray.empty l0 x13_1).toList = (rdOf ByteArray.empty l1 x13_1).toList
        ·rw [if_pos c8] at H
         have c8b0 : ((rdOf ByteArray.empty l0 x13_1).toList == (rdOf ByteArray.empty l1 x13_1).toList) = true := beq_iff_eq.mpr c8
         have c8b1 : ((rdOf ByteArray.empty l0 x13_1).toList != (rdOf ByteArray.empty l1 x13_1).toList) = false := bne_eq_false_iff_eq.mpr c8
         clear c8
         have H' := Aside0.mk H
         clear H
         have p178 : 0 ≤ (x13_1 : Int) := of_decide_eq_true (by first | (with_reducible assumption) | assumption)
         have q178 : x13_1 < (l0.length : Int) := of_decide_eq_true (by first | (with_reducible assumption) | assumption)
         obtain ⟨ad178, e178, hx178_0⟩ := Kd.at_string HR0.out x13_1 p178 q178
         cases e178
         replace p178 := eq_true p178
         replace q178 := eq_true q178
         have p179 : 0 ≤ (x13_1 : Int) := of_decide_eq_true (by first | (with_reducible assumption) | assumption)
         have q179 : x13_1 < (l1.length : Int) := of_decide_eq_true (by first | (with_reducible assumption) | assumption)
         obtain ⟨ad179, e179, hx179_0⟩ := Kd.at_string HR1.out x13_1 p179 q179
         cases e179
         replace p179 := eq_true p179
         replace q179 := eq_true q179
         go_wp2
         repeat (go_quiet (fail); try go_wp2)
         go_roundg k1
         case measure => have := HK1.out; omega
         case rel => exact ⟨(wrap64 (x13_1 + 1)), (by first | rfl | (simp; done) | (simp [*]; done)), (by first | exact H' | (subst_vars; exact H')), ⟨by have := HK1.out; omega⟩, by repeat (first | exact Drawn0.refl _ | apply Drawn0.step)⟩
        ·rw [if_neg c8] at H
         have c8b0 : ((rdOf ByteArray.empty l0 x13_1).toList == (rdOf ByteArray.empty l1 x13_1).toList) = false := beq_eq_false_iff_ne.mpr c8
         have c8b1 : ((rdOf ByteArray.empty l0 x13_1).toList != (rdOf ByteArray.empty l1 x13_1).toList) = true := bne_iff_ne.mpr c8
         obtain rfl := Option.some.inj H
         have p178 : 0 ≤ (x13_1 : Int) := of_decide_eq_true (by first | (with_reducible assumption) | assumption)
         have q178 : x13_1 < (l0.length : Int) := of_decide_eq_true (by first | (with_reducible assumption) | assumption)
         obtain ⟨ad178, e178, hx178_0⟩ := Kd.at_string HR0.out x13_1 p178 q178
         cases e178
         replace p178 := eq_true p178
         replace q178 := eq_true q178
         have p179 : 0 ≤ (x13_1 : Int) := of_decide_eq_true (by first | (with_reducible assumption) | assumption)
         have q179 : x13_1 < (l1.length : Int) := of_decide_eq_true (by first | (with_reducible assumption) | assumption)
         obtain ⟨ad179, e179, hx179_0⟩ := Kd.at_string HR1.out x13_1 p179 q179
         cases e179
         replace p179 := eq_true p179
         replace q179 := eq_true q179
         go_wp2
         repeat (go_quiet (fail); try go_wp2)
         go_ret
         exact ⟨by first | rfl | (simp; done) | (simp [*]; done), by repeat (first | exact Drawn0.refl _ | apply Drawn0.step)⟩
       ·rw [if_neg c7] at H
        exact absurd H (by simp)
      ·rw [if_neg c6] at H
       exact absurd H (by simp)
     ·rw [if_neg c5] at H
      exact absurd H (by simp)
    ·rw [if_neg c4] at H
     have c4b0 : decide (x13_1 < (l0.length : Int)) = false := decide_eq_false c4
     clear c4
     obtain rfl := Option.some.inj H
     go_wp2
     repeat (go_quiet (fail); try go_wp2)
     go_ret
     exact ⟨by first | rfl | (simp; done) | (simp [*]; done), by repeat (first | exact Drawn0.refl _ | apply Drawn0.step)⟩
 ·rw [if_neg c3] at H
  have c3b0 : ((l0.length : Int) == (l1.length : Int)) = false := beq_eq_false_iff_ne.mpr c3
  have c3b1 : ((l0.length : Int) != (l1.length : Int)) = true := bne_iff_ne.mpr c3
  have c3b2 : (l0.length == l1.length) = false := by first | simpa using c3 | (simp at c3 ⊢; omega)
  obtain rfl := Option.some.inj H
  go_enter Tryz.func25, Tryz.ntmps25
  go_wp2
  repeat (go_quiet (fail); try go_wp2)
  go_ret
  exact ⟨by first | rfl | (simp; done) | (simp [*]; done), by repeat (first | exact Drawn0.refl _ | apply Drawn0.step)⟩

end
end Go.Proofs.YtegppacnkfeaoaaGreatDoor.G
