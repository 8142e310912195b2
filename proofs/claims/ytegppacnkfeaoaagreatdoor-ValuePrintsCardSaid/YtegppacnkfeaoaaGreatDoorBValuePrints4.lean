/- Texts towards the law ValuePrints, one behind the other: each begins with its own sentence. Conditions: each theorem's own. -/
import Derived.ChangeSame
import Derived.WideShapes
import Derived.ChangeArms
import Derived.Test.YtegppacnkfeaoaaGreatDoorBValuePrints1
import Derived.Test.YtegppacnkfeaoaaGreatDoorBValuePrints0
import Derived.Test.YtegppacnkfeaoaaGreatDoorBValuePrints3
import Derived.Test.YtegppacnkfeaoaaGreatDoorBValuePrints2
set_option linter.unusedSectionVars false
set_option linter.unusedVariables false
set_option linter.unusedSimpArgs false
/- Go functions as Lean functions, each with its contract: written by a program of mine over the kit's print. Conditions: each contract's own. -/
namespace Go.Proofs.YtegppacnkfeaoaaGreatDoor.G
open Go.RowKit Go.Proofs.YtegppacnkfeaoaaGreatDoorW.PrintWords Go.Proofs.YtegppacnkfeaoaaGreatDoorW.PrintLast Go.Proofs.YtegppacnkfeaoaaGreatDoorW.PrintMore
attribute [local go_sem] max2_int min2_int max_two min_two max_three min_three max_four min_four   -- for this text's walks alone
set_option linter.unusedVariables false
set_option linter.unusedSimpArgs false
noncomputable section
variable [Inhabited Bound]

/-! ### value_Same: function 13 -/
def value_Same.f : Nat → Int → Int → ByteArray → List (S25) → List ByteArray → Int → Int → ByteArray → List (S25) → List ByteArray → Option (Bool)
 | 0, _, _, _, _, _, _, _, _, _, _ => none
 | k + 1, a0_0, a0_1, a0_2, l0_3, l0_4, a1_0, a1_1, a1_2, l1_3, l1_4 => if a0_0 = a1_0 then (if a0_1 = a1_1 then (if a0_2.toList = a1_2.toList then ((slices_Equal_string_string.f k l0_4 l1_4).bind fun t182 => (if t182 = true then ((api_Value.f l0_3 l1_3 13).bind fun t183 => (some t183)) else (some false))) else (some false)) else (some false)) else (some false)
set_option maxHeartbeats 8000000 in
set_option maxRecDepth 100000 in
theorem value_Same.calls (k : Nat) : ∀ (a0_0 : Int) (a0_1 : Int) (a0_2 : ByteArray) (A0_3 : Option Addr) (c0_3 : Nat) (l0_3 : List (S25)) (A0_4 : Option Addr) (c0_4 : Nat) (l0_4 : List ByteArray) (a1_0 : Int) (a1_1 : Int) (a1_2 : ByteArray) (A1_3 : Option Addr) (c1_3 : Nat) (l1_3 : List (S25)) (A1_4 : Option Addr) (c1_4 : Nat) (l1_4 : List ByteArray) (r : Bool) (w : World) (hgl : Gl w) (hr0_3 : Kd.C k25 w A0_3 l0_3.length l0_3) (hc0_3 : l0_3.length ≤ c0_3) (hr0_4 : Kd.C Kd.string w A0_4 l0_4.length l0_4) (hc0_4 : l0_4.length ≤ c0_4) (hr1_3 : Kd.C k25 w A1_3 l1_3.length l1_3) (hc1_3 : l1_3.length ≤ c1_3) (hr1_4 : Kd.C Kd.string w A1_4 l1_4.length l1_4) (hc1_4 : l1_4.length ≤ c1_4) (h : value_Same.f k a0_0 a0_1 a0_2 l0_3 l0_4 a1_0 a1_1 a1_2 l1_3 l1_4 = some r),
  Calls Tryz.prog 13 #[.agg #[.int .i64 a0_0, .int .i64 a0_1, .string a0_2, .slice A0_3 l0_3.length c0_3, .slice A0_4 l0_4.length c0_4], .agg #[.int .i64 a1_0, .int .i64 a1_1, .string a1_2, .slice A1_3 l1_3.length c1_3, .slice A1_4 l1_4.length c1_4]] w fun e w' => e = .returned (.bool r) ∧ Below w.heap.size w w' := by
 induction k using Nat.strongRecOn with
 | _ k ih =>
 intro a0_0 a0_1 a0_2 A0_3 c0_3 l0_3 A0_4 c0_4 l0_4 a1_0 a1_1 a1_2 A1_3 c1_3 l1_3 A1_4 c1_4 l1_4 r w hgl hr0_3 hc0_3 hr0_4 hc0_4 hr1_3 hc1_3 hr1_4 hc1_4 h
 cases k with
 | zero => exact absurd h (by simp [value_Same.f])
 | succ k =>
 simp only [value_Same.f] at h
 have HGL := Aside0.mk hgl
 clear hgl
 have hu25 := Tryz.underlying25
 have HR0_3 := Aside0.mk hr0_3
 have HC0_3 := Aside0.mk hc0_3
 clear hr0_3 hc0_3
 have HR0_4 := Aside0.mk hr0_4
 have HC0_4 := Aside0.mk hc0_4
 clear hr0_4 hc0_4
 have HR1_3 := Aside0.mk hr1_3
 have HC1_3 := Aside0.mk hc1_3
 clear hr1_3 hc1_3
 have HR1_4 := Aside0.mk hr1_4
 have HC1_4 := Aside0.mk hc1_4
 clear hr1_4 hc1_4
 have HB := Aside0.mk (Below.refl w.heap.size w)
 have H : (if a0_0 = a1_0 then (if a0_1 = a1_1 then (if a0_2.toList = a1_2.toList then ((slices_Equal_string_string.f k l0_4 l1_4).bind fun t182 => (if t182 = true then ((api_Value.f l0_3 l1_3 13).bind fun t183 => (some t183)) else (some false))) else (some false)) else (some false)) else (some false)) = some r := h
 clear h
 by_cases c3 : a0_0 = a1_0
 ·rw [if_pos c3] at H
  have c3b0 : (a0_0 == a1_0) = true := beq_iff_eq.mpr c3
  have c3b1 : (a0_0 != a1_0) = false := bne_eq_false_iff_eq.mpr c3
  clear c3
  by_cases c4 : a0_1 = a1_1
  ·rw [if_pos c4] at H
   have c4b0 : (a0_1 == a1_1) = true := beq_iff_eq.mpr c4
   have c4b1 : (a0_1 != a1_1) = false := bne_eq_false_iff_eq.mpr c4
   clear c4
   by_cases c5 : a0_2.toList = a1_2.toList
   ·rw [if_pos c5] at H
    have c5b0 : (a0_2.toList == a1_2.toList) = true := beq_iff_eq.mpr c5
    have c5b1 : (a0_2.toList != a1_2.toList) = false := bne_eq_false_iff_eq.mpr c5
    clear c5
    replace H := Option.bind_eq_some_iff.mp H
    obtain ⟨t182, A60, H⟩ := H
    replace H : (if t182 = true then ((api_Value.f l0_3 l1_3 13).bind fun t183 => (some t183)) else (some false)) = some r := H
    have A6 := Aside0.mk A60
    clear A60
    by_cases c7 : t182 = true
    ·subst c7
     have H1 : ((api_Value.f l0_3 l1_3 13).bind fun t183 => (some t183)) = some r := by rw [if_pos rfl] at H; exact H
     clear H
     have H := H1
     clear H1
     replace H := Option.bind_eq_some_iff.mp H
     obtain ⟨t183, A80, H⟩ := H
     replace H : (some t183) = some r := H
     have A8 := Aside0.mk A80
     clear A80
     obtain rfl := Option.some.inj H
     go_enter Tryz.func13, Tryz.ntmps13
     go_wp2_with (first | ((with_reducible refine gate_dst (N := 2) rfl ?_); refine box_event ?hg (N := 2) ?hd (cs := #[.int .i64 a0_0, .int .i64 a0_1, .string a0_2, .slice A0_3 l0_3.length c0_3, .slice A0_4 l0_4.length c0_4]) (t := 25) ?hr ?_; (case hd => rfl); (case hg => rfl); (case hr => first | (go_simp; done) | (go_simp; rfl)); intro gb180 hg w9 hbox hb; have n0_ := Aside0.mk (below_step (by repeat (first | (with_reducible first | exact HB.out | apply below_alloc | apply pw_below_drewN | apply below_drew1) | exact HB.out)) hb); have n1_ := Aside0.mk (hbox); have n2_ := Aside0.mk ((by rw [hg]; exact (below_size (by repeat (first | (with_reducible first | exact HB.out | apply below_alloc | apply pw_below_drewN | apply below_drew1) | exact HB.out))) : w.heap.size ≤ gb180)); have n3_ := Aside0.mk ((by rw [hg]; exact (below_size (by repeat (first | (with_reducible first | exact HB.out | apply below_alloc | apply pw_below_drewN | apply below_drew1) | exact HB.out))) : w.heap.size ≤ gb180)); clear HB; have HB := n0_; have BK180 := n1_; have GW180 := n2_; have GE180 := n3_; clear n0_ n1_ n2_ n3_; clear hb hbox hg) | ((with_reducible refine gate_dst (N := 3) rfl ?_); refine box_event ?hg (N := 3) ?hd (cs := #[.int .i64 a1_0, .int .i64 a1_1, .string a1_2, .slice A1_3 l1_3.length c1_3, .slice A1_4 l1_4.length c1_4]) (t := 25) ?hr ?_; (case hd => rfl); (case hg => rfl); (case hr => first | (go_simp; done) | (go_simp; rfl)); intro gb181 hg w10 hbox hb; have n0_ := Aside0.mk (blk_below (g := gb180) (o := .cells #[.int .i64 a0_0, .int .i64 a0_1, .string a0_2, .slice A0_3 l0_3.length c0_3, .slice A0_4 l0_4.length c0_4] 25 (0, 0)) (by (with_reducible repeat (first | refine blk_drewN ?_ _ | refine blk_drew ?_ | refine blk_alloc ?_ _)); exact BK180.out) hb); have n1_ := Aside0.mk (below_step (by repeat (first | (with_reducible first | exact HB.out | apply below_alloc | apply pw_below_drewN | apply below_drew1 | refine below_set ?_ GE180.out) | exact HB.out)) hb); have n2_ := Aside0.mk (hbox); have n3_ := Aside0.mk ((by rw [hg]; exact (below_size (by repeat (first | (with_reducible first | exact HB.out | apply below_alloc | apply pw_below_drewN | apply below_drew1 | refine below_set ?_ GE180.out) | exact HB.out))) : w.heap.size ≤ gb181)); have n4_ := Aside0.mk ((by rw [hg]; exact (below_size (by repeat (first | (with_reducible first | exact HB.out | apply below_alloc | apply pw_below_drewN | apply below_drew1 | refine below_set ?_ GE180.out) | exact HB.out))) : w.heap.size ≤ gb181)); have n5_ := Aside0.mk ((by rw [hg]; exact Nat.ne_of_lt (blk_lt (g := gb180) (o := .cells #[.int .i64 a0_0, .int .i64 a0_1, .string a0_2, .slice A0_3 l0_3.length c0_3, .slice A0_4 l0_4.length c0_4] 25 (0, 0)) (by (with_reducible repeat (first | refine blk_drewN ?_ _ | refine blk_drew ?_ | refine blk_alloc ?_ _)); exact BK180.out)) : gb180 ≠ gb181)); have n6_ := Aside0.mk ((by rw [hg]; exact Nat.ne_of_gt (blk_lt (g := gb180) (o := .cells #[.int .i64 a0_0, .int .i64 a0_1, .string a0_2, .slice A0_3 l0_3.length c0_3, .slice A0_4 l0_4.length c0_4] 25 (0, 0)) (by (with_reducible repeat (first | refine blk_drewN ?_ _ | refine blk_drew ?_ | refine blk_alloc ?_ _)); exact BK180.out)) : gb181 ≠ gb180)); clear BK180; clear HB; have BK180 := n0_; have HB := n1_; have BK181 := n2_; have GW181 := n3_; have GE181 := n4_; have NB180_181 := n5_; have NB181_180 := n6_; clear n0_ n1_ n2_ n3_ n4_ n5_ n6_; clear hb hbox hg; have hnb11 := NB180_181.out; have hnc11 := NB181_180.out; have hcz12_0 : w10.cell? ⟨gb180, 0, none⟩ = some (.int .i64 a0_0) := (blk_cell BK180.out 0).trans rfl; have hcz12_1 : w10.cell? ⟨gb180, 1, none⟩ = some (.int .i64 a0_1) := (blk_cell BK180.out 1).trans rfl; have hcz12_2 : w10.cell? ⟨gb180, 2, none⟩ = some (.string a0_2) := (blk_cell BK180.out 2).trans rfl; have hcz12_3 : w10.cell? ⟨gb180, 3, none⟩ = some (.slice A0_3 l0_3.length c0_3) := (blk_cell BK180.out 3).trans rfl; have hcz12_4 : w10.cell? ⟨gb180, 4, none⟩ = some (.slice A0_4 l0_4.length c0_4) := (blk_cell BK180.out 4).trans rfl; have hfz12_0 := blk_frozen BK180.out 0; have hfz12_1 := blk_frozen BK180.out 1; have hfz12_2 := blk_frozen BK180.out 2; have hfz12_3 := blk_frozen BK180.out 3; have hfz12_4 := blk_frozen BK180.out 4; have hcz13_0 : w10.cell? ⟨gb181, 0, none⟩ = some (.int .i64 a1_0) := (blk_cell BK181.out 0).trans rfl; have hcz13_1 : w10.cell? ⟨gb181, 1, none⟩ = some (.int .i64 a1_1) := (blk_cell BK181.out 1).trans rfl; have hcz13_2 : w10.cell? ⟨gb181, 2, none⟩ = some (.string a1_2) := (blk_cell BK181.out 2).trans rfl; have hcz13_3 : w10.cell? ⟨gb181, 3, none⟩ = some (.slice A1_3 l1_3.length c1_3) := (blk_cell BK181.out 3).trans rfl; have hcz13_4 : w10.cell? ⟨gb181, 4, none⟩ = some (.slice A1_4 l1_4.length c1_4) := (blk_cell BK181.out 4).trans rfl; have hfz13_0 := blk_frozen BK181.out 0; have hfz13_1 := blk_frozen BK181.out 1; have hfz13_2 := blk_frozen BK181.out 2; have hfz13_3 := blk_frozen BK181.out 3; have hfz13_4 := blk_frozen BK181.out 4) | (go_at_call 25; (with_reducible refine (slices_Equal_string_string.calls k _ _ l0_4 _ _ l1_4 true _ ?side1 ?side2 ?side3 ?side4 A6.out).mono ?_); (case side1 => repeat (first | exact (Kd.C_below HR0_4.out HB.out) | (with_reducible refine Kd.C_alloc ?_ _) | (with_reducible refine Kd.C_drewN ?_ _) | (with_reducible refine Kd.C_drew ?_))); (case side2 => exact HC0_4.out); (case side3 => repeat (first | exact (Kd.C_below HR1_4.out HB.out) | (with_reducible refine Kd.C_alloc ?_ _) | (with_reducible refine Kd.C_drewN ?_ _) | (with_reducible refine Kd.C_drew ?_))); (case side4 => exact HC1_4.out); rintro e w' ⟨rfl, ⟨nd, rfl⟩⟩) | (go_at_call 26; (with_reducible refine (api_Value.calls _ _ l0_3 _ _ l1_3 13 t183 _ ?side5 ?side1 ?side2 ?side3 ?side4 A8.out).mono ?_); (case side1 => repeat (first | exact (Kd.C_below HR0_3.out (by repeat (first | (with_reducible first | exact HB.out | apply below_alloc | apply pw_below_drewN | apply below_drew1 | refine below_set ?_ GE180.out | refine below_set ?_ GE181.out) | exact HB.out))) | (with_reducible refine Kd.C_alloc ?_ _) | (with_reducible refine Kd.C_drewN ?_ _) | (with_reducible refine Kd.C_drew ?_))); (case side2 => exact HC0_3.out); (case side3 => repeat (first | exact (Kd.C_below HR1_3.out (by repeat (first | (with_reducible first | exact HB.out | apply below_alloc | apply pw_below_drewN | apply below_drew1 | refine below_set ?_ GE180.out | refine below_set ?_ GE181.out) | exact HB.out))) | (with_reducible refine Kd.C_alloc ?_ _) | (with_reducible refine Kd.C_drewN ?_ _) | (with_reducible refine Kd.C_drew ?_))); (case side4 => exact HC1_3.out); (case side5 => exact Gl.below HGL.out (by repeat (first | (with_reducible first | exact HB.out | apply below_alloc | apply pw_below_drewN | apply below_drew1 | refine below_set ?_ GE180.out | refine below_set ?_ GE181.out) | exact HB.out))); rintro e w14 ⟨rfl, hb⟩; have n0_ := Aside0.mk (blk_below (g := gb180) (o := .cells #[.int .i64 a0_0, .int .i64 a0_1, .string a0_2, .slice A0_3 l0_3.length c0_3, .slice A0_4 l0_4.length c0_4] 25 (0, 0)) (by (with_reducible repeat (first | refine blk_drewN ?_ _ | refine blk_drew ?_ | refine blk_alloc ?_ _)); exact BK180.out) hb); have n1_ := Aside0.mk (blk_below (g := gb181) (o := .cells #[.int .i64 a1_0, .int .i64 a1_1, .string a1_2, .slice A1_3 l1_3.length c1_3, .slice A1_4 l1_4.length c1_4] 25 (0, 0)) (by (with_reducible repeat (first | refine blk_drewN ?_ _ | refine blk_drew ?_ | refine blk_alloc ?_ _)); exact BK181.out) hb); have n2_ := Aside0.mk (below_step (by repeat (first | (with_reducible first | exact HB.out | apply below_alloc | apply pw_below_drewN | apply below_drew1 | refine below_set ?_ GE180.out | refine below_set ?_ GE181.out) | exact HB.out)) hb); clear BK180; clear BK181; clear HB; have BK180 := n0_; have BK181 := n1_; have HB := n2_; clear n0_ n1_ n2_; (try clear hb); (try clear hb2); (try clear hk); (try clear hi)))
     go_ret
     exact ⟨by first | rfl | (simp [errW_none, errW_some] <;> rfl) | (simp [*, errW_none, errW_some] <;> rfl), by repeat (first | (with_reducible first | exact HB.out | apply below_alloc | apply pw_below_drewN | apply below_drew1 | refine below_set ?_ GE180.out | refine below_set ?_ GE181.out) | exact HB.out)⟩
    ·replace c7 := Bool.eq_false_iff.mpr c7
     subst c7
     have H1 : (some false) = some r := by rw [if_neg (show ¬ (false = true) by decide)] at H; exact H
     clear H
     have H := H1
     clear H1
     obtain rfl := Option.some.inj H
     go_enter Tryz.func13, Tryz.ntmps13
     go_wp2_with (first | ((with_reducible refine gate_dst (N := 2) rfl ?_); refine box_event ?hg (N := 2) ?hd (cs := #[.int .i64 a0_0, .int .i64 a0_1, .string a0_2, .slice A0_3 l0_3.length c0_3, .slice A0_4 l0_4.length c0_4]) (t := 25) ?hr ?_; (case hd => rfl); (case hg => rfl); (case hr => first | (go_simp; done) | (go_simp; rfl)); intro gb180 hg w15 hbox hb; have n0_ := Aside0.mk (below_step (by repeat (first | (with_reducible first | exact HB.out | apply below_alloc | apply pw_below_drewN | apply below_drew1) | exact HB.out)) hb); have n1_ := Aside0.mk (hbox); have n2_ := Aside0.mk ((by rw [hg]; exact (below_size (by repeat (first | (with_reducible first | exact HB.out | apply below_alloc | apply pw_below_drewN | apply below_drew1) | exact HB.out))) : w.heap.size ≤ gb180)); have n3_ := Aside0.mk ((by rw [hg]; exact (below_size (by repeat (first | (with_reducible first | exact HB.out | apply below_alloc | apply pw_below_drewN | apply below_drew1) | exact HB.out))) : w.heap.size ≤ gb180)); clear HB; have HB := n0_; have BK180 := n1_; have GW180 := n2_; have GE180 := n3_; clear n0_ n1_ n2_ n3_; clear hb hbox hg) | ((with_reducible refine gate_dst (N := 3) rfl ?_); refine box_event ?hg (N := 3) ?hd (cs := #[.int .i64 a1_0, .int .i64 a1_1, .string a1_2, .slice A1_3 l1_3.length c1_3, .slice A1_4 l1_4.length c1_4]) (t := 25) ?hr ?_; (case hd => rfl); (case hg => rfl); (case hr => first | (go_simp; done) | (go_simp; rfl)); intro gb181 hg w16 hbox hb; have n0_ := Aside0.mk (blk_below (g := gb180) (o := .cells #[.int .i64 a0_0, .int .i64 a0_1, .string a0_2, .slice A0_3 l0_3.length c0_3, .slice A0_4 l0_4.length c0_4] 25 (0, 0)) (by (with_reducible repeat (first | refine blk_drewN ?_ _ | refine blk_drew ?_ | refine blk_alloc ?_ _)); exact BK180.out) hb); have n1_ := Aside0.mk (below_step (by repeat (first | (with_reducible first | exact HB.out | apply below_alloc | apply pw_below_drewN | apply below_drew1 | refine below_set ?_ GE180.out) | exact HB.out)) hb); have n2_ := Aside0.mk (hbox); have n3_ := Aside0.mk ((by rw [hg]; exact (below_size (by repeat (first | (with_reducible first | exact HB.out | apply below_alloc | apply pw_below_drewN | apply below_drew1 | refine below_set ?_ GE180.out) | exact HB.out))) : w.heap.size ≤ gb181)); have n4_ := Aside0.mk ((by rw [hg]; exact (below_size (by repeat (first | (with_reducible first | exact HB.out | apply below_alloc | apply pw_below_drewN | apply below_drew1 | refine below_set ?_ GE180.out) | exact HB.out))) : w.heap.size ≤ gb181)); have n5_ := Aside0.mk ((by rw [hg]; exact Nat.ne_of_lt (blk_lt (g := gb180) (o := .cells #[.int .i64 a0_0, .int .i64 a0_1, .string a0_2, .slice A0_3 l0_3.length c0_3, .slice A0_4 l0_4.length c0_4] 25 (0, 0)) (by (with_reducible repeat (first | refine blk_drewN ?_ _ | refine blk_drew ?_ | refine blk_alloc ?_ _)); exact BK180.out)) : gb180 ≠ gb181)); have n6_ := Aside0.mk ((by rw [hg]; exact Nat.ne_of_gt (blk_lt (g := gb180) (o := .cells #[.int .i64 a0_0, .int .i64 a0_1, .string a0_2, .slice A0_3 l0_3.length c0_3, .slice A0_4 l0_4.length c0_4] 25 (0, 0)) (by (with_reducible repeat (first | refine blk_drewN ?_ _ | refine blk_drew ?_ | refine blk_alloc ?_ _)); exact BK180.out)) : gb181 ≠ gb180)); clear BK180; clear HB; have BK180 := n0_; have HB := n1_; have BK181 := n2_; have GW181 := n3_; have GE181 := n4_; have NB180_181 := n5_; have NB181_180 := n6_; clear n0_ n1_ n2_ n3_ n4_ n5_ n6_; clear hb hbox hg; have hnb17 := NB180_181.out; have hnc17 := NB181_180.out; have hcz18_0 : w16.cell? ⟨gb180, 0, none⟩ = some (.int .i64 a0_0) := (blk_cell BK180.out 0).trans rfl; have hcz18_1 : w16.cell? ⟨gb180, 1, none⟩ = some (.int .i64 a0_1) := (blk_cell BK180.out 1).trans rfl; have hcz18_2 : w16.cell? ⟨gb180, 2, none⟩ = some (.string a0_2) := (blk_cell BK180.out 2).trans rfl; have hcz18_3 : w16.cell? ⟨gb180, 3, none⟩ = some (.slice A0_3 l0_3.length c0_3) := (blk_cell BK180.out 3).trans rfl; have hcz18_4 : w16.cell? ⟨gb180, 4, none⟩ = some (.slice A0_4 l0_4.length c0_4) := (blk_cell BK180.out 4).trans rfl; have hfz18_0 := blk_frozen BK180.out 0; have hfz18_1 := blk_frozen BK180.out 1; have hfz18_2 := blk_frozen BK180.out 2; have hfz18_3 := blk_frozen BK180.out 3; have hfz18_4 := blk_frozen BK180.out 4; have hcz19_0 : w16.cell? ⟨gb181, 0, none⟩ = some (.int .i64 a1_0) := (blk_cell BK181.out 0).trans rfl; have hcz19_1 : w16.cell? ⟨gb181, 1, none⟩ = some (.int .i64 a1_1) := (blk_cell BK181.out 1).trans rfl; have hcz19_2 : w16.cell? ⟨gb181, 2, none⟩ = some (.string a1_2) := (blk_cell BK181.out 2).trans rfl; have hcz19_3 : w16.cell? ⟨gb181, 3, none⟩ = some (.slice A1_3 l1_3.length c1_3) := (blk_cell BK181.out 3).trans rfl; have hcz19_4 : w16.cell? ⟨gb181, 4, none⟩ = some (.slice A1_4 l1_4.length c1_4) := (blk_cell BK181.out 4).trans rfl; have hfz19_0 := blk_frozen BK181.out 0; have hfz19_1 := blk_frozen BK181.out 1; have hfz19_2 := blk_frozen BK181.out 2; have hfz19_3 := blk_frozen BK181.out 3; have hfz19_4 := blk_frozen BK181.out 4) | (go_at_call 25; (with_reducible refine (slices_Equal_string_string.calls k _ _ l0_4 _ _ l1_4 false _ ?side1 ?side2 ?side3 ?side4 A6.out).mono ?_); (case side1 => repeat (first | exact (Kd.C_below HR0_4.out HB.out) | (with_reducible refine Kd.C_alloc ?_ _) | (with_reducible refine Kd.C_drewN ?_ _) | (with_reducible refine Kd.C_drew ?_))); (case side2 => exact HC0_4.out); (case side3 => repeat (first | exact (Kd.C_below HR1_4.out HB.out) | (with_reducible refine Kd.C_alloc ?_ _) | (with_reducible refine Kd.C_drewN ?_ _) | (with_reducible refine Kd.C_drew ?_))); (case side4 => exact HC1_4.out); rintro e w' ⟨rfl, ⟨nd, rfl⟩⟩))
     go_ret
     exact ⟨by first | rfl | (simp [errW_none, errW_some] <;> rfl) | (simp [*, errW_none, errW_some] <;> rfl), by repeat (first | (with_reducible first | exact HB.out | apply below_alloc | apply pw_below_drewN | apply below_drew1 | refine below_set ?_ GE180.out | refine below_set ?_ GE181.out) | exact HB.out)⟩
   ·rw [if_neg c5] at H
    have c5b0 : (a0_2.toList == a1_2.toList) = false := beq_eq_false_iff_ne.mpr c5
    have c5b1 : (a0_2.toList != a1_2.toList) = true := bne_iff_ne.mpr c5
    obtain rfl := Option.some.inj H
    go_enter Tryz.func13, Tryz.ntmps13
    go_wp2_with (first | ((with_reducible refine gate_dst (N := 2) rfl ?_); refine box_event ?hg (N := 2) ?hd (cs := #[.int .i64 a0_0, .int .i64 a0_1, .string a0_2, .slice A0_3 l0_3.length c0_3, .slice A0_4 l0_4.length c0_4]) (t := 25) ?hr ?_; (case hd => rfl); (case hg => rfl); (case hr => first | (go_simp; done) | (go_simp; rfl)); intro gb180 hg w20 hbox hb; have n0_ := Aside0.mk (below_step (by repeat (first | (with_reducible first | exact HB.out | apply below_alloc | apply pw_below_drewN | apply below_drew1) | exact HB.out)) hb); have n1_ := Aside0.mk (hbox); have n2_ := Aside0.mk ((by rw [hg]; exact (below_size (by repeat (first | (with_reducible first | exact HB.out | apply below_alloc | apply pw_below_drewN | apply below_drew1) | exact HB.out))) : w.heap.size ≤ gb180)); have n3_ := Aside0.mk ((by rw [hg]; exact (below_size (by repeat (first | (with_reducible first | exact HB.out | apply below_alloc | apply pw_below_drewN | apply below_drew1) | exact HB.out))) : w.heap.size ≤ gb180)); clear HB; have HB := n0_; have BK180 := n1_; have GW180 := n2_; have GE180 := n3_; clear n0_ n1_ n2_ n3_; clear hb hbox hg) | ((with_reducible refine gate_dst (N := 3) rfl ?_); refine box_event ?hg (N := 3) ?hd (cs := #[.int .i64 a1_0, .int .i64 a1_1, .string a1_2, .slice A1_3 l1_3.length c1_3, .slice A1_4 l1_4.length c1_4]) (t := 25) ?hr ?_; (case hd => rfl); (case hg => rfl); (case hr => first | (go_simp; done) | (go_simp; rfl)); intro gb181 hg w21 hbox hb; have n0_ := Aside0.mk (blk_below (g := gb180) (o := .cells #[.int .i64 a0_0, .int .i64 a0_1, .string a0_2, .slice A0_3 l0_3.length c0_3, .slice A0_4 l0_4.length c0_4] 25 (0, 0)) (by (with_reducible repeat (first | refine blk_drewN ?_ _ | refine blk_drew ?_ | refine blk_alloc ?_ _)); exact BK180.out) hb); have n1_ := Aside0.mk (below_step (by repeat (first | (with_reducible first | exact HB.out | apply below_alloc | apply pw_below_drewN | apply below_drew1 | refine below_set ?_ GE180.out) | exact HB.out)) hb); have n2_ := Aside0.mk (hbox); have n3_ := Aside0.mk ((by rw [hg]; exact (below_size (by repeat (first | (with_reducible first | exact HB.out | apply below_alloc | apply pw_below_drewN | apply below_drew1 | refine below_set ?_ GE180.out) | exact HB.out))) : w.heap.size ≤ gb181)); have n4_ := Aside0.mk ((by rw [hg]; exact (below_size (by repeat (first | (with_reducible first | exact HB.out | apply below_alloc | apply pw_below_drewN | apply below_drew1 | refine below_set ?_ GE180.out) | exact HB.out))) : w.heap.size ≤ gb181)); have n5_ := Aside0.mk ((by rw [hg]; exact Nat.ne_of_lt (blk_lt (g := gb180) (o := .cells #[.int .i64 a0_0, .int .i64 a0_1, .string a0_2, .slice A0_3 l0_3.length c0_3, .slice A0_4 l0_4.length c0_4] 25 (0, 0)) (by (with_reducible repeat (first | refine blk_drewN ?_ _ | refine blk_drew ?_ | refine blk_alloc ?_ _)); exact BK180.out)) : gb180 ≠ gb181)); have n6_ := Aside0.mk ((by rw [hg]; exact Nat.ne_of_gt (blk_lt (g := gb180) (o := .cells #[.int .i64 a0_0, .int .i64 a0_1, .string a0_2, .slice A0_3 l0_3.length c0_3, .slice A0_4 l0_4.length c0_4] 25 (0, 0)) (by (with_reducible repeat (first | refine blk_drewN ?_ _ | refine blk_drew ?_ | refine blk_alloc ?_ _)); exact BK180.out)) : gb181 ≠ gb180)); clear BK180; clear HB; have BK180 := n0_; have HB := n1_; have BK181 := n2_; have GW181 := n3_; have GE181 := n4_; have NB180_181 := n5_; have NB181_180 := n6_; clear n0_ n1_ n2_ n3_ n4_ n5_ n6_; clear hb hbox hg; have hnb22 := NB180_181.out; have hnc22 := NB181_180.out; have hcz23_0 : w21.cell? ⟨gb180, 0, none⟩ = some (.int .i64 a0_0) := (blk_cell BK180.out 0).trans rfl; have hcz23_1 : w21.cell? ⟨gb180, 1, none⟩ = some (.int .i64 a0_1) := (blk_cell BK180.out 1).trans rfl; have hcz23_2 : w21.cell? ⟨gb180, 2, none⟩ = some (.string a0_2) := (blk_cell BK180.out 2).trans rfl; have hcz23_3 : w21.cell? ⟨gb180, 3, none⟩ = some (.slice A0_3 l0_3.length c0_3) := (blk_cell BK180.out 3).trans rfl; have hcz23_4 : w21.cell? ⟨gb180, 4, none⟩ = some (.slice A0_4 l0_4.length c0_4) := (blk_cell BK180.out 4).trans rfl; have hfz23_0 := blk_frozen BK180.out 0; have hfz23_1 := blk_frozen BK180.out 1; have hfz23_2 := blk_frozen BK180.out 2; have hfz23_3 := blk_frozen BK180.out 3; have hfz23_4 := blk_frozen BK180.out 4; have hcz24_0 : w21.cell? ⟨gb181, 0, none⟩ = some (.int .i64 a1_0) := (blk_cell BK181.out 0).trans rfl; have hcz24_1 : w21.cell? ⟨gb181, 1, none⟩ = some (.int .i64 a1_1) := (blk_cell BK181.out 1).trans rfl; have hcz24_2 : w21.cell? ⟨gb181, 2, none⟩ = some (.string a1_2) := (blk_cell BK181.out 2).trans rfl; have hcz24_3 : w21.cell? ⟨gb181, 3, none⟩ = some (.slice A1_3 l1_3.length c1_3) := (blk_cell BK181.out 3).trans rfl; have hcz24_4 : w21.cell? ⟨gb181, 4, none⟩ = some (.slice A1_4 l1_4.length c1_4) := (blk_cell BK181.out 4).trans rfl; have hfz24_0 := blk_frozen BK181.out 0; have hfz24_1 := blk_frozen BK181.out 1; have hfz24_2 := blk_frozen BK181.out 2; have hfz24_3 := blk_frozen BK181.out 3; have hfz24_4 := blk_frozen BK181.out 4))
    go_ret
    exact ⟨by first | rfl | (simp [errW_none, errW_some] <;> rfl) | (simp [*, errW_none, errW_some] <;> rfl), by repeat (first | (with_reducible first | exact HB.out | apply below_alloc | apply pw_below_drewN | apply below_drew1 | refine below_set ?_ GE180.out | refine below_set ?_ GE181.out) | exact HB.out)⟩
  ·rw [if_neg c4] at H
   have c4b0 : (a0_1 == a1_1) = false := beq_eq_false_iff_ne.mpr c4
   have c4b1 : (a0_1 != a1_1) = true := bne_iff_ne.mpr c4
   obtain rfl := Option.some.inj H
   go_enter Tryz.func13, Tryz.ntmps13
   go_wp2_with (first | ((with_reducible refine gate_dst (N := 2) rfl ?_); refine box_event ?hg (N := 2) ?hd (cs := #[.int .i64 a0_0, .int .i64 a0_1, .string a0_2, .slice A0_3 l0_3.length c0_3, .slice A0_4 l0_4.length c0_4]) (t := 25) ?hr ?_; (case hd => rfl); (case hg => rfl); (case hr => first | (go_simp; done) | (go_simp; rfl)); intro gb180 hg w25 hbox hb; have n0_ := Aside0.mk (below_step (by repeat (first | (with_reducible first | exact HB.out | apply below_alloc | apply pw_below_drewN | apply below_drew1) | exact HB.out)) hb); have n1_ := Aside0.mk (hbox); have n2_ := Aside0.mk ((by rw [hg]; exact (below_size (by repeat (first | (with_reducible first | exact HB.out | apply below_alloc | apply pw_below_drewN | apply below_drew1) | exact HB.out))) : w.heap.size ≤ gb180)); have n3_ := Aside0.mk ((by rw [hg]; exact (below_size (by repeat (first | (with_reducible first | exact HB.out | apply below_alloc | apply pw_below_drewN | apply below_drew1) | exact HB.out))) : w.heap.size ≤ gb180)); clear HB; have HB := n0_; have BK180 := n1_; have GW180 := n2_; have GE180 := n3_; clear n0_ n1_ n2_ n3_; clear hb hbox hg) | ((with_reducible refine gate_dst (N := 3) rfl ?_); refine box_event ?hg (N := 3) ?hd (cs := #[.int .i64 a1_0, .int .i64 a1_1, .string a1_2, .slice A1_3 l1_3.length c1_3, .slice A1_4 l1_4.length c1_4]) (t := 25) ?hr ?_; (case hd => rfl); (case hg => rfl); (case hr => first | (go_simp; done) | (go_simp; rfl)); intro gb181 hg w26 hbox hb; have n0_ := Aside0.mk (blk_below (g := gb180) (o := .cells #[.int .i64 a0_0, .int .i64 a0_1, .string a0_2, .slice A0_3 l0_3.length c0_3, .slice A0_4 l0_4.length c0_4] 25 (0, 0)) (by (with_reducible repeat (first | refine blk_drewN ?_ _ | refine blk_drew ?_ | refine blk_alloc ?_ _)); exact BK180.out) hb); have n1_ := Aside0.mk (below_step (by repeat (first | (with_reducible first | exact HB.out | apply below_alloc | apply pw_below_drewN | apply below_drew1 | refine below_set ?_ GE180.out) | exact HB.out)) hb); have n2_ := Aside0.mk (hbox); have n3_ := Aside0.mk ((by rw [hg]; exact (below_size (by repeat (first | (with_reducible first | exact HB.out | apply below_alloc | apply pw_below_drewN | apply below_drew1 | refine below_set ?_ GE180.out) | exact HB.out))) : w.heap.size ≤ gb181)); have n4_ := Aside0.mk ((by rw [hg]; exact (below_size (by repeat (first | (with_reducible first | exact HB.out | apply below_alloc | apply pw_below_drewN | apply below_drew1 | refine below_set ?_ GE180.out) | exact HB.out))) : w.heap.size ≤ gb181)); have n5_ := Aside0.mk ((by rw [hg]; exact Nat.ne_of_lt (blk_lt (g := gb180) (o := .cells #[.int .i64 a0_0, .int .i64 a0_1, .string a0_2, .slice A0_3 l0_3.length c0_3, .slice A0_4 l0_4.length c0_4] 25 (0, 0)) (by (with_reducible repeat (first | refine blk_drewN ?_ _ | refine blk_drew ?_ | refine blk_alloc ?_ _)); exact BK180.out)) : gb180 ≠ gb181)); have n6_ := Aside0.mk ((by rw [hg]; exact Nat.ne_of_gt (blk_lt (g := gb180) (o := .cells #[.int .i64 a0_0, .int .i64 a0_1, .string a0_2, .slice A0_3 l0_3.length c0_3, .slice A0_4 l0_4.length c0_4] 25 (0, 0)) (by (with_reducible repeat (first | refine blk_drewN ?_ _ | refine blk_drew ?_ | refine blk_alloc ?_ _)); exact BK180.out)) : gb181 ≠ gb180)); clear BK180; clear HB; have BK180 := n0_; have HB := n1_; have BK181 := n2_; have GW181 := n3_; have GE181 := n4_; have NB180_181 := n5_; have NB181_180 := n6_; clear n0_ n1_ n2_ n3_ n4_ n5_ n6_; clear hb hbox hg; have hnb27 := NB180_181.out; have hnc27 := NB181_180.out; have hcz28_0 : w26.cell? ⟨gb180, 0, none⟩ = some (.int .i64 a0_0) := (blk_cell BK180.out 0).trans rfl; have hcz28_1 : w26.cell? ⟨gb180, 1, none⟩ = some (.int .i64 a0_1) := (blk_cell BK180.out 1).trans rfl; have hcz28_2 : w26.cell? ⟨gb180, 2, none⟩ = some (.string a0_2) := (blk_cell BK180.out 2).trans rfl; have hcz28_3 : w26.cell? ⟨gb180, 3, none⟩ = some (.slice A0_3 l0_3.length c0_3) := (blk_cell BK180.out 3).trans rfl; have hcz28_4 : w26.cell? ⟨gb180, 4, none⟩ = some (.slice A0_4 l0_4.length c0_4) := (blk_cell BK180.out 4).trans rfl; have hfz28_0 := blk_frozen BK180.out 0; have hfz28_1 := blk_frozen BK180.out 1; have hfz28_2 := blk_frozen BK180.out 2; have hfz28_3 := blk_frozen BK180.out 3; have hfz28_4 := blk_frozen BK180.out 4; have hcz29_0 : w26.cell? ⟨gb181, 0, none⟩ = some (.int .i64 a1_0) := (blk_cell BK181.out 0).trans rfl; have hcz29_1 : w26.cell? ⟨gb181, 1, none⟩ = some (.int .i64 a1_1) := (blk_cell BK181.out 1).trans rfl; have hcz29_2 : w26.cell? ⟨gb181, 2, none⟩ = some (.string a1_2) := (blk_cell BK181.out 2).trans rfl; have hcz29_3 : w26.cell? ⟨gb181, 3, none⟩ = some (.slice A1_3 l1_3.length c1_3) := (blk_cell BK181.out 3).trans rfl; have hcz29_4 : w26.cell? ⟨gb181, 4, none⟩ = some (.slice A1_4 l1_4.length c1_4) := (blk_cell BK181.out 4).trans rfl; have hfz29_0 := blk_frozen BK181.out 0; have hfz29_1 := blk_frozen BK181.out 1; have hfz29_2 := blk_frozen BK181.out 2; have hfz29_3 := blk_frozen BK181.out 3; have hfz29_4 := blk_frozen BK181.out 4))
   go_ret
   exact ⟨by first | rfl | (simp [errW_none, errW_some] <;> rfl) | (simp [*, errW_none, errW_some] <;> rfl), by repeat (first | (with_reducible first | exact HB.out | apply below_alloc | apply pw_below_drewN | apply below_drew1 | refine below_set ?_ GE180.out | refine below_set ?_ GE181.out) | exact HB.out)⟩
 ·rw [if_neg c3] at H
  have c3b0 : (a0_0 == a1_0) = false := beq_eq_false_iff_ne.mpr c3
  have c3b1 : (a0_0 != a1_0) = true := bne_iff_ne.mpr c3
  obtain rfl := Option.some.inj H
  go_enter Tryz.func13, Tryz.ntmps13
  go_wp2_with (first | ((with_reducible refine gate_dst (N := 2) rfl ?_); refine box_event ?hg (N := 2) ?hd (cs := #[.int .i64 a0_0, .int .i64 a0_1, .string a0_2, .slice A0_3 l0_3.length c0_3, .slice A0_4 l0_4.length c0_4]) (t := 25) ?hr ?_; (case hd => rfl); (case hg => rfl); (case hr => first | (go_simp; done) | (go_simp; rfl)); intro gb180 hg w30 hbox hb; have n0_ := Aside0.mk (below_step (by repeat (first | (with_reducible first | exact HB.out | apply below_alloc | apply pw_below_drewN | apply below_drew1) | exact HB.out)) hb); have n1_ := Aside0.mk (hbox); have n2_ := Aside0.mk ((by rw [hg]; exact (below_size (by repeat (first | (with_reducible first | exact HB.out | apply below_alloc | apply pw_below_drewN | apply below_drew1) | exact HB.out))) : w.heap.size ≤ gb180)); have n3_ := Aside0.mk ((by rw [hg]; exact (below_size (by repeat (first | (with_reducible first | exact HB.out | apply below_alloc | apply pw_below_drewN | apply below_drew1) | exact HB.out))) : w.heap.size ≤ gb180)); clear HB; have HB := n0_; have BK180 := n1_; have GW180 := n2_; have GE180 := n3_; clear n0_ n1_ n2_ n3_; clear hb hbox hg) | ((with_reducible refine gate_dst (N := 3) rfl ?_); refine box_event ?hg (N := 3) ?hd (cs := #[.int .i64 a1_0, .int .i64 a1_1, .string a1_2, .slice A1_3 l1_3.length c1_3, .slice A1_4 l1_4.length c1_4]) (t := 25) ?hr ?_; (case hd => rfl); (case hg => rfl); (case hr => first | (go_simp; done) | (go_simp; rfl)); intro gb181 hg w31 hbox hb; have n0_ := Aside0.mk (blk_below (g := gb180) (o := .cells #[.int .i64 a0_0, .int .i64 a0_1, .string a0_2, .slice A0_3 l0_3.length c0_3, .slice A0_4 l0_4.length c0_4] 25 (0, 0)) (by (with_reducible repeat (first | refine blk_drewN ?_ _ | refine blk_drew ?_ | refine blk_alloc ?_ _)); exact BK180.out) hb); have n1_ := Aside0.mk (below_step (by repeat (first | (with_reducible first | exact HB.out | apply below_alloc | apply pw_below_drewN | apply below_drew1 | refine below_set ?_ GE180.out) | exact HB.out)) hb); have n2_ := Aside0.mk (hbox); have n3_ := Aside0.mk ((by rw [hg]; exact (below_size (by repeat (first | (with_reducible first | exact HB.out | apply below_alloc | apply pw_below_drewN | apply below_drew1 | refine below_set ?_ GE180.out) | exact HB.out))) : w.heap.size ≤ gb181)); have n4_ := Aside0.mk ((by rw [hg]; exact (below_size (by repeat (first | (with_reducible first | exact HB.out | apply below_alloc | apply pw_below_drewN | apply below_drew1 | refine below_set ?_ GE180.out) | exact HB.out))) : w.heap.size ≤ gb181)); have n5_ := Aside0.mk ((by rw [hg]; exact Nat.ne_of_lt (blk_lt (g := gb180) (o := .cells #[.int .i64 a0_0, .int .i64 a0_1, .string a0_2, .slice A0_3 l0_3.length c0_3, .slice A0_4 l0_4.length c0_4] 25 (0, 0)) (by (with_reducible repeat (first | refine blk_drewN ?_ _ | refine blk_drew ?_ | refine blk_alloc ?_ _)); exact BK180.out)) : gb180 ≠ gb181)); have n6_ := Aside0.mk ((by rw [hg]; exact Nat.ne_of_gt (blk_lt (g := gb180) (o := .cells #[.int .i64 a0_0, .int .i64 a0_1, .string a0_2, .slice A0_3 l0_3.length c0_3, .slice A0_4 l0_4.length c0_4] 25 (0, 0)) (by (with_reducible repeat (first | refine blk_drewN ?_ _ | refine blk_drew ?_ | refine blk_alloc ?_ _)); exact BK180.out)) : gb181 ≠ gb180)); clear BK180; clear HB; have BK180 := n0_; have HB := n1_; have BK181 := n2_; have GW181 := n3_; have GE181 := n4_; have NB180_181 := n5_; have NB181_180 := n6_; clear n0_ n1_ n2_ n3_ n4_ n5_ n6_; clear hb hbox hg; have hnb32 := NB180_181.out; have hnc32 := NB181_180.out; have hcz33_0 : w31.cell? ⟨gb180, 0, none⟩ = some (.int .i64 a0_0) := (blk_cell BK180.out 0).trans rfl; have hcz33_1 : w31.cell? ⟨gb180, 1, none⟩ = some (.int .i64 a0_1) := (blk_cell BK180.out 1).trans rfl; have hcz33_2 : w31.cell? ⟨gb180, 2, none⟩ = some (.string a0_2) := (blk_cell BK180.out 2).trans rfl; have hcz33_3 : w31.cell? ⟨gb180, 3, none⟩ = some (.slice A0_3 l0_3.length c0_3) := (blk_cell BK180.out 3).trans rfl; have hcz33_4 : w31.cell? ⟨gb180, 4, none⟩ = some (.slice A0_4 l0_4.length c0_4) := (blk_cell BK180.out 4).trans rfl; have hfz33_0 := blk_frozen BK180.out 0; have hfz33_1 := blk_frozen BK180.out 1; have hfz33_2 := blk_frozen BK180.out 2; have hfz33_3 := blk_frozen BK180.out 3; have hfz33_4 := blk_frozen BK180.out 4; have hcz34_0 : w31.cell? ⟨gb181, 0, none⟩ = some (.int .i64 a1_0) := (blk_cell BK181.out 0).trans rfl; have hcz34_1 : w31.cell? ⟨gb181, 1, none⟩ = some (.int .i64 a1_1) := (blk_cell BK181.out 1).trans rfl; have hcz34_2 : w31.cell? ⟨gb181, 2, none⟩ = some (.string a1_2) := (blk_cell BK181.out 2).trans rfl; have hcz34_3 : w31.cell? ⟨gb181, 3, none⟩ = some (.slice A1_3 l1_3.length c1_3) := (blk_cell BK181.out 3).trans rfl; have hcz34_4 : w31.cell? ⟨gb181, 4, none⟩ = some (.slice A1_4 l1_4.length c1_4) := (blk_cell BK181.out 4).trans rfl; have hfz34_0 := blk_frozen BK181.out 0; have hfz34_1 := blk_frozen BK181.out 1; have hfz34_2 := blk_frozen BK181.out 2; have hfz34_3 := blk_frozen BK181.out 3; have hfz34_4 := blk_frozen BK181.out 4))
  go_ret
  exact ⟨by first | rfl | (simp [errW_none, errW_some] <;> rfl) | (simp [*, errW_none, errW_some] <;> rfl), by repeat (first | (with_reducible first | exact HB.out | apply below_alloc | apply pw_below_drewN | apply below_drew1 | refine below_set ?_ GE180.out | refine below_set ?_ GE181.out) | exact HB.out)⟩

end
end Go.Proofs.YtegppacnkfeaoaaGreatDoor.G

/- Nothing of this text is used here. -/

/- What value's Same and the reference's (as Lean functions) come to; and the function values' contracts for values of any size. -/
namespace Go.Proofs.YtegppacnkfeaoaaGreatDoor.G
open Go.RowKit Go.Gw Go.Proofs.YtegppacnkfeaoaaGreatDoorW.PrintWords
set_option linter.unusedVariables false
set_option linter.unusedSimpArgs false

theorem toList_iff {a b : ByteArray} : a.toList = b.toList ↔ a = b := by
  rw [Lib.toList_data, Lib.toList_data]
  exact ⟨str_ext, fun h => by rw [h]⟩
theorem tree_ext {a b : S25} (h0 : a.f0 = b.f0) (h1 : a.f1 = b.f1) (h2 : a.f2 = b.f2) (h3 : a.f3 = b.f3) (h4 : a.f4 = b.f4) : a = b := by
  cases a; cases b
  simp only at h0 h1 h2 h3 h4
  subst h0 h1 h2 h3 h4
  rfl
theorem len_mid' {α : Type} {l a b : List α} {x : α} (e : l = a ++ x :: b) (h : l.length ≤ 9223372036854775807) : (a.length : Int) < (l.length : Int) ∧ wrap64 ((a.length : Int) + 1) = ((a ++ [x]).length : Int) ∧ l = (a ++ [x]) ++ b := by
  have h1 : l.length = a.length + (b.length + 1) := by rw [e]; simp
  refine ⟨by omega, ?_, by rw [e]; simp⟩
  rw [w64 (by omega) (by omega)]
  simp
theorem cons_iff {α : Type} {x y : α} {a b : List α} : x :: a = y :: b ↔ x = y ∧ a = b := by simp

section
variable [Inhabited Bound]
theorem equal_loop (l m : List ByteArray) (hn : l.length = m.length) (hl : l.length ≤ 9223372036854775807) : ∀ (b a c d : List ByteArray), l = a ++ b → m = c ++ d → a.length = c.length →
    ∃ r : Bool, Ev (fun k => slices_Equal_string_string.l0 k l m (l.length : Int) (a.length : Int)) r ∧ (r = true ↔ b = d) := by
  intro b
  induction b with
  | nil =>
    intro a c d e1 e2 e3
    have hd : d = [] := by rw [e1, e2] at hn; simp at hn; exact List.length_eq_zero_iff.1 (by omega)
    subst hd
    refine ⟨true, Ev.step (f := fun _ => some true) (fun k => ?_) (Ev.now _), by simp⟩
    rw [slices_Equal_string_string.l0, if_neg (by rw [e1]; simp)]
  | cons x b ih =>
    intro a c d e1 e2 e3
    obtain ⟨y, d, rfl⟩ : ∃ y r, d = y :: r := by
      cases d with
      | nil => rw [e1, e2] at hn; simp at hn; omega
      | cons y r => exact ⟨y, r, rfl⟩
    obtain ⟨l1, l2, l3⟩ := len_mid' e1 hl
    have ex : rdOf ByteArray.empty l (a.length : Int) = x := by rw [e1]; exact rdOf_mid a x b
    have ey : rdOf ByteArray.empty m (a.length : Int) = y := by rw [e2, e3]; exact rdOf_mid c y d
    obtain ⟨r, hr, hs⟩ := ih (a ++ [x]) (c ++ [y]) d l3 (by rw [e2]; simp) (by simp [e3])
    have st : ∀ k, slices_Equal_string_string.l0 (k + 1) l m (l.length : Int) (a.length : Int) = if x.toList = y.toList then slices_Equal_string_string.l0 k l m (l.length : Int) ((a ++ [x]).length : Int) else some false := fun k => by
      rw [slices_Equal_string_string.l0, if_pos l1, if_pos (by omega), if_pos l1, if_pos (by omega), ex, ey, l2]
    by_cases h : x.toList = y.toList
    · exact ⟨r, Ev.step st (Ev.pos h hr), by rw [hs, cons_iff, toList_iff.1 h]; simp⟩
    · exact ⟨false, Ev.step st (Ev.neg h (Ev.now _)), by rw [cons_iff]; exact ⟨fun g => (Bool.noConfusion g), fun g => absurd (toList_iff.2 g.1) h⟩⟩
theorem equal_ev (l m : List ByteArray) (hl : l.length ≤ 9223372036854775807) : ∃ r : Bool, Ev (fun k => slices_Equal_string_string.f k l m) r ∧ (r = true ↔ l = m) := by
  by_cases h : (l.length : Int) = (m.length : Int)
  · obtain ⟨r, hr, hs⟩ := equal_loop l m (by omega) hl l [] [] m rfl rfl rfl
    exact ⟨r, Ev.congr (fun k => by rw [slices_Equal_string_string.f, if_pos h]; rfl) hr, hs⟩
  · exact ⟨false, Ev.some_ (fun k => by rw [slices_Equal_string_string.f, if_neg h]), ⟨fun g => (Bool.noConfusion g), fun g => absurd (by rw [g]) h⟩⟩
theorem same_ev (a b : S25) (hl : a.f4.length ≤ 9223372036854775807) (hb : ∀ x ∈ a.f3, SizeOf.sizeOf x < bnd) : Ev (fun k => value_Same.f k a.f0 a.f1 a.f2 a.f3 a.f4 b.f0 b.f1 b.f2 b.f3 b.f4) (sameT a b) := by
  obtain ⟨r, hr, hs⟩ := equal_ev a.f4 b.f4 hl
  have hq : api_Value.f a.f3 b.f3 13 = some (sameTs a.f3 b.f3) := by unfold api_Value.f; rw [if_pos rfl, if_pos hb]
  have no : a ≠ b → sameT a b = false := fun h => by rw [Bool.eq_false_iff, ne_eq, sameT_iff]; exact h
  refine Ev.step (f := fun k => if a.f0 = b.f0 then (if a.f1 = b.f1 then (if a.f2.toList = b.f2.toList then ((slices_Equal_string_string.f k a.f4 b.f4).bind fun t => if t = true then ((api_Value.f a.f3 b.f3 13).bind fun t => some t) else some false) else some false) else some false) else some false) (fun k => by rw [value_Same.f]) ?_
  by_cases h0 : a.f0 = b.f0
  · refine Ev.pos h0 ?_
    by_cases h1 : a.f1 = b.f1
    · refine Ev.pos h1 ?_
      by_cases h2 : a.f2.toList = b.f2.toList
      · refine Ev.pos h2 (Ev.bind (f := fun k t => if t = true then ((api_Value.f a.f3 b.f3 13).bind fun t => some t) else some false) hr ?_)
        by_cases h4 : r = true
        · refine Ev.pos h4 ?_
          rw [hq]
          refine Ev.to (Ev.now _) ?_
          rw [Bool.eq_iff_iff, sameTs_iff, sameT_iff]
          exact ⟨fun h3 => tree_ext h0 h1 (toList_iff.1 h2) h3 (hs.1 h4), fun h => by rw [h]⟩
        · exact Ev.neg h4 (Ev.to (Ev.now _) (no (fun h => h4 (hs.2 (by rw [h])))).symm)
      · exact Ev.neg h2 (Ev.to (Ev.now _) (no (fun h => h2 (by rw [h]))).symm)
    · exact Ev.neg h1 (Ev.to (Ev.now _) (no (fun h => h1 (by rw [h]))).symm)
  · exact Ev.neg h0 (Ev.to (Ev.now _) (no (fun h => h0 (by rw [h]))).symm)
end

/-! ### the reference's Same -/
/-! ### the function values, of values of any size -/
theorem gl_all (e : Bool) : ∀ (n : Nat) (w : World), @Gt ⟨⟨n, e⟩⟩ w → @Gl ⟨⟨n, e⟩⟩ w := by
  intro n
  induction n with
  | zero => exact fun w hw => @Gl.mk ⟨⟨0, e⟩⟩ w hw (fun x hx => absurd hx (Nat.not_lt_zero _)) (fun x hx => absurd hx (Nat.not_lt_zero _)) (fun x y hx => absurd hx (Nat.not_lt_zero _))
  | succ n ih =>
    have conv : ∀ w : World, @Gt ⟨⟨n + 1, e⟩⟩ w → @Gt ⟨⟨n, e⟩⟩ w := fun w h => @Gt.mk ⟨⟨n, e⟩⟩ w (@Gt.tab ⟨⟨n + 1, e⟩⟩ w h) (@Gt.errs ⟨⟨n + 1, e⟩⟩ w h)
    refine fun w hw => @Gl.mk ⟨⟨n + 1, e⟩⟩ w hw (fun x hx hm => ?_) (fun x hx hm => ?_) (fun x y hx => ?_)
    · intro A3 c3 A4 c4 w' hw' g3 l3 g4 l4
      obtain ⟨K, hK⟩ := @text_ev ⟨⟨n, e⟩⟩ x hm (fun y hy => Nat.lt_of_lt_of_le (size_mem hy) (Nat.le_of_lt_succ hx))
      exact @value_text.calls ⟨⟨n, e⟩⟩ K x.f0 x.f1 x.f2 A3 c3 x.f3 A4 c4 x.f4 (textT x) w' (ih w' (conv w' hw')) g3 l3 g4 l4 (hK K (Nat.le_refl _))
    · intro A3 c3 A4 c4 w' hw' g3 l3 g4 l4
      obtain ⟨K, hK⟩ := @row_ev ⟨⟨n, e⟩⟩ x hm (fun y hy => Nat.lt_of_lt_of_le (size_mem hy) (Nat.le_of_lt_succ hx))
      exact @value_row.calls ⟨⟨n, e⟩⟩ K x.f0 x.f1 x.f2 A3 c3 x.f3 A4 c4 x.f4 (rowT x) w' (ih w' (conv w' hw')) g3 l3 g4 l4 (hK K (Nat.le_refl _))
    · intro A3 c3 A4 c4 B3 d3 B4 d4 w' hw' g3 l3 g4 l4 p3 q3 p4 q4
      obtain ⟨K, hK⟩ := @same_ev ⟨⟨n, e⟩⟩ x y g4.2.1 (fun z hz => Nat.lt_of_lt_of_le (size_mem hz) (Nat.le_of_lt_succ hx))
      exact @value_Same.calls ⟨⟨n, e⟩⟩ K x.f0 x.f1 x.f2 A3 c3 x.f3 A4 c4 x.f4 y.f0 y.f1 y.f2 B3 d3 y.f3 B4 d4 y.f4 (sameT x y) w' (ih w' (conv w' hw')) g3 l3 g4 l4 p3 q3 p4 q4 (hK K (Nat.le_refl _))
end Go.Proofs.YtegppacnkfeaoaaGreatDoor.G

/- What the reference's Check and Same (as Lean functions) come to. No program's run. -/
namespace Go.Proofs.YtegppacnkfeaoaaGreatDoor.G
open Go.RowKit Go.Gw Go.Proofs.YtegppacnkfeaoaaGreatDoorW.PrintWords
set_option linter.unusedVariables false
set_option linter.unusedSimpArgs false

theorem keys_loop (v : S25) (hl : v.f4.length ≤ 140737488351232) : ∀ (d i : Nat), i ≤ v.f4.length → v.f4.length - i = d → (∀ j, j < i → riseAt v.f4 j) →
    ∃ r : Bool, Ev (fun k => bloomeryref11_keys.l0 k (v.f4.length : Int) (i : Int) v.f0 v.f1 v.f2 v.f3 v.f4) r ∧ (r = true ↔ ∀ j, j < v.f4.length → riseAt v.f4 j) := by
  intro d
  induction d with
  | zero =>
    intro i hi hd hr
    obtain rfl : i = v.f4.length := by omega
    refine ⟨true, Ev.step (f := fun _ => some true) (fun k => ?_) (Ev.now _), ⟨fun _ => hr, fun _ => rfl⟩⟩
    rw [bloomeryref11_keys.l0, if_neg (by omega)]
  | succ d ih =>
    intro i hi hd hr
    have hlt : i < v.f4.length := by omega
    have no : ∀ {g : Nat → Option Bool}, (∀ k, bloomeryref11_keys.l0 (k + 1) (v.f4.length : Int) (i : Int) v.f0 v.f1 v.f2 v.f3 v.f4 = g k) → Ev g false → ¬ riseAt v.f4 i → ∃ r : Bool, Ev (fun k => bloomeryref11_keys.l0 k (v.f4.length : Int) (i : Int) v.f0 v.f1 v.f2 v.f3 v.f4) r ∧ (r = true ↔ ∀ j, j < v.f4.length → riseAt v.f4 j) :=
      fun hs he h => ⟨false, Ev.step hs he, ⟨(fun h => by cases h), fun g => absurd (g i hlt) h⟩⟩
    have w1 : wrap64 ((i : Int) + 1) = ((i + 1 : Nat) : Int) := by unfold wrap64; omega
    have yes : ∀ {g : Nat → Option Bool}, (∀ k, bloomeryref11_keys.l0 (k + 1) (v.f4.length : Int) (i : Int) v.f0 v.f1 v.f2 v.f3 v.f4 = g k) → (∀ r, Ev (fun k => bloomeryref11_keys.l0 k (v.f4.length : Int) ((i + 1 : Nat) : Int) v.f0 v.f1 v.f2 v.f3 v.f4) r → Ev g r) → riseAt v.f4 i → ∃ r : Bool, Ev (fun k => bloomeryref11_keys.l0 k (v.f4.length : Int) (i : Int) v.f0 v.f1 v.f2 v.f3 v.f4) r ∧ (r = true ↔ ∀ j, j < v.f4.length → riseAt v.f4 j) := by
      intro g hs he h
      obtain ⟨r, hr1, hr2⟩ := ih (i + 1) (by omega) (by omega) (fun j hj => by
        rcases Nat.lt_or_ge j i with h1 | h1
        · exact hr j h1
        · obtain rfl : j = i := by omega
          exact h)
      exact ⟨r, Ev.step hs (he r hr1), hr2⟩
    by_cases h1 : ((v.f4.getD i ByteArray.empty).size : Int) > 65536
    · refine no (g := fun _ => some false) (fun k => ?_) (Ev.now _) (fun h => by have := h.1; omega)
      rw [bloomeryref11_keys.l0, if_pos (by omega), if_pos (by omega), if_pos (by omega), rd_get, if_pos h1]
    · by_cases h2 : (i : Int) > 0
      · have w2 : wrap64 ((i : Int) - 1) = ((i - 1 : Nat) : Int) := by unfold wrap64; omega
        by_cases h3 : Op.bytesLess (v.f4.getD (i - 1) ByteArray.empty).toList (v.f4.getD i ByteArray.empty).toList = true
        · refine yes (g := fun k => bloomeryref11_keys.l0 k (v.f4.length : Int) ((i + 1 : Nat) : Int) v.f0 v.f1 v.f2 v.f3 v.f4) (fun k => ?_) (fun r h => h) ⟨by omega, fun _ => h3⟩
          rw [bloomeryref11_keys.l0, if_pos (by omega), if_pos (by omega), if_pos (by omega), rd_get, if_neg h1, if_pos h2, w2, if_pos (by omega), if_pos (by omega), rd_get, if_pos h3, w1]
        · refine no (g := fun _ => some false) (fun k => ?_) (Ev.now _) (fun h => h3 (h.2 (by omega)))
          rw [bloomeryref11_keys.l0, if_pos (by omega), if_pos (by omega), if_pos (by omega), rd_get, if_neg h1, if_pos h2, w2, if_pos (by omega), if_pos (by omega), rd_get, if_neg h3]
      · refine yes (g := fun k => bloomeryref11_keys.l0 k (v.f4.length : Int) ((i + 1 : Nat) : Int) v.f0 v.f1 v.f2 v.f3 v.f4) (fun k => ?_) (fun r h => h) ⟨by omega, fun h => by omega⟩
        rw [bloomeryref11_keys.l0, if_pos (by omega), if_pos (by omega), if_pos (by omega), rd_get, if_neg h1, if_neg h2, w1]
theorem keys_ev (v : S25) (hl : v.f4.length ≤ 140737488351232) : ∃ r : Bool, Ev (fun k => bloomeryref11_keys.f k v.f0 v.f1 v.f2 v.f3 v.f4) r ∧ (r = true ↔ v.f4.length = v.f3.length ∧ ∀ j, j < v.f4.length → riseAt v.f4 j) := by
  by_cases h : (v.f4.length : Int) = (v.f3.length : Int)
  · obtain ⟨r, hr, hs⟩ := keys_loop v hl v.f4.length 0 (by omega) (by omega) (fun j hj => by omega)
    exact ⟨r, Ev.congr (fun k => by rw [bloomeryref11_keys.f, if_pos h]; rfl) hr, hs.trans ⟨fun g => ⟨by omega, g⟩, fun g => g.2⟩⟩
  · exact ⟨false, Ev.some_ (fun k => by rw [bloomeryref11_keys.f, if_neg h]), ⟨fun g => (Bool.noConfusion g), fun g => absurd (by have := g.1; omega) h⟩⟩
theorem node_ev (v : S25) (hl : v.f4.length ≤ 140737488351232) : Ev (fun k => bloomeryref11_node.f k v.f0 v.f1 v.f2 v.f3 v.f4) (nodeB v) := by
  obtain ⟨kb, ⟨K, hK⟩, hkb⟩ := keys_ev v hl
  refine ⟨K, fun k hk => ?_⟩
  have hk' := hK k hk
  obtain ⟨kd, n, s, l, ks⟩ := v
  simp only at hk' hkb ⊢
  have fin : ∀ {b : Bool}, (b = true ↔ nodeP ⟨kd, n, s, l, ks⟩) → some b = some (nodeB ⟨kd, n, s, l, ks⟩) := fun h => by
    congr 1
    rw [Bool.eq_iff_iff, nodeB_iff]
    exact h
  have no : ¬ nodeP ⟨kd, n, s, l, ks⟩ → some false = some (nodeB ⟨kd, n, s, l, ks⟩) := fun h => fin ⟨fun g => (Bool.noConfusion g), fun g => absurd g h⟩
  unfold bloomeryref11_node.f
  by_cases k0 : kd = 0
  · subst k0
    rw [if_pos rfl]
    by_cases hn : n = 0
    · subst hn
      rw [if_pos rfl]
      by_cases hs : s.toList = []
      · rw [if_pos hs]
        by_cases hl : (l.length : Int) = 0
        · rw [if_pos hl]
          exact fin (by rw [node0, beq_iff_eq]; have := size_nil.1 hs; omega)
        · rw [if_neg hl]; exact no (by rw [node0]; omega)
      · rw [if_neg hs]; exact no (fun h => hs (size_nil.2 (node0.1 h).1))
    · rw [if_neg hn]; exact no (nodeN (by decide) (by decide) hn)
  rw [if_neg k0]
  by_cases k1 : kd = 1
  · subst k1
    rw [if_pos rfl]
    have leaf : (n = 0 ∨ n = 1) → (if s.toList = [] then (if (l.length : Int) = 0 then some ((ks.length : Int) == 0) else some false) else some false) = some (nodeB ⟨1, n, s, l, ks⟩) := by
      intro hn
      by_cases hs : s.toList = []
      · rw [if_pos hs]
        by_cases hl : (l.length : Int) = 0
        · rw [if_pos hl]
          exact fin (by rw [node1, beq_iff_eq]; have := size_nil.1 hs; omega)
        · rw [if_neg hl]; exact no (by rw [node1]; omega)
      · rw [if_neg hs]; exact no (fun h => hs (size_nil.2 (node1.1 h).2.1))
    by_cases hn : n = 0
    · rw [if_pos hn]; exact leaf (.inl hn)
    · rw [if_neg hn]
      by_cases hn1 : n = 1
      · rw [if_pos hn1]; exact leaf (.inr hn1)
      · rw [if_neg hn1]; exact no (by rw [node1]; omega)
  rw [if_neg k1]
  by_cases k2 : kd = 2
  · subst k2
    rw [if_pos rfl]
    by_cases hs : s.toList = []
    · rw [if_pos hs]
      by_cases hl : (l.length : Int) = 0
      · rw [if_pos hl]
        exact fin (by rw [node2, beq_iff_eq]; have := size_nil.1 hs; omega)
      · rw [if_neg hl]; exact no (by rw [node2]; omega)
    · rw [if_neg hs]; exact no (fun h => hs (size_nil.2 (node2.1 h).1))
  rw [if_neg k2]
  by_cases k3 : kd = 3
  · subst k3
    rw [if_pos rfl]
    by_cases hn : n = 0
    · subst hn
      rw [if_pos rfl]
      by_cases hs : (s.size : Int) ≤ 65536
      · rw [if_pos hs]
        by_cases hl : (l.length : Int) = 0
        · rw [if_pos hl]
          exact fin (by rw [node3, beq_iff_eq]; omega)
        · rw [if_neg hl]; exact no (by rw [node3]; omega)
      · rw [if_neg hs]; exact no (by rw [node3]; omega)
    · rw [if_neg hn]; exact no (nodeN (by decide) (by decide) hn)
  rw [if_neg k3]
  by_cases k4 : kd = 4
  · subst k4
    rw [if_pos rfl]
    by_cases hn : n = 0
    · subst hn
      rw [if_pos rfl]
      by_cases hs : s.toList = []
      · rw [if_pos hs]
        by_cases hl : (l.length : Int) ≤ 1000
        · rw [if_pos hl]
          exact fin (by rw [node4, beq_iff_eq]; have := size_nil.1 hs; omega)
        · rw [if_neg hl]; exact no (by rw [node4]; omega)
      · rw [if_neg hs]; exact no (fun h => hs (size_nil.2 (node4.1 h).1))
    · rw [if_neg hn]; exact no (nodeN (by decide) (by decide) hn)
  rw [if_neg k4]
  by_cases k5 : kd = 5
  · subst k5
    rw [if_pos rfl]
    by_cases hn : n = 0
    · subst hn
      rw [if_pos rfl]
      by_cases hs : s.toList = []
      · rw [if_pos hs]
        by_cases hl : (l.length : Int) ≤ 1000
        · rw [if_pos hl, hk']
          refine fin ?_
          rw [node5, hkb]
          have hz := size_nil.1 hs
          exact ⟨fun g => ⟨hz, g.1.symm, by have := g.1; omega, g.2⟩, fun g => ⟨g.2.1.symm, g.2.2.2⟩⟩
        · rw [if_neg hl]; exact no (fun h => by have q := node5.1 h; have := q.2.2.1; omega)
      · rw [if_neg hs]; exact no (fun h => hs (size_nil.2 (node5.1 h).1))
    · rw [if_neg hn]; exact no (nodeN (by decide) (by decide) hn)
  rw [if_neg k5]
  exact no (fun h => by simp only [nodeP] at h; omega)

def NodesOK (x : S25) : Prop := ∃ r : Bool, Ev (fun k => bloomeryref11_nodes.f k x.f0 x.f1 x.f2 x.f3 x.f4) r ∧ (r = true ↔ AllV nodeP x)
theorem nodes_loop (v : S25) (hv : okN v) (hc : ∀ x ∈ v.f3, NodesOK x) : ∀ (b a : List S25), v.f3 = a ++ b → (∀ x ∈ a, AllV nodeP x) →
    ∃ r : Bool, Ev (fun k => bloomeryref11_nodes.l0 k (v.f3.length : Int) (a.length : Int) v.f0 v.f1 v.f2 v.f3 v.f4) r ∧ (r = true ↔ AllV nodeP v) := by
  intro b
  induction b with
  | nil =>
    intro a e ha
    have hn := node_ev v hv.2.2.2.2.1
    refine ⟨nodeB v, Ev.step (f := fun k => (bloomeryref11_node.f k v.f0 v.f1 v.f2 v.f3 v.f4).bind fun t => some t) (fun k => ?_) (Ev.bind (f := fun k t => some t) hn (Ev.now _)), ?_⟩
    · rw [bloomeryref11_nodes.l0, if_neg (by rw [e]; simp)]
    · rw [nodeB_iff]
      exact ⟨fun h => ⟨v, h, fun x hx => ha x (by rw [e] at hx; simpa using hx)⟩, fun h => h.here⟩
  | cons x b ih =>
    intro a e ha
    obtain ⟨h1, h2, h3⟩ := len_mid e hv.2.2.2.1
    have er : rd_T25 v.f3 (a.length : Int) = x := by rw [e]; exact rd_mid a x b
    have hx : x ∈ v.f3 := by rw [e]; simp
    obtain ⟨t, ht, hb⟩ := hc x hx
    have st : ∀ k, bloomeryref11_nodes.l0 (k + 1) (v.f3.length : Int) (a.length : Int) v.f0 v.f1 v.f2 v.f3 v.f4 = (bloomeryref11_nodes.f k x.f0 x.f1 x.f2 x.f3 x.f4).bind fun t => if t = true then bloomeryref11_nodes.l0 k (v.f3.length : Int) ((a ++ [x]).length : Int) v.f0 v.f1 v.f2 v.f3 v.f4 else some false := fun k => by
      rw [bloomeryref11_nodes.l0, if_pos h1, if_pos (by omega), if_pos h1, er, h2]
    cases t with
    | true =>
      obtain ⟨r, hr, hs⟩ := ih (a ++ [x]) h3 (fun y hy => by
        rcases List.mem_append.1 hy with hy | hy
        · exact ha y hy
        · rw [List.mem_singleton.1 hy]; exact hb.1 rfl)
      exact ⟨r, Ev.step st (Ev.bind (f := fun k t => if t = true then bloomeryref11_nodes.l0 k (v.f3.length : Int) ((a ++ [x]).length : Int) v.f0 v.f1 v.f2 v.f3 v.f4 else some false) ht (Ev.pos rfl hr)), hs⟩
    | false =>
      refine ⟨false, Ev.step st (Ev.bind (f := fun k t => if t = true then bloomeryref11_nodes.l0 k (v.f3.length : Int) ((a ++ [x]).length : Int) v.f0 v.f1 v.f2 v.f3 v.f4 else some false) ht (Ev.neg (by decide) (Ev.now _))), ⟨(fun h => by cases h), fun h => ?_⟩⟩
      have := hb.2 (h.kid hx)
      cases this
theorem nodes_ev : ∀ v : S25, AllV okN v → NodesOK v := by
  refine tree_ind (P := fun v => AllV okN v → NodesOK v) ?_
  intro v ih hv
  obtain ⟨r, hr, hs⟩ := nodes_loop v hv.here (fun x hx => ih x hx (hv.kid hx)) v.f3 [] rfl (fun x hx => by cases hx)
  exact ⟨r, Ev.step (fun k => by rw [bloomeryref11_nodes.f]; rfl) hr, hs⟩
theorem rcheck_ev (v : S25) (hv : AllV okN v) : Ev (fun k => bloomeryref11_Check.f k v.f0 v.f1 v.f2 v.f3 v.f4) (checkT v) := by
  obtain ⟨m, hm, m1, m2, m3, m4⟩ := many_ev v hv 20000 (by omega) (by omega)
  obtain ⟨d, hd, d1, d2, d3⟩ := deep_ev v hv 60 (by omega) (by omega)
  obtain ⟨b, hb, hn⟩ := nodes_ev v hv
  unfold bloomeryref11_Check.f
  have no : ¬ checkP v → checkT v = false := fun h => by rw [Bool.eq_false_iff, ne_eq, checkT_iff]; exact h
  refine Ev.bind (f := fun k t => if t ≤ 20000 then (bloomeryref11_deep.f k v.f0 v.f1 v.f2 v.f3 v.f4 60).bind fun t => if t ≤ 60 then (bloomeryref11_nodes.f k v.f0 v.f1 v.f2 v.f3 v.f4).bind fun t => some t else some false else some false) hm ?_
  by_cases h1 : m ≤ 20000
  · refine Ev.pos h1 (Ev.bind (f := fun k t => if t ≤ 60 then (bloomeryref11_nodes.f k v.f0 v.f1 v.f2 v.f3 v.f4).bind fun t => some t else some false) hd ?_)
    by_cases h2 : d ≤ 60
    · refine Ev.pos h2 (Ev.bind (f := fun k t => some t) hb (Ev.to (Ev.now b) ?_))
      rw [Bool.eq_iff_iff, checkT_iff, hn]
      have := m3.1 h1
      have := d3.1 h2
      exact ⟨fun h => ⟨by omega, by omega, h⟩, fun h => h.2.2⟩
    · exact Ev.neg h2 (Ev.to (Ev.now _) (no (fun h => h2 (d3.2 (by have := h.2.1; omega)))).symm)
  · exact Ev.neg h1 (Ev.to (Ev.now _) (no (fun h => h1 (m3.2 (by have := h.1; omega)))).symm)
end Go.Proofs.YtegppacnkfeaoaaGreatDoor.G

/- Go functions as Lean functions, each with its contract: written by a program of mine over the kit's print. Conditions: each contract's own. -/
namespace Go.Proofs.YtegppacnkfeaoaaGreatDoor.G
open Go.RowKit Go.Proofs.YtegppacnkfeaoaaGreatDoorW.PrintWords Go.Proofs.YtegppacnkfeaoaaGreatDoorW.PrintLast Go.Proofs.YtegppacnkfeaoaaGreatDoorW.PrintMore
attribute [local go_sem] max2_int min2_int max_two min_two max_three min_three max_four min_four   -- for this text's walks alone
set_option linter.unusedVariables false
set_option linter.unusedSimpArgs false
noncomputable section
variable [Inhabited Bound]

/-! ### bloomerylaw11_ValuePrints: function 3 -/
def bloomerylaw11_ValuePrints.f (k : Nat) (a0_0 : Int) (a0_1 : Int) (a0_2 : ByteArray) (l0_3 : List (S25)) (l0_4 : List ByteArray) : Option (Bool) := (bloomeryref11_Great.f k a0_0 a0_1 a0_2 l0_3 l0_4).bind fun t166 => (if t166 = true then ((bloomerylaw11_fixed.f k).bind fun t167 => (some t167)) else ((value_Print.f k a0_0 a0_1 a0_2 l0_3 l0_4).bind fun t168 => ((bloomeryref11_Print.f k a0_0 a0_1 a0_2 l0_3 l0_4).bind fun t169 => (if t168.toList = t169.toList then ((bloomerylaw11_fixed.f k).bind fun t170 => (some t170)) else (some false)))))
def bloomerylaw11_ValuePrints.T3 : Bool × List (List Nat × List Nat) := (true, [([], []), ([0], [0]), ([], []), ([2, 1], [2]), ([1, 3], [1, 3]), ([4, 3], [4]), ([5, 5], [5]), ([5, 6], [5, 6]), ([7, 6, 0, 1, 2, 3, 4, 5, 6, 7], [7])])
def bloomerylaw11_ValuePrints.B3 : List Nat := [0, 1, 0, 7, 15, 31, 63, 127, 255]
theorem bloomerylaw11_ValuePrints.tab3 : rtab .any (opsOf Tryz.f3 3) = bloomerylaw11_ValuePrints.T3 := by kernel_rfl
theorem bloomerylaw11_ValuePrints.bits3 : waitsOk bloomerylaw11_ValuePrints.T3.2 bloomerylaw11_ValuePrints.B3 = true := by kernel_rfl
set_option maxHeartbeats 8000000 in
set_option maxRecDepth 100000 in
theorem bloomerylaw11_ValuePrints.calls (k : Nat) (a0_0 : Int) (a0_1 : Int) (a0_2 : ByteArray) (A0_3 : Option Addr) (c0_3 : Nat) (l0_3 : List (S25)) (A0_4 : Option Addr) (c0_4 : Nat) (l0_4 : List ByteArray) (r : Bool) (w : World) (hgl : Gl w) (hr0_3 : Kd.C k25 w A0_3 l0_3.length l0_3) (hc0_3 : l0_3.length ≤ c0_3) (hr0_4 : Kd.C Kd.string w A0_4 l0_4.length l0_4) (hc0_4 : l0_4.length ≤ c0_4) (h : bloomerylaw11_ValuePrints.f k a0_0 a0_1 a0_2 l0_3 l0_4 = some r) :
  Calls Tryz.prog 3 #[.agg #[.int .i64 a0_0, .int .i64 a0_1, .string a0_2, .slice A0_3 l0_3.length c0_3, .slice A0_4 l0_4.length c0_4]] w fun e w' => e = .returned (.bool r) ∧ Below w.heap.size w w' := by
 have HGL := Aside0.mk hgl
 clear hgl
 have hu25 := Tryz.underlying25
 have HR0_3 := Aside0.mk hr0_3
 have HC0_3 := Aside0.mk hc0_3
 clear hr0_3 hc0_3
 have HR0_4 := Aside0.mk hr0_4
 have HC0_4 := Aside0.mk hc0_4
 clear hr0_4 hc0_4
 have HB := Aside0.mk (Below.refl w.heap.size w)
 have H : ((bloomeryref11_Great.f k a0_0 a0_1 a0_2 l0_3 l0_4).bind fun t166 => (if t166 = true then ((bloomerylaw11_fixed.f k).bind fun t167 => (some t167)) else ((value_Print.f k a0_0 a0_1 a0_2 l0_3 l0_4).bind fun t168 => ((bloomeryref11_Print.f k a0_0 a0_1 a0_2 l0_3 l0_4).bind fun t169 => (if t168.toList = t169.toList then ((bloomerylaw11_fixed.f k).bind fun t170 => (some t170)) else (some false)))))) = some r := h
 clear h
 replace H := Option.bind_eq_some_iff.mp H
 obtain ⟨t166, A20, H⟩ := H
 replace H : (if t166 = true then ((bloomerylaw11_fixed.f k).bind fun t167 => (some t167)) else ((value_Print.f k a0_0 a0_1 a0_2 l0_3 l0_4).bind fun t168 => ((bloomeryref11_Print.f k a0_0 a0_1 a0_2 l0_3 l0_4).bind fun t169 => (if t168.toList = t169.toList then ((bloomerylaw11_fixed.f k).bind fun t170 => (some t170)) else (some false))))) = some r := H
 have A2 := Aside0.mk A20
 clear A20
 by_cases c3 : t166 = true
 ·subst c3
  have H1 : ((bloomerylaw11_fixed.f k).bind fun t167 => (some t167)) = some r := by rw [if_pos rfl] at H; exact H
  clear H
  have H := H1
  clear H1
  replace H := Option.bind_eq_some_iff.mp H
  obtain ⟨t167, A40, H⟩ := H
  replace H : (some t167) = some r := H
  have A4 := Aside0.mk A40
  clear A40
  obtain rfl := Option.some.inj H
  go_enter Tryz.func3, Tryz.ntmps3
  go_wp2_with (first | ((with_reducible refine gate_dst (N := 1) rfl ?_); refine box_event ?hg (N := 1) ?hd (cs := #[.int .i64 a0_0, .int .i64 a0_1, .string a0_2, .slice A0_3 l0_3.length c0_3, .slice A0_4 l0_4.length c0_4]) (t := 25) ?hr ?_; (case hd => rfl); (case hg => rfl); (case hr => first | (go_simp; done) | (go_simp; rfl)); intro gb165 hg w5 hbox hb; have n0_ := Aside0.mk (below_step (by repeat (first | (with_reducible first | exact HB.out | apply below_alloc | apply pw_below_drewN | apply below_drew1) | exact HB.out)) hb); have n1_ := Aside0.mk (hbox); have n2_ := Aside0.mk ((by rw [hg]; exact (below_size (by repeat (first | (with_reducible first | exact HB.out | apply below_alloc | apply pw_below_drewN | apply below_drew1) | exact HB.out))) : w.heap.size ≤ gb165)); have n3_ := Aside0.mk ((by rw [hg]; exact (below_size (by repeat (first | (with_reducible first | exact HB.out | apply below_alloc | apply pw_below_drewN | apply below_drew1) | exact HB.out))) : w.heap.size ≤ gb165)); clear HB; have HB := n0_; have BK165 := n1_; have GW165 := n2_; have GE165 := n3_; clear n0_ n1_ n2_ n3_; clear hb hbox hg; have hcz6_0 : w5.cell? ⟨gb165, 0, none⟩ = some (.int .i64 a0_0) := (blk_cell BK165.out 0).trans rfl; have hcz6_1 : w5.cell? ⟨gb165, 1, none⟩ = some (.int .i64 a0_1) := (blk_cell BK165.out 1).trans rfl; have hcz6_2 : w5.cell? ⟨gb165, 2, none⟩ = some (.string a0_2) := (blk_cell BK165.out 2).trans rfl; have hcz6_3 : w5.cell? ⟨gb165, 3, none⟩ = some (.slice A0_3 l0_3.length c0_3) := (blk_cell BK165.out 3).trans rfl; have hcz6_4 : w5.cell? ⟨gb165, 4, none⟩ = some (.slice A0_4 l0_4.length c0_4) := (blk_cell BK165.out 4).trans rfl; have hfz6_0 := blk_frozen BK165.out 0; have hfz6_1 := blk_frozen BK165.out 1; have hfz6_2 := blk_frozen BK165.out 2; have hfz6_3 := blk_frozen BK165.out 3; have hfz6_4 := blk_frozen BK165.out 4) | ((with_reducible refine gate_callee (f := 8) rfl ?_); refine goesL_ (some 4) rfl rfl Tryz.func8 (by kernel_rfl) rfl #[.agg #[.int .i64 a0_0, .int .i64 a0_1, .string a0_2, .slice A0_3 l0_3.length c0_3, .slice A0_4 l0_4.length c0_4]] rfl (by (try simp only [List.map_toArray, List.map_cons, List.map_nil]); first | done | rfl | (simp only [List.length_drop, List.length_take]; rfl)) ?_; (with_reducible refine (bloomeryref11_Great.calls k a0_0 a0_1 a0_2 _ _ l0_3 _ _ l0_4 true _ ?side1 ?side2 ?side3 ?side4 A2.out).mono ?_); (case side1 => repeat (first | exact (Kd.C_below HR0_3.out HB.out) | (with_reducible refine Kd.C_alloc ?_ _) | (with_reducible refine Kd.C_drewN ?_ _) | (with_reducible refine Kd.C_drew ?_))); (case side2 => exact HC0_3.out); (case side3 => repeat (first | exact (Kd.C_below HR0_4.out HB.out) | (with_reducible refine Kd.C_alloc ?_ _) | (with_reducible refine Kd.C_drewN ?_ _) | (with_reducible refine Kd.C_drew ?_))); (case side4 => exact HC0_4.out); rintro e w7 ⟨rfl, hb⟩; refine ⟨_, rfl, ?_⟩; have n0_ := Aside0.mk (blk_below (g := gb165) (o := .cells #[.int .i64 a0_0, .int .i64 a0_1, .string a0_2, .slice A0_3 l0_3.length c0_3, .slice A0_4 l0_4.length c0_4] 25 (0, 0)) (by (with_reducible repeat (first | refine blk_drewN ?_ _ | refine blk_drew ?_ | refine blk_alloc ?_ _)); exact BK165.out) hb); have n1_ := Aside0.mk (below_step (by repeat (first | (with_reducible first | exact HB.out | apply below_alloc | apply pw_below_drewN | apply below_drew1 | refine below_set ?_ GE165.out) | exact HB.out)) hb); clear BK165; clear HB; have BK165 := n0_; have HB := n1_; clear n0_ n1_; (try clear hb); (try clear hb2); (try clear hk); (try clear hi)) | ((with_reducible refine gate_callee (f := 9) rfl ?_); refine goesL_ (some 5) rfl rfl Tryz.func9 (by kernel_rfl) rfl #[] rfl (by (try simp only [List.map_toArray, List.map_cons, List.map_nil]); first | done | rfl | (simp only [List.length_drop, List.length_take]; rfl)) ?_; (with_reducible refine (bloomerylaw11_fixed.calls k  t167 _ ?side1 A4.out).mono ?_); (case side1 => exact Gl.below HGL.out (by repeat (first | (with_reducible first | exact HB.out | apply below_alloc | apply pw_below_drewN | apply below_drew1 | refine below_set ?_ GE165.out) | exact HB.out))); rintro e w8 ⟨rfl, hb⟩; refine ⟨_, rfl, ?_⟩; have n0_ := Aside0.mk (blk_below (g := gb165) (o := .cells #[.int .i64 a0_0, .int .i64 a0_1, .string a0_2, .slice A0_3 l0_3.length c0_3, .slice A0_4 l0_4.length c0_4] 25 (0, 0)) (by (with_reducible repeat (first | refine blk_drewN ?_ _ | refine blk_drew ?_ | refine blk_alloc ?_ _)); exact BK165.out) hb); have n1_ := Aside0.mk (below_step (by repeat (first | (with_reducible first | exact HB.out | apply below_alloc | apply pw_below_drewN | apply below_drew1 | refine below_set ?_ GE165.out) | exact HB.out)) hb); clear BK165; clear HB; have BK165 := n0_; have HB := n1_; clear n0_ n1_; (try clear hb); (try clear hb2); (try clear hk); (try clear hi)))
  go_ret
  exact ⟨by first | rfl | (simp [errW_none, errW_some] <;> rfl) | (simp [*, errW_none, errW_some] <;> rfl), by repeat (first | (with_reducible first | exact HB.out | apply below_alloc | apply pw_below_drewN | apply below_drew1 | refine below_set ?_ GE165.out) | exact HB.out)⟩
 ·replace c3 := Bool.eq_false_iff.mpr c3
  subst c3
  have H1 : ((value_Print.f k a0_0 a0_1 a0_2 l0_3 l0_4).bind fun t168 => ((bloomeryref11_Print.f k a0_0 a0_1 a0_2 l0_3 l0_4).bind fun t169 => (if t168.toList = t169.toList then ((bloomerylaw11_fixed.f k).bind fun t170 => (some t170)) else (some false)))) = some r := by rw [if_neg (show ¬ (false = true) by decide)] at H; exact H
  clear H
  have H := H1
  clear H1
  replace H := Option.bind_eq_some_iff.mp H
  obtain ⟨t168, A90, H⟩ := H
  replace H : ((bloomeryref11_Print.f k a0_0 a0_1 a0_2 l0_3 l0_4).bind fun t169 => (if t168.toList = t169.toList then ((bloomerylaw11_fixed.f k).bind fun t170 => (some t170)) else (some false))) = some r := H
  have A9 := Aside0.mk A90
  clear A90
  replace H := Option.bind_eq_some_iff.mp H
  obtain ⟨t169, A100, H⟩ := H
  replace H : (if t168.toList = t169.toList then ((bloomerylaw11_fixed.f k).bind fun t170 => (some t170)) else (some false)) = some r := H
  have A10 := Aside0.mk A100
  clear A100
  by_cases c11 : t168.toList = t169.toList
  ·rw [if_pos c11] at H
   have c11b0 : (t168.toList == t169.toList) = true := beq_iff_eq.mpr c11
   have c11b1 : (t168.toList != t169.toList) = false := bne_eq_false_iff_eq.mpr c11
   clear c11
   replace H := Option.bind_eq_some_iff.mp H
   obtain ⟨t170, A120, H⟩ := H
   replace H : (some t170) = some r := H
   have A12 := Aside0.mk A120
   clear A120
   obtain rfl := Option.some.inj H
   go_enter Tryz.func3, Tryz.ntmps3
   try go_wp2_with (first | ((with_reducible refine gate_dst (N := 1) rfl ?_); refine box_event ?hg (N := 1) ?hd (cs := #[.int .i64 a0_0, .int .i64 a0_1, .string a0_2, .slice A0_3 l0_3.length c0_3, .slice A0_4 l0_4.length c0_4]) (t := 25) ?hr ?_; (case hd => rfl); (case hg => rfl); (case hr => first | (go_simp; done) | (go_simp; rfl)); intro gb165 hg w13 hbox hb; have n0_ := Aside0.mk (below_step (by repeat (first | (with_reducible first | exact HB.out | apply below_alloc | apply pw_below_drewN | apply below_drew1) | exact HB.out)) hb); have n1_ := Aside0.mk (hbox); have n2_ := Aside0.mk ((by rw [hg]; exact (below_size (by repeat (first | (with_reducible first | exact HB.out | apply below_alloc | apply pw_below_drewN | apply below_drew1) | exact HB.out))) : w.heap.size ≤ gb165)); have n3_ := Aside0.mk ((by rw [hg]; exact (below_size (by repeat (first | (with_reducible first | exact HB.out | apply below_alloc | apply pw_below_drewN | apply below_drew1) | exact HB.out))) : w.heap.size ≤ gb165)); clear HB; have HB := n0_; have BK165 := n1_; have GW165 := n2_; have GE165 := n3_; clear n0_ n1_ n2_ n3_; clear hb hbox hg; have hcz14_0 : w13.cell? ⟨gb165, 0, none⟩ = some (.int .i64 a0_0) := (blk_cell BK165.out 0).trans rfl; have hcz14_1 : w13.cell? ⟨gb165, 1, none⟩ = some (.int .i64 a0_1) := (blk_cell BK165.out 1).trans rfl; have hcz14_2 : w13.cell? ⟨gb165, 2, none⟩ = some (.string a0_2) := (blk_cell BK165.out 2).trans rfl; have hcz14_3 : w13.cell? ⟨gb165, 3, none⟩ = some (.slice A0_3 l0_3.length c0_3) := (blk_cell BK165.out 3).trans rfl; have hcz14_4 : w13.cell? ⟨gb165, 4, none⟩ = some (.slice A0_4 l0_4.length c0_4) := (blk_cell BK165.out 4).trans rfl; have hfz14_0 := blk_frozen BK165.out 0; have hfz14_1 := blk_frozen BK165.out 1; have hfz14_2 := blk_frozen BK165.out 2; have hfz14_3 := blk_frozen BK165.out 3; have hfz14_4 := blk_frozen BK165.out 4) | ((with_reducible refine gate_callee (f := 8) rfl ?_); refine goesL_ (some 4) rfl rfl Tryz.func8 (by kernel_rfl) rfl #[.agg #[.int .i64 a0_0, .int .i64 a0_1, .string a0_2, .slice A0_3 l0_3.length c0_3, .slice A0_4 l0_4.length c0_4]] rfl (by (try simp only [List.map_toArray, List.map_cons, List.map_nil]); first | done | rfl | (simp only [List.length_drop, List.length_take]; rfl)) ?_; (with_reducible refine (bloomeryref11_Great.calls k a0_0 a0_1 a0_2 _ _ l0_3 _ _ l0_4 false _ ?side1 ?side2 ?side3 ?side4 A2.out).mono ?_); (case side1 => repeat (first | exact (Kd.C_below HR0_3.out HB.out) | (with_reducible refine Kd.C_alloc ?_ _) | (with_reducible refine Kd.C_drewN ?_ _) | (with_reducible refine Kd.C_drew ?_))); (case side2 => exact HC0_3.out); (case side3 => repeat (first | exact (Kd.C_below HR0_4.out HB.out) | (with_reducible refine Kd.C_alloc ?_ _) | (with_reducible refine Kd.C_drewN ?_ _) | (with_reducible refine Kd.C_drew ?_))); (case side4 => exact HC0_4.out); rintro e w15 ⟨rfl, hb⟩; refine ⟨_, rfl, ?_⟩; have n0_ := Aside0.mk (blk_below (g := gb165) (o := .cells #[.int .i64 a0_0, .int .i64 a0_1, .string a0_2, .slice A0_3 l0_3.length c0_3, .slice A0_4 l0_4.length c0_4] 25 (0, 0)) (by (with_reducible repeat (first | refine blk_drewN ?_ _ | refine blk_drew ?_ | refine blk_alloc ?_ _)); exact BK165.out) hb); have n1_ := Aside0.mk (below_step (by repeat (first | (with_reducible first | exact HB.out | apply below_alloc | apply pw_below_drewN | apply below_drew1 | refine below_set ?_ GE165.out) | exact HB.out)) hb); clear BK165; clear HB; have BK165 := n0_; have HB := n1_; clear n0_ n1_; (try clear hb); (try clear hb2); (try clear hk); (try clear hi)))
   have n0_ := Aside0.mk (blk_drew BK165.out)
   have n1_ := Aside0.mk (below_drew1 HB.out)
   clear BK165
   clear HB
   have BK165 := n0_
   have HB := n1_
   clear n0_ n1_
   refine start_ (n := 9) (S := fun w' => w'.cell? ⟨gb165, 0, none⟩ = some (.int .i64 a0_0) ∧ w'.cell? ⟨gb165, 1, none⟩ = some (.int .i64 a0_1) ∧ w'.cell? ⟨gb165, 2, none⟩ = some (.string a0_2) ∧ w'.cell? ⟨gb165, 3, none⟩ = some (.slice A0_3 l0_3.length c0_3) ∧ w'.cell? ⟨gb165, 4, none⟩ = some (.slice A0_4 l0_4.length c0_4)) (ds := []) #[false, false, false, false, false, false, false, false, false] (by kernel_rfl) rfl rfl ⟨(blk_cell BK165.out 0).trans rfl, (blk_cell BK165.out 1).trans rfl, (blk_cell BK165.out 2).trans rfl, (blk_cell BK165.out 3).trans rfl, (blk_cell BK165.out 4).trans rfl⟩ (fun hHeld => ?_); refine with_tabW bloomerylaw11_ValuePrints.tab3 bloomerylaw11_ValuePrints.bits3 (fun HT_ HW_ => ?_)
   generalize w15.drew = w16 at BK165 HB hHeld ⊢
   refine take_ (i := 0) (N := some 6) (v := ?_) (a' := ?_) #[true, false, false, false, false, false, false, false, false] rfl rfl (take_ofW HT_.out HW_.out (by kernel_rfl)) (fun _ _ _ h => h) (Or.inl ⟨by rfl, ?_⟩) hHeld ?_ ?_
   rotate_left
   ·rintro w' ⟨s0, s1, s2, s3, s4⟩
    go_simp
    with_reducible rfl
   rotate_left
   ·simp only [Act.put, List.setIfInBounds_toArray, List.set_cons_zero, List.set_cons_succ, i64_w, i32_w]
    rfl
   refine take_ (i := 2) (N := some 8) (v := ?_) (a' := ?_) #[true, false, true, false, false, false, false, false, false] rfl rfl (take_ofW HT_.out HW_.out (by kernel_rfl)) (fun _ _ _ h => h) (Or.inl ⟨by rfl, ?_⟩) hHeld ?_ ?_
   rotate_left
   ·rintro w' ⟨s0, s1, s2, s3, s4⟩
    go_simp
    with_reducible rfl
   rotate_left
   ·simp only [Act.put, List.setIfInBounds_toArray, List.set_cons_zero, List.set_cons_succ, i64_w, i32_w]
    rfl
   refine one_ (i := 1) (N := some 7) #[true, true, true, false, false, false, false, false, false] rfl rfl (one_of HT_.out (by kernel_rfl)) (by decide) (fun K hK => ?_)
   refine goes_ Tryz.func10 (by kernel_rfl) rfl #[.agg #[.int .i64 a0_0, .int .i64 a0_1, .string a0_2, .slice A0_3 l0_3.length c0_3, .slice A0_4 l0_4.length c0_4]] (by rfl) rfl rfl (by (try simp only [List.map_toArray, List.map_cons, List.map_nil]); first | done | rfl | (simp only [List.length_drop, List.length_take]; rfl)) ?_
   with_reducible refine (value_Print.calls k a0_0 a0_1 a0_2 _ _ l0_3 _ _ l0_4 t168 _ ?side5 ?side1 ?side2 ?side3 ?side4 A9.out).mono ?_
   (case side1 => repeat (first | exact (Kd.C_below HR0_3.out HB.out) | (with_reducible refine Kd.C_alloc ?_ _) | (with_reducible refine Kd.C_drewN ?_ _) | (with_reducible refine Kd.C_drew ?_)))
   (case side2 => exact HC0_3.out)
   (case side3 => repeat (first | exact (Kd.C_below HR0_4.out HB.out) | (with_reducible refine Kd.C_alloc ?_ _) | (with_reducible refine Kd.C_drewN ?_ _) | (with_reducible refine Kd.C_drew ?_)))
   (case side4 => exact HC0_4.out)
   (case side5 => exact Gl.below HGL.out (by repeat (first | (with_reducible first | exact HB.out | apply below_alloc | apply pw_below_drewN | apply below_drew1 | refine below_set ?_ GE165.out) | exact HB.out)))
   rintro e w17 ⟨rfl, hb⟩
   refine ⟨_, rfl, ?_⟩
   have n0_ := Aside0.mk (blk_below (g := gb165) (o := .cells #[.int .i64 a0_0, .int .i64 a0_1, .string a0_2, .slice A0_3 l0_3.length c0_3, .slice A0_4 l0_4.length c0_4] 25 (0, 0)) (by (with_reducible repeat (first | refine blk_drewN ?_ _ | refine blk_drew ?_ | refine blk_alloc ?_ _)); exact BK165.out) hb)
   have n1_ := Aside0.mk (below_step (by repeat (first | (with_reducible first | exact HB.out | apply below_alloc | apply pw_below_drewN | apply below_drew1 | refine below_set ?_ GE165.out) | exact HB.out)) hb)
   clear BK165
   clear HB
   have BK165 := n0_
   have HB := n1_
   clear n0_ n1_
   (try clear hb)
   (try clear hb2)
   (try clear hk)
   (try clear hi)
   refine hK.out _ _ ⟨(blk_cell BK165.out 0).trans rfl, (blk_cell BK165.out 1).trans rfl, (blk_cell BK165.out 2).trans rfl, (blk_cell BK165.out 3).trans rfl, (blk_cell BK165.out 4).trans rfl⟩ (fun hHeld => ?_)
   clear hK K
   refine norm_ (a' := ?_) ?_ ?_
   rotate_left
   ·show Act.put _ (some 7) _ = _
    simp only [Act.put, List.setIfInBounds_toArray, List.set_cons_zero, List.set_cons_succ, i64_w, i32_w]
    rfl
   refine one_ (i := 3) (N := some 9) #[true, true, true, true, false, false, false, false, false] rfl rfl (one_of HT_.out (by kernel_rfl)) (by decide) (fun K hK => ?_)
   refine goes_ Tryz.func11 (by kernel_rfl) rfl #[.agg #[.int .i64 a0_0, .int .i64 a0_1, .string a0_2, .slice A0_3 l0_3.length c0_3, .slice A0_4 l0_4.length c0_4]] (by rfl) rfl rfl (by (try simp only [List.map_toArray, List.map_cons, List.map_nil]); first | done | rfl | (simp only [List.length_drop, List.length_take]; rfl)) ?_
   with_reducible refine (bloomeryref11_Print.calls k a0_0 a0_1 a0_2 _ _ l0_3 _ _ l0_4 t169 _ ?side1 ?side2 ?side3 ?side4 A10.out).mono ?_
   (case side1 => repeat (first | exact (Kd.C_below HR0_3.out HB.out) | (with_reducible refine Kd.C_alloc ?_ _) | (with_reducible refine Kd.C_drewN ?_ _) | (with_reducible refine Kd.C_drew ?_)))
   (case side2 => exact HC0_3.out)
   (case side3 => repeat (first | exact (Kd.C_below HR0_4.out HB.out) | (with_reducible refine Kd.C_alloc ?_ _) | (with_reducible refine Kd.C_drewN ?_ _) | (with_reducible refine Kd.C_drew ?_)))
   (case side4 => exact HC0_4.out)
   rintro e w18 ⟨rfl, hb⟩
   refine ⟨_, rfl, ?_⟩
   have n0_ := Aside0.mk (blk_below (g := gb165) (o := .cells #[.int .i64 a0_0, .int .i64 a0_1, .string a0_2, .slice A0_3 l0_3.length c0_3, .slice A0_4 l0_4.length c0_4] 25 (0, 0)) (by (with_reducible repeat (first | refine blk_drewN ?_ _ | refine blk_drew ?_ | refine blk_alloc ?_ _)); exact BK165.out) hb)
   have n1_ := Aside0.mk (below_step (by repeat (first | (with_reducible first | exact HB.out | apply below_alloc | apply pw_below_drewN | apply below_drew1 | refine below_set ?_ GE165.out) | exact HB.out)) hb)
   clear BK165
   clear HB
   have BK165 := n0_
   have HB := n1_
   clear n0_ n1_
   (try clear hb)
   (try clear hb2)
   (try clear hk)
   (try clear hi)
   refine hK.out _ _ ⟨(blk_cell BK165.out 0).trans rfl, (blk_cell BK165.out 1).trans rfl, (blk_cell BK165.out 2).trans rfl, (blk_cell BK165.out 3).trans rfl, (blk_cell BK165.out 4).trans rfl⟩ (fun hHeld => ?_)
   clear hK K
   refine norm_ (a' := ?_) ?_ ?_
   rotate_left
   ·show Act.put _ (some 9) _ = _
    simp only [Act.put, List.setIfInBounds_toArray, List.set_cons_zero, List.set_cons_succ, i64_w, i32_w]
    rfl
   refine pure_ (i := 4) (N := some 10) (v := ?_) (a' := ?_) #[true, true, true, true, true, false, false, false, false] rfl rfl (any_of HT_.out (by kernel_rfl)) (fun _ _ _ h => h) (Or.inl ⟨by rfl, ?_⟩) ?_ ?_
   rotate_left
   ·intro w'
    go_simp
    with_reducible rfl
   rotate_left
   ·simp only [Act.put, List.setIfInBounds_toArray, List.set_cons_zero, List.set_cons_succ, i64_w, i32_w]
    rfl
   refine pure_ (i := 5) (N := some 11) (v := ?_) (a' := ?_) #[true, true, true, true, true, true, false, false, false] rfl rfl (any_of HT_.out (by kernel_rfl)) (fun _ _ _ h => h) (Or.inl ⟨by rfl, ?_⟩) ?_ ?_
   rotate_left
   ·intro w'
    go_simp
    with_reducible rfl
   rotate_left
   ·simp only [Act.put, List.setIfInBounds_toArray, List.set_cons_zero, List.set_cons_succ, i64_w, i32_w]
    rfl
   refine one_ (i := 6) (N := some 12) #[true, true, true, true, true, true, true, false, false] rfl rfl (one_of HT_.out (by kernel_rfl)) (by decide) (fun K hK => ?_)
   refine goes_ Tryz.func9 (by kernel_rfl) rfl #[] (by rfl) rfl rfl (by (try simp only [List.map_toArray, List.map_cons, List.map_nil]); first | done | rfl | (simp only [List.length_drop, List.length_take]; rfl)) ?_
   with_reducible refine (bloomerylaw11_fixed.calls k  t170 _ ?side1 A12.out).mono ?_
   (case side1 => exact Gl.below HGL.out (by repeat (first | (with_reducible first | exact HB.out | apply below_alloc | apply pw_below_drewN | apply below_drew1 | refine below_set ?_ GE165.out) | exact HB.out)))
   rintro e w19 ⟨rfl, hb⟩
   refine ⟨_, rfl, ?_⟩
   have n0_ := Aside0.mk (blk_below (g := gb165) (o := .cells #[.int .i64 a0_0, .int .i64 a0_1, .string a0_2, .slice A0_3 l0_3.length c0_3, .slice A0_4 l0_4.length c0_4] 25 (0, 0)) (by (with_reducible repeat (first | refine blk_drewN ?_ _ | refine blk_drew ?_ | refine blk_alloc ?_ _)); exact BK165.out) hb)
   have n1_ := Aside0.mk (below_step (by repeat (first | (with_reducible first | exact HB.out | apply below_alloc | apply pw_below_drewN | apply below_drew1 | refine below_set ?_ GE165.out) | exact HB.out)) hb)
   clear BK165
   clear HB
   have BK165 := n0_
   have HB := n1_
   clear n0_ n1_
   (try clear hb)
   (try clear hb2)
   (try clear hk)
   (try clear hi)
   refine hK.out _ _ ⟨(blk_cell BK165.out 0).trans rfl, (blk_cell BK165.out 1).trans rfl, (blk_cell BK165.out 2).trans rfl, (blk_cell BK165.out 3).trans rfl, (blk_cell BK165.out 4).trans rfl⟩ (fun hHeld => ?_)
   clear hK K
   refine norm_ (a' := ?_) ?_ ?_
   rotate_left
   ·show Act.put _ (some 12) _ = _
    simp only [Act.put, List.setIfInBounds_toArray, List.set_cons_zero, List.set_cons_succ, i64_w, i32_w]
    rfl
   refine pure_ (i := 7) (N := some 13) (v := ?_) (a' := ?_) #[true, true, true, true, true, true, true, true, false] rfl rfl (any_of HT_.out (by kernel_rfl)) (fun _ _ _ h => h) (Or.inl ⟨by rfl, ?_⟩) ?_ ?_
   rotate_left
   ·intro w'
    go_simp
    with_reducible rfl
   rotate_left
   ·simp only [Act.put, List.setIfInBounds_toArray, List.set_cons_zero, List.set_cons_succ, i64_w, i32_w]
    rfl
   refine pure_ (i := 8) (N := some 2) (v := ?_) (a' := ?_) #[true, true, true, true, true, true, true, true, true] rfl rfl (any_of HT_.out (by kernel_rfl)) (fun _ _ _ h => h) (Or.inl ⟨by rfl, ?_⟩) ?_ ?_
   rotate_left
   ·intro w'
    go_simp
    with_reducible rfl
   rotate_left
   ·simp only [Act.put, List.setIfInBounds_toArray, List.set_cons_zero, List.set_cons_succ, i64_w, i32_w]
    rfl
   refine done_ (done_of HT_.out (by kernel_rfl)) ?_
   try go_wp2
   go_ret
   exact ⟨by first | rfl | (simp [errW_none, errW_some] <;> rfl) | (simp [*, errW_none, errW_some] <;> rfl), by repeat (first | (with_reducible first | exact HB.out | apply below_alloc | apply pw_below_drewN | apply below_drew1 | refine below_set ?_ GE165.out) | exact HB.out)⟩
  ·rw [if_neg c11] at H
   have c11b0 : (t168.toList == t169.toList) = false := beq_eq_false_iff_ne.mpr c11
   have c11b1 : (t168.toList != t169.toList) = true := bne_iff_ne.mpr c11
   obtain rfl := Option.some.inj H
   go_enter Tryz.func3, Tryz.ntmps3
   try go_wp2_with (first | ((with_reducible refine gate_dst (N := 1) rfl ?_); refine box_event ?hg (N := 1) ?hd (cs := #[.int .i64 a0_0, .int .i64 a0_1, .string a0_2, .slice A0_3 l0_3.length c0_3, .slice A0_4 l0_4.length c0_4]) (t := 25) ?hr ?_; (case hd => rfl); (case hg => rfl); (case hr => first | (go_simp; done) | (go_simp; rfl)); intro gb165 hg w20 hbox hb; have n0_ := Aside0.mk (below_step (by repeat (first | (with_reducible first | exact HB.out | apply below_alloc | apply pw_below_drewN | apply below_drew1) | exact HB.out)) hb); have n1_ := Aside0.mk (hbox); have n2_ := Aside0.mk ((by rw [hg]; exact (below_size (by repeat (first | (with_reducible first | exact HB.out | apply below_alloc | apply pw_below_drewN | apply below_drew1) | exact HB.out))) : w.heap.size ≤ gb165)); have n3_ := Aside0.mk ((by rw [hg]; exact (below_size (by repeat (first | (with_reducible first | exact HB.out | apply below_alloc | apply pw_below_drewN | apply below_drew1) | exact HB.out))) : w.heap.size ≤ gb165)); clear HB; have HB := n0_; have BK165 := n1_; have GW165 := n2_; have GE165 := n3_; clear n0_ n1_ n2_ n3_; clear hb hbox hg; have hcz21_0 : w20.cell? ⟨gb165, 0, none⟩ = some (.int .i64 a0_0) := (blk_cell BK165.out 0).trans rfl; have hcz21_1 : w20.cell? ⟨gb165, 1, none⟩ = some (.int .i64 a0_1) := (blk_cell BK165.out 1).trans rfl; have hcz21_2 : w20.cell? ⟨gb165, 2, none⟩ = some (.string a0_2) := (blk_cell BK165.out 2).trans rfl; have hcz21_3 : w20.cell? ⟨gb165, 3, none⟩ = some (.slice A0_3 l0_3.length c0_3) := (blk_cell BK165.out 3).trans rfl; have hcz21_4 : w20.cell? ⟨gb165, 4, none⟩ = some (.slice A0_4 l0_4.length c0_4) := (blk_cell BK165.out 4).trans rfl; have hfz21_0 := blk_frozen BK165.out 0; have hfz21_1 := blk_frozen BK165.out 1; have hfz21_2 := blk_frozen BK165.out 2; have hfz21_3 := blk_frozen BK165.out 3; have hfz21_4 := blk_frozen BK165.out 4) | ((with_reducible refine gate_callee (f := 8) rfl ?_); refine goesL_ (some 4) rfl rfl Tryz.func8 (by kernel_rfl) rfl #[.agg #[.int .i64 a0_0, .int .i64 a0_1, .string a0_2, .slice A0_3 l0_3.length c0_3, .slice A0_4 l0_4.length c0_4]] rfl (by (try simp only [List.map_toArray, List.map_cons, List.map_nil]); first | done | rfl | (simp only [List.length_drop, List.length_take]; rfl)) ?_; (with_reducible refine (bloomeryref11_Great.calls k a0_0 a0_1 a0_2 _ _ l0_3 _ _ l0_4 false _ ?side1 ?side2 ?side3 ?side4 A2.out).mono ?_); (case side1 => repeat (first | exact (Kd.C_below HR0_3.out HB.out) | (with_reducible refine Kd.C_alloc ?_ _) | (with_reducible refine Kd.C_drewN ?_ _) | (with_reducible refine Kd.C_drew ?_))); (case side2 => exact HC0_3.out); (case side3 => repeat (first | exact (Kd.C_below HR0_4.out HB.out) | (with_reducible refine Kd.C_alloc ?_ _) | (with_reducible refine Kd.C_drewN ?_ _) | (with_reducible refine Kd.C_drew ?_))); (case side4 => exact HC0_4.out); rintro e w22 ⟨rfl, hb⟩; refine ⟨_, rfl, ?_⟩; have n0_ := Aside0.mk (blk_below (g := gb165) (o := .cells #[.int .i64 a0_0, .int .i64 a0_1, .string a0_2, .slice A0_3 l0_3.length c0_3, .slice A0_4 l0_4.length c0_4] 25 (0, 0)) (by (with_reducible repeat (first | refine blk_drewN ?_ _ | refine blk_drew ?_ | refine blk_alloc ?_ _)); exact BK165.out) hb); have n1_ := Aside0.mk (below_step (by repeat (first | (with_reducible first | exact HB.out | apply below_alloc | apply pw_below_drewN | apply below_drew1 | refine below_set ?_ GE165.out) | exact HB.out)) hb); clear BK165; clear HB; have BK165 := n0_; have HB := n1_; clear n0_ n1_; (try clear hb); (try clear hb2); (try clear hk); (try clear hi)))
   have n0_ := Aside0.mk (blk_drew BK165.out)
   have n1_ := Aside0.mk (below_drew1 HB.out)
   clear BK165
   clear HB
   have BK165 := n0_
   have HB := n1_
   clear n0_ n1_
   refine start_ (n := 9) (S := fun w' => w'.cell? ⟨gb165, 0, none⟩ = some (.int .i64 a0_0) ∧ w'.cell? ⟨gb165, 1, none⟩ = some (.int .i64 a0_1) ∧ w'.cell? ⟨gb165, 2, none⟩ = some (.string a0_2) ∧ w'.cell? ⟨gb165, 3, none⟩ = some (.slice A0_3 l0_3.length c0_3) ∧ w'.cell? ⟨gb165, 4, none⟩ = some (.slice A0_4 l0_4.length c0_4)) (ds := []) #[false, false, false, false, false, false, false, false, false] (by kernel_rfl) rfl rfl ⟨(blk_cell BK165.out 0).trans rfl, (blk_cell BK165.out 1).trans rfl, (blk_cell BK165.out 2).trans rfl, (blk_cell BK165.out 3).trans rfl, (blk_cell BK165.out 4).trans rfl⟩ (fun hHeld => ?_); refine with_tabW bloomerylaw11_ValuePrints.tab3 bloomerylaw11_ValuePrints.bits3 (fun HT_ HW_ => ?_)
   generalize w22.drew = w23 at BK165 HB hHeld ⊢
   refine take_ (i := 0) (N := some 6) (v := ?_) (a' := ?_) #[true, false, false, false, false, false, false, false, false] rfl rfl (take_ofW HT_.out HW_.out (by kernel_rfl)) (fun _ _ _ h => h) (Or.inl ⟨by rfl, ?_⟩) hHeld ?_ ?_
   rotate_left
   ·rintro w' ⟨s0, s1, s2, s3, s4⟩
    go_simp
    with_reducible rfl
   rotate_left
   ·simp only [Act.put, List.setIfInBounds_toArray, List.set_cons_zero, List.set_cons_succ, i64_w, i32_w]
    rfl
   refine take_ (i := 2) (N := some 8) (v := ?_) (a' := ?_) #[true, false, true, false, false, false, false, false, false] rfl rfl (take_ofW HT_.out HW_.out (by kernel_rfl)) (fun _ _ _ h => h) (Or.inl ⟨by rfl, ?_⟩) hHeld ?_ ?_
   rotate_left
   ·rintro w' ⟨s0, s1, s2, s3, s4⟩
    go_simp
    with_reducible rfl
   rotate_left
   ·simp only [Act.put, List.setIfInBounds_toArray, List.set_cons_zero, List.set_cons_succ, i64_w, i32_w]
    rfl
   refine one_ (i := 1) (N := some 7) #[true, true, true, false, false, false, false, false, false] rfl rfl (one_of HT_.out (by kernel_rfl)) (by decide) (fun K hK => ?_)
   refine goes_ Tryz.func10 (by kernel_rfl) rfl #[.agg #[.int .i64 a0_0, .int .i64 a0_1, .string a0_2, .slice A0_3 l0_3.length c0_3, .slice A0_4 l0_4.length c0_4]] (by rfl) rfl rfl (by (try simp only [List.map_toArray, List.map_cons, List.map_nil]); first | done | rfl | (simp only [List.length_drop, List.length_take]; rfl)) ?_
   with_reducible refine (value_Print.calls k a0_0 a0_1 a0_2 _ _ l0_3 _ _ l0_4 t168 _ ?side5 ?side1 ?side2 ?side3 ?side4 A9.out).mono ?_
   (case side1 => repeat (first | exact (Kd.C_below HR0_3.out HB.out) | (with_reducible refine Kd.C_alloc ?_ _) | (with_reducible refine Kd.C_drewN ?_ _) | (with_reducible refine Kd.C_drew ?_)))
   (case side2 => exact HC0_3.out)
   (case side3 => repeat (first | exact (Kd.C_below HR0_4.out HB.out) | (with_reducible refine Kd.C_alloc ?_ _) | (with_reducible refine Kd.C_drewN ?_ _) | (with_reducible refine Kd.C_drew ?_)))
   (case side4 => exact HC0_4.out)
   (case side5 => exact Gl.below HGL.out (by repeat (first | (with_reducible first | exact HB.out | apply below_alloc | apply pw_below_drewN | apply below_drew1 | refine below_set ?_ GE165.out) | exact HB.out)))
   rintro e w24 ⟨rfl, hb⟩
   refine ⟨_, rfl, ?_⟩
   have n0_ := Aside0.mk (blk_below (g := gb165) (o := .cells #[.int .i64 a0_0, .int .i64 a0_1, .string a0_2, .slice A0_3 l0_3.length c0_3, .slice A0_4 l0_4.length c0_4] 25 (0, 0)) (by (with_reducible repeat (first | refine blk_drewN ?_ _ | refine blk_drew ?_ | refine blk_alloc ?_ _)); exact BK165.out) hb)
   have n1_ := Aside0.mk (below_step (by repeat (first | (with_reducible first | exact HB.out | apply below_alloc | apply pw_below_drewN | apply below_drew1 | refine below_set ?_ GE165.out) | exact HB.out)) hb)
   clear BK165
   clear HB
   have BK165 := n0_
   have HB := n1_
   clear n0_ n1_
   (try clear hb)
   (try clear hb2)
   (try clear hk)
   (try clear hi)
   refine hK.out _ _ ⟨(blk_cell BK165.out 0).trans rfl, (blk_cell BK165.out 1).trans rfl, (blk_cell BK165.out 2).trans rfl, (blk_cell BK165.out 3).trans rfl, (blk_cell BK165.out 4).trans rfl⟩ (fun hHeld => ?_)
   clear hK K
   refine norm_ (a' := ?_) ?_ ?_
   rotate_left
   ·show Act.put _ (some 7) _ = _
    simp only [Act.put, List.setIfInBounds_toArray, List.set_cons_zero, List.set_cons_succ, i64_w, i32_w]
    rfl
   refine one_ (i := 3) (N := some 9) #[true, true, true, true, false, false, false, false, false] rfl rfl (one_of HT_.out (by kernel_rfl)) (by decide) (fun K hK => ?_)
   refine goes_ Tryz.func11 (by kernel_rfl) rfl #[.agg #[.int .i64 a0_0, .int .i64 a0_1, .string a0_2, .slice A0_3 l0_3.length c0_3, .slice A0_4 l0_4.length c0_4]] (by rfl) rfl rfl (by (try simp only [List.map_toArray, List.map_cons, List.map_nil]); first | done | rfl | (simp only [List.length_drop, List.length_take]; rfl)) ?_
   with_reducible refine (bloomeryref11_Print.calls k a0_0 a0_1 a0_2 _ _ l0_3 _ _ l0_4 t169 _ ?side1 ?side2 ?side3 ?side4 A10.out).mono ?_
   (case side1 => repeat (first | exact (Kd.C_below HR0_3.out HB.out) | (with_reducible refine Kd.C_alloc ?_ _) | (with_reducible refine Kd.C_drewN ?_ _) | (with_reducible refine Kd.C_drew ?_)))
   (case side2 => exact HC0_3.out)
   (case side3 => repeat (first | exact (Kd.C_below HR0_4.out HB.out) | (with_reducible refine Kd.C_alloc ?_ _) | (with_reducible refine Kd.C_drewN ?_ _) | (with_reducible refine Kd.C_drew ?_)))
   (case side4 => exact HC0_4.out)
   rintro e w25 ⟨rfl, hb⟩
   refine ⟨_, rfl, ?_⟩
   have n0_ := Aside0.mk (blk_below (g := gb165) (o := .cells #[.int .i64 a0_0, .int .i64 a0_1, .string a0_2, .slice A0_3 l0_3.length c0_3, .slice A0_4 l0_4.length c0_4] 25 (0, 0)) (by (with_reducible repeat (first | refine blk_drewN ?_ _ | refine blk_drew ?_ | refine blk_alloc ?_ _)); exact BK165.out) hb)
   have n1_ := Aside0.mk (below_step (by repeat (first | (with_reducible first | exact HB.out | apply below_alloc | apply pw_below_drewN | apply below_drew1 | refine below_set ?_ GE165.out) | exact HB.out)) hb)
   clear BK165
   clear HB
   have BK165 := n0_
   have HB := n1_
   clear n0_ n1_
   (try clear hb)
   (try clear hb2)
   (try clear hk)
   (try clear hi)
   refine hK.out _ _ ⟨(blk_cell BK165.out 0).trans rfl, (blk_cell BK165.out 1).trans rfl, (blk_cell BK165.out 2).trans rfl, (blk_cell BK165.out 3).trans rfl, (blk_cell BK165.out 4).trans rfl⟩ (fun hHeld => ?_)
   clear hK K
   refine norm_ (a' := ?_) ?_ ?_
   rotate_left
   ·show Act.put _ (some 9) _ = _
    simp only [Act.put, List.setIfInBounds_toArray, List.set_cons_zero, List.set_cons_succ, i64_w, i32_w]
    rfl
   refine pure_ (i := 4) (N := some 10) (v := ?_) (a' := ?_) #[true, true, true, true, true, false, false, false, false] rfl rfl (any_of HT_.out (by kernel_rfl)) (fun _ _ _ h => h) (Or.inl ⟨by rfl, ?_⟩) ?_ ?_
   rotate_left
   ·intro w'
    go_simp
    with_reducible rfl
   rotate_left
   ·simp only [Act.put, List.setIfInBounds_toArray, List.set_cons_zero, List.set_cons_succ, i64_w, i32_w]
    rfl
   refine pure_ (i := 5) (N := some 11) (v := ?_) (a' := ?_) #[true, true, true, true, true, true, false, false, false] rfl rfl (any_of HT_.out (by kernel_rfl)) (fun _ _ _ h => h) (Or.inl ⟨by rfl, ?_⟩) ?_ ?_
   rotate_left
   ·intro w'
    go_simp
    with_reducible rfl
   rotate_left
   ·simp only [Act.put, List.setIfInBounds_toArray, List.set_cons_zero, List.set_cons_succ, i64_w, i32_w]
    rfl
   refine pure_ (i := 6) (N := some 12) (v := undef) (a' := ?_) #[true, true, true, true, true, true, true, false, false] rfl rfl (any_of HT_.out (by kernel_rfl)) (fun _ _ _ h => h) (Or.inr ⟨by rfl, rfl⟩) ?_ ?_
   rotate_left
   ·simp only [Act.put, List.setIfInBounds_toArray, List.set_cons_zero, List.set_cons_succ, i64_w, i32_w]
    rfl
   refine pure_ (i := 7) (N := some 13) (v := ?_) (a' := ?_) #[true, true, true, true, true, true, true, true, false] rfl rfl (any_of HT_.out (by kernel_rfl)) (fun _ _ _ h => h) (Or.inl ⟨by rfl, ?_⟩) ?_ ?_
   rotate_left
   ·intro w'
    go_simp
    with_reducible rfl
   rotate_left
   ·simp only [Act.put, List.setIfInBounds_toArray, List.set_cons_zero, List.set_cons_succ, i64_w, i32_w]
    rfl
   refine pure_ (i := 8) (N := some 2) (v := ?_) (a' := ?_) #[true, true, true, true, true, true, true, true, true] rfl rfl (any_of HT_.out (by kernel_rfl)) (fun _ _ _ h => h) (Or.inl ⟨by rfl, ?_⟩) ?_ ?_
   rotate_left
   ·intro w'
    go_simp
    with_reducible rfl
   rotate_left
   ·simp only [Act.put, List.setIfInBounds_toArray, List.set_cons_zero, List.set_cons_succ, i64_w, i32_w]
    rfl
   refine done_ (done_of HT_.out (by kernel_rfl)) ?_
   try go_wp2
   go_ret
   exact ⟨by first | rfl | (simp [errW_none, errW_some] <;> rfl) | (simp [*, errW_none, errW_some] <;> rfl), by repeat (first | (with_reducible first | exact HB.out | apply below_alloc | apply pw_below_drewN | apply below_drew1 | refine below_set ?_ GE165.out) | exact HB.out)⟩

end
end Go.Proofs.YtegppacnkfeaoaaGreatDoor.G

/- The law ValuePrints: any value's text is the document's. -/
namespace Go.Proofs.YtegppacnkfeaoaaGreatDoor.G
open Go.RowKit Go.Gw Go.Proofs.YtegppacnkfeaoaaGreatDoorW.PrintWords
set_option linter.unusedVariables false
set_option linter.unusedSimpArgs false

section
variable [Inhabited Bound]
theorem rprint_ev (v : S25) (hv : AllV okN v) (hm : checkT v = true → mayText v) : Ev (fun k => bloomeryref11_Print.f k v.f0 v.f1 v.f2 v.f3 v.f4) (if checkT v = true then textT v else ⟨#[]⟩) := by
  unfold bloomeryref11_Print.f
  refine Ev.bind (f := fun k t => if t = true then (bloomeryref11_text.f k v.f0 v.f1 v.f2 v.f3 v.f4).bind fun t => some t else some ⟨#[]⟩) (rcheck_ev v hv) ?_
  by_cases h : checkT v = true
  · exact Ev.pos h (Ev.to (Ev.bind (f := fun k t => some t) (rtext_ev v (hm h)) (Ev.now _)) (by rw [if_pos h]))
  · exact Ev.neg h (Ev.to (Ev.now _) (by rw [if_neg h]))
/-- What is known of a value that isn't great, and may be. -/
theorem may_text {v : S25} (hv : AllV okN v) (hs : AllV smallN v) (hc : cnt v ≤ 1000000000000000000 → cnt v ≤ 60) (h : checkT v = true) : mayText v := by
  obtain ⟨p, q, r⟩ := (checkT_iff v).1 h
  have hr : AllV nodeR v := AllV.imp (fun v h => ⟨h.1, h.2.2.1⟩) v (AllV.and v r hv)
  have hsz := textT_size 100 v (AllV.imp (fun v h => ⟨h.1, h.2.1, h.2.2.2⟩) v (AllV.and v hr hs))
  have := hc (by omega)
  exact ⟨hr, by omega⟩
theorem prints_ev (v : S25) (hv : AllV okN v) (hN : exN ≤ bnd) (hb : SizeOf.sizeOf v ≤ bnd) : Ev (fun k => bloomerylaw11_ValuePrints.f k v.f0 v.f1 v.f2 v.f3 v.f4) true := by
  obtain ⟨g, hg, hs⟩ := great_ev v hv
  have hf := Ev.bind (f := fun k t => some t) (fixed_ev hN) (Ev.now true)
  unfold bloomerylaw11_ValuePrints.f
  refine Ev.bind (f := fun k t => if t = true then (bloomerylaw11_fixed.f k).bind fun t => some t else (value_Print.f k v.f0 v.f1 v.f2 v.f3 v.f4).bind fun t1 => (bloomeryref11_Print.f k v.f0 v.f1 v.f2 v.f3 v.f4).bind fun t2 => if t1.toList = t2.toList then (bloomerylaw11_fixed.f k).bind fun t => some t else some false) hg ?_
  cases g with
  | true => exact Ev.pos rfl hf
  | false =>
    obtain ⟨h1, h2⟩ := hs rfl
    have hm := may_text hv h1 h2
    exact Ev.neg (by decide) (Ev.bind (f := fun k t1 => (bloomeryref11_Print.f k v.f0 v.f1 v.f2 v.f3 v.f4).bind fun t2 => if t1.toList = t2.toList then (bloomerylaw11_fixed.f k).bind fun t => some t else some false) (print_ev v (fun x hx => Nat.lt_of_lt_of_le (size_mem hx) hb) hm)
      (Ev.bind (f := fun k t2 => if (if checkT v = true then textT v else ⟨#[]⟩ : ByteArray).toList = t2.toList then (bloomerylaw11_fixed.f k).bind fun t => some t else some false) (rprint_ev v hv hm) (Ev.pos rfl hf)))
end
end Go.Proofs.YtegppacnkfeaoaaGreatDoor.G
namespace Go.Proofs.YtegppacnkfeaoaaGreatDoor
open Go.RowKit Go.Gw Go.Proofs.YtegppacnkfeaoaaGreatDoorW.PrintWords Go.Proofs.YtegppacnkfeaoaaGreatDoor.G
/-- The law's walk. -/
theorem ValuePrints_row (v : S25) (w : World) (G : Tab Tryz.prog w) (hv : AllV okN v) (A3 : Option Addr) (c3 : Nat) (A4 : Option Addr) (c4 : Nat) (l3 : v.f3.length ≤ c3) (f3 : Kd.C k25 w A3 v.f3.length v.f3) (l4 : v.f4.length ≤ c4) (f4 : Kd.C Kd.string w A4 v.f4.length v.f4) :
    Calls Tryz.prog 3 #[.agg #[.int .i64 v.f0, .int .i64 v.f1, .string v.f2, .slice A3 v.f3.length c3, .slice A4 v.f4.length c4]] w fun e w' => e = .returned (.bool true) ∧ Below w.heap.size w w' := by
  obtain ⟨K, hK⟩ := @prints_ev ⟨⟨exN + SizeOf.sizeOf v, false⟩⟩ v hv (Nat.le_add_right _ _) (Nat.le_add_left _ _)
  exact @bloomerylaw11_ValuePrints.calls ⟨⟨exN + SizeOf.sizeOf v, false⟩⟩ K v.f0 v.f1 v.f2 A3 c3 v.f3 A4 c4 v.f4 true w (gl_all false _ w (@Gt.mk ⟨⟨exN + SizeOf.sizeOf v, false⟩⟩ w G (fun h => by cases h))) f3 l3 f4 l4 (hK K (Nat.le_refl _))
end Go.Proofs.YtegppacnkfeaoaaGreatDoor

/- How a value (a struct nested in itself) that came in reads, and how great it is. -/
namespace Go.Proofs.YtegppacnkfeaoaaGreatDoor.G
open Go.RowKit Go.Gw Go.Proofs.YtegppacnkfeaoaaGreatDoorW.PrintWords
set_option linter.unusedVariables false

theorem five {α : Type} {l : List α} (h : l.length = 5) : ∃ a b c d e, l = [a, b, c, d, e] := by
  match l, h with
  | [a, b, c, d, e], _ => exact ⟨a, b, c, d, e, rfl⟩
theorem opens_value : ∀ n, Opens Tryz.prog n 25 k25 (AllV okN) := by
  have hts := Tryz.underlying9
  have hti := Tryz.underlying3
  have ht6 := Tryz.underlying2
  have htl := Tryz.underlying22
  have htk := Tryz.underlying23
  have htv := Tryz.underlying25
  intro n
  induction n with
  | zero =>
    intro H enc w base spare held fuel cs y hf h hw
    obtain ⟨xs, m, hm, _⟩ := DataW.trod_struct htv h
    omega
  | succ n ih =>
    intro H enc w base spare held fuel cs y hf h hw
    obtain ⟨xs, m, hm, rfl, hl, hlen, hg⟩ := DataW.trod_struct htv h
    obtain ⟨y0, y1, y2, y3, y4, rfl⟩ := five (l := xs) hlen
    have c5 : Tryz.prog.cellsOf 25 = 5 := by kernel_rfl
    have ci : Tryz.prog.cellsOf 3 = 1 := by kernel_rfl
    have c6 : Tryz.prog.cellsOf 2 = 1 := by kernel_rfl
    have cs' : Tryz.prog.cellsOf 9 = 1 := by kernel_rfl
    have cl : Tryz.prog.cellsOf 22 = 1 := by kernel_rfl
    have ck : Tryz.prog.cellsOf 23 = 1 := by kernel_rfl
    rw [c5] at hl
    obtain ⟨u0, u1, u2, u3, u4, rfl⟩ := five hl
    have g0 : DataW.trod enc Tryz.prog w base spare held m 3 (([u0, u1, u2, u3, u4].drop 0).take (Tryz.prog.cellsOf 3)) = some y0 := hg 0 _ rfl
    rw [ci] at g0
    have g1 : DataW.trod enc Tryz.prog w base spare held m 2 (([u0, u1, u2, u3, u4].drop 1).take (Tryz.prog.cellsOf 2)) = some y1 := hg 1 _ rfl
    rw [c6] at g1
    have g2 : DataW.trod enc Tryz.prog w base spare held m 9 (([u0, u1, u2, u3, u4].drop 2).take (Tryz.prog.cellsOf 9)) = some y2 := hg 2 _ rfl
    rw [cs'] at g2
    have g3 : DataW.trod enc Tryz.prog w base spare held m 22 (([u0, u1, u2, u3, u4].drop 3).take (Tryz.prog.cellsOf 22)) = some y3 := hg 3 _ rfl
    rw [cl] at g3
    have g4 : DataW.trod enc Tryz.prog w base spare held m 23 (([u0, u1, u2, u3, u4].drop 4).take (Tryz.prog.cellsOf 23)) = some y4 := hg 4 _ rfl
    rw [ck] at g4
    have g0' : DataW.trod enc Tryz.prog w base spare held m 3 [u0] = some y0 := g0
    have g1' : DataW.trod enc Tryz.prog w base spare held m 2 [u1] = some y1 := g1
    have g2' : DataW.trod enc Tryz.prog w base spare held m 9 [u2] = some y2 := g2
    have g3' : DataW.trod enc Tryz.prog w base spare held m 22 [u3] = some y3 := g3
    have g4' : DataW.trod enc Tryz.prog w base spare held m 23 [u4] = some y4 := g4
    clear g0 g1 g2 g3 g4 hg
    have hw' : (y2.1.weights Tryz.prog 9).all (· ≤ reachBytes) = true ∧ (y3.1.weights Tryz.prog 22).all (· ≤ reachBytes) = true ∧ (y4.1.weights Tryz.prog 23).all (· ≤ reachBytes) = true := by
      simp only [DataW.weights, htv, DataW.weightsEach, List.map_cons, List.map_nil, List.append_nil, List.all_append, Bool.and_eq_true] at hw
      exact ⟨hw.2.2.1, hw.2.2.2.1, hw.2.2.2.2⟩
    obtain ⟨a0, e0, _, w0⟩ := DataW.trod_int hti g0'
    obtain ⟨a1, e1, _, w1⟩ := DataW.trod_int ht6 g1'
    obtain ⟨a2, k2, b2⟩ := opens_string hts enc w base spare held m _ _ (Nat.le_refl m) g2' hw'.1
    obtain ⟨a3, k3, b3⟩ := opens_slice (B := 80) htl (by kernel_rfl) (by kernel_rfl) ih enc w base spare held m _ _ (by omega) g3' hw'.2.1
    obtain ⟨a4, k4, b4⟩ := opens_slice (B := 16) htk (by kernel_rfl) (by kernel_rfl) (opens_string (n := m) hts) enc w base spare held m _ _ (by omega) g4' hw'.2.2
    obtain ⟨A3, c3, q3, l3, f3⟩ := C_of_slice k3
    obtain ⟨A4, c4, q4, l4, f4⟩ := C_of_slice k4
    cases e0
    cases e1
    cases k2
    subst q3
    subst q4
    refine ⟨⟨a0, a1, a2, a3, a4⟩, k25_mk w ⟨a0, a1, a2, a3, a4⟩ l3 f3 l4 f4, ⟨_, ⟨bounds_i64 w0, bounds_i64 w1, b2, ?_, ?_, fun s hs => b4.2 s hs⟩, fun x hx => b3.2 x hx⟩⟩
    · have := b3.1
      show a3.length ≤ _
      omega
    · have := b4.1
      show a4.length ≤ _
      omega
end Go.Proofs.YtegppacnkfeaoaaGreatDoor.G
