/- Texts towards the law LabelOrders, one behind the other: each begins with its own sentence. Conditions: each theorem's own. -/
import Derived.OpenShut
import Derived.ProofKit
import Derived.SizedLaws
import Derived.ChangeSame
import Derived.WideShapes
import Derived.Test.YtdhilbefeehbaaaDoorBLabelOrders2
import Derived.Test.YtdhilbefeehbaaaDoorBLabelOrders0
import Derived.Test.YtdhilbefeehbaaaDoorBLabelOrders1
import Derived.Test.YtdhilbefeehbaaaDoorWMore
/- Go functions as Lean functions, each with its contract: written by a program of mine over the kit's print. Conditions: each contract's own. -/
namespace Go.Proofs.YtdhilbefeehbaaaDoor.G
open Go.RowKit Go.Proofs.YtdhilbefeehbaaaDoorW.PrintWords Go.Proofs.YtdhilbefeehbaaaDoorW.PrintLast Go.Proofs.YtdhilbefeehbaaaDoorW.PrintMore
attribute [local go_sem] max2_int min2_int max_two min_two max_three min_three max_four min_four   -- for this text's walks alone
set_option linter.unusedVariables false
set_option linter.unusedSimpArgs false
attribute [local go_sem high] eqA24
set_option maxHeartbeats 8000000 in
set_option maxRecDepth 100000 in
theorem bloomerylaw13_LabelOrders.calls (k : Nat) (a0_0 : ByteArray) (a0_1 : ByteArray) (a1_0 : ByteArray) (a1_1 : ByteArray) (a2_0 : ByteArray) (a2_1 : ByteArray) (r : Bool) (w : World) (h : bloomerylaw13_LabelOrders.f k a0_0 a0_1 a1_0 a1_1 a2_0 a2_1 = some r) :
  Calls Tryd.prog 6 #[.agg #[.string a0_0, .string a0_1], .agg #[.string a1_0, .string a1_1], .agg #[.string a2_0, .string a2_1]] w fun e w' => e = .returned (.bool r) ∧ Below w.heap.size w w' := by
 have hu24 := Tryd.underlying24
 have HB := Aside0.mk (Below.refl w.heap.size w)
 have H : ((bloomerylaw13_alive.f k).bind fun t242 => (if t242 = true then (if (wrap64 ((wrap64 ((wrap64 ((wrap64 ((wrap64 ((a0_0.size : Int) + (a0_1.size : Int))) + (a1_0.size : Int))) + (a1_1.size : Int))) + (a2_0.size : Int))) + (a2_1.size : Int))) > 4000 then (some true) else ((label_Less.f k a0_0 a0_1 a1_0 a1_1).bind fun t243 => ((label_Less.f k a1_0 a1_1 a0_0 a0_1).bind fun t244 => ((label_Less.f k a1_0 a1_1 a2_0 a2_1).bind fun t245 => ((label_Less.f k a0_0 a0_1 a2_0 a2_1).bind fun t246 => ((bloomeryref13_Less.f a0_0 a0_1 a1_0 a1_1).bind fun t247 => (if (t243 != t247) = true then (some false) else ((bloomeryref13_Less.f a1_0 a1_1 a2_0 a2_1).bind fun t248 => (if (t245 != t248) = true then (some false) else ((bloomeryref13_Less.f a0_0 a0_1 a2_0 a2_1).bind fun t249 => (if (t246 != t249) = true then (some false) else (if t243 = true then (if t244 = true then (some false) else (if (true == (!(a0_0.toList == a1_0.toList) || (!(a0_1.toList == a1_1.toList)))) = true then (if t245 = true then (some t246) else (some true)) else (some false))) else (if (t244 == (!(a0_0.toList == a1_0.toList) || (!(a0_1.toList == a1_1.toList)))) = true then (some true) else (some false)))))))))))))) else (some false))) = some r := h
 clear h
 replace H := Option.bind_eq_some_iff.mp H
 obtain ⟨t242, A40, H⟩ := H
 replace H : (if t242 = true then (if (wrap64 ((wrap64 ((wrap64 ((wrap64 ((wrap64 ((a0_0.size : Int) + (a0_1.size : Int))) + (a1_0.size : Int))) + (a1_1.size : Int))) + (a2_0.size : Int))) + (a2_1.size : Int))) > 4000 then (some true) else ((label_Less.f k a0_0 a0_1 a1_0 a1_1).bind fun t243 => ((label_Less.f k a1_0 a1_1 a0_0 a0_1).bind fun t244 => ((label_Less.f k a1_0 a1_1 a2_0 a2_1).bind fun t245 => ((label_Less.f k a0_0 a0_1 a2_0 a2_1).bind fun t246 => ((bloomeryref13_Less.f a0_0 a0_1 a1_0 a1_1).bind fun t247 => (if (t243 != t247) = true then (some false) else ((bloomeryref13_Less.f a1_0 a1_1 a2_0 a2_1).bind fun t248 => (if (t245 != t248) = true then (some false) else ((bloomeryref13_Less.f a0_0 a0_1 a2_0 a2_1).bind fun t249 => (if (t246 != t249) = true then (some false) else (if t243 = true then (if t244 = true then (some false) else (if (true == (!(a0_0.toList == a1_0.toList) || (!(a0_1.toList == a1_1.toList)))) = true then (if t245 = true then (some t246) else (some true)) else (some false))) else (if (t244 == (!(a0_0.toList == a1_0.toList) || (!(a0_1.toList == a1_1.toList)))) = true then (some true) else (some false)))))))))))))) else (some false)) = some r := H
 have A4 := Aside0.mk A40
 clear A40
 by_cases c5 : t242 = true
 ·subst c5
  have H1 : (if (wrap64 ((wrap64 ((wrap64 ((wrap64 ((wrap64 ((a0_0.size : Int) + (a0_1.size : Int))) + (a1_0.size : Int))) + (a1_1.size : Int))) + (a2_0.size : Int))) + (a2_1.size : Int))) > 4000 then (some true) else ((label_Less.f k a0_0 a0_1 a1_0 a1_1).bind fun t243 => ((label_Less.f k a1_0 a1_1 a0_0 a0_1).bind fun t244 => ((label_Less.f k a1_0 a1_1 a2_0 a2_1).bind fun t245 => ((label_Less.f k a0_0 a0_1 a2_0 a2_1).bind fun t246 => ((bloomeryref13_Less.f a0_0 a0_1 a1_0 a1_1).bind fun t247 => (if (t243 != t247) = true then (some false) else ((bloomeryref13_Less.f a1_0 a1_1 a2_0 a2_1).bind fun t248 => (if (t245 != t248) = true then (some false) else ((bloomeryref13_Less.f a0_0 a0_1 a2_0 a2_1).bind fun t249 => (if (t246 != t249) = true then (some false) else (if t243 = true then (if t244 = true then (some false) else (if (true == (!(a0_0.toList == a1_0.toList) || (!(a0_1.toList == a1_1.toList)))) = true then (if t245 = true then (some t246) else (some true)) else (some false))) else (if (t244 == (!(a0_0.toList == a1_0.toList) || (!(a0_1.toList == a1_1.toList)))) = true then (some true) else (some false)))))))))))))) = some r := by rw [if_pos rfl] at H; exact H
  clear H
  have H := H1
  clear H1
  by_cases c6 : (wrap64 ((wrap64 ((wrap64 ((wrap64 ((wrap64 ((a0_0.size : Int) + (a0_1.size : Int))) + (a1_0.size : Int))) + (a1_1.size : Int))) + (a2_0.size : Int))) + (a2_1.size : Int))) > 4000
  ·rw [if_pos c6] at H
   have c6b0 : decide (4000 < (wrap64 ((wrap64 ((wrap64 ((wrap64 ((wrap64 ((a0_0.size : Int) + (a0_1.size : Int))) + (a1_0.size : Int))) + (a1_1.size : Int))) + (a2_0.size : Int))) + (a2_1.size : Int)))) = true := decide_eq_true c6
   clear c6
   obtain rfl := Option.some.inj H
   go_enter Tryd.func6, Tryd.ntmps6
   go_wp2_with (first | ((with_reducible refine gate_dst (N := 3) rfl ?_); refine box_event ?hg (N := 3) ?hd (cs := #[.string a0_0, .string a0_1]) (t := 24) ?hr ?_; (case hd => rfl); (case hg => rfl); (case hr => first | (go_simp; done) | (go_simp; rfl)); intro gb239 hg w7 hbox hb; have n0_ := Aside0.mk (below_step (by repeat (first | (with_reducible first | exact HB.out | apply below_alloc | apply pw_below_drewN | apply below_drew1) | exact HB.out)) hb); have n1_ := Aside0.mk (hbox); have n2_ := Aside0.mk ((by rw [hg]; exact (below_size (by repeat (first | (with_reducible first | exact HB.out | apply below_alloc | apply pw_below_drewN | apply below_drew1) | exact HB.out))) : w.heap.size ≤ gb239)); have n3_ := Aside0.mk ((by rw [hg]; exact (below_size (by repeat (first | (with_reducible first | exact HB.out | apply below_alloc | apply pw_below_drewN | apply below_drew1) | exact HB.out))) : w.heap.size ≤ gb239)); clear HB; have HB := n0_; have BK239 := n1_; have GW239 := n2_; have GE239 := n3_; clear n0_ n1_ n2_ n3_; clear hb hbox hg) | ((with_reducible refine gate_dst (N := 4) rfl ?_); refine box_event ?hg (N := 4) ?hd (cs := #[.string a1_0, .string a1_1]) (t := 24) ?hr ?_; (case hd => rfl); (case hg => rfl); (case hr => first | (go_simp; done) | (go_simp; rfl)); intro gb240 hg w8 hbox hb; have n0_ := Aside0.mk (blk_below (g := gb239) (o := .cells #[.string a0_0, .string a0_1] 24 (0, 0)) (by (with_reducible repeat (first | refine blk_drewN ?_ _ | refine blk_drew ?_ | refine blk_alloc ?_ _)); exact BK239.out) hb); have n1_ := Aside0.mk (below_step (by repeat (first | (with_reducible first | exact HB.out | apply below_alloc | apply pw_below_drewN | apply below_drew1 | refine below_set ?_ GE239.out) | exact HB.out)) hb); have n2_ := Aside0.mk (hbox); have n3_ := Aside0.mk ((by rw [hg]; exact (below_size (by repeat (first | (with_reducible first | exact HB.out | apply below_alloc | apply pw_below_drewN | apply below_drew1 | refine below_set ?_ GE239.out) | exact HB.out))) : w.heap.size ≤ gb240)); have n4_ := Aside0.mk ((by rw [hg]; exact (below_size (by repeat (first | (with_reducible first | exact HB.out | apply below_alloc | apply pw_below_drewN | apply below_drew1 | refine below_set ?_ GE239.out) | exact HB.out))) : w.heap.size ≤ gb240)); have n5_ := Aside0.mk ((by rw [hg]; exact Nat.ne_of_lt (blk_lt (g := gb239) (o := .cells #[.string a0_0, .string a0_1] 24 (0, 0)) (by (with_reducible repeat (first | refine blk_drewN ?_ _ | refine blk_drew ?_ | refine blk_alloc ?_ _)); exact BK239.out)) : gb239 ≠ gb240)); have n6_ := Aside0.mk ((by rw [hg]; exact Nat.ne_of_gt (blk_lt (g := gb239) (o := .cells #[.string a0_0, .string a0_1] 24 (0, 0)) (by (with_reducible repeat (first | refine blk_drewN ?_ _ | refine blk_drew ?_ | refine blk_alloc ?_ _)); exact BK239.out)) : gb240 ≠ gb239)); clear BK239; clear HB; have BK239 := n0_; have HB := n1_; have BK240 := n2_; have GW240 := n3_; have GE240 := n4_; have NB239_240 := n5_; have NB240_239 := n6_; clear n0_ n1_ n2_ n3_ n4_ n5_ n6_; clear hb hbox hg) | ((with_reducible refine gate_dst (N := 5) rfl ?_); refine box_event ?hg (N := 5) ?hd (cs := #[.string a2_0, .string a2_1]) (t := 24) ?hr ?_; (case hd => rfl); (case hg => rfl); (case hr => first | (go_simp; done) | (go_simp; rfl)); intro gb241 hg w9 hbox hb; have n0_ := Aside0.mk (blk_below (g := gb239) (o := .cells #[.string a0_0, .string a0_1] 24 (0, 0)) (by (with_reducible repeat (first | refine blk_drewN ?_ _ | refine blk_drew ?_ | refine blk_alloc ?_ _)); exact BK239.out) hb); have n1_ := Aside0.mk (blk_below (g := gb240) (o := .cells #[.string a1_0, .string a1_1] 24 (0, 0)) (by (with_reducible repeat (first | refine blk_drewN ?_ _ | refine blk_drew ?_ | refine blk_alloc ?_ _)); exact BK240.out) hb); have n2_ := Aside0.mk (below_step (by repeat (first | (with_reducible first | exact HB.out | apply below_alloc | apply pw_below_drewN | apply below_drew1 | refine below_set ?_ GE239.out | refine below_set ?_ GE240.out) | exact HB.out)) hb); have n3_ := Aside0.mk (hbox); have n4_ := Aside0.mk ((by rw [hg]; exact (below_size (by repeat (first | (with_reducible first | exact HB.out | apply below_alloc | apply pw_below_drewN | apply below_drew1 | refine below_set ?_ GE239.out | refine below_set ?_ GE240.out) | exact HB.out))) : w.heap.size ≤ gb241)); have n5_ := Aside0.mk ((by rw [hg]; exact (below_size (by repeat (first | (with_reducible first | exact HB.out | apply below_alloc | apply pw_below_drewN | apply below_drew1 | refine below_set ?_ GE239.out | refine below_set ?_ GE240.out) | exact HB.out))) : w.heap.size ≤ gb241)); have n6_ := Aside0.mk ((by rw [hg]; exact Nat.ne_of_lt (blk_lt (g := gb239) (o := .cells #[.string a0_0, .string a0_1] 24 (0, 0)) (by (with_reducible repeat (first | refine blk_drewN ?_ _ | refine blk_drew ?_ | refine blk_alloc ?_ _)); exact BK239.out)) : gb239 ≠ gb241)); have n7_ := Aside0.mk ((by rw [hg]; exact Nat.ne_of_gt (blk_lt (g := gb239) (o := .cells #[.string a0_0, .string a0_1] 24 (0, 0)) (by (with_reducible repeat (first | refine blk_drewN ?_ _ | refine blk_drew ?_ | refine blk_alloc ?_ _)); exact BK239.out)) : gb241 ≠ gb239)); have n8_ := Aside0.mk ((by rw [hg]; exact Nat.ne_of_lt (blk_lt (g := gb240) (o := .cells #[.string a1_0, .string a1_1] 24 (0, 0)) (by (with_reducible repeat (first | refine blk_drewN ?_ _ | refine blk_drew ?_ | refine blk_alloc ?_ _)); exact BK240.out)) : gb240 ≠ gb241)); have n9_ := Aside0.mk ((by rw [hg]; exact Nat.ne_of_gt (blk_lt (g := gb240) (o := .cells #[.string a1_0, .string a1_1] 24 (0, 0)) (by (with_reducible repeat (first | refine blk_drewN ?_ _ | refine blk_drew ?_ | refine blk_alloc ?_ _)); exact BK240.out)) : gb241 ≠ gb240)); clear BK239; clear BK240; clear HB; have BK239 := n0_; have BK240 := n1_; have HB := n2_; have BK241 := n3_; have GW241 := n4_; have GE241 := n5_; have NB239_241 := n6_; have NB241_239 := n7_; have NB240_241 := n8_; have NB241_240 := n9_; clear n0_ n1_ n2_ n3_ n4_ n5_ n6_ n7_ n8_ n9_; clear hb hbox hg) | ((with_reducible refine gate_callee (f := 7) rfl ?_); refine goesL_ (some 11) rfl rfl Tryd.func7 (by kernel_rfl) rfl #[] rfl (by (try simp only [List.map_toArray, List.map_cons, List.map_nil]); first | done | rfl | (simp only [List.length_drop, List.length_take]; rfl)) ?_; (with_reducible refine (bloomerylaw13_alive.calls k  true _ A4.out).mono ?_); rintro e w10 ⟨rfl, hb⟩; refine ⟨_, rfl, ?_⟩; have n0_ := Aside0.mk (blk_below (g := gb239) (o := .cells #[.string a0_0, .string a0_1] 24 (0, 0)) (by (with_reducible repeat (first | refine blk_drewN ?_ _ | refine blk_drew ?_ | refine blk_alloc ?_ _)); exact BK239.out) hb); have n1_ := Aside0.mk (blk_below (g := gb240) (o := .cells #[.string a1_0, .string a1_1] 24 (0, 0)) (by (with_reducible repeat (first | refine blk_drewN ?_ _ | refine blk_drew ?_ | refine blk_alloc ?_ _)); exact BK240.out) hb); have n2_ := Aside0.mk (blk_below (g := gb241) (o := .cells #[.string a2_0, .string a2_1] 24 (0, 0)) (by (with_reducible repeat (first | refine blk_drewN ?_ _ | refine blk_drew ?_ | refine blk_alloc ?_ _)); exact BK241.out) hb); have n3_ := Aside0.mk (below_step (by repeat (first | (with_reducible first | exact HB.out | apply below_alloc | apply pw_below_drewN | apply below_drew1 | refine below_set ?_ GE239.out | refine below_set ?_ GE240.out | refine below_set ?_ GE241.out) | exact HB.out)) hb); clear BK239; clear BK240; clear BK241; clear HB; have BK239 := n0_; have BK240 := n1_; have BK241 := n2_; have HB := n3_; clear n0_ n1_ n2_ n3_; (try clear hb); (try clear hb2); (try clear hk); (try clear hi); have hnb11 := NB239_240.out; have hnc11 := NB240_239.out; have hnb12 := NB239_241.out; have hnc12 := NB241_239.out; have hcz13_0 : w10.cell? ⟨gb239, 0, none⟩ = some (.string a0_0) := (blk_cell BK239.out 0).trans rfl; have hcz13_1 : w10.cell? ⟨gb239, 1, none⟩ = some (.string a0_1) := (blk_cell BK239.out 1).trans rfl; have hfz13_0 := blk_frozen BK239.out 0; have hfz13_1 := blk_frozen BK239.out 1; have hnb14 := NB240_241.out; have hnc14 := NB241_240.out; have hcz15_0 : w10.cell? ⟨gb240, 0, none⟩ = some (.string a1_0) := (blk_cell BK240.out 0).trans rfl; have hcz15_1 : w10.cell? ⟨gb240, 1, none⟩ = some (.string a1_1) := (blk_cell BK240.out 1).trans rfl; have hfz15_0 := blk_frozen BK240.out 0; have hfz15_1 := blk_frozen BK240.out 1; have hcz16_0 : w10.cell? ⟨gb241, 0, none⟩ = some (.string a2_0) := (blk_cell BK241.out 0).trans rfl; have hcz16_1 : w10.cell? ⟨gb241, 1, none⟩ = some (.string a2_1) := (blk_cell BK241.out 1).trans rfl; have hfz16_0 := blk_frozen BK241.out 0; have hfz16_1 := blk_frozen BK241.out 1))
   go_ret
   exact ⟨by first | rfl | (simp [errW_none, errW_some] <;> rfl) | (simp [*, errW_none, errW_some] <;> rfl), by repeat (first | (with_reducible first | exact HB.out | apply below_alloc | apply pw_below_drewN | apply below_drew1 | refine below_set ?_ GE239.out | refine below_set ?_ GE240.out | refine below_set ?_ GE241.out) | exact HB.out)⟩
  ·rw [if_neg c6] at H
   have c6b0 : decide (4000 < (wrap64 ((wrap64 ((wrap64 ((wrap64 ((wrap64 ((a0_0.size : Int) + (a0_1.size : Int))) + (a1_0.size : Int))) + (a1_1.size : Int))) + (a2_0.size : Int))) + (a2_1.size : Int)))) = false := decide_eq_false c6
   clear c6
   replace H := Option.bind_eq_some_iff.mp H
   obtain ⟨t243, A170, H⟩ := H
   replace H : ((label_Less.f k a1_0 a1_1 a0_0 a0_1).bind fun t244 => ((label_Less.f k a1_0 a1_1 a2_0 a2_1).bind fun t245 => ((label_Less.f k a0_0 a0_1 a2_0 a2_1).bind fun t246 => ((bloomeryref13_Less.f a0_0 a0_1 a1_0 a1_1).bind fun t247 => (if (t243 != t247) = true then (some false) else ((bloomeryref13_Less.f a1_0 a1_1 a2_0 a2_1).bind fun t248 => (if (t245 != t248) = true then (some false) else ((bloomeryref13_Less.f a0_0 a0_1 a2_0 a2_1).bind fun t249 => (if (t246 != t249) = true then (some false) else (if t243 = true then (if t244 = true then (some false) else (if (true == (!(a0_0.toList == a1_0.toList) || (!(a0_1.toList == a1_1.toList)))) = true then (if t245 = true then (some t246) else (some true)) else (some false))) else (if (t244 == (!(a0_0.toList == a1_0.toList) || (!(a0_1.toList == a1_1.toList)))) = true then (some true) else (some false)))))))))))) = some r := H
   have A17 := Aside0.mk A170
   clear A170
   replace H := Option.bind_eq_some_iff.mp H
   obtain ⟨t244, A180, H⟩ := H
   replace H : ((label_Less.f k a1_0 a1_1 a2_0 a2_1).bind fun t245 => ((label_Less.f k a0_0 a0_1 a2_0 a2_1).bind fun t246 => ((bloomeryref13_Less.f a0_0 a0_1 a1_0 a1_1).bind fun t247 => (if (t243 != t247) = true then (some false) else ((bloomeryref13_Less.f a1_0 a1_1 a2_0 a2_1).bind fun t248 => (if (t245 != t248) = true then (some false) else ((bloomeryref13_Less.f a0_0 a0_1 a2_0 a2_1).bind fun t249 => (if (t246 != t249) = true then (some false) else (if t243 = true then (if t244 = true then (some false) else (if (true == (!(a0_0.toList == a1_0.toList) || (!(a0_1.toList == a1_1.toList)))) = true then (if t245 = true then (some t246) else (some true)) else (some false))) else (if (t244 == (!(a0_0.toList == a1_0.toList) || (!(a0_1.toList == a1_1.toList)))) = true then (some true) else (some false))))))))))) = some r := H
   have A18 := Aside0.mk A180
   clear A180
   replace H := Option.bind_eq_some_iff.mp H
   obtain ⟨t245, A190, H⟩ := H
   replace H : ((label_Less.f k a0_0 a0_1 a2_0 a2_1).bind fun t246 => ((bloomeryref13_Less.f a0_0 a0_1 a1_0 a1_1).bind fun t247 => (if (t243 != t247) = true then (some false) else ((bloomeryref13_Less.f a1_0 a1_1 a2_0 a2_1).bind fun t248 => (if (t245 != t248) = true then (some false) else ((bloomeryref13_Less.f a0_0 a0_1 a2_0 a2_1).bind fun t249 => (if (t246 != t249) = true then (some false) else (if t243 = true then (if t244 = true then (some false) else (if (true == (!(a0_0.toList == a1_0.toList) || (!(a0_1.toList == a1_1.toList)))) = true then (if t245 = true then (some t246) else (some true)) else (some false))) else (if (t244 == (!(a0_0.toList == a1_0.toList) || (!(a0_1.toList == a1_1.toList)))) = true then (some true) else (some false)))))))))) = some r := H
   have A19 := Aside0.mk A190
   clear A190
   replace H := Option.bind_eq_some_iff.mp H
   obtain ⟨t246, A200, H⟩ := H
   replace H : ((bloomeryref13_Less.f a0_0 a0_1 a1_0 a1_1).bind fun t247 => (if (t243 != t247) = true then (some false) else ((bloomeryref13_Less.f a1_0 a1_1 a2_0 a2_1).bind fun t248 => (if (t245 != t248) = true then (some false) else ((bloomeryref13_Less.f a0_0 a0_1 a2_0 a2_1).bind fun t249 => (if (t246 != t249) = true then (some false) else (if t243 = true then (if t244 = true then (some false) else (if (true == (!(a0_0.toList == a1_0.toList) || (!(a0_1.toList == a1_1.toList)))) = true then (if t245 = true then (some t246) else (some true)) else (some false))) else (if (t244 == (!(a0_0.toList == a1_0.toList) || (!(a0_1.toList == a1_1.toList)))) = true then (some true) else (some false))))))))) = some r := H
   have A20 := Aside0.mk A200
   clear A200
   replace H := Option.bind_eq_some_iff.mp H
   obtain ⟨t247, A210, H⟩ := H
   replace H : (if (t243 != t247) = true then (some false) else ((bloomeryref13_Less.f a1_0 a1_1 a2_0 a2_1).bind fun t248 => (if (t245 != t248) = true then (some false) else ((bloomeryref13_Less.f a0_0 a0_1 a2_0 a2_1).bind fun t249 => (if (t246 != t249) = true then (some false) else (if t243 = true then (if t244 = true then (some false) else (if (true == (!(a0_0.toList == a1_0.toList) || (!(a0_1.toList == a1_1.toList)))) = true then (if t245 = true then (some t246) else (some true)) else (some false))) else (if (t244 == (!(a0_0.toList == a1_0.toList) || (!(a0_1.toList == a1_1.toList)))) = true then (some true) else (some false)))))))) = some r := H
   have A21 := Aside0.mk A210
   clear A210
   by_cases c22 : (t243 != t247) = true
   ·rw [if_pos c22] at H
    have c22b0 : (t243 != t247) = true := c22
    (try (have c22b1 : decide (t243 = t247) = false := by simpa using c22))
    (try (have c22b2 : (t243 == t247) = false := by simpa using c22))
    (try (have c22b3 : ¬ (t243 = t247) := by simpa using c22))
    clear c22
    obtain rfl := Option.some.inj H
    go_enter Tryd.func6, Tryd.ntmps6
    try go_wp2_with (first | ((with_reducible refine gate_dst (N := 3) rfl ?_); refine box_event ?hg (N := 3) ?hd (cs := #[.string a0_0, .string a0_1]) (t := 24) ?hr ?_; (case hd => rfl); (case hg => rfl); (case hr => first | (go_simp; done) | (go_simp; rfl)); intro gb239 hg w23 hbox hb; have n0_ := Aside0.mk (below_step (by repeat (first | (with_reducible first | exact HB.out | apply below_alloc | apply pw_below_drewN | apply below_drew1) | exact HB.out)) hb); have n1_ := Aside0.mk (hbox); have n2_ := Aside0.mk ((by rw [hg]; exact (below_size (by repeat (first | (with_reducible first | exact HB.out | apply below_alloc | apply pw_below_drewN | apply below_drew1) | exact HB.out))) : w.heap.size ≤ gb239)); have n3_ := Aside0.mk ((by rw [hg]; exact (below_size (by repeat (first | (with_reducible first | exact HB.out | apply below_alloc | apply pw_below_drewN | apply below_drew1) | exact HB.out))) : w.heap.size ≤ gb239)); clear HB; have HB := n0_; have BK239 := n1_; have GW239 := n2_; have GE239 := n3_; clear n0_ n1_ n2_ n3_; clear hb hbox hg) | ((with_reducible refine gate_dst (N := 4) rfl ?_); refine box_event ?hg (N := 4) ?hd (cs := #[.string a1_0, .string a1_1]) (t := 24) ?hr ?_; (case hd => rfl); (case hg => rfl); (case hr => first | (go_simp; done) | (go_simp; rfl)); intro gb240 hg w24 hbox hb; have n0_ := Aside0.mk (blk_below (g := gb239) (o := .cells #[.string a0_0, .string a0_1] 24 (0, 0)) (by (with_reducible repeat (first | refine blk_drewN ?_ _ | refine blk_drew ?_ | refine blk_alloc ?_ _)); exact BK239.out) hb); have n1_ := Aside0.mk (below_step (by repeat (first | (with_reducible first | exact HB.out | apply below_alloc | apply pw_below_drewN | apply below_drew1 | refine below_set ?_ GE239.out) | exact HB.out)) hb); have n2_ := Aside0.mk (hbox); have n3_ := Aside0.mk ((by rw [hg]; exact (below_size (by repeat (first | (with_reducible first | exact HB.out | apply below_alloc | apply pw_below_drewN | apply below_drew1 | refine below_set ?_ GE239.out) | exact HB.out))) : w.heap.size ≤ gb240)); have n4_ := Aside0.mk ((by rw [hg]; exact (below_size (by repeat (first | (with_reducible first | exact HB.out | apply below_alloc | apply pw_below_drewN | apply below_drew1 | refine below_set ?_ GE239.out) | exact HB.out))) : w.heap.size ≤ gb240)); have n5_ := Aside0.mk ((by rw [hg]; exact Nat.ne_of_lt (blk_lt (g := gb239) (o := .cells #[.string a0_0, .string a0_1] 24 (0, 0)) (by (with_reducible repeat (first | refine blk_drewN ?_ _ | refine blk_drew ?_ | refine blk_alloc ?_ _)); exact BK239.out)) : gb239 ≠ gb240)); have n6_ := Aside0.mk ((by rw [hg]; exact Nat.ne_of_gt (blk_lt (g := gb239) (o := .cells #[.string a0_0, .string a0_1] 24 (0, 0)) (by (with_reducible repeat (first | refine blk_drewN ?_ _ | refine blk_drew ?_ | refine blk_alloc ?_ _)); exact BK239.out)) : gb240 ≠ gb239)); clear BK239; clear HB; have BK239 := n0_; have HB := n1_; have BK240 := n2_; have GW240 := n3_; have GE240 := n4_; have NB239_240 := n5_; have NB240_239 := n6_; clear n0_ n1_ n2_ n3_ n4_ n5_ n6_; clear hb hbox hg) | ((with_reducible refine gate_dst (N := 5) rfl ?_); refine box_event ?hg (N := 5) ?hd (cs := #[.string a2_0, .string a2_1]) (t := 24) ?hr ?_; (case hd => rfl); (case hg => rfl); (case hr => first | (go_simp; done) | (go_simp; rfl)); intro gb241 hg w25 hbox hb; have n0_ := Aside0.mk (blk_below (g := gb239) (o := .cells #[.string a0_0, .string a0_1] 24 (0, 0)) (by (with_reducible repeat (first | refine blk_drewN ?_ _ | refine blk_drew ?_ | refine blk_alloc ?_ _)); exact BK239.out) hb); have n1_ := Aside0.mk (blk_below (g := gb240) (o := .cells #[.string a1_0, .string a1_1] 24 (0, 0)) (by (with_reducible repeat (first | refine blk_drewN ?_ _ | refine blk_drew ?_ | refine blk_alloc ?_ _)); exact BK240.out) hb); have n2_ := Aside0.mk (below_step (by repeat (first | (with_reducible first | exact HB.out | apply below_alloc | apply pw_below_drewN | apply below_drew1 | refine below_set ?_ GE239.out | refine below_set ?_ GE240.out) | exact HB.out)) hb); have n3_ := Aside0.mk (hbox); have n4_ := Aside0.mk ((by rw [hg]; exact (below_size (by repeat (first | (with_reducible first | exact HB.out | apply below_alloc | apply pw_below_drewN | apply below_drew1 | refine below_set ?_ GE239.out | refine below_set ?_ GE240.out) | exact HB.out))) : w.heap.size ≤ gb241)); have n5_ := Aside0.mk ((by rw [hg]; exact (below_size (by repeat (first | (with_reducible first | exact HB.out | apply below_alloc | apply pw_below_drewN | apply below_drew1 | refine below_set ?_ GE239.out | refine below_set ?_ GE240.out) | exact HB.out))) : w.heap.size ≤ gb241)); have n6_ := Aside0.mk ((by rw [hg]; exact Nat.ne_of_lt (blk_lt (g := gb239) (o := .cells #[.string a0_0, .string a0_1] 24 (0, 0)) (by (with_reducible repeat (first | refine blk_drewN ?_ _ | refine blk_drew ?_ | refine blk_alloc ?_ _)); exact BK239.out)) : gb239 ≠ gb241)); have n7_ := Aside0.mk ((by rw [hg]; exact Nat.ne_of_gt (blk_lt (g := gb239) (o := .cells #[.string a0_0, .string a0_1] 24 (0, 0)) (by (with_reducible repeat (first | refine blk_drewN ?_ _ | refine blk_drew ?_ | refine blk_alloc ?_ _)); exact BK239.out)) : gb241 ≠ gb239)); have n8_ := Aside0.mk ((by rw [hg]; exact Nat.ne_of_lt (blk_lt (g := gb240) (o := .cells #[.string a1_0, .string a1_1] 24 (0, 0)) (by (with_reducible repeat (first | refine blk_drewN ?_ _ | refine blk_drew ?_ | refine blk_alloc ?_ _)); exact BK240.out)) : gb240 ≠ gb241)); have n9_ := Aside0.mk ((by rw [hg]; exact Nat.ne_of_gt (blk_lt (g := gb240) (o := .cells #[.string a1_0, .string a1_1] 24 (0, 0)) (by (with_reducible repeat (first | refine blk_drewN ?_ _ | refine blk_drew ?_ | refine blk_alloc ?_ _)); exact BK240.out)) : gb241 ≠ gb240)); clear BK239; clear BK240; clear HB; have BK239 := n0_; have BK240 := n1_; have HB := n2_; have BK241 := n3_; have GW241 := n4_; have GE241 := n5_; have NB239_241 := n6_; have NB241_239 := n7_; have NB240_241 := n8_; have NB241_240 := n9_; clear n0_ n1_ n2_ n3_ n4_ n5_ n6_ n7_ n8_ n9_; clear hb hbox hg) | ((with_reducible refine gate_callee (f := 7) rfl ?_); refine goesL_ (some 11) rfl rfl Tryd.func7 (by kernel_rfl) rfl #[] rfl (by (try simp only [List.map_toArray, List.map_cons, List.map_nil]); first | done | rfl | (simp only [List.length_drop, List.length_take]; rfl)) ?_; (with_reducible refine (bloomerylaw13_alive.calls k  true _ A4.out).mono ?_); rintro e w26 ⟨rfl, hb⟩; refine ⟨_, rfl, ?_⟩; have n0_ := Aside0.mk (blk_below (g := gb239) (o := .cells #[.string a0_0, .string a0_1] 24 (0, 0)) (by (with_reducible repeat (first | refine blk_drewN ?_ _ | refine blk_drew ?_ | refine blk_alloc ?_ _)); exact BK239.out) hb); have n1_ := Aside0.mk (blk_below (g := gb240) (o := .cells #[.string a1_0, .string a1_1] 24 (0, 0)) (by (with_reducible repeat (first | refine blk_drewN ?_ _ | refine blk_drew ?_ | refine blk_alloc ?_ _)); exact BK240.out) hb); have n2_ := Aside0.mk (blk_below (g := gb241) (o := .cells #[.string a2_0, .string a2_1] 24 (0, 0)) (by (with_reducible repeat (first | refine blk_drewN ?_ _ | refine blk_drew ?_ | refine blk_alloc ?_ _)); exact BK241.out) hb); have n3_ := Aside0.mk (below_step (by repeat (first | (with_reducible first | exact HB.out | apply below_alloc | apply pw_below_drewN | apply below_drew1 | refine below_set ?_ GE239.out | refine below_set ?_ GE240.out | refine below_set ?_ GE241.out) | exact HB.out)) hb); clear BK239; clear BK240; clear BK241; clear HB; have BK239 := n0_; have BK240 := n1_; have BK241 := n2_; have HB := n3_; clear n0_ n1_ n2_ n3_; (try clear hb); (try clear hb2); (try clear hk); (try clear hi); have hnb27 := NB239_240.out; have hnc27 := NB240_239.out; have hnb28 := NB239_241.out; have hnc28 := NB241_239.out; have hcz29_0 : w26.cell? ⟨gb239, 0, none⟩ = some (.string a0_0) := (blk_cell BK239.out 0).trans rfl; have hcz29_1 : w26.cell? ⟨gb239, 1, none⟩ = some (.string a0_1) := (blk_cell BK239.out 1).trans rfl; have hfz29_0 := blk_frozen BK239.out 0; have hfz29_1 := blk_frozen BK239.out 1; have hnb30 := NB240_241.out; have hnc30 := NB241_240.out; have hcz31_0 : w26.cell? ⟨gb240, 0, none⟩ = some (.string a1_0) := (blk_cell BK240.out 0).trans rfl; have hcz31_1 : w26.cell? ⟨gb240, 1, none⟩ = some (.string a1_1) := (blk_cell BK240.out 1).trans rfl; have hfz31_0 := blk_frozen BK240.out 0; have hfz31_1 := blk_frozen BK240.out 1; have hcz32_0 : w26.cell? ⟨gb241, 0, none⟩ = some (.string a2_0) := (blk_cell BK241.out 0).trans rfl; have hcz32_1 : w26.cell? ⟨gb241, 1, none⟩ = some (.string a2_1) := (blk_cell BK241.out 1).trans rfl; have hfz32_0 := blk_frozen BK241.out 0; have hfz32_1 := blk_frozen BK241.out 1))
    have n0_ := Aside0.mk (blk_drew BK239.out)
    have n1_ := Aside0.mk (blk_drew BK240.out)
    have n2_ := Aside0.mk (blk_drew BK241.out)
    have n3_ := Aside0.mk (below_drew1 HB.out)
    clear BK239
    clear BK240
    clear BK241
    clear HB
    have BK239 := n0_
    have BK240 := n1_
    have BK241 := n2_
    have HB := n3_
    clear n0_ n1_ n2_ n3_
    refine start_ (n := 16) (S := fun w' => w'.cell? ⟨gb239, 0, none⟩ = some (.string a0_0) ∧ w'.cell? ⟨gb239, 1, none⟩ = some (.string a0_1) ∧ w'.cell? ⟨gb240, 0, none⟩ = some (.string a1_0) ∧ w'.cell? ⟨gb240, 1, none⟩ = some (.string a1_1) ∧ w'.cell? ⟨gb241, 0, none⟩ = some (.string a2_0) ∧ w'.cell? ⟨gb241, 1, none⟩ = some (.string a2_1)) (ds := []) #[false, false, false, false, false, false, false, false, false, false, false, false, false, false, false, false] (by kernel_rfl) rfl rfl ⟨(blk_cell BK239.out 0).trans rfl, (blk_cell BK239.out 1).trans rfl, (blk_cell BK240.out 0).trans rfl, (blk_cell BK240.out 1).trans rfl, (blk_cell BK241.out 0).trans rfl, (blk_cell BK241.out 1).trans rfl⟩ (fun hHeld => ?_); refine with_tabW bloomerylaw13_LabelOrders.tab5 bloomerylaw13_LabelOrders.bits5 (fun HT_ HW_ => ?_)
    generalize w26.drew = w33 at BK239 BK240 BK241 HB hHeld ⊢
    refine take_ (i := 0) (N := some 37) (v := ?_) (a' := ?_) #[true, false, false, false, false, false, false, false, false, false, false, false, false, false, false, false] rfl rfl (take_ofW HT_.out HW_.out (by kernel_rfl)) (fun _ _ _ h => h) (Or.inl ⟨by rfl, ?_⟩) hHeld ?_ ?_
    rotate_left
    ·rintro w' ⟨s0, s1, s2, s3, s4, s5⟩
     go_simp
     with_reducible rfl
    rotate_left
    ·simp only [Act.put, List.setIfInBounds_toArray, List.set_cons_zero, List.set_cons_succ, i64_w, i32_w]
     rfl
    refine take_ (i := 1) (N := some 38) (v := ?_) (a' := ?_) #[true, true, false, false, false, false, false, false, false, false, false, false, false, false, false, false] rfl rfl (take_ofW HT_.out HW_.out (by kernel_rfl)) (fun _ _ _ h => h) (Or.inl ⟨by rfl, ?_⟩) hHeld ?_ ?_
    rotate_left
    ·rintro w' ⟨s0, s1, s2, s3, s4, s5⟩
     go_simp
     with_reducible rfl
    rotate_left
    ·simp only [Act.put, List.setIfInBounds_toArray, List.set_cons_zero, List.set_cons_succ, i64_w, i32_w]
     rfl
    refine take_ (i := 3) (N := some 40) (v := ?_) (a' := ?_) #[true, true, false, true, false, false, false, false, false, false, false, false, false, false, false, false] rfl rfl (take_ofW HT_.out HW_.out (by kernel_rfl)) (fun _ _ _ h => h) (Or.inl ⟨by rfl, ?_⟩) hHeld ?_ ?_
    rotate_left
    ·rintro w' ⟨s0, s1, s2, s3, s4, s5⟩
     go_simp
     with_reducible rfl
    rotate_left
    ·simp only [Act.put, List.setIfInBounds_toArray, List.set_cons_zero, List.set_cons_succ, i64_w, i32_w]
     rfl
    refine take_ (i := 4) (N := some 41) (v := ?_) (a' := ?_) #[true, true, false, true, true, false, false, false, false, false, false, false, false, false, false, false] rfl rfl (take_ofW HT_.out HW_.out (by kernel_rfl)) (fun _ _ _ h => h) (Or.inl ⟨by rfl, ?_⟩) hHeld ?_ ?_
    rotate_left
    ·rintro w' ⟨s0, s1, s2, s3, s4, s5⟩
     go_simp
     with_reducible rfl
    rotate_left
    ·simp only [Act.put, List.setIfInBounds_toArray, List.set_cons_zero, List.set_cons_succ, i64_w, i32_w]
     rfl
    refine take_ (i := 6) (N := some 43) (v := ?_) (a' := ?_) #[true, true, false, true, true, false, true, false, false, false, false, false, false, false, false, false] rfl rfl (take_ofW HT_.out HW_.out (by kernel_rfl)) (fun _ _ _ h => h) (Or.inl ⟨by rfl, ?_⟩) hHeld ?_ ?_
    rotate_left
    ·rintro w' ⟨s0, s1, s2, s3, s4, s5⟩
     go_simp
     with_reducible rfl
    rotate_left
    ·simp only [Act.put, List.setIfInBounds_toArray, List.set_cons_zero, List.set_cons_succ, i64_w, i32_w]
     rfl
    refine take_ (i := 7) (N := some 44) (v := ?_) (a' := ?_) #[true, true, false, true, true, false, true, true, false, false, false, false, false, false, false, false] rfl rfl (take_ofW HT_.out HW_.out (by kernel_rfl)) (fun _ _ _ h => h) (Or.inl ⟨by rfl, ?_⟩) hHeld ?_ ?_
    rotate_left
    ·rintro w' ⟨s0, s1, s2, s3, s4, s5⟩
     go_simp
     with_reducible rfl
    rotate_left
    ·simp only [Act.put, List.setIfInBounds_toArray, List.set_cons_zero, List.set_cons_succ, i64_w, i32_w]
     rfl
    refine take_ (i := 9) (N := some 46) (v := ?_) (a' := ?_) #[true, true, false, true, true, false, true, true, false, true, false, false, false, false, false, false] rfl rfl (take_ofW HT_.out HW_.out (by kernel_rfl)) (fun _ _ _ h => h) (Or.inl ⟨by rfl, ?_⟩) hHeld ?_ ?_
    rotate_left
    ·rintro w' ⟨s0, s1, s2, s3, s4, s5⟩
     go_simp
     with_reducible rfl
    rotate_left
    ·simp only [Act.put, List.setIfInBounds_toArray, List.set_cons_zero, List.set_cons_succ, i64_w, i32_w]
     rfl
    refine take_ (i := 10) (N := some 47) (v := ?_) (a' := ?_) #[true, true, false, true, true, false, true, true, false, true, true, false, false, false, false, false] rfl rfl (take_ofW HT_.out HW_.out (by kernel_rfl)) (fun _ _ _ h => h) (Or.inl ⟨by rfl, ?_⟩) hHeld ?_ ?_
    rotate_left
    ·rintro w' ⟨s0, s1, s2, s3, s4, s5⟩
     go_simp
     with_reducible rfl
    rotate_left
    ·simp only [Act.put, List.setIfInBounds_toArray, List.set_cons_zero, List.set_cons_succ, i64_w, i32_w]
     rfl
    refine one_ (i := 2) (N := some 39) #[true, true, true, true, true, false, true, true, false, true, true, false, false, false, false, false] rfl rfl (one_of HT_.out (by kernel_rfl)) (by decide) (fun K hK => ?_)
    refine goes_ Tryd.func20 (by kernel_rfl) rfl #[.agg #[.string a0_0, .string a0_1], .agg #[.string a1_0, .string a1_1]] (by rfl) rfl rfl (by (try simp only [List.map_toArray, List.map_cons, List.map_nil]); first | done | rfl | (simp only [List.length_drop, List.length_take]; rfl)) ?_
    with_reducible refine (label_Less.calls k a0_0 a0_1 a1_0 a1_1 t243 _ A17.out).mono ?_
    rintro e w34 ⟨rfl, hb⟩
    refine ⟨_, rfl, ?_⟩
    have n0_ := Aside0.mk (blk_below (g := gb239) (o := .cells #[.string a0_0, .string a0_1] 24 (0, 0)) (by (with_reducible repeat (first | refine blk_drewN ?_ _ | refine blk_drew ?_ | refine blk_alloc ?_ _)); exact BK239.out) hb)
    have n1_ := Aside0.mk (blk_below (g := gb240) (o := .cells #[.string a1_0, .string a1_1] 24 (0, 0)) (by (with_reducible repeat (first | refine blk_drewN ?_ _ | refine blk_drew ?_ | refine blk_alloc ?_ _)); exact BK240.out) hb)
    have n2_ := Aside0.mk (blk_below (g := gb241) (o := .cells #[.string a2_0, .string a2_1] 24 (0, 0)) (by (with_reducible repeat (first | refine blk_drewN ?_ _ | refine blk_drew ?_ | refine blk_alloc ?_ _)); exact BK241.out) hb)
    have n3_ := Aside0.mk (below_step (by repeat (first | (with_reducible first | exact HB.out | apply below_alloc | apply pw_below_drewN | apply below_drew1 | refine below_set ?_ GE239.out | refine below_set ?_ GE240.out | refine below_set ?_ GE241.out) | exact HB.out)) hb)
    clear BK239
    clear BK240
    clear BK241
    clear HB
    have BK239 := n0_
    have BK240 := n1_
    have BK241 := n2_
    have HB := n3_
    clear n0_ n1_ n2_ n3_
    (try clear hb)
    (try clear hb2)
    (try clear hk)
    (try clear hi)
    refine hK.out _ _ ⟨(blk_cell BK239.out 0).trans rfl, (blk_cell BK239.out 1).trans rfl, (blk_cell BK240.out 0).trans rfl, (blk_cell BK240.out 1).trans rfl, (blk_cell BK241.out 0).trans rfl, (blk_cell BK241.out 1).trans rfl⟩ (fun hHeld => ?_)
    clear hK K
    refine norm_ (a' := ?_) ?_ ?_
    rotate_left
    ·show Act.put _ (some 39) _ = _
     simp only [Act.put, List.setIfInBounds_toArray, List.set_cons_zero, List.set_cons_succ, i64_w, i32_w]
     rfl
    refine one_ (i := 5) (N := some 42) #[true, true, true, true, true, true, true, true, false, true, true, false, false, false, false, false] rfl rfl (one_of HT_.out (by kernel_rfl)) (by decide) (fun K hK => ?_)
    refine goes_ Tryd.func20 (by kernel_rfl) rfl #[.agg #[.string a1_0, .string a1_1], .agg #[.string a0_0, .string a0_1]] (by rfl) rfl rfl (by (try simp only [List.map_toArray, List.map_cons, List.map_nil]); first | done | rfl | (simp only [List.length_drop, List.length_take]; rfl)) ?_
    with_reducible refine (label_Less.calls k a1_0 a1_1 a0_0 a0_1 t244 _ A18.out).mono ?_
    rintro e w35 ⟨rfl, hb⟩
    refine ⟨_, rfl, ?_⟩
    have n0_ := Aside0.mk (blk_below (g := gb239) (o := .cells #[.string a0_0, .string a0_1] 24 (0, 0)) (by (with_reducible repeat (first | refine blk_drewN ?_ _ | refine blk_drew ?_ | refine blk_alloc ?_ _)); exact BK239.out) hb)
    have n1_ := Aside0.mk (blk_below (g := gb240) (o := .cells #[.string a1_0, .string a1_1] 24 (0, 0)) (by (with_reducible repeat (first | refine blk_drewN ?_ _ | refine blk_drew ?_ | refine blk_alloc ?_ _)); exact BK240.out) hb)
    have n2_ := Aside0.mk (blk_below (g := gb241) (o := .cells #[.string a2_0, .string a2_1] 24 (0, 0)) (by (with_reducible repeat (first | refine blk_drewN ?_ _ | refine blk_drew ?_ | refine blk_alloc ?_ _)); exact BK241.out) hb)
    have n3_ := Aside0.mk (below_step (by repeat (first | (with_reducible first | exact HB.out | apply below_alloc | apply pw_below_drewN | apply below_drew1 | refine below_set ?_ GE239.out | refine below_set ?_ GE240.out | refine below_set ?_ GE241.out) | exact HB.out)) hb)
    clear BK239
    clear BK240
    clear BK241
    clear HB
    have BK239 := n0_
    have BK240 := n1_
    have BK241 := n2_
    have HB := n3_
    clear n0_ n1_ n2_ n3_
    (try clear hb)
    (try clear hb2)
    (try clear hk)
    (try clear hi)
    refine hK.out _ _ ⟨(blk_cell BK239.out 0).trans rfl, (blk_cell BK239.out 1).trans rfl, (blk_cell BK240.out 0).trans rfl, (blk_cell BK240.out 1).trans rfl, (blk_cell BK241.out 0).trans rfl, (blk_cell BK241.out 1).trans rfl⟩ (fun hHeld => ?_)
    clear hK K
    refine norm_ (a' := ?_) ?_ ?_
    rotate_left
    ·show Act.put _ (some 42) _ = _
     simp only [Act.put, List.setIfInBounds_toArray, List.set_cons_zero, List.set_cons_succ, i64_w, i32_w]
     rfl
    refine one_ (i := 8) (N := some 45) #[true, true, true, true, true, true, true, true, true, true, true, false, false, false, false, false] rfl rfl (one_of HT_.out (by kernel_rfl)) (by decide) (fun K hK => ?_)
    refine goes_ Tryd.func20 (by kernel_rfl) rfl #[.agg #[.string a1_0, .string a1_1], .agg #[.string a2_0, .string a2_1]] (by rfl) rfl rfl (by (try simp only [List.map_toArray, List.map_cons, List.map_nil]); first | done | rfl | (simp only [List.length_drop, List.length_take]; rfl)) ?_
    with_reducible refine (label_Less.calls k a1_0 a1_1 a2_0 a2_1 t245 _ A19.out).mono ?_
    rintro e w36 ⟨rfl, hb⟩
    refine ⟨_, rfl, ?_⟩
    have n0_ := Aside0.mk (blk_below (g := gb239) (o := .cells #[.string a0_0, .string a0_1] 24 (0, 0)) (by (with_reducible repeat (first | refine blk_drewN ?_ _ | refine blk_drew ?_ | refine blk_alloc ?_ _)); exact BK239.out) hb)
    have n1_ := Aside0.mk (blk_below (g := gb240) (o := .cells #[.string a1_0, .string a1_1] 24 (0, 0)) (by (with_reducible repeat (first | refine blk_drewN ?_ _ | refine blk_drew ?_ | refine blk_alloc ?_ _)); exact BK240.out) hb)
    have n2_ := Aside0.mk (blk_below (g := gb241) (o := .cells #[.string a2_0, .string a2_1] 24 (0, 0)) (by (with_reducible repeat (first | refine blk_drewN ?_ _ | refine blk_drew ?_ | refine blk_alloc ?_ _)); exact BK241.out) hb)
    have n3_ := Aside0.mk (below_step (by repeat (first | (with_reducible first | exact HB.out | apply below_alloc | apply pw_below_drewN | apply below_drew1 | refine below_set ?_ GE239.out | refine below_set ?_ GE240.out | refine below_set ?_ GE241.out) | exact HB.out)) hb)
    clear BK239
    clear BK240
    clear BK241
    clear HB
    have BK239 := n0_
    have BK240 := n1_
    have BK241 := n2_
    have HB := n3_
    clear n0_ n1_ n2_ n3_
    (try clear hb)
    (try clear hb2)
    (try clear hk)
    (try clear hi)
    refine hK.out _ _ ⟨(blk_cell BK239.out 0).trans rfl, (blk_cell BK239.out 1).trans rfl, (blk_cell BK240.out 0).trans rfl, (blk_cell BK240.out 1).trans rfl, (blk_cell BK241.out 0).trans rfl, (blk_cell BK241.out 1).trans rfl⟩ (fun hHeld => ?_)
    clear hK K
    refine norm_ (a' := ?_) ?_ ?_
    rotate_left
    ·show Act.put _ (some 45) _ = _
     simp only [Act.put, List.setIfInBounds_toArray, List.set_cons_zero, List.set_cons_succ, i64_w, i32_w]
     rfl
    refine one_ (i := 11) (N := some 48) #[true, true, true, true, true, true, true, true, true, true, true, true, false, false, false, false] rfl rfl (one_of HT_.out (by kernel_rfl)) (by decide) (fun K hK => ?_)
    refine goes_ Tryd.func20 (by kernel_rfl) rfl #[.agg #[.string a0_0, .string a0_1], .agg #[.string a2_0, .string a2_1]] (by rfl) rfl rfl (by (try simp only [List.map_toArray, List.map_cons, List.map_nil]); first | done | rfl | (simp only [List.length_drop, List.length_take]; rfl)) ?_
    with_reducible refine (label_Less.calls k a0_0 a0_1 a2_0 a2_1 t246 _ A20.out).mono ?_
    rintro e w37 ⟨rfl, hb⟩
    refine ⟨_, rfl, ?_⟩
    have n0_ := Aside0.mk (blk_below (g := gb239) (o := .cells #[.string a0_0, .string a0_1] 24 (0, 0)) (by (with_reducible repeat (first | refine blk_drewN ?_ _ | refine blk_drew ?_ | refine blk_alloc ?_ _)); exact BK239.out) hb)
    have n1_ := Aside0.mk (blk_below (g := gb240) (o := .cells #[.string a1_0, .string a1_1] 24 (0, 0)) (by (with_reducible repeat (first | refine blk_drewN ?_ _ | refine blk_drew ?_ | refine blk_alloc ?_ _)); exact BK240.out) hb)
    have n2_ := Aside0.mk (blk_below (g := gb241) (o := .cells #[.string a2_0, .string a2_1] 24 (0, 0)) (by (with_reducible repeat (first | refine blk_drewN ?_ _ | refine blk_drew ?_ | refine blk_alloc ?_ _)); exact BK241.out) hb)
    have n3_ := Aside0.mk (below_step (by repeat (first | (with_reducible first | exact HB.out | apply below_alloc | apply pw_below_drewN | apply below_drew1 | refine below_set ?_ GE239.out | refine below_set ?_ GE240.out | refine below_set ?_ GE241.out) | exact HB.out)) hb)
    clear BK239
    clear BK240
    clear BK241
    clear HB
    have BK239 := n0_
    have BK240 := n1_
    have BK241 := n2_
    have HB := n3_
    clear n0_ n1_ n2_ n3_
    (try clear hb)
    (try clear hb2)
    (try clear hk)
    (try clear hi)
    refine hK.out _ _ ⟨(blk_cell BK239.out 0).trans rfl, (blk_cell BK239.out 1).trans rfl, (blk_cell BK240.out 0).trans rfl, (blk_cell BK240.out 1).trans rfl, (blk_cell BK241.out 0).trans rfl, (blk_cell BK241.out 1).trans rfl⟩ (fun hHeld => ?_)
    clear hK K
    refine norm_ (a' := ?_) ?_ ?_
    rotate_left
    ·show Act.put _ (some 48) _ = _
     simp only [Act.put, List.setIfInBounds_toArray, List.set_cons_zero, List.set_cons_succ, i64_w, i32_w]
     rfl
    refine pure_ (i := 12) (N := some 7) (v := ?_) (a' := ?_) #[true, true, true, true, true, true, true, true, true, true, true, true, true, false, false, false] rfl rfl (any_of HT_.out (by kernel_rfl)) (fun _ _ _ h => h) (Or.inl ⟨by rfl, ?_⟩) ?_ ?_
    rotate_left
    ·intro w'
     go_simp
     with_reducible rfl
    rotate_left
    ·simp only [Act.put, List.setIfInBounds_toArray, List.set_cons_zero, List.set_cons_succ, i64_w, i32_w]
     rfl
    refine pure_ (i := 13) (N := some 8) (v := ?_) (a' := ?_) #[true, true, true, true, true, true, true, true, true, true, true, true, true, true, false, false] rfl rfl (any_of HT_.out (by kernel_rfl)) (fun _ _ _ h => h) (Or.inl ⟨by rfl, ?_⟩) ?_ ?_
    rotate_left
    ·intro w'
     go_simp
     with_reducible rfl
    rotate_left
    ·simp only [Act.put, List.setIfInBounds_toArray, List.set_cons_zero, List.set_cons_succ, i64_w, i32_w]
     rfl
    refine pure_ (i := 14) (N := some 9) (v := ?_) (a' := ?_) #[true, true, true, true, true, true, true, true, true, true, true, true, true, true, true, false] rfl rfl (any_of HT_.out (by kernel_rfl)) (fun _ _ _ h => h) (Or.inl ⟨by rfl, ?_⟩) ?_ ?_
    rotate_left
    ·intro w'
     go_simp
     with_reducible rfl
    rotate_left
    ·simp only [Act.put, List.setIfInBounds_toArray, List.set_cons_zero, List.set_cons_succ, i64_w, i32_w]
     rfl
    refine pure_ (i := 15) (N := some 10) (v := ?_) (a' := ?_) #[true, true, true, true, true, true, true, true, true, true, true, true, true, true, true, true] rfl rfl (any_of HT_.out (by kernel_rfl)) (fun _ _ _ h => h) (Or.inl ⟨by rfl, ?_⟩) ?_ ?_
    rotate_left
    ·intro w'
     go_simp
     with_reducible rfl
    rotate_left
    ·simp only [Act.put, List.setIfInBounds_toArray, List.set_cons_zero, List.set_cons_succ, i64_w, i32_w]
     rfl
    refine done_ (done_of HT_.out (by kernel_rfl)) ?_
    have hcz38_0 : w37.cell? ⟨gb239, 0, none⟩ = some (.string a0_0) := (blk_cell BK239.out 0).trans rfl
    have hcz38_1 : w37.cell? ⟨gb239, 1, none⟩ = some (.string a0_1) := (blk_cell BK239.out 1).trans rfl
    have hfz38_0 := blk_frozen BK239.out 0
    have hfz38_1 := blk_frozen BK239.out 1
    have hcz39_0 : w37.cell? ⟨gb240, 0, none⟩ = some (.string a1_0) := (blk_cell BK240.out 0).trans rfl
    have hcz39_1 : w37.cell? ⟨gb240, 1, none⟩ = some (.string a1_1) := (blk_cell BK240.out 1).trans rfl
    have hfz39_0 := blk_frozen BK240.out 0
    have hfz39_1 := blk_frozen BK240.out 1
    try go_wp2_with (first | ((with_reducible refine gate_callee (f := 21) rfl ?_); refine goesL_ (some 52) rfl rfl Tryd.func21 (by kernel_rfl) rfl #[.agg #[.string a0_0, .string a0_1], .agg #[.string a1_0, .string a1_1]] rfl (by (try simp only [List.map_toArray, List.map_cons, List.map_nil]); first | done | rfl | (simp only [List.length_drop, List.length_take]; rfl)) ?_; (with_reducible refine (bloomeryref13_Less.calls a0_0 a0_1 a1_0 a1_1 t247 _ A21.out).mono ?_); rintro e w40 ⟨rfl, hb⟩; refine ⟨_, rfl, ?_⟩; have n0_ := Aside0.mk (blk_below (g := gb239) (o := .cells #[.string a0_0, .string a0_1] 24 (0, 0)) (by (with_reducible repeat (first | refine blk_drewN ?_ _ | refine blk_drew ?_ | refine blk_alloc ?_ _)); exact BK239.out) hb); have n1_ := Aside0.mk (blk_below (g := gb240) (o := .cells #[.string a1_0, .string a1_1] 24 (0, 0)) (by (with_reducible repeat (first | refine blk_drewN ?_ _ | refine blk_drew ?_ | refine blk_alloc ?_ _)); exact BK240.out) hb); have n2_ := Aside0.mk (blk_below (g := gb241) (o := .cells #[.string a2_0, .string a2_1] 24 (0, 0)) (by (with_reducible repeat (first | refine blk_drewN ?_ _ | refine blk_drew ?_ | refine blk_alloc ?_ _)); exact BK241.out) hb); have n3_ := Aside0.mk (below_step (by repeat (first | (with_reducible first | exact HB.out | apply below_alloc | apply pw_below_drewN | apply below_drew1 | refine below_set ?_ GE239.out | refine below_set ?_ GE240.out | refine below_set ?_ GE241.out) | exact HB.out)) hb); clear BK239; clear BK240; clear BK241; clear HB; have BK239 := n0_; have BK240 := n1_; have BK241 := n2_; have HB := n3_; clear n0_ n1_ n2_ n3_; (try clear hb); (try clear hb2); (try clear hk); (try clear hi)))
    go_ret
    exact ⟨by first | rfl | (simp [errW_none, errW_some] <;> rfl) | (simp [*, errW_none, errW_some] <;> rfl), by repeat (first | (with_reducible first | exact HB.out | apply below_alloc | apply pw_below_drewN | apply below_drew1 | refine below_set ?_ GE239.out | refine below_set ?_ GE240.out | refine below_set ?_ GE241.out) | exact HB.out)⟩
   ·exact bloomerylaw13_LabelOrders.calls2 k a0_0 a0_1 a1_0 a1_1 a2_0 a2_1 r w t243 t244 t245 t246 t247 HB A4 c6b0 A17 A18 A19 A20 A21 c22 H
 ·replace c5 := Bool.eq_false_iff.mpr c5
  subst c5
  have H1 : (some false) = some r := by rw [if_neg (show ¬ (false = true) by decide)] at H; exact H
  clear H
  have H := H1
  clear H1
  obtain rfl := Option.some.inj H
  go_enter Tryd.func6, Tryd.ntmps6
  go_wp2_with (first | ((with_reducible refine gate_dst (N := 3) rfl ?_); refine box_event ?hg (N := 3) ?hd (cs := #[.string a0_0, .string a0_1]) (t := 24) ?hr ?_; (case hd => rfl); (case hg => rfl); (case hr => first | (go_simp; done) | (go_simp; rfl)); intro gb239 hg w249 hbox hb; have n0_ := Aside0.mk (below_step (by repeat (first | (with_reducible first | exact HB.out | apply below_alloc | apply pw_below_drewN | apply below_drew1) | exact HB.out)) hb); have n1_ := Aside0.mk (hbox); have n2_ := Aside0.mk ((by rw [hg]; exact (below_size (by repeat (first | (with_reducible first | exact HB.out | apply below_alloc | apply pw_below_drewN | apply below_drew1) | exact HB.out))) : w.heap.size ≤ gb239)); have n3_ := Aside0.mk ((by rw [hg]; exact (below_size (by repeat (first | (with_reducible first | exact HB.out | apply below_alloc | apply pw_below_drewN | apply below_drew1) | exact HB.out))) : w.heap.size ≤ gb239)); clear HB; have HB := n0_; have BK239 := n1_; have GW239 := n2_; have GE239 := n3_; clear n0_ n1_ n2_ n3_; clear hb hbox hg) | ((with_reducible refine gate_dst (N := 4) rfl ?_); refine box_event ?hg (N := 4) ?hd (cs := #[.string a1_0, .string a1_1]) (t := 24) ?hr ?_; (case hd => rfl); (case hg => rfl); (case hr => first | (go_simp; done) | (go_simp; rfl)); intro gb240 hg w250 hbox hb; have n0_ := Aside0.mk (blk_below (g := gb239) (o := .cells #[.string a0_0, .string a0_1] 24 (0, 0)) (by (with_reducible repeat (first | refine blk_drewN ?_ _ | refine blk_drew ?_ | refine blk_alloc ?_ _)); exact BK239.out) hb); have n1_ := Aside0.mk (below_step (by repeat (first | (with_reducible first | exact HB.out | apply below_alloc | apply pw_below_drewN | apply below_drew1 | refine below_set ?_ GE239.out) | exact HB.out)) hb); have n2_ := Aside0.mk (hbox); have n3_ := Aside0.mk ((by rw [hg]; exact (below_size (by repeat (first | (with_reducible first | exact HB.out | apply below_alloc | apply pw_below_drewN | apply below_drew1 | refine below_set ?_ GE239.out) | exact HB.out))) : w.heap.size ≤ gb240)); have n4_ := Aside0.mk ((by rw [hg]; exact (below_size (by repeat (first | (with_reducible first | exact HB.out | apply below_alloc | apply pw_below_drewN | apply below_drew1 | refine below_set ?_ GE239.out) | exact HB.out))) : w.heap.size ≤ gb240)); have n5_ := Aside0.mk ((by rw [hg]; exact Nat.ne_of_lt (blk_lt (g := gb239) (o := .cells #[.string a0_0, .string a0_1] 24 (0, 0)) (by (with_reducible repeat (first | refine blk_drewN ?_ _ | refine blk_drew ?_ | refine blk_alloc ?_ _)); exact BK239.out)) : gb239 ≠ gb240)); have n6_ := Aside0.mk ((by rw [hg]; exact Nat.ne_of_gt (blk_lt (g := gb239) (o := .cells #[.string a0_0, .string a0_1] 24 (0, 0)) (by (with_reducible repeat (first | refine blk_drewN ?_ _ | refine blk_drew ?_ | refine blk_alloc ?_ _)); exact BK239.out)) : gb240 ≠ gb239)); clear BK239; clear HB; have BK239 := n0_; have HB := n1_; have BK240 := n2_; have GW240 := n3_; have GE240 := n4_; have NB239_240 := n5_; have NB240_239 := n6_; clear n0_ n1_ n2_ n3_ n4_ n5_ n6_; clear hb hbox hg) | ((with_reducible refine gate_dst (N := 5) rfl ?_); refine box_event ?hg (N := 5) ?hd (cs := #[.string a2_0, .string a2_1]) (t := 24) ?hr ?_; (case hd => rfl); (case hg => rfl); (case hr => first | (go_simp; done) | (go_simp; rfl)); intro gb241 hg w251 hbox hb; have n0_ := Aside0.mk (blk_below (g := gb239) (o := .cells #[.string a0_0, .string a0_1] 24 (0, 0)) (by (with_reducible repeat (first | refine blk_drewN ?_ _ | refine blk_drew ?_ | refine blk_alloc ?_ _)); exact BK239.out) hb); have n1_ := Aside0.mk (blk_below (g := gb240) (o := .cells #[.string a1_0, .string a1_1] 24 (0, 0)) (by (with_reducible repeat (first | refine blk_drewN ?_ _ | refine blk_drew ?_ | refine blk_alloc ?_ _)); exact BK240.out) hb); have n2_ := Aside0.mk (below_step (by repeat (first | (with_reducible first | exact HB.out | apply below_alloc | apply pw_below_drewN | apply below_drew1 | refine below_set ?_ GE239.out | refine below_set ?_ GE240.out) | exact HB.out)) hb); have n3_ := Aside0.mk (hbox); have n4_ := Aside0.mk ((by rw [hg]; exact (below_size (by repeat (first | (with_reducible first | exact HB.out | apply below_alloc | apply pw_below_drewN | apply below_drew1 | refine below_set ?_ GE239.out | refine below_set ?_ GE240.out) | exact HB.out))) : w.heap.size ≤ gb241)); have n5_ := Aside0.mk ((by rw [hg]; exact (below_size (by repeat (first | (with_reducible first | exact HB.out | apply below_alloc | apply pw_below_drewN | apply below_drew1 | refine below_set ?_ GE239.out | refine below_set ?_ GE240.out) | exact HB.out))) : w.heap.size ≤ gb241)); have n6_ := Aside0.mk ((by rw [hg]; exact Nat.ne_of_lt (blk_lt (g := gb239) (o := .cells #[.string a0_0, .string a0_1] 24 (0, 0)) (by (with_reducible repeat (first | refine blk_drewN ?_ _ | refine blk_drew ?_ | refine blk_alloc ?_ _)); exact BK239.out)) : gb239 ≠ gb241)); have n7_ := Aside0.mk ((by rw [hg]; exact Nat.ne_of_gt (blk_lt (g := gb239) (o := .cells #[.string a0_0, .string a0_1] 24 (0, 0)) (by (with_reducible repeat (first | refine blk_drewN ?_ _ | refine blk_drew ?_ | refine blk_alloc ?_ _)); exact BK239.out)) : gb241 ≠ gb239)); have n8_ := Aside0.mk ((by rw [hg]; exact Nat.ne_of_lt (blk_lt (g := gb240) (o := .cells #[.string a1_0, .string a1_1] 24 (0, 0)) (by (with_reducible repeat (first | refine blk_drewN ?_ _ | refine blk_drew ?_ | refine blk_alloc ?_ _)); exact BK240.out)) : gb240 ≠ gb241)); have n9_ := Aside0.mk ((by rw [hg]; exact Nat.ne_of_gt (blk_lt (g := gb240) (o := .cells #[.string a1_0, .string a1_1] 24 (0, 0)) (by (with_reducible repeat (first | refine blk_drewN ?_ _ | refine blk_drew ?_ | refine blk_alloc ?_ _)); exact BK240.out)) : gb241 ≠ gb240)); clear BK239; clear BK240; clear HB; have BK239 := n0_; have BK240 := n1_; have HB := n2_; have BK241 := n3_; have GW241 := n4_; have GE241 := n5_; have NB239_241 := n6_; have NB241_239 := n7_; have NB240_241 := n8_; have NB241_240 := n9_; clear n0_ n1_ n2_ n3_ n4_ n5_ n6_ n7_ n8_ n9_; clear hb hbox hg) | ((with_reducible refine gate_callee (f := 7) rfl ?_); refine goesL_ (some 11) rfl rfl Tryd.func7 (by kernel_rfl) rfl #[] rfl (by (try simp only [List.map_toArray, List.map_cons, List.map_nil]); first | done | rfl | (simp only [List.length_drop, List.length_take]; rfl)) ?_; (with_reducible refine (bloomerylaw13_alive.calls k  false _ A4.out).mono ?_); rintro e w252 ⟨rfl, hb⟩; refine ⟨_, rfl, ?_⟩; have n0_ := Aside0.mk (blk_below (g := gb239) (o := .cells #[.string a0_0, .string a0_1] 24 (0, 0)) (by (with_reducible repeat (first | refine blk_drewN ?_ _ | refine blk_drew ?_ | refine blk_alloc ?_ _)); exact BK239.out) hb); have n1_ := Aside0.mk (blk_below (g := gb240) (o := .cells #[.string a1_0, .string a1_1] 24 (0, 0)) (by (with_reducible repeat (first | refine blk_drewN ?_ _ | refine blk_drew ?_ | refine blk_alloc ?_ _)); exact BK240.out) hb); have n2_ := Aside0.mk (blk_below (g := gb241) (o := .cells #[.string a2_0, .string a2_1] 24 (0, 0)) (by (with_reducible repeat (first | refine blk_drewN ?_ _ | refine blk_drew ?_ | refine blk_alloc ?_ _)); exact BK241.out) hb); have n3_ := Aside0.mk (below_step (by repeat (first | (with_reducible first | exact HB.out | apply below_alloc | apply pw_below_drewN | apply below_drew1 | refine below_set ?_ GE239.out | refine below_set ?_ GE240.out | refine below_set ?_ GE241.out) | exact HB.out)) hb); clear BK239; clear BK240; clear BK241; clear HB; have BK239 := n0_; have BK240 := n1_; have BK241 := n2_; have HB := n3_; clear n0_ n1_ n2_ n3_; (try clear hb); (try clear hb2); (try clear hk); (try clear hi)))
  go_ret
  exact ⟨by first | rfl | (simp [errW_none, errW_some] <;> rfl) | (simp [*, errW_none, errW_some] <;> rfl), by repeat (first | (with_reducible first | exact HB.out | apply below_alloc | apply pw_below_drewN | apply below_drew1 | refine below_set ?_ GE239.out | refine below_set ?_ GE240.out | refine below_set ?_ GE241.out) | exact HB.out)⟩

end Go.Proofs.YtdhilbefeehbaaaDoor.G

/- Layer 13's law LabelOrders: as a Lean function it comes to true; what a call of it does. -/
namespace Go.Proofs.YtdhilbefeehbaaaDoor.G
open Go.RowKit Go.Gw Go.Proofs.YtdhilbefeehbaaaDoorW.PrintWords
set_option linter.unusedVariables false
set_option linter.unusedSimpArgs false

/-! ### The order of bytes -/
theorem bl_nil (y : List UInt8) : Op.bytesLess [] y = (y != []) := by cases y <;> rfl
theorem bl_cons (a : UInt8) (x : List UInt8) (b : UInt8) (y : List UInt8) : Op.bytesLess (a :: x) (b :: y) = true ↔ a.toNat < b.toNat ∨ (a = b ∧ Op.bytesLess x y = true) := by
  have e : Op.bytesLess (a :: x) (b :: y) = (decide (a < b) || (a == b && Op.bytesLess x y)) := rfl
  rw [e, Bool.or_eq_true, Bool.and_eq_true, decide_eq_true_iff, beq_iff_eq, UInt8.lt_iff_toNat_lt]
theorem bl_irrefl : ∀ x : List UInt8, ¬ Op.bytesLess x x = true := by
  intro x
  induction x with
  | nil => simp [bl_nil]
  | cons a x ih =>
    rw [bl_cons]
    rintro (h | ⟨_, h⟩)
    · omega
    · exact ih h
theorem bl_trans : ∀ x y z : List UInt8, Op.bytesLess x y = true → Op.bytesLess y z = true → Op.bytesLess x z = true := by
  intro x
  induction x with
  | nil =>
    intro y z h1 h2
    cases z with
    | nil => cases y <;> simp [Op.bytesLess] at h2
    | cons c z => rfl
  | cons a x ih =>
    intro y z h1 h2
    cases y with
    | nil => simp [Op.bytesLess] at h1
    | cons b y =>
      cases z with
      | nil => simp [Op.bytesLess] at h2
      | cons c z =>
        rw [bl_cons] at h1 h2 ⊢
        rcases h1 with h1 | ⟨rfl, h1⟩
        · rcases h2 with h2 | ⟨rfl, h2⟩
          · left; omega
          · left; exact h1
        · rcases h2 with h2 | ⟨rfl, h2⟩
          · left; exact h2
          · right; exact ⟨rfl, ih _ _ h1 h2⟩
theorem bl_total : ∀ x y : List UInt8, x ≠ y → Op.bytesLess x y = true ∨ Op.bytesLess y x = true := by
  intro x
  induction x with
  | nil =>
    intro y h
    left
    rw [bl_nil]
    simpa using h.symm
  | cons a x ih =>
    intro y h
    cases y with
    | nil => right; rfl
    | cons b y =>
      rw [bl_cons, bl_cons]
      by_cases hab : a = b
      · subst hab
        rcases ih y (fun e => h (by rw [e])) with h1 | h1
        · exact .inl (.inr ⟨rfl, h1⟩)
        · exact .inr (.inr ⟨rfl, h1⟩)
      · have : a.toNat ≠ b.toNat := fun e => hab (UInt8.toNat_inj.1 e)
        rcases Nat.lt_or_gt_of_ne this with h1 | h1
        · exact .inl (.inl h1)
        · exact .inr (.inl h1)
/-! ### The order of labels -/
def less (p n q m : List UInt8) : Bool := Op.bytesLess p q || (p == q && Op.bytesLess n m)
theorem less_iff (p n q m : List UInt8) : less p n q m = true ↔ Op.bytesLess p q = true ∨ (p = q ∧ Op.bytesLess n m = true) := by
  simp [less]
theorem less_irrefl (p n : List UInt8) : ¬ less p n p n = true := by
  rw [less_iff]
  rintro (h | ⟨_, h⟩)
  · exact bl_irrefl _ h
  · exact bl_irrefl _ h
theorem less_trans {p n q m r l : List UInt8} (h1 : less p n q m = true) (h2 : less q m r l = true) : less p n r l = true := by
  rw [less_iff] at h1 h2 ⊢
  rcases h1 with h1 | ⟨rfl, h1⟩
  · rcases h2 with h2 | ⟨rfl, h2⟩
    · exact .inl (bl_trans _ _ _ h1 h2)
    · exact .inl h1
  · rcases h2 with h2 | ⟨rfl, h2⟩
    · exact .inl h2
    · exact .inr ⟨rfl, bl_trans _ _ _ h1 h2⟩
theorem less_total {p n q m : List UInt8} (h : ¬ (p = q ∧ n = m)) : less p n q m = true ∨ less q m p n = true := by
  rw [less_iff, less_iff]
  by_cases hp : p = q
  · subst hp
    rcases bl_total n m (fun e => h ⟨rfl, e⟩) with h1 | h1
    · exact .inl (.inr ⟨rfl, h1⟩)
    · exact .inr (.inr ⟨rfl, h1⟩)
  · rcases bl_total p q hp with h1 | h1
    · exact .inl (.inl h1)
    · exact .inr (.inl h1)
theorem rless_f (p n q m : List UInt8) : bloomeryref13_Less.f (B p) (B n) (B q) (B m) = some (less p n q m) := by
  unfold bloomeryref13_Less.f less
  simp only [B_toList]
  by_cases h : Op.bytesLess p q = true
  · rw [if_pos h, h]; rfl
  · rw [if_neg h]
    have h' : Op.bytesLess p q = false := by simpa using h
    rw [h']
    by_cases hp : p = q
    · rw [if_pos hp, hp]; simp
    · rw [if_neg hp, beq_eq_false_iff_ne.2 hp]; rfl
theorem compare_B (p q : List UInt8) : compareI (B p) (B q) = if Op.bytesLess p q = true then -1 else if p = q then 0 else 1 := by
  unfold compareI
  rw [B_toList, B_toList]
  by_cases h : p = q
  · rw [if_pos (B_inj.2 h), if_pos h]
  · rw [if_neg (fun e => h (B_inj.1 e)), if_neg h]
theorem or_f (k : Nat) (a b : Int) : cmp_Or_int.f (k + 3) [a, b] = some (if a = 0 then b else a) := by
  unfold cmp_Or_int.f
  have w1 : wrap64 (0 + 1) = 1 := by rw [w64 (by omega) (by omega)]; rfl
  have w2 : wrap64 (1 + 1) = 2 := by rw [w64 (by omega) (by omega)]; rfl
  have r0 : rd [a, b] 0 = a := rfl
  have r1 : rd [a, b] 1 = b := rfl
  have hl : (([a, b] : List Int).length : Int) = 2 := rfl
  rw [hl]
  rw [cmp_Or_int.l0, if_pos (by decide), if_pos (by decide), if_pos (by rw [hl]; decide), r0, w1]
  by_cases ha : a = 0
  · rw [if_pos ha, if_pos ha, cmp_Or_int.l0, if_pos (by decide), if_pos (by decide), if_pos (by rw [hl]; decide), r1, w2]
    by_cases hb : b = 0
    · rw [if_pos hb, cmp_Or_int.l0, if_neg (by decide), hb]
    · rw [if_neg hb]
  · rw [if_neg ha, if_neg ha]
theorem less_ev (p n q m : List UInt8) : Ev (fun k => label_Less.f k (B p) (B n) (B q) (B m)) (less p n q m) := by
  refine Ev.step (f := fun k => label_Less.f (k + 1) (B p) (B n) (B q) (B m)) (fun k => rfl) (Ev.step (f := fun k => label_Less.f (k + 2) (B p) (B n) (B q) (B m)) (fun k => rfl) (Ev.step (f := fun k => label_Less.f (k + 3) (B p) (B n) (B q) (B m)) (fun k => rfl) (Ev.some_ fun k => ?_)))
  unfold label_Less.f
  show (cmp_Or_int.f (k + 3) [compareI (B p) (B q), compareI (B n) (B m)]).bind _ = _
  rw [or_f, compare_B, compare_B]
  simp only [Option.bind_some]
  congr 1
  rw [Bool.eq_iff_iff, decide_eq_true_iff, less_iff]
  by_cases h : Op.bytesLess p q = true
  · simp [h]
  · by_cases hp : p = q
    · subst hp
      by_cases hn : Op.bytesLess n m = true
      · simp [hn, h]
      · by_cases hm : n = m
        · subst hm; simp [hn, h]
        · simp [hn, hm, h]
    · simp [h, hp]
theorem LabelOrders_ev (p n q m r l : List UInt8) (hp : p.length ≤ 140737488351232) (hn : n.length ≤ 140737488351232) (hq : q.length ≤ 140737488351232) (hm : m.length ≤ 140737488351232) (hr : r.length ≤ 140737488351232) (hl : l.length ≤ 140737488351232) :
    Ev (fun k => bloomerylaw13_LabelOrders.f k (B p) (B n) (B q) (B m) (B r) (B l)) true := by
  unfold bloomerylaw13_LabelOrders.f
  refine Ev.bind alive_ev (Ev.pos rfl ?_)
  simp only [B_size]
  rw [w64 (x := (p.length : Int) + n.length) (by omega) (by omega), w64 (x := (p.length : Int) + n.length + q.length) (by omega) (by omega), w64 (x := (p.length : Int) + n.length + q.length + m.length) (by omega) (by omega), w64 (x := (p.length : Int) + n.length + q.length + m.length + r.length) (by omega) (by omega), w64 (x := (p.length : Int) + n.length + q.length + m.length + r.length + l.length) (by omega) (by omega)]
  by_cases h1 : (p.length : Int) + n.length + q.length + m.length + r.length + l.length > 4000
  · exact Ev.pos h1 (Ev.now _)
  · refine Ev.neg h1 ?_
    refine Ev.bind (less_ev p n q m) (Ev.bind (less_ev q m p n) (Ev.bind (less_ev q m r l) (Ev.bind (less_ev p n r l) ?_)))
    simp only [rless_f, Option.bind_some, bne_self_eq_false, if_false, Bool.false_eq_true, B_toList]
    have hirr := less_irrefl p n
    have htr : less p n q m = true → less q m r l = true → less p n r l = true := fun a b => less_trans a b
    have htr2 : less p n q m = true → less q m p n = true → less p n p n = true := fun a b => less_trans a b
    have htot : ¬ (p = q ∧ n = m) → less p n q m = true ∨ less q m p n = true := less_total
    have hsame : (p = q ∧ n = m) → less p n q m = false := by rintro ⟨rfl, rfl⟩; simpa using hirr
    have hsame2 : (p = q ∧ n = m) → less q m p n = false := by rintro ⟨rfl, rfl⟩; simpa using hirr
    have hne : (!(p == q) || !(n == m)) = true ↔ ¬ (p = q ∧ n = m) := by
      simp only [Bool.or_eq_true, Bool.not_eq_true', beq_eq_false_iff_ne]
      constructor
      · rintro (h | h) ⟨a, b⟩
        · exact h a
        · exact h b
      · intro h
        by_cases hh : p = q
        · exact .inr fun e => h ⟨hh, e⟩
        · exact .inl hh
    refine Ev.some_ fun k => ?_
    generalize (!(p == q) || !(n == m)) = e at *
    generalize less p n q m = a at *
    generalize less q m p n = b at *
    generalize less q m r l = c at *
    generalize less p n r l = d at *
    generalize less p n p n = f at *
    generalize (p = q ∧ n = m) = E at *
    by_cases hE : E
    · have ha := hsame hE
      have hb := hsame2 hE
      have he : e = false := by
        cases e with
        | false => rfl
        | true => exact absurd hE (hne.1 rfl)
      subst ha
      subst hb
      subst he
      rfl
    · have he : e = true := hne.2 hE
      subst he
      cases a with
      | true =>
        cases b with
        | true => exact absurd (htr2 rfl rfl) hirr
        | false =>
          cases c with
          | true => rw [show d = true from htr rfl rfl]; rfl
          | false => rfl
      | false =>
        rcases htot hE with h | h
        · cases h
        · subst h; rfl
end Go.Proofs.YtdhilbefeehbaaaDoor.G
namespace Go.Proofs.YtdhilbefeehbaaaDoor
open Go.RowKit Go.Gw Go.Proofs.YtdhilbefeehbaaaDoorW.PrintWords G
theorem LabelOrders_row (a b c d e f : ByteArray) (w : World) (ha : a.size ≤ 140737488351232) (hb : b.size ≤ 140737488351232) (hc : c.size ≤ 140737488351232) (hd : d.size ≤ 140737488351232) (he : e.size ≤ 140737488351232) (hf : f.size ≤ 140737488351232) :
    Calls Tryd.prog 6 #[.agg #[.string a, .string b], .agg #[.string c, .string d], .agg #[.string e, .string f]] w fun e w' => e = .returned (.bool true) ∧ Below w.heap.size w w' := by
  rw [← data_length] at ha hb hc hd he hf
  obtain ⟨k, hk⟩ := (LabelOrders_ev a.data.toList b.data.toList c.data.toList d.data.toList e.data.toList f.data.toList ha hb hc hd he hf).rounds
  rw [B_of, B_of, B_of, B_of, B_of, B_of] at hk
  exact bloomerylaw13_LabelOrders.calls k a b c d e f true w hk
end Go.Proofs.YtdhilbefeehbaaaDoor

/- How a value that came in reads as one of a kind, and how great it is. Of no program. -/
namespace Go.Proofs.YtdhilbefeehbaaaDoor
open Go.RowKit Go.Gw Go.Proofs.YtdhilbefeehbaaaDoorW.PrintWords
set_option linter.unusedVariables false

/-- Whatever reads as data of type t, so deep, is of the kind d; Bd: how great it is. -/
def Opens (P : Program) (n : Nat) (t : TypeId) {α : Type} (d : Kd α) (Bd : α → Prop) : Prop :=
  ∀ {H : Type} (enc : TypeId × Value → H) (w : World) (base : Nat) (spare : Nat → Bool) (held : Bool) (fuel : Nat) (cs : List Value) (y : DataW H × List MemPlace), fuel ≤ n →
    DataW.trod enc P w base spare held fuel t cs = some y → (y.1.weights P t).all (· ≤ reachBytes) = true → ∃ x, d.K w x cs ∧ Bd x

def strBd (s : ByteArray) : Prop := s.size ≤ 140737488351232
def intBd (k : IntKind) (n : Int) : Prop := (Lit.int k n).wf = true
def rowBd {α : Type} (B : Nat) (Bd : α → Prop) (l : List α) : Prop := l.length * B ≤ 140737488351232 ∧ ∀ x ∈ l, Bd x

theorem opens_string {P : Program} {n : Nat} {t : TypeId} (ht : P.underlying t = some .string) : Opens P n t Kd.string strBd := by
  intro H enc w base spare held fuel cs y _ h hw
  obtain ⟨s, rfl, rfl, _⟩ := DataW.trod_string ht h
  refine ⟨s, rfl, ?_⟩
  simp only [DataW.weights, List.all_cons, List.all_nil, Bool.and_true, reachBytes, data_length] at hw
  show s.size ≤ 140737488351232
  exact of_decide_eq_true hw
theorem opens_int {P : Program} {n : Nat} {t : TypeId} {k : IntKind} (ht : P.underlying t = some (.int k)) : Opens P n t (Kd.int k) (intBd k) := by
  intro H enc w base spare held fuel cs y _ h hw
  obtain ⟨m, rfl, rfl, hwf⟩ := DataW.trod_int ht h
  exact ⟨m, rfl, hwf⟩
theorem weightsAll_mem {H : Type} {P : Program} {e : TypeId} : ∀ (l : List (DataW H)) (d : DataW H), d ∈ l → ∀ q ∈ d.weights P e, q ∈ DataW.weightsAll P e l := by
  intro l
  induction l with
  | nil => intro d h; cases h
  | cons x l ih =>
    intro d h q hq
    rw [DataW.weightsAll, List.mem_append]
    rcases List.mem_cons.1 h with rfl | h
    · exact .inl hq
    · exact .inr (ih d h q hq)
theorem list_of {α : Type} {Q : Nat → α → Prop} : ∀ n, (∀ i, i < n → ∃ x, Q i x) → ∃ l : List α, l.length = n ∧ ∀ i x, l[i]? = some x → Q i x := by
  intro n
  induction n with
  | zero => intro _; exact ⟨[], rfl, fun i x h => by simp at h⟩
  | succ n ih =>
    intro h
    obtain ⟨l, hl, hq⟩ := ih (fun i hi => h i (by omega))
    obtain ⟨x, hx⟩ := h n (by omega)
    refine ⟨l ++ [x], by simp [hl], fun i y hy => ?_⟩
    rw [List.getElem?_append] at hy
    split at hy
    · exact hq i y hy
    · rename_i hi
      have : i = n := by
        rcases Nat.lt_or_ge (i - l.length) 1 with h1 | h1
        · omega
        · rw [List.getElem?_eq_none (by simpa using h1)] at hy; cases hy
      subst this
      simp [hl] at hy
      rw [← hy]
      exact hx
theorem opens_slice {P : Program} {n : Nat} {t e : TypeId} {α : Type} {d : Kd α} {Bd : α → Prop} {B : Nat} (ht : P.underlying t = some (.slice e)) (hc : P.cellsOf e = d.sz) (hB : P.bytesOf e = B) (hE : Opens P n e d Bd) :
    Opens P (n + 1) t (Kd.slice e d) (rowBd B Bd) := by
  intro H enc w base spare held fuel cs y hf h hw
  rcases DataW.trod_slice ht h with ⟨rfl, rfl⟩ | ⟨a, len, cap, elems, rest, m, rfl, rfl, rfl, hb, hl, hm, hlen, hel, _, _⟩
  · exact ⟨[], ⟨none, 0, rfl, Nat.le_refl _, ⟨rfl, Nat.zero_le _, fun h => absurd h (Nat.lt_irrefl 0)⟩⟩, ⟨by simp, by simp⟩⟩
  · have hw' : ((elems.length + rest.length) * B ≤ 140737488351232) ∧ ∀ q ∈ elems.map (·.1), ∀ z ∈ q.weights P e, z ≤ reachBytes := by
      simp only [DataW.weights, ht, List.all_cons, Bool.and_eq_true, decide_eq_true_eq, List.all_append, List.length_map, hB] at hw
      refine ⟨by simpa [reachBytes] using hw.1, fun q hq z hz => ?_⟩
      have := List.all_eq_true.1 hw.2.1 z (weightsAll_mem _ q hq z hz)
      simpa using this
    have each : ∀ i, i < len → ∃ x c, c.length = d.sz ∧ d.K w x c ∧ Bd x ∧ ∀ j u, c[j]? = some u → w.cell? (a.add (i * d.sz + j)) = some u := by
      intro i hi
      have h1 := hel i hi
      rw [List.getElem?_eq_getElem (by omega : i < elems.length), Option.bind_eq_some_iff] at h1
      obtain ⟨c, hcs, ht2⟩ := h1
      obtain ⟨x, hK, hBd⟩ := hE enc w base spare held m c elems[i] (by omega) ht2 (List.all_eq_true.2 fun z hz => by
        have := hw'.2 elems[i].1 (List.mem_map.2 ⟨_, List.getElem_mem (by omega : i < elems.length), rfl⟩) z hz
        simpa using this)
      refine ⟨x, c, d.K_len hK, hK, hBd, fun j u hu => ?_⟩
      rw [hc] at hcs
      have hj : j < d.sz := by
        have := (List.getElem?_eq_some_iff.1 hu).1
        rw [d.K_len hK] at this
        exact this
      have := (World.cells?_some hcs).2.2 j hj
      rw [hu, Addr.add_add] at this
      exact this
    obtain ⟨l, hll, hq⟩ := list_of len each
    refine ⟨l, ⟨some a, cap, by rw [hll], by omega, rfl, by rw [hll]; unfold maxLen at hm; omega, fun _ => ⟨a, rfl, fun j p hj => ?_⟩⟩, ?_, ?_⟩
    · obtain ⟨c, h1, h2, _, h4⟩ := hq j p hj
      exact ⟨c, h1, h2, h4⟩
    · rw [hll, ← hlen]
      exact Nat.le_trans (Nat.mul_le_mul_right _ (Nat.le_add_right _ _)) hw'.1
    · intro x hx
      obtain ⟨i, hi⟩ := List.getElem?_of_mem hx
      obtain ⟨_, _, _, h3, _⟩ := hq i x hi
      exact h3
/-- A slice's reading, as a walk takes it. -/
theorem C_of_slice {α : Type} {e : Nat} {d : Kd α} {w : World} {l : List α} {v : Value} (h : (Kd.slice e d).K w l [v]) : ∃ A c, v = .slice A l.length c ∧ l.length ≤ c ∧ d.C w A l.length l := by
  obtain ⟨A, c, e, h1, h2⟩ := h
  simp only [List.cons.injEq, and_true] at e
  exact ⟨A, c, e, h1, h2⟩
end Go.Proofs.YtdhilbefeehbaaaDoor

/- How a struct of two texts that came in reads. Of no program. -/
namespace Go.Proofs.YtdhilbefeehbaaaDoor
open Go.RowKit Go.Gw Go.Proofs.YtdhilbefeehbaaaDoorW.PrintWords
set_option linter.unusedVariables false

theorem trod_text2 {P : Program} {t ts : TypeId} {f0 f1 : Field} (ht : P.underlying t = some (.struct #[f0, f1])) (hts : P.underlying ts = some .string) (h0 : f0.type = ts) (h1 : f1.type = ts) (o0 : f0.offset = 0) (o1 : f1.offset = 1)
    (hc : P.cellsOf ts = 1) (hc2 : P.cellsOf t = 2) {H : Type} {enc : TypeId × Value → H} {w : World} {base : Nat} {spare : Nat → Bool} {held : Bool} {fuel : Nat} {cs : List Value} {d : DataW H} {p : List MemPlace}
    (h : DataW.trod enc P w base spare held fuel t cs = some (d, p)) (hw : (d.weights P t).all (· ≤ reachBytes) = true) :
    ∃ a b : ByteArray, cs = [.string a, .string b] ∧ a.size ≤ 140737488351232 ∧ b.size ≤ 140737488351232 := by
  obtain ⟨y0, y1, n, e, hl, ht0, ht1⟩ := Go.ChangeShapes.trod_struct2 ht h
  subst h0
  rw [h1] at ht1
  rw [o0, hc] at ht0
  rw [o1, hc] at ht1
  obtain ⟨a, ha, ea, _⟩ := DataW.trod_string hts ht0
  obtain ⟨b, hb, eb, _⟩ := DataW.trod_string hts ht1
  subst ea
  subst eb
  cases e
  rw [hc2] at hl
  match cs, hl with
  | [u, v], _ =>
    simp at ha hb
    subst ha
    subst hb
    simp only [DataW.weights, ht, DataW.weightsEach, List.map_cons, List.map_nil, h1, List.append_nil, List.all_append, List.all_cons, List.all_nil, Bool.and_true, Bool.and_eq_true, decide_eq_true_eq, reachBytes, data_length] at hw
    exact ⟨a, b, rfl, of_decide_eq_true hw.1, of_decide_eq_true hw.2⟩
end Go.Proofs.YtdhilbefeehbaaaDoor
