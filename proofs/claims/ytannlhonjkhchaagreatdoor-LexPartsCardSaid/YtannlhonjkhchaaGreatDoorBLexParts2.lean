/- Texts towards the law LexParts, one behind the other: each begins with its own sentence. Conditions: each theorem's own. -/
import Derived.OpenShut
import Derived.ProofKit
import Derived.SizedLaws
import Derived.Test.YtannlhonjkhchaaGreatDoorBLexParts0
import Derived.Test.YtannlhonjkhchaaGreatDoorBLexParts1
import Derived.Test.YtannlhonjkhchaaGreatDoorWMore
/- Go functions as Lean functions, each with its contract: written by a program of mine over the kit's print. Conditions: each contract's own. -/
namespace Go.Proofs.YtannlhonjkhchaaGreatDoor.G
open Go.RowKit Go.Proofs.YtannlhonjkhchaaGreatDoorW.PrintWords Go.Proofs.YtannlhonjkhchaaGreatDoorW.PrintLast Go.Proofs.YtannlhonjkhchaaGreatDoorW.PrintMore
attribute [local go_sem] max2_int min2_int max_two min_two max_three min_three max_four min_four   -- for this text's walks alone
set_option linter.unusedVariables false
set_option linter.unusedSimpArgs false

/-! ### bloomeryref09_At: function 15 -/
def bloomeryref09_At.l0 : Nat → ByteArray → Int → Int → Int → Int → Option (Int × Int)
 | 0, _, _, _, _, _ => none
 | k + 1, x0, x1, x6, x161000, x161001 => if x6 < x1 then (if 0 ≤ x6 then (if x6 < (x0.size : Int) then (if (bt x0 x6) = 10 then (bloomeryref09_At.l0 k x0 x1 (wrap64 (x6 + 1)) (wrap64 (x161000 + 1)) 1) else (bloomeryref09_At.l0 k x0 x1 (wrap64 (x6 + 1)) x161000 (wrap64 (x161001 + 1)))) else (none)) else (none)) else (some (x161000, x161001))
def bloomeryref09_At.f (k : Nat) (a0 : ByteArray) (a1 : Int) : Option (Int × Int) := bloomeryref09_At.l0 k a0 a1 0 1 1
set_option maxHeartbeats 8000000 in
set_option maxRecDepth 100000 in
theorem bloomeryref09_At.calls (k : Nat) (a0 : ByteArray) (a1 : Int) (r1 : Int) (r2 : Int) (w : World) (h : bloomeryref09_At.f k a0 a1 = some (r1, r2)) :
  Calls Tryz.prog 15 #[.string a0, .int .i64 a1] w fun e w' => e = .returned (.agg #[.int .i64 r1, .int .i64 r2]) ∧ Below w.heap.size w w' := by
 have hu26 := Tryz.underlying26
 have HB := Aside0.mk (Below.refl w.heap.size w)
 have H : (bloomeryref09_At.l0 k a0 a1 0 1 1) = some (r1, r2) := h
 clear h
 have H' := Aside0.mk H
 clear H
 go_enter Tryz.func15, Tryz.ntmps15
 go_wp2_with (first | ((with_reducible refine gate_dst (N := 4) rfl ?_); refine box_event ?hg (N := 4) ?hd (cs := #[.int .i64 0, .int .i64 0]) (t := 26) ?hr ?_; (case hd => rfl); (case hg => rfl); (case hr => first | (go_simp; done) | (go_simp; rfl)); intro gb159 hg w3 hbox hb; have n0_ := Aside0.mk (below_step (by repeat (first | (with_reducible first | exact HB.out | apply below_alloc | apply pw_below_drewN | apply below_drew1) | exact HB.out)) hb); have n1_ := Aside0.mk (hbox); have n2_ := Aside0.mk ((by rw [hg]; exact (below_size (by repeat (first | (with_reducible first | exact HB.out | apply below_alloc | apply pw_below_drewN | apply below_drew1) | exact HB.out))) : w.heap.size ≤ gb159)); have n3_ := Aside0.mk ((by rw [hg]; exact (below_size (by repeat (first | (with_reducible first | exact HB.out | apply below_alloc | apply pw_below_drewN | apply below_drew1) | exact HB.out))) : w.heap.size ≤ gb159)); clear HB; have HB := n0_; have BK159 := n1_; have GW159 := n2_; have GE159 := n3_; clear n0_ n1_ n2_ n3_; clear hb hbox hg) | ((with_reducible refine gate_dst (N := 5) rfl ?_); refine box_event ?hg (N := 5) ?hd (cs := #[.int .i64 0, .int .i64 0]) (t := 26) ?hr ?_; (case hd => rfl); (case hg => rfl); (case hr => first | (go_simp; done) | (go_simp; rfl)); intro gb160 hg w4 hbox hb; have n0_ := Aside0.mk (blk_below (g := gb159) (o := .cells #[.int .i64 0, .int .i64 0] 26 (0, 0)) (by (with_reducible repeat (first | refine blk_drewN ?_ _ | refine blk_drew ?_ | refine blk_alloc ?_ _)); exact BK159.out) hb); have n1_ := Aside0.mk (below_step (by repeat (first | (with_reducible first | exact HB.out | apply below_alloc | apply pw_below_drewN | apply below_drew1 | refine below_set ?_ GE159.out) | exact HB.out)) hb); have n2_ := Aside0.mk (hbox); have n3_ := Aside0.mk ((by rw [hg]; exact (below_size (by repeat (first | (with_reducible first | exact HB.out | apply below_alloc | apply pw_below_drewN | apply below_drew1 | refine below_set ?_ GE159.out) | exact HB.out))) : w.heap.size ≤ gb160)); have n4_ := Aside0.mk ((by rw [hg]; exact (below_size (by repeat (first | (with_reducible first | exact HB.out | apply below_alloc | apply pw_below_drewN | apply below_drew1 | refine below_set ?_ GE159.out) | exact HB.out))) : w.heap.size ≤ gb160)); have n5_ := Aside0.mk ((by rw [hg]; exact Nat.ne_of_lt (blk_lt (g := gb159) (o := .cells #[.int .i64 0, .int .i64 0] 26 (0, 0)) (by (with_reducible repeat (first | refine blk_drewN ?_ _ | refine blk_drew ?_ | refine blk_alloc ?_ _)); exact BK159.out)) : gb159 ≠ gb160)); have n6_ := Aside0.mk ((by rw [hg]; exact Nat.ne_of_gt (blk_lt (g := gb159) (o := .cells #[.int .i64 0, .int .i64 0] 26 (0, 0)) (by (with_reducible repeat (first | refine blk_drewN ?_ _ | refine blk_drew ?_ | refine blk_alloc ?_ _)); exact BK159.out)) : gb160 ≠ gb159)); clear BK159; clear HB; have BK159 := n0_; have HB := n1_; have BK160 := n2_; have GW160 := n3_; have GE160 := n4_; have NB159_160 := n5_; have NB160_159 := n6_; clear n0_ n1_ n2_ n3_ n4_ n5_ n6_; clear hb hbox hg; have hnb5 := NB160_159.out; have hnc5 := NB159_160.out; have hcz6_0 : w4.cell? ⟨gb160, 0, none⟩ = some (.int .i64 0) := (blk_cell BK160.out 0).trans rfl; have hcz6_1 : w4.cell? ⟨gb160, 1, none⟩ = some (.int .i64 0) := (blk_cell BK160.out 1).trans rfl; have hfz6_0 := blk_frozen BK160.out 0; have hfz6_1 := blk_frozen BK160.out 1))
 go_loopg [6] k (fun kq v6 w' => ∃ (x6_1 : Int) (x161000_1 : Int) (x161001_1 : Int), v6 = .int .i64 x6_1 ∧ Aside0 (bloomeryref09_At.l0 kq a0 a1 x6_1 x161000_1 x161001_1 = some (r1, r2)) ∧ Aside0 (kq ≤ k) ∧ Aside0 (w'.heap[gb159]? = some (.cells #[.int .i64 0, .int .i64 0] 26 (0, 0))) ∧ Aside0 (w'.heap[gb160]? = some (.cells #[.int .i64 x161000_1, .int .i64 x161001_1] 26 (0, 0))) ∧ Aside0 (Below w.heap.size w w'))
 case atStart => exact ⟨(0), (1), (1), (by first | rfl | (simp; done) | (simp [*]; done)), (by first | exact H' | (subst_vars; exact H')), ⟨Nat.le_refl _⟩, ⟨by (with_reducible repeat (first | refine blk_drewN ?_ _ | refine blk_drew ?_ | refine blk_alloc ?_ _)); refine blk_far ?_ NB159_160.out _; (with_reducible repeat (first | refine blk_drewN ?_ _ | refine blk_drew ?_ | refine blk_alloc ?_ _)); refine blk_far ?_ NB159_160.out _; (with_reducible repeat (first | refine blk_drewN ?_ _ | refine blk_drew ?_ | refine blk_alloc ?_ _)); exact BK159.out⟩, ⟨by (with_reducible repeat (first | refine blk_drewN ?_ _ | refine blk_drew ?_ | refine blk_alloc ?_ _)); refine blk_put (cs := #[.int .i64 1, .int .i64 0]) ?_ 1 _ rfl; (with_reducible repeat (first | refine blk_drewN ?_ _ | refine blk_drew ?_ | refine blk_alloc ?_ _)); refine blk_put (cs := #[.int .i64 0, .int .i64 0]) ?_ 0 _ rfl; (with_reducible repeat (first | refine blk_drewN ?_ _ | refine blk_drew ?_ | refine blk_alloc ?_ _)); exact BK160.out⟩, ⟨by repeat (first | (with_reducible first | exact HB.out | apply below_alloc | apply pw_below_drewN | apply below_drew1 | refine below_set ?_ GE159.out | refine below_set ?_ GE160.out) | exact HB.out)⟩⟩
 case round =>
  clear H'
  try clear c1
  try clear p2
  try clear c5
  try clear hcz6_0
  try clear hcz6_1
  try clear hfz6_0
  try clear hfz6_1
  obtain ⟨x6_1, x161000_1, x161001_1, rfl, HA, HK1, BK159, BK160, HB⟩ := hrel
  cases gk with
  | zero => exact absurd HA.out (by simp [bloomeryref09_At.l0])
  | succ k1 =>
   have H := HA.out
   clear HA
   simp only [bloomeryref09_At.l0] at H
   by_cases c7 : x6_1 < a1
   ·rw [if_pos c7] at H
    have c7b0 : decide (x6_1 < a1) = true := decide_eq_true c7
    clear c7
    by_cases c8 : 0 ≤ x6_1
    ·rw [if_pos c8] at H
     have c8b0 : decide (0 ≤ x6_1) = true := decide_eq_true c8
     clear c8
     by_cases c9 : x6_1 < (a0.size : Int)
     ·rw [if_pos c9] at H
      have c9b0 : decide (x6_1 < (a0.size : Int)) = true := decide_eq_true c9
      clear c9
      by_cases c11 : (bt a0 x6_1) = 10
      ·rw [if_pos c11] at H
       have c11b0 : ((bt a0 x6_1) == 10) = true := beq_iff_eq.mpr c11
       have c11b1 : ((bt a0 x6_1) != 10) = false := bne_eq_false_iff_eq.mpr c11
       clear c11
       have H' := Aside0.mk H
       clear H
       have p10 : 0 ≤ (x6_1 : Int) := of_decide_eq_true (by first | (with_reducible assumption) | assumption)
       have q10 : x6_1 < (a0.size : Int) := of_decide_eq_true (by first | (with_reducible assumption) | assumption)
       have hx10 := bt_at a0 x6_1
       replace p10 := eq_true p10
       replace q10 := eq_true q10
       have hnb12 := NB160_159.out
       have hnc12 := NB159_160.out
       have hcz13_0 : wr.cell? ⟨gb160, 0, none⟩ = some (.int .i64 x161000_1) := (blk_cell BK160.out 0).trans rfl
       have hcz13_1 : wr.cell? ⟨gb160, 1, none⟩ = some (.int .i64 x161001_1) := (blk_cell BK160.out 1).trans rfl
       have hfz13_0 := blk_frozen BK160.out 0
       have hfz13_1 := blk_frozen BK160.out 1
       go_wp2
       go_roundg k1
       case measure => have := HK1.out; omega
       case rel => exact ⟨(wrap64 (x6_1 + 1)), (wrap64 (x161000_1 + 1)), (1), (by first | rfl | (simp; done) | (simp [*]; done)), (by first | exact H' | (subst_vars; exact H')), ⟨by have := HK1.out; omega⟩, ⟨by (with_reducible repeat (first | refine blk_drewN ?_ _ | refine blk_drew ?_ | refine blk_alloc ?_ _)); refine blk_far ?_ NB159_160.out _; (with_reducible repeat (first | refine blk_drewN ?_ _ | refine blk_drew ?_ | refine blk_alloc ?_ _)); refine blk_far ?_ NB159_160.out _; (with_reducible repeat (first | refine blk_drewN ?_ _ | refine blk_drew ?_ | refine blk_alloc ?_ _)); exact BK159.out⟩, ⟨by (with_reducible repeat (first | refine blk_drewN ?_ _ | refine blk_drew ?_ | refine blk_alloc ?_ _)); refine blk_put (cs := #[.int .i64 (wrap64 (x161000_1 + 1)), .int .i64 x161001_1]) ?_ 1 _ rfl; (with_reducible repeat (first | refine blk_drewN ?_ _ | refine blk_drew ?_ | refine blk_alloc ?_ _)); refine blk_put (cs := #[.int .i64 x161000_1, .int .i64 x161001_1]) ?_ 0 _ rfl; (with_reducible repeat (first | refine blk_drewN ?_ _ | refine blk_drew ?_ | refine blk_alloc ?_ _)); exact BK160.out⟩, ⟨by repeat (first | (with_reducible first | exact HB.out | apply below_alloc | apply pw_below_drewN | apply below_drew1 | refine below_set ?_ GE159.out | refine below_set ?_ GE160.out) | exact HB.out)⟩⟩
      ·rw [if_neg c11] at H
       have c11b0 : ((bt a0 x6_1) == 10) = false := beq_eq_false_iff_ne.mpr c11
       have c11b1 : ((bt a0 x6_1) != 10) = true := bne_iff_ne.mpr c11
       have H' := Aside0.mk H
       clear H
       have p10 : 0 ≤ (x6_1 : Int) := of_decide_eq_true (by first | (with_reducible assumption) | assumption)
       have q10 : x6_1 < (a0.size : Int) := of_decide_eq_true (by first | (with_reducible assumption) | assumption)
       have hx10 := bt_at a0 x6_1
       replace p10 := eq_true p10
       replace q10 := eq_true q10
       have hnb14 := NB160_159.out
       have hnc14 := NB159_160.out
       have hcz15_0 : wr.cell? ⟨gb160, 0, none⟩ = some (.int .i64 x161000_1) := (blk_cell BK160.out 0).trans rfl
       have hcz15_1 : wr.cell? ⟨gb160, 1, none⟩ = some (.int .i64 x161001_1) := (blk_cell BK160.out 1).trans rfl
       have hfz15_0 := blk_frozen BK160.out 0
       have hfz15_1 := blk_frozen BK160.out 1
       go_wp2
       go_roundg k1
       case measure => have := HK1.out; omega
       case rel => exact ⟨(wrap64 (x6_1 + 1)), (x161000_1), (wrap64 (x161001_1 + 1)), (by first | rfl | (simp; done) | (simp [*]; done)), (by first | exact H' | (subst_vars; exact H')), ⟨by have := HK1.out; omega⟩, ⟨by (with_reducible repeat (first | refine blk_drewN ?_ _ | refine blk_drew ?_ | refine blk_alloc ?_ _)); refine blk_far ?_ NB159_160.out _; (with_reducible repeat (first | refine blk_drewN ?_ _ | refine blk_drew ?_ | refine blk_alloc ?_ _)); exact BK159.out⟩, ⟨by (with_reducible repeat (first | refine blk_drewN ?_ _ | refine blk_drew ?_ | refine blk_alloc ?_ _)); refine blk_put (cs := #[.int .i64 x161000_1, .int .i64 x161001_1]) ?_ 1 _ rfl; (with_reducible repeat (first | refine blk_drewN ?_ _ | refine blk_drew ?_ | refine blk_alloc ?_ _)); exact BK160.out⟩, ⟨by repeat (first | (with_reducible first | exact HB.out | apply below_alloc | apply pw_below_drewN | apply below_drew1 | refine below_set ?_ GE159.out | refine below_set ?_ GE160.out) | exact HB.out)⟩⟩
     ·rw [if_neg c9] at H
      exact absurd H (by simp)
    ·rw [if_neg c8] at H
     exact absurd H (by simp)
   ·rw [if_neg c7] at H
    have c7b0 : decide (x6_1 < a1) = false := decide_eq_false c7
    clear c7
    simp only [Option.some.injEq, Prod.mk.injEq] at H
    obtain ⟨rfl, rfl⟩ := H
    have hnb16 := NB160_159.out
    have hnc16 := NB159_160.out
    have hcz17_0 : wr.cell? ⟨gb160, 0, none⟩ = some (.int .i64 x161000_1) := (blk_cell BK160.out 0).trans rfl
    have hcz17_1 : wr.cell? ⟨gb160, 1, none⟩ = some (.int .i64 x161001_1) := (blk_cell BK160.out 1).trans rfl
    have hfz17_0 := blk_frozen BK160.out 0
    have hfz17_1 := blk_frozen BK160.out 1
    have hcz18_0 : wr.cell? ⟨gb159, 0, none⟩ = some (.int .i64 0) := (blk_cell BK159.out 0).trans rfl
    have hcz18_1 : wr.cell? ⟨gb159, 1, none⟩ = some (.int .i64 0) := (blk_cell BK159.out 1).trans rfl
    have hfz18_0 := blk_frozen BK159.out 0
    have hfz18_1 := blk_frozen BK159.out 1
    go_wp2
    refine bodyPost_ret (results_cell_row rfl _ _ gb159 26 #[.int .i64 x161000_1, .int .i64 x161001_1] (0, 0) _ rfl (by (with_reducible repeat (first | refine blk_drewN ?_ _ | refine blk_drew ?_ | refine blk_alloc ?_ _)); refine blk_put (cs := #[.int .i64 x161000_1, .int .i64 0]) ?_ 1 _ rfl; (with_reducible repeat (first | refine blk_drewN ?_ _ | refine blk_drew ?_ | refine blk_alloc ?_ _)); refine blk_put (cs := #[.int .i64 0, .int .i64 0]) ?_ 0 _ rfl; (with_reducible repeat (first | refine blk_drewN ?_ _ | refine blk_drew ?_ | refine blk_alloc ?_ _)); exact BK159.out) Tryz.underlying26 rfl (by kernel_rfl)) rfl ?_
    exact ⟨by first | rfl | (simp [errW_none, errW_some] <;> rfl) | (simp [*, errW_none, errW_some] <;> rfl), by repeat (first | (with_reducible first | exact HB.out | apply below_alloc | apply pw_below_drewN | apply below_drew1 | refine below_set ?_ GE159.out | refine below_set ?_ GE160.out) | exact HB.out)⟩

end Go.Proofs.YtannlhonjkhchaaGreatDoor.G

/- Go functions as Lean functions, each with its contract: written by a program of mine over the kit's print. Conditions: each contract's own. -/
namespace Go.Proofs.YtannlhonjkhchaaGreatDoor.G
open Go.RowKit Go.Proofs.YtannlhonjkhchaaGreatDoorW.PrintWords Go.Proofs.YtannlhonjkhchaaGreatDoorW.PrintLast Go.Proofs.YtannlhonjkhchaaGreatDoorW.PrintMore
attribute [local go_sem] max2_int min2_int max_two min_two max_three min_three max_four min_four   -- for this text's walks alone
set_option linter.unusedVariables false
set_option linter.unusedSimpArgs false

theorem eqA33 (d : Nat) (w : World) (x0 y0 : Int) (x1 y1 : ByteArray) (x2 y2 : Int) (x3 y3 : Int) :
  (Op.equalIn (d + 3) 33 (.agg #[.int .i64 x0, .string x1, .int .i64 x2, .int .i64 x3]) (.agg #[.int .i64 y0, .string y1, .int .i64 y2, .int .i64 y3])).run Tryz.prog w = .ok (x0 == y0 && (x1.toList == y1.toList && ((x2 == y2 && (x3 == y3))))) w := by
 refine eqA_of Tryz.underlying33 (by kernel_rfl) ?_
 refine eqf_cons (by rfl) (by go_simp; rfl) (by go_simp; rfl) (by go_simp) ?_
 refine eqf_cons (by rfl) (by go_simp; rfl) (by go_simp; rfl) (by go_simp) ?_
 exact eqf_last (by rfl) (by go_simp) (by go_simp) (eqA26 (d + 0) w _ _ _ _)
end Go.Proofs.YtannlhonjkhchaaGreatDoor.G

/- Go functions as Lean functions, each with its contract: written by a program of mine over the kit's print. Conditions: each contract's own. -/
namespace Go.Proofs.YtannlhonjkhchaaGreatDoor.G
open Go.RowKit Go.Proofs.YtannlhonjkhchaaGreatDoorW.PrintWords Go.Proofs.YtannlhonjkhchaaGreatDoorW.PrintLast Go.Proofs.YtannlhonjkhchaaGreatDoorW.PrintMore
attribute [local go_sem] max2_int min2_int max_two min_two max_three min_three max_four min_four   -- for this text's walks alone
set_option linter.unusedVariables false
set_option linter.unusedSimpArgs false

attribute [local go_sem high] eqA33
/-! ### bloomeryref09_Same: function 11 -/
def bloomeryref09_Same.l0 : Nat → List (S33) → List (S33) → Int → Option (Bool)
 | 0, _, _, _ => none
 | k + 1, x0, x1, x5 => if x5 < (x0.length : Int) then (if 0 ≤ x5 then (if x5 < (x1.length : Int) then (if (!(((rd_T33 x0 x5).f0) == ((rd_T33 x1 x5).f0)) || (!((((rd_T33 x0 x5).f1).toList) == (((rd_T33 x1 x5).f1).toList)) || ((!(((rd_T33 x0 x5).f2.f0) == ((rd_T33 x1 x5).f2.f0)) || (!(((rd_T33 x0 x5).f2.f1) == ((rd_T33 x1 x5).f2.f1))))))) = true then (some false) else (bloomeryref09_Same.l0 k x0 x1 (wrap64 (x5 + 1)))) else (none)) else (none)) else (some true)
def bloomeryref09_Same.f (k : Nat) (l0 : List (S33)) (l1 : List (S33)) : Option (Bool) := if (l0.length : Int) = (l1.length : Int) then (bloomeryref09_Same.l0 k l0 l1 0) else (some false)
set_option maxHeartbeats 8000000 in
set_option maxRecDepth 100000 in
theorem bloomeryref09_Same.calls (k : Nat) (A0 : Option Addr) (c0 : Nat) (l0 : List (S33)) (A1 : Option Addr) (c1 : Nat) (l1 : List (S33)) (r : Bool) (w : World) (hr0 : Kd.C k33 w A0 l0.length l0) (hc0 : l0.length ≤ c0) (hr1 : Kd.C k33 w A1 l1.length l1) (hc1 : l1.length ≤ c1) (h : bloomeryref09_Same.f k l0 l1 = some r) :
  Calls Tryz.prog 11 #[.slice A0 l0.length c0, .slice A1 l1.length c1] w fun e w' => e = .returned (.bool r) ∧ Drawn0 w w' := by
 have hu33 := Tryz.underlying33
 have HR0 := Aside0.mk hr0
 have HC0 := Aside0.mk hc0
 clear hr0 hc0
 have HR1 := Aside0.mk hr1
 have HC1 := Aside0.mk hc1
 clear hr1 hc1
 have H : (if (l0.length : Int) = (l1.length : Int) then (bloomeryref09_Same.l0 k l0 l1 0) else (some false)) = some r := h
 clear h
 by_cases c3 : (l0.length : Int) = (l1.length : Int)
 ·rw [if_pos c3] at H
  have c3b0 : ((l0.length : Int) == (l1.length : Int)) = true := beq_iff_eq.mpr c3
  have c3b1 : ((l0.length : Int) != (l1.length : Int)) = false := bne_eq_false_iff_eq.mpr c3
  have c3b2 : (l0.length == l1.length) = true := by first | simpa using c3 | (simp at c3 ⊢; omega)
  clear c3
  have H' := Aside0.mk H
  clear H
  go_enter Tryz.func11, Tryz.ntmps11
  go_wp2
  repeat (go_quiet (fail); try go_wp2)
  go_loopg [5] k (fun kq v5 w' => ∃ (x5_1 : Int), v5 = .int .i64 x5_1 ∧ Aside0 (bloomeryref09_Same.l0 kq l0 l1 x5_1 = some r) ∧ Aside0 (kq ≤ k) ∧ Drawn0 w w')
  case atStart => exact ⟨(0), (by first | rfl | (simp; done) | (simp [*]; done)), (by first | exact H' | (subst_vars; exact H')), ⟨Nat.le_refl _⟩, by repeat (first | exact Drawn0.refl _ | apply Drawn0.step)⟩
  case round =>
   clear H'
   try clear c1
   try clear p2
   try clear c3
   try clear c3b0
   try clear c3b1
   try clear c3b2
   obtain ⟨x5_1, rfl, HA, HK1, ⟨m1, rfl⟩⟩ := hrel
   cases gk with
   | zero => exact absurd HA.out (by simp [bloomeryref09_Same.l0])
   | succ k1 =>
    have H := HA.out
    clear HA
    simp only [bloomeryref09_Same.l0] at H
    by_cases c4 : x5_1 < (l0.length : Int)
    ·rw [if_pos c4] at H
     have c4b0 : decide (x5_1 < (l0.length : Int)) = true := decide_eq_true c4
     clear c4
     by_cases c5 : 0 ≤ x5_1
     ·rw [if_pos c5] at H
      have c5b0 : decide (0 ≤ x5_1) = true := decide_eq_true c5
      clear c5
      by_cases c6 : x5_1 < (l1.length : Int)
      ·rw [if_pos c6] at H
       have c6b0 : decide (x5_1 < (l1.length : Int)) = true := decide_eq_true c6
       clear c6
       by_cases c7 : (!(((rd_T33 l0 x5_1).f0) == ((rd_T33 l1 x5_1).f0)) || (!((((rd_T33 l0 x5_1).f1).toList) == (((rd_T33 l1 x5_1).f1).toList)) || ((!(((rd_T33 l0 x5_1).f2.f0) == ((rd_T33 l1 x5_1).f2.f0)) || (!(((rd_T33 l0 x5_1).f2.f1) == ((rd_T33 l1 x5_1).f2.f1))))))) = true
       ·rw [if_pos c7] at H
        have c7b0 : (!(((rd_T33 l0 x5_1).f0) == ((rd_T33 l1 x5_1).f0)) || (!((((rd_T33 l0 x5_1).f1).toList) == (((rd_T33 l1 x5_1).f1).toList)) || ((!(((rd_T33 l0 x5_1).f2.f0) == ((rd_T33 l1 x5_1).f2.f0)) || (!(((rd_T33 l0 x5_1).f2.f1) == ((rd_T33 l1 x5_1).f2.f1))))))) = true := c7
        clear c7
        obtain rfl := Option.some.inj H
        have p200 : 0 ≤ (x5_1 : Int) := of_decide_eq_true (by first | (with_reducible assumption) | assumption)
        have q200 : x5_1 < (l0.length : Int) := of_decide_eq_true (by first | (with_reducible assumption) | assumption)
        obtain ⟨ad200, e200, hx200_0, hx200_1, hx200_2, hx200_3⟩ := at_T33 HR0.out x5_1 p200 q200
        cases e200
        replace p200 := eq_true p200
        replace q200 := eq_true q200
        have p201 : 0 ≤ (x5_1 : Int) := of_decide_eq_true (by first | (with_reducible assumption) | assumption)
        have q201 : x5_1 < (l1.length : Int) := of_decide_eq_true (by first | (with_reducible assumption) | assumption)
        obtain ⟨ad201, e201, hx201_0, hx201_1, hx201_2, hx201_3⟩ := at_T33 HR1.out x5_1 p201 q201
        cases e201
        replace p201 := eq_true p201
        replace q201 := eq_true q201
        go_wp2
        repeat (go_quiet (fail); try go_wp2)
        go_ret
        exact ⟨by first | rfl | (simp; done) | (simp [*]; done), by repeat (first | exact Drawn0.refl _ | apply Drawn0.step)⟩
       ·rw [if_neg c7] at H
        have c7b0 : (!(((rd_T33 l0 x5_1).f0) == ((rd_T33 l1 x5_1).f0)) || (!((((rd_T33 l0 x5_1).f1).toList) == (((rd_T33 l1 x5_1).f1).toList)) || ((!(((rd_T33 l0 x5_1).f2.f0) == ((rd_T33 l1 x5_1).f2.f0)) || (!(((rd_T33 l0 x5_1).f2.f1) == ((rd_T33 l1 x5_1).f2.f1))))))) = false := by simpa using c7
        clear c7
        have H' := Aside0.mk H
        clear H
        have p200 : 0 ≤ (x5_1 : Int) := of_decide_eq_true (by first | (with_reducible assumption) | assumption)
        have q200 : x5_1 < (l0.length : Int) := of_decide_eq_true (by first | (with_reducible assumption) | assumption)
        obtain ⟨ad200, e200, hx200_0, hx200_1, hx200_2, hx200_3⟩ := at_T33 HR0.out x5_1 p200 q200
        cases e200
        replace p200 := eq_true p200
        replace q200 := eq_true q200
        have p201 : 0 ≤ (x5_1 : Int) := of_decide_eq_true (by first | (with_reducible assumption) | assumption)
        have q201 : x5_1 < (l1.length : Int) := of_decide_eq_true (by first | (with_reducible assumption) | assumption)
        obtain ⟨ad201, e201, hx201_0, hx201_1, hx201_2, hx201_3⟩ := at_T33 HR1.out x5_1 p201 q201
        cases e201
        replace p201 := eq_true p201
        replace q201 := eq_true q201
        go_wp2
        repeat (go_quiet (fail); try go_wp2)
        go_roundg k1
        case measure => have := HK1.out; omega
        case rel => exact ⟨(wrap64 (x5_1 + 1)), (by first | rfl | (simp; done) | (simp [*]; done)), (by first | exact H' | (subst_vars; exact H')), ⟨by have := HK1.out; omega⟩, by repeat (first | exact Drawn0.refl _ | apply Drawn0.step)⟩
      ·rw [if_neg c6] at H
       exact absurd H (by simp)
     ·rw [if_neg c5] at H
      exact absurd H (by simp)
    ·rw [if_neg c4] at H
     have c4b0 : decide (x5_1 < (l0.length : Int)) = false := decide_eq_false c4
     clear c4
     obtain rfl := Option.some.inj H
     go_wp2
     repeat (go_quiet (fail); try go_wp2)
     go_ret
     exact ⟨by first | rfl | (simp; done) | (simp [*]; done), by repeat (first | exact Drawn0.refl _ | apply Drawn0.step)⟩
 ·rw [if_neg c3] at H
  have c3b0 : ((l0.length : Int) == (l1.length : Int)) = false := beq_eq_false_iff_ne.mpr c3
  have c3b1 : ((l0.length : Int) != (l1.length : Int)) = true := bne_iff_ne.mpr c3
  have c3b2 : (l0.length == l1.length) = false := by first | simpa using c3 | (simp at c3 ⊢; omega)
  obtain rfl := Option.some.inj H
  go_enter Tryz.func11, Tryz.ntmps11
  go_wp2
  repeat (go_quiet (fail); try go_wp2)
  go_ret
  exact ⟨by first | rfl | (simp; done) | (simp [*]; done), by repeat (first | exact Drawn0.refl _ | apply Drawn0.step)⟩

end Go.Proofs.YtannlhonjkhchaaGreatDoor.G

/- The reference's places and its comparison of tokens, as Lean functions; how many tokens a text has. No program's run. -/
namespace Go.Proofs.YtannlhonjkhchaaGreatDoor.G
open Go.RowKit Go.Gw Go.Proofs.YtannlhonjkhchaaGreatDoorW.PrintWords
set_option linter.unusedVariables false
set_option linter.unusedSimpArgs false

/-- The reference's place of a byte. -/
theorem at_ev (l : List UInt8) (hl : l.length ≤ 1000000) (i : Nat) (hi : i ≤ l.length) : Ev (fun k => bloomeryref09_At.f k (B l) i) (((Lx.pass (1, 1) (l.take i)).1 : Int), ((Lx.pass (1, 1) (l.take i)).2 : Int)) := by
  have key : ∀ d j, d + j = i → Ev (fun k => bloomeryref09_At.l0 k (B l) i j (Lx.pass (1, 1) (l.take j)).1 (Lx.pass (1, 1) (l.take j)).2) (((Lx.pass (1, 1) (l.take i)).1 : Int), ((Lx.pass (1, 1) (l.take i)).2 : Int)) := by
    intro d
    induction d with
    | zero =>
      intro j hj
      have : j = i := by omega
      subst this
      exact Ev.step (fun k => by rw [bloomeryref09_At.l0]) (Ev.neg (by omega) (Ev.now _))
    | succ d ih =>
      intro j hj
      have h1 : j < l.length := by omega
      have hp := pass_le (1, 1) (l.take j)
      rw [List.length_take] at hp
      have ht : Lx.pass (1, 1) (l.take (j + 1)) = Lx.pass1 (Lx.pass (1, 1) (l.take j)) l[j] := by
        rw [List.take_succ_eq_append_getElem h1, Lx.pass_append]
        rfl
      have hih := ih (j + 1) (by omega)
      rw [ht] at hih
      refine Ev.step (fun k => by rw [bloomeryref09_At.l0]) (Ev.pos (by omega) (Ev.pos (by omega) (Ev.pos (by rw [B_size]; omega) ?_)))
      rw [bt_nat l j h1, w64 (x := (j : Int) + 1) (by omega) (by omega)]
      by_cases hc : l[j] = 10
      · refine Ev.pos (by rw [hc]; rfl) ?_
        rw [w64 (by omega) (by omega)]
        unfold Lx.pass1 at hih
        rw [if_pos hc] at hih
        exact hih
      · refine Ev.neg (fun e => hc (toNat_eq.1 (e.trans rfl))) ?_
        rw [w64 (by omega) (by omega)]
        unfold Lx.pass1 at hih
        rw [if_neg hc] at hih
        exact hih
  exact key i 0 (by omega)
theorem same_ev (l : List S33) (hl : l.length ≤ 1000000) : Ev (fun k => bloomeryref09_Same.f k l l) true := by
  have key : ∀ d i, d + i = l.length → Ev (fun k => bloomeryref09_Same.l0 k l l i) true := by
    intro d
    induction d with
    | zero =>
      intro i hi
      exact Ev.step (fun k => by rw [bloomeryref09_Same.l0]) (Ev.neg (by omega) (Ev.now _))
    | succ d ih =>
      intro i hi
      refine Ev.step (fun k => by rw [bloomeryref09_Same.l0]) (Ev.pos (by omega) (Ev.pos (by omega) (Ev.pos (by omega) (Ev.neg (by simp) ?_))))
      rw [w64 (by omega) (by omega)]
      exact ih (i + 1) (by omega)
  unfold bloomeryref09_Same.f
  exact Ev.pos rfl (key l.length 0 (by omega))
/-- Whoever has a line feed says so. -/
theorem notLf_of {r : List UInt8} (h : ∀ c ∈ r, c ≠ 10) : ∀ c ∈ r, Lx.notLf c = true := by
  intro c hc
  unfold Lx.notLf
  simpa using h c hc
theorem allF_line : ∀ (k : Nat) (p : Nat × Nat) (s : List UInt8) (l : List Lx.Tok), Lx.allF k p s = .inr l → ∀ t ∈ l, t.place.1 ≤ p.1 + s.length := by
  intro k
  induction k with
  | zero => intro p s l h t ht; cases h; cases ht
  | succ k ih =>
    intro p s l h t ht
    unfold Lx.allF at h
    split at h
    · cases h; cases ht
    · rename_i hs
      have hsz := Lx.piece_size s hs
      rcases piece_cases s with ⟨n, g⟩ | g | g | ⟨kd, tx, n, _, _, g⟩
      · rw [g] at h hsz
        have := ih _ _ _ h t ht
        have hp := pass_le p (s.take n)
        rw [List.length_drop] at this
        rw [List.length_take] at hp
        simp only [Lx.Piece.size] at hsz
        omega
      · rw [g] at h; cases h
      · rw [g] at h; cases h
      · rw [g] at h hsz
        simp only at h
        cases hr : Lx.allF k (Lx.pass p (s.take n)) (s.drop n) with
        | inl x => rw [hr] at h; cases h
        | inr x =>
          rw [hr] at h
          cases h
          rcases List.mem_cons.1 ht with rfl | ht
          · show p.1 ≤ _
            omega
          · have := ih _ _ _ hr t ht
            have hp := pass_le p (s.take n)
            rw [List.length_drop] at this
            rw [List.length_take] at hp
            simp only [Lx.Piece.size] at hsz
            omega
theorem allF_many : ∀ (k : Nat) (p : Nat × Nat) (s : List UInt8) (l : List Lx.Tok), s.length ≤ k → Lx.allF k p s = .inr l → l.length ≤ s.length := by
  intro k
  induction k with
  | zero => intro p s l hk h; cases h; simp
  | succ k ih =>
    intro p s l hk h
    unfold Lx.allF at h
    split at h
    · cases h; simp
    · rename_i hs
      have hsz := Lx.piece_size s hs
      rcases piece_cases s with ⟨n, g⟩ | g | g | ⟨kd, tx, n, _, _, g⟩
      · rw [g] at h hsz
        simp only [Lx.Piece.size] at hsz
        rcases hsz.2 with ⟨x, hx⟩ | h1
        · cases hx
        · have := ih _ _ _ (by rw [List.length_drop]; omega) h
          rw [List.length_drop] at this
          omega
      · rw [g] at h; cases h
      · rw [g] at h; cases h
      · rw [g] at h hsz
        simp only [Lx.Piece.size] at hsz
        rcases hsz.2 with ⟨x, hx⟩ | h1
        · cases hx
        · simp only at h
          cases hr : Lx.allF k (Lx.pass p (s.take n)) (s.drop n) with
          | inl x => rw [hr] at h; cases h
          | inr x =>
            rw [hr] at h
            cases h
            have := ih _ _ _ (by rw [List.length_drop]; omega) hr
            rw [List.length_drop] at this
            simp only [List.length_cons]
            omega
end Go.Proofs.YtannlhonjkhchaaGreatDoor.G

/- Layer 9 (lex), in plain Lean, the second part: parts, faults, places, remarks, quoted texts, once more. No program. -/
namespace Go.Lx
theorem quoted_some : ∀ (k : Nat) (s : List UInt8), s.length ≤ k → ∀ t n, quoted s = some (t, n) → ∀ x, quoted (s ++ x) = some (t, n) := by
  intro k
  induction k with
  | zero =>
    intro s hs t n h
    have : s = [] := List.length_eq_zero_iff.1 (by omega)
    subst this
    simp [quoted] at h
  | succ k ih =>
    intro s hs t n h x
    match s with
    | [] => simp [quoted] at h
    | c :: r =>
      simp only [List.length_cons] at hs
      rw [List.cons_append, quoted_cons]
      rw [quoted_cons] at h
      by_cases h1 : c = 34
      · rw [if_pos h1] at h ⊢; exact h
      · rw [if_neg h1] at h ⊢
        by_cases h2 : c.toNat < 32 ∨ c = 127
        · rw [if_pos h2] at h; cases h
        · rw [if_neg h2] at h ⊢
          by_cases h3 : c = 92
          · rw [if_pos h3] at h ⊢
            match r with
            | [] => cases h
            | d :: r' =>
              simp only [List.cons_append] at h ⊢
              simp only [List.length_cons] at hs
              cases he : esc d with
              | none => rw [he] at h; cases h
              | some y =>
                rw [he] at h
                simp only at h ⊢
                cases hq : quoted r' with
                | none => rw [hq] at h; cases h
                | some z =>
                  obtain ⟨t', n'⟩ := z
                  rw [hq] at h
                  rw [ih r' (by omega) t' n' hq x]
                  exact h
          · rw [if_neg h3] at h ⊢
            cases hq : quoted r with
            | none => rw [hq] at h; cases h
            | some z =>
              obtain ⟨t', n'⟩ := z
              rw [hq] at h
              rw [ih r (by omega) t' n' hq x]
              exact h
theorem quoted_none : ∀ (k : Nat) (s : List UInt8), s.length ≤ k → quoted s = none → ∀ x, quoted (s ++ 10 :: x) = none := by
  intro k
  induction k with
  | zero =>
    intro s hs h x
    have : s = [] := List.length_eq_zero_iff.1 (by omega)
    subst this
    simp [quoted_cons]
  | succ k ih =>
    intro s hs h x
    match s with
    | [] => simp [quoted_cons]
    | c :: r =>
      simp only [List.length_cons] at hs
      rw [List.cons_append, quoted_cons]
      rw [quoted_cons] at h
      by_cases h1 : c = 34
      · rw [if_pos h1] at h; cases h
      · rw [if_neg h1] at h ⊢
        by_cases h2 : c.toNat < 32 ∨ c = 127
        · rw [if_pos h2]
        · rw [if_neg h2] at h ⊢
          by_cases h3 : c = 92
          · rw [if_pos h3] at h ⊢
            match r with
            | [] => simp [esc]
            | d :: r' =>
              simp only [List.cons_append] at h ⊢
              simp only [List.length_cons] at hs
              cases he : esc d with
              | none => rfl
              | some y =>
                rw [he] at h
                simp only at h ⊢
                cases hq : quoted r' with
                | none => rw [ih r' (by omega) hq x]
                | some z => rw [hq] at h; cases h
          · rw [if_neg h3] at h ⊢
            cases hq : quoted r with
            | none => rw [ih r (by omega) hq x]
            | some z => rw [hq] at h; cases h
theorem head_app (s : List UInt8) (x : UInt8) (r : List UInt8) (h : s ≠ []) : (s ++ x :: r).head? = s.head? := by
  cases s with
  | nil => exact absurd rfl h
  | cons c s => rfl
/-- A line feed behind changes nothing of what a text begins with. -/
theorem piece_lf (s : List UInt8) (hs : s ≠ []) (x : List UInt8) : piece (s ++ 10 :: x) = piece s := by
  match s with
  | [] => exact absurd rfl hs
  | c :: r =>
    rw [List.cons_append, piece_cons, piece_cons]
    have e : ∀ p : UInt8 → Bool, p 10 = false → (c :: (r ++ 10 :: x)).takeWhile p = (c :: r).takeWhile p := fun p hp => takeWhile_stop p 10 hp x (c :: r)
    have en : number (c :: (r ++ 10 :: x)) = number (c :: r) := by
      unfold number
      rw [e digitc (by decide)]
      rfl
    rw [e notLf (by decide), e wordc (by decide), en]
    have eq : quoted (r ++ 10 :: x) = quoted r := by
      cases hq : quoted r with
      | none => exact quoted_none r.length r (by omega) hq x
      | some z =>
        obtain ⟨t, n⟩ := z
        exact quoted_some r.length r (by omega) t n hq (10 :: x)
    rw [eq]
    have eh : ((r ++ 10 :: x).head? = some 61 ∧ (c = 61 ∨ c = 33)) ↔ (r.head? = some 61 ∧ (c = 61 ∨ c = 33)) := by
      cases r with
      | nil => simp
      | cons d r => simp
    simp only [eh]

/-- Tokens ahead of what else there is. -/
def ahead (l : List Tok) : (Nat × (Nat × Nat)) ⊕ List Tok → (Nat × (Nat × Nat)) ⊕ List Tok
  | .inl e => .inl e
  | .inr m => .inr (l ++ m)
theorem ahead_nil (x : (Nat × (Nat × Nat)) ⊕ List Tok) : ahead [] x = x := by cases x <;> rfl
/-- P9.3: a line feed ends what stands ahead of it. -/
theorem all_parts (x : List UInt8) : ∀ (k : Nat) (a : List UInt8), a.length ≤ k → ∀ (p : Nat × Nat) (l : List Tok), all p a = .inr l →
    all p (a ++ 10 :: x) = ahead l (all (pass p (a ++ [10])) x) := by
  intro k
  induction k with
  | zero =>
    intro a ha p l h
    have : a = [] := List.length_eq_zero_iff.1 (by omega)
    subst this
    rw [all_nil] at h
    cases h
    rw [ahead_nil]
    exact all_gaps [10] p x (by simp [gapc])
  | succ k ih =>
    intro a ha p l h
    by_cases ha0 : a = []
    · subst ha0
      rw [all_nil] at h
      cases h
      rw [ahead_nil]
      exact all_gaps [10] p x (by simp [gapc])
    · have hp := piece_size a ha0
      rw [all_step _ _ (by simp), piece_lf a ha0 x]
      rw [all_step p a ha0] at h
      cases hh : piece a with
      | bad e => rw [hh] at h; cases h
      | gap n =>
        rw [hh] at h hp
        simp only [Piece.size] at h hp ⊢
        have h1 : 1 ≤ n := by rcases hp.2 with ⟨e, he⟩ | h1; cases he; exact h1
        have hd : (a ++ 10 :: x).drop n = a.drop n ++ 10 :: x := by rw [List.drop_append_of_le_length hp.1]
        have ht : (a ++ 10 :: x).take n = a.take n := by rw [List.take_append_of_le_length hp.1]
        rw [hd, ht, ih (a.drop n) (by rw [List.length_drop]; omega) _ l h, ← pass_append, ← List.append_assoc, List.take_append_drop]
      | tok kd t n =>
        rw [hh] at h hp
        simp only [Piece.size] at h hp ⊢
        have h1 : 1 ≤ n := by rcases hp.2 with ⟨e, he⟩ | h1; cases he; exact h1
        have hd : (a ++ 10 :: x).drop n = a.drop n ++ 10 :: x := by rw [List.drop_append_of_le_length hp.1]
        have ht : (a ++ 10 :: x).take n = a.take n := by rw [List.take_append_of_le_length hp.1]
        cases hr : all (pass p (a.take n)) (a.drop n) with
        | inl e => rw [hr] at h; cases h
        | inr l' =>
          rw [hr] at h
          cases h
          rw [hd, ht, ih (a.drop n) (by rw [List.length_drop]; omega) _ l' hr, ← pass_append, ← List.append_assoc, List.take_append_drop]
          cases all (pass p (a ++ [10])) x <;> rfl
/-- P9.1: what isn't right stays so. -/
theorem all_fault (x : List UInt8) : ∀ (k : Nat) (a : List UInt8), a.length ≤ k → ∀ (p : Nat × Nat) (e : Nat × (Nat × Nat)), all p a = .inl e → all p (a ++ 10 :: x) = .inl e := by
  intro k
  induction k with
  | zero =>
    intro a ha p e h
    have : a = [] := List.length_eq_zero_iff.1 (by omega)
    subst this
    rw [all_nil] at h
    cases h
  | succ k ih =>
    intro a ha p e h
    by_cases ha0 : a = []
    · subst ha0
      rw [all_nil] at h
      cases h
    · have hp := piece_size a ha0
      rw [all_step _ _ (by simp), piece_lf a ha0 x]
      rw [all_step p a ha0] at h
      cases hh : piece a with
      | bad e' => rw [hh] at h; exact h
      | gap n =>
        rw [hh] at h hp
        simp only [Piece.size] at h hp ⊢
        have h1 : 1 ≤ n := by rcases hp.2 with ⟨e, he⟩ | h1; cases he; exact h1
        have hd : (a ++ 10 :: x).drop n = a.drop n ++ 10 :: x := by rw [List.drop_append_of_le_length hp.1]
        have ht : (a ++ 10 :: x).take n = a.take n := by rw [List.take_append_of_le_length hp.1]
        rw [hd, ht, ih (a.drop n) (by rw [List.length_drop]; omega) _ e h]
      | tok kd t n =>
        rw [hh] at h hp
        simp only [Piece.size] at h hp ⊢
        have h1 : 1 ≤ n := by rcases hp.2 with ⟨e, he⟩ | h1; cases he; exact h1
        have hd : (a ++ 10 :: x).drop n = a.drop n ++ 10 :: x := by rw [List.drop_append_of_le_length hp.1]
        have ht : (a ++ 10 :: x).take n = a.take n := by rw [List.take_append_of_le_length hp.1]
        cases hr : all (pass p (a.take n)) (a.drop n) with
        | inl e' =>
          rw [hr] at h
          cases h
          rw [hd, ht, ih (a.drop n) (by rw [List.length_drop]; omega) _ e hr]
        | inr l' => rw [hr] at h; cases h

/-! ### Further down -/
def Tok.down (d : Nat) (t : Tok) : Tok := { t with place := (t.place.1 + d, t.place.2) }
theorem pass_down (d : Nat) : ∀ (s : List UInt8) (p : Nat × Nat), pass (p.1 + d, p.2) s = ((pass p s).1 + d, (pass p s).2) := by
  intro s
  induction s with
  | nil => intro p; rfl
  | cons c s ih =>
    intro p
    have h1 : pass1 (p.1 + d, p.2) c = ((pass1 p c).1 + d, (pass1 p c).2) := by
      unfold pass1
      split
      · simp only [Prod.mk.injEq, and_true]; omega
      · rfl
    show pass (pass1 (p.1 + d, p.2) c) s = _
    rw [h1, ih]
    rfl
theorem all_down (d : Nat) : ∀ (k : Nat) (s : List UInt8), s.length ≤ k → ∀ p : Nat × Nat, all (p.1 + d, p.2) s = (match all p s with
    | .inl e => .inl (e.1, (e.2.1 + d, e.2.2))
    | .inr l => .inr (l.map (Tok.down d))) := by
  intro k
  induction k with
  | zero =>
    intro a ha p
    have : a = [] := List.length_eq_zero_iff.1 (by omega)
    subst this
    rfl
  | succ k ih =>
    intro a ha p
    by_cases ha0 : a = []
    · subst ha0; rfl
    · have hp := piece_size a ha0
      rw [all_step _ a ha0, all_step _ a ha0]
      cases hh : piece a with
      | bad e => rfl
      | gap n =>
        rw [hh] at hp
        simp only [Piece.size] at hp ⊢
        have h1 : 1 ≤ n := by rcases hp.2 with ⟨e, he⟩ | h1; cases he; exact h1
        have hlen := List.length_pos_iff.2 ha0
        rw [pass_down, ih _ (by rw [List.length_drop]; omega)]
      | tok kd t n =>
        rw [hh] at hp
        simp only [Piece.size] at hp ⊢
        have h1 : 1 ≤ n := by rcases hp.2 with ⟨e, he⟩ | h1; cases he; exact h1
        have hlen := List.length_pos_iff.2 ha0
        rw [pass_down, ih _ (by rw [List.length_drop]; omega)]
        cases all (pass p (a.take n)) (a.drop n) <;> rfl
theorem pass_lf (p : Nat × Nat) (a : List UInt8) : pass p (a ++ [10]) = ((pass p a).1 + 1, 1) := by rw [pass_append]; rfl

/-! ### A remark behind -/
theorem pass_line (y : List UInt8) (h : ∀ c ∈ y, notLf c = true) : ∀ p : Nat × Nat, (pass p y).1 = p.1 := by
  induction y with
  | nil => intro p; rfl
  | cons c y ih =>
    intro p
    have hc := h c (by simp)
    show (pass (pass1 p c) y).1 = p.1
    rw [ih (fun x hx => h x (by simp [hx]))]
    unfold pass1
    rw [if_neg (by simpa [notLf] using hc)]
theorem takeWhile_part (p : UInt8 → Bool) : ∀ s : List UInt8, (∃ c ∈ s, p c = false) → ∀ r, (s ++ r).takeWhile p = s.takeWhile p := by
  intro s
  induction s with
  | nil => rintro ⟨c, hc, _⟩; cases hc
  | cons c s ih =>
    rintro ⟨x, hx, hpx⟩ r
    cases hc : p c with
    | false => rw [List.cons_append, List.takeWhile_cons_of_neg (by simp [hc]), List.takeWhile_cons_of_neg (by simp [hc])]
    | true =>
      rcases List.mem_cons.1 hx with rfl | hx
      · rw [hc] at hpx; cases hpx
      · rw [List.cons_append, List.takeWhile_cons_of_pos hc, List.takeWhile_cons_of_pos hc, ih ⟨x, hx, hpx⟩]
theorem piece_hash (s : List UInt8) (hs : s ≠ []) (hb : ∀ e, piece s ≠ .bad e) (y : List UInt8) :
    piece (s ++ 35 :: y) = piece s ∨ ∃ r, s = 35 :: r ∧ ∀ c ∈ s, notLf c = true := by
  match s with
  | [] => exact absurd rfl hs
  | c :: r =>
    by_cases hr : c = 35 ∧ ∀ d ∈ c :: r, notLf d = true
    · exact .inr ⟨r, by rw [hr.1], hr.2⟩
    left
    rw [List.cons_append, piece_cons, piece_cons]
    rw [piece_cons] at hb
    by_cases h1 : gapc c = true
    · rw [if_pos h1, if_pos h1]
    · rw [if_neg h1] at hb ⊢
      rw [if_neg h1]
      by_cases h2 : c = 35
      · rw [if_pos h2, if_pos h2]
        have hlf : ∃ d ∈ c :: r, notLf d = false := by
          apply Classical.byContradiction
          intro hn
          refine hr ⟨h2, fun d hd => ?_⟩
          cases hx : notLf d with
          | true => rfl
          | false => exact absurd ⟨d, hd, hx⟩ hn
        have := takeWhile_part notLf (c :: r) hlf (35 :: y)
        rw [List.cons_append] at this
        rw [this]
      · rw [if_neg h2] at hb ⊢
        rw [if_neg h2]
        have e : ∀ p : UInt8 → Bool, p 35 = false → (c :: (r ++ 35 :: y)).takeWhile p = (c :: r).takeWhile p := fun p hp => takeWhile_stop p 35 hp y (c :: r)
        have en : number (c :: (r ++ 35 :: y)) = number (c :: r) := by
          unfold number
          rw [e digitc (by decide)]
          rfl
        rw [e wordc (by decide), en]
        by_cases h3 : letterc c = true
        · rw [if_pos h3, if_pos h3]
        · rw [if_neg h3] at hb ⊢
          rw [if_neg h3]
          by_cases h4 : digitc c = true
          · rw [if_pos h4, if_pos h4]
          · rw [if_neg h4] at hb ⊢
            rw [if_neg h4]
            by_cases h5 : c = 34
            · rw [if_pos h5] at hb ⊢
              rw [if_pos h5]
              cases hq : quoted r with
              | none => rw [hq] at hb; exact absurd rfl (hb 3)
              | some z =>
                obtain ⟨t, n⟩ := z
                rw [quoted_some r.length r (by omega) t n hq]
            · rw [if_neg h5, if_neg h5]
              have eh : ((r ++ 35 :: y).head? = some 61 ∧ (c = 61 ∨ c = 33)) ↔ (r.head? = some 61 ∧ (c = 61 ∨ c = 33)) := by
                cases r with
                | nil => simp
                | cons d r => simp
              simp only [eh]
/-- P9.3: a remark at the end of what stands ahead plays no part. -/
theorem all_remarked (rem x : List UInt8) (hrem : ∀ c ∈ rem, notLf c = true) : ∀ (k : Nat) (a : List UInt8), a.length ≤ k → ∀ (p : Nat × Nat) (l : List Tok), all p a = .inr l →
    all p (a ++ (35 :: (rem ++ 10 :: x))) = ahead l (all (pass p (a ++ 35 :: (rem ++ [10]))) x) := by
  have hash : ∀ r : List UInt8, (∀ c ∈ 35 :: r, notLf c = true) → ∀ p : Nat × Nat, all p (35 :: (r ++ 10 :: x)) = all (pass p (35 :: (r ++ [10]))) x := by
    intro r hr p
    have hpc : piece (35 :: (r ++ 10 :: x)) = .gap (35 :: r).length := by
      rw [piece_cons, if_neg (by decide), if_pos rfl]
      have := takeWhile_stop notLf 10 (by decide) x (35 :: r)
      rw [List.cons_append] at this
      rw [this]
      have h2 := takeWhile_all notLf (35 :: r) hr []
      rw [List.append_nil, List.takeWhile_nil, List.append_nil] at h2
      rw [h2]
    rw [all_step _ _ (by simp), hpc]
    simp only
    have hd : (35 :: (r ++ 10 :: x)).drop (35 :: r).length = 10 :: x := by rw [← List.cons_append, List.drop_left]
    have ht : (35 :: (r ++ 10 :: x)).take (35 :: r).length = 35 :: r := by rw [← List.cons_append, List.take_left]
    rw [hd, ht]
    have := all_gaps [10] (pass p (35 :: r)) x (by simp [gapc])
    rw [List.cons_append, List.nil_append] at this
    rw [this, ← pass_append, List.cons_append]
  intro k
  induction k with
  | zero =>
    intro a ha p l h
    have : a = [] := List.length_eq_zero_iff.1 (by omega)
    subst this
    rw [all_nil] at h
    cases h
    rw [ahead_nil]
    exact hash rem (fun c hc => by rcases List.mem_cons.1 hc with rfl | hc; decide; exact hrem c hc) p
  | succ k ih =>
    intro a ha p l h
    by_cases ha0 : a = []
    · subst ha0
      rw [all_nil] at h
      cases h
      rw [ahead_nil]
      exact hash rem (fun c hc => by rcases List.mem_cons.1 hc with rfl | hc; decide; exact hrem c hc) p
    · have hp := piece_size a ha0
      have hnb : ∀ e, piece a ≠ .bad e := by
        intro e he
        rw [all_step p a ha0, he] at h
        cases h
      rcases piece_hash a ha0 hnb (rem ++ 10 :: x) with hpa | ⟨r, rfl, hr⟩
      · rw [all_step _ _ (by simp), hpa]
        rw [all_step p a ha0] at h
        cases hh : piece a with
        | bad e => exact absurd hh (hnb e)
        | gap n =>
          rw [hh] at h hp
          simp only [Piece.size] at h hp ⊢
          have h1 : 1 ≤ n := by rcases hp.2 with ⟨e, he⟩ | h1; cases he; exact h1
          rw [List.drop_append_of_le_length hp.1, List.take_append_of_le_length hp.1, ih (a.drop n) (by rw [List.length_drop]; omega) _ l h, ← pass_append, ← List.append_assoc, List.take_append_drop]
        | tok kd t n =>
          rw [hh] at h hp
          simp only [Piece.size] at h hp ⊢
          have h1 : 1 ≤ n := by rcases hp.2 with ⟨e, he⟩ | h1; cases he; exact h1
          cases hr : all (pass p (a.take n)) (a.drop n) with
          | inl e => rw [hr] at h; cases h
          | inr l' =>
            rw [hr] at h
            cases h
            rw [List.drop_append_of_le_length hp.1, List.take_append_of_le_length hp.1, ih (a.drop n) (by rw [List.length_drop]; omega) _ l' hr, ← pass_append, ← List.append_assoc, List.take_append_drop]
            cases all (pass p (a ++ 35 :: (rem ++ [10]))) x <;> rfl
      · have hl : l = [] := by
          rw [all_step p (35 :: r) (by simp), piece_cons, if_neg (by decide), if_pos rfl] at h
          have h2 := takeWhile_all notLf (35 :: r) hr []
          rw [List.append_nil, List.takeWhile_nil, List.append_nil] at h2
          rw [h2] at h
          simp only [List.drop_length, all_nil, Sum.inr.injEq] at h
          exact h.symm
        subst hl
        rw [ahead_nil]
        have := hash (r ++ 35 :: rem) (fun c hc => by
          rcases List.mem_cons.1 hc with rfl | hc
          · decide
          · rcases List.mem_append.1 hc with hc | hc
            · exact hr c (by simp [hc])
            · rcases List.mem_cons.1 hc with rfl | hc
              · decide
              · exact hrem c hc) p
        simpa using this

/-- A text that was read is quoted as it stood there. -/
theorem body_quoted : ∀ (k : Nat) (s : List UInt8), s.length ≤ k → ∀ t n, quoted s = some (t, n) → ∃ b, body t = some b ∧ s.take n = b ++ [34] ∧ b.length + 1 = n := by
  intro k
  induction k with
  | zero =>
    intro s hs t n h
    have : s = [] := List.length_eq_zero_iff.1 (by omega)
    subst this
    simp [quoted] at h
  | succ k ih =>
    intro s hs t n h
    match s with
    | [] => simp [quoted] at h
    | c :: r =>
      simp only [List.length_cons] at hs
      rw [quoted_cons] at h
      split at h
      · rename_i h1
        cases h
        exact ⟨[], rfl, by simp [h1], rfl⟩
      · split at h
        · cases h
        · rename_i h1 h2
          split at h
          · rename_i h3
            match r with
            | [] => cases h
            | d :: r' =>
              simp only [List.length_cons] at hs h
              cases he : esc d with
              | none => rw [he] at h; cases h
              | some y =>
                rw [he] at h
                simp only at h
                cases hq : quoted r' with
                | none => rw [hq] at h; cases h
                | some z =>
                  obtain ⟨t', n'⟩ := z
                  rw [hq] at h
                  cases h
                  obtain ⟨b, hb1, hb2, hb3⟩ := ih r' (by omega) t' n' hq
                  refine ⟨92 :: d :: b, ?_, ?_, ?_⟩
                  · unfold esc at he
                    unfold body
                    split at he
                    · rename_i hd
                      cases he
                      rw [if_neg (by decide), if_neg (by decide), if_pos (.inl rfl), hb1, hd]
                      rfl
                    · split at he
                      · rename_i hd
                        cases he
                        rw [if_neg (by decide), if_neg (by decide), if_pos (.inr rfl), hb1, hd]
                        rfl
                      · split at he
                        · rename_i hd
                          cases he
                          rw [if_pos rfl, hb1, hd]
                          rfl
                        · cases he
                  · rw [h3]
                    simp only [List.take_succ_cons, List.cons_append, hb2]
                  · simp only [List.length_cons]; omega
          · rename_i h3
            cases hq : quoted r with
            | none => rw [hq] at h; cases h
            | some z =>
              obtain ⟨t', n'⟩ := z
              rw [hq] at h
              cases h
              obtain ⟨b, hb1, hb2, hb3⟩ := ih r (by omega) t' n' hq
              refine ⟨c :: b, ?_, ?_, ?_⟩
              · unfold body
                rw [if_neg (by intro e; subst e; exact h2 (.inl (by decide))), if_neg h2, if_neg (fun e => by
                  rcases e with e | e
                  · exact h1 e
                  · exact h3 e), hb1]
                rfl
              · simp only [List.take_succ_cons, List.cons_append, hb2]
              · simp only [List.length_cons]; omega

theorem pass_blanks : ∀ (k : Nat) (p : Nat × Nat), pass p (List.replicate k 32) = (p.1, p.2 + k) := by
  intro k
  induction k with
  | zero => intro p; rfl
  | succ k ih =>
    intro p
    rw [List.replicate_succ]
    show pass (pass1 p 32) (List.replicate k 32) = _
    rw [ih]
    show (p.1, p.2 + 1 + k) = _
    simp only [Prod.mk.injEq, true_and]; omega
/-- P9.2, P9.3: a quoted text is one token that says it, whatever gap stands ahead. -/
theorem all_quote (s b : List UInt8) (h : body s = some b) (k : Nat) : all (1, 1) (List.replicate k 32 ++ quote s) = .inr [⟨3, s, (1, 1 + k)⟩] := by
  rw [all_gaps _ _ _ (by intro c hc; rw [List.eq_of_mem_replicate hc]; decide), pass_blanks]
  have hq : quote s = 34 :: (b ++ [34]) := by unfold quote; rw [h]
  rw [hq, all_step _ _ (by simp)]
  have hp : piece (34 :: (b ++ [34])) = .tok 3 s (b.length + 1 + 1) := by
    rw [piece_cons, if_neg (by decide), if_neg (by decide), if_neg (by decide), if_neg (by decide), if_pos rfl, quoted_body s b [] h]
  rw [hp]
  simp only
  have hd : (34 :: (b ++ [34])).drop (b.length + 1 + 1) = [] := by
    rw [List.drop_eq_nil_iff]
    simp
  rw [hd, all_nil]

/-! ### Once more -/
/-- A token as it is written. -/
def Tok.written (t : Tok) : List UInt8 := if t.kind = 3 then quote t.text else t.text
/-- Tokens with a blank behind each. -/
def spaced : List Tok → List UInt8
  | [] => []
  | t :: l => t.written ++ 32 :: spaced l
theorem take_takeWhile (p : UInt8 → Bool) (s : List UInt8) : s.take (s.takeWhile p).length = s.takeWhile p := by
  induction s with
  | nil => rfl
  | cons c s ih =>
    cases h : p c with
    | true => rw [List.takeWhile_cons_of_pos h, List.length_cons, List.take_succ_cons, ih]
    | false => rw [List.takeWhile_cons_of_neg (by simp [h])]; rfl
theorem takeWhile_twice (p : UInt8 → Bool) (s : List UInt8) : (s.takeWhile p).takeWhile p = s.takeWhile p := by
  induction s with
  | nil => rfl
  | cons c s ih =>
    cases h : p c with
    | true => rw [List.takeWhile_cons_of_pos h, List.takeWhile_cons_of_pos h, ih]
    | false => rw [List.takeWhile_cons_of_neg (by simp [h])]; rfl
theorem piece_written (s : List UInt8) (kd : Nat) (t : List UInt8) (n : Nat) (h : piece s = .tok kd t n) (p : Nat × Nat) :
    (⟨kd, t, p⟩ : Tok).written = s.take n ∧ n ≤ s.length ∧ 1 ≤ n ∧ ∀ z, piece (s.take n ++ 32 :: z) = .tok kd t n := by
  match s with
  | [] => simp [piece] at h
  | c :: r =>
    have hsz := piece_size (c :: r) (by simp)
    rw [h] at hsz
    simp only [Piece.size] at hsz
    have hn1 : 1 ≤ n := by
      rcases hsz.2 with ⟨e, he⟩ | h1
      · cases he
      · exact h1
    refine ⟨?_, hsz.1, hn1, ?_⟩
    all_goals rw [piece_cons] at h
    all_goals by_cases h1 : gapc c = true
    all_goals first | (rw [if_pos h1] at h; cases h; done) | rw [if_neg h1] at h
    all_goals by_cases h2 : c = 35
    all_goals first | (rw [if_pos h2] at h; cases h; done) | rw [if_neg h2] at h
    all_goals by_cases h3 : letterc c = true
    all_goals first | rw [if_pos h3] at h | rw [if_neg h3] at h
    · cases h
      show (if 1 = 3 then _ else _) = _
      rw [if_neg (by decide), take_takeWhile]
    · by_cases h4 : digitc c = true
      · rw [if_pos h4] at h
        unfold number at h
        split at h
        · cases h
        · split at h
          · cases h
          · cases h
            show (if 2 = 3 then _ else _) = _
            rw [if_neg (by decide), take_takeWhile]
      · rw [if_neg h4] at h
        by_cases h5 : c = 34
        · rw [if_pos h5] at h
          cases hq : quoted r with
          | none => rw [hq] at h; cases h
          | some w =>
            obtain ⟨t', n'⟩ := w
            rw [hq] at h
            cases h
            obtain ⟨b, hb1, hb2, hb3⟩ := body_quoted r.length r (by omega) _ _ hq
            show quote t = _
            unfold quote
            rw [hb1, List.take_succ_cons, hb2, h5]
        · rw [if_neg h5] at h
          by_cases h6 : r.head? = some 61 ∧ (c = 61 ∨ c = 33)
          · rw [if_pos h6] at h
            cases h
            show (if 4 = 3 then _ else _) = _
            rw [if_neg (by decide)]
            match r with
            | [] => simp at h6
            | d :: r' =>
              have : d = 61 := by simpa using h6.1
              rw [this]
              rfl
          · rw [if_neg h6] at h
            split at h
            · cases h
              show (if 4 = 3 then _ else _) = _
              rw [if_neg (by decide)]
              rfl
            · cases h
    · cases h
      intro z
      have e1 := takeWhile_stop wordc 32 (by decide) z ((c :: r).takeWhile wordc)
      rw [takeWhile_twice] at e1
      rw [take_takeWhile]
      obtain ⟨y, hy⟩ : ∃ y, (c :: r).takeWhile wordc = c :: y := ⟨_, List.takeWhile_cons_of_pos (by simp [wordc, h3])⟩
      rw [hy] at e1 ⊢
      rw [List.cons_append] at e1 ⊢
      rw [piece_cons, if_neg h1, if_neg h2, if_pos h3, e1]
    · intro z
      by_cases h4 : digitc c = true
      · rw [if_pos h4] at h
        unfold number at h
        split at h
        · cases h
        · rename_i g1
          split at h
          · cases h
          · rename_i g2
            cases h
            have e1 := takeWhile_stop digitc 32 (by decide) z ((c :: r).takeWhile digitc)
            rw [takeWhile_twice] at e1
            rw [take_takeWhile]
            obtain ⟨y, hy⟩ : ∃ y, (c :: r).takeWhile digitc = c :: y := ⟨_, List.takeWhile_cons_of_pos h4⟩
            rw [hy] at e1 g1 g2 ⊢
            rw [List.cons_append] at e1 ⊢
            rw [piece_cons, if_neg h1, if_neg h2, if_neg h3, if_pos h4]
            unfold number
            rw [e1, if_neg (by simpa using g1), if_neg g2]
      · rw [if_neg h4] at h
        by_cases h5 : c = 34
        · rw [if_pos h5] at h
          cases hq : quoted r with
          | none => rw [hq] at h; cases h
          | some w =>
            obtain ⟨t', n'⟩ := w
            rw [hq] at h
            cases h
            obtain ⟨b, hb1, hb2, hb3⟩ := body_quoted r.length r (by omega) _ _ hq
            rw [List.take_succ_cons, List.cons_append, piece_cons, if_neg h1, if_neg h2, if_neg h3, if_neg h4, if_pos h5, hb2]
            have := quoted_body t b (32 :: z) hb1
            rw [List.append_assoc, List.cons_append, List.nil_append, this, hb3]
        · rw [if_neg h5] at h
          by_cases h6 : r.head? = some 61 ∧ (c = 61 ∨ c = 33)
          · rw [if_pos h6] at h
            cases h
            match r with
            | [] => simp at h6
            | d :: r' =>
              have hd : d = 61 := by simpa using h6.1
              show piece (c :: (d :: 32 :: z)) = _
              rw [piece_cons, if_neg h1, if_neg h2, if_neg h3, if_neg h4, if_neg h5, if_pos ⟨by simp [hd], h6.2⟩]
          · rw [if_neg h6] at h
            split at h
            · rename_i h7
              cases h
              show piece (c :: (32 :: z)) = _
              rw [piece_cons, if_neg h1, if_neg h2, if_neg h3, if_neg h4, if_neg h5, if_neg (by simp), if_pos h7]
            · cases h
/-- What a token says. -/
def Tok.says (t : Tok) : Nat × List UInt8 := (t.kind, t.text)
/-- P9.3: the tokens of any text, written with a blank between each two, are cut the same, but for places. -/
theorem all_again : ∀ (k : Nat) (s : List UInt8), s.length ≤ k → ∀ (p : Nat × Nat) (l : List Tok), all p s = .inr l →
    (spaced l).length ≤ 2 * s.length ∧ ∀ q, ∃ m, all q (spaced l) = .inr m ∧ m.map Tok.says = l.map Tok.says := by
  intro k
  induction k with
  | zero =>
    intro s hs p l h
    have : s = [] := List.length_eq_zero_iff.1 (by omega)
    subst this
    rw [all_nil] at h
    cases h
    exact ⟨by simp [spaced], fun q => ⟨[], rfl, rfl⟩⟩
  | succ k ih =>
    intro s hs p l h
    by_cases hs0 : s = []
    · subst hs0
      rw [all_nil] at h
      cases h
      exact ⟨by simp [spaced], fun q => ⟨[], rfl, rfl⟩⟩
    · have hp := piece_size s hs0
      rw [all_step p s hs0] at h
      cases hh : piece s with
      | bad e => rw [hh] at h; cases h
      | gap n =>
        rw [hh] at h hp
        simp only [Piece.size] at h hp
        have h1 : 1 ≤ n := by rcases hp.2 with ⟨e, he⟩ | h1; cases he; exact h1
        have := ih (s.drop n) (by rw [List.length_drop]; omega) _ l h
        rw [List.length_drop] at this
        exact ⟨by omega, this.2⟩
      | tok kd t n =>
        rw [hh] at h
        simp only at h
        obtain ⟨w1, w2, w3, w4⟩ := piece_written s kd t n hh p
        cases hr : all (pass p (s.take n)) (s.drop n) with
        | inl e => rw [hr] at h; cases h
        | inr l' =>
          rw [hr] at h
          cases h
          have hi := ih (s.drop n) (by rw [List.length_drop]; omega) _ l' hr
          rw [List.length_drop] at hi
          have hlen : (s.take n).length = n := by rw [List.length_take]; omega
          refine ⟨?_, fun q => ?_⟩
          · rw [spaced, w1, List.length_append, List.length_cons, hlen]
            omega
          · rw [spaced, w1, all_step _ _ (by simp), w4]
            simp only
            rw [List.drop_append_of_le_length (by omega), List.drop_eq_nil_of_le (by omega : (s.take n).length ≤ n), List.nil_append, List.take_append_of_le_length (by omega), List.take_take, Nat.min_self]
            obtain ⟨m, hm1, hm2⟩ := hi.2 (pass (pass q (s.take n)) [32])
            have hg := all_gaps [32] (pass q (s.take n)) (spaced l') (by simp [gapc])
            rw [List.cons_append, List.nil_append] at hg
            rw [hg, hm1]
            exact ⟨_, rfl, by simp [Tok.says, hm2]⟩
end Go.Lx

/- The tokens' texts, in plain Lean. -/
namespace Go.Proofs.YtannlhonjkhchaaGreatDoor.G
open Go.RowKit Go.Gw Go.Proofs.YtannlhonjkhchaaGreatDoorW.PrintWords
set_option linter.unusedVariables false
set_option linter.unusedSimpArgs false

theorem quoted_text : ∀ (k : Nat) (s : List UInt8), s.length ≤ k → ∀ t n, Lx.quoted s = some (t, n) → t.length + 1 ≤ n := by
  intro k
  induction k with
  | zero =>
    intro s hs t n h
    have : s = [] := List.length_eq_zero_iff.1 (by omega)
    subst this
    simp [Lx.quoted] at h
  | succ k ih =>
    intro s hs t n h
    match s with
    | [] => simp [Lx.quoted] at h
    | c :: r =>
      simp only [List.length_cons] at hs
      rw [Lx.quoted_cons] at h
      split at h
      · cases h; simp
      · split at h
        · cases h
        · split at h
          · match r with
            | [] => cases h
            | d :: r' =>
              simp only [List.length_cons] at hs h
              split at h
              · cases h
              · split at h
                · cases h
                · rename_i hq
                  cases h
                  have := ih r' (by omega) _ _ hq
                  simp only [List.length_cons]; omega
          · split at h
            · cases h
            · rename_i hq
              cases h
              have := ih r (by omega) _ _ hq
              simp only [List.length_cons]; omega
theorem piece_text (s : List UInt8) (kd : Nat) (t : List UInt8) (n : Nat) (h : Lx.piece s = .tok kd t n) : t.length ≤ s.length := by
  match s with
  | [] => simp [Lx.piece] at h
  | c :: r =>
    have hw : ∀ p : UInt8 → Bool, ((c :: r).takeWhile p).length ≤ (c :: r).length := fun p => (List.takeWhile_sublist p).length_le
    rw [Lx.piece_cons] at h
    split at h
    · cases h
    · split at h
      · cases h
      · split at h
        · cases h; exact hw _
        · split at h
          · rcases number_cases (c :: r) with g | g | ⟨t', n', g⟩
            · rw [g] at h; cases h
            · rw [g] at h; cases h
            · unfold Lx.number at h
              split at h
              · cases h
              · split at h
                · cases h
                · cases h; exact hw _
          · split at h
            · split at h
              · cases h
              · rename_i hq
                cases h
                have h1 := quoted_text r.length r (Nat.le_refl _) _ _ hq
                have h2 := Lx.quoted_le r.length r (Nat.le_refl _) _ _ hq
                simp only [List.length_cons]
                omega
            · split at h
              · rename_i hr
                cases h
                match r with
                | [] => simp at hr
                | d :: r' => simp
              · split at h
                · cases h; simp
                · cases h
theorem allF_text : ∀ (k : Nat) (p : Nat × Nat) (s : List UInt8) (l : List Lx.Tok), Lx.allF k p s = .inr l → ∀ t ∈ l, t.text.length ≤ s.length := by
  intro k
  induction k with
  | zero => intro p s l h t ht; cases h; cases ht
  | succ k ih =>
    intro p s l h t ht
    unfold Lx.allF at h
    split at h
    · cases h; cases ht
    · rcases piece_cases s with ⟨n, g⟩ | g | g | ⟨kd, tx, n, _, _, g⟩
      · rw [g] at h
        have := ih _ _ _ h t ht
        rw [List.length_drop] at this
        omega
      · rw [g] at h; cases h
      · rw [g] at h; cases h
      · have hp := piece_text s kd tx n g
        rw [g] at h
        simp only at h
        cases hr : Lx.allF k (Lx.pass p (s.take n)) (s.drop n) with
        | inl x => rw [hr] at h; cases h
        | inr x =>
          rw [hr] at h
          cases h
          rcases List.mem_cons.1 ht with rfl | ht
          · exact hp
          · have := ih _ _ _ hr t ht
            rw [List.length_drop] at this
            omega
theorem rd_tok (l : List Lx.Tok) (i : Nat) (h : i < l.length) : rd_T33 (l.map tokS) (i : Int) = tokS (l[i]'h) := by
  unfold rd_T33
  rw [Int.toNat_natCast, List.getD_eq_getElem?_getD, List.getElem?_map, List.getElem?_eq_getElem h]
  rfl
theorem spaced_app (a b : List Lx.Tok) : Lx.spaced (a ++ b) = Lx.spaced a ++ Lx.spaced b := by
  induction a with
  | nil => rfl
  | cons t a ih => simp [Lx.spaced, ih]
theorem take_snoc' {α : Type} (l : List α) (i : Nat) (h : i < l.length) : l.take (i + 1) = l.take i ++ [l[i]] := by
  rw [List.take_succ_eq_append_getElem h]
end Go.Proofs.YtannlhonjkhchaaGreatDoor.G

/- Go functions as Lean functions, each with its contract: written by a program of mine over the kit's print. Conditions: each contract's own. -/
namespace Go.Proofs.YtannlhonjkhchaaGreatDoor.G
open Go.RowKit Go.Proofs.YtannlhonjkhchaaGreatDoorW.PrintWords Go.Proofs.YtannlhonjkhchaaGreatDoorW.PrintLast Go.Proofs.YtannlhonjkhchaaGreatDoorW.PrintMore
attribute [local go_sem] max2_int min2_int max_two min_two max_three min_three max_four min_four   -- for this text's walks alone
set_option linter.unusedVariables false
set_option linter.unusedSimpArgs false

/-! ### bloomerylaw09_LexParts: function 6 -/
mutual
def bloomerylaw09_LexParts.j0 : Nat → ByteArray → ByteArray → ByteArray → Bool → Option (Bool)
 | 0, _, _, _, _ => none
 | k + 1, x0, x1, x2, x38 => if x38 = true then (some true) else (bloomerylaw09_LexParts.l0 k x0 x1 x2 0)
def bloomerylaw09_LexParts.l0 : Nat → ByteArray → ByteArray → ByteArray → Int → Option (Bool)
 | 0, _, _, _, _ => none
 | k + 1, x0, x1, x2, x7 => if x7 < (x2.size : Int) then (if 0 ≤ x7 then (if (bt x2 x7) = 10 then (some true) else (bloomerylaw09_LexParts.l0 k x0 x1 x2 (wrap64 (x7 + 1)))) else (none)) else ((lex_All.f k x0).bind fun bt253 => ((lex_All.f k x1).bind fun bt260 => (if bt253.2.1 = 0 then (bloomerylaw09_LexParts.j2 k x0 x1 x2 bt253.1 bt260.1 (bt260.2.1 != 0)) else (bloomerylaw09_LexParts.j2 k x0 x1 x2 bt253.1 bt260.1 true))))
def bloomerylaw09_LexParts.j2 : Nat → ByteArray → ByteArray → ByteArray → List (S33) → List (S33) → Bool → Option (Bool)
 | 0, _, _, _, _, _, _ => none
 | k + 1, x0, x1, x2, x8, x11, x66 => if x66 = true then (some true) else ((bloomeryref09_At.f k x0 (x0.size : Int)).bind fun bt267 => (if ([] : List (S33)).length + x8.length < 3518437208883 then (bloomerylaw09_LexParts.l1 k x0 x1 x2 x11 bt267.1 (([] : List (S33)) ++ x8) 0) else (none)))
def bloomerylaw09_LexParts.l1 : Nat → ByteArray → ByteArray → ByteArray → List (S33) → Int → List (S33) → Int → Option (Bool)
 | 0, _, _, _, _, _, _, _ => none
 | k + 1, x0, x1, x2, x11, x14, x15, x16 => if x16 < (x11.length : Int) then (if 0 ≤ x16 then (if x15.length < 3518437208883 then (bloomerylaw09_LexParts.l1 k x0 x1 x2 x11 x14 (x15 ++ [(⟨(rd_T33 x11 x16).f0, (rd_T33 x11 x16).f1, (⟨wrap64 (((rd_T33 x11 x16).f2.f0) + x14), (rd_T33 x11 x16).f2.f1⟩ : S26)⟩ : S33)]) (wrap64 (x16 + 1))) else (none)) else (none)) else (if x0.size + 1 ≤ 9223372036854775807 then (if (x0 ++ (⟨#[10]⟩ : ByteArray)).size + x1.size ≤ 9223372036854775807 then ((lex_All.f k ((x0 ++ (⟨#[10]⟩ : ByteArray)) ++ x1)).bind fun bt277 => (if (x0 ++ (⟨#[35]⟩ : ByteArray)).size + x2.size ≤ 9223372036854775807 then (if ((x0 ++ (⟨#[35]⟩ : ByteArray)) ++ x2).size + 1 ≤ 9223372036854775807 then (if (((x0 ++ (⟨#[35]⟩ : ByteArray)) ++ x2) ++ (⟨#[10]⟩ : ByteArray)).size + x1.size ≤ 9223372036854775807 then ((lex_All.f k ((((x0 ++ (⟨#[35]⟩ : ByteArray)) ++ x2) ++ (⟨#[10]⟩ : ByteArray)) ++ x1)).bind fun bt284 => (if bt277.2.1 = 0 then ((bloomeryref09_Same.f k bt277.1 x15).bind fun t291 => (if t291 = true then (if bt284.2.1 = 0 then ((bloomeryref09_Same.f k bt284.1 x15).bind fun t292 => (some t292)) else (some false)) else (some false))) else (some false))) else (none)) else (none)) else (none))) else (none)) else (none))
end
def bloomerylaw09_LexParts.f (k : Nat) (a0 : ByteArray) (a1 : ByteArray) (a2 : ByteArray) : Option (Bool) := (bloomerylaw09_alive.f k).bind fun t252 => (if t252 = true then (if (a0.size : Int) > 300 then (bloomerylaw09_LexParts.j0 k a0 a1 a2 true) else (if (a1.size : Int) > 300 then (bloomerylaw09_LexParts.j0 k a0 a1 a2 true) else (bloomerylaw09_LexParts.j0 k a0 a1 a2 (decide ((a2.size : Int) > 100))))) else (some false))
set_option maxHeartbeats 8000000 in
set_option maxRecDepth 100000 in
theorem bloomerylaw09_LexParts.calls (k : Nat) (a0 : ByteArray) (a1 : ByteArray) (a2 : ByteArray) (r : Bool) (w : World) (hgl : Gl w) (h : bloomerylaw09_LexParts.f k a0 a1 a2 = some r) :
  Calls Tryz.prog 6 #[.string a0, .string a1, .string a2] w fun e w' => e = .returned (.bool r) ∧ Below w.heap.size w w' := by
 have HGL := Aside0.mk hgl
 clear hgl
 have hu26 := Tryz.underlying26
 have hu33 := Tryz.underlying33
 have hfld26_0 : ∀ (c0_ c1_ : Value) (W : World), (Instr.field 26 (.agg #[c0_, c1_]) 0).run Tryz.prog W = .ok c0_ W := fun _ _ _ => by kernel_rfl
 have HB := Aside0.mk (Below.refl w.heap.size w)
 have H : ((bloomerylaw09_alive.f k).bind fun t252 => (if t252 = true then (if (a0.size : Int) > 300 then (bloomerylaw09_LexParts.j0 k a0 a1 a2 true) else (if (a1.size : Int) > 300 then (bloomerylaw09_LexParts.j0 k a0 a1 a2 true) else (bloomerylaw09_LexParts.j0 k a0 a1 a2 (decide ((a2.size : Int) > 100))))) else (some false))) = some r := h
 clear h
 replace H := Option.bind_eq_some_iff.mp H
 obtain ⟨t252, A40, H⟩ := H
 replace H : (if t252 = true then (if (a0.size : Int) > 300 then (bloomerylaw09_LexParts.j0 k a0 a1 a2 true) else (if (a1.size : Int) > 300 then (bloomerylaw09_LexParts.j0 k a0 a1 a2 true) else (bloomerylaw09_LexParts.j0 k a0 a1 a2 (decide ((a2.size : Int) > 100))))) else (some false)) = some r := H
 have A4 := Aside0.mk A40
 clear A40
 by_cases c5 : t252 = true
 ·subst c5
  have H1 : (if (a0.size : Int) > 300 then (bloomerylaw09_LexParts.j0 k a0 a1 a2 true) else (if (a1.size : Int) > 300 then (bloomerylaw09_LexParts.j0 k a0 a1 a2 true) else (bloomerylaw09_LexParts.j0 k a0 a1 a2 (decide ((a2.size : Int) > 100))))) = some r := by rw [if_pos rfl] at H; exact H
  clear H
  have H := H1
  clear H1
  have HC6 := Aside0.mk H
  clear H
  go_enter Tryz.func6, Tryz.ntmps6
  go_upto_region 3 with (first | ((with_reducible refine gate_callee (f := 8) rfl ?_); refine goesL_ (some 24) rfl rfl Tryz.func8 (by kernel_rfl) rfl #[] rfl (by (try simp only [List.map_toArray, List.map_cons, List.map_nil]); first | done | rfl | (simp only [List.length_drop, List.length_take]; rfl)) ?_; (with_reducible refine (bloomerylaw09_alive.calls k  true _ ?side1 A4.out).mono ?_); (case side1 => exact Gl.below HGL.out (by repeat (first | (with_reducible first | exact HB.out | apply below_alloc | apply pw_below_drewN | apply below_drew1) | exact HB.out))); rintro e w7 ⟨rfl, hb⟩; refine ⟨_, rfl, ?_⟩; have n0_ := Aside0.mk (below_step (by repeat (first | (with_reducible first | exact HB.out | apply below_alloc | apply pw_below_drewN | apply below_drew1) | exact HB.out)) hb); clear HB; have HB := n0_; clear n0_; (try clear hb); (try clear hb2); (try clear hk); (try clear hi)))
  (try simp only [Act.put, List.setIfInBounds_toArray, List.set_cons_zero, List.set_cons_succ])
  go_cut [38] (fun v38 wc => ∃ (kq : Nat) (x38_5 : Bool), v38 = .bool x38_5 ∧ Aside0 (bloomerylaw09_LexParts.j0 kq a0 a1 a2 x38_5 = some r) ∧ Aside0 (kq ≤ k) ∧ Aside0 (Below w.heap.size w wc))
  case first =>
   have H := HC6.out
   clear HC6
   by_cases c8 : (a0.size : Int) > 300
   ·rw [if_pos c8] at H
    have c8b0 : decide (300 < (a0.size : Int)) = true := decide_eq_true c8
    have c8b1 : decide (300 < a0.size) = true := decide_eq_true (by omega)
    clear c8
    (first | rw [c8b0] | (simp only [i64_w, i32_w]; rw [c8b0]) | skip)
    have H' := Aside0.mk H
    clear H
    go_wp2
    go_meet
    case rel => exact ⟨_, (true), (by first | rfl | (simp; done) | (simp [*]; done)), (by first | exact H' | (subst_vars; exact H')), ⟨by first | omega | exact Nat.le_refl _⟩, ⟨by repeat (first | (with_reducible first | exact HB.out | apply below_alloc | apply pw_below_drewN | apply below_drew1) | exact HB.out)⟩⟩
   ·rw [if_neg c8] at H
    have c8b0 : decide (300 < (a0.size : Int)) = false := decide_eq_false c8
    have c8b1 : decide (300 < a0.size) = false := decide_eq_false (by omega)
    clear c8
    (first | rw [c8b0] | (simp only [i64_w, i32_w]; rw [c8b0]) | skip)
    by_cases c9 : (a1.size : Int) > 300
    ·rw [if_pos c9] at H
     have c9b0 : decide (300 < (a1.size : Int)) = true := decide_eq_true c9
     have c9b1 : decide (300 < a1.size) = true := decide_eq_true (by omega)
     clear c9
     have H' := Aside0.mk H
     clear H
     go_wp2
     go_meet
     case rel => exact ⟨_, (true), (by first | rfl | (simp; done) | (simp [*]; done)), (by first | exact H' | (subst_vars; exact H')), ⟨by first | omega | exact Nat.le_refl _⟩, ⟨by repeat (first | (with_reducible first | exact HB.out | apply below_alloc | apply pw_below_drewN | apply below_drew1) | exact HB.out)⟩⟩
    ·rw [if_neg c9] at H
     have c9b0 : decide (300 < (a1.size : Int)) = false := decide_eq_false c9
     have c9b1 : decide (300 < a1.size) = false := decide_eq_false (by omega)
     clear c9
     have H' := Aside0.mk H
     clear H
     go_wp2
     go_meet
     case rel => exact ⟨_, (decide ((a2.size : Int) > 100)), (by first | rfl | (simp; done) | (simp [*]; done)), (by first | exact H' | (subst_vars; exact H')), ⟨by first | omega | exact Nat.le_refl _⟩, ⟨by repeat (first | (with_reducible first | exact HB.out | apply below_alloc | apply pw_below_drewN | apply below_drew1) | exact HB.out)⟩⟩
  case rest =>
   clear HC6
   try clear p2
   try clear c5
   try clear c6
   try clear c8
   try clear c8b0
   try clear c8b1
   try clear c9
   try clear c9b0
   try clear c9b1
   obtain ⟨kq, x38_5, rfl, HA, HJ5, HB⟩ := hcut
   cases kq with
   | zero => exact absurd HA.out (by simp [bloomerylaw09_LexParts.j0])
   | succ kj5 =>
    have H := HA.out
    clear HA
    simp only [bloomerylaw09_LexParts.j0] at H
    by_cases c10 : x38_5 = true
    ·subst c10
     have H1 : (some true) = some r := by rw [if_pos rfl] at H; exact H
     clear H
     have H := H1
     clear H1
     obtain rfl := Option.some.inj H
     go_wp2
     go_ret
     exact ⟨by first | rfl | (simp [errW_none, errW_some] <;> rfl) | (simp [*, errW_none, errW_some] <;> rfl), by repeat (first | (with_reducible first | exact HB.out | apply below_alloc | apply pw_below_drewN | apply below_drew1) | exact HB.out)⟩
    ·replace c10 := Bool.eq_false_iff.mpr c10
     subst c10
     have H1 : (bloomerylaw09_LexParts.l0 kj5 a0 a1 a2 0) = some r := by rw [if_neg (show ¬ (false = true) by decide)] at H; exact H
     clear H
     have H := H1
     clear H1
     have H' := Aside0.mk H
     clear H
     go_wp2
     go_loopg [7] kj5 (fun kq v7 w' => ∃ (x7_2 : Int), v7 = .int .i64 x7_2 ∧ Aside0 (bloomerylaw09_LexParts.l0 kq a0 a1 a2 x7_2 = some r) ∧ Aside0 (kq ≤ kj5) ∧ Aside0 (Below w.heap.size w w'))
     case atStart => exact ⟨(0), (by first | rfl | (simp; done) | (simp [*]; done)), (by first | exact H' | (subst_vars; exact H')), ⟨Nat.le_refl _⟩, ⟨by repeat (first | (with_reducible first | exact HB.out | apply below_alloc | apply pw_below_drewN | apply below_drew1) | exact HB.out)⟩⟩
     case round =>
      clear H'
      try clear c1
      try clear p2
      try clear c5
      try clear c6
      try clear c8
      try clear c8b0
      try clear c8b1
      try clear c9
      try clear c9b0
      try clear c9b1
      try clear c10
      try clear p2
      obtain ⟨x7_2, rfl, HA, HK2, HB⟩ := hrel
      cases gk with
      | zero => exact absurd HA.out (by simp [bloomerylaw09_LexParts.l0])
      | succ k2 =>
       have H := HA.out
       clear HA
       simp only [bloomerylaw09_LexParts.l0] at H
       by_cases c11 : x7_2 < (a2.size : Int)
       ·rw [if_pos c11] at H
        have c11b0 : decide (x7_2 < (a2.size : Int)) = true := decide_eq_true c11
        clear c11
        by_cases c12 : 0 ≤ x7_2
        ·rw [if_pos c12] at H
         have c12b0 : decide (0 ≤ x7_2) = true := decide_eq_true c12
         clear c12
         by_cases c14 : (bt a2 x7_2) = 10
         ·rw [if_pos c14] at H
          have c14b0 : ((bt a2 x7_2) == 10) = true := beq_iff_eq.mpr c14
          have c14b1 : ((bt a2 x7_2) != 10) = false := bne_eq_false_iff_eq.mpr c14
          clear c14
          obtain rfl := Option.some.inj H
          have p13 : 0 ≤ (x7_2 : Int) := of_decide_eq_true (by first | (with_reducible assumption) | assumption)
          have q13 : x7_2 < (a2.size : Int) := of_decide_eq_true (by first | (with_reducible assumption) | assumption)
          have hx13 := bt_at a2 x7_2
          replace p13 := eq_true p13
          replace q13 := eq_true q13
          go_wp2
          go_ret
          exact ⟨by first | rfl | (simp [errW_none, errW_some] <;> rfl) | (simp [*, errW_none, errW_some] <;> rfl), by repeat (first | (with_reducible first | exact HB.out | apply below_alloc | apply pw_below_drewN | apply below_drew1) | exact HB.out)⟩
         ·rw [if_neg c14] at H
          have c14b0 : ((bt a2 x7_2) == 10) = false := beq_eq_false_iff_ne.mpr c14
          have c14b1 : ((bt a2 x7_2) != 10) = true := bne_iff_ne.mpr c14
          have H' := Aside0.mk H
          clear H
          have p13 : 0 ≤ (x7_2 : Int) := of_decide_eq_true (by first | (with_reducible assumption) | assumption)
          have q13 : x7_2 < (a2.size : Int) := of_decide_eq_true (by first | (with_reducible assumption) | assumption)
          have hx13 := bt_at a2 x7_2
          replace p13 := eq_true p13
          replace q13 := eq_true q13
          go_wp2
          go_roundg k2
          case measure => have := HJ5.out; have := HK2.out; omega
          case rel => exact ⟨(wrap64 (x7_2 + 1)), (by first | rfl | (simp; done) | (simp [*]; done)), (by first | exact H' | (subst_vars; exact H')), ⟨by have := HJ5.out; have := HK2.out; omega⟩, ⟨by repeat (first | (with_reducible first | exact HB.out | apply below_alloc | apply pw_below_drewN | apply below_drew1) | exact HB.out)⟩⟩
        ·rw [if_neg c12] at H
         exact absurd H (by simp)
       ·rw [if_neg c11] at H
        have c11b0 : decide (x7_2 < (a2.size : Int)) = false := decide_eq_false c11
        clear c11
        replace H := Option.bind_eq_some_iff.mp H
        obtain ⟨⟨t253, t256, t257, t258⟩, A150, H⟩ := H
        replace H : ((lex_All.f k2 a1).bind fun bt260 => (if t256 = 0 then (bloomerylaw09_LexParts.j2 k2 a0 a1 a2 t253 bt260.1 (bt260.2.1 != 0)) else (bloomerylaw09_LexParts.j2 k2 a0 a1 a2 t253 bt260.1 true))) = some r := H
        have A15 := Aside0.mk A150
        clear A150
        replace H := Option.bind_eq_some_iff.mp H
        obtain ⟨⟨t260, t263, t264, t265⟩, A160, H⟩ := H
        replace H : (if t256 = 0 then (bloomerylaw09_LexParts.j2 k2 a0 a1 a2 t253 t260 (t263 != 0)) else (bloomerylaw09_LexParts.j2 k2 a0 a1 a2 t253 t260 true)) = some r := H
        have A16 := Aside0.mk A160
        clear A160
        have HC17 := Aside0.mk H
        clear H
        go_upto_region 12 with (first | ((with_reducible refine gate_callee (f := 9) rfl ?_); refine goesL_ (some 51) rfl rfl Tryz.func9 (by kernel_rfl) rfl #[.string a0] rfl (by (try simp only [List.map_toArray, List.map_cons, List.map_nil]); first | done | rfl | (simp only [List.length_drop, List.length_take]; rfl)) ?_; (with_reducible refine (lex_All.calls k2 a0 t253 t256 t257 t258 _ ?side1 A15.out).mono ?_); (case side1 => exact Gl.below HGL.out (by repeat (first | (with_reducible first | exact HB.out | apply below_alloc | apply pw_below_drewN | apply below_drew1) | exact HB.out))); rintro e w18 ⟨v254, rfl, ho0, hb⟩; refine ⟨_, rfl, ?_⟩; have n0_ := Aside0.mk (Kd.R_lower ho0 (below_size (by repeat (first | (with_reducible first | exact HB.out | apply below_alloc | apply pw_below_drewN | apply below_drew1) | exact HB.out)))); have n1_ := Aside0.mk (below_step (by repeat (first | (with_reducible first | exact HB.out | apply below_alloc | apply pw_below_drewN | apply below_drew1) | exact HB.out)) hb); clear HB; have HO255 := n0_; have HB := n1_; clear n0_ n1_; (try clear hb); (try clear hb2); (try clear hk); (try clear hi); (try clear ho0)) | ((with_reducible refine gate_dst (N := 10) rfl ?_); (try (refine gate_guard (by rfl) ?_; dsimp only)); refine box_event ?hg (N := 10) ?hd (cs := #[.int .i64 0, .int .i64 0]) (t := 26) ?hr ?_; (case hd => rfl); (case hg => rfl); (case hr => first | (go_simp; done) | (go_simp; rfl)); intro gb259 hg w19 hbox hb; have n0_ := Aside0.mk (Kd.R_below (by (with_reducible repeat (first | apply Kd.R_alloc | apply Kd.R_drewN | apply Kd.R_drew)); exact HO255.out) hb); have n1_ := Aside0.mk (below_step (by repeat (first | (with_reducible first | exact HB.out | apply below_alloc | apply pw_below_drewN | apply below_drew1) | exact HB.out)) hb); have n2_ := Aside0.mk (hbox); have n3_ := Aside0.mk ((by rw [hg]; exact (below_size (by repeat (first | (with_reducible first | exact HB.out | apply below_alloc | apply pw_below_drewN | apply below_drew1) | exact HB.out))) : w.heap.size ≤ gb259)); have n4_ := Aside0.mk ((by rw [hg]; exact (below_size (by repeat (first | (with_reducible first | exact HB.out | apply below_alloc | apply pw_below_drewN | apply below_drew1) | exact HB.out))) : w.heap.size ≤ gb259)); clear HO255; clear HB; have HO255 := n0_; have HB := n1_; have BK259 := n2_; have GW259 := n3_; have GE259 := n4_; clear n0_ n1_ n2_ n3_ n4_; clear hb hbox hg; have hcz20_0 : w19.cell? ⟨gb259, 0, none⟩ = some (.int .i64 0) := (blk_cell BK259.out 0).trans rfl; have hcz20_1 : w19.cell? ⟨gb259, 1, none⟩ = some (.int .i64 0) := (blk_cell BK259.out 1).trans rfl; have hfz20_0 := blk_frozen BK259.out 0; have hfz20_1 := blk_frozen BK259.out 1) | ((with_reducible refine gate_callee (f := 9) rfl ?_); refine goesL_ (some 57) rfl rfl Tryz.func9 (by kernel_rfl) rfl #[.string a1] rfl (by (try simp only [List.map_toArray, List.map_cons, List.map_nil]); first | done | rfl | (simp only [List.length_drop, List.length_take]; rfl)) ?_; (with_reducible refine (lex_All.calls k2 a1 t260 t263 t264 t265 _ ?side1 A16.out).mono ?_); (case side1 => exact Gl.below HGL.out (by repeat (first | (with_reducible first | exact HB.out | apply below_alloc | apply pw_below_drewN | apply below_drew1 | refine below_set ?_ GE259.out) | exact HB.out))); rintro e w21 ⟨v261, rfl, ho0, hb⟩; refine ⟨_, rfl, ?_⟩; have n0_ := Aside0.mk (Kd.R_elder' (by (with_reducible repeat (first | apply Kd.R_alloc | apply Kd.R_drewN | apply Kd.R_drew)); exact (Kd.R_mono (Kd.R_far (p := ⟨gb259, 1, none⟩) (Kd.R_far (p := ⟨gb259, 0, none⟩) (Kd.R_types HO255.out BK259.out (by decide)) (fun _ hk => hk.2) (.int .i64 t257)) (fun _ hk => hk.2) (.int .i64 t258)) (fun _ h_ => h_.1))) (Kd.R_base ho0) hb); have n1_ := Aside0.mk (Kd.R_lower (Kd.R_new' ho0 (Kd.R_lt (by (with_reducible repeat (first | apply Kd.R_alloc | apply Kd.R_drewN | apply Kd.R_drew)); exact (Kd.R_mono (Kd.R_far (p := ⟨gb259, 1, none⟩) (Kd.R_far (p := ⟨gb259, 0, none⟩) (Kd.R_types HO255.out BK259.out (by decide)) (fun _ hk => hk.2) (.int .i64 t257)) (fun _ hk => hk.2) (.int .i64 t258)) (fun _ h_ => h_.1))))) (below_size (by repeat (first | (with_reducible first | exact HB.out | apply below_alloc | apply pw_below_drewN | apply below_drew1 | refine below_set ?_ GE259.out) | exact HB.out)))); have n2_ := Aside0.mk (blk_below (g := gb259) (o := .cells #[.int .i64 t257, .int .i64 t258] 26 (0, 0)) (by (with_reducible repeat (first | refine blk_drewN ?_ _ | refine blk_drew ?_ | refine blk_alloc ?_ _)); refine blk_put (cs := #[.int .i64 t257, .int .i64 0]) ?_ 1 _ rfl; (with_reducible repeat (first | refine blk_drewN ?_ _ | refine blk_drew ?_ | refine blk_alloc ?_ _)); refine blk_put (cs := #[.int .i64 0, .int .i64 0]) ?_ 0 _ rfl; (with_reducible repeat (first | refine blk_drewN ?_ _ | refine blk_drew ?_ | refine blk_alloc ?_ _)); exact BK259.out) hb); have n3_ := Aside0.mk (below_step (by repeat (first | (with_reducible first | exact HB.out | apply below_alloc | apply pw_below_drewN | apply below_drew1 | refine below_set ?_ GE259.out) | exact HB.out)) hb); clear HO255; clear BK259; clear HB; have HO255 := n0_; have HO262 := n1_; have BK259 := n2_; have HB := n3_; clear n0_ n1_ n2_ n3_; (try clear hb); (try clear hb2); (try clear hk); (try clear hi); (try clear ho0)) | ((with_reducible refine gate_dst (N := 13) rfl ?_); (try (refine gate_guard (by rfl) ?_; dsimp only)); refine box_event ?hg (N := 13) ?hd (cs := #[.int .i64 0, .int .i64 0]) (t := 26) ?hr ?_; (case hd => rfl); (case hg => rfl); (case hr => first | (go_simp; done) | (go_simp; rfl)); intro gb266 hg w22 hbox hb; have n0_ := Aside0.mk (Kd.R_below (by (with_reducible repeat (first | apply Kd.R_alloc | apply Kd.R_drewN | apply Kd.R_drew)); exact HO255.out) hb); have n1_ := Aside0.mk (Kd.R_below (by (with_reducible repeat (first | apply Kd.R_alloc | apply Kd.R_drewN | apply Kd.R_drew)); exact HO262.out) hb); have n2_ := Aside0.mk (blk_below (g := gb259) (o := .cells #[.int .i64 t257, .int .i64 t258] 26 (0, 0)) (by (with_reducible repeat (first | refine blk_drewN ?_ _ | refine blk_drew ?_ | refine blk_alloc ?_ _)); exact BK259.out) hb); have n3_ := Aside0.mk (below_step (by repeat (first | (with_reducible first | exact HB.out | apply below_alloc | apply pw_below_drewN | apply below_drew1 | refine below_set ?_ GE259.out) | exact HB.out)) hb); have n4_ := Aside0.mk (hbox); have n5_ := Aside0.mk ((by rw [hg]; exact (below_size (by repeat (first | (with_reducible first | exact HB.out | apply below_alloc | apply pw_below_drewN | apply below_drew1 | refine below_set ?_ GE259.out) | exact HB.out))) : w.heap.size ≤ gb266)); have n6_ := Aside0.mk ((by rw [hg]; exact (below_size (by repeat (first | (with_reducible first | exact HB.out | apply below_alloc | apply pw_below_drewN | apply below_drew1 | refine below_set ?_ GE259.out) | exact HB.out))) : w.heap.size ≤ gb266)); have n7_ := Aside0.mk ((by rw [hg]; exact Nat.ne_of_lt (blk_lt (g := gb259) (o := .cells #[.int .i64 t257, .int .i64 t258] 26 (0, 0)) (by (with_reducible repeat (first | refine blk_drewN ?_ _ | refine blk_drew ?_ | refine blk_alloc ?_ _)); exact BK259.out)) : gb259 ≠ gb266)); have n8_ := Aside0.mk ((by rw [hg]; exact Nat.ne_of_gt (blk_lt (g := gb259) (o := .cells #[.int .i64 t257, .int .i64 t258] 26 (0, 0)) (by (with_reducible repeat (first | refine blk_drewN ?_ _ | refine blk_drew ?_ | refine blk_alloc ?_ _)); exact BK259.out)) : gb266 ≠ gb259)); clear HO255; clear HO262; clear BK259; clear HB; have HO255 := n0_; have HO262 := n1_; have BK259 := n2_; have HB := n3_; have BK266 := n4_; have GW266 := n5_; have GE266 := n6_; have NB259_266 := n7_; have NB266_259 := n8_; clear n0_ n1_ n2_ n3_ n4_ n5_ n6_ n7_ n8_; clear hb hbox hg; have hnb23 := NB266_259.out; have hnc23 := NB259_266.out; have hcz24_0 : w22.cell? ⟨gb266, 0, none⟩ = some (.int .i64 0) := (blk_cell BK266.out 0).trans rfl; have hcz24_1 : w22.cell? ⟨gb266, 1, none⟩ = some (.int .i64 0) := (blk_cell BK266.out 1).trans rfl; have hfz24_0 := blk_frozen BK266.out 0; have hfz24_1 := blk_frozen BK266.out 1))
        (try simp only [Act.put, List.setIfInBounds_toArray, List.set_cons_zero, List.set_cons_succ])
        go_cut [66] (fun v66 wc => ∃ (kq : Nat) (x66_16 : Bool), v66 = .bool x66_16 ∧ Aside0 (bloomerylaw09_LexParts.j2 kq a0 a1 a2 t253 t260 x66_16 = some r) ∧ Aside0 (kq ≤ k2) ∧ Aside0 (Kd.R k33 33 wc w.heap.size (fun k_ => some k_ ≠ (v261 : Value).ownBlock) v254 t253) ∧ Aside0 (Kd.R k33 33 wc w.heap.size (fun k_ => some k_ ≠ (v254 : Value).ownBlock) v261 t260) ∧ Aside0 (wc.heap[gb259]? = some (.cells #[.int .i64 t257, .int .i64 t258] 26 (0, 0))) ∧ Aside0 (wc.heap[gb266]? = some (.cells #[.int .i64 t264, .int .i64 t265] 26 (0, 0))) ∧ Aside0 (Below w.heap.size w wc))
        case first =>
         have H := HC17.out
         clear HC17
         by_cases c25 : t256 = 0
         ·rw [if_pos c25] at H
          have c25b0 : (t256 == 0) = true := beq_iff_eq.mpr c25
          have c25b1 : (t256 != 0) = false := bne_eq_false_iff_eq.mpr c25
          clear c25
          (first | rw [c25b0] | (simp only [i64_w, i32_w]; rw [c25b0]) | skip)
          have H' := Aside0.mk H
          clear H
          go_wp2
          go_meet
          case rel => exact ⟨_, ((t263 != 0)), (by first | rfl | (simp; done) | (simp [*]; done)), (by first | exact H' | (subst_vars; exact H')), ⟨by have := HJ5.out; have := HK2.out; first | omega | exact Nat.le_refl _⟩, ⟨by (with_reducible repeat (first | apply Kd.R_alloc | apply Kd.R_drewN | apply Kd.R_drew)); exact Kd.R_mono (Kd.R_far (p := ⟨gb266, 1, none⟩) (Kd.R_far (p := ⟨gb266, 0, none⟩) (Kd.R_types HO255.out BK266.out (by decide)) (fun _ hk => hk.2) (.int .i64 t264)) (fun _ hk => hk.2) (.int .i64 t265)) (fun _ hk => hk.1.2)⟩, ⟨by (with_reducible repeat (first | apply Kd.R_alloc | apply Kd.R_drewN | apply Kd.R_drew)); exact Kd.R_mono (Kd.R_far (p := ⟨gb266, 1, none⟩) (Kd.R_far (p := ⟨gb266, 0, none⟩) (Kd.R_types HO262.out BK266.out (by decide)) (fun _ hk => hk.2) (.int .i64 t264)) (fun _ hk => hk.2) (.int .i64 t265)) (fun _ hk => hk.1.2)⟩, ⟨by (with_reducible repeat (first | refine blk_drewN ?_ _ | refine blk_drew ?_ | refine blk_alloc ?_ _)); refine blk_far ?_ NB259_266.out _; (with_reducible repeat (first | refine blk_drewN ?_ _ | refine blk_drew ?_ | refine blk_alloc ?_ _)); refine blk_far ?_ NB259_266.out _; (with_reducible repeat (first | refine blk_drewN ?_ _ | refine blk_drew ?_ | refine blk_alloc ?_ _)); exact BK259.out⟩, ⟨by (with_reducible repeat (first | refine blk_drewN ?_ _ | refine blk_drew ?_ | refine blk_alloc ?_ _)); refine blk_put (cs := #[.int .i64 t264, .int .i64 0]) ?_ 1 _ rfl; (with_reducible repeat (first | refine blk_drewN ?_ _ | refine blk_drew ?_ | refine blk_alloc ?_ _)); refine blk_put (cs := #[.int .i64 0, .int .i64 0]) ?_ 0 _ rfl; (with_reducible repeat (first | refine blk_drewN ?_ _ | refine blk_drew ?_ | refine blk_alloc ?_ _)); exact BK266.out⟩, ⟨by repeat (first | (with_reducible first | exact HB.out | apply below_alloc | apply pw_below_drewN | apply below_drew1 | refine below_set ?_ GE259.out | refine below_set ?_ GE266.out) | exact HB.out)⟩⟩
         ·rw [if_neg c25] at H
          have c25b0 : (t256 == 0) = false := beq_eq_false_iff_ne.mpr c25
          have c25b1 : (t256 != 0) = true := bne_iff_ne.mpr c25
          (first | rw [c25b0] | (simp only [i64_w, i32_w]; rw [c25b0]) | skip)
          have H' := Aside0.mk H
          clear H
          go_wp2
          go_meet
          case rel => exact ⟨_, (true), (by first | rfl | (simp; done) | (simp [*]; done)), (by first | exact H' | (subst_vars; exact H')), ⟨by have := HJ5.out; have := HK2.out; first | omega | exact Nat.le_refl _⟩, ⟨by (with_reducible repeat (first | apply Kd.R_alloc | apply Kd.R_drewN | apply Kd.R_drew)); exact Kd.R_mono (Kd.R_far (p := ⟨gb266, 1, none⟩) (Kd.R_far (p := ⟨gb266, 0, none⟩) (Kd.R_types HO255.out BK266.out (by decide)) (fun _ hk => hk.2) (.int .i64 t264)) (fun _ hk => hk.2) (.int .i64 t265)) (fun _ hk => hk.1.2)⟩, ⟨by (with_reducible repeat (first | apply Kd.R_alloc | apply Kd.R_drewN | apply Kd.R_drew)); exact Kd.R_mono (Kd.R_far (p := ⟨gb266, 1, none⟩) (Kd.R_far (p := ⟨gb266, 0, none⟩) (Kd.R_types HO262.out BK266.out (by decide)) (fun _ hk => hk.2) (.int .i64 t264)) (fun _ hk => hk.2) (.int .i64 t265)) (fun _ hk => hk.1.2)⟩, ⟨by (with_reducible repeat (first | refine blk_drewN ?_ _ | refine blk_drew ?_ | refine blk_alloc ?_ _)); refine blk_far ?_ NB259_266.out _; (with_reducible repeat (first | refine blk_drewN ?_ _ | refine blk_drew ?_ | refine blk_alloc ?_ _)); refine blk_far ?_ NB259_266.out _; (with_reducible repeat (first | refine blk_drewN ?_ _ | refine blk_drew ?_ | refine blk_alloc ?_ _)); exact BK259.out⟩, ⟨by (with_reducible repeat (first | refine blk_drewN ?_ _ | refine blk_drew ?_ | refine blk_alloc ?_ _)); refine blk_put (cs := #[.int .i64 t264, .int .i64 0]) ?_ 1 _ rfl; (with_reducible repeat (first | refine blk_drewN ?_ _ | refine blk_drew ?_ | refine blk_alloc ?_ _)); refine blk_put (cs := #[.int .i64 0, .int .i64 0]) ?_ 0 _ rfl; (with_reducible repeat (first | refine blk_drewN ?_ _ | refine blk_drew ?_ | refine blk_alloc ?_ _)); exact BK266.out⟩, ⟨by repeat (first | (with_reducible first | exact HB.out | apply below_alloc | apply pw_below_drewN | apply below_drew1 | refine below_set ?_ GE259.out | refine below_set ?_ GE266.out) | exact HB.out)⟩⟩
        case rest =>
         clear HC17
         try clear c1
         try clear p1
         try clear q1
         try clear hx1
         try clear c2
         try clear p2
         try clear c5
         try clear c6
         try clear p6
         try clear c8
         try clear c8b0
         try clear c8b1
         try clear c9
         try clear c9b0
         try clear c9b1
         try clear c10
         try clear c11
         try clear c11b0
         try clear c12
         try clear c12b0
         try clear p13
         try clear q13
         try clear hx13
         try clear c14
         try clear c14b0
         try clear c14b1
         try clear c23
         try clear c25
         try clear c25b0
         try clear c25b1
         try clear hcz20_0
         try clear hcz20_1
         try clear hcz24_0
         try clear hcz24_1
         try clear hfz20_0
         try clear hfz20_1
         try clear hfz24_0
         try clear hfz24_1
         try clear p13
         try clear p2
         try clear q13
         obtain ⟨kq, x66_16, rfl, HA, HJ16, HO_8, HO_11, BK259, BK266, HB⟩ := hcut
         cases kq with
         | zero => exact absurd HA.out (by simp [bloomerylaw09_LexParts.j2])
         | succ kj16 =>
          have H := HA.out
          clear HA
          simp only [bloomerylaw09_LexParts.j2] at H
          by_cases c26 : x66_16 = true
          ·subst c26
           have H1 : (some true) = some r := by rw [if_pos rfl] at H; exact H
           clear H
           have H := H1
           clear H1
           obtain rfl := Option.some.inj H
           go_wp2
           go_ret
           exact ⟨by first | rfl | (simp [errW_none, errW_some] <;> rfl) | (simp [*, errW_none, errW_some] <;> rfl), by repeat (first | (with_reducible first | exact HB.out | apply below_alloc | apply pw_below_drewN | apply below_drew1 | refine below_set ?_ GE259.out | refine below_set ?_ GE266.out) | exact HB.out)⟩
          ·replace c26 := Bool.eq_false_iff.mpr c26
           subst c26
           have H1 : ((bloomeryref09_At.f kj16 a0 (a0.size : Int)).bind fun bt267 => (if ([] : List (S33)).length + t253.length < 3518437208883 then (bloomerylaw09_LexParts.l1 kj16 a0 a1 a2 t260 bt267.1 (([] : List (S33)) ++ t253) 0) else (none))) = some r := by rw [if_neg (show ¬ (false = true) by decide)] at H; exact H
           clear H
           have H := H1
           clear H1
           replace H := Option.bind_eq_some_iff.mp H
           obtain ⟨⟨t267, t268⟩, A270, H⟩ := H
           replace H : (if ([] : List (S33)).length + t253.length < 3518437208883 then (bloomerylaw09_LexParts.l1 kj16 a0 a1 a2 t260 t267 (([] : List (S33)) ++ t253) 0) else (none)) = some r := H
           have A27 := Aside0.mk A270
           clear A270
           by_cases c28 : ([] : List (S33)).length + t253.length < 3518437208883
           ·rw [if_pos c28] at H
            have LMc28 := Aside0.mk c28
            clear c28
            obtain ⟨y269, hy269⟩ : ∃ y_ : List (S33), y_ = (([] : List (S33)) ++ t253) := ⟨_, rfl⟩
            replace H : (bloomerylaw09_LexParts.l1 kj16 a0 a1 a2 t260 t267 y269 0) = some r := by first | (rw [hy269]; with_reducible exact H) | (have H2_ := (Option.bind_some _ _).symm.trans H; rw [hy269]; with_reducible exact H2_) | (have H2_ := (Option.bind_some _ _).symm.trans H; with_reducible exact H2_) | with_reducible exact H | (rw [hy269]; exact H) | exact H
            have Ny269 := Aside0.mk hy269
            clear hy269
            have H' := Aside0.mk H
            clear H
            go_wp2_with (first | ((with_reducible refine gate_callee (f := 15) rfl ?_); refine goesL_ (some 70) rfl rfl Tryz.func15 (by kernel_rfl) rfl #[.string a0, .int .i64 (a0.size : Int)] rfl (by (try simp only [List.map_toArray, List.map_cons, List.map_nil]); first | done | rfl | (simp only [List.length_drop, List.length_take]; rfl)) ?_; (with_reducible refine (bloomeryref09_At.calls kj16 a0 (a0.size : Int) t267 t268 _ A27.out).mono ?_); rintro e w29 ⟨rfl, hb⟩; refine ⟨_, rfl, ?_⟩; have n0_ := Aside0.mk (Kd.R_below (by (with_reducible repeat (first | apply Kd.R_alloc | apply Kd.R_drewN | apply Kd.R_drew)); exact HO_8.out) hb); have n1_ := Aside0.mk (Kd.R_below (by (with_reducible repeat (first | apply Kd.R_alloc | apply Kd.R_drewN | apply Kd.R_drew)); exact HO_11.out) hb); have n2_ := Aside0.mk (blk_below (g := gb259) (o := .cells #[.int .i64 t257, .int .i64 t258] 26 (0, 0)) (by (with_reducible repeat (first | refine blk_drewN ?_ _ | refine blk_drew ?_ | refine blk_alloc ?_ _)); exact BK259.out) hb); have n3_ := Aside0.mk (blk_below (g := gb266) (o := .cells #[.int .i64 t264, .int .i64 t265] 26 (0, 0)) (by (with_reducible repeat (first | refine blk_drewN ?_ _ | refine blk_drew ?_ | refine blk_alloc ?_ _)); exact BK266.out) hb); have n4_ := Aside0.mk (below_step (by repeat (first | (with_reducible first | exact HB.out | apply below_alloc | apply pw_below_drewN | apply below_drew1 | refine below_set ?_ GE259.out | refine below_set ?_ GE266.out) | exact HB.out)) hb); clear HO_8; clear HO_11; clear BK259; clear BK266; clear HB; have HO_8 := n0_; have HO_11 := n1_; have BK259 := n2_; have BK266 := n3_; have HB := n4_; clear n0_ n1_ n2_ n3_ n4_; (try clear hb); (try clear hb2); (try clear hk); (try clear hi); obtain ⟨Ao31, co31, eo31⟩ := Kd.R_slice HO_8.out; subst eo31) | ((with_reducible refine gate_builtin (b := .append) (xs := #[.tmp 72, .tmp 73]) rfl ?_); (try (refine gate_guard (by rfl) ?_; dsimp only)); at_builtin; refine Kd.R_append_rows k33 (w0 := w) w.heap.size rfl (.tmp 72) (.tmp 73) 23 33 (.agg #[(.int .i64 0), (.string ⟨#[]⟩), (.int .i64 0), (.int .i64 0)]) 40 rfl Tryz.underlying23 info33 rfl (by decide) (by omega) (.slice none 0 0) ([] : List (S33)) t253 _ _ _ (fun k_ => some k_ ≠ (.slice Ao31 t253.length co31 : Value).ownBlock ∧ some k_ ≠ (v261 : Value).ownBlock) (fun _ => False) rfl rfl ?aO ?aR (fun _ _ h => h) (fun _ h => h.elim) ?aF ?aB ?aS ?aL ?_; (case aR => repeat (first | exact (Kd.R_reads' HO_8.out).2.2 | (with_reducible refine Kd.C_alloc ?_ _) | (with_reducible refine Kd.C_drewN ?_ _) | (with_reducible refine Kd.C_drew ?_))); (case aB => exact (by repeat (first | (with_reducible first | exact HB.out | apply below_alloc | apply pw_below_drewN | apply below_drew1 | refine below_set ?_ GE259.out | refine below_set ?_ GE266.out) | exact HB.out))); (case aF => exact (fun k_ hk => ⟨Kd.fresh' (Kd.R_lt (by (with_reducible repeat (first | apply Kd.R_alloc | apply Kd.R_drewN | apply Kd.R_drew)); exact HO_8.out)) k_ hk, Kd.fresh' (Kd.R_lt (by (with_reducible repeat (first | apply Kd.R_alloc | apply Kd.R_drewN | apply Kd.R_drew)); exact HO_11.out)) k_ hk⟩)); (case aO => exact ((Kd.R_nil _ _ _ _ (fun k_ => some k_ ≠ (.slice Ao31 t253.length co31 : Value).ownBlock ∧ some k_ ≠ (v261 : Value).ownBlock)))); (case aS => exact (below_size (by repeat (first | (with_reducible first | exact HB.out | apply below_alloc | apply pw_below_drewN | apply below_drew1 | refine below_set ?_ GE259.out | refine below_set ?_ GE266.out) | exact HB.out)))); (case aL => have := LMc28.out; omega); intro v270 w30 ho hb hg hat; rw [← Ny269.out] at ho; have n0_ := Aside0.mk (Kd.R_after (Kd.R_apart_nil (by (with_reducible repeat (first | apply Kd.R_alloc | apply Kd.R_drewN | apply Kd.R_drew)); exact HO_8.out)) hg hat); have n1_ := Aside0.mk (Kd.R_after (Kd.R_apart_nil (by (with_reducible repeat (first | apply Kd.R_alloc | apply Kd.R_drewN | apply Kd.R_drew)); exact HO_11.out)) hg hat); have n2_ := Aside0.mk (blk_grown (g := gb259) (o := .cells #[.int .i64 t257, .int .i64 t258] 26 (0, 0)) (by (with_reducible repeat (first | refine blk_drewN ?_ _ | refine blk_drew ?_ | refine blk_alloc ?_ _)); exact BK259.out) hg (by simp [Value.ownBlock])); have n3_ := Aside0.mk (blk_grown (g := gb266) (o := .cells #[.int .i64 t264, .int .i64 t265] 26 (0, 0)) (by (with_reducible repeat (first | refine blk_drewN ?_ _ | refine blk_drew ?_ | refine blk_alloc ?_ _)); exact BK266.out) hg (by simp [Value.ownBlock])); have n4_ := Aside0.mk (hb); have n5_ := Aside0.mk (ho); clear HO_8; clear HO_11; clear BK259; clear BK266; clear HB; have HO_8 := n0_; have HO_11 := n1_; have BK259 := n2_; have BK266 := n3_; have HB := n4_; have HO271 := n5_; clear n0_ n1_ n2_ n3_ n4_ n5_; clear ho hb hg hat))
            go_loopg [15, 16] kj16 (fun kq v15 v16 w' => ∃ (x15_4 : List (S33)) (x16_4 : Int), v16 = .int .i64 x16_4 ∧ Aside0 (bloomerylaw09_LexParts.l1 kq a0 a1 a2 t260 t267 x15_4 x16_4 = some r) ∧ Aside0 (kq ≤ kj16) ∧ Aside0 (Kd.R k33 33 w' w.heap.size (fun k_ => some k_ ≠ (v15 : Value).ownBlock) v261 t260) ∧ Aside0 (Kd.R k33 33 w' w.heap.size (fun k_ => some k_ ≠ (v261 : Value).ownBlock) v15 x15_4) ∧ Aside0 (w'.heap[gb259]? = some (.cells #[.int .i64 t257, .int .i64 t258] 26 (0, 0))) ∧ Aside0 (w'.heap[gb266]? = some (.cells #[.int .i64 t264, .int .i64 t265] 26 (0, 0))) ∧ Aside0 (Below w.heap.size w w'))
            case atStart => exact ⟨(y269), (0), (by first | rfl | (simp; done) | (simp [*]; done)), (by first | exact H' | (subst_vars; exact H')), ⟨Nat.le_refl _⟩, ⟨by (with_reducible repeat (first | apply Kd.R_alloc | apply Kd.R_drewN | apply Kd.R_drew)); exact Kd.R_mono HO_11.out (fun _ hk => hk.2)⟩, ⟨by (with_reducible repeat (first | apply Kd.R_alloc | apply Kd.R_drewN | apply Kd.R_drew)); exact Kd.R_mono HO271.out (fun _ hk => hk.2)⟩, ⟨by (with_reducible repeat (first | refine blk_drewN ?_ _ | refine blk_drew ?_ | refine blk_alloc ?_ _)); exact BK259.out⟩, ⟨by (with_reducible repeat (first | refine blk_drewN ?_ _ | refine blk_drew ?_ | refine blk_alloc ?_ _)); exact BK266.out⟩, ⟨by repeat (first | (with_reducible first | exact HB.out | apply below_alloc | apply pw_below_drewN | apply below_drew1 | refine below_set ?_ GE259.out | refine below_set ?_ GE266.out) | exact HB.out)⟩⟩
            case round =>
             clear H'
             try clear c1
             try clear p1
             try clear q1
             try clear hx1
             try clear c2
             try clear p2
             try clear c5
             try clear c6
             try clear p6
             try clear c8
             try clear c8b0
             try clear c8b1
             try clear c9
             try clear c9b0
             try clear c9b1
             try clear c10
             try clear c11
             try clear c11b0
             try clear c12
             try clear c12b0
             try clear p13
             try clear q13
             try clear hx13
             try clear c14
             try clear c14b0
             try clear c14b1
             try clear c15
             try clear c23
             try clear c25
             try clear c25b0
             try clear c25b1
             try clear c26
             try clear c28
             try clear hcz20_0
             try clear hcz20_1
             try clear hcz24_0
             try clear hcz24_1
             try clear hfz20_0
             try clear hfz20_1
             try clear hfz24_0
             try clear hfz24_1
             try clear p1
             try clear p13
             try clear p2
             try clear p6
             try clear q1
             try clear q13
             obtain ⟨x15_4, x16_4, rfl, HA, HK4, HO_11, HO_15, BK259, BK266, HB⟩ := hrel
             cases gk with
             | zero => exact absurd HA.out (by simp [bloomerylaw09_LexParts.l1])
             | succ k4 =>
              have H := HA.out
              clear HA
              simp only [bloomerylaw09_LexParts.l1] at H
              by_cases c32 : x16_4 < (t260.length : Int)
              ·rw [if_pos c32] at H
               have c32b0 : decide (x16_4 < (t260.length : Int)) = true := decide_eq_true c32
               clear c32
               by_cases c33 : 0 ≤ x16_4
               ·rw [if_pos c33] at H
                have c33b0 : decide (0 ≤ x16_4) = true := decide_eq_true c33
                clear c33
                by_cases c34 : x15_4.length < 3518437208883
                ·rw [if_pos c34] at H
                 have LMc34 := Aside0.mk c34
                 clear c34
                 obtain ⟨y274, hy274⟩ : ∃ y_ : List (S33), y_ = (x15_4 ++ [(⟨(rd_T33 t260 x16_4).f0, (rd_T33 t260 x16_4).f1, (⟨wrap64 (((rd_T33 t260 x16_4).f2.f0) + t267), (rd_T33 t260 x16_4).f2.f1⟩ : S26)⟩ : S33)]) := ⟨_, rfl⟩
                 replace H : (bloomerylaw09_LexParts.l1 k4 a0 a1 a2 t260 t267 y274 (wrap64 (x16_4 + 1))) = some r := by first | (rw [hy274]; with_reducible exact H) | (have H2_ := (Option.bind_some _ _).symm.trans H; rw [hy274]; with_reducible exact H2_) | (have H2_ := (Option.bind_some _ _).symm.trans H; with_reducible exact H2_) | with_reducible exact H | (rw [hy274]; exact H) | exact H
                 have Ny274 := Aside0.mk hy274
                 clear hy274
                 have H' := Aside0.mk H
                 clear H
                 obtain ⟨Ao35, co35, eo35⟩ := Kd.R_slice HO_11.out
                 subst eo35
                 have p272 : 0 ≤ (x16_4 : Int) := of_decide_eq_true (by first | (with_reducible assumption) | assumption)
                 have q272 : x16_4 < (t260.length : Int) := of_decide_eq_true (by first | (with_reducible assumption) | assumption)
                 obtain ⟨ad272, e272, hx272_0, hx272_1, hx272_2, hx272_3⟩ := at_T33 (Kd.R_reads' HO_11.out).2.2 x16_4 p272 q272
                 cases e272
                 replace p272 := eq_true p272
                 replace q272 := eq_true q272
                 go_wp2_with (first | ((with_reducible refine gate_ (.load 33 (.tmp 17)) rfl ?_); refine wpList_load_row rfl 33 (.tmp 17) rfl gb273 rfl 33 #[.int .i64 ((rd_T33 t260 x16_4).f0), .string ((rd_T33 t260 x16_4).f1), .int .i64 (wrap64 (((rd_T33 t260 x16_4).f2.f0) + t267)), .int .i64 ((rd_T33 t260 x16_4).f2.f1)] (0, 0) _ (by (with_reducible repeat (first | refine blk_drewN ?_ _ | refine blk_drew ?_ | refine blk_alloc ?_ _)); refine blk_put (cs := #[.int .i64 ((rd_T33 t260 x16_4).f0), .string ((rd_T33 t260 x16_4).f1), .int .i64 ((rd_T33 t260 x16_4).f2.f0), .int .i64 ((rd_T33 t260 x16_4).f2.f1)]) ?_ 2 _ rfl; (with_reducible repeat (first | refine blk_drewN ?_ _ | refine blk_drew ?_ | refine blk_alloc ?_ _)); refine blk_put (cs := #[.int .i64 ((rd_T33 t260 x16_4).f0), .string ((rd_T33 t260 x16_4).f1), .int .i64 ((rd_T33 t260 x16_4).f2.f0), .int .i64 0]) ?_ 3 _ rfl; (with_reducible repeat (first | refine blk_drewN ?_ _ | refine blk_drew ?_ | refine blk_alloc ?_ _)); refine blk_put (cs := #[.int .i64 ((rd_T33 t260 x16_4).f0), .string ((rd_T33 t260 x16_4).f1), .int .i64 0, .int .i64 0]) ?_ 2 _ rfl; (with_reducible repeat (first | refine blk_drewN ?_ _ | refine blk_drew ?_ | refine blk_alloc ?_ _)); refine blk_put (cs := #[.int .i64 ((rd_T33 t260 x16_4).f0), .string (⟨#[]⟩ : ByteArray), .int .i64 0, .int .i64 0]) ?_ 1 _ rfl; (with_reducible repeat (first | refine blk_drewN ?_ _ | refine blk_drew ?_ | refine blk_alloc ?_ _)); refine blk_put (cs := #[.int .i64 0, .string (⟨#[]⟩ : ByteArray), .int .i64 0, .int .i64 0]) ?_ 0 _ rfl; (with_reducible repeat (first | refine blk_drewN ?_ _ | refine blk_drew ?_ | refine blk_alloc ?_ _)); exact BK273.out) Tryz.underlying33 rfl (by kernel_rfl) ?_) | ((with_reducible refine gate_dst (N := 17) rfl ?_); (try (refine gate_guard (by rfl) ?_; dsimp only)); refine box_event ?hg (N := 17) ?hd (cs := #[.int .i64 0, .string (⟨#[]⟩ : ByteArray), .int .i64 0, .int .i64 0]) (t := 33) ?hr ?_; (case hd => rfl); (case hg => rfl); (case hr => first | (go_simp; done) | (go_simp; rfl)); intro gb273 hg w36 hbox hb; have n0_ := Aside0.mk (Kd.R_below (Kd.R_elderB (by (with_reducible repeat (first | apply Kd.R_alloc | apply Kd.R_drewN | apply Kd.R_drew)); exact HO_11.out) gb273 (Nat.le_of_eq hg.symm)) hb); have n1_ := Aside0.mk (Kd.R_below (Kd.R_elderB (by (with_reducible repeat (first | apply Kd.R_alloc | apply Kd.R_drewN | apply Kd.R_drew)); exact HO_15.out) gb273 (Nat.le_of_eq hg.symm)) hb); have n2_ := Aside0.mk (blk_below (g := gb259) (o := .cells #[.int .i64 t257, .int .i64 t258] 26 (0, 0)) (by (with_reducible repeat (first | refine blk_drewN ?_ _ | refine blk_drew ?_ | refine blk_alloc ?_ _)); exact BK259.out) hb); have n3_ := Aside0.mk (blk_below (g := gb266) (o := .cells #[.int .i64 t264, .int .i64 t265] 26 (0, 0)) (by (with_reducible repeat (first | refine blk_drewN ?_ _ | refine blk_drew ?_ | refine blk_alloc ?_ _)); exact BK266.out) hb); have n4_ := Aside0.mk (below_step (by repeat (first | (with_reducible first | exact HB.out | apply below_alloc | apply pw_below_drewN | apply below_drew1 | refine below_set ?_ GE259.out | refine below_set ?_ GE266.out) | exact HB.out)) hb); have n5_ := Aside0.mk (hbox); have n6_ := Aside0.mk ((by rw [hg]; exact (below_size (by repeat (first | (with_reducible first | exact HB.out | apply below_alloc | apply pw_below_drewN | apply below_drew1 | refine below_set ?_ GE259.out | refine below_set ?_ GE266.out) | exact HB.out))) : w.heap.size ≤ gb273)); have n7_ := Aside0.mk ((by rw [hg]; exact (below_size (by repeat (first | (with_reducible first | exact HB.out | apply below_alloc | apply pw_below_drewN | apply below_drew1 | refine below_set ?_ GE259.out | refine below_set ?_ GE266.out) | exact HB.out))) : w.heap.size ≤ gb273)); have n8_ := Aside0.mk ((by rw [hg]; exact Nat.ne_of_lt (blk_lt (g := gb259) (o := .cells #[.int .i64 t257, .int .i64 t258] 26 (0, 0)) (by (with_reducible repeat (first | refine blk_drewN ?_ _ | refine blk_drew ?_ | refine blk_alloc ?_ _)); exact BK259.out)) : gb259 ≠ gb273)); have n9_ := Aside0.mk ((by rw [hg]; exact Nat.ne_of_gt (blk_lt (g := gb259) (o := .cells #[.int .i64 t257, .int .i64 t258] 26 (0, 0)) (by (with_reducible repeat (first | refine blk_drewN ?_ _ | refine blk_drew ?_ | refine blk_alloc ?_ _)); exact BK259.out)) : gb273 ≠ gb259)); have n10_ := Aside0.mk ((by rw [hg]; exact Nat.ne_of_lt (blk_lt (g := gb266) (o := .cells #[.int .i64 t264, .int .i64 t265] 26 (0, 0)) (by (with_reducible repeat (first | refine blk_drewN ?_ _ | refine blk_drew ?_ | refine blk_alloc ?_ _)); exact BK266.out)) : gb266 ≠ gb273)); have n11_ := Aside0.mk ((by rw [hg]; exact Nat.ne_of_gt (blk_lt (g := gb266) (o := .cells #[.int .i64 t264, .int .i64 t265] 26 (0, 0)) (by (with_reducible repeat (first | refine blk_drewN ?_ _ | refine blk_drew ?_ | refine blk_alloc ?_ _)); exact BK266.out)) : gb273 ≠ gb266)); clear HO_11; clear HO_15; clear BK259; clear BK266; clear HB; have HO_11 := n0_; have HO_15 := n1_; have BK259 := n2_; have BK266 := n3_; have HB := n4_; have BK273 := n5_; have GW273 := n6_; have GE273 := n7_; have NB259_273 := n8_; have NB273_259 := n9_; have NB266_273 := n10_; have NB273_266 := n11_; clear n0_ n1_ n2_ n3_ n4_ n5_ n6_ n7_ n8_ n9_ n10_ n11_; clear hb hbox hg; have hnb37 := NB273_259.out; have hnc37 := NB259_273.out; have hnb38 := NB273_266.out; have hnc38 := NB266_273.out; have hcz39_0 : w36.cell? ⟨gb273, 0, none⟩ = some (.int .i64 0) := (blk_cell BK273.out 0).trans rfl; have hcz39_1 : w36.cell? ⟨gb273, 1, none⟩ = some (.string (⟨#[]⟩ : ByteArray)) := (blk_cell BK273.out 1).trans rfl; have hcz39_2 : w36.cell? ⟨gb273, 2, none⟩ = some (.int .i64 0) := (blk_cell BK273.out 2).trans rfl; have hcz39_3 : w36.cell? ⟨gb273, 3, none⟩ = some (.int .i64 0) := (blk_cell BK273.out 3).trans rfl; have hfz39_0 := blk_frozen BK273.out 0; have hfz39_1 := blk_frozen BK273.out 1; have hfz39_2 := blk_frozen BK273.out 2; have hfz39_3 := blk_frozen BK273.out 3) | ((with_reducible refine gate_builtin (b := .append) (xs := #[.tmp 92, .tmp 94]) rfl ?_); (try (refine gate_guard (by rfl) ?_; dsimp only)); at_builtin; refine Kd.R_append k33 (w0 := w) w.heap.size rfl (.tmp 92) (.tmp 94) 23 33 (.agg #[(.int .i64 0), (.string ⟨#[]⟩), (.int .i64 0), (.int .i64 0)]) 40 rfl Tryz.underlying23 info33 rfl (by decide) (by omega) u15 x15_4 (⟨(rd_T33 t260 x16_4).f0, (rd_T33 t260 x16_4).f1, (⟨wrap64 (((rd_T33 t260 x16_4).f2.f0) + t267), (rd_T33 t260 x16_4).f2.f1⟩ : S26)⟩ : S33) [.int .i64 ((rd_T33 t260 x16_4).f0), .string ((rd_T33 t260 x16_4).f1), .int .i64 (wrap64 (((rd_T33 t260 x16_4).f2.f0) + t267)), .int .i64 ((rd_T33 t260 x16_4).f2.f1)] (fun k_ => some k_ ≠ (.slice (some ad272) t260.length co35 : Value).ownBlock ∧ k_ ≠ gb273) (fun _ => False) rfl (by first | (go_simp; done) | (go_simp; rfl)) ?aP (fun _ hk => hk.elim) ?aF ?aO ?aB ?aS ?aL ?_; (case aP => exact k33_mkM _ _ _ (⟨(rd_T33 t260 x16_4).f0, (rd_T33 t260 x16_4).f1, (⟨wrap64 (((rd_T33 t260 x16_4).f2.f0) + t267), (rd_T33 t260 x16_4).f2.f1⟩ : S26)⟩ : S33)); (case aB => exact (by repeat (first | (with_reducible first | exact HB.out | apply below_alloc | apply pw_below_drewN | apply below_drew1 | refine below_set ?_ GE259.out | refine below_set ?_ GE266.out | refine below_set ?_ GE273.out) | exact HB.out))); (case aF => exact (fun k_ hk => ⟨Kd.fresh' (Kd.R_lt (by (with_reducible repeat (first | apply Kd.R_alloc | apply Kd.R_drewN | apply Kd.R_drew)); exact (Kd.R_mono (Kd.R_far (p := ⟨gb273, 2, none⟩) (Kd.R_far (p := ⟨gb273, 3, none⟩) (Kd.R_far (p := ⟨gb273, 2, none⟩) (Kd.R_far (p := ⟨gb273, 1, none⟩) (Kd.R_far (p := ⟨gb273, 0, none⟩) (Kd.R_mono HO_11.out (fun k_ hk => (⟨hk, hk.2⟩ : _ ∧ k_ ≠ gb273))) (fun _ hk => hk.2) (.int .i64 ((rd_T33 t260 x16_4).f0))) (fun _ hk => hk.2) (.string ((rd_T33 t260 x16_4).f1))) (fun _ hk => hk.2) (.int .i64 ((rd_T33 t260 x16_4).f2.f0))) (fun _ hk => hk.2) (.int .i64 ((rd_T33 t260 x16_4).f2.f1))) (fun _ hk => hk.2) (.int .i64 (wrap64 (((rd_T33 t260 x16_4).f2.f0) + t267)))) (fun _ h_ => h_.1)))) k_ hk, Kd.freshB (g := gb273) (o := .cells #[.int .i64 ((rd_T33 t260 x16_4).f0), .string ((rd_T33 t260 x16_4).f1), .int .i64 (wrap64 (((rd_T33 t260 x16_4).f2.f0) + t267)), .int .i64 ((rd_T33 t260 x16_4).f2.f1)] 33 (0, 0)) (by (with_reducible repeat (first | refine blk_drewN ?_ _ | refine blk_drew ?_ | refine blk_alloc ?_ _)); refine blk_put (cs := #[.int .i64 ((rd_T33 t260 x16_4).f0), .string ((rd_T33 t260 x16_4).f1), .int .i64 ((rd_T33 t260 x16_4).f2.f0), .int .i64 ((rd_T33 t260 x16_4).f2.f1)]) ?_ 2 _ rfl; (with_reducible repeat (first | refine blk_drewN ?_ _ | refine blk_drew ?_ | refine blk_alloc ?_ _)); refine blk_put (cs := #[.int .i64 ((rd_T33 t260 x16_4).f0), .string ((rd_T33 t260 x16_4).f1), .int .i64 ((rd_T33 t260 x16_4).f2.f0), .int .i64 0]) ?_ 3 _ rfl; (with_reducible repeat (first | refine blk_drewN ?_ _ | refine blk_drew ?_ | refine blk_alloc ?_ _)); refine blk_put (cs := #[.int .i64 ((rd_T33 t260 x16_4).f0), .string ((rd_T33 t260 x16_4).f1), .int .i64 0, .int .i64 0]) ?_ 2 _ rfl; (with_reducible repeat (first | refine blk_drewN ?_ _ | refine blk_drew ?_ | refine blk_alloc ?_ _)); refine blk_put (cs := #[.int .i64 ((rd_T33 t260 x16_4).f0), .string (⟨#[]⟩ : ByteArray), .int .i64 0, .int .i64 0]) ?_ 1 _ rfl; (with_reducible repeat (first | refine blk_drewN ?_ _ | refine blk_drew ?_ | refine blk_alloc ?_ _)); refine blk_put (cs := #[.int .i64 0, .string (⟨#[]⟩ : ByteArray), .int .i64 0, .int .i64 0]) ?_ 0 _ rfl; (with_reducible repeat (first | refine blk_drewN ?_ _ | refine blk_drew ?_ | refine blk_alloc ?_ _)); exact BK273.out) k_ hk⟩)); (case aO => exact (by (with_reducible repeat (first | apply Kd.R_alloc | apply Kd.R_drewN | apply Kd.R_drew)); exact Kd.R_mono (Kd.R_far (p := ⟨gb273, 2, none⟩) (Kd.R_far (p := ⟨gb273, 3, none⟩) (Kd.R_far (p := ⟨gb273, 2, none⟩) (Kd.R_far (p := ⟨gb273, 1, none⟩) (Kd.R_far (p := ⟨gb273, 0, none⟩) (Kd.R_mono HO_15.out (fun k_ hk => (⟨hk, hk.2⟩ : _ ∧ k_ ≠ gb273))) (fun _ hk => hk.2) (.int .i64 ((rd_T33 t260 x16_4).f0))) (fun _ hk => hk.2) (.string ((rd_T33 t260 x16_4).f1))) (fun _ hk => hk.2) (.int .i64 ((rd_T33 t260 x16_4).f2.f0))) (fun _ hk => hk.2) (.int .i64 ((rd_T33 t260 x16_4).f2.f1))) (fun _ hk => hk.2) (.int .i64 (wrap64 (((rd_T33 t260 x16_4).f2.f0) + t267)))) (fun _ hk => ⟨hk.1.1, hk.1.2⟩))); (case aS => exact (below_size (by repeat (first | (with_reducible first | exact HB.out | apply below_alloc | apply pw_below_drewN | apply below_drew1 | refine below_set ?_ GE259.out | refine below_set ?_ GE266.out | refine below_set ?_ GE273.out) | exact HB.out)))); (case aL => have := LMc34.out; omega); intro v275 w40 ho hb hg hat; rw [← Ny274.out] at ho; have n0_ := Aside0.mk (Kd.R_after (ok := (fun k_ => k_ ≠ gb273)) (by (with_reducible repeat (first | apply Kd.R_alloc | apply Kd.R_drewN | apply Kd.R_drew)); exact Kd.R_mono (Kd.R_far (p := ⟨gb273, 2, none⟩) (Kd.R_far (p := ⟨gb273, 3, none⟩) (Kd.R_far (p := ⟨gb273, 2, none⟩) (Kd.R_far (p := ⟨gb273, 1, none⟩) (Kd.R_far (p := ⟨gb273, 0, none⟩) (Kd.R_mono HO_11.out (fun k_ hk => (⟨hk, hk.2⟩ : _ ∧ k_ ≠ gb273))) (fun _ hk => hk.2) (.int .i64 ((rd_T33 t260 x16_4).f0))) (fun _ hk => hk.2) (.string ((rd_T33 t260 x16_4).f1))) (fun _ hk => hk.2) (.int .i64 ((rd_T33 t260 x16_4).f2.f0))) (fun _ hk => hk.2) (.int .i64 ((rd_T33 t260 x16_4).f2.f1))) (fun _ hk => hk.2) (.int .i64 (wrap64 (((rd_T33 t260 x16_4).f2.f0) + t267)))) (fun _ hk => ⟨hk.1.2, hk.1.1⟩)) hg hat); have n1_ := Aside0.mk (blk_grown (g := gb259) (o := .cells #[.int .i64 t257, .int .i64 t258] 26 (0, 0)) (by (with_reducible repeat (first | refine blk_drewN ?_ _ | refine blk_drew ?_ | refine blk_alloc ?_ _)); refine blk_far ?_ NB259_273.out _; (with_reducible repeat (first | refine blk_drewN ?_ _ | refine blk_drew ?_ | refine blk_alloc ?_ _)); refine blk_far ?_ NB259_273.out _; (with_reducible repeat (first | refine blk_drewN ?_ _ | refine blk_drew ?_ | refine blk_alloc ?_ _)); refine blk_far ?_ NB259_273.out _; (with_reducible repeat (first | refine blk_drewN ?_ _ | refine blk_drew ?_ | refine blk_alloc ?_ _)); refine blk_far ?_ NB259_273.out _; (with_reducible repeat (first | refine blk_drewN ?_ _ | refine blk_drew ?_ | refine blk_alloc ?_ _)); refine blk_far ?_ NB259_273.out _; (with_reducible repeat (first | refine blk_drewN ?_ _ | refine blk_drew ?_ | refine blk_alloc ?_ _)); exact BK259.out) hg (Kd.R_ne HO_15.out BK259.out (by decide))); have n2_ := Aside0.mk (blk_grown (g := gb266) (o := .cells #[.int .i64 t264, .int .i64 t265] 26 (0, 0)) (by (with_reducible repeat (first | refine blk_drewN ?_ _ | refine blk_drew ?_ | refine blk_alloc ?_ _)); refine blk_far ?_ NB266_273.out _; (with_reducible repeat (first | refine blk_drewN ?_ _ | refine blk_drew ?_ | refine blk_alloc ?_ _)); refine blk_far ?_ NB266_273.out _; (with_reducible repeat (first | refine blk_drewN ?_ _ | refine blk_drew ?_ | refine blk_alloc ?_ _)); refine blk_far ?_ NB266_273.out _; (with_reducible repeat (first | refine blk_drewN ?_ _ | refine blk_drew ?_ | refine blk_alloc ?_ _)); refine blk_far ?_ NB266_273.out _; (with_reducible repeat (first | refine blk_drewN ?_ _ | refine blk_drew ?_ | refine blk_alloc ?_ _)); refine blk_far ?_ NB266_273.out _; (with_reducible repeat (first | refine blk_drewN ?_ _ | refine blk_drew ?_ | refine blk_alloc ?_ _)); exact BK266.out) hg (Kd.R_ne HO_15.out BK266.out (by decide))); have n3_ := Aside0.mk (blk_grown (g := gb273) (o := .cells #[.int .i64 ((rd_T33 t260 x16_4).f0), .string ((rd_T33 t260 x16_4).f1), .int .i64 (wrap64 (((rd_T33 t260 x16_4).f2.f0) + t267)), .int .i64 ((rd_T33 t260 x16_4).f2.f1)] 33 (0, 0)) (by (with_reducible repeat (first | refine blk_drewN ?_ _ | refine blk_drew ?_ | refine blk_alloc ?_ _)); refine blk_put (cs := #[.int .i64 ((rd_T33 t260 x16_4).f0), .string ((rd_T33 t260 x16_4).f1), .int .i64 ((rd_T33 t260 x16_4).f2.f0), .int .i64 ((rd_T33 t260 x16_4).f2.f1)]) ?_ 2 _ rfl; (with_reducible repeat (first | refine blk_drewN ?_ _ | refine blk_drew ?_ | refine blk_alloc ?_ _)); refine blk_put (cs := #[.int .i64 ((rd_T33 t260 x16_4).f0), .string ((rd_T33 t260 x16_4).f1), .int .i64 ((rd_T33 t260 x16_4).f2.f0), .int .i64 0]) ?_ 3 _ rfl; (with_reducible repeat (first | refine blk_drewN ?_ _ | refine blk_drew ?_ | refine blk_alloc ?_ _)); refine blk_put (cs := #[.int .i64 ((rd_T33 t260 x16_4).f0), .string ((rd_T33 t260 x16_4).f1), .int .i64 0, .int .i64 0]) ?_ 2 _ rfl; (with_reducible repeat (first | refine blk_drewN ?_ _ | refine blk_drew ?_ | refine blk_alloc ?_ _)); refine blk_put (cs := #[.int .i64 ((rd_T33 t260 x16_4).f0), .string (⟨#[]⟩ : ByteArray), .int .i64 0, .int .i64 0]) ?_ 1 _ rfl; (with_reducible repeat (first | refine blk_drewN ?_ _ | refine blk_drew ?_ | refine blk_alloc ?_ _)); refine blk_put (cs := #[.int .i64 0, .string (⟨#[]⟩ : ByteArray), .int .i64 0, .int .i64 0]) ?_ 0 _ rfl; (with_reducible repeat (first | refine blk_drewN ?_ _ | refine blk_drew ?_ | refine blk_alloc ?_ _)); exact BK273.out) hg (Kd.R_away HO_15.out (fun _ hk => hk.2))); have n4_ := Aside0.mk (hb); have n5_ := Aside0.mk (ho); clear HO_11; clear BK259; clear BK266; clear BK273; clear HB; clear HO_15; have HO_11 := n0_; have BK259 := n1_; have BK266 := n2_; have BK273 := n3_; have HB := n4_; have HO276 := n5_; clear n0_ n1_ n2_ n3_ n4_ n5_; clear ho hb hg hat))
                 go_roundg k4
                 case measure => have := HJ5.out; have := HK2.out; have := HJ16.out; have := HK4.out; omega
                 case rel => exact ⟨(y274), (wrap64 (x16_4 + 1)), (by first | rfl | (simp; done) | (simp [*]; done)), (by first | exact H' | (subst_vars; exact H')), ⟨by have := HJ5.out; have := HK2.out; have := HJ16.out; have := HK4.out; omega⟩, ⟨by (with_reducible repeat (first | apply Kd.R_alloc | apply Kd.R_drewN | apply Kd.R_drew)); exact Kd.R_mono HO_11.out (fun _ hk => hk.2)⟩, ⟨by (with_reducible repeat (first | apply Kd.R_alloc | apply Kd.R_drewN | apply Kd.R_drew)); exact Kd.R_mono HO276.out (fun _ hk => hk.1)⟩, ⟨by (with_reducible repeat (first | refine blk_drewN ?_ _ | refine blk_drew ?_ | refine blk_alloc ?_ _)); exact BK259.out⟩, ⟨by (with_reducible repeat (first | refine blk_drewN ?_ _ | refine blk_drew ?_ | refine blk_alloc ?_ _)); exact BK266.out⟩, ⟨by repeat (first | (with_reducible first | exact HB.out | apply below_alloc | apply pw_below_drewN | apply below_drew1 | refine below_set ?_ GE259.out | refine below_set ?_ GE266.out | refine below_set ?_ GE273.out) | exact HB.out)⟩⟩
                ·rw [if_neg c34] at H
                 exact absurd H (by simp)
               ·rw [if_neg c33] at H
                exact absurd H (by simp)
              ·rw [if_neg c32] at H
               have c32b0 : decide (x16_4 < (t260.length : Int)) = false := decide_eq_false c32
               clear c32
               by_cases c41 : a0.size + 1 ≤ 9223372036854775807
               ·rw [if_pos c41] at H
                have c41b0 := eq_true c41
                have c41b1 : decide (a0.size + 1 ≤ 9223372036854775807) = true := decide_eq_true c41
                try have c41b2 : (9223372036854775807 < a0.size + 1) = False := eq_false (Nat.not_lt.2 c41)
                by_cases c42 : (a0 ++ (⟨#[10]⟩ : ByteArray)).size + a1.size ≤ 9223372036854775807
                ·rw [if_pos c42] at H
                 have c42b0 := eq_true c42
                 have c42b7 := c42
                 try simp only [ByteArray.size_append] at c42b7
                 have c42b8 := decide_eq_true c42b7
                 try have c42b9 := Nat.not_lt.2 c42b7
                 replace c42b7 := eq_true c42b7
                 have c42b1 : decide ((a0 ++ (⟨#[10]⟩ : ByteArray)).size + a1.size ≤ 9223372036854775807) = true := decide_eq_true c42
                 try have c42b2 : (9223372036854775807 < (a0 ++ (⟨#[10]⟩ : ByteArray)).size + a1.size) = False := eq_false (Nat.not_lt.2 c42)
                 replace H := Option.bind_eq_some_iff.mp H
                 obtain ⟨⟨t277, t280, t281, t282⟩, A430, H⟩ := H
                 replace H : (if (a0 ++ (⟨#[35]⟩ : ByteArray)).size + a2.size ≤ 9223372036854775807 then (if ((a0 ++ (⟨#[35]⟩ : ByteArray)) ++ a2).size + 1 ≤ 9223372036854775807 then (if (((a0 ++ (⟨#[35]⟩ : ByteArray)) ++ a2) ++ (⟨#[10]⟩ : ByteArray)).size + a1.size ≤ 9223372036854775807 then ((lex_All.f k4 ((((a0 ++ (⟨#[35]⟩ : ByteArray)) ++ a2) ++ (⟨#[10]⟩ : ByteArray)) ++ a1)).bind fun bt284 => (if t280 = 0 then ((bloomeryref09_Same.f k4 t277 x15_4).bind fun t291 => (if t291 = true then (if bt284.2.1 = 0 then ((bloomeryref09_Same.f k4 bt284.1 x15_4).bind fun t292 => (some t292)) else (some false)) else (some false))) else (some false))) else (none)) else (none)) else (none)) = some r := H
                 have A43 := Aside0.mk A430
                 clear A430
                 by_cases c44 : (a0 ++ (⟨#[35]⟩ : ByteArray)).size + a2.size ≤ 9223372036854775807
                 ·rw [if_pos c44] at H
                  have c44b0 := eq_true c44
                  have c44b7 := c44
                  try simp only [ByteArray.size_append] at c44b7
                  have c44b8 := decide_eq_true c44b7
                  try have c44b9 := Nat.not_lt.2 c44b7
                  replace c44b7 := eq_true c44b7
                  have c44b1 : decide ((a0 ++ (⟨#[35]⟩ : ByteArray)).size + a2.size ≤ 9223372036854775807) = true := decide_eq_true c44
                  try have c44b2 : (9223372036854775807 < (a0 ++ (⟨#[35]⟩ : ByteArray)).size + a2.size) = False := eq_false (Nat.not_lt.2 c44)
                  by_cases c45 : ((a0 ++ (⟨#[35]⟩ : ByteArray)) ++ a2).size + 1 ≤ 9223372036854775807
                  ·rw [if_pos c45] at H
                   have c45b0 := eq_true c45
                   have c45b7 := c45
                   try simp only [ByteArray.size_append] at c45b7
                   have c45b8 := decide_eq_true c45b7
                   try have c45b9 := Nat.not_lt.2 c45b7
                   replace c45b7 := eq_true c45b7
                   have c45b1 : decide (((a0 ++ (⟨#[35]⟩ : ByteArray)) ++ a2).size + 1 ≤ 9223372036854775807) = true := decide_eq_true c45
                   try have c45b2 : (9223372036854775807 < ((a0 ++ (⟨#[35]⟩ : ByteArray)) ++ a2).size + 1) = False := eq_false (Nat.not_lt.2 c45)
                   by_cases c46 : (((a0 ++ (⟨#[35]⟩ : ByteArray)) ++ a2) ++ (⟨#[10]⟩ : ByteArray)).size + a1.size ≤ 9223372036854775807
                   ·rw [if_pos c46] at H
                    have c46b0 := eq_true c46
                    have c46b7 := c46
                    try simp only [ByteArray.size_append] at c46b7
                    have c46b8 := decide_eq_true c46b7
                    try have c46b9 := Nat.not_lt.2 c46b7
                    replace c46b7 := eq_true c46b7
                    have c46b1 : decide ((((a0 ++ (⟨#[35]⟩ : ByteArray)) ++ a2) ++ (⟨#[10]⟩ : ByteArray)).size + a1.size ≤ 9223372036854775807) = true := decide_eq_true c46
                    try have c46b2 : (9223372036854775807 < (((a0 ++ (⟨#[35]⟩ : ByteArray)) ++ a2) ++ (⟨#[10]⟩ : ByteArray)).size + a1.size) = False := eq_false (Nat.not_lt.2 c46)
                    replace H := Option.bind_eq_some_iff.mp H
                    obtain ⟨⟨t284, t287, t288, t289⟩, A470, H⟩ := H
                    replace H : (if t280 = 0 then ((bloomeryref09_Same.f k4 t277 x15_4).bind fun t291 => (if t291 = true then (if t287 = 0 then ((bloomeryref09_Same.f k4 t284 x15_4).bind fun t292 => (some t292)) else (some false)) else (some false))) else (some false)) = some r := H
                    have A47 := Aside0.mk A470
                    clear A470
                    by_cases c48 : t280 = 0
                    ·rw [if_pos c48] at H
                     have c48b0 : (t280 == 0) = true := beq_iff_eq.mpr c48
                     have c48b1 : (t280 != 0) = false := bne_eq_false_iff_eq.mpr c48
                     clear c48
                     replace H := Option.bind_eq_some_iff.mp H
                     obtain ⟨t291, A490, H⟩ := H
                     replace H : (if t291 = true then (if t287 = 0 then ((bloomeryref09_Same.f k4 t284 x15_4).bind fun t292 => (some t292)) else (some false)) else (some false)) = some r := H
                     have A49 := Aside0.mk A490
                     clear A490
                     by_cases c50 : t291 = true
                     ·subst c50
                      have H1 : (if t287 = 0 then ((bloomeryref09_Same.f k4 t284 x15_4).bind fun t292 => (some t292)) else (some false)) = some r := by rw [if_pos rfl] at H; exact H
                      clear H
                      have H := H1
                      clear H1
                      by_cases c51 : t287 = 0
                      ·rw [if_pos c51] at H
                       have c51b0 : (t287 == 0) = true := beq_iff_eq.mpr c51
                       have c51b1 : (t287 != 0) = false := bne_eq_false_iff_eq.mpr c51
                       clear c51
                       replace H := Option.bind_eq_some_iff.mp H
                       obtain ⟨t292, A520, H⟩ := H
                       replace H : (some t292) = some r := H
                       have A52 := Aside0.mk A520
                       clear A520
                       obtain rfl := Option.some.inj H
                       obtain ⟨Ao53, co53, eo53⟩ := Kd.R_slice HO_11.out
                       subst eo53
                       go_wp2_with (first | ((with_reducible refine gate_callee (f := 9) rfl ?_); refine goesL_ (some 101) rfl rfl Tryz.func9 (by kernel_rfl) rfl #[.string ((a0 ++ (⟨#[10]⟩ : ByteArray)) ++ a1)] rfl (by (try simp only [List.map_toArray, List.map_cons, List.map_nil]); first | done | rfl | (simp only [List.length_drop, List.length_take]; rfl)) ?_; (with_reducible refine (lex_All.calls k4 ((a0 ++ (⟨#[10]⟩ : ByteArray)) ++ a1) t277 t280 t281 t282 _ ?side1 A43.out).mono ?_); (case side1 => exact Gl.below HGL.out (by repeat (first | (with_reducible first | exact HB.out | apply below_alloc | apply pw_below_drewN | apply below_drew1 | refine below_set ?_ GE259.out | refine below_set ?_ GE266.out) | exact HB.out))); rintro e w54 ⟨v278, rfl, ho0, hb⟩; refine ⟨_, rfl, ?_⟩; have n0_ := Aside0.mk (Kd.R_elder' (by (with_reducible repeat (first | apply Kd.R_alloc | apply Kd.R_drewN | apply Kd.R_drew)); exact HO_11.out) (Kd.R_base ho0) hb); have n1_ := Aside0.mk (Kd.R_elder' (by (with_reducible repeat (first | apply Kd.R_alloc | apply Kd.R_drewN | apply Kd.R_drew)); exact HO_15.out) (Kd.R_base ho0) hb); have n2_ := Aside0.mk (Kd.R_lower (Kd.R_new' (Kd.R_new' ho0 (Kd.R_lt (by (with_reducible repeat (first | apply Kd.R_alloc | apply Kd.R_drewN | apply Kd.R_drew)); exact HO_11.out))) (Kd.R_lt (by (with_reducible repeat (first | apply Kd.R_alloc | apply Kd.R_drewN | apply Kd.R_drew)); exact HO_15.out))) (below_size (by repeat (first | (with_reducible first | exact HB.out | apply below_alloc | apply pw_below_drewN | apply below_drew1 | refine below_set ?_ GE259.out | refine below_set ?_ GE266.out) | exact HB.out)))); have n3_ := Aside0.mk (blk_below (g := gb259) (o := .cells #[.int .i64 t257, .int .i64 t258] 26 (0, 0)) (by (with_reducible repeat (first | refine blk_drewN ?_ _ | refine blk_drew ?_ | refine blk_alloc ?_ _)); exact BK259.out) hb); have n4_ := Aside0.mk (blk_below (g := gb266) (o := .cells #[.int .i64 t264, .int .i64 t265] 26 (0, 0)) (by (with_reducible repeat (first | refine blk_drewN ?_ _ | refine blk_drew ?_ | refine blk_alloc ?_ _)); exact BK266.out) hb); have n5_ := Aside0.mk (below_step (by repeat (first | (with_reducible first | exact HB.out | apply below_alloc | apply pw_below_drewN | apply below_drew1 | refine below_set ?_ GE259.out | refine below_set ?_ GE266.out) | exact HB.out)) hb); clear HO_11; clear HO_15; clear BK259; clear BK266; clear HB; have HO_11 := n0_; have HO_15 := n1_; have HO279 := n2_; have BK259 := n3_; have BK266 := n4_; have HB := n5_; clear n0_ n1_ n2_ n3_ n4_ n5_; (try clear hb); (try clear hb2); (try clear hk); (try clear hi); (try clear ho0)) | ((with_reducible refine gate_dst (N := 20) rfl ?_); (try (refine gate_guard (by rfl) ?_; dsimp only)); refine box_event ?hg (N := 20) ?hd (cs := #[.int .i64 0, .int .i64 0]) (t := 26) ?hr ?_; (case hd => rfl); (case hg => rfl); (case hr => first | (go_simp; done) | (go_simp; rfl)); intro gb283 hg w55 hbox hb; have n0_ := Aside0.mk (Kd.R_below (by (with_reducible repeat (first | apply Kd.R_alloc | apply Kd.R_drewN | apply Kd.R_drew)); exact HO_11.out) hb); have n1_ := Aside0.mk (Kd.R_below (by (with_reducible repeat (first | apply Kd.R_alloc | apply Kd.R_drewN | apply Kd.R_drew)); exact HO_15.out) hb); have n2_ := Aside0.mk (Kd.R_below (by (with_reducible repeat (first | apply Kd.R_alloc | apply Kd.R_drewN | apply Kd.R_drew)); exact HO279.out) hb); have n3_ := Aside0.mk (blk_below (g := gb259) (o := .cells #[.int .i64 t257, .int .i64 t258] 26 (0, 0)) (by (with_reducible repeat (first | refine blk_drewN ?_ _ | refine blk_drew ?_ | refine blk_alloc ?_ _)); exact BK259.out) hb); have n4_ := Aside0.mk (blk_below (g := gb266) (o := .cells #[.int .i64 t264, .int .i64 t265] 26 (0, 0)) (by (with_reducible repeat (first | refine blk_drewN ?_ _ | refine blk_drew ?_ | refine blk_alloc ?_ _)); exact BK266.out) hb); have n5_ := Aside0.mk (below_step (by repeat (first | (with_reducible first | exact HB.out | apply below_alloc | apply pw_below_drewN | apply below_drew1 | refine below_set ?_ GE259.out | refine below_set ?_ GE266.out) | exact HB.out)) hb); have n6_ := Aside0.mk (hbox); have n7_ := Aside0.mk ((by rw [hg]; exact (below_size (by repeat (first | (with_reducible first | exact HB.out | apply below_alloc | apply pw_below_drewN | apply below_drew1 | refine below_set ?_ GE259.out | refine below_set ?_ GE266.out) | exact HB.out))) : w.heap.size ≤ gb283)); have n8_ := Aside0.mk ((by rw [hg]; exact (below_size (by repeat (first | (with_reducible first | exact HB.out | apply below_alloc | apply pw_below_drewN | apply below_drew1 | refine below_set ?_ GE259.out | refine below_set ?_ GE266.out) | exact HB.out))) : w.heap.size ≤ gb283)); have n9_ := Aside0.mk ((by rw [hg]; exact Nat.ne_of_lt (blk_lt (g := gb259) (o := .cells #[.int .i64 t257, .int .i64 t258] 26 (0, 0)) (by (with_reducible repeat (first | refine blk_drewN ?_ _ | refine blk_drew ?_ | refine blk_alloc ?_ _)); exact BK259.out)) : gb259 ≠ gb283)); have n10_ := Aside0.mk ((by rw [hg]; exact Nat.ne_of_gt (blk_lt (g := gb259) (o := .cells #[.int .i64 t257, .int .i64 t258] 26 (0, 0)) (by (with_reducible repeat (first | refine blk_drewN ?_ _ | refine blk_drew ?_ | refine blk_alloc ?_ _)); exact BK259.out)) : gb283 ≠ gb259)); have n11_ := Aside0.mk ((by rw [hg]; exact Nat.ne_of_lt (blk_lt (g := gb266) (o := .cells #[.int .i64 t264, .int .i64 t265] 26 (0, 0)) (by (with_reducible repeat (first | refine blk_drewN ?_ _ | refine blk_drew ?_ | refine blk_alloc ?_ _)); exact BK266.out)) : gb266 ≠ gb283)); have n12_ := Aside0.mk ((by rw [hg]; exact Nat.ne_of_gt (blk_lt (g := gb266) (o := .cells #[.int .i64 t264, .int .i64 t265] 26 (0, 0)) (by (with_reducible repeat (first | refine blk_drewN ?_ _ | refine blk_drew ?_ | refine blk_alloc ?_ _)); exact BK266.out)) : gb283 ≠ gb266)); clear HO_11; clear HO_15; clear HO279; clear BK259; clear BK266; clear HB; have HO_11 := n0_; have HO_15 := n1_; have HO279 := n2_; have BK259 := n3_; have BK266 := n4_; have HB := n5_; have BK283 := n6_; have GW283 := n7_; have GE283 := n8_; have NB259_283 := n9_; have NB283_259 := n10_; have NB266_283 := n11_; have NB283_266 := n12_; clear n0_ n1_ n2_ n3_ n4_ n5_ n6_ n7_ n8_ n9_ n10_ n11_ n12_; clear hb hbox hg; have hnb56 := NB283_259.out; have hnc56 := NB259_283.out; have hnb57 := NB283_266.out; have hnc57 := NB266_283.out; have hcz58_0 : w55.cell? ⟨gb283, 0, none⟩ = some (.int .i64 0) := (blk_cell BK283.out 0).trans rfl; have hcz58_1 : w55.cell? ⟨gb283, 1, none⟩ = some (.int .i64 0) := (blk_cell BK283.out 1).trans rfl; have hfz58_0 := blk_frozen BK283.out 0; have hfz58_1 := blk_frozen BK283.out 1) | ((with_reducible refine gate_callee (f := 9) rfl ?_); refine goesL_ (some 113) rfl rfl Tryz.func9 (by kernel_rfl) rfl #[.string ((((a0 ++ (⟨#[35]⟩ : ByteArray)) ++ a2) ++ (⟨#[10]⟩ : ByteArray)) ++ a1)] rfl (by (try simp only [List.map_toArray, List.map_cons, List.map_nil]); first | done | rfl | (simp only [List.length_drop, List.length_take]; rfl)) ?_; (with_reducible refine (lex_All.calls k4 ((((a0 ++ (⟨#[35]⟩ : ByteArray)) ++ a2) ++ (⟨#[10]⟩ : ByteArray)) ++ a1) t284 t287 t288 t289 _ ?side1 A47.out).mono ?_); (case side1 => exact Gl.below HGL.out (by repeat (first | (with_reducible first | exact HB.out | apply below_alloc | apply pw_below_drewN | apply below_drew1 | refine below_set ?_ GE259.out | refine below_set ?_ GE266.out | refine below_set ?_ GE283.out) | exact HB.out))); rintro e w59 ⟨v285, rfl, ho0, hb⟩; refine ⟨_, rfl, ?_⟩; have n0_ := Aside0.mk (Kd.R_elder' (by (with_reducible repeat (first | apply Kd.R_alloc | apply Kd.R_drewN | apply Kd.R_drew)); exact (Kd.R_mono (Kd.R_far (p := ⟨gb283, 1, none⟩) (Kd.R_far (p := ⟨gb283, 0, none⟩) (Kd.R_types HO_11.out BK283.out (by decide)) (fun _ hk => hk.2) (.int .i64 t281)) (fun _ hk => hk.2) (.int .i64 t282)) (fun _ h_ => h_.1))) (Kd.R_base ho0) hb); have n1_ := Aside0.mk (Kd.R_elder' (by (with_reducible repeat (first | apply Kd.R_alloc | apply Kd.R_drewN | apply Kd.R_drew)); exact (Kd.R_mono (Kd.R_far (p := ⟨gb283, 1, none⟩) (Kd.R_far (p := ⟨gb283, 0, none⟩) (Kd.R_types HO_15.out BK283.out (by decide)) (fun _ hk => hk.2) (.int .i64 t281)) (fun _ hk => hk.2) (.int .i64 t282)) (fun _ h_ => h_.1))) (Kd.R_base ho0) hb); have n2_ := Aside0.mk (Kd.R_elder' (by (with_reducible repeat (first | apply Kd.R_alloc | apply Kd.R_drewN | apply Kd.R_drew)); exact (Kd.R_mono (Kd.R_far (p := ⟨gb283, 1, none⟩) (Kd.R_far (p := ⟨gb283, 0, none⟩) (Kd.R_types HO279.out BK283.out (by decide)) (fun _ hk => hk.2) (.int .i64 t281)) (fun _ hk => hk.2) (.int .i64 t282)) (fun _ h_ => h_.1))) (Kd.R_base ho0) hb); have n3_ := Aside0.mk (Kd.R_lower (Kd.R_new' (Kd.R_new' (Kd.R_new' ho0 (Kd.R_lt (by (with_reducible repeat (first | apply Kd.R_alloc | apply Kd.R_drewN | apply Kd.R_drew)); exact (Kd.R_mono (Kd.R_far (p := ⟨gb283, 1, none⟩) (Kd.R_far (p := ⟨gb283, 0, none⟩) (Kd.R_types HO_11.out BK283.out (by decide)) (fun _ hk => hk.2) (.int .i64 t281)) (fun _ hk => hk.2) (.int .i64 t282)) (fun _ h_ => h_.1))))) (Kd.R_lt (by (with_reducible repeat (first | apply Kd.R_alloc | apply Kd.R_drewN | apply Kd.R_drew)); exact (Kd.R_mono (Kd.R_far (p := ⟨gb283, 1, none⟩) (Kd.R_far (p := ⟨gb283, 0, none⟩) (Kd.R_types HO_15.out BK283.out (by decide)) (fun _ hk => hk.2) (.int .i64 t281)) (fun _ hk => hk.2) (.int .i64 t282)) (fun _ h_ => h_.1))))) (Kd.R_lt (by (with_reducible repeat (first | apply Kd.R_alloc | apply Kd.R_drewN | apply Kd.R_drew)); exact (Kd.R_mono (Kd.R_far (p := ⟨gb283, 1, none⟩) (Kd.R_far (p := ⟨gb283, 0, none⟩) (Kd.R_types HO279.out BK283.out (by decide)) (fun _ hk => hk.2) (.int .i64 t281)) (fun _ hk => hk.2) (.int .i64 t282)) (fun _ h_ => h_.1))))) (below_size (by repeat (first | (with_reducible first | exact HB.out | apply below_alloc | apply pw_below_drewN | apply below_drew1 | refine below_set ?_ GE259.out | refine below_set ?_ GE266.out | refine below_set ?_ GE283.out) | exact HB.out)))); have n4_ := Aside0.mk (blk_below (g := gb259) (o := .cells #[.int .i64 t257, .int .i64 t258] 26 (0, 0)) (by (with_reducible repeat (first | refine blk_drewN ?_ _ | refine blk_drew ?_ | refine blk_alloc ?_ _)); refine blk_far ?_ NB259_283.out _; (with_reducible repeat (first | refine blk_drewN ?_ _ | refine blk_drew ?_ | refine blk_alloc ?_ _)); refine blk_far ?_ NB259_283.out _; (with_reducible repeat (first | refine blk_drewN ?_ _ | refine blk_drew ?_ | refine blk_alloc ?_ _)); exact BK259.out) hb); have n5_ := Aside0.mk (blk_below (g := gb266) (o := .cells #[.int .i64 t264, .int .i64 t265] 26 (0, 0)) (by (with_reducible repeat (first | refine blk_drewN ?_ _ | refine blk_drew ?_ | refine blk_alloc ?_ _)); refine blk_far ?_ NB266_283.out _; (with_reducible repeat (first | refine blk_drewN ?_ _ | refine blk_drew ?_ | refine blk_alloc ?_ _)); refine blk_far ?_ NB266_283.out _; (with_reducible repeat (first | refine blk_drewN ?_ _ | refine blk_drew ?_ | refine blk_alloc ?_ _)); exact BK266.out) hb); have n6_ := Aside0.mk (blk_below (g := gb283) (o := .cells #[.int .i64 t281, .int .i64 t282] 26 (0, 0)) (by (with_reducible repeat (first | refine blk_drewN ?_ _ | refine blk_drew ?_ | refine blk_alloc ?_ _)); refine blk_put (cs := #[.int .i64 t281, .int .i64 0]) ?_ 1 _ rfl; (with_reducible repeat (first | refine blk_drewN ?_ _ | refine blk_drew ?_ | refine blk_alloc ?_ _)); refine blk_put (cs := #[.int .i64 0, .int .i64 0]) ?_ 0 _ rfl; (with_reducible repeat (first | refine blk_drewN ?_ _ | refine blk_drew ?_ | refine blk_alloc ?_ _)); exact BK283.out) hb); have n7_ := Aside0.mk (below_step (by repeat (first | (with_reducible first | exact HB.out | apply below_alloc | apply pw_below_drewN | apply below_drew1 | refine below_set ?_ GE259.out | refine below_set ?_ GE266.out | refine below_set ?_ GE283.out) | exact HB.out)) hb); clear HO_11; clear HO_15; clear HO279; clear BK259; clear BK266; clear BK283; clear HB; have HO_11 := n0_; have HO_15 := n1_; have HO279 := n2_; have HO286 := n3_; have BK259 := n4_; have BK266 := n5_; have BK283 := n6_; have HB := n7_; clear n0_ n1_ n2_ n3_ n4_ n5_ n6_ n7_; (try clear hb); (try clear hb2); (try clear hk); (try clear hi); (try clear ho0)) | ((with_reducible refine gate_dst (N := 23) rfl ?_); (try (refine gate_guard (by rfl) ?_; dsimp only)); refine box_event ?hg (N := 23) ?hd (cs := #[.int .i64 0, .int .i64 0]) (t := 26) ?hr ?_; (case hd => rfl); (case hg => rfl); (case hr => first | (go_simp; done) | (go_simp; rfl)); intro gb290 hg w60 hbox hb; have n0_ := Aside0.mk (Kd.R_below (by (with_reducible repeat (first | apply Kd.R_alloc | apply Kd.R_drewN | apply Kd.R_drew)); exact HO_11.out) hb); have n1_ := Aside0.mk (Kd.R_below (by (with_reducible repeat (first | apply Kd.R_alloc | apply Kd.R_drewN | apply Kd.R_drew)); exact HO_15.out) hb); have n2_ := Aside0.mk (Kd.R_below (by (with_reducible repeat (first | apply Kd.R_alloc | apply Kd.R_drewN | apply Kd.R_drew)); exact HO279.out) hb); have n3_ := Aside0.mk (Kd.R_below (by (with_reducible repeat (first | apply Kd.R_alloc | apply Kd.R_drewN | apply Kd.R_drew)); exact HO286.out) hb); have n4_ := Aside0.mk (blk_below (g := gb259) (o := .cells #[.int .i64 t257, .int .i64 t258] 26 (0, 0)) (by (with_reducible repeat (first | refine blk_drewN ?_ _ | refine blk_drew ?_ | refine blk_alloc ?_ _)); exact BK259.out) hb); have n5_ := Aside0.mk (blk_below (g := gb266) (o := .cells #[.int .i64 t264, .int .i64 t265] 26 (0, 0)) (by (with_reducible repeat (first | refine blk_drewN ?_ _ | refine blk_drew ?_ | refine blk_alloc ?_ _)); exact BK266.out) hb); have n6_ := Aside0.mk (blk_below (g := gb283) (o := .cells #[.int .i64 t281, .int .i64 t282] 26 (0, 0)) (by (with_reducible repeat (first | refine blk_drewN ?_ _ | refine blk_drew ?_ | refine blk_alloc ?_ _)); exact BK283.out) hb); have n7_ := Aside0.mk (below_step (by repeat (first | (with_reducible first | exact HB.out | apply below_alloc | apply pw_below_drewN | apply below_drew1 | refine below_set ?_ GE259.out | refine below_set ?_ GE266.out | refine below_set ?_ GE283.out) | exact HB.out)) hb); have n8_ := Aside0.mk (hbox); have n9_ := Aside0.mk ((by rw [hg]; exact (below_size (by repeat (first | (with_reducible first | exact HB.out | apply below_alloc | apply pw_below_drewN | apply below_drew1 | refine below_set ?_ GE259.out | refine below_set ?_ GE266.out | refine below_set ?_ GE283.out) | exact HB.out))) : w.heap.size ≤ gb290)); have n10_ := Aside0.mk ((by rw [hg]; exact (below_size (by repeat (first | (with_reducible first | exact HB.out | apply below_alloc | apply pw_below_drewN | apply below_drew1 | refine below_set ?_ GE259.out | refine below_set ?_ GE266.out | refine below_set ?_ GE283.out) | exact HB.out))) : w.heap.size ≤ gb290)); have n11_ := Aside0.mk ((by rw [hg]; exact Nat.ne_of_lt (blk_lt (g := gb259) (o := .cells #[.int .i64 t257, .int .i64 t258] 26 (0, 0)) (by (with_reducible repeat (first | refine blk_drewN ?_ _ | refine blk_drew ?_ | refine blk_alloc ?_ _)); exact BK259.out)) : gb259 ≠ gb290)); have n12_ := Aside0.mk ((by rw [hg]; exact Nat.ne_of_gt (blk_lt (g := gb259) (o := .cells #[.int .i64 t257, .int .i64 t258] 26 (0, 0)) (by (with_reducible repeat (first | refine blk_drewN ?_ _ | refine blk_drew ?_ | refine blk_alloc ?_ _)); exact BK259.out)) : gb290 ≠ gb259)); have n13_ := Aside0.mk ((by rw [hg]; exact Nat.ne_of_lt (blk_lt (g := gb266) (o := .cells #[.int .i64 t264, .int .i64 t265] 26 (0, 0)) (by (with_reducible repeat (first | refine blk_drewN ?_ _ | refine blk_drew ?_ | refine blk_alloc ?_ _)); exact BK266.out)) : gb266 ≠ gb290)); have n14_ := Aside0.mk ((by rw [hg]; exact Nat.ne_of_gt (blk_lt (g := gb266) (o := .cells #[.int .i64 t264, .int .i64 t265] 26 (0, 0)) (by (with_reducible repeat (first | refine blk_drewN ?_ _ | refine blk_drew ?_ | refine blk_alloc ?_ _)); exact BK266.out)) : gb290 ≠ gb266)); have n15_ := Aside0.mk ((by rw [hg]; exact Nat.ne_of_lt (blk_lt (g := gb283) (o := .cells #[.int .i64 t281, .int .i64 t282] 26 (0, 0)) (by (with_reducible repeat (first | refine blk_drewN ?_ _ | refine blk_drew ?_ | refine blk_alloc ?_ _)); exact BK283.out)) : gb283 ≠ gb290)); have n16_ := Aside0.mk ((by rw [hg]; exact Nat.ne_of_gt (blk_lt (g := gb283) (o := .cells #[.int .i64 t281, .int .i64 t282] 26 (0, 0)) (by (with_reducible repeat (first | refine blk_drewN ?_ _ | refine blk_drew ?_ | refine blk_alloc ?_ _)); exact BK283.out)) : gb290 ≠ gb283)); clear HO_11; clear HO_15; clear HO279; clear HO286; clear BK259; clear BK266; clear BK283; clear HB; have HO_11 := n0_; have HO_15 := n1_; have HO279 := n2_; have HO286 := n3_; have BK259 := n4_; have BK266 := n5_; have BK283 := n6_; have HB := n7_; have BK290 := n8_; have GW290 := n9_; have GE290 := n10_; have NB259_290 := n11_; have NB290_259 := n12_; have NB266_290 := n13_; have NB290_266 := n14_; have NB283_290 := n15_; have NB290_283 := n16_; clear n0_ n1_ n2_ n3_ n4_ n5_ n6_ n7_ n8_ n9_ n10_ n11_ n12_ n13_ n14_ n15_ n16_; clear hb hbox hg; have hnb61 := NB290_259.out; have hnc61 := NB259_290.out; have hnb62 := NB290_266.out; have hnc62 := NB266_290.out; have hnb63 := NB290_283.out; have hnc63 := NB283_290.out; have hcz64_0 : w60.cell? ⟨gb290, 0, none⟩ = some (.int .i64 0) := (blk_cell BK290.out 0).trans rfl; have hcz64_1 : w60.cell? ⟨gb290, 1, none⟩ = some (.int .i64 0) := (blk_cell BK290.out 1).trans rfl; have hfz64_0 := blk_frozen BK290.out 0; have hfz64_1 := blk_frozen BK290.out 1; obtain ⟨Ao65, co65, eo65⟩ := Kd.R_slice HO279.out; subst eo65; obtain ⟨Ao66, co66, eo66⟩ := Kd.R_slice HO_15.out; subst eo66) | (go_at_call 11; (with_reducible refine (bloomeryref09_Same.calls k4 _ _ t277 _ _ x15_4 true _ ?side1 ?side2 ?side3 ?side4 A49.out).mono ?_); (case side1 => refine (Kd.R_reads' (e := 33) (base := w.heap.size) (ok := fun k_ => (((True ∧ some k_ ≠ (.slice Ao53 t260.length co53 : Value).ownBlock) ∧ some k_ ≠ (.slice Ao66 x15_4.length co66 : Value).ownBlock) ∧ some k_ ≠ (v285 : Value).ownBlock)) (n := t277.length) (c := co65) ?_).2.2; exact (by (with_reducible repeat (first | apply Kd.R_alloc | apply Kd.R_drewN | apply Kd.R_drew)); exact (Kd.R_mono (Kd.R_far (p := ⟨gb290, 1, none⟩) (Kd.R_far (p := ⟨gb290, 0, none⟩) (Kd.R_types HO279.out BK290.out (by decide)) (fun _ hk => hk.2) (.int .i64 t288)) (fun _ hk => hk.2) (.int .i64 t289)) (fun _ h_ => h_.1)))); (case side2 => exact (Kd.R_reads' HO279.out).2.1); (case side3 => refine (Kd.R_reads' (e := 33) (base := w.heap.size) (ok := fun k_ => ((some k_ ≠ (.slice Ao53 t260.length co53 : Value).ownBlock ∧ some k_ ≠ (.slice Ao65 t277.length co65 : Value).ownBlock) ∧ some k_ ≠ (v285 : Value).ownBlock)) (n := x15_4.length) (c := co66) ?_).2.2; exact (by (with_reducible repeat (first | apply Kd.R_alloc | apply Kd.R_drewN | apply Kd.R_drew)); exact (Kd.R_mono (Kd.R_far (p := ⟨gb290, 1, none⟩) (Kd.R_far (p := ⟨gb290, 0, none⟩) (Kd.R_types HO_15.out BK290.out (by decide)) (fun _ hk => hk.2) (.int .i64 t288)) (fun _ hk => hk.2) (.int .i64 t289)) (fun _ h_ => h_.1)))); (case side4 => exact (Kd.R_reads' HO_15.out).2.1); rintro e w' ⟨rfl, ⟨nd, rfl⟩⟩; obtain ⟨Ao67, co67, eo67⟩ := Kd.R_slice HO286.out; subst eo67) | (go_at_call 11; (with_reducible refine (bloomeryref09_Same.calls k4 _ _ t284 _ _ x15_4 t292 _ ?side1 ?side2 ?side3 ?side4 A52.out).mono ?_); (case side1 => refine (Kd.R_reads' (e := 33) (base := w.heap.size) (ok := fun k_ => (((True ∧ some k_ ≠ (.slice Ao53 t260.length co53 : Value).ownBlock) ∧ some k_ ≠ (.slice Ao66 x15_4.length co66 : Value).ownBlock) ∧ some k_ ≠ (.slice Ao65 t277.length co65 : Value).ownBlock)) (n := t284.length) (c := co67) ?_).2.2; exact (by (with_reducible repeat (first | apply Kd.R_alloc | apply Kd.R_drewN | apply Kd.R_drew)); exact (Kd.R_mono (Kd.R_far (p := ⟨gb290, 1, none⟩) (Kd.R_far (p := ⟨gb290, 0, none⟩) (Kd.R_types HO286.out BK290.out (by decide)) (fun _ hk => hk.2) (.int .i64 t288)) (fun _ hk => hk.2) (.int .i64 t289)) (fun _ h_ => h_.1)))); (case side2 => exact (Kd.R_reads' HO286.out).2.1); (case side3 => refine (Kd.R_reads' (e := 33) (base := w.heap.size) (ok := fun k_ => ((some k_ ≠ (.slice Ao53 t260.length co53 : Value).ownBlock ∧ some k_ ≠ (.slice Ao65 t277.length co65 : Value).ownBlock) ∧ some k_ ≠ (.slice Ao67 t284.length co67 : Value).ownBlock)) (n := x15_4.length) (c := co66) ?_).2.2; exact (by (with_reducible repeat (first | apply Kd.R_alloc | apply Kd.R_drewN | apply Kd.R_drew)); exact (Kd.R_mono (Kd.R_far (p := ⟨gb290, 1, none⟩) (Kd.R_far (p := ⟨gb290, 0, none⟩) (Kd.R_types HO_15.out BK290.out (by decide)) (fun _ hk => hk.2) (.int .i64 t288)) (fun _ hk => hk.2) (.int .i64 t289)) (fun _ h_ => h_.1)))); (case side4 => exact (Kd.R_reads' HO_15.out).2.1); rintro e w' ⟨rfl, ⟨nd, rfl⟩⟩))
                       go_ret
                       exact ⟨by first | rfl | (simp [errW_none, errW_some] <;> rfl) | (simp [*, errW_none, errW_some] <;> rfl), by repeat (first | (with_reducible first | exact HB.out | apply below_alloc | apply pw_below_drewN | apply below_drew1 | refine below_set ?_ GE259.out | refine below_set ?_ GE266.out | refine below_set ?_ GE283.out | refine below_set ?_ GE290.out) | exact HB.out)⟩
                      ·rw [if_neg c51] at H
                       have c51b0 : (t287 == 0) = false := beq_eq_false_iff_ne.mpr c51
                       have c51b1 : (t287 != 0) = true := bne_iff_ne.mpr c51
                       obtain rfl := Option.some.inj H
                       obtain ⟨Ao68, co68, eo68⟩ := Kd.R_slice HO_11.out
                       subst eo68
                       go_wp2_with (first | ((with_reducible refine gate_callee (f := 9) rfl ?_); refine goesL_ (some 101) rfl rfl Tryz.func9 (by kernel_rfl) rfl #[.string ((a0 ++ (⟨#[10]⟩ : ByteArray)) ++ a1)] rfl (by (try simp only [List.map_toArray, List.map_cons, List.map_nil]); first | done | rfl | (simp only [List.length_drop, List.length_take]; rfl)) ?_; (with_reducible refine (lex_All.calls k4 ((a0 ++ (⟨#[10]⟩ : ByteArray)) ++ a1) t277 t280 t281 t282 _ ?side1 A43.out).mono ?_); (case side1 => exact Gl.below HGL.out (by repeat (first | (with_reducible first | exact HB.out | apply below_alloc | apply pw_below_drewN | apply below_drew1 | refine below_set ?_ GE259.out | refine below_set ?_ GE266.out) | exact HB.out))); rintro e w69 ⟨v278, rfl, ho0, hb⟩; refine ⟨_, rfl, ?_⟩; have n0_ := Aside0.mk (Kd.R_elder' (by (with_reducible repeat (first | apply Kd.R_alloc | apply Kd.R_drewN | apply Kd.R_drew)); exact HO_11.out) (Kd.R_base ho0) hb); have n1_ := Aside0.mk (Kd.R_elder' (by (with_reducible repeat (first | apply Kd.R_alloc | apply Kd.R_drewN | apply Kd.R_drew)); exact HO_15.out) (Kd.R_base ho0) hb); have n2_ := Aside0.mk (Kd.R_lower (Kd.R_new' (Kd.R_new' ho0 (Kd.R_lt (by (with_reducible repeat (first | apply Kd.R_alloc | apply Kd.R_drewN | apply Kd.R_drew)); exact HO_11.out))) (Kd.R_lt (by (with_reducible repeat (first | apply Kd.R_alloc | apply Kd.R_drewN | apply Kd.R_drew)); exact HO_15.out))) (below_size (by repeat (first | (with_reducible first | exact HB.out | apply below_alloc | apply pw_below_drewN | apply below_drew1 | refine below_set ?_ GE259.out | refine below_set ?_ GE266.out) | exact HB.out)))); have n3_ := Aside0.mk (blk_below (g := gb259) (o := .cells #[.int .i64 t257, .int .i64 t258] 26 (0, 0)) (by (with_reducible repeat (first | refine blk_drewN ?_ _ | refine blk_drew ?_ | refine blk_alloc ?_ _)); exact BK259.out) hb); have n4_ := Aside0.mk (blk_below (g := gb266) (o := .cells #[.int .i64 t264, .int .i64 t265] 26 (0, 0)) (by (with_reducible repeat (first | refine blk_drewN ?_ _ | refine blk_drew ?_ | refine blk_alloc ?_ _)); exact BK266.out) hb); have n5_ := Aside0.mk (below_step (by repeat (first | (with_reducible first | exact HB.out | apply below_alloc | apply pw_below_drewN | apply below_drew1 | refine below_set ?_ GE259.out | refine below_set ?_ GE266.out) | exact HB.out)) hb); clear HO_11; clear HO_15; clear BK259; clear BK266; clear HB; have HO_11 := n0_; have HO_15 := n1_; have HO279 := n2_; have BK259 := n3_; have BK266 := n4_; have HB := n5_; clear n0_ n1_ n2_ n3_ n4_ n5_; (try clear hb); (try clear hb2); (try clear hk); (try clear hi); (try clear ho0)) | ((with_reducible refine gate_dst (N := 20) rfl ?_); (try (refine gate_guard (by rfl) ?_; dsimp only)); refine box_event ?hg (N := 20) ?hd (cs := #[.int .i64 0, .int .i64 0]) (t := 26) ?hr ?_; (case hd => rfl); (case hg => rfl); (case hr => first | (go_simp; done) | (go_simp; rfl)); intro gb283 hg w70 hbox hb; have n0_ := Aside0.mk (Kd.R_below (by (with_reducible repeat (first | apply Kd.R_alloc | apply Kd.R_drewN | apply Kd.R_drew)); exact HO_11.out) hb); have n1_ := Aside0.mk (Kd.R_below (by (with_reducible repeat (first | apply Kd.R_alloc | apply Kd.R_drewN | apply Kd.R_drew)); exact HO_15.out) hb); have n2_ := Aside0.mk (Kd.R_below (by (with_reducible repeat (first | apply Kd.R_alloc | apply Kd.R_drewN | apply Kd.R_drew)); exact HO279.out) hb); have n3_ := Aside0.mk (blk_below (g := gb259) (o := .cells #[.int .i64 t257, .int .i64 t258] 26 (0, 0)) (by (with_reducible repeat (first | refine blk_drewN ?_ _ | refine blk_drew ?_ | refine blk_alloc ?_ _)); exact BK259.out) hb); have n4_ := Aside0.mk (blk_below (g := gb266) (o := .cells #[.int .i64 t264, .int .i64 t265] 26 (0, 0)) (by (with_reducible repeat (first | refine blk_drewN ?_ _ | refine blk_drew ?_ | refine blk_alloc ?_ _)); exact BK266.out) hb); have n5_ := Aside0.mk (below_step (by repeat (first | (with_reducible first | exact HB.out | apply below_alloc | apply pw_below_drewN | apply below_drew1 | refine below_set ?_ GE259.out | refine below_set ?_ GE266.out) | exact HB.out)) hb); have n6_ := Aside0.mk (hbox); have n7_ := Aside0.mk ((by rw [hg]; exact (below_size (by repeat (first | (with_reducible first | exact HB.out | apply below_alloc | apply pw_below_drewN | apply below_drew1 | refine below_set ?_ GE259.out | refine below_set ?_ GE266.out) | exact HB.out))) : w.heap.size ≤ gb283)); have n8_ := Aside0.mk ((by rw [hg]; exact (below_size (by repeat (first | (with_reducible first | exact HB.out | apply below_alloc | apply pw_below_drewN | apply below_drew1 | refine below_set ?_ GE259.out | refine below_set ?_ GE266.out) | exact HB.out))) : w.heap.size ≤ gb283)); have n9_ := Aside0.mk ((by rw [hg]; exact Nat.ne_of_lt (blk_lt (g := gb259) (o := .cells #[.int .i64 t257, .int .i64 t258] 26 (0, 0)) (by (with_reducible repeat (first | refine blk_drewN ?_ _ | refine blk_drew ?_ | refine blk_alloc ?_ _)); exact BK259.out)) : gb259 ≠ gb283)); have n10_ := Aside0.mk ((by rw [hg]; exact Nat.ne_of_gt (blk_lt (g := gb259) (o := .cells #[.int .i64 t257, .int .i64 t258] 26 (0, 0)) (by (with_reducible repeat (first | refine blk_drewN ?_ _ | refine blk_drew ?_ | refine blk_alloc ?_ _)); exact BK259.out)) : gb283 ≠ gb259)); have n11_ := Aside0.mk ((by rw [hg]; exact Nat.ne_of_lt (blk_lt (g := gb266) (o := .cells #[.int .i64 t264, .int .i64 t265] 26 (0, 0)) (by (with_reducible repeat (first | refine blk_drewN ?_ _ | refine blk_drew ?_ | refine blk_alloc ?_ _)); exact BK266.out)) : gb266 ≠ gb283)); have n12_ := Aside0.mk ((by rw [hg]; exact Nat.ne_of_gt (blk_lt (g := gb266) (o := .cells #[.int .i64 t264, .int .i64 t265] 26 (0, 0)) (by (with_reducible repeat (first | refine blk_drewN ?_ _ | refine blk_drew ?_ | refine blk_alloc ?_ _)); exact BK266.out)) : gb283 ≠ gb266)); clear HO_11; clear HO_15; clear HO279; clear BK259; clear BK266; clear HB; have HO_11 := n0_; have HO_15 := n1_; have HO279 := n2_; have BK259 := n3_; have BK266 := n4_; have HB := n5_; have BK283 := n6_; have GW283 := n7_; have GE283 := n8_; have NB259_283 := n9_; have NB283_259 := n10_; have NB266_283 := n11_; have NB283_266 := n12_; clear n0_ n1_ n2_ n3_ n4_ n5_ n6_ n7_ n8_ n9_ n10_ n11_ n12_; clear hb hbox hg; have hnb71 := NB283_259.out; have hnc71 := NB259_283.out; have hnb72 := NB283_266.out; have hnc72 := NB266_283.out; have hcz73_0 : w70.cell? ⟨gb283, 0, none⟩ = some (.int .i64 0) := (blk_cell BK283.out 0).trans rfl; have hcz73_1 : w70.cell? ⟨gb283, 1, none⟩ = some (.int .i64 0) := (blk_cell BK283.out 1).trans rfl; have hfz73_0 := blk_frozen BK283.out 0; have hfz73_1 := blk_frozen BK283.out 1) | ((with_reducible refine gate_callee (f := 9) rfl ?_); refine goesL_ (some 113) rfl rfl Tryz.func9 (by kernel_rfl) rfl #[.string ((((a0 ++ (⟨#[35]⟩ : ByteArray)) ++ a2) ++ (⟨#[10]⟩ : ByteArray)) ++ a1)] rfl (by (try simp only [List.map_toArray, List.map_cons, List.map_nil]); first | done | rfl | (simp only [List.length_drop, List.length_take]; rfl)) ?_; (with_reducible refine (lex_All.calls k4 ((((a0 ++ (⟨#[35]⟩ : ByteArray)) ++ a2) ++ (⟨#[10]⟩ : ByteArray)) ++ a1) t284 t287 t288 t289 _ ?side1 A47.out).mono ?_); (case side1 => exact Gl.below HGL.out (by repeat (first | (with_reducible first | exact HB.out | apply below_alloc | apply pw_below_drewN | apply below_drew1 | refine below_set ?_ GE259.out | refine below_set ?_ GE266.out | refine below_set ?_ GE283.out) | exact HB.out))); rintro e w74 ⟨v285, rfl, ho0, hb⟩; refine ⟨_, rfl, ?_⟩; have n0_ := Aside0.mk (Kd.R_elder' (by (with_reducible repeat (first | apply Kd.R_alloc | apply Kd.R_drewN | apply Kd.R_drew)); exact (Kd.R_mono (Kd.R_far (p := ⟨gb283, 1, none⟩) (Kd.R_far (p := ⟨gb283, 0, none⟩) (Kd.R_types HO_11.out BK283.out (by decide)) (fun _ hk => hk.2) (.int .i64 t281)) (fun _ hk => hk.2) (.int .i64 t282)) (fun _ h_ => h_.1))) (Kd.R_base ho0) hb); have n1_ := Aside0.mk (Kd.R_elder' (by (with_reducible repeat (first | apply Kd.R_alloc | apply Kd.R_drewN | apply Kd.R_drew)); exact (Kd.R_mono (Kd.R_far (p := ⟨gb283, 1, none⟩) (Kd.R_far (p := ⟨gb283, 0, none⟩) (Kd.R_types HO_15.out BK283.out (by decide)) (fun _ hk => hk.2) (.int .i64 t281)) (fun _ hk => hk.2) (.int .i64 t282)) (fun _ h_ => h_.1))) (Kd.R_base ho0) hb); have n2_ := Aside0.mk (Kd.R_elder' (by (with_reducible repeat (first | apply Kd.R_alloc | apply Kd.R_drewN | apply Kd.R_drew)); exact (Kd.R_mono (Kd.R_far (p := ⟨gb283, 1, none⟩) (Kd.R_far (p := ⟨gb283, 0, none⟩) (Kd.R_types HO279.out BK283.out (by decide)) (fun _ hk => hk.2) (.int .i64 t281)) (fun _ hk => hk.2) (.int .i64 t282)) (fun _ h_ => h_.1))) (Kd.R_base ho0) hb); have n3_ := Aside0.mk (Kd.R_lower (Kd.R_new' (Kd.R_new' (Kd.R_new' ho0 (Kd.R_lt (by (with_reducible repeat (first | apply Kd.R_alloc | apply Kd.R_drewN | apply Kd.R_drew)); exact (Kd.R_mono (Kd.R_far (p := ⟨gb283, 1, none⟩) (Kd.R_far (p := ⟨gb283, 0, none⟩) (Kd.R_types HO_11.out BK283.out (by decide)) (fun _ hk => hk.2) (.int .i64 t281)) (fun _ hk => hk.2) (.int .i64 t282)) (fun _ h_ => h_.1))))) (Kd.R_lt (by (with_reducible repeat (first | apply Kd.R_alloc | apply Kd.R_drewN | apply Kd.R_drew)); exact (Kd.R_mono (Kd.R_far (p := ⟨gb283, 1, none⟩) (Kd.R_far (p := ⟨gb283, 0, none⟩) (Kd.R_types HO_15.out BK283.out (by decide)) (fun _ hk => hk.2) (.int .i64 t281)) (fun _ hk => hk.2) (.int .i64 t282)) (fun _ h_ => h_.1))))) (Kd.R_lt (by (with_reducible repeat (first | apply Kd.R_alloc | apply Kd.R_drewN | apply Kd.R_drew)); exact (Kd.R_mono (Kd.R_far (p := ⟨gb283, 1, none⟩) (Kd.R_far (p := ⟨gb283, 0, none⟩) (Kd.R_types HO279.out BK283.out (by decide)) (fun _ hk => hk.2) (.int .i64 t281)) (fun _ hk => hk.2) (.int .i64 t282)) (fun _ h_ => h_.1))))) (below_size (by repeat (first | (with_reducible first | exact HB.out | apply below_alloc | apply pw_below_drewN | apply below_drew1 | refine below_set ?_ GE259.out | refine below_set ?_ GE266.out | refine below_set ?_ GE283.out) | exact HB.out)))); have n4_ := Aside0.mk (blk_below (g := gb259) (o := .cells #[.int .i64 t257, .int .i64 t258] 26 (0, 0)) (by (with_reducible repeat (first | refine blk_drewN ?_ _ | refine blk_drew ?_ | refine blk_alloc ?_ _)); refine blk_far ?_ NB259_283.out _; (with_reducible repeat (first | refine blk_drewN ?_ _ | refine blk_drew ?_ | refine blk_alloc ?_ _)); refine blk_far ?_ NB259_283.out _; (with_reducible repeat (first | refine blk_drewN ?_ _ | refine blk_drew ?_ | refine blk_alloc ?_ _)); exact BK259.out) hb); have n5_ := Aside0.mk (blk_below (g := gb266) (o := .cells #[.int .i64 t264, .int .i64 t265] 26 (0, 0)) (by (with_reducible repeat (first | refine blk_drewN ?_ _ | refine blk_drew ?_ | refine blk_alloc ?_ _)); refine blk_far ?_ NB266_283.out _; (with_reducible repeat (first | refine blk_drewN ?_ _ | refine blk_drew ?_ | refine blk_alloc ?_ _)); refine blk_far ?_ NB266_283.out _; (with_reducible repeat (first | refine blk_drewN ?_ _ | refine blk_drew ?_ | refine blk_alloc ?_ _)); exact BK266.out) hb); have n6_ := Aside0.mk (blk_below (g := gb283) (o := .cells #[.int .i64 t281, .int .i64 t282] 26 (0, 0)) (by (with_reducible repeat (first | refine blk_drewN ?_ _ | refine blk_drew ?_ | refine blk_alloc ?_ _)); refine blk_put (cs := #[.int .i64 t281, .int .i64 0]) ?_ 1 _ rfl; (with_reducible repeat (first | refine blk_drewN ?_ _ | refine blk_drew ?_ | refine blk_alloc ?_ _)); refine blk_put (cs := #[.int .i64 0, .int .i64 0]) ?_ 0 _ rfl; (with_reducible repeat (first | refine blk_drewN ?_ _ | refine blk_drew ?_ | refine blk_alloc ?_ _)); exact BK283.out) hb); have n7_ := Aside0.mk (below_step (by repeat (first | (with_reducible first | exact HB.out | apply below_alloc | apply pw_below_drewN | apply below_drew1 | refine below_set ?_ GE259.out | refine below_set ?_ GE266.out | refine below_set ?_ GE283.out) | exact HB.out)) hb); clear HO_11; clear HO_15; clear HO279; clear BK259; clear BK266; clear BK283; clear HB; have HO_11 := n0_; have HO_15 := n1_; have HO279 := n2_; have HO286 := n3_; have BK259 := n4_; have BK266 := n5_; have BK283 := n6_; have HB := n7_; clear n0_ n1_ n2_ n3_ n4_ n5_ n6_ n7_; (try clear hb); (try clear hb2); (try clear hk); (try clear hi); (try clear ho0)) | ((with_reducible refine gate_dst (N := 23) rfl ?_); (try (refine gate_guard (by rfl) ?_; dsimp only)); refine box_event ?hg (N := 23) ?hd (cs := #[.int .i64 0, .int .i64 0]) (t := 26) ?hr ?_; (case hd => rfl); (case hg => rfl); (case hr => first | (go_simp; done) | (go_simp; rfl)); intro gb290 hg w75 hbox hb; have n0_ := Aside0.mk (Kd.R_below (by (with_reducible repeat (first | apply Kd.R_alloc | apply Kd.R_drewN | apply Kd.R_drew)); exact HO_11.out) hb); have n1_ := Aside0.mk (Kd.R_below (by (with_reducible repeat (first | apply Kd.R_alloc | apply Kd.R_drewN | apply Kd.R_drew)); exact HO_15.out) hb); have n2_ := Aside0.mk (Kd.R_below (by (with_reducible repeat (first | apply Kd.R_alloc | apply Kd.R_drewN | apply Kd.R_drew)); exact HO279.out) hb); have n3_ := Aside0.mk (Kd.R_below (by (with_reducible repeat (first | apply Kd.R_alloc | apply Kd.R_drewN | apply Kd.R_drew)); exact HO286.out) hb); have n4_ := Aside0.mk (blk_below (g := gb259) (o := .cells #[.int .i64 t257, .int .i64 t258] 26 (0, 0)) (by (with_reducible repeat (first | refine blk_drewN ?_ _ | refine blk_drew ?_ | refine blk_alloc ?_ _)); exact BK259.out) hb); have n5_ := Aside0.mk (blk_below (g := gb266) (o := .cells #[.int .i64 t264, .int .i64 t265] 26 (0, 0)) (by (with_reducible repeat (first | refine blk_drewN ?_ _ | refine blk_drew ?_ | refine blk_alloc ?_ _)); exact BK266.out) hb); have n6_ := Aside0.mk (blk_below (g := gb283) (o := .cells #[.int .i64 t281, .int .i64 t282] 26 (0, 0)) (by (with_reducible repeat (first | refine blk_drewN ?_ _ | refine blk_drew ?_ | refine blk_alloc ?_ _)); exact BK283.out) hb); have n7_ := Aside0.mk (below_step (by repeat (first | (with_reducible first | exact HB.out | apply below_alloc | apply pw_below_drewN | apply below_drew1 | refine below_set ?_ GE259.out | refine below_set ?_ GE266.out | refine below_set ?_ GE283.out) | exact HB.out)) hb); have n8_ := Aside0.mk (hbox); have n9_ := Aside0.mk ((by rw [hg]; exact (below_size (by repeat (first | (with_reducible first | exact HB.out | apply below_alloc | apply pw_below_drewN | apply below_drew1 | refine below_set ?_ GE259.out | refine below_set ?_ GE266.out | refine below_set ?_ GE283.out) | exact HB.out))) : w.heap.size ≤ gb290)); have n10_ := Aside0.mk ((by rw [hg]; exact (below_size (by repeat (first | (with_reducible first | exact HB.out | apply below_alloc | apply pw_below_drewN | apply below_drew1 | refine below_set ?_ GE259.out | refine below_set ?_ GE266.out | refine below_set ?_ GE283.out) | exact HB.out))) : w.heap.size ≤ gb290)); have n11_ := Aside0.mk ((by rw [hg]; exact Nat.ne_of_lt (blk_lt (g := gb259) (o := .cells #[.int .i64 t257, .int .i64 t258] 26 (0, 0)) (by (with_reducible repeat (first | refine blk_drewN ?_ _ | refine blk_drew ?_ | refine blk_alloc ?_ _)); exact BK259.out)) : gb259 ≠ gb290)); have n12_ := Aside0.mk ((by rw [hg]; exact Nat.ne_of_gt (blk_lt (g := gb259) (o := .cells #[.int .i64 t257, .int .i64 t258] 26 (0, 0)) (by (with_reducible repeat (first | refine blk_drewN ?_ _ | refine blk_drew ?_ | refine blk_alloc ?_ _)); exact BK259.out)) : gb290 ≠ gb259)); have n13_ := Aside0.mk ((by rw [hg]; exact Nat.ne_of_lt (blk_lt (g := gb266) (o := .cells #[.int .i64 t264, .int .i64 t265] 26 (0, 0)) (by (with_reducible repeat (first | refine blk_drewN ?_ _ | refine blk_drew ?_ | refine blk_alloc ?_ _)); exact BK266.out)) : gb266 ≠ gb290)); have n14_ := Aside0.mk ((by rw [hg]; exact Nat.ne_of_gt (blk_lt (g := gb266) (o := .cells #[.int .i64 t264, .int .i64 t265] 26 (0, 0)) (by (with_reducible repeat (first | refine blk_drewN ?_ _ | refine blk_drew ?_ | refine blk_alloc ?_ _)); exact BK266.out)) : gb290 ≠ gb266)); have n15_ := Aside0.mk ((by rw [hg]; exact Nat.ne_of_lt (blk_lt (g := gb283) (o := .cells #[.int .i64 t281, .int .i64 t282] 26 (0, 0)) (by (with_reducible repeat (first | refine blk_drewN ?_ _ | refine blk_drew ?_ | refine blk_alloc ?_ _)); exact BK283.out)) : gb283 ≠ gb290)); have n16_ := Aside0.mk ((by rw [hg]; exact Nat.ne_of_gt (blk_lt (g := gb283) (o := .cells #[.int .i64 t281, .int .i64 t282] 26 (0, 0)) (by (with_reducible repeat (first | refine blk_drewN ?_ _ | refine blk_drew ?_ | refine blk_alloc ?_ _)); exact BK283.out)) : gb290 ≠ gb283)); clear HO_11; clear HO_15; clear HO279; clear HO286; clear BK259; clear BK266; clear BK283; clear HB; have HO_11 := n0_; have HO_15 := n1_; have HO279 := n2_; have HO286 := n3_; have BK259 := n4_; have BK266 := n5_; have BK283 := n6_; have HB := n7_; have BK290 := n8_; have GW290 := n9_; have GE290 := n10_; have NB259_290 := n11_; have NB290_259 := n12_; have NB266_290 := n13_; have NB290_266 := n14_; have NB283_290 := n15_; have NB290_283 := n16_; clear n0_ n1_ n2_ n3_ n4_ n5_ n6_ n7_ n8_ n9_ n10_ n11_ n12_ n13_ n14_ n15_ n16_; clear hb hbox hg; have hnb76 := NB290_259.out; have hnc76 := NB259_290.out; have hnb77 := NB290_266.out; have hnc77 := NB266_290.out; have hnb78 := NB290_283.out; have hnc78 := NB283_290.out; have hcz79_0 : w75.cell? ⟨gb290, 0, none⟩ = some (.int .i64 0) := (blk_cell BK290.out 0).trans rfl; have hcz79_1 : w75.cell? ⟨gb290, 1, none⟩ = some (.int .i64 0) := (blk_cell BK290.out 1).trans rfl; have hfz79_0 := blk_frozen BK290.out 0; have hfz79_1 := blk_frozen BK290.out 1; obtain ⟨Ao80, co80, eo80⟩ := Kd.R_slice HO279.out; subst eo80; obtain ⟨Ao81, co81, eo81⟩ := Kd.R_slice HO_15.out; subst eo81) | (go_at_call 11; (with_reducible refine (bloomeryref09_Same.calls k4 _ _ t277 _ _ x15_4 true _ ?side1 ?side2 ?side3 ?side4 A49.out).mono ?_); (case side1 => refine (Kd.R_reads' (e := 33) (base := w.heap.size) (ok := fun k_ => (((True ∧ some k_ ≠ (.slice Ao68 t260.length co68 : Value).ownBlock) ∧ some k_ ≠ (.slice Ao81 x15_4.length co81 : Value).ownBlock) ∧ some k_ ≠ (v285 : Value).ownBlock)) (n := t277.length) (c := co80) ?_).2.2; exact (by (with_reducible repeat (first | apply Kd.R_alloc | apply Kd.R_drewN | apply Kd.R_drew)); exact (Kd.R_mono (Kd.R_far (p := ⟨gb290, 1, none⟩) (Kd.R_far (p := ⟨gb290, 0, none⟩) (Kd.R_types HO279.out BK290.out (by decide)) (fun _ hk => hk.2) (.int .i64 t288)) (fun _ hk => hk.2) (.int .i64 t289)) (fun _ h_ => h_.1)))); (case side2 => exact (Kd.R_reads' HO279.out).2.1); (case side3 => refine (Kd.R_reads' (e := 33) (base := w.heap.size) (ok := fun k_ => ((some k_ ≠ (.slice Ao68 t260.length co68 : Value).ownBlock ∧ some k_ ≠ (.slice Ao80 t277.length co80 : Value).ownBlock) ∧ some k_ ≠ (v285 : Value).ownBlock)) (n := x15_4.length) (c := co81) ?_).2.2; exact (by (with_reducible repeat (first | apply Kd.R_alloc | apply Kd.R_drewN | apply Kd.R_drew)); exact (Kd.R_mono (Kd.R_far (p := ⟨gb290, 1, none⟩) (Kd.R_far (p := ⟨gb290, 0, none⟩) (Kd.R_types HO_15.out BK290.out (by decide)) (fun _ hk => hk.2) (.int .i64 t288)) (fun _ hk => hk.2) (.int .i64 t289)) (fun _ h_ => h_.1)))); (case side4 => exact (Kd.R_reads' HO_15.out).2.1); rintro e w' ⟨rfl, ⟨nd, rfl⟩⟩))
                       go_ret
                       exact ⟨by first | rfl | (simp [errW_none, errW_some] <;> rfl) | (simp [*, errW_none, errW_some] <;> rfl), by repeat (first | (with_reducible first | exact HB.out | apply below_alloc | apply pw_below_drewN | apply below_drew1 | refine below_set ?_ GE259.out | refine below_set ?_ GE266.out | refine below_set ?_ GE283.out | refine below_set ?_ GE290.out) | exact HB.out)⟩
                     ·replace c50 := Bool.eq_false_iff.mpr c50
                      subst c50
                      have H1 : (some false) = some r := by rw [if_neg (show ¬ (false = true) by decide)] at H; exact H
                      clear H
                      have H := H1
                      clear H1
                      obtain rfl := Option.some.inj H
                      obtain ⟨Ao82, co82, eo82⟩ := Kd.R_slice HO_11.out
                      subst eo82
                      go_wp2_with (first | ((with_reducible refine gate_callee (f := 9) rfl ?_); refine goesL_ (some 101) rfl rfl Tryz.func9 (by kernel_rfl) rfl #[.string ((a0 ++ (⟨#[10]⟩ : ByteArray)) ++ a1)] rfl (by (try simp only [List.map_toArray, List.map_cons, List.map_nil]); first | done | rfl | (simp only [List.length_drop, List.length_take]; rfl)) ?_; (with_reducible refine (lex_All.calls k4 ((a0 ++ (⟨#[10]⟩ : ByteArray)) ++ a1) t277 t280 t281 t282 _ ?side1 A43.out).mono ?_); (case side1 => exact Gl.below HGL.out (by repeat (first | (with_reducible first | exact HB.out | apply below_alloc | apply pw_below_drewN | apply below_drew1 | refine below_set ?_ GE259.out | refine below_set ?_ GE266.out) | exact HB.out))); rintro e w83 ⟨v278, rfl, ho0, hb⟩; refine ⟨_, rfl, ?_⟩; have n0_ := Aside0.mk (Kd.R_elder' (by (with_reducible repeat (first | apply Kd.R_alloc | apply Kd.R_drewN | apply Kd.R_drew)); exact HO_11.out) (Kd.R_base ho0) hb); have n1_ := Aside0.mk (Kd.R_elder' (by (with_reducible repeat (first | apply Kd.R_alloc | apply Kd.R_drewN | apply Kd.R_drew)); exact HO_15.out) (Kd.R_base ho0) hb); have n2_ := Aside0.mk (Kd.R_lower (Kd.R_new' (Kd.R_new' ho0 (Kd.R_lt (by (with_reducible repeat (first | apply Kd.R_alloc | apply Kd.R_drewN | apply Kd.R_drew)); exact HO_11.out))) (Kd.R_lt (by (with_reducible repeat (first | apply Kd.R_alloc | apply Kd.R_drewN | apply Kd.R_drew)); exact HO_15.out))) (below_size (by repeat (first | (with_reducible first | exact HB.out | apply below_alloc | apply pw_below_drewN | apply below_drew1 | refine below_set ?_ GE259.out | refine below_set ?_ GE266.out) | exact HB.out)))); have n3_ := Aside0.mk (blk_below (g := gb259) (o := .cells #[.int .i64 t257, .int .i64 t258] 26 (0, 0)) (by (with_reducible repeat (first | refine blk_drewN ?_ _ | refine blk_drew ?_ | refine blk_alloc ?_ _)); exact BK259.out) hb); have n4_ := Aside0.mk (blk_below (g := gb266) (o := .cells #[.int .i64 t264, .int .i64 t265] 26 (0, 0)) (by (with_reducible repeat (first | refine blk_drewN ?_ _ | refine blk_drew ?_ | refine blk_alloc ?_ _)); exact BK266.out) hb); have n5_ := Aside0.mk (below_step (by repeat (first | (with_reducible first | exact HB.out | apply below_alloc | apply pw_below_drewN | apply below_drew1 | refine below_set ?_ GE259.out | refine below_set ?_ GE266.out) | exact HB.out)) hb); clear HO_11; clear HO_15; clear BK259; clear BK266; clear HB; have HO_11 := n0_; have HO_15 := n1_; have HO279 := n2_; have BK259 := n3_; have BK266 := n4_; have HB := n5_; clear n0_ n1_ n2_ n3_ n4_ n5_; (try clear hb); (try clear hb2); (try clear hk); (try clear hi); (try clear ho0)) | ((with_reducible refine gate_dst (N := 20) rfl ?_); (try (refine gate_guard (by rfl) ?_; dsimp only)); refine box_event ?hg (N := 20) ?hd (cs := #[.int .i64 0, .int .i64 0]) (t := 26) ?hr ?_; (case hd => rfl); (case hg => rfl); (case hr => first | (go_simp; done) | (go_simp; rfl)); intro gb283 hg w84 hbox hb; have n0_ := Aside0.mk (Kd.R_below (by (with_reducible repeat (first | apply Kd.R_alloc | apply Kd.R_drewN | apply Kd.R_drew)); exact HO_11.out) hb); have n1_ := Aside0.mk (Kd.R_below (by (with_reducible repeat (first | apply Kd.R_alloc | apply Kd.R_drewN | apply Kd.R_drew)); exact HO_15.out) hb); have n2_ := Aside0.mk (Kd.R_below (by (with_reducible repeat (first | apply Kd.R_alloc | apply Kd.R_drewN | apply Kd.R_drew)); exact HO279.out) hb); have n3_ := Aside0.mk (blk_below (g := gb259) (o := .cells #[.int .i64 t257, .int .i64 t258] 26 (0, 0)) (by (with_reducible repeat (first | refine blk_drewN ?_ _ | refine blk_drew ?_ | refine blk_alloc ?_ _)); exact BK259.out) hb); have n4_ := Aside0.mk (blk_below (g := gb266) (o := .cells #[.int .i64 t264, .int .i64 t265] 26 (0, 0)) (by (with_reducible repeat (first | refine blk_drewN ?_ _ | refine blk_drew ?_ | refine blk_alloc ?_ _)); exact BK266.out) hb); have n5_ := Aside0.mk (below_step (by repeat (first | (with_reducible first | exact HB.out | apply below_alloc | apply pw_below_drewN | apply below_drew1 | refine below_set ?_ GE259.out | refine below_set ?_ GE266.out) | exact HB.out)) hb); have n6_ := Aside0.mk (hbox); have n7_ := Aside0.mk ((by rw [hg]; exact (below_size (by repeat (first | (with_reducible first | exact HB.out | apply below_alloc | apply pw_below_drewN | apply below_drew1 | refine below_set ?_ GE259.out | refine below_set ?_ GE266.out) | exact HB.out))) : w.heap.size ≤ gb283)); have n8_ := Aside0.mk ((by rw [hg]; exact (below_size (by repeat (first | (with_reducible first | exact HB.out | apply below_alloc | apply pw_below_drewN | apply below_drew1 | refine below_set ?_ GE259.out | refine below_set ?_ GE266.out) | exact HB.out))) : w.heap.size ≤ gb283)); have n9_ := Aside0.mk ((by rw [hg]; exact Nat.ne_of_lt (blk_lt (g := gb259) (o := .cells #[.int .i64 t257, .int .i64 t258] 26 (0, 0)) (by (with_reducible repeat (first | refine blk_drewN ?_ _ | refine blk_drew ?_ | refine blk_alloc ?_ _)); exact BK259.out)) : gb259 ≠ gb283)); have n10_ := Aside0.mk ((by rw [hg]; exact Nat.ne_of_gt (blk_lt (g := gb259) (o := .cells #[.int .i64 t257, .int .i64 t258] 26 (0, 0)) (by (with_reducible repeat (first | refine blk_drewN ?_ _ | refine blk_drew ?_ | refine blk_alloc ?_ _)); exact BK259.out)) : gb283 ≠ gb259)); have n11_ := Aside0.mk ((by rw [hg]; exact Nat.ne_of_lt (blk_lt (g := gb266) (o := .cells #[.int .i64 t264, .int .i64 t265] 26 (0, 0)) (by (with_reducible repeat (first | refine blk_drewN ?_ _ | refine blk_drew ?_ | refine blk_alloc ?_ _)); exact BK266.out)) : gb266 ≠ gb283)); have n12_ := Aside0.mk ((by rw [hg]; exact Nat.ne_of_gt (blk_lt (g := gb266) (o := .cells #[.int .i64 t264, .int .i64 t265] 26 (0, 0)) (by (with_reducible repeat (first | refine blk_drewN ?_ _ | refine blk_drew ?_ | refine blk_alloc ?_ _)); exact BK266.out)) : gb283 ≠ gb266)); clear HO_11; clear HO_15; clear HO279; clear BK259; clear BK266; clear HB; have HO_11 := n0_; have HO_15 := n1_; have HO279 := n2_; have BK259 := n3_; have BK266 := n4_; have HB := n5_; have BK283 := n6_; have GW283 := n7_; have GE283 := n8_; have NB259_283 := n9_; have NB283_259 := n10_; have NB266_283 := n11_; have NB283_266 := n12_; clear n0_ n1_ n2_ n3_ n4_ n5_ n6_ n7_ n8_ n9_ n10_ n11_ n12_; clear hb hbox hg; have hnb85 := NB283_259.out; have hnc85 := NB259_283.out; have hnb86 := NB283_266.out; have hnc86 := NB266_283.out; have hcz87_0 : w84.cell? ⟨gb283, 0, none⟩ = some (.int .i64 0) := (blk_cell BK283.out 0).trans rfl; have hcz87_1 : w84.cell? ⟨gb283, 1, none⟩ = some (.int .i64 0) := (blk_cell BK283.out 1).trans rfl; have hfz87_0 := blk_frozen BK283.out 0; have hfz87_1 := blk_frozen BK283.out 1) | ((with_reducible refine gate_callee (f := 9) rfl ?_); refine goesL_ (some 113) rfl rfl Tryz.func9 (by kernel_rfl) rfl #[.string ((((a0 ++ (⟨#[35]⟩ : ByteArray)) ++ a2) ++ (⟨#[10]⟩ : ByteArray)) ++ a1)] rfl (by (try simp only [List.map_toArray, List.map_cons, List.map_nil]); first | done | rfl | (simp only [List.length_drop, List.length_take]; rfl)) ?_; (with_reducible refine (lex_All.calls k4 ((((a0 ++ (⟨#[35]⟩ : ByteArray)) ++ a2) ++ (⟨#[10]⟩ : ByteArray)) ++ a1) t284 t287 t288 t289 _ ?side1 A47.out).mono ?_); (case side1 => exact Gl.below HGL.out (by repeat (first | (with_reducible first | exact HB.out | apply below_alloc | apply pw_below_drewN | apply below_drew1 | refine below_set ?_ GE259.out | refine below_set ?_ GE266.out | refine below_set ?_ GE283.out) | exact HB.out))); rintro e w88 ⟨v285, rfl, ho0, hb⟩; refine ⟨_, rfl, ?_⟩; have n0_ := Aside0.mk (Kd.R_elder' (by (with_reducible repeat (first | apply Kd.R_alloc | apply Kd.R_drewN | apply Kd.R_drew)); exact (Kd.R_mono (Kd.R_far (p := ⟨gb283, 1, none⟩) (Kd.R_far (p := ⟨gb283, 0, none⟩) (Kd.R_types HO_11.out BK283.out (by decide)) (fun _ hk => hk.2) (.int .i64 t281)) (fun _ hk => hk.2) (.int .i64 t282)) (fun _ h_ => h_.1))) (Kd.R_base ho0) hb); have n1_ := Aside0.mk (Kd.R_elder' (by (with_reducible repeat (first | apply Kd.R_alloc | apply Kd.R_drewN | apply Kd.R_drew)); exact (Kd.R_mono (Kd.R_far (p := ⟨gb283, 1, none⟩) (Kd.R_far (p := ⟨gb283, 0, none⟩) (Kd.R_types HO_15.out BK283.out (by decide)) (fun _ hk => hk.2) (.int .i64 t281)) (fun _ hk => hk.2) (.int .i64 t282)) (fun _ h_ => h_.1))) (Kd.R_base ho0) hb); have n2_ := Aside0.mk (Kd.R_elder' (by (with_reducible repeat (first | apply Kd.R_alloc | apply Kd.R_drewN | apply Kd.R_drew)); exact (Kd.R_mono (Kd.R_far (p := ⟨gb283, 1, none⟩) (Kd.R_far (p := ⟨gb283, 0, none⟩) (Kd.R_types HO279.out BK283.out (by decide)) (fun _ hk => hk.2) (.int .i64 t281)) (fun _ hk => hk.2) (.int .i64 t282)) (fun _ h_ => h_.1))) (Kd.R_base ho0) hb); have n3_ := Aside0.mk (Kd.R_lower (Kd.R_new' (Kd.R_new' (Kd.R_new' ho0 (Kd.R_lt (by (with_reducible repeat (first | apply Kd.R_alloc | apply Kd.R_drewN | apply Kd.R_drew)); exact (Kd.R_mono (Kd.R_far (p := ⟨gb283, 1, none⟩) (Kd.R_far (p := ⟨gb283, 0, none⟩) (Kd.R_types HO_11.out BK283.out (by decide)) (fun _ hk => hk.2) (.int .i64 t281)) (fun _ hk => hk.2) (.int .i64 t282)) (fun _ h_ => h_.1))))) (Kd.R_lt (by (with_reducible repeat (first | apply Kd.R_alloc | apply Kd.R_drewN | apply Kd.R_drew)); exact (Kd.R_mono (Kd.R_far (p := ⟨gb283, 1, none⟩) (Kd.R_far (p := ⟨gb283, 0, none⟩) (Kd.R_types HO_15.out BK283.out (by decide)) (fun _ hk => hk.2) (.int .i64 t281)) (fun _ hk => hk.2) (.int .i64 t282)) (fun _ h_ => h_.1))))) (Kd.R_lt (by (with_reducible repeat (first | apply Kd.R_alloc | apply Kd.R_drewN | apply Kd.R_drew)); exact (Kd.R_mono (Kd.R_far (p := ⟨gb283, 1, none⟩) (Kd.R_far (p := ⟨gb283, 0, none⟩) (Kd.R_types HO279.out BK283.out (by decide)) (fun _ hk => hk.2) (.int .i64 t281)) (fun _ hk => hk.2) (.int .i64 t282)) (fun _ h_ => h_.1))))) (below_size (by repeat (first | (with_reducible first | exact HB.out | apply below_alloc | apply pw_below_drewN | apply below_drew1 | refine below_set ?_ GE259.out | refine below_set ?_ GE266.out | refine below_set ?_ GE283.out) | exact HB.out)))); have n4_ := Aside0.mk (blk_below (g := gb259) (o := .cells #[.int .i64 t257, .int .i64 t258] 26 (0, 0)) (by (with_reducible repeat (first | refine blk_drewN ?_ _ | refine blk_drew ?_ | refine blk_alloc ?_ _)); refine blk_far ?_ NB259_283.out _; (with_reducible repeat (first | refine blk_drewN ?_ _ | refine blk_drew ?_ | refine blk_alloc ?_ _)); refine blk_far ?_ NB259_283.out _; (with_reducible repeat (first | refine blk_drewN ?_ _ | refine blk_drew ?_ | refine blk_alloc ?_ _)); exact BK259.out) hb); have n5_ := Aside0.mk (blk_below (g := gb266) (o := .cells #[.int .i64 t264, .int .i64 t265] 26 (0, 0)) (by (with_reducible repeat (first | refine blk_drewN ?_ _ | refine blk_drew ?_ | refine blk_alloc ?_ _)); refine blk_far ?_ NB266_283.out _; (with_reducible repeat (first | refine blk_drewN ?_ _ | refine blk_drew ?_ | refine blk_alloc ?_ _)); refine blk_far ?_ NB266_283.out _; (with_reducible repeat (first | refine blk_drewN ?_ _ | refine blk_drew ?_ | refine blk_alloc ?_ _)); exact BK266.out) hb); have n6_ := Aside0.mk (blk_below (g := gb283) (o := .cells #[.int .i64 t281, .int .i64 t282] 26 (0, 0)) (by (with_reducible repeat (first | refine blk_drewN ?_ _ | refine blk_drew ?_ | refine blk_alloc ?_ _)); refine blk_put (cs := #[.int .i64 t281, .int .i64 0]) ?_ 1 _ rfl; (with_reducible repeat (first | refine blk_drewN ?_ _ | refine blk_drew ?_ | refine blk_alloc ?_ _)); refine blk_put (cs := #[.int .i64 0, .int .i64 0]) ?_ 0 _ rfl; (with_reducible repeat (first | refine blk_drewN ?_ _ | refine blk_drew ?_ | refine blk_alloc ?_ _)); exact BK283.out) hb); have n7_ := Aside0.mk (below_step (by repeat (first | (with_reducible first | exact HB.out | apply below_alloc | apply pw_below_drewN | apply below_drew1 | refine below_set ?_ GE259.out | refine below_set ?_ GE266.out | refine below_set ?_ GE283.out) | exact HB.out)) hb); clear HO_11; clear HO_15; clear HO279; clear BK259; clear BK266; clear BK283; clear HB; have HO_11 := n0_; have HO_15 := n1_; have HO279 := n2_; have HO286 := n3_; have BK259 := n4_; have BK266 := n5_; have BK283 := n6_; have HB := n7_; clear n0_ n1_ n2_ n3_ n4_ n5_ n6_ n7_; (try clear hb); (try clear hb2); (try clear hk); (try clear hi); (try clear ho0)) | ((with_reducible refine gate_dst (N := 23) rfl ?_); (try (refine gate_guard (by rfl) ?_; dsimp only)); refine box_event ?hg (N := 23) ?hd (cs := #[.int .i64 0, .int .i64 0]) (t := 26) ?hr ?_; (case hd => rfl); (case hg => rfl); (case hr => first | (go_simp; done) | (go_simp; rfl)); intro gb290 hg w89 hbox hb; have n0_ := Aside0.mk (Kd.R_below (by (with_reducible repeat (first | apply Kd.R_alloc | apply Kd.R_drewN | apply Kd.R_drew)); exact HO_11.out) hb); have n1_ := Aside0.mk (Kd.R_below (by (with_reducible repeat (first | apply Kd.R_alloc | apply Kd.R_drewN | apply Kd.R_drew)); exact HO_15.out) hb); have n2_ := Aside0.mk (Kd.R_below (by (with_reducible repeat (first | apply Kd.R_alloc | apply Kd.R_drewN | apply Kd.R_drew)); exact HO279.out) hb); have n3_ := Aside0.mk (Kd.R_below (by (with_reducible repeat (first | apply Kd.R_alloc | apply Kd.R_drewN | apply Kd.R_drew)); exact HO286.out) hb); have n4_ := Aside0.mk (blk_below (g := gb259) (o := .cells #[.int .i64 t257, .int .i64 t258] 26 (0, 0)) (by (with_reducible repeat (first | refine blk_drewN ?_ _ | refine blk_drew ?_ | refine blk_alloc ?_ _)); exact BK259.out) hb); have n5_ := Aside0.mk (blk_below (g := gb266) (o := .cells #[.int .i64 t264, .int .i64 t265] 26 (0, 0)) (by (with_reducible repeat (first | refine blk_drewN ?_ _ | refine blk_drew ?_ | refine blk_alloc ?_ _)); exact BK266.out) hb); have n6_ := Aside0.mk (blk_below (g := gb283) (o := .cells #[.int .i64 t281, .int .i64 t282] 26 (0, 0)) (by (with_reducible repeat (first | refine blk_drewN ?_ _ | refine blk_drew ?_ | refine blk_alloc ?_ _)); exact BK283.out) hb); have n7_ := Aside0.mk (below_step (by repeat (first | (with_reducible first | exact HB.out | apply below_alloc | apply pw_below_drewN | apply below_drew1 | refine below_set ?_ GE259.out | refine below_set ?_ GE266.out | refine below_set ?_ GE283.out) | exact HB.out)) hb); have n8_ := Aside0.mk (hbox); have n9_ := Aside0.mk ((by rw [hg]; exact (below_size (by repeat (first | (with_reducible first | exact HB.out | apply below_alloc | apply pw_below_drewN | apply below_drew1 | refine below_set ?_ GE259.out | refine below_set ?_ GE266.out | refine below_set ?_ GE283.out) | exact HB.out))) : w.heap.size ≤ gb290)); have n10_ := Aside0.mk ((by rw [hg]; exact (below_size (by repeat (first | (with_reducible first | exact HB.out | apply below_alloc | apply pw_below_drewN | apply below_drew1 | refine below_set ?_ GE259.out | refine below_set ?_ GE266.out | refine below_set ?_ GE283.out) | exact HB.out))) : w.heap.size ≤ gb290)); have n11_ := Aside0.mk ((by rw [hg]; exact Nat.ne_of_lt (blk_lt (g := gb259) (o := .cells #[.int .i64 t257, .int .i64 t258] 26 (0, 0)) (by (with_reducible repeat (first | refine blk_drewN ?_ _ | refine blk_drew ?_ | refine blk_alloc ?_ _)); exact BK259.out)) : gb259 ≠ gb290)); have n12_ := Aside0.mk ((by rw [hg]; exact Nat.ne_of_gt (blk_lt (g := gb259) (o := .cells #[.int .i64 t257, .int .i64 t258] 26 (0, 0)) (by (with_reducible repeat (first | refine blk_drewN ?_ _ | refine blk_drew ?_ | refine blk_alloc ?_ _)); exact BK259.out)) : gb290 ≠ gb259)); have n13_ := Aside0.mk ((by rw [hg]; exact Nat.ne_of_lt (blk_lt (g := gb266) (o := .cells #[.int .i64 t264, .int .i64 t265] 26 (0, 0)) (by (with_reducible repeat (first | refine blk_drewN ?_ _ | refine blk_drew ?_ | refine blk_alloc ?_ _)); exact BK266.out)) : gb266 ≠ gb290)); have n14_ := Aside0.mk ((by rw [hg]; exact Nat.ne_of_gt (blk_lt (g := gb266) (o := .cells #[.int .i64 t264, .int .i64 t265] 26 (0, 0)) (by (with_reducible repeat (first | refine blk_drewN ?_ _ | refine blk_drew ?_ | refine blk_alloc ?_ _)); exact BK266.out)) : gb290 ≠ gb266)); have n15_ := Aside0.mk ((by rw [hg]; exact Nat.ne_of_lt (blk_lt (g := gb283) (o := .cells #[.int .i64 t281, .int .i64 t282] 26 (0, 0)) (by (with_reducible repeat (first | refine blk_drewN ?_ _ | refine blk_drew ?_ | refine blk_alloc ?_ _)); exact BK283.out)) : gb283 ≠ gb290)); have n16_ := Aside0.mk ((by rw [hg]; exact Nat.ne_of_gt (blk_lt (g := gb283) (o := .cells #[.int .i64 t281, .int .i64 t282] 26 (0, 0)) (by (with_reducible repeat (first | refine blk_drewN ?_ _ | refine blk_drew ?_ | refine blk_alloc ?_ _)); exact BK283.out)) : gb290 ≠ gb283)); clear HO_11; clear HO_15; clear HO279; clear HO286; clear BK259; clear BK266; clear BK283; clear HB; have HO_11 := n0_; have HO_15 := n1_; have HO279 := n2_; have HO286 := n3_; have BK259 := n4_; have BK266 := n5_; have BK283 := n6_; have HB := n7_; have BK290 := n8_; have GW290 := n9_; have GE290 := n10_; have NB259_290 := n11_; have NB290_259 := n12_; have NB266_290 := n13_; have NB290_266 := n14_; have NB283_290 := n15_; have NB290_283 := n16_; clear n0_ n1_ n2_ n3_ n4_ n5_ n6_ n7_ n8_ n9_ n10_ n11_ n12_ n13_ n14_ n15_ n16_; clear hb hbox hg; have hnb90 := NB290_259.out; have hnc90 := NB259_290.out; have hnb91 := NB290_266.out; have hnc91 := NB266_290.out; have hnb92 := NB290_283.out; have hnc92 := NB283_290.out; have hcz93_0 : w89.cell? ⟨gb290, 0, none⟩ = some (.int .i64 0) := (blk_cell BK290.out 0).trans rfl; have hcz93_1 : w89.cell? ⟨gb290, 1, none⟩ = some (.int .i64 0) := (blk_cell BK290.out 1).trans rfl; have hfz93_0 := blk_frozen BK290.out 0; have hfz93_1 := blk_frozen BK290.out 1; obtain ⟨Ao94, co94, eo94⟩ := Kd.R_slice HO279.out; subst eo94; obtain ⟨Ao95, co95, eo95⟩ := Kd.R_slice HO_15.out; subst eo95) | (go_at_call 11; (with_reducible refine (bloomeryref09_Same.calls k4 _ _ t277 _ _ x15_4 false _ ?side1 ?side2 ?side3 ?side4 A49.out).mono ?_); (case side1 => refine (Kd.R_reads' (e := 33) (base := w.heap.size) (ok := fun k_ => (((True ∧ some k_ ≠ (.slice Ao82 t260.length co82 : Value).ownBlock) ∧ some k_ ≠ (.slice Ao95 x15_4.length co95 : Value).ownBlock) ∧ some k_ ≠ (v285 : Value).ownBlock)) (n := t277.length) (c := co94) ?_).2.2; exact (by (with_reducible repeat (first | apply Kd.R_alloc | apply Kd.R_drewN | apply Kd.R_drew)); exact (Kd.R_mono (Kd.R_far (p := ⟨gb290, 1, none⟩) (Kd.R_far (p := ⟨gb290, 0, none⟩) (Kd.R_types HO279.out BK290.out (by decide)) (fun _ hk => hk.2) (.int .i64 t288)) (fun _ hk => hk.2) (.int .i64 t289)) (fun _ h_ => h_.1)))); (case side2 => exact (Kd.R_reads' HO279.out).2.1); (case side3 => refine (Kd.R_reads' (e := 33) (base := w.heap.size) (ok := fun k_ => ((some k_ ≠ (.slice Ao82 t260.length co82 : Value).ownBlock ∧ some k_ ≠ (.slice Ao94 t277.length co94 : Value).ownBlock) ∧ some k_ ≠ (v285 : Value).ownBlock)) (n := x15_4.length) (c := co95) ?_).2.2; exact (by (with_reducible repeat (first | apply Kd.R_alloc | apply Kd.R_drewN | apply Kd.R_drew)); exact (Kd.R_mono (Kd.R_far (p := ⟨gb290, 1, none⟩) (Kd.R_far (p := ⟨gb290, 0, none⟩) (Kd.R_types HO_15.out BK290.out (by decide)) (fun _ hk => hk.2) (.int .i64 t288)) (fun _ hk => hk.2) (.int .i64 t289)) (fun _ h_ => h_.1)))); (case side4 => exact (Kd.R_reads' HO_15.out).2.1); rintro e w' ⟨rfl, ⟨nd, rfl⟩⟩))
                      go_ret
                      exact ⟨by first | rfl | (simp [errW_none, errW_some] <;> rfl) | (simp [*, errW_none, errW_some] <;> rfl), by repeat (first | (with_reducible first | exact HB.out | apply below_alloc | apply pw_below_drewN | apply below_drew1 | refine below_set ?_ GE259.out | refine below_set ?_ GE266.out | refine below_set ?_ GE283.out | refine below_set ?_ GE290.out) | exact HB.out)⟩
                    ·rw [if_neg c48] at H
                     have c48b0 : (t280 == 0) = false := beq_eq_false_iff_ne.mpr c48
                     have c48b1 : (t280 != 0) = true := bne_iff_ne.mpr c48
                     obtain rfl := Option.some.inj H
                     obtain ⟨Ao96, co96, eo96⟩ := Kd.R_slice HO_11.out
                     subst eo96
                     go_wp2_with (first | ((with_reducible refine gate_callee (f := 9) rfl ?_); refine goesL_ (some 101) rfl rfl Tryz.func9 (by kernel_rfl) rfl #[.string ((a0 ++ (⟨#[10]⟩ : ByteArray)) ++ a1)] rfl (by (try simp only [List.map_toArray, List.map_cons, List.map_nil]); first | done | rfl | (simp only [List.length_drop, List.length_take]; rfl)) ?_; (with_reducible refine (lex_All.calls k4 ((a0 ++ (⟨#[10]⟩ : ByteArray)) ++ a1) t277 t280 t281 t282 _ ?side1 A43.out).mono ?_); (case side1 => exact Gl.below HGL.out (by repeat (first | (with_reducible first | exact HB.out | apply below_alloc | apply pw_below_drewN | apply below_drew1 | refine below_set ?_ GE259.out | refine below_set ?_ GE266.out) | exact HB.out))); rintro e w97 ⟨v278, rfl, ho0, hb⟩; refine ⟨_, rfl, ?_⟩; have n0_ := Aside0.mk (Kd.R_elder' (by (with_reducible repeat (first | apply Kd.R_alloc | apply Kd.R_drewN | apply Kd.R_drew)); exact HO_11.out) (Kd.R_base ho0) hb); have n1_ := Aside0.mk (Kd.R_elder' (by (with_reducible repeat (first | apply Kd.R_alloc | apply Kd.R_drewN | apply Kd.R_drew)); exact HO_15.out) (Kd.R_base ho0) hb); have n2_ := Aside0.mk (Kd.R_lower (Kd.R_new' (Kd.R_new' ho0 (Kd.R_lt (by (with_reducible repeat (first | apply Kd.R_alloc | apply Kd.R_drewN | apply Kd.R_drew)); exact HO_11.out))) (Kd.R_lt (by (with_reducible repeat (first | apply Kd.R_alloc | apply Kd.R_drewN | apply Kd.R_drew)); exact HO_15.out))) (below_size (by repeat (first | (with_reducible first | exact HB.out | apply below_alloc | apply pw_below_drewN | apply below_drew1 | refine below_set ?_ GE259.out | refine below_set ?_ GE266.out) | exact HB.out)))); have n3_ := Aside0.mk (blk_below (g := gb259) (o := .cells #[.int .i64 t257, .int .i64 t258] 26 (0, 0)) (by (with_reducible repeat (first | refine blk_drewN ?_ _ | refine blk_drew ?_ | refine blk_alloc ?_ _)); exact BK259.out) hb); have n4_ := Aside0.mk (blk_below (g := gb266) (o := .cells #[.int .i64 t264, .int .i64 t265] 26 (0, 0)) (by (with_reducible repeat (first | refine blk_drewN ?_ _ | refine blk_drew ?_ | refine blk_alloc ?_ _)); exact BK266.out) hb); have n5_ := Aside0.mk (below_step (by repeat (first | (with_reducible first | exact HB.out | apply below_alloc | apply pw_below_drewN | apply below_drew1 | refine below_set ?_ GE259.out | refine below_set ?_ GE266.out) | exact HB.out)) hb); clear HO_11; clear HO_15; clear BK259; clear BK266; clear HB; have HO_11 := n0_; have HO_15 := n1_; have HO279 := n2_; have BK259 := n3_; have BK266 := n4_; have HB := n5_; clear n0_ n1_ n2_ n3_ n4_ n5_; (try clear hb); (try clear hb2); (try clear hk); (try clear hi); (try clear ho0)) | ((with_reducible refine gate_dst (N := 20) rfl ?_); (try (refine gate_guard (by rfl) ?_; dsimp only)); refine box_event ?hg (N := 20) ?hd (cs := #[.int .i64 0, .int .i64 0]) (t := 26) ?hr ?_; (case hd => rfl); (case hg => rfl); (case hr => first | (go_simp; done) | (go_simp; rfl)); intro gb283 hg w98 hbox hb; have n0_ := Aside0.mk (Kd.R_below (by (with_reducible repeat (first | apply Kd.R_alloc | apply Kd.R_drewN | apply Kd.R_drew)); exact HO_11.out) hb); have n1_ := Aside0.mk (Kd.R_below (by (with_reducible repeat (first | apply Kd.R_alloc | apply Kd.R_drewN | apply Kd.R_drew)); exact HO_15.out) hb); have n2_ := Aside0.mk (Kd.R_below (by (with_reducible repeat (first | apply Kd.R_alloc | apply Kd.R_drewN | apply Kd.R_drew)); exact HO279.out) hb); have n3_ := Aside0.mk (blk_below (g := gb259) (o := .cells #[.int .i64 t257, .int .i64 t258] 26 (0, 0)) (by (with_reducible repeat (first | refine blk_drewN ?_ _ | refine blk_drew ?_ | refine blk_alloc ?_ _)); exact BK259.out) hb); have n4_ := Aside0.mk (blk_below (g := gb266) (o := .cells #[.int .i64 t264, .int .i64 t265] 26 (0, 0)) (by (with_reducible repeat (first | refine blk_drewN ?_ _ | refine blk_drew ?_ | refine blk_alloc ?_ _)); exact BK266.out) hb); have n5_ := Aside0.mk (below_step (by repeat (first | (with_reducible first | exact HB.out | apply below_alloc | apply pw_below_drewN | apply below_drew1 | refine below_set ?_ GE259.out | refine below_set ?_ GE266.out) | exact HB.out)) hb); have n6_ := Aside0.mk (hbox); have n7_ := Aside0.mk ((by rw [hg]; exact (below_size (by repeat (first | (with_reducible first | exact HB.out | apply below_alloc | apply pw_below_drewN | apply below_drew1 | refine below_set ?_ GE259.out | refine below_set ?_ GE266.out) | exact HB.out))) : w.heap.size ≤ gb283)); have n8_ := Aside0.mk ((by rw [hg]; exact (below_size (by repeat (first | (with_reducible first | exact HB.out | apply below_alloc | apply pw_below_drewN | apply below_drew1 | refine below_set ?_ GE259.out | refine below_set ?_ GE266.out) | exact HB.out))) : w.heap.size ≤ gb283)); have n9_ := Aside0.mk ((by rw [hg]; exact Nat.ne_of_lt (blk_lt (g := gb259) (o := .cells #[.int .i64 t257, .int .i64 t258] 26 (0, 0)) (by (with_reducible repeat (first | refine blk_drewN ?_ _ | refine blk_drew ?_ | refine blk_alloc ?_ _)); exact BK259.out)) : gb259 ≠ gb283)); have n10_ := Aside0.mk ((by rw [hg]; exact Nat.ne_of_gt (blk_lt (g := gb259) (o := .cells #[.int .i64 t257, .int .i64 t258] 26 (0, 0)) (by (with_reducible repeat (first | refine blk_drewN ?_ _ | refine blk_drew ?_ | refine blk_alloc ?_ _)); exact BK259.out)) : gb283 ≠ gb259)); have n11_ := Aside0.mk ((by rw [hg]; exact Nat.ne_of_lt (blk_lt (g := gb266) (o := .cells #[.int .i64 t264, .int .i64 t265] 26 (0, 0)) (by (with_reducible repeat (first | refine blk_drewN ?_ _ | refine blk_drew ?_ | refine blk_alloc ?_ _)); exact BK266.out)) : gb266 ≠ gb283)); have n12_ := Aside0.mk ((by rw [hg]; exact Nat.ne_of_gt (blk_lt (g := gb266) (o := .cells #[.int .i64 t264, .int .i64 t265] 26 (0, 0)) (by (with_reducible repeat (first | refine blk_drewN ?_ _ | refine blk_drew ?_ | refine blk_alloc ?_ _)); exact BK266.out)) : gb283 ≠ gb266)); clear HO_11; clear HO_15; clear HO279; clear BK259; clear BK266; clear HB; have HO_11 := n0_; have HO_15 := n1_; have HO279 := n2_; have BK259 := n3_; have BK266 := n4_; have HB := n5_; have BK283 := n6_; have GW283 := n7_; have GE283 := n8_; have NB259_283 := n9_; have NB283_259 := n10_; have NB266_283 := n11_; have NB283_266 := n12_; clear n0_ n1_ n2_ n3_ n4_ n5_ n6_ n7_ n8_ n9_ n10_ n11_ n12_; clear hb hbox hg; have hnb99 := NB283_259.out; have hnc99 := NB259_283.out; have hnb100 := NB283_266.out; have hnc100 := NB266_283.out; have hcz101_0 : w98.cell? ⟨gb283, 0, none⟩ = some (.int .i64 0) := (blk_cell BK283.out 0).trans rfl; have hcz101_1 : w98.cell? ⟨gb283, 1, none⟩ = some (.int .i64 0) := (blk_cell BK283.out 1).trans rfl; have hfz101_0 := blk_frozen BK283.out 0; have hfz101_1 := blk_frozen BK283.out 1) | ((with_reducible refine gate_callee (f := 9) rfl ?_); refine goesL_ (some 113) rfl rfl Tryz.func9 (by kernel_rfl) rfl #[.string ((((a0 ++ (⟨#[35]⟩ : ByteArray)) ++ a2) ++ (⟨#[10]⟩ : ByteArray)) ++ a1)] rfl (by (try simp only [List.map_toArray, List.map_cons, List.map_nil]); first | done | rfl | (simp only [List.length_drop, List.length_take]; rfl)) ?_; (with_reducible refine (lex_All.calls k4 ((((a0 ++ (⟨#[35]⟩ : ByteArray)) ++ a2) ++ (⟨#[10]⟩ : ByteArray)) ++ a1) t284 t287 t288 t289 _ ?side1 A47.out).mono ?_); (case side1 => exact Gl.below HGL.out (by repeat (first | (with_reducible first | exact HB.out | apply below_alloc | apply pw_below_drewN | apply below_drew1 | refine below_set ?_ GE259.out | refine below_set ?_ GE266.out | refine below_set ?_ GE283.out) | exact HB.out))); rintro e w102 ⟨v285, rfl, ho0, hb⟩; refine ⟨_, rfl, ?_⟩; have n0_ := Aside0.mk (Kd.R_elder' (by (with_reducible repeat (first | apply Kd.R_alloc | apply Kd.R_drewN | apply Kd.R_drew)); exact (Kd.R_mono (Kd.R_far (p := ⟨gb283, 1, none⟩) (Kd.R_far (p := ⟨gb283, 0, none⟩) (Kd.R_types HO_11.out BK283.out (by decide)) (fun _ hk => hk.2) (.int .i64 t281)) (fun _ hk => hk.2) (.int .i64 t282)) (fun _ h_ => h_.1))) (Kd.R_base ho0) hb); have n1_ := Aside0.mk (Kd.R_elder' (by (with_reducible repeat (first | apply Kd.R_alloc | apply Kd.R_drewN | apply Kd.R_drew)); exact (Kd.R_mono (Kd.R_far (p := ⟨gb283, 1, none⟩) (Kd.R_far (p := ⟨gb283, 0, none⟩) (Kd.R_types HO_15.out BK283.out (by decide)) (fun _ hk => hk.2) (.int .i64 t281)) (fun _ hk => hk.2) (.int .i64 t282)) (fun _ h_ => h_.1))) (Kd.R_base ho0) hb); have n2_ := Aside0.mk (Kd.R_elder' (by (with_reducible repeat (first | apply Kd.R_alloc | apply Kd.R_drewN | apply Kd.R_drew)); exact (Kd.R_mono (Kd.R_far (p := ⟨gb283, 1, none⟩) (Kd.R_far (p := ⟨gb283, 0, none⟩) (Kd.R_types HO279.out BK283.out (by decide)) (fun _ hk => hk.2) (.int .i64 t281)) (fun _ hk => hk.2) (.int .i64 t282)) (fun _ h_ => h_.1))) (Kd.R_base ho0) hb); have n3_ := Aside0.mk (Kd.R_lower (Kd.R_new' (Kd.R_new' (Kd.R_new' ho0 (Kd.R_lt (by (with_reducible repeat (first | apply Kd.R_alloc | apply Kd.R_drewN | apply Kd.R_drew)); exact (Kd.R_mono (Kd.R_far (p := ⟨gb283, 1, none⟩) (Kd.R_far (p := ⟨gb283, 0, none⟩) (Kd.R_types HO_11.out BK283.out (by decide)) (fun _ hk => hk.2) (.int .i64 t281)) (fun _ hk => hk.2) (.int .i64 t282)) (fun _ h_ => h_.1))))) (Kd.R_lt (by (with_reducible repeat (first | apply Kd.R_alloc | apply Kd.R_drewN | apply Kd.R_drew)); exact (Kd.R_mono (Kd.R_far (p := ⟨gb283, 1, none⟩) (Kd.R_far (p := ⟨gb283, 0, none⟩) (Kd.R_types HO_15.out BK283.out (by decide)) (fun _ hk => hk.2) (.int .i64 t281)) (fun _ hk => hk.2) (.int .i64 t282)) (fun _ h_ => h_.1))))) (Kd.R_lt (by (with_reducible repeat (first | apply Kd.R_alloc | apply Kd.R_drewN | apply Kd.R_drew)); exact (Kd.R_mono (Kd.R_far (p := ⟨gb283, 1, none⟩) (Kd.R_far (p := ⟨gb283, 0, none⟩) (Kd.R_types HO279.out BK283.out (by decide)) (fun _ hk => hk.2) (.int .i64 t281)) (fun _ hk => hk.2) (.int .i64 t282)) (fun _ h_ => h_.1))))) (below_size (by repeat (first | (with_reducible first | exact HB.out | apply below_alloc | apply pw_below_drewN | apply below_drew1 | refine below_set ?_ GE259.out | refine below_set ?_ GE266.out | refine below_set ?_ GE283.out) | exact HB.out)))); have n4_ := Aside0.mk (blk_below (g := gb259) (o := .cells #[.int .i64 t257, .int .i64 t258] 26 (0, 0)) (by (with_reducible repeat (first | refine blk_drewN ?_ _ | refine blk_drew ?_ | refine blk_alloc ?_ _)); refine blk_far ?_ NB259_283.out _; (with_reducible repeat (first | refine blk_drewN ?_ _ | refine blk_drew ?_ | refine blk_alloc ?_ _)); refine blk_far ?_ NB259_283.out _; (with_reducible repeat (first | refine blk_drewN ?_ _ | refine blk_drew ?_ | refine blk_alloc ?_ _)); exact BK259.out) hb); have n5_ := Aside0.mk (blk_below (g := gb266) (o := .cells #[.int .i64 t264, .int .i64 t265] 26 (0, 0)) (by (with_reducible repeat (first | refine blk_drewN ?_ _ | refine blk_drew ?_ | refine blk_alloc ?_ _)); refine blk_far ?_ NB266_283.out _; (with_reducible repeat (first | refine blk_drewN ?_ _ | refine blk_drew ?_ | refine blk_alloc ?_ _)); refine blk_far ?_ NB266_283.out _; (with_reducible repeat (first | refine blk_drewN ?_ _ | refine blk_drew ?_ | refine blk_alloc ?_ _)); exact BK266.out) hb); have n6_ := Aside0.mk (blk_below (g := gb283) (o := .cells #[.int .i64 t281, .int .i64 t282] 26 (0, 0)) (by (with_reducible repeat (first | refine blk_drewN ?_ _ | refine blk_drew ?_ | refine blk_alloc ?_ _)); refine blk_put (cs := #[.int .i64 t281, .int .i64 0]) ?_ 1 _ rfl; (with_reducible repeat (first | refine blk_drewN ?_ _ | refine blk_drew ?_ | refine blk_alloc ?_ _)); refine blk_put (cs := #[.int .i64 0, .int .i64 0]) ?_ 0 _ rfl; (with_reducible repeat (first | refine blk_drewN ?_ _ | refine blk_drew ?_ | refine blk_alloc ?_ _)); exact BK283.out) hb); have n7_ := Aside0.mk (below_step (by repeat (first | (with_reducible first | exact HB.out | apply below_alloc | apply pw_below_drewN | apply below_drew1 | refine below_set ?_ GE259.out | refine below_set ?_ GE266.out | refine below_set ?_ GE283.out) | exact HB.out)) hb); clear HO_11; clear HO_15; clear HO279; clear BK259; clear BK266; clear BK283; clear HB; have HO_11 := n0_; have HO_15 := n1_; have HO279 := n2_; have HO286 := n3_; have BK259 := n4_; have BK266 := n5_; have BK283 := n6_; have HB := n7_; clear n0_ n1_ n2_ n3_ n4_ n5_ n6_ n7_; (try clear hb); (try clear hb2); (try clear hk); (try clear hi); (try clear ho0)) | ((with_reducible refine gate_dst (N := 23) rfl ?_); (try (refine gate_guard (by rfl) ?_; dsimp only)); refine box_event ?hg (N := 23) ?hd (cs := #[.int .i64 0, .int .i64 0]) (t := 26) ?hr ?_; (case hd => rfl); (case hg => rfl); (case hr => first | (go_simp; done) | (go_simp; rfl)); intro gb290 hg w103 hbox hb; have n0_ := Aside0.mk (Kd.R_below (by (with_reducible repeat (first | apply Kd.R_alloc | apply Kd.R_drewN | apply Kd.R_drew)); exact HO_11.out) hb); have n1_ := Aside0.mk (Kd.R_below (by (with_reducible repeat (first | apply Kd.R_alloc | apply Kd.R_drewN | apply Kd.R_drew)); exact HO_15.out) hb); have n2_ := Aside0.mk (Kd.R_below (by (with_reducible repeat (first | apply Kd.R_alloc | apply Kd.R_drewN | apply Kd.R_drew)); exact HO279.out) hb); have n3_ := Aside0.mk (Kd.R_below (by (with_reducible repeat (first | apply Kd.R_alloc | apply Kd.R_drewN | apply Kd.R_drew)); exact HO286.out) hb); have n4_ := Aside0.mk (blk_below (g := gb259) (o := .cells #[.int .i64 t257, .int .i64 t258] 26 (0, 0)) (by (with_reducible repeat (first | refine blk_drewN ?_ _ | refine blk_drew ?_ | refine blk_alloc ?_ _)); exact BK259.out) hb); have n5_ := Aside0.mk (blk_below (g := gb266) (o := .cells #[.int .i64 t264, .int .i64 t265] 26 (0, 0)) (by (with_reducible repeat (first | refine blk_drewN ?_ _ | refine blk_drew ?_ | refine blk_alloc ?_ _)); exact BK266.out) hb); have n6_ := Aside0.mk (blk_below (g := gb283) (o := .cells #[.int .i64 t281, .int .i64 t282] 26 (0, 0)) (by (with_reducible repeat (first | refine blk_drewN ?_ _ | refine blk_drew ?_ | refine blk_alloc ?_ _)); exact BK283.out) hb); have n7_ := Aside0.mk (below_step (by repeat (first | (with_reducible first | exact HB.out | apply below_alloc | apply pw_below_drewN | apply below_drew1 | refine below_set ?_ GE259.out | refine below_set ?_ GE266.out | refine below_set ?_ GE283.out) | exact HB.out)) hb); have n8_ := Aside0.mk (hbox); have n9_ := Aside0.mk ((by rw [hg]; exact (below_size (by repeat (first | (with_reducible first | exact HB.out | apply below_alloc | apply pw_below_drewN | apply below_drew1 | refine below_set ?_ GE259.out | refine below_set ?_ GE266.out | refine below_set ?_ GE283.out) | exact HB.out))) : w.heap.size ≤ gb290)); have n10_ := Aside0.mk ((by rw [hg]; exact (below_size (by repeat (first | (with_reducible first | exact HB.out | apply below_alloc | apply pw_below_drewN | apply below_drew1 | refine below_set ?_ GE259.out | refine below_set ?_ GE266.out | refine below_set ?_ GE283.out) | exact HB.out))) : w.heap.size ≤ gb290)); have n11_ := Aside0.mk ((by rw [hg]; exact Nat.ne_of_lt (blk_lt (g := gb259) (o := .cells #[.int .i64 t257, .int .i64 t258] 26 (0, 0)) (by (with_reducible repeat (first | refine blk_drewN ?_ _ | refine blk_drew ?_ | refine blk_alloc ?_ _)); exact BK259.out)) : gb259 ≠ gb290)); have n12_ := Aside0.mk ((by rw [hg]; exact Nat.ne_of_gt (blk_lt (g := gb259) (o := .cells #[.int .i64 t257, .int .i64 t258] 26 (0, 0)) (by (with_reducible repeat (first | refine blk_drewN ?_ _ | refine blk_drew ?_ | refine blk_alloc ?_ _)); exact BK259.out)) : gb290 ≠ gb259)); have n13_ := Aside0.mk ((by rw [hg]; exact Nat.ne_of_lt (blk_lt (g := gb266) (o := .cells #[.int .i64 t264, .int .i64 t265] 26 (0, 0)) (by (with_reducible repeat (first | refine blk_drewN ?_ _ | refine blk_drew ?_ | refine blk_alloc ?_ _)); exact BK266.out)) : gb266 ≠ gb290)); have n14_ := Aside0.mk ((by rw [hg]; exact Nat.ne_of_gt (blk_lt (g := gb266) (o := .cells #[.int .i64 t264, .int .i64 t265] 26 (0, 0)) (by (with_reducible repeat (first | refine blk_drewN ?_ _ | refine blk_drew ?_ | refine blk_alloc ?_ _)); exact BK266.out)) : gb290 ≠ gb266)); have n15_ := Aside0.mk ((by rw [hg]; exact Nat.ne_of_lt (blk_lt (g := gb283) (o := .cells #[.int .i64 t281, .int .i64 t282] 26 (0, 0)) (by (with_reducible repeat (first | refine blk_drewN ?_ _ | refine blk_drew ?_ | refine blk_alloc ?_ _)); exact BK283.out)) : gb283 ≠ gb290)); have n16_ := Aside0.mk ((by rw [hg]; exact Nat.ne_of_gt (blk_lt (g := gb283) (o := .cells #[.int .i64 t281, .int .i64 t282] 26 (0, 0)) (by (with_reducible repeat (first | refine blk_drewN ?_ _ | refine blk_drew ?_ | refine blk_alloc ?_ _)); exact BK283.out)) : gb290 ≠ gb283)); clear HO_11; clear HO_15; clear HO279; clear HO286; clear BK259; clear BK266; clear BK283; clear HB; have HO_11 := n0_; have HO_15 := n1_; have HO279 := n2_; have HO286 := n3_; have BK259 := n4_; have BK266 := n5_; have BK283 := n6_; have HB := n7_; have BK290 := n8_; have GW290 := n9_; have GE290 := n10_; have NB259_290 := n11_; have NB290_259 := n12_; have NB266_290 := n13_; have NB290_266 := n14_; have NB283_290 := n15_; have NB290_283 := n16_; clear n0_ n1_ n2_ n3_ n4_ n5_ n6_ n7_ n8_ n9_ n10_ n11_ n12_ n13_ n14_ n15_ n16_; clear hb hbox hg; have hnb104 := NB290_259.out; have hnc104 := NB259_290.out; have hnb105 := NB290_266.out; have hnc105 := NB266_290.out; have hnb106 := NB290_283.out; have hnc106 := NB283_290.out; have hcz107_0 : w103.cell? ⟨gb290, 0, none⟩ = some (.int .i64 0) := (blk_cell BK290.out 0).trans rfl; have hcz107_1 : w103.cell? ⟨gb290, 1, none⟩ = some (.int .i64 0) := (blk_cell BK290.out 1).trans rfl; have hfz107_0 := blk_frozen BK290.out 0; have hfz107_1 := blk_frozen BK290.out 1))
                     go_ret
                     exact ⟨by first | rfl | (simp [errW_none, errW_some] <;> rfl) | (simp [*, errW_none, errW_some] <;> rfl), by repeat (first | (with_reducible first | exact HB.out | apply below_alloc | apply pw_below_drewN | apply below_drew1 | refine below_set ?_ GE259.out | refine below_set ?_ GE266.out | refine below_set ?_ GE283.out | refine below_set ?_ GE290.out) | exact HB.out)⟩
                   ·rw [if_neg c46] at H
                    exact absurd H (by simp)
                  ·rw [if_neg c45] at H
                   exact absurd H (by simp)
                 ·rw [if_neg c44] at H
                  exact absurd H (by simp)
                ·rw [if_neg c42] at H
                 exact absurd H (by simp)
               ·rw [if_neg c41] at H
                exact absurd H (by simp)
           ·rw [if_neg c28] at H
            exact absurd H (by simp)
 ·replace c5 := Bool.eq_false_iff.mpr c5
  subst c5
  have H1 : (some false) = some r := by rw [if_neg (show ¬ (false = true) by decide)] at H; exact H
  clear H
  have H := H1
  clear H1
  obtain rfl := Option.some.inj H
  go_enter Tryz.func6, Tryz.ntmps6
  go_wp2_with (first | ((with_reducible refine gate_callee (f := 8) rfl ?_); refine goesL_ (some 24) rfl rfl Tryz.func8 (by kernel_rfl) rfl #[] rfl (by (try simp only [List.map_toArray, List.map_cons, List.map_nil]); first | done | rfl | (simp only [List.length_drop, List.length_take]; rfl)) ?_; (with_reducible refine (bloomerylaw09_alive.calls k  false _ ?side1 A4.out).mono ?_); (case side1 => exact Gl.below HGL.out (by repeat (first | (with_reducible first | exact HB.out | apply below_alloc | apply pw_below_drewN | apply below_drew1) | exact HB.out))); rintro e w108 ⟨rfl, hb⟩; refine ⟨_, rfl, ?_⟩; have n0_ := Aside0.mk (below_step (by repeat (first | (with_reducible first | exact HB.out | apply below_alloc | apply pw_below_drewN | apply below_drew1) | exact HB.out)) hb); clear HB; have HB := n0_; clear n0_; (try clear hb); (try clear hb2); (try clear hk); (try clear hi)))
  go_ret
  exact ⟨by first | rfl | (simp [errW_none, errW_some] <;> rfl) | (simp [*, errW_none, errW_some] <;> rfl), by repeat (first | (with_reducible first | exact HB.out | apply below_alloc | apply pw_below_drewN | apply below_drew1) | exact HB.out)⟩

end Go.Proofs.YtannlhonjkhchaaGreatDoor.G

/- Layer 9's law LexParts: as a Lean function it comes to true; what a call of it does. Conditions: the library's two errors of numbers as they were laid. -/
namespace Go.Proofs.YtannlhonjkhchaaGreatDoor.G
open Go.RowKit Go.Gw Go.Proofs.YtannlhonjkhchaaGreatDoorW.PrintWords
set_option linter.unusedVariables false
set_option linter.unusedSimpArgs false

theorem down_S (d : Nat) (t : Lx.Tok) : tokS (t.down d) = ⟨(tokS t).f0, (tokS t).f1, ⟨(tokS t).f2.f0 + d, (tokS t).f2.f1⟩⟩ := by
  simp [tokS, Lx.Tok.down]
theorem hash_B : (⟨#[35]⟩ : ByteArray) = B [35] := rfl
theorem LexParts_ev (a b r : List UInt8) : Ev (fun k => bloomerylaw09_LexParts.f k (B a) (B b) (B r)) true := by
  unfold bloomerylaw09_LexParts.f
  refine Ev.bind alive_ev (Ev.pos rfl ?_)
  simp only [B_size]
  have out : Ev (fun k => bloomerylaw09_LexParts.j0 k (B a) (B b) (B r) true) true := Ev.step (fun k => by rw [bloomerylaw09_LexParts.j0]) (Ev.pos rfl (Ev.now _))
  by_cases ha : (a.length : Int) > 300
  · exact Ev.pos ha out
  · refine Ev.neg ha ?_
    by_cases hb : (b.length : Int) > 300
    · exact Ev.pos hb out
    · refine Ev.neg hb ?_
      by_cases hr : (r.length : Int) > 100
      · rw [show decide ((r.length : Int) > 100) = true by simpa using hr]
        exact out
      · rw [show decide ((r.length : Int) > 100) = false by simpa using hr]
        refine Ev.step (fun k => by rw [bloomerylaw09_LexParts.j0]) (Ev.neg (by decide) ?_)
        have stop : ∀ x y, Ev (fun k => bloomerylaw09_LexParts.j2 k (B a) (B b) (B r) x y true) true := fun x y => Ev.step (fun k => by rw [bloomerylaw09_LexParts.j2]) (Ev.pos rfl (Ev.now _))
        -- behind the remark's bytes
        have rest : (∀ c ∈ r, c ≠ 10) → Ev (fun k => bloomerylaw09_LexParts.l0 k (B a) (B b) (B r) r.length) true := by
          intro hno
          refine Ev.step (fun k => by rw [bloomerylaw09_LexParts.l0]) (Ev.neg (by rw [B_size]; omega) ?_)
          cases h1 : Lx.all (1, 1) a with
          | inl x =>
            have e1 := allF_err _ _ _ _ _ h1
            refine Ev.bind (all_inl h1 (by omega)) ?_
            cases h2 : Lx.all (1, 1) b with
            | inl y => exact Ev.bind (all_inl h2 (by omega)) (Ev.neg (by simp only; omega) (stop _ _))
            | inr y => exact Ev.bind (all_inr h2 (by omega)) (Ev.neg (by simp only; omega) (stop _ _))
          | inr x =>
            refine Ev.bind (all_inr h1 (by omega)) ?_
            cases h2 : Lx.all (1, 1) b with
            | inl y =>
              have e1 := allF_err _ _ _ _ _ h2
              refine Ev.bind (all_inl h2 (by omega)) (Ev.pos rfl ?_)
              rw [show ((y.1 : Int) != 0) = true by simp; omega]
              exact stop _ _
            | inr y =>
              refine Ev.bind (all_inr h2 (by omega)) (Ev.pos rfl ?_)
              rw [show ((0 : Int) != 0) = false by decide]
              have hat := at_ev a (by omega) a.length (Nat.le_refl _)
              rw [List.take_length] at hat
              have hda := pass_le (1, 1) a
              obtain ⟨d, hd⟩ : ∃ d, d = (Lx.pass (1, 1) a).1 := ⟨_, rfl⟩
              rw [← hd] at hat hda
              have hx := allF_many _ _ _ _ (Nat.le_refl _) h1
              have hy := allF_many _ _ _ _ (Nat.le_refl _) h2
              have hln := allF_line _ _ _ _ h2
              refine Ev.step (fun k => by rw [bloomerylaw09_LexParts.j2]) (Ev.neg (by decide) ?_)
              rw [B_size]
              refine Ev.bind hat (Ev.pos (by simp; omega) ?_)
              rw [List.nil_append]
              -- what is wanted
              have hm : ∀ p : Nat × Nat, p = (1 + d, 1) → Lx.all p b = .inr (y.map (Lx.Tok.down d)) := by
                intro p hp
                have := Lx.all_down d b.length b (Nat.le_refl _) (1, 1)
                rw [h2] at this
                rw [hp]
                exact this
              have w1 : Lx.all (1, 1) (a ++ 10 :: b) = .inr (x ++ y.map (Lx.Tok.down d)) := by
                rw [Lx.all_parts b a.length a (Nat.le_refl _) (1, 1) x h1, hm _ (by rw [Lx.pass_lf, ← hd]; simp only [Prod.mk.injEq, and_true]; omega)]
                rfl
              have w2 : Lx.all (1, 1) (a ++ (35 :: (r ++ 10 :: b))) = .inr (x ++ y.map (Lx.Tok.down d)) := by
                rw [Lx.all_remarked r b (notLf_of hno) a.length a (Nat.le_refl _) (1, 1) x h1, hm _ ?_]
                · rfl
                · rw [show a ++ 35 :: (r ++ [10]) = (a ++ 35 :: r) ++ [10] by simp, Lx.pass_lf, Lx.pass_append, Lx.pass_line (35 :: r) (by intro c hc; rcases List.mem_cons.1 hc with rfl | hc; decide; exact notLf_of hno c hc), ← hd]
                  simp only [Prod.mk.injEq, and_true]; omega
              have hsame := same_ev ((x ++ y.map (Lx.Tok.down d)).map tokS) (by simp; omega)
              have key : ∀ n i, n + i = y.length → Ev (fun k => bloomerylaw09_LexParts.l1 k (B a) (B b) (B r) (y.map tokS) d (x.map tokS ++ ((y.take i).map (Lx.Tok.down d)).map tokS) i) true := by
                intro n
                induction n with
                | zero =>
                  intro i hi
                  have hi : i = y.length := by omega
                  subst hi
                  rw [List.take_length, ← List.map_append]
                  refine Ev.step (fun k => by rw [bloomerylaw09_LexParts.l1]) (Ev.neg (by rw [List.length_map]; omega) ?_)
                  simp only [lf_B, hash_B, B_app, B_size]
                  rw [show a ++ [10] ++ b = a ++ 10 :: b by simp, show a ++ [35] ++ r ++ [10] ++ b = a ++ (35 :: (r ++ 10 :: b)) by simp]
                  refine Ev.pos (by omega) (Ev.pos (by simp; omega) (Ev.bind (all_inr w1 (by simp; omega)) (Ev.pos (by simp; omega) (Ev.pos (by simp; omega) (Ev.pos (by simp; omega) (Ev.bind (all_inr w2 (by simp; omega)) (Ev.pos rfl (Ev.bind hsame (Ev.pos rfl (Ev.pos rfl (Ev.bind hsame (Ev.now _))))))))))))
                | succ n ih =>
                  intro i hi
                  have h1 : i < y.length := by omega
                  have hl1 := hln y[i] (List.getElem_mem h1)
                  have hih := ih (i + 1) (by omega)
                  rw [List.take_succ_eq_append_getElem h1, List.map_append, List.map_append, ← List.append_assoc] at hih
                  refine Ev.step (fun k => by rw [bloomerylaw09_LexParts.l1]) (Ev.pos (by rw [List.length_map]; omega) (Ev.pos (by omega) (Ev.pos (by simp; omega) ?_)))
                  rw [rd_tok y i h1, w64 (x := (i : Int) + 1) (by omega) (by omega), w64 (x := (tokS y[i]).f2.f0 + (d : Int)) (by simp only [tokS]; omega) (by simp only [tokS]; omega), ← down_S]
                  exact hih
              have := key y.length 0 (by omega)
              simpa using this
        have key : ∀ n i, n + i = r.length → (∀ c ∈ r.take i, c ≠ 10) → Ev (fun k => bloomerylaw09_LexParts.l0 k (B a) (B b) (B r) i) true := by
          intro n
          induction n with
          | zero =>
            intro i hi hno
            have hi : i = r.length := by omega
            subst hi
            rw [List.take_length] at hno
            exact rest hno
          | succ n ih =>
            intro i hi hno
            have h1 : i < r.length := by omega
            refine Ev.step (fun k => by rw [bloomerylaw09_LexParts.l0]) (Ev.pos (by rw [B_size]; omega) (Ev.pos (by omega) ?_))
            rw [bt_nat r i h1, w64 (by omega) (by omega)]
            by_cases hc : r[i] = 10
            · exact Ev.pos (by rw [hc]; rfl) (Ev.now _)
            · refine Ev.neg (fun e => hc (toNat_eq.1 (e.trans rfl))) (ih (i + 1) (by omega) ?_)
              intro c hcc
              rw [List.take_succ_eq_append_getElem h1] at hcc
              rcases List.mem_append.1 hcc with hcc | hcc
              · exact hno c hcc
              · rw [List.mem_singleton.1 hcc]; exact hc
        exact key r.length 0 (by omega) (by simp)
end Go.Proofs.YtannlhonjkhchaaGreatDoor.G
namespace Go.Proofs.YtannlhonjkhchaaGreatDoor
open Go.RowKit Go.Gw Go.Proofs.YtannlhonjkhchaaGreatDoorW.PrintWords G
theorem LexParts_row (a b r : ByteArray) (w : World) (_ : Tab Tryz.prog w) (E : Errs Tryz.prog w) (_ : a.size ≤ 140737488351232) (_ : b.size ≤ 140737488351232) (_ : r.size ≤ 140737488351232) :
    Calls Tryz.prog 6 #[.string a, .string b, .string r] w fun e w' => e = .returned (.bool true) ∧ Below w.heap.size w w' := by
  obtain ⟨k, hk⟩ := (LexParts_ev a.data.toList b.data.toList r.data.toList).rounds
  rw [B_of, B_of, B_of] at hk
  exact bloomerylaw09_LexParts.calls k a b r true w ⟨E⟩ hk
end Go.Proofs.YtannlhonjkhchaaGreatDoor

/- How a value that came in reads as one of a kind, and how great it is. Of no program. -/
namespace Go.Proofs.YtannlhonjkhchaaGreatDoor
open Go.RowKit Go.Gw Go.Proofs.YtannlhonjkhchaaGreatDoorW.PrintWords
set_option linter.unusedVariables false

/-- Whatever reads as data of type t, so deep, is of the kind d; Bd: how great it is. -/
def Opens (P : Program) (n : Nat) (t : TypeId) {α : Type} (d : Kd α) (Bd : α → Prop) : Prop :=
  ∀ {H : Type} (enc : TypeId × Value → H) (w : World) (base : Nat) (spare : Nat → Bool) (held : Bool) (fuel : Nat) (cs : List Value) (y : DataW H × List MemPlace), fuel ≤ n →
    DataW.trod enc P w base spare held fuel t cs = some y → (y.1.weights P t).all (· ≤ reachBytes) = true → ∃ x, d.K w x cs ∧ Bd x

def strBd (s : ByteArray) : Prop := s.size ≤ 140737488351232
def intBd (k : IntKind) (n : Int) : Prop := (Lit.int k n).wf = true
def rowBd {α : Type} (B : Nat) (Bd : α → Prop) (l : List α) : Prop := l.length * B ≤ 140737488351232 ∧ ∀ x ∈ l, Bd x

theorem opens_string {P : Program} {n : Nat} {t : TypeId} (ht : P.underlying t = some .string) : Opens P n t Kd.string strBd := by
  intro H enc w base spare held fuel cs y _ h hw
  obtain ⟨s, rfl, rfl, _⟩ := DataW.trod_string ht h
  refine ⟨s, rfl, ?_⟩
  simp only [DataW.weights, List.all_cons, List.all_nil, Bool.and_true, reachBytes, data_length] at hw
  show s.size ≤ 140737488351232
  exact of_decide_eq_true hw
theorem opens_int {P : Program} {n : Nat} {t : TypeId} {k : IntKind} (ht : P.underlying t = some (.int k)) : Opens P n t (Kd.int k) (intBd k) := by
  intro H enc w base spare held fuel cs y _ h hw
  obtain ⟨m, rfl, rfl, hwf⟩ := DataW.trod_int ht h
  exact ⟨m, rfl, hwf⟩
theorem weightsAll_mem {H : Type} {P : Program} {e : TypeId} : ∀ (l : List (DataW H)) (d : DataW H), d ∈ l → ∀ q ∈ d.weights P e, q ∈ DataW.weightsAll P e l := by
  intro l
  induction l with
  | nil => intro d h; cases h
  | cons x l ih =>
    intro d h q hq
    rw [DataW.weightsAll, List.mem_append]
    rcases List.mem_cons.1 h with rfl | h
    · exact .inl hq
    · exact .inr (ih d h q hq)
theorem list_of {α : Type} {Q : Nat → α → Prop} : ∀ n, (∀ i, i < n → ∃ x, Q i x) → ∃ l : List α, l.length = n ∧ ∀ i x, l[i]? = some x → Q i x := by
  intro n
  induction n with
  | zero => intro _; exact ⟨[], rfl, fun i x h => by simp at h⟩
  | succ n ih =>
    intro h
    obtain ⟨l, hl, hq⟩ := ih (fun i hi => h i (by omega))
    obtain ⟨x, hx⟩ := h n (by omega)
    refine ⟨l ++ [x], by simp [hl], fun i y hy => ?_⟩
    rw [List.getElem?_append] at hy
    split at hy
    · exact hq i y hy
    · rename_i hi
      have : i = n := by
        rcases Nat.lt_or_ge (i - l.length) 1 with h1 | h1
        · omega
        · rw [List.getElem?_eq_none (by simpa using h1)] at hy; cases hy
      subst this
      simp [hl] at hy
      rw [← hy]
      exact hx
theorem opens_slice {P : Program} {n : Nat} {t e : TypeId} {α : Type} {d : Kd α} {Bd : α → Prop} {B : Nat} (ht : P.underlying t = some (.slice e)) (hc : P.cellsOf e = d.sz) (hB : P.bytesOf e = B) (hE : Opens P n e d Bd) :
    Opens P (n + 1) t (Kd.slice e d) (rowBd B Bd) := by
  intro H enc w base spare held fuel cs y hf h hw
  rcases DataW.trod_slice ht h with ⟨rfl, rfl⟩ | ⟨a, len, cap, elems, rest, m, rfl, rfl, rfl, hb, hl, hm, hlen, hel, _, _⟩
  · exact ⟨[], ⟨none, 0, rfl, Nat.le_refl _, ⟨rfl, Nat.zero_le _, fun h => absurd h (Nat.lt_irrefl 0)⟩⟩, ⟨by simp, by simp⟩⟩
  · have hw' : ((elems.length + rest.length) * B ≤ 140737488351232) ∧ ∀ q ∈ elems.map (·.1), ∀ z ∈ q.weights P e, z ≤ reachBytes := by
      simp only [DataW.weights, ht, List.all_cons, Bool.and_eq_true, decide_eq_true_eq, List.all_append, List.length_map, hB] at hw
      refine ⟨by simpa [reachBytes] using hw.1, fun q hq z hz => ?_⟩
      have := List.all_eq_true.1 hw.2.1 z (weightsAll_mem _ q hq z hz)
      simpa using this
    have each : ∀ i, i < len → ∃ x c, c.length = d.sz ∧ d.K w x c ∧ Bd x ∧ ∀ j u, c[j]? = some u → w.cell? (a.add (i * d.sz + j)) = some u := by
      intro i hi
      have h1 := hel i hi
      rw [List.getElem?_eq_getElem (by omega : i < elems.length), Option.bind_eq_some_iff] at h1
      obtain ⟨c, hcs, ht2⟩ := h1
      obtain ⟨x, hK, hBd⟩ := hE enc w base spare held m c elems[i] (by omega) ht2 (List.all_eq_true.2 fun z hz => by
        have := hw'.2 elems[i].1 (List.mem_map.2 ⟨_, List.getElem_mem (by omega : i < elems.length), rfl⟩) z hz
        simpa using this)
      refine ⟨x, c, d.K_len hK, hK, hBd, fun j u hu => ?_⟩
      rw [hc] at hcs
      have hj : j < d.sz := by
        have := (List.getElem?_eq_some_iff.1 hu).1
        rw [d.K_len hK] at this
        exact this
      have := (World.cells?_some hcs).2.2 j hj
      rw [hu, Addr.add_add] at this
      exact this
    obtain ⟨l, hll, hq⟩ := list_of len each
    refine ⟨l, ⟨some a, cap, by rw [hll], by omega, rfl, by rw [hll]; unfold maxLen at hm; omega, fun _ => ⟨a, rfl, fun j p hj => ?_⟩⟩, ?_, ?_⟩
    · obtain ⟨c, h1, h2, _, h4⟩ := hq j p hj
      exact ⟨c, h1, h2, h4⟩
    · rw [hll, ← hlen]
      exact Nat.le_trans (Nat.mul_le_mul_right _ (Nat.le_add_right _ _)) hw'.1
    · intro x hx
      obtain ⟨i, hi⟩ := List.getElem?_of_mem hx
      obtain ⟨_, _, _, h3, _⟩ := hq i x hi
      exact h3
/-- A slice's reading, as a walk takes it. -/
theorem C_of_slice {α : Type} {e : Nat} {d : Kd α} {w : World} {l : List α} {v : Value} (h : (Kd.slice e d).K w l [v]) : ∃ A c, v = .slice A l.length c ∧ l.length ≤ c ∧ d.C w A l.length l := by
  obtain ⟨A, c, e, h1, h2⟩ := h
  simp only [List.cons.injEq, and_true] at e
  exact ⟨A, c, e, h1, h2⟩
end Go.Proofs.YtannlhonjkhchaaGreatDoor
