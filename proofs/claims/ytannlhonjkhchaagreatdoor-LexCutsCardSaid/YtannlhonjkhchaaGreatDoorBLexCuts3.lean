/- Texts towards the law LexCuts, one behind the other: each begins with its own sentence. Conditions: each theorem's own. -/
import Derived.OpenShut
import Derived.ProofKit
import Derived.SizedLaws
import Derived.Test.YtannlhonjkhchaaGreatDoorBLexCuts0
import Derived.Test.YtannlhonjkhchaaGreatDoorBLexCuts2
import Derived.Test.YtannlhonjkhchaaGreatDoorBLexCuts1
import Derived.Test.YtannlhonjkhchaaGreatDoorWMore
/- Go functions as Lean functions, each with its contract: written by a program of mine over the kit's print. Conditions: each contract's own. -/
namespace Go.Proofs.YtannlhonjkhchaaGreatDoor.G
open Go.RowKit Go.Proofs.YtannlhonjkhchaaGreatDoorW.PrintWords Go.Proofs.YtannlhonjkhchaaGreatDoorW.PrintLast Go.Proofs.YtannlhonjkhchaaGreatDoorW.PrintMore
attribute [local go_sem] max2_int min2_int max_two min_two max_three min_three max_four min_four   -- for this text's walks alone
set_option linter.unusedVariables false
set_option linter.unusedSimpArgs false

/-! ### bloomeryref09_All: function 10 -/
def bloomeryref09_All.l0 : Nat → ByteArray → List (S33) → Int → Option ((List (S33)) × Int × Int × Int)
 | 0, _, _, _ => none
 | k + 1, x0, x5, x6 => if x6 < (x0.size : Int) then (if 0 ≤ x6 then (if x6 ≤ (x0.size : Int) then ((bloomeryref09_First.f k (x0.extract (x6 : Int).toNat x0.size)).bind fun bt188 => (if bt188.2.2.2 = 0 then (if bt188.1 > 0 then ((bloomeryref09_At.f k x0 x6).bind fun bt193 => (if x5.length < 3518437208883 then (bloomeryref09_All.l0 k x0 (x5 ++ [(⟨bt188.1, bt188.2.1, (⟨bt193.1, bt193.2⟩ : S26)⟩ : S33)]) (wrap64 (x6 + bt188.2.2.1))) else (none))) else (bloomeryref09_All.l0 k x0 x5 (wrap64 (x6 + bt188.2.2.1)))) else ((bloomeryref09_At.f k x0 x6).bind fun bt198 => (some (([] : List (S33)), bt188.2.2.2, bt198.1, bt198.2))))) else (none)) else (none)) else (some (x5, 0, 0, 0))
def bloomeryref09_All.f (k : Nat) (a0 : ByteArray) : Option ((List (S33)) × Int × Int × Int) := if (a0.size : Int) > 65536 then (some (([] : List (S33)), 6, 1, 1)) else (bloomeryref09_All.l0 k a0 ([] : List (S33)) 0)
def bloomeryref09_All.T8 : Bool × List (List Nat × List Nat) := (true, [([], []), ([0], [0]), ([], []), ([], []), ([2, 3], [2, 3]), ([4], []), ([1, 5, 0, 1, 5], [1]), ([4, 6, 0, 1, 2, 3, 4, 5, 6], [4])])
def bloomeryref09_All.B8 : List Nat := [0, 1, 0, 0, 12, 28, 63, 127]
theorem bloomeryref09_All.tab8 : rtab .any (opsOf Tryz.f10 8) = bloomeryref09_All.T8 := by kernel_rfl
theorem bloomeryref09_All.bits8 : waitsOk bloomeryref09_All.T8.2 bloomeryref09_All.B8 = true := by kernel_rfl
def bloomeryref09_All.T10 : Bool × List (List Nat × List Nat) := (true, [([], []), ([], []), ([1], [1]), ([], []), ([3], [3]), ([], []), ([], []), ([5, 6], [5, 6]), ([2, 4, 7], [2, 4, 7]), ([8], [8]), ([0, 9, 7], [0, 9]), ([10, 10, 0, 1, 2, 3, 4, 5, 6, 7, 8, 9, 10], [0, 10])])
def bloomeryref09_All.B10 : List Nat := [0, 0, 2, 0, 8, 0, 0, 96, 254, 510, 1023, 2047]
theorem bloomeryref09_All.tab10 : rtab .any (opsOf Tryz.f10 10) = bloomeryref09_All.T10 := by kernel_rfl
theorem bloomeryref09_All.bits10 : waitsOk bloomeryref09_All.T10.2 bloomeryref09_All.B10 = true := by kernel_rfl
set_option maxHeartbeats 8000000 in
set_option maxRecDepth 100000 in
theorem bloomeryref09_All.calls (k : Nat) (a0 : ByteArray) (r1 : List (S33)) (r2 : Int) (r3 : Int) (r4 : Int) (w : World) (h : bloomeryref09_All.f k a0 = some (r1, r2, r3, r4)) :
  Calls Tryz.prog 10 #[.string a0] w fun e w' => ∃ v0_ : Value, e = .returned (.tuple #[v0_, .int .i64 r2, .agg #[.int .i64 r3, .int .i64 r4]]) ∧ Kd.R k33 33 w' w.heap.size (fun _ => True) v0_ r1 ∧ Below w.heap.size w w' := by
 have hu26 := Tryz.underlying26
 have hu43 := Tryz.underlying43
 have hu33 := Tryz.underlying33
 have HB := Aside0.mk (Below.refl w.heap.size w)
 have H : (if (a0.size : Int) > 65536 then (some (([] : List (S33)), 6, 1, 1)) else (bloomeryref09_All.l0 k a0 ([] : List (S33)) 0)) = some (r1, r2, r3, r4) := h
 clear h
 by_cases c2 : (a0.size : Int) > 65536
 ·rw [if_pos c2] at H
  have c2b0 : decide (65536 < (a0.size : Int)) = true := decide_eq_true c2
  have c2b1 : decide (65536 < a0.size) = true := decide_eq_true (by omega)
  clear c2
  simp only [Option.some.injEq, Prod.mk.injEq] at H
  obtain ⟨rfl, rfl, rfl, rfl⟩ := H
  go_enter Tryz.func10, Tryz.ntmps10
  go_wp2_with (first | ((with_reducible refine gate_dst (N := 4) rfl ?_); refine box_event ?hg (N := 4) ?hd (cs := #[.int .i64 0, .int .i64 0]) (t := 26) ?hr ?_; (case hd => rfl); (case hg => rfl); (case hr => first | (go_simp; done) | (go_simp; rfl)); intro gb187 hg w3 hbox hb; have n0_ := Aside0.mk (below_step (by repeat (first | (with_reducible first | exact HB.out | apply below_alloc | apply pw_below_drewN | apply below_drew1) | exact HB.out)) hb); have n1_ := Aside0.mk (hbox); have n2_ := Aside0.mk ((by rw [hg]; exact (below_size (by repeat (first | (with_reducible first | exact HB.out | apply below_alloc | apply pw_below_drewN | apply below_drew1) | exact HB.out))) : w.heap.size ≤ gb187)); have n3_ := Aside0.mk ((by rw [hg]; exact (below_size (by repeat (first | (with_reducible first | exact HB.out | apply below_alloc | apply pw_below_drewN | apply below_drew1) | exact HB.out))) : w.heap.size ≤ gb187)); clear HB; have HB := n0_; have BK187 := n1_; have GW187 := n2_; have GE187 := n3_; clear n0_ n1_ n2_ n3_; clear hb hbox hg; have hcz4_0 : w3.cell? ⟨gb187, 0, none⟩ = some (.int .i64 0) := (blk_cell BK187.out 0).trans rfl; have hcz4_1 : w3.cell? ⟨gb187, 1, none⟩ = some (.int .i64 0) := (blk_cell BK187.out 1).trans rfl; have hfz4_0 := blk_frozen BK187.out 0; have hfz4_1 := blk_frozen BK187.out 1))
  refine bodyPost_ret (results_list (rs := [.tmp 2, .tmp 3, .cell 4 26]) rfl (by simp) (.tmp (.tmp (.cell gb187 26 #[.int .i64 1, .int .i64 1] (0, 0) _ rfl (by (with_reducible repeat (first | refine blk_drewN ?_ _ | refine blk_drew ?_ | refine blk_alloc ?_ _)); refine blk_put (cs := #[.int .i64 1, .int .i64 0]) ?_ 1 _ rfl; (with_reducible repeat (first | refine blk_drewN ?_ _ | refine blk_drew ?_ | refine blk_alloc ?_ _)); refine blk_put (cs := #[.int .i64 0, .int .i64 0]) ?_ 0 _ rfl; (with_reducible repeat (first | refine blk_drewN ?_ _ | refine blk_drew ?_ | refine blk_alloc ?_ _)); exact BK187.out) Tryz.underlying26 rfl (by kernel_rfl) .nil)))) rfl ?_
  exact ⟨_, by first | rfl | (simp [errW_none, errW_some] <;> rfl) | (simp [*, errW_none, errW_some] <;> rfl), by first | exact Kd.R_nil _ _ _ _ _ | exact Kd.N_nil _ _ _ _ _ | exact Kd.V_nil _ _ _ _ _ | exact Kd.Q_nil _ _ _ _ _ | exact Kd.S_nil _ _ _ _ _, by repeat (first | (with_reducible first | exact HB.out | apply below_alloc | apply pw_below_drewN | apply below_drew1 | refine below_set ?_ GE187.out) | exact HB.out)⟩
 ·rw [if_neg c2] at H
  have c2b0 : decide (65536 < (a0.size : Int)) = false := decide_eq_false c2
  have c2b1 : decide (65536 < a0.size) = false := decide_eq_false (by omega)
  clear c2
  have H' := Aside0.mk H
  clear H
  go_enter Tryz.func10, Tryz.ntmps10
  go_wp2_with (first | ((with_reducible refine gate_dst (N := 4) rfl ?_); refine box_event ?hg (N := 4) ?hd (cs := #[.int .i64 0, .int .i64 0]) (t := 26) ?hr ?_; (case hd => rfl); (case hg => rfl); (case hr => first | (go_simp; done) | (go_simp; rfl)); intro gb187 hg w5 hbox hb; have n0_ := Aside0.mk (below_step (by repeat (first | (with_reducible first | exact HB.out | apply below_alloc | apply pw_below_drewN | apply below_drew1) | exact HB.out)) hb); have n1_ := Aside0.mk (hbox); have n2_ := Aside0.mk ((by rw [hg]; exact (below_size (by repeat (first | (with_reducible first | exact HB.out | apply below_alloc | apply pw_below_drewN | apply below_drew1) | exact HB.out))) : w.heap.size ≤ gb187)); have n3_ := Aside0.mk ((by rw [hg]; exact (below_size (by repeat (first | (with_reducible first | exact HB.out | apply below_alloc | apply pw_below_drewN | apply below_drew1) | exact HB.out))) : w.heap.size ≤ gb187)); clear HB; have HB := n0_; have BK187 := n1_; have GW187 := n2_; have GE187 := n3_; clear n0_ n1_ n2_ n3_; clear hb hbox hg))
  go_loopg [5, 6] k (fun kq v5 v6 w' => ∃ (x5_1 : List (S33)) (x6_1 : Int) (x188000_1 : Int) (x188001_1 : Int), v6 = .int .i64 x6_1 ∧ Aside0 (bloomeryref09_All.l0 kq a0 x5_1 x6_1 = some (r1, r2, r3, r4)) ∧ Aside0 (kq ≤ k) ∧ Aside0 (Kd.R k33 33 w' w.heap.size (fun _ => True) v5 x5_1) ∧ Aside0 (w'.heap[gb187]? = some (.cells #[.int .i64 x188000_1, .int .i64 x188001_1] 26 (0, 0))) ∧ Aside0 (Below w.heap.size w w'))
  case atStart => exact ⟨(([] : List (S33))), (0), (0), (0), (by first | rfl | (simp; done) | (simp [*]; done)), (by first | exact H' | (subst_vars; exact H')), ⟨Nat.le_refl _⟩, ⟨by first | exact Kd.R_nil _ _ _ _ _ | exact Kd.N_nil _ _ _ _ _ | exact Kd.V_nil _ _ _ _ _ | exact Kd.Q_nil _ _ _ _ _ | exact Kd.S_nil _ _ _ _ _⟩, ⟨by (with_reducible repeat (first | refine blk_drewN ?_ _ | refine blk_drew ?_ | refine blk_alloc ?_ _)); exact BK187.out⟩, ⟨by repeat (first | (with_reducible first | exact HB.out | apply below_alloc | apply pw_below_drewN | apply below_drew1 | refine below_set ?_ GE187.out) | exact HB.out)⟩⟩
  case round =>
   clear H'
   try clear c1
   try clear c2
   try clear c2b0
   try clear c2b1
   try clear p2
   try clear hcz4_0
   try clear hcz4_1
   try clear hfz4_0
   try clear hfz4_1
   obtain ⟨x5_1, x6_1, x188000_1, x188001_1, rfl, HA, HK1, HO_5, BK187, HB⟩ := hrel
   cases gk with
   | zero => exact absurd HA.out (by simp [bloomeryref09_All.l0])
   | succ k1 =>
    have H := HA.out
    clear HA
    simp only [bloomeryref09_All.l0] at H
    by_cases c6 : x6_1 < (a0.size : Int)
    ·rw [if_pos c6] at H
     have c6b0 : decide (x6_1 < (a0.size : Int)) = true := decide_eq_true c6
     clear c6
     by_cases c7 : 0 ≤ x6_1
     ·rw [if_pos c7] at H
      have c7b0 := eq_true c7
      have c7b1 : decide (0 ≤ x6_1) = true := decide_eq_true c7
      clear c7
      by_cases c8 : x6_1 ≤ (a0.size : Int)
      ·rw [if_pos c8] at H
       have c8b0 := eq_true c8
       have c8b1 : decide (x6_1 ≤ (a0.size : Int)) = true := decide_eq_true c8
       clear c8
       replace H := Option.bind_eq_some_iff.mp H
       obtain ⟨⟨t188, t189, t190, t191⟩, A90, H⟩ := H
       replace H : (if t191 = 0 then (if t188 > 0 then ((bloomeryref09_At.f k1 a0 x6_1).bind fun bt193 => (if x5_1.length < 3518437208883 then (bloomeryref09_All.l0 k1 a0 (x5_1 ++ [(⟨t188, t189, (⟨bt193.1, bt193.2⟩ : S26)⟩ : S33)]) (wrap64 (x6_1 + t190))) else (none))) else (bloomeryref09_All.l0 k1 a0 x5_1 (wrap64 (x6_1 + t190)))) else ((bloomeryref09_At.f k1 a0 x6_1).bind fun bt198 => (some (([] : List (S33)), t191, bt198.1, bt198.2)))) = some (r1, r2, r3, r4) := H
       have A9 := Aside0.mk A90
       clear A90
       by_cases c10 : t191 = 0
       ·rw [if_pos c10] at H
        have c10b0 : (t191 == 0) = true := beq_iff_eq.mpr c10
        have c10b1 : (t191 != 0) = false := bne_eq_false_iff_eq.mpr c10
        clear c10
        by_cases c11 : t188 > 0
        ·rw [if_pos c11] at H
         have c11b0 : decide (0 < t188) = true := decide_eq_true c11
         clear c11
         replace H := Option.bind_eq_some_iff.mp H
         obtain ⟨⟨t193, t194⟩, A120, H⟩ := H
         replace H : (if x5_1.length < 3518437208883 then (bloomeryref09_All.l0 k1 a0 (x5_1 ++ [(⟨t188, t189, (⟨t193, t194⟩ : S26)⟩ : S33)]) (wrap64 (x6_1 + t190))) else (none)) = some (r1, r2, r3, r4) := H
         have A12 := Aside0.mk A120
         clear A120
         by_cases c13 : x5_1.length < 3518437208883
         ·rw [if_pos c13] at H
          have LMc13 := Aside0.mk c13
          clear c13
          obtain ⟨y195, hy195⟩ : ∃ y_ : List (S33), y_ = (x5_1 ++ [(⟨t188, t189, (⟨t193, t194⟩ : S26)⟩ : S33)]) := ⟨_, rfl⟩
          replace H : (bloomeryref09_All.l0 k1 a0 y195 (wrap64 (x6_1 + t190))) = some (r1, r2, r3, r4) := by first | (rw [hy195]; with_reducible exact H) | (have H2_ := (Option.bind_some _ _).symm.trans H; rw [hy195]; with_reducible exact H2_) | (have H2_ := (Option.bind_some _ _).symm.trans H; with_reducible exact H2_) | with_reducible exact H | (rw [hy195]; exact H) | exact H
          have Ny195 := Aside0.mk hy195
          clear hy195
          have H' := Aside0.mk H
          clear H
          try go_wp2_with (first | ((with_reducible refine gate_callee (f := 18) rfl ?_); refine goesL_ (some 19) rfl rfl Tryz.func18 (by kernel_rfl) rfl #[.string (a0.extract (x6_1 : Int).toNat a0.size)] rfl (by (try simp only [List.map_toArray, List.map_cons, List.map_nil]); first | done | rfl | (simp only [List.length_drop, List.length_take]; rfl)) ?_; (with_reducible refine (bloomeryref09_First.calls k1 (a0.extract (x6_1 : Int).toNat a0.size) t188 t189 t190 t191 _ A9.out).mono ?_); rintro e w14 ⟨rfl, hb⟩; refine ⟨_, rfl, ?_⟩; have n0_ := Aside0.mk (Kd.R_below (by (with_reducible repeat (first | apply Kd.R_alloc | apply Kd.R_drewN | apply Kd.R_drew)); exact HO_5.out) hb); have n1_ := Aside0.mk (blk_below (g := gb187) (o := .cells #[.int .i64 x188000_1, .int .i64 x188001_1] 26 (0, 0)) (by (with_reducible repeat (first | refine blk_drewN ?_ _ | refine blk_drew ?_ | refine blk_alloc ?_ _)); exact BK187.out) hb); have n2_ := Aside0.mk (below_step (by repeat (first | (with_reducible first | exact HB.out | apply below_alloc | apply pw_below_drewN | apply below_drew1 | refine below_set ?_ GE187.out) | exact HB.out)) hb); clear HO_5; clear BK187; clear HB; have HO_5 := n0_; have BK187 := n1_; have HB := n2_; clear n0_ n1_ n2_; (try clear hb); (try clear hb2); (try clear hk); (try clear hi)) | ((with_reducible refine gate_dst (N := 7) rfl ?_); refine box_event ?hg (N := 7) ?hd (cs := #[.int .i64 0, .string (⟨#[]⟩ : ByteArray), .int .i64 0, .int .i64 0]) (t := 43) ?hr ?_; (case hd => rfl); (case hg => rfl); (case hr => first | (go_simp; done) | (go_simp; rfl)); intro gb192 hg w15 hbox hb; have n0_ := Aside0.mk (Kd.R_below (by (with_reducible repeat (first | apply Kd.R_alloc | apply Kd.R_drewN | apply Kd.R_drew)); exact HO_5.out) hb); have n1_ := Aside0.mk (blk_below (g := gb187) (o := .cells #[.int .i64 x188000_1, .int .i64 x188001_1] 26 (0, 0)) (by (with_reducible repeat (first | refine blk_drewN ?_ _ | refine blk_drew ?_ | refine blk_alloc ?_ _)); exact BK187.out) hb); have n2_ := Aside0.mk (below_step (by repeat (first | (with_reducible first | exact HB.out | apply below_alloc | apply pw_below_drewN | apply below_drew1 | refine below_set ?_ GE187.out) | exact HB.out)) hb); have n3_ := Aside0.mk (hbox); have n4_ := Aside0.mk ((by rw [hg]; exact (below_size (by repeat (first | (with_reducible first | exact HB.out | apply below_alloc | apply pw_below_drewN | apply below_drew1 | refine below_set ?_ GE187.out) | exact HB.out))) : w.heap.size ≤ gb192)); have n5_ := Aside0.mk ((by rw [hg]; exact (below_size (by repeat (first | (with_reducible first | exact HB.out | apply below_alloc | apply pw_below_drewN | apply below_drew1 | refine below_set ?_ GE187.out) | exact HB.out))) : w.heap.size ≤ gb192)); have n6_ := Aside0.mk ((by rw [hg]; exact Nat.ne_of_lt (blk_lt (g := gb187) (o := .cells #[.int .i64 x188000_1, .int .i64 x188001_1] 26 (0, 0)) (by (with_reducible repeat (first | refine blk_drewN ?_ _ | refine blk_drew ?_ | refine blk_alloc ?_ _)); exact BK187.out)) : gb187 ≠ gb192)); have n7_ := Aside0.mk ((by rw [hg]; exact Nat.ne_of_gt (blk_lt (g := gb187) (o := .cells #[.int .i64 x188000_1, .int .i64 x188001_1] 26 (0, 0)) (by (with_reducible repeat (first | refine blk_drewN ?_ _ | refine blk_drew ?_ | refine blk_alloc ?_ _)); exact BK187.out)) : gb192 ≠ gb187)); clear HO_5; clear BK187; clear HB; have HO_5 := n0_; have BK187 := n1_; have HB := n2_; have BK192 := n3_; have GW192 := n4_; have GE192 := n5_; have NB187_192 := n6_; have NB192_187 := n7_; clear n0_ n1_ n2_ n3_ n4_ n5_ n6_ n7_; clear hb hbox hg; have hnb16 := NB192_187.out; have hnc16 := NB187_192.out; have hcz17_0 : w15.cell? ⟨gb192, 0, none⟩ = some (.int .i64 0) := (blk_cell BK192.out 0).trans rfl; have hcz17_1 : w15.cell? ⟨gb192, 1, none⟩ = some (.string (⟨#[]⟩ : ByteArray)) := (blk_cell BK192.out 1).trans rfl; have hcz17_2 : w15.cell? ⟨gb192, 2, none⟩ = some (.int .i64 0) := (blk_cell BK192.out 2).trans rfl; have hcz17_3 : w15.cell? ⟨gb192, 3, none⟩ = some (.int .i64 0) := (blk_cell BK192.out 3).trans rfl; have hfz17_0 := blk_frozen BK192.out 0; have hfz17_1 := blk_frozen BK192.out 1; have hfz17_2 := blk_frozen BK192.out 2; have hfz17_3 := blk_frozen BK192.out 3))
          have n0_ : Aside0 (Kd.R k33 33 ((((w15.setCell ⟨gb192, 0, none⟩ (.int .i64 t188)).setCell ⟨gb192, 1, none⟩ (.string t189)).setCell ⟨gb192, 2, none⟩ (.int .i64 t190)).setCell ⟨gb192, 3, none⟩ (.int .i64 t191)) w.heap.size (fun _ => True) u5 x5_1) := ⟨by (with_reducible repeat (first | apply Kd.R_alloc | apply Kd.R_drewN | apply Kd.R_drew)); exact Kd.R_mono (Kd.R_far (p := ⟨gb192, 3, none⟩) (Kd.R_far (p := ⟨gb192, 2, none⟩) (Kd.R_far (p := ⟨gb192, 1, none⟩) (Kd.R_far (p := ⟨gb192, 0, none⟩) (Kd.R_types HO_5.out BK192.out (by decide)) (fun _ hk => hk.2) (.int .i64 t188)) (fun _ hk => hk.2) (.string t189)) (fun _ hk => hk.2) (.int .i64 t190)) (fun _ hk => hk.2) (.int .i64 t191)) (fun _ hk => trivial)⟩
          have n1_ : Aside0 (((((w15.setCell ⟨gb192, 0, none⟩ (.int .i64 t188)).setCell ⟨gb192, 1, none⟩ (.string t189)).setCell ⟨gb192, 2, none⟩ (.int .i64 t190)).setCell ⟨gb192, 3, none⟩ (.int .i64 t191)).heap[gb187]? = some (.cells #[.int .i64 x188000_1, .int .i64 x188001_1] 26 (0, 0))) := ⟨by (with_reducible repeat (first | refine blk_drewN ?_ _ | refine blk_drew ?_ | refine blk_alloc ?_ _)); refine blk_far ?_ NB187_192.out _; (with_reducible repeat (first | refine blk_drewN ?_ _ | refine blk_drew ?_ | refine blk_alloc ?_ _)); refine blk_far ?_ NB187_192.out _; (with_reducible repeat (first | refine blk_drewN ?_ _ | refine blk_drew ?_ | refine blk_alloc ?_ _)); refine blk_far ?_ NB187_192.out _; (with_reducible repeat (first | refine blk_drewN ?_ _ | refine blk_drew ?_ | refine blk_alloc ?_ _)); refine blk_far ?_ NB187_192.out _; (with_reducible repeat (first | refine blk_drewN ?_ _ | refine blk_drew ?_ | refine blk_alloc ?_ _)); exact BK187.out⟩
          have n2_ : Aside0 (((((w15.setCell ⟨gb192, 0, none⟩ (.int .i64 t188)).setCell ⟨gb192, 1, none⟩ (.string t189)).setCell ⟨gb192, 2, none⟩ (.int .i64 t190)).setCell ⟨gb192, 3, none⟩ (.int .i64 t191)).heap[gb192]? = some (.cells #[.int .i64 t188, .string t189, .int .i64 t190, .int .i64 t191] 43 (0, 0))) := ⟨by (with_reducible repeat (first | refine blk_drewN ?_ _ | refine blk_drew ?_ | refine blk_alloc ?_ _)); refine blk_put (cs := #[.int .i64 t188, .string t189, .int .i64 t190, .int .i64 0]) ?_ 3 _ rfl; (with_reducible repeat (first | refine blk_drewN ?_ _ | refine blk_drew ?_ | refine blk_alloc ?_ _)); refine blk_put (cs := #[.int .i64 t188, .string t189, .int .i64 0, .int .i64 0]) ?_ 2 _ rfl; (with_reducible repeat (first | refine blk_drewN ?_ _ | refine blk_drew ?_ | refine blk_alloc ?_ _)); refine blk_put (cs := #[.int .i64 t188, .string (⟨#[]⟩ : ByteArray), .int .i64 0, .int .i64 0]) ?_ 1 _ rfl; (with_reducible repeat (first | refine blk_drewN ?_ _ | refine blk_drew ?_ | refine blk_alloc ?_ _)); refine blk_put (cs := #[.int .i64 0, .string (⟨#[]⟩ : ByteArray), .int .i64 0, .int .i64 0]) ?_ 0 _ rfl; (with_reducible repeat (first | refine blk_drewN ?_ _ | refine blk_drew ?_ | refine blk_alloc ?_ _)); exact BK192.out⟩
          have n3_ : Aside0 (Below w.heap.size w ((((w15.setCell ⟨gb192, 0, none⟩ (.int .i64 t188)).setCell ⟨gb192, 1, none⟩ (.string t189)).setCell ⟨gb192, 2, none⟩ (.int .i64 t190)).setCell ⟨gb192, 3, none⟩ (.int .i64 t191))) := ⟨by repeat (first | (with_reducible first | exact HB.out | apply below_alloc | apply pw_below_drewN | apply below_drew1 | refine below_set ?_ GE187.out | refine below_set ?_ GE192.out) | exact HB.out)⟩
          (try clear HO_5)
          (try clear BK187)
          (try clear BK192)
          (try clear HB)
          generalize ((((w15.setCell ⟨gb192, 0, none⟩ (.int .i64 t188)).setCell ⟨gb192, 1, none⟩ (.string t189)).setCell ⟨gb192, 2, none⟩ (.int .i64 t190)).setCell ⟨gb192, 3, none⟩ (.int .i64 t191)) = w18 at n0_ n1_ n2_ n3_ ⊢
          have HO_5 := n0_
          have BK187 := n1_
          have BK192 := n2_
          have HB := n3_
          clear n0_ n1_ n2_ n3_
          have n0_ := Aside0.mk (Kd.R_drew HO_5.out)
          have n1_ := Aside0.mk (blk_drew BK187.out)
          have n2_ := Aside0.mk (blk_drew BK192.out)
          have n3_ := Aside0.mk (below_drew1 HB.out)
          clear HO_5
          clear BK187
          clear BK192
          clear HB
          have HO_5 := n0_
          have BK187 := n1_
          have BK192 := n2_
          have HB := n3_
          clear n0_ n1_ n2_ n3_
          refine start_ (n := 12) (S := fun w' => w'.cell? ⟨gb192, 0, none⟩ = some (.int .i64 t188) ∧ w'.cell? ⟨gb192, 1, none⟩ = some (.string t189) ∧ w'.cell? ⟨gb192, 2, none⟩ = some (.int .i64 t190) ∧ w'.cell? ⟨gb192, 3, none⟩ = some (.int .i64 t191)) (ds := []) #[false, false, false, false, false, false, false, false, false, false, false, false] (by kernel_rfl) rfl rfl ⟨(blk_cell BK192.out 0).trans rfl, (blk_cell BK192.out 1).trans rfl, (blk_cell BK192.out 2).trans rfl, (blk_cell BK192.out 3).trans rfl⟩ (fun hHeld => ?_); refine with_tabW bloomeryref09_All.tab10 bloomeryref09_All.bits10 (fun HT_ HW_ => ?_)
          generalize w18.drew = w19 at HO_5 BK187 BK192 HB hHeld ⊢
          refine pure_ (i := 0) (N := some 31) (v := ?_) (a' := ?_) #[true, false, false, false, false, false, false, false, false, false, false, false] rfl rfl (any_of HT_.out (by kernel_rfl)) (fun _ _ _ h => h) (Or.inl ⟨by rfl, ?_⟩) ?_ ?_
          rotate_left
          ·intro w'
           go_simp
           with_reducible rfl
          rotate_left
          ·simp only [Act.put, List.setIfInBounds_toArray, List.set_cons_zero, List.set_cons_succ, i64_w, i32_w]
           rfl
          refine pure_ (i := 1) (N := some 32) (v := ?_) (a' := ?_) #[true, true, false, false, false, false, false, false, false, false, false, false] rfl rfl (any_of HT_.out (by kernel_rfl)) (fun _ _ _ h => h) (Or.inl ⟨by rfl, ?_⟩) ?_ ?_
          rotate_left
          ·intro w'
           go_simp
           with_reducible rfl
          rotate_left
          ·simp only [Act.put, List.setIfInBounds_toArray, List.set_cons_zero, List.set_cons_succ, i64_w, i32_w]
           rfl
          refine pure_ (i := 3) (N := some 34) (v := ?_) (a' := ?_) #[true, true, false, true, false, false, false, false, false, false, false, false] rfl rfl (any_of HT_.out (by kernel_rfl)) (fun _ _ _ h => h) (Or.inl ⟨by rfl, ?_⟩) ?_ ?_
          rotate_left
          ·intro w'
           go_simp
           with_reducible rfl
          rotate_left
          ·simp only [Act.put, List.setIfInBounds_toArray, List.set_cons_zero, List.set_cons_succ, i64_w, i32_w]
           rfl
          refine pure_ (i := 5) (N := some 36) (v := ?_) (a' := ?_) #[true, true, false, true, false, true, false, false, false, false, false, false] rfl rfl (any_of HT_.out (by kernel_rfl)) (fun _ _ _ h => h) (Or.inl ⟨by rfl, ?_⟩) ?_ ?_
          rotate_left
          ·intro w'
           go_simp
           with_reducible rfl
          rotate_left
          ·simp only [Act.put, List.setIfInBounds_toArray, List.set_cons_zero, List.set_cons_succ, i64_w, i32_w]
           rfl
          refine pure_ (i := 6) (N := some 37) (v := ?_) (a' := ?_) #[true, true, false, true, false, true, true, false, false, false, false, false] rfl rfl (any_of HT_.out (by kernel_rfl)) (fun _ _ _ h => h) (Or.inl ⟨by rfl, ?_⟩) ?_ ?_
          rotate_left
          ·intro w'
           go_simp
           with_reducible rfl
          rotate_left
          ·simp only [Act.put, List.setIfInBounds_toArray, List.set_cons_zero, List.set_cons_succ, i64_w, i32_w]
           rfl
          refine take_ (i := 2) (N := some 33) (v := ?_) (a' := ?_) #[true, true, true, true, false, true, true, false, false, false, false, false] rfl rfl (take_ofW HT_.out HW_.out (by kernel_rfl)) (fun _ _ _ h => h) (Or.inl ⟨by rfl, ?_⟩) hHeld ?_ ?_
          rotate_left
          ·rintro w' ⟨s0, s1, s2, s3⟩
           go_simp
           with_reducible rfl
          rotate_left
          ·simp only [Act.put, List.setIfInBounds_toArray, List.set_cons_zero, List.set_cons_succ, i64_w, i32_w]
           rfl
          refine take_ (i := 4) (N := some 35) (v := ?_) (a' := ?_) #[true, true, true, true, true, true, true, false, false, false, false, false] rfl rfl (take_ofW HT_.out HW_.out (by kernel_rfl)) (fun _ _ _ h => h) (Or.inl ⟨by rfl, ?_⟩) hHeld ?_ ?_
          rotate_left
          ·rintro w' ⟨s0, s1, s2, s3⟩
           go_simp
           with_reducible rfl
          rotate_left
          ·simp only [Act.put, List.setIfInBounds_toArray, List.set_cons_zero, List.set_cons_succ, i64_w, i32_w]
           rfl
          refine one_ (i := 7) (N := some 38) #[true, true, true, true, true, true, true, true, false, false, false, false] rfl rfl (one_of HT_.out (by kernel_rfl)) (by decide) (fun K hK => ?_)
          refine goes_ Tryz.func15 (by kernel_rfl) rfl #[.string a0, .int .i64 x6_1] (by rfl) rfl rfl (by (try simp only [List.map_toArray, List.map_cons, List.map_nil]); first | done | rfl | (simp only [List.length_drop, List.length_take]; rfl)) ?_
          with_reducible refine (bloomeryref09_At.calls k1 a0 x6_1 t193 t194 _ A12.out).mono ?_
          rintro e w20 ⟨rfl, hb⟩
          refine ⟨_, rfl, ?_⟩
          have n0_ := Aside0.mk (Kd.R_below (by (with_reducible repeat (first | apply Kd.R_alloc | apply Kd.R_drewN | apply Kd.R_drew)); exact HO_5.out) hb)
          have n1_ := Aside0.mk (blk_below (g := gb187) (o := .cells #[.int .i64 x188000_1, .int .i64 x188001_1] 26 (0, 0)) (by (with_reducible repeat (first | refine blk_drewN ?_ _ | refine blk_drew ?_ | refine blk_alloc ?_ _)); exact BK187.out) hb)
          have n2_ := Aside0.mk (blk_below (g := gb192) (o := .cells #[.int .i64 t188, .string t189, .int .i64 t190, .int .i64 t191] 43 (0, 0)) (by (with_reducible repeat (first | refine blk_drewN ?_ _ | refine blk_drew ?_ | refine blk_alloc ?_ _)); exact BK192.out) hb)
          have n3_ := Aside0.mk (below_step (by repeat (first | (with_reducible first | exact HB.out | apply below_alloc | apply pw_below_drewN | apply below_drew1 | refine below_set ?_ GE187.out | refine below_set ?_ GE192.out) | exact HB.out)) hb)
          clear HO_5
          clear BK187
          clear BK192
          clear HB
          have HO_5 := n0_
          have BK187 := n1_
          have BK192 := n2_
          have HB := n3_
          clear n0_ n1_ n2_ n3_
          (try clear hb)
          (try clear hb2)
          (try clear hk)
          (try clear hi)
          refine hK.out _ _ ⟨(blk_cell BK192.out 0).trans rfl, (blk_cell BK192.out 1).trans rfl, (blk_cell BK192.out 2).trans rfl, (blk_cell BK192.out 3).trans rfl⟩ (fun hHeld => ?_)
          clear hK K
          refine norm_ (a' := ?_) ?_ ?_
          rotate_left
          ·show Act.put _ (some 38) _ = _
           simp only [Act.put, List.setIfInBounds_toArray, List.set_cons_zero, List.set_cons_succ, i64_w, i32_w]
           rfl
          refine pure_ (i := 8) (N := some 39) (v := ?_) (a' := ?_) #[true, true, true, true, true, true, true, true, true, false, false, false] rfl rfl (any_of HT_.out (by kernel_rfl)) (fun _ _ _ h => h) (Or.inl ⟨by rfl, ?_⟩) ?_ ?_
          rotate_left
          ·intro w'
           go_simp
           with_reducible rfl
          rotate_left
          ·simp only [Act.put, List.setIfInBounds_toArray, List.set_cons_zero, List.set_cons_succ, i64_w, i32_w]
           rfl
          refine one_ (i := 9) (N := some 40) #[true, true, true, true, true, true, true, true, true, true, false, false] rfl rfl (one_of HT_.out (by kernel_rfl)) (by decide) (fun K hK => ?_)
          refine value_ (w1 := ?_) (v := ?_) (by rfl) rfl ?_ ?_
          rotate_left 2
          ·go_simp
           constructor
           ·rfl
           ·rfl
          refine hK.out _ _ ⟨(blk_cell (blk_alloc BK192.out _) 0).trans rfl, (blk_cell (blk_alloc BK192.out _) 1).trans rfl, (blk_cell (blk_alloc BK192.out _) 2).trans rfl, (blk_cell (blk_alloc BK192.out _) 3).trans rfl⟩ (fun hHeld => ?_)
          clear hK K
          refine norm_ (a' := ?_) ?_ ?_
          rotate_left
          ·show Act.put _ (some 40) _ = _
           simp only [Act.put, List.setIfInBounds_toArray, List.set_cons_zero, List.set_cons_succ, i64_w, i32_w]
           rfl
          refine one_ (i := 10) (N := some 41) #[true, true, true, true, true, true, true, true, true, true, true, false] rfl rfl (one_of HT_.out (by kernel_rfl)) (by decide) (fun K hK => ?_)
          refine Kd.R_append_step k33 (w0 := w) w.heap.size (by rfl) (.tmp 31) (.tmp 40) 23 33 (.agg #[(.int .i64 0), (.string ⟨#[]⟩), (.int .i64 0), (.int .i64 0)]) 40 rfl Tryz.underlying23 info33 rfl (by decide) (by omega) u5 x5_1 (⟨t188, t189, (⟨t193, t194⟩ : S26)⟩ : S33) [.int .i64 t188, .string t189, .int .i64 t193, .int .i64 t194] (fun _ => True) (fun _ => False) rfl rfl ?aP (fun _ hk => hk.elim) ?aF ?aO ?aB ?aS ?aL ?_
          (case aP => exact k33_mkM _ _ _ (⟨t188, t189, (⟨t193, t194⟩ : S26)⟩ : S33))
          (case aB => exact (by repeat (first | (with_reducible first | exact HB.out | apply below_alloc | apply pw_below_drewN | apply below_drew1 | refine below_set ?_ GE187.out | refine below_set ?_ GE192.out) | exact HB.out)))
          (case aF => exact (fun _ _ => trivial))
          (case aO => exact (by (with_reducible repeat (first | apply Kd.R_alloc | apply Kd.R_drewN | apply Kd.R_drew)); exact HO_5.out))
          (case aS => exact (below_size (by repeat (first | (with_reducible first | exact HB.out | apply below_alloc | apply pw_below_drewN | apply below_drew1 | refine below_set ?_ GE187.out | refine below_set ?_ GE192.out) | exact HB.out))))
          (case aL => have := LMc13.out; omega)
          intro v196 w21 ho hb hg hat
          rw [← Ny195.out] at ho
          have n0_ := Aside0.mk (blk_grown (g := gb187) (o := .cells #[.int .i64 x188000_1, .int .i64 x188001_1] 26 (0, 0)) (by (with_reducible repeat (first | refine blk_drewN ?_ _ | refine blk_drew ?_ | refine blk_alloc ?_ _)); exact BK187.out) hg (Kd.R_ne HO_5.out BK187.out (by decide)))
          have n1_ := Aside0.mk (blk_grown (g := gb192) (o := .cells #[.int .i64 t188, .string t189, .int .i64 t190, .int .i64 t191] 43 (0, 0)) (by (with_reducible repeat (first | refine blk_drewN ?_ _ | refine blk_drew ?_ | refine blk_alloc ?_ _)); exact BK192.out) hg (Kd.R_ne HO_5.out BK192.out (by decide)))
          have n2_ := Aside0.mk (hb)
          have n3_ := Aside0.mk (ho)
          clear BK187
          clear BK192
          clear HB
          clear HO_5
          have BK187 := n0_
          have BK192 := n1_
          have HB := n2_
          have HO197 := n3_
          clear n0_ n1_ n2_ n3_
          clear ho hb hg hat
          refine hK.out _ _ ⟨(blk_cell BK192.out 0).trans rfl, (blk_cell BK192.out 1).trans rfl, (blk_cell BK192.out 2).trans rfl, (blk_cell BK192.out 3).trans rfl⟩ (fun hHeld => ?_)
          clear hK K
          refine norm_ (a' := ?_) ?_ ?_
          rotate_left
          ·show Act.put _ (some 41) _ = _
           simp only [Act.put, List.setIfInBounds_toArray, List.set_cons_zero, List.set_cons_succ, i64_w, i32_w]
           rfl
          refine pure_ (i := 11) (N := some 5) (v := ?_) (a' := ?_) #[true, true, true, true, true, true, true, true, true, true, true, true] rfl rfl (any_of HT_.out (by kernel_rfl)) (fun _ _ _ h => h) (Or.inl ⟨by rfl, ?_⟩) ?_ ?_
          rotate_left
          ·intro w'
           go_simp
           with_reducible rfl
          rotate_left
          ·simp only [Act.put, List.setIfInBounds_toArray, List.set_cons_zero, List.set_cons_succ, i64_w, i32_w]
           rfl
          refine done_ (done_of HT_.out (by kernel_rfl)) ?_
          have hcz22_0 : w21.cell? ⟨gb192, 0, none⟩ = some (.int .i64 t188) := (blk_cell BK192.out 0).trans rfl
          have hcz22_1 : w21.cell? ⟨gb192, 1, none⟩ = some (.string t189) := (blk_cell BK192.out 1).trans rfl
          have hcz22_2 : w21.cell? ⟨gb192, 2, none⟩ = some (.int .i64 t190) := (blk_cell BK192.out 2).trans rfl
          have hcz22_3 : w21.cell? ⟨gb192, 3, none⟩ = some (.int .i64 t191) := (blk_cell BK192.out 3).trans rfl
          have hfz22_0 := blk_frozen BK192.out 0
          have hfz22_1 := blk_frozen BK192.out 1
          have hfz22_2 := blk_frozen BK192.out 2
          have hfz22_3 := blk_frozen BK192.out 3
          try go_wp2
          go_roundg k1
          case measure => have := HK1.out; omega
          case rel => exact ⟨(y195), (wrap64 (x6_1 + t190)), (x188000_1), (x188001_1), (by first | rfl | (simp; done) | (simp [*]; done)), (by first | exact H' | (subst_vars; exact H')), ⟨by have := HK1.out; omega⟩, ⟨by (with_reducible repeat (first | apply Kd.R_alloc | apply Kd.R_drewN | apply Kd.R_drew)); exact HO197.out⟩, ⟨by (with_reducible repeat (first | refine blk_drewN ?_ _ | refine blk_drew ?_ | refine blk_alloc ?_ _)); exact BK187.out⟩, ⟨by repeat (first | (with_reducible first | exact HB.out | apply below_alloc | apply pw_below_drewN | apply below_drew1 | refine below_set ?_ GE187.out | refine below_set ?_ GE192.out) | exact HB.out)⟩⟩
         ·rw [if_neg c13] at H
          exact absurd H (by simp)
        ·rw [if_neg c11] at H
         have c11b0 : decide (0 < t188) = false := decide_eq_false c11
         clear c11
         have H' := Aside0.mk H
         clear H
         go_wp2_with (first | ((with_reducible refine gate_callee (f := 18) rfl ?_); refine goesL_ (some 19) rfl rfl Tryz.func18 (by kernel_rfl) rfl #[.string (a0.extract (x6_1 : Int).toNat a0.size)] rfl (by (try simp only [List.map_toArray, List.map_cons, List.map_nil]); first | done | rfl | (simp only [List.length_drop, List.length_take]; rfl)) ?_; (with_reducible refine (bloomeryref09_First.calls k1 (a0.extract (x6_1 : Int).toNat a0.size) t188 t189 t190 t191 _ A9.out).mono ?_); rintro e w23 ⟨rfl, hb⟩; refine ⟨_, rfl, ?_⟩; have n0_ := Aside0.mk (Kd.R_below (by (with_reducible repeat (first | apply Kd.R_alloc | apply Kd.R_drewN | apply Kd.R_drew)); exact HO_5.out) hb); have n1_ := Aside0.mk (blk_below (g := gb187) (o := .cells #[.int .i64 x188000_1, .int .i64 x188001_1] 26 (0, 0)) (by (with_reducible repeat (first | refine blk_drewN ?_ _ | refine blk_drew ?_ | refine blk_alloc ?_ _)); exact BK187.out) hb); have n2_ := Aside0.mk (below_step (by repeat (first | (with_reducible first | exact HB.out | apply below_alloc | apply pw_below_drewN | apply below_drew1 | refine below_set ?_ GE187.out) | exact HB.out)) hb); clear HO_5; clear BK187; clear HB; have HO_5 := n0_; have BK187 := n1_; have HB := n2_; clear n0_ n1_ n2_; (try clear hb); (try clear hb2); (try clear hk); (try clear hi)) | ((with_reducible refine gate_dst (N := 7) rfl ?_); refine box_event ?hg (N := 7) ?hd (cs := #[.int .i64 0, .string (⟨#[]⟩ : ByteArray), .int .i64 0, .int .i64 0]) (t := 43) ?hr ?_; (case hd => rfl); (case hg => rfl); (case hr => first | (go_simp; done) | (go_simp; rfl)); intro gb192 hg w24 hbox hb; have n0_ := Aside0.mk (Kd.R_below (by (with_reducible repeat (first | apply Kd.R_alloc | apply Kd.R_drewN | apply Kd.R_drew)); exact HO_5.out) hb); have n1_ := Aside0.mk (blk_below (g := gb187) (o := .cells #[.int .i64 x188000_1, .int .i64 x188001_1] 26 (0, 0)) (by (with_reducible repeat (first | refine blk_drewN ?_ _ | refine blk_drew ?_ | refine blk_alloc ?_ _)); exact BK187.out) hb); have n2_ := Aside0.mk (below_step (by repeat (first | (with_reducible first | exact HB.out | apply below_alloc | apply pw_below_drewN | apply below_drew1 | refine below_set ?_ GE187.out) | exact HB.out)) hb); have n3_ := Aside0.mk (hbox); have n4_ := Aside0.mk ((by rw [hg]; exact (below_size (by repeat (first | (with_reducible first | exact HB.out | apply below_alloc | apply pw_below_drewN | apply below_drew1 | refine below_set ?_ GE187.out) | exact HB.out))) : w.heap.size ≤ gb192)); have n5_ := Aside0.mk ((by rw [hg]; exact (below_size (by repeat (first | (with_reducible first | exact HB.out | apply below_alloc | apply pw_below_drewN | apply below_drew1 | refine below_set ?_ GE187.out) | exact HB.out))) : w.heap.size ≤ gb192)); have n6_ := Aside0.mk ((by rw [hg]; exact Nat.ne_of_lt (blk_lt (g := gb187) (o := .cells #[.int .i64 x188000_1, .int .i64 x188001_1] 26 (0, 0)) (by (with_reducible repeat (first | refine blk_drewN ?_ _ | refine blk_drew ?_ | refine blk_alloc ?_ _)); exact BK187.out)) : gb187 ≠ gb192)); have n7_ := Aside0.mk ((by rw [hg]; exact Nat.ne_of_gt (blk_lt (g := gb187) (o := .cells #[.int .i64 x188000_1, .int .i64 x188001_1] 26 (0, 0)) (by (with_reducible repeat (first | refine blk_drewN ?_ _ | refine blk_drew ?_ | refine blk_alloc ?_ _)); exact BK187.out)) : gb192 ≠ gb187)); clear HO_5; clear BK187; clear HB; have HO_5 := n0_; have BK187 := n1_; have HB := n2_; have BK192 := n3_; have GW192 := n4_; have GE192 := n5_; have NB187_192 := n6_; have NB192_187 := n7_; clear n0_ n1_ n2_ n3_ n4_ n5_ n6_ n7_; clear hb hbox hg; have hnb25 := NB192_187.out; have hnc25 := NB187_192.out; have hcz26_0 : w24.cell? ⟨gb192, 0, none⟩ = some (.int .i64 0) := (blk_cell BK192.out 0).trans rfl; have hcz26_1 : w24.cell? ⟨gb192, 1, none⟩ = some (.string (⟨#[]⟩ : ByteArray)) := (blk_cell BK192.out 1).trans rfl; have hcz26_2 : w24.cell? ⟨gb192, 2, none⟩ = some (.int .i64 0) := (blk_cell BK192.out 2).trans rfl; have hcz26_3 : w24.cell? ⟨gb192, 3, none⟩ = some (.int .i64 0) := (blk_cell BK192.out 3).trans rfl; have hfz26_0 := blk_frozen BK192.out 0; have hfz26_1 := blk_frozen BK192.out 1; have hfz26_2 := blk_frozen BK192.out 2; have hfz26_3 := blk_frozen BK192.out 3))
         go_roundg k1
         case measure => have := HK1.out; omega
         case rel => exact ⟨(x5_1), (wrap64 (x6_1 + t190)), (x188000_1), (x188001_1), (by first | rfl | (simp; done) | (simp [*]; done)), (by first | exact H' | (subst_vars; exact H')), ⟨by have := HK1.out; omega⟩, ⟨by (with_reducible repeat (first | apply Kd.R_alloc | apply Kd.R_drewN | apply Kd.R_drew)); exact Kd.R_mono (Kd.R_far (p := ⟨gb192, 3, none⟩) (Kd.R_far (p := ⟨gb192, 2, none⟩) (Kd.R_far (p := ⟨gb192, 1, none⟩) (Kd.R_far (p := ⟨gb192, 0, none⟩) (Kd.R_types HO_5.out BK192.out (by decide)) (fun _ hk => hk.2) (.int .i64 t188)) (fun _ hk => hk.2) (.string t189)) (fun _ hk => hk.2) (.int .i64 t190)) (fun _ hk => hk.2) (.int .i64 t191)) (fun _ hk => trivial)⟩, ⟨by (with_reducible repeat (first | refine blk_drewN ?_ _ | refine blk_drew ?_ | refine blk_alloc ?_ _)); refine blk_far ?_ NB187_192.out _; (with_reducible repeat (first | refine blk_drewN ?_ _ | refine blk_drew ?_ | refine blk_alloc ?_ _)); refine blk_far ?_ NB187_192.out _; (with_reducible repeat (first | refine blk_drewN ?_ _ | refine blk_drew ?_ | refine blk_alloc ?_ _)); refine blk_far ?_ NB187_192.out _; (with_reducible repeat (first | refine blk_drewN ?_ _ | refine blk_drew ?_ | refine blk_alloc ?_ _)); refine blk_far ?_ NB187_192.out _; (with_reducible repeat (first | refine blk_drewN ?_ _ | refine blk_drew ?_ | refine blk_alloc ?_ _)); exact BK187.out⟩, ⟨by repeat (first | (with_reducible first | exact HB.out | apply below_alloc | apply pw_below_drewN | apply below_drew1 | refine below_set ?_ GE187.out | refine below_set ?_ GE192.out) | exact HB.out)⟩⟩
       ·rw [if_neg c10] at H
        have c10b0 : (t191 == 0) = false := beq_eq_false_iff_ne.mpr c10
        have c10b1 : (t191 != 0) = true := bne_iff_ne.mpr c10
        replace H := Option.bind_eq_some_iff.mp H
        obtain ⟨⟨t198, t199⟩, A270, H⟩ := H
        replace H : (some (([] : List (S33)), t191, t198, t199)) = some (r1, r2, r3, r4) := H
        have A27 := Aside0.mk A270
        clear A270
        simp only [Option.some.injEq, Prod.mk.injEq] at H
        obtain ⟨rfl, rfl, rfl, rfl⟩ := H
        try go_wp2_with (first | ((with_reducible refine gate_callee (f := 18) rfl ?_); refine goesL_ (some 19) rfl rfl Tryz.func18 (by kernel_rfl) rfl #[.string (a0.extract (x6_1 : Int).toNat a0.size)] rfl (by (try simp only [List.map_toArray, List.map_cons, List.map_nil]); first | done | rfl | (simp only [List.length_drop, List.length_take]; rfl)) ?_; (with_reducible refine (bloomeryref09_First.calls k1 (a0.extract (x6_1 : Int).toNat a0.size) t188 t189 t190 t191 _ A9.out).mono ?_); rintro e w28 ⟨rfl, hb⟩; refine ⟨_, rfl, ?_⟩; have n0_ := Aside0.mk (Kd.R_below (by (with_reducible repeat (first | apply Kd.R_alloc | apply Kd.R_drewN | apply Kd.R_drew)); exact HO_5.out) hb); have n1_ := Aside0.mk (blk_below (g := gb187) (o := .cells #[.int .i64 x188000_1, .int .i64 x188001_1] 26 (0, 0)) (by (with_reducible repeat (first | refine blk_drewN ?_ _ | refine blk_drew ?_ | refine blk_alloc ?_ _)); exact BK187.out) hb); have n2_ := Aside0.mk (below_step (by repeat (first | (with_reducible first | exact HB.out | apply below_alloc | apply pw_below_drewN | apply below_drew1 | refine below_set ?_ GE187.out) | exact HB.out)) hb); clear HO_5; clear BK187; clear HB; have HO_5 := n0_; have BK187 := n1_; have HB := n2_; clear n0_ n1_ n2_; (try clear hb); (try clear hb2); (try clear hk); (try clear hi)) | ((with_reducible refine gate_dst (N := 7) rfl ?_); refine box_event ?hg (N := 7) ?hd (cs := #[.int .i64 0, .string (⟨#[]⟩ : ByteArray), .int .i64 0, .int .i64 0]) (t := 43) ?hr ?_; (case hd => rfl); (case hg => rfl); (case hr => first | (go_simp; done) | (go_simp; rfl)); intro gb192 hg w29 hbox hb; have n0_ := Aside0.mk (Kd.R_below (by (with_reducible repeat (first | apply Kd.R_alloc | apply Kd.R_drewN | apply Kd.R_drew)); exact HO_5.out) hb); have n1_ := Aside0.mk (blk_below (g := gb187) (o := .cells #[.int .i64 x188000_1, .int .i64 x188001_1] 26 (0, 0)) (by (with_reducible repeat (first | refine blk_drewN ?_ _ | refine blk_drew ?_ | refine blk_alloc ?_ _)); exact BK187.out) hb); have n2_ := Aside0.mk (below_step (by repeat (first | (with_reducible first | exact HB.out | apply below_alloc | apply pw_below_drewN | apply below_drew1 | refine below_set ?_ GE187.out) | exact HB.out)) hb); have n3_ := Aside0.mk (hbox); have n4_ := Aside0.mk ((by rw [hg]; exact (below_size (by repeat (first | (with_reducible first | exact HB.out | apply below_alloc | apply pw_below_drewN | apply below_drew1 | refine below_set ?_ GE187.out) | exact HB.out))) : w.heap.size ≤ gb192)); have n5_ := Aside0.mk ((by rw [hg]; exact (below_size (by repeat (first | (with_reducible first | exact HB.out | apply below_alloc | apply pw_below_drewN | apply below_drew1 | refine below_set ?_ GE187.out) | exact HB.out))) : w.heap.size ≤ gb192)); have n6_ := Aside0.mk ((by rw [hg]; exact Nat.ne_of_lt (blk_lt (g := gb187) (o := .cells #[.int .i64 x188000_1, .int .i64 x188001_1] 26 (0, 0)) (by (with_reducible repeat (first | refine blk_drewN ?_ _ | refine blk_drew ?_ | refine blk_alloc ?_ _)); exact BK187.out)) : gb187 ≠ gb192)); have n7_ := Aside0.mk ((by rw [hg]; exact Nat.ne_of_gt (blk_lt (g := gb187) (o := .cells #[.int .i64 x188000_1, .int .i64 x188001_1] 26 (0, 0)) (by (with_reducible repeat (first | refine blk_drewN ?_ _ | refine blk_drew ?_ | refine blk_alloc ?_ _)); exact BK187.out)) : gb192 ≠ gb187)); clear HO_5; clear BK187; clear HB; have HO_5 := n0_; have BK187 := n1_; have HB := n2_; have BK192 := n3_; have GW192 := n4_; have GE192 := n5_; have NB187_192 := n6_; have NB192_187 := n7_; clear n0_ n1_ n2_ n3_ n4_ n5_ n6_ n7_; clear hb hbox hg; have hnb30 := NB192_187.out; have hnc30 := NB187_192.out; have hcz31_0 : w29.cell? ⟨gb192, 0, none⟩ = some (.int .i64 0) := (blk_cell BK192.out 0).trans rfl; have hcz31_1 : w29.cell? ⟨gb192, 1, none⟩ = some (.string (⟨#[]⟩ : ByteArray)) := (blk_cell BK192.out 1).trans rfl; have hcz31_2 : w29.cell? ⟨gb192, 2, none⟩ = some (.int .i64 0) := (blk_cell BK192.out 2).trans rfl; have hcz31_3 : w29.cell? ⟨gb192, 3, none⟩ = some (.int .i64 0) := (blk_cell BK192.out 3).trans rfl; have hfz31_0 := blk_frozen BK192.out 0; have hfz31_1 := blk_frozen BK192.out 1; have hfz31_2 := blk_frozen BK192.out 2; have hfz31_3 := blk_frozen BK192.out 3))
        have n0_ : Aside0 (Kd.R k33 33 ((((w29.setCell ⟨gb192, 0, none⟩ (.int .i64 t188)).setCell ⟨gb192, 1, none⟩ (.string t189)).setCell ⟨gb192, 2, none⟩ (.int .i64 t190)).setCell ⟨gb192, 3, none⟩ (.int .i64 t191)) w.heap.size (fun _ => True) u5 x5_1) := ⟨by (with_reducible repeat (first | apply Kd.R_alloc | apply Kd.R_drewN | apply Kd.R_drew)); exact Kd.R_mono (Kd.R_far (p := ⟨gb192, 3, none⟩) (Kd.R_far (p := ⟨gb192, 2, none⟩) (Kd.R_far (p := ⟨gb192, 1, none⟩) (Kd.R_far (p := ⟨gb192, 0, none⟩) (Kd.R_types HO_5.out BK192.out (by decide)) (fun _ hk => hk.2) (.int .i64 t188)) (fun _ hk => hk.2) (.string t189)) (fun _ hk => hk.2) (.int .i64 t190)) (fun _ hk => hk.2) (.int .i64 t191)) (fun _ hk => trivial)⟩
        have n1_ : Aside0 (((((w29.setCell ⟨gb192, 0, none⟩ (.int .i64 t188)).setCell ⟨gb192, 1, none⟩ (.string t189)).setCell ⟨gb192, 2, none⟩ (.int .i64 t190)).setCell ⟨gb192, 3, none⟩ (.int .i64 t191)).heap[gb187]? = some (.cells #[.int .i64 x188000_1, .int .i64 x188001_1] 26 (0, 0))) := ⟨by (with_reducible repeat (first | refine blk_drewN ?_ _ | refine blk_drew ?_ | refine blk_alloc ?_ _)); refine blk_far ?_ NB187_192.out _; (with_reducible repeat (first | refine blk_drewN ?_ _ | refine blk_drew ?_ | refine blk_alloc ?_ _)); refine blk_far ?_ NB187_192.out _; (with_reducible repeat (first | refine blk_drewN ?_ _ | refine blk_drew ?_ | refine blk_alloc ?_ _)); refine blk_far ?_ NB187_192.out _; (with_reducible repeat (first | refine blk_drewN ?_ _ | refine blk_drew ?_ | refine blk_alloc ?_ _)); refine blk_far ?_ NB187_192.out _; (with_reducible repeat (first | refine blk_drewN ?_ _ | refine blk_drew ?_ | refine blk_alloc ?_ _)); exact BK187.out⟩
        have n2_ : Aside0 (((((w29.setCell ⟨gb192, 0, none⟩ (.int .i64 t188)).setCell ⟨gb192, 1, none⟩ (.string t189)).setCell ⟨gb192, 2, none⟩ (.int .i64 t190)).setCell ⟨gb192, 3, none⟩ (.int .i64 t191)).heap[gb192]? = some (.cells #[.int .i64 t188, .string t189, .int .i64 t190, .int .i64 t191] 43 (0, 0))) := ⟨by (with_reducible repeat (first | refine blk_drewN ?_ _ | refine blk_drew ?_ | refine blk_alloc ?_ _)); refine blk_put (cs := #[.int .i64 t188, .string t189, .int .i64 t190, .int .i64 0]) ?_ 3 _ rfl; (with_reducible repeat (first | refine blk_drewN ?_ _ | refine blk_drew ?_ | refine blk_alloc ?_ _)); refine blk_put (cs := #[.int .i64 t188, .string t189, .int .i64 0, .int .i64 0]) ?_ 2 _ rfl; (with_reducible repeat (first | refine blk_drewN ?_ _ | refine blk_drew ?_ | refine blk_alloc ?_ _)); refine blk_put (cs := #[.int .i64 t188, .string (⟨#[]⟩ : ByteArray), .int .i64 0, .int .i64 0]) ?_ 1 _ rfl; (with_reducible repeat (first | refine blk_drewN ?_ _ | refine blk_drew ?_ | refine blk_alloc ?_ _)); refine blk_put (cs := #[.int .i64 0, .string (⟨#[]⟩ : ByteArray), .int .i64 0, .int .i64 0]) ?_ 0 _ rfl; (with_reducible repeat (first | refine blk_drewN ?_ _ | refine blk_drew ?_ | refine blk_alloc ?_ _)); exact BK192.out⟩
        have n3_ : Aside0 (Below w.heap.size w ((((w29.setCell ⟨gb192, 0, none⟩ (.int .i64 t188)).setCell ⟨gb192, 1, none⟩ (.string t189)).setCell ⟨gb192, 2, none⟩ (.int .i64 t190)).setCell ⟨gb192, 3, none⟩ (.int .i64 t191))) := ⟨by repeat (first | (with_reducible first | exact HB.out | apply below_alloc | apply pw_below_drewN | apply below_drew1 | refine below_set ?_ GE187.out | refine below_set ?_ GE192.out) | exact HB.out)⟩
        (try clear HO_5)
        (try clear BK187)
        (try clear BK192)
        (try clear HB)
        generalize ((((w29.setCell ⟨gb192, 0, none⟩ (.int .i64 t188)).setCell ⟨gb192, 1, none⟩ (.string t189)).setCell ⟨gb192, 2, none⟩ (.int .i64 t190)).setCell ⟨gb192, 3, none⟩ (.int .i64 t191)) = w32 at n0_ n1_ n2_ n3_ ⊢
        have HO_5 := n0_
        have BK187 := n1_
        have BK192 := n2_
        have HB := n3_
        clear n0_ n1_ n2_ n3_
        have n0_ := Aside0.mk (Kd.R_drew HO_5.out)
        have n1_ := Aside0.mk (blk_drew BK187.out)
        have n2_ := Aside0.mk (blk_drew BK192.out)
        have n3_ := Aside0.mk (below_drew1 HB.out)
        clear HO_5
        clear BK187
        clear BK192
        clear HB
        have HO_5 := n0_
        have BK187 := n1_
        have BK192 := n2_
        have HB := n3_
        clear n0_ n1_ n2_ n3_
        refine start_ (n := 8) (S := fun w' => w'.cell? ⟨gb192, 0, none⟩ = some (.int .i64 t188) ∧ w'.cell? ⟨gb192, 1, none⟩ = some (.string t189) ∧ w'.cell? ⟨gb192, 2, none⟩ = some (.int .i64 t190) ∧ w'.cell? ⟨gb192, 3, none⟩ = some (.int .i64 t191)) (ds := []) #[false, false, false, false, false, false, false, false] (by kernel_rfl) rfl rfl ⟨(blk_cell BK192.out 0).trans rfl, (blk_cell BK192.out 1).trans rfl, (blk_cell BK192.out 2).trans rfl, (blk_cell BK192.out 3).trans rfl⟩ (fun hHeld => ?_); refine with_tabW bloomeryref09_All.tab8 bloomeryref09_All.bits8 (fun HT_ HW_ => ?_)
        generalize w32.drew = w33 at HO_5 BK187 BK192 HB hHeld ⊢
        refine pure_ (i := 0) (N := some 23) (v := ?_) (a' := ?_) #[true, false, false, false, false, false, false, false] rfl rfl (any_of HT_.out (by kernel_rfl)) (fun _ _ _ h => h) (Or.inl ⟨by rfl, ?_⟩) ?_ ?_
        rotate_left
        ·intro w'
         go_simp
         with_reducible rfl
        rotate_left
        ·simp only [Act.put, List.setIfInBounds_toArray, List.set_cons_zero, List.set_cons_succ, i64_w, i32_w]
         rfl
        refine pure_ (i := 2) (N := some 25) (v := ?_) (a' := ?_) #[true, false, true, false, false, false, false, false] rfl rfl (any_of HT_.out (by kernel_rfl)) (fun _ _ _ h => h) (Or.inl ⟨by rfl, ?_⟩) ?_ ?_
        rotate_left
        ·intro w'
         go_simp
         with_reducible rfl
        rotate_left
        ·simp only [Act.put, List.setIfInBounds_toArray, List.set_cons_zero, List.set_cons_succ, i64_w, i32_w]
         rfl
        refine pure_ (i := 3) (N := some 26) (v := ?_) (a' := ?_) #[true, false, true, true, false, false, false, false] rfl rfl (any_of HT_.out (by kernel_rfl)) (fun _ _ _ h => h) (Or.inl ⟨by rfl, ?_⟩) ?_ ?_
        rotate_left
        ·intro w'
         go_simp
         with_reducible rfl
        rotate_left
        ·simp only [Act.put, List.setIfInBounds_toArray, List.set_cons_zero, List.set_cons_succ, i64_w, i32_w]
         rfl
        refine take_ (i := 1) (N := some 24) (v := ?_) (a' := ?_) #[true, true, true, true, false, false, false, false] rfl rfl (take_ofW HT_.out HW_.out (by kernel_rfl)) (fun _ _ _ h => h) (Or.inl ⟨by rfl, ?_⟩) hHeld ?_ ?_
        rotate_left
        ·rintro w' ⟨s0, s1, s2, s3⟩
         go_simp
         with_reducible rfl
        rotate_left
        ·simp only [Act.put, List.setIfInBounds_toArray, List.set_cons_zero, List.set_cons_succ, i64_w, i32_w]
         rfl
        refine one_ (i := 4) (N := some 27) #[true, true, true, true, true, false, false, false] rfl rfl (one_of HT_.out (by kernel_rfl)) (by decide) (fun K hK => ?_)
        refine goes_ Tryz.func15 (by kernel_rfl) rfl #[.string a0, .int .i64 x6_1] (by rfl) rfl rfl (by (try simp only [List.map_toArray, List.map_cons, List.map_nil]); first | done | rfl | (simp only [List.length_drop, List.length_take]; rfl)) ?_
        with_reducible refine (bloomeryref09_At.calls k1 a0 x6_1 t198 t199 _ A27.out).mono ?_
        rintro e w34 ⟨rfl, hb⟩
        refine ⟨_, rfl, ?_⟩
        have n0_ := Aside0.mk (Kd.R_below (by (with_reducible repeat (first | apply Kd.R_alloc | apply Kd.R_drewN | apply Kd.R_drew)); exact HO_5.out) hb)
        have n1_ := Aside0.mk (blk_below (g := gb187) (o := .cells #[.int .i64 x188000_1, .int .i64 x188001_1] 26 (0, 0)) (by (with_reducible repeat (first | refine blk_drewN ?_ _ | refine blk_drew ?_ | refine blk_alloc ?_ _)); exact BK187.out) hb)
        have n2_ := Aside0.mk (blk_below (g := gb192) (o := .cells #[.int .i64 t188, .string t189, .int .i64 t190, .int .i64 t191] 43 (0, 0)) (by (with_reducible repeat (first | refine blk_drewN ?_ _ | refine blk_drew ?_ | refine blk_alloc ?_ _)); exact BK192.out) hb)
        have n3_ := Aside0.mk (below_step (by repeat (first | (with_reducible first | exact HB.out | apply below_alloc | apply pw_below_drewN | apply below_drew1 | refine below_set ?_ GE187.out | refine below_set ?_ GE192.out) | exact HB.out)) hb)
        clear HO_5
        clear BK187
        clear BK192
        clear HB
        have HO_5 := n0_
        have BK187 := n1_
        have BK192 := n2_
        have HB := n3_
        clear n0_ n1_ n2_ n3_
        (try clear hb)
        (try clear hb2)
        (try clear hk)
        (try clear hi)
        refine hK.out _ _ ⟨(blk_cell BK192.out 0).trans rfl, (blk_cell BK192.out 1).trans rfl, (blk_cell BK192.out 2).trans rfl, (blk_cell BK192.out 3).trans rfl⟩ (fun hHeld => ?_)
        clear hK K
        refine norm_ (a' := ?_) ?_ ?_
        rotate_left
        ·show Act.put _ (some 27) _ = _
         simp only [Act.put, List.setIfInBounds_toArray, List.set_cons_zero, List.set_cons_succ, i64_w, i32_w]
         rfl
        refine pure_ (i := 5) (N := some 2) (v := ?_) (a' := ?_) #[true, true, true, true, true, true, false, false] rfl rfl (any_of HT_.out (by kernel_rfl)) (fun _ _ _ h => h) (Or.inl ⟨by rfl, ?_⟩) ?_ ?_
        rotate_left
        ·intro w'
         go_simp
         with_reducible rfl
        rotate_left
        ·simp only [Act.put, List.setIfInBounds_toArray, List.set_cons_zero, List.set_cons_succ, i64_w, i32_w]
         rfl
        refine pure_ (i := 6) (N := some 3) (v := ?_) (a' := ?_) #[true, true, true, true, true, true, true, false] rfl rfl (any_of HT_.out (by kernel_rfl)) (fun _ _ _ h => h) (Or.inl ⟨by rfl, ?_⟩) ?_ ?_
        rotate_left
        ·intro w'
         go_simp
         with_reducible rfl
        rotate_left
        ·simp only [Act.put, List.setIfInBounds_toArray, List.set_cons_zero, List.set_cons_succ, i64_w, i32_w]
         rfl
        refine one_ (i := 7) (N := none) #[true, true, true, true, true, true, true, true] rfl rfl (one_of HT_.out (by kernel_rfl)) (by decide) (fun K hK => ?_)
        have hs35 : w34.cell? ⟨gb187, 0, none⟩ = some (.int .i64 x188000_1) := (blk_cell BK187.out 0).trans rfl
        have hfs35 := blk_frozen BK187.out 0
        have hns35_1 := NB192_187.out
        have hms35_1 := NB187_192.out
        have hs36 : w34.cell? ⟨gb187, 1, none⟩ = some (.int .i64 x188001_1) := (blk_cell BK187.out 1).trans rfl
        have hfs36 := blk_frozen BK187.out 1
        have hns36_1 := NB192_187.out
        have hms36_1 := NB187_192.out
        refine skip_ (w1 := ?_) (by rfl) rfl ?_ ?_
        rotate_left
        ·go_simp
         rfl
        refine hK.out _ _ ⟨((cell_far (p := ⟨gb187, _, none⟩) NB192_187.out _).trans (((cell_far (p := ⟨gb187, _, none⟩) NB192_187.out _).trans (hHeld.1)))), ((cell_far (p := ⟨gb187, _, none⟩) NB192_187.out _).trans (((cell_far (p := ⟨gb187, _, none⟩) NB192_187.out _).trans (hHeld.2.1)))), ((cell_far (p := ⟨gb187, _, none⟩) NB192_187.out _).trans (((cell_far (p := ⟨gb187, _, none⟩) NB192_187.out _).trans (hHeld.2.2.1)))), ((cell_far (p := ⟨gb187, _, none⟩) NB192_187.out _).trans (((cell_far (p := ⟨gb187, _, none⟩) NB192_187.out _).trans (hHeld.2.2.2))))⟩ (fun hHeld => ?_)
        clear hK K
        refine done_ (done_of HT_.out (by kernel_rfl)) ?_
        try go_wp2
        refine bodyPost_ret (results_list (rs := [.tmp 2, .tmp 3, .cell 4 26]) rfl (by simp) (.tmp (.tmp (.cell gb187 26 #[.int .i64 t198, .int .i64 t199] (0, 0) _ rfl (by (with_reducible repeat (first | refine blk_drewN ?_ _ | refine blk_drew ?_ | refine blk_alloc ?_ _)); refine blk_put (cs := #[.int .i64 t198, .int .i64 x188001_1]) ?_ 1 _ rfl; (with_reducible repeat (first | refine blk_drewN ?_ _ | refine blk_drew ?_ | refine blk_alloc ?_ _)); refine blk_put (cs := #[.int .i64 x188000_1, .int .i64 x188001_1]) ?_ 0 _ rfl; (with_reducible repeat (first | refine blk_drewN ?_ _ | refine blk_drew ?_ | refine blk_alloc ?_ _)); exact BK187.out) Tryz.underlying26 rfl (by kernel_rfl) .nil)))) rfl ?_
        exact ⟨_, by first | rfl | (simp [errW_none, errW_some] <;> rfl) | (simp [*, errW_none, errW_some] <;> rfl), by first | exact Kd.R_nil _ _ _ _ _ | exact Kd.N_nil _ _ _ _ _ | exact Kd.V_nil _ _ _ _ _ | exact Kd.Q_nil _ _ _ _ _ | exact Kd.S_nil _ _ _ _ _, by repeat (first | (with_reducible first | exact HB.out | apply below_alloc | apply pw_below_drewN | apply below_drew1 | refine below_set ?_ GE187.out | refine below_set ?_ GE192.out) | exact HB.out)⟩
      ·rw [if_neg c8] at H
       exact absurd H (by simp)
     ·rw [if_neg c7] at H
      exact absurd H (by simp)
    ·rw [if_neg c6] at H
     have c6b0 : decide (x6_1 < (a0.size : Int)) = false := decide_eq_false c6
     clear c6
     simp only [Option.some.injEq, Prod.mk.injEq] at H
     obtain ⟨rfl, rfl, rfl, rfl⟩ := H
     have hcz37_0 : wr.cell? ⟨gb187, 0, none⟩ = some (.int .i64 x188000_1) := (blk_cell BK187.out 0).trans rfl
     have hcz37_1 : wr.cell? ⟨gb187, 1, none⟩ = some (.int .i64 x188001_1) := (blk_cell BK187.out 1).trans rfl
     have hfz37_0 := blk_frozen BK187.out 0
     have hfz37_1 := blk_frozen BK187.out 1
     go_wp2
     refine bodyPost_ret (results_list (rs := [.tmp 2, .tmp 3, .cell 4 26]) rfl (by simp) (.tmp (.tmp (.cell gb187 26 #[.int .i64 0, .int .i64 0] (0, 0) _ rfl (by (with_reducible repeat (first | refine blk_drewN ?_ _ | refine blk_drew ?_ | refine blk_alloc ?_ _)); refine blk_put (cs := #[.int .i64 0, .int .i64 x188001_1]) ?_ 1 _ rfl; (with_reducible repeat (first | refine blk_drewN ?_ _ | refine blk_drew ?_ | refine blk_alloc ?_ _)); refine blk_put (cs := #[.int .i64 x188000_1, .int .i64 x188001_1]) ?_ 0 _ rfl; (with_reducible repeat (first | refine blk_drewN ?_ _ | refine blk_drew ?_ | refine blk_alloc ?_ _)); exact BK187.out) Tryz.underlying26 rfl (by kernel_rfl) .nil)))) rfl ?_
     exact ⟨_, by first | rfl | (simp [errW_none, errW_some] <;> rfl) | (simp [*, errW_none, errW_some] <;> rfl), by (with_reducible repeat (first | apply Kd.R_alloc | apply Kd.R_drewN | apply Kd.R_drew)); exact Kd.R_mono (Kd.R_far (p := ⟨gb187, 1, none⟩) (Kd.R_far (p := ⟨gb187, 0, none⟩) (Kd.R_types HO_5.out BK187.out (by decide)) (fun _ hk => hk.2) (.int .i64 0)) (fun _ hk => hk.2) (.int .i64 0)) (fun _ hk => trivial), by repeat (first | (with_reducible first | exact HB.out | apply below_alloc | apply pw_below_drewN | apply below_drew1 | refine below_set ?_ GE187.out) | exact HB.out)⟩

end Go.Proofs.YtannlhonjkhchaaGreatDoor.G

/- Go functions as Lean functions, each with its contract: written by a program of mine over the kit's print. Conditions: each contract's own. -/
namespace Go.Proofs.YtannlhonjkhchaaGreatDoor.G
open Go.RowKit Go.Proofs.YtannlhonjkhchaaGreatDoorW.PrintWords Go.Proofs.YtannlhonjkhchaaGreatDoorW.PrintLast Go.Proofs.YtannlhonjkhchaaGreatDoorW.PrintMore
attribute [local go_sem] max2_int min2_int max_two min_two max_three min_three max_four min_four   -- for this text's walks alone
set_option linter.unusedVariables false
set_option linter.unusedSimpArgs false

attribute [local go_sem high] eqA26
/-! ### bloomerylaw09_LexCuts: function 3 -/
def bloomerylaw09_LexCuts.j0 : Nat → ByteArray → Bool → Option (Bool)
 | 0, _, _ => none
 | k + 1, x0, x18 => if x18 = true then (some true) else ((lex_All.f k x0).bind fun bt203 => ((bloomeryref09_All.f k x0).bind fun bt210 => ((bloomeryref09_Same.f k bt203.1 bt210.1).bind fun t217 => (if t217 = true then (if bt203.2.1 = bt210.2.1 then (some (bt203.2.2.1 == bt210.2.2.1 && (bt203.2.2.2 == bt210.2.2.2))) else (some false)) else (some false)))))
def bloomerylaw09_LexCuts.f (k : Nat) (a0 : ByteArray) : Option (Bool) := (bloomerylaw09_alive.f k).bind fun t202 => (if t202 = true then (if (a0.size : Int) > 600 then (bloomerylaw09_LexCuts.j0 k a0 (decide ((a0.size : Int) ≤ 65536))) else (bloomerylaw09_LexCuts.j0 k a0 false)) else (some false))
set_option maxHeartbeats 8000000 in
set_option maxRecDepth 100000 in
theorem bloomerylaw09_LexCuts.calls (k : Nat) (a0 : ByteArray) (r : Bool) (w : World) (hgl : Gl w) (h : bloomerylaw09_LexCuts.f k a0 = some r) :
  Calls Tryz.prog 3 #[.string a0] w fun e w' => e = .returned (.bool r) ∧ Below w.heap.size w w' := by
 have HGL := Aside0.mk hgl
 clear hgl
 have hu26 := Tryz.underlying26
 have HB := Aside0.mk (Below.refl w.heap.size w)
 have H : ((bloomerylaw09_alive.f k).bind fun t202 => (if t202 = true then (if (a0.size : Int) > 600 then (bloomerylaw09_LexCuts.j0 k a0 (decide ((a0.size : Int) ≤ 65536))) else (bloomerylaw09_LexCuts.j0 k a0 false)) else (some false))) = some r := h
 clear h
 replace H := Option.bind_eq_some_iff.mp H
 obtain ⟨t202, A20, H⟩ := H
 replace H : (if t202 = true then (if (a0.size : Int) > 600 then (bloomerylaw09_LexCuts.j0 k a0 (decide ((a0.size : Int) ≤ 65536))) else (bloomerylaw09_LexCuts.j0 k a0 false)) else (some false)) = some r := H
 have A2 := Aside0.mk A20
 clear A20
 by_cases c3 : t202 = true
 ·subst c3
  have H1 : (if (a0.size : Int) > 600 then (bloomerylaw09_LexCuts.j0 k a0 (decide ((a0.size : Int) ≤ 65536))) else (bloomerylaw09_LexCuts.j0 k a0 false)) = some r := by rw [if_pos rfl] at H; exact H
  clear H
  have H := H1
  clear H1
  have HC4 := Aside0.mk H
  clear H
  go_enter Tryz.func3, Tryz.ntmps3
  go_upto_region 3 with (first | ((with_reducible refine gate_callee (f := 8) rfl ?_); refine goesL_ (some 9) rfl rfl Tryz.func8 (by kernel_rfl) rfl #[] rfl (by (try simp only [List.map_toArray, List.map_cons, List.map_nil]); first | done | rfl | (simp only [List.length_drop, List.length_take]; rfl)) ?_; (with_reducible refine (bloomerylaw09_alive.calls k  true _ ?side1 A2.out).mono ?_); (case side1 => exact Gl.below HGL.out (by repeat (first | (with_reducible first | exact HB.out | apply below_alloc | apply pw_below_drewN | apply below_drew1) | exact HB.out))); rintro e w5 ⟨rfl, hb⟩; refine ⟨_, rfl, ?_⟩; have n0_ := Aside0.mk (below_step (by repeat (first | (with_reducible first | exact HB.out | apply below_alloc | apply pw_below_drewN | apply below_drew1) | exact HB.out)) hb); clear HB; have HB := n0_; clear n0_; (try clear hb); (try clear hb2); (try clear hk); (try clear hi)))
  (try simp only [Act.put, List.setIfInBounds_toArray, List.set_cons_zero, List.set_cons_succ])
  go_cut [18] (fun v18 wc => ∃ (kq : Nat) (x18_3 : Bool), v18 = .bool x18_3 ∧ Aside0 (bloomerylaw09_LexCuts.j0 kq a0 x18_3 = some r) ∧ Aside0 (kq ≤ k) ∧ Aside0 (Below w.heap.size w wc))
  case first =>
   have H := HC4.out
   clear HC4
   by_cases c6 : (a0.size : Int) > 600
   ·rw [if_pos c6] at H
    have c6b0 : decide (600 < (a0.size : Int)) = true := decide_eq_true c6
    have c6b1 : decide (600 < a0.size) = true := decide_eq_true (by omega)
    clear c6
    (first | rw [c6b0] | (simp only [i64_w, i32_w]; rw [c6b0]) | skip)
    have H' := Aside0.mk H
    clear H
    go_wp2
    go_meet
    case rel => exact ⟨_, (decide ((a0.size : Int) ≤ 65536)), (by first | rfl | (simp; done) | (simp [*]; done)), (by first | exact H' | (subst_vars; exact H')), ⟨by first | omega | exact Nat.le_refl _⟩, ⟨by repeat (first | (with_reducible first | exact HB.out | apply below_alloc | apply pw_below_drewN | apply below_drew1) | exact HB.out)⟩⟩
   ·rw [if_neg c6] at H
    have c6b0 : decide (600 < (a0.size : Int)) = false := decide_eq_false c6
    have c6b1 : decide (600 < a0.size) = false := decide_eq_false (by omega)
    clear c6
    (first | rw [c6b0] | (simp only [i64_w, i32_w]; rw [c6b0]) | skip)
    have H' := Aside0.mk H
    clear H
    go_wp2
    go_meet
    case rel => exact ⟨_, (false), (by first | rfl | (simp; done) | (simp [*]; done)), (by first | exact H' | (subst_vars; exact H')), ⟨by first | omega | exact Nat.le_refl _⟩, ⟨by repeat (first | (with_reducible first | exact HB.out | apply below_alloc | apply pw_below_drewN | apply below_drew1) | exact HB.out)⟩⟩
  case rest =>
   clear HC4
   try clear p2
   try clear c3
   try clear c6
   try clear c6b0
   try clear c6b1
   obtain ⟨kq, x18_3, rfl, HA, HJ3, HB⟩ := hcut
   cases kq with
   | zero => exact absurd HA.out (by simp [bloomerylaw09_LexCuts.j0])
   | succ kj3 =>
    have H := HA.out
    clear HA
    simp only [bloomerylaw09_LexCuts.j0] at H
    by_cases c7 : x18_3 = true
    ·subst c7
     have H1 : (some true) = some r := by rw [if_pos rfl] at H; exact H
     clear H
     have H := H1
     clear H1
     obtain rfl := Option.some.inj H
     go_wp2
     go_ret
     exact ⟨by first | rfl | (simp [errW_none, errW_some] <;> rfl) | (simp [*, errW_none, errW_some] <;> rfl), by repeat (first | (with_reducible first | exact HB.out | apply below_alloc | apply pw_below_drewN | apply below_drew1) | exact HB.out)⟩
    ·replace c7 := Bool.eq_false_iff.mpr c7
     subst c7
     have H1 : ((lex_All.f kj3 a0).bind fun bt203 => ((bloomeryref09_All.f kj3 a0).bind fun bt210 => ((bloomeryref09_Same.f kj3 bt203.1 bt210.1).bind fun t217 => (if t217 = true then (if bt203.2.1 = bt210.2.1 then (some (bt203.2.2.1 == bt210.2.2.1 && (bt203.2.2.2 == bt210.2.2.2))) else (some false)) else (some false))))) = some r := by rw [if_neg (show ¬ (false = true) by decide)] at H; exact H
     clear H
     have H := H1
     clear H1
     replace H := Option.bind_eq_some_iff.mp H
     obtain ⟨⟨t203, t206, t207, t208⟩, A80, H⟩ := H
     replace H : ((bloomeryref09_All.f kj3 a0).bind fun bt210 => ((bloomeryref09_Same.f kj3 t203 bt210.1).bind fun t217 => (if t217 = true then (if t206 = bt210.2.1 then (some (t207 == bt210.2.2.1 && (t208 == bt210.2.2.2))) else (some false)) else (some false)))) = some r := H
     have A8 := Aside0.mk A80
     clear A80
     replace H := Option.bind_eq_some_iff.mp H
     obtain ⟨⟨t210, t213, t214, t215⟩, A90, H⟩ := H
     replace H : ((bloomeryref09_Same.f kj3 t203 t210).bind fun t217 => (if t217 = true then (if t206 = t213 then (some (t207 == t214 && (t208 == t215))) else (some false)) else (some false))) = some r := H
     have A9 := Aside0.mk A90
     clear A90
     replace H := Option.bind_eq_some_iff.mp H
     obtain ⟨t217, A100, H⟩ := H
     replace H : (if t217 = true then (if t206 = t213 then (some (t207 == t214 && (t208 == t215))) else (some false)) else (some false)) = some r := H
     have A10 := Aside0.mk A100
     clear A100
     by_cases c11 : t217 = true
     ·subst c11
      have H1 : (if t206 = t213 then (some (t207 == t214 && (t208 == t215))) else (some false)) = some r := by rw [if_pos rfl] at H; exact H
      clear H
      have H := H1
      clear H1
      by_cases c12 : t206 = t213
      ·rw [if_pos c12] at H
       have c12b0 : (t206 == t213) = true := beq_iff_eq.mpr c12
       have c12b1 : (t206 != t213) = false := bne_eq_false_iff_eq.mpr c12
       clear c12
       obtain rfl := Option.some.inj H
       go_wp2_with (first | ((with_reducible refine gate_callee (f := 9) rfl ?_); refine goesL_ (some 21) rfl rfl Tryz.func9 (by kernel_rfl) rfl #[.string a0] rfl (by (try simp only [List.map_toArray, List.map_cons, List.map_nil]); first | done | rfl | (simp only [List.length_drop, List.length_take]; rfl)) ?_; (with_reducible refine (lex_All.calls kj3 a0 t203 t206 t207 t208 _ ?side1 A8.out).mono ?_); (case side1 => exact Gl.below HGL.out (by repeat (first | (with_reducible first | exact HB.out | apply below_alloc | apply pw_below_drewN | apply below_drew1) | exact HB.out))); rintro e w13 ⟨v204, rfl, ho0, hb⟩; refine ⟨_, rfl, ?_⟩; have n0_ := Aside0.mk (Kd.R_lower ho0 (below_size (by repeat (first | (with_reducible first | exact HB.out | apply below_alloc | apply pw_below_drewN | apply below_drew1) | exact HB.out)))); have n1_ := Aside0.mk (below_step (by repeat (first | (with_reducible first | exact HB.out | apply below_alloc | apply pw_below_drewN | apply below_drew1) | exact HB.out)) hb); clear HB; have HO205 := n0_; have HB := n1_; clear n0_ n1_; (try clear hb); (try clear hb2); (try clear hk); (try clear hi); (try clear ho0)) | ((with_reducible refine gate_dst (N := 5) rfl ?_); (try (refine gate_guard (by rfl) ?_; dsimp only)); refine box_event ?hg (N := 5) ?hd (cs := #[.int .i64 0, .int .i64 0]) (t := 26) ?hr ?_; (case hd => rfl); (case hg => rfl); (case hr => first | (go_simp; done) | (go_simp; rfl)); intro gb209 hg w14 hbox hb; have n0_ := Aside0.mk (Kd.R_below (by (with_reducible repeat (first | apply Kd.R_alloc | apply Kd.R_drewN | apply Kd.R_drew)); exact HO205.out) hb); have n1_ := Aside0.mk (below_step (by repeat (first | (with_reducible first | exact HB.out | apply below_alloc | apply pw_below_drewN | apply below_drew1) | exact HB.out)) hb); have n2_ := Aside0.mk (hbox); have n3_ := Aside0.mk ((by rw [hg]; exact (below_size (by repeat (first | (with_reducible first | exact HB.out | apply below_alloc | apply pw_below_drewN | apply below_drew1) | exact HB.out))) : w.heap.size ≤ gb209)); have n4_ := Aside0.mk ((by rw [hg]; exact (below_size (by repeat (first | (with_reducible first | exact HB.out | apply below_alloc | apply pw_below_drewN | apply below_drew1) | exact HB.out))) : w.heap.size ≤ gb209)); clear HO205; clear HB; have HO205 := n0_; have HB := n1_; have BK209 := n2_; have GW209 := n3_; have GE209 := n4_; clear n0_ n1_ n2_ n3_ n4_; clear hb hbox hg; have hcz15_0 : w14.cell? ⟨gb209, 0, none⟩ = some (.int .i64 0) := (blk_cell BK209.out 0).trans rfl; have hcz15_1 : w14.cell? ⟨gb209, 1, none⟩ = some (.int .i64 0) := (blk_cell BK209.out 1).trans rfl; have hfz15_0 := blk_frozen BK209.out 0; have hfz15_1 := blk_frozen BK209.out 1) | ((with_reducible refine gate_callee (f := 10) rfl ?_); refine goesL_ (some 27) rfl rfl Tryz.func10 (by kernel_rfl) rfl #[.string a0] rfl (by (try simp only [List.map_toArray, List.map_cons, List.map_nil]); first | done | rfl | (simp only [List.length_drop, List.length_take]; rfl)) ?_; (with_reducible refine (bloomeryref09_All.calls kj3 a0 t210 t213 t214 t215 _ A9.out).mono ?_); rintro e w16 ⟨v211, rfl, ho0, hb⟩; refine ⟨_, rfl, ?_⟩; have n0_ := Aside0.mk (Kd.R_elder' (by (with_reducible repeat (first | apply Kd.R_alloc | apply Kd.R_drewN | apply Kd.R_drew)); exact (Kd.R_mono (Kd.R_far (p := ⟨gb209, 1, none⟩) (Kd.R_far (p := ⟨gb209, 0, none⟩) (Kd.R_types HO205.out BK209.out (by decide)) (fun _ hk => hk.2) (.int .i64 t207)) (fun _ hk => hk.2) (.int .i64 t208)) (fun _ h_ => h_.1))) (Kd.R_base ho0) hb); have n1_ := Aside0.mk (Kd.R_lower (Kd.R_new' ho0 (Kd.R_lt (by (with_reducible repeat (first | apply Kd.R_alloc | apply Kd.R_drewN | apply Kd.R_drew)); exact (Kd.R_mono (Kd.R_far (p := ⟨gb209, 1, none⟩) (Kd.R_far (p := ⟨gb209, 0, none⟩) (Kd.R_types HO205.out BK209.out (by decide)) (fun _ hk => hk.2) (.int .i64 t207)) (fun _ hk => hk.2) (.int .i64 t208)) (fun _ h_ => h_.1))))) (below_size (by repeat (first | (with_reducible first | exact HB.out | apply below_alloc | apply pw_below_drewN | apply below_drew1 | refine below_set ?_ GE209.out) | exact HB.out)))); have n2_ := Aside0.mk (blk_below (g := gb209) (o := .cells #[.int .i64 t207, .int .i64 t208] 26 (0, 0)) (by (with_reducible repeat (first | refine blk_drewN ?_ _ | refine blk_drew ?_ | refine blk_alloc ?_ _)); refine blk_put (cs := #[.int .i64 t207, .int .i64 0]) ?_ 1 _ rfl; (with_reducible repeat (first | refine blk_drewN ?_ _ | refine blk_drew ?_ | refine blk_alloc ?_ _)); refine blk_put (cs := #[.int .i64 0, .int .i64 0]) ?_ 0 _ rfl; (with_reducible repeat (first | refine blk_drewN ?_ _ | refine blk_drew ?_ | refine blk_alloc ?_ _)); exact BK209.out) hb); have n3_ := Aside0.mk (below_step (by repeat (first | (with_reducible first | exact HB.out | apply below_alloc | apply pw_below_drewN | apply below_drew1 | refine below_set ?_ GE209.out) | exact HB.out)) hb); clear HO205; clear BK209; clear HB; have HO205 := n0_; have HO212 := n1_; have BK209 := n2_; have HB := n3_; clear n0_ n1_ n2_ n3_; (try clear hb); (try clear hb2); (try clear hk); (try clear hi); (try clear ho0)) | ((with_reducible refine gate_dst (N := 8) rfl ?_); (try (refine gate_guard (by rfl) ?_; dsimp only)); refine box_event ?hg (N := 8) ?hd (cs := #[.int .i64 0, .int .i64 0]) (t := 26) ?hr ?_; (case hd => rfl); (case hg => rfl); (case hr => first | (go_simp; done) | (go_simp; rfl)); intro gb216 hg w17 hbox hb; have n0_ := Aside0.mk (Kd.R_below (by (with_reducible repeat (first | apply Kd.R_alloc | apply Kd.R_drewN | apply Kd.R_drew)); exact HO205.out) hb); have n1_ := Aside0.mk (Kd.R_below (by (with_reducible repeat (first | apply Kd.R_alloc | apply Kd.R_drewN | apply Kd.R_drew)); exact HO212.out) hb); have n2_ := Aside0.mk (blk_below (g := gb209) (o := .cells #[.int .i64 t207, .int .i64 t208] 26 (0, 0)) (by (with_reducible repeat (first | refine blk_drewN ?_ _ | refine blk_drew ?_ | refine blk_alloc ?_ _)); exact BK209.out) hb); have n3_ := Aside0.mk (below_step (by repeat (first | (with_reducible first | exact HB.out | apply below_alloc | apply pw_below_drewN | apply below_drew1 | refine below_set ?_ GE209.out) | exact HB.out)) hb); have n4_ := Aside0.mk (hbox); have n5_ := Aside0.mk ((by rw [hg]; exact (below_size (by repeat (first | (with_reducible first | exact HB.out | apply below_alloc | apply pw_below_drewN | apply below_drew1 | refine below_set ?_ GE209.out) | exact HB.out))) : w.heap.size ≤ gb216)); have n6_ := Aside0.mk ((by rw [hg]; exact (below_size (by repeat (first | (with_reducible first | exact HB.out | apply below_alloc | apply pw_below_drewN | apply below_drew1 | refine below_set ?_ GE209.out) | exact HB.out))) : w.heap.size ≤ gb216)); have n7_ := Aside0.mk ((by rw [hg]; exact Nat.ne_of_lt (blk_lt (g := gb209) (o := .cells #[.int .i64 t207, .int .i64 t208] 26 (0, 0)) (by (with_reducible repeat (first | refine blk_drewN ?_ _ | refine blk_drew ?_ | refine blk_alloc ?_ _)); exact BK209.out)) : gb209 ≠ gb216)); have n8_ := Aside0.mk ((by rw [hg]; exact Nat.ne_of_gt (blk_lt (g := gb209) (o := .cells #[.int .i64 t207, .int .i64 t208] 26 (0, 0)) (by (with_reducible repeat (first | refine blk_drewN ?_ _ | refine blk_drew ?_ | refine blk_alloc ?_ _)); exact BK209.out)) : gb216 ≠ gb209)); clear HO205; clear HO212; clear BK209; clear HB; have HO205 := n0_; have HO212 := n1_; have BK209 := n2_; have HB := n3_; have BK216 := n4_; have GW216 := n5_; have GE216 := n6_; have NB209_216 := n7_; have NB216_209 := n8_; clear n0_ n1_ n2_ n3_ n4_ n5_ n6_ n7_ n8_; clear hb hbox hg; have hnb18 := NB216_209.out; have hnc18 := NB209_216.out; have hcz19_0 : w17.cell? ⟨gb216, 0, none⟩ = some (.int .i64 0) := (blk_cell BK216.out 0).trans rfl; have hcz19_1 : w17.cell? ⟨gb216, 1, none⟩ = some (.int .i64 0) := (blk_cell BK216.out 1).trans rfl; have hfz19_0 := blk_frozen BK216.out 0; have hfz19_1 := blk_frozen BK216.out 1; obtain ⟨Ao20, co20, eo20⟩ := Kd.R_slice HO205.out; subst eo20; obtain ⟨Ao21, co21, eo21⟩ := Kd.R_slice HO212.out; subst eo21) | ((with_reducible refine gate_callee (f := 11) rfl ?_); refine goesL_ (some 33) rfl rfl Tryz.func11 (by kernel_rfl) rfl #[.slice Ao20 t203.length co20, .slice Ao21 t210.length co21] rfl (by (try simp only [List.map_toArray, List.map_cons, List.map_nil]); first | done | rfl | (simp only [List.length_drop, List.length_take]; rfl)) ?_; (with_reducible refine (bloomeryref09_Same.calls kj3 _ _ t203 _ _ t210 true _ ?side1 ?side2 ?side3 ?side4 A10.out).mono ?_); (case side1 => refine (Kd.R_reads' (e := 33) (base := w.heap.size) (ok := fun k_ => (True ∧ some k_ ≠ (.slice Ao21 t210.length co21 : Value).ownBlock)) (n := t203.length) (c := co20) ?_).2.2; exact (by (with_reducible repeat (first | apply Kd.R_alloc | apply Kd.R_drewN | apply Kd.R_drew)); exact (Kd.R_mono (Kd.R_far (p := ⟨gb216, 1, none⟩) (Kd.R_far (p := ⟨gb216, 0, none⟩) (Kd.R_types HO205.out BK216.out (by decide)) (fun _ hk => hk.2) (.int .i64 t214)) (fun _ hk => hk.2) (.int .i64 t215)) (fun _ h_ => h_.1)))); (case side2 => exact (Kd.R_reads' HO205.out).2.1); (case side3 => refine (Kd.R_reads' (e := 33) (base := w.heap.size) (ok := fun k_ => (True ∧ some k_ ≠ (.slice Ao20 t203.length co20 : Value).ownBlock)) (n := t210.length) (c := co21) ?_).2.2; exact (by (with_reducible repeat (first | apply Kd.R_alloc | apply Kd.R_drewN | apply Kd.R_drew)); exact (Kd.R_mono (Kd.R_far (p := ⟨gb216, 1, none⟩) (Kd.R_far (p := ⟨gb216, 0, none⟩) (Kd.R_types HO212.out BK216.out (by decide)) (fun _ hk => hk.2) (.int .i64 t214)) (fun _ hk => hk.2) (.int .i64 t215)) (fun _ h_ => h_.1)))); (case side4 => exact (Kd.R_reads' HO212.out).2.1); rintro e w' ⟨rfl, ⟨nd, rfl⟩⟩; refine ⟨_, rfl, ?_⟩; have hcz22_0 : w17.cell? ⟨gb209, 0, none⟩ = some (.int .i64 t207) := (blk_cell BK209.out 0).trans rfl; have hcz22_1 : w17.cell? ⟨gb209, 1, none⟩ = some (.int .i64 t208) := (blk_cell BK209.out 1).trans rfl; have hfz22_0 := blk_frozen BK209.out 0; have hfz22_1 := blk_frozen BK209.out 1))
       go_ret
       exact ⟨by first | rfl | (simp [errW_none, errW_some] <;> rfl) | (simp [*, errW_none, errW_some] <;> rfl), by repeat (first | (with_reducible first | exact HB.out | apply below_alloc | apply pw_below_drewN | apply below_drew1 | refine below_set ?_ GE209.out | refine below_set ?_ GE216.out) | exact HB.out)⟩
      ·rw [if_neg c12] at H
       have c12b0 : (t206 == t213) = false := beq_eq_false_iff_ne.mpr c12
       have c12b1 : (t206 != t213) = true := bne_iff_ne.mpr c12
       obtain rfl := Option.some.inj H
       go_wp2_with (first | ((with_reducible refine gate_callee (f := 9) rfl ?_); refine goesL_ (some 21) rfl rfl Tryz.func9 (by kernel_rfl) rfl #[.string a0] rfl (by (try simp only [List.map_toArray, List.map_cons, List.map_nil]); first | done | rfl | (simp only [List.length_drop, List.length_take]; rfl)) ?_; (with_reducible refine (lex_All.calls kj3 a0 t203 t206 t207 t208 _ ?side1 A8.out).mono ?_); (case side1 => exact Gl.below HGL.out (by repeat (first | (with_reducible first | exact HB.out | apply below_alloc | apply pw_below_drewN | apply below_drew1) | exact HB.out))); rintro e w23 ⟨v204, rfl, ho0, hb⟩; refine ⟨_, rfl, ?_⟩; have n0_ := Aside0.mk (Kd.R_lower ho0 (below_size (by repeat (first | (with_reducible first | exact HB.out | apply below_alloc | apply pw_below_drewN | apply below_drew1) | exact HB.out)))); have n1_ := Aside0.mk (below_step (by repeat (first | (with_reducible first | exact HB.out | apply below_alloc | apply pw_below_drewN | apply below_drew1) | exact HB.out)) hb); clear HB; have HO205 := n0_; have HB := n1_; clear n0_ n1_; (try clear hb); (try clear hb2); (try clear hk); (try clear hi); (try clear ho0)) | ((with_reducible refine gate_dst (N := 5) rfl ?_); (try (refine gate_guard (by rfl) ?_; dsimp only)); refine box_event ?hg (N := 5) ?hd (cs := #[.int .i64 0, .int .i64 0]) (t := 26) ?hr ?_; (case hd => rfl); (case hg => rfl); (case hr => first | (go_simp; done) | (go_simp; rfl)); intro gb209 hg w24 hbox hb; have n0_ := Aside0.mk (Kd.R_below (by (with_reducible repeat (first | apply Kd.R_alloc | apply Kd.R_drewN | apply Kd.R_drew)); exact HO205.out) hb); have n1_ := Aside0.mk (below_step (by repeat (first | (with_reducible first | exact HB.out | apply below_alloc | apply pw_below_drewN | apply below_drew1) | exact HB.out)) hb); have n2_ := Aside0.mk (hbox); have n3_ := Aside0.mk ((by rw [hg]; exact (below_size (by repeat (first | (with_reducible first | exact HB.out | apply below_alloc | apply pw_below_drewN | apply below_drew1) | exact HB.out))) : w.heap.size ≤ gb209)); have n4_ := Aside0.mk ((by rw [hg]; exact (below_size (by repeat (first | (with_reducible first | exact HB.out | apply below_alloc | apply pw_below_drewN | apply below_drew1) | exact HB.out))) : w.heap.size ≤ gb209)); clear HO205; clear HB; have HO205 := n0_; have HB := n1_; have BK209 := n2_; have GW209 := n3_; have GE209 := n4_; clear n0_ n1_ n2_ n3_ n4_; clear hb hbox hg; have hcz25_0 : w24.cell? ⟨gb209, 0, none⟩ = some (.int .i64 0) := (blk_cell BK209.out 0).trans rfl; have hcz25_1 : w24.cell? ⟨gb209, 1, none⟩ = some (.int .i64 0) := (blk_cell BK209.out 1).trans rfl; have hfz25_0 := blk_frozen BK209.out 0; have hfz25_1 := blk_frozen BK209.out 1) | ((with_reducible refine gate_callee (f := 10) rfl ?_); refine goesL_ (some 27) rfl rfl Tryz.func10 (by kernel_rfl) rfl #[.string a0] rfl (by (try simp only [List.map_toArray, List.map_cons, List.map_nil]); first | done | rfl | (simp only [List.length_drop, List.length_take]; rfl)) ?_; (with_reducible refine (bloomeryref09_All.calls kj3 a0 t210 t213 t214 t215 _ A9.out).mono ?_); rintro e w26 ⟨v211, rfl, ho0, hb⟩; refine ⟨_, rfl, ?_⟩; have n0_ := Aside0.mk (Kd.R_elder' (by (with_reducible repeat (first | apply Kd.R_alloc | apply Kd.R_drewN | apply Kd.R_drew)); exact (Kd.R_mono (Kd.R_far (p := ⟨gb209, 1, none⟩) (Kd.R_far (p := ⟨gb209, 0, none⟩) (Kd.R_types HO205.out BK209.out (by decide)) (fun _ hk => hk.2) (.int .i64 t207)) (fun _ hk => hk.2) (.int .i64 t208)) (fun _ h_ => h_.1))) (Kd.R_base ho0) hb); have n1_ := Aside0.mk (Kd.R_lower (Kd.R_new' ho0 (Kd.R_lt (by (with_reducible repeat (first | apply Kd.R_alloc | apply Kd.R_drewN | apply Kd.R_drew)); exact (Kd.R_mono (Kd.R_far (p := ⟨gb209, 1, none⟩) (Kd.R_far (p := ⟨gb209, 0, none⟩) (Kd.R_types HO205.out BK209.out (by decide)) (fun _ hk => hk.2) (.int .i64 t207)) (fun _ hk => hk.2) (.int .i64 t208)) (fun _ h_ => h_.1))))) (below_size (by repeat (first | (with_reducible first | exact HB.out | apply below_alloc | apply pw_below_drewN | apply below_drew1 | refine below_set ?_ GE209.out) | exact HB.out)))); have n2_ := Aside0.mk (blk_below (g := gb209) (o := .cells #[.int .i64 t207, .int .i64 t208] 26 (0, 0)) (by (with_reducible repeat (first | refine blk_drewN ?_ _ | refine blk_drew ?_ | refine blk_alloc ?_ _)); refine blk_put (cs := #[.int .i64 t207, .int .i64 0]) ?_ 1 _ rfl; (with_reducible repeat (first | refine blk_drewN ?_ _ | refine blk_drew ?_ | refine blk_alloc ?_ _)); refine blk_put (cs := #[.int .i64 0, .int .i64 0]) ?_ 0 _ rfl; (with_reducible repeat (first | refine blk_drewN ?_ _ | refine blk_drew ?_ | refine blk_alloc ?_ _)); exact BK209.out) hb); have n3_ := Aside0.mk (below_step (by repeat (first | (with_reducible first | exact HB.out | apply below_alloc | apply pw_below_drewN | apply below_drew1 | refine below_set ?_ GE209.out) | exact HB.out)) hb); clear HO205; clear BK209; clear HB; have HO205 := n0_; have HO212 := n1_; have BK209 := n2_; have HB := n3_; clear n0_ n1_ n2_ n3_; (try clear hb); (try clear hb2); (try clear hk); (try clear hi); (try clear ho0)) | ((with_reducible refine gate_dst (N := 8) rfl ?_); (try (refine gate_guard (by rfl) ?_; dsimp only)); refine box_event ?hg (N := 8) ?hd (cs := #[.int .i64 0, .int .i64 0]) (t := 26) ?hr ?_; (case hd => rfl); (case hg => rfl); (case hr => first | (go_simp; done) | (go_simp; rfl)); intro gb216 hg w27 hbox hb; have n0_ := Aside0.mk (Kd.R_below (by (with_reducible repeat (first | apply Kd.R_alloc | apply Kd.R_drewN | apply Kd.R_drew)); exact HO205.out) hb); have n1_ := Aside0.mk (Kd.R_below (by (with_reducible repeat (first | apply Kd.R_alloc | apply Kd.R_drewN | apply Kd.R_drew)); exact HO212.out) hb); have n2_ := Aside0.mk (blk_below (g := gb209) (o := .cells #[.int .i64 t207, .int .i64 t208] 26 (0, 0)) (by (with_reducible repeat (first | refine blk_drewN ?_ _ | refine blk_drew ?_ | refine blk_alloc ?_ _)); exact BK209.out) hb); have n3_ := Aside0.mk (below_step (by repeat (first | (with_reducible first | exact HB.out | apply below_alloc | apply pw_below_drewN | apply below_drew1 | refine below_set ?_ GE209.out) | exact HB.out)) hb); have n4_ := Aside0.mk (hbox); have n5_ := Aside0.mk ((by rw [hg]; exact (below_size (by repeat (first | (with_reducible first | exact HB.out | apply below_alloc | apply pw_below_drewN | apply below_drew1 | refine below_set ?_ GE209.out) | exact HB.out))) : w.heap.size ≤ gb216)); have n6_ := Aside0.mk ((by rw [hg]; exact (below_size (by repeat (first | (with_reducible first | exact HB.out | apply below_alloc | apply pw_below_drewN | apply below_drew1 | refine below_set ?_ GE209.out) | exact HB.out))) : w.heap.size ≤ gb216)); have n7_ := Aside0.mk ((by rw [hg]; exact Nat.ne_of_lt (blk_lt (g := gb209) (o := .cells #[.int .i64 t207, .int .i64 t208] 26 (0, 0)) (by (with_reducible repeat (first | refine blk_drewN ?_ _ | refine blk_drew ?_ | refine blk_alloc ?_ _)); exact BK209.out)) : gb209 ≠ gb216)); have n8_ := Aside0.mk ((by rw [hg]; exact Nat.ne_of_gt (blk_lt (g := gb209) (o := .cells #[.int .i64 t207, .int .i64 t208] 26 (0, 0)) (by (with_reducible repeat (first | refine blk_drewN ?_ _ | refine blk_drew ?_ | refine blk_alloc ?_ _)); exact BK209.out)) : gb216 ≠ gb209)); clear HO205; clear HO212; clear BK209; clear HB; have HO205 := n0_; have HO212 := n1_; have BK209 := n2_; have HB := n3_; have BK216 := n4_; have GW216 := n5_; have GE216 := n6_; have NB209_216 := n7_; have NB216_209 := n8_; clear n0_ n1_ n2_ n3_ n4_ n5_ n6_ n7_ n8_; clear hb hbox hg; have hnb28 := NB216_209.out; have hnc28 := NB209_216.out; have hcz29_0 : w27.cell? ⟨gb216, 0, none⟩ = some (.int .i64 0) := (blk_cell BK216.out 0).trans rfl; have hcz29_1 : w27.cell? ⟨gb216, 1, none⟩ = some (.int .i64 0) := (blk_cell BK216.out 1).trans rfl; have hfz29_0 := blk_frozen BK216.out 0; have hfz29_1 := blk_frozen BK216.out 1; obtain ⟨Ao30, co30, eo30⟩ := Kd.R_slice HO205.out; subst eo30; obtain ⟨Ao31, co31, eo31⟩ := Kd.R_slice HO212.out; subst eo31) | ((with_reducible refine gate_callee (f := 11) rfl ?_); refine goesL_ (some 33) rfl rfl Tryz.func11 (by kernel_rfl) rfl #[.slice Ao30 t203.length co30, .slice Ao31 t210.length co31] rfl (by (try simp only [List.map_toArray, List.map_cons, List.map_nil]); first | done | rfl | (simp only [List.length_drop, List.length_take]; rfl)) ?_; (with_reducible refine (bloomeryref09_Same.calls kj3 _ _ t203 _ _ t210 true _ ?side1 ?side2 ?side3 ?side4 A10.out).mono ?_); (case side1 => refine (Kd.R_reads' (e := 33) (base := w.heap.size) (ok := fun k_ => (True ∧ some k_ ≠ (.slice Ao31 t210.length co31 : Value).ownBlock)) (n := t203.length) (c := co30) ?_).2.2; exact (by (with_reducible repeat (first | apply Kd.R_alloc | apply Kd.R_drewN | apply Kd.R_drew)); exact (Kd.R_mono (Kd.R_far (p := ⟨gb216, 1, none⟩) (Kd.R_far (p := ⟨gb216, 0, none⟩) (Kd.R_types HO205.out BK216.out (by decide)) (fun _ hk => hk.2) (.int .i64 t214)) (fun _ hk => hk.2) (.int .i64 t215)) (fun _ h_ => h_.1)))); (case side2 => exact (Kd.R_reads' HO205.out).2.1); (case side3 => refine (Kd.R_reads' (e := 33) (base := w.heap.size) (ok := fun k_ => (True ∧ some k_ ≠ (.slice Ao30 t203.length co30 : Value).ownBlock)) (n := t210.length) (c := co31) ?_).2.2; exact (by (with_reducible repeat (first | apply Kd.R_alloc | apply Kd.R_drewN | apply Kd.R_drew)); exact (Kd.R_mono (Kd.R_far (p := ⟨gb216, 1, none⟩) (Kd.R_far (p := ⟨gb216, 0, none⟩) (Kd.R_types HO212.out BK216.out (by decide)) (fun _ hk => hk.2) (.int .i64 t214)) (fun _ hk => hk.2) (.int .i64 t215)) (fun _ h_ => h_.1)))); (case side4 => exact (Kd.R_reads' HO212.out).2.1); rintro e w' ⟨rfl, ⟨nd, rfl⟩⟩; refine ⟨_, rfl, ?_⟩))
       go_ret
       exact ⟨by first | rfl | (simp [errW_none, errW_some] <;> rfl) | (simp [*, errW_none, errW_some] <;> rfl), by repeat (first | (with_reducible first | exact HB.out | apply below_alloc | apply pw_below_drewN | apply below_drew1 | refine below_set ?_ GE209.out | refine below_set ?_ GE216.out) | exact HB.out)⟩
     ·replace c11 := Bool.eq_false_iff.mpr c11
      subst c11
      have H1 : (some false) = some r := by rw [if_neg (show ¬ (false = true) by decide)] at H; exact H
      clear H
      have H := H1
      clear H1
      obtain rfl := Option.some.inj H
      go_wp2_with (first | ((with_reducible refine gate_callee (f := 9) rfl ?_); refine goesL_ (some 21) rfl rfl Tryz.func9 (by kernel_rfl) rfl #[.string a0] rfl (by (try simp only [List.map_toArray, List.map_cons, List.map_nil]); first | done | rfl | (simp only [List.length_drop, List.length_take]; rfl)) ?_; (with_reducible refine (lex_All.calls kj3 a0 t203 t206 t207 t208 _ ?side1 A8.out).mono ?_); (case side1 => exact Gl.below HGL.out (by repeat (first | (with_reducible first | exact HB.out | apply below_alloc | apply pw_below_drewN | apply below_drew1) | exact HB.out))); rintro e w32 ⟨v204, rfl, ho0, hb⟩; refine ⟨_, rfl, ?_⟩; have n0_ := Aside0.mk (Kd.R_lower ho0 (below_size (by repeat (first | (with_reducible first | exact HB.out | apply below_alloc | apply pw_below_drewN | apply below_drew1) | exact HB.out)))); have n1_ := Aside0.mk (below_step (by repeat (first | (with_reducible first | exact HB.out | apply below_alloc | apply pw_below_drewN | apply below_drew1) | exact HB.out)) hb); clear HB; have HO205 := n0_; have HB := n1_; clear n0_ n1_; (try clear hb); (try clear hb2); (try clear hk); (try clear hi); (try clear ho0)) | ((with_reducible refine gate_dst (N := 5) rfl ?_); (try (refine gate_guard (by rfl) ?_; dsimp only)); refine box_event ?hg (N := 5) ?hd (cs := #[.int .i64 0, .int .i64 0]) (t := 26) ?hr ?_; (case hd => rfl); (case hg => rfl); (case hr => first | (go_simp; done) | (go_simp; rfl)); intro gb209 hg w33 hbox hb; have n0_ := Aside0.mk (Kd.R_below (by (with_reducible repeat (first | apply Kd.R_alloc | apply Kd.R_drewN | apply Kd.R_drew)); exact HO205.out) hb); have n1_ := Aside0.mk (below_step (by repeat (first | (with_reducible first | exact HB.out | apply below_alloc | apply pw_below_drewN | apply below_drew1) | exact HB.out)) hb); have n2_ := Aside0.mk (hbox); have n3_ := Aside0.mk ((by rw [hg]; exact (below_size (by repeat (first | (with_reducible first | exact HB.out | apply below_alloc | apply pw_below_drewN | apply below_drew1) | exact HB.out))) : w.heap.size ≤ gb209)); have n4_ := Aside0.mk ((by rw [hg]; exact (below_size (by repeat (first | (with_reducible first | exact HB.out | apply below_alloc | apply pw_below_drewN | apply below_drew1) | exact HB.out))) : w.heap.size ≤ gb209)); clear HO205; clear HB; have HO205 := n0_; have HB := n1_; have BK209 := n2_; have GW209 := n3_; have GE209 := n4_; clear n0_ n1_ n2_ n3_ n4_; clear hb hbox hg; have hcz34_0 : w33.cell? ⟨gb209, 0, none⟩ = some (.int .i64 0) := (blk_cell BK209.out 0).trans rfl; have hcz34_1 : w33.cell? ⟨gb209, 1, none⟩ = some (.int .i64 0) := (blk_cell BK209.out 1).trans rfl; have hfz34_0 := blk_frozen BK209.out 0; have hfz34_1 := blk_frozen BK209.out 1) | ((with_reducible refine gate_callee (f := 10) rfl ?_); refine goesL_ (some 27) rfl rfl Tryz.func10 (by kernel_rfl) rfl #[.string a0] rfl (by (try simp only [List.map_toArray, List.map_cons, List.map_nil]); first | done | rfl | (simp only [List.length_drop, List.length_take]; rfl)) ?_; (with_reducible refine (bloomeryref09_All.calls kj3 a0 t210 t213 t214 t215 _ A9.out).mono ?_); rintro e w35 ⟨v211, rfl, ho0, hb⟩; refine ⟨_, rfl, ?_⟩; have n0_ := Aside0.mk (Kd.R_elder' (by (with_reducible repeat (first | apply Kd.R_alloc | apply Kd.R_drewN | apply Kd.R_drew)); exact (Kd.R_mono (Kd.R_far (p := ⟨gb209, 1, none⟩) (Kd.R_far (p := ⟨gb209, 0, none⟩) (Kd.R_types HO205.out BK209.out (by decide)) (fun _ hk => hk.2) (.int .i64 t207)) (fun _ hk => hk.2) (.int .i64 t208)) (fun _ h_ => h_.1))) (Kd.R_base ho0) hb); have n1_ := Aside0.mk (Kd.R_lower (Kd.R_new' ho0 (Kd.R_lt (by (with_reducible repeat (first | apply Kd.R_alloc | apply Kd.R_drewN | apply Kd.R_drew)); exact (Kd.R_mono (Kd.R_far (p := ⟨gb209, 1, none⟩) (Kd.R_far (p := ⟨gb209, 0, none⟩) (Kd.R_types HO205.out BK209.out (by decide)) (fun _ hk => hk.2) (.int .i64 t207)) (fun _ hk => hk.2) (.int .i64 t208)) (fun _ h_ => h_.1))))) (below_size (by repeat (first | (with_reducible first | exact HB.out | apply below_alloc | apply pw_below_drewN | apply below_drew1 | refine below_set ?_ GE209.out) | exact HB.out)))); have n2_ := Aside0.mk (blk_below (g := gb209) (o := .cells #[.int .i64 t207, .int .i64 t208] 26 (0, 0)) (by (with_reducible repeat (first | refine blk_drewN ?_ _ | refine blk_drew ?_ | refine blk_alloc ?_ _)); refine blk_put (cs := #[.int .i64 t207, .int .i64 0]) ?_ 1 _ rfl; (with_reducible repeat (first | refine blk_drewN ?_ _ | refine blk_drew ?_ | refine blk_alloc ?_ _)); refine blk_put (cs := #[.int .i64 0, .int .i64 0]) ?_ 0 _ rfl; (with_reducible repeat (first | refine blk_drewN ?_ _ | refine blk_drew ?_ | refine blk_alloc ?_ _)); exact BK209.out) hb); have n3_ := Aside0.mk (below_step (by repeat (first | (with_reducible first | exact HB.out | apply below_alloc | apply pw_below_drewN | apply below_drew1 | refine below_set ?_ GE209.out) | exact HB.out)) hb); clear HO205; clear BK209; clear HB; have HO205 := n0_; have HO212 := n1_; have BK209 := n2_; have HB := n3_; clear n0_ n1_ n2_ n3_; (try clear hb); (try clear hb2); (try clear hk); (try clear hi); (try clear ho0)) | ((with_reducible refine gate_dst (N := 8) rfl ?_); (try (refine gate_guard (by rfl) ?_; dsimp only)); refine box_event ?hg (N := 8) ?hd (cs := #[.int .i64 0, .int .i64 0]) (t := 26) ?hr ?_; (case hd => rfl); (case hg => rfl); (case hr => first | (go_simp; done) | (go_simp; rfl)); intro gb216 hg w36 hbox hb; have n0_ := Aside0.mk (Kd.R_below (by (with_reducible repeat (first | apply Kd.R_alloc | apply Kd.R_drewN | apply Kd.R_drew)); exact HO205.out) hb); have n1_ := Aside0.mk (Kd.R_below (by (with_reducible repeat (first | apply Kd.R_alloc | apply Kd.R_drewN | apply Kd.R_drew)); exact HO212.out) hb); have n2_ := Aside0.mk (blk_below (g := gb209) (o := .cells #[.int .i64 t207, .int .i64 t208] 26 (0, 0)) (by (with_reducible repeat (first | refine blk_drewN ?_ _ | refine blk_drew ?_ | refine blk_alloc ?_ _)); exact BK209.out) hb); have n3_ := Aside0.mk (below_step (by repeat (first | (with_reducible first | exact HB.out | apply below_alloc | apply pw_below_drewN | apply below_drew1 | refine below_set ?_ GE209.out) | exact HB.out)) hb); have n4_ := Aside0.mk (hbox); have n5_ := Aside0.mk ((by rw [hg]; exact (below_size (by repeat (first | (with_reducible first | exact HB.out | apply below_alloc | apply pw_below_drewN | apply below_drew1 | refine below_set ?_ GE209.out) | exact HB.out))) : w.heap.size ≤ gb216)); have n6_ := Aside0.mk ((by rw [hg]; exact (below_size (by repeat (first | (with_reducible first | exact HB.out | apply below_alloc | apply pw_below_drewN | apply below_drew1 | refine below_set ?_ GE209.out) | exact HB.out))) : w.heap.size ≤ gb216)); have n7_ := Aside0.mk ((by rw [hg]; exact Nat.ne_of_lt (blk_lt (g := gb209) (o := .cells #[.int .i64 t207, .int .i64 t208] 26 (0, 0)) (by (with_reducible repeat (first | refine blk_drewN ?_ _ | refine blk_drew ?_ | refine blk_alloc ?_ _)); exact BK209.out)) : gb209 ≠ gb216)); have n8_ := Aside0.mk ((by rw [hg]; exact Nat.ne_of_gt (blk_lt (g := gb209) (o := .cells #[.int .i64 t207, .int .i64 t208] 26 (0, 0)) (by (with_reducible repeat (first | refine blk_drewN ?_ _ | refine blk_drew ?_ | refine blk_alloc ?_ _)); exact BK209.out)) : gb216 ≠ gb209)); clear HO205; clear HO212; clear BK209; clear HB; have HO205 := n0_; have HO212 := n1_; have BK209 := n2_; have HB := n3_; have BK216 := n4_; have GW216 := n5_; have GE216 := n6_; have NB209_216 := n7_; have NB216_209 := n8_; clear n0_ n1_ n2_ n3_ n4_ n5_ n6_ n7_ n8_; clear hb hbox hg; have hnb37 := NB216_209.out; have hnc37 := NB209_216.out; have hcz38_0 : w36.cell? ⟨gb216, 0, none⟩ = some (.int .i64 0) := (blk_cell BK216.out 0).trans rfl; have hcz38_1 : w36.cell? ⟨gb216, 1, none⟩ = some (.int .i64 0) := (blk_cell BK216.out 1).trans rfl; have hfz38_0 := blk_frozen BK216.out 0; have hfz38_1 := blk_frozen BK216.out 1; obtain ⟨Ao39, co39, eo39⟩ := Kd.R_slice HO205.out; subst eo39; obtain ⟨Ao40, co40, eo40⟩ := Kd.R_slice HO212.out; subst eo40) | ((with_reducible refine gate_callee (f := 11) rfl ?_); refine goesL_ (some 33) rfl rfl Tryz.func11 (by kernel_rfl) rfl #[.slice Ao39 t203.length co39, .slice Ao40 t210.length co40] rfl (by (try simp only [List.map_toArray, List.map_cons, List.map_nil]); first | done | rfl | (simp only [List.length_drop, List.length_take]; rfl)) ?_; (with_reducible refine (bloomeryref09_Same.calls kj3 _ _ t203 _ _ t210 false _ ?side1 ?side2 ?side3 ?side4 A10.out).mono ?_); (case side1 => refine (Kd.R_reads' (e := 33) (base := w.heap.size) (ok := fun k_ => (True ∧ some k_ ≠ (.slice Ao40 t210.length co40 : Value).ownBlock)) (n := t203.length) (c := co39) ?_).2.2; exact (by (with_reducible repeat (first | apply Kd.R_alloc | apply Kd.R_drewN | apply Kd.R_drew)); exact (Kd.R_mono (Kd.R_far (p := ⟨gb216, 1, none⟩) (Kd.R_far (p := ⟨gb216, 0, none⟩) (Kd.R_types HO205.out BK216.out (by decide)) (fun _ hk => hk.2) (.int .i64 t214)) (fun _ hk => hk.2) (.int .i64 t215)) (fun _ h_ => h_.1)))); (case side2 => exact (Kd.R_reads' HO205.out).2.1); (case side3 => refine (Kd.R_reads' (e := 33) (base := w.heap.size) (ok := fun k_ => (True ∧ some k_ ≠ (.slice Ao39 t203.length co39 : Value).ownBlock)) (n := t210.length) (c := co40) ?_).2.2; exact (by (with_reducible repeat (first | apply Kd.R_alloc | apply Kd.R_drewN | apply Kd.R_drew)); exact (Kd.R_mono (Kd.R_far (p := ⟨gb216, 1, none⟩) (Kd.R_far (p := ⟨gb216, 0, none⟩) (Kd.R_types HO212.out BK216.out (by decide)) (fun _ hk => hk.2) (.int .i64 t214)) (fun _ hk => hk.2) (.int .i64 t215)) (fun _ h_ => h_.1)))); (case side4 => exact (Kd.R_reads' HO212.out).2.1); rintro e w' ⟨rfl, ⟨nd, rfl⟩⟩; refine ⟨_, rfl, ?_⟩))
      go_ret
      exact ⟨by first | rfl | (simp [errW_none, errW_some] <;> rfl) | (simp [*, errW_none, errW_some] <;> rfl), by repeat (first | (with_reducible first | exact HB.out | apply below_alloc | apply pw_below_drewN | apply below_drew1 | refine below_set ?_ GE209.out | refine below_set ?_ GE216.out) | exact HB.out)⟩
 ·replace c3 := Bool.eq_false_iff.mpr c3
  subst c3
  have H1 : (some false) = some r := by rw [if_neg (show ¬ (false = true) by decide)] at H; exact H
  clear H
  have H := H1
  clear H1
  obtain rfl := Option.some.inj H
  go_enter Tryz.func3, Tryz.ntmps3
  go_wp2_with (first | ((with_reducible refine gate_callee (f := 8) rfl ?_); refine goesL_ (some 9) rfl rfl Tryz.func8 (by kernel_rfl) rfl #[] rfl (by (try simp only [List.map_toArray, List.map_cons, List.map_nil]); first | done | rfl | (simp only [List.length_drop, List.length_take]; rfl)) ?_; (with_reducible refine (bloomerylaw09_alive.calls k  false _ ?side1 A2.out).mono ?_); (case side1 => exact Gl.below HGL.out (by repeat (first | (with_reducible first | exact HB.out | apply below_alloc | apply pw_below_drewN | apply below_drew1) | exact HB.out))); rintro e w41 ⟨rfl, hb⟩; refine ⟨_, rfl, ?_⟩; have n0_ := Aside0.mk (below_step (by repeat (first | (with_reducible first | exact HB.out | apply below_alloc | apply pw_below_drewN | apply below_drew1) | exact HB.out)) hb); clear HB; have HB := n0_; clear n0_; (try clear hb); (try clear hb2); (try clear hk); (try clear hi)))
  go_ret
  exact ⟨by first | rfl | (simp [errW_none, errW_some] <;> rfl) | (simp [*, errW_none, errW_some] <;> rfl), by repeat (first | (with_reducible first | exact HB.out | apply below_alloc | apply pw_below_drewN | apply below_drew1) | exact HB.out)⟩

end Go.Proofs.YtannlhonjkhchaaGreatDoor.G

/- Layer 9's law LexCuts: as a Lean function it comes to true; what a call of it does. Conditions: the library's two errors of numbers as they were laid. -/
namespace Go.Proofs.YtannlhonjkhchaaGreatDoor.G
open Go.RowKit Go.Gw Go.Proofs.YtannlhonjkhchaaGreatDoorW.PrintWords
set_option linter.unusedVariables false
set_option linter.unusedSimpArgs false

theorem rletter_f (c : UInt8) : bloomeryref09_letter.f (c.toNat : Int) = some (Lx.letterc c) := letter_f c
theorem rdigit_f (c : UInt8) : bloomeryref09_digit.f (c.toNat : Int) = some (Lx.digitc c) := digit_f c
theorem nat_eq (c : UInt8) (n : Nat) (h : n < 256) : ((c.toNat : Int) = (n : Int)) ↔ c = n.toUInt8 := by
  rw [Int.ofNat_inj, ← UInt8.toNat_inj]
  simp
  omega
/-- How far a loop goes over bytes that are such. -/
theorem takeWhile_at (p : UInt8 → Bool) (l : List UInt8) (i : Nat) (h : ∀ c ∈ l.take i, p c = true) (hi : i ≤ l.length) (hs : ∀ h' : i < l.length, p (l[i]'h') = false) : (l.takeWhile p).length = i := by
  by_cases h' : i < l.length
  · have e : l = l.take i ++ l[i] :: l.drop (i + 1) := by
      conv => lhs; rw [← List.take_append_drop i l, List.drop_eq_getElem_cons h']
    rw [e, Lx.takeWhile_all p _ h, List.takeWhile_cons_of_neg (by rw [hs h']; simp), List.append_nil, List.length_take]
    omega
  · have : i = l.length := by omega
    subst this
    rw [List.take_length] at h
    have := Lx.takeWhile_all p l h []
    rw [List.append_nil] at this
    rw [this]
    simp
theorem take_ext {p : UInt8 → Bool} {l : List UInt8} {i : Nat} (h : ∀ c ∈ l.take i, p c = true) (h' : i < l.length) (hp : p l[i] = true) : ∀ c ∈ l.take (i + 1), p c = true := by
  intro c hc
  rw [List.take_succ_eq_append_getElem h'] at hc
  rcases List.mem_append.1 hc with hc | hc
  · exact h c hc
  · rw [List.mem_singleton.1 hc]; exact hp
/-- The reference's gap: one byte, or a remark; 0: none. -/
def gapR (s : List UInt8) : Int := match s with
  | [] => 0
  | c :: r => if Lx.gapc c then 1 else if c = 35 then ((c :: r).takeWhile Lx.notLf).length else 0
theorem rgap_l0 (l : List UInt8) (hl : l.length ≤ 1000000) : ∀ n i, n + i = l.length → (∀ c ∈ l.take i, Lx.notLf c = true) → Ev (fun k => bloomeryref09_gap.l0 k (B l) i) ((l.takeWhile Lx.notLf).length : Int) := by
  intro n
  induction n with
  | zero =>
    intro i hi h
    rw [takeWhile_at Lx.notLf l i h (by omega) (fun h' => absurd h' (by omega))]
    exact Ev.step (fun k => by rw [bloomeryref09_gap.l0]) (Ev.neg (by rw [B_size]; omega) (Ev.now _))
  | succ n ih =>
    intro i hi h
    have h1 : i < l.length := by omega
    refine Ev.step (fun k => by rw [bloomeryref09_gap.l0]) (Ev.pos (by rw [B_size]; omega) (Ev.pos (by omega) ?_))
    rw [bt_nat l i h1, w64 (by omega) (by omega)]
    by_cases hc : l[i] = 10
    · rw [takeWhile_at Lx.notLf l i h (by omega) (fun _ => by rw [hc]; rfl)]
      exact Ev.pos (by rw [hc]; rfl) (Ev.now _)
    · exact Ev.neg (fun e => hc (toNat_eq.1 (e.trans rfl))) (ih (i + 1) (by omega) (take_ext h h1 (by simpa [Lx.notLf] using hc)))
theorem rgap_ev (c : UInt8) (r : List UInt8) (hl : (c :: r).length ≤ 1000000) : Ev (fun k => bloomeryref09_gap.f k (B (c :: r))) (gapR (c :: r)) := by
  have yes : Lx.gapc c = true → Ev (fun k => bloomeryref09_gap.j0 k (B (c :: r)) true) (gapR (c :: r)) := by
    intro h
    unfold gapR
    simp only [h, if_true]
    exact Ev.step (fun k => by rw [bloomeryref09_gap.j0]) (Ev.pos rfl (Ev.now _))
  have no : Lx.gapc c = false → Ev (fun k => bloomeryref09_gap.j0 k (B (c :: r)) false) (gapR (c :: r)) := by
    intro h
    unfold gapR
    simp only [h]
    refine Ev.step (fun k => by rw [bloomeryref09_gap.j0]) (Ev.neg (by decide) (Ev.pos (by rw [B_size]; simp) ?_))
    rw [bt_zero]
    by_cases h2 : c = 35
    · simp only [h2]
      refine Ev.pos rfl ?_
      have := rgap_l0 (35 :: r) (by simpa using hl) (35 :: r).length 0 (by omega) (by simp)
      exact this
    · simp only [h2]
      exact Ev.neg (fun e => h2 (toNat_eq.1 (e.trans rfl))) (Ev.now _)
  have hi := gapc_iff c
  unfold bloomeryref09_gap.f
  refine Ev.pos (by rw [B_size]; simp) ?_
  rw [bt_zero]
  by_cases h1 : (c.toNat : Int) = 32
  · exact Ev.pos h1 (yes (hi.2 (by omega)))
  · refine Ev.neg h1 ?_
    by_cases h2 : (c.toNat : Int) = 9
    · exact Ev.pos h2 (yes (hi.2 (by omega)))
    · refine Ev.neg h2 ?_
      by_cases h3 : (c.toNat : Int) = 10
      · exact Ev.pos h3 (yes (hi.2 (by omega)))
      · refine Ev.neg h3 ?_
        by_cases h4 : (c.toNat : Int) = 13
        · rw [show ((c.toNat : Int) == 13) = true by simpa using h4]
          exact yes (hi.2 (by omega))
        · rw [show ((c.toNat : Int) == 13) = false by simpa using h4]
          refine no ?_
          cases hg : Lx.gapc c with
          | false => rfl
          | true => have := hi.1 hg; omega

/-- What a piece is to the reference: kind, text, size, error. -/
def pieceR : Lx.Piece → Int × ByteArray × Int × Int
  | .gap n => (0, ⟨#[]⟩, n, 0)
  | .tok k t n => (k, ⟨t.toArray⟩, n, 0)
  | .bad e => (0, ⟨#[]⟩, 0, e)
theorem spell_snoc (n : Nat) (l : List UInt8) (c : UInt8) : Lx.spell n (l ++ [c]) = 10 * Lx.spell n l + (c.toNat - 48) := by simp [Lx.spell]
theorem u64w {x : Int} (h1 : 0 ≤ x) (h2 : x ≤ 18446744073709551615) : IntKind.u64.wrap x = x := by
  rw [IntKind.wrap]
  simp [IntKind.signed, IntKind.bits]
  omega
theorem number_l0 (l : List UInt8) (hl : l.length ≤ 1000000) (h0 : 0 < l.length) : ∀ n i (v : Int) (big : Bool), n + i = l.length → (∀ c ∈ l.take i, Lx.digitc c = true) → 0 ≤ v → v ≤ 18446744073709551615 →
    (big = false → v = Lx.spell 0 (l.take i) ∧ Lx.spell 0 (l.take i) ≤ 9223372036854775807) → (big = true → 9223372036854775807 < Lx.spell 0 (l.take i)) →
    Ev (fun k => bloomeryref09_number.l0 k (B l) i v big) (pieceR (Lx.number l)) := by
  have stop : ∀ i (v : Int) (big : Bool), i ≤ l.length → (∀ c ∈ l.take i, Lx.digitc c = true) → (∀ h' : i < l.length, Lx.digitc (l[i]'h') = false) →
      (big = false → v = Lx.spell 0 (l.take i) ∧ Lx.spell 0 (l.take i) ≤ 9223372036854775807) → (big = true → 9223372036854775807 < Lx.spell 0 (l.take i)) →
      Ev (fun k => bloomeryref09_number.j1 k (B l) i v big false) (pieceR (Lx.number l)) := by
    intro i v big hi hd hs hf ht
    have hw := takeWhile_at Lx.digitc l i hd hi hs
    have hwt : l.takeWhile Lx.digitc = l.take i := by rw [← Lx.takeWhile_take Lx.digitc l, hw]
    refine Ev.step (fun k => by rw [bloomeryref09_number.j1]) (Ev.neg (by decide) ?_)
    have fin : ¬ (1 < i ∧ l.head? = some 48) → Ev (fun k => bloomeryref09_number.j2 k (B l) i big false) (pieceR (Lx.number l)) := by
      intro h
      refine Ev.step (fun k => by rw [bloomeryref09_number.j2]) (Ev.neg (by decide) ?_)
      unfold Lx.number
      rw [hw, if_neg h, hwt]
      cases big with
      | true =>
        rw [if_pos (show 9223372036854775807 < Lx.spell 0 (l.take i) from ht rfl)]
        exact Ev.pos rfl (Ev.now _)
      | false =>
        rw [if_neg (show ¬ 9223372036854775807 < Lx.spell 0 (l.take i) by have := hf rfl; omega)]
        refine Ev.neg (by decide) (Ev.pos (by omega) (Ev.pos (by rw [B_size]; omega) ?_))
        rw [Int.toNat_natCast, B_take]
        exact Ev.now _
    have hb0 : bt (B l) 0 = ((l[0]'h0).toNat : Int) := bt_nat l 0 h0
    have hh : l.head? = some (l[0]'h0) := by
      match l with
      | c :: r => rfl
    by_cases h1 : (i : Int) > 1
    · refine Ev.pos h1 (Ev.pos (by rw [B_size]; omega) ?_)
      rw [hb0]
      by_cases h2 : l[0] = 48
      · rw [show (((l[0]'h0).toNat : Int) == 48) = true by rw [h2]; rfl]
        refine Ev.step (fun k => by rw [bloomeryref09_number.j2]) (Ev.pos rfl ?_)
        unfold Lx.number
        rw [hw, if_pos ⟨by omega, by rw [hh, h2]⟩]
        exact Ev.now _
      · rw [show (((l[0]'h0).toNat : Int) == 48) = false by
          rw [beq_eq_false_iff_ne]
          exact fun e => h2 (toNat_eq.1 (e.trans rfl))]
        exact fin (fun h => h2 (by rw [hh] at h; exact Option.some.inj h.2))
    · exact Ev.neg h1 (fin (fun h => by omega))
  intro n
  induction n with
  | zero =>
    intro i v big hi hd h3 h4 hf ht
    exact Ev.step (fun k => by rw [bloomeryref09_number.l0]) (Ev.neg (by rw [B_size]; omega) (stop i v big (by omega) hd (fun h' => absurd h' (by omega)) hf ht))
  | succ n ih =>
    intro i v big hi hd h3 h4 hf ht
    have h1 : i < l.length := by omega
    refine Ev.step (fun k => by rw [bloomeryref09_number.l0]) (Ev.pos (by rw [B_size]; omega) (Ev.pos (by omega) ?_))
    rw [bt_nat l i h1, rdigit_f]
    simp only [Option.bind_some]
    cases hc : Lx.digitc l[i] with
    | false => exact stop i v big (by omega) hd (fun _ => hc) hf ht
    | true =>
      have hcb := (digitc_iff l[i]).1 hc
      refine Ev.step (fun k => by rw [bloomeryref09_number.j1]) (Ev.pos rfl ?_)
      rw [bt_nat l i h1, w64 (x := (i : Int) + 1) (by omega) (by omega)]
      have hsn : Lx.spell 0 (l.take (i + 1)) = 10 * Lx.spell 0 (l.take i) + (l[i].toNat - 48) := by
        rw [List.take_succ_eq_append_getElem h1, spell_snoc]
      have hdn := take_ext hd h1 hc
      have hwr : ∀ x : Int, 0 ≤ IntKind.u64.wrap x ∧ IntKind.u64.wrap x ≤ 18446744073709551615 := by
        intro x
        rw [IntKind.wrap]
        simp [IntKind.signed, IntKind.bits]
        omega
      obtain ⟨v', hv'⟩ : ∃ v', v' = IntKind.u64.wrap ((IntKind.u64.wrap ((IntKind.u64.wrap (10 * v)) + (IntKind.u64.wrap (l[i].toNat : Int)))) - 48) := ⟨_, rfl⟩
      have hv2 := hwr ((IntKind.u64.wrap ((IntKind.u64.wrap (10 * v)) + (IntKind.u64.wrap (l[i].toNat : Int)))) - 48)
      rw [← hv'] at hv2 ⊢
      have small : v ≤ 922337203685477580 → v' = 10 * v + (l[i].toNat - 48 : Nat) := by
        intro h
        rw [hv', u64w (x := 10 * v) (by omega) (by omega), u64w (x := (l[i].toNat : Int)) (by omega) (by omega), u64w (x := 10 * v + (l[i].toNat : Int)) (by omega) (by omega), u64w (by omega) (by omega)]
        omega
      by_cases hb1 : v > 922337203685477580
      · refine Ev.pos hb1 (Ev.pos (by omega) (Ev.pos (by rw [B_size]; omega) (ih (i + 1) v' true (by omega) hdn hv2.1 hv2.2 (fun e => by cases e) (fun _ => ?_))))
        rw [hsn]
        cases big with
        | false => have := hf rfl; omega
        | true => have := ht rfl; omega
      · refine Ev.neg hb1 ?_
        have hsm := small (by omega)
        have keep : (v = 922337203685477580 → l[i].toNat ≤ 55) → Ev (fun k => bloomeryref09_number.l0 k (B l) (((i + 1 : Nat) : Int)) v' big) (pieceR (Lx.number l)) := by
          intro hlim
          refine ih (i + 1) v' big (by omega) hdn hv2.1 hv2.2 (fun e => ?_) (fun e => ?_)
          · have := hf e
            rw [hsn]
            by_cases he : v = 922337203685477580
            · have := hlim he
              omega
            · omega
          · have := ht e
            rw [hsn]
            omega
        by_cases hb2 : v = 922337203685477580
        · refine Ev.pos hb2 (Ev.pos (by omega) (Ev.pos (by rw [B_size]; omega) ?_))
          by_cases hb3 : (l[i].toNat : Int) > 55
          · refine Ev.pos hb3 (ih (i + 1) v' true (by omega) hdn hv2.1 hv2.2 (fun e => by cases e) (fun _ => ?_))
            rw [hsn]
            cases big with
            | false => have := hf rfl; omega
            | true => have := ht rfl; omega
          · exact Ev.neg hb3 (keep (fun _ => by omega))
        · exact Ev.neg hb2 (Ev.pos (by omega) (Ev.pos (by rw [B_size]; omega) (keep (fun e => absurd e hb2))))
theorem number_ev (l : List UInt8) (hl : l.length ≤ 1000000) (h0 : 0 < l.length) : Ev (fun k => bloomeryref09_number.f k (B l)) (pieceR (Lx.number l)) := by
  unfold bloomeryref09_number.f
  exact number_l0 l hl h0 l.length 0 0 false (by omega) (by simp) (by omega) (by omega) (fun _ => ⟨rfl, by simp [Lx.spell]⟩) (fun e => by cases e)

/-- What has been read ahead of the rest. -/
def quotedR (o : List UInt8) (i : Nat) : Option (List UInt8 × Nat) → Int × ByteArray × Int × Int
  | none => (0, ⟨#[]⟩, 0, 3)
  | some (t, n) => (3, B (o ++ t), ((i + n : Nat) : Int), 0)
theorem rquoted_l0 (l : List UInt8) (hl : l.length ≤ 1000000) : ∀ n i o, l.length - i ≤ n → i ≤ l.length → o.length ≤ i → Ev (fun k => bloomeryref09_quoted.l0 k (B l) (natsOf o) i) (quotedR o i (Lx.quoted (l.drop i))) := by
  have stop : ∀ i o, i = l.length → Ev (fun k => bloomeryref09_quoted.l0 k (B l) (natsOf o) i) (quotedR o i (Lx.quoted (l.drop i))) := by
    intro i o hi
    rw [List.drop_eq_nil_of_le (by omega), show quotedR o i (Lx.quoted []) = (0, ⟨#[]⟩, 0, 3) by simp [Lx.quoted, quotedR]]
    exact Ev.step (fun k => by rw [bloomeryref09_quoted.l0]) (Ev.neg (by rw [B_size]; omega) (Ev.now _))
  have bad : ∀ i o c, Ev (fun k => bloomeryref09_quoted.j1 k (B l) (natsOf o) i c true) (0, ⟨#[]⟩, 0, 3) := by
    intro i o c
    exact Ev.step (fun k => by rw [bloomeryref09_quoted.j1]) (Ev.pos rfl (Ev.now _))
  have bad2 : ∀ i o, Ev (fun k => bloomeryref09_quoted.j2 k (B l) (natsOf o) i true) (0, ⟨#[]⟩, 0, 3) := by
    intro i o
    exact Ev.step (fun k => by rw [bloomeryref09_quoted.j2]) (Ev.pos rfl (Ev.now _))
  have nlen : ∀ o : List UInt8, (natsOf o).length = o.length := by intro o; simp [natsOf]
  intro n
  induction n with
  | zero =>
    intro i o hn hi ho
    exact stop i o (by omega)
  | succ n ih =>
    intro i o hn hi ho
    by_cases h1 : i < l.length
    · have hd : l.drop i = l[i] :: l.drop (i + 1) := List.drop_eq_getElem_cons h1
      refine Ev.step (fun k => by rw [bloomeryref09_quoted.l0]) (Ev.pos (by rw [B_size]; omega) (Ev.pos (by omega) ?_))
      rw [bt_nat l i h1, w64 (x := (i : Int) + 1) (by omega) (by omega), hd, Lx.quoted_cons]
      by_cases h34 : l[i] = 34
      · rw [if_pos h34]
        refine Ev.pos (by rw [h34]; rfl) ⟨0, fun k _ => ?_⟩
        simp [quotedR, strOf_nats]
        rfl
      · rw [if_neg h34]
        refine Ev.neg (fun e => h34 (toNat_eq.1 (e.trans rfl))) ?_
        by_cases h32 : (l[i].toNat : Int) < 32
        · rw [if_pos (.inl (by omega))]
          exact Ev.pos h32 (bad _ _ _)
        · refine Ev.neg h32 ?_
          by_cases h127 : l[i] = 127
          · rw [if_pos (.inr h127), show ((l[i].toNat : Int) == 127) = true by rw [h127]; rfl]
            exact bad _ _ _
          · rw [if_neg (by rintro (h | h); omega; exact h127 h), show ((l[i].toNat : Int) == 127) = false by
              rw [beq_eq_false_iff_ne]; exact fun e => h127 (toNat_eq.1 (e.trans rfl))]
            refine Ev.step (fun k => by rw [bloomeryref09_quoted.j1]) (Ev.neg (by decide) ?_)
            rw [w64 (x := (i : Int) + 1) (by omega) (by omega), B_size, nlen]
            by_cases h92 : l[i] = 92
            · rw [if_pos h92]
              refine Ev.pos (by rw [h92]; rfl) ?_
              by_cases h2 : i + 1 < l.length
              · have hd2 : l.drop (i + 1) = l[i + 1] :: l.drop (i + 1 + 1) := List.drop_eq_getElem_cons h2
                refine Ev.neg (by omega) (Ev.pos (by omega) (Ev.pos (by omega) ?_))
                have hbt : bt (B l) ((i : Int) + 1) = (l[i + 1].toNat : Int) := bt_nat l (i + 1) h2
                rw [hbt, hd2]
                -- a byte x is taken
                have go : ∀ x : UInt8, Ev (fun k => bloomeryref09_quoted.l0 k (B l) (natsOf (o ++ [x])) ((i + 1 + 1 : Nat) : Int)) (quotedR o i (match Lx.quoted (l.drop (i + 1 + 1)) with
                    | none => none
                    | some (t, n) => some (x :: t, n + 2))) := by
                  intro x
                  have := ih (i + 1 + 1) (o ++ [x]) (by omega) (by omega) (by simp; omega)
                  have e : quotedR (o ++ [x]) (i + 1 + 1) (Lx.quoted (l.drop (i + 1 + 1))) = quotedR o i (match Lx.quoted (l.drop (i + 1 + 1)) with
                    | none => none
                    | some (t, n) => some (x :: t, n + 2)) := by
                    cases Lx.quoted (l.drop (i + 1 + 1)) with
                    | none => rfl
                    | some q =>
                      obtain ⟨t, m⟩ := q
                      simp [quotedR]
                      omega
                  rw [e] at this
                  exact this
                have j2 : ∀ x : UInt8, (l[i + 1] = 110 → x = 10) → (l[i + 1] ≠ 110 → x = l[i + 1]) → Ev (fun k => bloomeryref09_quoted.j2 k (B l) (natsOf o) ((i : Int) + 1) false) (quotedR o i (match Lx.quoted (l.drop (i + 1 + 1)) with
                    | none => none
                    | some (t, n) => some (x :: t, n + 2))) := by
                  intro x hx1 hx2
                  refine Ev.step (fun k => by rw [bloomeryref09_quoted.j2]) (Ev.neg (by decide) (Ev.pos (by omega) (Ev.pos (by rw [B_size]; omega) ?_)))
                  rw [hbt, w64 (x := (i : Int) + 1 + 1) (by omega) (by omega), nlen]
                  have hgo := go x
                  by_cases hx : l[i + 1] = 110
                  · refine Ev.pos (by rw [hx]; rfl) (Ev.pos (by omega) ?_)
                    rw [hx1 hx, ← natsOf_snoc] at hgo
                    rw [hx1 hx]
                    exact hgo
                  · refine Ev.neg (fun e => hx (toNat_eq.1 (e.trans rfl))) (Ev.pos (by omega) ?_)
                    rw [hx2 hx, ← natsOf_snoc] at hgo
                    rw [hx2 hx]
                    exact hgo
                by_cases g1 : l[i + 1] = 34
                · refine Ev.pos (by rw [g1]; rfl) ?_
                  have := j2 34 (by rw [g1]; decide) (fun _ => g1.symm)
                  simp only [show Lx.esc l[i + 1] = some 34 by rw [g1]; rfl]
                  exact this
                · refine Ev.neg (fun e => g1 (toNat_eq.1 (e.trans rfl))) ?_
                  by_cases g2 : l[i + 1] = 92
                  · refine Ev.pos (by rw [g2]; rfl) ?_
                    have := j2 92 (by rw [g2]; decide) (fun _ => g2.symm)
                    simp only [show Lx.esc l[i + 1] = some 92 by rw [g2]; rfl]
                    exact this
                  · refine Ev.neg (fun e => g2 (toNat_eq.1 (e.trans rfl))) ?_
                    by_cases g3 : l[i + 1] = 110
                    · rw [show ((l[i + 1].toNat : Int) != 110) = false by rw [g3]; rfl]
                      have := j2 10 (fun _ => rfl) (fun h => absurd g3 h)
                      simp only [show Lx.esc l[i + 1] = some 10 by rw [g3]; rfl]
                      exact this
                    · rw [show ((l[i + 1].toNat : Int) != 110) = true by
                        rw [bne_iff_ne]; exact fun e => g3 (toNat_eq.1 (e.trans rfl))]
                      simp only [show Lx.esc l[i + 1] = none by unfold Lx.esc; rw [if_neg g1, if_neg g2, if_neg g3]]
                      exact bad2 _ _
              · rw [List.drop_eq_nil_of_le (by omega : l.length ≤ i + 1)]
                exact Ev.pos (by omega) (bad2 _ _)
            · rw [if_neg h92]
              refine Ev.neg (fun e => h92 (toNat_eq.1 (e.trans rfl))) (Ev.pos (by omega) ?_)
              have := ih (i + 1) (o ++ [l[i]]) (by omega) (by omega) (by simp; omega)
              have e : quotedR (o ++ [l[i]]) (i + 1) (Lx.quoted (l.drop (i + 1))) = quotedR o i (match Lx.quoted (l.drop (i + 1)) with
                | none => none
                | some (t, n) => some (l[i] :: t, n + 1)) := by
                cases Lx.quoted (l.drop (i + 1)) with
                | none => rfl
                | some q =>
                  obtain ⟨t, m⟩ := q
                  simp [quotedR]
                  omega
              rw [e, ← natsOf_snoc] at this
              exact this
    · exact stop i o (by omega)
theorem rquoted_ev (c : UInt8) (r : List UInt8) (hl : (c :: r).length ≤ 1000000) : Ev (fun k => bloomeryref09_quoted.f k (B (c :: r))) (pieceR (match Lx.quoted r with
      | none => .bad 3
      | some (t, n) => .tok 3 t (n + 1))) := by
  have := rquoted_l0 (c :: r) hl (c :: r).length 1 [] (by omega) (by simp) (by simp)
  unfold bloomeryref09_quoted.f
  have e : quotedR [] 1 (Lx.quoted ((c :: r).drop 1)) = pieceR (match Lx.quoted r with
      | none => .bad 3
      | some (t, n) => .tok 3 t (n + 1)) := by
    show quotedR [] 1 (Lx.quoted r) = _
    cases Lx.quoted r with
    | none => rfl
    | some q =>
      obtain ⟨t, m⟩ := q
      simp [quotedR, pieceR, B]
      omega
  rw [e] at this
  exact this
theorem word_l0 (l : List UInt8) (hl : l.length ≤ 1000000) : ∀ n i, n + i = l.length → (∀ c ∈ l.take i, Lx.wordc c = true) → Ev (fun k => bloomeryref09_First.l0 k (B l) i) (1, B (l.takeWhile Lx.wordc), ((l.takeWhile Lx.wordc).length : Int), 0) := by
  have stop : ∀ i, i ≤ l.length → (∀ c ∈ l.take i, Lx.wordc c = true) → (∀ h' : i < l.length, Lx.wordc (l[i]'h') = false) → (l.takeWhile Lx.wordc).length = i ∧ l.takeWhile Lx.wordc = l.take i := by
    intro i h1 h2 h3
    have hw := takeWhile_at Lx.wordc l i h2 h1 h3
    exact ⟨hw, by rw [← Lx.takeWhile_take Lx.wordc l, hw]⟩
  intro n
  induction n with
  | zero =>
    intro i hi h
    obtain ⟨e1, e2⟩ := stop i (by omega) h (fun h' => absurd h' (by omega))
    refine Ev.step (fun k => by rw [bloomeryref09_First.l0]) (Ev.neg (by rw [B_size]; omega) (Ev.pos (by omega) (Ev.pos (by rw [B_size]; omega) ?_)))
    rw [Int.toNat_natCast, B_take, e1, e2]
    exact Ev.now _
  | succ n ih =>
    intro i hi h
    have h1 : i < l.length := by omega
    refine Ev.step (fun k => by rw [bloomeryref09_First.l0]) (Ev.pos (by rw [B_size]; omega) (Ev.pos (by omega) ?_))
    rw [bt_nat l i h1, rletter_f, rdigit_f, w64 (by omega) (by omega)]
    simp only [Option.bind_some]
    cases h2 : Lx.letterc l[i] with
    | true => exact Ev.pos rfl (ih (i + 1) (by omega) (take_ext h h1 (by simp [Lx.wordc, h2])))
    | false =>
      refine Ev.neg (by decide) ?_
      cases h3 : Lx.digitc l[i] with
      | true => exact Ev.pos rfl (ih (i + 1) (by omega) (take_ext h h1 (by simp [Lx.wordc, h3])))
      | false =>
        obtain ⟨e1, e2⟩ := stop i (by omega) h (fun _ => by simp [Lx.wordc, h2, h3])
        refine Ev.neg (by decide) (Ev.pos (by rw [B_size]; omega) ?_)
        rw [Int.toNat_natCast, B_take, e1, e2]
        exact Ev.now _
theorem signs_l1 (c : UInt8) (r : List UInt8) : ∀ n i, n + i = Lx.signs.length → c ∉ Lx.signs.take i → Ev (fun k => bloomeryref09_First.l1 k (B (c :: r)) (B Lx.signs) i) (if c ∈ Lx.signs then (4, B [c], 1, 0) else (0, ⟨#[]⟩, 0, 3)) := by
  intro n
  induction n with
  | zero =>
    intro i hi h
    have hi : i = Lx.signs.length := by omega
    subst hi
    rw [List.take_length] at h
    rw [if_neg h]
    exact Ev.step (fun k => by rw [bloomeryref09_First.l1]) (Ev.neg (by rw [B_size]; omega) (Ev.now _))
  | succ n ih =>
    intro i hi h
    have h1 : i < Lx.signs.length := by omega
    have h11 : Lx.signs.length = 11 := rfl
    refine Ev.step (fun k => by rw [bloomeryref09_First.l1]) (Ev.pos (by rw [B_size]; omega) (Ev.pos (by omega) (Ev.pos (by rw [B_size]; simp) ?_)))
    rw [bt_nat Lx.signs i h1, bt_zero, w64 (by omega) (by omega)]
    by_cases hc : Lx.signs[i] = c
    · have e : (if c ∈ Lx.signs then ((4 : Int), B [c], (1 : Int), (0 : Int)) else (0, ⟨#[]⟩, 0, 3)) = (4, B [c], 1, 0) := if_pos (by rw [← hc]; exact List.getElem_mem h1)
      rw [e]
      refine Ev.pos (by rw [hc]) (Ev.pos (by omega) (Ev.pos (by rw [B_size]; simp; omega) ?_))
      rw [B_take]
      exact Ev.now _
    · refine Ev.neg (fun e => hc (toNat_eq.1 e)) (ih (i + 1) (by omega) ?_)
      rw [List.take_succ_eq_append_getElem h1]
      intro hm
      rcases List.mem_append.1 hm with hm | hm
      · exact h hm
      · exact hc (List.mem_singleton.1 hm).symm
theorem gapR_pos (c : UInt8) (r : List UInt8) : (0 < gapR (c :: r) ∧ Lx.piece (c :: r) = .gap (gapR (c :: r)).toNat) ∨ (gapR (c :: r) = 0 ∧ Lx.gapc c = false ∧ c ≠ 35) := by
  unfold gapR
  by_cases h1 : Lx.gapc c = true
  · simp only [h1, if_true]
    refine .inl ⟨by omega, ?_⟩
    rw [Lx.piece_cons, if_pos h1]
    rfl
  · simp only [h1]
    by_cases h2 : c = 35
    · subst h2
      simp only [if_true]
      have hp : 1 ≤ ((35 :: r).takeWhile Lx.notLf).length := Lx.takeWhile_pos (by decide)
      refine .inl ⟨by simp only [Bool.false_eq_true, if_false]; omega, ?_⟩
      rw [Lx.piece_cons, if_neg h1, if_pos rfl]
      rfl
    · simp only [h2]
      exact .inr ⟨rfl, by simp, h2⟩
theorem First_ev (c : UInt8) (r : List UInt8) (hl : (c :: r).length ≤ 1000000) : Ev (fun k => bloomeryref09_First.f k (B (c :: r))) (pieceR (Lx.piece (c :: r))) := by
  unfold bloomeryref09_First.f
  refine Ev.bind (rgap_ev c r hl) ?_
  rcases gapR_pos c r with ⟨h1, h2⟩ | ⟨h1, h2, h3⟩
  · rw [h2]
    refine Ev.pos h1 ⟨0, fun k _ => ?_⟩
    simp only [pieceR]
    rw [Int.toNat_of_nonneg (by omega)]
  · rw [h1, Lx.piece_cons, if_neg (by rw [h2]; decide), if_neg h3]
    refine Ev.neg (by decide) (Ev.pos (by rw [B_size]; simp) ?_)
    rw [bt_zero, rletter_f, rdigit_f]
    simp only [Option.bind_some]
    by_cases h4 : Lx.letterc c = true
    · rw [if_pos h4]
      exact Ev.pos h4 (word_l0 (c :: r) hl (c :: r).length 0 (by omega) (by simp))
    · rw [if_neg h4]
      refine Ev.neg h4 ?_
      by_cases h5 : Lx.digitc c = true
      · rw [if_pos h5]
        exact Ev.pos h5 (Ev.bind (number_ev (c :: r) hl (by simp)) (Ev.now _))
      · rw [if_neg h5]
        refine Ev.neg h5 ?_
        by_cases h6 : c = 34
        · rw [if_pos h6]
          exact Ev.pos (by rw [h6]; rfl) (Ev.bind (rquoted_ev c r hl) (Ev.now _))
        · rw [if_neg h6]
          refine Ev.neg (fun e => h6 (toNat_eq.1 (e.trans rfl))) ?_
          -- no sign of two bytes
          have one : ¬ (r.head? = some 61 ∧ (c = 61 ∨ c = 33)) → Ev (fun k => bloomeryref09_First.j1 k (B (c :: r)) false) (pieceR (if r.head? = some 61 ∧ (c = 61 ∨ c = 33) then .tok 4 [c, 61] 2 else if c ∈ Lx.signs then .tok 4 [c] 1 else .bad 3)) := by
            intro hno
            rw [if_neg hno]
            refine Ev.step (fun k => by rw [bloomeryref09_First.j1]) (Ev.neg (by decide) ?_)
            have := signs_l1 c r Lx.signs.length 0 (by omega) (by simp)
            have e : (if c ∈ Lx.signs then ((4 : Int), B [c], (1 : Int), (0 : Int)) else (0, ⟨#[]⟩, 0, 3)) = pieceR (if c ∈ Lx.signs then .tok 4 [c] 1 else .bad 3) := by
              split <;> rfl
            rw [e] at this
            exact this
          have two : r.head? = some 61 ∧ (c = 61 ∨ c = 33) → Ev (fun k => bloomeryref09_First.j1 k (B (c :: r)) true) (pieceR (if r.head? = some 61 ∧ (c = 61 ∨ c = 33) then .tok 4 [c, 61] 2 else if c ∈ Lx.signs then .tok 4 [c] 1 else .bad 3)) := by
            intro hyes
            rw [if_pos hyes]
            match r with
            | [] => simp at hyes
            | d :: r' =>
              have hd : d = 61 := by simpa using hyes.1
              subst hd
              refine Ev.step (fun k => by rw [bloomeryref09_First.j1]) (Ev.pos rfl (Ev.pos (by omega) (Ev.pos (by rw [B_size]; simp; omega) ?_)))
              rw [B_take]
              exact Ev.now _
          match r with
          | [] =>
            refine Ev.neg (by rw [B_size]; simp) (one (by simp))
          | d :: r' =>
            refine Ev.pos (by rw [B_size]; simp; omega) (Ev.pos (by rw [B_size]; simp; omega) ?_)
            have hb1 : bt (B (c :: d :: r')) 1 = (d.toNat : Int) := bt_nat (c :: d :: r') 1 (by simp)
            rw [hb1]
            by_cases h7 : d = 61
            · refine Ev.pos (by rw [h7]; rfl) ?_
              by_cases h8 : c = 61
              · exact Ev.pos (by rw [h8]; rfl) (two ⟨by simp [h7], .inl h8⟩)
              · refine Ev.neg (fun e => h8 (toNat_eq.1 (e.trans rfl))) ?_
                by_cases h9 : c = 33
                · rw [show ((c.toNat : Int) == 33) = true by rw [h9]; rfl]
                  exact two ⟨by simp [h7], .inr h9⟩
                · rw [show ((c.toNat : Int) == 33) = false by
                    rw [beq_eq_false_iff_ne]; exact fun e => h9 (toNat_eq.1 (e.trans rfl))]
                  exact one (by rintro ⟨_, h | h⟩; exact h8 h; exact h9 h)
            · exact Ev.neg (fun e => h7 (toNat_eq.1 (e.trans rfl))) (one (by rintro ⟨h, _⟩; exact h7 (by simpa using h)))
/-- The reference's tokens. -/
theorem rall_l0 (l : List UInt8) (hl : l.length ≤ 70000) : ∀ n i (acc : List S33), l.length - i ≤ n → i ≤ l.length → acc.length ≤ i → Ev (fun k => bloomeryref09_All.l0 k (B l) acc i) (allR acc (Lx.all (Lx.pass (1, 1) (l.take i)) (l.drop i))) := by
  have stop : ∀ i (acc : List S33), i = l.length → Ev (fun k => bloomeryref09_All.l0 k (B l) acc i) (allR acc (Lx.all (Lx.pass (1, 1) (l.take i)) (l.drop i))) := by
    intro i acc hi
    rw [List.drop_eq_nil_of_le (by omega), Lx.all_nil]
    refine Ev.step (fun k => by rw [bloomeryref09_All.l0]) (Ev.neg (by rw [B_size]; omega) ⟨0, fun k _ => by simp [allR]⟩)
  intro n
  induction n with
  | zero => intro i acc hn hi ha; exact stop i acc (by omega)
  | succ n ih =>
    intro i acc hn hi ha
    by_cases h1 : i < l.length
    · have hd : l.drop i = l[i] :: l.drop (i + 1) := List.drop_eq_getElem_cons h1
      have hne : l.drop i ≠ [] := by rw [hd]; exact List.cons_ne_nil _ _
      have hdl : (l.drop i).length = l.length - i := List.length_drop
      have hf := First_ev l[i] (l.drop (i + 1)) (by rw [← hd]; omega)
      rw [← hd] at hf
      have hat := at_ev l (by omega) i (by omega)
      have hsz := Lx.piece_size (l.drop i) hne
      have hpt : ∀ m, m ≤ l.length - i → Lx.pass (Lx.pass (1, 1) (l.take i)) ((l.drop i).take m) = Lx.pass (1, 1) (l.take (i + m)) := by
        intro m hm
        rw [← Lx.pass_append]
        congr 1
        rw [List.take_add]
      rw [Lx.all_step _ _ hne]
      refine Ev.step (fun k => by rw [bloomeryref09_All.l0]) (Ev.pos (by rw [B_size]; omega) (Ev.pos (by omega) (Ev.pos (by rw [B_size]; omega) ?_)))
      rw [Int.toNat_natCast, B_drop]
      refine Ev.bind hf ?_
      rcases piece_cases (l.drop i) with ⟨m, g⟩ | g | g | ⟨kd, t, m, g1, g2, g⟩
      · rw [g] at hsz ⊢
        simp only [Lx.Piece.size] at hsz
        simp only [pieceR]
        rcases hsz.2 with ⟨x, hx⟩ | h2
        · cases hx
        · refine Ev.pos trivial (Ev.neg (by decide) ?_)
          rw [w64 (by omega) (by omega), hpt m (by omega), List.drop_drop]
          exact ih (i + m) acc (by omega) (by omega) (by omega)
      · rw [g]
        simp only [pieceR]
        exact Ev.neg (by decide) (Ev.bind hat (Ev.now _))
      · rw [g]
        simp only [pieceR]
        exact Ev.neg (by decide) (Ev.bind hat (Ev.now _))
      · rw [g] at hsz ⊢
        simp only [Lx.Piece.size] at hsz
        simp only [pieceR]
        rcases hsz.2 with ⟨x, hx⟩ | h2
        · cases hx
        · refine Ev.pos trivial (Ev.pos (by omega) (Ev.bind hat (Ev.pos (by omega) ?_)))
          rw [w64 (by omega) (by omega), hpt m (by omega), List.drop_drop]
          have := ih (i + m) (acc ++ [tokS ⟨kd, t, Lx.pass (1, 1) (l.take i)⟩]) (by omega) (by omega) (by simp; omega)
          have e : allR (acc ++ [tokS ⟨kd, t, Lx.pass (1, 1) (l.take i)⟩]) (Lx.all (Lx.pass (1, 1) (l.take (i + m))) (l.drop (i + m))) = allR acc (match Lx.all (Lx.pass (1, 1) (l.take (i + m))) (l.drop (i + m)) with
            | .inl e => .inl e
            | .inr x => .inr (⟨kd, t, Lx.pass (1, 1) (l.take i)⟩ :: x)) := by
            cases Lx.all (Lx.pass (1, 1) (l.take (i + m))) (l.drop (i + m)) with
            | inl x => rfl
            | inr x => simp [allR]
          rw [e] at this
          exact this
    · exact stop i acc (by omega)
theorem rall_ev (l : List UInt8) (hl : l.length ≤ 65536) : Ev (fun k => bloomeryref09_All.f k (B l)) (allR [] (Lx.all (1, 1) l)) := by
  unfold bloomeryref09_All.f
  have := rall_l0 l (by omega) l.length 0 [] (by omega) (by omega) (by simp)
  exact Ev.neg (by rw [B_size]; omega) this
theorem rall_ev_long (s : List UInt8) (h : ¬ s.length ≤ 65536) : Ev (fun k => bloomeryref09_All.f k (B s)) ([], 6, 1, 1) := by
  unfold bloomeryref09_All.f
  exact Ev.pos (by rw [B_size]; omega) (Ev.now _)
theorem LexCuts_ev (s : List UInt8) : Ev (fun k => bloomerylaw09_LexCuts.f k (B s)) true := by
  unfold bloomerylaw09_LexCuts.f
  refine Ev.bind alive_ev (Ev.pos rfl ?_)
  rw [B_size]
  have key : ∀ R : List S33 × Int × Int × Int, R.1.length ≤ 1000000 → Ev (fun k => lex_All.f k (B s)) R → Ev (fun k => bloomeryref09_All.f k (B s)) R → Ev (fun k => bloomerylaw09_LexCuts.j0 k (B s) false) true := by
    intro R hR h1 h2
    refine Ev.step (fun k => by rw [bloomerylaw09_LexCuts.j0]) (Ev.neg (by decide) (Ev.bind h1 (Ev.bind h2 (Ev.bind (same_ev R.1 hR) (Ev.pos rfl (Ev.pos rfl ?_))))))
    exact ⟨0, fun k _ => by simp⟩
  have len : s.length ≤ 65536 → (allR [] (Lx.all (1, 1) s)).1.length ≤ 1000000 := by
    intro hs
    cases h : Lx.all (1, 1) s with
    | inl x => simp [allR]
    | inr x =>
      have := allF_many _ _ _ _ (Nat.le_refl _) h
      simp [allR]
      omega
  by_cases h1 : (s.length : Int) > 600
  · refine Ev.pos h1 ?_
    by_cases h2 : (s.length : Int) ≤ 65536
    · rw [show decide ((s.length : Int) ≤ 65536) = true by simpa using h2]
      exact Ev.step (fun k => by rw [bloomerylaw09_LexCuts.j0]) (Ev.pos rfl (Ev.now _))
    · rw [show decide ((s.length : Int) ≤ 65536) = false by simpa using h2]
      exact key ([], 6, 1, 1) (by simp) (all_ev_long s (by omega)) (rall_ev_long s (by omega))
  · exact Ev.neg h1 (key _ (len (by omega)) (all_ev s (by omega)) (rall_ev s (by omega)))
end Go.Proofs.YtannlhonjkhchaaGreatDoor.G
namespace Go.Proofs.YtannlhonjkhchaaGreatDoor
open Go.RowKit Go.Gw Go.Proofs.YtannlhonjkhchaaGreatDoorW.PrintWords G
theorem LexCuts_row (a : ByteArray) (w : World) (_ : Tab Tryz.prog w) (E : Errs Tryz.prog w) (_ : a.size ≤ 140737488351232) :
    Calls Tryz.prog 3 #[.string a] w fun e w' => e = .returned (.bool true) ∧ Below w.heap.size w w' := by
  obtain ⟨k, hk⟩ := (LexCuts_ev a.data.toList).rounds
  rw [B_of] at hk
  exact bloomerylaw09_LexCuts.calls k a true w ⟨E⟩ hk
end Go.Proofs.YtannlhonjkhchaaGreatDoor

/- How a value that came in reads as one of a kind, and how great it is. Of no program. -/
namespace Go.Proofs.YtannlhonjkhchaaGreatDoor
open Go.RowKit Go.Gw Go.Proofs.YtannlhonjkhchaaGreatDoorW.PrintWords
set_option linter.unusedVariables false

/-- Whatever reads as data of type t, so deep, is of the kind d; Bd: how great it is. -/
def Opens (P : Program) (n : Nat) (t : TypeId) {α : Type} (d : Kd α) (Bd : α → Prop) : Prop :=
  ∀ {H : Type} (enc : TypeId × Value → H) (w : World) (base : Nat) (spare : Nat → Bool) (held : Bool) (fuel : Nat) (cs : List Value) (y : DataW H × List MemPlace), fuel ≤ n →
    DataW.trod enc P w base spare held fuel t cs = some y → (y.1.weights P t).all (· ≤ reachBytes) = true → ∃ x, d.K w x cs ∧ Bd x

def strBd (s : ByteArray) : Prop := s.size ≤ 140737488351232
def intBd (k : IntKind) (n : Int) : Prop := (Lit.int k n).wf = true
def rowBd {α : Type} (B : Nat) (Bd : α → Prop) (l : List α) : Prop := l.length * B ≤ 140737488351232 ∧ ∀ x ∈ l, Bd x

theorem opens_string {P : Program} {n : Nat} {t : TypeId} (ht : P.underlying t = some .string) : Opens P n t Kd.string strBd := by
  intro H enc w base spare held fuel cs y _ h hw
  obtain ⟨s, rfl, rfl, _⟩ := DataW.trod_string ht h
  refine ⟨s, rfl, ?_⟩
  simp only [DataW.weights, List.all_cons, List.all_nil, Bool.and_true, reachBytes, data_length] at hw
  show s.size ≤ 140737488351232
  exact of_decide_eq_true hw
theorem opens_int {P : Program} {n : Nat} {t : TypeId} {k : IntKind} (ht : P.underlying t = some (.int k)) : Opens P n t (Kd.int k) (intBd k) := by
  intro H enc w base spare held fuel cs y _ h hw
  obtain ⟨m, rfl, rfl, hwf⟩ := DataW.trod_int ht h
  exact ⟨m, rfl, hwf⟩
theorem weightsAll_mem {H : Type} {P : Program} {e : TypeId} : ∀ (l : List (DataW H)) (d : DataW H), d ∈ l → ∀ q ∈ d.weights P e, q ∈ DataW.weightsAll P e l := by
  intro l
  induction l with
  | nil => intro d h; cases h
  | cons x l ih =>
    intro d h q hq
    rw [DataW.weightsAll, List.mem_append]
    rcases List.mem_cons.1 h with rfl | h
    · exact .inl hq
    · exact .inr (ih d h q hq)
theorem list_of {α : Type} {Q : Nat → α → Prop} : ∀ n, (∀ i, i < n → ∃ x, Q i x) → ∃ l : List α, l.length = n ∧ ∀ i x, l[i]? = some x → Q i x := by
  intro n
  induction n with
  | zero => intro _; exact ⟨[], rfl, fun i x h => by simp at h⟩
  | succ n ih =>
    intro h
    obtain ⟨l, hl, hq⟩ := ih (fun i hi => h i (by omega))
    obtain ⟨x, hx⟩ := h n (by omega)
    refine ⟨l ++ [x], by simp [hl], fun i y hy => ?_⟩
    rw [List.getElem?_append] at hy
    split at hy
    · exact hq i y hy
    · rename_i hi
      have : i = n := by
        rcases Nat.lt_or_ge (i - l.length) 1 with h1 | h1
        · omega
        · rw [List.getElem?_eq_none (by simpa using h1)] at hy; cases hy
      subst this
      simp [hl] at hy
      rw [← hy]
      exact hx
theorem opens_slice {P : Program} {n : Nat} {t e : TypeId} {α : Type} {d : Kd α} {Bd : α → Prop} {B : Nat} (ht : P.underlying t = some (.slice e)) (hc : P.cellsOf e = d.sz) (hB : P.bytesOf e = B) (hE : Opens P n e d Bd) :
    Opens P (n + 1) t (Kd.slice e d) (rowBd B Bd) := by
  intro H enc w base spare held fuel cs y hf h hw
  rcases DataW.trod_slice ht h with ⟨rfl, rfl⟩ | ⟨a, len, cap, elems, rest, m, rfl, rfl, rfl, hb, hl, hm, hlen, hel, _, _⟩
  · exact ⟨[], ⟨none, 0, rfl, Nat.le_refl _, ⟨rfl, Nat.zero_le _, fun h => absurd h (Nat.lt_irrefl 0)⟩⟩, ⟨by simp, by simp⟩⟩
  · have hw' : ((elems.length + rest.length) * B ≤ 140737488351232) ∧ ∀ q ∈ elems.map (·.1), ∀ z ∈ q.weights P e, z ≤ reachBytes := by
      simp only [DataW.weights, ht, List.all_cons, Bool.and_eq_true, decide_eq_true_eq, List.all_append, List.length_map, hB] at hw
      refine ⟨by simpa [reachBytes] using hw.1, fun q hq z hz => ?_⟩
      have := List.all_eq_true.1 hw.2.1 z (weightsAll_mem _ q hq z hz)
      simpa using this
    have each : ∀ i, i < len → ∃ x c, c.length = d.sz ∧ d.K w x c ∧ Bd x ∧ ∀ j u, c[j]? = some u → w.cell? (a.add (i * d.sz + j)) = some u := by
      intro i hi
      have h1 := hel i hi
      rw [List.getElem?_eq_getElem (by omega : i < elems.length), Option.bind_eq_some_iff] at h1
      obtain ⟨c, hcs, ht2⟩ := h1
      obtain ⟨x, hK, hBd⟩ := hE enc w base spare held m c elems[i] (by omega) ht2 (List.all_eq_true.2 fun z hz => by
        have := hw'.2 elems[i].1 (List.mem_map.2 ⟨_, List.getElem_mem (by omega : i < elems.length), rfl⟩) z hz
        simpa using this)
      refine ⟨x, c, d.K_len hK, hK, hBd, fun j u hu => ?_⟩
      rw [hc] at hcs
      have hj : j < d.sz := by
        have := (List.getElem?_eq_some_iff.1 hu).1
        rw [d.K_len hK] at this
        exact this
      have := (World.cells?_some hcs).2.2 j hj
      rw [hu, Addr.add_add] at this
      exact this
    obtain ⟨l, hll, hq⟩ := list_of len each
    refine ⟨l, ⟨some a, cap, by rw [hll], by omega, rfl, by rw [hll]; unfold maxLen at hm; omega, fun _ => ⟨a, rfl, fun j p hj => ?_⟩⟩, ?_, ?_⟩
    · obtain ⟨c, h1, h2, _, h4⟩ := hq j p hj
      exact ⟨c, h1, h2, h4⟩
    · rw [hll, ← hlen]
      exact Nat.le_trans (Nat.mul_le_mul_right _ (Nat.le_add_right _ _)) hw'.1
    · intro x hx
      obtain ⟨i, hi⟩ := List.getElem?_of_mem hx
      obtain ⟨_, _, _, h3, _⟩ := hq i x hi
      exact h3
/-- A slice's reading, as a walk takes it. -/
theorem C_of_slice {α : Type} {e : Nat} {d : Kd α} {w : World} {l : List α} {v : Value} (h : (Kd.slice e d).K w l [v]) : ∃ A c, v = .slice A l.length c ∧ l.length ≤ c ∧ d.C w A l.length l := by
  obtain ⟨A, c, e, h1, h2⟩ := h
  simp only [List.cons.injEq, and_true] at e
  exact ⟨A, c, e, h1, h2⟩
end Go.Proofs.YtannlhonjkhchaaGreatDoor
