/- Texts towards the law ValuePrints, one behind the other: each begins with its own sentence. Conditions: each theorem's own. -/
import Derived.Laws.Cover1
import Derived.Test.YtegppacnkfeaoaaGreatDoorBValuePrints1
import Derived.Test.YtegppacnkfeaoaaGreatDoorBValuePrints0
set_option linter.unusedSectionVars false
set_option linter.unusedVariables false
set_option linter.unusedSimpArgs false
/- Go functions as Lean functions, each with its contract: written by a program of mine over the kit's print. Conditions: each contract's own. -/
namespace Go.Proofs.YtegppacnkfeaoaaGreatDoor.G
open Go.RowKit Go.Proofs.YtegppacnkfeaoaaGreatDoorW.PrintWords Go.Proofs.YtegppacnkfeaoaaGreatDoorW.PrintLast Go.Proofs.YtegppacnkfeaoaaGreatDoorW.PrintMore
attribute [local go_sem] max2_int min2_int max_two min_two max_three min_three max_four min_four   -- for this text's walks alone
set_option linter.unusedVariables false
set_option linter.unusedSimpArgs false
noncomputable section
variable [Inhabited Bound]

/-! ### bloomeryref11_long: function 21 -/
mutual
def bloomeryref11_long.j0 : Nat → Bool → Int → Int → ByteArray → List (S25) → List ByteArray → Option (Bool)
 | 0, _, _, _, _, _, _ => none
 | k + 1, x14, x105000, x105001, x105002, x105003, x105004 => if x14 = true then (some true) else (bloomeryref11_long.l0 k (x105004.length : Int) 0 x105000 x105001 x105002 x105003 x105004)
def bloomeryref11_long.l0 : Nat → Int → Int → Int → Int → ByteArray → List (S25) → List ByteArray → Option (Bool)
 | 0, _, _, _, _, _, _, _ => none
 | k + 1, x17, x18, x105000, x105001, x105002, x105003, x105004 => if x18 < x17 then (if 0 ≤ x18 then (if x18 < (x105004.length : Int) then (if ((rdOf ByteArray.empty x105004 x18).size : Int) > 100 then (some true) else (bloomeryref11_long.l0 k x17 (wrap64 (x18 + 1)) x105000 x105001 x105002 x105003 x105004)) else (none)) else (none)) else (bloomeryref11_long.l1 k (x105003.length : Int) 0 x105000 x105001 x105002 x105003 x105004)
def bloomeryref11_long.l1 : Nat → Int → Int → Int → Int → ByteArray → List (S25) → List ByteArray → Option (Bool)
 | 0, _, _, _, _, _, _, _ => none
 | k + 1, x31, x32, x105000, x105001, x105002, x105003, x105004 => if x32 < x31 then (if 0 ≤ x32 then (if x32 < (x105003.length : Int) then ((bloomeryref11_long.f k ((rd_T25 x105003 x32).f0) ((rd_T25 x105003 x32).f1) ((rd_T25 x105003 x32).f2) ((rd_T25 x105003 x32).f3) ((rd_T25 x105003 x32).f4)).bind fun t107 => (if t107 = true then (some true) else (bloomeryref11_long.l1 k x31 (wrap64 (x32 + 1)) x105000 x105001 x105002 x105003 x105004))) else (none)) else (none)) else (some false)
def bloomeryref11_long.f : Nat → Int → Int → ByteArray → List (S25) → List ByteArray → Option (Bool)
 | 0, _, _, _, _, _ => none
 | k + 1, a0_0, a0_1, a0_2, l0_3, l0_4 => if (a0_2.size : Int) > 100 then (bloomeryref11_long.j0 k true a0_0 a0_1 a0_2 l0_3 l0_4) else (bloomeryref11_long.j0 k (decide ((l0_4.length : Int) > 60)) a0_0 a0_1 a0_2 l0_3 l0_4)
end
set_option maxHeartbeats 8000000 in
set_option maxRecDepth 100000 in
theorem bloomeryref11_long.calls (k : Nat) : ∀ (a0_0 : Int) (a0_1 : Int) (a0_2 : ByteArray) (A0_3 : Option Addr) (c0_3 : Nat) (l0_3 : List (S25)) (A0_4 : Option Addr) (c0_4 : Nat) (l0_4 : List ByteArray) (r : Bool) (w : World) (hr0_3 : Kd.C k25 w A0_3 l0_3.length l0_3) (hc0_3 : l0_3.length ≤ c0_3) (hr0_4 : Kd.C Kd.string w A0_4 l0_4.length l0_4) (hc0_4 : l0_4.length ≤ c0_4) (h : bloomeryref11_long.f k a0_0 a0_1 a0_2 l0_3 l0_4 = some r),
  Calls Tryz.prog 21 #[.agg #[.int .i64 a0_0, .int .i64 a0_1, .string a0_2, .slice A0_3 l0_3.length c0_3, .slice A0_4 l0_4.length c0_4]] w fun e w' => e = .returned (.bool r) ∧ Below w.heap.size w w' := by
 induction k using Nat.strongRecOn with
 | _ k ih =>
 intro a0_0 a0_1 a0_2 A0_3 c0_3 l0_3 A0_4 c0_4 l0_4 r w hr0_3 hc0_3 hr0_4 hc0_4 h
 cases k with
 | zero => exact absurd h (by simp [bloomeryref11_long.f])
 | succ k =>
 simp only [bloomeryref11_long.f] at h
 have hu25 := Tryz.underlying25
 have HR0_3 := Aside0.mk hr0_3
 have HC0_3 := Aside0.mk hc0_3
 clear hr0_3 hc0_3
 have HR0_4 := Aside0.mk hr0_4
 have HC0_4 := Aside0.mk hc0_4
 clear hr0_4 hc0_4
 have HB := Aside0.mk (Below.refl w.heap.size w)
 have H : (if (a0_2.size : Int) > 100 then (bloomeryref11_long.j0 k true a0_0 a0_1 a0_2 l0_3 l0_4) else (bloomeryref11_long.j0 k (decide ((l0_4.length : Int) > 60)) a0_0 a0_1 a0_2 l0_3 l0_4)) = some r := h
 clear h
 have HC2 := Aside0.mk H
 clear H
 go_enter Tryz.func21, Tryz.ntmps21
 go_upto_region 1 with (first | ((with_reducible refine gate_dst (N := 1) rfl ?_); (try (refine gate_guard (by rfl) ?_; dsimp only)); refine box_event ?hg (N := 1) ?hd (cs := #[.int .i64 a0_0, .int .i64 a0_1, .string a0_2, .slice A0_3 l0_3.length c0_3, .slice A0_4 l0_4.length c0_4]) (t := 25) ?hr ?_; (case hd => rfl); (case hg => rfl); (case hr => first | (go_simp; done) | (go_simp; rfl)); intro gb104 hg w3 hbox hb; have n0_ := Aside0.mk (below_step (by repeat (first | (with_reducible first | exact HB.out | apply below_alloc | apply pw_below_drewN | apply below_drew1) | exact HB.out)) hb); have n1_ := Aside0.mk (hbox); have n2_ := Aside0.mk ((by rw [hg]; exact (below_size (by repeat (first | (with_reducible first | exact HB.out | apply below_alloc | apply pw_below_drewN | apply below_drew1) | exact HB.out))) : w.heap.size ≤ gb104)); have n3_ := Aside0.mk ((by rw [hg]; exact (below_size (by repeat (first | (with_reducible first | exact HB.out | apply below_alloc | apply pw_below_drewN | apply below_drew1) | exact HB.out))) : w.heap.size ≤ gb104)); clear HB; have HB := n0_; have BK104 := n1_; have GW104 := n2_; have GE104 := n3_; clear n0_ n1_ n2_ n3_; clear hb hbox hg))
 (try simp only [Act.put, List.setIfInBounds_toArray, List.set_cons_zero, List.set_cons_succ])
 go_cut [14] (fun v14 wc => ∃ (kq : Nat) (x14_1 : Bool), v14 = .bool x14_1 ∧ Aside0 (bloomeryref11_long.j0 kq x14_1 a0_0 a0_1 a0_2 l0_3 l0_4 = some r) ∧ Aside0 (kq ≤ k) ∧ Aside0 (wc.heap[gb104]? = some (.cells #[.int .i64 a0_0, .int .i64 a0_1, .string a0_2, (.slice A0_3 l0_3.length c0_3), (.slice A0_4 l0_4.length c0_4)] 25 (0, 0))) ∧ Aside0 (Below w.heap.size w wc))
 case first =>
  have H := HC2.out
  clear HC2
  by_cases c4 : (a0_2.size : Int) > 100
  ·rw [if_pos c4] at H
   have c4b0 : decide (100 < (a0_2.size : Int)) = true := decide_eq_true c4
   have c4b1 : decide (100 < a0_2.size) = true := decide_eq_true (by omega)
   clear c4
   (first | rw [c4b0] | (simp only [i64_w, i32_w]; rw [c4b0]) | skip)
   have H' := Aside0.mk H
   clear H
   have hcz5_0 : w3.cell? ⟨gb104, 0, none⟩ = some (.int .i64 a0_0) := (blk_cell BK104.out 0).trans rfl
   have hcz5_1 : w3.cell? ⟨gb104, 1, none⟩ = some (.int .i64 a0_1) := (blk_cell BK104.out 1).trans rfl
   have hcz5_2 : w3.cell? ⟨gb104, 2, none⟩ = some (.string a0_2) := (blk_cell BK104.out 2).trans rfl
   have hcz5_3 : w3.cell? ⟨gb104, 3, none⟩ = some (.slice A0_3 l0_3.length c0_3) := (blk_cell BK104.out 3).trans rfl
   have hcz5_4 : w3.cell? ⟨gb104, 4, none⟩ = some (.slice A0_4 l0_4.length c0_4) := (blk_cell BK104.out 4).trans rfl
   have hfz5_0 := blk_frozen BK104.out 0
   have hfz5_1 := blk_frozen BK104.out 1
   have hfz5_2 := blk_frozen BK104.out 2
   have hfz5_3 := blk_frozen BK104.out 3
   have hfz5_4 := blk_frozen BK104.out 4
   go_wp2
   go_meet
   case rel => exact ⟨_, (true), (by first | rfl | (simp; done) | (simp [*]; done)), (by first | exact H' | (subst_vars; exact H')), ⟨by first | omega | exact Nat.le_refl _⟩, ⟨by (with_reducible repeat (first | refine blk_drewN ?_ _ | refine blk_drew ?_ | refine blk_alloc ?_ _)); exact BK104.out⟩, ⟨by repeat (first | (with_reducible first | exact HB.out | apply below_alloc | apply pw_below_drewN | apply below_drew1 | refine below_set ?_ GE104.out) | exact HB.out)⟩⟩
  ·rw [if_neg c4] at H
   have c4b0 : decide (100 < (a0_2.size : Int)) = false := decide_eq_false c4
   have c4b1 : decide (100 < a0_2.size) = false := decide_eq_false (by omega)
   clear c4
   (first | rw [c4b0] | (simp only [i64_w, i32_w]; rw [c4b0]) | skip)
   have H' := Aside0.mk H
   clear H
   have hcz6_0 : w3.cell? ⟨gb104, 0, none⟩ = some (.int .i64 a0_0) := (blk_cell BK104.out 0).trans rfl
   have hcz6_1 : w3.cell? ⟨gb104, 1, none⟩ = some (.int .i64 a0_1) := (blk_cell BK104.out 1).trans rfl
   have hcz6_2 : w3.cell? ⟨gb104, 2, none⟩ = some (.string a0_2) := (blk_cell BK104.out 2).trans rfl
   have hcz6_3 : w3.cell? ⟨gb104, 3, none⟩ = some (.slice A0_3 l0_3.length c0_3) := (blk_cell BK104.out 3).trans rfl
   have hcz6_4 : w3.cell? ⟨gb104, 4, none⟩ = some (.slice A0_4 l0_4.length c0_4) := (blk_cell BK104.out 4).trans rfl
   have hfz6_0 := blk_frozen BK104.out 0
   have hfz6_1 := blk_frozen BK104.out 1
   have hfz6_2 := blk_frozen BK104.out 2
   have hfz6_3 := blk_frozen BK104.out 3
   have hfz6_4 := blk_frozen BK104.out 4
   go_wp2
   go_meet
   case rel => exact ⟨_, (decide ((l0_4.length : Int) > 60)), (by first | rfl | (simp; done) | (simp [*]; done)), (by first | exact H' | (subst_vars; exact H')), ⟨by first | omega | exact Nat.le_refl _⟩, ⟨by (with_reducible repeat (first | refine blk_drewN ?_ _ | refine blk_drew ?_ | refine blk_alloc ?_ _)); exact BK104.out⟩, ⟨by repeat (first | (with_reducible first | exact HB.out | apply below_alloc | apply pw_below_drewN | apply below_drew1 | refine below_set ?_ GE104.out) | exact HB.out)⟩⟩
 case rest =>
  clear HC2
  try clear c2
  try clear p2
  try clear c4
  try clear c4b0
  try clear c4b1
  try clear hcz5_0
  try clear hcz5_1
  try clear hcz5_2
  try clear hcz5_3
  try clear hcz5_4
  try clear hcz6_0
  try clear hcz6_1
  try clear hcz6_2
  try clear hcz6_3
  try clear hcz6_4
  try clear hfz5_0
  try clear hfz5_1
  try clear hfz5_2
  try clear hfz5_3
  try clear hfz5_4
  try clear hfz6_0
  try clear hfz6_1
  try clear hfz6_2
  try clear hfz6_3
  try clear hfz6_4
  obtain ⟨kq, x14_1, rfl, HA, HJ1, BK104, HB⟩ := hcut
  cases kq with
  | zero => exact absurd HA.out (by simp [bloomeryref11_long.j0])
  | succ kj1 =>
   have H := HA.out
   clear HA
   simp only [bloomeryref11_long.j0] at H
   by_cases c7 : x14_1 = true
   ·subst c7
    have H1 : (some true) = some r := by rw [if_pos rfl] at H; exact H
    clear H
    have H := H1
    clear H1
    obtain rfl := Option.some.inj H
    go_wp2
    go_ret
    exact ⟨by first | rfl | (simp [errW_none, errW_some] <;> rfl) | (simp [*, errW_none, errW_some] <;> rfl), by repeat (first | (with_reducible first | exact HB.out | apply below_alloc | apply pw_below_drewN | apply below_drew1 | refine below_set ?_ GE104.out) | exact HB.out)⟩
   ·replace c7 := Bool.eq_false_iff.mpr c7
    subst c7
    have H1 : (bloomeryref11_long.l0 kj1 (l0_4.length : Int) 0 a0_0 a0_1 a0_2 l0_3 l0_4) = some r := by rw [if_neg (show ¬ (false = true) by decide)] at H; exact H
    clear H
    have H := H1
    clear H1
    have H' := Aside0.mk H
    clear H
    have hcz8_0 : wc.cell? ⟨gb104, 0, none⟩ = some (.int .i64 a0_0) := (blk_cell BK104.out 0).trans rfl
    have hcz8_1 : wc.cell? ⟨gb104, 1, none⟩ = some (.int .i64 a0_1) := (blk_cell BK104.out 1).trans rfl
    have hcz8_2 : wc.cell? ⟨gb104, 2, none⟩ = some (.string a0_2) := (blk_cell BK104.out 2).trans rfl
    have hcz8_3 : wc.cell? ⟨gb104, 3, none⟩ = some (.slice A0_3 l0_3.length c0_3) := (blk_cell BK104.out 3).trans rfl
    have hcz8_4 : wc.cell? ⟨gb104, 4, none⟩ = some (.slice A0_4 l0_4.length c0_4) := (blk_cell BK104.out 4).trans rfl
    have hfz8_0 := blk_frozen BK104.out 0
    have hfz8_1 := blk_frozen BK104.out 1
    have hfz8_2 := blk_frozen BK104.out 2
    have hfz8_3 := blk_frozen BK104.out 3
    have hfz8_4 := blk_frozen BK104.out 4
    go_wp2
    go_loopg [18] kj1 (fun kq v18 w' => ∃ (x18_2 : Int), v18 = .int .i64 x18_2 ∧ Aside0 (bloomeryref11_long.l0 kq (l0_4.length : Int) x18_2 a0_0 a0_1 a0_2 l0_3 l0_4 = some r) ∧ Aside0 (kq ≤ kj1) ∧ Aside0 (w'.heap[gb104]? = some (.cells #[.int .i64 a0_0, .int .i64 a0_1, .string a0_2, (.slice A0_3 l0_3.length c0_3), (.slice A0_4 l0_4.length c0_4)] 25 (0, 0))) ∧ Aside0 (Below w.heap.size w w'))
    case atStart => exact ⟨(0), (by first | rfl | (simp; done) | (simp [*]; done)), (by first | exact H' | (subst_vars; exact H')), ⟨Nat.le_refl _⟩, ⟨by (with_reducible repeat (first | refine blk_drewN ?_ _ | refine blk_drew ?_ | refine blk_alloc ?_ _)); exact BK104.out⟩, ⟨by repeat (first | (with_reducible first | exact HB.out | apply below_alloc | apply pw_below_drewN | apply below_drew1 | refine below_set ?_ GE104.out) | exact HB.out)⟩⟩
    case round =>
     clear H'
     try clear c2
     try clear p2
     try clear c4
     try clear c4b0
     try clear c4b1
     try clear c7
     try clear hcz5_0
     try clear hcz5_1
     try clear hcz5_2
     try clear hcz5_3
     try clear hcz5_4
     try clear hcz6_0
     try clear hcz6_1
     try clear hcz6_2
     try clear hcz6_3
     try clear hcz6_4
     try clear hcz8_0
     try clear hcz8_1
     try clear hcz8_2
     try clear hcz8_3
     try clear hcz8_4
     try clear hfz5_0
     try clear hfz5_1
     try clear hfz5_2
     try clear hfz5_3
     try clear hfz5_4
     try clear hfz6_0
     try clear hfz6_1
     try clear hfz6_2
     try clear hfz6_3
     try clear hfz6_4
     try clear hfz8_0
     try clear hfz8_1
     try clear hfz8_2
     try clear hfz8_3
     try clear hfz8_4
     try clear p2
     obtain ⟨x18_2, rfl, HA, HK2, BK104, HB⟩ := hrel
     cases gk with
     | zero => exact absurd HA.out (by simp [bloomeryref11_long.l0])
     | succ k2 =>
      have H := HA.out
      clear HA
      simp only [bloomeryref11_long.l0] at H
      by_cases c9 : x18_2 < (l0_4.length : Int)
      ·rw [if_pos c9] at H
       have c9b0 : decide (x18_2 < (l0_4.length : Int)) = true := decide_eq_true c9
       clear c9
       by_cases c10 : 0 ≤ x18_2
       ·rw [if_pos c10] at H
        have c10b0 : decide (0 ≤ x18_2) = true := decide_eq_true c10
        clear c10
        by_cases c11 : x18_2 < (l0_4.length : Int)
        ·rw [if_pos c11] at H
         have c11b0 : decide (x18_2 < (l0_4.length : Int)) = true := decide_eq_true c11
         clear c11
         by_cases c12 : ((rdOf ByteArray.empty l0_4 x18_2).size : Int) > 100
         ·rw [if_pos c12] at H
          have c12b0 : decide (100 < ((rdOf ByteArray.empty l0_4 x18_2).size : Int)) = true := decide_eq_true c12
          have c12b1 : decide (100 < (rdOf ByteArray.empty l0_4 x18_2).size) = true := decide_eq_true (by omega)
          clear c12
          obtain rfl := Option.some.inj H
          have hcz13_0 : wr.cell? ⟨gb104, 0, none⟩ = some (.int .i64 a0_0) := (blk_cell BK104.out 0).trans rfl
          have hcz13_1 : wr.cell? ⟨gb104, 1, none⟩ = some (.int .i64 a0_1) := (blk_cell BK104.out 1).trans rfl
          have hcz13_2 : wr.cell? ⟨gb104, 2, none⟩ = some (.string a0_2) := (blk_cell BK104.out 2).trans rfl
          have hcz13_3 : wr.cell? ⟨gb104, 3, none⟩ = some (.slice A0_3 l0_3.length c0_3) := (blk_cell BK104.out 3).trans rfl
          have hcz13_4 : wr.cell? ⟨gb104, 4, none⟩ = some (.slice A0_4 l0_4.length c0_4) := (blk_cell BK104.out 4).trans rfl
          have hfz13_0 := blk_frozen BK104.out 0
          have hfz13_1 := blk_frozen BK104.out 1
          have hfz13_2 := blk_frozen BK104.out 2
          have hfz13_3 := blk_frozen BK104.out 3
          have hfz13_4 := blk_frozen BK104.out 4
          have p105 : 0 ≤ (x18_2 : Int) := of_decide_eq_true (by first | (with_reducible assumption) | assumption)
          have q105 : x18_2 < (l0_4.length : Int) := of_decide_eq_true (by first | (with_reducible assumption) | assumption)
          obtain ⟨ad105, e105, hx105_0⟩ := Kd.at_string HR0_4.out x18_2 p105 q105
          cases e105
          replace hx105_0 := (HB.out.cell (World.block_lt_of_cell? w _ hx105_0)).trans hx105_0
          replace p105 := eq_true p105
          replace q105 := eq_true q105
          go_wp2
          go_ret
          exact ⟨by first | rfl | (simp [errW_none, errW_some] <;> rfl) | (simp [*, errW_none, errW_some] <;> rfl), by repeat (first | (with_reducible first | exact HB.out | apply below_alloc | apply pw_below_drewN | apply below_drew1 | refine below_set ?_ GE104.out) | exact HB.out)⟩
         ·rw [if_neg c12] at H
          have c12b0 : decide (100 < ((rdOf ByteArray.empty l0_4 x18_2).size : Int)) = false := decide_eq_false c12
          have c12b1 : decide (100 < (rdOf ByteArray.empty l0_4 x18_2).size) = false := decide_eq_false (by omega)
          clear c12
          have H' := Aside0.mk H
          clear H
          have hcz14_0 : wr.cell? ⟨gb104, 0, none⟩ = some (.int .i64 a0_0) := (blk_cell BK104.out 0).trans rfl
          have hcz14_1 : wr.cell? ⟨gb104, 1, none⟩ = some (.int .i64 a0_1) := (blk_cell BK104.out 1).trans rfl
          have hcz14_2 : wr.cell? ⟨gb104, 2, none⟩ = some (.string a0_2) := (blk_cell BK104.out 2).trans rfl
          have hcz14_3 : wr.cell? ⟨gb104, 3, none⟩ = some (.slice A0_3 l0_3.length c0_3) := (blk_cell BK104.out 3).trans rfl
          have hcz14_4 : wr.cell? ⟨gb104, 4, none⟩ = some (.slice A0_4 l0_4.length c0_4) := (blk_cell BK104.out 4).trans rfl
          have hfz14_0 := blk_frozen BK104.out 0
          have hfz14_1 := blk_frozen BK104.out 1
          have hfz14_2 := blk_frozen BK104.out 2
          have hfz14_3 := blk_frozen BK104.out 3
          have hfz14_4 := blk_frozen BK104.out 4
          have p105 : 0 ≤ (x18_2 : Int) := of_decide_eq_true (by first | (with_reducible assumption) | assumption)
          have q105 : x18_2 < (l0_4.length : Int) := of_decide_eq_true (by first | (with_reducible assumption) | assumption)
          obtain ⟨ad105, e105, hx105_0⟩ := Kd.at_string HR0_4.out x18_2 p105 q105
          cases e105
          replace hx105_0 := (HB.out.cell (World.block_lt_of_cell? w _ hx105_0)).trans hx105_0
          replace p105 := eq_true p105
          replace q105 := eq_true q105
          go_wp2
          go_roundg k2
          case measure => have := HJ1.out; have := HK2.out; omega
          case rel => exact ⟨(wrap64 (x18_2 + 1)), (by first | rfl | (simp; done) | (simp [*]; done)), (by first | exact H' | (subst_vars; exact H')), ⟨by have := HJ1.out; have := HK2.out; omega⟩, ⟨by (with_reducible repeat (first | refine blk_drewN ?_ _ | refine blk_drew ?_ | refine blk_alloc ?_ _)); exact BK104.out⟩, ⟨by repeat (first | (with_reducible first | exact HB.out | apply below_alloc | apply pw_below_drewN | apply below_drew1 | refine below_set ?_ GE104.out) | exact HB.out)⟩⟩
        ·rw [if_neg c11] at H
         exact absurd H (by simp)
       ·rw [if_neg c10] at H
        exact absurd H (by simp)
      ·rw [if_neg c9] at H
       have c9b0 : decide (x18_2 < (l0_4.length : Int)) = false := decide_eq_false c9
       clear c9
       have H' := Aside0.mk H
       clear H
       have hcz15_0 : wr.cell? ⟨gb104, 0, none⟩ = some (.int .i64 a0_0) := (blk_cell BK104.out 0).trans rfl
       have hcz15_1 : wr.cell? ⟨gb104, 1, none⟩ = some (.int .i64 a0_1) := (blk_cell BK104.out 1).trans rfl
       have hcz15_2 : wr.cell? ⟨gb104, 2, none⟩ = some (.string a0_2) := (blk_cell BK104.out 2).trans rfl
       have hcz15_3 : wr.cell? ⟨gb104, 3, none⟩ = some (.slice A0_3 l0_3.length c0_3) := (blk_cell BK104.out 3).trans rfl
       have hcz15_4 : wr.cell? ⟨gb104, 4, none⟩ = some (.slice A0_4 l0_4.length c0_4) := (blk_cell BK104.out 4).trans rfl
       have hfz15_0 := blk_frozen BK104.out 0
       have hfz15_1 := blk_frozen BK104.out 1
       have hfz15_2 := blk_frozen BK104.out 2
       have hfz15_3 := blk_frozen BK104.out 3
       have hfz15_4 := blk_frozen BK104.out 4
       go_wp2
       go_loopg [32] k2 (fun kq v32 w' => ∃ (x32_3 : Int), v32 = .int .i64 x32_3 ∧ Aside0 (bloomeryref11_long.l1 kq (l0_3.length : Int) x32_3 a0_0 a0_1 a0_2 l0_3 l0_4 = some r) ∧ Aside0 (kq ≤ k2) ∧ Aside0 (w'.heap[gb104]? = some (.cells #[.int .i64 a0_0, .int .i64 a0_1, .string a0_2, (.slice A0_3 l0_3.length c0_3), (.slice A0_4 l0_4.length c0_4)] 25 (0, 0))) ∧ Aside0 (Below w.heap.size w w'))
       case atStart => exact ⟨(0), (by first | rfl | (simp; done) | (simp [*]; done)), (by first | exact H' | (subst_vars; exact H')), ⟨Nat.le_refl _⟩, ⟨by (with_reducible repeat (first | refine blk_drewN ?_ _ | refine blk_drew ?_ | refine blk_alloc ?_ _)); exact BK104.out⟩, ⟨by repeat (first | (with_reducible first | exact HB.out | apply below_alloc | apply pw_below_drewN | apply below_drew1 | refine below_set ?_ GE104.out) | exact HB.out)⟩⟩
       case round =>
        clear H'
        try clear c1
        try clear p1
        try clear q1
        try clear hx1
        try clear c2
        try clear p2
        try clear c4
        try clear c4b0
        try clear c4b1
        try clear p6
        try clear c7
        try clear c9
        try clear c9b0
        try clear c10
        try clear c10b0
        try clear p10
        try clear q10
        try clear hx10
        try clear c11
        try clear c11b0
        try clear c12
        try clear c12b0
        try clear c12b1
        try clear hcz13_0
        try clear hcz13_1
        try clear hcz13_2
        try clear hcz13_3
        try clear hcz13_4
        try clear hcz14_0
        try clear hcz14_1
        try clear hcz14_2
        try clear hcz14_3
        try clear hcz14_4
        try clear hcz15_0
        try clear hcz15_1
        try clear hcz15_2
        try clear hcz15_3
        try clear hcz15_4
        try clear hcz5_0
        try clear hcz5_1
        try clear hcz5_2
        try clear hcz5_3
        try clear hcz5_4
        try clear hcz6_0
        try clear hcz6_1
        try clear hcz6_2
        try clear hcz6_3
        try clear hcz6_4
        try clear hcz8_0
        try clear hcz8_1
        try clear hcz8_2
        try clear hcz8_3
        try clear hcz8_4
        try clear hfz13_0
        try clear hfz13_1
        try clear hfz13_2
        try clear hfz13_3
        try clear hfz13_4
        try clear hfz14_0
        try clear hfz14_1
        try clear hfz14_2
        try clear hfz14_3
        try clear hfz14_4
        try clear hfz15_0
        try clear hfz15_1
        try clear hfz15_2
        try clear hfz15_3
        try clear hfz15_4
        try clear hfz5_0
        try clear hfz5_1
        try clear hfz5_2
        try clear hfz5_3
        try clear hfz5_4
        try clear hfz6_0
        try clear hfz6_1
        try clear hfz6_2
        try clear hfz6_3
        try clear hfz6_4
        try clear hfz8_0
        try clear hfz8_1
        try clear hfz8_2
        try clear hfz8_3
        try clear hfz8_4
        try clear hx105_0
        try clear p105
        try clear p2
        try clear q105
        obtain ⟨x32_3, rfl, HA, HK3, BK104, HB⟩ := hrel
        cases gk with
        | zero => exact absurd HA.out (by simp [bloomeryref11_long.l1])
        | succ k3 =>
         have H := HA.out
         clear HA
         simp only [bloomeryref11_long.l1] at H
         by_cases c16 : x32_3 < (l0_3.length : Int)
         ·rw [if_pos c16] at H
          have c16b0 : decide (x32_3 < (l0_3.length : Int)) = true := decide_eq_true c16
          clear c16
          by_cases c17 : 0 ≤ x32_3
          ·rw [if_pos c17] at H
           have c17b0 : decide (0 ≤ x32_3) = true := decide_eq_true c17
           clear c17
           by_cases c18 : x32_3 < (l0_3.length : Int)
           ·rw [if_pos c18] at H
            have c18b0 : decide (x32_3 < (l0_3.length : Int)) = true := decide_eq_true c18
            clear c18
            replace H := Option.bind_eq_some_iff.mp H
            obtain ⟨t107, A190, H⟩ := H
            replace H : (if t107 = true then (some true) else (bloomeryref11_long.l1 k3 (l0_3.length : Int) (wrap64 (x32_3 + 1)) a0_0 a0_1 a0_2 l0_3 l0_4)) = some r := H
            have A19 := Aside0.mk A190
            clear A190
            by_cases c20 : t107 = true
            ·subst c20
             have H1 : (some true) = some r := by rw [if_pos rfl] at H; exact H
             clear H
             have H := H1
             clear H1
             obtain rfl := Option.some.inj H
             have hcz21_0 : wr.cell? ⟨gb104, 0, none⟩ = some (.int .i64 a0_0) := (blk_cell BK104.out 0).trans rfl
             have hcz21_1 : wr.cell? ⟨gb104, 1, none⟩ = some (.int .i64 a0_1) := (blk_cell BK104.out 1).trans rfl
             have hcz21_2 : wr.cell? ⟨gb104, 2, none⟩ = some (.string a0_2) := (blk_cell BK104.out 2).trans rfl
             have hcz21_3 : wr.cell? ⟨gb104, 3, none⟩ = some (.slice A0_3 l0_3.length c0_3) := (blk_cell BK104.out 3).trans rfl
             have hcz21_4 : wr.cell? ⟨gb104, 4, none⟩ = some (.slice A0_4 l0_4.length c0_4) := (blk_cell BK104.out 4).trans rfl
             have hfz21_0 := blk_frozen BK104.out 0
             have hfz21_1 := blk_frozen BK104.out 1
             have hfz21_2 := blk_frozen BK104.out 2
             have hfz21_3 := blk_frozen BK104.out 3
             have hfz21_4 := blk_frozen BK104.out 4
             have p106 : 0 ≤ (x32_3 : Int) := of_decide_eq_true (by first | (with_reducible assumption) | assumption)
             have q106 : x32_3 < (l0_3.length : Int) := of_decide_eq_true (by first | (with_reducible assumption) | assumption)
             obtain ⟨ad106, A106_3, c106_3, A106_4, c106_4, e106, hx106_0, hx106_1, hx106_2, hx106_3, hx106_4, hl106_3, hi106_3, hl106_4, hi106_4⟩ := at_T25 HR0_3.out x32_3 p106 q106
             cases e106
             replace hx106_0 := (HB.out.cell (World.block_lt_of_cell? w _ hx106_0)).trans hx106_0
             replace hx106_1 := (HB.out.cell (World.block_lt_of_cell? w _ hx106_1)).trans hx106_1
             replace hx106_2 := (HB.out.cell (World.block_lt_of_cell? w _ hx106_2)).trans hx106_2
             replace hx106_3 := (HB.out.cell (World.block_lt_of_cell? w _ hx106_3)).trans hx106_3
             replace hx106_4 := (HB.out.cell (World.block_lt_of_cell? w _ hx106_4)).trans hx106_4
             have HR106_3 := Aside0.mk hi106_3
             have HC106_3 := Aside0.mk hl106_3
             clear hi106_3 hl106_3
             have HR106_4 := Aside0.mk hi106_4
             have HC106_4 := Aside0.mk hl106_4
             clear hi106_4 hl106_4
             replace p106 := eq_true p106
             replace q106 := eq_true q106
             go_wp2_with (first | ((with_reducible refine gate_callee (f := 21) rfl ?_); refine goesL_ (some 40) rfl rfl Tryz.func21 (by kernel_rfl) rfl #[.agg #[.int .i64 ((rd_T25 l0_3 x32_3).f0), .int .i64 ((rd_T25 l0_3 x32_3).f1), .string ((rd_T25 l0_3 x32_3).f2), .slice A106_3 ((rd_T25 l0_3 x32_3).f3).length c106_3, .slice A106_4 ((rd_T25 l0_3 x32_3).f4).length c106_4]] rfl (by (try simp only [List.map_toArray, List.map_cons, List.map_nil]); first | done | rfl | (simp only [List.length_drop, List.length_take]; rfl)) ?_; (with_reducible refine (ih k3 (by have := HJ1.out; have := HK2.out; have := HK3.out; omega) ((rd_T25 l0_3 x32_3).f0) ((rd_T25 l0_3 x32_3).f1) ((rd_T25 l0_3 x32_3).f2) _ _ ((rd_T25 l0_3 x32_3).f3) _ _ ((rd_T25 l0_3 x32_3).f4) true _ ?side1 ?side2 ?side3 ?side4 A19.out).mono ?_); (case side1 => repeat (first | exact (Kd.C_below HR106_3.out HB.out) | (with_reducible refine Kd.C_alloc ?_ _) | (with_reducible refine Kd.C_drewN ?_ _) | (with_reducible refine Kd.C_drew ?_))); (case side2 => exact HC106_3.out); (case side3 => repeat (first | exact (Kd.C_below HR106_4.out HB.out) | (with_reducible refine Kd.C_alloc ?_ _) | (with_reducible refine Kd.C_drewN ?_ _) | (with_reducible refine Kd.C_drew ?_))); (case side4 => exact HC106_4.out); rintro e w22 ⟨rfl, hb⟩; refine ⟨_, rfl, ?_⟩; have n0_ := Aside0.mk (blk_below (g := gb104) (o := .cells #[.int .i64 a0_0, .int .i64 a0_1, .string a0_2, .slice (some ad106) l0_3.length c0_3, .slice A0_4 l0_4.length c0_4] 25 (0, 0)) (by (with_reducible repeat (first | refine blk_drewN ?_ _ | refine blk_drew ?_ | refine blk_alloc ?_ _)); exact BK104.out) hb); have n1_ := Aside0.mk (below_step (by repeat (first | (with_reducible first | exact HB.out | apply below_alloc | apply pw_below_drewN | apply below_drew1 | refine below_set ?_ GE104.out) | exact HB.out)) hb); clear BK104; clear HB; have BK104 := n0_; have HB := n1_; clear n0_ n1_; (try clear hb); (try clear hb2); (try clear hk); (try clear hi)))
             go_ret
             exact ⟨by first | rfl | (simp [errW_none, errW_some] <;> rfl) | (simp [*, errW_none, errW_some] <;> rfl), by repeat (first | (with_reducible first | exact HB.out | apply below_alloc | apply pw_below_drewN | apply below_drew1 | refine below_set ?_ GE104.out) | exact HB.out)⟩
            ·replace c20 := Bool.eq_false_iff.mpr c20
             subst c20
             have H1 : (bloomeryref11_long.l1 k3 (l0_3.length : Int) (wrap64 (x32_3 + 1)) a0_0 a0_1 a0_2 l0_3 l0_4) = some r := by rw [if_neg (show ¬ (false = true) by decide)] at H; exact H
             clear H
             have H := H1
             clear H1
             have H' := Aside0.mk H
             clear H
             have hcz23_0 : wr.cell? ⟨gb104, 0, none⟩ = some (.int .i64 a0_0) := (blk_cell BK104.out 0).trans rfl
             have hcz23_1 : wr.cell? ⟨gb104, 1, none⟩ = some (.int .i64 a0_1) := (blk_cell BK104.out 1).trans rfl
             have hcz23_2 : wr.cell? ⟨gb104, 2, none⟩ = some (.string a0_2) := (blk_cell BK104.out 2).trans rfl
             have hcz23_3 : wr.cell? ⟨gb104, 3, none⟩ = some (.slice A0_3 l0_3.length c0_3) := (blk_cell BK104.out 3).trans rfl
             have hcz23_4 : wr.cell? ⟨gb104, 4, none⟩ = some (.slice A0_4 l0_4.length c0_4) := (blk_cell BK104.out 4).trans rfl
             have hfz23_0 := blk_frozen BK104.out 0
             have hfz23_1 := blk_frozen BK104.out 1
             have hfz23_2 := blk_frozen BK104.out 2
             have hfz23_3 := blk_frozen BK104.out 3
             have hfz23_4 := blk_frozen BK104.out 4
             have p106 : 0 ≤ (x32_3 : Int) := of_decide_eq_true (by first | (with_reducible assumption) | assumption)
             have q106 : x32_3 < (l0_3.length : Int) := of_decide_eq_true (by first | (with_reducible assumption) | assumption)
             obtain ⟨ad106, A106_3, c106_3, A106_4, c106_4, e106, hx106_0, hx106_1, hx106_2, hx106_3, hx106_4, hl106_3, hi106_3, hl106_4, hi106_4⟩ := at_T25 HR0_3.out x32_3 p106 q106
             cases e106
             replace hx106_0 := (HB.out.cell (World.block_lt_of_cell? w _ hx106_0)).trans hx106_0
             replace hx106_1 := (HB.out.cell (World.block_lt_of_cell? w _ hx106_1)).trans hx106_1
             replace hx106_2 := (HB.out.cell (World.block_lt_of_cell? w _ hx106_2)).trans hx106_2
             replace hx106_3 := (HB.out.cell (World.block_lt_of_cell? w _ hx106_3)).trans hx106_3
             replace hx106_4 := (HB.out.cell (World.block_lt_of_cell? w _ hx106_4)).trans hx106_4
             have HR106_3 := Aside0.mk hi106_3
             have HC106_3 := Aside0.mk hl106_3
             clear hi106_3 hl106_3
             have HR106_4 := Aside0.mk hi106_4
             have HC106_4 := Aside0.mk hl106_4
             clear hi106_4 hl106_4
             replace p106 := eq_true p106
             replace q106 := eq_true q106
             go_wp2_with (first | ((with_reducible refine gate_callee (f := 21) rfl ?_); refine goesL_ (some 40) rfl rfl Tryz.func21 (by kernel_rfl) rfl #[.agg #[.int .i64 ((rd_T25 l0_3 x32_3).f0), .int .i64 ((rd_T25 l0_3 x32_3).f1), .string ((rd_T25 l0_3 x32_3).f2), .slice A106_3 ((rd_T25 l0_3 x32_3).f3).length c106_3, .slice A106_4 ((rd_T25 l0_3 x32_3).f4).length c106_4]] rfl (by (try simp only [List.map_toArray, List.map_cons, List.map_nil]); first | done | rfl | (simp only [List.length_drop, List.length_take]; rfl)) ?_; (with_reducible refine (ih k3 (by have := HJ1.out; have := HK2.out; have := HK3.out; omega) ((rd_T25 l0_3 x32_3).f0) ((rd_T25 l0_3 x32_3).f1) ((rd_T25 l0_3 x32_3).f2) _ _ ((rd_T25 l0_3 x32_3).f3) _ _ ((rd_T25 l0_3 x32_3).f4) false _ ?side1 ?side2 ?side3 ?side4 A19.out).mono ?_); (case side1 => repeat (first | exact (Kd.C_below HR106_3.out HB.out) | (with_reducible refine Kd.C_alloc ?_ _) | (with_reducible refine Kd.C_drewN ?_ _) | (with_reducible refine Kd.C_drew ?_))); (case side2 => exact HC106_3.out); (case side3 => repeat (first | exact (Kd.C_below HR106_4.out HB.out) | (with_reducible refine Kd.C_alloc ?_ _) | (with_reducible refine Kd.C_drewN ?_ _) | (with_reducible refine Kd.C_drew ?_))); (case side4 => exact HC106_4.out); rintro e w24 ⟨rfl, hb⟩; refine ⟨_, rfl, ?_⟩; have n0_ := Aside0.mk (blk_below (g := gb104) (o := .cells #[.int .i64 a0_0, .int .i64 a0_1, .string a0_2, .slice (some ad106) l0_3.length c0_3, .slice A0_4 l0_4.length c0_4] 25 (0, 0)) (by (with_reducible repeat (first | refine blk_drewN ?_ _ | refine blk_drew ?_ | refine blk_alloc ?_ _)); exact BK104.out) hb); have n1_ := Aside0.mk (below_step (by repeat (first | (with_reducible first | exact HB.out | apply below_alloc | apply pw_below_drewN | apply below_drew1 | refine below_set ?_ GE104.out) | exact HB.out)) hb); clear BK104; clear HB; have BK104 := n0_; have HB := n1_; clear n0_ n1_; (try clear hb); (try clear hb2); (try clear hk); (try clear hi)))
             go_roundg k3
             case measure => have := HJ1.out; have := HK2.out; have := HK3.out; omega
             case rel => exact ⟨(wrap64 (x32_3 + 1)), (by first | rfl | (simp; done) | (simp [*]; done)), (by first | exact H' | (subst_vars; exact H')), ⟨by have := HJ1.out; have := HK2.out; have := HK3.out; omega⟩, ⟨by (with_reducible repeat (first | refine blk_drewN ?_ _ | refine blk_drew ?_ | refine blk_alloc ?_ _)); exact BK104.out⟩, ⟨by repeat (first | (with_reducible first | exact HB.out | apply below_alloc | apply pw_below_drewN | apply below_drew1 | refine below_set ?_ GE104.out) | exact HB.out)⟩⟩
           ·rw [if_neg c18] at H
            exact absurd H (by simp)
          ·rw [if_neg c17] at H
           exact absurd H (by simp)
         ·rw [if_neg c16] at H
          have c16b0 : decide (x32_3 < (l0_3.length : Int)) = false := decide_eq_false c16
          clear c16
          obtain rfl := Option.some.inj H
          go_wp2
          go_ret
          exact ⟨by first | rfl | (simp [errW_none, errW_some] <;> rfl) | (simp [*, errW_none, errW_some] <;> rfl), by repeat (first | (with_reducible first | exact HB.out | apply below_alloc | apply pw_below_drewN | apply below_drew1 | refine below_set ?_ GE104.out) | exact HB.out)⟩

end
end Go.Proofs.YtegppacnkfeaoaaGreatDoor.G

/- Go functions as Lean functions, each with its contract: written by a program of mine over the kit's print. Conditions: each contract's own. -/
namespace Go.Proofs.YtegppacnkfeaoaaGreatDoor.G
open Go.RowKit Go.Proofs.YtegppacnkfeaoaaGreatDoorW.PrintWords Go.Proofs.YtegppacnkfeaoaaGreatDoorW.PrintLast Go.Proofs.YtegppacnkfeaoaaGreatDoorW.PrintMore
attribute [local go_sem] max2_int min2_int max_two min_two max_three min_three max_four min_four   -- for this text's walks alone
set_option linter.unusedVariables false
set_option linter.unusedSimpArgs false
noncomputable section
variable [Inhabited Bound]

/-! ### bloomeryref11_Great: function 8 -/
def bloomeryref11_Great.f (k : Nat) (a0_0 : Int) (a0_1 : Int) (a0_2 : ByteArray) (l0_3 : List (S25)) (l0_4 : List ByteArray) : Option (Bool) := (bloomeryref11_count.f k a0_0 a0_1 a0_2 l0_3 l0_4 60).bind fun t109 => (if t109 > 60 then (some true) else ((bloomeryref11_long.f k a0_0 a0_1 a0_2 l0_3 l0_4).bind fun t110 => (some t110)))
set_option maxHeartbeats 8000000 in
set_option maxRecDepth 100000 in
theorem bloomeryref11_Great.calls (k : Nat) (a0_0 : Int) (a0_1 : Int) (a0_2 : ByteArray) (A0_3 : Option Addr) (c0_3 : Nat) (l0_3 : List (S25)) (A0_4 : Option Addr) (c0_4 : Nat) (l0_4 : List ByteArray) (r : Bool) (w : World) (hr0_3 : Kd.C k25 w A0_3 l0_3.length l0_3) (hc0_3 : l0_3.length ≤ c0_3) (hr0_4 : Kd.C Kd.string w A0_4 l0_4.length l0_4) (hc0_4 : l0_4.length ≤ c0_4) (h : bloomeryref11_Great.f k a0_0 a0_1 a0_2 l0_3 l0_4 = some r) :
  Calls Tryz.prog 8 #[.agg #[.int .i64 a0_0, .int .i64 a0_1, .string a0_2, .slice A0_3 l0_3.length c0_3, .slice A0_4 l0_4.length c0_4]] w fun e w' => e = .returned (.bool r) ∧ Below w.heap.size w w' := by
 have hu25 := Tryz.underlying25
 have HR0_3 := Aside0.mk hr0_3
 have HC0_3 := Aside0.mk hc0_3
 clear hr0_3 hc0_3
 have HR0_4 := Aside0.mk hr0_4
 have HC0_4 := Aside0.mk hc0_4
 clear hr0_4 hc0_4
 have HB := Aside0.mk (Below.refl w.heap.size w)
 have H : ((bloomeryref11_count.f k a0_0 a0_1 a0_2 l0_3 l0_4 60).bind fun t109 => (if t109 > 60 then (some true) else ((bloomeryref11_long.f k a0_0 a0_1 a0_2 l0_3 l0_4).bind fun t110 => (some t110)))) = some r := h
 clear h
 replace H := Option.bind_eq_some_iff.mp H
 obtain ⟨t109, A20, H⟩ := H
 replace H : (if t109 > 60 then (some true) else ((bloomeryref11_long.f k a0_0 a0_1 a0_2 l0_3 l0_4).bind fun t110 => (some t110))) = some r := H
 have A2 := Aside0.mk A20
 clear A20
 by_cases c3 : t109 > 60
 ·rw [if_pos c3] at H
  have c3b0 : decide (60 < t109) = true := decide_eq_true c3
  clear c3
  obtain rfl := Option.some.inj H
  go_enter Tryz.func8, Tryz.ntmps8
  go_wp2_with (first | ((with_reducible refine gate_dst (N := 1) rfl ?_); refine box_event ?hg (N := 1) ?hd (cs := #[.int .i64 a0_0, .int .i64 a0_1, .string a0_2, .slice A0_3 l0_3.length c0_3, .slice A0_4 l0_4.length c0_4]) (t := 25) ?hr ?_; (case hd => rfl); (case hg => rfl); (case hr => first | (go_simp; done) | (go_simp; rfl)); intro gb108 hg w4 hbox hb; have n0_ := Aside0.mk (below_step (by repeat (first | (with_reducible first | exact HB.out | apply below_alloc | apply pw_below_drewN | apply below_drew1) | exact HB.out)) hb); have n1_ := Aside0.mk (hbox); have n2_ := Aside0.mk ((by rw [hg]; exact (below_size (by repeat (first | (with_reducible first | exact HB.out | apply below_alloc | apply pw_below_drewN | apply below_drew1) | exact HB.out))) : w.heap.size ≤ gb108)); have n3_ := Aside0.mk ((by rw [hg]; exact (below_size (by repeat (first | (with_reducible first | exact HB.out | apply below_alloc | apply pw_below_drewN | apply below_drew1) | exact HB.out))) : w.heap.size ≤ gb108)); clear HB; have HB := n0_; have BK108 := n1_; have GW108 := n2_; have GE108 := n3_; clear n0_ n1_ n2_ n3_; clear hb hbox hg; have hcz5_0 : w4.cell? ⟨gb108, 0, none⟩ = some (.int .i64 a0_0) := (blk_cell BK108.out 0).trans rfl; have hcz5_1 : w4.cell? ⟨gb108, 1, none⟩ = some (.int .i64 a0_1) := (blk_cell BK108.out 1).trans rfl; have hcz5_2 : w4.cell? ⟨gb108, 2, none⟩ = some (.string a0_2) := (blk_cell BK108.out 2).trans rfl; have hcz5_3 : w4.cell? ⟨gb108, 3, none⟩ = some (.slice A0_3 l0_3.length c0_3) := (blk_cell BK108.out 3).trans rfl; have hcz5_4 : w4.cell? ⟨gb108, 4, none⟩ = some (.slice A0_4 l0_4.length c0_4) := (blk_cell BK108.out 4).trans rfl; have hfz5_0 := blk_frozen BK108.out 0; have hfz5_1 := blk_frozen BK108.out 1; have hfz5_2 := blk_frozen BK108.out 2; have hfz5_3 := blk_frozen BK108.out 3; have hfz5_4 := blk_frozen BK108.out 4) | ((with_reducible refine gate_callee (f := 20) rfl ?_); refine goesL_ (some 4) rfl rfl Tryz.func20 (by kernel_rfl) rfl #[.agg #[.int .i64 a0_0, .int .i64 a0_1, .string a0_2, .slice A0_3 l0_3.length c0_3, .slice A0_4 l0_4.length c0_4], .int .i64 60] rfl (by (try simp only [List.map_toArray, List.map_cons, List.map_nil]); first | done | rfl | (simp only [List.length_drop, List.length_take]; rfl)) ?_; (with_reducible refine (bloomeryref11_count.calls k a0_0 a0_1 a0_2 _ _ l0_3 _ _ l0_4 60 t109 _ ?side1 ?side2 ?side3 ?side4 A2.out).mono ?_); (case side1 => repeat (first | exact (Kd.C_below HR0_3.out HB.out) | (with_reducible refine Kd.C_alloc ?_ _) | (with_reducible refine Kd.C_drewN ?_ _) | (with_reducible refine Kd.C_drew ?_))); (case side2 => exact HC0_3.out); (case side3 => repeat (first | exact (Kd.C_below HR0_4.out HB.out) | (with_reducible refine Kd.C_alloc ?_ _) | (with_reducible refine Kd.C_drewN ?_ _) | (with_reducible refine Kd.C_drew ?_))); (case side4 => exact HC0_4.out); rintro e w6 ⟨rfl, hb⟩; refine ⟨_, rfl, ?_⟩; have n0_ := Aside0.mk (blk_below (g := gb108) (o := .cells #[.int .i64 a0_0, .int .i64 a0_1, .string a0_2, .slice A0_3 l0_3.length c0_3, .slice A0_4 l0_4.length c0_4] 25 (0, 0)) (by (with_reducible repeat (first | refine blk_drewN ?_ _ | refine blk_drew ?_ | refine blk_alloc ?_ _)); exact BK108.out) hb); have n1_ := Aside0.mk (below_step (by repeat (first | (with_reducible first | exact HB.out | apply below_alloc | apply pw_below_drewN | apply below_drew1 | refine below_set ?_ GE108.out) | exact HB.out)) hb); clear BK108; clear HB; have BK108 := n0_; have HB := n1_; clear n0_ n1_; (try clear hb); (try clear hb2); (try clear hk); (try clear hi)))
  go_ret
  exact ⟨by first | rfl | (simp [errW_none, errW_some] <;> rfl) | (simp [*, errW_none, errW_some] <;> rfl), by repeat (first | (with_reducible first | exact HB.out | apply below_alloc | apply pw_below_drewN | apply below_drew1 | refine below_set ?_ GE108.out) | exact HB.out)⟩
 ·rw [if_neg c3] at H
  have c3b0 : decide (60 < t109) = false := decide_eq_false c3
  clear c3
  replace H := Option.bind_eq_some_iff.mp H
  obtain ⟨t110, A70, H⟩ := H
  replace H : (some t110) = some r := H
  have A7 := Aside0.mk A70
  clear A70
  obtain rfl := Option.some.inj H
  go_enter Tryz.func8, Tryz.ntmps8
  go_wp2_with (first | ((with_reducible refine gate_dst (N := 1) rfl ?_); refine box_event ?hg (N := 1) ?hd (cs := #[.int .i64 a0_0, .int .i64 a0_1, .string a0_2, .slice A0_3 l0_3.length c0_3, .slice A0_4 l0_4.length c0_4]) (t := 25) ?hr ?_; (case hd => rfl); (case hg => rfl); (case hr => first | (go_simp; done) | (go_simp; rfl)); intro gb108 hg w8 hbox hb; have n0_ := Aside0.mk (below_step (by repeat (first | (with_reducible first | exact HB.out | apply below_alloc | apply pw_below_drewN | apply below_drew1) | exact HB.out)) hb); have n1_ := Aside0.mk (hbox); have n2_ := Aside0.mk ((by rw [hg]; exact (below_size (by repeat (first | (with_reducible first | exact HB.out | apply below_alloc | apply pw_below_drewN | apply below_drew1) | exact HB.out))) : w.heap.size ≤ gb108)); have n3_ := Aside0.mk ((by rw [hg]; exact (below_size (by repeat (first | (with_reducible first | exact HB.out | apply below_alloc | apply pw_below_drewN | apply below_drew1) | exact HB.out))) : w.heap.size ≤ gb108)); clear HB; have HB := n0_; have BK108 := n1_; have GW108 := n2_; have GE108 := n3_; clear n0_ n1_ n2_ n3_; clear hb hbox hg; have hcz9_0 : w8.cell? ⟨gb108, 0, none⟩ = some (.int .i64 a0_0) := (blk_cell BK108.out 0).trans rfl; have hcz9_1 : w8.cell? ⟨gb108, 1, none⟩ = some (.int .i64 a0_1) := (blk_cell BK108.out 1).trans rfl; have hcz9_2 : w8.cell? ⟨gb108, 2, none⟩ = some (.string a0_2) := (blk_cell BK108.out 2).trans rfl; have hcz9_3 : w8.cell? ⟨gb108, 3, none⟩ = some (.slice A0_3 l0_3.length c0_3) := (blk_cell BK108.out 3).trans rfl; have hcz9_4 : w8.cell? ⟨gb108, 4, none⟩ = some (.slice A0_4 l0_4.length c0_4) := (blk_cell BK108.out 4).trans rfl; have hfz9_0 := blk_frozen BK108.out 0; have hfz9_1 := blk_frozen BK108.out 1; have hfz9_2 := blk_frozen BK108.out 2; have hfz9_3 := blk_frozen BK108.out 3; have hfz9_4 := blk_frozen BK108.out 4) | ((with_reducible refine gate_callee (f := 20) rfl ?_); refine goesL_ (some 4) rfl rfl Tryz.func20 (by kernel_rfl) rfl #[.agg #[.int .i64 a0_0, .int .i64 a0_1, .string a0_2, .slice A0_3 l0_3.length c0_3, .slice A0_4 l0_4.length c0_4], .int .i64 60] rfl (by (try simp only [List.map_toArray, List.map_cons, List.map_nil]); first | done | rfl | (simp only [List.length_drop, List.length_take]; rfl)) ?_; (with_reducible refine (bloomeryref11_count.calls k a0_0 a0_1 a0_2 _ _ l0_3 _ _ l0_4 60 t109 _ ?side1 ?side2 ?side3 ?side4 A2.out).mono ?_); (case side1 => repeat (first | exact (Kd.C_below HR0_3.out HB.out) | (with_reducible refine Kd.C_alloc ?_ _) | (with_reducible refine Kd.C_drewN ?_ _) | (with_reducible refine Kd.C_drew ?_))); (case side2 => exact HC0_3.out); (case side3 => repeat (first | exact (Kd.C_below HR0_4.out HB.out) | (with_reducible refine Kd.C_alloc ?_ _) | (with_reducible refine Kd.C_drewN ?_ _) | (with_reducible refine Kd.C_drew ?_))); (case side4 => exact HC0_4.out); rintro e w10 ⟨rfl, hb⟩; refine ⟨_, rfl, ?_⟩; have n0_ := Aside0.mk (blk_below (g := gb108) (o := .cells #[.int .i64 a0_0, .int .i64 a0_1, .string a0_2, .slice A0_3 l0_3.length c0_3, .slice A0_4 l0_4.length c0_4] 25 (0, 0)) (by (with_reducible repeat (first | refine blk_drewN ?_ _ | refine blk_drew ?_ | refine blk_alloc ?_ _)); exact BK108.out) hb); have n1_ := Aside0.mk (below_step (by repeat (first | (with_reducible first | exact HB.out | apply below_alloc | apply pw_below_drewN | apply below_drew1 | refine below_set ?_ GE108.out) | exact HB.out)) hb); clear BK108; clear HB; have BK108 := n0_; have HB := n1_; clear n0_ n1_; (try clear hb); (try clear hb2); (try clear hk); (try clear hi); have hcz11_0 : w10.cell? ⟨gb108, 0, none⟩ = some (.int .i64 a0_0) := (blk_cell BK108.out 0).trans rfl; have hcz11_1 : w10.cell? ⟨gb108, 1, none⟩ = some (.int .i64 a0_1) := (blk_cell BK108.out 1).trans rfl; have hcz11_2 : w10.cell? ⟨gb108, 2, none⟩ = some (.string a0_2) := (blk_cell BK108.out 2).trans rfl; have hcz11_3 : w10.cell? ⟨gb108, 3, none⟩ = some (.slice A0_3 l0_3.length c0_3) := (blk_cell BK108.out 3).trans rfl; have hcz11_4 : w10.cell? ⟨gb108, 4, none⟩ = some (.slice A0_4 l0_4.length c0_4) := (blk_cell BK108.out 4).trans rfl; have hfz11_0 := blk_frozen BK108.out 0; have hfz11_1 := blk_frozen BK108.out 1; have hfz11_2 := blk_frozen BK108.out 2; have hfz11_3 := blk_frozen BK108.out 3; have hfz11_4 := blk_frozen BK108.out 4) | (go_at_call 21; (with_reducible refine (bloomeryref11_long.calls k a0_0 a0_1 a0_2 _ _ l0_3 _ _ l0_4 t110 _ ?side1 ?side2 ?side3 ?side4 A7.out).mono ?_); (case side1 => repeat (first | exact (Kd.C_below HR0_3.out HB.out) | (with_reducible refine Kd.C_alloc ?_ _) | (with_reducible refine Kd.C_drewN ?_ _) | (with_reducible refine Kd.C_drew ?_))); (case side2 => exact HC0_3.out); (case side3 => repeat (first | exact (Kd.C_below HR0_4.out HB.out) | (with_reducible refine Kd.C_alloc ?_ _) | (with_reducible refine Kd.C_drewN ?_ _) | (with_reducible refine Kd.C_drew ?_))); (case side4 => exact HC0_4.out); rintro e w12 ⟨rfl, hb⟩; have n0_ := Aside0.mk (blk_below (g := gb108) (o := .cells #[.int .i64 a0_0, .int .i64 a0_1, .string a0_2, .slice A0_3 l0_3.length c0_3, .slice A0_4 l0_4.length c0_4] 25 (0, 0)) (by (with_reducible repeat (first | refine blk_drewN ?_ _ | refine blk_drew ?_ | refine blk_alloc ?_ _)); exact BK108.out) hb); have n1_ := Aside0.mk (below_step (by repeat (first | (with_reducible first | exact HB.out | apply below_alloc | apply pw_below_drewN | apply below_drew1 | refine below_set ?_ GE108.out) | exact HB.out)) hb); clear BK108; clear HB; have BK108 := n0_; have HB := n1_; clear n0_ n1_; (try clear hb); (try clear hb2); (try clear hk); (try clear hi)))
  go_ret
  exact ⟨by first | rfl | (simp [errW_none, errW_some] <;> rfl) | (simp [*, errW_none, errW_some] <;> rfl), by repeat (first | (with_reducible first | exact HB.out | apply below_alloc | apply pw_below_drewN | apply below_drew1 | refine below_set ?_ GE108.out) | exact HB.out)⟩

end
end Go.Proofs.YtegppacnkfeaoaaGreatDoor.G

/- Go functions as Lean functions, each with its contract: written by a program of mine over the kit's print. Conditions: each contract's own. -/
namespace Go.Proofs.YtegppacnkfeaoaaGreatDoor.G
open Go.RowKit Go.Proofs.YtegppacnkfeaoaaGreatDoorW.PrintWords Go.Proofs.YtegppacnkfeaoaaGreatDoorW.PrintLast Go.Proofs.YtegppacnkfeaoaaGreatDoorW.PrintMore
attribute [local go_sem] max2_int min2_int max_two min_two max_three min_three max_four min_four   -- for this text's walks alone
set_option linter.unusedVariables false
set_option linter.unusedSimpArgs false
noncomputable section
variable [Inhabited Bound]

/-! ### bloomeryref11_many: function 27 -/
mutual
def bloomeryref11_many.l0 : Nat → Int → Int → Int → Int → Int → ByteArray → List (S25) → List ByteArray → Option (Int)
 | 0, _, _, _, _, _, _, _, _ => none
 | k + 1, x1, x5, x6, x134000, x134001, x134002, x134003, x134004 => if x6 < (x134003.length : Int) then (if x5 ≤ x1 then (if 0 ≤ x6 then ((bloomeryref11_many.f k ((rd_T25 x134003 x6).f0) ((rd_T25 x134003 x6).f1) ((rd_T25 x134003 x6).f2) ((rd_T25 x134003 x6).f3) ((rd_T25 x134003 x6).f4) (wrap64 (x1 - x5))).bind fun t135 => (bloomeryref11_many.l0 k x1 (wrap64 (x5 + t135)) (wrap64 (x6 + 1)) x134000 x134001 x134002 x134003 x134004)) else (none)) else (some x5)) else (some x5)
def bloomeryref11_many.f : Nat → Int → Int → ByteArray → List (S25) → List ByteArray → Int → Option (Int)
 | 0, _, _, _, _, _, _ => none
 | k + 1, a0_0, a0_1, a0_2, l0_3, l0_4, a1 => bloomeryref11_many.l0 k a1 1 0 a0_0 a0_1 a0_2 l0_3 l0_4
end
set_option maxHeartbeats 8000000 in
set_option maxRecDepth 100000 in
theorem bloomeryref11_many.calls (k : Nat) : ∀ (a0_0 : Int) (a0_1 : Int) (a0_2 : ByteArray) (A0_3 : Option Addr) (c0_3 : Nat) (l0_3 : List (S25)) (A0_4 : Option Addr) (c0_4 : Nat) (l0_4 : List ByteArray) (a1 : Int) (r : Int) (w : World) (hr0_3 : Kd.C k25 w A0_3 l0_3.length l0_3) (hc0_3 : l0_3.length ≤ c0_3) (hr0_4 : Kd.C Kd.string w A0_4 l0_4.length l0_4) (hc0_4 : l0_4.length ≤ c0_4) (h : bloomeryref11_many.f k a0_0 a0_1 a0_2 l0_3 l0_4 a1 = some r),
  Calls Tryz.prog 27 #[.agg #[.int .i64 a0_0, .int .i64 a0_1, .string a0_2, .slice A0_3 l0_3.length c0_3, .slice A0_4 l0_4.length c0_4], .int .i64 a1] w fun e w' => e = .returned (.int .i64 r) ∧ Below w.heap.size w w' := by
 induction k using Nat.strongRecOn with
 | _ k ih =>
 intro a0_0 a0_1 a0_2 A0_3 c0_3 l0_3 A0_4 c0_4 l0_4 a1 r w hr0_3 hc0_3 hr0_4 hc0_4 h
 cases k with
 | zero => exact absurd h (by simp [bloomeryref11_many.f])
 | succ k =>
 simp only [bloomeryref11_many.f] at h
 have hu25 := Tryz.underlying25
 have HR0_3 := Aside0.mk hr0_3
 have HC0_3 := Aside0.mk hc0_3
 clear hr0_3 hc0_3
 have HR0_4 := Aside0.mk hr0_4
 have HC0_4 := Aside0.mk hc0_4
 clear hr0_4 hc0_4
 have HB := Aside0.mk (Below.refl w.heap.size w)
 have H : (bloomeryref11_many.l0 k a1 1 0 a0_0 a0_1 a0_2 l0_3 l0_4) = some r := h
 clear h
 have H' := Aside0.mk H
 clear H
 go_enter Tryz.func27, Tryz.ntmps27
 go_wp2_with (first | ((with_reducible refine gate_dst (N := 2) rfl ?_); refine box_event ?hg (N := 2) ?hd (cs := #[.int .i64 a0_0, .int .i64 a0_1, .string a0_2, .slice A0_3 l0_3.length c0_3, .slice A0_4 l0_4.length c0_4]) (t := 25) ?hr ?_; (case hd => rfl); (case hg => rfl); (case hr => first | (go_simp; done) | (go_simp; rfl)); intro gb133 hg w3 hbox hb; have n0_ := Aside0.mk (below_step (by repeat (first | (with_reducible first | exact HB.out | apply below_alloc | apply pw_below_drewN | apply below_drew1) | exact HB.out)) hb); have n1_ := Aside0.mk (hbox); have n2_ := Aside0.mk ((by rw [hg]; exact (below_size (by repeat (first | (with_reducible first | exact HB.out | apply below_alloc | apply pw_below_drewN | apply below_drew1) | exact HB.out))) : w.heap.size ≤ gb133)); have n3_ := Aside0.mk ((by rw [hg]; exact (below_size (by repeat (first | (with_reducible first | exact HB.out | apply below_alloc | apply pw_below_drewN | apply below_drew1) | exact HB.out))) : w.heap.size ≤ gb133)); clear HB; have HB := n0_; have BK133 := n1_; have GW133 := n2_; have GE133 := n3_; clear n0_ n1_ n2_ n3_; clear hb hbox hg))
 go_loopg [5, 6] k (fun kq v5 v6 w' => ∃ (x5_1 : Int) (x6_1 : Int), v5 = .int .i64 x5_1 ∧ v6 = .int .i64 x6_1 ∧ Aside0 (bloomeryref11_many.l0 kq a1 x5_1 x6_1 a0_0 a0_1 a0_2 l0_3 l0_4 = some r) ∧ Aside0 (kq ≤ k) ∧ Aside0 (w'.heap[gb133]? = some (.cells #[.int .i64 a0_0, .int .i64 a0_1, .string a0_2, (.slice A0_3 l0_3.length c0_3), (.slice A0_4 l0_4.length c0_4)] 25 (0, 0))) ∧ Aside0 (Below w.heap.size w w'))
 case atStart => exact ⟨(1), (0), (by first | rfl | (simp; done) | (simp [*]; done)), (by first | rfl | (simp; done) | (simp [*]; done)), (by first | exact H' | (subst_vars; exact H')), ⟨Nat.le_refl _⟩, ⟨by (with_reducible repeat (first | refine blk_drewN ?_ _ | refine blk_drew ?_ | refine blk_alloc ?_ _)); exact BK133.out⟩, ⟨by repeat (first | (with_reducible first | exact HB.out | apply below_alloc | apply pw_below_drewN | apply below_drew1 | refine below_set ?_ GE133.out) | exact HB.out)⟩⟩
 case round =>
  clear H'
  try clear c2
  try clear p2
  obtain ⟨x5_1, x6_1, rfl, rfl, HA, HK1, BK133, HB⟩ := hrel
  cases gk with
  | zero => exact absurd HA.out (by simp [bloomeryref11_many.l0])
  | succ k1 =>
   have H := HA.out
   clear HA
   simp only [bloomeryref11_many.l0] at H
   by_cases c4 : x6_1 < (l0_3.length : Int)
   ·rw [if_pos c4] at H
    have c4b0 : decide (x6_1 < (l0_3.length : Int)) = true := decide_eq_true c4
    clear c4
    by_cases c5 : x5_1 ≤ a1
    ·rw [if_pos c5] at H
     have c5b0 : decide (x5_1 ≤ a1) = true := decide_eq_true c5
     clear c5
     by_cases c6 : 0 ≤ x6_1
     ·rw [if_pos c6] at H
      have c6b0 : decide (0 ≤ x6_1) = true := decide_eq_true c6
      clear c6
      replace H := Option.bind_eq_some_iff.mp H
      obtain ⟨t135, A70, H⟩ := H
      replace H : (bloomeryref11_many.l0 k1 a1 (wrap64 (x5_1 + t135)) (wrap64 (x6_1 + 1)) a0_0 a0_1 a0_2 l0_3 l0_4) = some r := H
      have A7 := Aside0.mk A70
      clear A70
      have H' := Aside0.mk H
      clear H
      have hcz8_0 : wr.cell? ⟨gb133, 0, none⟩ = some (.int .i64 a0_0) := (blk_cell BK133.out 0).trans rfl
      have hcz8_1 : wr.cell? ⟨gb133, 1, none⟩ = some (.int .i64 a0_1) := (blk_cell BK133.out 1).trans rfl
      have hcz8_2 : wr.cell? ⟨gb133, 2, none⟩ = some (.string a0_2) := (blk_cell BK133.out 2).trans rfl
      have hcz8_3 : wr.cell? ⟨gb133, 3, none⟩ = some (.slice A0_3 l0_3.length c0_3) := (blk_cell BK133.out 3).trans rfl
      have hcz8_4 : wr.cell? ⟨gb133, 4, none⟩ = some (.slice A0_4 l0_4.length c0_4) := (blk_cell BK133.out 4).trans rfl
      have hfz8_0 := blk_frozen BK133.out 0
      have hfz8_1 := blk_frozen BK133.out 1
      have hfz8_2 := blk_frozen BK133.out 2
      have hfz8_3 := blk_frozen BK133.out 3
      have hfz8_4 := blk_frozen BK133.out 4
      have p134 : 0 ≤ (x6_1 : Int) := of_decide_eq_true (by first | (with_reducible assumption) | assumption)
      have q134 : x6_1 < (l0_3.length : Int) := of_decide_eq_true (by first | (with_reducible assumption) | assumption)
      obtain ⟨ad134, A134_3, c134_3, A134_4, c134_4, e134, hx134_0, hx134_1, hx134_2, hx134_3, hx134_4, hl134_3, hi134_3, hl134_4, hi134_4⟩ := at_T25 HR0_3.out x6_1 p134 q134
      cases e134
      replace hx134_0 := (HB.out.cell (World.block_lt_of_cell? w _ hx134_0)).trans hx134_0
      replace hx134_1 := (HB.out.cell (World.block_lt_of_cell? w _ hx134_1)).trans hx134_1
      replace hx134_2 := (HB.out.cell (World.block_lt_of_cell? w _ hx134_2)).trans hx134_2
      replace hx134_3 := (HB.out.cell (World.block_lt_of_cell? w _ hx134_3)).trans hx134_3
      replace hx134_4 := (HB.out.cell (World.block_lt_of_cell? w _ hx134_4)).trans hx134_4
      have HR134_3 := Aside0.mk hi134_3
      have HC134_3 := Aside0.mk hl134_3
      clear hi134_3 hl134_3
      have HR134_4 := Aside0.mk hi134_4
      have HC134_4 := Aside0.mk hl134_4
      clear hi134_4 hl134_4
      replace p134 := eq_true p134
      replace q134 := eq_true q134
      go_wp2_with (first | ((with_reducible refine gate_callee (f := 27) rfl ?_); refine goesL_ (some 28) rfl rfl Tryz.func27 (by kernel_rfl) rfl #[.agg #[.int .i64 ((rd_T25 l0_3 x6_1).f0), .int .i64 ((rd_T25 l0_3 x6_1).f1), .string ((rd_T25 l0_3 x6_1).f2), .slice A134_3 ((rd_T25 l0_3 x6_1).f3).length c134_3, .slice A134_4 ((rd_T25 l0_3 x6_1).f4).length c134_4], .int .i64 (wrap64 (a1 - x5_1))] rfl (by (try simp only [List.map_toArray, List.map_cons, List.map_nil]); first | done | rfl | (simp only [List.length_drop, List.length_take]; rfl)) ?_; (with_reducible refine (ih k1 (by have := HK1.out; omega) ((rd_T25 l0_3 x6_1).f0) ((rd_T25 l0_3 x6_1).f1) ((rd_T25 l0_3 x6_1).f2) _ _ ((rd_T25 l0_3 x6_1).f3) _ _ ((rd_T25 l0_3 x6_1).f4) (wrap64 (a1 - x5_1)) t135 _ ?side1 ?side2 ?side3 ?side4 A7.out).mono ?_); (case side1 => repeat (first | exact (Kd.C_below HR134_3.out HB.out) | (with_reducible refine Kd.C_alloc ?_ _) | (with_reducible refine Kd.C_drewN ?_ _) | (with_reducible refine Kd.C_drew ?_))); (case side2 => exact HC134_3.out); (case side3 => repeat (first | exact (Kd.C_below HR134_4.out HB.out) | (with_reducible refine Kd.C_alloc ?_ _) | (with_reducible refine Kd.C_drewN ?_ _) | (with_reducible refine Kd.C_drew ?_))); (case side4 => exact HC134_4.out); rintro e w9 ⟨rfl, hb⟩; refine ⟨_, rfl, ?_⟩; have n0_ := Aside0.mk (blk_below (g := gb133) (o := .cells #[.int .i64 a0_0, .int .i64 a0_1, .string a0_2, .slice (some ad134) l0_3.length c0_3, .slice A0_4 l0_4.length c0_4] 25 (0, 0)) (by (with_reducible repeat (first | refine blk_drewN ?_ _ | refine blk_drew ?_ | refine blk_alloc ?_ _)); exact BK133.out) hb); have n1_ := Aside0.mk (below_step (by repeat (first | (with_reducible first | exact HB.out | apply below_alloc | apply pw_below_drewN | apply below_drew1 | refine below_set ?_ GE133.out) | exact HB.out)) hb); clear BK133; clear HB; have BK133 := n0_; have HB := n1_; clear n0_ n1_; (try clear hb); (try clear hb2); (try clear hk); (try clear hi)))
      go_roundg k1
      case measure => have := HK1.out; omega
      case rel => exact ⟨(wrap64 (x5_1 + t135)), (wrap64 (x6_1 + 1)), (by first | rfl | (simp; done) | (simp [*]; done)), (by first | rfl | (simp; done) | (simp [*]; done)), (by first | exact H' | (subst_vars; exact H')), ⟨by have := HK1.out; omega⟩, ⟨by (with_reducible repeat (first | refine blk_drewN ?_ _ | refine blk_drew ?_ | refine blk_alloc ?_ _)); exact BK133.out⟩, ⟨by repeat (first | (with_reducible first | exact HB.out | apply below_alloc | apply pw_below_drewN | apply below_drew1 | refine below_set ?_ GE133.out) | exact HB.out)⟩⟩
     ·rw [if_neg c6] at H
      exact absurd H (by simp)
    ·rw [if_neg c5] at H
     have c5b0 : decide (x5_1 ≤ a1) = false := decide_eq_false c5
     clear c5
     obtain rfl := Option.some.inj H
     have hcz10_0 : wr.cell? ⟨gb133, 0, none⟩ = some (.int .i64 a0_0) := (blk_cell BK133.out 0).trans rfl
     have hcz10_1 : wr.cell? ⟨gb133, 1, none⟩ = some (.int .i64 a0_1) := (blk_cell BK133.out 1).trans rfl
     have hcz10_2 : wr.cell? ⟨gb133, 2, none⟩ = some (.string a0_2) := (blk_cell BK133.out 2).trans rfl
     have hcz10_3 : wr.cell? ⟨gb133, 3, none⟩ = some (.slice A0_3 l0_3.length c0_3) := (blk_cell BK133.out 3).trans rfl
     have hcz10_4 : wr.cell? ⟨gb133, 4, none⟩ = some (.slice A0_4 l0_4.length c0_4) := (blk_cell BK133.out 4).trans rfl
     have hfz10_0 := blk_frozen BK133.out 0
     have hfz10_1 := blk_frozen BK133.out 1
     have hfz10_2 := blk_frozen BK133.out 2
     have hfz10_3 := blk_frozen BK133.out 3
     have hfz10_4 := blk_frozen BK133.out 4
     go_wp2
     go_ret
     exact ⟨by first | rfl | (simp [errW_none, errW_some] <;> rfl) | (simp [*, errW_none, errW_some] <;> rfl), by repeat (first | (with_reducible first | exact HB.out | apply below_alloc | apply pw_below_drewN | apply below_drew1 | refine below_set ?_ GE133.out) | exact HB.out)⟩
   ·rw [if_neg c4] at H
    have c4b0 : decide (x6_1 < (l0_3.length : Int)) = false := decide_eq_false c4
    clear c4
    obtain rfl := Option.some.inj H
    have hcz11_0 : wr.cell? ⟨gb133, 0, none⟩ = some (.int .i64 a0_0) := (blk_cell BK133.out 0).trans rfl
    have hcz11_1 : wr.cell? ⟨gb133, 1, none⟩ = some (.int .i64 a0_1) := (blk_cell BK133.out 1).trans rfl
    have hcz11_2 : wr.cell? ⟨gb133, 2, none⟩ = some (.string a0_2) := (blk_cell BK133.out 2).trans rfl
    have hcz11_3 : wr.cell? ⟨gb133, 3, none⟩ = some (.slice A0_3 l0_3.length c0_3) := (blk_cell BK133.out 3).trans rfl
    have hcz11_4 : wr.cell? ⟨gb133, 4, none⟩ = some (.slice A0_4 l0_4.length c0_4) := (blk_cell BK133.out 4).trans rfl
    have hfz11_0 := blk_frozen BK133.out 0
    have hfz11_1 := blk_frozen BK133.out 1
    have hfz11_2 := blk_frozen BK133.out 2
    have hfz11_3 := blk_frozen BK133.out 3
    have hfz11_4 := blk_frozen BK133.out 4
    go_wp2
    go_ret
    exact ⟨by first | rfl | (simp [errW_none, errW_some] <;> rfl) | (simp [*, errW_none, errW_some] <;> rfl), by repeat (first | (with_reducible first | exact HB.out | apply below_alloc | apply pw_below_drewN | apply below_drew1 | refine below_set ?_ GE133.out) | exact HB.out)⟩

end
end Go.Proofs.YtegppacnkfeaoaaGreatDoor.G

/- Go functions as Lean functions, each with its contract: written by a program of mine over the kit's print. Conditions: each contract's own. -/
namespace Go.Proofs.YtegppacnkfeaoaaGreatDoor.G
open Go.RowKit Go.Proofs.YtegppacnkfeaoaaGreatDoorW.PrintWords Go.Proofs.YtegppacnkfeaoaaGreatDoorW.PrintLast Go.Proofs.YtegppacnkfeaoaaGreatDoorW.PrintMore
attribute [local go_sem] max2_int min2_int max_two min_two max_three min_three max_four min_four   -- for this text's walks alone
set_option linter.unusedVariables false
set_option linter.unusedSimpArgs false
noncomputable section
variable [Inhabited Bound]

/-! ### bloomeryref11_deep: function 28 -/
mutual
def bloomeryref11_deep.l0 : Nat → Int → Int → Int → Int → Int → Int → ByteArray → List (S25) → List ByteArray → Option (Int)
 | 0, _, _, _, _, _, _, _, _, _ => none
 | k + 1, x1, x5, x12, x13, x137000, x137001, x137002, x137003, x137004 => if x13 < x12 then (if 0 ≤ x13 then (if x13 < (x137003.length : Int) then ((bloomeryref11_deep.f k ((rd_T25 x137003 x13).f0) ((rd_T25 x137003 x13).f1) ((rd_T25 x137003 x13).f2) ((rd_T25 x137003 x13).f3) ((rd_T25 x137003 x13).f4) (wrap64 (x1 - 1))).bind fun t138 => (if t138 > x5 then (bloomeryref11_deep.l0 k x1 t138 x12 (wrap64 (x13 + 1)) x137000 x137001 x137002 x137003 x137004) else (bloomeryref11_deep.l0 k x1 x5 x12 (wrap64 (x13 + 1)) x137000 x137001 x137002 x137003 x137004))) else (none)) else (none)) else (some (wrap64 (x5 + 1)))
def bloomeryref11_deep.f : Nat → Int → Int → ByteArray → List (S25) → List ByteArray → Int → Option (Int)
 | 0, _, _, _, _, _, _ => none
 | k + 1, a0_0, a0_1, a0_2, l0_3, l0_4, a1 => if a1 > 0 then (bloomeryref11_deep.l0 k a1 0 (l0_3.length : Int) 0 a0_0 a0_1 a0_2 l0_3 l0_4) else (some (0 + 1))
end
set_option maxHeartbeats 8000000 in
set_option maxRecDepth 100000 in
theorem bloomeryref11_deep.calls (k : Nat) : ∀ (a0_0 : Int) (a0_1 : Int) (a0_2 : ByteArray) (A0_3 : Option Addr) (c0_3 : Nat) (l0_3 : List (S25)) (A0_4 : Option Addr) (c0_4 : Nat) (l0_4 : List ByteArray) (a1 : Int) (r : Int) (w : World) (hr0_3 : Kd.C k25 w A0_3 l0_3.length l0_3) (hc0_3 : l0_3.length ≤ c0_3) (hr0_4 : Kd.C Kd.string w A0_4 l0_4.length l0_4) (hc0_4 : l0_4.length ≤ c0_4) (h : bloomeryref11_deep.f k a0_0 a0_1 a0_2 l0_3 l0_4 a1 = some r),
  Calls Tryz.prog 28 #[.agg #[.int .i64 a0_0, .int .i64 a0_1, .string a0_2, .slice A0_3 l0_3.length c0_3, .slice A0_4 l0_4.length c0_4], .int .i64 a1] w fun e w' => e = .returned (.int .i64 r) ∧ Below w.heap.size w w' := by
 induction k using Nat.strongRecOn with
 | _ k ih =>
 intro a0_0 a0_1 a0_2 A0_3 c0_3 l0_3 A0_4 c0_4 l0_4 a1 r w hr0_3 hc0_3 hr0_4 hc0_4 h
 cases k with
 | zero => exact absurd h (by simp [bloomeryref11_deep.f])
 | succ k =>
 simp only [bloomeryref11_deep.f] at h
 have hu25 := Tryz.underlying25
 have HR0_3 := Aside0.mk hr0_3
 have HC0_3 := Aside0.mk hc0_3
 clear hr0_3 hc0_3
 have HR0_4 := Aside0.mk hr0_4
 have HC0_4 := Aside0.mk hc0_4
 clear hr0_4 hc0_4
 have HB := Aside0.mk (Below.refl w.heap.size w)
 have H : (if a1 > 0 then (bloomeryref11_deep.l0 k a1 0 (l0_3.length : Int) 0 a0_0 a0_1 a0_2 l0_3 l0_4) else (some (0 + 1))) = some r := h
 clear h
 by_cases c3 : a1 > 0
 ·rw [if_pos c3] at H
  have c3b0 : decide (0 < a1) = true := decide_eq_true c3
  clear c3
  have H' := Aside0.mk H
  clear H
  go_enter Tryz.func28, Tryz.ntmps28
  go_wp2_with (first | ((with_reducible refine gate_dst (N := 2) rfl ?_); refine box_event ?hg (N := 2) ?hd (cs := #[.int .i64 a0_0, .int .i64 a0_1, .string a0_2, .slice A0_3 l0_3.length c0_3, .slice A0_4 l0_4.length c0_4]) (t := 25) ?hr ?_; (case hd => rfl); (case hg => rfl); (case hr => first | (go_simp; done) | (go_simp; rfl)); intro gb136 hg w4 hbox hb; have n0_ := Aside0.mk (below_step (by repeat (first | (with_reducible first | exact HB.out | apply below_alloc | apply pw_below_drewN | apply below_drew1) | exact HB.out)) hb); have n1_ := Aside0.mk (hbox); have n2_ := Aside0.mk ((by rw [hg]; exact (below_size (by repeat (first | (with_reducible first | exact HB.out | apply below_alloc | apply pw_below_drewN | apply below_drew1) | exact HB.out))) : w.heap.size ≤ gb136)); have n3_ := Aside0.mk ((by rw [hg]; exact (below_size (by repeat (first | (with_reducible first | exact HB.out | apply below_alloc | apply pw_below_drewN | apply below_drew1) | exact HB.out))) : w.heap.size ≤ gb136)); clear HB; have HB := n0_; have BK136 := n1_; have GW136 := n2_; have GE136 := n3_; clear n0_ n1_ n2_ n3_; clear hb hbox hg; have hcz5_0 : w4.cell? ⟨gb136, 0, none⟩ = some (.int .i64 a0_0) := (blk_cell BK136.out 0).trans rfl; have hcz5_1 : w4.cell? ⟨gb136, 1, none⟩ = some (.int .i64 a0_1) := (blk_cell BK136.out 1).trans rfl; have hcz5_2 : w4.cell? ⟨gb136, 2, none⟩ = some (.string a0_2) := (blk_cell BK136.out 2).trans rfl; have hcz5_3 : w4.cell? ⟨gb136, 3, none⟩ = some (.slice A0_3 l0_3.length c0_3) := (blk_cell BK136.out 3).trans rfl; have hcz5_4 : w4.cell? ⟨gb136, 4, none⟩ = some (.slice A0_4 l0_4.length c0_4) := (blk_cell BK136.out 4).trans rfl; have hfz5_0 := blk_frozen BK136.out 0; have hfz5_1 := blk_frozen BK136.out 1; have hfz5_2 := blk_frozen BK136.out 2; have hfz5_3 := blk_frozen BK136.out 3; have hfz5_4 := blk_frozen BK136.out 4))
  go_loopg [5, 13] k (fun kq v5 v13 w' => ∃ (x5_1 : Int) (x13_1 : Int), v5 = .int .i64 x5_1 ∧ v13 = .int .i64 x13_1 ∧ Aside0 (bloomeryref11_deep.l0 kq a1 x5_1 (l0_3.length : Int) x13_1 a0_0 a0_1 a0_2 l0_3 l0_4 = some r) ∧ Aside0 (kq ≤ k) ∧ Aside0 (w'.heap[gb136]? = some (.cells #[.int .i64 a0_0, .int .i64 a0_1, .string a0_2, (.slice A0_3 l0_3.length c0_3), (.slice A0_4 l0_4.length c0_4)] 25 (0, 0))) ∧ Aside0 (Below w.heap.size w w'))
  case atStart => exact ⟨(0), (0), (by first | rfl | (simp; done) | (simp [*]; done)), (by first | rfl | (simp; done) | (simp [*]; done)), (by first | exact H' | (subst_vars; exact H')), ⟨Nat.le_refl _⟩, ⟨by (with_reducible repeat (first | refine blk_drewN ?_ _ | refine blk_drew ?_ | refine blk_alloc ?_ _)); exact BK136.out⟩, ⟨by repeat (first | (with_reducible first | exact HB.out | apply below_alloc | apply pw_below_drewN | apply below_drew1 | refine below_set ?_ GE136.out) | exact HB.out)⟩⟩
  case round =>
   clear H'
   try clear c2
   try clear p2
   try clear c3
   try clear c3b0
   try clear hcz5_0
   try clear hcz5_1
   try clear hcz5_2
   try clear hcz5_3
   try clear hcz5_4
   try clear hfz5_0
   try clear hfz5_1
   try clear hfz5_2
   try clear hfz5_3
   try clear hfz5_4
   obtain ⟨x5_1, x13_1, rfl, rfl, HA, HK1, BK136, HB⟩ := hrel
   cases gk with
   | zero => exact absurd HA.out (by simp [bloomeryref11_deep.l0])
   | succ k1 =>
    have H := HA.out
    clear HA
    simp only [bloomeryref11_deep.l0] at H
    by_cases c6 : x13_1 < (l0_3.length : Int)
    ·rw [if_pos c6] at H
     have c6b0 : decide (x13_1 < (l0_3.length : Int)) = true := decide_eq_true c6
     clear c6
     by_cases c7 : 0 ≤ x13_1
     ·rw [if_pos c7] at H
      have c7b0 : decide (0 ≤ x13_1) = true := decide_eq_true c7
      clear c7
      by_cases c8 : x13_1 < (l0_3.length : Int)
      ·rw [if_pos c8] at H
       have c8b0 : decide (x13_1 < (l0_3.length : Int)) = true := decide_eq_true c8
       clear c8
       replace H := Option.bind_eq_some_iff.mp H
       obtain ⟨t138, A90, H⟩ := H
       replace H : (if t138 > x5_1 then (bloomeryref11_deep.l0 k1 a1 t138 (l0_3.length : Int) (wrap64 (x13_1 + 1)) a0_0 a0_1 a0_2 l0_3 l0_4) else (bloomeryref11_deep.l0 k1 a1 x5_1 (l0_3.length : Int) (wrap64 (x13_1 + 1)) a0_0 a0_1 a0_2 l0_3 l0_4)) = some r := H
       have A9 := Aside0.mk A90
       clear A90
       by_cases c10 : t138 > x5_1
       ·rw [if_pos c10] at H
        have c10b0 : decide (x5_1 < t138) = true := decide_eq_true c10
        clear c10
        have H' := Aside0.mk H
        clear H
        have hcz11_0 : wr.cell? ⟨gb136, 0, none⟩ = some (.int .i64 a0_0) := (blk_cell BK136.out 0).trans rfl
        have hcz11_1 : wr.cell? ⟨gb136, 1, none⟩ = some (.int .i64 a0_1) := (blk_cell BK136.out 1).trans rfl
        have hcz11_2 : wr.cell? ⟨gb136, 2, none⟩ = some (.string a0_2) := (blk_cell BK136.out 2).trans rfl
        have hcz11_3 : wr.cell? ⟨gb136, 3, none⟩ = some (.slice A0_3 l0_3.length c0_3) := (blk_cell BK136.out 3).trans rfl
        have hcz11_4 : wr.cell? ⟨gb136, 4, none⟩ = some (.slice A0_4 l0_4.length c0_4) := (blk_cell BK136.out 4).trans rfl
        have hfz11_0 := blk_frozen BK136.out 0
        have hfz11_1 := blk_frozen BK136.out 1
        have hfz11_2 := blk_frozen BK136.out 2
        have hfz11_3 := blk_frozen BK136.out 3
        have hfz11_4 := blk_frozen BK136.out 4
        have p137 : 0 ≤ (x13_1 : Int) := of_decide_eq_true (by first | (with_reducible assumption) | assumption)
        have q137 : x13_1 < (l0_3.length : Int) := of_decide_eq_true (by first | (with_reducible assumption) | assumption)
        obtain ⟨ad137, A137_3, c137_3, A137_4, c137_4, e137, hx137_0, hx137_1, hx137_2, hx137_3, hx137_4, hl137_3, hi137_3, hl137_4, hi137_4⟩ := at_T25 HR0_3.out x13_1 p137 q137
        cases e137
        replace hx137_0 := (HB.out.cell (World.block_lt_of_cell? w _ hx137_0)).trans hx137_0
        replace hx137_1 := (HB.out.cell (World.block_lt_of_cell? w _ hx137_1)).trans hx137_1
        replace hx137_2 := (HB.out.cell (World.block_lt_of_cell? w _ hx137_2)).trans hx137_2
        replace hx137_3 := (HB.out.cell (World.block_lt_of_cell? w _ hx137_3)).trans hx137_3
        replace hx137_4 := (HB.out.cell (World.block_lt_of_cell? w _ hx137_4)).trans hx137_4
        have HR137_3 := Aside0.mk hi137_3
        have HC137_3 := Aside0.mk hl137_3
        clear hi137_3 hl137_3
        have HR137_4 := Aside0.mk hi137_4
        have HC137_4 := Aside0.mk hl137_4
        clear hi137_4 hl137_4
        replace p137 := eq_true p137
        replace q137 := eq_true q137
        go_wp2_with (first | ((with_reducible refine gate_callee (f := 28) rfl ?_); refine goesL_ (some 23) rfl rfl Tryz.func28 (by kernel_rfl) rfl #[.agg #[.int .i64 ((rd_T25 l0_3 x13_1).f0), .int .i64 ((rd_T25 l0_3 x13_1).f1), .string ((rd_T25 l0_3 x13_1).f2), .slice A137_3 ((rd_T25 l0_3 x13_1).f3).length c137_3, .slice A137_4 ((rd_T25 l0_3 x13_1).f4).length c137_4], .int .i64 (wrap64 (a1 - 1))] rfl (by (try simp only [List.map_toArray, List.map_cons, List.map_nil]); first | done | rfl | (simp only [List.length_drop, List.length_take]; rfl)) ?_; (with_reducible refine (ih k1 (by have := HK1.out; omega) ((rd_T25 l0_3 x13_1).f0) ((rd_T25 l0_3 x13_1).f1) ((rd_T25 l0_3 x13_1).f2) _ _ ((rd_T25 l0_3 x13_1).f3) _ _ ((rd_T25 l0_3 x13_1).f4) (wrap64 (a1 - 1)) t138 _ ?side1 ?side2 ?side3 ?side4 A9.out).mono ?_); (case side1 => repeat (first | exact (Kd.C_below HR137_3.out HB.out) | (with_reducible refine Kd.C_alloc ?_ _) | (with_reducible refine Kd.C_drewN ?_ _) | (with_reducible refine Kd.C_drew ?_))); (case side2 => exact HC137_3.out); (case side3 => repeat (first | exact (Kd.C_below HR137_4.out HB.out) | (with_reducible refine Kd.C_alloc ?_ _) | (with_reducible refine Kd.C_drewN ?_ _) | (with_reducible refine Kd.C_drew ?_))); (case side4 => exact HC137_4.out); rintro e w12 ⟨rfl, hb⟩; refine ⟨_, rfl, ?_⟩; have n0_ := Aside0.mk (blk_below (g := gb136) (o := .cells #[.int .i64 a0_0, .int .i64 a0_1, .string a0_2, .slice (some ad137) l0_3.length c0_3, .slice A0_4 l0_4.length c0_4] 25 (0, 0)) (by (with_reducible repeat (first | refine blk_drewN ?_ _ | refine blk_drew ?_ | refine blk_alloc ?_ _)); exact BK136.out) hb); have n1_ := Aside0.mk (below_step (by repeat (first | (with_reducible first | exact HB.out | apply below_alloc | apply pw_below_drewN | apply below_drew1 | refine below_set ?_ GE136.out) | exact HB.out)) hb); clear BK136; clear HB; have BK136 := n0_; have HB := n1_; clear n0_ n1_; (try clear hb); (try clear hb2); (try clear hk); (try clear hi)))
        go_roundg k1
        case measure => have := HK1.out; omega
        case rel => exact ⟨(t138), (wrap64 (x13_1 + 1)), (by first | rfl | (simp; done) | (simp [*]; done)), (by first | rfl | (simp; done) | (simp [*]; done)), (by first | exact H' | (subst_vars; exact H')), ⟨by have := HK1.out; omega⟩, ⟨by (with_reducible repeat (first | refine blk_drewN ?_ _ | refine blk_drew ?_ | refine blk_alloc ?_ _)); exact BK136.out⟩, ⟨by repeat (first | (with_reducible first | exact HB.out | apply below_alloc | apply pw_below_drewN | apply below_drew1 | refine below_set ?_ GE136.out) | exact HB.out)⟩⟩
       ·rw [if_neg c10] at H
        have c10b0 : decide (x5_1 < t138) = false := decide_eq_false c10
        clear c10
        have H' := Aside0.mk H
        clear H
        have hcz13_0 : wr.cell? ⟨gb136, 0, none⟩ = some (.int .i64 a0_0) := (blk_cell BK136.out 0).trans rfl
        have hcz13_1 : wr.cell? ⟨gb136, 1, none⟩ = some (.int .i64 a0_1) := (blk_cell BK136.out 1).trans rfl
        have hcz13_2 : wr.cell? ⟨gb136, 2, none⟩ = some (.string a0_2) := (blk_cell BK136.out 2).trans rfl
        have hcz13_3 : wr.cell? ⟨gb136, 3, none⟩ = some (.slice A0_3 l0_3.length c0_3) := (blk_cell BK136.out 3).trans rfl
        have hcz13_4 : wr.cell? ⟨gb136, 4, none⟩ = some (.slice A0_4 l0_4.length c0_4) := (blk_cell BK136.out 4).trans rfl
        have hfz13_0 := blk_frozen BK136.out 0
        have hfz13_1 := blk_frozen BK136.out 1
        have hfz13_2 := blk_frozen BK136.out 2
        have hfz13_3 := blk_frozen BK136.out 3
        have hfz13_4 := blk_frozen BK136.out 4
        have p137 : 0 ≤ (x13_1 : Int) := of_decide_eq_true (by first | (with_reducible assumption) | assumption)
        have q137 : x13_1 < (l0_3.length : Int) := of_decide_eq_true (by first | (with_reducible assumption) | assumption)
        obtain ⟨ad137, A137_3, c137_3, A137_4, c137_4, e137, hx137_0, hx137_1, hx137_2, hx137_3, hx137_4, hl137_3, hi137_3, hl137_4, hi137_4⟩ := at_T25 HR0_3.out x13_1 p137 q137
        cases e137
        replace hx137_0 := (HB.out.cell (World.block_lt_of_cell? w _ hx137_0)).trans hx137_0
        replace hx137_1 := (HB.out.cell (World.block_lt_of_cell? w _ hx137_1)).trans hx137_1
        replace hx137_2 := (HB.out.cell (World.block_lt_of_cell? w _ hx137_2)).trans hx137_2
        replace hx137_3 := (HB.out.cell (World.block_lt_of_cell? w _ hx137_3)).trans hx137_3
        replace hx137_4 := (HB.out.cell (World.block_lt_of_cell? w _ hx137_4)).trans hx137_4
        have HR137_3 := Aside0.mk hi137_3
        have HC137_3 := Aside0.mk hl137_3
        clear hi137_3 hl137_3
        have HR137_4 := Aside0.mk hi137_4
        have HC137_4 := Aside0.mk hl137_4
        clear hi137_4 hl137_4
        replace p137 := eq_true p137
        replace q137 := eq_true q137
        go_wp2_with (first | ((with_reducible refine gate_callee (f := 28) rfl ?_); refine goesL_ (some 23) rfl rfl Tryz.func28 (by kernel_rfl) rfl #[.agg #[.int .i64 ((rd_T25 l0_3 x13_1).f0), .int .i64 ((rd_T25 l0_3 x13_1).f1), .string ((rd_T25 l0_3 x13_1).f2), .slice A137_3 ((rd_T25 l0_3 x13_1).f3).length c137_3, .slice A137_4 ((rd_T25 l0_3 x13_1).f4).length c137_4], .int .i64 (wrap64 (a1 - 1))] rfl (by (try simp only [List.map_toArray, List.map_cons, List.map_nil]); first | done | rfl | (simp only [List.length_drop, List.length_take]; rfl)) ?_; (with_reducible refine (ih k1 (by have := HK1.out; omega) ((rd_T25 l0_3 x13_1).f0) ((rd_T25 l0_3 x13_1).f1) ((rd_T25 l0_3 x13_1).f2) _ _ ((rd_T25 l0_3 x13_1).f3) _ _ ((rd_T25 l0_3 x13_1).f4) (wrap64 (a1 - 1)) t138 _ ?side1 ?side2 ?side3 ?side4 A9.out).mono ?_); (case side1 => repeat (first | exact (Kd.C_below HR137_3.out HB.out) | (with_reducible refine Kd.C_alloc ?_ _) | (with_reducible refine Kd.C_drewN ?_ _) | (with_reducible refine Kd.C_drew ?_))); (case side2 => exact HC137_3.out); (case side3 => repeat (first | exact (Kd.C_below HR137_4.out HB.out) | (with_reducible refine Kd.C_alloc ?_ _) | (with_reducible refine Kd.C_drewN ?_ _) | (with_reducible refine Kd.C_drew ?_))); (case side4 => exact HC137_4.out); rintro e w14 ⟨rfl, hb⟩; refine ⟨_, rfl, ?_⟩; have n0_ := Aside0.mk (blk_below (g := gb136) (o := .cells #[.int .i64 a0_0, .int .i64 a0_1, .string a0_2, .slice (some ad137) l0_3.length c0_3, .slice A0_4 l0_4.length c0_4] 25 (0, 0)) (by (with_reducible repeat (first | refine blk_drewN ?_ _ | refine blk_drew ?_ | refine blk_alloc ?_ _)); exact BK136.out) hb); have n1_ := Aside0.mk (below_step (by repeat (first | (with_reducible first | exact HB.out | apply below_alloc | apply pw_below_drewN | apply below_drew1 | refine below_set ?_ GE136.out) | exact HB.out)) hb); clear BK136; clear HB; have BK136 := n0_; have HB := n1_; clear n0_ n1_; (try clear hb); (try clear hb2); (try clear hk); (try clear hi)))
        go_roundg k1
        case measure => have := HK1.out; omega
        case rel => exact ⟨(x5_1), (wrap64 (x13_1 + 1)), (by first | rfl | (simp; done) | (simp [*]; done)), (by first | rfl | (simp; done) | (simp [*]; done)), (by first | exact H' | (subst_vars; exact H')), ⟨by have := HK1.out; omega⟩, ⟨by (with_reducible repeat (first | refine blk_drewN ?_ _ | refine blk_drew ?_ | refine blk_alloc ?_ _)); exact BK136.out⟩, ⟨by repeat (first | (with_reducible first | exact HB.out | apply below_alloc | apply pw_below_drewN | apply below_drew1 | refine below_set ?_ GE136.out) | exact HB.out)⟩⟩
      ·rw [if_neg c8] at H
       exact absurd H (by simp)
     ·rw [if_neg c7] at H
      exact absurd H (by simp)
    ·rw [if_neg c6] at H
     have c6b0 : decide (x13_1 < (l0_3.length : Int)) = false := decide_eq_false c6
     clear c6
     obtain rfl := Option.some.inj H
     go_wp2
     go_ret
     exact ⟨by first | rfl | (simp [errW_none, errW_some] <;> rfl) | (simp [*, errW_none, errW_some] <;> rfl), by repeat (first | (with_reducible first | exact HB.out | apply below_alloc | apply pw_below_drewN | apply below_drew1 | refine below_set ?_ GE136.out) | exact HB.out)⟩
 ·rw [if_neg c3] at H
  have c3b0 : decide (0 < a1) = false := decide_eq_false c3
  clear c3
  obtain rfl := Option.some.inj H
  go_enter Tryz.func28, Tryz.ntmps28
  go_wp2_with (first | ((with_reducible refine gate_dst (N := 2) rfl ?_); refine box_event ?hg (N := 2) ?hd (cs := #[.int .i64 a0_0, .int .i64 a0_1, .string a0_2, .slice A0_3 l0_3.length c0_3, .slice A0_4 l0_4.length c0_4]) (t := 25) ?hr ?_; (case hd => rfl); (case hg => rfl); (case hr => first | (go_simp; done) | (go_simp; rfl)); intro gb136 hg w15 hbox hb; have n0_ := Aside0.mk (below_step (by repeat (first | (with_reducible first | exact HB.out | apply below_alloc | apply pw_below_drewN | apply below_drew1) | exact HB.out)) hb); have n1_ := Aside0.mk (hbox); have n2_ := Aside0.mk ((by rw [hg]; exact (below_size (by repeat (first | (with_reducible first | exact HB.out | apply below_alloc | apply pw_below_drewN | apply below_drew1) | exact HB.out))) : w.heap.size ≤ gb136)); have n3_ := Aside0.mk ((by rw [hg]; exact (below_size (by repeat (first | (with_reducible first | exact HB.out | apply below_alloc | apply pw_below_drewN | apply below_drew1) | exact HB.out))) : w.heap.size ≤ gb136)); clear HB; have HB := n0_; have BK136 := n1_; have GW136 := n2_; have GE136 := n3_; clear n0_ n1_ n2_ n3_; clear hb hbox hg))
  go_ret
  exact ⟨by first | rfl | (simp [errW_none, errW_some] <;> rfl) | (simp [*, errW_none, errW_some] <;> rfl), by repeat (first | (with_reducible first | exact HB.out | apply below_alloc | apply pw_below_drewN | apply below_drew1 | refine below_set ?_ GE136.out) | exact HB.out)⟩

end
end Go.Proofs.YtegppacnkfeaoaaGreatDoor.G

/- Go functions as Lean functions, each with its contract: written by a program of mine over the kit's print. Conditions: each contract's own. -/
namespace Go.Proofs.YtegppacnkfeaoaaGreatDoor.G
open Go.RowKit Go.Proofs.YtegppacnkfeaoaaGreatDoorW.PrintWords Go.Proofs.YtegppacnkfeaoaaGreatDoorW.PrintLast Go.Proofs.YtegppacnkfeaoaaGreatDoorW.PrintMore
attribute [local go_sem] max2_int min2_int max_two min_two max_three min_three max_four min_four   -- for this text's walks alone
set_option linter.unusedVariables false
set_option linter.unusedSimpArgs false
noncomputable section
variable [Inhabited Bound]

/-! ### bloomeryref11_keys: function 64 -/
def bloomeryref11_keys.l0 : Nat → Int → Int → Int → Int → ByteArray → List (S25) → List ByteArray → Option (Bool)
 | 0, _, _, _, _, _, _, _ => none
 | k + 1, x13, x14, x140000, x140001, x140002, x140003, x140004 => if x14 < x13 then (if 0 ≤ x14 then (if x14 < (x140004.length : Int) then (if ((rdOf ByteArray.empty x140004 x14).size : Int) > 65536 then (some false) else (if x14 > 0 then (if 0 ≤ (wrap64 (x14 - 1)) then (if (wrap64 (x14 - 1)) < (x140004.length : Int) then (if ((Op.bytesLess ((rdOf ByteArray.empty x140004 (wrap64 (x14 - 1))).toList) ((rdOf ByteArray.empty x140004 x14).toList)) = true) then (bloomeryref11_keys.l0 k x13 (wrap64 (x14 + 1)) x140000 x140001 x140002 x140003 x140004) else (some false)) else (none)) else (none)) else (bloomeryref11_keys.l0 k x13 (wrap64 (x14 + 1)) x140000 x140001 x140002 x140003 x140004))) else (none)) else (none)) else (some true)
def bloomeryref11_keys.f (k : Nat) (a0_0 : Int) (a0_1 : Int) (a0_2 : ByteArray) (l0_3 : List (S25)) (l0_4 : List ByteArray) : Option (Bool) := if (l0_4.length : Int) = (l0_3.length : Int) then (bloomeryref11_keys.l0 k (l0_4.length : Int) 0 a0_0 a0_1 a0_2 l0_3 l0_4) else (some false)
set_option maxHeartbeats 8000000 in
set_option maxRecDepth 100000 in
theorem bloomeryref11_keys.calls (k : Nat) (a0_0 : Int) (a0_1 : Int) (a0_2 : ByteArray) (A0_3 : Option Addr) (c0_3 : Nat) (l0_3 : List (S25)) (A0_4 : Option Addr) (c0_4 : Nat) (l0_4 : List ByteArray) (r : Bool) (w : World) (hr0_3 : Kd.C k25 w A0_3 l0_3.length l0_3) (hc0_3 : l0_3.length ≤ c0_3) (hr0_4 : Kd.C Kd.string w A0_4 l0_4.length l0_4) (hc0_4 : l0_4.length ≤ c0_4) (h : bloomeryref11_keys.f k a0_0 a0_1 a0_2 l0_3 l0_4 = some r) :
  Calls Tryz.prog 64 #[.agg #[.int .i64 a0_0, .int .i64 a0_1, .string a0_2, .slice A0_3 l0_3.length c0_3, .slice A0_4 l0_4.length c0_4]] w fun e w' => e = .returned (.bool r) ∧ Below w.heap.size w w' := by
 have hu25 := Tryz.underlying25
 have HR0_3 := Aside0.mk hr0_3
 have HC0_3 := Aside0.mk hc0_3
 clear hr0_3 hc0_3
 have HR0_4 := Aside0.mk hr0_4
 have HC0_4 := Aside0.mk hc0_4
 clear hr0_4 hc0_4
 have HB := Aside0.mk (Below.refl w.heap.size w)
 have H : (if (l0_4.length : Int) = (l0_3.length : Int) then (bloomeryref11_keys.l0 k (l0_4.length : Int) 0 a0_0 a0_1 a0_2 l0_3 l0_4) else (some false)) = some r := h
 clear h
 by_cases c2 : (l0_4.length : Int) = (l0_3.length : Int)
 ·rw [if_pos c2] at H
  have c2b0 : ((l0_4.length : Int) == (l0_3.length : Int)) = true := beq_iff_eq.mpr c2
  have c2b1 : ((l0_4.length : Int) != (l0_3.length : Int)) = false := bne_eq_false_iff_eq.mpr c2
  have c2b2 : (l0_4.length == l0_3.length) = true := by first | simpa using c2 | (simp at c2 ⊢; omega)
  clear c2
  have H' := Aside0.mk H
  clear H
  go_enter Tryz.func64, Tryz.ntmps64
  go_wp2_with (first | ((with_reducible refine gate_dst (N := 1) rfl ?_); refine box_event ?hg (N := 1) ?hd (cs := #[.int .i64 a0_0, .int .i64 a0_1, .string a0_2, .slice A0_3 l0_3.length c0_3, .slice A0_4 l0_4.length c0_4]) (t := 25) ?hr ?_; (case hd => rfl); (case hg => rfl); (case hr => first | (go_simp; done) | (go_simp; rfl)); intro gb139 hg w3 hbox hb; have n0_ := Aside0.mk (below_step (by repeat (first | (with_reducible first | exact HB.out | apply below_alloc | apply pw_below_drewN | apply below_drew1) | exact HB.out)) hb); have n1_ := Aside0.mk (hbox); have n2_ := Aside0.mk ((by rw [hg]; exact (below_size (by repeat (first | (with_reducible first | exact HB.out | apply below_alloc | apply pw_below_drewN | apply below_drew1) | exact HB.out))) : w.heap.size ≤ gb139)); have n3_ := Aside0.mk ((by rw [hg]; exact (below_size (by repeat (first | (with_reducible first | exact HB.out | apply below_alloc | apply pw_below_drewN | apply below_drew1) | exact HB.out))) : w.heap.size ≤ gb139)); clear HB; have HB := n0_; have BK139 := n1_; have GW139 := n2_; have GE139 := n3_; clear n0_ n1_ n2_ n3_; clear hb hbox hg; have hcz4_0 : w3.cell? ⟨gb139, 0, none⟩ = some (.int .i64 a0_0) := (blk_cell BK139.out 0).trans rfl; have hcz4_1 : w3.cell? ⟨gb139, 1, none⟩ = some (.int .i64 a0_1) := (blk_cell BK139.out 1).trans rfl; have hcz4_2 : w3.cell? ⟨gb139, 2, none⟩ = some (.string a0_2) := (blk_cell BK139.out 2).trans rfl; have hcz4_3 : w3.cell? ⟨gb139, 3, none⟩ = some (.slice A0_3 l0_3.length c0_3) := (blk_cell BK139.out 3).trans rfl; have hcz4_4 : w3.cell? ⟨gb139, 4, none⟩ = some (.slice A0_4 l0_4.length c0_4) := (blk_cell BK139.out 4).trans rfl; have hfz4_0 := blk_frozen BK139.out 0; have hfz4_1 := blk_frozen BK139.out 1; have hfz4_2 := blk_frozen BK139.out 2; have hfz4_3 := blk_frozen BK139.out 3; have hfz4_4 := blk_frozen BK139.out 4))
  repeat (go_quiet (first | ((with_reducible refine gate_dst (N := 1) rfl ?_); refine box_event ?hg (N := 1) ?hd (cs := #[.int .i64 a0_0, .int .i64 a0_1, .string a0_2, .slice A0_3 l0_3.length c0_3, .slice A0_4 l0_4.length c0_4]) (t := 25) ?hr ?_; (case hd => rfl); (case hg => rfl); (case hr => first | (go_simp; done) | (go_simp; rfl)); intro gb139 hg w3 hbox hb; have n0_ := Aside0.mk (below_step (by repeat (first | (with_reducible first | exact HB.out | apply below_alloc | apply pw_below_drewN | apply below_drew1) | exact HB.out)) hb); have n1_ := Aside0.mk (hbox); have n2_ := Aside0.mk ((by rw [hg]; exact (below_size (by repeat (first | (with_reducible first | exact HB.out | apply below_alloc | apply pw_below_drewN | apply below_drew1) | exact HB.out))) : w.heap.size ≤ gb139)); have n3_ := Aside0.mk ((by rw [hg]; exact (below_size (by repeat (first | (with_reducible first | exact HB.out | apply below_alloc | apply pw_below_drewN | apply below_drew1) | exact HB.out))) : w.heap.size ≤ gb139)); clear HB; have HB := n0_; have BK139 := n1_; have GW139 := n2_; have GE139 := n3_; clear n0_ n1_ n2_ n3_; clear hb hbox hg; have hcz4_0 : w3.cell? ⟨gb139, 0, none⟩ = some (.int .i64 a0_0) := (blk_cell BK139.out 0).trans rfl; have hcz4_1 : w3.cell? ⟨gb139, 1, none⟩ = some (.int .i64 a0_1) := (blk_cell BK139.out 1).trans rfl; have hcz4_2 : w3.cell? ⟨gb139, 2, none⟩ = some (.string a0_2) := (blk_cell BK139.out 2).trans rfl; have hcz4_3 : w3.cell? ⟨gb139, 3, none⟩ = some (.slice A0_3 l0_3.length c0_3) := (blk_cell BK139.out 3).trans rfl; have hcz4_4 : w3.cell? ⟨gb139, 4, none⟩ = some (.slice A0_4 l0_4.length c0_4) := (blk_cell BK139.out 4).trans rfl; have hfz4_0 := blk_frozen BK139.out 0; have hfz4_1 := blk_frozen BK139.out 1; have hfz4_2 := blk_frozen BK139.out 2; have hfz4_3 := blk_frozen BK139.out 3; have hfz4_4 := blk_frozen BK139.out 4)); try go_wp2_with (first | ((with_reducible refine gate_dst (N := 1) rfl ?_); refine box_event ?hg (N := 1) ?hd (cs := #[.int .i64 a0_0, .int .i64 a0_1, .string a0_2, .slice A0_3 l0_3.length c0_3, .slice A0_4 l0_4.length c0_4]) (t := 25) ?hr ?_; (case hd => rfl); (case hg => rfl); (case hr => first | (go_simp; done) | (go_simp; rfl)); intro gb139 hg w3 hbox hb; have n0_ := Aside0.mk (below_step (by repeat (first | (with_reducible first | exact HB.out | apply below_alloc | apply pw_below_drewN | apply below_drew1) | exact HB.out)) hb); have n1_ := Aside0.mk (hbox); have n2_ := Aside0.mk ((by rw [hg]; exact (below_size (by repeat (first | (with_reducible first | exact HB.out | apply below_alloc | apply pw_below_drewN | apply below_drew1) | exact HB.out))) : w.heap.size ≤ gb139)); have n3_ := Aside0.mk ((by rw [hg]; exact (below_size (by repeat (first | (with_reducible first | exact HB.out | apply below_alloc | apply pw_below_drewN | apply below_drew1) | exact HB.out))) : w.heap.size ≤ gb139)); clear HB; have HB := n0_; have BK139 := n1_; have GW139 := n2_; have GE139 := n3_; clear n0_ n1_ n2_ n3_; clear hb hbox hg; have hcz4_0 : w3.cell? ⟨gb139, 0, none⟩ = some (.int .i64 a0_0) := (blk_cell BK139.out 0).trans rfl; have hcz4_1 : w3.cell? ⟨gb139, 1, none⟩ = some (.int .i64 a0_1) := (blk_cell BK139.out 1).trans rfl; have hcz4_2 : w3.cell? ⟨gb139, 2, none⟩ = some (.string a0_2) := (blk_cell BK139.out 2).trans rfl; have hcz4_3 : w3.cell? ⟨gb139, 3, none⟩ = some (.slice A0_3 l0_3.length c0_3) := (blk_cell BK139.out 3).trans rfl; have hcz4_4 : w3.cell? ⟨gb139, 4, none⟩ = some (.slice A0_4 l0_4.length c0_4) := (blk_cell BK139.out 4).trans rfl; have hfz4_0 := blk_frozen BK139.out 0; have hfz4_1 := blk_frozen BK139.out 1; have hfz4_2 := blk_frozen BK139.out 2; have hfz4_3 := blk_frozen BK139.out 3; have hfz4_4 := blk_frozen BK139.out 4)))
  go_loopg [14] k (fun kq v14 w' => ∃ (x14_1 : Int), v14 = .int .i64 x14_1 ∧ Aside0 (bloomeryref11_keys.l0 kq (l0_4.length : Int) x14_1 a0_0 a0_1 a0_2 l0_3 l0_4 = some r) ∧ Aside0 (kq ≤ k) ∧ Aside0 (w'.heap[gb139]? = some (.cells #[.int .i64 a0_0, .int .i64 a0_1, .string a0_2, (.slice A0_3 l0_3.length c0_3), (.slice A0_4 l0_4.length c0_4)] 25 (0, 0))) ∧ Aside0 (Below w.heap.size w w'))
  case atStart => exact ⟨(0), (by first | rfl | (simp; done) | (simp [*]; done)), (by first | exact H' | (subst_vars; exact H')), ⟨Nat.le_refl _⟩, ⟨by (with_reducible repeat (first | refine blk_drewN ?_ _ | refine blk_drew ?_ | refine blk_alloc ?_ _)); exact BK139.out⟩, ⟨by repeat (first | (with_reducible first | exact HB.out | apply below_alloc | apply pw_below_drewN | apply below_drew1 | refine below_set ?_ GE139.out) | exact HB.out)⟩⟩
  case round =>
   clear H'
   try clear c2
   try clear c2b0
   try clear c2b1
   try clear c2b2
   try clear p2
   try clear hcz4_0
   try clear hcz4_1
   try clear hcz4_2
   try clear hcz4_3
   try clear hcz4_4
   try clear hfz4_0
   try clear hfz4_1
   try clear hfz4_2
   try clear hfz4_3
   try clear hfz4_4
   obtain ⟨x14_1, rfl, HA, HK1, BK139, HB⟩ := hrel
   cases gk with
   | zero => exact absurd HA.out (by simp [bloomeryref11_keys.l0])
   | succ k1 =>
    have H := HA.out
    clear HA
    simp only [bloomeryref11_keys.l0] at H
    by_cases c5 : x14_1 < (l0_4.length : Int)
    ·rw [if_pos c5] at H
     have c5b0 : decide (x14_1 < (l0_4.length : Int)) = true := decide_eq_true c5
     clear c5
     by_cases c6 : 0 ≤ x14_1
     ·rw [if_pos c6] at H
      have c6b0 : decide (0 ≤ x14_1) = true := decide_eq_true c6
      clear c6
      by_cases c7 : x14_1 < (l0_4.length : Int)
      ·rw [if_pos c7] at H
       have c7b0 : decide (x14_1 < (l0_4.length : Int)) = true := decide_eq_true c7
       clear c7
       by_cases c8 : ((rdOf ByteArray.empty l0_4 x14_1).size : Int) > 65536
       ·rw [if_pos c8] at H
        have c8b0 : decide (65536 < ((rdOf ByteArray.empty l0_4 x14_1).size : Int)) = true := decide_eq_true c8
        have c8b1 : decide (65536 < (rdOf ByteArray.empty l0_4 x14_1).size) = true := decide_eq_true (by omega)
        clear c8
        obtain rfl := Option.some.inj H
        have hcz9_0 : wr.cell? ⟨gb139, 0, none⟩ = some (.int .i64 a0_0) := (blk_cell BK139.out 0).trans rfl
        have hcz9_1 : wr.cell? ⟨gb139, 1, none⟩ = some (.int .i64 a0_1) := (blk_cell BK139.out 1).trans rfl
        have hcz9_2 : wr.cell? ⟨gb139, 2, none⟩ = some (.string a0_2) := (blk_cell BK139.out 2).trans rfl
        have hcz9_3 : wr.cell? ⟨gb139, 3, none⟩ = some (.slice A0_3 l0_3.length c0_3) := (blk_cell BK139.out 3).trans rfl
        have hcz9_4 : wr.cell? ⟨gb139, 4, none⟩ = some (.slice A0_4 l0_4.length c0_4) := (blk_cell BK139.out 4).trans rfl
        have hfz9_0 := blk_frozen BK139.out 0
        have hfz9_1 := blk_frozen BK139.out 1
        have hfz9_2 := blk_frozen BK139.out 2
        have hfz9_3 := blk_frozen BK139.out 3
        have hfz9_4 := blk_frozen BK139.out 4
        have p140 : 0 ≤ (x14_1 : Int) := of_decide_eq_true (by first | (with_reducible assumption) | assumption)
        have q140 : x14_1 < (l0_4.length : Int) := of_decide_eq_true (by first | (with_reducible assumption) | assumption)
        obtain ⟨ad140, e140, hx140_0⟩ := Kd.at_string HR0_4.out x14_1 p140 q140
        cases e140
        replace hx140_0 := (HB.out.cell (World.block_lt_of_cell? w _ hx140_0)).trans hx140_0
        replace p140 := eq_true p140
        replace q140 := eq_true q140
        go_wp2
        repeat (go_quiet (fail); try go_wp2)
        go_ret
        exact ⟨by first | rfl | (simp [errW_none, errW_some] <;> rfl) | (simp [*, errW_none, errW_some] <;> rfl), by repeat (first | (with_reducible first | exact HB.out | apply below_alloc | apply pw_below_drewN | apply below_drew1 | refine below_set ?_ GE139.out) | exact HB.out)⟩
       ·rw [if_neg c8] at H
        have c8b0 : decide (65536 < ((rdOf ByteArray.empty l0_4 x14_1).size : Int)) = false := decide_eq_false c8
        have c8b1 : decide (65536 < (rdOf ByteArray.empty l0_4 x14_1).size) = false := decide_eq_false (by omega)
        clear c8
        by_cases c10 : x14_1 > 0
        ·rw [if_pos c10] at H
         have c10b0 : decide (0 < x14_1) = true := decide_eq_true c10
         clear c10
         obtain ⟨ji11, hji11⟩ : ∃ j_ : Int, (wrap64 (x14_1 - 1)) = j_ := ⟨_, rfl⟩
         replace H : (if 0 ≤ (ji11) then (if (ji11) < (l0_4.length : Int) then (if ((Op.bytesLess ((rdOf ByteArray.empty l0_4 (ji11)).toList) ((rdOf ByteArray.empty l0_4 x14_1).toList)) = true) then (bloomeryref11_keys.l0 k1 (l0_4.length : Int) (wrap64 (x14_1 + 1)) a0_0 a0_1 a0_2 l0_3 l0_4) else (some false)) else (none)) else (none)) = some r := by first | (rw [hji11] at H; exact H) | (simp only [hji11] at H ⊢; exact H)
         have hji11w : (IntKind.i64.wrap (x14_1 - 1)) = ji11 := (i64_w _).trans hji11
         by_cases c12 : 0 ≤ (ji11)
         ·rw [if_pos c12] at H
          have c12b0 : decide (0 ≤ (ji11)) = true := decide_eq_true c12
          clear c12
          by_cases c13 : (ji11) < (l0_4.length : Int)
          ·rw [if_pos c13] at H
           have c13b0 : decide ((ji11) < (l0_4.length : Int)) = true := decide_eq_true c13
           clear c13
           by_cases c14 : ((Op.bytesLess ((rdOf ByteArray.empty l0_4 (ji11)).toList) ((rdOf ByteArray.empty l0_4 x14_1).toList)) = true)
           ·rw [if_pos c14] at H
            have c14b0 : (Op.bytesLess ((rdOf ByteArray.empty l0_4 (ji11)).toList) ((rdOf ByteArray.empty l0_4 x14_1).toList)) = true := c14
            have c14b5 := less_asym _ _ c14b0
            clear c14
            have H' := Aside0.mk H
            clear H
            have hcz15_0 : wr.cell? ⟨gb139, 0, none⟩ = some (.int .i64 a0_0) := (blk_cell BK139.out 0).trans rfl
            have hcz15_1 : wr.cell? ⟨gb139, 1, none⟩ = some (.int .i64 a0_1) := (blk_cell BK139.out 1).trans rfl
            have hcz15_2 : wr.cell? ⟨gb139, 2, none⟩ = some (.string a0_2) := (blk_cell BK139.out 2).trans rfl
            have hcz15_3 : wr.cell? ⟨gb139, 3, none⟩ = some (.slice A0_3 l0_3.length c0_3) := (blk_cell BK139.out 3).trans rfl
            have hcz15_4 : wr.cell? ⟨gb139, 4, none⟩ = some (.slice A0_4 l0_4.length c0_4) := (blk_cell BK139.out 4).trans rfl
            have hfz15_0 := blk_frozen BK139.out 0
            have hfz15_1 := blk_frozen BK139.out 1
            have hfz15_2 := blk_frozen BK139.out 2
            have hfz15_3 := blk_frozen BK139.out 3
            have hfz15_4 := blk_frozen BK139.out 4
            have p140 : 0 ≤ (x14_1 : Int) := of_decide_eq_true (by first | (with_reducible assumption) | assumption)
            have q140 : x14_1 < (l0_4.length : Int) := of_decide_eq_true (by first | (with_reducible assumption) | assumption)
            obtain ⟨ad140, e140, hx140_0⟩ := Kd.at_string HR0_4.out x14_1 p140 q140
            cases e140
            replace hx140_0 := (HB.out.cell (World.block_lt_of_cell? w _ hx140_0)).trans hx140_0
            replace p140 := eq_true p140
            replace q140 := eq_true q140
            have p141 : 0 ≤ (x14_1 : Int) := of_decide_eq_true (by first | (with_reducible assumption) | assumption)
            have q141 : x14_1 < (l0_4.length : Int) := of_decide_eq_true (by first | (with_reducible assumption) | assumption)
            obtain ⟨ad141, e141, hx141_0⟩ := Kd.at_string HR0_4.out x14_1 p141 q141
            obtain rfl : ad140 = ad141 := (by injection e141)
            replace hx141_0 := (HB.out.cell (World.block_lt_of_cell? w _ hx141_0)).trans hx141_0
            replace p141 := eq_true p141
            replace q141 := eq_true q141
            have p142 : 0 ≤ ((ji11) : Int) := of_decide_eq_true (by first | (with_reducible assumption) | assumption)
            have q142 : (ji11) < (l0_4.length : Int) := of_decide_eq_true (by first | (with_reducible assumption) | assumption)
            obtain ⟨ad142, e142, hx142_0⟩ := Kd.at_string HR0_4.out (ji11) p142 q142
            obtain rfl : ad140 = ad142 := (by injection e142)
            replace hx142_0 := (HB.out.cell (World.block_lt_of_cell? w _ hx142_0)).trans hx142_0
            replace p142 := eq_true p142
            replace q142 := eq_true q142
            go_wp2
            repeat (go_quiet (fail); try go_wp2)
            go_roundg k1
            case measure => have := HK1.out; omega
            case rel => exact ⟨(wrap64 (x14_1 + 1)), (by first | rfl | (simp; done) | (simp [*]; done)), (by first | exact H' | (subst_vars; exact H')), ⟨by have := HK1.out; omega⟩, ⟨by (with_reducible repeat (first | refine blk_drewN ?_ _ | refine blk_drew ?_ | refine blk_alloc ?_ _)); exact BK139.out⟩, ⟨by repeat (first | (with_reducible first | exact HB.out | apply below_alloc | apply pw_below_drewN | apply below_drew1 | refine below_set ?_ GE139.out) | exact HB.out)⟩⟩
           ·rw [if_neg c14] at H
            have c14b0 : (Op.bytesLess ((rdOf ByteArray.empty l0_4 (ji11)).toList) ((rdOf ByteArray.empty l0_4 x14_1).toList)) = false := by simpa using c14
            have c14b5 := less_total _ _ c14b0
            clear c14
            obtain rfl := Option.some.inj H
            have hcz16_0 : wr.cell? ⟨gb139, 0, none⟩ = some (.int .i64 a0_0) := (blk_cell BK139.out 0).trans rfl
            have hcz16_1 : wr.cell? ⟨gb139, 1, none⟩ = some (.int .i64 a0_1) := (blk_cell BK139.out 1).trans rfl
            have hcz16_2 : wr.cell? ⟨gb139, 2, none⟩ = some (.string a0_2) := (blk_cell BK139.out 2).trans rfl
            have hcz16_3 : wr.cell? ⟨gb139, 3, none⟩ = some (.slice A0_3 l0_3.length c0_3) := (blk_cell BK139.out 3).trans rfl
            have hcz16_4 : wr.cell? ⟨gb139, 4, none⟩ = some (.slice A0_4 l0_4.length c0_4) := (blk_cell BK139.out 4).trans rfl
            have hfz16_0 := blk_frozen BK139.out 0
            have hfz16_1 := blk_frozen BK139.out 1
            have hfz16_2 := blk_frozen BK139.out 2
            have hfz16_3 := blk_frozen BK139.out 3
            have hfz16_4 := blk_frozen BK139.out 4
            have p140 : 0 ≤ (x14_1 : Int) := of_decide_eq_true (by first | (with_reducible assumption) | assumption)
            have q140 : x14_1 < (l0_4.length : Int) := of_decide_eq_true (by first | (with_reducible assumption) | assumption)
            obtain ⟨ad140, e140, hx140_0⟩ := Kd.at_string HR0_4.out x14_1 p140 q140
            cases e140
            replace hx140_0 := (HB.out.cell (World.block_lt_of_cell? w _ hx140_0)).trans hx140_0
            replace p140 := eq_true p140
            replace q140 := eq_true q140
            have p141 : 0 ≤ (x14_1 : Int) := of_decide_eq_true (by first | (with_reducible assumption) | assumption)
            have q141 : x14_1 < (l0_4.length : Int) := of_decide_eq_true (by first | (with_reducible assumption) | assumption)
            obtain ⟨ad141, e141, hx141_0⟩ := Kd.at_string HR0_4.out x14_1 p141 q141
            obtain rfl : ad140 = ad141 := (by injection e141)
            replace hx141_0 := (HB.out.cell (World.block_lt_of_cell? w _ hx141_0)).trans hx141_0
            replace p141 := eq_true p141
            replace q141 := eq_true q141
            have p142 : 0 ≤ ((ji11) : Int) := of_decide_eq_true (by first | (with_reducible assumption) | assumption)
            have q142 : (ji11) < (l0_4.length : Int) := of_decide_eq_true (by first | (with_reducible assumption) | assumption)
            obtain ⟨ad142, e142, hx142_0⟩ := Kd.at_string HR0_4.out (ji11) p142 q142
            obtain rfl : ad140 = ad142 := (by injection e142)
            replace hx142_0 := (HB.out.cell (World.block_lt_of_cell? w _ hx142_0)).trans hx142_0
            replace p142 := eq_true p142
            replace q142 := eq_true q142
            go_wp2
            repeat (go_quiet (fail); try go_wp2)
            go_ret
            exact ⟨by first | rfl | (simp [errW_none, errW_some] <;> rfl) | (simp only [← hji11]; first | rfl | (simp [errW_none, errW_some] <;> rfl)) | (simp [*, errW_none, errW_some] <;> rfl), by repeat (first | (with_reducible first | exact HB.out | apply below_alloc | apply pw_below_drewN | apply below_drew1 | refine below_set ?_ GE139.out) | exact HB.out)⟩
          ·rw [if_neg c13] at H
           exact absurd H (by simp)
         ·rw [if_neg c12] at H
          exact absurd H (by simp)
        ·rw [if_neg c10] at H
         have c10b0 : decide (0 < x14_1) = false := decide_eq_false c10
         clear c10
         have H' := Aside0.mk H
         clear H
         have hcz17_0 : wr.cell? ⟨gb139, 0, none⟩ = some (.int .i64 a0_0) := (blk_cell BK139.out 0).trans rfl
         have hcz17_1 : wr.cell? ⟨gb139, 1, none⟩ = some (.int .i64 a0_1) := (blk_cell BK139.out 1).trans rfl
         have hcz17_2 : wr.cell? ⟨gb139, 2, none⟩ = some (.string a0_2) := (blk_cell BK139.out 2).trans rfl
         have hcz17_3 : wr.cell? ⟨gb139, 3, none⟩ = some (.slice A0_3 l0_3.length c0_3) := (blk_cell BK139.out 3).trans rfl
         have hcz17_4 : wr.cell? ⟨gb139, 4, none⟩ = some (.slice A0_4 l0_4.length c0_4) := (blk_cell BK139.out 4).trans rfl
         have hfz17_0 := blk_frozen BK139.out 0
         have hfz17_1 := blk_frozen BK139.out 1
         have hfz17_2 := blk_frozen BK139.out 2
         have hfz17_3 := blk_frozen BK139.out 3
         have hfz17_4 := blk_frozen BK139.out 4
         have p140 : 0 ≤ (x14_1 : Int) := of_decide_eq_true (by first | (with_reducible assumption) | assumption)
         have q140 : x14_1 < (l0_4.length : Int) := of_decide_eq_true (by first | (with_reducible assumption) | assumption)
         obtain ⟨ad140, e140, hx140_0⟩ := Kd.at_string HR0_4.out x14_1 p140 q140
         cases e140
         replace hx140_0 := (HB.out.cell (World.block_lt_of_cell? w _ hx140_0)).trans hx140_0
         replace p140 := eq_true p140
         replace q140 := eq_true q140
         go_wp2
         repeat (go_quiet (fail); try go_wp2)
         go_roundg k1
         case measure => have := HK1.out; omega
         case rel => exact ⟨(wrap64 (x14_1 + 1)), (by first | rfl | (simp; done) | (simp [*]; done)), (by first | exact H' | (subst_vars; exact H')), ⟨by have := HK1.out; omega⟩, ⟨by (with_reducible repeat (first | refine blk_drewN ?_ _ | refine blk_drew ?_ | refine blk_alloc ?_ _)); exact BK139.out⟩, ⟨by repeat (first | (with_reducible first | exact HB.out | apply below_alloc | apply pw_below_drewN | apply below_drew1 | refine below_set ?_ GE139.out) | exact HB.out)⟩⟩
      ·rw [if_neg c7] at H
       exact absurd H (by simp)
     ·rw [if_neg c6] at H
      exact absurd H (by simp)
    ·rw [if_neg c5] at H
     have c5b0 : decide (x14_1 < (l0_4.length : Int)) = false := decide_eq_false c5
     clear c5
     obtain rfl := Option.some.inj H
     go_wp2
     repeat (go_quiet (fail); try go_wp2)
     go_ret
     exact ⟨by first | rfl | (simp [errW_none, errW_some] <;> rfl) | (simp [*, errW_none, errW_some] <;> rfl), by repeat (first | (with_reducible first | exact HB.out | apply below_alloc | apply pw_below_drewN | apply below_drew1 | refine below_set ?_ GE139.out) | exact HB.out)⟩
 ·rw [if_neg c2] at H
  have c2b0 : ((l0_4.length : Int) == (l0_3.length : Int)) = false := beq_eq_false_iff_ne.mpr c2
  have c2b1 : ((l0_4.length : Int) != (l0_3.length : Int)) = true := bne_iff_ne.mpr c2
  have c2b2 : (l0_4.length == l0_3.length) = false := by first | simpa using c2 | (simp at c2 ⊢; omega)
  obtain rfl := Option.some.inj H
  go_enter Tryz.func64, Tryz.ntmps64
  go_wp2_with (first | ((with_reducible refine gate_dst (N := 1) rfl ?_); refine box_event ?hg (N := 1) ?hd (cs := #[.int .i64 a0_0, .int .i64 a0_1, .string a0_2, .slice A0_3 l0_3.length c0_3, .slice A0_4 l0_4.length c0_4]) (t := 25) ?hr ?_; (case hd => rfl); (case hg => rfl); (case hr => first | (go_simp; done) | (go_simp; rfl)); intro gb139 hg w18 hbox hb; have n0_ := Aside0.mk (below_step (by repeat (first | (with_reducible first | exact HB.out | apply below_alloc | apply pw_below_drewN | apply below_drew1) | exact HB.out)) hb); have n1_ := Aside0.mk (hbox); have n2_ := Aside0.mk ((by rw [hg]; exact (below_size (by repeat (first | (with_reducible first | exact HB.out | apply below_alloc | apply pw_below_drewN | apply below_drew1) | exact HB.out))) : w.heap.size ≤ gb139)); have n3_ := Aside0.mk ((by rw [hg]; exact (below_size (by repeat (first | (with_reducible first | exact HB.out | apply below_alloc | apply pw_below_drewN | apply below_drew1) | exact HB.out))) : w.heap.size ≤ gb139)); clear HB; have HB := n0_; have BK139 := n1_; have GW139 := n2_; have GE139 := n3_; clear n0_ n1_ n2_ n3_; clear hb hbox hg; have hcz19_0 : w18.cell? ⟨gb139, 0, none⟩ = some (.int .i64 a0_0) := (blk_cell BK139.out 0).trans rfl; have hcz19_1 : w18.cell? ⟨gb139, 1, none⟩ = some (.int .i64 a0_1) := (blk_cell BK139.out 1).trans rfl; have hcz19_2 : w18.cell? ⟨gb139, 2, none⟩ = some (.string a0_2) := (blk_cell BK139.out 2).trans rfl; have hcz19_3 : w18.cell? ⟨gb139, 3, none⟩ = some (.slice A0_3 l0_3.length c0_3) := (blk_cell BK139.out 3).trans rfl; have hcz19_4 : w18.cell? ⟨gb139, 4, none⟩ = some (.slice A0_4 l0_4.length c0_4) := (blk_cell BK139.out 4).trans rfl; have hfz19_0 := blk_frozen BK139.out 0; have hfz19_1 := blk_frozen BK139.out 1; have hfz19_2 := blk_frozen BK139.out 2; have hfz19_3 := blk_frozen BK139.out 3; have hfz19_4 := blk_frozen BK139.out 4))
  repeat (go_quiet (first | ((with_reducible refine gate_dst (N := 1) rfl ?_); refine box_event ?hg (N := 1) ?hd (cs := #[.int .i64 a0_0, .int .i64 a0_1, .string a0_2, .slice A0_3 l0_3.length c0_3, .slice A0_4 l0_4.length c0_4]) (t := 25) ?hr ?_; (case hd => rfl); (case hg => rfl); (case hr => first | (go_simp; done) | (go_simp; rfl)); intro gb139 hg w18 hbox hb; have n0_ := Aside0.mk (below_step (by repeat (first | (with_reducible first | exact HB.out | apply below_alloc | apply pw_below_drewN | apply below_drew1) | exact HB.out)) hb); have n1_ := Aside0.mk (hbox); have n2_ := Aside0.mk ((by rw [hg]; exact (below_size (by repeat (first | (with_reducible first | exact HB.out | apply below_alloc | apply pw_below_drewN | apply below_drew1) | exact HB.out))) : w.heap.size ≤ gb139)); have n3_ := Aside0.mk ((by rw [hg]; exact (below_size (by repeat (first | (with_reducible first | exact HB.out | apply below_alloc | apply pw_below_drewN | apply below_drew1) | exact HB.out))) : w.heap.size ≤ gb139)); clear HB; have HB := n0_; have BK139 := n1_; have GW139 := n2_; have GE139 := n3_; clear n0_ n1_ n2_ n3_; clear hb hbox hg; have hcz19_0 : w18.cell? ⟨gb139, 0, none⟩ = some (.int .i64 a0_0) := (blk_cell BK139.out 0).trans rfl; have hcz19_1 : w18.cell? ⟨gb139, 1, none⟩ = some (.int .i64 a0_1) := (blk_cell BK139.out 1).trans rfl; have hcz19_2 : w18.cell? ⟨gb139, 2, none⟩ = some (.string a0_2) := (blk_cell BK139.out 2).trans rfl; have hcz19_3 : w18.cell? ⟨gb139, 3, none⟩ = some (.slice A0_3 l0_3.length c0_3) := (blk_cell BK139.out 3).trans rfl; have hcz19_4 : w18.cell? ⟨gb139, 4, none⟩ = some (.slice A0_4 l0_4.length c0_4) := (blk_cell BK139.out 4).trans rfl; have hfz19_0 := blk_frozen BK139.out 0; have hfz19_1 := blk_frozen BK139.out 1; have hfz19_2 := blk_frozen BK139.out 2; have hfz19_3 := blk_frozen BK139.out 3; have hfz19_4 := blk_frozen BK139.out 4)); try go_wp2_with (first | ((with_reducible refine gate_dst (N := 1) rfl ?_); refine box_event ?hg (N := 1) ?hd (cs := #[.int .i64 a0_0, .int .i64 a0_1, .string a0_2, .slice A0_3 l0_3.length c0_3, .slice A0_4 l0_4.length c0_4]) (t := 25) ?hr ?_; (case hd => rfl); (case hg => rfl); (case hr => first | (go_simp; done) | (go_simp; rfl)); intro gb139 hg w18 hbox hb; have n0_ := Aside0.mk (below_step (by repeat (first | (with_reducible first | exact HB.out | apply below_alloc | apply pw_below_drewN | apply below_drew1) | exact HB.out)) hb); have n1_ := Aside0.mk (hbox); have n2_ := Aside0.mk ((by rw [hg]; exact (below_size (by repeat (first | (with_reducible first | exact HB.out | apply below_alloc | apply pw_below_drewN | apply below_drew1) | exact HB.out))) : w.heap.size ≤ gb139)); have n3_ := Aside0.mk ((by rw [hg]; exact (below_size (by repeat (first | (with_reducible first | exact HB.out | apply below_alloc | apply pw_below_drewN | apply below_drew1) | exact HB.out))) : w.heap.size ≤ gb139)); clear HB; have HB := n0_; have BK139 := n1_; have GW139 := n2_; have GE139 := n3_; clear n0_ n1_ n2_ n3_; clear hb hbox hg; have hcz19_0 : w18.cell? ⟨gb139, 0, none⟩ = some (.int .i64 a0_0) := (blk_cell BK139.out 0).trans rfl; have hcz19_1 : w18.cell? ⟨gb139, 1, none⟩ = some (.int .i64 a0_1) := (blk_cell BK139.out 1).trans rfl; have hcz19_2 : w18.cell? ⟨gb139, 2, none⟩ = some (.string a0_2) := (blk_cell BK139.out 2).trans rfl; have hcz19_3 : w18.cell? ⟨gb139, 3, none⟩ = some (.slice A0_3 l0_3.length c0_3) := (blk_cell BK139.out 3).trans rfl; have hcz19_4 : w18.cell? ⟨gb139, 4, none⟩ = some (.slice A0_4 l0_4.length c0_4) := (blk_cell BK139.out 4).trans rfl; have hfz19_0 := blk_frozen BK139.out 0; have hfz19_1 := blk_frozen BK139.out 1; have hfz19_2 := blk_frozen BK139.out 2; have hfz19_3 := blk_frozen BK139.out 3; have hfz19_4 := blk_frozen BK139.out 4)))
  go_ret
  exact ⟨by first | rfl | (simp [errW_none, errW_some] <;> rfl) | (simp [*, errW_none, errW_some] <;> rfl), by repeat (first | (with_reducible first | exact HB.out | apply below_alloc | apply pw_below_drewN | apply below_drew1 | refine below_set ?_ GE139.out) | exact HB.out)⟩

end
end Go.Proofs.YtegppacnkfeaoaaGreatDoor.G

/- Go functions as Lean functions, each with its contract: written by a program of mine over the kit's print. Conditions: each contract's own. -/
namespace Go.Proofs.YtegppacnkfeaoaaGreatDoor.G
open Go.RowKit Go.Proofs.YtegppacnkfeaoaaGreatDoorW.PrintWords Go.Proofs.YtegppacnkfeaoaaGreatDoorW.PrintLast Go.Proofs.YtegppacnkfeaoaaGreatDoorW.PrintMore
attribute [local go_sem] max2_int min2_int max_two min_two max_three min_three max_four min_four   -- for this text's walks alone
set_option linter.unusedVariables false
set_option linter.unusedSimpArgs false
noncomputable section
variable [Inhabited Bound]

/-! ### bloomeryref11_node: function 44 -/
def bloomeryref11_node.f (k : Nat) (a0_0 : Int) (a0_1 : Int) (a0_2 : ByteArray) (l0_3 : List (S25)) (l0_4 : List ByteArray) : Option (Bool) := if a0_0 = 0 then (if a0_1 = 0 then (if a0_2.toList = ([] : List UInt8) then (if (l0_3.length : Int) = 0 then (some ((l0_4.length : Int) == 0)) else (some false)) else (some false)) else (some false)) else (if a0_0 = 1 then (if a0_1 = 0 then (if a0_2.toList = ([] : List UInt8) then (if (l0_3.length : Int) = 0 then (some ((l0_4.length : Int) == 0)) else (some false)) else (some false)) else (if a0_1 = 1 then (if a0_2.toList = ([] : List UInt8) then (if (l0_3.length : Int) = 0 then (some ((l0_4.length : Int) == 0)) else (some false)) else (some false)) else (some false))) else (if a0_0 = 2 then (if a0_2.toList = ([] : List UInt8) then (if (l0_3.length : Int) = 0 then (some ((l0_4.length : Int) == 0)) else (some false)) else (some false)) else (if a0_0 = 3 then (if a0_1 = 0 then (if (a0_2.size : Int) ≤ 65536 then (if (l0_3.length : Int) = 0 then (some ((l0_4.length : Int) == 0)) else (some false)) else (some false)) else (some false)) else (if a0_0 = 4 then (if a0_1 = 0 then (if a0_2.toList = ([] : List UInt8) then (if (l0_3.length : Int) ≤ 1000 then (some ((l0_4.length : Int) == 0)) else (some false)) else (some false)) else (some false)) else (if a0_0 = 5 then (if a0_1 = 0 then (if a0_2.toList = ([] : List UInt8) then (if (l0_3.length : Int) ≤ 1000 then ((bloomeryref11_keys.f k a0_0 a0_1 a0_2 l0_3 l0_4).bind fun t144 => (some t144)) else (some false)) else (some false)) else (some false)) else (some false))))))
set_option maxHeartbeats 8000000 in
set_option maxRecDepth 100000 in
theorem bloomeryref11_node.calls (k : Nat) (a0_0 : Int) (a0_1 : Int) (a0_2 : ByteArray) (A0_3 : Option Addr) (c0_3 : Nat) (l0_3 : List (S25)) (A0_4 : Option Addr) (c0_4 : Nat) (l0_4 : List ByteArray) (r : Bool) (w : World) (hr0_3 : Kd.C k25 w A0_3 l0_3.length l0_3) (hc0_3 : l0_3.length ≤ c0_3) (hr0_4 : Kd.C Kd.string w A0_4 l0_4.length l0_4) (hc0_4 : l0_4.length ≤ c0_4) (h : bloomeryref11_node.f k a0_0 a0_1 a0_2 l0_3 l0_4 = some r) :
  Calls Tryz.prog 44 #[.agg #[.int .i64 a0_0, .int .i64 a0_1, .string a0_2, .slice A0_3 l0_3.length c0_3, .slice A0_4 l0_4.length c0_4]] w fun e w' => e = .returned (.bool r) ∧ Below w.heap.size w w' := by
 have hu25 := Tryz.underlying25
 have HR0_3 := Aside0.mk hr0_3
 have HC0_3 := Aside0.mk hc0_3
 clear hr0_3 hc0_3
 have HR0_4 := Aside0.mk hr0_4
 have HC0_4 := Aside0.mk hc0_4
 clear hr0_4 hc0_4
 have HB := Aside0.mk (Below.refl w.heap.size w)
 have H : (if a0_0 = 0 then (if a0_1 = 0 then (if a0_2.toList = ([] : List UInt8) then (if (l0_3.length : Int) = 0 then (some ((l0_4.length : Int) == 0)) else (some false)) else (some false)) else (some false)) else (if a0_0 = 1 then (if a0_1 = 0 then (if a0_2.toList = ([] : List UInt8) then (if (l0_3.length : Int) = 0 then (some ((l0_4.length : Int) == 0)) else (some false)) else (some false)) else (if a0_1 = 1 then (if a0_2.toList = ([] : List UInt8) then (if (l0_3.length : Int) = 0 then (some ((l0_4.length : Int) == 0)) else (some false)) else (some false)) else (some false))) else (if a0_0 = 2 then (if a0_2.toList = ([] : List UInt8) then (if (l0_3.length : Int) = 0 then (some ((l0_4.length : Int) == 0)) else (some false)) else (some false)) else (if a0_0 = 3 then (if a0_1 = 0 then (if (a0_2.size : Int) ≤ 65536 then (if (l0_3.length : Int) = 0 then (some ((l0_4.length : Int) == 0)) else (some false)) else (some false)) else (some false)) else (if a0_0 = 4 then (if a0_1 = 0 then (if a0_2.toList = ([] : List UInt8) then (if (l0_3.length : Int) ≤ 1000 then (some ((l0_4.length : Int) == 0)) else (some false)) else (some false)) else (some false)) else (if a0_0 = 5 then (if a0_1 = 0 then (if a0_2.toList = ([] : List UInt8) then (if (l0_3.length : Int) ≤ 1000 then ((bloomeryref11_keys.f k a0_0 a0_1 a0_2 l0_3 l0_4).bind fun t144 => (some t144)) else (some false)) else (some false)) else (some false)) else (some false))))))) = some r := h
 clear h
 by_cases c2 : a0_0 = 0
 ·rw [if_pos c2] at H
  have c2b0 : (a0_0 == 0) = true := beq_iff_eq.mpr c2
  have c2b1 : (a0_0 != 0) = false := bne_eq_false_iff_eq.mpr c2
  clear c2
  by_cases c3 : a0_1 = 0
  ·rw [if_pos c3] at H
   have c3b0 : (a0_1 == 0) = true := beq_iff_eq.mpr c3
   have c3b1 : (a0_1 != 0) = false := bne_eq_false_iff_eq.mpr c3
   clear c3
   by_cases c4 : a0_2.toList = ([] : List UInt8)
   ·rw [if_pos c4] at H
    have c4b0 : (a0_2.toList == ([] : List UInt8)) = true := beq_iff_eq.mpr c4
    have c4b1 : (a0_2.toList != ([] : List UInt8)) = false := bne_eq_false_iff_eq.mpr c4
    clear c4
    by_cases c5 : (l0_3.length : Int) = 0
    ·rw [if_pos c5] at H
     have c5b0 : ((l0_3.length : Int) == 0) = true := beq_iff_eq.mpr c5
     have c5b1 : ((l0_3.length : Int) != 0) = false := bne_eq_false_iff_eq.mpr c5
     clear c5
     obtain rfl := Option.some.inj H
     go_enter Tryz.func44, Tryz.ntmps44
     go_wp2_with (first | ((with_reducible refine gate_dst (N := 1) rfl ?_); (try (refine gate_guard (by rfl) ?_; dsimp only)); refine box_event ?hg (N := 1) ?hd (cs := #[.int .i64 a0_0, .int .i64 a0_1, .string a0_2, .slice A0_3 l0_3.length c0_3, .slice A0_4 l0_4.length c0_4]) (t := 25) ?hr ?_; (case hd => rfl); (case hg => rfl); (case hr => first | (go_simp; done) | (go_simp; rfl)); intro gb143 hg w6 hbox hb; have n0_ := Aside0.mk (below_step (by repeat (first | (with_reducible first | exact HB.out | apply below_alloc | apply pw_below_drewN | apply below_drew1) | exact HB.out)) hb); have n1_ := Aside0.mk (hbox); have n2_ := Aside0.mk ((by rw [hg]; exact (below_size (by repeat (first | (with_reducible first | exact HB.out | apply below_alloc | apply pw_below_drewN | apply below_drew1) | exact HB.out))) : w.heap.size ≤ gb143)); have n3_ := Aside0.mk ((by rw [hg]; exact (below_size (by repeat (first | (with_reducible first | exact HB.out | apply below_alloc | apply pw_below_drewN | apply below_drew1) | exact HB.out))) : w.heap.size ≤ gb143)); clear HB; have HB := n0_; have BK143 := n1_; have GW143 := n2_; have GE143 := n3_; clear n0_ n1_ n2_ n3_; clear hb hbox hg; have hcz7_0 : w6.cell? ⟨gb143, 0, none⟩ = some (.int .i64 a0_0) := (blk_cell BK143.out 0).trans rfl; have hcz7_1 : w6.cell? ⟨gb143, 1, none⟩ = some (.int .i64 a0_1) := (blk_cell BK143.out 1).trans rfl; have hcz7_2 : w6.cell? ⟨gb143, 2, none⟩ = some (.string a0_2) := (blk_cell BK143.out 2).trans rfl; have hcz7_3 : w6.cell? ⟨gb143, 3, none⟩ = some (.slice A0_3 l0_3.length c0_3) := (blk_cell BK143.out 3).trans rfl; have hcz7_4 : w6.cell? ⟨gb143, 4, none⟩ = some (.slice A0_4 l0_4.length c0_4) := (blk_cell BK143.out 4).trans rfl; have hfz7_0 := blk_frozen BK143.out 0; have hfz7_1 := blk_frozen BK143.out 1; have hfz7_2 := blk_frozen BK143.out 2; have hfz7_3 := blk_frozen BK143.out 3; have hfz7_4 := blk_frozen BK143.out 4))
     go_ret
     exact ⟨by first | rfl | (simp [errW_none, errW_some] <;> rfl) | (simp [*, errW_none, errW_some] <;> rfl), by repeat (first | (with_reducible first | exact HB.out | apply below_alloc | apply pw_below_drewN | apply below_drew1 | refine below_set ?_ GE143.out) | exact HB.out)⟩
    ·rw [if_neg c5] at H
     have c5b0 : ((l0_3.length : Int) == 0) = false := beq_eq_false_iff_ne.mpr c5
     have c5b1 : ((l0_3.length : Int) != 0) = true := bne_iff_ne.mpr c5
     have c5b2 : ¬ (l0_3 = []) := fun h_ => c5 (by rw [h_]; rfl)
     obtain rfl := Option.some.inj H
     go_enter Tryz.func44, Tryz.ntmps44
     go_wp2_with (first | ((with_reducible refine gate_dst (N := 1) rfl ?_); (try (refine gate_guard (by rfl) ?_; dsimp only)); refine box_event ?hg (N := 1) ?hd (cs := #[.int .i64 a0_0, .int .i64 a0_1, .string a0_2, .slice A0_3 l0_3.length c0_3, .slice A0_4 l0_4.length c0_4]) (t := 25) ?hr ?_; (case hd => rfl); (case hg => rfl); (case hr => first | (go_simp; done) | (go_simp; rfl)); intro gb143 hg w8 hbox hb; have n0_ := Aside0.mk (below_step (by repeat (first | (with_reducible first | exact HB.out | apply below_alloc | apply pw_below_drewN | apply below_drew1) | exact HB.out)) hb); have n1_ := Aside0.mk (hbox); have n2_ := Aside0.mk ((by rw [hg]; exact (below_size (by repeat (first | (with_reducible first | exact HB.out | apply below_alloc | apply pw_below_drewN | apply below_drew1) | exact HB.out))) : w.heap.size ≤ gb143)); have n3_ := Aside0.mk ((by rw [hg]; exact (below_size (by repeat (first | (with_reducible first | exact HB.out | apply below_alloc | apply pw_below_drewN | apply below_drew1) | exact HB.out))) : w.heap.size ≤ gb143)); clear HB; have HB := n0_; have BK143 := n1_; have GW143 := n2_; have GE143 := n3_; clear n0_ n1_ n2_ n3_; clear hb hbox hg; have hcz9_0 : w8.cell? ⟨gb143, 0, none⟩ = some (.int .i64 a0_0) := (blk_cell BK143.out 0).trans rfl; have hcz9_1 : w8.cell? ⟨gb143, 1, none⟩ = some (.int .i64 a0_1) := (blk_cell BK143.out 1).trans rfl; have hcz9_2 : w8.cell? ⟨gb143, 2, none⟩ = some (.string a0_2) := (blk_cell BK143.out 2).trans rfl; have hcz9_3 : w8.cell? ⟨gb143, 3, none⟩ = some (.slice A0_3 l0_3.length c0_3) := (blk_cell BK143.out 3).trans rfl; have hcz9_4 : w8.cell? ⟨gb143, 4, none⟩ = some (.slice A0_4 l0_4.length c0_4) := (blk_cell BK143.out 4).trans rfl; have hfz9_0 := blk_frozen BK143.out 0; have hfz9_1 := blk_frozen BK143.out 1; have hfz9_2 := blk_frozen BK143.out 2; have hfz9_3 := blk_frozen BK143.out 3; have hfz9_4 := blk_frozen BK143.out 4))
     go_ret
     exact ⟨by first | rfl | (simp [errW_none, errW_some] <;> rfl) | (simp [*, errW_none, errW_some] <;> rfl), by repeat (first | (with_reducible first | exact HB.out | apply below_alloc | apply pw_below_drewN | apply below_drew1 | refine below_set ?_ GE143.out) | exact HB.out)⟩
   ·rw [if_neg c4] at H
    have c4b0 : (a0_2.toList == ([] : List UInt8)) = false := beq_eq_false_iff_ne.mpr c4
    have c4b1 : (a0_2.toList != ([] : List UInt8)) = true := bne_iff_ne.mpr c4
    obtain rfl := Option.some.inj H
    go_enter Tryz.func44, Tryz.ntmps44
    go_wp2_with (first | ((with_reducible refine gate_dst (N := 1) rfl ?_); (try (refine gate_guard (by rfl) ?_; dsimp only)); refine box_event ?hg (N := 1) ?hd (cs := #[.int .i64 a0_0, .int .i64 a0_1, .string a0_2, .slice A0_3 l0_3.length c0_3, .slice A0_4 l0_4.length c0_4]) (t := 25) ?hr ?_; (case hd => rfl); (case hg => rfl); (case hr => first | (go_simp; done) | (go_simp; rfl)); intro gb143 hg w10 hbox hb; have n0_ := Aside0.mk (below_step (by repeat (first | (with_reducible first | exact HB.out | apply below_alloc | apply pw_below_drewN | apply below_drew1) | exact HB.out)) hb); have n1_ := Aside0.mk (hbox); have n2_ := Aside0.mk ((by rw [hg]; exact (below_size (by repeat (first | (with_reducible first | exact HB.out | apply below_alloc | apply pw_below_drewN | apply below_drew1) | exact HB.out))) : w.heap.size ≤ gb143)); have n3_ := Aside0.mk ((by rw [hg]; exact (below_size (by repeat (first | (with_reducible first | exact HB.out | apply below_alloc | apply pw_below_drewN | apply below_drew1) | exact HB.out))) : w.heap.size ≤ gb143)); clear HB; have HB := n0_; have BK143 := n1_; have GW143 := n2_; have GE143 := n3_; clear n0_ n1_ n2_ n3_; clear hb hbox hg; have hcz11_0 : w10.cell? ⟨gb143, 0, none⟩ = some (.int .i64 a0_0) := (blk_cell BK143.out 0).trans rfl; have hcz11_1 : w10.cell? ⟨gb143, 1, none⟩ = some (.int .i64 a0_1) := (blk_cell BK143.out 1).trans rfl; have hcz11_2 : w10.cell? ⟨gb143, 2, none⟩ = some (.string a0_2) := (blk_cell BK143.out 2).trans rfl; have hcz11_3 : w10.cell? ⟨gb143, 3, none⟩ = some (.slice A0_3 l0_3.length c0_3) := (blk_cell BK143.out 3).trans rfl; have hcz11_4 : w10.cell? ⟨gb143, 4, none⟩ = some (.slice A0_4 l0_4.length c0_4) := (blk_cell BK143.out 4).trans rfl; have hfz11_0 := blk_frozen BK143.out 0; have hfz11_1 := blk_frozen BK143.out 1; have hfz11_2 := blk_frozen BK143.out 2; have hfz11_3 := blk_frozen BK143.out 3; have hfz11_4 := blk_frozen BK143.out 4))
    go_ret
    exact ⟨by first | rfl | (simp [errW_none, errW_some] <;> rfl) | (simp [*, errW_none, errW_some] <;> rfl), by repeat (first | (with_reducible first | exact HB.out | apply below_alloc | apply pw_below_drewN | apply below_drew1 | refine below_set ?_ GE143.out) | exact HB.out)⟩
  ·rw [if_neg c3] at H
   have c3b0 : (a0_1 == 0) = false := beq_eq_false_iff_ne.mpr c3
   have c3b1 : (a0_1 != 0) = true := bne_iff_ne.mpr c3
   obtain rfl := Option.some.inj H
   go_enter Tryz.func44, Tryz.ntmps44
   go_wp2_with (first | ((with_reducible refine gate_dst (N := 1) rfl ?_); (try (refine gate_guard (by rfl) ?_; dsimp only)); refine box_event ?hg (N := 1) ?hd (cs := #[.int .i64 a0_0, .int .i64 a0_1, .string a0_2, .slice A0_3 l0_3.length c0_3, .slice A0_4 l0_4.length c0_4]) (t := 25) ?hr ?_; (case hd => rfl); (case hg => rfl); (case hr => first | (go_simp; done) | (go_simp; rfl)); intro gb143 hg w12 hbox hb; have n0_ := Aside0.mk (below_step (by repeat (first | (with_reducible first | exact HB.out | apply below_alloc | apply pw_below_drewN | apply below_drew1) | exact HB.out)) hb); have n1_ := Aside0.mk (hbox); have n2_ := Aside0.mk ((by rw [hg]; exact (below_size (by repeat (first | (with_reducible first | exact HB.out | apply below_alloc | apply pw_below_drewN | apply below_drew1) | exact HB.out))) : w.heap.size ≤ gb143)); have n3_ := Aside0.mk ((by rw [hg]; exact (below_size (by repeat (first | (with_reducible first | exact HB.out | apply below_alloc | apply pw_below_drewN | apply below_drew1) | exact HB.out))) : w.heap.size ≤ gb143)); clear HB; have HB := n0_; have BK143 := n1_; have GW143 := n2_; have GE143 := n3_; clear n0_ n1_ n2_ n3_; clear hb hbox hg; have hcz13_0 : w12.cell? ⟨gb143, 0, none⟩ = some (.int .i64 a0_0) := (blk_cell BK143.out 0).trans rfl; have hcz13_1 : w12.cell? ⟨gb143, 1, none⟩ = some (.int .i64 a0_1) := (blk_cell BK143.out 1).trans rfl; have hcz13_2 : w12.cell? ⟨gb143, 2, none⟩ = some (.string a0_2) := (blk_cell BK143.out 2).trans rfl; have hcz13_3 : w12.cell? ⟨gb143, 3, none⟩ = some (.slice A0_3 l0_3.length c0_3) := (blk_cell BK143.out 3).trans rfl; have hcz13_4 : w12.cell? ⟨gb143, 4, none⟩ = some (.slice A0_4 l0_4.length c0_4) := (blk_cell BK143.out 4).trans rfl; have hfz13_0 := blk_frozen BK143.out 0; have hfz13_1 := blk_frozen BK143.out 1; have hfz13_2 := blk_frozen BK143.out 2; have hfz13_3 := blk_frozen BK143.out 3; have hfz13_4 := blk_frozen BK143.out 4))
   go_ret
   exact ⟨by first | rfl | (simp [errW_none, errW_some] <;> rfl) | (simp [*, errW_none, errW_some] <;> rfl), by repeat (first | (with_reducible first | exact HB.out | apply below_alloc | apply pw_below_drewN | apply below_drew1 | refine below_set ?_ GE143.out) | exact HB.out)⟩
 ·rw [if_neg c2] at H
  have c2b0 : (a0_0 == 0) = false := beq_eq_false_iff_ne.mpr c2
  have c2b1 : (a0_0 != 0) = true := bne_iff_ne.mpr c2
  by_cases c14 : a0_0 = 1
  ·rw [if_pos c14] at H
   have c14b0 : (a0_0 == 1) = true := beq_iff_eq.mpr c14
   have c14b1 : (a0_0 != 1) = false := bne_eq_false_iff_eq.mpr c14
   clear c14
   by_cases c15 : a0_1 = 0
   ·rw [if_pos c15] at H
    have c15b0 : (a0_1 == 0) = true := beq_iff_eq.mpr c15
    have c15b1 : (a0_1 != 0) = false := bne_eq_false_iff_eq.mpr c15
    clear c15
    by_cases c16 : a0_2.toList = ([] : List UInt8)
    ·rw [if_pos c16] at H
     have c16b0 : (a0_2.toList == ([] : List UInt8)) = true := beq_iff_eq.mpr c16
     have c16b1 : (a0_2.toList != ([] : List UInt8)) = false := bne_eq_false_iff_eq.mpr c16
     clear c16
     by_cases c17 : (l0_3.length : Int) = 0
     ·rw [if_pos c17] at H
      have c17b0 : ((l0_3.length : Int) == 0) = true := beq_iff_eq.mpr c17
      have c17b1 : ((l0_3.length : Int) != 0) = false := bne_eq_false_iff_eq.mpr c17
      clear c17
      obtain rfl := Option.some.inj H
      go_enter Tryz.func44, Tryz.ntmps44
      go_wp2_with (first | ((with_reducible refine gate_dst (N := 1) rfl ?_); (try (refine gate_guard (by rfl) ?_; dsimp only)); refine box_event ?hg (N := 1) ?hd (cs := #[.int .i64 a0_0, .int .i64 a0_1, .string a0_2, .slice A0_3 l0_3.length c0_3, .slice A0_4 l0_4.length c0_4]) (t := 25) ?hr ?_; (case hd => rfl); (case hg => rfl); (case hr => first | (go_simp; done) | (go_simp; rfl)); intro gb143 hg w18 hbox hb; have n0_ := Aside0.mk (below_step (by repeat (first | (with_reducible first | exact HB.out | apply below_alloc | apply pw_below_drewN | apply below_drew1) | exact HB.out)) hb); have n1_ := Aside0.mk (hbox); have n2_ := Aside0.mk ((by rw [hg]; exact (below_size (by repeat (first | (with_reducible first | exact HB.out | apply below_alloc | apply pw_below_drewN | apply below_drew1) | exact HB.out))) : w.heap.size ≤ gb143)); have n3_ := Aside0.mk ((by rw [hg]; exact (below_size (by repeat (first | (with_reducible first | exact HB.out | apply below_alloc | apply pw_below_drewN | apply below_drew1) | exact HB.out))) : w.heap.size ≤ gb143)); clear HB; have HB := n0_; have BK143 := n1_; have GW143 := n2_; have GE143 := n3_; clear n0_ n1_ n2_ n3_; clear hb hbox hg; have hcz19_0 : w18.cell? ⟨gb143, 0, none⟩ = some (.int .i64 a0_0) := (blk_cell BK143.out 0).trans rfl; have hcz19_1 : w18.cell? ⟨gb143, 1, none⟩ = some (.int .i64 a0_1) := (blk_cell BK143.out 1).trans rfl; have hcz19_2 : w18.cell? ⟨gb143, 2, none⟩ = some (.string a0_2) := (blk_cell BK143.out 2).trans rfl; have hcz19_3 : w18.cell? ⟨gb143, 3, none⟩ = some (.slice A0_3 l0_3.length c0_3) := (blk_cell BK143.out 3).trans rfl; have hcz19_4 : w18.cell? ⟨gb143, 4, none⟩ = some (.slice A0_4 l0_4.length c0_4) := (blk_cell BK143.out 4).trans rfl; have hfz19_0 := blk_frozen BK143.out 0; have hfz19_1 := blk_frozen BK143.out 1; have hfz19_2 := blk_frozen BK143.out 2; have hfz19_3 := blk_frozen BK143.out 3; have hfz19_4 := blk_frozen BK143.out 4))
      go_ret
      exact ⟨by first | rfl | (simp [errW_none, errW_some] <;> rfl) | (simp [*, errW_none, errW_some] <;> rfl), by repeat (first | (with_reducible first | exact HB.out | apply below_alloc | apply pw_below_drewN | apply below_drew1 | refine below_set ?_ GE143.out) | exact HB.out)⟩
     ·rw [if_neg c17] at H
      have c17b0 : ((l0_3.length : Int) == 0) = false := beq_eq_false_iff_ne.mpr c17
      have c17b1 : ((l0_3.length : Int) != 0) = true := bne_iff_ne.mpr c17
      have c17b2 : ¬ (l0_3 = []) := fun h_ => c17 (by rw [h_]; rfl)
      obtain rfl := Option.some.inj H
      go_enter Tryz.func44, Tryz.ntmps44
      go_wp2_with (first | ((with_reducible refine gate_dst (N := 1) rfl ?_); (try (refine gate_guard (by rfl) ?_; dsimp only)); refine box_event ?hg (N := 1) ?hd (cs := #[.int .i64 a0_0, .int .i64 a0_1, .string a0_2, .slice A0_3 l0_3.length c0_3, .slice A0_4 l0_4.length c0_4]) (t := 25) ?hr ?_; (case hd => rfl); (case hg => rfl); (case hr => first | (go_simp; done) | (go_simp; rfl)); intro gb143 hg w20 hbox hb; have n0_ := Aside0.mk (below_step (by repeat (first | (with_reducible first | exact HB.out | apply below_alloc | apply pw_below_drewN | apply below_drew1) | exact HB.out)) hb); have n1_ := Aside0.mk (hbox); have n2_ := Aside0.mk ((by rw [hg]; exact (below_size (by repeat (first | (with_reducible first | exact HB.out | apply below_alloc | apply pw_below_drewN | apply below_drew1) | exact HB.out))) : w.heap.size ≤ gb143)); have n3_ := Aside0.mk ((by rw [hg]; exact (below_size (by repeat (first | (with_reducible first | exact HB.out | apply below_alloc | apply pw_below_drewN | apply below_drew1) | exact HB.out))) : w.heap.size ≤ gb143)); clear HB; have HB := n0_; have BK143 := n1_; have GW143 := n2_; have GE143 := n3_; clear n0_ n1_ n2_ n3_; clear hb hbox hg; have hcz21_0 : w20.cell? ⟨gb143, 0, none⟩ = some (.int .i64 a0_0) := (blk_cell BK143.out 0).trans rfl; have hcz21_1 : w20.cell? ⟨gb143, 1, none⟩ = some (.int .i64 a0_1) := (blk_cell BK143.out 1).trans rfl; have hcz21_2 : w20.cell? ⟨gb143, 2, none⟩ = some (.string a0_2) := (blk_cell BK143.out 2).trans rfl; have hcz21_3 : w20.cell? ⟨gb143, 3, none⟩ = some (.slice A0_3 l0_3.length c0_3) := (blk_cell BK143.out 3).trans rfl; have hcz21_4 : w20.cell? ⟨gb143, 4, none⟩ = some (.slice A0_4 l0_4.length c0_4) := (blk_cell BK143.out 4).trans rfl; have hfz21_0 := blk_frozen BK143.out 0; have hfz21_1 := blk_frozen BK143.out 1; have hfz21_2 := blk_frozen BK143.out 2; have hfz21_3 := blk_frozen BK143.out 3; have hfz21_4 := blk_frozen BK143.out 4))
      go_ret
      exact ⟨by first | rfl | (simp [errW_none, errW_some] <;> rfl) | (simp [*, errW_none, errW_some] <;> rfl), by repeat (first | (with_reducible first | exact HB.out | apply below_alloc | apply pw_below_drewN | apply below_drew1 | refine below_set ?_ GE143.out) | exact HB.out)⟩
    ·rw [if_neg c16] at H
     have c16b0 : (a0_2.toList == ([] : List UInt8)) = false := beq_eq_false_iff_ne.mpr c16
     have c16b1 : (a0_2.toList != ([] : List UInt8)) = true := bne_iff_ne.mpr c16
     obtain rfl := Option.some.inj H
     go_enter Tryz.func44, Tryz.ntmps44
     go_wp2_with (first | ((with_reducible refine gate_dst (N := 1) rfl ?_); (try (refine gate_guard (by rfl) ?_; dsimp only)); refine box_event ?hg (N := 1) ?hd (cs := #[.int .i64 a0_0, .int .i64 a0_1, .string a0_2, .slice A0_3 l0_3.length c0_3, .slice A0_4 l0_4.length c0_4]) (t := 25) ?hr ?_; (case hd => rfl); (case hg => rfl); (case hr => first | (go_simp; done) | (go_simp; rfl)); intro gb143 hg w22 hbox hb; have n0_ := Aside0.mk (below_step (by repeat (first | (with_reducible first | exact HB.out | apply below_alloc | apply pw_below_drewN | apply below_drew1) | exact HB.out)) hb); have n1_ := Aside0.mk (hbox); have n2_ := Aside0.mk ((by rw [hg]; exact (below_size (by repeat (first | (with_reducible first | exact HB.out | apply below_alloc | apply pw_below_drewN | apply below_drew1) | exact HB.out))) : w.heap.size ≤ gb143)); have n3_ := Aside0.mk ((by rw [hg]; exact (below_size (by repeat (first | (with_reducible first | exact HB.out | apply below_alloc | apply pw_below_drewN | apply below_drew1) | exact HB.out))) : w.heap.size ≤ gb143)); clear HB; have HB := n0_; have BK143 := n1_; have GW143 := n2_; have GE143 := n3_; clear n0_ n1_ n2_ n3_; clear hb hbox hg; have hcz23_0 : w22.cell? ⟨gb143, 0, none⟩ = some (.int .i64 a0_0) := (blk_cell BK143.out 0).trans rfl; have hcz23_1 : w22.cell? ⟨gb143, 1, none⟩ = some (.int .i64 a0_1) := (blk_cell BK143.out 1).trans rfl; have hcz23_2 : w22.cell? ⟨gb143, 2, none⟩ = some (.string a0_2) := (blk_cell BK143.out 2).trans rfl; have hcz23_3 : w22.cell? ⟨gb143, 3, none⟩ = some (.slice A0_3 l0_3.length c0_3) := (blk_cell BK143.out 3).trans rfl; have hcz23_4 : w22.cell? ⟨gb143, 4, none⟩ = some (.slice A0_4 l0_4.length c0_4) := (blk_cell BK143.out 4).trans rfl; have hfz23_0 := blk_frozen BK143.out 0; have hfz23_1 := blk_frozen BK143.out 1; have hfz23_2 := blk_frozen BK143.out 2; have hfz23_3 := blk_frozen BK143.out 3; have hfz23_4 := blk_frozen BK143.out 4))
     go_ret
     exact ⟨by first | rfl | (simp [errW_none, errW_some] <;> rfl) | (simp [*, errW_none, errW_some] <;> rfl), by repeat (first | (with_reducible first | exact HB.out | apply below_alloc | apply pw_below_drewN | apply below_drew1 | refine below_set ?_ GE143.out) | exact HB.out)⟩
   ·rw [if_neg c15] at H
    have c15b0 : (a0_1 == 0) = false := beq_eq_false_iff_ne.mpr c15
    have c15b1 : (a0_1 != 0) = true := bne_iff_ne.mpr c15
    by_cases c24 : a0_1 = 1
    ·rw [if_pos c24] at H
     have c24b0 : (a0_1 == 1) = true := beq_iff_eq.mpr c24
     have c24b1 : (a0_1 != 1) = false := bne_eq_false_iff_eq.mpr c24
     clear c24
     by_cases c25 : a0_2.toList = ([] : List UInt8)
     ·rw [if_pos c25] at H
      have c25b0 : (a0_2.toList == ([] : List UInt8)) = true := beq_iff_eq.mpr c25
      have c25b1 : (a0_2.toList != ([] : List UInt8)) = false := bne_eq_false_iff_eq.mpr c25
      clear c25
      by_cases c26 : (l0_3.length : Int) = 0
      ·rw [if_pos c26] at H
       have c26b0 : ((l0_3.length : Int) == 0) = true := beq_iff_eq.mpr c26
       have c26b1 : ((l0_3.length : Int) != 0) = false := bne_eq_false_iff_eq.mpr c26
       clear c26
       obtain rfl := Option.some.inj H
       go_enter Tryz.func44, Tryz.ntmps44
       go_wp2_with (first | ((with_reducible refine gate_dst (N := 1) rfl ?_); (try (refine gate_guard (by rfl) ?_; dsimp only)); refine box_event ?hg (N := 1) ?hd (cs := #[.int .i64 a0_0, .int .i64 a0_1, .string a0_2, .slice A0_3 l0_3.length c0_3, .slice A0_4 l0_4.length c0_4]) (t := 25) ?hr ?_; (case hd => rfl); (case hg => rfl); (case hr => first | (go_simp; done) | (go_simp; rfl)); intro gb143 hg w27 hbox hb; have n0_ := Aside0.mk (below_step (by repeat (first | (with_reducible first | exact HB.out | apply below_alloc | apply pw_below_drewN | apply below_drew1) | exact HB.out)) hb); have n1_ := Aside0.mk (hbox); have n2_ := Aside0.mk ((by rw [hg]; exact (below_size (by repeat (first | (with_reducible first | exact HB.out | apply below_alloc | apply pw_below_drewN | apply below_drew1) | exact HB.out))) : w.heap.size ≤ gb143)); have n3_ := Aside0.mk ((by rw [hg]; exact (below_size (by repeat (first | (with_reducible first | exact HB.out | apply below_alloc | apply pw_below_drewN | apply below_drew1) | exact HB.out))) : w.heap.size ≤ gb143)); clear HB; have HB := n0_; have BK143 := n1_; have GW143 := n2_; have GE143 := n3_; clear n0_ n1_ n2_ n3_; clear hb hbox hg; have hcz28_0 : w27.cell? ⟨gb143, 0, none⟩ = some (.int .i64 a0_0) := (blk_cell BK143.out 0).trans rfl; have hcz28_1 : w27.cell? ⟨gb143, 1, none⟩ = some (.int .i64 a0_1) := (blk_cell BK143.out 1).trans rfl; have hcz28_2 : w27.cell? ⟨gb143, 2, none⟩ = some (.string a0_2) := (blk_cell BK143.out 2).trans rfl; have hcz28_3 : w27.cell? ⟨gb143, 3, none⟩ = some (.slice A0_3 l0_3.length c0_3) := (blk_cell BK143.out 3).trans rfl; have hcz28_4 : w27.cell? ⟨gb143, 4, none⟩ = some (.slice A0_4 l0_4.length c0_4) := (blk_cell BK143.out 4).trans rfl; have hfz28_0 := blk_frozen BK143.out 0; have hfz28_1 := blk_frozen BK143.out 1; have hfz28_2 := blk_frozen BK143.out 2; have hfz28_3 := blk_frozen BK143.out 3; have hfz28_4 := blk_frozen BK143.out 4))
       go_ret
       exact ⟨by first | rfl | (simp [errW_none, errW_some] <;> rfl) | (simp [*, errW_none, errW_some] <;> rfl), by repeat (first | (with_reducible first | exact HB.out | apply below_alloc | apply pw_below_drewN | apply below_drew1 | refine below_set ?_ GE143.out) | exact HB.out)⟩
      ·rw [if_neg c26] at H
       have c26b0 : ((l0_3.length : Int) == 0) = false := beq_eq_false_iff_ne.mpr c26
       have c26b1 : ((l0_3.length : Int) != 0) = true := bne_iff_ne.mpr c26
       have c26b2 : ¬ (l0_3 = []) := fun h_ => c26 (by rw [h_]; rfl)
       obtain rfl := Option.some.inj H
       go_enter Tryz.func44, Tryz.ntmps44
       go_wp2_with (first | ((with_reducible refine gate_dst (N := 1) rfl ?_); (try (refine gate_guard (by rfl) ?_; dsimp only)); refine box_event ?hg (N := 1) ?hd (cs := #[.int .i64 a0_0, .int .i64 a0_1, .string a0_2, .slice A0_3 l0_3.length c0_3, .slice A0_4 l0_4.length c0_4]) (t := 25) ?hr ?_; (case hd => rfl); (case hg => rfl); (case hr => first | (go_simp; done) | (go_simp; rfl)); intro gb143 hg w29 hbox hb; have n0_ := Aside0.mk (below_step (by repeat (first | (with_reducible first | exact HB.out | apply below_alloc | apply pw_below_drewN | apply below_drew1) | exact HB.out)) hb); have n1_ := Aside0.mk (hbox); have n2_ := Aside0.mk ((by rw [hg]; exact (below_size (by repeat (first | (with_reducible first | exact HB.out | apply below_alloc | apply pw_below_drewN | apply below_drew1) | exact HB.out))) : w.heap.size ≤ gb143)); have n3_ := Aside0.mk ((by rw [hg]; exact (below_size (by repeat (first | (with_reducible first | exact HB.out | apply below_alloc | apply pw_below_drewN | apply below_drew1) | exact HB.out))) : w.heap.size ≤ gb143)); clear HB; have HB := n0_; have BK143 := n1_; have GW143 := n2_; have GE143 := n3_; clear n0_ n1_ n2_ n3_; clear hb hbox hg; have hcz30_0 : w29.cell? ⟨gb143, 0, none⟩ = some (.int .i64 a0_0) := (blk_cell BK143.out 0).trans rfl; have hcz30_1 : w29.cell? ⟨gb143, 1, none⟩ = some (.int .i64 a0_1) := (blk_cell BK143.out 1).trans rfl; have hcz30_2 : w29.cell? ⟨gb143, 2, none⟩ = some (.string a0_2) := (blk_cell BK143.out 2).trans rfl; have hcz30_3 : w29.cell? ⟨gb143, 3, none⟩ = some (.slice A0_3 l0_3.length c0_3) := (blk_cell BK143.out 3).trans rfl; have hcz30_4 : w29.cell? ⟨gb143, 4, none⟩ = some (.slice A0_4 l0_4.length c0_4) := (blk_cell BK143.out 4).trans rfl; have hfz30_0 := blk_frozen BK143.out 0; have hfz30_1 := blk_frozen BK143.out 1; have hfz30_2 := blk_frozen BK143.out 2; have hfz30_3 := blk_frozen BK143.out 3; have hfz30_4 := blk_frozen BK143.out 4))
       go_ret
       exact ⟨by first | rfl | (simp [errW_none, errW_some] <;> rfl) | (simp [*, errW_none, errW_some] <;> rfl), by repeat (first | (with_reducible first | exact HB.out | apply below_alloc | apply pw_below_drewN | apply below_drew1 | refine below_set ?_ GE143.out) | exact HB.out)⟩
     ·rw [if_neg c25] at H
      have c25b0 : (a0_2.toList == ([] : List UInt8)) = false := beq_eq_false_iff_ne.mpr c25
      have c25b1 : (a0_2.toList != ([] : List UInt8)) = true := bne_iff_ne.mpr c25
      obtain rfl := Option.some.inj H
      go_enter Tryz.func44, Tryz.ntmps44
      go_wp2_with (first | ((with_reducible refine gate_dst (N := 1) rfl ?_); (try (refine gate_guard (by rfl) ?_; dsimp only)); refine box_event ?hg (N := 1) ?hd (cs := #[.int .i64 a0_0, .int .i64 a0_1, .string a0_2, .slice A0_3 l0_3.length c0_3, .slice A0_4 l0_4.length c0_4]) (t := 25) ?hr ?_; (case hd => rfl); (case hg => rfl); (case hr => first | (go_simp; done) | (go_simp; rfl)); intro gb143 hg w31 hbox hb; have n0_ := Aside0.mk (below_step (by repeat (first | (with_reducible first | exact HB.out | apply below_alloc | apply pw_below_drewN | apply below_drew1) | exact HB.out)) hb); have n1_ := Aside0.mk (hbox); have n2_ := Aside0.mk ((by rw [hg]; exact (below_size (by repeat (first | (with_reducible first | exact HB.out | apply below_alloc | apply pw_below_drewN | apply below_drew1) | exact HB.out))) : w.heap.size ≤ gb143)); have n3_ := Aside0.mk ((by rw [hg]; exact (below_size (by repeat (first | (with_reducible first | exact HB.out | apply below_alloc | apply pw_below_drewN | apply below_drew1) | exact HB.out))) : w.heap.size ≤ gb143)); clear HB; have HB := n0_; have BK143 := n1_; have GW143 := n2_; have GE143 := n3_; clear n0_ n1_ n2_ n3_; clear hb hbox hg; have hcz32_0 : w31.cell? ⟨gb143, 0, none⟩ = some (.int .i64 a0_0) := (blk_cell BK143.out 0).trans rfl; have hcz32_1 : w31.cell? ⟨gb143, 1, none⟩ = some (.int .i64 a0_1) := (blk_cell BK143.out 1).trans rfl; have hcz32_2 : w31.cell? ⟨gb143, 2, none⟩ = some (.string a0_2) := (blk_cell BK143.out 2).trans rfl; have hcz32_3 : w31.cell? ⟨gb143, 3, none⟩ = some (.slice A0_3 l0_3.length c0_3) := (blk_cell BK143.out 3).trans rfl; have hcz32_4 : w31.cell? ⟨gb143, 4, none⟩ = some (.slice A0_4 l0_4.length c0_4) := (blk_cell BK143.out 4).trans rfl; have hfz32_0 := blk_frozen BK143.out 0; have hfz32_1 := blk_frozen BK143.out 1; have hfz32_2 := blk_frozen BK143.out 2; have hfz32_3 := blk_frozen BK143.out 3; have hfz32_4 := blk_frozen BK143.out 4))
      go_ret
      exact ⟨by first | rfl | (simp [errW_none, errW_some] <;> rfl) | (simp [*, errW_none, errW_some] <;> rfl), by repeat (first | (with_reducible first | exact HB.out | apply below_alloc | apply pw_below_drewN | apply below_drew1 | refine below_set ?_ GE143.out) | exact HB.out)⟩
    ·rw [if_neg c24] at H
     have c24b0 : (a0_1 == 1) = false := beq_eq_false_iff_ne.mpr c24
     have c24b1 : (a0_1 != 1) = true := bne_iff_ne.mpr c24
     obtain rfl := Option.some.inj H
     go_enter Tryz.func44, Tryz.ntmps44
     go_wp2_with (first | ((with_reducible refine gate_dst (N := 1) rfl ?_); (try (refine gate_guard (by rfl) ?_; dsimp only)); refine box_event ?hg (N := 1) ?hd (cs := #[.int .i64 a0_0, .int .i64 a0_1, .string a0_2, .slice A0_3 l0_3.length c0_3, .slice A0_4 l0_4.length c0_4]) (t := 25) ?hr ?_; (case hd => rfl); (case hg => rfl); (case hr => first | (go_simp; done) | (go_simp; rfl)); intro gb143 hg w33 hbox hb; have n0_ := Aside0.mk (below_step (by repeat (first | (with_reducible first | exact HB.out | apply below_alloc | apply pw_below_drewN | apply below_drew1) | exact HB.out)) hb); have n1_ := Aside0.mk (hbox); have n2_ := Aside0.mk ((by rw [hg]; exact (below_size (by repeat (first | (with_reducible first | exact HB.out | apply below_alloc | apply pw_below_drewN | apply below_drew1) | exact HB.out))) : w.heap.size ≤ gb143)); have n3_ := Aside0.mk ((by rw [hg]; exact (below_size (by repeat (first | (with_reducible first | exact HB.out | apply below_alloc | apply pw_below_drewN | apply below_drew1) | exact HB.out))) : w.heap.size ≤ gb143)); clear HB; have HB := n0_; have BK143 := n1_; have GW143 := n2_; have GE143 := n3_; clear n0_ n1_ n2_ n3_; clear hb hbox hg; have hcz34_0 : w33.cell? ⟨gb143, 0, none⟩ = some (.int .i64 a0_0) := (blk_cell BK143.out 0).trans rfl; have hcz34_1 : w33.cell? ⟨gb143, 1, none⟩ = some (.int .i64 a0_1) := (blk_cell BK143.out 1).trans rfl; have hcz34_2 : w33.cell? ⟨gb143, 2, none⟩ = some (.string a0_2) := (blk_cell BK143.out 2).trans rfl; have hcz34_3 : w33.cell? ⟨gb143, 3, none⟩ = some (.slice A0_3 l0_3.length c0_3) := (blk_cell BK143.out 3).trans rfl; have hcz34_4 : w33.cell? ⟨gb143, 4, none⟩ = some (.slice A0_4 l0_4.length c0_4) := (blk_cell BK143.out 4).trans rfl; have hfz34_0 := blk_frozen BK143.out 0; have hfz34_1 := blk_frozen BK143.out 1; have hfz34_2 := blk_frozen BK143.out 2; have hfz34_3 := blk_frozen BK143.out 3; have hfz34_4 := blk_frozen BK143.out 4))
     go_ret
     exact ⟨by first | rfl | (simp [errW_none, errW_some] <;> rfl) | (simp [*, errW_none, errW_some] <;> rfl), by repeat (first | (with_reducible first | exact HB.out | apply below_alloc | apply pw_below_drewN | apply below_drew1 | refine below_set ?_ GE143.out) | exact HB.out)⟩
  ·rw [if_neg c14] at H
   have c14b0 : (a0_0 == 1) = false := beq_eq_false_iff_ne.mpr c14
   have c14b1 : (a0_0 != 1) = true := bne_iff_ne.mpr c14
   by_cases c35 : a0_0 = 2
   ·rw [if_pos c35] at H
    have c35b0 : (a0_0 == 2) = true := beq_iff_eq.mpr c35
    have c35b1 : (a0_0 != 2) = false := bne_eq_false_iff_eq.mpr c35
    clear c35
    by_cases c36 : a0_2.toList = ([] : List UInt8)
    ·rw [if_pos c36] at H
     have c36b0 : (a0_2.toList == ([] : List UInt8)) = true := beq_iff_eq.mpr c36
     have c36b1 : (a0_2.toList != ([] : List UInt8)) = false := bne_eq_false_iff_eq.mpr c36
     clear c36
     by_cases c37 : (l0_3.length : Int) = 0
     ·rw [if_pos c37] at H
      have c37b0 : ((l0_3.length : Int) == 0) = true := beq_iff_eq.mpr c37
      have c37b1 : ((l0_3.length : Int) != 0) = false := bne_eq_false_iff_eq.mpr c37
      clear c37
      obtain rfl := Option.some.inj H
      go_enter Tryz.func44, Tryz.ntmps44
      go_wp2_with (first | ((with_reducible refine gate_dst (N := 1) rfl ?_); (try (refine gate_guard (by rfl) ?_; dsimp only)); refine box_event ?hg (N := 1) ?hd (cs := #[.int .i64 a0_0, .int .i64 a0_1, .string a0_2, .slice A0_3 l0_3.length c0_3, .slice A0_4 l0_4.length c0_4]) (t := 25) ?hr ?_; (case hd => rfl); (case hg => rfl); (case hr => first | (go_simp; done) | (go_simp; rfl)); intro gb143 hg w38 hbox hb; have n0_ := Aside0.mk (below_step (by repeat (first | (with_reducible first | exact HB.out | apply below_alloc | apply pw_below_drewN | apply below_drew1) | exact HB.out)) hb); have n1_ := Aside0.mk (hbox); have n2_ := Aside0.mk ((by rw [hg]; exact (below_size (by repeat (first | (with_reducible first | exact HB.out | apply below_alloc | apply pw_below_drewN | apply below_drew1) | exact HB.out))) : w.heap.size ≤ gb143)); have n3_ := Aside0.mk ((by rw [hg]; exact (below_size (by repeat (first | (with_reducible first | exact HB.out | apply below_alloc | apply pw_below_drewN | apply below_drew1) | exact HB.out))) : w.heap.size ≤ gb143)); clear HB; have HB := n0_; have BK143 := n1_; have GW143 := n2_; have GE143 := n3_; clear n0_ n1_ n2_ n3_; clear hb hbox hg; have hcz39_0 : w38.cell? ⟨gb143, 0, none⟩ = some (.int .i64 a0_0) := (blk_cell BK143.out 0).trans rfl; have hcz39_1 : w38.cell? ⟨gb143, 1, none⟩ = some (.int .i64 a0_1) := (blk_cell BK143.out 1).trans rfl; have hcz39_2 : w38.cell? ⟨gb143, 2, none⟩ = some (.string a0_2) := (blk_cell BK143.out 2).trans rfl; have hcz39_3 : w38.cell? ⟨gb143, 3, none⟩ = some (.slice A0_3 l0_3.length c0_3) := (blk_cell BK143.out 3).trans rfl; have hcz39_4 : w38.cell? ⟨gb143, 4, none⟩ = some (.slice A0_4 l0_4.length c0_4) := (blk_cell BK143.out 4).trans rfl; have hfz39_0 := blk_frozen BK143.out 0; have hfz39_1 := blk_frozen BK143.out 1; have hfz39_2 := blk_frozen BK143.out 2; have hfz39_3 := blk_frozen BK143.out 3; have hfz39_4 := blk_frozen BK143.out 4))
      go_ret
      exact ⟨by first | rfl | (simp [errW_none, errW_some] <;> rfl) | (simp [*, errW_none, errW_some] <;> rfl), by repeat (first | (with_reducible first | exact HB.out | apply below_alloc | apply pw_below_drewN | apply below_drew1 | refine below_set ?_ GE143.out) | exact HB.out)⟩
     ·rw [if_neg c37] at H
      have c37b0 : ((l0_3.length : Int) == 0) = false := beq_eq_false_iff_ne.mpr c37
      have c37b1 : ((l0_3.length : Int) != 0) = true := bne_iff_ne.mpr c37
      have c37b2 : ¬ (l0_3 = []) := fun h_ => c37 (by rw [h_]; rfl)
      obtain rfl := Option.some.inj H
      go_enter Tryz.func44, Tryz.ntmps44
      go_wp2_with (first | ((with_reducible refine gate_dst (N := 1) rfl ?_); (try (refine gate_guard (by rfl) ?_; dsimp only)); refine box_event ?hg (N := 1) ?hd (cs := #[.int .i64 a0_0, .int .i64 a0_1, .string a0_2, .slice A0_3 l0_3.length c0_3, .slice A0_4 l0_4.length c0_4]) (t := 25) ?hr ?_; (case hd => rfl); (case hg => rfl); (case hr => first | (go_simp; done) | (go_simp; rfl)); intro gb143 hg w40 hbox hb; have n0_ := Aside0.mk (below_step (by repeat (first | (with_reducible first | exact HB.out | apply below_alloc | apply pw_below_drewN | apply below_drew1) | exact HB.out)) hb); have n1_ := Aside0.mk (hbox); have n2_ := Aside0.mk ((by rw [hg]; exact (below_size (by repeat (first | (with_reducible first | exact HB.out | apply below_alloc | apply pw_below_drewN | apply below_drew1) | exact HB.out))) : w.heap.size ≤ gb143)); have n3_ := Aside0.mk ((by rw [hg]; exact (below_size (by repeat (first | (with_reducible first | exact HB.out | apply below_alloc | apply pw_below_drewN | apply below_drew1) | exact HB.out))) : w.heap.size ≤ gb143)); clear HB; have HB := n0_; have BK143 := n1_; have GW143 := n2_; have GE143 := n3_; clear n0_ n1_ n2_ n3_; clear hb hbox hg; have hcz41_0 : w40.cell? ⟨gb143, 0, none⟩ = some (.int .i64 a0_0) := (blk_cell BK143.out 0).trans rfl; have hcz41_1 : w40.cell? ⟨gb143, 1, none⟩ = some (.int .i64 a0_1) := (blk_cell BK143.out 1).trans rfl; have hcz41_2 : w40.cell? ⟨gb143, 2, none⟩ = some (.string a0_2) := (blk_cell BK143.out 2).trans rfl; have hcz41_3 : w40.cell? ⟨gb143, 3, none⟩ = some (.slice A0_3 l0_3.length c0_3) := (blk_cell BK143.out 3).trans rfl; have hcz41_4 : w40.cell? ⟨gb143, 4, none⟩ = some (.slice A0_4 l0_4.length c0_4) := (blk_cell BK143.out 4).trans rfl; have hfz41_0 := blk_frozen BK143.out 0; have hfz41_1 := blk_frozen BK143.out 1; have hfz41_2 := blk_frozen BK143.out 2; have hfz41_3 := blk_frozen BK143.out 3; have hfz41_4 := blk_frozen BK143.out 4))
      go_ret
      exact ⟨by first | rfl | (simp [errW_none, errW_some] <;> rfl) | (simp [*, errW_none, errW_some] <;> rfl), by repeat (first | (with_reducible first | exact HB.out | apply below_alloc | apply pw_below_drewN | apply below_drew1 | refine below_set ?_ GE143.out) | exact HB.out)⟩
    ·rw [if_neg c36] at H
     have c36b0 : (a0_2.toList == ([] : List UInt8)) = false := beq_eq_false_iff_ne.mpr c36
     have c36b1 : (a0_2.toList != ([] : List UInt8)) = true := bne_iff_ne.mpr c36
     obtain rfl := Option.some.inj H
     go_enter Tryz.func44, Tryz.ntmps44
     go_wp2_with (first | ((with_reducible refine gate_dst (N := 1) rfl ?_); (try (refine gate_guard (by rfl) ?_; dsimp only)); refine box_event ?hg (N := 1) ?hd (cs := #[.int .i64 a0_0, .int .i64 a0_1, .string a0_2, .slice A0_3 l0_3.length c0_3, .slice A0_4 l0_4.length c0_4]) (t := 25) ?hr ?_; (case hd => rfl); (case hg => rfl); (case hr => first | (go_simp; done) | (go_simp; rfl)); intro gb143 hg w42 hbox hb; have n0_ := Aside0.mk (below_step (by repeat (first | (with_reducible first | exact HB.out | apply below_alloc | apply pw_below_drewN | apply below_drew1) | exact HB.out)) hb); have n1_ := Aside0.mk (hbox); have n2_ := Aside0.mk ((by rw [hg]; exact (below_size (by repeat (first | (with_reducible first | exact HB.out | apply below_alloc | apply pw_below_drewN | apply below_drew1) | exact HB.out))) : w.heap.size ≤ gb143)); have n3_ := Aside0.mk ((by rw [hg]; exact (below_size (by repeat (first | (with_reducible first | exact HB.out | apply below_alloc | apply pw_below_drewN | apply below_drew1) | exact HB.out))) : w.heap.size ≤ gb143)); clear HB; have HB := n0_; have BK143 := n1_; have GW143 := n2_; have GE143 := n3_; clear n0_ n1_ n2_ n3_; clear hb hbox hg; have hcz43_0 : w42.cell? ⟨gb143, 0, none⟩ = some (.int .i64 a0_0) := (blk_cell BK143.out 0).trans rfl; have hcz43_1 : w42.cell? ⟨gb143, 1, none⟩ = some (.int .i64 a0_1) := (blk_cell BK143.out 1).trans rfl; have hcz43_2 : w42.cell? ⟨gb143, 2, none⟩ = some (.string a0_2) := (blk_cell BK143.out 2).trans rfl; have hcz43_3 : w42.cell? ⟨gb143, 3, none⟩ = some (.slice A0_3 l0_3.length c0_3) := (blk_cell BK143.out 3).trans rfl; have hcz43_4 : w42.cell? ⟨gb143, 4, none⟩ = some (.slice A0_4 l0_4.length c0_4) := (blk_cell BK143.out 4).trans rfl; have hfz43_0 := blk_frozen BK143.out 0; have hfz43_1 := blk_frozen BK143.out 1; have hfz43_2 := blk_frozen BK143.out 2; have hfz43_3 := blk_frozen BK143.out 3; have hfz43_4 := blk_frozen BK143.out 4))
     go_ret
     exact ⟨by first | rfl | (simp [errW_none, errW_some] <;> rfl) | (simp [*, errW_none, errW_some] <;> rfl), by repeat (first | (with_reducible first | exact HB.out | apply below_alloc | apply pw_below_drewN | apply below_drew1 | refine below_set ?_ GE143.out) | exact HB.out)⟩
   ·rw [if_neg c35] at H
    have c35b0 : (a0_0 == 2) = false := beq_eq_false_iff_ne.mpr c35
    have c35b1 : (a0_0 != 2) = true := bne_iff_ne.mpr c35
    by_cases c44 : a0_0 = 3
    ·rw [if_pos c44] at H
     have c44b0 : (a0_0 == 3) = true := beq_iff_eq.mpr c44
     have c44b1 : (a0_0 != 3) = false := bne_eq_false_iff_eq.mpr c44
     clear c44
     by_cases c45 : a0_1 = 0
     ·rw [if_pos c45] at H
      have c45b0 : (a0_1 == 0) = true := beq_iff_eq.mpr c45
      have c45b1 : (a0_1 != 0) = false := bne_eq_false_iff_eq.mpr c45
      clear c45
      by_cases c46 : (a0_2.size : Int) ≤ 65536
      ·rw [if_pos c46] at H
       have c46b0 : decide ((a0_2.size : Int) ≤ 65536) = true := decide_eq_true c46
       have c46b1 : decide (a0_2.size ≤ 65536) = true := decide_eq_true (by omega)
       clear c46
       by_cases c47 : (l0_3.length : Int) = 0
       ·rw [if_pos c47] at H
        have c47b0 : ((l0_3.length : Int) == 0) = true := beq_iff_eq.mpr c47
        have c47b1 : ((l0_3.length : Int) != 0) = false := bne_eq_false_iff_eq.mpr c47
        clear c47
        obtain rfl := Option.some.inj H
        go_enter Tryz.func44, Tryz.ntmps44
        go_wp2_with (first | ((with_reducible refine gate_dst (N := 1) rfl ?_); (try (refine gate_guard (by rfl) ?_; dsimp only)); refine box_event ?hg (N := 1) ?hd (cs := #[.int .i64 a0_0, .int .i64 a0_1, .string a0_2, .slice A0_3 l0_3.length c0_3, .slice A0_4 l0_4.length c0_4]) (t := 25) ?hr ?_; (case hd => rfl); (case hg => rfl); (case hr => first | (go_simp; done) | (go_simp; rfl)); intro gb143 hg w48 hbox hb; have n0_ := Aside0.mk (below_step (by repeat (first | (with_reducible first | exact HB.out | apply below_alloc | apply pw_below_drewN | apply below_drew1) | exact HB.out)) hb); have n1_ := Aside0.mk (hbox); have n2_ := Aside0.mk ((by rw [hg]; exact (below_size (by repeat (first | (with_reducible first | exact HB.out | apply below_alloc | apply pw_below_drewN | apply below_drew1) | exact HB.out))) : w.heap.size ≤ gb143)); have n3_ := Aside0.mk ((by rw [hg]; exact (below_size (by repeat (first | (with_reducible first | exact HB.out | apply below_alloc | apply pw_below_drewN | apply below_drew1) | exact HB.out))) : w.heap.size ≤ gb143)); clear HB; have HB := n0_; have BK143 := n1_; have GW143 := n2_; have GE143 := n3_; clear n0_ n1_ n2_ n3_; clear hb hbox hg; have hcz49_0 : w48.cell? ⟨gb143, 0, none⟩ = some (.int .i64 a0_0) := (blk_cell BK143.out 0).trans rfl; have hcz49_1 : w48.cell? ⟨gb143, 1, none⟩ = some (.int .i64 a0_1) := (blk_cell BK143.out 1).trans rfl; have hcz49_2 : w48.cell? ⟨gb143, 2, none⟩ = some (.string a0_2) := (blk_cell BK143.out 2).trans rfl; have hcz49_3 : w48.cell? ⟨gb143, 3, none⟩ = some (.slice A0_3 l0_3.length c0_3) := (blk_cell BK143.out 3).trans rfl; have hcz49_4 : w48.cell? ⟨gb143, 4, none⟩ = some (.slice A0_4 l0_4.length c0_4) := (blk_cell BK143.out 4).trans rfl; have hfz49_0 := blk_frozen BK143.out 0; have hfz49_1 := blk_frozen BK143.out 1; have hfz49_2 := blk_frozen BK143.out 2; have hfz49_3 := blk_frozen BK143.out 3; have hfz49_4 := blk_frozen BK143.out 4))
        go_ret
        exact ⟨by first | rfl | (simp [errW_none, errW_some] <;> rfl) | (simp [*, errW_none, errW_some] <;> rfl), by repeat (first | (with_reducible first | exact HB.out | apply below_alloc | apply pw_below_drewN | apply below_drew1 | refine below_set ?_ GE143.out) | exact HB.out)⟩
       ·rw [if_neg c47] at H
        have c47b0 : ((l0_3.length : Int) == 0) = false := beq_eq_false_iff_ne.mpr c47
        have c47b1 : ((l0_3.length : Int) != 0) = true := bne_iff_ne.mpr c47
        have c47b2 : ¬ (l0_3 = []) := fun h_ => c47 (by rw [h_]; rfl)
        obtain rfl := Option.some.inj H
        go_enter Tryz.func44, Tryz.ntmps44
        go_wp2_with (first | ((with_reducible refine gate_dst (N := 1) rfl ?_); (try (refine gate_guard (by rfl) ?_; dsimp only)); refine box_event ?hg (N := 1) ?hd (cs := #[.int .i64 a0_0, .int .i64 a0_1, .string a0_2, .slice A0_3 l0_3.length c0_3, .slice A0_4 l0_4.length c0_4]) (t := 25) ?hr ?_; (case hd => rfl); (case hg => rfl); (case hr => first | (go_simp; done) | (go_simp; rfl)); intro gb143 hg w50 hbox hb; have n0_ := Aside0.mk (below_step (by repeat (first | (with_reducible first | exact HB.out | apply below_alloc | apply pw_below_drewN | apply below_drew1) | exact HB.out)) hb); have n1_ := Aside0.mk (hbox); have n2_ := Aside0.mk ((by rw [hg]; exact (below_size (by repeat (first | (with_reducible first | exact HB.out | apply below_alloc | apply pw_below_drewN | apply below_drew1) | exact HB.out))) : w.heap.size ≤ gb143)); have n3_ := Aside0.mk ((by rw [hg]; exact (below_size (by repeat (first | (with_reducible first | exact HB.out | apply below_alloc | apply pw_below_drewN | apply below_drew1) | exact HB.out))) : w.heap.size ≤ gb143)); clear HB; have HB := n0_; have BK143 := n1_; have GW143 := n2_; have GE143 := n3_; clear n0_ n1_ n2_ n3_; clear hb hbox hg; have hcz51_0 : w50.cell? ⟨gb143, 0, none⟩ = some (.int .i64 a0_0) := (blk_cell BK143.out 0).trans rfl; have hcz51_1 : w50.cell? ⟨gb143, 1, none⟩ = some (.int .i64 a0_1) := (blk_cell BK143.out 1).trans rfl; have hcz51_2 : w50.cell? ⟨gb143, 2, none⟩ = some (.string a0_2) := (blk_cell BK143.out 2).trans rfl; have hcz51_3 : w50.cell? ⟨gb143, 3, none⟩ = some (.slice A0_3 l0_3.length c0_3) := (blk_cell BK143.out 3).trans rfl; have hcz51_4 : w50.cell? ⟨gb143, 4, none⟩ = some (.slice A0_4 l0_4.length c0_4) := (blk_cell BK143.out 4).trans rfl; have hfz51_0 := blk_frozen BK143.out 0; have hfz51_1 := blk_frozen BK143.out 1; have hfz51_2 := blk_frozen BK143.out 2; have hfz51_3 := blk_frozen BK143.out 3; have hfz51_4 := blk_frozen BK143.out 4))
        go_ret
        exact ⟨by first | rfl | (simp [errW_none, errW_some] <;> rfl) | (simp [*, errW_none, errW_some] <;> rfl), by repeat (first | (with_reducible first | exact HB.out | apply below_alloc | apply pw_below_drewN | apply below_drew1 | refine below_set ?_ GE143.out) | exact HB.out)⟩
      ·rw [if_neg c46] at H
       have c46b0 : decide ((a0_2.size : Int) ≤ 65536) = false := decide_eq_false c46
       have c46b1 : decide (a0_2.size ≤ 65536) = false := decide_eq_false (by omega)
       clear c46
       obtain rfl := Option.some.inj H
       go_enter Tryz.func44, Tryz.ntmps44
       go_wp2_with (first | ((with_reducible refine gate_dst (N := 1) rfl ?_); (try (refine gate_guard (by rfl) ?_; dsimp only)); refine box_event ?hg (N := 1) ?hd (cs := #[.int .i64 a0_0, .int .i64 a0_1, .string a0_2, .slice A0_3 l0_3.length c0_3, .slice A0_4 l0_4.length c0_4]) (t := 25) ?hr ?_; (case hd => rfl); (case hg => rfl); (case hr => first | (go_simp; done) | (go_simp; rfl)); intro gb143 hg w52 hbox hb; have n0_ := Aside0.mk (below_step (by repeat (first | (with_reducible first | exact HB.out | apply below_alloc | apply pw_below_drewN | apply below_drew1) | exact HB.out)) hb); have n1_ := Aside0.mk (hbox); have n2_ := Aside0.mk ((by rw [hg]; exact (below_size (by repeat (first | (with_reducible first | exact HB.out | apply below_alloc | apply pw_below_drewN | apply below_drew1) | exact HB.out))) : w.heap.size ≤ gb143)); have n3_ := Aside0.mk ((by rw [hg]; exact (below_size (by repeat (first | (with_reducible first | exact HB.out | apply below_alloc | apply pw_below_drewN | apply below_drew1) | exact HB.out))) : w.heap.size ≤ gb143)); clear HB; have HB := n0_; have BK143 := n1_; have GW143 := n2_; have GE143 := n3_; clear n0_ n1_ n2_ n3_; clear hb hbox hg; have hcz53_0 : w52.cell? ⟨gb143, 0, none⟩ = some (.int .i64 a0_0) := (blk_cell BK143.out 0).trans rfl; have hcz53_1 : w52.cell? ⟨gb143, 1, none⟩ = some (.int .i64 a0_1) := (blk_cell BK143.out 1).trans rfl; have hcz53_2 : w52.cell? ⟨gb143, 2, none⟩ = some (.string a0_2) := (blk_cell BK143.out 2).trans rfl; have hcz53_3 : w52.cell? ⟨gb143, 3, none⟩ = some (.slice A0_3 l0_3.length c0_3) := (blk_cell BK143.out 3).trans rfl; have hcz53_4 : w52.cell? ⟨gb143, 4, none⟩ = some (.slice A0_4 l0_4.length c0_4) := (blk_cell BK143.out 4).trans rfl; have hfz53_0 := blk_frozen BK143.out 0; have hfz53_1 := blk_frozen BK143.out 1; have hfz53_2 := blk_frozen BK143.out 2; have hfz53_3 := blk_frozen BK143.out 3; have hfz53_4 := blk_frozen BK143.out 4))
       go_ret
       exact ⟨by first | rfl | (simp [errW_none, errW_some] <;> rfl) | (simp [*, errW_none, errW_some] <;> rfl), by repeat (first | (with_reducible first | exact HB.out | apply below_alloc | apply pw_below_drewN | apply below_drew1 | refine below_set ?_ GE143.out) | exact HB.out)⟩
     ·rw [if_neg c45] at H
      have c45b0 : (a0_1 == 0) = false := beq_eq_false_iff_ne.mpr c45
      have c45b1 : (a0_1 != 0) = true := bne_iff_ne.mpr c45
      obtain rfl := Option.some.inj H
      go_enter Tryz.func44, Tryz.ntmps44
      go_wp2_with (first | ((with_reducible refine gate_dst (N := 1) rfl ?_); (try (refine gate_guard (by rfl) ?_; dsimp only)); refine box_event ?hg (N := 1) ?hd (cs := #[.int .i64 a0_0, .int .i64 a0_1, .string a0_2, .slice A0_3 l0_3.length c0_3, .slice A0_4 l0_4.length c0_4]) (t := 25) ?hr ?_; (case hd => rfl); (case hg => rfl); (case hr => first | (go_simp; done) | (go_simp; rfl)); intro gb143 hg w54 hbox hb; have n0_ := Aside0.mk (below_step (by repeat (first | (with_reducible first | exact HB.out | apply below_alloc | apply pw_below_drewN | apply below_drew1) | exact HB.out)) hb); have n1_ := Aside0.mk (hbox); have n2_ := Aside0.mk ((by rw [hg]; exact (below_size (by repeat (first | (with_reducible first | exact HB.out | apply below_alloc | apply pw_below_drewN | apply below_drew1) | exact HB.out))) : w.heap.size ≤ gb143)); have n3_ := Aside0.mk ((by rw [hg]; exact (below_size (by repeat (first | (with_reducible first | exact HB.out | apply below_alloc | apply pw_below_drewN | apply below_drew1) | exact HB.out))) : w.heap.size ≤ gb143)); clear HB; have HB := n0_; have BK143 := n1_; have GW143 := n2_; have GE143 := n3_; clear n0_ n1_ n2_ n3_; clear hb hbox hg; have hcz55_0 : w54.cell? ⟨gb143, 0, none⟩ = some (.int .i64 a0_0) := (blk_cell BK143.out 0).trans rfl; have hcz55_1 : w54.cell? ⟨gb143, 1, none⟩ = some (.int .i64 a0_1) := (blk_cell BK143.out 1).trans rfl; have hcz55_2 : w54.cell? ⟨gb143, 2, none⟩ = some (.string a0_2) := (blk_cell BK143.out 2).trans rfl; have hcz55_3 : w54.cell? ⟨gb143, 3, none⟩ = some (.slice A0_3 l0_3.length c0_3) := (blk_cell BK143.out 3).trans rfl; have hcz55_4 : w54.cell? ⟨gb143, 4, none⟩ = some (.slice A0_4 l0_4.length c0_4) := (blk_cell BK143.out 4).trans rfl; have hfz55_0 := blk_frozen BK143.out 0; have hfz55_1 := blk_frozen BK143.out 1; have hfz55_2 := blk_frozen BK143.out 2; have hfz55_3 := blk_frozen BK143.out 3; have hfz55_4 := blk_frozen BK143.out 4))
      go_ret
      exact ⟨by first | rfl | (simp [errW_none, errW_some] <;> rfl) | (simp [*, errW_none, errW_some] <;> rfl), by repeat (first | (with_reducible first | exact HB.out | apply below_alloc | apply pw_below_drewN | apply below_drew1 | refine below_set ?_ GE143.out) | exact HB.out)⟩
    ·rw [if_neg c44] at H
     have c44b0 : (a0_0 == 3) = false := beq_eq_false_iff_ne.mpr c44
     have c44b1 : (a0_0 != 3) = true := bne_iff_ne.mpr c44
     by_cases c56 : a0_0 = 4
     ·rw [if_pos c56] at H
      have c56b0 : (a0_0 == 4) = true := beq_iff_eq.mpr c56
      have c56b1 : (a0_0 != 4) = false := bne_eq_false_iff_eq.mpr c56
      clear c56
      by_cases c57 : a0_1 = 0
      ·rw [if_pos c57] at H
       have c57b0 : (a0_1 == 0) = true := beq_iff_eq.mpr c57
       have c57b1 : (a0_1 != 0) = false := bne_eq_false_iff_eq.mpr c57
       clear c57
       by_cases c58 : a0_2.toList = ([] : List UInt8)
       ·rw [if_pos c58] at H
        have c58b0 : (a0_2.toList == ([] : List UInt8)) = true := beq_iff_eq.mpr c58
        have c58b1 : (a0_2.toList != ([] : List UInt8)) = false := bne_eq_false_iff_eq.mpr c58
        clear c58
        by_cases c59 : (l0_3.length : Int) ≤ 1000
        ·rw [if_pos c59] at H
         have c59b0 : decide ((l0_3.length : Int) ≤ 1000) = true := decide_eq_true c59
         have c59b1 : decide (l0_3.length ≤ 1000) = true := decide_eq_true (by omega)
         clear c59
         obtain rfl := Option.some.inj H
         go_enter Tryz.func44, Tryz.ntmps44
         go_wp2_with (first | ((with_reducible refine gate_dst (N := 1) rfl ?_); (try (refine gate_guard (by rfl) ?_; dsimp only)); refine box_event ?hg (N := 1) ?hd (cs := #[.int .i64 a0_0, .int .i64 a0_1, .string a0_2, .slice A0_3 l0_3.length c0_3, .slice A0_4 l0_4.length c0_4]) (t := 25) ?hr ?_; (case hd => rfl); (case hg => rfl); (case hr => first | (go_simp; done) | (go_simp; rfl)); intro gb143 hg w60 hbox hb; have n0_ := Aside0.mk (below_step (by repeat (first | (with_reducible first | exact HB.out | apply below_alloc | apply pw_below_drewN | apply below_drew1) | exact HB.out)) hb); have n1_ := Aside0.mk (hbox); have n2_ := Aside0.mk ((by rw [hg]; exact (below_size (by repeat (first | (with_reducible first | exact HB.out | apply below_alloc | apply pw_below_drewN | apply below_drew1) | exact HB.out))) : w.heap.size ≤ gb143)); have n3_ := Aside0.mk ((by rw [hg]; exact (below_size (by repeat (first | (with_reducible first | exact HB.out | apply below_alloc | apply pw_below_drewN | apply below_drew1) | exact HB.out))) : w.heap.size ≤ gb143)); clear HB; have HB := n0_; have BK143 := n1_; have GW143 := n2_; have GE143 := n3_; clear n0_ n1_ n2_ n3_; clear hb hbox hg; have hcz61_0 : w60.cell? ⟨gb143, 0, none⟩ = some (.int .i64 a0_0) := (blk_cell BK143.out 0).trans rfl; have hcz61_1 : w60.cell? ⟨gb143, 1, none⟩ = some (.int .i64 a0_1) := (blk_cell BK143.out 1).trans rfl; have hcz61_2 : w60.cell? ⟨gb143, 2, none⟩ = some (.string a0_2) := (blk_cell BK143.out 2).trans rfl; have hcz61_3 : w60.cell? ⟨gb143, 3, none⟩ = some (.slice A0_3 l0_3.length c0_3) := (blk_cell BK143.out 3).trans rfl; have hcz61_4 : w60.cell? ⟨gb143, 4, none⟩ = some (.slice A0_4 l0_4.length c0_4) := (blk_cell BK143.out 4).trans rfl; have hfz61_0 := blk_frozen BK143.out 0; have hfz61_1 := blk_frozen BK143.out 1; have hfz61_2 := blk_frozen BK143.out 2; have hfz61_3 := blk_frozen BK143.out 3; have hfz61_4 := blk_frozen BK143.out 4))
         go_ret
         exact ⟨by first | rfl | (simp [errW_none, errW_some] <;> rfl) | (simp [*, errW_none, errW_some] <;> rfl), by repeat (first | (with_reducible first | exact HB.out | apply below_alloc | apply pw_below_drewN | apply below_drew1 | refine below_set ?_ GE143.out) | exact HB.out)⟩
        ·rw [if_neg c59] at H
         have c59b0 : decide ((l0_3.length : Int) ≤ 1000) = false := decide_eq_false c59
         have c59b1 : decide (l0_3.length ≤ 1000) = false := decide_eq_false (by omega)
         clear c59
         obtain rfl := Option.some.inj H
         go_enter Tryz.func44, Tryz.ntmps44
         go_wp2_with (first | ((with_reducible refine gate_dst (N := 1) rfl ?_); (try (refine gate_guard (by rfl) ?_; dsimp only)); refine box_event ?hg (N := 1) ?hd (cs := #[.int .i64 a0_0, .int .i64 a0_1, .string a0_2, .slice A0_3 l0_3.length c0_3, .slice A0_4 l0_4.length c0_4]) (t := 25) ?hr ?_; (case hd => rfl); (case hg => rfl); (case hr => first | (go_simp; done) | (go_simp; rfl)); intro gb143 hg w62 hbox hb; have n0_ := Aside0.mk (below_step (by repeat (first | (with_reducible first | exact HB.out | apply below_alloc | apply pw_below_drewN | apply below_drew1) | exact HB.out)) hb); have n1_ := Aside0.mk (hbox); have n2_ := Aside0.mk ((by rw [hg]; exact (below_size (by repeat (first | (with_reducible first | exact HB.out | apply below_alloc | apply pw_below_drewN | apply below_drew1) | exact HB.out))) : w.heap.size ≤ gb143)); have n3_ := Aside0.mk ((by rw [hg]; exact (below_size (by repeat (first | (with_reducible first | exact HB.out | apply below_alloc | apply pw_below_drewN | apply below_drew1) | exact HB.out))) : w.heap.size ≤ gb143)); clear HB; have HB := n0_; have BK143 := n1_; have GW143 := n2_; have GE143 := n3_; clear n0_ n1_ n2_ n3_; clear hb hbox hg; have hcz63_0 : w62.cell? ⟨gb143, 0, none⟩ = some (.int .i64 a0_0) := (blk_cell BK143.out 0).trans rfl; have hcz63_1 : w62.cell? ⟨gb143, 1, none⟩ = some (.int .i64 a0_1) := (blk_cell BK143.out 1).trans rfl; have hcz63_2 : w62.cell? ⟨gb143, 2, none⟩ = some (.string a0_2) := (blk_cell BK143.out 2).trans rfl; have hcz63_3 : w62.cell? ⟨gb143, 3, none⟩ = some (.slice A0_3 l0_3.length c0_3) := (blk_cell BK143.out 3).trans rfl; have hcz63_4 : w62.cell? ⟨gb143, 4, none⟩ = some (.slice A0_4 l0_4.length c0_4) := (blk_cell BK143.out 4).trans rfl; have hfz63_0 := blk_frozen BK143.out 0; have hfz63_1 := blk_frozen BK143.out 1; have hfz63_2 := blk_frozen BK143.out 2; have hfz63_3 := blk_frozen BK143.out 3; have hfz63_4 := blk_frozen BK143.out 4))
         go_ret
         exact ⟨by first | rfl | (simp [errW_none, errW_some] <;> rfl) | (simp [*, errW_none, errW_some] <;> rfl), by repeat (first | (with_reducible first | exact HB.out | apply below_alloc | apply pw_below_drewN | apply below_drew1 | refine below_set ?_ GE143.out) | exact HB.out)⟩
       ·rw [if_neg c58] at H
        have c58b0 : (a0_2.toList == ([] : List UInt8)) = false := beq_eq_false_iff_ne.mpr c58
        have c58b1 : (a0_2.toList != ([] : List UInt8)) = true := bne_iff_ne.mpr c58
        obtain rfl := Option.some.inj H
        go_enter Tryz.func44, Tryz.ntmps44
        go_wp2_with (first | ((with_reducible refine gate_dst (N := 1) rfl ?_); (try (refine gate_guard (by rfl) ?_; dsimp only)); refine box_event ?hg (N := 1) ?hd (cs := #[.int .i64 a0_0, .int .i64 a0_1, .string a0_2, .slice A0_3 l0_3.length c0_3, .slice A0_4 l0_4.length c0_4]) (t := 25) ?hr ?_; (case hd => rfl); (case hg => rfl); (case hr => first | (go_simp; done) | (go_simp; rfl)); intro gb143 hg w64 hbox hb; have n0_ := Aside0.mk (below_step (by repeat (first | (with_reducible first | exact HB.out | apply below_alloc | apply pw_below_drewN | apply below_drew1) | exact HB.out)) hb); have n1_ := Aside0.mk (hbox); have n2_ := Aside0.mk ((by rw [hg]; exact (below_size (by repeat (first | (with_reducible first | exact HB.out | apply below_alloc | apply pw_below_drewN | apply below_drew1) | exact HB.out))) : w.heap.size ≤ gb143)); have n3_ := Aside0.mk ((by rw [hg]; exact (below_size (by repeat (first | (with_reducible first | exact HB.out | apply below_alloc | apply pw_below_drewN | apply below_drew1) | exact HB.out))) : w.heap.size ≤ gb143)); clear HB; have HB := n0_; have BK143 := n1_; have GW143 := n2_; have GE143 := n3_; clear n0_ n1_ n2_ n3_; clear hb hbox hg; have hcz65_0 : w64.cell? ⟨gb143, 0, none⟩ = some (.int .i64 a0_0) := (blk_cell BK143.out 0).trans rfl; have hcz65_1 : w64.cell? ⟨gb143, 1, none⟩ = some (.int .i64 a0_1) := (blk_cell BK143.out 1).trans rfl; have hcz65_2 : w64.cell? ⟨gb143, 2, none⟩ = some (.string a0_2) := (blk_cell BK143.out 2).trans rfl; have hcz65_3 : w64.cell? ⟨gb143, 3, none⟩ = some (.slice A0_3 l0_3.length c0_3) := (blk_cell BK143.out 3).trans rfl; have hcz65_4 : w64.cell? ⟨gb143, 4, none⟩ = some (.slice A0_4 l0_4.length c0_4) := (blk_cell BK143.out 4).trans rfl; have hfz65_0 := blk_frozen BK143.out 0; have hfz65_1 := blk_frozen BK143.out 1; have hfz65_2 := blk_frozen BK143.out 2; have hfz65_3 := blk_frozen BK143.out 3; have hfz65_4 := blk_frozen BK143.out 4))
        go_ret
        exact ⟨by first | rfl | (simp [errW_none, errW_some] <;> rfl) | (simp [*, errW_none, errW_some] <;> rfl), by repeat (first | (with_reducible first | exact HB.out | apply below_alloc | apply pw_below_drewN | apply below_drew1 | refine below_set ?_ GE143.out) | exact HB.out)⟩
      ·rw [if_neg c57] at H
       have c57b0 : (a0_1 == 0) = false := beq_eq_false_iff_ne.mpr c57
       have c57b1 : (a0_1 != 0) = true := bne_iff_ne.mpr c57
       obtain rfl := Option.some.inj H
       go_enter Tryz.func44, Tryz.ntmps44
       go_wp2_with (first | ((with_reducible refine gate_dst (N := 1) rfl ?_); (try (refine gate_guard (by rfl) ?_; dsimp only)); refine box_event ?hg (N := 1) ?hd (cs := #[.int .i64 a0_0, .int .i64 a0_1, .string a0_2, .slice A0_3 l0_3.length c0_3, .slice A0_4 l0_4.length c0_4]) (t := 25) ?hr ?_; (case hd => rfl); (case hg => rfl); (case hr => first | (go_simp; done) | (go_simp; rfl)); intro gb143 hg w66 hbox hb; have n0_ := Aside0.mk (below_step (by repeat (first | (with_reducible first | exact HB.out | apply below_alloc | apply pw_below_drewN | apply below_drew1) | exact HB.out)) hb); have n1_ := Aside0.mk (hbox); have n2_ := Aside0.mk ((by rw [hg]; exact (below_size (by repeat (first | (with_reducible first | exact HB.out | apply below_alloc | apply pw_below_drewN | apply below_drew1) | exact HB.out))) : w.heap.size ≤ gb143)); have n3_ := Aside0.mk ((by rw [hg]; exact (below_size (by repeat (first | (with_reducible first | exact HB.out | apply below_alloc | apply pw_below_drewN | apply below_drew1) | exact HB.out))) : w.heap.size ≤ gb143)); clear HB; have HB := n0_; have BK143 := n1_; have GW143 := n2_; have GE143 := n3_; clear n0_ n1_ n2_ n3_; clear hb hbox hg; have hcz67_0 : w66.cell? ⟨gb143, 0, none⟩ = some (.int .i64 a0_0) := (blk_cell BK143.out 0).trans rfl; have hcz67_1 : w66.cell? ⟨gb143, 1, none⟩ = some (.int .i64 a0_1) := (blk_cell BK143.out 1).trans rfl; have hcz67_2 : w66.cell? ⟨gb143, 2, none⟩ = some (.string a0_2) := (blk_cell BK143.out 2).trans rfl; have hcz67_3 : w66.cell? ⟨gb143, 3, none⟩ = some (.slice A0_3 l0_3.length c0_3) := (blk_cell BK143.out 3).trans rfl; have hcz67_4 : w66.cell? ⟨gb143, 4, none⟩ = some (.slice A0_4 l0_4.length c0_4) := (blk_cell BK143.out 4).trans rfl; have hfz67_0 := blk_frozen BK143.out 0; have hfz67_1 := blk_frozen BK143.out 1; have hfz67_2 := blk_frozen BK143.out 2; have hfz67_3 := blk_frozen BK143.out 3; have hfz67_4 := blk_frozen BK143.out 4))
       go_ret
       exact ⟨by first | rfl | (simp [errW_none, errW_some] <;> rfl) | (simp [*, errW_none, errW_some] <;> rfl), by repeat (first | (with_reducible first | exact HB.out | apply below_alloc | apply pw_below_drewN | apply below_drew1 | refine below_set ?_ GE143.out) | exact HB.out)⟩
     ·rw [if_neg c56] at H
      have c56b0 : (a0_0 == 4) = false := beq_eq_false_iff_ne.mpr c56
      have c56b1 : (a0_0 != 4) = true := bne_iff_ne.mpr c56
      by_cases c68 : a0_0 = 5
      ·rw [if_pos c68] at H
       have c68b0 : (a0_0 == 5) = true := beq_iff_eq.mpr c68
       have c68b1 : (a0_0 != 5) = false := bne_eq_false_iff_eq.mpr c68
       clear c68
       by_cases c69 : a0_1 = 0
       ·rw [if_pos c69] at H
        have c69b0 : (a0_1 == 0) = true := beq_iff_eq.mpr c69
        have c69b1 : (a0_1 != 0) = false := bne_eq_false_iff_eq.mpr c69
        clear c69
        by_cases c70 : a0_2.toList = ([] : List UInt8)
        ·rw [if_pos c70] at H
         have c70b0 : (a0_2.toList == ([] : List UInt8)) = true := beq_iff_eq.mpr c70
         have c70b1 : (a0_2.toList != ([] : List UInt8)) = false := bne_eq_false_iff_eq.mpr c70
         clear c70
         by_cases c71 : (l0_3.length : Int) ≤ 1000
         ·rw [if_pos c71] at H
          have c71b0 : decide ((l0_3.length : Int) ≤ 1000) = true := decide_eq_true c71
          have c71b1 : decide (l0_3.length ≤ 1000) = true := decide_eq_true (by omega)
          clear c71
          replace H := Option.bind_eq_some_iff.mp H
          obtain ⟨t144, A720, H⟩ := H
          replace H : (some t144) = some r := H
          have A72 := Aside0.mk A720
          clear A720
          obtain rfl := Option.some.inj H
          go_enter Tryz.func44, Tryz.ntmps44
          go_wp2_with (first | ((with_reducible refine gate_dst (N := 1) rfl ?_); (try (refine gate_guard (by rfl) ?_; dsimp only)); refine box_event ?hg (N := 1) ?hd (cs := #[.int .i64 a0_0, .int .i64 a0_1, .string a0_2, .slice A0_3 l0_3.length c0_3, .slice A0_4 l0_4.length c0_4]) (t := 25) ?hr ?_; (case hd => rfl); (case hg => rfl); (case hr => first | (go_simp; done) | (go_simp; rfl)); intro gb143 hg w73 hbox hb; have n0_ := Aside0.mk (below_step (by repeat (first | (with_reducible first | exact HB.out | apply below_alloc | apply pw_below_drewN | apply below_drew1) | exact HB.out)) hb); have n1_ := Aside0.mk (hbox); have n2_ := Aside0.mk ((by rw [hg]; exact (below_size (by repeat (first | (with_reducible first | exact HB.out | apply below_alloc | apply pw_below_drewN | apply below_drew1) | exact HB.out))) : w.heap.size ≤ gb143)); have n3_ := Aside0.mk ((by rw [hg]; exact (below_size (by repeat (first | (with_reducible first | exact HB.out | apply below_alloc | apply pw_below_drewN | apply below_drew1) | exact HB.out))) : w.heap.size ≤ gb143)); clear HB; have HB := n0_; have BK143 := n1_; have GW143 := n2_; have GE143 := n3_; clear n0_ n1_ n2_ n3_; clear hb hbox hg; have hcz74_0 : w73.cell? ⟨gb143, 0, none⟩ = some (.int .i64 a0_0) := (blk_cell BK143.out 0).trans rfl; have hcz74_1 : w73.cell? ⟨gb143, 1, none⟩ = some (.int .i64 a0_1) := (blk_cell BK143.out 1).trans rfl; have hcz74_2 : w73.cell? ⟨gb143, 2, none⟩ = some (.string a0_2) := (blk_cell BK143.out 2).trans rfl; have hcz74_3 : w73.cell? ⟨gb143, 3, none⟩ = some (.slice A0_3 l0_3.length c0_3) := (blk_cell BK143.out 3).trans rfl; have hcz74_4 : w73.cell? ⟨gb143, 4, none⟩ = some (.slice A0_4 l0_4.length c0_4) := (blk_cell BK143.out 4).trans rfl; have hfz74_0 := blk_frozen BK143.out 0; have hfz74_1 := blk_frozen BK143.out 1; have hfz74_2 := blk_frozen BK143.out 2; have hfz74_3 := blk_frozen BK143.out 3; have hfz74_4 := blk_frozen BK143.out 4) | (go_at_call 64; (with_reducible refine (bloomeryref11_keys.calls k a0_0 a0_1 a0_2 _ _ l0_3 _ _ l0_4 t144 _ ?side1 ?side2 ?side3 ?side4 A72.out).mono ?_); (case side1 => repeat (first | exact (Kd.C_below HR0_3.out HB.out) | (with_reducible refine Kd.C_alloc ?_ _) | (with_reducible refine Kd.C_drewN ?_ _) | (with_reducible refine Kd.C_drew ?_))); (case side2 => exact HC0_3.out); (case side3 => repeat (first | exact (Kd.C_below HR0_4.out HB.out) | (with_reducible refine Kd.C_alloc ?_ _) | (with_reducible refine Kd.C_drewN ?_ _) | (with_reducible refine Kd.C_drew ?_))); (case side4 => exact HC0_4.out); rintro e w75 ⟨rfl, hb⟩; have n0_ := Aside0.mk (blk_below (g := gb143) (o := .cells #[.int .i64 a0_0, .int .i64 a0_1, .string a0_2, .slice A0_3 l0_3.length c0_3, .slice A0_4 l0_4.length c0_4] 25 (0, 0)) (by (with_reducible repeat (first | refine blk_drewN ?_ _ | refine blk_drew ?_ | refine blk_alloc ?_ _)); exact BK143.out) hb); have n1_ := Aside0.mk (below_step (by repeat (first | (with_reducible first | exact HB.out | apply below_alloc | apply pw_below_drewN | apply below_drew1 | refine below_set ?_ GE143.out) | exact HB.out)) hb); clear BK143; clear HB; have BK143 := n0_; have HB := n1_; clear n0_ n1_; (try clear hb); (try clear hb2); (try clear hk); (try clear hi)))
          go_ret
          exact ⟨by first | rfl | (simp [errW_none, errW_some] <;> rfl) | (simp [*, errW_none, errW_some] <;> rfl), by repeat (first | (with_reducible first | exact HB.out | apply below_alloc | apply pw_below_drewN | apply below_drew1 | refine below_set ?_ GE143.out) | exact HB.out)⟩
         ·rw [if_neg c71] at H
          have c71b0 : decide ((l0_3.length : Int) ≤ 1000) = false := decide_eq_false c71
          have c71b1 : decide (l0_3.length ≤ 1000) = false := decide_eq_false (by omega)
          clear c71
          obtain rfl := Option.some.inj H
          go_enter Tryz.func44, Tryz.ntmps44
          go_wp2_with (first | ((with_reducible refine gate_dst (N := 1) rfl ?_); (try (refine gate_guard (by rfl) ?_; dsimp only)); refine box_event ?hg (N := 1) ?hd (cs := #[.int .i64 a0_0, .int .i64 a0_1, .string a0_2, .slice A0_3 l0_3.length c0_3, .slice A0_4 l0_4.length c0_4]) (t := 25) ?hr ?_; (case hd => rfl); (case hg => rfl); (case hr => first | (go_simp; done) | (go_simp; rfl)); intro gb143 hg w76 hbox hb; have n0_ := Aside0.mk (below_step (by repeat (first | (with_reducible first | exact HB.out | apply below_alloc | apply pw_below_drewN | apply below_drew1) | exact HB.out)) hb); have n1_ := Aside0.mk (hbox); have n2_ := Aside0.mk ((by rw [hg]; exact (below_size (by repeat (first | (with_reducible first | exact HB.out | apply below_alloc | apply pw_below_drewN | apply below_drew1) | exact HB.out))) : w.heap.size ≤ gb143)); have n3_ := Aside0.mk ((by rw [hg]; exact (below_size (by repeat (first | (with_reducible first | exact HB.out | apply below_alloc | apply pw_below_drewN | apply below_drew1) | exact HB.out))) : w.heap.size ≤ gb143)); clear HB; have HB := n0_; have BK143 := n1_; have GW143 := n2_; have GE143 := n3_; clear n0_ n1_ n2_ n3_; clear hb hbox hg; have hcz77_0 : w76.cell? ⟨gb143, 0, none⟩ = some (.int .i64 a0_0) := (blk_cell BK143.out 0).trans rfl; have hcz77_1 : w76.cell? ⟨gb143, 1, none⟩ = some (.int .i64 a0_1) := (blk_cell BK143.out 1).trans rfl; have hcz77_2 : w76.cell? ⟨gb143, 2, none⟩ = some (.string a0_2) := (blk_cell BK143.out 2).trans rfl; have hcz77_3 : w76.cell? ⟨gb143, 3, none⟩ = some (.slice A0_3 l0_3.length c0_3) := (blk_cell BK143.out 3).trans rfl; have hcz77_4 : w76.cell? ⟨gb143, 4, none⟩ = some (.slice A0_4 l0_4.length c0_4) := (blk_cell BK143.out 4).trans rfl; have hfz77_0 := blk_frozen BK143.out 0; have hfz77_1 := blk_frozen BK143.out 1; have hfz77_2 := blk_frozen BK143.out 2; have hfz77_3 := blk_frozen BK143.out 3; have hfz77_4 := blk_frozen BK143.out 4))
          go_ret
          exact ⟨by first | rfl | (simp [errW_none, errW_some] <;> rfl) | (simp [*, errW_none, errW_some] <;> rfl), by repeat (first | (with_reducible first | exact HB.out | apply below_alloc | apply pw_below_drewN | apply below_drew1 | refine below_set ?_ GE143.out) | exact HB.out)⟩
        ·rw [if_neg c70] at H
         have c70b0 : (a0_2.toList == ([] : List UInt8)) = false := beq_eq_false_iff_ne.mpr c70
         have c70b1 : (a0_2.toList != ([] : List UInt8)) = true := bne_iff_ne.mpr c70
         obtain rfl := Option.some.inj H
         go_enter Tryz.func44, Tryz.ntmps44
         go_wp2_with (first | ((with_reducible refine gate_dst (N := 1) rfl ?_); (try (refine gate_guard (by rfl) ?_; dsimp only)); refine box_event ?hg (N := 1) ?hd (cs := #[.int .i64 a0_0, .int .i64 a0_1, .string a0_2, .slice A0_3 l0_3.length c0_3, .slice A0_4 l0_4.length c0_4]) (t := 25) ?hr ?_; (case hd => rfl); (case hg => rfl); (case hr => first | (go_simp; done) | (go_simp; rfl)); intro gb143 hg w78 hbox hb; have n0_ := Aside0.mk (below_step (by repeat (first | (with_reducible first | exact HB.out | apply below_alloc | apply pw_below_drewN | apply below_drew1) | exact HB.out)) hb); have n1_ := Aside0.mk (hbox); have n2_ := Aside0.mk ((by rw [hg]; exact (below_size (by repeat (first | (with_reducible first | exact HB.out | apply below_alloc | apply pw_below_drewN | apply below_drew1) | exact HB.out))) : w.heap.size ≤ gb143)); have n3_ := Aside0.mk ((by rw [hg]; exact (below_size (by repeat (first | (with_reducible first | exact HB.out | apply below_alloc | apply pw_below_drewN | apply below_drew1) | exact HB.out))) : w.heap.size ≤ gb143)); clear HB; have HB := n0_; have BK143 := n1_; have GW143 := n2_; have GE143 := n3_; clear n0_ n1_ n2_ n3_; clear hb hbox hg; have hcz79_0 : w78.cell? ⟨gb143, 0, none⟩ = some (.int .i64 a0_0) := (blk_cell BK143.out 0).trans rfl; have hcz79_1 : w78.cell? ⟨gb143, 1, none⟩ = some (.int .i64 a0_1) := (blk_cell BK143.out 1).trans rfl; have hcz79_2 : w78.cell? ⟨gb143, 2, none⟩ = some (.string a0_2) := (blk_cell BK143.out 2).trans rfl; have hcz79_3 : w78.cell? ⟨gb143, 3, none⟩ = some (.slice A0_3 l0_3.length c0_3) := (blk_cell BK143.out 3).trans rfl; have hcz79_4 : w78.cell? ⟨gb143, 4, none⟩ = some (.slice A0_4 l0_4.length c0_4) := (blk_cell BK143.out 4).trans rfl; have hfz79_0 := blk_frozen BK143.out 0; have hfz79_1 := blk_frozen BK143.out 1; have hfz79_2 := blk_frozen BK143.out 2; have hfz79_3 := blk_frozen BK143.out 3; have hfz79_4 := blk_frozen BK143.out 4))
         go_ret
         exact ⟨by first | rfl | (simp [errW_none, errW_some] <;> rfl) | (simp [*, errW_none, errW_some] <;> rfl), by repeat (first | (with_reducible first | exact HB.out | apply below_alloc | apply pw_below_drewN | apply below_drew1 | refine below_set ?_ GE143.out) | exact HB.out)⟩
       ·rw [if_neg c69] at H
        have c69b0 : (a0_1 == 0) = false := beq_eq_false_iff_ne.mpr c69
        have c69b1 : (a0_1 != 0) = true := bne_iff_ne.mpr c69
        obtain rfl := Option.some.inj H
        go_enter Tryz.func44, Tryz.ntmps44
        go_wp2_with (first | ((with_reducible refine gate_dst (N := 1) rfl ?_); (try (refine gate_guard (by rfl) ?_; dsimp only)); refine box_event ?hg (N := 1) ?hd (cs := #[.int .i64 a0_0, .int .i64 a0_1, .string a0_2, .slice A0_3 l0_3.length c0_3, .slice A0_4 l0_4.length c0_4]) (t := 25) ?hr ?_; (case hd => rfl); (case hg => rfl); (case hr => first | (go_simp; done) | (go_simp; rfl)); intro gb143 hg w80 hbox hb; have n0_ := Aside0.mk (below_step (by repeat (first | (with_reducible first | exact HB.out | apply below_alloc | apply pw_below_drewN | apply below_drew1) | exact HB.out)) hb); have n1_ := Aside0.mk (hbox); have n2_ := Aside0.mk ((by rw [hg]; exact (below_size (by repeat (first | (with_reducible first | exact HB.out | apply below_alloc | apply pw_below_drewN | apply below_drew1) | exact HB.out))) : w.heap.size ≤ gb143)); have n3_ := Aside0.mk ((by rw [hg]; exact (below_size (by repeat (first | (with_reducible first | exact HB.out | apply below_alloc | apply pw_below_drewN | apply below_drew1) | exact HB.out))) : w.heap.size ≤ gb143)); clear HB; have HB := n0_; have BK143 := n1_; have GW143 := n2_; have GE143 := n3_; clear n0_ n1_ n2_ n3_; clear hb hbox hg; have hcz81_0 : w80.cell? ⟨gb143, 0, none⟩ = some (.int .i64 a0_0) := (blk_cell BK143.out 0).trans rfl; have hcz81_1 : w80.cell? ⟨gb143, 1, none⟩ = some (.int .i64 a0_1) := (blk_cell BK143.out 1).trans rfl; have hcz81_2 : w80.cell? ⟨gb143, 2, none⟩ = some (.string a0_2) := (blk_cell BK143.out 2).trans rfl; have hcz81_3 : w80.cell? ⟨gb143, 3, none⟩ = some (.slice A0_3 l0_3.length c0_3) := (blk_cell BK143.out 3).trans rfl; have hcz81_4 : w80.cell? ⟨gb143, 4, none⟩ = some (.slice A0_4 l0_4.length c0_4) := (blk_cell BK143.out 4).trans rfl; have hfz81_0 := blk_frozen BK143.out 0; have hfz81_1 := blk_frozen BK143.out 1; have hfz81_2 := blk_frozen BK143.out 2; have hfz81_3 := blk_frozen BK143.out 3; have hfz81_4 := blk_frozen BK143.out 4))
        go_ret
        exact ⟨by first | rfl | (simp [errW_none, errW_some] <;> rfl) | (simp [*, errW_none, errW_some] <;> rfl), by repeat (first | (with_reducible first | exact HB.out | apply below_alloc | apply pw_below_drewN | apply below_drew1 | refine below_set ?_ GE143.out) | exact HB.out)⟩
      ·rw [if_neg c68] at H
       have c68b0 : (a0_0 == 5) = false := beq_eq_false_iff_ne.mpr c68
       have c68b1 : (a0_0 != 5) = true := bne_iff_ne.mpr c68
       obtain rfl := Option.some.inj H
       go_enter Tryz.func44, Tryz.ntmps44
       go_wp2_with (first | ((with_reducible refine gate_dst (N := 1) rfl ?_); (try (refine gate_guard (by rfl) ?_; dsimp only)); refine box_event ?hg (N := 1) ?hd (cs := #[.int .i64 a0_0, .int .i64 a0_1, .string a0_2, .slice A0_3 l0_3.length c0_3, .slice A0_4 l0_4.length c0_4]) (t := 25) ?hr ?_; (case hd => rfl); (case hg => rfl); (case hr => first | (go_simp; done) | (go_simp; rfl)); intro gb143 hg w82 hbox hb; have n0_ := Aside0.mk (below_step (by repeat (first | (with_reducible first | exact HB.out | apply below_alloc | apply pw_below_drewN | apply below_drew1) | exact HB.out)) hb); have n1_ := Aside0.mk (hbox); have n2_ := Aside0.mk ((by rw [hg]; exact (below_size (by repeat (first | (with_reducible first | exact HB.out | apply below_alloc | apply pw_below_drewN | apply below_drew1) | exact HB.out))) : w.heap.size ≤ gb143)); have n3_ := Aside0.mk ((by rw [hg]; exact (below_size (by repeat (first | (with_reducible first | exact HB.out | apply below_alloc | apply pw_below_drewN | apply below_drew1) | exact HB.out))) : w.heap.size ≤ gb143)); clear HB; have HB := n0_; have BK143 := n1_; have GW143 := n2_; have GE143 := n3_; clear n0_ n1_ n2_ n3_; clear hb hbox hg; have hcz83_0 : w82.cell? ⟨gb143, 0, none⟩ = some (.int .i64 a0_0) := (blk_cell BK143.out 0).trans rfl; have hcz83_1 : w82.cell? ⟨gb143, 1, none⟩ = some (.int .i64 a0_1) := (blk_cell BK143.out 1).trans rfl; have hcz83_2 : w82.cell? ⟨gb143, 2, none⟩ = some (.string a0_2) := (blk_cell BK143.out 2).trans rfl; have hcz83_3 : w82.cell? ⟨gb143, 3, none⟩ = some (.slice A0_3 l0_3.length c0_3) := (blk_cell BK143.out 3).trans rfl; have hcz83_4 : w82.cell? ⟨gb143, 4, none⟩ = some (.slice A0_4 l0_4.length c0_4) := (blk_cell BK143.out 4).trans rfl; have hfz83_0 := blk_frozen BK143.out 0; have hfz83_1 := blk_frozen BK143.out 1; have hfz83_2 := blk_frozen BK143.out 2; have hfz83_3 := blk_frozen BK143.out 3; have hfz83_4 := blk_frozen BK143.out 4))
       go_ret
       exact ⟨by first | rfl | (simp [errW_none, errW_some] <;> rfl) | (simp [*, errW_none, errW_some] <;> rfl), by repeat (first | (with_reducible first | exact HB.out | apply below_alloc | apply pw_below_drewN | apply below_drew1 | refine below_set ?_ GE143.out) | exact HB.out)⟩

end
end Go.Proofs.YtegppacnkfeaoaaGreatDoor.G

/- Go functions as Lean functions, each with its contract: written by a program of mine over the kit's print. Conditions: each contract's own. -/
namespace Go.Proofs.YtegppacnkfeaoaaGreatDoor.G
open Go.RowKit Go.Proofs.YtegppacnkfeaoaaGreatDoorW.PrintWords Go.Proofs.YtegppacnkfeaoaaGreatDoorW.PrintLast Go.Proofs.YtegppacnkfeaoaaGreatDoorW.PrintMore
attribute [local go_sem] max2_int min2_int max_two min_two max_three min_three max_four min_four   -- for this text's walks alone
set_option linter.unusedVariables false
set_option linter.unusedSimpArgs false
noncomputable section
variable [Inhabited Bound]

/-! ### bloomeryref11_nodes: function 29 -/
mutual
def bloomeryref11_nodes.l0 : Nat → Int → Int → Int → Int → ByteArray → List (S25) → List ByteArray → Option (Bool)
 | 0, _, _, _, _, _, _, _ => none
 | k + 1, x6, x7, x146000, x146001, x146002, x146003, x146004 => if x7 < x6 then (if 0 ≤ x7 then (if x7 < (x146003.length : Int) then ((bloomeryref11_nodes.f k ((rd_T25 x146003 x7).f0) ((rd_T25 x146003 x7).f1) ((rd_T25 x146003 x7).f2) ((rd_T25 x146003 x7).f3) ((rd_T25 x146003 x7).f4)).bind fun t147 => (if t147 = true then (bloomeryref11_nodes.l0 k x6 (wrap64 (x7 + 1)) x146000 x146001 x146002 x146003 x146004) else (some false))) else (none)) else (none)) else ((bloomeryref11_node.f k x146000 x146001 x146002 x146003 x146004).bind fun t148 => (some t148))
def bloomeryref11_nodes.f : Nat → Int → Int → ByteArray → List (S25) → List ByteArray → Option (Bool)
 | 0, _, _, _, _, _ => none
 | k + 1, a0_0, a0_1, a0_2, l0_3, l0_4 => bloomeryref11_nodes.l0 k (l0_3.length : Int) 0 a0_0 a0_1 a0_2 l0_3 l0_4
end
set_option maxHeartbeats 8000000 in
set_option maxRecDepth 100000 in
theorem bloomeryref11_nodes.calls (k : Nat) : ∀ (a0_0 : Int) (a0_1 : Int) (a0_2 : ByteArray) (A0_3 : Option Addr) (c0_3 : Nat) (l0_3 : List (S25)) (A0_4 : Option Addr) (c0_4 : Nat) (l0_4 : List ByteArray) (r : Bool) (w : World) (hr0_3 : Kd.C k25 w A0_3 l0_3.length l0_3) (hc0_3 : l0_3.length ≤ c0_3) (hr0_4 : Kd.C Kd.string w A0_4 l0_4.length l0_4) (hc0_4 : l0_4.length ≤ c0_4) (h : bloomeryref11_nodes.f k a0_0 a0_1 a0_2 l0_3 l0_4 = some r),
  Calls Tryz.prog 29 #[.agg #[.int .i64 a0_0, .int .i64 a0_1, .string a0_2, .slice A0_3 l0_3.length c0_3, .slice A0_4 l0_4.length c0_4]] w fun e w' => e = .returned (.bool r) ∧ Below w.heap.size w w' := by
 induction k using Nat.strongRecOn with
 | _ k ih =>
 intro a0_0 a0_1 a0_2 A0_3 c0_3 l0_3 A0_4 c0_4 l0_4 r w hr0_3 hc0_3 hr0_4 hc0_4 h
 cases k with
 | zero => exact absurd h (by simp [bloomeryref11_nodes.f])
 | succ k =>
 simp only [bloomeryref11_nodes.f] at h
 have hu25 := Tryz.underlying25
 have HR0_3 := Aside0.mk hr0_3
 have HC0_3 := Aside0.mk hc0_3
 clear hr0_3 hc0_3
 have HR0_4 := Aside0.mk hr0_4
 have HC0_4 := Aside0.mk hc0_4
 clear hr0_4 hc0_4
 have HB := Aside0.mk (Below.refl w.heap.size w)
 have H : (bloomeryref11_nodes.l0 k (l0_3.length : Int) 0 a0_0 a0_1 a0_2 l0_3 l0_4) = some r := h
 clear h
 have H' := Aside0.mk H
 clear H
 go_enter Tryz.func29, Tryz.ntmps29
 go_wp2_with (first | ((with_reducible refine gate_dst (N := 1) rfl ?_); refine box_event ?hg (N := 1) ?hd (cs := #[.int .i64 a0_0, .int .i64 a0_1, .string a0_2, .slice A0_3 l0_3.length c0_3, .slice A0_4 l0_4.length c0_4]) (t := 25) ?hr ?_; (case hd => rfl); (case hg => rfl); (case hr => first | (go_simp; done) | (go_simp; rfl)); intro gb145 hg w2 hbox hb; have n0_ := Aside0.mk (below_step (by repeat (first | (with_reducible first | exact HB.out | apply below_alloc | apply pw_below_drewN | apply below_drew1) | exact HB.out)) hb); have n1_ := Aside0.mk (hbox); have n2_ := Aside0.mk ((by rw [hg]; exact (below_size (by repeat (first | (with_reducible first | exact HB.out | apply below_alloc | apply pw_below_drewN | apply below_drew1) | exact HB.out))) : w.heap.size ≤ gb145)); have n3_ := Aside0.mk ((by rw [hg]; exact (below_size (by repeat (first | (with_reducible first | exact HB.out | apply below_alloc | apply pw_below_drewN | apply below_drew1) | exact HB.out))) : w.heap.size ≤ gb145)); clear HB; have HB := n0_; have BK145 := n1_; have GW145 := n2_; have GE145 := n3_; clear n0_ n1_ n2_ n3_; clear hb hbox hg; have hcz3_0 : w2.cell? ⟨gb145, 0, none⟩ = some (.int .i64 a0_0) := (blk_cell BK145.out 0).trans rfl; have hcz3_1 : w2.cell? ⟨gb145, 1, none⟩ = some (.int .i64 a0_1) := (blk_cell BK145.out 1).trans rfl; have hcz3_2 : w2.cell? ⟨gb145, 2, none⟩ = some (.string a0_2) := (blk_cell BK145.out 2).trans rfl; have hcz3_3 : w2.cell? ⟨gb145, 3, none⟩ = some (.slice A0_3 l0_3.length c0_3) := (blk_cell BK145.out 3).trans rfl; have hcz3_4 : w2.cell? ⟨gb145, 4, none⟩ = some (.slice A0_4 l0_4.length c0_4) := (blk_cell BK145.out 4).trans rfl; have hfz3_0 := blk_frozen BK145.out 0; have hfz3_1 := blk_frozen BK145.out 1; have hfz3_2 := blk_frozen BK145.out 2; have hfz3_3 := blk_frozen BK145.out 3; have hfz3_4 := blk_frozen BK145.out 4))
 go_loopg [7] k (fun kq v7 w' => ∃ (x7_1 : Int), v7 = .int .i64 x7_1 ∧ Aside0 (bloomeryref11_nodes.l0 kq (l0_3.length : Int) x7_1 a0_0 a0_1 a0_2 l0_3 l0_4 = some r) ∧ Aside0 (kq ≤ k) ∧ Aside0 (w'.heap[gb145]? = some (.cells #[.int .i64 a0_0, .int .i64 a0_1, .string a0_2, (.slice A0_3 l0_3.length c0_3), (.slice A0_4 l0_4.length c0_4)] 25 (0, 0))) ∧ Aside0 (Below w.heap.size w w'))
 case atStart => exact ⟨(0), (by first | rfl | (simp; done) | (simp [*]; done)), (by first | exact H' | (subst_vars; exact H')), ⟨Nat.le_refl _⟩, ⟨by (with_reducible repeat (first | refine blk_drewN ?_ _ | refine blk_drew ?_ | refine blk_alloc ?_ _)); exact BK145.out⟩, ⟨by repeat (first | (with_reducible first | exact HB.out | apply below_alloc | apply pw_below_drewN | apply below_drew1 | refine below_set ?_ GE145.out) | exact HB.out)⟩⟩
 case round =>
  clear H'
  try clear c2
  try clear p2
  try clear hcz3_0
  try clear hcz3_1
  try clear hcz3_2
  try clear hcz3_3
  try clear hcz3_4
  try clear hfz3_0
  try clear hfz3_1
  try clear hfz3_2
  try clear hfz3_3
  try clear hfz3_4
  obtain ⟨x7_1, rfl, HA, HK1, BK145, HB⟩ := hrel
  cases gk with
  | zero => exact absurd HA.out (by simp [bloomeryref11_nodes.l0])
  | succ k1 =>
   have H := HA.out
   clear HA
   simp only [bloomeryref11_nodes.l0] at H
   by_cases c4 : x7_1 < (l0_3.length : Int)
   ·rw [if_pos c4] at H
    have c4b0 : decide (x7_1 < (l0_3.length : Int)) = true := decide_eq_true c4
    clear c4
    by_cases c5 : 0 ≤ x7_1
    ·rw [if_pos c5] at H
     have c5b0 : decide (0 ≤ x7_1) = true := decide_eq_true c5
     clear c5
     by_cases c6 : x7_1 < (l0_3.length : Int)
     ·rw [if_pos c6] at H
      have c6b0 : decide (x7_1 < (l0_3.length : Int)) = true := decide_eq_true c6
      clear c6
      replace H := Option.bind_eq_some_iff.mp H
      obtain ⟨t147, A70, H⟩ := H
      replace H : (if t147 = true then (bloomeryref11_nodes.l0 k1 (l0_3.length : Int) (wrap64 (x7_1 + 1)) a0_0 a0_1 a0_2 l0_3 l0_4) else (some false)) = some r := H
      have A7 := Aside0.mk A70
      clear A70
      by_cases c8 : t147 = true
      ·subst c8
       have H1 : (bloomeryref11_nodes.l0 k1 (l0_3.length : Int) (wrap64 (x7_1 + 1)) a0_0 a0_1 a0_2 l0_3 l0_4) = some r := by rw [if_pos rfl] at H; exact H
       clear H
       have H := H1
       clear H1
       have H' := Aside0.mk H
       clear H
       have hcz9_0 : wr.cell? ⟨gb145, 0, none⟩ = some (.int .i64 a0_0) := (blk_cell BK145.out 0).trans rfl
       have hcz9_1 : wr.cell? ⟨gb145, 1, none⟩ = some (.int .i64 a0_1) := (blk_cell BK145.out 1).trans rfl
       have hcz9_2 : wr.cell? ⟨gb145, 2, none⟩ = some (.string a0_2) := (blk_cell BK145.out 2).trans rfl
       have hcz9_3 : wr.cell? ⟨gb145, 3, none⟩ = some (.slice A0_3 l0_3.length c0_3) := (blk_cell BK145.out 3).trans rfl
       have hcz9_4 : wr.cell? ⟨gb145, 4, none⟩ = some (.slice A0_4 l0_4.length c0_4) := (blk_cell BK145.out 4).trans rfl
       have hfz9_0 := blk_frozen BK145.out 0
       have hfz9_1 := blk_frozen BK145.out 1
       have hfz9_2 := blk_frozen BK145.out 2
       have hfz9_3 := blk_frozen BK145.out 3
       have hfz9_4 := blk_frozen BK145.out 4
       have p146 : 0 ≤ (x7_1 : Int) := of_decide_eq_true (by first | (with_reducible assumption) | assumption)
       have q146 : x7_1 < (l0_3.length : Int) := of_decide_eq_true (by first | (with_reducible assumption) | assumption)
       obtain ⟨ad146, A146_3, c146_3, A146_4, c146_4, e146, hx146_0, hx146_1, hx146_2, hx146_3, hx146_4, hl146_3, hi146_3, hl146_4, hi146_4⟩ := at_T25 HR0_3.out x7_1 p146 q146
       cases e146
       replace hx146_0 := (HB.out.cell (World.block_lt_of_cell? w _ hx146_0)).trans hx146_0
       replace hx146_1 := (HB.out.cell (World.block_lt_of_cell? w _ hx146_1)).trans hx146_1
       replace hx146_2 := (HB.out.cell (World.block_lt_of_cell? w _ hx146_2)).trans hx146_2
       replace hx146_3 := (HB.out.cell (World.block_lt_of_cell? w _ hx146_3)).trans hx146_3
       replace hx146_4 := (HB.out.cell (World.block_lt_of_cell? w _ hx146_4)).trans hx146_4
       have HR146_3 := Aside0.mk hi146_3
       have HC146_3 := Aside0.mk hl146_3
       clear hi146_3 hl146_3
       have HR146_4 := Aside0.mk hi146_4
       have HC146_4 := Aside0.mk hl146_4
       clear hi146_4 hl146_4
       replace p146 := eq_true p146
       replace q146 := eq_true q146
       go_wp2_with (first | ((with_reducible refine gate_callee (f := 29) rfl ?_); refine goesL_ (some 15) rfl rfl Tryz.func29 (by kernel_rfl) rfl #[.agg #[.int .i64 ((rd_T25 l0_3 x7_1).f0), .int .i64 ((rd_T25 l0_3 x7_1).f1), .string ((rd_T25 l0_3 x7_1).f2), .slice A146_3 ((rd_T25 l0_3 x7_1).f3).length c146_3, .slice A146_4 ((rd_T25 l0_3 x7_1).f4).length c146_4]] rfl (by (try simp only [List.map_toArray, List.map_cons, List.map_nil]); first | done | rfl | (simp only [List.length_drop, List.length_take]; rfl)) ?_; (with_reducible refine (ih k1 (by have := HK1.out; omega) ((rd_T25 l0_3 x7_1).f0) ((rd_T25 l0_3 x7_1).f1) ((rd_T25 l0_3 x7_1).f2) _ _ ((rd_T25 l0_3 x7_1).f3) _ _ ((rd_T25 l0_3 x7_1).f4) true _ ?side1 ?side2 ?side3 ?side4 A7.out).mono ?_); (case side1 => repeat (first | exact (Kd.C_below HR146_3.out HB.out) | (with_reducible refine Kd.C_alloc ?_ _) | (with_reducible refine Kd.C_drewN ?_ _) | (with_reducible refine Kd.C_drew ?_))); (case side2 => exact HC146_3.out); (case side3 => repeat (first | exact (Kd.C_below HR146_4.out HB.out) | (with_reducible refine Kd.C_alloc ?_ _) | (with_reducible refine Kd.C_drewN ?_ _) | (with_reducible refine Kd.C_drew ?_))); (case side4 => exact HC146_4.out); rintro e w10 ⟨rfl, hb⟩; refine ⟨_, rfl, ?_⟩; have n0_ := Aside0.mk (blk_below (g := gb145) (o := .cells #[.int .i64 a0_0, .int .i64 a0_1, .string a0_2, .slice (some ad146) l0_3.length c0_3, .slice A0_4 l0_4.length c0_4] 25 (0, 0)) (by (with_reducible repeat (first | refine blk_drewN ?_ _ | refine blk_drew ?_ | refine blk_alloc ?_ _)); exact BK145.out) hb); have n1_ := Aside0.mk (below_step (by repeat (first | (with_reducible first | exact HB.out | apply below_alloc | apply pw_below_drewN | apply below_drew1 | refine below_set ?_ GE145.out) | exact HB.out)) hb); clear BK145; clear HB; have BK145 := n0_; have HB := n1_; clear n0_ n1_; (try clear hb); (try clear hb2); (try clear hk); (try clear hi)))
       go_roundg k1
       case measure => have := HK1.out; omega
       case rel => exact ⟨(wrap64 (x7_1 + 1)), (by first | rfl | (simp; done) | (simp [*]; done)), (by first | exact H' | (subst_vars; exact H')), ⟨by have := HK1.out; omega⟩, ⟨by (with_reducible repeat (first | refine blk_drewN ?_ _ | refine blk_drew ?_ | refine blk_alloc ?_ _)); exact BK145.out⟩, ⟨by repeat (first | (with_reducible first | exact HB.out | apply below_alloc | apply pw_below_drewN | apply below_drew1 | refine below_set ?_ GE145.out) | exact HB.out)⟩⟩
      ·replace c8 := Bool.eq_false_iff.mpr c8
       subst c8
       have H1 : (some false) = some r := by rw [if_neg (show ¬ (false = true) by decide)] at H; exact H
       clear H
       have H := H1
       clear H1
       obtain rfl := Option.some.inj H
       have hcz11_0 : wr.cell? ⟨gb145, 0, none⟩ = some (.int .i64 a0_0) := (blk_cell BK145.out 0).trans rfl
       have hcz11_1 : wr.cell? ⟨gb145, 1, none⟩ = some (.int .i64 a0_1) := (blk_cell BK145.out 1).trans rfl
       have hcz11_2 : wr.cell? ⟨gb145, 2, none⟩ = some (.string a0_2) := (blk_cell BK145.out 2).trans rfl
       have hcz11_3 : wr.cell? ⟨gb145, 3, none⟩ = some (.slice A0_3 l0_3.length c0_3) := (blk_cell BK145.out 3).trans rfl
       have hcz11_4 : wr.cell? ⟨gb145, 4, none⟩ = some (.slice A0_4 l0_4.length c0_4) := (blk_cell BK145.out 4).trans rfl
       have hfz11_0 := blk_frozen BK145.out 0
       have hfz11_1 := blk_frozen BK145.out 1
       have hfz11_2 := blk_frozen BK145.out 2
       have hfz11_3 := blk_frozen BK145.out 3
       have hfz11_4 := blk_frozen BK145.out 4
       have p146 : 0 ≤ (x7_1 : Int) := of_decide_eq_true (by first | (with_reducible assumption) | assumption)
       have q146 : x7_1 < (l0_3.length : Int) := of_decide_eq_true (by first | (with_reducible assumption) | assumption)
       obtain ⟨ad146, A146_3, c146_3, A146_4, c146_4, e146, hx146_0, hx146_1, hx146_2, hx146_3, hx146_4, hl146_3, hi146_3, hl146_4, hi146_4⟩ := at_T25 HR0_3.out x7_1 p146 q146
       cases e146
       replace hx146_0 := (HB.out.cell (World.block_lt_of_cell? w _ hx146_0)).trans hx146_0
       replace hx146_1 := (HB.out.cell (World.block_lt_of_cell? w _ hx146_1)).trans hx146_1
       replace hx146_2 := (HB.out.cell (World.block_lt_of_cell? w _ hx146_2)).trans hx146_2
       replace hx146_3 := (HB.out.cell (World.block_lt_of_cell? w _ hx146_3)).trans hx146_3
       replace hx146_4 := (HB.out.cell (World.block_lt_of_cell? w _ hx146_4)).trans hx146_4
       have HR146_3 := Aside0.mk hi146_3
       have HC146_3 := Aside0.mk hl146_3
       clear hi146_3 hl146_3
       have HR146_4 := Aside0.mk hi146_4
       have HC146_4 := Aside0.mk hl146_4
       clear hi146_4 hl146_4
       replace p146 := eq_true p146
       replace q146 := eq_true q146
       go_wp2_with (first | ((with_reducible refine gate_callee (f := 29) rfl ?_); refine goesL_ (some 15) rfl rfl Tryz.func29 (by kernel_rfl) rfl #[.agg #[.int .i64 ((rd_T25 l0_3 x7_1).f0), .int .i64 ((rd_T25 l0_3 x7_1).f1), .string ((rd_T25 l0_3 x7_1).f2), .slice A146_3 ((rd_T25 l0_3 x7_1).f3).length c146_3, .slice A146_4 ((rd_T25 l0_3 x7_1).f4).length c146_4]] rfl (by (try simp only [List.map_toArray, List.map_cons, List.map_nil]); first | done | rfl | (simp only [List.length_drop, List.length_take]; rfl)) ?_; (with_reducible refine (ih k1 (by have := HK1.out; omega) ((rd_T25 l0_3 x7_1).f0) ((rd_T25 l0_3 x7_1).f1) ((rd_T25 l0_3 x7_1).f2) _ _ ((rd_T25 l0_3 x7_1).f3) _ _ ((rd_T25 l0_3 x7_1).f4) false _ ?side1 ?side2 ?side3 ?side4 A7.out).mono ?_); (case side1 => repeat (first | exact (Kd.C_below HR146_3.out HB.out) | (with_reducible refine Kd.C_alloc ?_ _) | (with_reducible refine Kd.C_drewN ?_ _) | (with_reducible refine Kd.C_drew ?_))); (case side2 => exact HC146_3.out); (case side3 => repeat (first | exact (Kd.C_below HR146_4.out HB.out) | (with_reducible refine Kd.C_alloc ?_ _) | (with_reducible refine Kd.C_drewN ?_ _) | (with_reducible refine Kd.C_drew ?_))); (case side4 => exact HC146_4.out); rintro e w12 ⟨rfl, hb⟩; refine ⟨_, rfl, ?_⟩; have n0_ := Aside0.mk (blk_below (g := gb145) (o := .cells #[.int .i64 a0_0, .int .i64 a0_1, .string a0_2, .slice (some ad146) l0_3.length c0_3, .slice A0_4 l0_4.length c0_4] 25 (0, 0)) (by (with_reducible repeat (first | refine blk_drewN ?_ _ | refine blk_drew ?_ | refine blk_alloc ?_ _)); exact BK145.out) hb); have n1_ := Aside0.mk (below_step (by repeat (first | (with_reducible first | exact HB.out | apply below_alloc | apply pw_below_drewN | apply below_drew1 | refine below_set ?_ GE145.out) | exact HB.out)) hb); clear BK145; clear HB; have BK145 := n0_; have HB := n1_; clear n0_ n1_; (try clear hb); (try clear hb2); (try clear hk); (try clear hi)))
       go_ret
       exact ⟨by first | rfl | (simp [errW_none, errW_some] <;> rfl) | (simp [*, errW_none, errW_some] <;> rfl), by repeat (first | (with_reducible first | exact HB.out | apply below_alloc | apply pw_below_drewN | apply below_drew1 | refine below_set ?_ GE145.out) | exact HB.out)⟩
     ·rw [if_neg c6] at H
      exact absurd H (by simp)
    ·rw [if_neg c5] at H
     exact absurd H (by simp)
   ·rw [if_neg c4] at H
    have c4b0 : decide (x7_1 < (l0_3.length : Int)) = false := decide_eq_false c4
    clear c4
    replace H := Option.bind_eq_some_iff.mp H
    obtain ⟨t148, A130, H⟩ := H
    replace H : (some t148) = some r := H
    have A13 := Aside0.mk A130
    clear A130
    obtain rfl := Option.some.inj H
    have hcz14_0 : wr.cell? ⟨gb145, 0, none⟩ = some (.int .i64 a0_0) := (blk_cell BK145.out 0).trans rfl
    have hcz14_1 : wr.cell? ⟨gb145, 1, none⟩ = some (.int .i64 a0_1) := (blk_cell BK145.out 1).trans rfl
    have hcz14_2 : wr.cell? ⟨gb145, 2, none⟩ = some (.string a0_2) := (blk_cell BK145.out 2).trans rfl
    have hcz14_3 : wr.cell? ⟨gb145, 3, none⟩ = some (.slice A0_3 l0_3.length c0_3) := (blk_cell BK145.out 3).trans rfl
    have hcz14_4 : wr.cell? ⟨gb145, 4, none⟩ = some (.slice A0_4 l0_4.length c0_4) := (blk_cell BK145.out 4).trans rfl
    have hfz14_0 := blk_frozen BK145.out 0
    have hfz14_1 := blk_frozen BK145.out 1
    have hfz14_2 := blk_frozen BK145.out 2
    have hfz14_3 := blk_frozen BK145.out 3
    have hfz14_4 := blk_frozen BK145.out 4
    go_wp2_with (first | ((with_reducible refine gate_callee (f := 44) rfl ?_); refine goesL_ (some 19) rfl rfl Tryz.func44 (by kernel_rfl) rfl #[.agg #[.int .i64 a0_0, .int .i64 a0_1, .string a0_2, .slice A0_3 l0_3.length c0_3, .slice A0_4 l0_4.length c0_4]] rfl (by (try simp only [List.map_toArray, List.map_cons, List.map_nil]); first | done | rfl | (simp only [List.length_drop, List.length_take]; rfl)) ?_; (with_reducible refine (bloomeryref11_node.calls k1 a0_0 a0_1 a0_2 _ _ l0_3 _ _ l0_4 t148 _ ?side1 ?side2 ?side3 ?side4 A13.out).mono ?_); (case side1 => repeat (first | exact (Kd.C_below HR0_3.out HB.out) | (with_reducible refine Kd.C_alloc ?_ _) | (with_reducible refine Kd.C_drewN ?_ _) | (with_reducible refine Kd.C_drew ?_))); (case side2 => exact HC0_3.out); (case side3 => repeat (first | exact (Kd.C_below HR0_4.out HB.out) | (with_reducible refine Kd.C_alloc ?_ _) | (with_reducible refine Kd.C_drewN ?_ _) | (with_reducible refine Kd.C_drew ?_))); (case side4 => exact HC0_4.out); rintro e w15 ⟨rfl, hb⟩; refine ⟨_, rfl, ?_⟩; have n0_ := Aside0.mk (blk_below (g := gb145) (o := .cells #[.int .i64 a0_0, .int .i64 a0_1, .string a0_2, .slice A0_3 l0_3.length c0_3, .slice A0_4 l0_4.length c0_4] 25 (0, 0)) (by (with_reducible repeat (first | refine blk_drewN ?_ _ | refine blk_drew ?_ | refine blk_alloc ?_ _)); exact BK145.out) hb); have n1_ := Aside0.mk (below_step (by repeat (first | (with_reducible first | exact HB.out | apply below_alloc | apply pw_below_drewN | apply below_drew1 | refine below_set ?_ GE145.out) | exact HB.out)) hb); clear BK145; clear HB; have BK145 := n0_; have HB := n1_; clear n0_ n1_; (try clear hb); (try clear hb2); (try clear hk); (try clear hi)))
    go_ret
    exact ⟨by first | rfl | (simp [errW_none, errW_some] <;> rfl) | (simp [*, errW_none, errW_some] <;> rfl), by repeat (first | (with_reducible first | exact HB.out | apply below_alloc | apply pw_below_drewN | apply below_drew1 | refine below_set ?_ GE145.out) | exact HB.out)⟩

end
end Go.Proofs.YtegppacnkfeaoaaGreatDoor.G

/- Go functions as Lean functions, each with its contract: written by a program of mine over the kit's print. Conditions: each contract's own. -/
namespace Go.Proofs.YtegppacnkfeaoaaGreatDoor.G
open Go.RowKit Go.Proofs.YtegppacnkfeaoaaGreatDoorW.PrintWords Go.Proofs.YtegppacnkfeaoaaGreatDoorW.PrintLast Go.Proofs.YtegppacnkfeaoaaGreatDoorW.PrintMore
attribute [local go_sem] max2_int min2_int max_two min_two max_three min_three max_four min_four   -- for this text's walks alone
set_option linter.unusedVariables false
set_option linter.unusedSimpArgs false
noncomputable section
variable [Inhabited Bound]

/-! ### bloomeryref11_Check: function 14 -/
def bloomeryref11_Check.f (k : Nat) (a0_0 : Int) (a0_1 : Int) (a0_2 : ByteArray) (l0_3 : List (S25)) (l0_4 : List ByteArray) : Option (Bool) := (bloomeryref11_many.f k a0_0 a0_1 a0_2 l0_3 l0_4 20000).bind fun t150 => (if t150 ≤ 20000 then ((bloomeryref11_deep.f k a0_0 a0_1 a0_2 l0_3 l0_4 60).bind fun t151 => (if t151 ≤ 60 then ((bloomeryref11_nodes.f k a0_0 a0_1 a0_2 l0_3 l0_4).bind fun t152 => (some t152)) else (some false))) else (some false))
set_option maxHeartbeats 8000000 in
set_option maxRecDepth 100000 in
theorem bloomeryref11_Check.calls (k : Nat) (a0_0 : Int) (a0_1 : Int) (a0_2 : ByteArray) (A0_3 : Option Addr) (c0_3 : Nat) (l0_3 : List (S25)) (A0_4 : Option Addr) (c0_4 : Nat) (l0_4 : List ByteArray) (r : Bool) (w : World) (hr0_3 : Kd.C k25 w A0_3 l0_3.length l0_3) (hc0_3 : l0_3.length ≤ c0_3) (hr0_4 : Kd.C Kd.string w A0_4 l0_4.length l0_4) (hc0_4 : l0_4.length ≤ c0_4) (h : bloomeryref11_Check.f k a0_0 a0_1 a0_2 l0_3 l0_4 = some r) :
  Calls Tryz.prog 14 #[.agg #[.int .i64 a0_0, .int .i64 a0_1, .string a0_2, .slice A0_3 l0_3.length c0_3, .slice A0_4 l0_4.length c0_4]] w fun e w' => e = .returned (.bool r) ∧ Below w.heap.size w w' := by
 have hu25 := Tryz.underlying25
 have HR0_3 := Aside0.mk hr0_3
 have HC0_3 := Aside0.mk hc0_3
 clear hr0_3 hc0_3
 have HR0_4 := Aside0.mk hr0_4
 have HC0_4 := Aside0.mk hc0_4
 clear hr0_4 hc0_4
 have HB := Aside0.mk (Below.refl w.heap.size w)
 have H : ((bloomeryref11_many.f k a0_0 a0_1 a0_2 l0_3 l0_4 20000).bind fun t150 => (if t150 ≤ 20000 then ((bloomeryref11_deep.f k a0_0 a0_1 a0_2 l0_3 l0_4 60).bind fun t151 => (if t151 ≤ 60 then ((bloomeryref11_nodes.f k a0_0 a0_1 a0_2 l0_3 l0_4).bind fun t152 => (some t152)) else (some false))) else (some false))) = some r := h
 clear h
 replace H := Option.bind_eq_some_iff.mp H
 obtain ⟨t150, A20, H⟩ := H
 replace H : (if t150 ≤ 20000 then ((bloomeryref11_deep.f k a0_0 a0_1 a0_2 l0_3 l0_4 60).bind fun t151 => (if t151 ≤ 60 then ((bloomeryref11_nodes.f k a0_0 a0_1 a0_2 l0_3 l0_4).bind fun t152 => (some t152)) else (some false))) else (some false)) = some r := H
 have A2 := Aside0.mk A20
 clear A20
 by_cases c3 : t150 ≤ 20000
 ·rw [if_pos c3] at H
  have c3b0 : decide (t150 ≤ 20000) = true := decide_eq_true c3
  clear c3
  replace H := Option.bind_eq_some_iff.mp H
  obtain ⟨t151, A40, H⟩ := H
  replace H : (if t151 ≤ 60 then ((bloomeryref11_nodes.f k a0_0 a0_1 a0_2 l0_3 l0_4).bind fun t152 => (some t152)) else (some false)) = some r := H
  have A4 := Aside0.mk A40
  clear A40
  by_cases c5 : t151 ≤ 60
  ·rw [if_pos c5] at H
   have c5b0 : decide (t151 ≤ 60) = true := decide_eq_true c5
   clear c5
   replace H := Option.bind_eq_some_iff.mp H
   obtain ⟨t152, A60, H⟩ := H
   replace H : (some t152) = some r := H
   have A6 := Aside0.mk A60
   clear A60
   obtain rfl := Option.some.inj H
   go_enter Tryz.func14, Tryz.ntmps14
   go_wp2_with (first | ((with_reducible refine gate_dst (N := 1) rfl ?_); refine box_event ?hg (N := 1) ?hd (cs := #[.int .i64 a0_0, .int .i64 a0_1, .string a0_2, .slice A0_3 l0_3.length c0_3, .slice A0_4 l0_4.length c0_4]) (t := 25) ?hr ?_; (case hd => rfl); (case hg => rfl); (case hr => first | (go_simp; done) | (go_simp; rfl)); intro gb149 hg w7 hbox hb; have n0_ := Aside0.mk (below_step (by repeat (first | (with_reducible first | exact HB.out | apply below_alloc | apply pw_below_drewN | apply below_drew1) | exact HB.out)) hb); have n1_ := Aside0.mk (hbox); have n2_ := Aside0.mk ((by rw [hg]; exact (below_size (by repeat (first | (with_reducible first | exact HB.out | apply below_alloc | apply pw_below_drewN | apply below_drew1) | exact HB.out))) : w.heap.size ≤ gb149)); have n3_ := Aside0.mk ((by rw [hg]; exact (below_size (by repeat (first | (with_reducible first | exact HB.out | apply below_alloc | apply pw_below_drewN | apply below_drew1) | exact HB.out))) : w.heap.size ≤ gb149)); clear HB; have HB := n0_; have BK149 := n1_; have GW149 := n2_; have GE149 := n3_; clear n0_ n1_ n2_ n3_; clear hb hbox hg; have hcz8_0 : w7.cell? ⟨gb149, 0, none⟩ = some (.int .i64 a0_0) := (blk_cell BK149.out 0).trans rfl; have hcz8_1 : w7.cell? ⟨gb149, 1, none⟩ = some (.int .i64 a0_1) := (blk_cell BK149.out 1).trans rfl; have hcz8_2 : w7.cell? ⟨gb149, 2, none⟩ = some (.string a0_2) := (blk_cell BK149.out 2).trans rfl; have hcz8_3 : w7.cell? ⟨gb149, 3, none⟩ = some (.slice A0_3 l0_3.length c0_3) := (blk_cell BK149.out 3).trans rfl; have hcz8_4 : w7.cell? ⟨gb149, 4, none⟩ = some (.slice A0_4 l0_4.length c0_4) := (blk_cell BK149.out 4).trans rfl; have hfz8_0 := blk_frozen BK149.out 0; have hfz8_1 := blk_frozen BK149.out 1; have hfz8_2 := blk_frozen BK149.out 2; have hfz8_3 := blk_frozen BK149.out 3; have hfz8_4 := blk_frozen BK149.out 4) | ((with_reducible refine gate_callee (f := 27) rfl ?_); refine goesL_ (some 4) rfl rfl Tryz.func27 (by kernel_rfl) rfl #[.agg #[.int .i64 a0_0, .int .i64 a0_1, .string a0_2, .slice A0_3 l0_3.length c0_3, .slice A0_4 l0_4.length c0_4], .int .i64 20000] rfl (by (try simp only [List.map_toArray, List.map_cons, List.map_nil]); first | done | rfl | (simp only [List.length_drop, List.length_take]; rfl)) ?_; (with_reducible refine (bloomeryref11_many.calls k a0_0 a0_1 a0_2 _ _ l0_3 _ _ l0_4 20000 t150 _ ?side1 ?side2 ?side3 ?side4 A2.out).mono ?_); (case side1 => repeat (first | exact (Kd.C_below HR0_3.out HB.out) | (with_reducible refine Kd.C_alloc ?_ _) | (with_reducible refine Kd.C_drewN ?_ _) | (with_reducible refine Kd.C_drew ?_))); (case side2 => exact HC0_3.out); (case side3 => repeat (first | exact (Kd.C_below HR0_4.out HB.out) | (with_reducible refine Kd.C_alloc ?_ _) | (with_reducible refine Kd.C_drewN ?_ _) | (with_reducible refine Kd.C_drew ?_))); (case side4 => exact HC0_4.out); rintro e w9 ⟨rfl, hb⟩; refine ⟨_, rfl, ?_⟩; have n0_ := Aside0.mk (blk_below (g := gb149) (o := .cells #[.int .i64 a0_0, .int .i64 a0_1, .string a0_2, .slice A0_3 l0_3.length c0_3, .slice A0_4 l0_4.length c0_4] 25 (0, 0)) (by (with_reducible repeat (first | refine blk_drewN ?_ _ | refine blk_drew ?_ | refine blk_alloc ?_ _)); exact BK149.out) hb); have n1_ := Aside0.mk (below_step (by repeat (first | (with_reducible first | exact HB.out | apply below_alloc | apply pw_below_drewN | apply below_drew1 | refine below_set ?_ GE149.out) | exact HB.out)) hb); clear BK149; clear HB; have BK149 := n0_; have HB := n1_; clear n0_ n1_; (try clear hb); (try clear hb2); (try clear hk); (try clear hi); have hcz10_0 : w9.cell? ⟨gb149, 0, none⟩ = some (.int .i64 a0_0) := (blk_cell BK149.out 0).trans rfl; have hcz10_1 : w9.cell? ⟨gb149, 1, none⟩ = some (.int .i64 a0_1) := (blk_cell BK149.out 1).trans rfl; have hcz10_2 : w9.cell? ⟨gb149, 2, none⟩ = some (.string a0_2) := (blk_cell BK149.out 2).trans rfl; have hcz10_3 : w9.cell? ⟨gb149, 3, none⟩ = some (.slice A0_3 l0_3.length c0_3) := (blk_cell BK149.out 3).trans rfl; have hcz10_4 : w9.cell? ⟨gb149, 4, none⟩ = some (.slice A0_4 l0_4.length c0_4) := (blk_cell BK149.out 4).trans rfl; have hfz10_0 := blk_frozen BK149.out 0; have hfz10_1 := blk_frozen BK149.out 1; have hfz10_2 := blk_frozen BK149.out 2; have hfz10_3 := blk_frozen BK149.out 3; have hfz10_4 := blk_frozen BK149.out 4) | (go_at_call 28; (with_reducible refine (bloomeryref11_deep.calls k a0_0 a0_1 a0_2 _ _ l0_3 _ _ l0_4 60 t151 _ ?side1 ?side2 ?side3 ?side4 A4.out).mono ?_); (case side1 => repeat (first | exact (Kd.C_below HR0_3.out HB.out) | (with_reducible refine Kd.C_alloc ?_ _) | (with_reducible refine Kd.C_drewN ?_ _) | (with_reducible refine Kd.C_drew ?_))); (case side2 => exact HC0_3.out); (case side3 => repeat (first | exact (Kd.C_below HR0_4.out HB.out) | (with_reducible refine Kd.C_alloc ?_ _) | (with_reducible refine Kd.C_drewN ?_ _) | (with_reducible refine Kd.C_drew ?_))); (case side4 => exact HC0_4.out); rintro e w11 ⟨rfl, hb⟩; have n0_ := Aside0.mk (blk_below (g := gb149) (o := .cells #[.int .i64 a0_0, .int .i64 a0_1, .string a0_2, .slice A0_3 l0_3.length c0_3, .slice A0_4 l0_4.length c0_4] 25 (0, 0)) (by (with_reducible repeat (first | refine blk_drewN ?_ _ | refine blk_drew ?_ | refine blk_alloc ?_ _)); exact BK149.out) hb); have n1_ := Aside0.mk (below_step (by repeat (first | (with_reducible first | exact HB.out | apply below_alloc | apply pw_below_drewN | apply below_drew1 | refine below_set ?_ GE149.out) | exact HB.out)) hb); clear BK149; clear HB; have BK149 := n0_; have HB := n1_; clear n0_ n1_; (try clear hb); (try clear hb2); (try clear hk); (try clear hi); have hcz12_0 : w11.cell? ⟨gb149, 0, none⟩ = some (.int .i64 a0_0) := (blk_cell BK149.out 0).trans rfl; have hcz12_1 : w11.cell? ⟨gb149, 1, none⟩ = some (.int .i64 a0_1) := (blk_cell BK149.out 1).trans rfl; have hcz12_2 : w11.cell? ⟨gb149, 2, none⟩ = some (.string a0_2) := (blk_cell BK149.out 2).trans rfl; have hcz12_3 : w11.cell? ⟨gb149, 3, none⟩ = some (.slice A0_3 l0_3.length c0_3) := (blk_cell BK149.out 3).trans rfl; have hcz12_4 : w11.cell? ⟨gb149, 4, none⟩ = some (.slice A0_4 l0_4.length c0_4) := (blk_cell BK149.out 4).trans rfl; have hfz12_0 := blk_frozen BK149.out 0; have hfz12_1 := blk_frozen BK149.out 1; have hfz12_2 := blk_frozen BK149.out 2; have hfz12_3 := blk_frozen BK149.out 3; have hfz12_4 := blk_frozen BK149.out 4) | (go_at_call 29; (with_reducible refine (bloomeryref11_nodes.calls k a0_0 a0_1 a0_2 _ _ l0_3 _ _ l0_4 t152 _ ?side1 ?side2 ?side3 ?side4 A6.out).mono ?_); (case side1 => repeat (first | exact (Kd.C_below HR0_3.out HB.out) | (with_reducible refine Kd.C_alloc ?_ _) | (with_reducible refine Kd.C_drewN ?_ _) | (with_reducible refine Kd.C_drew ?_))); (case side2 => exact HC0_3.out); (case side3 => repeat (first | exact (Kd.C_below HR0_4.out HB.out) | (with_reducible refine Kd.C_alloc ?_ _) | (with_reducible refine Kd.C_drewN ?_ _) | (with_reducible refine Kd.C_drew ?_))); (case side4 => exact HC0_4.out); rintro e w13 ⟨rfl, hb⟩; have n0_ := Aside0.mk (blk_below (g := gb149) (o := .cells #[.int .i64 a0_0, .int .i64 a0_1, .string a0_2, .slice A0_3 l0_3.length c0_3, .slice A0_4 l0_4.length c0_4] 25 (0, 0)) (by (with_reducible repeat (first | refine blk_drewN ?_ _ | refine blk_drew ?_ | refine blk_alloc ?_ _)); exact BK149.out) hb); have n1_ := Aside0.mk (below_step (by repeat (first | (with_reducible first | exact HB.out | apply below_alloc | apply pw_below_drewN | apply below_drew1 | refine below_set ?_ GE149.out) | exact HB.out)) hb); clear BK149; clear HB; have BK149 := n0_; have HB := n1_; clear n0_ n1_; (try clear hb); (try clear hb2); (try clear hk); (try clear hi)))
   go_ret
   exact ⟨by first | rfl | (simp [errW_none, errW_some] <;> rfl) | (simp [*, errW_none, errW_some] <;> rfl), by repeat (first | (with_reducible first | exact HB.out | apply below_alloc | apply pw_below_drewN | apply below_drew1 | refine below_set ?_ GE149.out) | exact HB.out)⟩
  ·rw [if_neg c5] at H
   have c5b0 : decide (t151 ≤ 60) = false := decide_eq_false c5
   clear c5
   obtain rfl := Option.some.inj H
   go_enter Tryz.func14, Tryz.ntmps14
   go_wp2_with (first | ((with_reducible refine gate_dst (N := 1) rfl ?_); refine box_event ?hg (N := 1) ?hd (cs := #[.int .i64 a0_0, .int .i64 a0_1, .string a0_2, .slice A0_3 l0_3.length c0_3, .slice A0_4 l0_4.length c0_4]) (t := 25) ?hr ?_; (case hd => rfl); (case hg => rfl); (case hr => first | (go_simp; done) | (go_simp; rfl)); intro gb149 hg w14 hbox hb; have n0_ := Aside0.mk (below_step (by repeat (first | (with_reducible first | exact HB.out | apply below_alloc | apply pw_below_drewN | apply below_drew1) | exact HB.out)) hb); have n1_ := Aside0.mk (hbox); have n2_ := Aside0.mk ((by rw [hg]; exact (below_size (by repeat (first | (with_reducible first | exact HB.out | apply below_alloc | apply pw_below_drewN | apply below_drew1) | exact HB.out))) : w.heap.size ≤ gb149)); have n3_ := Aside0.mk ((by rw [hg]; exact (below_size (by repeat (first | (with_reducible first | exact HB.out | apply below_alloc | apply pw_below_drewN | apply below_drew1) | exact HB.out))) : w.heap.size ≤ gb149)); clear HB; have HB := n0_; have BK149 := n1_; have GW149 := n2_; have GE149 := n3_; clear n0_ n1_ n2_ n3_; clear hb hbox hg; have hcz15_0 : w14.cell? ⟨gb149, 0, none⟩ = some (.int .i64 a0_0) := (blk_cell BK149.out 0).trans rfl; have hcz15_1 : w14.cell? ⟨gb149, 1, none⟩ = some (.int .i64 a0_1) := (blk_cell BK149.out 1).trans rfl; have hcz15_2 : w14.cell? ⟨gb149, 2, none⟩ = some (.string a0_2) := (blk_cell BK149.out 2).trans rfl; have hcz15_3 : w14.cell? ⟨gb149, 3, none⟩ = some (.slice A0_3 l0_3.length c0_3) := (blk_cell BK149.out 3).trans rfl; have hcz15_4 : w14.cell? ⟨gb149, 4, none⟩ = some (.slice A0_4 l0_4.length c0_4) := (blk_cell BK149.out 4).trans rfl; have hfz15_0 := blk_frozen BK149.out 0; have hfz15_1 := blk_frozen BK149.out 1; have hfz15_2 := blk_frozen BK149.out 2; have hfz15_3 := blk_frozen BK149.out 3; have hfz15_4 := blk_frozen BK149.out 4) | ((with_reducible refine gate_callee (f := 27) rfl ?_); refine goesL_ (some 4) rfl rfl Tryz.func27 (by kernel_rfl) rfl #[.agg #[.int .i64 a0_0, .int .i64 a0_1, .string a0_2, .slice A0_3 l0_3.length c0_3, .slice A0_4 l0_4.length c0_4], .int .i64 20000] rfl (by (try simp only [List.map_toArray, List.map_cons, List.map_nil]); first | done | rfl | (simp only [List.length_drop, List.length_take]; rfl)) ?_; (with_reducible refine (bloomeryref11_many.calls k a0_0 a0_1 a0_2 _ _ l0_3 _ _ l0_4 20000 t150 _ ?side1 ?side2 ?side3 ?side4 A2.out).mono ?_); (case side1 => repeat (first | exact (Kd.C_below HR0_3.out HB.out) | (with_reducible refine Kd.C_alloc ?_ _) | (with_reducible refine Kd.C_drewN ?_ _) | (with_reducible refine Kd.C_drew ?_))); (case side2 => exact HC0_3.out); (case side3 => repeat (first | exact (Kd.C_below HR0_4.out HB.out) | (with_reducible refine Kd.C_alloc ?_ _) | (with_reducible refine Kd.C_drewN ?_ _) | (with_reducible refine Kd.C_drew ?_))); (case side4 => exact HC0_4.out); rintro e w16 ⟨rfl, hb⟩; refine ⟨_, rfl, ?_⟩; have n0_ := Aside0.mk (blk_below (g := gb149) (o := .cells #[.int .i64 a0_0, .int .i64 a0_1, .string a0_2, .slice A0_3 l0_3.length c0_3, .slice A0_4 l0_4.length c0_4] 25 (0, 0)) (by (with_reducible repeat (first | refine blk_drewN ?_ _ | refine blk_drew ?_ | refine blk_alloc ?_ _)); exact BK149.out) hb); have n1_ := Aside0.mk (below_step (by repeat (first | (with_reducible first | exact HB.out | apply below_alloc | apply pw_below_drewN | apply below_drew1 | refine below_set ?_ GE149.out) | exact HB.out)) hb); clear BK149; clear HB; have BK149 := n0_; have HB := n1_; clear n0_ n1_; (try clear hb); (try clear hb2); (try clear hk); (try clear hi); have hcz17_0 : w16.cell? ⟨gb149, 0, none⟩ = some (.int .i64 a0_0) := (blk_cell BK149.out 0).trans rfl; have hcz17_1 : w16.cell? ⟨gb149, 1, none⟩ = some (.int .i64 a0_1) := (blk_cell BK149.out 1).trans rfl; have hcz17_2 : w16.cell? ⟨gb149, 2, none⟩ = some (.string a0_2) := (blk_cell BK149.out 2).trans rfl; have hcz17_3 : w16.cell? ⟨gb149, 3, none⟩ = some (.slice A0_3 l0_3.length c0_3) := (blk_cell BK149.out 3).trans rfl; have hcz17_4 : w16.cell? ⟨gb149, 4, none⟩ = some (.slice A0_4 l0_4.length c0_4) := (blk_cell BK149.out 4).trans rfl; have hfz17_0 := blk_frozen BK149.out 0; have hfz17_1 := blk_frozen BK149.out 1; have hfz17_2 := blk_frozen BK149.out 2; have hfz17_3 := blk_frozen BK149.out 3; have hfz17_4 := blk_frozen BK149.out 4) | (go_at_call 28; (with_reducible refine (bloomeryref11_deep.calls k a0_0 a0_1 a0_2 _ _ l0_3 _ _ l0_4 60 t151 _ ?side1 ?side2 ?side3 ?side4 A4.out).mono ?_); (case side1 => repeat (first | exact (Kd.C_below HR0_3.out HB.out) | (with_reducible refine Kd.C_alloc ?_ _) | (with_reducible refine Kd.C_drewN ?_ _) | (with_reducible refine Kd.C_drew ?_))); (case side2 => exact HC0_3.out); (case side3 => repeat (first | exact (Kd.C_below HR0_4.out HB.out) | (with_reducible refine Kd.C_alloc ?_ _) | (with_reducible refine Kd.C_drewN ?_ _) | (with_reducible refine Kd.C_drew ?_))); (case side4 => exact HC0_4.out); rintro e w18 ⟨rfl, hb⟩; have n0_ := Aside0.mk (blk_below (g := gb149) (o := .cells #[.int .i64 a0_0, .int .i64 a0_1, .string a0_2, .slice A0_3 l0_3.length c0_3, .slice A0_4 l0_4.length c0_4] 25 (0, 0)) (by (with_reducible repeat (first | refine blk_drewN ?_ _ | refine blk_drew ?_ | refine blk_alloc ?_ _)); exact BK149.out) hb); have n1_ := Aside0.mk (below_step (by repeat (first | (with_reducible first | exact HB.out | apply below_alloc | apply pw_below_drewN | apply below_drew1 | refine below_set ?_ GE149.out) | exact HB.out)) hb); clear BK149; clear HB; have BK149 := n0_; have HB := n1_; clear n0_ n1_; (try clear hb); (try clear hb2); (try clear hk); (try clear hi)))
   go_ret
   exact ⟨by first | rfl | (simp [errW_none, errW_some] <;> rfl) | (simp [*, errW_none, errW_some] <;> rfl), by repeat (first | (with_reducible first | exact HB.out | apply below_alloc | apply pw_below_drewN | apply below_drew1 | refine below_set ?_ GE149.out) | exact HB.out)⟩
 ·rw [if_neg c3] at H
  have c3b0 : decide (t150 ≤ 20000) = false := decide_eq_false c3
  clear c3
  obtain rfl := Option.some.inj H
  go_enter Tryz.func14, Tryz.ntmps14
  go_wp2_with (first | ((with_reducible refine gate_dst (N := 1) rfl ?_); refine box_event ?hg (N := 1) ?hd (cs := #[.int .i64 a0_0, .int .i64 a0_1, .string a0_2, .slice A0_3 l0_3.length c0_3, .slice A0_4 l0_4.length c0_4]) (t := 25) ?hr ?_; (case hd => rfl); (case hg => rfl); (case hr => first | (go_simp; done) | (go_simp; rfl)); intro gb149 hg w19 hbox hb; have n0_ := Aside0.mk (below_step (by repeat (first | (with_reducible first | exact HB.out | apply below_alloc | apply pw_below_drewN | apply below_drew1) | exact HB.out)) hb); have n1_ := Aside0.mk (hbox); have n2_ := Aside0.mk ((by rw [hg]; exact (below_size (by repeat (first | (with_reducible first | exact HB.out | apply below_alloc | apply pw_below_drewN | apply below_drew1) | exact HB.out))) : w.heap.size ≤ gb149)); have n3_ := Aside0.mk ((by rw [hg]; exact (below_size (by repeat (first | (with_reducible first | exact HB.out | apply below_alloc | apply pw_below_drewN | apply below_drew1) | exact HB.out))) : w.heap.size ≤ gb149)); clear HB; have HB := n0_; have BK149 := n1_; have GW149 := n2_; have GE149 := n3_; clear n0_ n1_ n2_ n3_; clear hb hbox hg; have hcz20_0 : w19.cell? ⟨gb149, 0, none⟩ = some (.int .i64 a0_0) := (blk_cell BK149.out 0).trans rfl; have hcz20_1 : w19.cell? ⟨gb149, 1, none⟩ = some (.int .i64 a0_1) := (blk_cell BK149.out 1).trans rfl; have hcz20_2 : w19.cell? ⟨gb149, 2, none⟩ = some (.string a0_2) := (blk_cell BK149.out 2).trans rfl; have hcz20_3 : w19.cell? ⟨gb149, 3, none⟩ = some (.slice A0_3 l0_3.length c0_3) := (blk_cell BK149.out 3).trans rfl; have hcz20_4 : w19.cell? ⟨gb149, 4, none⟩ = some (.slice A0_4 l0_4.length c0_4) := (blk_cell BK149.out 4).trans rfl; have hfz20_0 := blk_frozen BK149.out 0; have hfz20_1 := blk_frozen BK149.out 1; have hfz20_2 := blk_frozen BK149.out 2; have hfz20_3 := blk_frozen BK149.out 3; have hfz20_4 := blk_frozen BK149.out 4) | ((with_reducible refine gate_callee (f := 27) rfl ?_); refine goesL_ (some 4) rfl rfl Tryz.func27 (by kernel_rfl) rfl #[.agg #[.int .i64 a0_0, .int .i64 a0_1, .string a0_2, .slice A0_3 l0_3.length c0_3, .slice A0_4 l0_4.length c0_4], .int .i64 20000] rfl (by (try simp only [List.map_toArray, List.map_cons, List.map_nil]); first | done | rfl | (simp only [List.length_drop, List.length_take]; rfl)) ?_; (with_reducible refine (bloomeryref11_many.calls k a0_0 a0_1 a0_2 _ _ l0_3 _ _ l0_4 20000 t150 _ ?side1 ?side2 ?side3 ?side4 A2.out).mono ?_); (case side1 => repeat (first | exact (Kd.C_below HR0_3.out HB.out) | (with_reducible refine Kd.C_alloc ?_ _) | (with_reducible refine Kd.C_drewN ?_ _) | (with_reducible refine Kd.C_drew ?_))); (case side2 => exact HC0_3.out); (case side3 => repeat (first | exact (Kd.C_below HR0_4.out HB.out) | (with_reducible refine Kd.C_alloc ?_ _) | (with_reducible refine Kd.C_drewN ?_ _) | (with_reducible refine Kd.C_drew ?_))); (case side4 => exact HC0_4.out); rintro e w21 ⟨rfl, hb⟩; refine ⟨_, rfl, ?_⟩; have n0_ := Aside0.mk (blk_below (g := gb149) (o := .cells #[.int .i64 a0_0, .int .i64 a0_1, .string a0_2, .slice A0_3 l0_3.length c0_3, .slice A0_4 l0_4.length c0_4] 25 (0, 0)) (by (with_reducible repeat (first | refine blk_drewN ?_ _ | refine blk_drew ?_ | refine blk_alloc ?_ _)); exact BK149.out) hb); have n1_ := Aside0.mk (below_step (by repeat (first | (with_reducible first | exact HB.out | apply below_alloc | apply pw_below_drewN | apply below_drew1 | refine below_set ?_ GE149.out) | exact HB.out)) hb); clear BK149; clear HB; have BK149 := n0_; have HB := n1_; clear n0_ n1_; (try clear hb); (try clear hb2); (try clear hk); (try clear hi)))
  go_ret
  exact ⟨by first | rfl | (simp [errW_none, errW_some] <;> rfl) | (simp [*, errW_none, errW_some] <;> rfl), by repeat (first | (with_reducible first | exact HB.out | apply below_alloc | apply pw_below_drewN | apply below_drew1 | refine below_set ?_ GE149.out) | exact HB.out)⟩

end
end Go.Proofs.YtegppacnkfeaoaaGreatDoor.G

/- What the reference's functions of layer 11 that measure a value (as Lean functions) come to. No program's run. -/
namespace Go.Proofs.YtegppacnkfeaoaaGreatDoor.G
open Go.RowKit Go.Gw Go.Proofs.YtegppacnkfeaoaaGreatDoorW.PrintWords
set_option linter.unusedVariables false
set_option linter.unusedSimpArgs false

theorem len_mid {α : Type} {l a b : List α} {x : α} (e : l = a ++ x :: b) (h : l.length ≤ 140737488351232) : (a.length : Int) < (l.length : Int) ∧ wrap64 ((a.length : Int) + 1) = ((a ++ [x]).length : Int) ∧ l = (a ++ [x]) ++ b := by
  have h1 : l.length = a.length + (b.length + 1) := by rw [e]; simp
  refine ⟨by omega, ?_, by rw [e]; simp⟩
  rw [w64 (by omega) (by omega)]
  simp

/-! ### count -/
def CountOK (x : S25) : Prop := ∃ r : Int, Ev (fun k => bloomeryref11_count.f k x.f0 x.f1 x.f2 x.f3 x.f4 60) r ∧ (cnt x ≤ 1000000000000000000 → 1 ≤ r ∧ r ≤ cnt x ∧ (r ≤ 60 → r = cnt x))
theorem count_loop (v : S25) (hl : v.f3.length ≤ 140737488351232) (hc : ∀ x ∈ v.f3, CountOK x) : ∀ (b a : List S25) (n : Int), v.f3 = a ++ b →
    ∃ r : Int, Ev (fun k => bloomeryref11_count.l0 k 60 n (v.f3.length : Int) (a.length : Int) v.f0 v.f1 v.f2 v.f3 v.f4) r ∧ (1 ≤ n → n + cnts b ≤ 1000000000000000000 → n ≤ r ∧ r ≤ n + cnts b ∧ (r ≤ 60 → r = n + cnts b)) := by
  intro b
  induction b with
  | nil =>
    intro a n e
    refine ⟨n, Ev.step (f := fun _ => some n) (fun k => ?_) (Ev.now n), fun _ _ => ?_⟩
    · rw [bloomeryref11_count.l0, if_neg (by rw [e]; simp)]
    · simp [cnts]
  | cons x b ih =>
    intro a n e
    obtain ⟨h1, h2, h3⟩ := len_mid e hl
    by_cases hn : n > 60
    · refine ⟨n, Ev.step (f := fun _ => some n) (fun k => ?_) (Ev.now n), fun _ _ => ⟨Int.le_refl _, by omega, fun h => by omega⟩⟩
      rw [bloomeryref11_count.l0, if_pos h1, if_pos hn]
    · obtain ⟨t, ht, hb⟩ := hc x (by rw [e]; simp)
      obtain ⟨r, hr, hs⟩ := ih (a ++ [x]) (wrap64 (n + t)) h3
      refine ⟨r, Ev.step (f := fun k => (bloomeryref11_count.f k x.f0 x.f1 x.f2 x.f3 x.f4 60).bind fun t => bloomeryref11_count.l0 k 60 (wrap64 (n + t)) (v.f3.length : Int) ((a ++ [x]).length : Int) v.f0 v.f1 v.f2 v.f3 v.f4) (fun k => ?_) (Ev.bind (f := fun k t => bloomeryref11_count.l0 k 60 (wrap64 (n + t)) (v.f3.length : Int) ((a ++ [x]).length : Int) v.f0 v.f1 v.f2 v.f3 v.f4) ht hr), fun h hN => ?_⟩
      · have er : rd_T25 v.f3 (a.length : Int) = x := by rw [e]; exact rd_mid a x b
        rw [bloomeryref11_count.l0, if_pos h1, if_neg hn, if_pos (by omega), if_pos h1, er, h2]
      · rw [cnts] at hN ⊢
        obtain ⟨b1, b2, b3⟩ := hb (by omega)
        rw [w64 (by omega) (by omega)] at hs
        obtain ⟨c1, c2, c3⟩ := hs (by omega) (by omega)
        refine ⟨by omega, by omega, fun h6 => ?_⟩
        have := c3 h6
        have := b3 (by omega)
        omega
theorem count_ev : ∀ v : S25, AllV okN v → CountOK v := by
  refine tree_ind (P := fun v => AllV okN v → CountOK v) ?_
  intro v ih hv
  obtain ⟨r, hr, hs⟩ := count_loop v hv.here.2.2.2.1 (fun x hx => ih x hx (hv.kid hx)) v.f3 [] 1 rfl
  refine ⟨r, Ev.step (f := fun k => bloomeryref11_count.l0 k 60 1 (v.f3.length : Int) 0 v.f0 v.f1 v.f2 v.f3 v.f4) (fun k => by rw [bloomeryref11_count.f]) hr, fun h => ?_⟩
  rw [cnt_eq] at h ⊢
  have := hs (by omega) (by omega)
  exact ⟨by omega, by omega, fun h6 => by have := this.2.2 h6; omega⟩

/-! ### long -/
def smallN (v : S25) : Prop := v.f2.size ≤ 100 ∧ v.f4.length ≤ 60 ∧ ∀ s ∈ v.f4, s.size ≤ 100
def LongOK (x : S25) : Prop := ∃ r : Bool, Ev (fun k => bloomeryref11_long.f k x.f0 x.f1 x.f2 x.f3 x.f4) r ∧ (r = false → AllV smallN x)
theorem long_loop (v : S25) (hl : v.f3.length ≤ 140737488351232) (hc : ∀ x ∈ v.f3, LongOK x) : ∀ (b a : List S25), v.f3 = a ++ b →
    ∃ r : Bool, Ev (fun k => bloomeryref11_long.l1 k (v.f3.length : Int) (a.length : Int) v.f0 v.f1 v.f2 v.f3 v.f4) r ∧ (r = false → ∀ x ∈ b, AllV smallN x) := by
  intro b
  induction b with
  | nil =>
    intro a e
    refine ⟨false, Ev.step (f := fun _ => some false) (fun k => ?_) (Ev.now _), fun _ x hx => by cases hx⟩
    rw [bloomeryref11_long.l1, if_neg (by rw [e]; simp)]
  | cons x b ih =>
    intro a e
    obtain ⟨h1, h2, h3⟩ := len_mid e hl
    have er : rd_T25 v.f3 (a.length : Int) = x := by rw [e]; exact rd_mid a x b
    obtain ⟨t, ht, hb⟩ := hc x (by rw [e]; simp)
    obtain ⟨r, hr, hs⟩ := ih (a ++ [x]) h3
    have st : ∀ k, bloomeryref11_long.l1 (k + 1) (v.f3.length : Int) (a.length : Int) v.f0 v.f1 v.f2 v.f3 v.f4 = (bloomeryref11_long.f k x.f0 x.f1 x.f2 x.f3 x.f4).bind fun t => if t = true then some true else bloomeryref11_long.l1 k (v.f3.length : Int) ((a ++ [x]).length : Int) v.f0 v.f1 v.f2 v.f3 v.f4 := fun k => by
      rw [bloomeryref11_long.l1, if_pos h1, if_pos (by omega), if_pos h1, er, h2]
    cases t with
    | true => exact ⟨true, Ev.step st (Ev.bind (f := fun k t => if t = true then some true else bloomeryref11_long.l1 k (v.f3.length : Int) ((a ++ [x]).length : Int) v.f0 v.f1 v.f2 v.f3 v.f4) ht (Ev.pos rfl (Ev.now _))), fun h => by cases h⟩
    | false =>
      refine ⟨r, Ev.step st (Ev.bind (f := fun k t => if t = true then some true else bloomeryref11_long.l1 k (v.f3.length : Int) ((a ++ [x]).length : Int) v.f0 v.f1 v.f2 v.f3 v.f4) ht (Ev.neg (by decide) hr)), fun h y hy => ?_⟩
      rcases List.mem_cons.1 hy with rfl | hy
      · exact hb rfl
      · exact hs h y hy
theorem long_keys (v : S25) (hl : v.f4.length ≤ 140737488351232) {r : Bool} (hr : Ev (fun k => bloomeryref11_long.l1 k (v.f3.length : Int) 0 v.f0 v.f1 v.f2 v.f3 v.f4) r) : ∀ (b a : List ByteArray), v.f4 = a ++ b →
    ∃ q : Bool, Ev (fun k => bloomeryref11_long.l0 k (v.f4.length : Int) (a.length : Int) v.f0 v.f1 v.f2 v.f3 v.f4) q ∧ (q = false → r = false ∧ ∀ s ∈ b, s.size ≤ 100) := by
  intro b
  induction b with
  | nil =>
    intro a e
    refine ⟨r, Ev.step (fun k => ?_) hr, fun h => ⟨h, fun x hx => by cases hx⟩⟩
    rw [bloomeryref11_long.l0, if_neg (by rw [e]; simp)]
  | cons x b ih =>
    intro a e
    obtain ⟨h1, h2, h3⟩ := len_mid e hl
    have er : rdOf ByteArray.empty v.f4 (a.length : Int) = x := by rw [e]; exact rdOf_mid a x b
    obtain ⟨q, hq, hs⟩ := ih (a ++ [x]) h3
    have st : ∀ k, bloomeryref11_long.l0 (k + 1) (v.f4.length : Int) (a.length : Int) v.f0 v.f1 v.f2 v.f3 v.f4 = if (x.size : Int) > 100 then some true else bloomeryref11_long.l0 k (v.f4.length : Int) ((a ++ [x]).length : Int) v.f0 v.f1 v.f2 v.f3 v.f4 := fun k => by
      rw [bloomeryref11_long.l0, if_pos h1, if_pos (by omega), if_pos h1, er, h2]
    by_cases hx : (x.size : Int) > 100
    · exact ⟨true, Ev.step st (Ev.pos hx (Ev.now _)), fun h => by cases h⟩
    · refine ⟨q, Ev.step st (Ev.neg hx hq), fun h => ⟨(hs h).1, fun y hy => ?_⟩⟩
      rcases List.mem_cons.1 hy with rfl | hy
      · omega
      · exact (hs h).2 y hy
theorem long_ev : ∀ v : S25, AllV okN v → LongOK v := by
  refine tree_ind (P := fun v => AllV okN v → LongOK v) ?_
  intro v ih hv
  obtain ⟨r, hr, hs⟩ := long_loop v hv.here.2.2.2.1 (fun x hx => ih x hx (hv.kid hx)) v.f3 [] rfl
  obtain ⟨q, hq, hq2⟩ := long_keys v hv.here.2.2.2.2.1 hr v.f4 [] rfl
  have j1 : Ev (fun k => bloomeryref11_long.j0 k true v.f0 v.f1 v.f2 v.f3 v.f4) true := Ev.step (f := fun _ => some true) (fun k => by rw [bloomeryref11_long.j0, if_pos rfl]) (Ev.now _)
  have j2 : Ev (fun k => bloomeryref11_long.j0 k false v.f0 v.f1 v.f2 v.f3 v.f4) q := Ev.step (fun k => by rw [bloomeryref11_long.j0, if_neg (by decide)]; rfl) hq
  by_cases h1 : (v.f2.size : Int) > 100
  · exact ⟨true, Ev.step (f := fun k => bloomeryref11_long.j0 k true v.f0 v.f1 v.f2 v.f3 v.f4) (fun k => by rw [bloomeryref11_long.f, if_pos h1]) j1, fun h => by cases h⟩
  · by_cases h2 : (v.f4.length : Int) > 60
    · refine ⟨true, Ev.step (f := fun k => bloomeryref11_long.j0 k true v.f0 v.f1 v.f2 v.f3 v.f4) (fun k => ?_) j1, fun h => by cases h⟩
      rw [bloomeryref11_long.f, if_neg h1, decide_eq_true h2]
    · refine ⟨q, Ev.step (f := fun k => bloomeryref11_long.j0 k false v.f0 v.f1 v.f2 v.f3 v.f4) (fun k => ?_) j2, fun h => ⟨v, ⟨by omega, by omega, (hq2 h).2⟩, hs (hq2 h).1⟩⟩
      rw [bloomeryref11_long.f, if_neg h1, decide_eq_false h2]
theorem great_ev (v : S25) (hv : AllV okN v) : ∃ r : Bool, Ev (fun k => bloomeryref11_Great.f k v.f0 v.f1 v.f2 v.f3 v.f4) r ∧ (r = false → AllV smallN v ∧ (cnt v ≤ 1000000000000000000 → cnt v ≤ 60)) := by
  obtain ⟨c, hc, hs⟩ := count_ev v hv
  obtain ⟨b, hb, hq⟩ := long_ev v hv
  unfold bloomeryref11_Great.f
  by_cases h : c > 60
  · exact ⟨true, Ev.bind (f := fun k t => if t > 60 then some true else (bloomeryref11_long.f k v.f0 v.f1 v.f2 v.f3 v.f4).bind fun t => some t) hc (Ev.pos h (Ev.now _)), fun h => by cases h⟩
  · refine ⟨b, Ev.bind (f := fun k t => if t > 60 then some true else (bloomeryref11_long.f k v.f0 v.f1 v.f2 v.f3 v.f4).bind fun t => some t) hc (Ev.neg h (Ev.bind (f := fun k t => some t) hb (Ev.now _))), fun e => ⟨hq e, fun hn => ?_⟩⟩
    obtain ⟨h1, h2, h3⟩ := hs hn
    have := h3 (by omega)
    omega

/-! ### Check -/
def ManyOK (x : S25) : Prop := ∀ most : Int, 0 ≤ most → most ≤ 20000 → ∃ r : Int, Ev (fun k => bloomeryref11_many.f k x.f0 x.f1 x.f2 x.f3 x.f4 most) r ∧ 1 ≤ r ∧ r ≤ most + 1 ∧ (r ≤ most ↔ (cnt x : Int) ≤ most) ∧ ((cnt x : Int) ≤ most → r = cnt x)
theorem many_loop (v : S25) (hl : v.f3.length ≤ 140737488351232) (hc : ∀ x ∈ v.f3, ManyOK x) (most : Int) (h0 : 0 ≤ most) (hm : most ≤ 20000) : ∀ (b a : List S25) (n : Int), v.f3 = a ++ b → 1 ≤ n → n ≤ most + 1 →
    ∃ r : Int, Ev (fun k => bloomeryref11_many.l0 k most n (a.length : Int) v.f0 v.f1 v.f2 v.f3 v.f4) r ∧ 1 ≤ r ∧ r ≤ most + 1 ∧ (r ≤ most ↔ n + cnts b ≤ most) ∧ (n + cnts b ≤ most → r = n + cnts b) := by
  intro b
  induction b with
  | nil =>
    intro a n e h1 h2
    refine ⟨n, Ev.step (f := fun _ => some n) (fun k => ?_) (Ev.now n), h1, h2, by simp [cnts], by simp [cnts]⟩
    rw [bloomeryref11_many.l0, if_neg (by rw [e]; simp)]
  | cons x b ih =>
    intro a n e n1 n2
    obtain ⟨h1, h2, h3⟩ := len_mid e hl
    by_cases hn : n ≤ most
    · have er : rd_T25 v.f3 (a.length : Int) = x := by rw [e]; exact rd_mid a x b
      have ew : wrap64 (most - n) = most - n := w64 (by omega) (by omega)
      obtain ⟨t, ht, t1, t2, t3, t4⟩ := hc x (by rw [e]; simp) (most - n) (by omega) (by omega)
      have ew2 : wrap64 (n + t) = n + t := w64 (by omega) (by omega)
      obtain ⟨r, hr, r1, r2, r3, r4⟩ := ih (a ++ [x]) (n + t) h3 (by omega) (by omega)
      refine ⟨r, Ev.step (f := fun k => (bloomeryref11_many.f k x.f0 x.f1 x.f2 x.f3 x.f4 (most - n)).bind fun t => bloomeryref11_many.l0 k most (wrap64 (n + t)) ((a ++ [x]).length : Int) v.f0 v.f1 v.f2 v.f3 v.f4) (fun k => ?_) (Ev.bind (f := fun k t => bloomeryref11_many.l0 k most (wrap64 (n + t)) ((a ++ [x]).length : Int) v.f0 v.f1 v.f2 v.f3 v.f4) ht (by rw [ew2]; exact hr)), r1, r2, ?_, ?_⟩
      · rw [bloomeryref11_many.l0, if_pos h1, if_pos hn, if_pos (by omega), er, h2, ew]
      · rw [cnts]
        by_cases hx : (cnt x : Int) ≤ most - n
        · have := t4 hx; omega
        · have : ¬ t ≤ most - n := fun h => hx (t3.1 h); omega
      · rw [cnts]
        intro h
        have := t4 (by omega)
        have := r4 (by omega)
        omega
    · refine ⟨n, Ev.step (f := fun _ => some n) (fun k => ?_) (Ev.now n), n1, n2, ⟨fun h => by omega, fun h => by omega⟩, fun h => by omega⟩
      rw [bloomeryref11_many.l0, if_pos h1, if_neg hn]
theorem many_ev : ∀ v : S25, AllV okN v → ManyOK v := by
  refine tree_ind (P := fun v => AllV okN v → ManyOK v) ?_
  intro v ih hv most h0 hm
  obtain ⟨r, hr, r1, r2, r3, r4⟩ := many_loop v hv.here.2.2.2.1 (fun x hx => ih x hx (hv.kid hx)) most h0 hm v.f3 [] 1 rfl (by omega) (by omega)
  refine ⟨r, Ev.step (f := fun k => bloomeryref11_many.l0 k most 1 0 v.f0 v.f1 v.f2 v.f3 v.f4) (fun k => by rw [bloomeryref11_many.f]) hr, r1, r2, ?_, ?_⟩
  · rw [r3, cnt_eq]; omega
  · rw [cnt_eq]; intro h; have := r4 (by omega); omega

def DeepOK (x : S25) : Prop := ∀ most : Int, 0 ≤ most → most ≤ 60 → ∃ r : Int, Ev (fun k => bloomeryref11_deep.f k x.f0 x.f1 x.f2 x.f3 x.f4 most) r ∧ 1 ≤ r ∧ r ≤ most + 1 ∧ (r ≤ most ↔ (depth x : Int) ≤ most)
theorem deep_loop (v : S25) (hl : v.f3.length ≤ 140737488351232) (hc : ∀ x ∈ v.f3, DeepOK x) (most : Int) (h0 : 1 ≤ most) (hm : most ≤ 60) : ∀ (b a : List S25) (n : Int), v.f3 = a ++ b → 0 ≤ n → n ≤ most → (n ≤ most - 1 ↔ (depths a : Int) ≤ most - 1) →
    ∃ r : Int, Ev (fun k => bloomeryref11_deep.l0 k most n (v.f3.length : Int) (a.length : Int) v.f0 v.f1 v.f2 v.f3 v.f4) r ∧ 1 ≤ r ∧ r ≤ most + 1 ∧ (r ≤ most ↔ (depths v.f3 : Int) ≤ most - 1) := by
  intro b
  induction b with
  | nil =>
    intro a n e n0 n1 n2
    have ew : wrap64 (n + 1) = n + 1 := w64 (by omega) (by omega)
    refine ⟨n + 1, Ev.step (f := fun _ => some (n + 1)) (fun k => ?_) (Ev.now _), by omega, by omega, ?_⟩
    · rw [bloomeryref11_deep.l0, if_neg (by rw [e]; simp), ew]
    · rw [e, List.append_nil, ← n2]; omega
  | cons x b ih =>
    intro a n e n0 n1 n2
    obtain ⟨h1, h2, h3⟩ := len_mid e hl
    have er : rd_T25 v.f3 (a.length : Int) = x := by rw [e]; exact rd_mid a x b
    have ew : wrap64 (most - 1) = most - 1 := w64 (by omega) (by omega)
    obtain ⟨t, ht, t1, t2, t3⟩ := hc x (by rw [e]; simp) (most - 1) (by omega) (by omega)
    have st : ∀ k, bloomeryref11_deep.l0 (k + 1) most n (v.f3.length : Int) (a.length : Int) v.f0 v.f1 v.f2 v.f3 v.f4 = (bloomeryref11_deep.f k x.f0 x.f1 x.f2 x.f3 x.f4 (most - 1)).bind fun t => if t > n then bloomeryref11_deep.l0 k most t (v.f3.length : Int) ((a ++ [x]).length : Int) v.f0 v.f1 v.f2 v.f3 v.f4 else bloomeryref11_deep.l0 k most n (v.f3.length : Int) ((a ++ [x]).length : Int) v.f0 v.f1 v.f2 v.f3 v.f4 := fun k => by
      rw [bloomeryref11_deep.l0, if_pos h1, if_pos (by omega), if_pos h1, er, h2, ew]
    have ed : depths (a ++ [x]) = max (depths a) (depth x) := by rw [depths_append]; simp [depths]
    by_cases hn : t > n
    · obtain ⟨r, hr, r1, r2, r3⟩ := ih (a ++ [x]) t h3 (by omega) (by omega) (by rw [ed]; omega)
      exact ⟨r, Ev.step st (Ev.bind (f := fun k t => if t > n then bloomeryref11_deep.l0 k most t (v.f3.length : Int) ((a ++ [x]).length : Int) v.f0 v.f1 v.f2 v.f3 v.f4 else bloomeryref11_deep.l0 k most n (v.f3.length : Int) ((a ++ [x]).length : Int) v.f0 v.f1 v.f2 v.f3 v.f4) ht (Ev.pos hn hr)), r1, r2, r3⟩
    · obtain ⟨r, hr, r1, r2, r3⟩ := ih (a ++ [x]) n h3 (by omega) (by omega) (by rw [ed]; omega)
      exact ⟨r, Ev.step st (Ev.bind (f := fun k t => if t > n then bloomeryref11_deep.l0 k most t (v.f3.length : Int) ((a ++ [x]).length : Int) v.f0 v.f1 v.f2 v.f3 v.f4 else bloomeryref11_deep.l0 k most n (v.f3.length : Int) ((a ++ [x]).length : Int) v.f0 v.f1 v.f2 v.f3 v.f4) ht (Ev.neg hn hr)), r1, r2, r3⟩
theorem deep_ev : ∀ v : S25, AllV okN v → DeepOK v := by
  refine tree_ind (P := fun v => AllV okN v → DeepOK v) ?_
  intro v ih hv most h0 hm
  by_cases h : most > 0
  · obtain ⟨r, hr, r1, r2, r3⟩ := deep_loop v hv.here.2.2.2.1 (fun x hx => ih x hx (hv.kid hx)) most (by omega) hm v.f3 [] 0 rfl (by omega) (by omega) (by simp [depths])
    refine ⟨r, Ev.step (f := fun k => if most > 0 then bloomeryref11_deep.l0 k most 0 (v.f3.length : Int) 0 v.f0 v.f1 v.f2 v.f3 v.f4 else some (0 + 1)) (fun k => by rw [bloomeryref11_deep.f]) (Ev.pos h hr), r1, r2, ?_⟩
    rw [r3, depth_eq]; omega
  · refine ⟨1, Ev.step (f := fun k => if most > 0 then bloomeryref11_deep.l0 k most 0 (v.f3.length : Int) 0 v.f0 v.f1 v.f2 v.f3 v.f4 else some (0 + 1)) (fun k => by rw [bloomeryref11_deep.f]) (Ev.neg h (Ev.now _)), by omega, by omega, ?_⟩
    rw [depth_eq]; omega
end Go.Proofs.YtegppacnkfeaoaaGreatDoor.G
