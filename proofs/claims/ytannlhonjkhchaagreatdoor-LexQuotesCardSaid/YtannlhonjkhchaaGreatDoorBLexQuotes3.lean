/- Texts towards the law LexQuotes, one behind the other: each begins with its own sentence. Conditions: each theorem's own. -/
import Derived.OpenShut
import Derived.ProofKit
import Derived.SizedLaws
import Derived.Test.YtannlhonjkhchaaGreatDoorBLexQuotes0
import Derived.Test.YtannlhonjkhchaaGreatDoorBLexQuotes1
import Derived.Test.YtannlhonjkhchaaGreatDoorBLexQuotes2
import Derived.Test.YtannlhonjkhchaaGreatDoorWMore
/- Go functions as Lean functions, each with its contract: written by a program of mine over the kit's print. Conditions: each contract's own. -/
namespace Go.Proofs.YtannlhonjkhchaaGreatDoor.G
open Go.RowKit Go.Proofs.YtannlhonjkhchaaGreatDoorW.PrintWords Go.Proofs.YtannlhonjkhchaaGreatDoorW.PrintLast Go.Proofs.YtannlhonjkhchaaGreatDoorW.PrintMore
attribute [local go_sem] max2_int min2_int max_two min_two max_three min_three max_four min_four   -- for this text's walks alone
set_option linter.unusedVariables false
set_option linter.unusedSimpArgs false

attribute [local go_sem high] eqA26
/-! ### bloomerylaw09_LexFaults: function 7 -/
def bloomerylaw09_LexFaults.j0 : Nat → ByteArray → ByteArray → Bool → Option (Bool)
  | 0, _, _, _ => none
  | k + 1, x0, x1, x20 => if x20 = true then (some true) else ((lex_All.f k x0).bind fun bt294 => (if x0.size + 1 ≤ 9223372036854775807 then (if (x0 ++ (⟨#[10]⟩ : ByteArray)).size + x1.size ≤ 9223372036854775807 then ((lex_All.f k ((x0 ++ (⟨#[10]⟩ : ByteArray)) ++ x1)).bind fun bt301 => (if bt294.2.1 = 0 then (some true) else (if bt301.2.1 = bt294.2.1 then (some (bt301.2.2.1 == bt294.2.2.1 && (bt301.2.2.2 == bt294.2.2.2))) else (some false)))) else (none)) else (none)))
def bloomerylaw09_LexFaults.f (k : Nat) (a0 : ByteArray) (a1 : ByteArray) : Option (Bool) := (bloomerylaw09_alive.f k).bind fun t293 => (if t293 = true then (if (a0.size : Int) > 300 then (bloomerylaw09_LexFaults.j0 k a0 a1 true) else (bloomerylaw09_LexFaults.j0 k a0 a1 (decide ((a1.size : Int) > 300)))) else (some false))
theorem bloomerylaw09_LexFaults.mono_l : ∀ k, (∀ y0 y1 y2, LeO (bloomerylaw09_LexFaults.j0 k y0 y1 y2) (bloomerylaw09_LexFaults.j0 (k + 1) y0 y1 y2))
  | 0 => fun _ _ _ r h => by simp [bloomerylaw09_LexFaults.j0] at h
  | k + 1 => by
    have ih0 := bloomerylaw09_LexFaults.mono_l k
    · intro y0 y1 y2
      unfold bloomerylaw09_LexFaults.j0
      repeat' first
      | (with_reducible exact ih0 _ _ _)
      | (with_reducible exact bloomerylaw09_alive.mono _)
      | (with_reducible exact lex_All.mono _ _)
      | (with_reducible exact LeO.refl _)
      | (with_reducible exact LeO.none _)
      | (with_reducible refine LeO.ite ?_ ?_)
      | (with_reducible refine LeO.bind ?_ (fun _ => ?_))
      | exact ih0 _ _ _
      | exact bloomerylaw09_alive.mono _
      | exact lex_All.mono _ _
      | exact LeO.none _
      | refine LeO.ite ?_ ?_
      | refine LeO.bind ?_ (fun _ => ?_)
theorem bloomerylaw09_LexFaults.mono : ∀ a0 a1 k, LeO (bloomerylaw09_LexFaults.f k a0 a1) (bloomerylaw09_LexFaults.f (k + 1) a0 a1) := by
  intro a0 a1 k
  have ih0 := bloomerylaw09_LexFaults.mono_l k
  unfold bloomerylaw09_LexFaults.f
  repeat' first
      | (with_reducible exact ih0 _ _ _)
      | (with_reducible exact bloomerylaw09_alive.mono _)
      | (with_reducible exact lex_All.mono _ _)
      | (with_reducible exact LeO.refl _)
      | (with_reducible exact LeO.none _)
      | (with_reducible refine LeO.ite ?_ ?_)
      | (with_reducible refine LeO.bind ?_ (fun _ => ?_))
      | exact ih0 _ _ _
      | exact bloomerylaw09_alive.mono _
      | exact lex_All.mono _ _
      | exact LeO.none _
      | refine LeO.ite ?_ ?_
      | refine LeO.bind ?_ (fun _ => ?_)
set_option maxHeartbeats 8000000 in
set_option maxRecDepth 100000 in
theorem bloomerylaw09_LexFaults.calls (k : Nat) (a0 : ByteArray) (a1 : ByteArray) (r : Bool) (w : World) (hgl : Gl w) (h : bloomerylaw09_LexFaults.f k a0 a1 = some r) :
    Calls Tryz.prog 7 #[.string a0, .string a1] w fun e w' => e = .returned (.bool r) ∧ Below w.heap.size w w' := by
  have HGL := Aside0.mk hgl
  clear hgl
  have hu26 := Tryz.underlying26
  have HB := Aside0.mk (Below.refl w.heap.size w)
  have H : ((bloomerylaw09_alive.f k).bind fun t293 => (if t293 = true then (if (a0.size : Int) > 300 then (bloomerylaw09_LexFaults.j0 k a0 a1 true) else (bloomerylaw09_LexFaults.j0 k a0 a1 (decide ((a1.size : Int) > 300)))) else (some false))) = some r := h
  clear h
  replace H := Option.bind_eq_some_iff.mp H
  obtain ⟨t293, A30, H⟩ := H
  replace H : (if t293 = true then (if (a0.size : Int) > 300 then (bloomerylaw09_LexFaults.j0 k a0 a1 true) else (bloomerylaw09_LexFaults.j0 k a0 a1 (decide ((a1.size : Int) > 300)))) else (some false)) = some r := H
  have A3 := Aside0.mk A30
  clear A30
  by_cases c4 : t293 = true
  · subst c4
    have H1 : (if (a0.size : Int) > 300 then (bloomerylaw09_LexFaults.j0 k a0 a1 true) else (bloomerylaw09_LexFaults.j0 k a0 a1 (decide ((a1.size : Int) > 300)))) = some r := by rw [if_pos rfl] at H; exact H
    clear H
    have H := H1
    clear H1
    have HC5 := Aside0.mk H
    clear H
    go_enter Tryz.func7, Tryz.ntmps7
    go_upto_region 3 with (first | ((with_reducible refine gate_callee (f := 8) rfl ?_); refine goesL_ (some 11) rfl rfl Tryz.func8 (by kernel_rfl) rfl #[] rfl (by (try simp only [List.map_toArray, List.map_cons, List.map_nil]); first | done | rfl | (simp only [List.length_drop, List.length_take]; rfl)) ?_; (with_reducible refine (bloomerylaw09_alive.calls k  true _ ?side1 A3.out).mono ?_); (case side1 => exact Gl.below HGL.out (by repeat (first | (with_reducible first | exact HB.out | apply below_alloc | apply pw_below_drewN | apply below_drew1) | exact HB.out))); rintro e w6 ⟨rfl, hb⟩; refine ⟨_, rfl, ?_⟩; have n0_ := Aside0.mk (below_step (by repeat (first | (with_reducible first | exact HB.out | apply below_alloc | apply pw_below_drewN | apply below_drew1) | exact HB.out)) hb); clear HB; have HB := n0_; clear n0_; (try clear hb); (try clear hb2); (try clear hk); (try clear hi)))
    (try simp only [Act.put, List.setIfInBounds_toArray, List.set_cons_zero, List.set_cons_succ])
    go_cut [20] (fun v20 wc => ∃ (kq : Nat) (x20_4 : Bool), v20 = .bool x20_4 ∧ Aside0 (bloomerylaw09_LexFaults.j0 kq a0 a1 x20_4 = some r) ∧ Aside0 (kq ≤ k) ∧ Aside0 (Below w.heap.size w wc))
    case first =>
      have H := HC5.out
      clear HC5
      by_cases c7 : (a0.size : Int) > 300
      · rw [if_pos c7] at H
        have c7b0 : decide (300 < (a0.size : Int)) = true := decide_eq_true c7
        have c7b1 : decide (300 < a0.size) = true := decide_eq_true (by omega)
        clear c7
        (first | rw [c7b0] | (simp only [i64_w, i32_w]; rw [c7b0]) | skip)
        have H' := Aside0.mk H
        clear H
        go_wp2
        go_meet
        case rel => exact ⟨_, (true), (by first | rfl | (simp; done) | (simp [*]; done)), (by first | exact H' | (subst_vars; exact H')), ⟨by first | omega | exact Nat.le_refl _⟩, ⟨by repeat (first | (with_reducible first | exact HB.out | apply below_alloc | apply pw_below_drewN | apply below_drew1) | exact HB.out)⟩⟩
      · rw [if_neg c7] at H
        have c7b0 : decide (300 < (a0.size : Int)) = false := decide_eq_false c7
        have c7b1 : decide (300 < a0.size) = false := decide_eq_false (by omega)
        clear c7
        (first | rw [c7b0] | (simp only [i64_w, i32_w]; rw [c7b0]) | skip)
        have H' := Aside0.mk H
        clear H
        go_wp2
        go_meet
        case rel => exact ⟨_, (decide ((a1.size : Int) > 300)), (by first | rfl | (simp; done) | (simp [*]; done)), (by first | exact H' | (subst_vars; exact H')), ⟨by first | omega | exact Nat.le_refl _⟩, ⟨by repeat (first | (with_reducible first | exact HB.out | apply below_alloc | apply pw_below_drewN | apply below_drew1) | exact HB.out)⟩⟩
    case rest =>
      clear HC5
      try clear p2
      try clear c4
      try clear c7
      try clear c7b0
      try clear c7b1
      obtain ⟨kq, x20_4, rfl, HA, HJ4, HB⟩ := hcut
      cases kq with
      | zero => exact absurd HA.out (by simp [bloomerylaw09_LexFaults.j0])
      | succ kj4 =>
        have H := HA.out
        clear HA
        simp only [bloomerylaw09_LexFaults.j0] at H
        by_cases c8 : x20_4 = true
        · subst c8
          have H1 : (some true) = some r := by rw [if_pos rfl] at H; exact H
          clear H
          have H := H1
          clear H1
          obtain rfl := Option.some.inj H
          go_wp2
          go_ret
          exact ⟨by first | rfl | (simp [errW_none, errW_some] <;> rfl) | (simp [*, errW_none, errW_some] <;> rfl), by repeat (first | (with_reducible first | exact HB.out | apply below_alloc | apply pw_below_drewN | apply below_drew1) | exact HB.out)⟩
        · replace c8 := Bool.eq_false_iff.mpr c8
          subst c8
          have H1 : ((lex_All.f kj4 a0).bind fun bt294 => (if a0.size + 1 ≤ 9223372036854775807 then (if (a0 ++ (⟨#[10]⟩ : ByteArray)).size + a1.size ≤ 9223372036854775807 then ((lex_All.f kj4 ((a0 ++ (⟨#[10]⟩ : ByteArray)) ++ a1)).bind fun bt301 => (if bt294.2.1 = 0 then (some true) else (if bt301.2.1 = bt294.2.1 then (some (bt301.2.2.1 == bt294.2.2.1 && (bt301.2.2.2 == bt294.2.2.2))) else (some false)))) else (none)) else (none))) = some r := by rw [if_neg (show ¬ (false = true) by decide)] at H; exact H
          clear H
          have H := H1
          clear H1
          replace H := Option.bind_eq_some_iff.mp H
          obtain ⟨⟨t294, t297, t298, t299⟩, A90, H⟩ := H
          replace H : (if a0.size + 1 ≤ 9223372036854775807 then (if (a0 ++ (⟨#[10]⟩ : ByteArray)).size + a1.size ≤ 9223372036854775807 then ((lex_All.f kj4 ((a0 ++ (⟨#[10]⟩ : ByteArray)) ++ a1)).bind fun bt301 => (if t297 = 0 then (some true) else (if bt301.2.1 = t297 then (some (bt301.2.2.1 == t298 && (bt301.2.2.2 == t299))) else (some false)))) else (none)) else (none)) = some r := H
          have A9 := Aside0.mk A90
          clear A90
          by_cases c10 : a0.size + 1 ≤ 9223372036854775807
          · rw [if_pos c10] at H
            have c10b0 := eq_true c10
            have c10b1 : decide (a0.size + 1 ≤ 9223372036854775807) = true := decide_eq_true c10
            try have c10b2 : (9223372036854775807 < a0.size + 1) = False := eq_false (Nat.not_lt.2 c10)
            by_cases c11 : (a0 ++ (⟨#[10]⟩ : ByteArray)).size + a1.size ≤ 9223372036854775807
            · rw [if_pos c11] at H
              have c11b0 := eq_true c11
              have c11b7 := c11
              try simp only [ByteArray.size_append] at c11b7
              have c11b8 := decide_eq_true c11b7
              try have c11b9 := Nat.not_lt.2 c11b7
              replace c11b7 := eq_true c11b7
              have c11b1 : decide ((a0 ++ (⟨#[10]⟩ : ByteArray)).size + a1.size ≤ 9223372036854775807) = true := decide_eq_true c11
              try have c11b2 : (9223372036854775807 < (a0 ++ (⟨#[10]⟩ : ByteArray)).size + a1.size) = False := eq_false (Nat.not_lt.2 c11)
              replace H := Option.bind_eq_some_iff.mp H
              obtain ⟨⟨t301, t304, t305, t306⟩, A120, H⟩ := H
              replace H : (if t297 = 0 then (some true) else (if t304 = t297 then (some (t305 == t298 && (t306 == t299))) else (some false))) = some r := H
              have A12 := Aside0.mk A120
              clear A120
              by_cases c13 : t297 = 0
              · rw [if_pos c13] at H
                have c13b0 : (t297 == 0) = true := beq_iff_eq.mpr c13
                have c13b1 : (t297 != 0) = false := bne_eq_false_iff_eq.mpr c13
                clear c13
                obtain rfl := Option.some.inj H
                go_wp2_with (first | ((with_reducible refine gate_callee (f := 9) rfl ?_); refine goesL_ (some 23) rfl rfl Tryz.func9 (by kernel_rfl) rfl #[.string a0] rfl (by (try simp only [List.map_toArray, List.map_cons, List.map_nil]); first | done | rfl | (simp only [List.length_drop, List.length_take]; rfl)) ?_; (with_reducible refine (lex_All.calls kj4 a0 t294 t297 t298 t299 _ ?side1 A9.out).mono ?_); (case side1 => exact Gl.below HGL.out (by repeat (first | (with_reducible first | exact HB.out | apply below_alloc | apply pw_below_drewN | apply below_drew1) | exact HB.out))); rintro e w14 ⟨v295, rfl, ho0, hb⟩; refine ⟨_, rfl, ?_⟩; have n0_ := Aside0.mk (Kd.R_lower ho0 (below_size (by repeat (first | (with_reducible first | exact HB.out | apply below_alloc | apply pw_below_drewN | apply below_drew1) | exact HB.out)))); have n1_ := Aside0.mk (below_step (by repeat (first | (with_reducible first | exact HB.out | apply below_alloc | apply pw_below_drewN | apply below_drew1) | exact HB.out)) hb); clear HB; have HO296 := n0_; have HB := n1_; clear n0_ n1_; (try clear hb); (try clear hb2); (try clear hk); (try clear hi); (try clear ho0)) | ((with_reducible refine gate_dst (N := 7) rfl ?_); (try (refine gate_guard (by rfl) ?_; dsimp only)); refine box_event ?hg (N := 7) ?hd (cs := #[.int .i64 0, .int .i64 0]) (t := 26) ?hr ?_; (case hd => rfl); (case hg => rfl); (case hr => first | (go_simp; done) | (go_simp; rfl)); intro gb300 hg w15 hbox hb; have n0_ := Aside0.mk (Kd.R_below (by (with_reducible repeat (first | apply Kd.R_alloc | apply Kd.R_drewN | apply Kd.R_drew)); exact HO296.out) hb); have n1_ := Aside0.mk (below_step (by repeat (first | (with_reducible first | exact HB.out | apply below_alloc | apply pw_below_drewN | apply below_drew1) | exact HB.out)) hb); have n2_ := Aside0.mk (hbox); have n3_ := Aside0.mk ((by rw [hg]; exact (below_size (by repeat (first | (with_reducible first | exact HB.out | apply below_alloc | apply pw_below_drewN | apply below_drew1) | exact HB.out))) : w.heap.size ≤ gb300)); have n4_ := Aside0.mk ((by rw [hg]; exact (below_size (by repeat (first | (with_reducible first | exact HB.out | apply below_alloc | apply pw_below_drewN | apply below_drew1) | exact HB.out))) : w.heap.size ≤ gb300)); clear HO296; clear HB; have HO296 := n0_; have HB := n1_; have BK300 := n2_; have GW300 := n3_; have GE300 := n4_; clear n0_ n1_ n2_ n3_ n4_; clear hb hbox hg; have hcz16_0 : w15.cell? ⟨gb300, 0, none⟩ = some (.int .i64 0) := (blk_cell BK300.out 0).trans rfl; have hcz16_1 : w15.cell? ⟨gb300, 1, none⟩ = some (.int .i64 0) := (blk_cell BK300.out 1).trans rfl; have hfz16_0 := blk_frozen BK300.out 0; have hfz16_1 := blk_frozen BK300.out 1) | ((with_reducible refine gate_callee (f := 9) rfl ?_); refine goesL_ (some 32) rfl rfl Tryz.func9 (by kernel_rfl) rfl #[.string ((a0 ++ (⟨#[10]⟩ : ByteArray)) ++ a1)] rfl (by (try simp only [List.map_toArray, List.map_cons, List.map_nil]); first | done | rfl | (simp only [List.length_drop, List.length_take]; rfl)) ?_; (with_reducible refine (lex_All.calls kj4 ((a0 ++ (⟨#[10]⟩ : ByteArray)) ++ a1) t301 t304 t305 t306 _ ?side1 A12.out).mono ?_); (case side1 => exact Gl.below HGL.out (by repeat (first | (with_reducible first | exact HB.out | apply below_alloc | apply pw_below_drewN | apply below_drew1 | refine below_set ?_ GE300.out) | exact HB.out))); rintro e w17 ⟨v302, rfl, ho0, hb⟩; refine ⟨_, rfl, ?_⟩; have n0_ := Aside0.mk (Kd.R_elder' (by (with_reducible repeat (first | apply Kd.R_alloc | apply Kd.R_drewN | apply Kd.R_drew)); exact (Kd.R_mono (Kd.R_far (p := ⟨gb300, 1, none⟩) (Kd.R_far (p := ⟨gb300, 0, none⟩) (Kd.R_types HO296.out BK300.out (by decide)) (fun _ hk => hk.2) (.int .i64 t298)) (fun _ hk => hk.2) (.int .i64 t299)) (fun _ h_ => h_.1))) (Kd.R_base ho0) hb); have n1_ := Aside0.mk (Kd.R_lower (Kd.R_new' ho0 (Kd.R_lt (by (with_reducible repeat (first | apply Kd.R_alloc | apply Kd.R_drewN | apply Kd.R_drew)); exact (Kd.R_mono (Kd.R_far (p := ⟨gb300, 1, none⟩) (Kd.R_far (p := ⟨gb300, 0, none⟩) (Kd.R_types HO296.out BK300.out (by decide)) (fun _ hk => hk.2) (.int .i64 t298)) (fun _ hk => hk.2) (.int .i64 t299)) (fun _ h_ => h_.1))))) (below_size (by repeat (first | (with_reducible first | exact HB.out | apply below_alloc | apply pw_below_drewN | apply below_drew1 | refine below_set ?_ GE300.out) | exact HB.out)))); have n2_ := Aside0.mk (blk_below (g := gb300) (o := .cells #[.int .i64 t298, .int .i64 t299] 26 (0, 0)) (by (with_reducible repeat (first | refine blk_drewN ?_ _ | refine blk_drew ?_ | refine blk_alloc ?_ _)); refine blk_put (cs := #[.int .i64 t298, .int .i64 0]) ?_ 1 _ rfl; (with_reducible repeat (first | refine blk_drewN ?_ _ | refine blk_drew ?_ | refine blk_alloc ?_ _)); refine blk_put (cs := #[.int .i64 0, .int .i64 0]) ?_ 0 _ rfl; (with_reducible repeat (first | refine blk_drewN ?_ _ | refine blk_drew ?_ | refine blk_alloc ?_ _)); exact BK300.out) hb); have n3_ := Aside0.mk (below_step (by repeat (first | (with_reducible first | exact HB.out | apply below_alloc | apply pw_below_drewN | apply below_drew1 | refine below_set ?_ GE300.out) | exact HB.out)) hb); clear HO296; clear BK300; clear HB; have HO296 := n0_; have HO303 := n1_; have BK300 := n2_; have HB := n3_; clear n0_ n1_ n2_ n3_; (try clear hb); (try clear hb2); (try clear hk); (try clear hi); (try clear ho0)) | ((with_reducible refine gate_dst (N := 10) rfl ?_); (try (refine gate_guard (by rfl) ?_; dsimp only)); refine box_event ?hg (N := 10) ?hd (cs := #[.int .i64 0, .int .i64 0]) (t := 26) ?hr ?_; (case hd => rfl); (case hg => rfl); (case hr => first | (go_simp; done) | (go_simp; rfl)); intro gb307 hg w18 hbox hb; have n0_ := Aside0.mk (Kd.R_below (by (with_reducible repeat (first | apply Kd.R_alloc | apply Kd.R_drewN | apply Kd.R_drew)); exact HO296.out) hb); have n1_ := Aside0.mk (Kd.R_below (by (with_reducible repeat (first | apply Kd.R_alloc | apply Kd.R_drewN | apply Kd.R_drew)); exact HO303.out) hb); have n2_ := Aside0.mk (blk_below (g := gb300) (o := .cells #[.int .i64 t298, .int .i64 t299] 26 (0, 0)) (by (with_reducible repeat (first | refine blk_drewN ?_ _ | refine blk_drew ?_ | refine blk_alloc ?_ _)); exact BK300.out) hb); have n3_ := Aside0.mk (below_step (by repeat (first | (with_reducible first | exact HB.out | apply below_alloc | apply pw_below_drewN | apply below_drew1 | refine below_set ?_ GE300.out) | exact HB.out)) hb); have n4_ := Aside0.mk (hbox); have n5_ := Aside0.mk ((by rw [hg]; exact (below_size (by repeat (first | (with_reducible first | exact HB.out | apply below_alloc | apply pw_below_drewN | apply below_drew1 | refine below_set ?_ GE300.out) | exact HB.out))) : w.heap.size ≤ gb307)); have n6_ := Aside0.mk ((by rw [hg]; exact (below_size (by repeat (first | (with_reducible first | exact HB.out | apply below_alloc | apply pw_below_drewN | apply below_drew1 | refine below_set ?_ GE300.out) | exact HB.out))) : w.heap.size ≤ gb307)); have n7_ := Aside0.mk ((by rw [hg]; exact Nat.ne_of_lt (blk_lt (g := gb300) (o := .cells #[.int .i64 t298, .int .i64 t299] 26 (0, 0)) (by (with_reducible repeat (first | refine blk_drewN ?_ _ | refine blk_drew ?_ | refine blk_alloc ?_ _)); exact BK300.out)) : gb300 ≠ gb307)); have n8_ := Aside0.mk ((by rw [hg]; exact Nat.ne_of_gt (blk_lt (g := gb300) (o := .cells #[.int .i64 t298, .int .i64 t299] 26 (0, 0)) (by (with_reducible repeat (first | refine blk_drewN ?_ _ | refine blk_drew ?_ | refine blk_alloc ?_ _)); exact BK300.out)) : gb307 ≠ gb300)); clear HO296; clear HO303; clear BK300; clear HB; have HO296 := n0_; have HO303 := n1_; have BK300 := n2_; have HB := n3_; have BK307 := n4_; have GW307 := n5_; have GE307 := n6_; have NB300_307 := n7_; have NB307_300 := n8_; clear n0_ n1_ n2_ n3_ n4_ n5_ n6_ n7_ n8_; clear hb hbox hg; have hnb19 := NB307_300.out; have hnc19 := NB300_307.out; have hcz20_0 : w18.cell? ⟨gb307, 0, none⟩ = some (.int .i64 0) := (blk_cell BK307.out 0).trans rfl; have hcz20_1 : w18.cell? ⟨gb307, 1, none⟩ = some (.int .i64 0) := (blk_cell BK307.out 1).trans rfl; have hfz20_0 := blk_frozen BK307.out 0; have hfz20_1 := blk_frozen BK307.out 1))
                go_ret
                exact ⟨by first | rfl | (simp [errW_none, errW_some] <;> rfl) | (simp [*, errW_none, errW_some] <;> rfl), by repeat (first | (with_reducible first | exact HB.out | apply below_alloc | apply pw_below_drewN | apply below_drew1 | refine below_set ?_ GE300.out | refine below_set ?_ GE307.out) | exact HB.out)⟩
              · rw [if_neg c13] at H
                have c13b0 : (t297 == 0) = false := beq_eq_false_iff_ne.mpr c13
                have c13b1 : (t297 != 0) = true := bne_iff_ne.mpr c13
                by_cases c21 : t304 = t297
                · rw [if_pos c21] at H
                  have c21b0 : (t304 == t297) = true := beq_iff_eq.mpr c21
                  have c21b1 : (t304 != t297) = false := bne_eq_false_iff_eq.mpr c21
                  clear c21
                  obtain rfl := Option.some.inj H
                  go_wp2_with (first | ((with_reducible refine gate_callee (f := 9) rfl ?_); refine goesL_ (some 23) rfl rfl Tryz.func9 (by kernel_rfl) rfl #[.string a0] rfl (by (try simp only [List.map_toArray, List.map_cons, List.map_nil]); first | done | rfl | (simp only [List.length_drop, List.length_take]; rfl)) ?_; (with_reducible refine (lex_All.calls kj4 a0 t294 t297 t298 t299 _ ?side1 A9.out).mono ?_); (case side1 => exact Gl.below HGL.out (by repeat (first | (with_reducible first | exact HB.out | apply below_alloc | apply pw_below_drewN | apply below_drew1) | exact HB.out))); rintro e w22 ⟨v295, rfl, ho0, hb⟩; refine ⟨_, rfl, ?_⟩; have n0_ := Aside0.mk (Kd.R_lower ho0 (below_size (by repeat (first | (with_reducible first | exact HB.out | apply below_alloc | apply pw_below_drewN | apply below_drew1) | exact HB.out)))); have n1_ := Aside0.mk (below_step (by repeat (first | (with_reducible first | exact HB.out | apply below_alloc | apply pw_below_drewN | apply below_drew1) | exact HB.out)) hb); clear HB; have HO296 := n0_; have HB := n1_; clear n0_ n1_; (try clear hb); (try clear hb2); (try clear hk); (try clear hi); (try clear ho0)) | ((with_reducible refine gate_dst (N := 7) rfl ?_); (try (refine gate_guard (by rfl) ?_; dsimp only)); refine box_event ?hg (N := 7) ?hd (cs := #[.int .i64 0, .int .i64 0]) (t := 26) ?hr ?_; (case hd => rfl); (case hg => rfl); (case hr => first | (go_simp; done) | (go_simp; rfl)); intro gb300 hg w23 hbox hb; have n0_ := Aside0.mk (Kd.R_below (by (with_reducible repeat (first | apply Kd.R_alloc | apply Kd.R_drewN | apply Kd.R_drew)); exact HO296.out) hb); have n1_ := Aside0.mk (below_step (by repeat (first | (with_reducible first | exact HB.out | apply below_alloc | apply pw_below_drewN | apply below_drew1) | exact HB.out)) hb); have n2_ := Aside0.mk (hbox); have n3_ := Aside0.mk ((by rw [hg]; exact (below_size (by repeat (first | (with_reducible first | exact HB.out | apply below_alloc | apply pw_below_drewN | apply below_drew1) | exact HB.out))) : w.heap.size ≤ gb300)); have n4_ := Aside0.mk ((by rw [hg]; exact (below_size (by repeat (first | (with_reducible first | exact HB.out | apply below_alloc | apply pw_below_drewN | apply below_drew1) | exact HB.out))) : w.heap.size ≤ gb300)); clear HO296; clear HB; have HO296 := n0_; have HB := n1_; have BK300 := n2_; have GW300 := n3_; have GE300 := n4_; clear n0_ n1_ n2_ n3_ n4_; clear hb hbox hg; have hcz24_0 : w23.cell? ⟨gb300, 0, none⟩ = some (.int .i64 0) := (blk_cell BK300.out 0).trans rfl; have hcz24_1 : w23.cell? ⟨gb300, 1, none⟩ = some (.int .i64 0) := (blk_cell BK300.out 1).trans rfl; have hfz24_0 := blk_frozen BK300.out 0; have hfz24_1 := blk_frozen BK300.out 1) | ((with_reducible refine gate_callee (f := 9) rfl ?_); refine goesL_ (some 32) rfl rfl Tryz.func9 (by kernel_rfl) rfl #[.string ((a0 ++ (⟨#[10]⟩ : ByteArray)) ++ a1)] rfl (by (try simp only [List.map_toArray, List.map_cons, List.map_nil]); first | done | rfl | (simp only [List.length_drop, List.length_take]; rfl)) ?_; (with_reducible refine (lex_All.calls kj4 ((a0 ++ (⟨#[10]⟩ : ByteArray)) ++ a1) t301 t304 t305 t306 _ ?side1 A12.out).mono ?_); (case side1 => exact Gl.below HGL.out (by repeat (first | (with_reducible first | exact HB.out | apply below_alloc | apply pw_below_drewN | apply below_drew1 | refine below_set ?_ GE300.out) | exact HB.out))); rintro e w25 ⟨v302, rfl, ho0, hb⟩; refine ⟨_, rfl, ?_⟩; have n0_ := Aside0.mk (Kd.R_elder' (by (with_reducible repeat (first | apply Kd.R_alloc | apply Kd.R_drewN | apply Kd.R_drew)); exact (Kd.R_mono (Kd.R_far (p := ⟨gb300, 1, none⟩) (Kd.R_far (p := ⟨gb300, 0, none⟩) (Kd.R_types HO296.out BK300.out (by decide)) (fun _ hk => hk.2) (.int .i64 t298)) (fun _ hk => hk.2) (.int .i64 t299)) (fun _ h_ => h_.1))) (Kd.R_base ho0) hb); have n1_ := Aside0.mk (Kd.R_lower (Kd.R_new' ho0 (Kd.R_lt (by (with_reducible repeat (first | apply Kd.R_alloc | apply Kd.R_drewN | apply Kd.R_drew)); exact (Kd.R_mono (Kd.R_far (p := ⟨gb300, 1, none⟩) (Kd.R_far (p := ⟨gb300, 0, none⟩) (Kd.R_types HO296.out BK300.out (by decide)) (fun _ hk => hk.2) (.int .i64 t298)) (fun _ hk => hk.2) (.int .i64 t299)) (fun _ h_ => h_.1))))) (below_size (by repeat (first | (with_reducible first | exact HB.out | apply below_alloc | apply pw_below_drewN | apply below_drew1 | refine below_set ?_ GE300.out) | exact HB.out)))); have n2_ := Aside0.mk (blk_below (g := gb300) (o := .cells #[.int .i64 t298, .int .i64 t299] 26 (0, 0)) (by (with_reducible repeat (first | refine blk_drewN ?_ _ | refine blk_drew ?_ | refine blk_alloc ?_ _)); refine blk_put (cs := #[.int .i64 t298, .int .i64 0]) ?_ 1 _ rfl; (with_reducible repeat (first | refine blk_drewN ?_ _ | refine blk_drew ?_ | refine blk_alloc ?_ _)); refine blk_put (cs := #[.int .i64 0, .int .i64 0]) ?_ 0 _ rfl; (with_reducible repeat (first | refine blk_drewN ?_ _ | refine blk_drew ?_ | refine blk_alloc ?_ _)); exact BK300.out) hb); have n3_ := Aside0.mk (below_step (by repeat (first | (with_reducible first | exact HB.out | apply below_alloc | apply pw_below_drewN | apply below_drew1 | refine below_set ?_ GE300.out) | exact HB.out)) hb); clear HO296; clear BK300; clear HB; have HO296 := n0_; have HO303 := n1_; have BK300 := n2_; have HB := n3_; clear n0_ n1_ n2_ n3_; (try clear hb); (try clear hb2); (try clear hk); (try clear hi); (try clear ho0)) | ((with_reducible refine gate_dst (N := 10) rfl ?_); (try (refine gate_guard (by rfl) ?_; dsimp only)); refine box_event ?hg (N := 10) ?hd (cs := #[.int .i64 0, .int .i64 0]) (t := 26) ?hr ?_; (case hd => rfl); (case hg => rfl); (case hr => first | (go_simp; done) | (go_simp; rfl)); intro gb307 hg w26 hbox hb; have n0_ := Aside0.mk (Kd.R_below (by (with_reducible repeat (first | apply Kd.R_alloc | apply Kd.R_drewN | apply Kd.R_drew)); exact HO296.out) hb); have n1_ := Aside0.mk (Kd.R_below (by (with_reducible repeat (first | apply Kd.R_alloc | apply Kd.R_drewN | apply Kd.R_drew)); exact HO303.out) hb); have n2_ := Aside0.mk (blk_below (g := gb300) (o := .cells #[.int .i64 t298, .int .i64 t299] 26 (0, 0)) (by (with_reducible repeat (first | refine blk_drewN ?_ _ | refine blk_drew ?_ | refine blk_alloc ?_ _)); exact BK300.out) hb); have n3_ := Aside0.mk (below_step (by repeat (first | (with_reducible first | exact HB.out | apply below_alloc | apply pw_below_drewN | apply below_drew1 | refine below_set ?_ GE300.out) | exact HB.out)) hb); have n4_ := Aside0.mk (hbox); have n5_ := Aside0.mk ((by rw [hg]; exact (below_size (by repeat (first | (with_reducible first | exact HB.out | apply below_alloc | apply pw_below_drewN | apply below_drew1 | refine below_set ?_ GE300.out) | exact HB.out))) : w.heap.size ≤ gb307)); have n6_ := Aside0.mk ((by rw [hg]; exact (below_size (by repeat (first | (with_reducible first | exact HB.out | apply below_alloc | apply pw_below_drewN | apply below_drew1 | refine below_set ?_ GE300.out) | exact HB.out))) : w.heap.size ≤ gb307)); have n7_ := Aside0.mk ((by rw [hg]; exact Nat.ne_of_lt (blk_lt (g := gb300) (o := .cells #[.int .i64 t298, .int .i64 t299] 26 (0, 0)) (by (with_reducible repeat (first | refine blk_drewN ?_ _ | refine blk_drew ?_ | refine blk_alloc ?_ _)); exact BK300.out)) : gb300 ≠ gb307)); have n8_ := Aside0.mk ((by rw [hg]; exact Nat.ne_of_gt (blk_lt (g := gb300) (o := .cells #[.int .i64 t298, .int .i64 t299] 26 (0, 0)) (by (with_reducible repeat (first | refine blk_drewN ?_ _ | refine blk_drew ?_ | refine blk_alloc ?_ _)); exact BK300.out)) : gb307 ≠ gb300)); clear HO296; clear HO303; clear BK300; clear HB; have HO296 := n0_; have HO303 := n1_; have BK300 := n2_; have HB := n3_; have BK307 := n4_; have GW307 := n5_; have GE307 := n6_; have NB300_307 := n7_; have NB307_300 := n8_; clear n0_ n1_ n2_ n3_ n4_ n5_ n6_ n7_ n8_; clear hb hbox hg; have hnb27 := NB307_300.out; have hnc27 := NB300_307.out; have hcz28_0 : w26.cell? ⟨gb307, 0, none⟩ = some (.int .i64 0) := (blk_cell BK307.out 0).trans rfl; have hcz28_1 : w26.cell? ⟨gb307, 1, none⟩ = some (.int .i64 0) := (blk_cell BK307.out 1).trans rfl; have hfz28_0 := blk_frozen BK307.out 0; have hfz28_1 := blk_frozen BK307.out 1; have hcz29_0 : w26.cell? ⟨gb300, 0, none⟩ = some (.int .i64 t298) := (blk_cell BK300.out 0).trans rfl; have hcz29_1 : w26.cell? ⟨gb300, 1, none⟩ = some (.int .i64 t299) := (blk_cell BK300.out 1).trans rfl; have hfz29_0 := blk_frozen BK300.out 0; have hfz29_1 := blk_frozen BK300.out 1))
                  go_ret
                  exact ⟨by first | rfl | (simp [errW_none, errW_some] <;> rfl) | (simp [*, errW_none, errW_some] <;> rfl), by repeat (first | (with_reducible first | exact HB.out | apply below_alloc | apply pw_below_drewN | apply below_drew1 | refine below_set ?_ GE300.out | refine below_set ?_ GE307.out) | exact HB.out)⟩
                · rw [if_neg c21] at H
                  have c21b0 : (t304 == t297) = false := beq_eq_false_iff_ne.mpr c21
                  have c21b1 : (t304 != t297) = true := bne_iff_ne.mpr c21
                  obtain rfl := Option.some.inj H
                  go_wp2_with (first | ((with_reducible refine gate_callee (f := 9) rfl ?_); refine goesL_ (some 23) rfl rfl Tryz.func9 (by kernel_rfl) rfl #[.string a0] rfl (by (try simp only [List.map_toArray, List.map_cons, List.map_nil]); first | done | rfl | (simp only [List.length_drop, List.length_take]; rfl)) ?_; (with_reducible refine (lex_All.calls kj4 a0 t294 t297 t298 t299 _ ?side1 A9.out).mono ?_); (case side1 => exact Gl.below HGL.out (by repeat (first | (with_reducible first | exact HB.out | apply below_alloc | apply pw_below_drewN | apply below_drew1) | exact HB.out))); rintro e w30 ⟨v295, rfl, ho0, hb⟩; refine ⟨_, rfl, ?_⟩; have n0_ := Aside0.mk (Kd.R_lower ho0 (below_size (by repeat (first | (with_reducible first | exact HB.out | apply below_alloc | apply pw_below_drewN | apply below_drew1) | exact HB.out)))); have n1_ := Aside0.mk (below_step (by repeat (first | (with_reducible first | exact HB.out | apply below_alloc | apply pw_below_drewN | apply below_drew1) | exact HB.out)) hb); clear HB; have HO296 := n0_; have HB := n1_; clear n0_ n1_; (try clear hb); (try clear hb2); (try clear hk); (try clear hi); (try clear ho0)) | ((with_reducible refine gate_dst (N := 7) rfl ?_); (try (refine gate_guard (by rfl) ?_; dsimp only)); refine box_event ?hg (N := 7) ?hd (cs := #[.int .i64 0, .int .i64 0]) (t := 26) ?hr ?_; (case hd => rfl); (case hg => rfl); (case hr => first | (go_simp; done) | (go_simp; rfl)); intro gb300 hg w31 hbox hb; have n0_ := Aside0.mk (Kd.R_below (by (with_reducible repeat (first | apply Kd.R_alloc | apply Kd.R_drewN | apply Kd.R_drew)); exact HO296.out) hb); have n1_ := Aside0.mk (below_step (by repeat (first | (with_reducible first | exact HB.out | apply below_alloc | apply pw_below_drewN | apply below_drew1) | exact HB.out)) hb); have n2_ := Aside0.mk (hbox); have n3_ := Aside0.mk ((by rw [hg]; exact (below_size (by repeat (first | (with_reducible first | exact HB.out | apply below_alloc | apply pw_below_drewN | apply below_drew1) | exact HB.out))) : w.heap.size ≤ gb300)); have n4_ := Aside0.mk ((by rw [hg]; exact (below_size (by repeat (first | (with_reducible first | exact HB.out | apply below_alloc | apply pw_below_drewN | apply below_drew1) | exact HB.out))) : w.heap.size ≤ gb300)); clear HO296; clear HB; have HO296 := n0_; have HB := n1_; have BK300 := n2_; have GW300 := n3_; have GE300 := n4_; clear n0_ n1_ n2_ n3_ n4_; clear hb hbox hg; have hcz32_0 : w31.cell? ⟨gb300, 0, none⟩ = some (.int .i64 0) := (blk_cell BK300.out 0).trans rfl; have hcz32_1 : w31.cell? ⟨gb300, 1, none⟩ = some (.int .i64 0) := (blk_cell BK300.out 1).trans rfl; have hfz32_0 := blk_frozen BK300.out 0; have hfz32_1 := blk_frozen BK300.out 1) | ((with_reducible refine gate_callee (f := 9) rfl ?_); refine goesL_ (some 32) rfl rfl Tryz.func9 (by kernel_rfl) rfl #[.string ((a0 ++ (⟨#[10]⟩ : ByteArray)) ++ a1)] rfl (by (try simp only [List.map_toArray, List.map_cons, List.map_nil]); first | done | rfl | (simp only [List.length_drop, List.length_take]; rfl)) ?_; (with_reducible refine (lex_All.calls kj4 ((a0 ++ (⟨#[10]⟩ : ByteArray)) ++ a1) t301 t304 t305 t306 _ ?side1 A12.out).mono ?_); (case side1 => exact Gl.below HGL.out (by repeat (first | (with_reducible first | exact HB.out | apply below_alloc | apply pw_below_drewN | apply below_drew1 | refine below_set ?_ GE300.out) | exact HB.out))); rintro e w33 ⟨v302, rfl, ho0, hb⟩; refine ⟨_, rfl, ?_⟩; have n0_ := Aside0.mk (Kd.R_elder' (by (with_reducible repeat (first | apply Kd.R_alloc | apply Kd.R_drewN | apply Kd.R_drew)); exact (Kd.R_mono (Kd.R_far (p := ⟨gb300, 1, none⟩) (Kd.R_far (p := ⟨gb300, 0, none⟩) (Kd.R_types HO296.out BK300.out (by decide)) (fun _ hk => hk.2) (.int .i64 t298)) (fun _ hk => hk.2) (.int .i64 t299)) (fun _ h_ => h_.1))) (Kd.R_base ho0) hb); have n1_ := Aside0.mk (Kd.R_lower (Kd.R_new' ho0 (Kd.R_lt (by (with_reducible repeat (first | apply Kd.R_alloc | apply Kd.R_drewN | apply Kd.R_drew)); exact (Kd.R_mono (Kd.R_far (p := ⟨gb300, 1, none⟩) (Kd.R_far (p := ⟨gb300, 0, none⟩) (Kd.R_types HO296.out BK300.out (by decide)) (fun _ hk => hk.2) (.int .i64 t298)) (fun _ hk => hk.2) (.int .i64 t299)) (fun _ h_ => h_.1))))) (below_size (by repeat (first | (with_reducible first | exact HB.out | apply below_alloc | apply pw_below_drewN | apply below_drew1 | refine below_set ?_ GE300.out) | exact HB.out)))); have n2_ := Aside0.mk (blk_below (g := gb300) (o := .cells #[.int .i64 t298, .int .i64 t299] 26 (0, 0)) (by (with_reducible repeat (first | refine blk_drewN ?_ _ | refine blk_drew ?_ | refine blk_alloc ?_ _)); refine blk_put (cs := #[.int .i64 t298, .int .i64 0]) ?_ 1 _ rfl; (with_reducible repeat (first | refine blk_drewN ?_ _ | refine blk_drew ?_ | refine blk_alloc ?_ _)); refine blk_put (cs := #[.int .i64 0, .int .i64 0]) ?_ 0 _ rfl; (with_reducible repeat (first | refine blk_drewN ?_ _ | refine blk_drew ?_ | refine blk_alloc ?_ _)); exact BK300.out) hb); have n3_ := Aside0.mk (below_step (by repeat (first | (with_reducible first | exact HB.out | apply below_alloc | apply pw_below_drewN | apply below_drew1 | refine below_set ?_ GE300.out) | exact HB.out)) hb); clear HO296; clear BK300; clear HB; have HO296 := n0_; have HO303 := n1_; have BK300 := n2_; have HB := n3_; clear n0_ n1_ n2_ n3_; (try clear hb); (try clear hb2); (try clear hk); (try clear hi); (try clear ho0)) | ((with_reducible refine gate_dst (N := 10) rfl ?_); (try (refine gate_guard (by rfl) ?_; dsimp only)); refine box_event ?hg (N := 10) ?hd (cs := #[.int .i64 0, .int .i64 0]) (t := 26) ?hr ?_; (case hd => rfl); (case hg => rfl); (case hr => first | (go_simp; done) | (go_simp; rfl)); intro gb307 hg w34 hbox hb; have n0_ := Aside0.mk (Kd.R_below (by (with_reducible repeat (first | apply Kd.R_alloc | apply Kd.R_drewN | apply Kd.R_drew)); exact HO296.out) hb); have n1_ := Aside0.mk (Kd.R_below (by (with_reducible repeat (first | apply Kd.R_alloc | apply Kd.R_drewN | apply Kd.R_drew)); exact HO303.out) hb); have n2_ := Aside0.mk (blk_below (g := gb300) (o := .cells #[.int .i64 t298, .int .i64 t299] 26 (0, 0)) (by (with_reducible repeat (first | refine blk_drewN ?_ _ | refine blk_drew ?_ | refine blk_alloc ?_ _)); exact BK300.out) hb); have n3_ := Aside0.mk (below_step (by repeat (first | (with_reducible first | exact HB.out | apply below_alloc | apply pw_below_drewN | apply below_drew1 | refine below_set ?_ GE300.out) | exact HB.out)) hb); have n4_ := Aside0.mk (hbox); have n5_ := Aside0.mk ((by rw [hg]; exact (below_size (by repeat (first | (with_reducible first | exact HB.out | apply below_alloc | apply pw_below_drewN | apply below_drew1 | refine below_set ?_ GE300.out) | exact HB.out))) : w.heap.size ≤ gb307)); have n6_ := Aside0.mk ((by rw [hg]; exact (below_size (by repeat (first | (with_reducible first | exact HB.out | apply below_alloc | apply pw_below_drewN | apply below_drew1 | refine below_set ?_ GE300.out) | exact HB.out))) : w.heap.size ≤ gb307)); have n7_ := Aside0.mk ((by rw [hg]; exact Nat.ne_of_lt (blk_lt (g := gb300) (o := .cells #[.int .i64 t298, .int .i64 t299] 26 (0, 0)) (by (with_reducible repeat (first | refine blk_drewN ?_ _ | refine blk_drew ?_ | refine blk_alloc ?_ _)); exact BK300.out)) : gb300 ≠ gb307)); have n8_ := Aside0.mk ((by rw [hg]; exact Nat.ne_of_gt (blk_lt (g := gb300) (o := .cells #[.int .i64 t298, .int .i64 t299] 26 (0, 0)) (by (with_reducible repeat (first | refine blk_drewN ?_ _ | refine blk_drew ?_ | refine blk_alloc ?_ _)); exact BK300.out)) : gb307 ≠ gb300)); clear HO296; clear HO303; clear BK300; clear HB; have HO296 := n0_; have HO303 := n1_; have BK300 := n2_; have HB := n3_; have BK307 := n4_; have GW307 := n5_; have GE307 := n6_; have NB300_307 := n7_; have NB307_300 := n8_; clear n0_ n1_ n2_ n3_ n4_ n5_ n6_ n7_ n8_; clear hb hbox hg; have hnb35 := NB307_300.out; have hnc35 := NB300_307.out; have hcz36_0 : w34.cell? ⟨gb307, 0, none⟩ = some (.int .i64 0) := (blk_cell BK307.out 0).trans rfl; have hcz36_1 : w34.cell? ⟨gb307, 1, none⟩ = some (.int .i64 0) := (blk_cell BK307.out 1).trans rfl; have hfz36_0 := blk_frozen BK307.out 0; have hfz36_1 := blk_frozen BK307.out 1))
                  go_ret
                  exact ⟨by first | rfl | (simp [errW_none, errW_some] <;> rfl) | (simp [*, errW_none, errW_some] <;> rfl), by repeat (first | (with_reducible first | exact HB.out | apply below_alloc | apply pw_below_drewN | apply below_drew1 | refine below_set ?_ GE300.out | refine below_set ?_ GE307.out) | exact HB.out)⟩
            · rw [if_neg c11] at H
              exact absurd H (by simp)
          · rw [if_neg c10] at H
            exact absurd H (by simp)
  · replace c4 := Bool.eq_false_iff.mpr c4
    subst c4
    have H1 : (some false) = some r := by rw [if_neg (show ¬ (false = true) by decide)] at H; exact H
    clear H
    have H := H1
    clear H1
    obtain rfl := Option.some.inj H
    go_enter Tryz.func7, Tryz.ntmps7
    go_wp2_with (first | ((with_reducible refine gate_callee (f := 8) rfl ?_); refine goesL_ (some 11) rfl rfl Tryz.func8 (by kernel_rfl) rfl #[] rfl (by (try simp only [List.map_toArray, List.map_cons, List.map_nil]); first | done | rfl | (simp only [List.length_drop, List.length_take]; rfl)) ?_; (with_reducible refine (bloomerylaw09_alive.calls k  false _ ?side1 A3.out).mono ?_); (case side1 => exact Gl.below HGL.out (by repeat (first | (with_reducible first | exact HB.out | apply below_alloc | apply pw_below_drewN | apply below_drew1) | exact HB.out))); rintro e w37 ⟨rfl, hb⟩; refine ⟨_, rfl, ?_⟩; have n0_ := Aside0.mk (below_step (by repeat (first | (with_reducible first | exact HB.out | apply below_alloc | apply pw_below_drewN | apply below_drew1) | exact HB.out)) hb); clear HB; have HB := n0_; clear n0_; (try clear hb); (try clear hb2); (try clear hk); (try clear hi)))
    go_ret
    exact ⟨by first | rfl | (simp [errW_none, errW_some] <;> rfl) | (simp [*, errW_none, errW_some] <;> rfl), by repeat (first | (with_reducible first | exact HB.out | apply below_alloc | apply pw_below_drewN | apply below_drew1) | exact HB.out)⟩

end Go.Proofs.YtannlhonjkhchaaGreatDoor.G

/- Layer 9's laws LexQuotes, LexAgain, LexFaults as Lean functions: each comes to true. No program's run. -/
namespace Go.Proofs.YtannlhonjkhchaaGreatDoor.G
open Go.RowKit Go.Gw Go.Proofs.YtannlhonjkhchaaGreatDoorW.PrintWords
set_option linter.unusedVariables false
set_option linter.unusedSimpArgs false

theorem quote_f (l : List UInt8) (h : l.length ≤ 1000000) : lex_Quote.f (B l) = some (B (Lx.quote l)) := by
  unfold lex_Quote.f
  rw [if_pos (by rw [B_size]; exact h)]
  rfl
theorem rquote_f (l : List UInt8) (h : l.length ≤ 1000000) : bloomeryref09_Quote.f (B l) = some (B (Lx.quote l)) := by
  unfold bloomeryref09_Quote.f
  rw [if_pos (by rw [B_size]; exact h)]
  rfl
/-- The document's examples. -/
theorem alive_ev : Ev (fun k => bloomerylaw09_alive.f k) true := by
  have h1 := all_ev [97, 32, 61, 32, 34, 120, 92, 110, 34, 59, 32, 35, 32, 115, 111] (by decide)
  have h2 := all_ev [97, 32, 63] (by decide)
  have e1 : Lx.all (1, 1) [97, 32, 61, 32, 34, 120, 92, 110, 34, 59, 32, 35, 32, 115, 111] = .inr [⟨1, [97], (1, 1)⟩, ⟨4, [61], (1, 3)⟩, ⟨3, [120, 10], (1, 5)⟩, ⟨4, [59], (1, 10)⟩] := by decide +kernel
  have e2 : Lx.all (1, 1) [97, 32, 63] = .inl (3, (1, 3)) := by decide +kernel
  have e3 : Lx.quote [97, 34, 98] = [34, 97, 92, 34, 98, 34] := by decide +kernel
  rw [e1] at h1
  rw [e2] at h2
  have h3 : lex_Quote.f ⟨#[97, 34, 98]⟩ = some (B [34, 97, 92, 34, 98, 34]) := by
    have := quote_f [97, 34, 98] (by decide)
    rw [e3] at this
    exact this
  unfold bloomerylaw09_alive.f
  refine Ev.bind h1 (Ev.bind h2 ⟨0, fun k _ => ?_⟩)
  simp only [allR, h3, List.map_cons, List.map_nil, List.nil_append]
  simp only [rd_T33, tokS, List.length_cons, List.length_nil]
  simp [B_toList]

theorem all_inl {s : List UInt8} {e : Nat × (Nat × Nat)} (h : Lx.all (1, 1) s = .inl e) (hl : s.length ≤ 65536) : Ev (fun k => lex_All.f k (B s)) ([], (e.1 : Int), (e.2.1 : Int), (e.2.2 : Int)) := by
  have := all_ev s hl
  rw [h] at this
  exact this
theorem all_inr {s : List UInt8} {l : List Lx.Tok} (h : Lx.all (1, 1) s = .inr l) (hl : s.length ≤ 65536) : Ev (fun k => lex_All.f k (B s)) (l.map tokS, 0, 0, 0) := by
  have := all_ev s hl
  rw [h] at this
  exact this
theorem lf_B : (⟨#[10]⟩ : ByteArray) = B [10] := rfl
/-- An error's number is none that says that all is well. -/
theorem allF_err : ∀ (k : Nat) (p : Nat × Nat) (s : List UInt8) (e : Nat) (q : Nat × Nat), Lx.allF k p s = .inl (e, q) → 1 ≤ e := by
  intro k
  induction k with
  | zero => intro p s e q h; cases h
  | succ k ih =>
    intro p s e q h
    unfold Lx.allF at h
    split at h
    · cases h
    · rcases piece_cases s with ⟨n, g⟩ | g | g | ⟨kd, t, n, _, _, g⟩
      · rw [g] at h
        exact ih _ _ _ _ h
      · rw [g] at h
        cases h
        omega
      · rw [g] at h
        cases h
        omega
      · rw [g] at h
        simp only at h
        cases hr : Lx.allF k (Lx.pass p (s.take n)) (s.drop n) with
        | inl x => rw [hr] at h; simp only [Sum.inl.injEq] at h; rw [h] at hr; exact ih _ _ _ _ hr
        | inr x => rw [hr] at h; cases h
theorem LexFaults_ev (a b : List UInt8) : Ev (fun k => bloomerylaw09_LexFaults.f k (B a) (B b)) true := by
  unfold bloomerylaw09_LexFaults.f
  refine Ev.bind alive_ev (Ev.pos rfl ?_)
  rw [B_size, B_size]
  by_cases ha : (a.length : Int) > 300
  · refine Ev.pos ha (Ev.step (fun m => by rw [bloomerylaw09_LexFaults.j0]) (Ev.pos rfl (Ev.now _)))
  · refine Ev.neg ha ?_
    by_cases hb : (b.length : Int) > 300
    · rw [show decide ((b.length : Int) > 300) = true by simpa using hb]
      exact Ev.step (fun m => by rw [bloomerylaw09_LexFaults.j0]) (Ev.pos rfl (Ev.now _))
    · rw [show decide ((b.length : Int) > 300) = false by simpa using hb]
      refine Ev.step (fun m => by rw [bloomerylaw09_LexFaults.j0]) (Ev.neg (by decide) ?_)
      simp only [lf_B, B_app, B_size]
      have e : a ++ [10] ++ b = a ++ 10 :: b := by simp
      rw [e]
      cases h : Lx.all (1, 1) a with
      | inr l =>
        refine Ev.bind (all_inr h (by omega)) (Ev.pos (by omega) (Ev.pos (by simp; omega) ?_))
        cases h2 : Lx.all (1, 1) (a ++ 10 :: b) with
        | inl x => exact Ev.bind (all_inl h2 (by simp; omega)) (Ev.pos rfl (Ev.now _))
        | inr x => exact Ev.bind (all_inr h2 (by simp; omega)) (Ev.pos rfl (Ev.now _))
      | inl x =>
        have h2 := Lx.all_fault b a.length a (Nat.le_refl _) (1, 1) x h
        obtain ⟨x1, x2⟩ := x
        have h1 := allF_err _ _ _ _ _ h
        refine Ev.bind (all_inl h (by omega)) (Ev.pos (by omega) (Ev.pos (by simp; omega) ?_))
        refine Ev.bind (all_inl h2 (by simp; omega)) (Ev.neg (by simp only; omega) (Ev.pos rfl ⟨0, fun k _ => by simp⟩))

theorem body_len : ∀ (s b : List UInt8), Lx.body s = some b → b.length ≤ 2 * s.length := by
  intro s
  induction s with
  | nil => intro b h; cases h; simp
  | cons c r ih =>
    intro b h
    unfold Lx.body at h
    have key : ∀ (f : List UInt8 → List UInt8), (∀ x, (f x).length ≤ x.length + 2) → (Lx.body r).map f = some b → b.length ≤ 2 * (c :: r).length := by
      intro f hf h
      cases hr : Lx.body r with
      | none => rw [hr] at h; cases h
      | some b' =>
        rw [hr] at h
        cases h
        have := ih b' hr
        have := hf b'
        simp only [List.length_cons]
        omega
    split at h
    · exact key _ (by intro x; simp) h
    · split at h
      · cases h
      · split at h
        · exact key _ (by intro x; simp) h
        · exact key _ (by intro x; simp) h
theorem quote_len (s : List UInt8) : (Lx.quote s).length ≤ 2 * s.length + 2 := by
  unfold Lx.quote
  cases h : Lx.body s with
  | none => simp
  | some b =>
    have := body_len s b h
    simp
    omega
theorem blank_B : (⟨#[32]⟩ : ByteArray) = B [32] := rfl
theorem empty_B : (⟨#[]⟩ : ByteArray) = B [] := rfl
theorem LexQuotes_ev (s : List UInt8) (n : Nat) (hn : n ≤ 255) : Ev (fun k => bloomerylaw09_LexQuotes.f k (B s) n) true := by
  unfold bloomerylaw09_LexQuotes.f
  refine Ev.bind alive_ev (Ev.pos rfl ?_)
  rw [B_size]
  by_cases hs : (s.length : Int) > 500
  · exact Ev.pos hs (Ev.now _)
  · refine Ev.neg hs ?_
    have hq := quote_len s
    rw [quote_f s (by omega), rquote_f s (by omega)]
    simp only [Option.bind_some]
    refine Ev.pos trivial ?_
    cases hb : Lx.body s with
    | none =>
      have : Lx.quote s = [] := by unfold Lx.quote; rw [hb]
      rw [this]
      exact Ev.pos (B_toList _) (Ev.now _)
    | some b =>
      have hqe : Lx.quote s = 34 :: (b ++ [34]) := by unfold Lx.quote; rw [hb]
      refine Ev.neg (by rw [B_toList, hqe]; simp) ?_
      have hm : Int.tmod (wrap64 (n : Int)) 9 = ((n % 9 : Nat) : Int) := by
        rw [w64 (by omega) (by omega)]
        rfl
      have key : ∀ d i, d + i = n % 9 → Ev (fun k => bloomerylaw09_LexQuotes.l0 k (B s) n (B (Lx.quote s)) (B (List.replicate i 32)) i) true := by
        intro d
        induction d with
        | zero =>
          intro i hi
          have hi : i = n % 9 := by omega
          refine Ev.step (fun m => by rw [bloomerylaw09_LexQuotes.l0, hm]) (Ev.neg (by omega) ?_)
          rw [B_app, B_size, B_size]
          refine Ev.pos (by simp; omega) ?_
          have hall := all_inr (Lx.all_quote s b hb i) (by simp; omega)
          refine Ev.bind hall (Ev.pos rfl (Ev.pos rfl (Ev.pos (by simp) ⟨0, fun k _ => ?_⟩)))
          rw [w64 (by omega) (by omega)]
          simp [rd_T33, tokS, B_toList, hi]
        | succ d ih =>
          intro i hi
          refine Ev.step (fun m => by rw [bloomerylaw09_LexQuotes.l0, hm]) (Ev.pos (by omega) (Ev.pos (by rw [B_size]; simp; omega) ?_))
          have := ih (i + 1) (by omega)
          rw [w64 (by omega) (by omega), blank_B, B_app, show List.replicate i (32 : UInt8) ++ [32] = List.replicate (i + 1) 32 by rw [List.replicate_succ']]
          exact this
      have := key (n % 9) 0 (by omega)
      exact this

theorem quoted_text : ∀ (k : Nat) (s : List UInt8), s.length ≤ k → ∀ t n, Lx.quoted s = some (t, n) → t.length + 1 ≤ n := by
  intro k
  induction k with
  | zero =>
    intro s hs t n h
    have : s = [] := List.length_eq_zero_iff.1 (by omega)
    subst this
    simp [Lx.quoted] at h
  | succ k ih =>
    intro s hs t n h
    match s with
    | [] => simp [Lx.quoted] at h
    | c :: r =>
      simp only [List.length_cons] at hs
      rw [Lx.quoted_cons] at h
      split at h
      · cases h; simp
      · split at h
        · cases h
        · split at h
          · match r with
            | [] => cases h
            | d :: r' =>
              simp only [List.length_cons] at hs h
              split at h
              · cases h
              · split at h
                · cases h
                · rename_i hq
                  cases h
                  have := ih r' (by omega) _ _ hq
                  simp only [List.length_cons]; omega
          · split at h
            · cases h
            · rename_i hq
              cases h
              have := ih r (by omega) _ _ hq
              simp only [List.length_cons]; omega
theorem piece_text (s : List UInt8) (kd : Nat) (t : List UInt8) (n : Nat) (h : Lx.piece s = .tok kd t n) : t.length ≤ s.length := by
  match s with
  | [] => simp [Lx.piece] at h
  | c :: r =>
    have hw : ∀ p : UInt8 → Bool, ((c :: r).takeWhile p).length ≤ (c :: r).length := fun p => (List.takeWhile_sublist p).length_le
    rw [Lx.piece_cons] at h
    split at h
    · cases h
    · split at h
      · cases h
      · split at h
        · cases h; exact hw _
        · split at h
          · rcases number_cases (c :: r) with g | g | ⟨t', n', g⟩
            · rw [g] at h; cases h
            · rw [g] at h; cases h
            · unfold Lx.number at h
              split at h
              · cases h
              · split at h
                · cases h
                · cases h; exact hw _
          · split at h
            · split at h
              · cases h
              · rename_i hq
                cases h
                have h1 := quoted_text r.length r (Nat.le_refl _) _ _ hq
                have h2 := Lx.quoted_le r.length r (Nat.le_refl _) _ _ hq
                simp only [List.length_cons]
                omega
            · split at h
              · rename_i hr
                cases h
                match r with
                | [] => simp at hr
                | d :: r' => simp
              · split at h
                · cases h; simp
                · cases h
theorem allF_text : ∀ (k : Nat) (p : Nat × Nat) (s : List UInt8) (l : List Lx.Tok), Lx.allF k p s = .inr l → ∀ t ∈ l, t.text.length ≤ s.length := by
  intro k
  induction k with
  | zero => intro p s l h t ht; cases h; cases ht
  | succ k ih =>
    intro p s l h t ht
    unfold Lx.allF at h
    split at h
    · cases h; cases ht
    · rcases piece_cases s with ⟨n, g⟩ | g | g | ⟨kd, tx, n, _, _, g⟩
      · rw [g] at h
        have := ih _ _ _ h t ht
        rw [List.length_drop] at this
        omega
      · rw [g] at h; cases h
      · rw [g] at h; cases h
      · have hp := piece_text s kd tx n g
        rw [g] at h
        simp only at h
        cases hr : Lx.allF k (Lx.pass p (s.take n)) (s.drop n) with
        | inl x => rw [hr] at h; cases h
        | inr x =>
          rw [hr] at h
          cases h
          rcases List.mem_cons.1 ht with rfl | ht
          · exact hp
          · have := ih _ _ _ hr t ht
            rw [List.length_drop] at this
            omega
theorem rd_tok (l : List Lx.Tok) (i : Nat) (h : i < l.length) : rd_T33 (l.map tokS) (i : Int) = tokS (l[i]'h) := by
  unfold rd_T33
  rw [Int.toNat_natCast, List.getD_eq_getElem?_getD, List.getElem?_map, List.getElem?_eq_getElem h]
  rfl
theorem spaced_app (a b : List Lx.Tok) : Lx.spaced (a ++ b) = Lx.spaced a ++ Lx.spaced b := by
  induction a with
  | nil => rfl
  | cons t a ih => simp [Lx.spaced, ih]
theorem take_snoc' {α : Type} (l : List α) (i : Nat) (h : i < l.length) : l.take (i + 1) = l.take i ++ [l[i]] := by
  rw [List.take_succ_eq_append_getElem h]
theorem written_f (t : Lx.Tok) (h : t.text.length ≤ 1000000) : bloomerylaw09_written.f (tokS t).f0 (tokS t).f1 (tokS t).f2.f0 (tokS t).f2.f1 = some (B t.written) := by
  unfold bloomerylaw09_written.f Lx.Tok.written tokS
  simp only
  by_cases hk : t.kind = 3
  · rw [if_pos (by omega), if_pos hk, rquote_f _ h]
    rfl
  · rw [if_neg (by omega), if_neg hk]
/-- The tokens are compared, but for places. -/
theorem again_l1 (l m : List Lx.Tok) (h : m.map Lx.Tok.says = l.map Lx.Tok.says) (hl : l.length ≤ 1000000) : ∀ d i, d + i = l.length → Ev (fun k => bloomerylaw09_LexAgain.l1 k (l.map tokS) (m.map tokS) i) true := by
  have hlen : m.length = l.length := by have := congrArg List.length h; simpa using this
  intro d
  induction d with
  | zero =>
    intro i hi
    exact Ev.step (fun k => by rw [bloomerylaw09_LexAgain.l1]) (Ev.neg (by rw [List.length_map]; omega) (Ev.now _))
  | succ d ih =>
    intro i hi
    have h1 : i < l.length := by omega
    have h2 : i < m.length := by omega
    have hs : Lx.Tok.says (m[i]'h2) = Lx.Tok.says (l[i]'h1) := by
      have e1 : (m.map Lx.Tok.says)[i]'(by simpa using h2) = Lx.Tok.says (m[i]'h2) := by simp
      have e2 : (l.map Lx.Tok.says)[i]'(by simpa using h1) = Lx.Tok.says (l[i]'h1) := by simp
      rw [← e1, ← e2]
      congr 1
    unfold Lx.Tok.says at hs
    rw [Prod.mk.injEq] at hs
    refine Ev.step (fun k => by rw [bloomerylaw09_LexAgain.l1]) (Ev.pos (by rw [List.length_map]; omega) (Ev.pos (by omega) (Ev.pos (by rw [List.length_map]; omega) ?_)))
    rw [rd_tok l i h1, rd_tok m i h2, w64 (by omega) (by omega)]
    refine Ev.pos (by simp only [tokS]; omega) (Ev.pos (by simp only [tokS, B_toList]; exact hs.2) ?_)
    exact ih (i + 1) (by omega)
theorem LexAgain_ev (s : List UInt8) : Ev (fun k => bloomerylaw09_LexAgain.f k (B s)) true := by
  unfold bloomerylaw09_LexAgain.f
  refine Ev.bind alive_ev (Ev.pos rfl ?_)
  rw [B_size]
  by_cases hs : (s.length : Int) > 600
  · exact Ev.pos hs (Ev.now _)
  · refine Ev.neg hs ?_
    cases h : Lx.all (1, 1) s with
    | inl x =>
      have h1 := allF_err _ _ _ _ _ h
      refine Ev.bind (all_inl h (by omega)) (Ev.neg (by simp only; omega) ⟨0, fun k _ => rfl⟩)
    | inr l =>
      obtain ⟨hsp, hag⟩ := Lx.all_again s.length s (Nat.le_refl _) (1, 1) l h
      obtain ⟨m, hm1, hm2⟩ := hag (1, 1)
      have htx := allF_text _ _ _ _ h
      have hll : l.length ≤ (Lx.spaced l).length := by
        clear hsp hag hm1 hm2 htx h
        induction l with
        | nil => simp [Lx.spaced]
        | cons t l ih => simp [Lx.spaced]; omega
      refine Ev.bind (all_inr h (by omega)) (Ev.pos rfl ?_)
      have key : ∀ d i, d + i = l.length → Ev (fun k => bloomerylaw09_LexAgain.l0 k (l.map tokS) (B (Lx.spaced (l.take i))) i) true := by
        intro d
        induction d with
        | zero =>
          intro i hi
          have hi : i = l.length := by omega
          subst hi
          rw [List.take_length]
          refine Ev.step (fun k => by rw [bloomerylaw09_LexAgain.l0]) (Ev.neg (by rw [List.length_map]; omega) (Ev.bind (all_inr hm1 (by omega)) (Ev.pos rfl ?_)))
          have hlen : m.length = l.length := by have := congrArg List.length hm2; simpa using this
          rw [show (((m.map tokS).length : Int) != ((l.map tokS).length : Int)) = false by simp [hlen]]
          refine Ev.step (fun k => by rw [bloomerylaw09_LexAgain.j1]) (Ev.neg (by decide) ?_)
          exact again_l1 l m hm2 (by omega) l.length 0 (by omega)
        | succ d ih =>
          intro i hi
          have h1 : i < l.length := by omega
          have hpre : (Lx.spaced (l.take (i + 1))).length ≤ (Lx.spaced l).length := by
            conv => rhs; rw [← List.take_append_drop (i + 1) l]
            rw [spaced_app, List.length_append]
            omega
          rw [take_snoc' l i h1, spaced_app] at hpre
          have e1 : Lx.spaced [l[i]] = l[i].written ++ [32] := by simp [Lx.spaced]
          rw [e1, List.length_append, List.length_append] at hpre
          refine Ev.step (fun k => by rw [bloomerylaw09_LexAgain.l0]) (Ev.pos (by rw [List.length_map]; omega) (Ev.pos (by omega) ?_))
          rw [rd_tok l i h1, written_f _ (by have := htx l[i] (List.getElem_mem h1); omega)]
          simp only [Option.bind_some, blank_B, B_app, B_size]
          refine Ev.pos (by omega) (Ev.pos (by rw [List.length_append]; omega) ?_)
          have := ih (i + 1) (by omega)
          rw [take_snoc' l i h1, spaced_app, e1, ← List.append_assoc] at this
          rw [w64 (by omega) (by omega)]
          exact this
      exact key l.length 0 (by omega)
end Go.Proofs.YtannlhonjkhchaaGreatDoor.G

/- Layer 9's laws LexQuotes, LexAgain, LexFaults: what calls of them do: each returns true. Conditions: the library's two errors of numbers as they were laid. -/
namespace Go.Proofs.YtannlhonjkhchaaGreatDoor
open Go.RowKit Go.Gw Go.Proofs.YtannlhonjkhchaaGreatDoorW.PrintWords G

theorem LexFaults_row (a b : ByteArray) (w : World) (_ : Tab Tryz.prog w) (E : Errs Tryz.prog w) (_ : a.size ≤ 140737488351232) (_ : b.size ≤ 140737488351232) :
    Calls Tryz.prog 7 #[.string a, .string b] w fun e w' => e = .returned (.bool true) ∧ Below w.heap.size w w' := by
  obtain ⟨k, hk⟩ := (LexFaults_ev a.data.toList b.data.toList).rounds
  rw [B_of, B_of] at hk
  exact bloomerylaw09_LexFaults.calls k a b true w ⟨E⟩ hk
theorem LexAgain_row (a : ByteArray) (w : World) (_ : Tab Tryz.prog w) (E : Errs Tryz.prog w) (_ : a.size ≤ 140737488351232) :
    Calls Tryz.prog 5 #[.string a] w fun e w' => e = .returned (.bool true) ∧ Below w.heap.size w w' := by
  obtain ⟨k, hk⟩ := (LexAgain_ev a.data.toList).rounds
  rw [B_of] at hk
  exact bloomerylaw09_LexAgain.calls k a true w ⟨E⟩ hk
theorem LexQuotes_row (a : ByteArray) (n : Int) (w : World) (_ : Tab Tryz.prog w) (E : Errs Tryz.prog w) (_ : a.size ≤ 140737488351232) (hn : (Lit.int .u8 n).wf = true) :
    Calls Tryz.prog 4 #[.string a, .int .u8 n] w fun e w' => e = .returned (.bool true) ∧ Below w.heap.size w w' := by
  have hn' := bounds_u8 hn
  obtain ⟨m, rfl⟩ : ∃ m : Nat, n = m := ⟨n.toNat, by omega⟩
  obtain ⟨k, hk⟩ := (LexQuotes_ev a.data.toList m (by omega)).rounds
  rw [B_of] at hk
  exact bloomerylaw09_LexQuotes.calls k a m true w ⟨E⟩ hk
end Go.Proofs.YtannlhonjkhchaaGreatDoor

/- How a value that came in reads as one of a kind, and how great it is. Of no program. -/
namespace Go.Proofs.YtannlhonjkhchaaGreatDoor
open Go.RowKit Go.Gw Go.Proofs.YtannlhonjkhchaaGreatDoorW.PrintWords
set_option linter.unusedVariables false

/-- Whatever reads as data of type t, so deep, is of the kind d; Bd: how great it is. -/
def Opens (P : Program) (n : Nat) (t : TypeId) {α : Type} (d : Kd α) (Bd : α → Prop) : Prop :=
  ∀ {H : Type} (enc : TypeId × Value → H) (w : World) (base : Nat) (spare : Nat → Bool) (held : Bool) (fuel : Nat) (cs : List Value) (y : DataW H × List MemPlace), fuel ≤ n →
    DataW.trod enc P w base spare held fuel t cs = some y → (y.1.weights P t).all (· ≤ reachBytes) = true → ∃ x, d.K w x cs ∧ Bd x

def strBd (s : ByteArray) : Prop := s.size ≤ 140737488351232
def intBd (k : IntKind) (n : Int) : Prop := (Lit.int k n).wf = true
def rowBd {α : Type} (B : Nat) (Bd : α → Prop) (l : List α) : Prop := l.length * B ≤ 140737488351232 ∧ ∀ x ∈ l, Bd x

theorem opens_string {P : Program} {n : Nat} {t : TypeId} (ht : P.underlying t = some .string) : Opens P n t Kd.string strBd := by
  intro H enc w base spare held fuel cs y _ h hw
  obtain ⟨s, rfl, rfl, _⟩ := DataW.trod_string ht h
  refine ⟨s, rfl, ?_⟩
  simp only [DataW.weights, List.all_cons, List.all_nil, Bool.and_true, reachBytes, data_length] at hw
  show s.size ≤ 140737488351232
  exact of_decide_eq_true hw
theorem opens_int {P : Program} {n : Nat} {t : TypeId} {k : IntKind} (ht : P.underlying t = some (.int k)) : Opens P n t (Kd.int k) (intBd k) := by
  intro H enc w base spare held fuel cs y _ h hw
  obtain ⟨m, rfl, rfl, hwf⟩ := DataW.trod_int ht h
  exact ⟨m, rfl, hwf⟩
theorem weightsAll_mem {H : Type} {P : Program} {e : TypeId} : ∀ (l : List (DataW H)) (d : DataW H), d ∈ l → ∀ q ∈ d.weights P e, q ∈ DataW.weightsAll P e l := by
  intro l
  induction l with
  | nil => intro d h; cases h
  | cons x l ih =>
    intro d h q hq
    rw [DataW.weightsAll, List.mem_append]
    rcases List.mem_cons.1 h with rfl | h
    · exact .inl hq
    · exact .inr (ih d h q hq)
theorem list_of {α : Type} {Q : Nat → α → Prop} : ∀ n, (∀ i, i < n → ∃ x, Q i x) → ∃ l : List α, l.length = n ∧ ∀ i x, l[i]? = some x → Q i x := by
  intro n
  induction n with
  | zero => intro _; exact ⟨[], rfl, fun i x h => by simp at h⟩
  | succ n ih =>
    intro h
    obtain ⟨l, hl, hq⟩ := ih (fun i hi => h i (by omega))
    obtain ⟨x, hx⟩ := h n (by omega)
    refine ⟨l ++ [x], by simp [hl], fun i y hy => ?_⟩
    rw [List.getElem?_append] at hy
    split at hy
    · exact hq i y hy
    · rename_i hi
      have : i = n := by
        rcases Nat.lt_or_ge (i - l.length) 1 with h1 | h1
        · omega
        · rw [List.getElem?_eq_none (by simpa using h1)] at hy; cases hy
      subst this
      simp [hl] at hy
      rw [← hy]
      exact hx
theorem opens_slice {P : Program} {n : Nat} {t e : TypeId} {α : Type} {d : Kd α} {Bd : α → Prop} {B : Nat} (ht : P.underlying t = some (.slice e)) (hc : P.cellsOf e = d.sz) (hB : P.bytesOf e = B) (hE : Opens P n e d Bd) :
    Opens P (n + 1) t (Kd.slice e d) (rowBd B Bd) := by
  intro H enc w base spare held fuel cs y hf h hw
  rcases DataW.trod_slice ht h with ⟨rfl, rfl⟩ | ⟨a, len, cap, elems, rest, m, rfl, rfl, rfl, hb, hl, hm, hlen, hel, _, _⟩
  · exact ⟨[], ⟨none, 0, rfl, Nat.le_refl _, ⟨rfl, Nat.zero_le _, fun h => absurd h (Nat.lt_irrefl 0)⟩⟩, ⟨by simp, by simp⟩⟩
  · have hw' : ((elems.length + rest.length) * B ≤ 140737488351232) ∧ ∀ q ∈ elems.map (·.1), ∀ z ∈ q.weights P e, z ≤ reachBytes := by
      simp only [DataW.weights, ht, List.all_cons, Bool.and_eq_true, decide_eq_true_eq, List.all_append, List.length_map, hB] at hw
      refine ⟨by simpa [reachBytes] using hw.1, fun q hq z hz => ?_⟩
      have := List.all_eq_true.1 hw.2.1 z (weightsAll_mem _ q hq z hz)
      simpa using this
    have each : ∀ i, i < len → ∃ x c, c.length = d.sz ∧ d.K w x c ∧ Bd x ∧ ∀ j u, c[j]? = some u → w.cell? (a.add (i * d.sz + j)) = some u := by
      intro i hi
      have h1 := hel i hi
      rw [List.getElem?_eq_getElem (by omega : i < elems.length), Option.bind_eq_some_iff] at h1
      obtain ⟨c, hcs, ht2⟩ := h1
      obtain ⟨x, hK, hBd⟩ := hE enc w base spare held m c elems[i] (by omega) ht2 (List.all_eq_true.2 fun z hz => by
        have := hw'.2 elems[i].1 (List.mem_map.2 ⟨_, List.getElem_mem (by omega : i < elems.length), rfl⟩) z hz
        simpa using this)
      refine ⟨x, c, d.K_len hK, hK, hBd, fun j u hu => ?_⟩
      rw [hc] at hcs
      have hj : j < d.sz := by
        have := (List.getElem?_eq_some_iff.1 hu).1
        rw [d.K_len hK] at this
        exact this
      have := (World.cells?_some hcs).2.2 j hj
      rw [hu, Addr.add_add] at this
      exact this
    obtain ⟨l, hll, hq⟩ := list_of len each
    refine ⟨l, ⟨some a, cap, by rw [hll], by omega, rfl, by rw [hll]; unfold maxLen at hm; omega, fun _ => ⟨a, rfl, fun j p hj => ?_⟩⟩, ?_, ?_⟩
    · obtain ⟨c, h1, h2, _, h4⟩ := hq j p hj
      exact ⟨c, h1, h2, h4⟩
    · rw [hll, ← hlen]
      exact Nat.le_trans (Nat.mul_le_mul_right _ (Nat.le_add_right _ _)) hw'.1
    · intro x hx
      obtain ⟨i, hi⟩ := List.getElem?_of_mem hx
      obtain ⟨_, _, _, h3, _⟩ := hq i x hi
      exact h3
/-- A slice's reading, as a walk takes it. -/
theorem C_of_slice {α : Type} {e : Nat} {d : Kd α} {w : World} {l : List α} {v : Value} (h : (Kd.slice e d).K w l [v]) : ∃ A c, v = .slice A l.length c ∧ l.length ≤ c ∧ d.C w A l.length l := by
  obtain ⟨A, c, e, h1, h2⟩ := h
  simp only [List.cons.injEq, and_true] at e
  exact ⟨A, c, e, h1, h2⟩
end Go.Proofs.YtannlhonjkhchaaGreatDoor
