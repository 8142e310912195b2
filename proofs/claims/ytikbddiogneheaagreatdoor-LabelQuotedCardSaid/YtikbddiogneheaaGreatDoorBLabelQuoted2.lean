/- Texts towards the law LabelQuoted, one behind the other: each begins with its own sentence. Conditions: each theorem's own. -/
import Derived.Test.YtikbddiogneheaaGreatDoorBLabelQuoted0
import Derived.Test.YtikbddiogneheaaGreatDoorBLabelQuoted1
/- Go functions as Lean functions, each with its contract: written by a program of mine over the kit's print. Conditions: each contract's own. -/
namespace Go.Proofs.YtikbddiogneheaaGreatDoor.G
open Go.RowKit Go.Proofs.YtikbddiogneheaaGreatDoorW.PrintWords Go.Proofs.YtikbddiogneheaaGreatDoorW.PrintLast Go.Proofs.YtikbddiogneheaaGreatDoorW.PrintMore
attribute [local go_sem] max2_int min2_int max_two min_two max_three min_three max_four min_four   -- for this text's walks alone
set_option linter.unusedVariables false
set_option linter.unusedSimpArgs false

/-! ### bloomeryref03_Part: function 26 -/
mutual
def bloomeryref03_Part.j0 : Nat → ByteArray → Bool → Option (Bool)
 | 0, _, _ => none
 | k + 1, x0, x20 => if x20 = true then (some false) else (bloomeryref03_Part.l0 k x0 0)
def bloomeryref03_Part.l0 : Nat → ByteArray → Int → Option (Bool)
 | 0, _, _ => none
 | k + 1, x0, x3 => if x3 < (x0.size : Int) then (if 0 ≤ x3 then (if (bt x0 x3) ≥ 97 then (if (bt x0 x3) ≤ 122 then (bloomeryref03_Part.l0 k x0 (wrap64 (x3 + 1))) else (if (bt x0 x3) ≥ 65 then (if (bt x0 x3) ≤ 90 then (bloomeryref03_Part.l0 k x0 (wrap64 (x3 + 1))) else (if (bt x0 x3) ≥ 48 then (if ((bt x0 x3) ≤ 57) then (bloomeryref03_Part.l0 k x0 (wrap64 (x3 + 1))) else (if (bt x0 x3) = 95 then (bloomeryref03_Part.l0 k x0 (wrap64 (x3 + 1))) else (if (bt x0 x3) = 46 then (bloomeryref03_Part.l0 k x0 (wrap64 (x3 + 1))) else (if (bt x0 x3) = 45 then (bloomeryref03_Part.l0 k x0 (wrap64 (x3 + 1))) else (if (bt x0 x3) = 43 then (bloomeryref03_Part.l0 k x0 (wrap64 (x3 + 1))) else (some false)))))) else (if (bt x0 x3) = 95 then (bloomeryref03_Part.l0 k x0 (wrap64 (x3 + 1))) else (if (bt x0 x3) = 46 then (bloomeryref03_Part.l0 k x0 (wrap64 (x3 + 1))) else (if (bt x0 x3) = 45 then (bloomeryref03_Part.l0 k x0 (wrap64 (x3 + 1))) else (if (bt x0 x3) = 43 then (bloomeryref03_Part.l0 k x0 (wrap64 (x3 + 1))) else (some false))))))) else (if (bt x0 x3) ≥ 48 then (if ((bt x0 x3) ≤ 57) then (bloomeryref03_Part.l0 k x0 (wrap64 (x3 + 1))) else (if (bt x0 x3) = 95 then (bloomeryref03_Part.l0 k x0 (wrap64 (x3 + 1))) else (if (bt x0 x3) = 46 then (bloomeryref03_Part.l0 k x0 (wrap64 (x3 + 1))) else (if (bt x0 x3) = 45 then (bloomeryref03_Part.l0 k x0 (wrap64 (x3 + 1))) else (if (bt x0 x3) = 43 then (bloomeryref03_Part.l0 k x0 (wrap64 (x3 + 1))) else (some false)))))) else (if (bt x0 x3) = 95 then (bloomeryref03_Part.l0 k x0 (wrap64 (x3 + 1))) else (if (bt x0 x3) = 46 then (bloomeryref03_Part.l0 k x0 (wrap64 (x3 + 1))) else (if (bt x0 x3) = 45 then (bloomeryref03_Part.l0 k x0 (wrap64 (x3 + 1))) else (if (bt x0 x3) = 43 then (bloomeryref03_Part.l0 k x0 (wrap64 (x3 + 1))) else (some false)))))))) else (if (bt x0 x3) ≥ 65 then (if (bt x0 x3) ≤ 90 then (bloomeryref03_Part.l0 k x0 (wrap64 (x3 + 1))) else (if (bt x0 x3) ≥ 48 then (if ((bt x0 x3) ≤ 57) then (bloomeryref03_Part.l0 k x0 (wrap64 (x3 + 1))) else (if (bt x0 x3) = 95 then (bloomeryref03_Part.l0 k x0 (wrap64 (x3 + 1))) else (if (bt x0 x3) = 46 then (bloomeryref03_Part.l0 k x0 (wrap64 (x3 + 1))) else (if (bt x0 x3) = 45 then (bloomeryref03_Part.l0 k x0 (wrap64 (x3 + 1))) else (if (bt x0 x3) = 43 then (bloomeryref03_Part.l0 k x0 (wrap64 (x3 + 1))) else (some false)))))) else (if (bt x0 x3) = 95 then (bloomeryref03_Part.l0 k x0 (wrap64 (x3 + 1))) else (if (bt x0 x3) = 46 then (bloomeryref03_Part.l0 k x0 (wrap64 (x3 + 1))) else (if (bt x0 x3) = 45 then (bloomeryref03_Part.l0 k x0 (wrap64 (x3 + 1))) else (if (bt x0 x3) = 43 then (bloomeryref03_Part.l0 k x0 (wrap64 (x3 + 1))) else (some false))))))) else (if (bt x0 x3) ≥ 48 then (if ((bt x0 x3) ≤ 57) then (bloomeryref03_Part.l0 k x0 (wrap64 (x3 + 1))) else (if (bt x0 x3) = 95 then (bloomeryref03_Part.l0 k x0 (wrap64 (x3 + 1))) else (if (bt x0 x3) = 46 then (bloomeryref03_Part.l0 k x0 (wrap64 (x3 + 1))) else (if (bt x0 x3) = 45 then (bloomeryref03_Part.l0 k x0 (wrap64 (x3 + 1))) else (if (bt x0 x3) = 43 then (bloomeryref03_Part.l0 k x0 (wrap64 (x3 + 1))) else (some false)))))) else (if (bt x0 x3) = 95 then (bloomeryref03_Part.l0 k x0 (wrap64 (x3 + 1))) else (if (bt x0 x3) = 46 then (bloomeryref03_Part.l0 k x0 (wrap64 (x3 + 1))) else (if (bt x0 x3) = 45 then (bloomeryref03_Part.l0 k x0 (wrap64 (x3 + 1))) else (if (bt x0 x3) = 43 then (bloomeryref03_Part.l0 k x0 (wrap64 (x3 + 1))) else (some false)))))))) else (none)) else (some true)
end
def bloomeryref03_Part.f (k : Nat) (a0 : ByteArray) : Option (Bool) := if a0.toList = ([] : List UInt8) then (bloomeryref03_Part.j0 k a0 true) else (if a0.toList = ([46] : List UInt8) then (bloomeryref03_Part.j0 k a0 true) else (if a0.toList = ([46, 46] : List UInt8) then (bloomeryref03_Part.j0 k a0 true) else (bloomeryref03_Part.j0 k a0 (decide ((a0.size : Int) > 64)))))
set_option maxHeartbeats 8000000 in
set_option maxRecDepth 100000 in
theorem bloomeryref03_Part.calls (k : Nat) (a0 : ByteArray) (r : Bool) (w : World) (h : bloomeryref03_Part.f k a0 = some r) :
  Calls Tryz.prog 26 #[.string a0] w fun e w' => e = .returned (.bool r) ∧ Drawn0 w w' := by
 have H : (if a0.toList = ([] : List UInt8) then (bloomeryref03_Part.j0 k a0 true) else (if a0.toList = ([46] : List UInt8) then (bloomeryref03_Part.j0 k a0 true) else (if a0.toList = ([46, 46] : List UInt8) then (bloomeryref03_Part.j0 k a0 true) else (bloomeryref03_Part.j0 k a0 (decide ((a0.size : Int) > 64)))))) = some r := h
 clear h
 have HC2 := Aside0.mk H
 clear H
 go_enter Tryz.func26, Tryz.ntmps26
 go_upto_region 1 with (fail)
 go_cut [20] (fun v20 wc => ∃ (kq : Nat) (x20_1 : Bool), v20 = .bool x20_1 ∧ Aside0 (bloomeryref03_Part.j0 kq a0 x20_1 = some r) ∧ Aside0 (kq ≤ k) ∧ Drawn0 w wc)
 case first =>
  have H := HC2.out
  clear HC2
  by_cases c3 : a0.toList = ([] : List UInt8)
  ·rw [if_pos c3] at H
   have c3b0 : (a0.toList == ([] : List UInt8)) = true := beq_iff_eq.mpr c3
   have c3b1 : (a0.toList != ([] : List UInt8)) = false := bne_eq_false_iff_eq.mpr c3
   clear c3
   (first | rw [c3b0] | (simp only [i64_w, i32_w]; rw [c3b0]) | skip)
   have H' := Aside0.mk H
   clear H
   go_wp2
   go_meet
   case rel => exact ⟨_, (true), (by first | rfl | (simp; done) | (simp [*]; done)), (by first | exact H' | (subst_vars; exact H')), ⟨by first | omega | exact Nat.le_refl _⟩, by repeat (first | exact Drawn0.refl _ | apply Drawn0.step)⟩
  ·rw [if_neg c3] at H
   have c3b0 : (a0.toList == ([] : List UInt8)) = false := beq_eq_false_iff_ne.mpr c3
   have c3b1 : (a0.toList != ([] : List UInt8)) = true := bne_iff_ne.mpr c3
   (first | rw [c3b0] | (simp only [i64_w, i32_w]; rw [c3b0]) | skip)
   by_cases c4 : a0.toList = ([46] : List UInt8)
   ·rw [if_pos c4] at H
    have c4b0 : (a0.toList == ([46] : List UInt8)) = true := beq_iff_eq.mpr c4
    have c4b1 : (a0.toList != ([46] : List UInt8)) = false := bne_eq_false_iff_eq.mpr c4
    clear c4
    have H' := Aside0.mk H
    clear H
    go_wp2
    go_meet
    case rel => exact ⟨_, (true), (by first | rfl | (simp; done) | (simp [*]; done)), (by first | exact H' | (subst_vars; exact H')), ⟨by first | omega | exact Nat.le_refl _⟩, by repeat (first | exact Drawn0.refl _ | apply Drawn0.step)⟩
   ·rw [if_neg c4] at H
    have c4b0 : (a0.toList == ([46] : List UInt8)) = false := beq_eq_false_iff_ne.mpr c4
    have c4b1 : (a0.toList != ([46] : List UInt8)) = true := bne_iff_ne.mpr c4
    by_cases c5 : a0.toList = ([46, 46] : List UInt8)
    ·rw [if_pos c5] at H
     have c5b0 : (a0.toList == ([46, 46] : List UInt8)) = true := beq_iff_eq.mpr c5
     have c5b1 : (a0.toList != ([46, 46] : List UInt8)) = false := bne_eq_false_iff_eq.mpr c5
     clear c5
     have H' := Aside0.mk H
     clear H
     go_wp2
     go_meet
     case rel => exact ⟨_, (true), (by first | rfl | (simp; done) | (simp [*]; done)), (by first | exact H' | (subst_vars; exact H')), ⟨by first | omega | exact Nat.le_refl _⟩, by repeat (first | exact Drawn0.refl _ | apply Drawn0.step)⟩
    ·rw [if_neg c5] at H
     have c5b0 : (a0.toList == ([46, 46] : List UInt8)) = false := beq_eq_false_iff_ne.mpr c5
     have c5b1 : (a0.toList != ([46, 46] : List UInt8)) = true := bne_iff_ne.mpr c5
     have H' := Aside0.mk H
     clear H
     go_wp2
     go_meet
     case rel => exact ⟨_, (decide ((a0.size : Int) > 64)), (by first | rfl | (simp; done) | (simp [*]; done)), (by first | exact H' | (subst_vars; exact H')), ⟨by first | omega | exact Nat.le_refl _⟩, by repeat (first | exact Drawn0.refl _ | apply Drawn0.step)⟩
 case rest =>
  clear HC2
  try clear c2
  try clear p2
  try clear c3
  try clear c3b0
  try clear c3b1
  try clear c4
  try clear c4b0
  try clear c4b1
  try clear c5
  try clear c5b0
  try clear c5b1
  obtain ⟨kq, x20_1, rfl, HA, HJ1, ⟨mc1, rfl⟩⟩ := hcut
  cases kq with
  | zero => exact absurd HA.out (by simp [bloomeryref03_Part.j0])
  | succ kj1 =>
   have H := HA.out
   clear HA
   simp only [bloomeryref03_Part.j0] at H
   by_cases c6 : x20_1 = true
   ·subst c6
    have H1 : (some false) = some r := by rw [if_pos rfl] at H; exact H
    clear H
    have H := H1
    clear H1
    obtain rfl := Option.some.inj H
    go_wp2
    go_ret
    exact ⟨by first | rfl | (simp; done) | (simp [*]; done), by repeat (first | exact Drawn0.refl _ | apply Drawn0.step)⟩
   ·replace c6 := Bool.eq_false_iff.mpr c6
    subst c6
    have H1 : (bloomeryref03_Part.l0 kj1 a0 0) = some r := by rw [if_neg (show ¬ (false = true) by decide)] at H; exact H
    clear H
    have H := H1
    clear H1
    have H' := Aside0.mk H
    clear H
    go_wp2
    go_loopg [3] kj1 (fun kq v3 w' => ∃ (x3_2 : Int), v3 = .int .i64 x3_2 ∧ Aside0 (bloomeryref03_Part.l0 kq a0 x3_2 = some r) ∧ Aside0 (kq ≤ kj1) ∧ Drawn0 w w')
    case atStart => exact ⟨(0), (by first | rfl | (simp; done) | (simp [*]; done)), (by first | exact H' | (subst_vars; exact H')), ⟨Nat.le_refl _⟩, by repeat (first | exact Drawn0.refl _ | apply Drawn0.step)⟩
    case round =>
     clear H'
     try clear c1
     try clear c2
     try clear p2
     try clear c3
     try clear c3b0
     try clear c3b1
     try clear c4
     try clear c4b0
     try clear c4b1
     try clear c5
     try clear c5b0
     try clear c5b1
     try clear c6
     try clear p2
     obtain ⟨x3_2, rfl, HA, HK2, ⟨m2, rfl⟩⟩ := hrel
     cases gk with
     | zero => exact absurd HA.out (by simp [bloomeryref03_Part.l0])
     | succ k2 =>
      have H := HA.out
      clear HA
      simp only [bloomeryref03_Part.l0] at H
      by_cases c7 : x3_2 < (a0.size : Int)
      ·rw [if_pos c7] at H
       have c7b0 : decide (x3_2 < (a0.size : Int)) = true := decide_eq_true c7
       clear c7
       by_cases c8 : 0 ≤ x3_2
       ·rw [if_pos c8] at H
        have c8b0 : decide (0 ≤ x3_2) = true := decide_eq_true c8
        clear c8
        by_cases c10 : (bt a0 x3_2) ≥ 97
        ·rw [if_pos c10] at H
         have c10b0 : decide (97 ≤ (bt a0 x3_2)) = true := decide_eq_true c10
         clear c10
         by_cases c11 : (bt a0 x3_2) ≤ 122
         ·rw [if_pos c11] at H
          have c11b0 : decide ((bt a0 x3_2) ≤ 122) = true := decide_eq_true c11
          clear c11
          have H' := Aside0.mk H
          clear H
          have p9 : 0 ≤ (x3_2 : Int) := of_decide_eq_true (by first | (with_reducible assumption) | assumption)
          have q9 : x3_2 < (a0.size : Int) := of_decide_eq_true (by first | (with_reducible assumption) | assumption)
          have hx9 := bt_at a0 x3_2
          replace p9 := eq_true p9
          replace q9 := eq_true q9
          go_wp2
          go_roundg k2
          case measure => have := HJ1.out; have := HK2.out; omega
          case rel => exact ⟨(wrap64 (x3_2 + 1)), (by first | rfl | (simp; done) | (simp [*]; done)), (by first | exact H' | (subst_vars; exact H')), ⟨by have := HJ1.out; have := HK2.out; omega⟩, by repeat (first | exact Drawn0.refl _ | apply Drawn0.step)⟩
         ·rw [if_neg c11] at H
          have c11b0 : decide ((bt a0 x3_2) ≤ 122) = false := decide_eq_false c11
          clear c11
          by_cases c12 : (bt a0 x3_2) ≥ 65
          ·rw [if_pos c12] at H
           have c12b0 : decide (65 ≤ (bt a0 x3_2)) = true := decide_eq_true c12
           clear c12
           by_cases c13 : (bt a0 x3_2) ≤ 90
           ·rw [if_pos c13] at H
            have c13b0 : decide ((bt a0 x3_2) ≤ 90) = true := decide_eq_true c13
            clear c13
            have H' := Aside0.mk H
            clear H
            have p9 : 0 ≤ (x3_2 : Int) := of_decide_eq_true (by first | (with_reducible assumption) | assumption)
            have q9 : x3_2 < (a0.size : Int) := of_decide_eq_true (by first | (with_reducible assumption) | assumption)
            have hx9 := bt_at a0 x3_2
            replace p9 := eq_true p9
            replace q9 := eq_true q9
            go_wp2
            go_roundg k2
            case measure => have := HJ1.out; have := HK2.out; omega
            case rel => exact ⟨(wrap64 (x3_2 + 1)), (by first | rfl | (simp; done) | (simp [*]; done)), (by first | exact H' | (subst_vars; exact H')), ⟨by have := HJ1.out; have := HK2.out; omega⟩, by repeat (first | exact Drawn0.refl _ | apply Drawn0.step)⟩
           ·rw [if_neg c13] at H
            have c13b0 : decide ((bt a0 x3_2) ≤ 90) = false := decide_eq_false c13
            clear c13
            by_cases c14 : (bt a0 x3_2) ≥ 48
            ·rw [if_pos c14] at H
             have c14b0 : decide (48 ≤ (bt a0 x3_2)) = true := decide_eq_true c14
             clear c14
             by_cases c15 : ((bt a0 x3_2) ≤ 57)
             ·rw [if_pos c15] at H
              have c15b0 : decide ((bt a0 x3_2) ≤ 57) = true := decide_eq_true c15
              clear c15
              have H' := Aside0.mk H
              clear H
              have p9 : 0 ≤ (x3_2 : Int) := of_decide_eq_true (by first | (with_reducible assumption) | assumption)
              have q9 : x3_2 < (a0.size : Int) := of_decide_eq_true (by first | (with_reducible assumption) | assumption)
              have hx9 := bt_at a0 x3_2
              replace p9 := eq_true p9
              replace q9 := eq_true q9
              go_wp2
              go_roundg k2
              case measure => have := HJ1.out; have := HK2.out; omega
              case rel => exact ⟨(wrap64 (x3_2 + 1)), (by first | rfl | (simp; done) | (simp [*]; done)), (by first | exact H' | (subst_vars; exact H')), ⟨by have := HJ1.out; have := HK2.out; omega⟩, by repeat (first | exact Drawn0.refl _ | apply Drawn0.step)⟩
             ·rw [if_neg c15] at H
              have c15b0 : decide ((bt a0 x3_2) ≤ 57) = false := decide_eq_false c15
              clear c15
              by_cases c16 : (bt a0 x3_2) = 95
              ·rw [if_pos c16] at H
               have c16b0 : ((bt a0 x3_2) == 95) = true := beq_iff_eq.mpr c16
               have c16b1 : ((bt a0 x3_2) != 95) = false := bne_eq_false_iff_eq.mpr c16
               clear c16
               have H' := Aside0.mk H
               clear H
               have p9 : 0 ≤ (x3_2 : Int) := of_decide_eq_true (by first | (with_reducible assumption) | assumption)
               have q9 : x3_2 < (a0.size : Int) := of_decide_eq_true (by first | (with_reducible assumption) | assumption)
               have hx9 := bt_at a0 x3_2
               replace p9 := eq_true p9
               replace q9 := eq_true q9
               go_wp2
               go_roundg k2
               case measure => have := HJ1.out; have := HK2.out; omega
               case rel => exact ⟨(wrap64 (x3_2 + 1)), (by first | rfl | (simp; done) | (simp [*]; done)), (by first | exact H' | (subst_vars; exact H')), ⟨by have := HJ1.out; have := HK2.out; omega⟩, by repeat (first | exact Drawn0.refl _ | apply Drawn0.step)⟩
              ·rw [if_neg c16] at H
               have c16b0 : ((bt a0 x3_2) == 95) = false := beq_eq_false_iff_ne.mpr c16
               have c16b1 : ((bt a0 x3_2) != 95) = true := bne_iff_ne.mpr c16
               by_cases c17 : (bt a0 x3_2) = 46
               ·rw [if_pos c17] at H
                have c17b0 : ((bt a0 x3_2) == 46) = true := beq_iff_eq.mpr c17
                have c17b1 : ((bt a0 x3_2) != 46) = false := bne_eq_false_iff_eq.mpr c17
                clear c17
                have H' := Aside0.mk H
                clear H
                have p9 : 0 ≤ (x3_2 : Int) := of_decide_eq_true (by first | (with_reducible assumption) | assumption)
                have q9 : x3_2 < (a0.size : Int) := of_decide_eq_true (by first | (with_reducible assumption) | assumption)
                have hx9 := bt_at a0 x3_2
                replace p9 := eq_true p9
                replace q9 := eq_true q9
                go_wp2
                go_roundg k2
                case measure => have := HJ1.out; have := HK2.out; omega
                case rel => exact ⟨(wrap64 (x3_2 + 1)), (by first | rfl | (simp; done) | (simp [*]; done)), (by first | exact H' | (subst_vars; exact H')), ⟨by have := HJ1.out; have := HK2.out; omega⟩, by repeat (first | exact Drawn0.refl _ | apply Drawn0.step)⟩
               ·rw [if_neg c17] at H
                have c17b0 : ((bt a0 x3_2) == 46) = false := beq_eq_false_iff_ne.mpr c17
                have c17b1 : ((bt a0 x3_2) != 46) = true := bne_iff_ne.mpr c17
                by_cases c18 : (bt a0 x3_2) = 45
                ·rw [if_pos c18] at H
                 have c18b0 : ((bt a0 x3_2) == 45) = true := beq_iff_eq.mpr c18
                 have c18b1 : ((bt a0 x3_2) != 45) = false := bne_eq_false_iff_eq.mpr c18
                 clear c18
                 have H' := Aside0.mk H
                 clear H
                 have p9 : 0 ≤ (x3_2 : Int) := of_decide_eq_true (by first | (with_reducible assumption) | assumption)
                 have q9 : x3_2 < (a0.size : Int) := of_decide_eq_true (by first | (with_reducible assumption) | assumption)
                 have hx9 := bt_at a0 x3_2
                 replace p9 := eq_true p9
                 replace q9 := eq_true q9
                 go_wp2
                 go_roundg k2
                 case measure => have := HJ1.out; have := HK2.out; omega
                 case rel => exact ⟨(wrap64 (x3_2 + 1)), (by first | rfl | (simp; done) | (simp [*]; done)), (by first | exact H' | (subst_vars; exact H')), ⟨by have := HJ1.out; have := HK2.out; omega⟩, by repeat (first | exact Drawn0.refl _ | apply Drawn0.step)⟩
                ·rw [if_neg c18] at H
                 have c18b0 : ((bt a0 x3_2) == 45) = false := beq_eq_false_iff_ne.mpr c18
                 have c18b1 : ((bt a0 x3_2) != 45) = true := bne_iff_ne.mpr c18
                 by_cases c19 : (bt a0 x3_2) = 43
                 ·rw [if_pos c19] at H
                  have c19b0 : ((bt a0 x3_2) == 43) = true := beq_iff_eq.mpr c19
                  have c19b1 : ((bt a0 x3_2) != 43) = false := bne_eq_false_iff_eq.mpr c19
                  clear c19
                  have H' := Aside0.mk H
                  clear H
                  have p9 : 0 ≤ (x3_2 : Int) := of_decide_eq_true (by first | (with_reducible assumption) | assumption)
                  have q9 : x3_2 < (a0.size : Int) := of_decide_eq_true (by first | (with_reducible assumption) | assumption)
                  have hx9 := bt_at a0 x3_2
                  replace p9 := eq_true p9
                  replace q9 := eq_true q9
                  go_wp2
                  go_roundg k2
                  case measure => have := HJ1.out; have := HK2.out; omega
                  case rel => exact ⟨(wrap64 (x3_2 + 1)), (by first | rfl | (simp; done) | (simp [*]; done)), (by first | exact H' | (subst_vars; exact H')), ⟨by have := HJ1.out; have := HK2.out; omega⟩, by repeat (first | exact Drawn0.refl _ | apply Drawn0.step)⟩
                 ·rw [if_neg c19] at H
                  have c19b0 : ((bt a0 x3_2) == 43) = false := beq_eq_false_iff_ne.mpr c19
                  have c19b1 : ((bt a0 x3_2) != 43) = true := bne_iff_ne.mpr c19
                  obtain rfl := Option.some.inj H
                  have p9 : 0 ≤ (x3_2 : Int) := of_decide_eq_true (by first | (with_reducible assumption) | assumption)
                  have q9 : x3_2 < (a0.size : Int) := of_decide_eq_true (by first | (with_reducible assumption) | assumption)
                  have hx9 := bt_at a0 x3_2
                  replace p9 := eq_true p9
                  replace q9 := eq_true q9
                  go_wp2
                  go_ret
                  exact ⟨by first | rfl | (simp; done) | (simp [*]; done), by repeat (first | exact Drawn0.refl _ | apply Drawn0.step)⟩
            ·rw [if_neg c14] at H
             have c14b0 : decide (48 ≤ (bt a0 x3_2)) = false := decide_eq_false c14
             clear c14
             by_cases c20 : (bt a0 x3_2) = 95
             ·rw [if_pos c20] at H
              have c20b0 : ((bt a0 x3_2) == 95) = true := beq_iff_eq.mpr c20
              have c20b1 : ((bt a0 x3_2) != 95) = false := bne_eq_false_iff_eq.mpr c20
              clear c20
              have H' := Aside0.mk H
              clear H
              have p9 : 0 ≤ (x3_2 : Int) := of_decide_eq_true (by first | (with_reducible assumption) | assumption)
              have q9 : x3_2 < (a0.size : Int) := of_decide_eq_true (by first | (with_reducible assumption) | assumption)
              have hx9 := bt_at a0 x3_2
              replace p9 := eq_true p9
              replace q9 := eq_true q9
              go_wp2
              go_roundg k2
              case measure => have := HJ1.out; have := HK2.out; omega
              case rel => exact ⟨(wrap64 (x3_2 + 1)), (by first | rfl | (simp; done) | (simp [*]; done)), (by first | exact H' | (subst_vars; exact H')), ⟨by have := HJ1.out; have := HK2.out; omega⟩, by repeat (first | exact Drawn0.refl _ | apply Drawn0.step)⟩
             ·rw [if_neg c20] at H
              have c20b0 : ((bt a0 x3_2) == 95) = false := beq_eq_false_iff_ne.mpr c20
              have c20b1 : ((bt a0 x3_2) != 95) = true := bne_iff_ne.mpr c20
              by_cases c21 : (bt a0 x3_2) = 46
              ·rw [if_pos c21] at H
               have c21b0 : ((bt a0 x3_2) == 46) = true := beq_iff_eq.mpr c21
               have c21b1 : ((bt a0 x3_2) != 46) = false := bne_eq_false_iff_eq.mpr c21
               clear c21
               have H' := Aside0.mk H
               clear H
               have p9 : 0 ≤ (x3_2 : Int) := of_decide_eq_true (by first | (with_reducible assumption) | assumption)
               have q9 : x3_2 < (a0.size : Int) := of_decide_eq_true (by first | (with_reducible assumption) | assumption)
               have hx9 := bt_at a0 x3_2
               replace p9 := eq_true p9
               replace q9 := eq_true q9
               go_wp2
               go_roundg k2
               case measure => have := HJ1.out; have := HK2.out; omega
               case rel => exact ⟨(wrap64 (x3_2 + 1)), (by first | rfl | (simp; done) | (simp [*]; done)), (by first | exact H' | (subst_vars; exact H')), ⟨by have := HJ1.out; have := HK2.out; omega⟩, by repeat (first | exact Drawn0.refl _ | apply Drawn0.step)⟩
              ·rw [if_neg c21] at H
               have c21b0 : ((bt a0 x3_2) == 46) = false := beq_eq_false_iff_ne.mpr c21
               have c21b1 : ((bt a0 x3_2) != 46) = true := bne_iff_ne.mpr c21
               by_cases c22 : (bt a0 x3_2) = 45
               ·rw [if_pos c22] at H
                have c22b0 : ((bt a0 x3_2) == 45) = true := beq_iff_eq.mpr c22
                have c22b1 : ((bt a0 x3_2) != 45) = false := bne_eq_false_iff_eq.mpr c22
                clear c22
                have H' := Aside0.mk H
                clear H
                have p9 : 0 ≤ (x3_2 : Int) := of_decide_eq_true (by first | (with_reducible assumption) | assumption)
                have q9 : x3_2 < (a0.size : Int) := of_decide_eq_true (by first | (with_reducible assumption) | assumption)
                have hx9 := bt_at a0 x3_2
                replace p9 := eq_true p9
                replace q9 := eq_true q9
                go_wp2
                go_roundg k2
                case measure => have := HJ1.out; have := HK2.out; omega
                case rel => exact ⟨(wrap64 (x3_2 + 1)), (by first | rfl | (simp; done) | (simp [*]; done)), (by first | exact H' | (subst_vars; exact H')), ⟨by have := HJ1.out; have := HK2.out; omega⟩, by repeat (first | exact Drawn0.refl _ | apply Drawn0.step)⟩
               ·rw [if_neg c22] at H
                have c22b0 : ((bt a0 x3_2) == 45) = false := beq_eq_false_iff_ne.mpr c22
                have c22b1 : ((bt a0 x3_2) != 45) = true := bne_iff_ne.mpr c22
                by_cases c23 : (bt a0 x3_2) = 43
                ·rw [if_pos c23] at H
                 have c23b0 : ((bt a0 x3_2) == 43) = true := beq_iff_eq.mpr c23
                 have c23b1 : ((bt a0 x3_2) != 43) = false := bne_eq_false_iff_eq.mpr c23
                 clear c23
                 have H' := Aside0.mk H
                 clear H
                 have p9 : 0 ≤ (x3_2 : Int) := of_decide_eq_true (by first | (with_reducible assumption) | assumption)
                 have q9 : x3_2 < (a0.size : Int) := of_decide_eq_true (by first | (with_reducible assumption) | assumption)
                 have hx9 := bt_at a0 x3_2
                 replace p9 := eq_true p9
                 replace q9 := eq_true q9
                 go_wp2
                 go_roundg k2
                 case measure => have := HJ1.out; have := HK2.out; omega
                 case rel => exact ⟨(wrap64 (x3_2 + 1)), (by first | rfl | (simp; done) | (simp [*]; done)), (by first | exact H' | (subst_vars; exact H')), ⟨by have := HJ1.out; have := HK2.out; omega⟩, by repeat (first | exact Drawn0.refl _ | apply Drawn0.step)⟩
                ·rw [if_neg c23] at H
                 have c23b0 : ((bt a0 x3_2) == 43) = false := beq_eq_false_iff_ne.mpr c23
                 have c23b1 : ((bt a0 x3_2) != 43) = true := bne_iff_ne.mpr c23
                 obtain rfl := Option.some.inj H
                 have p9 : 0 ≤ (x3_2 : Int) := of_decide_eq_true (by first | (with_reducible assumption) | assumption)
                 have q9 : x3_2 < (a0.size : Int) := of_decide_eq_true (by first | (with_reducible assumption) | assumption)
                 have hx9 := bt_at a0 x3_2
                 replace p9 := eq_true p9
                 replace q9 := eq_true q9
                 go_wp2
                 go_ret
                 exact ⟨by first | rfl | (simp; done) | (simp [*]; done), by repeat (first | exact Drawn0.refl _ | apply Drawn0.step)⟩
          ·rw [if_neg c12] at H
           have c12b0 : decide (65 ≤ (bt a0 x3_2)) = false := decide_eq_false c12
           clear c12
           by_cases c24 : (bt a0 x3_2) ≥ 48
           ·rw [if_pos c24] at H
            have c24b0 : decide (48 ≤ (bt a0 x3_2)) = true := decide_eq_true c24
            clear c24
            by_cases c25 : ((bt a0 x3_2) ≤ 57)
            ·rw [if_pos c25] at H
             have c25b0 : decide ((bt a0 x3_2) ≤ 57) = true := decide_eq_true c25
             clear c25
             have H' := Aside0.mk H
             clear H
             have p9 : 0 ≤ (x3_2 : Int) := of_decide_eq_true (by first | (with_reducible assumption) | assumption)
             have q9 : x3_2 < (a0.size : Int) := of_decide_eq_true (by first | (with_reducible assumption) | assumption)
             have hx9 := bt_at a0 x3_2
             replace p9 := eq_true p9
             replace q9 := eq_true q9
             go_wp2
             go_roundg k2
             case measure => have := HJ1.out; have := HK2.out; omega
             case rel => exact ⟨(wrap64 (x3_2 + 1)), (by first | rfl | (simp; done) | (simp [*]; done)), (by first | exact H' | (subst_vars; exact H')), ⟨by have := HJ1.out; have := HK2.out; omega⟩, by repeat (first | exact Drawn0.refl _ | apply Drawn0.step)⟩
            ·rw [if_neg c25] at H
             have c25b0 : decide ((bt a0 x3_2) ≤ 57) = false := decide_eq_false c25
             clear c25
             by_cases c26 : (bt a0 x3_2) = 95
             ·rw [if_pos c26] at H
              have c26b0 : ((bt a0 x3_2) == 95) = true := beq_iff_eq.mpr c26
              have c26b1 : ((bt a0 x3_2) != 95) = false := bne_eq_false_iff_eq.mpr c26
              clear c26
              have H' := Aside0.mk H
              clear H
              have p9 : 0 ≤ (x3_2 : Int) := of_decide_eq_true (by first | (with_reducible assumption) | assumption)
              have q9 : x3_2 < (a0.size : Int) := of_decide_eq_true (by first | (with_reducible assumption) | assumption)
              have hx9 := bt_at a0 x3_2
              replace p9 := eq_true p9
              replace q9 := eq_true q9
              go_wp2
              go_roundg k2
              case measure => have := HJ1.out; have := HK2.out; omega
              case rel => exact ⟨(wrap64 (x3_2 + 1)), (by first | rfl | (simp; done) | (simp [*]; done)), (by first | exact H' | (subst_vars; exact H')), ⟨by have := HJ1.out; have := HK2.out; omega⟩, by repeat (first | exact Drawn0.refl _ | apply Drawn0.step)⟩
             ·rw [if_neg c26] at H
              have c26b0 : ((bt a0 x3_2) == 95) = false := beq_eq_false_iff_ne.mpr c26
              have c26b1 : ((bt a0 x3_2) != 95) = true := bne_iff_ne.mpr c26
              by_cases c27 : (bt a0 x3_2) = 46
              ·rw [if_pos c27] at H
               have c27b0 : ((bt a0 x3_2) == 46) = true := beq_iff_eq.mpr c27
               have c27b1 : ((bt a0 x3_2) != 46) = false := bne_eq_false_iff_eq.mpr c27
               clear c27
               have H' := Aside0.mk H
               clear H
               have p9 : 0 ≤ (x3_2 : Int) := of_decide_eq_true (by first | (with_reducible assumption) | assumption)
               have q9 : x3_2 < (a0.size : Int) := of_decide_eq_true (by first | (with_reducible assumption) | assumption)
               have hx9 := bt_at a0 x3_2
               replace p9 := eq_true p9
               replace q9 := eq_true q9
               go_wp2
               go_roundg k2
               case measure => have := HJ1.out; have := HK2.out; omega
               case rel => exact ⟨(wrap64 (x3_2 + 1)), (by first | rfl | (simp; done) | (simp [*]; done)), (by first | exact H' | (subst_vars; exact H')), ⟨by have := HJ1.out; have := HK2.out; omega⟩, by repeat (first | exact Drawn0.refl _ | apply Drawn0.step)⟩
              ·rw [if_neg c27] at H
               have c27b0 : ((bt a0 x3_2) == 46) = false := beq_eq_false_iff_ne.mpr c27
               have c27b1 : ((bt a0 x3_2) != 46) = true := bne_iff_ne.mpr c27
               by_cases c28 : (bt a0 x3_2) = 45
               ·rw [if_pos c28] at H
                have c28b0 : ((bt a0 x3_2) == 45) = true := beq_iff_eq.mpr c28
                have c28b1 : ((bt a0 x3_2) != 45) = false := bne_eq_false_iff_eq.mpr c28
                clear c28
                have H' := Aside0.mk H
                clear H
                have p9 : 0 ≤ (x3_2 : Int) := of_decide_eq_true (by first | (with_reducible assumption) | assumption)
                have q9 : x3_2 < (a0.size : Int) := of_decide_eq_true (by first | (with_reducible assumption) | assumption)
                have hx9 := bt_at a0 x3_2
                replace p9 := eq_true p9
                replace q9 := eq_true q9
                go_wp2
                go_roundg k2
                case measure => have := HJ1.out; have := HK2.out; omega
                case rel => exact ⟨(wrap64 (x3_2 + 1)), (by first | rfl | (simp; done) | (simp [*]; done)), (by first | exact H' | (subst_vars; exact H')), ⟨by have := HJ1.out; have := HK2.out; omega⟩, by repeat (first | exact Drawn0.refl _ | apply Drawn0.step)⟩
               ·rw [if_neg c28] at H
                have c28b0 : ((bt a0 x3_2) == 45) = false := beq_eq_false_iff_ne.mpr c28
                have c28b1 : ((bt a0 x3_2) != 45) = true := bne_iff_ne.mpr c28
                by_cases c29 : (bt a0 x3_2) = 43
                ·rw [if_pos c29] at H
                 have c29b0 : ((bt a0 x3_2) == 43) = true := beq_iff_eq.mpr c29
                 have c29b1 : ((bt a0 x3_2) != 43) = false := bne_eq_false_iff_eq.mpr c29
                 clear c29
                 have H' := Aside0.mk H
                 clear H
                 have p9 : 0 ≤ (x3_2 : Int) := of_decide_eq_true (by first | (with_reducible assumption) | assumption)
                 have q9 : x3_2 < (a0.size : Int) := of_decide_eq_true (by first | (with_reducible assumption) | assumption)
                 have hx9 := bt_at a0 x3_2
                 replace p9 := eq_true p9
                 replace q9 := eq_true q9
                 go_wp2
                 go_roundg k2
                 case measure => have := HJ1.out; have := HK2.out; omega
                 case rel => exact ⟨(wrap64 (x3_2 + 1)), (by first | rfl | (simp; done) | (simp [*]; done)), (by first | exact H' | (subst_vars; exact H')), ⟨by have := HJ1.out; have := HK2.out; omega⟩, by repeat (first | exact Drawn0.refl _ | apply Drawn0.step)⟩
                ·rw [if_neg c29] at H
                 have c29b0 : ((bt a0 x3_2) == 43) = false := beq_eq_false_iff_ne.mpr c29
                 have c29b1 : ((bt a0 x3_2) != 43) = true := bne_iff_ne.mpr c29
                 obtain rfl := Option.some.inj H
                 have p9 : 0 ≤ (x3_2 : Int) := of_decide_eq_true (by first | (with_reducible assumption) | assumption)
                 have q9 : x3_2 < (a0.size : Int) := of_decide_eq_true (by first | (with_reducible assumption) | assumption)
                 have hx9 := bt_at a0 x3_2
                 replace p9 := eq_true p9
                 replace q9 := eq_true q9
                 go_wp2
                 go_ret
                 exact ⟨by first | rfl | (simp; done) | (simp [*]; done), by repeat (first | exact Drawn0.refl _ | apply Drawn0.step)⟩
           ·rw [if_neg c24] at H
            have c24b0 : decide (48 ≤ (bt a0 x3_2)) = false := decide_eq_false c24
            clear c24
            by_cases c30 : (bt a0 x3_2) = 95
            ·rw [if_pos c30] at H
             have c30b0 : ((bt a0 x3_2) == 95) = true := beq_iff_eq.mpr c30
             have c30b1 : ((bt a0 x3_2) != 95) = false := bne_eq_false_iff_eq.mpr c30
             clear c30
             have H' := Aside0.mk H
             clear H
             have p9 : 0 ≤ (x3_2 : Int) := of_decide_eq_true (by first | (with_reducible assumption) | assumption)
             have q9 : x3_2 < (a0.size : Int) := of_decide_eq_true (by first | (with_reducible assumption) | assumption)
             have hx9 := bt_at a0 x3_2
             replace p9 := eq_true p9
             replace q9 := eq_true q9
             go_wp2
             go_roundg k2
             case measure => have := HJ1.out; have := HK2.out; omega
             case rel => exact ⟨(wrap64 (x3_2 + 1)), (by first | rfl | (simp; done) | (simp [*]; done)), (by first | exact H' | (subst_vars; exact H')), ⟨by have := HJ1.out; have := HK2.out; omega⟩, by repeat (first | exact Drawn0.refl _ | apply Drawn0.step)⟩
            ·rw [if_neg c30] at H
             have c30b0 : ((bt a0 x3_2) == 95) = false := beq_eq_false_iff_ne.mpr c30
             have c30b1 : ((bt a0 x3_2) != 95) = true := bne_iff_ne.mpr c30
             by_cases c31 : (bt a0 x3_2) = 46
             ·rw [if_pos c31] at H
              have c31b0 : ((bt a0 x3_2) == 46) = true := beq_iff_eq.mpr c31
              have c31b1 : ((bt a0 x3_2) != 46) = false := bne_eq_false_iff_eq.mpr c31
              clear c31
              have H' := Aside0.mk H
              clear H
              have p9 : 0 ≤ (x3_2 : Int) := of_decide_eq_true (by first | (with_reducible assumption) | assumption)
              have q9 : x3_2 < (a0.size : Int) := of_decide_eq_true (by first | (with_reducible assumption) | assumption)
              have hx9 := bt_at a0 x3_2
              replace p9 := eq_true p9
              replace q9 := eq_true q9
              go_wp2
              go_roundg k2
              case measure => have := HJ1.out; have := HK2.out; omega
              case rel => exact ⟨(wrap64 (x3_2 + 1)), (by first | rfl | (simp; done) | (simp [*]; done)), (by first | exact H' | (subst_vars; exact H')), ⟨by have := HJ1.out; have := HK2.out; omega⟩, by repeat (first | exact Drawn0.refl _ | apply Drawn0.step)⟩
             ·rw [if_neg c31] at H
              have c31b0 : ((bt a0 x3_2) == 46) = false := beq_eq_false_iff_ne.mpr c31
              have c31b1 : ((bt a0 x3_2) != 46) = true := bne_iff_ne.mpr c31
              by_cases c32 : (bt a0 x3_2) = 45
              ·rw [if_pos c32] at H
               have c32b0 : ((bt a0 x3_2) == 45) = true := beq_iff_eq.mpr c32
               have c32b1 : ((bt a0 x3_2) != 45) = false := bne_eq_false_iff_eq.mpr c32
               clear c32
               have H' := Aside0.mk H
               clear H
               have p9 : 0 ≤ (x3_2 : Int) := of_decide_eq_true (by first | (with_reducible assumption) | assumption)
               have q9 : x3_2 < (a0.size : Int) := of_decide_eq_true (by first | (with_reducible assumption) | assumption)
               have hx9 := bt_at a0 x3_2
               replace p9 := eq_true p9
               replace q9 := eq_true q9
               go_wp2
               go_roundg k2
               case measure => have := HJ1.out; have := HK2.out; omega
               case rel => exact ⟨(wrap64 (x3_2 + 1)), (by first | rfl | (simp; done) | (simp [*]; done)), (by first | exact H' | (subst_vars; exact H')), ⟨by have := HJ1.out; have := HK2.out; omega⟩, by repeat (first | exact Drawn0.refl _ | apply Drawn0.step)⟩
              ·rw [if_neg c32] at H
               have c32b0 : ((bt a0 x3_2) == 45) = false := beq_eq_false_iff_ne.mpr c32
               have c32b1 : ((bt a0 x3_2) != 45) = true := bne_iff_ne.mpr c32
               by_cases c33 : (bt a0 x3_2) = 43
               ·rw [if_pos c33] at H
                have c33b0 : ((bt a0 x3_2) == 43) = true := beq_iff_eq.mpr c33
                have c33b1 : ((bt a0 x3_2) != 43) = false := bne_eq_false_iff_eq.mpr c33
                clear c33
                have H' := Aside0.mk H
                clear H
                have p9 : 0 ≤ (x3_2 : Int) := of_decide_eq_true (by first | (with_reducible assumption) | assumption)
                have q9 : x3_2 < (a0.size : Int) := of_decide_eq_true (by first | (with_reducible assumption) | assumption)
                have hx9 := bt_at a0 x3_2
                replace p9 := eq_true p9
                replace q9 := eq_true q9
                go_wp2
                go_roundg k2
                case measure => have := HJ1.out; have := HK2.out; omega
                case rel => exact ⟨(wrap64 (x3_2 + 1)), (by first | rfl | (simp; done) | (simp [*]; done)), (by first | exact H' | (subst_vars; exact H')), ⟨by have := HJ1.out; have := HK2.out; omega⟩, by repeat (first | exact Drawn0.refl _ | apply Drawn0.step)⟩
               ·rw [if_neg c33] at H
                have c33b0 : ((bt a0 x3_2) == 43) = false := beq_eq_false_iff_ne.mpr c33
                have c33b1 : ((bt a0 x3_2) != 43) = true := bne_iff_ne.mpr c33
                obtain rfl := Option.some.inj H
                have p9 : 0 ≤ (x3_2 : Int) := of_decide_eq_true (by first | (with_reducible assumption) | assumption)
                have q9 : x3_2 < (a0.size : Int) := of_decide_eq_true (by first | (with_reducible assumption) | assumption)
                have hx9 := bt_at a0 x3_2
                replace p9 := eq_true p9
                replace q9 := eq_true q9
                go_wp2
                go_ret
                exact ⟨by first | rfl | (simp; done) | (simp [*]; done), by repeat (first | exact Drawn0.refl _ | apply Drawn0.step)⟩
        ·rw [if_neg c10] at H
         have c10b0 : decide (97 ≤ (bt a0 x3_2)) = false := decide_eq_false c10
         clear c10
         by_cases c34 : (bt a0 x3_2) ≥ 65
         ·rw [if_pos c34] at H
          have c34b0 : decide (65 ≤ (bt a0 x3_2)) = true := decide_eq_true c34
          clear c34
          by_cases c35 : (bt a0 x3_2) ≤ 90
          ·rw [if_pos c35] at H
           have c35b0 : decide ((bt a0 x3_2) ≤ 90) = true := decide_eq_true c35
           clear c35
           have H' := Aside0.mk H
           clear H
           have p9 : 0 ≤ (x3_2 : Int) := of_decide_eq_true (by first | (with_reducible assumption) | assumption)
           have q9 : x3_2 < (a0.size : Int) := of_decide_eq_true (by first | (with_reducible assumption) | assumption)
           have hx9 := bt_at a0 x3_2
           replace p9 := eq_true p9
           replace q9 := eq_true q9
           go_wp2
           go_roundg k2
           case measure => have := HJ1.out; have := HK2.out; omega
           case rel => exact ⟨(wrap64 (x3_2 + 1)), (by first | rfl | (simp; done) | (simp [*]; done)), (by first | exact H' | (subst_vars; exact H')), ⟨by have := HJ1.out; have := HK2.out; omega⟩, by repeat (first | exact Drawn0.refl _ | apply Drawn0.step)⟩
          ·rw [if_neg c35] at H
           have c35b0 : decide ((bt a0 x3_2) ≤ 90) = false := decide_eq_false c35
           clear c35
           by_cases c36 : (bt a0 x3_2) ≥ 48
           ·rw [if_pos c36] at H
            have c36b0 : decide (48 ≤ (bt a0 x3_2)) = true := decide_eq_true c36
            clear c36
            by_cases c37 : ((bt a0 x3_2) ≤ 57)
            ·rw [if_pos c37] at H
             have c37b0 : decide ((bt a0 x3_2) ≤ 57) = true := decide_eq_true c37
             clear c37
             have H' := Aside0.mk H
             clear H
             have p9 : 0 ≤ (x3_2 : Int) := of_decide_eq_true (by first | (with_reducible assumption) | assumption)
             have q9 : x3_2 < (a0.size : Int) := of_decide_eq_true (by first | (with_reducible assumption) | assumption)
             have hx9 := bt_at a0 x3_2
             replace p9 := eq_true p9
             replace q9 := eq_true q9
             go_wp2
             go_roundg k2
             case measure => have := HJ1.out; have := HK2.out; omega
             case rel => exact ⟨(wrap64 (x3_2 + 1)), (by first | rfl | (simp; done) | (simp [*]; done)), (by first | exact H' | (subst_vars; exact H')), ⟨by have := HJ1.out; have := HK2.out; omega⟩, by repeat (first | exact Drawn0.refl _ | apply Drawn0.step)⟩
            ·rw [if_neg c37] at H
             have c37b0 : decide ((bt a0 x3_2) ≤ 57) = false := decide_eq_false c37
             clear c37
             by_cases c38 : (bt a0 x3_2) = 95
             ·rw [if_pos c38] at H
              have c38b0 : ((bt a0 x3_2) == 95) = true := beq_iff_eq.mpr c38
              have c38b1 : ((bt a0 x3_2) != 95) = false := bne_eq_false_iff_eq.mpr c38
              clear c38
              have H' := Aside0.mk H
              clear H
              have p9 : 0 ≤ (x3_2 : Int) := of_decide_eq_true (by first | (with_reducible assumption) | assumption)
              have q9 : x3_2 < (a0.size : Int) := of_decide_eq_true (by first | (with_reducible assumption) | assumption)
              have hx9 := bt_at a0 x3_2
              replace p9 := eq_true p9
              replace q9 := eq_true q9
              go_wp2
              go_roundg k2
              case measure => have := HJ1.out; have := HK2.out; omega
              case rel => exact ⟨(wrap64 (x3_2 + 1)), (by first | rfl | (simp; done) | (simp [*]; done)), (by first | exact H' | (subst_vars; exact H')), ⟨by have := HJ1.out; have := HK2.out; omega⟩, by repeat (first | exact Drawn0.refl _ | apply Drawn0.step)⟩
             ·rw [if_neg c38] at H
              have c38b0 : ((bt a0 x3_2) == 95) = false := beq_eq_false_iff_ne.mpr c38
              have c38b1 : ((bt a0 x3_2) != 95) = true := bne_iff_ne.mpr c38
              by_cases c39 : (bt a0 x3_2) = 46
              ·rw [if_pos c39] at H
               have c39b0 : ((bt a0 x3_2) == 46) = true := beq_iff_eq.mpr c39
               have c39b1 : ((bt a0 x3_2) != 46) = false := bne_eq_false_iff_eq.mpr c39
               clear c39
               have H' := Aside0.mk H
               clear H
               have p9 : 0 ≤ (x3_2 : Int) := of_decide_eq_true (by first | (with_reducible assumption) | assumption)
               have q9 : x3_2 < (a0.size : Int) := of_decide_eq_true (by first | (with_reducible assumption) | assumption)
               have hx9 := bt_at a0 x3_2
               replace p9 := eq_true p9
               replace q9 := eq_true q9
               go_wp2
               go_roundg k2
               case measure => have := HJ1.out; have := HK2.out; omega
               case rel => exact ⟨(wrap64 (x3_2 + 1)), (by first | rfl | (simp; done) | (simp [*]; done)), (by first | exact H' | (subst_vars; exact H')), ⟨by have := HJ1.out; have := HK2.out; omega⟩, by repeat (first | exact Drawn0.refl _ | apply Drawn0.step)⟩
              ·rw [if_neg c39] at H
               have c39b0 : ((bt a0 x3_2) == 46) = false := beq_eq_false_iff_ne.mpr c39
               have c39b1 : ((bt a0 x3_2) != 46) = true := bne_iff_ne.mpr c39
               by_cases c40 : (bt a0 x3_2) = 45
               ·rw [if_pos c40] at H
                have c40b0 : ((bt a0 x3_2) == 45) = true := beq_iff_eq.mpr c40
                have c40b1 : ((bt a0 x3_2) != 45) = false := bne_eq_false_iff_eq.mpr c40
                clear c40
                have H' := Aside0.mk H
                clear H
                have p9 : 0 ≤ (x3_2 : Int) := of_decide_eq_true (by first | (with_reducible assumption) | assumption)
                have q9 : x3_2 < (a0.size : Int) := of_decide_eq_true (by first | (with_reducible assumption) | assumption)
                have hx9 := bt_at a0 x3_2
                replace p9 := eq_true p9
                replace q9 := eq_true q9
                go_wp2
                go_roundg k2
                case measure => have := HJ1.out; have := HK2.out; omega
                case rel => exact ⟨(wrap64 (x3_2 + 1)), (by first | rfl | (simp; done) | (simp [*]; done)), (by first | exact H' | (subst_vars; exact H')), ⟨by have := HJ1.out; have := HK2.out; omega⟩, by repeat (first | exact Drawn0.refl _ | apply Drawn0.step)⟩
               ·rw [if_neg c40] at H
                have c40b0 : ((bt a0 x3_2) == 45) = false := beq_eq_false_iff_ne.mpr c40
                have c40b1 : ((bt a0 x3_2) != 45) = true := bne_iff_ne.mpr c40
                by_cases c41 : (bt a0 x3_2) = 43
                ·rw [if_pos c41] at H
                 have c41b0 : ((bt a0 x3_2) == 43) = true := beq_iff_eq.mpr c41
                 have c41b1 : ((bt a0 x3_2) != 43) = false := bne_eq_false_iff_eq.mpr c41
                 clear c41
                 have H' := Aside0.mk H
                 clear H
                 have p9 : 0 ≤ (x3_2 : Int) := of_decide_eq_true (by first | (with_reducible assumption) | assumption)
                 have q9 : x3_2 < (a0.size : Int) := of_decide_eq_true (by first | (with_reducible assumption) | assumption)
                 have hx9 := bt_at a0 x3_2
                 replace p9 := eq_true p9
                 replace q9 := eq_true q9
                 go_wp2
                 go_roundg k2
                 case measure => have := HJ1.out; have := HK2.out; omega
                 case rel => exact ⟨(wrap64 (x3_2 + 1)), (by first | rfl | (simp; done) | (simp [*]; done)), (by first | exact H' | (subst_vars; exact H')), ⟨by have := HJ1.out; have := HK2.out; omega⟩, by repeat (first | exact Drawn0.refl _ | apply Drawn0.step)⟩
                ·rw [if_neg c41] at H
                 have c41b0 : ((bt a0 x3_2) == 43) = false := beq_eq_false_iff_ne.mpr c41
                 have c41b1 : ((bt a0 x3_2) != 43) = true := bne_iff_ne.mpr c41
                 obtain rfl := Option.some.inj H
                 have p9 : 0 ≤ (x3_2 : Int) := of_decide_eq_true (by first | (with_reducible assumption) | assumption)
                 have q9 : x3_2 < (a0.size : Int) := of_decide_eq_true (by first | (with_reducible assumption) | assumption)
                 have hx9 := bt_at a0 x3_2
                 replace p9 := eq_true p9
                 replace q9 := eq_true q9
                 go_wp2
                 go_ret
                 exact ⟨by first | rfl | (simp; done) | (simp [*]; done), by repeat (first | exact Drawn0.refl _ | apply Drawn0.step)⟩
           ·rw [if_neg c36] at H
            have c36b0 : decide (48 ≤ (bt a0 x3_2)) = false := decide_eq_false c36
            clear c36
            by_cases c42 : (bt a0 x3_2) = 95
            ·rw [if_pos c42] at H
             have c42b0 : ((bt a0 x3_2) == 95) = true := beq_iff_eq.mpr c42
             have c42b1 : ((bt a0 x3_2) != 95) = false := bne_eq_false_iff_eq.mpr c42
             clear c42
             have H' := Aside0.mk H
             clear H
             have p9 : 0 ≤ (x3_2 : Int) := of_decide_eq_true (by first | (with_reducible assumption) | assumption)
             have q9 : x3_2 < (a0.size : Int) := of_decide_eq_true (by first | (with_reducible assumption) | assumption)
             have hx9 := bt_at a0 x3_2
             replace p9 := eq_true p9
             replace q9 := eq_true q9
             go_wp2
             go_roundg k2
             case measure => have := HJ1.out; have := HK2.out; omega
             case rel => exact ⟨(wrap64 (x3_2 + 1)), (by first | rfl | (simp; done) | (simp [*]; done)), (by first | exact H' | (subst_vars; exact H')), ⟨by have := HJ1.out; have := HK2.out; omega⟩, by repeat (first | exact Drawn0.refl _ | apply Drawn0.step)⟩
            ·rw [if_neg c42] at H
             have c42b0 : ((bt a0 x3_2) == 95) = false := beq_eq_false_iff_ne.mpr c42
             have c42b1 : ((bt a0 x3_2) != 95) = true := bne_iff_ne.mpr c42
             by_cases c43 : (bt a0 x3_2) = 46
             ·rw [if_pos c43] at H
              have c43b0 : ((bt a0 x3_2) == 46) = true := beq_iff_eq.mpr c43
              have c43b1 : ((bt a0 x3_2) != 46) = false := bne_eq_false_iff_eq.mpr c43
              clear c43
              have H' := Aside0.mk H
              clear H
              have p9 : 0 ≤ (x3_2 : Int) := of_decide_eq_true (by first | (with_reducible assumption) | assumption)
              have q9 : x3_2 < (a0.size : Int) := of_decide_eq_true (by first | (with_reducible assumption) | assumption)
              have hx9 := bt_at a0 x3_2
              replace p9 := eq_true p9
              replace q9 := eq_true q9
              go_wp2
              go_roundg k2
              case measure => have := HJ1.out; have := HK2.out; omega
              case rel => exact ⟨(wrap64 (x3_2 + 1)), (by first | rfl | (simp; done) | (simp [*]; done)), (by first | exact H' | (subst_vars; exact H')), ⟨by have := HJ1.out; have := HK2.out; omega⟩, by repeat (first | exact Drawn0.refl _ | apply Drawn0.step)⟩
             ·rw [if_neg c43] at H
              have c43b0 : ((bt a0 x3_2) == 46) = false := beq_eq_false_iff_ne.mpr c43
              have c43b1 : ((bt a0 x3_2) != 46) = true := bne_iff_ne.mpr c43
              by_cases c44 : (bt a0 x3_2) = 45
              ·rw [if_pos c44] at H
               have c44b0 : ((bt a0 x3_2) == 45) = true := beq_iff_eq.mpr c44
               have c44b1 : ((bt a0 x3_2) != 45) = false := bne_eq_false_iff_eq.mpr c44
               clear c44
               have H' := Aside0.mk H
               clear H
               have p9 : 0 ≤ (x3_2 : Int) := of_decide_eq_true (by first | (with_reducible assumption) | assumption)
               have q9 : x3_2 < (a0.size : Int) := of_decide_eq_true (by first | (with_reducible assumption) | assumption)
               have hx9 := bt_at a0 x3_2
               replace p9 := eq_true p9
               replace q9 := eq_true q9
               go_wp2
               go_roundg k2
               case measure => have := HJ1.out; have := HK2.out; omega
               case rel => exact ⟨(wrap64 (x3_2 + 1)), (by first | rfl | (simp; done) | (simp [*]; done)), (by first | exact H' | (subst_vars; exact H')), ⟨by have := HJ1.out; have := HK2.out; omega⟩, by repeat (first | exact Drawn0.refl _ | apply Drawn0.step)⟩
              ·rw [if_neg c44] at H
               have c44b0 : ((bt a0 x3_2) == 45) = false := beq_eq_false_iff_ne.mpr c44
               have c44b1 : ((bt a0 x3_2) != 45) = true := bne_iff_ne.mpr c44
               by_cases c45 : (bt a0 x3_2) = 43
               ·rw [if_pos c45] at H
                have c45b0 : ((bt a0 x3_2) == 43) = true := beq_iff_eq.mpr c45
                have c45b1 : ((bt a0 x3_2) != 43) = false := bne_eq_false_iff_eq.mpr c45
                clear c45
                have H' := Aside0.mk H
                clear H
                have p9 : 0 ≤ (x3_2 : Int) := of_decide_eq_true (by first | (with_reducible assumption) | assumption)
                have q9 : x3_2 < (a0.size : Int) := of_decide_eq_true (by first | (with_reducible assumption) | assumption)
                have hx9 := bt_at a0 x3_2
                replace p9 := eq_true p9
                replace q9 := eq_true q9
                go_wp2
                go_roundg k2
                case measure => have := HJ1.out; have := HK2.out; omega
                case rel => exact ⟨(wrap64 (x3_2 + 1)), (by first | rfl | (simp; done) | (simp [*]; done)), (by first | exact H' | (subst_vars; exact H')), ⟨by have := HJ1.out; have := HK2.out; omega⟩, by repeat (first | exact Drawn0.refl _ | apply Drawn0.step)⟩
               ·rw [if_neg c45] at H
                have c45b0 : ((bt a0 x3_2) == 43) = false := beq_eq_false_iff_ne.mpr c45
                have c45b1 : ((bt a0 x3_2) != 43) = true := bne_iff_ne.mpr c45
                obtain rfl := Option.some.inj H
                have p9 : 0 ≤ (x3_2 : Int) := of_decide_eq_true (by first | (with_reducible assumption) | assumption)
                have q9 : x3_2 < (a0.size : Int) := of_decide_eq_true (by first | (with_reducible assumption) | assumption)
                have hx9 := bt_at a0 x3_2
                replace p9 := eq_true p9
                replace q9 := eq_true q9
                go_wp2
                go_ret
                exact ⟨by first | rfl | (simp; done) | (simp [*]; done), by repeat (first | exact Drawn0.refl _ | apply Drawn0.step)⟩
         ·rw [if_neg c34] at H
          have c34b0 : decide (65 ≤ (bt a0 x3_2)) = false := decide_eq_false c34
          clear c34
          by_cases c46 : (bt a0 x3_2) ≥ 48
          ·rw [if_pos c46] at H
           have c46b0 : decide (48 ≤ (bt a0 x3_2)) = true := decide_eq_true c46
           clear c46
           by_cases c47 : ((bt a0 x3_2) ≤ 57)
           ·rw [if_pos c47] at H
            have c47b0 : decide ((bt a0 x3_2) ≤ 57) = true := decide_eq_true c47
            clear c47
            have H' := Aside0.mk H
            clear H
            have p9 : 0 ≤ (x3_2 : Int) := of_decide_eq_true (by first | (with_reducible assumption) | assumption)
            have q9 : x3_2 < (a0.size : Int) := of_decide_eq_true (by first | (with_reducible assumption) | assumption)
            have hx9 := bt_at a0 x3_2
            replace p9 := eq_true p9
            replace q9 := eq_true q9
            go_wp2
            go_roundg k2
            case measure => have := HJ1.out; have := HK2.out; omega
            case rel => exact ⟨(wrap64 (x3_2 + 1)), (by first | rfl | (simp; done) | (simp [*]; done)), (by first | exact H' | (subst_vars; exact H')), ⟨by have := HJ1.out; have := HK2.out; omega⟩, by repeat (first | exact Drawn0.refl _ | apply Drawn0.step)⟩
           ·rw [if_neg c47] at H
            have c47b0 : decide ((bt a0 x3_2) ≤ 57) = false := decide_eq_false c47
            clear c47
            by_cases c48 : (bt a0 x3_2) = 95
            ·rw [if_pos c48] at H
             have c48b0 : ((bt a0 x3_2) == 95) = true := beq_iff_eq.mpr c48
             have c48b1 : ((bt a0 x3_2) != 95) = false := bne_eq_false_iff_eq.mpr c48
             clear c48
             have H' := Aside0.mk H
             clear H
             have p9 : 0 ≤ (x3_2 : Int) := of_decide_eq_true (by first | (with_reducible assumption) | assumption)
             have q9 : x3_2 < (a0.size : Int) := of_decide_eq_true (by first | (with_reducible assumption) | assumption)
             have hx9 := bt_at a0 x3_2
             replace p9 := eq_true p9
             replace q9 := eq_true q9
             go_wp2
             go_roundg k2
             case measure => have := HJ1.out; have := HK2.out; omega
             case rel => exact ⟨(wrap64 (x3_2 + 1)), (by first | rfl | (simp; done) | (simp [*]; done)), (by first | exact H' | (subst_vars; exact H')), ⟨by have := HJ1.out; have := HK2.out; omega⟩, by repeat (first | exact Drawn0.refl _ | apply Drawn0.step)⟩
            ·rw [if_neg c48] at H
             have c48b0 : ((bt a0 x3_2) == 95) = false := beq_eq_false_iff_ne.mpr c48
             have c48b1 : ((bt a0 x3_2) != 95) = true := bne_iff_ne.mpr c48
             by_cases c49 : (bt a0 x3_2) = 46
             ·rw [if_pos c49] at H
              have c49b0 : ((bt a0 x3_2) == 46) = true := beq_iff_eq.mpr c49
              have c49b1 : ((bt a0 x3_2) != 46) = false := bne_eq_false_iff_eq.mpr c49
              clear c49
              have H' := Aside0.mk H
              clear H
              have p9 : 0 ≤ (x3_2 : Int) := of_decide_eq_true (by first | (with_reducible assumption) | assumption)
              have q9 : x3_2 < (a0.size : Int) := of_decide_eq_true (by first | (with_reducible assumption) | assumption)
              have hx9 := bt_at a0 x3_2
              replace p9 := eq_true p9
              replace q9 := eq_true q9
              go_wp2
              go_roundg k2
              case measure => have := HJ1.out; have := HK2.out; omega
              case rel => exact ⟨(wrap64 (x3_2 + 1)), (by first | rfl | (simp; done) | (simp [*]; done)), (by first | exact H' | (subst_vars; exact H')), ⟨by have := HJ1.out; have := HK2.out; omega⟩, by repeat (first | exact Drawn0.refl _ | apply Drawn0.step)⟩
             ·rw [if_neg c49] at H
              have c49b0 : ((bt a0 x3_2) == 46) = false := beq_eq_false_iff_ne.mpr c49
              have c49b1 : ((bt a0 x3_2) != 46) = true := bne_iff_ne.mpr c49
              by_cases c50 : (bt a0 x3_2) = 45
              ·rw [if_pos c50] at H
               have c50b0 : ((bt a0 x3_2) == 45) = true := beq_iff_eq.mpr c50
               have c50b1 : ((bt a0 x3_2) != 45) = false := bne_eq_false_iff_eq.mpr c50
               clear c50
               have H' := Aside0.mk H
               clear H
               have p9 : 0 ≤ (x3_2 : Int) := of_decide_eq_true (by first | (with_reducible assumption) | assumption)
               have q9 : x3_2 < (a0.size : Int) := of_decide_eq_true (by first | (with_reducible assumption) | assumption)
               have hx9 := bt_at a0 x3_2
               replace p9 := eq_true p9
               replace q9 := eq_true q9
               go_wp2
               go_roundg k2
               case measure => have := HJ1.out; have := HK2.out; omega
               case rel => exact ⟨(wrap64 (x3_2 + 1)), (by first | rfl | (simp; done) | (simp [*]; done)), (by first | exact H' | (subst_vars; exact H')), ⟨by have := HJ1.out; have := HK2.out; omega⟩, by repeat (first | exact Drawn0.refl _ | apply Drawn0.step)⟩
              ·rw [if_neg c50] at H
               have c50b0 : ((bt a0 x3_2) == 45) = false := beq_eq_false_iff_ne.mpr c50
               have c50b1 : ((bt a0 x3_2) != 45) = true := bne_iff_ne.mpr c50
               by_cases c51 : (bt a0 x3_2) = 43
               ·rw [if_pos c51] at H
                have c51b0 : ((bt a0 x3_2) == 43) = true := beq_iff_eq.mpr c51
                have c51b1 : ((bt a0 x3_2) != 43) = false := bne_eq_false_iff_eq.mpr c51
                clear c51
                have H' := Aside0.mk H
                clear H
                have p9 : 0 ≤ (x3_2 : Int) := of_decide_eq_true (by first | (with_reducible assumption) | assumption)
                have q9 : x3_2 < (a0.size : Int) := of_decide_eq_true (by first | (with_reducible assumption) | assumption)
                have hx9 := bt_at a0 x3_2
                replace p9 := eq_true p9
                replace q9 := eq_true q9
                go_wp2
                go_roundg k2
                case measure => have := HJ1.out; have := HK2.out; omega
                case rel => exact ⟨(wrap64 (x3_2 + 1)), (by first | rfl | (simp; done) | (simp [*]; done)), (by first | exact H' | (subst_vars; exact H')), ⟨by have := HJ1.out; have := HK2.out; omega⟩, by repeat (first | exact Drawn0.refl _ | apply Drawn0.step)⟩
               ·rw [if_neg c51] at H
                have c51b0 : ((bt a0 x3_2) == 43) = false := beq_eq_false_iff_ne.mpr c51
                have c51b1 : ((bt a0 x3_2) != 43) = true := bne_iff_ne.mpr c51
                obtain rfl := Option.some.inj H
                have p9 : 0 ≤ (x3_2 : Int) := of_decide_eq_true (by first | (with_reducible assumption) | assumption)
                have q9 : x3_2 < (a0.size : Int) := of_decide_eq_true (by first | (with_reducible assumption) | assumption)
                have hx9 := bt_at a0 x3_2
                replace p9 := eq_true p9
                replace q9 := eq_true q9
                go_wp2
                go_ret
                exact ⟨by first | rfl | (simp; done) | (simp [*]; done), by repeat (first | exact Drawn0.refl _ | apply Drawn0.step)⟩
          ·rw [if_neg c46] at H
           have c46b0 : decide (48 ≤ (bt a0 x3_2)) = false := decide_eq_false c46
           clear c46
           by_cases c52 : (bt a0 x3_2) = 95
           ·rw [if_pos c52] at H
            have c52b0 : ((bt a0 x3_2) == 95) = true := beq_iff_eq.mpr c52
            have c52b1 : ((bt a0 x3_2) != 95) = false := bne_eq_false_iff_eq.mpr c52
            clear c52
            have H' := Aside0.mk H
            clear H
            have p9 : 0 ≤ (x3_2 : Int) := of_decide_eq_true (by first | (with_reducible assumption) | assumption)
            have q9 : x3_2 < (a0.size : Int) := of_decide_eq_true (by first | (with_reducible assumption) | assumption)
            have hx9 := bt_at a0 x3_2
            replace p9 := eq_true p9
            replace q9 := eq_true q9
            go_wp2
            go_roundg k2
            case measure => have := HJ1.out; have := HK2.out; omega
            case rel => exact ⟨(wrap64 (x3_2 + 1)), (by first | rfl | (simp; done) | (simp [*]; done)), (by first | exact H' | (subst_vars; exact H')), ⟨by have := HJ1.out; have := HK2.out; omega⟩, by repeat (first | exact Drawn0.refl _ | apply Drawn0.step)⟩
           ·rw [if_neg c52] at H
            have c52b0 : ((bt a0 x3_2) == 95) = false := beq_eq_false_iff_ne.mpr c52
            have c52b1 : ((bt a0 x3_2) != 95) = true := bne_iff_ne.mpr c52
            by_cases c53 : (bt a0 x3_2) = 46
            ·rw [if_pos c53] at H
             have c53b0 : ((bt a0 x3_2) == 46) = true := beq_iff_eq.mpr c53
             have c53b1 : ((bt a0 x3_2) != 46) = false := bne_eq_false_iff_eq.mpr c53
             clear c53
             have H' := Aside0.mk H
             clear H
             have p9 : 0 ≤ (x3_2 : Int) := of_decide_eq_true (by first | (with_reducible assumption) | assumption)
             have q9 : x3_2 < (a0.size : Int) := of_decide_eq_true (by first | (with_reducible assumption) | assumption)
             have hx9 := bt_at a0 x3_2
             replace p9 := eq_true p9
             replace q9 := eq_true q9
             go_wp2
             go_roundg k2
             case measure => have := HJ1.out; have := HK2.out; omega
             case rel => exact ⟨(wrap64 (x3_2 + 1)), (by first | rfl | (simp; done) | (simp [*]; done)), (by first | exact H' | (subst_vars; exact H')), ⟨by have := HJ1.out; have := HK2.out; omega⟩, by repeat (first | exact Drawn0.refl _ | apply Drawn0.step)⟩
            ·rw [if_neg c53] at H
             have c53b0 : ((bt a0 x3_2) == 46) = false := beq_eq_false_iff_ne.mpr c53
             have c53b1 : ((bt a0 x3_2) != 46) = true := bne_iff_ne.mpr c53
             by_cases c54 : (bt a0 x3_2) = 45
             ·rw [if_pos c54] at H
              have c54b0 : ((bt a0 x3_2) == 45) = true := beq_iff_eq.mpr c54
              have c54b1 : ((bt a0 x3_2) != 45) = false := bne_eq_false_iff_eq.mpr c54
              clear c54
              have H' := Aside0.mk H
              clear H
              have p9 : 0 ≤ (x3_2 : Int) := of_decide_eq_true (by first | (with_reducible assumption) | assumption)
              have q9 : x3_2 < (a0.size : Int) := of_decide_eq_true (by first | (with_reducible assumption) | assumption)
              have hx9 := bt_at a0 x3_2
              replace p9 := eq_true p9
              replace q9 := eq_true q9
              go_wp2
              go_roundg k2
              case measure => have := HJ1.out; have := HK2.out; omega
              case rel => exact ⟨(wrap64 (x3_2 + 1)), (by first | rfl | (simp; done) | (simp [*]; done)), (by first | exact H' | (subst_vars; exact H')), ⟨by have := HJ1.out; have := HK2.out; omega⟩, by repeat (first | exact Drawn0.refl _ | apply Drawn0.step)⟩
             ·rw [if_neg c54] at H
              have c54b0 : ((bt a0 x3_2) == 45) = false := beq_eq_false_iff_ne.mpr c54
              have c54b1 : ((bt a0 x3_2) != 45) = true := bne_iff_ne.mpr c54
              by_cases c55 : (bt a0 x3_2) = 43
              ·rw [if_pos c55] at H
               have c55b0 : ((bt a0 x3_2) == 43) = true := beq_iff_eq.mpr c55
               have c55b1 : ((bt a0 x3_2) != 43) = false := bne_eq_false_iff_eq.mpr c55
               clear c55
               have H' := Aside0.mk H
               clear H
               have p9 : 0 ≤ (x3_2 : Int) := of_decide_eq_true (by first | (with_reducible assumption) | assumption)
               have q9 : x3_2 < (a0.size : Int) := of_decide_eq_true (by first | (with_reducible assumption) | assumption)
               have hx9 := bt_at a0 x3_2
               replace p9 := eq_true p9
               replace q9 := eq_true q9
               go_wp2
               go_roundg k2
               case measure => have := HJ1.out; have := HK2.out; omega
               case rel => exact ⟨(wrap64 (x3_2 + 1)), (by first | rfl | (simp; done) | (simp [*]; done)), (by first | exact H' | (subst_vars; exact H')), ⟨by have := HJ1.out; have := HK2.out; omega⟩, by repeat (first | exact Drawn0.refl _ | apply Drawn0.step)⟩
              ·rw [if_neg c55] at H
               have c55b0 : ((bt a0 x3_2) == 43) = false := beq_eq_false_iff_ne.mpr c55
               have c55b1 : ((bt a0 x3_2) != 43) = true := bne_iff_ne.mpr c55
               obtain rfl := Option.some.inj H
               have p9 : 0 ≤ (x3_2 : Int) := of_decide_eq_true (by first | (with_reducible assumption) | assumption)
               have q9 : x3_2 < (a0.size : Int) := of_decide_eq_true (by first | (with_reducible assumption) | assumption)
               have hx9 := bt_at a0 x3_2
               replace p9 := eq_true p9
               replace q9 := eq_true q9
               go_wp2
               go_ret
               exact ⟨by first | rfl | (simp; done) | (simp [*]; done), by repeat (first | exact Drawn0.refl _ | apply Drawn0.step)⟩
       ·rw [if_neg c8] at H
        exact absurd H (by simp)
      ·rw [if_neg c7] at H
       have c7b0 : decide (x3_2 < (a0.size : Int)) = false := decide_eq_false c7
       clear c7
       obtain rfl := Option.some.inj H
       go_wp2
       go_ret
       exact ⟨by first | rfl | (simp; done) | (simp [*]; done), by repeat (first | exact Drawn0.refl _ | apply Drawn0.step)⟩

end Go.Proofs.YtikbddiogneheaaGreatDoor.G

/- Go functions as Lean functions, each with its contract: written by a program of mine over the kit's print. Conditions: each contract's own. -/
namespace Go.Proofs.YtikbddiogneheaaGreatDoor.G
open Go.RowKit Go.Proofs.YtikbddiogneheaaGreatDoorW.PrintWords Go.Proofs.YtikbddiogneheaaGreatDoorW.PrintLast Go.Proofs.YtikbddiogneheaaGreatDoorW.PrintMore
attribute [local go_sem] max2_int min2_int max_two min_two max_three min_three max_four min_four   -- for this text's walks alone
set_option linter.unusedVariables false
set_option linter.unusedSimpArgs false

/-! ### bloomeryref03_Parts: function 52 -/
def bloomeryref03_Parts.l0 : Nat → ByteArray → List ByteArray → Int → Option (List ByteArray)
 | 0, _, _, _ => none
 | k + 1, x0, x3, x4 => if x4 < (x0.size : Int) then (if 0 ≤ x4 then (if (bt x0 x4) = 47 then (if x3.length < 8796093022208 then (bloomeryref03_Parts.l0 k x0 (x3 ++ [(⟨#[]⟩ : ByteArray)]) (wrap64 (x4 + 1))) else (none)) else (if 0 ≤ (wrap64 ((x3.length : Int) - 1)) then (if (wrap64 ((x3.length : Int) - 1)) < (x3.length : Int) then (if x4 ≤ (wrap64 (x4 + 1)) then (if (wrap64 (x4 + 1)) ≤ (x0.size : Int) then (if (rdOf ByteArray.empty x3 (wrap64 ((x3.length : Int) - 1))).size + (x0.extract (x4 : Int).toNat ((wrap64 (x4 + 1)) : Int).toNat).size ≤ 9223372036854775807 then (bloomeryref03_Parts.l0 k x0 (x3.set ((wrap64 ((x3.length : Int) - 1)) : Int).toNat ((rdOf ByteArray.empty x3 (wrap64 ((x3.length : Int) - 1))) ++ (x0.extract (x4 : Int).toNat ((wrap64 (x4 + 1)) : Int).toNat))) (wrap64 (x4 + 1))) else (none)) else (none)) else (none)) else (none)) else (none))) else (none)) else (some x3)
def bloomeryref03_Parts.f (k : Nat) (a0 : ByteArray) : Option (List ByteArray) := bloomeryref03_Parts.l0 k a0 (([(⟨#[]⟩ : ByteArray)] : List ByteArray)) 0
def bloomeryref03_Parts.T7 : Bool × List (List Nat × List Nat) := (true, [([], []), ([], []), ([1], [1]), ([2], [2]), ([], []), ([], []), ([5], [5]), ([6], [6]), ([4, 7], [4, 7]), ([8], [8]), ([], []), ([], []), ([], []), ([12], [12]), ([10, 11, 13], [10, 11, 13]), ([9, 14], [9, 14]), ([0, 3, 0, 1, 2, 3, 4, 5, 6, 7, 8, 9, 10, 11, 12, 13, 14, 15], [0, 3]), ([16, 15, 0, 1, 2, 3, 4, 5, 6, 7, 8, 9, 10, 11, 12, 13, 14, 15], [15, 16])])
def bloomeryref03_Parts.B7 : List Nat := [0, 0, 2, 6, 0, 0, 32, 96, 240, 496, 0, 0, 0, 4096, 15360, 32752, 65535, 131071]
theorem bloomeryref03_Parts.tab7 : rtab .any (opsOf Tryz.f52 7) = bloomeryref03_Parts.T7 := by kernel_rfl
theorem bloomeryref03_Parts.bits7 : waitsOk bloomeryref03_Parts.T7.2 bloomeryref03_Parts.B7 = true := by kernel_rfl
set_option maxHeartbeats 8000000 in
set_option maxRecDepth 100000 in
theorem bloomeryref03_Parts.calls (k : Nat) (a0 : ByteArray) (r : List ByteArray) (w : World) (h : bloomeryref03_Parts.f k a0 = some r) :
  Calls Tryz.prog 52 #[.string a0] w fun e w' => ∃ v0_ : Value, e = .returned (v0_) ∧ Kd.R Kd.string 9 w' w.heap.size (fun _ => True) v0_ r ∧ Below w.heap.size w w' := by
 have HB := Aside0.mk (Below.refl w.heap.size w)
 have H : (bloomeryref03_Parts.l0 k a0 (([(⟨#[]⟩ : ByteArray)] : List ByteArray)) 0) = some r := h
 clear h
 obtain ⟨y137, hy137⟩ : ∃ y_ : List ByteArray, y_ = (([(⟨#[]⟩ : ByteArray)] : List ByteArray)) := ⟨_, rfl⟩
 replace H : (bloomeryref03_Parts.l0 k a0 y137 0) = some r := by first | (rw [hy137]; with_reducible exact H) | (have H2_ := (Option.bind_some _ _).symm.trans H; rw [hy137]; with_reducible exact H2_) | (have H2_ := (Option.bind_some _ _).symm.trans H; with_reducible exact H2_) | with_reducible exact H | (rw [hy137]; exact H) | exact H
 have Ny137 := Aside0.mk hy137
 clear hy137
 have H' := Aside0.mk H
 clear H
 go_enter Tryz.func52, Tryz.ntmps52
 go_wp2_with (first | ((with_reducible refine gate_dst (N := 5) rfl ?_); refine Kd.R_lit Kd.string _ 9 ?hg (N := 5) ?hd (xs := ([(⟨#[]⟩ : ByteArray)] : List ByteArray)) (inner := [.string (⟨#[]⟩ : ByteArray)]) (ok := fun _ => True) (okp := fun _ => True) ?hr ?hp (fun _ hk => hk) trivial (Below.refl _ _) (Nat.le_refl _) (by simp) ?_; (case hd => rfl); (case hg => rfl); (case hr => first | (go_simp; done) | (go_simp; rfl)); (case hp => exact (Reps.one (show Kd.M Kd.string _ _ _ (⟨#[]⟩ : ByteArray) [.string (⟨#[]⟩ : ByteArray)] from rfl) (Reps.none _ _))); intro v138 w2 ho3 hb hg_ hnew_; clear hg_ hnew_; (first | rw [← Ny137.out] at ho3 | (simp only [Int.reduceToNat] at ho3; rw [← Ny137.out] at ho3)); have n0_ := Aside0.mk (Kd.R_lower ho3 (below_size (by repeat (first | (with_reducible first | exact HB.out | apply below_alloc | apply pw_below_drewN | apply below_drew1) | exact HB.out)))); have n1_ := Aside0.mk (below_step (by repeat (first | (with_reducible first | exact HB.out | apply below_alloc | apply pw_below_drewN | apply below_drew1) | exact HB.out)) hb); clear HB; have HO139 := n0_; have HB := n1_; clear n0_ n1_; clear hb ho3))
 go_loopg [3, 4] k (fun kq v3 v4 w' => ∃ (x3_1 : List ByteArray) (x4_1 : Int), v4 = .int .i64 x4_1 ∧ Aside0 (bloomeryref03_Parts.l0 kq a0 x3_1 x4_1 = some r) ∧ Aside0 (kq ≤ k) ∧ Aside0 (Kd.R Kd.string 9 w' w.heap.size (fun _ => True) v3 x3_1) ∧ Aside0 (Below w.heap.size w w'))
 case atStart => exact ⟨(y137), (0), (by first | rfl | (simp; done) | (simp [*]; done)), (by first | exact H' | (subst_vars; exact H')), ⟨Nat.le_refl _⟩, ⟨by (with_reducible repeat (first | apply Kd.R_alloc | apply Kd.R_drewN | apply Kd.R_drew)); exact HO139.out⟩, ⟨by repeat (first | (with_reducible first | exact HB.out | apply below_alloc | apply pw_below_drewN | apply below_drew1) | exact HB.out)⟩⟩
 case round =>
  clear H'
  try clear p2
  obtain ⟨x3_1, x4_1, rfl, HA, HK1, HO_3, HB⟩ := hrel
  cases gk with
  | zero => exact absurd HA.out (by simp [bloomeryref03_Parts.l0])
  | succ k1 =>
   have H := HA.out
   clear HA
   simp only [bloomeryref03_Parts.l0] at H
   by_cases c4 : x4_1 < (a0.size : Int)
   ·rw [if_pos c4] at H
    have c4b0 : decide (x4_1 < (a0.size : Int)) = true := decide_eq_true c4
    clear c4
    by_cases c5 : 0 ≤ x4_1
    ·rw [if_pos c5] at H
     have c5b0 : decide (0 ≤ x4_1) = true := decide_eq_true c5
     clear c5
     by_cases c7 : (bt a0 x4_1) = 47
     ·rw [if_pos c7] at H
      have c7b0 : ((bt a0 x4_1) == 47) = true := beq_iff_eq.mpr c7
      have c7b1 : ((bt a0 x4_1) != 47) = false := bne_eq_false_iff_eq.mpr c7
      clear c7
      by_cases c8 : x3_1.length < 8796093022208
      ·rw [if_pos c8] at H
       have LMc8 := Aside0.mk c8
       clear c8
       obtain ⟨y140, hy140⟩ : ∃ y_ : List ByteArray, y_ = (x3_1 ++ [(⟨#[]⟩ : ByteArray)]) := ⟨_, rfl⟩
       replace H : (bloomeryref03_Parts.l0 k1 a0 y140 (wrap64 (x4_1 + 1))) = some r := by first | (rw [hy140]; with_reducible exact H) | (have H2_ := (Option.bind_some _ _).symm.trans H; rw [hy140]; with_reducible exact H2_) | (have H2_ := (Option.bind_some _ _).symm.trans H; with_reducible exact H2_) | with_reducible exact H | (rw [hy140]; exact H) | exact H
       have Ny140 := Aside0.mk hy140
       clear hy140
       have H' := Aside0.mk H
       clear H
       have p6 : 0 ≤ (x4_1 : Int) := of_decide_eq_true (by first | (with_reducible assumption) | assumption)
       have q6 : x4_1 < (a0.size : Int) := of_decide_eq_true (by first | (with_reducible assumption) | assumption)
       have hx6 := bt_at a0 x4_1
       replace p6 := eq_true p6
       replace q6 := eq_true q6
       go_wp2_with (first | ((with_reducible refine gate_builtin (b := .append) (xs := #[.tmp 16, .tmp 17]) rfl ?_); at_builtin; refine Kd.R_append Kd.string (w0 := w) w.heap.size rfl (.tmp 16) (.tmp 17) 40 9 (.string ⟨#[]⟩) 16 rfl Tryz.underlying40 info9 rfl (by decide) (by omega) u3 x3_1 (⟨#[]⟩ : ByteArray) [.string (⟨#[]⟩ : ByteArray)] (fun _ => True) (fun _ => False) rfl rfl ?aP (fun _ hk => hk.elim) ?aF ?aO ?aB ?aS ?aL ?_; (case aP => exact rfl); (case aB => exact (by repeat (first | (with_reducible first | exact HB.out | apply below_alloc | apply pw_below_drewN | apply below_drew1) | exact HB.out))); (case aF => exact (fun _ _ => trivial)); (case aO => exact (by (with_reducible repeat (first | apply Kd.R_alloc | apply Kd.R_drewN | apply Kd.R_drew)); exact HO_3.out)); (case aS => exact (below_size (by repeat (first | (with_reducible first | exact HB.out | apply below_alloc | apply pw_below_drewN | apply below_drew1) | exact HB.out)))); (case aL => have := LMc8.out; omega); intro v141 w9 ho hb hg hat; rw [← Ny140.out] at ho; have n0_ := Aside0.mk (hb); have n1_ := Aside0.mk (ho); clear HB; clear HO_3; have HB := n0_; have HO142 := n1_; clear n0_ n1_; clear ho hb hg hat))
       go_roundg k1
       case measure => have := HK1.out; omega
       case rel => exact ⟨(y140), (wrap64 (x4_1 + 1)), (by first | rfl | (simp; done) | (simp [*]; done)), (by first | exact H' | (subst_vars; exact H')), ⟨by have := HK1.out; omega⟩, ⟨by (with_reducible repeat (first | apply Kd.R_alloc | apply Kd.R_drewN | apply Kd.R_drew)); exact HO142.out⟩, ⟨by repeat (first | (with_reducible first | exact HB.out | apply below_alloc | apply pw_below_drewN | apply below_drew1) | exact HB.out)⟩⟩
      ·rw [if_neg c8] at H
       exact absurd H (by simp)
     ·rw [if_neg c7] at H
      have c7b0 : ((bt a0 x4_1) == 47) = false := beq_eq_false_iff_ne.mpr c7
      have c7b1 : ((bt a0 x4_1) != 47) = true := bne_iff_ne.mpr c7
      obtain ⟨ji10, hji10⟩ : ∃ j_ : Int, (wrap64 ((x3_1.length : Int) - 1)) = j_ := ⟨_, rfl⟩
      replace H : (if 0 ≤ (ji10) then (if (ji10) < (x3_1.length : Int) then (if x4_1 ≤ (wrap64 (x4_1 + 1)) then (if (wrap64 (x4_1 + 1)) ≤ (a0.size : Int) then (if (rdOf ByteArray.empty x3_1 (ji10)).size + (a0.extract (x4_1 : Int).toNat ((wrap64 (x4_1 + 1)) : Int).toNat).size ≤ 9223372036854775807 then (bloomeryref03_Parts.l0 k1 a0 (x3_1.set ((ji10) : Int).toNat ((rdOf ByteArray.empty x3_1 (ji10)) ++ (a0.extract (x4_1 : Int).toNat ((wrap64 (x4_1 + 1)) : Int).toNat))) (wrap64 (x4_1 + 1))) else (none)) else (none)) else (none)) else (none)) else (none)) = some r := by first | (rw [hji10] at H; exact H) | (simp only [hji10] at H ⊢; exact H)
      have hji10w : (IntKind.i64.wrap ((x3_1.length : Int) - 1)) = ji10 := (i64_w _).trans hji10
      by_cases c11 : 0 ≤ (ji10)
      ·rw [if_pos c11] at H
       have c11b0 : decide (0 ≤ (ji10)) = true := decide_eq_true c11
       clear c11
       by_cases c12 : (ji10) < (x3_1.length : Int)
       ·rw [if_pos c12] at H
        have c12b0 : decide ((ji10) < (x3_1.length : Int)) = true := decide_eq_true c12
        clear c12
        have c13b0 := eq_true (of_decide_eq_true (by first | (with_reducible assumption) | assumption) : 0 ≤ x4_1)
        by_cases c14 : x4_1 ≤ (wrap64 (x4_1 + 1))
        ·rw [if_pos c14] at H
         have c14b0 := eq_true c14
         have c14b1 : decide (x4_1 ≤ (wrap64 (x4_1 + 1))) = true := decide_eq_true c14
         by_cases c15 : (wrap64 (x4_1 + 1)) ≤ (a0.size : Int)
         ·rw [if_pos c15] at H
          have c15b0 := eq_true c15
          have c15b1 : decide ((wrap64 (x4_1 + 1)) ≤ (a0.size : Int)) = true := decide_eq_true c15
          by_cases c16 : (rdOf ByteArray.empty x3_1 (ji10)).size + (a0.extract (x4_1 : Int).toNat ((wrap64 (x4_1 + 1)) : Int).toNat).size ≤ 9223372036854775807
          ·rw [if_pos c16] at H
           have c16b0 := eq_true c16
           have c16b1 : decide ((rdOf ByteArray.empty x3_1 (ji10)).size + (a0.extract (x4_1 : Int).toNat ((wrap64 (x4_1 + 1)) : Int).toNat).size ≤ 9223372036854775807) = true := decide_eq_true c16
           try have c16b2 : (9223372036854775807 < (rdOf ByteArray.empty x3_1 (ji10)).size + (a0.extract (x4_1 : Int).toNat ((wrap64 (x4_1 + 1)) : Int).toNat).size) = False := eq_false (Nat.not_lt.2 c16)
           try have c16b6 : (9223372036854775807 < (rdOf ByteArray.empty x3_1 (ji10)).size + (((wrap64 (x4_1 + 1)) : Int).toNat - (x4_1 : Int).toNat)) = False := (by have e_ : (a0.extract (x4_1 : Int).toNat ((wrap64 (x4_1 + 1)) : Int).toNat).size = (((wrap64 (x4_1 + 1)) : Int).toNat - (x4_1 : Int).toNat) := (by rw [ByteArray.size_extract]; omega); rw [← e_]; exact eq_false (Nat.not_lt.2 c16))
           obtain ⟨y144, hy144⟩ : ∃ y_ : List ByteArray, y_ = (x3_1.set ((ji10) : Int).toNat ((rdOf ByteArray.empty x3_1 (ji10)) ++ (a0.extract (x4_1 : Int).toNat ((wrap64 (x4_1 + 1)) : Int).toNat))) := ⟨_, rfl⟩
           replace H : (bloomeryref03_Parts.l0 k1 a0 y144 (wrap64 (x4_1 + 1))) = some r := by first | (rw [hy144]; with_reducible exact H) | (have H2_ := (Option.bind_some _ _).symm.trans H; rw [hy144]; with_reducible exact H2_) | (have H2_ := (Option.bind_some _ _).symm.trans H; with_reducible exact H2_) | with_reducible exact H | (rw [hy144]; exact H) | exact H
           have Ny144 := Aside0.mk hy144
           clear hy144
           have H' := Aside0.mk H
           clear H
           have p6 : 0 ≤ (x4_1 : Int) := of_decide_eq_true (by first | (with_reducible assumption) | assumption)
           have q6 : x4_1 < (a0.size : Int) := of_decide_eq_true (by first | (with_reducible assumption) | assumption)
           have hx6 := bt_at a0 x4_1
           replace p6 := eq_true p6
           replace q6 := eq_true q6
           try go_wp2
           have n0_ := Aside0.mk (Kd.R_drew HO_3.out)
           have n1_ := Aside0.mk (below_drew1 HB.out)
           clear HO_3
           clear HB
           have HO_3 := n0_
           have HB := n1_
           clear n0_ n1_
           obtain ⟨Ao19, co19, eo19⟩ := Kd.R_slice HO_3.out
           (first | subst eo19 | (injection eo19 with f1_ f2_ f3_; have f4_ := f1_.symm; have f5_ := f3_.symm; clear f1_ f2_ f3_; subst f4_; subst f5_))
           have p143 : 0 ≤ ((ji10) : Int) := of_decide_eq_true (by first | (with_reducible assumption) | assumption)
           have q143 : (ji10) < (x3_1.length : Int) := of_decide_eq_true (by first | (with_reducible assumption) | assumption)
           obtain ⟨ad143, e143, hx143_0⟩ := Kd.at_string (Kd.R_reads' HO_3.out).2.2 (ji10) p143 q143
           cases e143
           replace p143 := eq_true p143
           replace q143 := eq_true q143
           have p17 : 0 ≤ ((ji10) : Int) := of_decide_eq_true (by first | (with_reducible assumption) | assumption)
           have q17 : ((ji10) : Int) < ((x3_1.length : Int) : Int) := of_decide_eq_true (by first | (with_reducible assumption) | assumption)
           obtain ⟨go17, co17, eo17, gb17, gl17, cl17, HG17⟩ := Kd.R_form HO_3.out (by omega)
           (first | cases eo17 | (injection eo17 with ea_ en_ ec_; (first | subst ea_ | (injection ea_ with ea_; subst ea_)); subst ec_; clear en_))
           have GB17 := Aside0.mk gb17
           have GG17 := Aside0.mk HG17
           clear gb17 gl17 HG17
           (first | simp only [add_plain] at hx143_0 | skip)
           obtain ⟨hx17_0, hf17_0⟩ := Kd.R_celln (⟨#[]⟩ : ByteArray) HO_3.out ((ji10) : Int) p17 q17
           replace p17 := eq_true p17
           replace q17 := eq_true q17
           have HP20 := Kd.R_putn HO_3.out ((ji10) : Int) ((rdOf ByteArray.empty x3_1 (ji10)) ++ (a0.extract (x4_1 : Int).toNat ((wrap64 (x4_1 + 1)) : Int).toNat))
           rw [← Ny144.out] at HP20
           have HQ20 := Aside0.mk HP20
           clear HP20
           refine start_ (n := 18) (S := fun w' => w'.cell? ⟨go17, ((ji10)).toNat, none⟩ = some (.string (rdOf ByteArray.empty x3_1 (ji10)))) (ds := [17]) #[false, false, false, false, false, false, false, false, false, false, false, false, false, false, false, false, false, false] (by kernel_rfl) rfl rfl (hx143_0) (fun hHeld => ?_); refine with_tabW bloomeryref03_Parts.tab7 bloomeryref03_Parts.bits7 (fun HT_ HW_ => ?_)
           generalize wr.drew = w18 at HO_3 HB GG17 HQ20 hf17_0 hx143_0 hx17_0 hHeld ⊢
           refine pure_ (i := 0) (N := some 19) (v := ?_) (a' := ?_) #[true, false, false, false, false, false, false, false, false, false, false, false, false, false, false, false, false, false] rfl rfl (any_of HT_.out (by kernel_rfl)) (fun _ _ _ h => h) (Or.inl ⟨by rfl, ?_⟩) ?_ ?_
           rotate_left
           ·intro w'
            go_simp
            with_reducible rfl
           rotate_left
           ·simp only [Act.put, List.setIfInBounds_toArray, List.set_cons_zero, List.set_cons_succ, i64_w, i32_w]
            rfl
           refine pure_ (i := 1) (N := some 20) (v := ?_) (a' := ?_) #[true, true, false, false, false, false, false, false, false, false, false, false, false, false, false, false, false, false] rfl rfl (any_of HT_.out (by kernel_rfl)) (fun _ _ _ h => h) (Or.inl ⟨by rfl, ?_⟩) ?_ ?_
           rotate_left
           ·intro w'
            go_simp
            with_reducible rfl
           rotate_left
           ·simp only [Act.put, List.setIfInBounds_toArray, List.set_cons_zero, List.set_cons_succ, i64_w, i32_w]
            rfl
           refine pure_ (i := 2) (N := some 21) (v := ?_) (a' := ?_) #[true, true, true, false, false, false, false, false, false, false, false, false, false, false, false, false, false, false] rfl rfl (any_of HT_.out (by kernel_rfl)) (fun _ _ _ h => h) (Or.inl ⟨by rfl, ?_⟩) ?_ ?_
           rotate_left
           ·intro w'
            go_simp
            with_reducible rfl
           rotate_left
           ·simp only [Act.put, List.setIfInBounds_toArray, List.set_cons_zero, List.set_cons_succ, i64_w, i32_w]
            rfl
           refine pure_ (i := 3) (N := some 22) (v := ?_) (a' := ?_) #[true, true, true, true, false, false, false, false, false, false, false, false, false, false, false, false, false, false] rfl rfl (any_of HT_.out (by kernel_rfl)) (fun _ _ _ h => h) (Or.inl ⟨by rfl, ?_⟩) ?_ ?_
           rotate_left
           ·intro w'
            go_simp
            with_reducible rfl
           rotate_left
           ·simp only [Act.put, List.setIfInBounds_toArray, List.set_cons_zero, List.set_cons_succ, i64_w, i32_w]
            rfl
           refine pure_ (i := 4) (N := some 23) (v := ?_) (a' := ?_) #[true, true, true, true, true, false, false, false, false, false, false, false, false, false, false, false, false, false] rfl rfl (any_of HT_.out (by kernel_rfl)) (fun _ _ _ h => h) (Or.inl ⟨by rfl, ?_⟩) ?_ ?_
           rotate_left
           ·intro w'
            go_simp
            with_reducible rfl
           rotate_left
           ·simp only [Act.put, List.setIfInBounds_toArray, List.set_cons_zero, List.set_cons_succ, i64_w, i32_w]
            rfl
           refine pure_ (i := 5) (N := some 24) (v := ?_) (a' := ?_) #[true, true, true, true, true, true, false, false, false, false, false, false, false, false, false, false, false, false] rfl rfl (any_of HT_.out (by kernel_rfl)) (fun _ _ _ h => h) (Or.inl ⟨by rfl, ?_⟩) ?_ ?_
           rotate_left
           ·intro w'
            go_simp
            with_reducible rfl
           rotate_left
           ·simp only [Act.put, List.setIfInBounds_toArray, List.set_cons_zero, List.set_cons_succ, i64_w, i32_w]
            rfl
           refine pure_ (i := 6) (N := some 25) (v := ?_) (a' := ?_) #[true, true, true, true, true, true, true, false, false, false, false, false, false, false, false, false, false, false] rfl rfl (any_of HT_.out (by kernel_rfl)) (fun _ _ _ h => h) (Or.inl ⟨by rfl, ?_⟩) ?_ ?_
           rotate_left
           ·intro w'
            go_simp
            with_reducible rfl
           rotate_left
           ·simp only [Act.put, List.setIfInBounds_toArray, List.set_cons_zero, List.set_cons_succ, i64_w, i32_w]
            rfl
           refine pure_ (i := 7) (N := some 26) (v := ?_) (a' := ?_) #[true, true, true, true, true, true, true, true, false, false, false, false, false, false, false, false, false, false] rfl rfl (any_of HT_.out (by kernel_rfl)) (fun _ _ _ h => h) (Or.inl ⟨by rfl, ?_⟩) ?_ ?_
           rotate_left
           ·intro w'
            go_simp
            with_reducible rfl
           rotate_left
           ·simp only [Act.put, List.setIfInBounds_toArray, List.set_cons_zero, List.set_cons_succ, i64_w, i32_w]
            rfl
           refine pure_ (i := 8) (N := some 27) (v := ?_) (a' := ?_) #[true, true, true, true, true, true, true, true, true, false, false, false, false, false, false, false, false, false] rfl rfl (any_of HT_.out (by kernel_rfl)) (fun _ _ _ h => h) (Or.inl ⟨by rfl, ?_⟩) ?_ ?_
           rotate_left
           ·intro w'
            go_simp
            with_reducible rfl
           rotate_left
           ·simp only [Act.put, List.setIfInBounds_toArray, List.set_cons_zero, List.set_cons_succ, i64_w, i32_w]
            rfl
           refine pure_ (i := 10) (N := some 29) (v := ?_) (a' := ?_) #[true, true, true, true, true, true, true, true, true, false, true, false, false, false, false, false, false, false] rfl rfl (any_of HT_.out (by kernel_rfl)) (fun _ _ _ h => h) (Or.inl ⟨by rfl, ?_⟩) ?_ ?_
           rotate_left
           ·intro w'
            go_simp
            with_reducible rfl
           rotate_left
           ·simp only [Act.put, List.setIfInBounds_toArray, List.set_cons_zero, List.set_cons_succ, i64_w, i32_w]
            rfl
           refine pure_ (i := 11) (N := some 30) (v := ?_) (a' := ?_) #[true, true, true, true, true, true, true, true, true, false, true, true, false, false, false, false, false, false] rfl rfl (any_of HT_.out (by kernel_rfl)) (fun _ _ _ h => h) (Or.inl ⟨by rfl, ?_⟩) ?_ ?_
           rotate_left
           ·intro w'
            go_simp
            with_reducible rfl
           rotate_left
           ·simp only [Act.put, List.setIfInBounds_toArray, List.set_cons_zero, List.set_cons_succ, i64_w, i32_w]
            rfl
           refine pure_ (i := 12) (N := some 31) (v := ?_) (a' := ?_) #[true, true, true, true, true, true, true, true, true, false, true, true, true, false, false, false, false, false] rfl rfl (any_of HT_.out (by kernel_rfl)) (fun _ _ _ h => h) (Or.inl ⟨by rfl, ?_⟩) ?_ ?_
           rotate_left
           ·intro w'
            go_simp
            with_reducible rfl
           rotate_left
           ·simp only [Act.put, List.setIfInBounds_toArray, List.set_cons_zero, List.set_cons_succ, i64_w, i32_w]
            rfl
           refine pure_ (i := 13) (N := some 32) (v := ?_) (a' := ?_) #[true, true, true, true, true, true, true, true, true, false, true, true, true, true, false, false, false, false] rfl rfl (any_of HT_.out (by kernel_rfl)) (fun _ _ _ h => h) (Or.inl ⟨by rfl, ?_⟩) ?_ ?_
           rotate_left
           ·intro w'
            go_simp
            with_reducible rfl
           rotate_left
           ·simp only [Act.put, List.setIfInBounds_toArray, List.set_cons_zero, List.set_cons_succ, i64_w, i32_w]
            rfl
           refine pure_ (i := 14) (N := some 33) (v := ?_) (a' := ?_) #[true, true, true, true, true, true, true, true, true, false, true, true, true, true, true, false, false, false] rfl rfl (any_of HT_.out (by kernel_rfl)) (fun _ _ _ h => h) (Or.inl ⟨by rfl, ?_⟩) ?_ ?_
           rotate_left
           ·intro w'
            go_simp
            with_reducible rfl
           rotate_left
           ·simp only [Act.put, List.setIfInBounds_toArray, List.set_cons_zero, List.set_cons_succ, i64_w, i32_w]
            rfl
           refine take_ (i := 9) (N := some 28) (v := ?_) (a' := ?_) #[true, true, true, true, true, true, true, true, true, true, true, true, true, true, true, false, false, false] rfl rfl (take_ofW HT_.out HW_.out (by kernel_rfl)) (fun _ _ _ h => h) (Or.inl ⟨by rfl, ?_⟩) hHeld ?_ ?_
           rotate_left
           ·intro w' s0
            go_simp
            with_reducible rfl
           rotate_left
           ·simp only [Act.put, List.setIfInBounds_toArray, List.set_cons_zero, List.set_cons_succ, i64_w, i32_w]
            rfl
           refine pure_ (i := 15) (N := some 34) (v := ?_) (a' := ?_) #[true, true, true, true, true, true, true, true, true, true, true, true, true, true, true, true, false, false] rfl rfl (any_of HT_.out (by kernel_rfl)) (fun _ _ _ h => h) (Or.inl ⟨by rfl, ?_⟩) ?_ ?_
           rotate_left
           ·intro w'
            go_simp
            with_reducible rfl
           rotate_left
           ·simp only [Act.put, List.setIfInBounds_toArray, List.set_cons_zero, List.set_cons_succ, i64_w, i32_w]
            rfl
           refine pure_ (i := 16) (N := some 35) (v := ?_) (a' := ?_) #[true, true, true, true, true, true, true, true, true, true, true, true, true, true, true, true, true, false] rfl rfl (any_of HT_.out (by kernel_rfl)) (fun _ _ _ h => h) (Or.inl ⟨by rfl, ?_⟩) ?_ ?_
           rotate_left
           ·intro w'
            go_simp
            with_reducible rfl
           rotate_left
           ·simp only [Act.put, List.setIfInBounds_toArray, List.set_cons_zero, List.set_cons_succ, i64_w, i32_w]
            rfl
           refine last_ (i := 17) (N := none) #[true, true, true, true, true, true, true, true, true, true, true, true, true, true, true, true, true, true] rfl rfl (one_of HT_.out (by kernel_rfl)) (by decide) (fun K hK => ?_)
           refine skip_ (w1 := ?_) (by rfl) rfl ?_ ?_
           rotate_left
           ·go_simp
            rfl
           refine hK.out _ _ ?_
           clear hK K
           refine done_ (done_of HT_.out (by kernel_rfl)) ?_
           try go_wp2
           go_roundg k1
           case measure => have := HK1.out; omega
           case rel => exact ⟨(y144), (wrap64 (x4_1 + 1)), (by first | rfl | (simp; done) | (simp [*]; done)), (by first | exact H' | (subst_vars; exact H')), ⟨by have := HK1.out; omega⟩, ⟨by (with_reducible repeat (first | apply Kd.R_alloc | apply Kd.R_drewN | apply Kd.R_drew)); exact HQ20.out⟩, ⟨by repeat (first | (with_reducible first | exact HB.out | apply below_alloc | apply pw_below_drewN | apply below_drew1 | refine below_set ?_ GB17.out) | exact HB.out)⟩⟩
          ·rw [if_neg c16] at H
           exact absurd H (by simp)
         ·rw [if_neg c15] at H
          exact absurd H (by simp)
        ·rw [if_neg c14] at H
         exact absurd H (by simp)
       ·rw [if_neg c12] at H
        exact absurd H (by simp)
      ·rw [if_neg c11] at H
       exact absurd H (by simp)
    ·rw [if_neg c5] at H
     exact absurd H (by simp)
   ·rw [if_neg c4] at H
    have c4b0 : decide (x4_1 < (a0.size : Int)) = false := decide_eq_false c4
    clear c4
    obtain rfl := Option.some.inj H
    go_wp2
    go_ret
    exact ⟨_, by first | rfl | (simp [errW_none, errW_some] <;> rfl) | (simp [*, errW_none, errW_some] <;> rfl), by (with_reducible repeat (first | apply Kd.R_alloc | apply Kd.R_drewN | apply Kd.R_drew)); exact HO_3.out, by repeat (first | (with_reducible first | exact HB.out | apply below_alloc | apply pw_below_drewN | apply below_drew1) | exact HB.out)⟩

end Go.Proofs.YtikbddiogneheaaGreatDoor.G

/- Go functions as Lean functions, each with its contract: written by a program of mine over the kit's print. Conditions: each contract's own. -/
namespace Go.Proofs.YtikbddiogneheaaGreatDoor.G
open Go.RowKit Go.Proofs.YtikbddiogneheaaGreatDoorW.PrintWords Go.Proofs.YtikbddiogneheaaGreatDoorW.PrintLast Go.Proofs.YtikbddiogneheaaGreatDoorW.PrintMore
attribute [local go_sem] max2_int min2_int max_two min_two max_three min_three max_four min_four   -- for this text's walks alone
set_option linter.unusedVariables false
set_option linter.unusedSimpArgs false

/-! ### bloomeryref03_May: function 25 -/
def bloomeryref03_May.l0 : Nat → List ByteArray → Int → Option (Bool)
 | 0, _, _ => none
 | k + 1, x3, x4 => if x4 < (x3.length : Int) then (if 0 ≤ x4 then ((bloomeryref03_Part.f k (rdOf ByteArray.empty x3 x4)).bind fun t149 => (if t149 = true then (bloomeryref03_May.l0 k x3 (wrap64 (x4 + 1))) else (some false))) else (none)) else (some (decide ((x3.length : Int) ≤ 16)))
def bloomeryref03_May.f (k : Nat) (a0 : ByteArray) : Option (Bool) := (bloomeryref03_Parts.f k a0).bind fun t145 => (bloomeryref03_May.l0 k t145 0)
set_option maxHeartbeats 8000000 in
set_option maxRecDepth 100000 in
theorem bloomeryref03_May.calls (k : Nat) (a0 : ByteArray) (r : Bool) (w : World) (h : bloomeryref03_May.f k a0 = some r) :
  Calls Tryz.prog 25 #[.string a0] w fun e w' => e = .returned (.bool r) ∧ Below w.heap.size w w' := by
 have HB := Aside0.mk (Below.refl w.heap.size w)
 have H : ((bloomeryref03_Parts.f k a0).bind fun t145 => (bloomeryref03_May.l0 k t145 0)) = some r := h
 clear h
 replace H := Option.bind_eq_some_iff.mp H
 obtain ⟨t145, A20, H⟩ := H
 replace H : (bloomeryref03_May.l0 k t145 0) = some r := H
 have A2 := Aside0.mk A20
 clear A20
 have H' := Aside0.mk H
 clear H
 go_enter Tryz.func25, Tryz.ntmps25
 go_wp2_with (first | ((with_reducible refine gate_callee (f := 52) rfl ?_); refine goesL_ (some 6) rfl rfl Tryz.func52 (by kernel_rfl) rfl #[.string a0] rfl (by (try simp only [List.map_toArray, List.map_cons, List.map_nil]); first | done | rfl | (simp only [List.length_drop, List.length_take]; rfl)) ?_; (with_reducible refine (bloomeryref03_Parts.calls k a0 t145 _ A2.out).mono ?_); rintro e w3 ⟨v146, rfl, ho0, hb⟩; refine ⟨_, rfl, ?_⟩; have n0_ := Aside0.mk (Kd.R_lower ho0 (below_size (by repeat (first | (with_reducible first | exact HB.out | apply below_alloc | apply pw_below_drewN | apply below_drew1) | exact HB.out)))); have n1_ := Aside0.mk (below_step (by repeat (first | (with_reducible first | exact HB.out | apply below_alloc | apply pw_below_drewN | apply below_drew1) | exact HB.out)) hb); clear HB; have HO147 := n0_; have HB := n1_; clear n0_ n1_; (try clear hb); (try clear hb2); (try clear hk); (try clear hi); (try clear ho0)))
 go_loopg [4] k (fun kq v4 w' => ∃ (x4_1 : Int), v4 = .int .i64 x4_1 ∧ Aside0 (bloomeryref03_May.l0 kq t145 x4_1 = some r) ∧ Aside0 (kq ≤ k) ∧ Aside0 (Kd.R Kd.string 9 w' w.heap.size (fun _ => True) v146 t145) ∧ Aside0 (Below w.heap.size w w'))
 case atStart => exact ⟨(0), (by first | rfl | (simp; done) | (simp [*]; done)), (by first | exact H' | (subst_vars; exact H')), ⟨Nat.le_refl _⟩, ⟨by (with_reducible repeat (first | apply Kd.R_alloc | apply Kd.R_drewN | apply Kd.R_drew)); exact HO147.out⟩, ⟨by repeat (first | (with_reducible first | exact HB.out | apply below_alloc | apply pw_below_drewN | apply below_drew1) | exact HB.out)⟩⟩
 case round =>
  clear H'
  try clear c2
  try clear p2
  obtain ⟨x4_1, rfl, HA, HK1, HO_3, HB⟩ := hrel
  cases gk with
  | zero => exact absurd HA.out (by simp [bloomeryref03_May.l0])
  | succ k1 =>
   have H := HA.out
   clear HA
   simp only [bloomeryref03_May.l0] at H
   by_cases c4 : x4_1 < (t145.length : Int)
   ·rw [if_pos c4] at H
    have c4b0 : decide (x4_1 < (t145.length : Int)) = true := decide_eq_true c4
    clear c4
    by_cases c5 : 0 ≤ x4_1
    ·rw [if_pos c5] at H
     have c5b0 : decide (0 ≤ x4_1) = true := decide_eq_true c5
     clear c5
     replace H := Option.bind_eq_some_iff.mp H
     obtain ⟨t149, A60, H⟩ := H
     replace H : (if t149 = true then (bloomeryref03_May.l0 k1 t145 (wrap64 (x4_1 + 1))) else (some false)) = some r := H
     have A6 := Aside0.mk A60
     clear A60
     by_cases c7 : t149 = true
     ·subst c7
      have H1 : (bloomeryref03_May.l0 k1 t145 (wrap64 (x4_1 + 1))) = some r := by rw [if_pos rfl] at H; exact H
      clear H
      have H := H1
      clear H1
      have H' := Aside0.mk H
      clear H
      obtain ⟨Ao8, co8, eo8⟩ := Kd.R_slice HO_3.out
      subst eo8
      have p148 : 0 ≤ (x4_1 : Int) := of_decide_eq_true (by first | (with_reducible assumption) | assumption)
      have q148 : x4_1 < (t145.length : Int) := of_decide_eq_true (by first | (with_reducible assumption) | assumption)
      obtain ⟨ad148, e148, hx148_0⟩ := Kd.at_string (Kd.R_reads' HO_3.out).2.2 x4_1 p148 q148
      cases e148
      replace p148 := eq_true p148
      replace q148 := eq_true q148
      go_wp2_with (first | ((with_reducible refine gate_callee (f := 26) rfl ?_); refine goesL_ (some 17) rfl rfl Tryz.func26 (by kernel_rfl) rfl #[.string (rdOf ByteArray.empty t145 x4_1)] rfl (by (try simp only [List.map_toArray, List.map_cons, List.map_nil]); first | done | rfl | (simp only [List.length_drop, List.length_take]; rfl)) ?_; (with_reducible refine (bloomeryref03_Part.calls k1 (rdOf ByteArray.empty t145 x4_1) true _ A6.out).mono ?_); rintro e w' ⟨rfl, ⟨nd, rfl⟩⟩; refine ⟨_, rfl, ?_⟩))
      go_roundg k1
      case measure => have := HK1.out; omega
      case rel => exact ⟨(wrap64 (x4_1 + 1)), (by first | rfl | (simp; done) | (simp [*]; done)), (by first | exact H' | (subst_vars; exact H')), ⟨by have := HK1.out; omega⟩, ⟨by (with_reducible repeat (first | apply Kd.R_alloc | apply Kd.R_drewN | apply Kd.R_drew)); exact HO_3.out⟩, ⟨by repeat (first | (with_reducible first | exact HB.out | apply below_alloc | apply pw_below_drewN | apply below_drew1) | exact HB.out)⟩⟩
     ·replace c7 := Bool.eq_false_iff.mpr c7
      subst c7
      have H1 : (some false) = some r := by rw [if_neg (show ¬ (false = true) by decide)] at H; exact H
      clear H
      have H := H1
      clear H1
      obtain rfl := Option.some.inj H
      obtain ⟨Ao9, co9, eo9⟩ := Kd.R_slice HO_3.out
      subst eo9
      have p148 : 0 ≤ (x4_1 : Int) := of_decide_eq_true (by first | (with_reducible assumption) | assumption)
      have q148 : x4_1 < (t145.length : Int) := of_decide_eq_true (by first | (with_reducible assumption) | assumption)
      obtain ⟨ad148, e148, hx148_0⟩ := Kd.at_string (Kd.R_reads' HO_3.out).2.2 x4_1 p148 q148
      cases e148
      replace p148 := eq_true p148
      replace q148 := eq_true q148
      go_wp2_with (first | ((with_reducible refine gate_callee (f := 26) rfl ?_); refine goesL_ (some 17) rfl rfl Tryz.func26 (by kernel_rfl) rfl #[.string (rdOf ByteArray.empty t145 x4_1)] rfl (by (try simp only [List.map_toArray, List.map_cons, List.map_nil]); first | done | rfl | (simp only [List.length_drop, List.length_take]; rfl)) ?_; (with_reducible refine (bloomeryref03_Part.calls k1 (rdOf ByteArray.empty t145 x4_1) false _ A6.out).mono ?_); rintro e w' ⟨rfl, ⟨nd, rfl⟩⟩; refine ⟨_, rfl, ?_⟩))
      go_ret
      exact ⟨by first | rfl | (simp [errW_none, errW_some] <;> rfl) | (simp [*, errW_none, errW_some] <;> rfl), by repeat (first | (with_reducible first | exact HB.out | apply below_alloc | apply pw_below_drewN | apply below_drew1) | exact HB.out)⟩
    ·rw [if_neg c5] at H
     exact absurd H (by simp)
   ·rw [if_neg c4] at H
    have c4b0 : decide (x4_1 < (t145.length : Int)) = false := decide_eq_false c4
    clear c4
    obtain rfl := Option.some.inj H
    obtain ⟨Ao10, co10, eo10⟩ := Kd.R_slice HO_3.out
    subst eo10
    go_wp2
    go_ret
    exact ⟨by first | rfl | (simp [errW_none, errW_some] <;> rfl) | (simp [*, errW_none, errW_some] <;> rfl), by repeat (first | (with_reducible first | exact HB.out | apply below_alloc | apply pw_below_drewN | apply below_drew1) | exact HB.out)⟩

end Go.Proofs.YtikbddiogneheaaGreatDoor.G

/- Go functions as Lean functions, each with its contract: written by a program of mine over the kit's print. Conditions: each contract's own. -/
namespace Go.Proofs.YtikbddiogneheaaGreatDoor.G
open Go.RowKit Go.Proofs.YtikbddiogneheaaGreatDoorW.PrintWords Go.Proofs.YtikbddiogneheaaGreatDoorW.PrintLast Go.Proofs.YtikbddiogneheaaGreatDoorW.PrintMore
attribute [local go_sem] max2_int min2_int max_two min_two max_three min_three max_four min_four   -- for this text's walks alone
set_option linter.unusedVariables false
set_option linter.unusedSimpArgs false

/-! ### bloomeryref13_Pkg: function 11 -/
def bloomeryref13_Pkg.f (k : Nat) (a0 : ByteArray) : Option (Bool) := if a0.toList = ([] : List UInt8) then (some true) else ((bloomeryref03_May.f k a0).bind fun t150 => (some t150))
set_option maxHeartbeats 8000000 in
set_option maxRecDepth 100000 in
theorem bloomeryref13_Pkg.calls (k : Nat) (a0 : ByteArray) (r : Bool) (w : World) (h : bloomeryref13_Pkg.f k a0 = some r) :
  Calls Tryz.prog 11 #[.string a0] w fun e w' => e = .returned (.bool r) ∧ Below w.heap.size w w' := by
 have HB := Aside0.mk (Below.refl w.heap.size w)
 have H : (if a0.toList = ([] : List UInt8) then (some true) else ((bloomeryref03_May.f k a0).bind fun t150 => (some t150))) = some r := h
 clear h
 by_cases c2 : a0.toList = ([] : List UInt8)
 ·rw [if_pos c2] at H
  have c2b0 : (a0.toList == ([] : List UInt8)) = true := beq_iff_eq.mpr c2
  have c2b1 : (a0.toList != ([] : List UInt8)) = false := bne_eq_false_iff_eq.mpr c2
  clear c2
  obtain rfl := Option.some.inj H
  go_enter Tryz.func11, Tryz.ntmps11
  go_wp2
  go_ret
  exact ⟨by first | rfl | (simp [errW_none, errW_some] <;> rfl) | (simp [*, errW_none, errW_some] <;> rfl), by repeat (first | (with_reducible first | exact HB.out | apply below_alloc | apply pw_below_drewN | apply below_drew1) | exact HB.out)⟩
 ·rw [if_neg c2] at H
  have c2b0 : (a0.toList == ([] : List UInt8)) = false := beq_eq_false_iff_ne.mpr c2
  have c2b1 : (a0.toList != ([] : List UInt8)) = true := bne_iff_ne.mpr c2
  replace H := Option.bind_eq_some_iff.mp H
  obtain ⟨t150, A30, H⟩ := H
  replace H : (some t150) = some r := H
  have A3 := Aside0.mk A30
  clear A30
  obtain rfl := Option.some.inj H
  go_enter Tryz.func11, Tryz.ntmps11
  go_wp2_with (first | (go_at_call 25; (with_reducible refine (bloomeryref03_May.calls k a0 t150 _ A3.out).mono ?_); rintro e w4 ⟨rfl, hb⟩; have n0_ := Aside0.mk (below_step (by repeat (first | (with_reducible first | exact HB.out | apply below_alloc | apply pw_below_drewN | apply below_drew1) | exact HB.out)) hb); clear HB; have HB := n0_; clear n0_; (try clear hb); (try clear hb2); (try clear hk); (try clear hi)))
  go_ret
  exact ⟨by first | rfl | (simp [errW_none, errW_some] <;> rfl) | (simp [*, errW_none, errW_some] <;> rfl), by repeat (first | (with_reducible first | exact HB.out | apply below_alloc | apply pw_below_drewN | apply below_drew1) | exact HB.out)⟩

end Go.Proofs.YtikbddiogneheaaGreatDoor.G

/- Go functions as Lean functions, each with its contract: written by a program of mine over the kit's print. Conditions: each contract's own. -/
namespace Go.Proofs.YtikbddiogneheaaGreatDoor.G
open Go.RowKit Go.Proofs.YtikbddiogneheaaGreatDoorW.PrintWords Go.Proofs.YtikbddiogneheaaGreatDoorW.PrintLast Go.Proofs.YtikbddiogneheaaGreatDoorW.PrintMore
attribute [local go_sem] max2_int min2_int max_two min_two max_three min_three max_four min_four   -- for this text's walks alone
set_option linter.unusedVariables false
set_option linter.unusedSimpArgs false

/-! ### bloomeryref13_Name: function 12 -/
def bloomeryref13_Name.f (k : Nat) (a0 : ByteArray) : Option (Bool) := (bloomeryref03_Part.f k a0).bind fun t151 => (some t151)
set_option maxHeartbeats 8000000 in
set_option maxRecDepth 100000 in
theorem bloomeryref13_Name.calls (k : Nat) (a0 : ByteArray) (r : Bool) (w : World) (h : bloomeryref13_Name.f k a0 = some r) :
  Calls Tryz.prog 12 #[.string a0] w fun e w' => e = .returned (.bool r) ∧ Drawn0 w w' := by
 have H : ((bloomeryref03_Part.f k a0).bind fun t151 => (some t151)) = some r := h
 clear h
 replace H := Option.bind_eq_some_iff.mp H
 obtain ⟨t151, A20, H⟩ := H
 replace H : (some t151) = some r := H
 have A2 := Aside0.mk A20
 clear A20
 obtain rfl := Option.some.inj H
 go_enter Tryz.func12, Tryz.ntmps12
 go_wp2_with (first | ((with_reducible refine gate_callee (f := 26) rfl ?_); refine goesL_ (some 4) rfl rfl Tryz.func26 (by kernel_rfl) rfl #[.string a0] rfl (by (try simp only [List.map_toArray, List.map_cons, List.map_nil]); first | done | rfl | (simp only [List.length_drop, List.length_take]; rfl)) ?_; (with_reducible refine (bloomeryref03_Part.calls k a0 t151 _ A2.out).mono ?_); rintro e w' ⟨rfl, ⟨nd, rfl⟩⟩; refine ⟨_, rfl, ?_⟩))
 go_ret
 exact ⟨by first | rfl | (simp; done) | (simp [*]; done), by repeat (first | exact Drawn0.refl _ | apply Drawn0.step)⟩

end Go.Proofs.YtikbddiogneheaaGreatDoor.G

/- Go functions as Lean functions, each with its contract: written by a program of mine over the kit's print. Conditions: each contract's own. -/
namespace Go.Proofs.YtikbddiogneheaaGreatDoor.G
open Go.RowKit Go.Proofs.YtikbddiogneheaaGreatDoorW.PrintWords Go.Proofs.YtikbddiogneheaaGreatDoorW.PrintLast Go.Proofs.YtikbddiogneheaaGreatDoorW.PrintMore
attribute [local go_sem] max2_int min2_int max_two min_two max_three min_three max_four min_four   -- for this text's walks alone
set_option linter.unusedVariables false
set_option linter.unusedSimpArgs false

/-! ### bloomeryref13_May: function 5 -/
def bloomeryref13_May.f (k : Nat) (a0_0 : ByteArray) (a0_1 : ByteArray) : Option (Bool) := (bloomeryref13_Pkg.f k a0_0).bind fun t153 => (if t153 = true then ((bloomeryref13_Name.f k a0_1).bind fun t154 => (some t154)) else (some false))
set_option maxHeartbeats 8000000 in
set_option maxRecDepth 100000 in
theorem bloomeryref13_May.calls (k : Nat) (a0_0 : ByteArray) (a0_1 : ByteArray) (r : Bool) (w : World) (h : bloomeryref13_May.f k a0_0 a0_1 = some r) :
  Calls Tryz.prog 5 #[.agg #[.string a0_0, .string a0_1]] w fun e w' => e = .returned (.bool r) ∧ Below w.heap.size w w' := by
 have hu23 := Tryz.underlying23
 have HB := Aside0.mk (Below.refl w.heap.size w)
 have H : ((bloomeryref13_Pkg.f k a0_0).bind fun t153 => (if t153 = true then ((bloomeryref13_Name.f k a0_1).bind fun t154 => (some t154)) else (some false))) = some r := h
 clear h
 replace H := Option.bind_eq_some_iff.mp H
 obtain ⟨t153, A20, H⟩ := H
 replace H : (if t153 = true then ((bloomeryref13_Name.f k a0_1).bind fun t154 => (some t154)) else (some false)) = some r := H
 have A2 := Aside0.mk A20
 clear A20
 by_cases c3 : t153 = true
 ·subst c3
  have H1 : ((bloomeryref13_Name.f k a0_1).bind fun t154 => (some t154)) = some r := by rw [if_pos rfl] at H; exact H
  clear H
  have H := H1
  clear H1
  replace H := Option.bind_eq_some_iff.mp H
  obtain ⟨t154, A40, H⟩ := H
  replace H : (some t154) = some r := H
  have A4 := Aside0.mk A40
  clear A40
  obtain rfl := Option.some.inj H
  go_enter Tryz.func5, Tryz.ntmps5
  go_wp2_with (first | ((with_reducible refine gate_dst (N := 1) rfl ?_); refine box_event ?hg (N := 1) ?hd (cs := #[.string a0_0, .string a0_1]) (t := 23) ?hr ?_; (case hd => rfl); (case hg => rfl); (case hr => first | (go_simp; done) | (go_simp; rfl)); intro gb152 hg w5 hbox hb; have n0_ := Aside0.mk (below_step (by repeat (first | (with_reducible first | exact HB.out | apply below_alloc | apply pw_below_drewN | apply below_drew1) | exact HB.out)) hb); have n1_ := Aside0.mk (hbox); have n2_ := Aside0.mk ((by rw [hg]; exact (below_size (by repeat (first | (with_reducible first | exact HB.out | apply below_alloc | apply pw_below_drewN | apply below_drew1) | exact HB.out))) : w.heap.size ≤ gb152)); have n3_ := Aside0.mk ((by rw [hg]; exact (below_size (by repeat (first | (with_reducible first | exact HB.out | apply below_alloc | apply pw_below_drewN | apply below_drew1) | exact HB.out))) : w.heap.size ≤ gb152)); clear HB; have HB := n0_; have BK152 := n1_; have GW152 := n2_; have GE152 := n3_; clear n0_ n1_ n2_ n3_; clear hb hbox hg; have hcz6_0 : w5.cell? ⟨gb152, 0, none⟩ = some (.string a0_0) := (blk_cell BK152.out 0).trans rfl; have hcz6_1 : w5.cell? ⟨gb152, 1, none⟩ = some (.string a0_1) := (blk_cell BK152.out 1).trans rfl; have hfz6_0 := blk_frozen BK152.out 0; have hfz6_1 := blk_frozen BK152.out 1) | ((with_reducible refine gate_callee (f := 11) rfl ?_); refine goesL_ (some 5) rfl rfl Tryz.func11 (by kernel_rfl) rfl #[.string a0_0] rfl (by (try simp only [List.map_toArray, List.map_cons, List.map_nil]); first | done | rfl | (simp only [List.length_drop, List.length_take]; rfl)) ?_; (with_reducible refine (bloomeryref13_Pkg.calls k a0_0 true _ A2.out).mono ?_); rintro e w7 ⟨rfl, hb⟩; refine ⟨_, rfl, ?_⟩; have n0_ := Aside0.mk (blk_below (g := gb152) (o := .cells #[.string a0_0, .string a0_1] 23 (0, 0)) (by (with_reducible repeat (first | refine blk_drewN ?_ _ | refine blk_drew ?_ | refine blk_alloc ?_ _)); exact BK152.out) hb); have n1_ := Aside0.mk (below_step (by repeat (first | (with_reducible first | exact HB.out | apply below_alloc | apply pw_below_drewN | apply below_drew1 | refine below_set ?_ GE152.out) | exact HB.out)) hb); clear BK152; clear HB; have BK152 := n0_; have HB := n1_; clear n0_ n1_; (try clear hb); (try clear hb2); (try clear hk); (try clear hi); have hcz8_0 : w7.cell? ⟨gb152, 0, none⟩ = some (.string a0_0) := (blk_cell BK152.out 0).trans rfl; have hcz8_1 : w7.cell? ⟨gb152, 1, none⟩ = some (.string a0_1) := (blk_cell BK152.out 1).trans rfl; have hfz8_0 := blk_frozen BK152.out 0; have hfz8_1 := blk_frozen BK152.out 1) | (go_at_call 12; (with_reducible refine (bloomeryref13_Name.calls k a0_1 t154 _ A4.out).mono ?_); rintro e w' ⟨rfl, ⟨nd, rfl⟩⟩))
  go_ret
  exact ⟨by first | rfl | (simp [errW_none, errW_some] <;> rfl) | (simp [*, errW_none, errW_some] <;> rfl), by repeat (first | (with_reducible first | exact HB.out | apply below_alloc | apply pw_below_drewN | apply below_drew1 | refine below_set ?_ GE152.out) | exact HB.out)⟩
 ·replace c3 := Bool.eq_false_iff.mpr c3
  subst c3
  have H1 : (some false) = some r := by rw [if_neg (show ¬ (false = true) by decide)] at H; exact H
  clear H
  have H := H1
  clear H1
  obtain rfl := Option.some.inj H
  go_enter Tryz.func5, Tryz.ntmps5
  go_wp2_with (first | ((with_reducible refine gate_dst (N := 1) rfl ?_); refine box_event ?hg (N := 1) ?hd (cs := #[.string a0_0, .string a0_1]) (t := 23) ?hr ?_; (case hd => rfl); (case hg => rfl); (case hr => first | (go_simp; done) | (go_simp; rfl)); intro gb152 hg w9 hbox hb; have n0_ := Aside0.mk (below_step (by repeat (first | (with_reducible first | exact HB.out | apply below_alloc | apply pw_below_drewN | apply below_drew1) | exact HB.out)) hb); have n1_ := Aside0.mk (hbox); have n2_ := Aside0.mk ((by rw [hg]; exact (below_size (by repeat (first | (with_reducible first | exact HB.out | apply below_alloc | apply pw_below_drewN | apply below_drew1) | exact HB.out))) : w.heap.size ≤ gb152)); have n3_ := Aside0.mk ((by rw [hg]; exact (below_size (by repeat (first | (with_reducible first | exact HB.out | apply below_alloc | apply pw_below_drewN | apply below_drew1) | exact HB.out))) : w.heap.size ≤ gb152)); clear HB; have HB := n0_; have BK152 := n1_; have GW152 := n2_; have GE152 := n3_; clear n0_ n1_ n2_ n3_; clear hb hbox hg; have hcz10_0 : w9.cell? ⟨gb152, 0, none⟩ = some (.string a0_0) := (blk_cell BK152.out 0).trans rfl; have hcz10_1 : w9.cell? ⟨gb152, 1, none⟩ = some (.string a0_1) := (blk_cell BK152.out 1).trans rfl; have hfz10_0 := blk_frozen BK152.out 0; have hfz10_1 := blk_frozen BK152.out 1) | ((with_reducible refine gate_callee (f := 11) rfl ?_); refine goesL_ (some 5) rfl rfl Tryz.func11 (by kernel_rfl) rfl #[.string a0_0] rfl (by (try simp only [List.map_toArray, List.map_cons, List.map_nil]); first | done | rfl | (simp only [List.length_drop, List.length_take]; rfl)) ?_; (with_reducible refine (bloomeryref13_Pkg.calls k a0_0 false _ A2.out).mono ?_); rintro e w11 ⟨rfl, hb⟩; refine ⟨_, rfl, ?_⟩; have n0_ := Aside0.mk (blk_below (g := gb152) (o := .cells #[.string a0_0, .string a0_1] 23 (0, 0)) (by (with_reducible repeat (first | refine blk_drewN ?_ _ | refine blk_drew ?_ | refine blk_alloc ?_ _)); exact BK152.out) hb); have n1_ := Aside0.mk (below_step (by repeat (first | (with_reducible first | exact HB.out | apply below_alloc | apply pw_below_drewN | apply below_drew1 | refine below_set ?_ GE152.out) | exact HB.out)) hb); clear BK152; clear HB; have BK152 := n0_; have HB := n1_; clear n0_ n1_; (try clear hb); (try clear hb2); (try clear hk); (try clear hi)))
  go_ret
  exact ⟨by first | rfl | (simp [errW_none, errW_some] <;> rfl) | (simp [*, errW_none, errW_some] <;> rfl), by repeat (first | (with_reducible first | exact HB.out | apply below_alloc | apply pw_below_drewN | apply below_drew1 | refine below_set ?_ GE152.out) | exact HB.out)⟩

end Go.Proofs.YtikbddiogneheaaGreatDoor.G

/- What the reference's functions of layers 3 and 13 (as Lean functions) come to. No program's run. -/
namespace Go.Proofs.YtikbddiogneheaaGreatDoor.G
open Go.RowKit Go.Gw Go.Proofs.YtikbddiogneheaaGreatDoorW.PrintWords
set_option linter.unusedVariables false
set_option linter.unusedSimpArgs false

theorem signc_iff (c : UInt8) : Lb.signc c = true ↔ (97 ≤ c.toNat ∧ c.toNat ≤ 122) ∨ (65 ≤ c.toNat ∧ c.toNat ≤ 90) ∨ (48 ≤ c.toNat ∧ c.toNat ≤ 57) ∨ c.toNat = 95 ∨ c.toNat = 46 ∨ c.toNat = 45 ∨ c.toNat = 43 := by
  simp only [Lb.signc, Bool.or_eq_true, Bool.and_eq_true, decide_eq_true_eq, beq_iff_eq, ← UInt8.toNat_inj, or_assoc]
  rfl
set_option maxHeartbeats 4000000 in
theorem part_step (s : List UInt8) (i : Nat) (h : i < s.length) (hs : s.length ≤ 1000000) (k : Nat) :
    bloomeryref03_Part.l0 (k + 1) (B s) (i : Int) = if Lb.signc (s[i]'h) = true then bloomeryref03_Part.l0 k (B s) ((i + 1 : Nat) : Int) else some false := by
  have hb := bt_nat s i h
  have hw : wrap64 ((i : Int) + 1) = ((i + 1 : Nat) : Int) := by rw [w64 (by omega) (by omega)]; omega
  rw [bloomeryref03_Part.l0, hb, hw, if_pos (by rw [B_size]; omega), if_pos (by omega)]
  have HI := signc_iff (s[i]'h)
  generalize bloomeryref03_Part.l0 k (B s) ((i + 1 : Nat) : Int) = X
  generalize (s[i]'h) = c at HI
  by_cases hc : Lb.signc c = true
  · rw [if_pos hc]
    have hd := HI.1 hc
    clear HI hc hb hw
    repeat' split
    all_goals first | rfl | (exfalso; omega)
  · rw [if_neg hc]
    have hd : ¬ _ := fun hh => hc (HI.2 hh)
    clear HI hc hb hw
    repeat' split
    all_goals first | rfl | (exfalso; omega)
theorem part_loop (s : List UInt8) (hs : s.length ≤ 1000000) : ∀ (n i : Nat), i ≤ s.length → s.length - i ≤ n → Ev (fun k => bloomeryref03_Part.l0 k (B s) (i : Int)) ((s.drop i).all Lb.signc) := by
  intro n
  induction n with
  | zero =>
    intro i hi hn
    refine Ev.step (f := fun k => some true) (fun k => ?_) ?_
    · rw [bloomeryref03_Part.l0, if_neg (by rw [B_size]; omega)]
    · rw [List.drop_eq_nil_of_le (by omega)]
      exact Ev.now _
  | succ n ih =>
    intro i hi hn
    by_cases h : i < s.length
    · refine Ev.step (fun k => part_step s i h hs k) ?_
      rw [List.drop_eq_getElem_cons h, List.all_cons]
      by_cases hc : Lb.signc (s[i]'h) = true
      · rw [hc, Bool.true_and]
        exact Ev.pos rfl (ih (i + 1) h (by omega))
      · have hc' : Lb.signc (s[i]'h) = false := by simpa using hc
        rw [hc', Bool.false_and]
        exact Ev.neg (by decide) (Ev.now _)
    · refine Ev.step (f := fun k => some true) (fun k => ?_) ?_
      · rw [bloomeryref03_Part.l0, if_neg (by rw [B_size]; omega)]
      · rw [List.drop_eq_nil_of_le (by omega)]
        exact Ev.now _
theorem rpart_ev (s : List UInt8) (hs : s.length ≤ 1000000) : Ev (fun k => bloomeryref03_Part.f k (B s)) (Lb.part s) := by
  unfold bloomeryref03_Part.f Lb.part
  rw [B_toList, B_size]
  have hl := part_loop s hs s.length 0 (Nat.zero_le _) (by omega)
  by_cases h0 : s = []
  · refine Ev.pos h0 (Ev.step (f := fun k => some false) (fun k => by rw [bloomeryref03_Part.j0, if_pos rfl]) ?_)
    rw [h0]; exact Ev.now _
  · refine Ev.neg h0 ?_
    by_cases h1 : s = [46]
    · refine Ev.pos h1 (Ev.step (f := fun k => some false) (fun k => by rw [bloomeryref03_Part.j0, if_pos rfl]) ?_)
      rw [h1]; exact Ev.now _
    · refine Ev.neg h1 ?_
      by_cases h2 : s = [46, 46]
      · refine Ev.pos h2 (Ev.step (f := fun k => some false) (fun k => by rw [bloomeryref03_Part.j0, if_pos rfl]) ?_)
        rw [h2]; exact Ev.now _
      · refine Ev.neg h2 (Ev.step (f := fun k => if (decide ((s.length : Int) > 64)) = true then some false else bloomeryref03_Part.l0 k (B s) 0) (fun k => by rw [bloomeryref03_Part.j0]) ?_)
        by_cases h3 : s.length ≤ 64
        · refine Ev.neg (by simp; omega) ?_
          have e : (s != [] && decide (s.length ≤ 64) && s != [46] && s != [46, 46] && s.all Lb.signc) = s.all Lb.signc := by simp [h0, h1, h2, h3]
          rw [e]
          exact hl
        · refine Ev.pos (by simp; omega) ?_
          have e : (s != [] && decide (s.length ≤ 64) && s != [46] && s != [46, 46] && s.all Lb.signc) = false := by simp [h3]
          rw [e]
          exact Ev.now _
/-! ### Parts -/
def glue (cur : List UInt8) : List (List UInt8) → List (List UInt8)
  | [] => [cur]
  | p :: ps => (cur ++ p) :: ps
theorem rdOf_last (d : List (List UInt8)) (cur : List UInt8) : rdOf ByteArray.empty ((d ++ [cur]).map B) (d.length : Int) = B cur := by
  unfold rdOf
  simp
theorem set_last (d : List (List UInt8)) (cur x : List UInt8) : ((d ++ [cur]).map B).set d.length (B x) = (d ++ [x]).map B := by
  simp [List.set_append]
theorem parts_loop (s : List UInt8) (hs : s.length ≤ 1000000) : ∀ (n i : Nat) (d : List (List UInt8)) (cur : List UInt8), i ≤ s.length → s.length - i ≤ n → d.length ≤ i → cur.length ≤ i →
    Ev (fun k => bloomeryref03_Parts.l0 k (B s) ((d ++ [cur]).map B) (i : Int)) ((d ++ glue cur (Lb.parts (s.drop i))).map B) := by
  intro n
  induction n with
  | zero =>
    intro i d cur hi hn hd hcu
    refine Ev.step (f := fun k => some ((d ++ [cur]).map B)) (fun k => ?_) ?_
    · rw [bloomeryref03_Parts.l0, if_neg (by rw [B_size]; omega)]
    · rw [List.drop_eq_nil_of_le (by omega)]
      have e : glue cur (Lb.parts []) = [cur] := by simp [Lb.parts, glue]
      rw [e]
      exact Ev.now _
  | succ n ih =>
    intro i d cur hi hn hd hcu
    by_cases h : i < s.length
    · have hb := bt_nat s i h
      have hw : wrap64 ((i : Int) + 1) = ((i + 1 : Nat) : Int) := by rw [w64 (by omega) (by omega)]; omega
      have hl : (((d ++ [cur]).map B).length : Int) = (d.length : Int) + 1 := by simp
      have hm : wrap64 ((((d ++ [cur]).map B).length : Int) - 1) = (d.length : Int) := by rw [hl, w64 (by omega) (by omega)]; omega
      have ht : ((d.length : Nat) : Int).toNat = d.length := Int.toNat_natCast _
      rw [List.drop_eq_getElem_cons h]
      refine Ev.step (f := fun k => if (s[i]'h) = 47 then bloomeryref03_Parts.l0 k (B s) ((d ++ [cur] ++ [[]]).map B) ((i + 1 : Nat) : Int) else bloomeryref03_Parts.l0 k (B s) ((d ++ [cur ++ [s[i]'h]]).map B) ((i + 1 : Nat) : Int)) (fun k => ?_) ?_
      · rw [bloomeryref03_Parts.l0, if_pos (by rw [B_size]; omega), if_pos (by omega), hb, hw, hm, rdOf_last]
        by_cases hc : (s[i]'h) = 47
        · rw [if_pos hc, if_pos (by rw [hc]; rfl), if_pos (by simp; omega)]
          congr 1
          simp
          rfl
        · rw [if_neg hc, if_neg (fun e => hc (toNat_eq.1 (e.trans rfl))), if_pos (by omega), if_pos (by rw [hl]; omega), if_pos (by omega), if_pos (by rw [B_size]; omega)]
          have hx : (B s).extract ((i : Int)).toNat ((((i + 1 : Nat)) : Int)).toNat = B [s[i]'h] := by
            rw [Int.toNat_natCast, Int.toNat_natCast, B_ext, List.drop_eq_getElem_cons h, show i + 1 - i = 1 by omega]
            rfl
          rw [hx, if_pos (by rw [B_size, B_size]; simp; omega), B_app, ht, set_last]
      · by_cases hc : (s[i]'h) = 47
        · refine Ev.pos hc ?_
          have := ih (i + 1) (d ++ [cur]) [] h (by omega) (by simp; omega) (by simp)
          have e : d ++ glue cur (Lb.parts (s[i]'h :: s.drop (i + 1))) = d ++ [cur] ++ glue [] (Lb.parts (s.drop (i + 1))) := by
            rw [Lb.parts, if_pos hc]
            cases hp : Lb.parts (s.drop (i + 1)) with
            | nil => exact absurd hp (Lb.parts_ne _)
            | cons p ps => simp [glue]
          rw [e]
          exact this
        · refine Ev.neg hc ?_
          have := ih (i + 1) d (cur ++ [s[i]'h]) h (by omega) (by omega) (by simp; omega)
          have e : d ++ glue cur (Lb.parts (s[i]'h :: s.drop (i + 1))) = d ++ glue (cur ++ [s[i]'h]) (Lb.parts (s.drop (i + 1))) := by
            rw [Lb.parts, if_neg hc]
            cases hp : Lb.parts (s.drop (i + 1)) with
            | nil => exact absurd hp (Lb.parts_ne _)
            | cons p ps => simp [glue]
          rw [e]
          exact this
    · refine Ev.step (f := fun k => some ((d ++ [cur]).map B)) (fun k => ?_) ?_
      · rw [bloomeryref03_Parts.l0, if_neg (by rw [B_size]; omega)]
      · rw [List.drop_eq_nil_of_le (by omega)]
        have e : glue cur (Lb.parts []) = [cur] := by simp [Lb.parts, glue]
        rw [e]
        exact Ev.now _
theorem parts_ev (s : List UInt8) (hs : s.length ≤ 1000000) : Ev (fun k => bloomeryref03_Parts.f k (B s)) ((Lb.parts s).map B) := by
  have := parts_loop s hs s.length 0 [] [] (Nat.zero_le _) (by omega) (Nat.le_refl _) (Nat.le_refl _)
  have e : glue [] (Lb.parts s) = Lb.parts s := by
    cases hp : Lb.parts s with
    | nil => exact absurd hp (Lb.parts_ne _)
    | cons p ps => rfl
  simp only [List.drop_zero, List.nil_append, e] at this
  exact this
theorem parts_size : ∀ (s : List UInt8), ((Lb.parts s).length ≤ s.length + 1) ∧ ∀ x ∈ Lb.parts s, x.length ≤ s.length := by
  intro s
  induction s with
  | nil => simp [Lb.parts]
  | cons c r ih =>
    obtain ⟨h1, h2⟩ := ih
    unfold Lb.parts
    split
    · refine ⟨by simp; omega, ?_⟩
      intro x hx
      rcases List.mem_cons.1 hx with rfl | hx
      · simp
      · have := h2 x hx; simp; omega
    · cases hp : Lb.parts r with
      | nil => exact absurd hp (Lb.parts_ne _)
      | cons p ps =>
        rw [hp] at h1 h2
        refine ⟨by simp at h1 ⊢; omega, ?_⟩
        intro x hx
        simp only at hx
        rcases List.mem_cons.1 hx with rfl | hx
        · have := h2 p (by simp); simp; omega
        · have := h2 x (by simp [hx]); simp; omega
theorem rdOf_get (l : List (List UInt8)) (i : Nat) (h : i < l.length) : rdOf ByteArray.empty (l.map B) (i : Int) = B (l[i]'h) := by
  unfold rdOf
  simp [h]
theorem rmay_loop (l : List (List UInt8)) (hl : l.length ≤ 1000001) (hz : ∀ x ∈ l, x.length ≤ 1000000) : ∀ (n i : Nat), i ≤ l.length → l.length - i ≤ n →
    Ev (fun k => bloomeryref03_May.l0 k (l.map B) (i : Int)) ((l.drop i).all Lb.part && decide (l.length ≤ 16)) := by
  have hend : ∀ i, ¬ i < l.length → Ev (fun k => bloomeryref03_May.l0 k (l.map B) (i : Int)) ((l.drop i).all Lb.part && decide (l.length ≤ 16)) := by
    intro i h
    refine Ev.step (f := fun k => some (decide (l.length ≤ 16))) (fun k => ?_) ?_
    · rw [bloomeryref03_May.l0, if_neg (by simp; omega)]
      congr 1
      rw [Bool.eq_iff_iff, decide_eq_true_iff, decide_eq_true_iff, List.length_map]
      omega
    · rw [List.drop_eq_nil_of_le (by omega)]
      exact Ev.now _
  intro n
  induction n with
  | zero => exact fun i hi hn => hend i (by omega)
  | succ n ih =>
    intro i hi hn
    by_cases h : i < l.length
    · have hw : wrap64 ((i : Int) + 1) = ((i + 1 : Nat) : Int) := by rw [w64 (by omega) (by omega)]; omega
      refine Ev.step (f := fun k => (bloomeryref03_Part.f k (B (l[i]'h))).bind fun t => if t = true then bloomeryref03_May.l0 k (l.map B) ((i + 1 : Nat) : Int) else some false) (fun k => ?_) ?_
      · rw [bloomeryref03_May.l0, if_pos (by simp; omega), if_pos (by omega), rdOf_get l i h, hw]
      · refine Ev.bind (rpart_ev _ (hz _ (List.getElem_mem h))) ?_
        rw [List.drop_eq_getElem_cons h, List.all_cons]
        cases Lb.part (l[i]'h) with
        | true => exact Ev.pos rfl (ih (i + 1) h (by omega))
        | false => exact Ev.neg (by decide) (Ev.now _)
    · exact hend i h
theorem rmay_ev (s : List UInt8) (hs : s.length ≤ 1000000) : Ev (fun k => bloomeryref03_May.f k (B s)) (Lb.may s) := by
  unfold bloomeryref03_May.f
  refine Ev.bind (parts_ev s hs) ?_
  have hp := parts_size s
  have := rmay_loop (Lb.parts s) (by omega) (fun x hx => Nat.le_trans (hp.2 x hx) hs) _ 0 (Nat.zero_le _) (Nat.le_refl _)
  rw [List.drop_zero] at this
  unfold Lb.may
  rw [Bool.and_comm]
  exact this
/-! ### Layer 13 -/
theorem rname_ev (s : List UInt8) (hs : s.length ≤ 1000000) : Ev (fun k => bloomeryref13_Name.f k (B s)) (Lb.part s) := Ev.bind (rpart_ev s hs) (Ev.now _)
theorem rpkg_ev (s : List UInt8) (hs : s.length ≤ 1000000) : Ev (fun k => bloomeryref13_Pkg.f k (B s)) (Lb.pkg s) := by
  unfold bloomeryref13_Pkg.f Lb.pkg
  rw [B_toList]
  by_cases h0 : s = []
  · refine Ev.pos h0 ?_
    rw [h0]; exact Ev.now _
  · refine Ev.neg h0 ?_
    rw [beq_eq_false_iff_ne.2 h0, Bool.false_or]
    exact Ev.bind (rmay_ev s hs) (Ev.now _)
theorem rmayL_ev (p n : List UInt8) (hp : p.length ≤ 1000000) (hn : n.length ≤ 1000000) : Ev (fun k => bloomeryref13_May.f k (B p) (B n)) (Lb.mayL p n) := by
  unfold bloomeryref13_May.f Lb.mayL
  refine Ev.bind (rpkg_ev p hp) ?_
  cases Lb.pkg p with
  | true => exact Ev.pos rfl (Ev.bind (rname_ev n hn) (Ev.now _))
  | false => exact Ev.neg (by decide) (Ev.now _)
end Go.Proofs.YtikbddiogneheaaGreatDoor.G

/- Go functions as Lean functions, each with its contract: written by a program of mine over the kit's print. Conditions: each contract's own. -/
namespace Go.Proofs.YtikbddiogneheaaGreatDoor.G
open Go.RowKit Go.Proofs.YtikbddiogneheaaGreatDoorW.PrintWords Go.Proofs.YtikbddiogneheaaGreatDoorW.PrintLast Go.Proofs.YtikbddiogneheaaGreatDoorW.PrintMore
attribute [local go_sem] max2_int min2_int max_two min_two max_three min_three max_four min_four   -- for this text's walks alone
set_option linter.unusedVariables false
set_option linter.unusedSimpArgs false

/-! ### bloomerylaw13_alive: function 4 -/
def bloomerylaw13_alive.f (k : Nat)  : Option (Bool) := (label_Read.f k (⟨#[58, 120]⟩ : ByteArray) (⟨#[97, 47, 98]⟩ : ByteArray)).bind fun bt120 => ((label_Read.f k (⟨#[97, 58, 120]⟩ : ByteArray) (⟨#[98]⟩ : ByteArray)).bind fun bt124 => (if bt120.2.2 = 0 then ((label_Text.f bt120.1 bt120.2.1).bind fun t128 => (if t128.toList = ([47, 47, 97, 47, 98, 58, 120] : List UInt8) then (if bt124.2.2 = 3 then ((label_Sees.f (([(⟨#[47, 47, 97, 47, 46, 46, 46]⟩ : ByteArray)] : List ByteArray)) (⟨#[97, 47, 98]⟩ : ByteArray)).bind fun t132 => (if t132 = true then ((label_Sees.f (([(⟨#[47, 47, 97]⟩ : ByteArray)] : List ByteArray)) (⟨#[97, 47, 98]⟩ : ByteArray)).bind fun t136 => (some (!t136))) else (some false))) else (some false)) else (some false))) else (some false)))
set_option maxHeartbeats 8000000 in
set_option maxRecDepth 100000 in
theorem bloomerylaw13_alive.calls (k : Nat)  (r : Bool) (w : World) (h : bloomerylaw13_alive.f k  = some r) :
  Calls Tryz.prog 4 #[] w fun e w' => e = .returned (.bool r) ∧ Below w.heap.size w w' := by
 have hu23 := Tryz.underlying23
 have HB := Aside0.mk (Below.refl w.heap.size w)
 have H : ((label_Read.f k (⟨#[58, 120]⟩ : ByteArray) (⟨#[97, 47, 98]⟩ : ByteArray)).bind fun bt120 => ((label_Read.f k (⟨#[97, 58, 120]⟩ : ByteArray) (⟨#[98]⟩ : ByteArray)).bind fun bt124 => (if bt120.2.2 = 0 then ((label_Text.f bt120.1 bt120.2.1).bind fun t128 => (if t128.toList = ([47, 47, 97, 47, 98, 58, 120] : List UInt8) then (if bt124.2.2 = 3 then ((label_Sees.f (([(⟨#[47, 47, 97, 47, 46, 46, 46]⟩ : ByteArray)] : List ByteArray)) (⟨#[97, 47, 98]⟩ : ByteArray)).bind fun t132 => (if t132 = true then ((label_Sees.f (([(⟨#[47, 47, 97]⟩ : ByteArray)] : List ByteArray)) (⟨#[97, 47, 98]⟩ : ByteArray)).bind fun t136 => (some (!t136))) else (some false))) else (some false)) else (some false))) else (some false)))) = some r := h
 clear h
 replace H := Option.bind_eq_some_iff.mp H
 obtain ⟨⟨t120, t121, t122⟩, A10, H⟩ := H
 replace H : ((label_Read.f k (⟨#[97, 58, 120]⟩ : ByteArray) (⟨#[98]⟩ : ByteArray)).bind fun bt124 => (if t122 = 0 then ((label_Text.f t120 t121).bind fun t128 => (if t128.toList = ([47, 47, 97, 47, 98, 58, 120] : List UInt8) then (if bt124.2.2 = 3 then ((label_Sees.f (([(⟨#[47, 47, 97, 47, 46, 46, 46]⟩ : ByteArray)] : List ByteArray)) (⟨#[97, 47, 98]⟩ : ByteArray)).bind fun t132 => (if t132 = true then ((label_Sees.f (([(⟨#[47, 47, 97]⟩ : ByteArray)] : List ByteArray)) (⟨#[97, 47, 98]⟩ : ByteArray)).bind fun t136 => (some (!t136))) else (some false))) else (some false)) else (some false))) else (some false))) = some r := H
 have A1 := Aside0.mk A10
 clear A10
 replace H := Option.bind_eq_some_iff.mp H
 obtain ⟨⟨t124, t125, t126⟩, A20, H⟩ := H
 replace H : (if t122 = 0 then ((label_Text.f t120 t121).bind fun t128 => (if t128.toList = ([47, 47, 97, 47, 98, 58, 120] : List UInt8) then (if t126 = 3 then ((label_Sees.f (([(⟨#[47, 47, 97, 47, 46, 46, 46]⟩ : ByteArray)] : List ByteArray)) (⟨#[97, 47, 98]⟩ : ByteArray)).bind fun t132 => (if t132 = true then ((label_Sees.f (([(⟨#[47, 47, 97]⟩ : ByteArray)] : List ByteArray)) (⟨#[97, 47, 98]⟩ : ByteArray)).bind fun t136 => (some (!t136))) else (some false))) else (some false)) else (some false))) else (some false)) = some r := H
 have A2 := Aside0.mk A20
 clear A20
 by_cases c3 : t122 = 0
 ·rw [if_pos c3] at H
  have c3b0 : (t122 == 0) = true := beq_iff_eq.mpr c3
  have c3b1 : (t122 != 0) = false := bne_eq_false_iff_eq.mpr c3
  clear c3
  replace H := Option.bind_eq_some_iff.mp H
  obtain ⟨t128, A40, H⟩ := H
  replace H : (if t128.toList = ([47, 47, 97, 47, 98, 58, 120] : List UInt8) then (if t126 = 3 then ((label_Sees.f (([(⟨#[47, 47, 97, 47, 46, 46, 46]⟩ : ByteArray)] : List ByteArray)) (⟨#[97, 47, 98]⟩ : ByteArray)).bind fun t132 => (if t132 = true then ((label_Sees.f (([(⟨#[47, 47, 97]⟩ : ByteArray)] : List ByteArray)) (⟨#[97, 47, 98]⟩ : ByteArray)).bind fun t136 => (some (!t136))) else (some false))) else (some false)) else (some false)) = some r := H
  have A4 := Aside0.mk A40
  clear A40
  by_cases c5 : t128.toList = ([47, 47, 97, 47, 98, 58, 120] : List UInt8)
  ·rw [if_pos c5] at H
   have c5b0 : (t128.toList == ([47, 47, 97, 47, 98, 58, 120] : List UInt8)) = true := beq_iff_eq.mpr c5
   have c5b1 : (t128.toList != ([47, 47, 97, 47, 98, 58, 120] : List UInt8)) = false := bne_eq_false_iff_eq.mpr c5
   clear c5
   by_cases c6 : t126 = 3
   ·rw [if_pos c6] at H
    have c6b0 : (t126 == 3) = true := beq_iff_eq.mpr c6
    have c6b1 : (t126 != 3) = false := bne_eq_false_iff_eq.mpr c6
    clear c6
    obtain ⟨y129, hy129⟩ : ∃ y_ : List ByteArray, y_ = (([(⟨#[47, 47, 97, 47, 46, 46, 46]⟩ : ByteArray)] : List ByteArray)) := ⟨_, rfl⟩
    replace H : ((label_Sees.f y129 (⟨#[97, 47, 98]⟩ : ByteArray)).bind fun t132 => (if t132 = true then ((label_Sees.f (([(⟨#[47, 47, 97]⟩ : ByteArray)] : List ByteArray)) (⟨#[97, 47, 98]⟩ : ByteArray)).bind fun t136 => (some (!t136))) else (some false))) = some r := by first | (rw [hy129]; with_reducible exact H) | (have H2_ := (Option.bind_some _ _).symm.trans H; rw [hy129]; with_reducible exact H2_) | (have H2_ := (Option.bind_some _ _).symm.trans H; with_reducible exact H2_) | with_reducible exact H | (rw [hy129]; exact H) | exact H
    have Ny129 := Aside0.mk hy129
    clear hy129
    replace H := Option.bind_eq_some_iff.mp H
    obtain ⟨t132, A70, H⟩ := H
    replace H : (if t132 = true then ((label_Sees.f (([(⟨#[47, 47, 97]⟩ : ByteArray)] : List ByteArray)) (⟨#[97, 47, 98]⟩ : ByteArray)).bind fun t136 => (some (!t136))) else (some false)) = some r := H
    have A7 := Aside0.mk A70
    clear A70
    by_cases c8 : t132 = true
    ·subst c8
     have H1 : ((label_Sees.f (([(⟨#[47, 47, 97]⟩ : ByteArray)] : List ByteArray)) (⟨#[97, 47, 98]⟩ : ByteArray)).bind fun t136 => (some (!t136))) = some r := by rw [if_pos rfl] at H; exact H
     clear H
     have H := H1
     clear H1
     obtain ⟨y133, hy133⟩ : ∃ y_ : List ByteArray, y_ = (([(⟨#[47, 47, 97]⟩ : ByteArray)] : List ByteArray)) := ⟨_, rfl⟩
     replace H : ((label_Sees.f y133 (⟨#[97, 47, 98]⟩ : ByteArray)).bind fun t136 => (some (!t136))) = some r := by first | (rw [hy133]; with_reducible exact H) | (have H2_ := (Option.bind_some _ _).symm.trans H; rw [hy133]; with_reducible exact H2_) | (have H2_ := (Option.bind_some _ _).symm.trans H; with_reducible exact H2_) | with_reducible exact H | (rw [hy133]; exact H) | exact H
     have Ny133 := Aside0.mk hy133
     clear hy133
     replace H := Option.bind_eq_some_iff.mp H
     obtain ⟨t136, A90, H⟩ := H
     replace H : (some (!t136)) = some r := H
     have A9 := Aside0.mk A90
     clear A90
     obtain rfl := Option.some.inj H
     go_enter Tryz.func4, Tryz.ntmps4
     go_wp2_with (first | ((with_reducible refine gate_callee (f := 9) rfl ?_); refine goesL_ (some 6) rfl rfl Tryz.func9 (by kernel_rfl) rfl #[.string (⟨#[58, 120]⟩ : ByteArray), .string (⟨#[97, 47, 98]⟩ : ByteArray)] rfl (by (try simp only [List.map_toArray, List.map_cons, List.map_nil]); first | done | rfl | (simp only [List.length_drop, List.length_take]; rfl)) ?_; (with_reducible refine (label_Read.calls k (⟨#[58, 120]⟩ : ByteArray) (⟨#[97, 47, 98]⟩ : ByteArray) t120 t121 t122 _ A1.out).mono ?_); rintro e w10 ⟨rfl, hb⟩; refine ⟨_, rfl, ?_⟩; have n0_ := Aside0.mk (below_step (by repeat (first | (with_reducible first | exact HB.out | apply below_alloc | apply pw_below_drewN | apply below_drew1) | exact HB.out)) hb); clear HB; have HB := n0_; clear n0_; (try clear hb); (try clear hb2); (try clear hk); (try clear hi)) | ((with_reducible refine gate_dst (N := 1) rfl ?_); (try (refine gate_guard (by rfl) ?_; dsimp only)); refine box_event ?hg (N := 1) ?hd (cs := #[.string (⟨#[]⟩ : ByteArray), .string (⟨#[]⟩ : ByteArray)]) (t := 23) ?hr ?_; (case hd => rfl); (case hg => rfl); (case hr => first | (go_simp; done) | (go_simp; rfl)); intro gb123 hg w11 hbox hb; have n0_ := Aside0.mk (below_step (by repeat (first | (with_reducible first | exact HB.out | apply below_alloc | apply pw_below_drewN | apply below_drew1) | exact HB.out)) hb); have n1_ := Aside0.mk (hbox); have n2_ := Aside0.mk ((by rw [hg]; exact (below_size (by repeat (first | (with_reducible first | exact HB.out | apply below_alloc | apply pw_below_drewN | apply below_drew1) | exact HB.out))) : w.heap.size ≤ gb123)); have n3_ := Aside0.mk ((by rw [hg]; exact (below_size (by repeat (first | (with_reducible first | exact HB.out | apply below_alloc | apply pw_below_drewN | apply below_drew1) | exact HB.out))) : w.heap.size ≤ gb123)); clear HB; have HB := n0_; have BK123 := n1_; have GW123 := n2_; have GE123 := n3_; clear n0_ n1_ n2_ n3_; clear hb hbox hg; have hcz12_0 : w11.cell? ⟨gb123, 0, none⟩ = some (.string (⟨#[]⟩ : ByteArray)) := (blk_cell BK123.out 0).trans rfl; have hcz12_1 : w11.cell? ⟨gb123, 1, none⟩ = some (.string (⟨#[]⟩ : ByteArray)) := (blk_cell BK123.out 1).trans rfl; have hfz12_0 := blk_frozen BK123.out 0; have hfz12_1 := blk_frozen BK123.out 1) | ((with_reducible refine gate_callee (f := 9) rfl ?_); refine goesL_ (some 10) rfl rfl Tryz.func9 (by kernel_rfl) rfl #[.string (⟨#[97, 58, 120]⟩ : ByteArray), .string (⟨#[98]⟩ : ByteArray)] rfl (by (try simp only [List.map_toArray, List.map_cons, List.map_nil]); first | done | rfl | (simp only [List.length_drop, List.length_take]; rfl)) ?_; (with_reducible refine (label_Read.calls k (⟨#[97, 58, 120]⟩ : ByteArray) (⟨#[98]⟩ : ByteArray) t124 t125 t126 _ A2.out).mono ?_); rintro e w13 ⟨rfl, hb⟩; refine ⟨_, rfl, ?_⟩; have n0_ := Aside0.mk (blk_below (g := gb123) (o := .cells #[.string t120, .string t121] 23 (0, 0)) (by (with_reducible repeat (first | refine blk_drewN ?_ _ | refine blk_drew ?_ | refine blk_alloc ?_ _)); refine blk_put (cs := #[.string t120, .string (⟨#[]⟩ : ByteArray)]) ?_ 1 _ rfl; (with_reducible repeat (first | refine blk_drewN ?_ _ | refine blk_drew ?_ | refine blk_alloc ?_ _)); refine blk_put (cs := #[.string (⟨#[]⟩ : ByteArray), .string (⟨#[]⟩ : ByteArray)]) ?_ 0 _ rfl; (with_reducible repeat (first | refine blk_drewN ?_ _ | refine blk_drew ?_ | refine blk_alloc ?_ _)); exact BK123.out) hb); have n1_ := Aside0.mk (below_step (by repeat (first | (with_reducible first | exact HB.out | apply below_alloc | apply pw_below_drewN | apply below_drew1 | refine below_set ?_ GE123.out) | exact HB.out)) hb); clear BK123; clear HB; have BK123 := n0_; have HB := n1_; clear n0_ n1_; (try clear hb); (try clear hb2); (try clear hk); (try clear hi)) | ((with_reducible refine gate_dst (N := 3) rfl ?_); (try (refine gate_guard (by rfl) ?_; dsimp only)); refine box_event ?hg (N := 3) ?hd (cs := #[.string (⟨#[]⟩ : ByteArray), .string (⟨#[]⟩ : ByteArray)]) (t := 23) ?hr ?_; (case hd => rfl); (case hg => rfl); (case hr => first | (go_simp; done) | (go_simp; rfl)); intro gb127 hg w14 hbox hb; have n0_ := Aside0.mk (blk_below (g := gb123) (o := .cells #[.string t120, .string t121] 23 (0, 0)) (by (with_reducible repeat (first | refine blk_drewN ?_ _ | refine blk_drew ?_ | refine blk_alloc ?_ _)); exact BK123.out) hb); have n1_ := Aside0.mk (below_step (by repeat (first | (with_reducible first | exact HB.out | apply below_alloc | apply pw_below_drewN | apply below_drew1 | refine below_set ?_ GE123.out) | exact HB.out)) hb); have n2_ := Aside0.mk (hbox); have n3_ := Aside0.mk ((by rw [hg]; exact (below_size (by repeat (first | (with_reducible first | exact HB.out | apply below_alloc | apply pw_below_drewN | apply below_drew1 | refine below_set ?_ GE123.out) | exact HB.out))) : w.heap.size ≤ gb127)); have n4_ := Aside0.mk ((by rw [hg]; exact (below_size (by repeat (first | (with_reducible first | exact HB.out | apply below_alloc | apply pw_below_drewN | apply below_drew1 | refine below_set ?_ GE123.out) | exact HB.out))) : w.heap.size ≤ gb127)); have n5_ := Aside0.mk ((by rw [hg]; exact Nat.ne_of_lt (blk_lt (g := gb123) (o := .cells #[.string t120, .string t121] 23 (0, 0)) (by (with_reducible repeat (first | refine blk_drewN ?_ _ | refine blk_drew ?_ | refine blk_alloc ?_ _)); exact BK123.out)) : gb123 ≠ gb127)); have n6_ := Aside0.mk ((by rw [hg]; exact Nat.ne_of_gt (blk_lt (g := gb123) (o := .cells #[.string t120, .string t121] 23 (0, 0)) (by (with_reducible repeat (first | refine blk_drewN ?_ _ | refine blk_drew ?_ | refine blk_alloc ?_ _)); exact BK123.out)) : gb127 ≠ gb123)); clear BK123; clear HB; have BK123 := n0_; have HB := n1_; have BK127 := n2_; have GW127 := n3_; have GE127 := n4_; have NB123_127 := n5_; have NB127_123 := n6_; clear n0_ n1_ n2_ n3_ n4_ n5_ n6_; clear hb hbox hg; have hnb15 := NB127_123.out; have hnc15 := NB123_127.out; have hcz16_0 : w14.cell? ⟨gb127, 0, none⟩ = some (.string (⟨#[]⟩ : ByteArray)) := (blk_cell BK127.out 0).trans rfl; have hcz16_1 : w14.cell? ⟨gb127, 1, none⟩ = some (.string (⟨#[]⟩ : ByteArray)) := (blk_cell BK127.out 1).trans rfl; have hfz16_0 := blk_frozen BK127.out 0; have hfz16_1 := blk_frozen BK127.out 1; have hcz17_0 : w14.cell? ⟨gb123, 0, none⟩ = some (.string t120) := (blk_cell BK123.out 0).trans rfl; have hcz17_1 : w14.cell? ⟨gb123, 1, none⟩ = some (.string t121) := (blk_cell BK123.out 1).trans rfl; have hfz17_0 := blk_frozen BK123.out 0; have hfz17_1 := blk_frozen BK123.out 1) | (go_at_call 8; (with_reducible refine (label_Text.calls t120 t121 t128 _ A4.out).mono ?_); rintro e w18 ⟨rfl, hb⟩; have n0_ := Aside0.mk (blk_below (g := gb123) (o := .cells #[.string t120, .string t121] 23 (0, 0)) (by (with_reducible repeat (first | refine blk_drewN ?_ _ | refine blk_drew ?_ | refine blk_alloc ?_ _)); refine blk_far ?_ NB123_127.out _; (with_reducible repeat (first | refine blk_drewN ?_ _ | refine blk_drew ?_ | refine blk_alloc ?_ _)); refine blk_far ?_ NB123_127.out _; (with_reducible repeat (first | refine blk_drewN ?_ _ | refine blk_drew ?_ | refine blk_alloc ?_ _)); exact BK123.out) hb); have n1_ := Aside0.mk (blk_below (g := gb127) (o := .cells #[.string t124, .string t125] 23 (0, 0)) (by (with_reducible repeat (first | refine blk_drewN ?_ _ | refine blk_drew ?_ | refine blk_alloc ?_ _)); refine blk_put (cs := #[.string t124, .string (⟨#[]⟩ : ByteArray)]) ?_ 1 _ rfl; (with_reducible repeat (first | refine blk_drewN ?_ _ | refine blk_drew ?_ | refine blk_alloc ?_ _)); refine blk_put (cs := #[.string (⟨#[]⟩ : ByteArray), .string (⟨#[]⟩ : ByteArray)]) ?_ 0 _ rfl; (with_reducible repeat (first | refine blk_drewN ?_ _ | refine blk_drew ?_ | refine blk_alloc ?_ _)); exact BK127.out) hb); have n2_ := Aside0.mk (below_step (by repeat (first | (with_reducible first | exact HB.out | apply below_alloc | apply pw_below_drewN | apply below_drew1 | refine below_set ?_ GE123.out | refine below_set ?_ GE127.out) | exact HB.out)) hb); clear BK123; clear BK127; clear HB; have BK123 := n0_; have BK127 := n1_; have HB := n2_; clear n0_ n1_ n2_; (try clear hb); (try clear hb2); (try clear hk); (try clear hi)) | ((with_reducible refine gate_dst (N := 25) rfl ?_); (try (refine gate_guard (by rfl) ?_; dsimp only)); refine Kd.R_lit Kd.string _ 9 ?hg (N := 25) ?hd (xs := ([(⟨#[47, 47, 97, 47, 46, 46, 46]⟩ : ByteArray)] : List ByteArray)) (inner := [.string (⟨#[47, 47, 97, 47, 46, 46, 46]⟩ : ByteArray)]) (ok := fun _ => True) (okp := fun _ => True) ?hr ?hp (fun _ hk => hk) trivial (Below.refl _ _) (Nat.le_refl _) (by simp) ?_; (case hd => rfl); (case hg => rfl); (case hr => first | (go_simp; done) | (go_simp; rfl)); (case hp => exact (Reps.one (show Kd.M Kd.string _ _ _ (⟨#[47, 47, 97, 47, 46, 46, 46]⟩ : ByteArray) [.string (⟨#[47, 47, 97, 47, 46, 46, 46]⟩ : ByteArray)] from rfl) (Reps.none _ _))); intro v130 w19 ho20 hb hg_ hnew_; clear hg_ hnew_; (first | rw [← Ny129.out] at ho20 | (simp only [Int.reduceToNat] at ho20; rw [← Ny129.out] at ho20)); have n0_ := Aside0.mk (Kd.R_lower ho20 (below_size (by repeat (first | (with_reducible first | exact HB.out | apply below_alloc | apply pw_below_drewN | apply below_drew1 | refine below_set ?_ GE123.out | refine below_set ?_ GE127.out) | exact HB.out)))); have n1_ := Aside0.mk (blk_below (g := gb123) (o := .cells #[.string t120, .string t121] 23 (0, 0)) (by (with_reducible repeat (first | refine blk_drewN ?_ _ | refine blk_drew ?_ | refine blk_alloc ?_ _)); exact BK123.out) hb); have n2_ := Aside0.mk (blk_below (g := gb127) (o := .cells #[.string t124, .string t125] 23 (0, 0)) (by (with_reducible repeat (first | refine blk_drewN ?_ _ | refine blk_drew ?_ | refine blk_alloc ?_ _)); exact BK127.out) hb); have n3_ := Aside0.mk (below_step (by repeat (first | (with_reducible first | exact HB.out | apply below_alloc | apply pw_below_drewN | apply below_drew1 | refine below_set ?_ GE123.out | refine below_set ?_ GE127.out) | exact HB.out)) hb); clear BK123; clear BK127; clear HB; have HO131 := n0_; have BK123 := n1_; have BK127 := n2_; have HB := n3_; clear n0_ n1_ n2_ n3_; clear hb ho20; obtain ⟨Ao21, co21, eo21⟩ := Kd.R_slice HO131.out; subst eo21) | (go_at_call 10; (with_reducible refine (label_Sees.calls _ _ y129 (⟨#[97, 47, 98]⟩ : ByteArray) true _ ?side1 ?side2 A7.out).mono ?_); (case side1 => repeat (first | exact (Kd.R_reads' HO131.out).2.2 | (with_reducible refine Kd.C_alloc ?_ _) | (with_reducible refine Kd.C_drewN ?_ _) | (with_reducible refine Kd.C_drew ?_))); (case side2 => exact (Kd.R_reads' HO131.out).2.1); rintro e w22 ⟨rfl, hb⟩; have n0_ := Aside0.mk (Kd.R_below (by (with_reducible repeat (first | apply Kd.R_alloc | apply Kd.R_drewN | apply Kd.R_drew)); exact HO131.out) hb); have n1_ := Aside0.mk (blk_below (g := gb123) (o := .cells #[.string t120, .string t121] 23 (0, 0)) (by (with_reducible repeat (first | refine blk_drewN ?_ _ | refine blk_drew ?_ | refine blk_alloc ?_ _)); exact BK123.out) hb); have n2_ := Aside0.mk (blk_below (g := gb127) (o := .cells #[.string t124, .string t125] 23 (0, 0)) (by (with_reducible repeat (first | refine blk_drewN ?_ _ | refine blk_drew ?_ | refine blk_alloc ?_ _)); exact BK127.out) hb); have n3_ := Aside0.mk (below_step (by repeat (first | (with_reducible first | exact HB.out | apply below_alloc | apply pw_below_drewN | apply below_drew1 | refine below_set ?_ GE123.out | refine below_set ?_ GE127.out) | exact HB.out)) hb); clear HO131; clear BK123; clear BK127; clear HB; have HO131 := n0_; have BK123 := n1_; have BK127 := n2_; have HB := n3_; clear n0_ n1_ n2_ n3_; (try clear hb); (try clear hb2); (try clear hk); (try clear hi)) | ((with_reducible refine gate_dst (N := 29) rfl ?_); (try (refine gate_guard (by rfl) ?_; dsimp only)); refine Kd.R_lit Kd.string _ 9 ?hg (N := 29) ?hd (xs := ([(⟨#[47, 47, 97]⟩ : ByteArray)] : List ByteArray)) (inner := [.string (⟨#[47, 47, 97]⟩ : ByteArray)]) (ok := fun _ => True) (okp := fun _ => True) ?hr ?hp (fun _ hk => hk) trivial (Below.refl _ _) (Nat.le_refl _) (by simp) ?_; (case hd => rfl); (case hg => rfl); (case hr => first | (go_simp; done) | (go_simp; rfl)); (case hp => exact (Reps.one (show Kd.M Kd.string _ _ _ (⟨#[47, 47, 97]⟩ : ByteArray) [.string (⟨#[47, 47, 97]⟩ : ByteArray)] from rfl) (Reps.none _ _))); intro v134 w23 ho24 hb hg_ hnew_; clear hg_ hnew_; (first | rw [← Ny133.out] at ho24 | (simp only [Int.reduceToNat] at ho24; rw [← Ny133.out] at ho24)); have n0_ := Aside0.mk (Kd.R_elder' (by (with_reducible repeat (first | apply Kd.R_alloc | apply Kd.R_drewN | apply Kd.R_drew)); exact HO131.out) (Kd.R_base ho24) hb); have n1_ := Aside0.mk (Kd.R_lower (Kd.R_new' ho24 (Kd.R_lt (by (with_reducible repeat (first | apply Kd.R_alloc | apply Kd.R_drewN | apply Kd.R_drew)); exact HO131.out))) (below_size (by repeat (first | (with_reducible first | exact HB.out | apply below_alloc | apply pw_below_drewN | apply below_drew1 | refine below_set ?_ GE123.out | refine below_set ?_ GE127.out) | exact HB.out)))); have n2_ := Aside0.mk (blk_below (g := gb123) (o := .cells #[.string t120, .string t121] 23 (0, 0)) (by (with_reducible repeat (first | refine blk_drewN ?_ _ | refine blk_drew ?_ | refine blk_alloc ?_ _)); exact BK123.out) hb); have n3_ := Aside0.mk (blk_below (g := gb127) (o := .cells #[.string t124, .string t125] 23 (0, 0)) (by (with_reducible repeat (first | refine blk_drewN ?_ _ | refine blk_drew ?_ | refine blk_alloc ?_ _)); exact BK127.out) hb); have n4_ := Aside0.mk (below_step (by repeat (first | (with_reducible first | exact HB.out | apply below_alloc | apply pw_below_drewN | apply below_drew1 | refine below_set ?_ GE123.out | refine below_set ?_ GE127.out) | exact HB.out)) hb); clear HO131; clear BK123; clear BK127; clear HB; have HO131 := n0_; have HO135 := n1_; have BK123 := n2_; have BK127 := n3_; have HB := n4_; clear n0_ n1_ n2_ n3_ n4_; clear hb ho24; obtain ⟨Ao25, co25, eo25⟩ := Kd.R_slice HO135.out; subst eo25) | (go_at_call 10; (with_reducible refine (label_Sees.calls _ _ y133 (⟨#[97, 47, 98]⟩ : ByteArray) t136 _ ?side1 ?side2 A9.out).mono ?_); (case side1 => repeat (first | exact (Kd.R_reads' HO135.out).2.2 | (with_reducible refine Kd.C_alloc ?_ _) | (with_reducible refine Kd.C_drewN ?_ _) | (with_reducible refine Kd.C_drew ?_))); (case side2 => exact (Kd.R_reads' HO135.out).2.1); rintro e w26 ⟨rfl, hb⟩; have n0_ := Aside0.mk (Kd.R_below (by (with_reducible repeat (first | apply Kd.R_alloc | apply Kd.R_drewN | apply Kd.R_drew)); exact HO131.out) hb); have n1_ := Aside0.mk (Kd.R_below (by (with_reducible repeat (first | apply Kd.R_alloc | apply Kd.R_drewN | apply Kd.R_drew)); exact HO135.out) hb); have n2_ := Aside0.mk (blk_below (g := gb123) (o := .cells #[.string t120, .string t121] 23 (0, 0)) (by (with_reducible repeat (first | refine blk_drewN ?_ _ | refine blk_drew ?_ | refine blk_alloc ?_ _)); exact BK123.out) hb); have n3_ := Aside0.mk (blk_below (g := gb127) (o := .cells #[.string t124, .string t125] 23 (0, 0)) (by (with_reducible repeat (first | refine blk_drewN ?_ _ | refine blk_drew ?_ | refine blk_alloc ?_ _)); exact BK127.out) hb); have n4_ := Aside0.mk (below_step (by repeat (first | (with_reducible first | exact HB.out | apply below_alloc | apply pw_below_drewN | apply below_drew1 | refine below_set ?_ GE123.out | refine below_set ?_ GE127.out) | exact HB.out)) hb); clear HO131; clear HO135; clear BK123; clear BK127; clear HB; have HO131 := n0_; have HO135 := n1_; have BK123 := n2_; have BK127 := n3_; have HB := n4_; clear n0_ n1_ n2_ n3_ n4_; (try clear hb); (try clear hb2); (try clear hk); (try clear hi)))
     go_ret
     exact ⟨by first | rfl | (simp [errW_none, errW_some] <;> rfl) | (simp [*, errW_none, errW_some] <;> rfl), by repeat (first | (with_reducible first | exact HB.out | apply below_alloc | apply pw_below_drewN | apply below_drew1 | refine below_set ?_ GE123.out | refine below_set ?_ GE127.out) | exact HB.out)⟩
    ·replace c8 := Bool.eq_false_iff.mpr c8
     subst c8
     have H1 : (some false) = some r := by rw [if_neg (show ¬ (false = true) by decide)] at H; exact H
     clear H
     have H := H1
     clear H1
     obtain rfl := Option.some.inj H
     go_enter Tryz.func4, Tryz.ntmps4
     go_wp2_with (first | ((with_reducible refine gate_callee (f := 9) rfl ?_); refine goesL_ (some 6) rfl rfl Tryz.func9 (by kernel_rfl) rfl #[.string (⟨#[58, 120]⟩ : ByteArray), .string (⟨#[97, 47, 98]⟩ : ByteArray)] rfl (by (try simp only [List.map_toArray, List.map_cons, List.map_nil]); first | done | rfl | (simp only [List.length_drop, List.length_take]; rfl)) ?_; (with_reducible refine (label_Read.calls k (⟨#[58, 120]⟩ : ByteArray) (⟨#[97, 47, 98]⟩ : ByteArray) t120 t121 t122 _ A1.out).mono ?_); rintro e w27 ⟨rfl, hb⟩; refine ⟨_, rfl, ?_⟩; have n0_ := Aside0.mk (below_step (by repeat (first | (with_reducible first | exact HB.out | apply below_alloc | apply pw_below_drewN | apply below_drew1) | exact HB.out)) hb); clear HB; have HB := n0_; clear n0_; (try clear hb); (try clear hb2); (try clear hk); (try clear hi)) | ((with_reducible refine gate_dst (N := 1) rfl ?_); (try (refine gate_guard (by rfl) ?_; dsimp only)); refine box_event ?hg (N := 1) ?hd (cs := #[.string (⟨#[]⟩ : ByteArray), .string (⟨#[]⟩ : ByteArray)]) (t := 23) ?hr ?_; (case hd => rfl); (case hg => rfl); (case hr => first | (go_simp; done) | (go_simp; rfl)); intro gb123 hg w28 hbox hb; have n0_ := Aside0.mk (below_step (by repeat (first | (with_reducible first | exact HB.out | apply below_alloc | apply pw_below_drewN | apply below_drew1) | exact HB.out)) hb); have n1_ := Aside0.mk (hbox); have n2_ := Aside0.mk ((by rw [hg]; exact (below_size (by repeat (first | (with_reducible first | exact HB.out | apply below_alloc | apply pw_below_drewN | apply below_drew1) | exact HB.out))) : w.heap.size ≤ gb123)); have n3_ := Aside0.mk ((by rw [hg]; exact (below_size (by repeat (first | (with_reducible first | exact HB.out | apply below_alloc | apply pw_below_drewN | apply below_drew1) | exact HB.out))) : w.heap.size ≤ gb123)); clear HB; have HB := n0_; have BK123 := n1_; have GW123 := n2_; have GE123 := n3_; clear n0_ n1_ n2_ n3_; clear hb hbox hg; have hcz29_0 : w28.cell? ⟨gb123, 0, none⟩ = some (.string (⟨#[]⟩ : ByteArray)) := (blk_cell BK123.out 0).trans rfl; have hcz29_1 : w28.cell? ⟨gb123, 1, none⟩ = some (.string (⟨#[]⟩ : ByteArray)) := (blk_cell BK123.out 1).trans rfl; have hfz29_0 := blk_frozen BK123.out 0; have hfz29_1 := blk_frozen BK123.out 1) | ((with_reducible refine gate_callee (f := 9) rfl ?_); refine goesL_ (some 10) rfl rfl Tryz.func9 (by kernel_rfl) rfl #[.string (⟨#[97, 58, 120]⟩ : ByteArray), .string (⟨#[98]⟩ : ByteArray)] rfl (by (try simp only [List.map_toArray, List.map_cons, List.map_nil]); first | done | rfl | (simp only [List.length_drop, List.length_take]; rfl)) ?_; (with_reducible refine (label_Read.calls k (⟨#[97, 58, 120]⟩ : ByteArray) (⟨#[98]⟩ : ByteArray) t124 t125 t126 _ A2.out).mono ?_); rintro e w30 ⟨rfl, hb⟩; refine ⟨_, rfl, ?_⟩; have n0_ := Aside0.mk (blk_below (g := gb123) (o := .cells #[.string t120, .string t121] 23 (0, 0)) (by (with_reducible repeat (first | refine blk_drewN ?_ _ | refine blk_drew ?_ | refine blk_alloc ?_ _)); refine blk_put (cs := #[.string t120, .string (⟨#[]⟩ : ByteArray)]) ?_ 1 _ rfl; (with_reducible repeat (first | refine blk_drewN ?_ _ | refine blk_drew ?_ | refine blk_alloc ?_ _)); refine blk_put (cs := #[.string (⟨#[]⟩ : ByteArray), .string (⟨#[]⟩ : ByteArray)]) ?_ 0 _ rfl; (with_reducible repeat (first | refine blk_drewN ?_ _ | refine blk_drew ?_ | refine blk_alloc ?_ _)); exact BK123.out) hb); have n1_ := Aside0.mk (below_step (by repeat (first | (with_reducible first | exact HB.out | apply below_alloc | apply pw_below_drewN | apply below_drew1 | refine below_set ?_ GE123.out) | exact HB.out)) hb); clear BK123; clear HB; have BK123 := n0_; have HB := n1_; clear n0_ n1_; (try clear hb); (try clear hb2); (try clear hk); (try clear hi)) | ((with_reducible refine gate_dst (N := 3) rfl ?_); (try (refine gate_guard (by rfl) ?_; dsimp only)); refine box_event ?hg (N := 3) ?hd (cs := #[.string (⟨#[]⟩ : ByteArray), .string (⟨#[]⟩ : ByteArray)]) (t := 23) ?hr ?_; (case hd => rfl); (case hg => rfl); (case hr => first | (go_simp; done) | (go_simp; rfl)); intro gb127 hg w31 hbox hb; have n0_ := Aside0.mk (blk_below (g := gb123) (o := .cells #[.string t120, .string t121] 23 (0, 0)) (by (with_reducible repeat (first | refine blk_drewN ?_ _ | refine blk_drew ?_ | refine blk_alloc ?_ _)); exact BK123.out) hb); have n1_ := Aside0.mk (below_step (by repeat (first | (with_reducible first | exact HB.out | apply below_alloc | apply pw_below_drewN | apply below_drew1 | refine below_set ?_ GE123.out) | exact HB.out)) hb); have n2_ := Aside0.mk (hbox); have n3_ := Aside0.mk ((by rw [hg]; exact (below_size (by repeat (first | (with_reducible first | exact HB.out | apply below_alloc | apply pw_below_drewN | apply below_drew1 | refine below_set ?_ GE123.out) | exact HB.out))) : w.heap.size ≤ gb127)); have n4_ := Aside0.mk ((by rw [hg]; exact (below_size (by repeat (first | (with_reducible first | exact HB.out | apply below_alloc | apply pw_below_drewN | apply below_drew1 | refine below_set ?_ GE123.out) | exact HB.out))) : w.heap.size ≤ gb127)); have n5_ := Aside0.mk ((by rw [hg]; exact Nat.ne_of_lt (blk_lt (g := gb123) (o := .cells #[.string t120, .string t121] 23 (0, 0)) (by (with_reducible repeat (first | refine blk_drewN ?_ _ | refine blk_drew ?_ | refine blk_alloc ?_ _)); exact BK123.out)) : gb123 ≠ gb127)); have n6_ := Aside0.mk ((by rw [hg]; exact Nat.ne_of_gt (blk_lt (g := gb123) (o := .cells #[.string t120, .string t121] 23 (0, 0)) (by (with_reducible repeat (first | refine blk_drewN ?_ _ | refine blk_drew ?_ | refine blk_alloc ?_ _)); exact BK123.out)) : gb127 ≠ gb123)); clear BK123; clear HB; have BK123 := n0_; have HB := n1_; have BK127 := n2_; have GW127 := n3_; have GE127 := n4_; have NB123_127 := n5_; have NB127_123 := n6_; clear n0_ n1_ n2_ n3_ n4_ n5_ n6_; clear hb hbox hg; have hnb32 := NB127_123.out; have hnc32 := NB123_127.out; have hcz33_0 : w31.cell? ⟨gb127, 0, none⟩ = some (.string (⟨#[]⟩ : ByteArray)) := (blk_cell BK127.out 0).trans rfl; have hcz33_1 : w31.cell? ⟨gb127, 1, none⟩ = some (.string (⟨#[]⟩ : ByteArray)) := (blk_cell BK127.out 1).trans rfl; have hfz33_0 := blk_frozen BK127.out 0; have hfz33_1 := blk_frozen BK127.out 1; have hcz34_0 : w31.cell? ⟨gb123, 0, none⟩ = some (.string t120) := (blk_cell BK123.out 0).trans rfl; have hcz34_1 : w31.cell? ⟨gb123, 1, none⟩ = some (.string t121) := (blk_cell BK123.out 1).trans rfl; have hfz34_0 := blk_frozen BK123.out 0; have hfz34_1 := blk_frozen BK123.out 1) | (go_at_call 8; (with_reducible refine (label_Text.calls t120 t121 t128 _ A4.out).mono ?_); rintro e w35 ⟨rfl, hb⟩; have n0_ := Aside0.mk (blk_below (g := gb123) (o := .cells #[.string t120, .string t121] 23 (0, 0)) (by (with_reducible repeat (first | refine blk_drewN ?_ _ | refine blk_drew ?_ | refine blk_alloc ?_ _)); refine blk_far ?_ NB123_127.out _; (with_reducible repeat (first | refine blk_drewN ?_ _ | refine blk_drew ?_ | refine blk_alloc ?_ _)); refine blk_far ?_ NB123_127.out _; (with_reducible repeat (first | refine blk_drewN ?_ _ | refine blk_drew ?_ | refine blk_alloc ?_ _)); exact BK123.out) hb); have n1_ := Aside0.mk (blk_below (g := gb127) (o := .cells #[.string t124, .string t125] 23 (0, 0)) (by (with_reducible repeat (first | refine blk_drewN ?_ _ | refine blk_drew ?_ | refine blk_alloc ?_ _)); refine blk_put (cs := #[.string t124, .string (⟨#[]⟩ : ByteArray)]) ?_ 1 _ rfl; (with_reducible repeat (first | refine blk_drewN ?_ _ | refine blk_drew ?_ | refine blk_alloc ?_ _)); refine blk_put (cs := #[.string (⟨#[]⟩ : ByteArray), .string (⟨#[]⟩ : ByteArray)]) ?_ 0 _ rfl; (with_reducible repeat (first | refine blk_drewN ?_ _ | refine blk_drew ?_ | refine blk_alloc ?_ _)); exact BK127.out) hb); have n2_ := Aside0.mk (below_step (by repeat (first | (with_reducible first | exact HB.out | apply below_alloc | apply pw_below_drewN | apply below_drew1 | refine below_set ?_ GE123.out | refine below_set ?_ GE127.out) | exact HB.out)) hb); clear BK123; clear BK127; clear HB; have BK123 := n0_; have BK127 := n1_; have HB := n2_; clear n0_ n1_ n2_; (try clear hb); (try clear hb2); (try clear hk); (try clear hi)) | ((with_reducible refine gate_dst (N := 25) rfl ?_); (try (refine gate_guard (by rfl) ?_; dsimp only)); refine Kd.R_lit Kd.string _ 9 ?hg (N := 25) ?hd (xs := ([(⟨#[47, 47, 97, 47, 46, 46, 46]⟩ : ByteArray)] : List ByteArray)) (inner := [.string (⟨#[47, 47, 97, 47, 46, 46, 46]⟩ : ByteArray)]) (ok := fun _ => True) (okp := fun _ => True) ?hr ?hp (fun _ hk => hk) trivial (Below.refl _ _) (Nat.le_refl _) (by simp) ?_; (case hd => rfl); (case hg => rfl); (case hr => first | (go_simp; done) | (go_simp; rfl)); (case hp => exact (Reps.one (show Kd.M Kd.string _ _ _ (⟨#[47, 47, 97, 47, 46, 46, 46]⟩ : ByteArray) [.string (⟨#[47, 47, 97, 47, 46, 46, 46]⟩ : ByteArray)] from rfl) (Reps.none _ _))); intro v130 w36 ho37 hb hg_ hnew_; clear hg_ hnew_; (first | rw [← Ny129.out] at ho37 | (simp only [Int.reduceToNat] at ho37; rw [← Ny129.out] at ho37)); have n0_ := Aside0.mk (Kd.R_lower ho37 (below_size (by repeat (first | (with_reducible first | exact HB.out | apply below_alloc | apply pw_below_drewN | apply below_drew1 | refine below_set ?_ GE123.out | refine below_set ?_ GE127.out) | exact HB.out)))); have n1_ := Aside0.mk (blk_below (g := gb123) (o := .cells #[.string t120, .string t121] 23 (0, 0)) (by (with_reducible repeat (first | refine blk_drewN ?_ _ | refine blk_drew ?_ | refine blk_alloc ?_ _)); exact BK123.out) hb); have n2_ := Aside0.mk (blk_below (g := gb127) (o := .cells #[.string t124, .string t125] 23 (0, 0)) (by (with_reducible repeat (first | refine blk_drewN ?_ _ | refine blk_drew ?_ | refine blk_alloc ?_ _)); exact BK127.out) hb); have n3_ := Aside0.mk (below_step (by repeat (first | (with_reducible first | exact HB.out | apply below_alloc | apply pw_below_drewN | apply below_drew1 | refine below_set ?_ GE123.out | refine below_set ?_ GE127.out) | exact HB.out)) hb); clear BK123; clear BK127; clear HB; have HO131 := n0_; have BK123 := n1_; have BK127 := n2_; have HB := n3_; clear n0_ n1_ n2_ n3_; clear hb ho37; obtain ⟨Ao38, co38, eo38⟩ := Kd.R_slice HO131.out; subst eo38) | (go_at_call 10; (with_reducible refine (label_Sees.calls _ _ y129 (⟨#[97, 47, 98]⟩ : ByteArray) false _ ?side1 ?side2 A7.out).mono ?_); (case side1 => repeat (first | exact (Kd.R_reads' HO131.out).2.2 | (with_reducible refine Kd.C_alloc ?_ _) | (with_reducible refine Kd.C_drewN ?_ _) | (with_reducible refine Kd.C_drew ?_))); (case side2 => exact (Kd.R_reads' HO131.out).2.1); rintro e w39 ⟨rfl, hb⟩; have n0_ := Aside0.mk (Kd.R_below (by (with_reducible repeat (first | apply Kd.R_alloc | apply Kd.R_drewN | apply Kd.R_drew)); exact HO131.out) hb); have n1_ := Aside0.mk (blk_below (g := gb123) (o := .cells #[.string t120, .string t121] 23 (0, 0)) (by (with_reducible repeat (first | refine blk_drewN ?_ _ | refine blk_drew ?_ | refine blk_alloc ?_ _)); exact BK123.out) hb); have n2_ := Aside0.mk (blk_below (g := gb127) (o := .cells #[.string t124, .string t125] 23 (0, 0)) (by (with_reducible repeat (first | refine blk_drewN ?_ _ | refine blk_drew ?_ | refine blk_alloc ?_ _)); exact BK127.out) hb); have n3_ := Aside0.mk (below_step (by repeat (first | (with_reducible first | exact HB.out | apply below_alloc | apply pw_below_drewN | apply below_drew1 | refine below_set ?_ GE123.out | refine below_set ?_ GE127.out) | exact HB.out)) hb); clear HO131; clear BK123; clear BK127; clear HB; have HO131 := n0_; have BK123 := n1_; have BK127 := n2_; have HB := n3_; clear n0_ n1_ n2_ n3_; (try clear hb); (try clear hb2); (try clear hk); (try clear hi)))
     go_ret
     exact ⟨by first | rfl | (simp [errW_none, errW_some] <;> rfl) | (simp [*, errW_none, errW_some] <;> rfl), by repeat (first | (with_reducible first | exact HB.out | apply below_alloc | apply pw_below_drewN | apply below_drew1 | refine below_set ?_ GE123.out | refine below_set ?_ GE127.out) | exact HB.out)⟩
   ·rw [if_neg c6] at H
    have c6b0 : (t126 == 3) = false := beq_eq_false_iff_ne.mpr c6
    have c6b1 : (t126 != 3) = true := bne_iff_ne.mpr c6
    obtain rfl := Option.some.inj H
    go_enter Tryz.func4, Tryz.ntmps4
    go_wp2_with (first | ((with_reducible refine gate_callee (f := 9) rfl ?_); refine goesL_ (some 6) rfl rfl Tryz.func9 (by kernel_rfl) rfl #[.string (⟨#[58, 120]⟩ : ByteArray), .string (⟨#[97, 47, 98]⟩ : ByteArray)] rfl (by (try simp only [List.map_toArray, List.map_cons, List.map_nil]); first | done | rfl | (simp only [List.length_drop, List.length_take]; rfl)) ?_; (with_reducible refine (label_Read.calls k (⟨#[58, 120]⟩ : ByteArray) (⟨#[97, 47, 98]⟩ : ByteArray) t120 t121 t122 _ A1.out).mono ?_); rintro e w40 ⟨rfl, hb⟩; refine ⟨_, rfl, ?_⟩; have n0_ := Aside0.mk (below_step (by repeat (first | (with_reducible first | exact HB.out | apply below_alloc | apply pw_below_drewN | apply below_drew1) | exact HB.out)) hb); clear HB; have HB := n0_; clear n0_; (try clear hb); (try clear hb2); (try clear hk); (try clear hi)) | ((with_reducible refine gate_dst (N := 1) rfl ?_); (try (refine gate_guard (by rfl) ?_; dsimp only)); refine box_event ?hg (N := 1) ?hd (cs := #[.string (⟨#[]⟩ : ByteArray), .string (⟨#[]⟩ : ByteArray)]) (t := 23) ?hr ?_; (case hd => rfl); (case hg => rfl); (case hr => first | (go_simp; done) | (go_simp; rfl)); intro gb123 hg w41 hbox hb; have n0_ := Aside0.mk (below_step (by repeat (first | (with_reducible first | exact HB.out | apply below_alloc | apply pw_below_drewN | apply below_drew1) | exact HB.out)) hb); have n1_ := Aside0.mk (hbox); have n2_ := Aside0.mk ((by rw [hg]; exact (below_size (by repeat (first | (with_reducible first | exact HB.out | apply below_alloc | apply pw_below_drewN | apply below_drew1) | exact HB.out))) : w.heap.size ≤ gb123)); have n3_ := Aside0.mk ((by rw [hg]; exact (below_size (by repeat (first | (with_reducible first | exact HB.out | apply below_alloc | apply pw_below_drewN | apply below_drew1) | exact HB.out))) : w.heap.size ≤ gb123)); clear HB; have HB := n0_; have BK123 := n1_; have GW123 := n2_; have GE123 := n3_; clear n0_ n1_ n2_ n3_; clear hb hbox hg; have hcz42_0 : w41.cell? ⟨gb123, 0, none⟩ = some (.string (⟨#[]⟩ : ByteArray)) := (blk_cell BK123.out 0).trans rfl; have hcz42_1 : w41.cell? ⟨gb123, 1, none⟩ = some (.string (⟨#[]⟩ : ByteArray)) := (blk_cell BK123.out 1).trans rfl; have hfz42_0 := blk_frozen BK123.out 0; have hfz42_1 := blk_frozen BK123.out 1) | ((with_reducible refine gate_callee (f := 9) rfl ?_); refine goesL_ (some 10) rfl rfl Tryz.func9 (by kernel_rfl) rfl #[.string (⟨#[97, 58, 120]⟩ : ByteArray), .string (⟨#[98]⟩ : ByteArray)] rfl (by (try simp only [List.map_toArray, List.map_cons, List.map_nil]); first | done | rfl | (simp only [List.length_drop, List.length_take]; rfl)) ?_; (with_reducible refine (label_Read.calls k (⟨#[97, 58, 120]⟩ : ByteArray) (⟨#[98]⟩ : ByteArray) t124 t125 t126 _ A2.out).mono ?_); rintro e w43 ⟨rfl, hb⟩; refine ⟨_, rfl, ?_⟩; have n0_ := Aside0.mk (blk_below (g := gb123) (o := .cells #[.string t120, .string t121] 23 (0, 0)) (by (with_reducible repeat (first | refine blk_drewN ?_ _ | refine blk_drew ?_ | refine blk_alloc ?_ _)); refine blk_put (cs := #[.string t120, .string (⟨#[]⟩ : ByteArray)]) ?_ 1 _ rfl; (with_reducible repeat (first | refine blk_drewN ?_ _ | refine blk_drew ?_ | refine blk_alloc ?_ _)); refine blk_put (cs := #[.string (⟨#[]⟩ : ByteArray), .string (⟨#[]⟩ : ByteArray)]) ?_ 0 _ rfl; (with_reducible repeat (first | refine blk_drewN ?_ _ | refine blk_drew ?_ | refine blk_alloc ?_ _)); exact BK123.out) hb); have n1_ := Aside0.mk (below_step (by repeat (first | (with_reducible first | exact HB.out | apply below_alloc | apply pw_below_drewN | apply below_drew1 | refine below_set ?_ GE123.out) | exact HB.out)) hb); clear BK123; clear HB; have BK123 := n0_; have HB := n1_; clear n0_ n1_; (try clear hb); (try clear hb2); (try clear hk); (try clear hi)) | ((with_reducible refine gate_dst (N := 3) rfl ?_); (try (refine gate_guard (by rfl) ?_; dsimp only)); refine box_event ?hg (N := 3) ?hd (cs := #[.string (⟨#[]⟩ : ByteArray), .string (⟨#[]⟩ : ByteArray)]) (t := 23) ?hr ?_; (case hd => rfl); (case hg => rfl); (case hr => first | (go_simp; done) | (go_simp; rfl)); intro gb127 hg w44 hbox hb; have n0_ := Aside0.mk (blk_below (g := gb123) (o := .cells #[.string t120, .string t121] 23 (0, 0)) (by (with_reducible repeat (first | refine blk_drewN ?_ _ | refine blk_drew ?_ | refine blk_alloc ?_ _)); exact BK123.out) hb); have n1_ := Aside0.mk (below_step (by repeat (first | (with_reducible first | exact HB.out | apply below_alloc | apply pw_below_drewN | apply below_drew1 | refine below_set ?_ GE123.out) | exact HB.out)) hb); have n2_ := Aside0.mk (hbox); have n3_ := Aside0.mk ((by rw [hg]; exact (below_size (by repeat (first | (with_reducible first | exact HB.out | apply below_alloc | apply pw_below_drewN | apply below_drew1 | refine below_set ?_ GE123.out) | exact HB.out))) : w.heap.size ≤ gb127)); have n4_ := Aside0.mk ((by rw [hg]; exact (below_size (by repeat (first | (with_reducible first | exact HB.out | apply below_alloc | apply pw_below_drewN | apply below_drew1 | refine below_set ?_ GE123.out) | exact HB.out))) : w.heap.size ≤ gb127)); have n5_ := Aside0.mk ((by rw [hg]; exact Nat.ne_of_lt (blk_lt (g := gb123) (o := .cells #[.string t120, .string t121] 23 (0, 0)) (by (with_reducible repeat (first | refine blk_drewN ?_ _ | refine blk_drew ?_ | refine blk_alloc ?_ _)); exact BK123.out)) : gb123 ≠ gb127)); have n6_ := Aside0.mk ((by rw [hg]; exact Nat.ne_of_gt (blk_lt (g := gb123) (o := .cells #[.string t120, .string t121] 23 (0, 0)) (by (with_reducible repeat (first | refine blk_drewN ?_ _ | refine blk_drew ?_ | refine blk_alloc ?_ _)); exact BK123.out)) : gb127 ≠ gb123)); clear BK123; clear HB; have BK123 := n0_; have HB := n1_; have BK127 := n2_; have GW127 := n3_; have GE127 := n4_; have NB123_127 := n5_; have NB127_123 := n6_; clear n0_ n1_ n2_ n3_ n4_ n5_ n6_; clear hb hbox hg; have hnb45 := NB127_123.out; have hnc45 := NB123_127.out; have hcz46_0 : w44.cell? ⟨gb127, 0, none⟩ = some (.string (⟨#[]⟩ : ByteArray)) := (blk_cell BK127.out 0).trans rfl; have hcz46_1 : w44.cell? ⟨gb127, 1, none⟩ = some (.string (⟨#[]⟩ : ByteArray)) := (blk_cell BK127.out 1).trans rfl; have hfz46_0 := blk_frozen BK127.out 0; have hfz46_1 := blk_frozen BK127.out 1; have hcz47_0 : w44.cell? ⟨gb123, 0, none⟩ = some (.string t120) := (blk_cell BK123.out 0).trans rfl; have hcz47_1 : w44.cell? ⟨gb123, 1, none⟩ = some (.string t121) := (blk_cell BK123.out 1).trans rfl; have hfz47_0 := blk_frozen BK123.out 0; have hfz47_1 := blk_frozen BK123.out 1) | (go_at_call 8; (with_reducible refine (label_Text.calls t120 t121 t128 _ A4.out).mono ?_); rintro e w48 ⟨rfl, hb⟩; have n0_ := Aside0.mk (blk_below (g := gb123) (o := .cells #[.string t120, .string t121] 23 (0, 0)) (by (with_reducible repeat (first | refine blk_drewN ?_ _ | refine blk_drew ?_ | refine blk_alloc ?_ _)); refine blk_far ?_ NB123_127.out _; (with_reducible repeat (first | refine blk_drewN ?_ _ | refine blk_drew ?_ | refine blk_alloc ?_ _)); refine blk_far ?_ NB123_127.out _; (with_reducible repeat (first | refine blk_drewN ?_ _ | refine blk_drew ?_ | refine blk_alloc ?_ _)); exact BK123.out) hb); have n1_ := Aside0.mk (blk_below (g := gb127) (o := .cells #[.string t124, .string t125] 23 (0, 0)) (by (with_reducible repeat (first | refine blk_drewN ?_ _ | refine blk_drew ?_ | refine blk_alloc ?_ _)); refine blk_put (cs := #[.string t124, .string (⟨#[]⟩ : ByteArray)]) ?_ 1 _ rfl; (with_reducible repeat (first | refine blk_drewN ?_ _ | refine blk_drew ?_ | refine blk_alloc ?_ _)); refine blk_put (cs := #[.string (⟨#[]⟩ : ByteArray), .string (⟨#[]⟩ : ByteArray)]) ?_ 0 _ rfl; (with_reducible repeat (first | refine blk_drewN ?_ _ | refine blk_drew ?_ | refine blk_alloc ?_ _)); exact BK127.out) hb); have n2_ := Aside0.mk (below_step (by repeat (first | (with_reducible first | exact HB.out | apply below_alloc | apply pw_below_drewN | apply below_drew1 | refine below_set ?_ GE123.out | refine below_set ?_ GE127.out) | exact HB.out)) hb); clear BK123; clear BK127; clear HB; have BK123 := n0_; have BK127 := n1_; have HB := n2_; clear n0_ n1_ n2_; (try clear hb); (try clear hb2); (try clear hk); (try clear hi)))
    go_ret
    exact ⟨by first | rfl | (simp [errW_none, errW_some] <;> rfl) | (simp [*, errW_none, errW_some] <;> rfl), by repeat (first | (with_reducible first | exact HB.out | apply below_alloc | apply pw_below_drewN | apply below_drew1 | refine below_set ?_ GE123.out | refine below_set ?_ GE127.out) | exact HB.out)⟩
  ·rw [if_neg c5] at H
   have c5b0 : (t128.toList == ([47, 47, 97, 47, 98, 58, 120] : List UInt8)) = false := beq_eq_false_iff_ne.mpr c5
   have c5b1 : (t128.toList != ([47, 47, 97, 47, 98, 58, 120] : List UInt8)) = true := bne_iff_ne.mpr c5
   obtain rfl := Option.some.inj H
   go_enter Tryz.func4, Tryz.ntmps4
   go_wp2_with (first | ((with_reducible refine gate_callee (f := 9) rfl ?_); refine goesL_ (some 6) rfl rfl Tryz.func9 (by kernel_rfl) rfl #[.string (⟨#[58, 120]⟩ : ByteArray), .string (⟨#[97, 47, 98]⟩ : ByteArray)] rfl (by (try simp only [List.map_toArray, List.map_cons, List.map_nil]); first | done | rfl | (simp only [List.length_drop, List.length_take]; rfl)) ?_; (with_reducible refine (label_Read.calls k (⟨#[58, 120]⟩ : ByteArray) (⟨#[97, 47, 98]⟩ : ByteArray) t120 t121 t122 _ A1.out).mono ?_); rintro e w49 ⟨rfl, hb⟩; refine ⟨_, rfl, ?_⟩; have n0_ := Aside0.mk (below_step (by repeat (first | (with_reducible first | exact HB.out | apply below_alloc | apply pw_below_drewN | apply below_drew1) | exact HB.out)) hb); clear HB; have HB := n0_; clear n0_; (try clear hb); (try clear hb2); (try clear hk); (try clear hi)) | ((with_reducible refine gate_dst (N := 1) rfl ?_); (try (refine gate_guard (by rfl) ?_; dsimp only)); refine box_event ?hg (N := 1) ?hd (cs := #[.string (⟨#[]⟩ : ByteArray), .string (⟨#[]⟩ : ByteArray)]) (t := 23) ?hr ?_; (case hd => rfl); (case hg => rfl); (case hr => first | (go_simp; done) | (go_simp; rfl)); intro gb123 hg w50 hbox hb; have n0_ := Aside0.mk (below_step (by repeat (first | (with_reducible first | exact HB.out | apply below_alloc | apply pw_below_drewN | apply below_drew1) | exact HB.out)) hb); have n1_ := Aside0.mk (hbox); have n2_ := Aside0.mk ((by rw [hg]; exact (below_size (by repeat (first | (with_reducible first | exact HB.out | apply below_alloc | apply pw_below_drewN | apply below_drew1) | exact HB.out))) : w.heap.size ≤ gb123)); have n3_ := Aside0.mk ((by rw [hg]; exact (below_size (by repeat (first | (with_reducible first | exact HB.out | apply below_alloc | apply pw_below_drewN | apply below_drew1) | exact HB.out))) : w.heap.size ≤ gb123)); clear HB; have HB := n0_; have BK123 := n1_; have GW123 := n2_; have GE123 := n3_; clear n0_ n1_ n2_ n3_; clear hb hbox hg; have hcz51_0 : w50.cell? ⟨gb123, 0, none⟩ = some (.string (⟨#[]⟩ : ByteArray)) := (blk_cell BK123.out 0).trans rfl; have hcz51_1 : w50.cell? ⟨gb123, 1, none⟩ = some (.string (⟨#[]⟩ : ByteArray)) := (blk_cell BK123.out 1).trans rfl; have hfz51_0 := blk_frozen BK123.out 0; have hfz51_1 := blk_frozen BK123.out 1) | ((with_reducible refine gate_callee (f := 9) rfl ?_); refine goesL_ (some 10) rfl rfl Tryz.func9 (by kernel_rfl) rfl #[.string (⟨#[97, 58, 120]⟩ : ByteArray), .string (⟨#[98]⟩ : ByteArray)] rfl (by (try simp only [List.map_toArray, List.map_cons, List.map_nil]); first | done | rfl | (simp only [List.length_drop, List.length_take]; rfl)) ?_; (with_reducible refine (label_Read.calls k (⟨#[97, 58, 120]⟩ : ByteArray) (⟨#[98]⟩ : ByteArray) t124 t125 t126 _ A2.out).mono ?_); rintro e w52 ⟨rfl, hb⟩; refine ⟨_, rfl, ?_⟩; have n0_ := Aside0.mk (blk_below (g := gb123) (o := .cells #[.string t120, .string t121] 23 (0, 0)) (by (with_reducible repeat (first | refine blk_drewN ?_ _ | refine blk_drew ?_ | refine blk_alloc ?_ _)); refine blk_put (cs := #[.string t120, .string (⟨#[]⟩ : ByteArray)]) ?_ 1 _ rfl; (with_reducible repeat (first | refine blk_drewN ?_ _ | refine blk_drew ?_ | refine blk_alloc ?_ _)); refine blk_put (cs := #[.string (⟨#[]⟩ : ByteArray), .string (⟨#[]⟩ : ByteArray)]) ?_ 0 _ rfl; (with_reducible repeat (first | refine blk_drewN ?_ _ | refine blk_drew ?_ | refine blk_alloc ?_ _)); exact BK123.out) hb); have n1_ := Aside0.mk (below_step (by repeat (first | (with_reducible first | exact HB.out | apply below_alloc | apply pw_below_drewN | apply below_drew1 | refine below_set ?_ GE123.out) | exact HB.out)) hb); clear BK123; clear HB; have BK123 := n0_; have HB := n1_; clear n0_ n1_; (try clear hb); (try clear hb2); (try clear hk); (try clear hi)) | ((with_reducible refine gate_dst (N := 3) rfl ?_); (try (refine gate_guard (by rfl) ?_; dsimp only)); refine box_event ?hg (N := 3) ?hd (cs := #[.string (⟨#[]⟩ : ByteArray), .string (⟨#[]⟩ : ByteArray)]) (t := 23) ?hr ?_; (case hd => rfl); (case hg => rfl); (case hr => first | (go_simp; done) | (go_simp; rfl)); intro gb127 hg w53 hbox hb; have n0_ := Aside0.mk (blk_below (g := gb123) (o := .cells #[.string t120, .string t121] 23 (0, 0)) (by (with_reducible repeat (first | refine blk_drewN ?_ _ | refine blk_drew ?_ | refine blk_alloc ?_ _)); exact BK123.out) hb); have n1_ := Aside0.mk (below_step (by repeat (first | (with_reducible first | exact HB.out | apply below_alloc | apply pw_below_drewN | apply below_drew1 | refine below_set ?_ GE123.out) | exact HB.out)) hb); have n2_ := Aside0.mk (hbox); have n3_ := Aside0.mk ((by rw [hg]; exact (below_size (by repeat (first | (with_reducible first | exact HB.out | apply below_alloc | apply pw_below_drewN | apply below_drew1 | refine below_set ?_ GE123.out) | exact HB.out))) : w.heap.size ≤ gb127)); have n4_ := Aside0.mk ((by rw [hg]; exact (below_size (by repeat (first | (with_reducible first | exact HB.out | apply below_alloc | apply pw_below_drewN | apply below_drew1 | refine below_set ?_ GE123.out) | exact HB.out))) : w.heap.size ≤ gb127)); have n5_ := Aside0.mk ((by rw [hg]; exact Nat.ne_of_lt (blk_lt (g := gb123) (o := .cells #[.string t120, .string t121] 23 (0, 0)) (by (with_reducible repeat (first | refine blk_drewN ?_ _ | refine blk_drew ?_ | refine blk_alloc ?_ _)); exact BK123.out)) : gb123 ≠ gb127)); have n6_ := Aside0.mk ((by rw [hg]; exact Nat.ne_of_gt (blk_lt (g := gb123) (o := .cells #[.string t120, .string t121] 23 (0, 0)) (by (with_reducible repeat (first | refine blk_drewN ?_ _ | refine blk_drew ?_ | refine blk_alloc ?_ _)); exact BK123.out)) : gb127 ≠ gb123)); clear BK123; clear HB; have BK123 := n0_; have HB := n1_; have BK127 := n2_; have GW127 := n3_; have GE127 := n4_; have NB123_127 := n5_; have NB127_123 := n6_; clear n0_ n1_ n2_ n3_ n4_ n5_ n6_; clear hb hbox hg; have hnb54 := NB127_123.out; have hnc54 := NB123_127.out; have hcz55_0 : w53.cell? ⟨gb127, 0, none⟩ = some (.string (⟨#[]⟩ : ByteArray)) := (blk_cell BK127.out 0).trans rfl; have hcz55_1 : w53.cell? ⟨gb127, 1, none⟩ = some (.string (⟨#[]⟩ : ByteArray)) := (blk_cell BK127.out 1).trans rfl; have hfz55_0 := blk_frozen BK127.out 0; have hfz55_1 := blk_frozen BK127.out 1; have hcz56_0 : w53.cell? ⟨gb123, 0, none⟩ = some (.string t120) := (blk_cell BK123.out 0).trans rfl; have hcz56_1 : w53.cell? ⟨gb123, 1, none⟩ = some (.string t121) := (blk_cell BK123.out 1).trans rfl; have hfz56_0 := blk_frozen BK123.out 0; have hfz56_1 := blk_frozen BK123.out 1) | (go_at_call 8; (with_reducible refine (label_Text.calls t120 t121 t128 _ A4.out).mono ?_); rintro e w57 ⟨rfl, hb⟩; have n0_ := Aside0.mk (blk_below (g := gb123) (o := .cells #[.string t120, .string t121] 23 (0, 0)) (by (with_reducible repeat (first | refine blk_drewN ?_ _ | refine blk_drew ?_ | refine blk_alloc ?_ _)); refine blk_far ?_ NB123_127.out _; (with_reducible repeat (first | refine blk_drewN ?_ _ | refine blk_drew ?_ | refine blk_alloc ?_ _)); refine blk_far ?_ NB123_127.out _; (with_reducible repeat (first | refine blk_drewN ?_ _ | refine blk_drew ?_ | refine blk_alloc ?_ _)); exact BK123.out) hb); have n1_ := Aside0.mk (blk_below (g := gb127) (o := .cells #[.string t124, .string t125] 23 (0, 0)) (by (with_reducible repeat (first | refine blk_drewN ?_ _ | refine blk_drew ?_ | refine blk_alloc ?_ _)); refine blk_put (cs := #[.string t124, .string (⟨#[]⟩ : ByteArray)]) ?_ 1 _ rfl; (with_reducible repeat (first | refine blk_drewN ?_ _ | refine blk_drew ?_ | refine blk_alloc ?_ _)); refine blk_put (cs := #[.string (⟨#[]⟩ : ByteArray), .string (⟨#[]⟩ : ByteArray)]) ?_ 0 _ rfl; (with_reducible repeat (first | refine blk_drewN ?_ _ | refine blk_drew ?_ | refine blk_alloc ?_ _)); exact BK127.out) hb); have n2_ := Aside0.mk (below_step (by repeat (first | (with_reducible first | exact HB.out | apply below_alloc | apply pw_below_drewN | apply below_drew1 | refine below_set ?_ GE123.out | refine below_set ?_ GE127.out) | exact HB.out)) hb); clear BK123; clear BK127; clear HB; have BK123 := n0_; have BK127 := n1_; have HB := n2_; clear n0_ n1_ n2_; (try clear hb); (try clear hb2); (try clear hk); (try clear hi)))
   go_ret
   exact ⟨by first | rfl | (simp [errW_none, errW_some] <;> rfl) | (simp [*, errW_none, errW_some] <;> rfl), by repeat (first | (with_reducible first | exact HB.out | apply below_alloc | apply pw_below_drewN | apply below_drew1 | refine below_set ?_ GE123.out | refine below_set ?_ GE127.out) | exact HB.out)⟩
 ·rw [if_neg c3] at H
  have c3b0 : (t122 == 0) = false := beq_eq_false_iff_ne.mpr c3
  have c3b1 : (t122 != 0) = true := bne_iff_ne.mpr c3
  obtain rfl := Option.some.inj H
  go_enter Tryz.func4, Tryz.ntmps4
  go_wp2_with (first | ((with_reducible refine gate_callee (f := 9) rfl ?_); refine goesL_ (some 6) rfl rfl Tryz.func9 (by kernel_rfl) rfl #[.string (⟨#[58, 120]⟩ : ByteArray), .string (⟨#[97, 47, 98]⟩ : ByteArray)] rfl (by (try simp only [List.map_toArray, List.map_cons, List.map_nil]); first | done | rfl | (simp only [List.length_drop, List.length_take]; rfl)) ?_; (with_reducible refine (label_Read.calls k (⟨#[58, 120]⟩ : ByteArray) (⟨#[97, 47, 98]⟩ : ByteArray) t120 t121 t122 _ A1.out).mono ?_); rintro e w58 ⟨rfl, hb⟩; refine ⟨_, rfl, ?_⟩; have n0_ := Aside0.mk (below_step (by repeat (first | (with_reducible first | exact HB.out | apply below_alloc | apply pw_below_drewN | apply below_drew1) | exact HB.out)) hb); clear HB; have HB := n0_; clear n0_; (try clear hb); (try clear hb2); (try clear hk); (try clear hi)) | ((with_reducible refine gate_dst (N := 1) rfl ?_); (try (refine gate_guard (by rfl) ?_; dsimp only)); refine box_event ?hg (N := 1) ?hd (cs := #[.string (⟨#[]⟩ : ByteArray), .string (⟨#[]⟩ : ByteArray)]) (t := 23) ?hr ?_; (case hd => rfl); (case hg => rfl); (case hr => first | (go_simp; done) | (go_simp; rfl)); intro gb123 hg w59 hbox hb; have n0_ := Aside0.mk (below_step (by repeat (first | (with_reducible first | exact HB.out | apply below_alloc | apply pw_below_drewN | apply below_drew1) | exact HB.out)) hb); have n1_ := Aside0.mk (hbox); have n2_ := Aside0.mk ((by rw [hg]; exact (below_size (by repeat (first | (with_reducible first | exact HB.out | apply below_alloc | apply pw_below_drewN | apply below_drew1) | exact HB.out))) : w.heap.size ≤ gb123)); have n3_ := Aside0.mk ((by rw [hg]; exact (below_size (by repeat (first | (with_reducible first | exact HB.out | apply below_alloc | apply pw_below_drewN | apply below_drew1) | exact HB.out))) : w.heap.size ≤ gb123)); clear HB; have HB := n0_; have BK123 := n1_; have GW123 := n2_; have GE123 := n3_; clear n0_ n1_ n2_ n3_; clear hb hbox hg; have hcz60_0 : w59.cell? ⟨gb123, 0, none⟩ = some (.string (⟨#[]⟩ : ByteArray)) := (blk_cell BK123.out 0).trans rfl; have hcz60_1 : w59.cell? ⟨gb123, 1, none⟩ = some (.string (⟨#[]⟩ : ByteArray)) := (blk_cell BK123.out 1).trans rfl; have hfz60_0 := blk_frozen BK123.out 0; have hfz60_1 := blk_frozen BK123.out 1) | ((with_reducible refine gate_callee (f := 9) rfl ?_); refine goesL_ (some 10) rfl rfl Tryz.func9 (by kernel_rfl) rfl #[.string (⟨#[97, 58, 120]⟩ : ByteArray), .string (⟨#[98]⟩ : ByteArray)] rfl (by (try simp only [List.map_toArray, List.map_cons, List.map_nil]); first | done | rfl | (simp only [List.length_drop, List.length_take]; rfl)) ?_; (with_reducible refine (label_Read.calls k (⟨#[97, 58, 120]⟩ : ByteArray) (⟨#[98]⟩ : ByteArray) t124 t125 t126 _ A2.out).mono ?_); rintro e w61 ⟨rfl, hb⟩; refine ⟨_, rfl, ?_⟩; have n0_ := Aside0.mk (blk_below (g := gb123) (o := .cells #[.string t120, .string t121] 23 (0, 0)) (by (with_reducible repeat (first | refine blk_drewN ?_ _ | refine blk_drew ?_ | refine blk_alloc ?_ _)); refine blk_put (cs := #[.string t120, .string (⟨#[]⟩ : ByteArray)]) ?_ 1 _ rfl; (with_reducible repeat (first | refine blk_drewN ?_ _ | refine blk_drew ?_ | refine blk_alloc ?_ _)); refine blk_put (cs := #[.string (⟨#[]⟩ : ByteArray), .string (⟨#[]⟩ : ByteArray)]) ?_ 0 _ rfl; (with_reducible repeat (first | refine blk_drewN ?_ _ | refine blk_drew ?_ | refine blk_alloc ?_ _)); exact BK123.out) hb); have n1_ := Aside0.mk (below_step (by repeat (first | (with_reducible first | exact HB.out | apply below_alloc | apply pw_below_drewN | apply below_drew1 | refine below_set ?_ GE123.out) | exact HB.out)) hb); clear BK123; clear HB; have BK123 := n0_; have HB := n1_; clear n0_ n1_; (try clear hb); (try clear hb2); (try clear hk); (try clear hi)) | ((with_reducible refine gate_dst (N := 3) rfl ?_); (try (refine gate_guard (by rfl) ?_; dsimp only)); refine box_event ?hg (N := 3) ?hd (cs := #[.string (⟨#[]⟩ : ByteArray), .string (⟨#[]⟩ : ByteArray)]) (t := 23) ?hr ?_; (case hd => rfl); (case hg => rfl); (case hr => first | (go_simp; done) | (go_simp; rfl)); intro gb127 hg w62 hbox hb; have n0_ := Aside0.mk (blk_below (g := gb123) (o := .cells #[.string t120, .string t121] 23 (0, 0)) (by (with_reducible repeat (first | refine blk_drewN ?_ _ | refine blk_drew ?_ | refine blk_alloc ?_ _)); exact BK123.out) hb); have n1_ := Aside0.mk (below_step (by repeat (first | (with_reducible first | exact HB.out | apply below_alloc | apply pw_below_drewN | apply below_drew1 | refine below_set ?_ GE123.out) | exact HB.out)) hb); have n2_ := Aside0.mk (hbox); have n3_ := Aside0.mk ((by rw [hg]; exact (below_size (by repeat (first | (with_reducible first | exact HB.out | apply below_alloc | apply pw_below_drewN | apply below_drew1 | refine below_set ?_ GE123.out) | exact HB.out))) : w.heap.size ≤ gb127)); have n4_ := Aside0.mk ((by rw [hg]; exact (below_size (by repeat (first | (with_reducible first | exact HB.out | apply below_alloc | apply pw_below_drewN | apply below_drew1 | refine below_set ?_ GE123.out) | exact HB.out))) : w.heap.size ≤ gb127)); have n5_ := Aside0.mk ((by rw [hg]; exact Nat.ne_of_lt (blk_lt (g := gb123) (o := .cells #[.string t120, .string t121] 23 (0, 0)) (by (with_reducible repeat (first | refine blk_drewN ?_ _ | refine blk_drew ?_ | refine blk_alloc ?_ _)); exact BK123.out)) : gb123 ≠ gb127)); have n6_ := Aside0.mk ((by rw [hg]; exact Nat.ne_of_gt (blk_lt (g := gb123) (o := .cells #[.string t120, .string t121] 23 (0, 0)) (by (with_reducible repeat (first | refine blk_drewN ?_ _ | refine blk_drew ?_ | refine blk_alloc ?_ _)); exact BK123.out)) : gb127 ≠ gb123)); clear BK123; clear HB; have BK123 := n0_; have HB := n1_; have BK127 := n2_; have GW127 := n3_; have GE127 := n4_; have NB123_127 := n5_; have NB127_123 := n6_; clear n0_ n1_ n2_ n3_ n4_ n5_ n6_; clear hb hbox hg; have hnb63 := NB127_123.out; have hnc63 := NB123_127.out; have hcz64_0 : w62.cell? ⟨gb127, 0, none⟩ = some (.string (⟨#[]⟩ : ByteArray)) := (blk_cell BK127.out 0).trans rfl; have hcz64_1 : w62.cell? ⟨gb127, 1, none⟩ = some (.string (⟨#[]⟩ : ByteArray)) := (blk_cell BK127.out 1).trans rfl; have hfz64_0 := blk_frozen BK127.out 0; have hfz64_1 := blk_frozen BK127.out 1))
  go_ret
  exact ⟨by first | rfl | (simp [errW_none, errW_some] <;> rfl) | (simp [*, errW_none, errW_some] <;> rfl), by repeat (first | (with_reducible first | exact HB.out | apply below_alloc | apply pw_below_drewN | apply below_drew1 | refine below_set ?_ GE123.out | refine below_set ?_ GE127.out) | exact HB.out)⟩

end Go.Proofs.YtikbddiogneheaaGreatDoor.G

/- label.Sees and layer 13's examples, as Lean functions: what they come to. No program's run. -/
namespace Go.Proofs.YtikbddiogneheaaGreatDoor.G
open Go.RowKit Go.Gw Go.Proofs.YtikbddiogneheaaGreatDoorW.PrintWords
set_option linter.unusedVariables false
set_option linter.unusedSimpArgs false

def underL (s d : List UInt8) : Bool := Lb.may s && (d == [] || Lb.may d) && (d == [] || (d ++ [47]).isPrefixOf s)
def meansL (p q : List UInt8) : Bool :=
  if [47, 47].isPrefixOf p then
    if p.drop 2 = [46, 46, 46] then true
    else if [47, 46, 46, 46].isSuffixOf (p.drop 2) then
      Lb.may ((p.drop 2).take ((p.drop 2).length - 4)) && (decide (q = (p.drop 2).take ((p.drop 2).length - 4)) || underL q ((p.drop 2).take ((p.drop 2).length - 4)))
    else decide (q = p.drop 2)
  else false
theorem underS_B (s d : List UInt8) : underS (B s) (B d) = underL s d := by
  unfold underS underL mayS
  rw [show (⟨#[47]⟩ : ByteArray) = B [47] from rfl, B_app]
  rfl
theorem under_f {s d : List UInt8} (hs : s.length ≤ 1000000) (hd : d.length ≤ 1000000) : path_Under.f (B s) (B d) = some (underL s d) := by
  unfold path_Under.f
  rw [if_pos ⟨by rw [B_size]; omega, by rw [B_size]; omega⟩, underS_B]
theorem meantS_B (p q : List UInt8) : meantS (B p) (B q) = meansL p q := by
  unfold meantS meansL
  rw [show Lib.hasPrefix (B p).data.toList [47, 47] = [47, 47].isPrefixOf p from rfl]
  cases h : [47, 47].isPrefixOf p with
  | false => rfl
  | true =>
    have e : cutPre (B p) ⟨#[47, 47]⟩ = B (p.drop 2) := by
      unfold cutPre
      rw [if_pos (show Lib.hasPrefix (B p).data.toList (⟨#[47, 47]⟩ : ByteArray).data.toList = true from h)]
      exact B_drop p 2
    rw [if_pos rfl, if_pos rfl]
    simp only [e]
    have e3 : (B (p.drop 2) = ⟨#[46, 46, 46]⟩) ↔ p.drop 2 = [46, 46, 46] := B_inj (b := [46, 46, 46])
    by_cases h3 : p.drop 2 = [46, 46, 46]
    · rw [if_pos (e3.2 h3), if_pos h3]
    · rw [if_neg (fun hh => h3 (e3.1 hh)), if_neg h3]
      rw [show Lib.hasSuffix (B (p.drop 2)).data.toList [47, 46, 46, 46] = [47, 46, 46, 46].isSuffixOf (p.drop 2) from rfl]
      cases h4 : [47, 46, 46, 46].isSuffixOf (p.drop 2) with
      | false =>
        rw [if_neg (by decide), if_neg (by decide)]
        rw [Bool.eq_iff_iff, decide_eq_true_iff, decide_eq_true_iff, B_inj]
      | true =>
        have e5 : cutSuf (B (p.drop 2)) ⟨#[47, 46, 46, 46]⟩ = B ((p.drop 2).take ((p.drop 2).length - 4)) := by
          unfold cutSuf
          rw [if_pos (show Lib.hasSuffix (B (p.drop 2)).data.toList (⟨#[47, 46, 46, 46]⟩ : ByteArray).data.toList = true from h4)]
          rw [B_size, B_take]
          rfl
        rw [if_pos rfl, if_pos rfl, e5, underS_B]
        rw [show mayS (B ((p.drop 2).take ((p.drop 2).length - 4))) = Lb.may ((p.drop 2).take ((p.drop 2).length - 4)) from rfl]
        have e6 : decide (B q = B ((p.drop 2).take ((p.drop 2).length - 4))) = decide (q = (p.drop 2).take ((p.drop 2).length - 4)) := by
          rw [Bool.eq_iff_iff, decide_eq_true_iff, decide_eq_true_iff, B_inj]
        rw [e6]
theorem sees_f {p q : List UInt8} (hp : p.length ≤ 1000000) (hq : q.length ≤ 1000000) : label_Sees.f [B p] (B q) = some (Lb.pkg q && meansL p q) := by
  unfold label_Sees.f
  simp only
  rw [if_pos ⟨by rw [B_size]; omega, by rw [B_size]; omega⟩, meantS_B]
  rfl
theorem alive_ev : Ev bloomerylaw13_alive.f true := by
  unfold bloomerylaw13_alive.f
  have h1 := read_ev [58, 120] [97, 47, 98] (by decide) (by decide)
  have h2 := read_ev [97, 58, 120] [98] (by decide) (by decide)
  have h3 : label_Text.f (B [97, 47, 98]) (B [120]) = some (B [47, 47, 97, 47, 98, 58, 120]) := by
    rw [text_f (by decide) (by decide)]
    rw [show Lb.text ⟨[97, 47, 98], [120]⟩ = [47, 47, 97, 47, 98, 58, 120] by decide +kernel]
  have h4 : label_Sees.f [B [47, 47, 97, 47, 46, 46, 46]] (B [97, 47, 98]) = some true := by
    rw [sees_f (by decide) (by decide)]
    rw [show (Lb.pkg [97, 47, 98] && meansL [47, 47, 97, 47, 46, 46, 46] [97, 47, 98]) = true by decide +kernel]
  have h5 : label_Sees.f [B [47, 47, 97]] (B [97, 47, 98]) = some false := by
    rw [sees_f (by decide) (by decide)]
    rw [show (Lb.pkg [97, 47, 98] && meansL [47, 47, 97] [97, 47, 98]) = false by decide +kernel]
  rw [show Lb.read [58, 120] [97, 47, 98] = .inr ⟨[97, 47, 98], [120]⟩ by decide +kernel] at h1
  rw [show Lb.read [97, 58, 120] [98] = .inl 3 by decide +kernel] at h2
  refine Ev.bind h1 (Ev.bind h2 (Ev.pos rfl ?_))
  refine Ev.some_ fun k => ?_
  show (label_Text.f (B [97, 47, 98]) (B [120])).bind _ = _
  rw [h3]
  show (if (B [47, 47, 97, 47, 98, 58, 120]).toList = _ then _ else _) = _
  rw [B_toList, if_pos rfl, if_pos (show (trip (Sum.inl 3)).snd.snd = 3 from rfl)]
  show (label_Sees.f [B [47, 47, 97, 47, 46, 46, 46]] (B [97, 47, 98])).bind _ = _
  rw [h4, Option.bind_some, if_pos rfl]
  show (label_Sees.f [B [47, 47, 97]] (B [97, 47, 98])).bind _ = _
  rw [h5]
  rfl
theorem text_size (l : Lb.Label) : (Lb.text l).length ≤ l.pkg.length + l.name.length + 3 := by
  unfold Lb.text
  split <;> simp <;> omega
theorem short_size (l : Lb.Label) (p : List UInt8) : (Lb.short l p).length ≤ l.pkg.length + l.name.length + 3 := by
  unfold Lb.short
  split
  · simp; omega
  · exact text_size l
end Go.Proofs.YtikbddiogneheaaGreatDoor.G

/- lex.pass, lex.All as Lean functions: the place behind bytes, the tokens of Lx.all. No program's run. -/
namespace Go.Proofs.YtikbddiogneheaaGreatDoor.G
open Go.RowKit Go.Gw Go.Proofs.YtikbddiogneheaaGreatDoorW.PrintWords
set_option linter.unusedVariables false
set_option linter.unusedSimpArgs false

theorem lastIdx_no (c : UInt8) : ∀ (m l : List UInt8), (∀ x ∈ m, x ≠ c) → Lx.lastIdx c (l ++ m) = Lx.lastIdx c l := by
  intro m
  induction m with
  | nil => intro l _; rw [List.append_nil]
  | cons x m ih =>
    intro l hm
    rw [show l ++ x :: m = (l ++ [x]) ++ m by simp, ih _ (fun y hy => hm y (List.mem_cons_of_mem _ hy)), Lx.lastIdx_snoc_other (hm x List.mem_cons_self)]
theorem last_l0 (l : List UInt8) (hl : l.length ≤ 1000000) : ∀ n, n ≤ l.length → (∀ x ∈ l.drop n, x ≠ 10) → Ev (fun k => bytealg_LastIndexByteString.l0 k (B l) 10 ((n : Int) - 1)) (Lx.lastIdx 10 l) := by
  intro n
  induction n with
  | zero =>
    intro _ h
    have : Lx.lastIdx 10 l = -1 := by
      have := lastIdx_no 10 l [] (by simpa using h)
      rw [List.nil_append] at this
      rw [this]; rfl
    rw [this]
    exact ⟨1, fun k hk => by
      obtain ⟨m, rfl⟩ : ∃ m, k = m + 1 := ⟨k - 1, by omega⟩
      show bytealg_LastIndexByteString.l0 (m + 1) (B l) 10 _ = _
      rw [bytealg_LastIndexByteString.l0, if_neg (by omega)]⟩
  | succ n ih =>
    intro hn h
    have hlt : n < l.length := by omega
    have hd : l.drop n = l[n] :: l.drop (n + 1) := List.drop_eq_getElem_cons hlt
    have e1 : (((n + 1 : Nat) : Int) - 1) = (n : Int) := by omega
    rw [e1]
    by_cases hc : l[n] = 10
    · have : Lx.lastIdx 10 l = n := by
        have e : l = (l.take n ++ [10]) ++ l.drop (n + 1) := by
          rw [← hc]; simp
        conv => lhs; rw [e]
        rw [lastIdx_no 10 _ _ h, Lx.lastIdx_snoc_same, List.length_take]
        omega
      rw [this]
      exact ⟨1, fun k hk => by
        obtain ⟨m, rfl⟩ : ∃ m, k = m + 1 := ⟨k - 1, by omega⟩
        show bytealg_LastIndexByteString.l0 (m + 1) (B l) 10 _ = _
        rw [bytealg_LastIndexByteString.l0, if_pos (by omega), if_pos (by omega), if_pos (by rw [B_size]; omega), if_pos (by rw [bt_nat l n hlt, hc]; rfl)]⟩
    · refine Ev.step (fun m => ?_) (ih (by omega) (by rw [hd]; intro x hx; rcases List.mem_cons.1 hx with rfl | hx; exact hc; exact h x hx))
      rw [bytealg_LastIndexByteString.l0, if_pos (by omega), if_pos (by omega), if_pos (by rw [B_size]; omega), if_neg (by rw [bt_nat l n hlt]; exact fun e => hc (toNat_eq.1 (e.trans rfl))), w64 (by omega) (by omega)]
theorem last_ev (l : List UInt8) (hl : l.length ≤ 1000000) : Ev (fun k => strings_LastIndexByte.f k (B l) 10) (Lx.lastIdx 10 l) := by
  have h := last_l0 l hl l.length (Nat.le_refl _) (by simp)
  unfold strings_LastIndexByte.f bytealg_LastIndexByteString.f
  refine Ev.bind ?_ (Ev.now _)
  rw [B_size, w64 (by omega) (by omega)]
  exact h
theorem pass_ev (p : Nat × Nat) (l : List UInt8) (hl : l.length ≤ 1000000) (h1 : p.1 ≤ 1000000000) (h2 : p.2 ≤ 1000000000) : Ev (fun k => lex_pass.f k p.1 p.2 (B l)) (((Lx.pass p l).1 : Int), ((Lx.pass p l).2 : Int)) := by
  obtain ⟨q1, q2, q3⟩ := Lx.pass_count p l
  have hc : l.count 10 ≤ l.length := List.count_le_length
  have hC : strings_Count.f (B l) ⟨#[10]⟩ = some ((l.count 10 : Nat) : Int) := rfl
  unfold lex_pass.f
  rw [hC]
  simp only [Option.bind_some]
  by_cases h0 : l.count 10 = 0
  · obtain ⟨q4, q5⟩ := q2 h0
    refine Ev.neg (by omega) ⟨0, fun k _ => ?_⟩
    rw [B_size, w64 (by omega) (by omega), q4, show (Lx.pass p l).1 = p.1 by omega]
    simp
  · obtain ⟨q4, q5, q6⟩ := q3 (by omega)
    refine Ev.pos (by omega) (Ev.bind (last_ev l hl) ⟨0, fun k _ => ?_⟩)
    rw [B_size, w64 (by omega) (by omega), w64 (by omega) (by omega), q4, show (Lx.pass p l).1 = p.1 + l.count 10 by omega]
    simp
theorem pass_le (p : Nat × Nat) (l : List UInt8) : (Lx.pass p l).1 ≤ p.1 + l.length ∧ (Lx.pass p l).2 ≤ p.2 + l.length + 1 := by
  obtain ⟨q1, q2, q3⟩ := Lx.pass_count p l
  have hc : l.count 10 ≤ l.length := List.count_le_length
  by_cases h0 : l.count 10 = 0
  · obtain ⟨q4, q5⟩ := q2 h0
    omega
  · obtain ⟨q4, q5, q6⟩ := q3 (by omega)
    omega

/-- A step, with a whole run of gaps' bytes. -/
theorem all_stepG (p : Nat × Nat) (s : List UInt8) (hs : s ≠ []) : Lx.all p s = match pieceG s with
      | .bad e => .inl (e, p)
      | .gap n => Lx.all (Lx.pass p (s.take n)) (s.drop n)
      | .tok kd t n => match Lx.all (Lx.pass p (s.take n)) (s.drop n) with
        | .inl e => .inl e
        | .inr l => .inr (⟨kd, t, p⟩ :: l) := by
  match s with
  | [] => exact absurd rfl hs
  | c :: r =>
    unfold pieceG
    by_cases h : Lx.gapc c = true
    · simp only [h, if_true]
      have hg := Lx.all_gaps ((c :: r).takeWhile Lx.gapc) p ((c :: r).drop ((c :: r).takeWhile Lx.gapc).length) (Lx.takeWhile_mem _ _)
      rw [Lx.takeWhile_take]
      rw [← hg]
      conv => lhs; rw [← List.take_append_drop ((c :: r).takeWhile Lx.gapc).length (c :: r), Lx.takeWhile_take]
    · simp only [h, if_false]
      exact Lx.all_step p _ hs
theorem number_cases (s : List UInt8) : Lx.number s = .bad 3 ∨ Lx.number s = .bad 2 ∨ ∃ t n, Lx.number s = .tok 2 t n := by
  unfold Lx.number
  split
  · exact .inl rfl
  · split
    · exact .inr (.inl rfl)
    · exact .inr (.inr ⟨_, _, rfl⟩)
theorem piece_cases (s : List UInt8) : (∃ n, Lx.piece s = .gap n) ∨ Lx.piece s = .bad 3 ∨ Lx.piece s = .bad 2 ∨ ∃ kd t n, 1 ≤ kd ∧ kd ≤ 4 ∧ Lx.piece s = .tok kd t n := by
  match s with
  | [] => exact .inr (.inl rfl)
  | c :: r =>
    rw [Lx.piece_cons]
    split
    · exact .inl ⟨_, rfl⟩
    · split
      · exact .inl ⟨_, rfl⟩
      · split
        · exact .inr (.inr (.inr ⟨_, _, _, by omega, by omega, rfl⟩))
        · split
          · rcases number_cases (c :: r) with h | h | ⟨t, n, h⟩
            · exact .inr (.inl h)
            · exact .inr (.inr (.inl h))
            · exact .inr (.inr (.inr ⟨_, _, _, by omega, by omega, h⟩))
          · split
            · split
              · exact .inr (.inl rfl)
              · exact .inr (.inr (.inr ⟨_, _, _, by omega, by omega, rfl⟩))
            · split
              · exact .inr (.inr (.inr ⟨_, _, _, by omega, by omega, rfl⟩))
              · split
                · exact .inr (.inr (.inr ⟨_, _, _, by omega, by omega, rfl⟩))
                · exact .inr (.inl rfl)
theorem pieceG_cases (s : List UInt8) (hs : s ≠ []) : (∃ n, 1 ≤ n ∧ n ≤ s.length ∧ pieceG s = .gap n) ∨ (∃ e, 1 ≤ e ∧ e ≤ 19 ∧ pieceG s = .bad e) ∨ ∃ kd t n, 1 ≤ kd ∧ kd ≤ 4 ∧ 1 ≤ n ∧ n ≤ s.length ∧ pieceG s = .tok kd t n := by
  match s with
  | [] => exact absurd rfl hs
  | c :: r =>
    unfold pieceG
    by_cases h : Lx.gapc c = true
    · simp only [h, if_true]
      exact .inl ⟨_, Lx.takeWhile_pos h, (List.takeWhile_sublist (l := c :: r) _).length_le, rfl⟩
    · simp only [h, if_false]
      have hp := Lx.piece_size (c :: r) hs
      rcases piece_cases (c :: r) with ⟨n, e⟩ | e | e | ⟨kd, t, n, h1, h2, e⟩
      · rw [e] at hp ⊢
        rcases hp.2 with ⟨x, hx⟩ | h1
        · cases hx
        · exact .inl ⟨n, h1, hp.1, rfl⟩
      · exact .inr (.inl ⟨3, by omega, by omega, e⟩)
      · exact .inr (.inl ⟨2, by omega, by omega, e⟩)
      · rw [e] at hp ⊢
        rcases hp.2 with ⟨x, hx⟩ | h3
        · cases hx
        · exact .inr (.inr ⟨kd, t, n, h1, h2, h3, hp.1, rfl⟩)

def tokS (t : Lx.Tok) : S35 := ⟨t.kind, B t.text, ⟨t.place.1, t.place.2⟩⟩
/-- What All hands back. -/
def allR (acc : List S35) : (Nat × (Nat × Nat)) ⊕ List Lx.Tok → List S35 × Int × Int × Int
  | .inl (e, q) => ([], e, q.1, q.2)
  | .inr l => (acc ++ l.map tokS, 0, 0, 0)
theorem next_ev (c : UInt8) (r : List UInt8) (h : (c :: r).length ≤ 1000000) : Ev (fun k => lex_next.f k (B (c :: r))) (pieceT (pieceG (c :: r))) :=
  ⟨1, fun k hk => by
    obtain ⟨m, rfl⟩ : ∃ m, k = m + 1 := ⟨k - 1, by omega⟩
    exact next_f c r h m⟩
theorem all_l0 : ∀ n s, s.length ≤ n → n ≤ 70000 → ∀ (p : Nat × Nat) (acc : List S35), acc.length + s.length ≤ 1000000 → p.1 + s.length ≤ 1000000 → p.2 + 2 * s.length ≤ 1000000 →
    Ev (fun k => lex_All.l0 k acc (B s) p.1 p.2) (allR acc (Lx.all p s)) := by
  intro n
  induction n with
  | zero =>
    intro s hs hn p acc _ _ _
    have : s = [] := List.length_eq_zero_iff.1 (by omega)
    subst this
    exact ⟨1, fun k hk => by
      obtain ⟨m, rfl⟩ : ∃ m, k = m + 1 := ⟨k - 1, by omega⟩
      show lex_All.l0 (m + 1) acc (B []) p.1 p.2 = _
      rw [lex_All.l0, B_toList, if_pos rfl, Lx.all_nil]
      simp [allR]⟩
  | succ n ih =>
    intro s hs hn p acc ha hp1 hp2
    match s with
    | [] =>
      exact ⟨1, fun k hk => by
        obtain ⟨m, rfl⟩ : ∃ m, k = m + 1 := ⟨k - 1, by omega⟩
        show lex_All.l0 (m + 1) acc (B []) p.1 p.2 = _
        rw [lex_All.l0, B_toList, if_pos rfl, Lx.all_nil]
        simp [allR]⟩
    | c :: r =>
      have hl : (c :: r).length ≤ 70000 := by omega
      have hnx := next_ev c r (by omega)
      rw [all_stepG p _ (by simp)]
      refine Ev.step (fun m => by rw [lex_All.l0, B_toList, if_neg (by simp)]) (Ev.bind hnx ?_)
      rcases pieceG_cases (c :: r) (by simp) with ⟨n', h1, h2, e⟩ | ⟨x, h1, h2, e⟩ | ⟨kd, t, n', h1, h2, h3, h4, e⟩
      · rw [e]
        simp only [pieceT]
        have hpl := pass_le p ((c :: r).take n')
        rw [List.length_take, Nat.min_eq_left h2] at hpl
        have hps := pass_ev p ((c :: r).take n') (by rw [List.length_take]; omega) (by omega) (by omega)
        have hih := ih ((c :: r).drop n') (by rw [List.length_drop]; omega) (by omega) (Lx.pass p ((c :: r).take n')) acc (by rw [List.length_drop]; omega) (by rw [List.length_drop]; omega) (by rw [List.length_drop]; omega)
        refine Ev.pos trivial (Ev.neg (by decide) (Ev.pos (by omega) (Ev.pos (by rw [B_size]; omega) (Ev.bind (a := (((Lx.pass p ((c :: r).take n')).1 : Int), ((Lx.pass p ((c :: r).take n')).2 : Int))) ?_ ?_))))
        · rw [Int.toNat_natCast, B_take]; exact hps
        · rw [Int.toNat_natCast, B_drop]; exact hih
      · rw [e]
        simp only [pieceT]
        exact Ev.neg (by omega) (Ev.now _)
      · rw [e]
        simp only [pieceT]
        have hpl := pass_le p ((c :: r).take n')
        rw [List.length_take, Nat.min_eq_left h4] at hpl
        have hps := pass_ev p ((c :: r).take n') (by rw [List.length_take]; omega) (by omega) (by omega)
        have hih := ih ((c :: r).drop n') (by rw [List.length_drop]; omega) (by omega) (Lx.pass p ((c :: r).take n')) (acc ++ [tokS ⟨kd, t, p⟩]) (by rw [List.length_drop, List.length_append, List.length_singleton]; omega) (by rw [List.length_drop]; omega) (by rw [List.length_drop]; omega)
        have er : allR (acc ++ [tokS ⟨kd, t, p⟩]) (Lx.all (Lx.pass p ((c :: r).take n')) ((c :: r).drop n')) = allR acc (match Lx.all (Lx.pass p ((c :: r).take n')) ((c :: r).drop n') with
          | .inl e => .inl e
          | .inr l => .inr (⟨kd, t, p⟩ :: l)) := by
          cases Lx.all (Lx.pass p ((c :: r).take n')) ((c :: r).drop n') with
          | inl e => rfl
          | inr l => simp [allR]
        rw [er] at hih
        refine Ev.pos trivial (Ev.pos (by omega) (Ev.pos (by omega) (Ev.pos (by omega) (Ev.pos (by rw [B_size]; omega) (Ev.bind (a := (((Lx.pass p ((c :: r).take n')).1 : Int), ((Lx.pass p ((c :: r).take n')).2 : Int))) ?_ ?_)))))
        · rw [Int.toNat_natCast, B_take]; exact hps
        · rw [Int.toNat_natCast, B_drop]; exact hih
/-- The tokens of a text. -/
theorem all_ev (s : List UInt8) (h : s.length ≤ 65536) : Ev (fun k => lex_All.f k (B s)) (allR [] (Lx.all (1, 1) s)) := by
  unfold lex_All.f
  exact Ev.neg (by rw [B_size]; omega) (all_l0 s.length s (Nat.le_refl _) (by omega) (1, 1) [] (by simp; omega) (by simp; omega) (by simp; omega))
theorem all_ev_long (s : List UInt8) (h : ¬ s.length ≤ 65536) : Ev (fun k => lex_All.f k (B s)) ([], 6, 1, 1) := by
  unfold lex_All.f
  exact Ev.pos (by rw [B_size]; omega) (Ev.now _)
end Go.Proofs.YtikbddiogneheaaGreatDoor.G

/- Layer 9 (lex), in plain Lean, the second part: parts, faults, places, remarks, quoted texts, once more. No program. -/
namespace Go.Lx
theorem quoted_some : ∀ (k : Nat) (s : List UInt8), s.length ≤ k → ∀ t n, quoted s = some (t, n) → ∀ x, quoted (s ++ x) = some (t, n) := by
  intro k
  induction k with
  | zero =>
    intro s hs t n h
    have : s = [] := List.length_eq_zero_iff.1 (by omega)
    subst this
    simp [quoted] at h
  | succ k ih =>
    intro s hs t n h x
    match s with
    | [] => simp [quoted] at h
    | c :: r =>
      simp only [List.length_cons] at hs
      rw [List.cons_append, quoted_cons]
      rw [quoted_cons] at h
      by_cases h1 : c = 34
      · rw [if_pos h1] at h ⊢; exact h
      · rw [if_neg h1] at h ⊢
        by_cases h2 : c.toNat < 32 ∨ c = 127
        · rw [if_pos h2] at h; cases h
        · rw [if_neg h2] at h ⊢
          by_cases h3 : c = 92
          · rw [if_pos h3] at h ⊢
            match r with
            | [] => cases h
            | d :: r' =>
              simp only [List.cons_append] at h ⊢
              simp only [List.length_cons] at hs
              cases he : esc d with
              | none => rw [he] at h; cases h
              | some y =>
                rw [he] at h
                simp only at h ⊢
                cases hq : quoted r' with
                | none => rw [hq] at h; cases h
                | some z =>
                  obtain ⟨t', n'⟩ := z
                  rw [hq] at h
                  rw [ih r' (by omega) t' n' hq x]
                  exact h
          · rw [if_neg h3] at h ⊢
            cases hq : quoted r with
            | none => rw [hq] at h; cases h
            | some z =>
              obtain ⟨t', n'⟩ := z
              rw [hq] at h
              rw [ih r (by omega) t' n' hq x]
              exact h
theorem quoted_none : ∀ (k : Nat) (s : List UInt8), s.length ≤ k → quoted s = none → ∀ x, quoted (s ++ 10 :: x) = none := by
  intro k
  induction k with
  | zero =>
    intro s hs h x
    have : s = [] := List.length_eq_zero_iff.1 (by omega)
    subst this
    simp [quoted_cons]
  | succ k ih =>
    intro s hs h x
    match s with
    | [] => simp [quoted_cons]
    | c :: r =>
      simp only [List.length_cons] at hs
      rw [List.cons_append, quoted_cons]
      rw [quoted_cons] at h
      by_cases h1 : c = 34
      · rw [if_pos h1] at h; cases h
      · rw [if_neg h1] at h ⊢
        by_cases h2 : c.toNat < 32 ∨ c = 127
        · rw [if_pos h2]
        · rw [if_neg h2] at h ⊢
          by_cases h3 : c = 92
          · rw [if_pos h3] at h ⊢
            match r with
            | [] => simp [esc]
            | d :: r' =>
              simp only [List.cons_append] at h ⊢
              simp only [List.length_cons] at hs
              cases he : esc d with
              | none => rfl
              | some y =>
                rw [he] at h
                simp only at h ⊢
                cases hq : quoted r' with
                | none => rw [ih r' (by omega) hq x]
                | some z => rw [hq] at h; cases h
          · rw [if_neg h3] at h ⊢
            cases hq : quoted r with
            | none => rw [ih r (by omega) hq x]
            | some z => rw [hq] at h; cases h
theorem head_app (s : List UInt8) (x : UInt8) (r : List UInt8) (h : s ≠ []) : (s ++ x :: r).head? = s.head? := by
  cases s with
  | nil => exact absurd rfl h
  | cons c s => rfl
/-- A line feed behind changes nothing of what a text begins with. -/
theorem piece_lf (s : List UInt8) (hs : s ≠ []) (x : List UInt8) : piece (s ++ 10 :: x) = piece s := by
  match s with
  | [] => exact absurd rfl hs
  | c :: r =>
    rw [List.cons_append, piece_cons, piece_cons]
    have e : ∀ p : UInt8 → Bool, p 10 = false → (c :: (r ++ 10 :: x)).takeWhile p = (c :: r).takeWhile p := fun p hp => takeWhile_stop p 10 hp x (c :: r)
    have en : number (c :: (r ++ 10 :: x)) = number (c :: r) := by
      unfold number
      rw [e digitc (by decide)]
      rfl
    rw [e notLf (by decide), e wordc (by decide), en]
    have eq : quoted (r ++ 10 :: x) = quoted r := by
      cases hq : quoted r with
      | none => exact quoted_none r.length r (by omega) hq x
      | some z =>
        obtain ⟨t, n⟩ := z
        exact quoted_some r.length r (by omega) t n hq (10 :: x)
    rw [eq]
    have eh : ((r ++ 10 :: x).head? = some 61 ∧ (c = 61 ∨ c = 33)) ↔ (r.head? = some 61 ∧ (c = 61 ∨ c = 33)) := by
      cases r with
      | nil => simp
      | cons d r => simp
    simp only [eh]

/-- Tokens ahead of what else there is. -/
def ahead (l : List Tok) : (Nat × (Nat × Nat)) ⊕ List Tok → (Nat × (Nat × Nat)) ⊕ List Tok
  | .inl e => .inl e
  | .inr m => .inr (l ++ m)
theorem ahead_nil (x : (Nat × (Nat × Nat)) ⊕ List Tok) : ahead [] x = x := by cases x <;> rfl
/-- P9.3: a line feed ends what stands ahead of it. -/
theorem all_parts (x : List UInt8) : ∀ (k : Nat) (a : List UInt8), a.length ≤ k → ∀ (p : Nat × Nat) (l : List Tok), all p a = .inr l →
    all p (a ++ 10 :: x) = ahead l (all (pass p (a ++ [10])) x) := by
  intro k
  induction k with
  | zero =>
    intro a ha p l h
    have : a = [] := List.length_eq_zero_iff.1 (by omega)
    subst this
    rw [all_nil] at h
    cases h
    rw [ahead_nil]
    exact all_gaps [10] p x (by simp [gapc])
  | succ k ih =>
    intro a ha p l h
    by_cases ha0 : a = []
    · subst ha0
      rw [all_nil] at h
      cases h
      rw [ahead_nil]
      exact all_gaps [10] p x (by simp [gapc])
    · have hp := piece_size a ha0
      rw [all_step _ _ (by simp), piece_lf a ha0 x]
      rw [all_step p a ha0] at h
      cases hh : piece a with
      | bad e => rw [hh] at h; cases h
      | gap n =>
        rw [hh] at h hp
        simp only [Piece.size] at h hp ⊢
        have h1 : 1 ≤ n := by rcases hp.2 with ⟨e, he⟩ | h1; cases he; exact h1
        have hd : (a ++ 10 :: x).drop n = a.drop n ++ 10 :: x := by rw [List.drop_append_of_le_length hp.1]
        have ht : (a ++ 10 :: x).take n = a.take n := by rw [List.take_append_of_le_length hp.1]
        rw [hd, ht, ih (a.drop n) (by rw [List.length_drop]; omega) _ l h, ← pass_append, ← List.append_assoc, List.take_append_drop]
      | tok kd t n =>
        rw [hh] at h hp
        simp only [Piece.size] at h hp ⊢
        have h1 : 1 ≤ n := by rcases hp.2 with ⟨e, he⟩ | h1; cases he; exact h1
        have hd : (a ++ 10 :: x).drop n = a.drop n ++ 10 :: x := by rw [List.drop_append_of_le_length hp.1]
        have ht : (a ++ 10 :: x).take n = a.take n := by rw [List.take_append_of_le_length hp.1]
        cases hr : all (pass p (a.take n)) (a.drop n) with
        | inl e => rw [hr] at h; cases h
        | inr l' =>
          rw [hr] at h
          cases h
          rw [hd, ht, ih (a.drop n) (by rw [List.length_drop]; omega) _ l' hr, ← pass_append, ← List.append_assoc, List.take_append_drop]
          cases all (pass p (a ++ [10])) x <;> rfl
/-- P9.1: what isn't right stays so. -/
theorem all_fault (x : List UInt8) : ∀ (k : Nat) (a : List UInt8), a.length ≤ k → ∀ (p : Nat × Nat) (e : Nat × (Nat × Nat)), all p a = .inl e → all p (a ++ 10 :: x) = .inl e := by
  intro k
  induction k with
  | zero =>
    intro a ha p e h
    have : a = [] := List.length_eq_zero_iff.1 (by omega)
    subst this
    rw [all_nil] at h
    cases h
  | succ k ih =>
    intro a ha p e h
    by_cases ha0 : a = []
    · subst ha0
      rw [all_nil] at h
      cases h
    · have hp := piece_size a ha0
      rw [all_step _ _ (by simp), piece_lf a ha0 x]
      rw [all_step p a ha0] at h
      cases hh : piece a with
      | bad e' => rw [hh] at h; exact h
      | gap n =>
        rw [hh] at h hp
        simp only [Piece.size] at h hp ⊢
        have h1 : 1 ≤ n := by rcases hp.2 with ⟨e, he⟩ | h1; cases he; exact h1
        have hd : (a ++ 10 :: x).drop n = a.drop n ++ 10 :: x := by rw [List.drop_append_of_le_length hp.1]
        have ht : (a ++ 10 :: x).take n = a.take n := by rw [List.take_append_of_le_length hp.1]
        rw [hd, ht, ih (a.drop n) (by rw [List.length_drop]; omega) _ e h]
      | tok kd t n =>
        rw [hh] at h hp
        simp only [Piece.size] at h hp ⊢
        have h1 : 1 ≤ n := by rcases hp.2 with ⟨e, he⟩ | h1; cases he; exact h1
        have hd : (a ++ 10 :: x).drop n = a.drop n ++ 10 :: x := by rw [List.drop_append_of_le_length hp.1]
        have ht : (a ++ 10 :: x).take n = a.take n := by rw [List.take_append_of_le_length hp.1]
        cases hr : all (pass p (a.take n)) (a.drop n) with
        | inl e' =>
          rw [hr] at h
          cases h
          rw [hd, ht, ih (a.drop n) (by rw [List.length_drop]; omega) _ e hr]
        | inr l' => rw [hr] at h; cases h

/-! ### Further down -/
def Tok.down (d : Nat) (t : Tok) : Tok := { t with place := (t.place.1 + d, t.place.2) }
theorem pass_down (d : Nat) : ∀ (s : List UInt8) (p : Nat × Nat), pass (p.1 + d, p.2) s = ((pass p s).1 + d, (pass p s).2) := by
  intro s
  induction s with
  | nil => intro p; rfl
  | cons c s ih =>
    intro p
    have h1 : pass1 (p.1 + d, p.2) c = ((pass1 p c).1 + d, (pass1 p c).2) := by
      unfold pass1
      split
      · simp only [Prod.mk.injEq, and_true]; omega
      · rfl
    show pass (pass1 (p.1 + d, p.2) c) s = _
    rw [h1, ih]
    rfl
theorem all_down (d : Nat) : ∀ (k : Nat) (s : List UInt8), s.length ≤ k → ∀ p : Nat × Nat, all (p.1 + d, p.2) s = (match all p s with
    | .inl e => .inl (e.1, (e.2.1 + d, e.2.2))
    | .inr l => .inr (l.map (Tok.down d))) := by
  intro k
  induction k with
  | zero =>
    intro a ha p
    have : a = [] := List.length_eq_zero_iff.1 (by omega)
    subst this
    rfl
  | succ k ih =>
    intro a ha p
    by_cases ha0 : a = []
    · subst ha0; rfl
    · have hp := piece_size a ha0
      rw [all_step _ a ha0, all_step _ a ha0]
      cases hh : piece a with
      | bad e => rfl
      | gap n =>
        rw [hh] at hp
        simp only [Piece.size] at hp ⊢
        have h1 : 1 ≤ n := by rcases hp.2 with ⟨e, he⟩ | h1; cases he; exact h1
        have hlen := List.length_pos_iff.2 ha0
        rw [pass_down, ih _ (by rw [List.length_drop]; omega)]
      | tok kd t n =>
        rw [hh] at hp
        simp only [Piece.size] at hp ⊢
        have h1 : 1 ≤ n := by rcases hp.2 with ⟨e, he⟩ | h1; cases he; exact h1
        have hlen := List.length_pos_iff.2 ha0
        rw [pass_down, ih _ (by rw [List.length_drop]; omega)]
        cases all (pass p (a.take n)) (a.drop n) <;> rfl
theorem pass_lf (p : Nat × Nat) (a : List UInt8) : pass p (a ++ [10]) = ((pass p a).1 + 1, 1) := by rw [pass_append]; rfl

/-! ### A remark behind -/
theorem pass_line (y : List UInt8) (h : ∀ c ∈ y, notLf c = true) : ∀ p : Nat × Nat, (pass p y).1 = p.1 := by
  induction y with
  | nil => intro p; rfl
  | cons c y ih =>
    intro p
    have hc := h c (by simp)
    show (pass (pass1 p c) y).1 = p.1
    rw [ih (fun x hx => h x (by simp [hx]))]
    unfold pass1
    rw [if_neg (by simpa [notLf] using hc)]
theorem takeWhile_part (p : UInt8 → Bool) : ∀ s : List UInt8, (∃ c ∈ s, p c = false) → ∀ r, (s ++ r).takeWhile p = s.takeWhile p := by
  intro s
  induction s with
  | nil => rintro ⟨c, hc, _⟩; cases hc
  | cons c s ih =>
    rintro ⟨x, hx, hpx⟩ r
    cases hc : p c with
    | false => rw [List.cons_append, List.takeWhile_cons_of_neg (by simp [hc]), List.takeWhile_cons_of_neg (by simp [hc])]
    | true =>
      rcases List.mem_cons.1 hx with rfl | hx
      · rw [hc] at hpx; cases hpx
      · rw [List.cons_append, List.takeWhile_cons_of_pos hc, List.takeWhile_cons_of_pos hc, ih ⟨x, hx, hpx⟩]
theorem piece_hash (s : List UInt8) (hs : s ≠ []) (hb : ∀ e, piece s ≠ .bad e) (y : List UInt8) :
    piece (s ++ 35 :: y) = piece s ∨ ∃ r, s = 35 :: r ∧ ∀ c ∈ s, notLf c = true := by
  match s with
  | [] => exact absurd rfl hs
  | c :: r =>
    by_cases hr : c = 35 ∧ ∀ d ∈ c :: r, notLf d = true
    · exact .inr ⟨r, by rw [hr.1], hr.2⟩
    left
    rw [List.cons_append, piece_cons, piece_cons]
    rw [piece_cons] at hb
    by_cases h1 : gapc c = true
    · rw [if_pos h1, if_pos h1]
    · rw [if_neg h1] at hb ⊢
      rw [if_neg h1]
      by_cases h2 : c = 35
      · rw [if_pos h2, if_pos h2]
        have hlf : ∃ d ∈ c :: r, notLf d = false := by
          apply Classical.byContradiction
          intro hn
          refine hr ⟨h2, fun d hd => ?_⟩
          cases hx : notLf d with
          | true => rfl
          | false => exact absurd ⟨d, hd, hx⟩ hn
        have := takeWhile_part notLf (c :: r) hlf (35 :: y)
        rw [List.cons_append] at this
        rw [this]
      · rw [if_neg h2] at hb ⊢
        rw [if_neg h2]
        have e : ∀ p : UInt8 → Bool, p 35 = false → (c :: (r ++ 35 :: y)).takeWhile p = (c :: r).takeWhile p := fun p hp => takeWhile_stop p 35 hp y (c :: r)
        have en : number (c :: (r ++ 35 :: y)) = number (c :: r) := by
          unfold number
          rw [e digitc (by decide)]
          rfl
        rw [e wordc (by decide), en]
        by_cases h3 : letterc c = true
        · rw [if_pos h3, if_pos h3]
        · rw [if_neg h3] at hb ⊢
          rw [if_neg h3]
          by_cases h4 : digitc c = true
          · rw [if_pos h4, if_pos h4]
          · rw [if_neg h4] at hb ⊢
            rw [if_neg h4]
            by_cases h5 : c = 34
            · rw [if_pos h5] at hb ⊢
              rw [if_pos h5]
              cases hq : quoted r with
              | none => rw [hq] at hb; exact absurd rfl (hb 3)
              | some z =>
                obtain ⟨t, n⟩ := z
                rw [quoted_some r.length r (by omega) t n hq]
            · rw [if_neg h5, if_neg h5]
              have eh : ((r ++ 35 :: y).head? = some 61 ∧ (c = 61 ∨ c = 33)) ↔ (r.head? = some 61 ∧ (c = 61 ∨ c = 33)) := by
                cases r with
                | nil => simp
                | cons d r => simp
              simp only [eh]
/-- P9.3: a remark at the end of what stands ahead plays no part. -/
theorem all_remarked (rem x : List UInt8) (hrem : ∀ c ∈ rem, notLf c = true) : ∀ (k : Nat) (a : List UInt8), a.length ≤ k → ∀ (p : Nat × Nat) (l : List Tok), all p a = .inr l →
    all p (a ++ (35 :: (rem ++ 10 :: x))) = ahead l (all (pass p (a ++ 35 :: (rem ++ [10]))) x) := by
  have hash : ∀ r : List UInt8, (∀ c ∈ 35 :: r, notLf c = true) → ∀ p : Nat × Nat, all p (35 :: (r ++ 10 :: x)) = all (pass p (35 :: (r ++ [10]))) x := by
    intro r hr p
    have hpc : piece (35 :: (r ++ 10 :: x)) = .gap (35 :: r).length := by
      rw [piece_cons, if_neg (by decide), if_pos rfl]
      have := takeWhile_stop notLf 10 (by decide) x (35 :: r)
      rw [List.cons_append] at this
      rw [this]
      have h2 := takeWhile_all notLf (35 :: r) hr []
      rw [List.append_nil, List.takeWhile_nil, List.append_nil] at h2
      rw [h2]
    rw [all_step _ _ (by simp), hpc]
    simp only
    have hd : (35 :: (r ++ 10 :: x)).drop (35 :: r).length = 10 :: x := by rw [← List.cons_append, List.drop_left]
    have ht : (35 :: (r ++ 10 :: x)).take (35 :: r).length = 35 :: r := by rw [← List.cons_append, List.take_left]
    rw [hd, ht]
    have := all_gaps [10] (pass p (35 :: r)) x (by simp [gapc])
    rw [List.cons_append, List.nil_append] at this
    rw [this, ← pass_append, List.cons_append]
  intro k
  induction k with
  | zero =>
    intro a ha p l h
    have : a = [] := List.length_eq_zero_iff.1 (by omega)
    subst this
    rw [all_nil] at h
    cases h
    rw [ahead_nil]
    exact hash rem (fun c hc => by rcases List.mem_cons.1 hc with rfl | hc; decide; exact hrem c hc) p
  | succ k ih =>
    intro a ha p l h
    by_cases ha0 : a = []
    · subst ha0
      rw [all_nil] at h
      cases h
      rw [ahead_nil]
      exact hash rem (fun c hc => by rcases List.mem_cons.1 hc with rfl | hc; decide; exact hrem c hc) p
    · have hp := piece_size a ha0
      have hnb : ∀ e, piece a ≠ .bad e := by
        intro e he
        rw [all_step p a ha0, he] at h
        cases h
      rcases piece_hash a ha0 hnb (rem ++ 10 :: x) with hpa | ⟨r, rfl, hr⟩
      · rw [all_step _ _ (by simp), hpa]
        rw [all_step p a ha0] at h
        cases hh : piece a with
        | bad e => exact absurd hh (hnb e)
        | gap n =>
          rw [hh] at h hp
          simp only [Piece.size] at h hp ⊢
          have h1 : 1 ≤ n := by rcases hp.2 with ⟨e, he⟩ | h1; cases he; exact h1
          rw [List.drop_append_of_le_length hp.1, List.take_append_of_le_length hp.1, ih (a.drop n) (by rw [List.length_drop]; omega) _ l h, ← pass_append, ← List.append_assoc, List.take_append_drop]
        | tok kd t n =>
          rw [hh] at h hp
          simp only [Piece.size] at h hp ⊢
          have h1 : 1 ≤ n := by rcases hp.2 with ⟨e, he⟩ | h1; cases he; exact h1
          cases hr : all (pass p (a.take n)) (a.drop n) with
          | inl e => rw [hr] at h; cases h
          | inr l' =>
            rw [hr] at h
            cases h
            rw [List.drop_append_of_le_length hp.1, List.take_append_of_le_length hp.1, ih (a.drop n) (by rw [List.length_drop]; omega) _ l' hr, ← pass_append, ← List.append_assoc, List.take_append_drop]
            cases all (pass p (a ++ 35 :: (rem ++ [10]))) x <;> rfl
      · have hl : l = [] := by
          rw [all_step p (35 :: r) (by simp), piece_cons, if_neg (by decide), if_pos rfl] at h
          have h2 := takeWhile_all notLf (35 :: r) hr []
          rw [List.append_nil, List.takeWhile_nil, List.append_nil] at h2
          rw [h2] at h
          simp only [List.drop_length, all_nil, Sum.inr.injEq] at h
          exact h.symm
        subst hl
        rw [ahead_nil]
        have := hash (r ++ 35 :: rem) (fun c hc => by
          rcases List.mem_cons.1 hc with rfl | hc
          · decide
          · rcases List.mem_append.1 hc with hc | hc
            · exact hr c (by simp [hc])
            · rcases List.mem_cons.1 hc with rfl | hc
              · decide
              · exact hrem c hc) p
        simpa using this

/-- A text that was read is quoted as it stood there. -/
theorem body_quoted : ∀ (k : Nat) (s : List UInt8), s.length ≤ k → ∀ t n, quoted s = some (t, n) → ∃ b, body t = some b ∧ s.take n = b ++ [34] ∧ b.length + 1 = n := by
  intro k
  induction k with
  | zero =>
    intro s hs t n h
    have : s = [] := List.length_eq_zero_iff.1 (by omega)
    subst this
    simp [quoted] at h
  | succ k ih =>
    intro s hs t n h
    match s with
    | [] => simp [quoted] at h
    | c :: r =>
      simp only [List.length_cons] at hs
      rw [quoted_cons] at h
      split at h
      · rename_i h1
        cases h
        exact ⟨[], rfl, by simp [h1], rfl⟩
      · split at h
        · cases h
        · rename_i h1 h2
          split at h
          · rename_i h3
            match r with
            | [] => cases h
            | d :: r' =>
              simp only [List.length_cons] at hs h
              cases he : esc d with
              | none => rw [he] at h; cases h
              | some y =>
                rw [he] at h
                simp only at h
                cases hq : quoted r' with
                | none => rw [hq] at h; cases h
                | some z =>
                  obtain ⟨t', n'⟩ := z
                  rw [hq] at h
                  cases h
                  obtain ⟨b, hb1, hb2, hb3⟩ := ih r' (by omega) t' n' hq
                  refine ⟨92 :: d :: b, ?_, ?_, ?_⟩
                  · unfold esc at he
                    unfold body
                    split at he
                    · rename_i hd
                      cases he
                      rw [if_neg (by decide), if_neg (by decide), if_pos (.inl rfl), hb1, hd]
                      rfl
                    · split at he
                      · rename_i hd
                        cases he
                        rw [if_neg (by decide), if_neg (by decide), if_pos (.inr rfl), hb1, hd]
                        rfl
                      · split at he
                        · rename_i hd
                          cases he
                          rw [if_pos rfl, hb1, hd]
                          rfl
                        · cases he
                  · rw [h3]
                    simp only [List.take_succ_cons, List.cons_append, hb2]
                  · simp only [List.length_cons]; omega
          · rename_i h3
            cases hq : quoted r with
            | none => rw [hq] at h; cases h
            | some z =>
              obtain ⟨t', n'⟩ := z
              rw [hq] at h
              cases h
              obtain ⟨b, hb1, hb2, hb3⟩ := ih r (by omega) t' n' hq
              refine ⟨c :: b, ?_, ?_, ?_⟩
              · unfold body
                rw [if_neg (by intro e; subst e; exact h2 (.inl (by decide))), if_neg h2, if_neg (fun e => by
                  rcases e with e | e
                  · exact h1 e
                  · exact h3 e), hb1]
                rfl
              · simp only [List.take_succ_cons, List.cons_append, hb2]
              · simp only [List.length_cons]; omega

theorem pass_blanks : ∀ (k : Nat) (p : Nat × Nat), pass p (List.replicate k 32) = (p.1, p.2 + k) := by
  intro k
  induction k with
  | zero => intro p; rfl
  | succ k ih =>
    intro p
    rw [List.replicate_succ]
    show pass (pass1 p 32) (List.replicate k 32) = _
    rw [ih]
    show (p.1, p.2 + 1 + k) = _
    simp only [Prod.mk.injEq, true_and]; omega
/-- P9.2, P9.3: a quoted text is one token that says it, whatever gap stands ahead. -/
theorem all_quote (s b : List UInt8) (h : body s = some b) (k : Nat) : all (1, 1) (List.replicate k 32 ++ quote s) = .inr [⟨3, s, (1, 1 + k)⟩] := by
  rw [all_gaps _ _ _ (by intro c hc; rw [List.eq_of_mem_replicate hc]; decide), pass_blanks]
  have hq : quote s = 34 :: (b ++ [34]) := by unfold quote; rw [h]
  rw [hq, all_step _ _ (by simp)]
  have hp : piece (34 :: (b ++ [34])) = .tok 3 s (b.length + 1 + 1) := by
    rw [piece_cons, if_neg (by decide), if_neg (by decide), if_neg (by decide), if_neg (by decide), if_pos rfl, quoted_body s b [] h]
  rw [hp]
  simp only
  have hd : (34 :: (b ++ [34])).drop (b.length + 1 + 1) = [] := by
    rw [List.drop_eq_nil_iff]
    simp
  rw [hd, all_nil]

/-! ### Once more -/
/-- A token as it is written. -/
def Tok.written (t : Tok) : List UInt8 := if t.kind = 3 then quote t.text else t.text
/-- Tokens with a blank behind each. -/
def spaced : List Tok → List UInt8
  | [] => []
  | t :: l => t.written ++ 32 :: spaced l
theorem take_takeWhile (p : UInt8 → Bool) (s : List UInt8) : s.take (s.takeWhile p).length = s.takeWhile p := by
  induction s with
  | nil => rfl
  | cons c s ih =>
    cases h : p c with
    | true => rw [List.takeWhile_cons_of_pos h, List.length_cons, List.take_succ_cons, ih]
    | false => rw [List.takeWhile_cons_of_neg (by simp [h])]; rfl
theorem takeWhile_twice (p : UInt8 → Bool) (s : List UInt8) : (s.takeWhile p).takeWhile p = s.takeWhile p := by
  induction s with
  | nil => rfl
  | cons c s ih =>
    cases h : p c with
    | true => rw [List.takeWhile_cons_of_pos h, List.takeWhile_cons_of_pos h, ih]
    | false => rw [List.takeWhile_cons_of_neg (by simp [h])]; rfl
theorem piece_written (s : List UInt8) (kd : Nat) (t : List UInt8) (n : Nat) (h : piece s = .tok kd t n) (p : Nat × Nat) :
    (⟨kd, t, p⟩ : Tok).written = s.take n ∧ n ≤ s.length ∧ 1 ≤ n ∧ ∀ z, piece (s.take n ++ 32 :: z) = .tok kd t n := by
  match s with
  | [] => simp [piece] at h
  | c :: r =>
    have hsz := piece_size (c :: r) (by simp)
    rw [h] at hsz
    simp only [Piece.size] at hsz
    have hn1 : 1 ≤ n := by
      rcases hsz.2 with ⟨e, he⟩ | h1
      · cases he
      · exact h1
    refine ⟨?_, hsz.1, hn1, ?_⟩
    all_goals rw [piece_cons] at h
    all_goals by_cases h1 : gapc c = true
    all_goals first | (rw [if_pos h1] at h; cases h; done) | rw [if_neg h1] at h
    all_goals by_cases h2 : c = 35
    all_goals first | (rw [if_pos h2] at h; cases h; done) | rw [if_neg h2] at h
    all_goals by_cases h3 : letterc c = true
    all_goals first | rw [if_pos h3] at h | rw [if_neg h3] at h
    · cases h
      show (if 1 = 3 then _ else _) = _
      rw [if_neg (by decide), take_takeWhile]
    · by_cases h4 : digitc c = true
      · rw [if_pos h4] at h
        unfold number at h
        split at h
        · cases h
        · split at h
          · cases h
          · cases h
            show (if 2 = 3 then _ else _) = _
            rw [if_neg (by decide), take_takeWhile]
      · rw [if_neg h4] at h
        by_cases h5 : c = 34
        · rw [if_pos h5] at h
          cases hq : quoted r with
          | none => rw [hq] at h; cases h
          | some w =>
            obtain ⟨t', n'⟩ := w
            rw [hq] at h
            cases h
            obtain ⟨b, hb1, hb2, hb3⟩ := body_quoted r.length r (by omega) _ _ hq
            show quote t = _
            unfold quote
            rw [hb1, List.take_succ_cons, hb2, h5]
        · rw [if_neg h5] at h
          by_cases h6 : r.head? = some 61 ∧ (c = 61 ∨ c = 33)
          · rw [if_pos h6] at h
            cases h
            show (if 4 = 3 then _ else _) = _
            rw [if_neg (by decide)]
            match r with
            | [] => simp at h6
            | d :: r' =>
              have : d = 61 := by simpa using h6.1
              rw [this]
              rfl
          · rw [if_neg h6] at h
            split at h
            · cases h
              show (if 4 = 3 then _ else _) = _
              rw [if_neg (by decide)]
              rfl
            · cases h
    · cases h
      intro z
      have e1 := takeWhile_stop wordc 32 (by decide) z ((c :: r).takeWhile wordc)
      rw [takeWhile_twice] at e1
      rw [take_takeWhile]
      obtain ⟨y, hy⟩ : ∃ y, (c :: r).takeWhile wordc = c :: y := ⟨_, List.takeWhile_cons_of_pos (by simp [wordc, h3])⟩
      rw [hy] at e1 ⊢
      rw [List.cons_append] at e1 ⊢
      rw [piece_cons, if_neg h1, if_neg h2, if_pos h3, e1]
    · intro z
      by_cases h4 : digitc c = true
      · rw [if_pos h4] at h
        unfold number at h
        split at h
        · cases h
        · rename_i g1
          split at h
          · cases h
          · rename_i g2
            cases h
            have e1 := takeWhile_stop digitc 32 (by decide) z ((c :: r).takeWhile digitc)
            rw [takeWhile_twice] at e1
            rw [take_takeWhile]
            obtain ⟨y, hy⟩ : ∃ y, (c :: r).takeWhile digitc = c :: y := ⟨_, List.takeWhile_cons_of_pos h4⟩
            rw [hy] at e1 g1 g2 ⊢
            rw [List.cons_append] at e1 ⊢
            rw [piece_cons, if_neg h1, if_neg h2, if_neg h3, if_pos h4]
            unfold number
            rw [e1, if_neg (by simpa using g1), if_neg g2]
      · rw [if_neg h4] at h
        by_cases h5 : c = 34
        · rw [if_pos h5] at h
          cases hq : quoted r with
          | none => rw [hq] at h; cases h
          | some w =>
            obtain ⟨t', n'⟩ := w
            rw [hq] at h
            cases h
            obtain ⟨b, hb1, hb2, hb3⟩ := body_quoted r.length r (by omega) _ _ hq
            rw [List.take_succ_cons, List.cons_append, piece_cons, if_neg h1, if_neg h2, if_neg h3, if_neg h4, if_pos h5, hb2]
            have := quoted_body t b (32 :: z) hb1
            rw [List.append_assoc, List.cons_append, List.nil_append, this, hb3]
        · rw [if_neg h5] at h
          by_cases h6 : r.head? = some 61 ∧ (c = 61 ∨ c = 33)
          · rw [if_pos h6] at h
            cases h
            match r with
            | [] => simp at h6
            | d :: r' =>
              have hd : d = 61 := by simpa using h6.1
              show piece (c :: (d :: 32 :: z)) = _
              rw [piece_cons, if_neg h1, if_neg h2, if_neg h3, if_neg h4, if_neg h5, if_pos ⟨by simp [hd], h6.2⟩]
          · rw [if_neg h6] at h
            split at h
            · rename_i h7
              cases h
              show piece (c :: (32 :: z)) = _
              rw [piece_cons, if_neg h1, if_neg h2, if_neg h3, if_neg h4, if_neg h5, if_neg (by simp), if_pos h7]
            · cases h
/-- What a token says. -/
def Tok.says (t : Tok) : Nat × List UInt8 := (t.kind, t.text)
/-- P9.3: the tokens of any text, written with a blank between each two, are cut the same, but for places. -/
theorem all_again : ∀ (k : Nat) (s : List UInt8), s.length ≤ k → ∀ (p : Nat × Nat) (l : List Tok), all p s = .inr l →
    (spaced l).length ≤ 2 * s.length ∧ ∀ q, ∃ m, all q (spaced l) = .inr m ∧ m.map Tok.says = l.map Tok.says := by
  intro k
  induction k with
  | zero =>
    intro s hs p l h
    have : s = [] := List.length_eq_zero_iff.1 (by omega)
    subst this
    rw [all_nil] at h
    cases h
    exact ⟨by simp [spaced], fun q => ⟨[], rfl, rfl⟩⟩
  | succ k ih =>
    intro s hs p l h
    by_cases hs0 : s = []
    · subst hs0
      rw [all_nil] at h
      cases h
      exact ⟨by simp [spaced], fun q => ⟨[], rfl, rfl⟩⟩
    · have hp := piece_size s hs0
      rw [all_step p s hs0] at h
      cases hh : piece s with
      | bad e => rw [hh] at h; cases h
      | gap n =>
        rw [hh] at h hp
        simp only [Piece.size] at h hp
        have h1 : 1 ≤ n := by rcases hp.2 with ⟨e, he⟩ | h1; cases he; exact h1
        have := ih (s.drop n) (by rw [List.length_drop]; omega) _ l h
        rw [List.length_drop] at this
        exact ⟨by omega, this.2⟩
      | tok kd t n =>
        rw [hh] at h
        simp only at h
        obtain ⟨w1, w2, w3, w4⟩ := piece_written s kd t n hh p
        cases hr : all (pass p (s.take n)) (s.drop n) with
        | inl e => rw [hr] at h; cases h
        | inr l' =>
          rw [hr] at h
          cases h
          have hi := ih (s.drop n) (by rw [List.length_drop]; omega) _ l' hr
          rw [List.length_drop] at hi
          have hlen : (s.take n).length = n := by rw [List.length_take]; omega
          refine ⟨?_, fun q => ?_⟩
          · rw [spaced, w1, List.length_append, List.length_cons, hlen]
            omega
          · rw [spaced, w1, all_step _ _ (by simp), w4]
            simp only
            rw [List.drop_append_of_le_length (by omega), List.drop_eq_nil_of_le (by omega : (s.take n).length ≤ n), List.nil_append, List.take_append_of_le_length (by omega), List.take_take, Nat.min_self]
            obtain ⟨m, hm1, hm2⟩ := hi.2 (pass (pass q (s.take n)) [32])
            have hg := all_gaps [32] (pass q (s.take n)) (spaced l') (by simp [gapc])
            rw [List.cons_append, List.nil_append] at hg
            rw [hg, hm1]
            exact ⟨_, rfl, by simp [Tok.says, hm2]⟩
end Go.Lx

/- Go functions as Lean functions, each with its contract: written by a program of mine over the kit's print. Conditions: each contract's own. -/
namespace Go.Proofs.YtikbddiogneheaaGreatDoor.G
open Go.RowKit Go.Proofs.YtikbddiogneheaaGreatDoorW.PrintWords Go.Proofs.YtikbddiogneheaaGreatDoorW.PrintLast Go.Proofs.YtikbddiogneheaaGreatDoorW.PrintMore
attribute [local go_sem] max2_int min2_int max_two min_two max_three min_three max_four min_four   -- for this text's walks alone
set_option linter.unusedVariables false
set_option linter.unusedSimpArgs false

theorem eqA23 (d : Nat) (w : World) (x0 y0 : ByteArray) (x1 y1 : ByteArray) :
  (Op.equalIn (d + 2) 23 (.agg #[.string x0, .string x1]) (.agg #[.string y0, .string y1])).run Tryz.prog w = .ok (x0.toList == y0.toList && (x1.toList == y1.toList)) w := by
 refine eqA_of Tryz.underlying23 (by kernel_rfl) ?_
 refine eqf_cons (by rfl) (by go_simp; rfl) (by go_simp; rfl) (by go_simp) ?_
 exact eqf_last (by rfl) (by go_simp; rfl) (by go_simp; rfl) (by go_simp)
end Go.Proofs.YtikbddiogneheaaGreatDoor.G
