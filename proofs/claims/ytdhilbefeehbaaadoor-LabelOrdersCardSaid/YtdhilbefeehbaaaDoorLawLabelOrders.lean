/- The law LabelOrders holds of every input: it returns true, and its arguments read as they did. Conditions: the listed package-level variables lie as the program's own text lays them. -/
import Derived.Test.YtdhilbefeehbaaaDoorRows
import Derived.Test.YtdhilbefeehbaaaDoorBLabelOrders3
import Derived.Test.YtdhilbefeehbaaaDoorCards
import Derived.Test.YtdhilbefeehbaaaDoorTie
import Derived.SevenTiedAt
import Derived.Lay
import Derived.WalkKit
import Derived.ProofKit
import Derived.LaidMore
import Derived.OpenShut
import Derived.ShutString
import Derived.ChangeOld
import Derived.Below
import Derived.SizedLaws
import Derived.Stop.Joined
import Derived.Stop.LaidErr
import Derived.Lib.LaidTab
import Derived.LaidHandle
import Derived.LaidSub
namespace Go.Proofs.YtdhilbefeehbaaaDoor.labelOrders
open Go.ChangeShapes Go.WideShapes Go.ChangeAt Go.RowKit Go.Gw Go.Proofs.YtdhilbefeehbaaaDoorW.PrintWords
open Go.ChangeMaps (open_string shut_string)
set_option linter.unusedVariables false
set_option linter.unusedSimpArgs false
theorem own : ownKnob Tryd.prog.godebug = none := by kernel_rfl
theorem laidOut : laidOutB Tryd.prog = true := by kernel_rfl
abbrev laidL : List (String × DataW Unit) := [("unicode/utf8.acceptRanges", Rows.laid_unicode_utf8_acceptRanges), ("unicode/utf8.first", Rows.laid_unicode_utf8_first)]
theorem plain {W : World} (h : laidMetH Tryd.prog laidL W) : laidMet Tryd.prog laidL W := by
  rw [MakeChecks.laidMetH_plain _ _ _ (by kernel_rfl)] at h
  exact h
set_option maxRecDepth 100000 in
set_option maxHeartbeats 1000000 in
theorem lifted (os : Os) (started : os.Started) (H : Type) (enc : TypeId × Value → H) :
    ReturnsInHanded {} Tryd.checked os 6 .any (fun w args => (Rows.labelOrdersSpec.pre enc Tryd.prog Tryd.f6 [] false w args ∧ laidMetH Tryd.prog laidL w) ∧ sizedMet enc Tryd.prog Tryd.f6 (OpenSpec.ofChange Rows.labelOrdersSpec) false w args)
      (Rows.labelOrdersSpec.post enc Tryd.prog Tryd.f6 false true false false) := by
  refine returnsInHanded_of_change_and (C := Tryd.checked) (X := fun w _ => laidMetH Tryd.prog laidL w) (fun _ _ _ hh h => h.of_heap hh) own started (by kernel_rfl) Tryd.func6
    (ChangeSpec.witness_shaped (enc := enc) (C := Tryd.checked) (os := os) (X := fun w _ => laidMetH Tryd.prog laidL w) false (World.laidAll Tryd.prog os laidL) #[.agg #[.string ByteArray.empty, .string ByteArray.empty], .agg #[.string ByteArray.empty, .string ByteArray.empty], .agg #[.string ByteArray.empty, .string ByteArray.empty]] 8 (World.laidAll_os _ _ _) (World.shaped_of_ZipB (by kernel_rfl) (by kernel_rfl)) (by kernel_rfl) (by kernel_rfl) (by kernel_rfl) (by rw [MakeChecks.laidMetH_plain _ _ _ (by kernel_rfl)]; exact laidMet_laidAll _ (by kernel_rfl) (by kernel_rfl))) ?_
  intro W base args ds gs before hval0 hW _ hsz0 hL _
  have hsz : (DataW.weightsEach Tryd.prog (Tryd.f6.params.toList ++ Rows.labelOrdersSpec.plain.varTypes Tryd.prog) (ds ++ gs)).all (· ≤ reachBytes) = true := hsz0
  have hval : ∀ (j : Nat) t v, Tryd.f6.params[j]? = some t → args[j]? = some v → Value.okWide Tryd.prog W .any base t v := hval0
  have hW' := hW
  obtain ⟨p, q, hA0, hV, rfl, hfz, hnd⟩ := hW
  have hA : DataW.TrodAll enc Tryd.prog W 0 (fun _ => true) true Tryd.f6.params.toList args.toList ds p := hA0
  rw [Tryd.params6] at hA hval hsz
  obtain ⟨v0, vs0, d0, ds0, p0, q0, hargs, rfl, rfl, h0, r0⟩ := trodAll_cons hA
  obtain ⟨v1, vs1, d1, ds1, p1, q1, rfl, rfl, rfl, h1, r1⟩ := trodAll_cons r0
  obtain ⟨v2, vs2, d2, ds2, p2, q2, rfl, rfl, rfl, h2, r2⟩ := trodAll_cons r1
  obtain ⟨rfl, rfl, rfl⟩ := trodAll_nil r2
  obtain rfl : args = #[v0, v1, v2] := by cases args; simp_all
  obtain ⟨rfl, rfl⟩ := trodVars_none hV
  have lt0 : ∀ x ∈ p0, x.block < W.heap.size := by obtain ⟨m, hm⟩ := h0; exact DataW.trod_lt m _ _ _ hm
  have k0 := h0
  have wt0 : (DataW.weights Tryd.prog 24 d0).all (· ≤ reachBytes) = true := List.all_eq_true.2 fun z hz => List.all_eq_true.1 hsz z (DataW.weights_mem_each (j := 0) (t := 24) rfl rfl z hz)
  obtain ⟨cs0, e0, _⟩ := okWide_struct Tryd.underlying24 (hval 0 24 v0 rfl rfl)
  subst e0
  obtain ⟨fu0, hf0⟩ := h0
  obtain ⟨x0, y0, hc0, b0, c0⟩ := trod_text2 Tryd.underlying24 Tryd.underlying9 rfl rfl rfl rfl (by kernel_rfl) (by kernel_rfl) hf0 wt0
  obtain rfl : cs0 = #[.string x0, .string y0] := Array.ext' hc0
  have lt1 : ∀ x ∈ p1, x.block < W.heap.size := by obtain ⟨m, hm⟩ := h1; exact DataW.trod_lt m _ _ _ hm
  have k1 := h1
  have wt1 : (DataW.weights Tryd.prog 24 d1).all (· ≤ reachBytes) = true := List.all_eq_true.2 fun z hz => List.all_eq_true.1 hsz z (DataW.weights_mem_each (j := 1) (t := 24) rfl rfl z hz)
  obtain ⟨cs1, e1, _⟩ := okWide_struct Tryd.underlying24 (hval 1 24 v1 rfl rfl)
  subst e1
  obtain ⟨fu1, hf1⟩ := h1
  obtain ⟨x1, y1, hc1, b1, c1⟩ := trod_text2 Tryd.underlying24 Tryd.underlying9 rfl rfl rfl rfl (by kernel_rfl) (by kernel_rfl) hf1 wt1
  obtain rfl : cs1 = #[.string x1, .string y1] := Array.ext' hc1
  have lt2 : ∀ x ∈ p2, x.block < W.heap.size := by obtain ⟨m, hm⟩ := h2; exact DataW.trod_lt m _ _ _ hm
  have k2 := h2
  have wt2 : (DataW.weights Tryd.prog 24 d2).all (· ≤ reachBytes) = true := List.all_eq_true.2 fun z hz => List.all_eq_true.1 hsz z (DataW.weights_mem_each (j := 2) (t := 24) rfl rfl z hz)
  obtain ⟨cs2, e2, _⟩ := okWide_struct Tryd.underlying24 (hval 2 24 v2 rfl rfl)
  subst e2
  obtain ⟨fu2, hf2⟩ := h2
  obtain ⟨x2, y2, hc2, b2, c2⟩ := trod_text2 Tryd.underlying24 Tryd.underlying9 rfl rfl rfl rfl (by kernel_rfl) (by kernel_rfl) hf2 wt2
  obtain rfl : cs2 = #[.string x2, .string y2] := Array.ext' hc2
  clear hA0 hval0 hsz0 hsz
  refine (LabelOrders_row x0 y0 x1 y1 x2 y2 W b0 c0 b1 c1 b2 c2).mono fun e W' ⟨he, bel⟩ => ?_
  subst he
  exact ⟨_, rfl, _, _, _, [], _, [], hW', trodAll_mk1 (shut_bool Tryd.underlying4 _), (trodAll_cons_mk (Below.trod laidOut (by kernel_rfl) (of_decide_eq_true (by kernel_rfl)) k0 bel lt0) (trodAll_cons_mk (Below.trod laidOut (by kernel_rfl) (of_decide_eq_true (by kernel_rfl)) k1 bel lt1) (trodAll_cons_mk (Below.trod laidOut (by kernel_rfl) (of_decide_eq_true (by kernel_rfl)) k2 bel lt2) trodAll_mk0))), rfl, bel.frame _, fun h => by cases h⟩
theorem over : Rows.labelOrdersRow.holds Tryd.pinned (OpenSpec.ofChange Rows.labelOrdersSpec) :=
  OpenClaim.holds_of_wide 6 Tryd.f6 rfl rfl rfl rfl rfl rfl rfl ⟨rfl, rfl, rfl, rfl, rfl⟩ rfl rfl rfl rfl rfl (by kernel_rfl) Tryd.func6 (by kernel_rfl)
    (of_decide_eq_true (by kernel_rfl)) (by unfold Func.isWrapper; first | (rw [if_pos (by decide +kernel)]; kernel_rfl) | (rw [if_neg (by decide +kernel)]; exact ⟨rfl, rfl⟩))
    (fun os started H enc _ => lifted os started H enc)
theorem card : Rows.LabelOrdersCardSaid :=
  Claim7.holds_tied_plain_at .later [] [.data, .pinned] true (true, "3022044c140b238b14cae92de38acc43923d71d9555980de4cb0455cd703f4db") false
    over (fun _ h => by cases h) (by kernel_rfl) (fun _ h => by cases h) labelOrders_row_tie rfl ⟨rfl, rfl⟩ (by kernel_rfl) rfl
    (fun f fn hf hfn => by
      obtain rfl : f = 6 := Option.some.inj ((show Tryd.prog.funcNamed Rows.labelOrdersRow.func = some 6 by kernel_rfl).symm.trans hf) |>.symm
      obtain rfl : fn = Tryd.f6 := (Option.some.inj (Tryd.func6.symm.trans hfn)).symm
      exact ⟨by kernel_rfl, fun j t ht => by
        rw [Tryd.params6] at ht
        have hm : t ∈ [24, 24, 24] := by simpa using Array.mem_of_getElem? ht
        have hall : ([24, 24, 24].all fun u => !Tryd.prog.wantsStandIn u) = true := by kernel_rfl
        exact (show Tryd.prog.wantsStandIn t = false by simpa using List.all_eq_true.1 hall t hm)⟩)
    (by kernel_rfl)
#print axioms card
end Go.Proofs.YtdhilbefeehbaaaDoor.labelOrders
namespace Go.Proofs.YtdhilbefeehbaaaDoor
/-- The statement, under a short name, for the claim. -/
theorem labelOrders_holds : Rows.LabelOrdersCardSaid := labelOrders.card
end Go.Proofs.YtdhilbefeehbaaaDoor
