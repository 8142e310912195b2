/- The law LexAgain holds of every input: it returns true, and its arguments read as they did. Conditions: the listed package-level variables lie as the program's own text lays them. -/
import Derived.Test.YtannlhonjkhchaaGreatDoorRows
import Derived.Test.YtannlhonjkhchaaGreatDoorBLexAgain2
import Derived.Test.YtannlhonjkhchaaGreatDoorCards
import Derived.Test.YtannlhonjkhchaaGreatDoorTie
import Derived.SevenTiedAt
import Derived.WalkKit
import Derived.ProofKit
import Derived.LaidMore
import Derived.OpenShut
import Derived.ShutString
import Derived.ChangeOld
import Derived.Below
import Derived.SizedLaws
import Derived.Stop.Joined
import Derived.Stop.LaidErr
import Derived.Lib.LaidTab
import Derived.LaidHandle
import Derived.LaidSub
namespace Go.Proofs.YtannlhonjkhchaaGreatDoor.lexAgain
open Go.ChangeShapes Go.WideShapes Go.ChangeAt Go.RowKit Go.Gw Go.Proofs.YtannlhonjkhchaaGreatDoorW.PrintWords
open Go.ChangeMaps (open_string shut_string)
set_option linter.unusedVariables false
set_option linter.unusedSimpArgs false
theorem own : ownKnob Tryz.prog.godebug = none := by kernel_rfl
theorem laidOut : laidOutB Tryz.prog = true := by kernel_rfl
abbrev laidL : List (String × DataW Unit) := [("math/bits.deBruijn32tab", Rows.laid_math_bits_deBruijn32tab), ("math/bits.deBruijn64tab", Rows.laid_math_bits_deBruijn64tab), ("internal/strconv.uint64pow10", Rows.laid_internal_strconv_uint64pow10), ("strconv.ErrRange", Rows.laid_strconv_ErrRange), ("strconv.ErrSyntax", Rows.laid_strconv_ErrSyntax)]
theorem door_met (os : Os) (args : Array Value) : laidMetH Tryz.prog laidL ((World.doorLaid Tryz.prog 400 os).forCall (fun _ _ => 0) ⟨#[], args, []⟩).memory :=
  laidMetH_of_parts3 (fuel := 8) (laidMet_of_run' 8 (by kernel_rfl) (by kernel_rfl)) (by kernel_rfl) (by kernel_rfl)
theorem plain {W : World} (h : laidMetH Tryz.prog laidL W) : laidMet Tryz.prog laidL W := by
  rw [MakeChecks.laidMetH_plain _ _ _ (by kernel_rfl)] at h
  exact h
theorem gTab : Tryz.prog.globalNamed "internal/strconv.uint64pow10" = some 3 := by kernel_rfl
theorem tTab : (Tryz.prog.globals[3]?).map (·.type) = some 149 := by kernel_rfl
theorem of_tab {W : World} (h : laidMetH Tryz.prog laidL W) : Tab Tryz.prog W :=
  ⟨Lib.tabIs_of_head (k := .u64) (zs := Lib.pow10Tab) gTab tTab Tryz.underlying149 Tryz.underlying72 (by kernel_rfl) (by kernel_rfl) ((plain h).tail.tail)⟩
theorem star : "*" ++ "errors.errorString" = "*errors.errorString" := by decide
theorem rowE (u : TypeId) (h : Tryz.prog.typeName? 3 u = some "*errors.errorString") : u = 135 :=
  typeName_ptr_named (nm := "errors.errorString") (by rw [star]; kernel_rfl) (by kernel_rfl) (by decide) u (by rw [star]; exact h)
theorem cellsE : Tryz.prog.cellsOf 137 = 1 := by kernel_rfl
theorem cellsS : Tryz.prog.cellsOf 9 = 1 := by kernel_rfl
theorem gErrRange : Tryz.prog.globalNamed "strconv.ErrRange" = some 2 := by kernel_rfl
theorem tErrRange : (Tryz.prog.globals[2]?).map (·.type) = some 74 := by kernel_rfl
theorem of_ErrRange {W : World} (h : laidMetH Tryz.prog laidL W) : ∃ tp p, W.var? Tryz.prog "strconv.ErrRange" = some #[.iface tp p] := by
  obtain ⟨a, _, hv, _, _, _⟩ := laid_sentinel ((plain h).tail.tail.tail) gErrRange tErrRange Tryz.underlying74 rowE Tryz.underlying135 Tryz.underlying137 rfl rfl Tryz.underlying9 cellsE cellsS
  exact ⟨_, _, hv⟩
theorem gErrSyntax : Tryz.prog.globalNamed "strconv.ErrSyntax" = some 1 := by kernel_rfl
theorem tErrSyntax : (Tryz.prog.globals[1]?).map (·.type) = some 74 := by kernel_rfl
theorem of_ErrSyntax {W : World} (h : laidMetH Tryz.prog laidL W) : ∃ tp p, W.var? Tryz.prog "strconv.ErrSyntax" = some #[.iface tp p] := by
  obtain ⟨a, _, hv, _, _, _⟩ := laid_sentinel ((plain h).tail.tail.tail.tail) gErrSyntax tErrSyntax Tryz.underlying74 rowE Tryz.underlying135 Tryz.underlying137 rfl rfl Tryz.underlying9 cellsE cellsS
  exact ⟨_, _, hv⟩
theorem of_errs {W : World} (h : laidMetH Tryz.prog laidL W) : Errs Tryz.prog W := ⟨of_ErrSyntax h, of_ErrRange h⟩
set_option maxRecDepth 100000 in
set_option maxHeartbeats 1000000 in
theorem lifted (os : Os) (started : os.Started) (H : Type) (enc : TypeId × Value → H) :
    ReturnsInHanded {} Tryz.checked os 5 .any (fun w args => (Rows.lexAgainSpec.pre enc Tryz.prog Tryz.f5 [] false w args ∧ laidMetH Tryz.prog laidL w) ∧ sizedMet enc Tryz.prog Tryz.f5 (OpenSpec.ofChange Rows.lexAgainSpec) false w args)
      (Rows.lexAgainSpec.post enc Tryz.prog Tryz.f5 false true false false) := by
  refine returnsInHanded_of_change_and (C := Tryz.checked) (X := fun w _ => laidMetH Tryz.prog laidL w) (fun _ _ _ hh h => h.of_heap hh) own started (by kernel_rfl) Tryz.func5
    (ChangeSpec.witness_shaped (enc := enc) (C := Tryz.checked) (os := os) (X := fun w _ => laidMetH Tryz.prog laidL w) false (World.doorLaid Tryz.prog 400 os) #[.string ByteArray.empty] 8 rfl (World.shaped_of_RefB (by kernel_rfl) (by kernel_rfl)) (by kernel_rfl) (by kernel_rfl) (by kernel_rfl) (door_met os _)) ?_
  intro W base args ds gs before hval0 hW _ hsz0 hL _
  have hsz : (DataW.weightsEach Tryz.prog (Tryz.f5.params.toList ++ Rows.lexAgainSpec.plain.varTypes Tryz.prog) (ds ++ gs)).all (· ≤ reachBytes) = true := hsz0
  have hval : ∀ (j : Nat) t v, Tryz.f5.params[j]? = some t → args[j]? = some v → Value.okWide Tryz.prog W .any base t v := hval0
  have hW' := hW
  obtain ⟨p, q, hA0, hV, rfl, hfz, hnd⟩ := hW
  have hA : DataW.TrodAll enc Tryz.prog W 0 (fun _ => true) true Tryz.f5.params.toList args.toList ds p := hA0
  rw [Tryz.params5] at hA hval hsz
  obtain ⟨v0, vs0, d0, ds0, p0, q0, hargs, rfl, rfl, h0, r0⟩ := trodAll_cons hA
  obtain ⟨rfl, rfl, rfl⟩ := trodAll_nil r0
  obtain rfl : args = #[v0] := by cases args; simp_all
  obtain ⟨rfl, rfl⟩ := trodVars_none hV
  have lt0 : ∀ x ∈ p0, x.block < W.heap.size := by obtain ⟨m, hm⟩ := h0; exact DataW.trod_lt m _ _ _ hm
  have k0 := h0
  have wt0 : (DataW.weights Tryz.prog 9 d0).all (· ≤ reachBytes) = true := List.all_eq_true.2 fun z hz => List.all_eq_true.1 hsz z (DataW.weights_mem_each (j := 0) (t := 9) rfl rfl z hz)
  obtain ⟨x0, rfl, rfl, rfl, _⟩ := open_string Tryz.underlying9 (hval 0 9 v0 rfl rfl) h0
  have b0 : x0.size ≤ 140737488351232 := by
    have z := sized_string hsz (j := 0) (t := 9) rfl rfl
    rw [Array.length_toList] at z
    exact z
  clear hA0 hval0 hsz0 hsz
  refine (LexAgain_row x0 W (of_tab hL) (of_errs hL) b0).mono fun e W' ⟨he, bel⟩ => ?_
  subst he
  exact ⟨_, rfl, _, _, _, [], _, [], hW', trodAll_mk1 (shut_bool Tryz.underlying4 _), (trodAll_cons_mk (Below.trod laidOut (by kernel_rfl) (of_decide_eq_true (by kernel_rfl)) k0 bel lt0) trodAll_mk0), rfl, bel.frame _, fun h => by cases h⟩
theorem over : Rows.lexAgainRow.holds Tryz.pinned (OpenSpec.ofChange Rows.lexAgainSpec) :=
  OpenClaim.holds_of_wide 5 Tryz.f5 rfl rfl rfl rfl rfl rfl rfl ⟨rfl, rfl, rfl, rfl, rfl⟩ rfl rfl rfl rfl rfl (by kernel_rfl) Tryz.func5 (by kernel_rfl)
    (of_decide_eq_true (by kernel_rfl)) (by unfold Func.isWrapper; first | (rw [if_pos (by decide +kernel)]; kernel_rfl) | (rw [if_neg (by decide +kernel)]; exact ⟨rfl, rfl⟩))
    (fun os started H enc _ => lifted os started H enc)
theorem card : Rows.LexAgainCardSaid :=
  Claim7.holds_tied_plain_at .later [] [.data, .data, .data, .sentinel, .sentinel] true (true, "c8ea6c7839f860334f57bc4a9217e192f4ef523f54c928b96b93429be8c797a6") true
    over (fun _ h => by cases h) (by kernel_rfl) (fun _ h => by cases h) lexAgain_row_tie rfl ⟨rfl, rfl⟩ (by kernel_rfl) rfl
    (fun f fn hf hfn => by
      obtain rfl : f = 5 := Option.some.inj ((show Tryz.prog.funcNamed Rows.lexAgainRow.func = some 5 by kernel_rfl).symm.trans hf) |>.symm
      obtain rfl : fn = Tryz.f5 := (Option.some.inj (Tryz.func5.symm.trans hfn)).symm
      exact ⟨by kernel_rfl, fun j t ht => by
        rw [Tryz.params5] at ht
        have hm : t ∈ [9] := by simpa using Array.mem_of_getElem? ht
        have hall : ([9].all fun u => !Tryz.prog.wantsStandIn u) = true := by kernel_rfl
        exact (show Tryz.prog.wantsStandIn t = false by simpa using List.all_eq_true.1 hall t hm)⟩)
    (by kernel_rfl)
#print axioms card
end Go.Proofs.YtannlhonjkhchaaGreatDoor.lexAgain
namespace Go.Proofs.YtannlhonjkhchaaGreatDoor
/-- The statement, under a short name, for the claim. -/
theorem lexAgain_holds : Rows.LexAgainCardSaid := lexAgain.card
end Go.Proofs.YtannlhonjkhchaaGreatDoor
