/- The law LabelQuoted holds of every input: it returns true, and its arguments read as they did. Conditions: the listed package-level variables lie as the program's own text lays them. -/
import Derived.Test.YtikbddiogneheaaGreatDoorRows
import Derived.Test.YtikbddiogneheaaGreatDoorBLabelQuoted3
import Derived.Test.YtikbddiogneheaaGreatDoorCards
import Derived.Test.YtikbddiogneheaaGreatDoorTie
import Derived.SevenTiedAt
import Derived.Lay
import Derived.WalkKit
import Derived.ProofKit
import Derived.LaidMore
import Derived.OpenShut
import Derived.ShutString
import Derived.ChangeOld
import Derived.Below
import Derived.SizedLaws
import Derived.Stop.Joined
import Derived.Stop.LaidErr
import Derived.Lib.LaidTab
import Derived.LaidHandle
import Derived.LaidSub
namespace Go.Proofs.YtikbddiogneheaaGreatDoor.labelQuoted
open Go.ChangeShapes Go.WideShapes Go.ChangeAt Go.RowKit Go.Gw Go.Proofs.YtikbddiogneheaaGreatDoorW.PrintWords
open Go.ChangeMaps (open_string shut_string)
set_option linter.unusedVariables false
set_option linter.unusedSimpArgs false
theorem own : ownKnob Tryz.prog.godebug = none := by kernel_rfl
theorem laidOut : laidOutB Tryz.prog = true := by kernel_rfl
abbrev laidL : List (String × DataW Unit) := [("math/bits.deBruijn32tab", Rows.laid_math_bits_deBruijn32tab), ("math/bits.deBruijn64tab", Rows.laid_math_bits_deBruijn64tab), ("internal/strconv.uint64pow10", Rows.laid_internal_strconv_uint64pow10), ("unicode/utf8.acceptRanges", Rows.laid_unicode_utf8_acceptRanges), ("strconv.ErrRange", Rows.laid_strconv_ErrRange), ("strconv.ErrSyntax", Rows.laid_strconv_ErrSyntax), ("unicode/utf8.first", Rows.laid_unicode_utf8_first)]
theorem plain {W : World} (h : laidMetH Tryz.prog laidL W) : laidMet Tryz.prog laidL W := by
  rw [MakeChecks.laidMetH_plain _ _ _ (by kernel_rfl)] at h
  exact h
theorem gTab : Tryz.prog.globalNamed "internal/strconv.uint64pow10" = some 5 := by kernel_rfl
theorem tTab : (Tryz.prog.globals[5]?).map (·.type) = some 170 := by kernel_rfl
theorem of_tab {W : World} (h : laidMetH Tryz.prog laidL W) : Tab Tryz.prog W :=
  ⟨Lib.tabIs_of_head (k := .u64) (zs := Lib.pow10Tab) gTab tTab Tryz.underlying170 Tryz.underlying79 (by kernel_rfl) (by kernel_rfl) ((plain h).tail.tail)⟩
theorem star : "*" ++ "errors.errorString" = "*errors.errorString" := by decide
theorem rowE (u : TypeId) (h : Tryz.prog.typeName? 3 u = some "*errors.errorString") : u = 153 :=
  typeName_ptr_named (nm := "errors.errorString") (by rw [star]; kernel_rfl) (by kernel_rfl) (by decide) u (by rw [star]; exact h)
theorem cellsE : Tryz.prog.cellsOf 155 = 1 := by kernel_rfl
theorem cellsS : Tryz.prog.cellsOf 9 = 1 := by kernel_rfl
theorem gErrRange : Tryz.prog.globalNamed "strconv.ErrRange" = some 2 := by kernel_rfl
theorem tErrRange : (Tryz.prog.globals[2]?).map (·.type) = some 81 := by kernel_rfl
theorem of_ErrRange {W : World} (h : laidMetH Tryz.prog laidL W) : ∃ tp p, W.var? Tryz.prog "strconv.ErrRange" = some #[.iface tp p] := by
  obtain ⟨a, _, hv, _, _, _⟩ := laid_sentinel ((plain h).tail.tail.tail.tail) gErrRange tErrRange Tryz.underlying81 rowE Tryz.underlying153 Tryz.underlying155 rfl rfl Tryz.underlying9 cellsE cellsS
  exact ⟨_, _, hv⟩
theorem gErrSyntax : Tryz.prog.globalNamed "strconv.ErrSyntax" = some 1 := by kernel_rfl
theorem tErrSyntax : (Tryz.prog.globals[1]?).map (·.type) = some 81 := by kernel_rfl
theorem of_ErrSyntax {W : World} (h : laidMetH Tryz.prog laidL W) : ∃ tp p, W.var? Tryz.prog "strconv.ErrSyntax" = some #[.iface tp p] := by
  obtain ⟨a, _, hv, _, _, _⟩ := laid_sentinel ((plain h).tail.tail.tail.tail.tail) gErrSyntax tErrSyntax Tryz.underlying81 rowE Tryz.underlying153 Tryz.underlying155 rfl rfl Tryz.underlying9 cellsE cellsS
  exact ⟨_, _, hv⟩
theorem of_errs {W : World} (h : laidMetH Tryz.prog laidL W) : Errs Tryz.prog W := ⟨of_ErrSyntax h, of_ErrRange h⟩
set_option maxRecDepth 100000 in
set_option maxHeartbeats 1000000 in
theorem lifted (os : Os) (started : os.Started) (H : Type) (enc : TypeId × Value → H) :
    ReturnsInHanded {} Tryz.checked os 3 .any (fun w args => (Rows.labelQuotedSpec.pre enc Tryz.prog Tryz.f3 [] false w args ∧ laidMetH Tryz.prog laidL w) ∧ sizedMet enc Tryz.prog Tryz.f3 (OpenSpec.ofChange Rows.labelQuotedSpec) false w args)
      (Rows.labelQuotedSpec.post enc Tryz.prog Tryz.f3 false true false false) := by
  refine returnsInHanded_of_change_and (C := Tryz.checked) (X := fun w _ => laidMetH Tryz.prog laidL w) (fun _ _ _ hh h => h.of_heap hh) own started (by kernel_rfl) Tryz.func3
    (ChangeSpec.witness_shaped (enc := enc) (C := Tryz.checked) (os := os) (X := fun w _ => laidMetH Tryz.prog laidL w) false (World.laidAll Tryz.prog os laidL) #[.agg #[.string ByteArray.empty, .string ByteArray.empty], .string ByteArray.empty] 8 (World.laidAll_os _ _ _) (World.shaped_of_ZipB (by kernel_rfl) (by kernel_rfl)) (by kernel_rfl) (by kernel_rfl) (by kernel_rfl) (by rw [MakeChecks.laidMetH_plain _ _ _ (by kernel_rfl)]; exact laidMet_laidAll _ (by kernel_rfl) (by kernel_rfl))) ?_
  intro W base args ds gs before hval0 hW _ hsz0 hL _
  have hsz : (DataW.weightsEach Tryz.prog (Tryz.f3.params.toList ++ Rows.labelQuotedSpec.plain.varTypes Tryz.prog) (ds ++ gs)).all (· ≤ reachBytes) = true := hsz0
  have hval : ∀ (j : Nat) t v, Tryz.f3.params[j]? = some t → args[j]? = some v → Value.okWide Tryz.prog W .any base t v := hval0
  have hW' := hW
  obtain ⟨p, q, hA0, hV, rfl, hfz, hnd⟩ := hW
  have hA : DataW.TrodAll enc Tryz.prog W 0 (fun _ => true) true Tryz.f3.params.toList args.toList ds p := hA0
  rw [Tryz.params3] at hA hval hsz
  obtain ⟨v0, vs0, d0, ds0, p0, q0, hargs, rfl, rfl, h0, r0⟩ := trodAll_cons hA
  obtain ⟨v1, vs1, d1, ds1, p1, q1, rfl, rfl, rfl, h1, r1⟩ := trodAll_cons r0
  obtain ⟨rfl, rfl, rfl⟩ := trodAll_nil r1
  obtain rfl : args = #[v0, v1] := by cases args; simp_all
  obtain ⟨rfl, rfl⟩ := trodVars_none hV
  have lt0 : ∀ x ∈ p0, x.block < W.heap.size := by obtain ⟨m, hm⟩ := h0; exact DataW.trod_lt m _ _ _ hm
  have k0 := h0
  have wt0 : (DataW.weights Tryz.prog 23 d0).all (· ≤ reachBytes) = true := List.all_eq_true.2 fun z hz => List.all_eq_true.1 hsz z (DataW.weights_mem_each (j := 0) (t := 23) rfl rfl z hz)
  obtain ⟨cs0, e0, _⟩ := okWide_struct Tryz.underlying23 (hval 0 23 v0 rfl rfl)
  subst e0
  obtain ⟨fu0, hf0⟩ := h0
  obtain ⟨x0, y0, hc0, b0, c0⟩ := trod_text2 Tryz.underlying23 Tryz.underlying9 rfl rfl rfl rfl (by kernel_rfl) (by kernel_rfl) hf0 wt0
  obtain rfl : cs0 = #[.string x0, .string y0] := Array.ext' hc0
  have lt1 : ∀ x ∈ p1, x.block < W.heap.size := by obtain ⟨m, hm⟩ := h1; exact DataW.trod_lt m _ _ _ hm
  have k1 := h1
  have wt1 : (DataW.weights Tryz.prog 9 d1).all (· ≤ reachBytes) = true := List.all_eq_true.2 fun z hz => List.all_eq_true.1 hsz z (DataW.weights_mem_each (j := 1) (t := 9) rfl rfl z hz)
  obtain ⟨x1, rfl, rfl, rfl, _⟩ := open_string Tryz.underlying9 (hval 1 9 v1 rfl rfl) h1
  have b1 : x1.size ≤ 140737488351232 := by
    have z := sized_string hsz (j := 1) (t := 9) rfl rfl
    rw [Array.length_toList] at z
    exact z
  clear hA0 hval0 hsz0 hsz
  refine (LabelQuoted_row x0 y0 x1 W (of_tab hL) (of_errs hL) b0 c0 b1).mono fun e W' ⟨he, bel⟩ => ?_
  subst he
  exact ⟨_, rfl, _, _, _, [], _, [], hW', trodAll_mk1 (shut_bool Tryz.underlying4 _), (trodAll_cons_mk (Below.trod laidOut (by kernel_rfl) (of_decide_eq_true (by kernel_rfl)) k0 bel lt0) (trodAll_cons_mk (Below.trod laidOut (by kernel_rfl) (of_decide_eq_true (by kernel_rfl)) k1 bel lt1) trodAll_mk0)), rfl, bel.frame _, fun h => by cases h⟩
theorem over : Rows.labelQuotedRow.holds Tryz.pinned (OpenSpec.ofChange Rows.labelQuotedSpec) :=
  OpenClaim.holds_of_wide 3 Tryz.f3 rfl rfl rfl rfl rfl rfl rfl ⟨rfl, rfl, rfl, rfl, rfl⟩ rfl rfl rfl rfl rfl (by kernel_rfl) Tryz.func3 (by kernel_rfl)
    (of_decide_eq_true (by kernel_rfl)) (by unfold Func.isWrapper; first | (rw [if_pos (by decide +kernel)]; kernel_rfl) | (rw [if_neg (by decide +kernel)]; exact ⟨rfl, rfl⟩))
    (fun os started H enc _ => lifted os started H enc)
theorem card : Rows.LabelQuotedCardSaid :=
  Claim7.holds_tied_plain_at .later [] [.data, .data, .data, .data, .sentinel, .sentinel, .pinned] true (true, "061b4b1a2152eafb28f471ef9b34e519f98d8d4865d87a33b7a7f738aba0e613") true
    over (fun _ h => by cases h) (by kernel_rfl) (fun _ h => by cases h) labelQuoted_row_tie rfl ⟨rfl, rfl⟩ (by kernel_rfl) rfl
    (fun f fn hf hfn => by
      obtain rfl : f = 3 := Option.some.inj ((show Tryz.prog.funcNamed Rows.labelQuotedRow.func = some 3 by kernel_rfl).symm.trans hf) |>.symm
      obtain rfl : fn = Tryz.f3 := (Option.some.inj (Tryz.func3.symm.trans hfn)).symm
      exact ⟨by kernel_rfl, fun j t ht => by
        rw [Tryz.params3] at ht
        have hm : t ∈ [23, 9] := by simpa using Array.mem_of_getElem? ht
        have hall : ([23, 9].all fun u => !Tryz.prog.wantsStandIn u) = true := by kernel_rfl
        exact (show Tryz.prog.wantsStandIn t = false by simpa using List.all_eq_true.1 hall t hm)⟩)
    (by kernel_rfl)
#print axioms card
end Go.Proofs.YtikbddiogneheaaGreatDoor.labelQuoted
namespace Go.Proofs.YtikbddiogneheaaGreatDoor
/-- The statement, under a short name, for the claim. -/
theorem labelQuoted_holds : Rows.LabelQuotedCardSaid := labelQuoted.card
end Go.Proofs.YtikbddiogneheaaGreatDoor
