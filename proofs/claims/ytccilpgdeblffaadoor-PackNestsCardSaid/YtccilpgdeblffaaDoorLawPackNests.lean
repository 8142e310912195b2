/- The law PackNests holds of every input: it returns true, and its arguments read as they did. Conditions: the listed package-level variables lie as the program's own text lays them. -/
import Derived.Test.YtccilpgdeblffaaDoorRows
import Derived.Test.YtccilpgdeblffaaDoorPkLawC
import Derived.Test.YtccilpgdeblffaaDoorGwOpen
import Derived.Test.YtccilpgdeblffaaDoorCards
import Derived.Test.YtccilpgdeblffaaDoorTie
import Derived.SevenTiedAt
import Derived.WalkKit
import Derived.ProofKit
import Derived.LaidMore
import Derived.OpenShut
import Derived.ShutString
import Derived.ChangeOld
import Derived.Below
import Derived.SizedLaws
import Derived.Stop.Joined
import Derived.Stop.LaidErr
import Derived.Lib.LaidTab
import Derived.LaidHandle
import Derived.LaidSub
namespace Go.Proofs.YtccilpgdeblffaaDoor.packNests
open Go.ChangeShapes Go.WideShapes Go.ChangeAt Go.RowKit Go.Gw Go.Proofs.YtccilpgdeblffaaDoorW.PrintWords
open Go.ChangeMaps (open_string shut_string)
set_option linter.unusedVariables false
set_option linter.unusedSimpArgs false
theorem own : ownKnob Tryd.prog.godebug = none := by kernel_rfl
theorem laidOut : laidOutB Tryd.prog = true := by kernel_rfl
abbrev laidL : List (String × DataW Unit) := [("math/bits.deBruijn32tab", Rows.laid_math_bits_deBruijn32tab), ("math/bits.deBruijn64tab", Rows.laid_math_bits_deBruijn64tab), ("internal/strconv.uint64pow10", Rows.laid_internal_strconv_uint64pow10)]
theorem door_met (os : Os) (args : Array Value) : laidMetH Tryd.prog laidL ((World.doorLaid Tryd.prog 400 os).forCall (fun _ _ => 0) ⟨#[], args, []⟩).memory :=
  laidMetH_of_parts3 (fuel := 8) (laidMet_of_run' 8 (by kernel_rfl) (by kernel_rfl)) (by kernel_rfl) (by kernel_rfl)
theorem plain {W : World} (h : laidMetH Tryd.prog laidL W) : laidMet Tryd.prog laidL W := by
  rw [MakeChecks.laidMetH_plain _ _ _ (by kernel_rfl)] at h
  exact h
theorem gTab : Tryd.prog.globalNamed "internal/strconv.uint64pow10" = some 2 := by kernel_rfl
theorem tTab : (Tryd.prog.globals[2]?).map (·.type) = some 83 := by kernel_rfl
theorem of_tab {W : World} (h : laidMetH Tryd.prog laidL W) : Tab Tryd.prog W :=
  ⟨Lib.tabIs_of_head (k := .u64) (zs := Lib.pow10Tab) gTab tTab Tryd.underlying83 Tryd.underlying64 (by kernel_rfl) (by kernel_rfl) ((plain h).tail.tail)⟩
theorem op0 (k : Nat) : Opens Tryd.prog (k + 4) 36 (Kd.slice 22 (Kd.slice 9 Kd.string)) (rowBd 24 (rowBd 16 strBd)) := (opens_slice (d := (Kd.slice 9 Kd.string)) (B := 24) Tryd.underlying36 (by kernel_rfl) (by kernel_rfl) (opens_slice (d := Kd.string) (B := 16) Tryd.underlying22 (by kernel_rfl) (by kernel_rfl) (opens_string Tryd.underlying9)))
theorem op1 (k : Nat) : Opens Tryd.prog (k + 4) 36 (Kd.slice 22 (Kd.slice 9 Kd.string)) (rowBd 24 (rowBd 16 strBd)) := (opens_slice (d := (Kd.slice 9 Kd.string)) (B := 24) Tryd.underlying36 (by kernel_rfl) (by kernel_rfl) (opens_slice (d := Kd.string) (B := 16) Tryd.underlying22 (by kernel_rfl) (by kernel_rfl) (opens_string Tryd.underlying9)))
set_option maxRecDepth 100000 in
set_option maxHeartbeats 1000000 in
theorem lifted (os : Os) (started : os.Started) (H : Type) (enc : TypeId × Value → H) :
    ReturnsInHanded {} Tryd.checked os 6 .any (fun w args => (Rows.packNestsSpec.pre enc Tryd.prog Tryd.f6 [] false w args ∧ laidMetH Tryd.prog laidL w) ∧ sizedMet enc Tryd.prog Tryd.f6 (OpenSpec.ofChange Rows.packNestsSpec) false w args)
      (Rows.packNestsSpec.post enc Tryd.prog Tryd.f6 false true false false) := by
  refine returnsInHanded_of_change_and (C := Tryd.checked) (X := fun w _ => laidMetH Tryd.prog laidL w) (fun _ _ _ hh h => h.of_heap hh) own started (by kernel_rfl) Tryd.func6
    (ChangeSpec.witness_shaped (enc := enc) (C := Tryd.checked) (os := os) (X := fun w _ => laidMetH Tryd.prog laidL w) false (World.doorLaid Tryd.prog 400 os) #[.slice none 0 0, .slice none 0 0] 8 rfl (World.shaped_of_RefB (by kernel_rfl) (by kernel_rfl)) (by kernel_rfl) (by kernel_rfl) (by kernel_rfl) (door_met os _)) ?_
  intro W base args ds gs before hval0 hW _ hsz0 hL _
  have hsz : (DataW.weightsEach Tryd.prog (Tryd.f6.params.toList ++ Rows.packNestsSpec.plain.varTypes Tryd.prog) (ds ++ gs)).all (· ≤ reachBytes) = true := hsz0
  have hval : ∀ (j : Nat) t v, Tryd.f6.params[j]? = some t → args[j]? = some v → Value.okWide Tryd.prog W .any base t v := hval0
  have hW' := hW
  obtain ⟨p, q, hA0, hV, rfl, hfz, hnd⟩ := hW
  have hA : DataW.TrodAll enc Tryd.prog W 0 (fun _ => true) true Tryd.f6.params.toList args.toList ds p := hA0
  rw [Tryd.params6] at hA hval hsz
  obtain ⟨v0, vs0, d0, ds0, p0, q0, hargs, rfl, rfl, h0, r0⟩ := trodAll_cons hA
  obtain ⟨v1, vs1, d1, ds1, p1, q1, rfl, rfl, rfl, h1, r1⟩ := trodAll_cons r0
  obtain ⟨rfl, rfl, rfl⟩ := trodAll_nil r1
  obtain rfl : args = #[v0, v1] := by cases args; simp_all
  obtain ⟨rfl, rfl⟩ := trodVars_none hV
  have lt0 : ∀ x ∈ p0, x.block < W.heap.size := by obtain ⟨m, hm⟩ := h0; exact DataW.trod_lt m _ _ _ hm
  have k0 := h0
  have wt0 : (DataW.weights Tryd.prog 36 d0).all (· ≤ reachBytes) = true := List.all_eq_true.2 fun z hz => List.all_eq_true.1 hsz z (DataW.weights_mem_each (j := 0) (t := 36) rfl rfl z hz)
  obtain ⟨a0, len0, cap0, rfl⟩ := okWide_slice Tryd.underlying36 (hval 0 36 v0 rfl rfl)
  obtain ⟨fu0, hf0⟩ := h0
  obtain ⟨x0, hk0, b0⟩ := op0 (fu0 + 4) enc W _ _ _ fu0 _ _ (by omega) hf0 wt0
  have hk0' : ((Kd.slice 22 (Kd.slice 9 Kd.string))).K W x0 [.slice a0 len0 cap0] := hk0
  obtain ⟨A0, c0, e0, hle0, hC0⟩ := C_of_slice hk0'
  cases e0
  have lt1 : ∀ x ∈ p1, x.block < W.heap.size := by obtain ⟨m, hm⟩ := h1; exact DataW.trod_lt m _ _ _ hm
  have k1 := h1
  have wt1 : (DataW.weights Tryd.prog 36 d1).all (· ≤ reachBytes) = true := List.all_eq_true.2 fun z hz => List.all_eq_true.1 hsz z (DataW.weights_mem_each (j := 1) (t := 36) rfl rfl z hz)
  obtain ⟨a1, len1, cap1, rfl⟩ := okWide_slice Tryd.underlying36 (hval 1 36 v1 rfl rfl)
  obtain ⟨fu1, hf1⟩ := h1
  obtain ⟨x1, hk1, b1⟩ := op1 (fu1 + 4) enc W _ _ _ fu1 _ _ (by omega) hf1 wt1
  have hk1' : ((Kd.slice 22 (Kd.slice 9 Kd.string))).K W x1 [.slice a1 len1 cap1] := hk1
  obtain ⟨A1, c1, e1, hle1, hC1⟩ := C_of_slice hk1'
  cases e1
  clear hA0 hval0 hsz0 hsz
  refine (PackNests_row x0 x1 W (of_tab hL) hC0 hle0 b0 hC1 hle1 b1).mono fun e W' ⟨he, bel⟩ => ?_
  subst he
  exact ⟨_, rfl, _, _, _, [], _, [], hW', trodAll_mk1 (shut_bool Tryd.underlying4 _), (trodAll_cons_mk (Below.trod laidOut (by kernel_rfl) (of_decide_eq_true (by kernel_rfl)) k0 bel lt0) (trodAll_cons_mk (Below.trod laidOut (by kernel_rfl) (of_decide_eq_true (by kernel_rfl)) k1 bel lt1) trodAll_mk0)), rfl, bel.frame _, fun h => by cases h⟩
theorem over : Rows.packNestsRow.holds Tryd.pinned (OpenSpec.ofChange Rows.packNestsSpec) :=
  OpenClaim.holds_of_wide 6 Tryd.f6 rfl rfl rfl rfl rfl rfl rfl ⟨rfl, rfl, rfl, rfl, rfl⟩ rfl rfl rfl rfl rfl (by kernel_rfl) Tryd.func6 (by kernel_rfl)
    (of_decide_eq_true (by kernel_rfl)) (by unfold Func.isWrapper; first | (rw [if_pos (by decide +kernel)]; kernel_rfl) | (rw [if_neg (by decide +kernel)]; exact ⟨rfl, rfl⟩))
    (fun os started H enc _ => lifted os started H enc)
theorem card : Rows.PackNestsCardSaid :=
  Claim7.holds_tied_plain_at .later [] [.data, .data, .data] true (true, "ee612228691001d3999d353ee7b5f1c3908f58d555e4c55ae492746ef96a869f") true
    over (fun _ h => by cases h) (by kernel_rfl) (fun _ h => by cases h) packNests_row_tie rfl ⟨rfl, rfl⟩ (by kernel_rfl) rfl
    (fun f fn hf hfn => by
      obtain rfl : f = 6 := Option.some.inj ((show Tryd.prog.funcNamed Rows.packNestsRow.func = some 6 by kernel_rfl).symm.trans hf) |>.symm
      obtain rfl : fn = Tryd.f6 := (Option.some.inj (Tryd.func6.symm.trans hfn)).symm
      exact ⟨by kernel_rfl, fun j t ht => by
        rw [Tryd.params6] at ht
        have hm : t ∈ [36, 36] := by simpa using Array.mem_of_getElem? ht
        have hall : ([36, 36].all fun u => !Tryd.prog.wantsStandIn u) = true := by kernel_rfl
        exact (show Tryd.prog.wantsStandIn t = false by simpa using List.all_eq_true.1 hall t hm)⟩)
    (by kernel_rfl)
#print axioms card
end Go.Proofs.YtccilpgdeblffaaDoor.packNests
namespace Go.Proofs.YtccilpgdeblffaaDoor
/-- The statement, under a short name, for the claim. -/
theorem packNests_holds : Rows.PackNestsCardSaid := packNests.card
end Go.Proofs.YtccilpgdeblffaaDoor
