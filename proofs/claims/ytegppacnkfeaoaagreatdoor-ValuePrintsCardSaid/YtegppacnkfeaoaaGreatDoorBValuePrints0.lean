/- Texts towards the law ValuePrints, one behind the other: each begins with its own sentence. Conditions: each theorem's own. -/
import Derived.Below
import Derived.Deep.Draws
import Derived.Deep.AppendLies
import Derived.Maps.AppendAt
import Derived.OwnWalk
import Derived.Laws.BytesArg
import Derived.Laws.MakeOwn
import Derived.Laws.OwnMore
import Derived.Deep.OwnRows
import Derived.Tactics
import Derived.Lib.ConvBytes
import Derived.Laws.Slices
import Derived.WalkKit
import Derived.KernelRfl
import Derived.RowKit3
import Derived.Deep.LoopGhost
import Derived.Deep.QuietTactic
import Derived.BigQuiet
import Derived.WideLaws
import Derived.Deep.DeepCutAuto
import Derived.Deep.CutBlock
import Derived.Deep.RegionHeld3
import Derived.Laws.Rows
import Derived.Lib.AppendStr
import Derived.ArgAppend
import Derived.Laws.IdiomCopy
import Derived.OrdersHeld
import Derived.Laws.BitsLemmas
import Derived.RowKit
import Derived.Shelf.Strings.Builder1
import Derived.Shelf.LaysM
import Derived.Shelf.Strconv.Itoa3
import Derived.Shelf.Strconv.Itoa4
import Derived.Shelf.Strings.Count
import Derived.WalkSmall
import Derived.Lib.Builder
import Derived.Lib.UnsafeStr
import Derived.Lib.LaidTab
import Derived.Lib.IndexBytes
import Derived.Lib.Strings
import Derived.Lib.ItoaMem
import Derived.Sort.Grow
import Derived.Lib.ItoaNum
import Derived.WalkSpells
import Derived.OpenShut
import Derived.ProofKit
import Derived.SizedLaws
import Derived.Shelf.LaysC
import Derived.Shelf.Strconv.ParseIntPublic10
import Derived.Shelf.Strings.Search1
import Derived.Shelf.Strings.Prefix
import Derived.Lib.ParseIntB
import Derived.Lib.ItoaLen
import Derived.Shelf.Strconv.ErrVarParseInt
import Derived.Tactics2
import Derived.Defers
import Derived.Laws.Pointers
import Derived.Laws.LoneSync
import Derived.RegionTactic
import Derived.RegionCalls
import Derived.ChangeAlike
import Derived.Laws.NewBlocks
import Derived.Laws.CopyOwn
import Derived.Shelf.Strings.OnBuilder
import Derived.Laws.Cover1
import Derived.Outline
import Derived.Test.YtegppacnkfeaoaaGreatDoorProg
import Derived.Test.YtegppacnkfeaoaaGreatDoorWWords
import Derived.Test.YtegppacnkfeaoaaGreatDoorWLast
import Derived.Test.YtegppacnkfeaoaaGreatDoorWTab
import Derived.Test.YtegppacnkfeaoaaGreatDoorWQPut
import Derived.Test.YtegppacnkfeaoaaGreatDoorWApart
import Derived.Test.YtegppacnkfeaoaaGreatDoorWArr
import Derived.Test.YtegppacnkfeaoaaGreatDoorWZeros
import Derived.Test.YtegppacnkfeaoaaGreatDoorWFoot
import Derived.Test.YtegppacnkfeaoaaGreatDoorWKept
import Derived.Test.YtegppacnkfeaoaaGreatDoorWShare
import Derived.Test.YtegppacnkfeaoaaGreatDoorWN
import Derived.Test.YtegppacnkfeaoaaGreatDoorWRepsOne
import Derived.Test.YtegppacnkfeaoaaGreatDoorWGuard
import Derived.Test.YtegppacnkfeaoaaGreatDoorWNEv
import Derived.Test.YtegppacnkfeaoaaGreatDoorWMore
set_option linter.unusedSectionVars false
set_option linter.unusedVariables false
set_option linter.unusedSimpArgs false
/- Go functions as Lean functions, each with its contract: written by a program of mine over the kit's print. Conditions: each contract's own. -/
namespace Go.Proofs.YtegppacnkfeaoaaGreatDoor.G
open Go.RowKit Go.Proofs.YtegppacnkfeaoaaGreatDoorW.PrintWords Go.Proofs.YtegppacnkfeaoaaGreatDoorW.PrintLast Go.Proofs.YtegppacnkfeaoaaGreatDoorW.PrintMore
attribute [local go_sem] max2_int min2_int max_two min_two max_three min_three max_four min_four   -- for this text's walks alone
set_option linter.unusedVariables false
set_option linter.unusedSimpArgs false



def errW : Option Int → Value
 | none => .nilIface
 | some c => .iface 0 (.int .i64 c)
theorem errW_none : errW none = .nilIface := rfl
theorem errW_some (c : Int) : errW (some c) = .iface 0 (.int .i64 c) := rfl

theorem info9 : (Tryz.prog.info? 9).map (fun i => (i.zero, i.size, i.bytes)) = some (some (.string ⟨#[]⟩), 1, 16) := by kernel_rfl
-- the values' own types
def rd_L2 (xs : List (List ByteArray)) (i : Int) : (List ByteArray) := xs.getD i.toNat ([] : List ByteArray)
/-! #### struct type 25, nested in itself -/
structure S25 where
 f0 : Int
 f1 : Int
 f2 : ByteArray
 f3 : (List S25)
 f4 : (List ByteArray)
def z25 : S25 := ⟨(0 : Int), (0 : Int), (⟨#[]⟩ : ByteArray), ([] : List S25), ([] : List ByteArray)⟩
def F25 (d : Kd S25) : Kd S25 := Kd.iso (Kd.pair (Kd.int .i64) (Kd.pair (Kd.int .i64) (Kd.pair Kd.string (Kd.pair (Kd.slice 25 d) (Kd.slice 9 Kd.string))))) (fun x : S25 => (x.f0, x.f1, x.f2, x.f3, x.f4))
theorem mono25 : Kd.Mono F25 := Kd.mono_iso _ (Kd.mono_pair (Kd.mono_const _) (Kd.mono_pair (Kd.mono_const _) (Kd.mono_pair (Kd.mono_const _) (Kd.mono_pair (Kd.mono_slice 25 Kd.mono_id) (Kd.mono_const _)))))
theorem sub25 : Kd.Sub F25 [9, 25] := Kd.sub_iso _ (Kd.sub_pair (Kd.sub_const _ (by decide)) (Kd.sub_pair (Kd.sub_const _ (by decide)) (Kd.sub_pair (Kd.sub_const _ (by decide)) (Kd.sub_pair (Kd.sub_slice 25 (by decide) Kd.sub_id) (Kd.sub_const _ (by decide))))))
theorem sz25 : ∀ n, (Kd.upto F25 5 [9, 25] n).sz = 5 := Kd.upto_sz (fun _ => rfl)
def k25 : Kd S25 := Kd.fix F25 5 [9, 25] sz25 (Kd.upto_E sub25)
theorem k25_open {w : World} {x : S25} {cs : List Value} (h : k25.K w x cs) : ∃ A3 c3 A4 c4, cs = [.int .i64 x.f0, .int .i64 x.f1, .string x.f2, .slice A3 x.f3.length c3, .slice A4 x.f4.length c4] ∧ x.f3.length ≤ c3 ∧ k25.C w A3 x.f3.length x.f3 ∧ x.f4.length ≤ c4 ∧ Kd.string.C w A4 x.f4.length x.f4 := by
 obtain ⟨n, h⟩ := h
 cases n with
 | zero => exact h.elim
 | succ n =>
  obtain ⟨_, _, rfl, rfl, ⟨_, _, rfl, rfl, ⟨_, _, rfl, rfl, ⟨_, _, rfl, ⟨A3, c3, rfl, l3, g3⟩, ⟨A4, c4, rfl, l4, g4⟩⟩⟩⟩⟩ := h
  exact ⟨A3, c3, A4, c4, rfl, l3, Kd.fix_C g3, l4, g4⟩
theorem k25_mk (w : World) (x : S25) {A3 : Option Addr} {c3 : Nat} (l3 : x.f3.length ≤ c3) (g3 : k25.C w A3 x.f3.length x.f3) {A4 : Option Addr} {c4 : Nat} (l4 : x.f4.length ≤ c4) (g4 : Kd.string.C w A4 x.f4.length x.f4) : k25.K w x [.int .i64 x.f0, .int .i64 x.f1, .string x.f2, .slice A3 x.f3.length c3, .slice A4 x.f4.length c4] := by
 obtain ⟨n3, q3⟩ := Kd.fix_C_back mono25 g3
 have r3 := Kd.upto_C_le mono25 sz25 (show n3 ≤ n3 by omega) q3
 exact ⟨n3 + 1, ⟨[.int .i64 x.f0], [.int .i64 x.f1, .string x.f2, .slice A3 x.f3.length c3, .slice A4 x.f4.length c4], rfl, rfl, ⟨[.int .i64 x.f1], [.string x.f2, .slice A3 x.f3.length c3, .slice A4 x.f4.length c4], rfl, rfl, ⟨[.string x.f2], [.slice A3 x.f3.length c3, .slice A4 x.f4.length c4], rfl, rfl, ⟨[.slice A3 x.f3.length c3], [.slice A4 x.f4.length c4], rfl, ⟨A3, c3, rfl, l3, r3⟩, ⟨A4, c4, rfl, l4, g4⟩⟩⟩⟩⟩⟩
theorem k25_mkM (w : World) (base : Nat) (ok : Nat → Prop) (x : S25) {v3 : Value} (g3 : k25.R 25 w base ok v3 x.f3) {v4 : Value} (g4 : Kd.string.R 9 w base ok v4 x.f4) : k25.M w base ok x [.int .i64 x.f0, .int .i64 x.f1, .string x.f2, v3, v4] := by
 obtain ⟨n3, q3⟩ := Kd.fix_R_back mono25 g3
 have r3 := Kd.upto_R_le mono25 sz25 (show n3 ≤ n3 by omega) q3
 exact ⟨n3 + 1, ⟨[.int .i64 x.f0], [.int .i64 x.f1, .string x.f2, v3, v4], rfl, rfl, ⟨[.int .i64 x.f1], [.string x.f2, v3, v4], rfl, rfl, ⟨[.string x.f2], [v3, v4], rfl, rfl, ⟨[v3], [v4], rfl, ⟨v3, rfl, r3⟩, ⟨v4, rfl, g4⟩⟩⟩⟩⟩⟩
def rd_T25 (xs : List S25) (i : Int) : S25 := xs.getD i.toNat z25
theorem at_T25 {w : World} {A : Option Addr} {n : Nat} {xs : List S25} (h : Kd.C k25 w A n xs) (i : Int) (h0 : 0 ≤ i) (h1 : i < n) : ∃ ad A3 c3 A4 c4, A = some ad ∧ w.cell? (ad.add (i.toNat * 5)) = some (.int .i64 (rd_T25 xs i).f0) ∧ w.cell? ⟨(ad.add (i.toNat * 5)).block, (ad.add (i.toNat * 5)).off + 1, none⟩ = some (.int .i64 (rd_T25 xs i).f1) ∧ w.cell? ⟨(ad.add (i.toNat * 5)).block, (ad.add (i.toNat * 5)).off + 2, none⟩ = some (.string (rd_T25 xs i).f2) ∧ w.cell? ⟨(ad.add (i.toNat * 5)).block, (ad.add (i.toNat * 5)).off + 3, none⟩ = some (.slice A3 (rd_T25 xs i).f3.length c3) ∧ w.cell? ⟨(ad.add (i.toNat * 5)).block, (ad.add (i.toNat * 5)).off + 4, none⟩ = some (.slice A4 (rd_T25 xs i).f4.length c4) ∧ (rd_T25 xs i).f3.length ≤ c3 ∧ k25.C w A3 (rd_T25 xs i).f3.length (rd_T25 xs i).f3 ∧ (rd_T25 xs i).f4.length ≤ c4 ∧ Kd.string.C w A4 (rd_T25 xs i).f4.length (rd_T25 xs i).f4 := by
 obtain ⟨ad, c, e, _, hK, hc0⟩ := Kd.C_get h z25 i h0 h1
 have hc : ∀ j u, c[j]? = some u → w.cell? (ad.add (i.toNat * 5 + j)) = some u := hc0
 obtain ⟨A3, c3, A4, c4, rfl, l3, g3, l4, g4⟩ := k25_open hK
 exact ⟨ad, A3, c3, A4, c4, e, hc 0 _ rfl, by rw [← add_field _ _ 1 (by omega)]; exact hc 1 _ rfl, by rw [← add_field _ _ 2 (by omega)]; exact hc 2 _ rfl, by rw [← add_field _ _ 3 (by omega)]; exact hc 3 _ rfl, by rw [← add_field _ _ 4 (by omega)]; exact hc 4 _ rfl, l3, g3, l4, g4⟩

end Go.Proofs.YtegppacnkfeaoaaGreatDoor.G

/- The shelf's contracts of strings.Builder's writers, laid at this dump by their numbers. Conditions: each contract's own. -/
namespace Go.Proofs.YtegppacnkfeaoaaGreatDoor
open Go.Shelf Go.RowKit
def bRen : Go.Shelf.Ren := ⟨fun | 166 => 62 | 167 => 66 | 240 => 78 | 276 => 91 | n => n, fun | 0 => 0 | 3 => 3 | 4 => 4 | 5 => 5 | 9 => 9 | 20 => 20 | 37 => 68 | 70 => 67 | 72 => 70 | 75 => 73 | 80 => 76 | 164 => 116 | n => n, fun | n => n⟩
theorem lays166 : Go.Proofs.Lays.n166 Tryz.prog bRen := {
  mixed := by kernel_rfl
  f166 := Tryz.func62.trans (congrArg some (by kernel_rfl))
  f240 := Tryz.func78.trans (congrArg some (by kernel_rfl))
  f276 := Tryz.func91.trans (congrArg some (by kernel_rfl))
  t0 := Tryz.underlying0
  a0 := Tryz.isAgg0
  z0 := Tryz.sizeOf0
  v0 := Tryz.zeroValue0
  t3 := Tryz.underlying3
  a3 := Tryz.isAgg3
  z3 := Tryz.sizeOf3
  v3 := Tryz.zeroValue3
  t4 := Tryz.underlying4
  a4 := Tryz.isAgg4
  z4 := Tryz.sizeOf4
  v4 := Tryz.zeroValue4
  t9 := Tryz.underlying9
  a9 := Tryz.isAgg9
  z9 := Tryz.sizeOf9
  v9 := Tryz.zeroValue9
  t20 := Tryz.underlying20
  a20 := Tryz.isAgg20
  z20 := Tryz.sizeOf20
  v20 := Tryz.zeroValue20
  t37 := Tryz.underlying68
  a37 := Tryz.isAgg68
  z37 := Tryz.sizeOf68
  v37 := Tryz.zeroValue68
  t70 := Tryz.underlying67
  a70 := Tryz.isAgg67
  z70 := Tryz.sizeOf67
  v70 := Tryz.zeroValue67
  t72 := Tryz.underlying70
  a72 := Tryz.isAgg70
  z72 := Tryz.sizeOf70
  v72 := Tryz.zeroValue70
  t75 := Tryz.underlying73
  a75 := Tryz.isAgg73
  z75 := Tryz.sizeOf73
  v75 := Tryz.zeroValue73
  t164 := Tryz.underlying116
  a164 := Tryz.isAgg116
  z164 := Tryz.sizeOf116
  v164 := Tryz.zeroValue116 }
theorem lays167 : Go.Proofs.Lays.n167 Tryz.prog bRen := {
  mixed := by kernel_rfl
  f167 := Tryz.func66.trans (congrArg some (by kernel_rfl))
  f240 := Tryz.func78.trans (congrArg some (by kernel_rfl))
  f276 := Tryz.func91.trans (congrArg some (by kernel_rfl))
  t0 := Tryz.underlying0
  a0 := Tryz.isAgg0
  z0 := Tryz.sizeOf0
  v0 := Tryz.zeroValue0
  t4 := Tryz.underlying4
  a4 := Tryz.isAgg4
  z4 := Tryz.sizeOf4
  v4 := Tryz.zeroValue4
  t5 := Tryz.underlying5
  a5 := Tryz.isAgg5
  z5 := Tryz.sizeOf5
  v5 := Tryz.zeroValue5
  t9 := Tryz.underlying9
  a9 := Tryz.isAgg9
  z9 := Tryz.sizeOf9
  v9 := Tryz.zeroValue9
  t20 := Tryz.underlying20
  a20 := Tryz.isAgg20
  z20 := Tryz.sizeOf20
  v20 := Tryz.zeroValue20
  t37 := Tryz.underlying68
  a37 := Tryz.isAgg68
  z37 := Tryz.sizeOf68
  v37 := Tryz.zeroValue68
  t70 := Tryz.underlying67
  a70 := Tryz.isAgg67
  z70 := Tryz.sizeOf67
  v70 := Tryz.zeroValue67
  t72 := Tryz.underlying70
  a72 := Tryz.isAgg70
  z72 := Tryz.sizeOf70
  v72 := Tryz.zeroValue70
  t75 := Tryz.underlying73
  a75 := Tryz.isAgg73
  z75 := Tryz.sizeOf73
  v75 := Tryz.zeroValue73
  t164 := Tryz.underlying116
  a164 := Tryz.isAgg116
  z164 := Tryz.sizeOf116
  v164 := Tryz.zeroValue116 }
theorem bExtra : Builder.Extra Tryz.prog bRen := {
  sizeBuilder := by kernel_rfl
  liesBuilder := by kernel_rfl
  t5 := Tryz.underlying5
  a5 := Tryz.isAgg5
  z5 := Tryz.sizeOf5
  v5 := Tryz.zeroValue5
  infoByte := by kernel_rfl
  cellsByte := by kernel_rfl
  sizeByte := by kernel_rfl
  neB5 := by decide }
theorem WriteString_calls (B b : Nat) (bs : List Value) (s : ByteArray) (w : World) (h : Lib.IsBuilder 70 5 B b bs w) (hlen : bs.length + s.size ≤ 140737488355328) (hBw : B ≤ w.heap.size) :
    Calls Tryz.prog 62 #[.pointer (some ⟨b, 0, none⟩), .string s] w fun e w' => e = .returned (.tuple #[.int .i64 s.size, .nilIface]) ∧ (Lib.BuilderAt 70 5 B b (.pointer (some ⟨b, 0, none⟩)) (bs ++ Lib.strCells s) w' ∧ Below B w w') :=
  Any.Builder_WriteString lays166 bExtra B b bs s w h hlen hBw
theorem WriteByte_calls (B b : Nat) (bs : List Value) (c : Int) (w : World) (h : Lib.IsBuilder 70 5 B b bs w) (hlen : bs.length + 1 ≤ 140737488355328) (hBw : B ≤ w.heap.size) :
    Calls Tryz.prog 66 #[.pointer (some ⟨b, 0, none⟩), .int .u8 c] w fun e w' => e = .returned .nilIface ∧ (Lib.BuilderAt 70 5 B b (.pointer (some ⟨b, 0, none⟩)) (bs ++ [.int .u8 c]) w' ∧ Below B w w') :=
  Any.Builder_WriteByte lays167 bExtra B b bs c w h hlen hBw
end Go.Proofs.YtegppacnkfeaoaaGreatDoor

/- The library's contracts at this dump, as the kit's tools lay-shelf and lay-plain write them: those that are used here. -/
namespace Go.Proofs
open Go.Shelf
def Tryz.lays169_ren : Go.Shelf.Ren := ⟨fun | 169 => 63 | n => n, fun | 70 => 67 | 9 => 9 | 0 => 0 | 72 => 70 | 37 => 68 | 127 => 106 | 3 => 3 | 5 => 5 | n => n, fun | n => n⟩
theorem Tryz.lays169 : Go.Proofs.Lays.n169 Tryz.prog Tryz.lays169_ren := {
  mixed := by kernel_rfl
  f169 := Tryz.func63.trans (congrArg some (by kernel_rfl))
  t0 := Tryz.underlying0
  a0 := Tryz.isAgg0
  z0 := Tryz.sizeOf0
  v0 := Tryz.zeroValue0
  t3 := Tryz.underlying3
  a3 := Tryz.isAgg3
  z3 := Tryz.sizeOf3
  v3 := Tryz.zeroValue3
  t9 := Tryz.underlying9
  a9 := Tryz.isAgg9
  z9 := Tryz.sizeOf9
  v9 := Tryz.zeroValue9
  t37 := Tryz.underlying68
  a37 := Tryz.isAgg68
  z37 := Tryz.sizeOf68
  v37 := Tryz.zeroValue68
  t70 := Tryz.underlying67
  a70 := Tryz.isAgg67
  z70 := Tryz.sizeOf67
  v70 := Tryz.zeroValue67
  t72 := Tryz.underlying70
  a72 := Tryz.isAgg70
  z72 := Tryz.sizeOf70
  v72 := Tryz.zeroValue70
  t127 := Tryz.underlying106
  a127 := Tryz.isAgg106
  z127 := Tryz.sizeOf106
  v127 := Tryz.zeroValue106 }
theorem Tryz.Builder_Extra_169 : Builder.Extra Tryz.prog Tryz.lays169_ren := {
  sizeBuilder := by kernel_rfl
  liesBuilder := by kernel_rfl
  t5 := Tryz.underlying5
  a5 := Tryz.isAgg5
  z5 := Tryz.sizeOf5
  v5 := Tryz.zeroValue5
  infoByte := by kernel_rfl
  cellsByte := by kernel_rfl
  sizeByte := by kernel_rfl
  neB5 := by decide }
open Go.RowKit in
theorem Tryz.Builder_String_any (B b : Nat) (l : List UInt8) (w : World) (h : Lib.IsBuilder 70 5 B b (Lib.byteCells l) w) (hBw : B ≤ w.heap.size) :
    Calls Tryz.prog 63 #[.pointer (some ⟨b, 0, none⟩)] w fun e w' => e = .returned (.string ⟨l.toArray⟩) ∧ Below B w w' := Any.Builder_String_any Tryz.lays169 Tryz.Builder_Extra_169 B b l w h hBw
def Tryz.laysM171_ren : Go.Shelf.Ren := ⟨fun | 171 => 65 | 243 => 80 | 246 => 75 | 283 => 84 | 284 => 85 | 285 => 86 | 286 => 87 | 129 => 103 | 317 => 102 | 318 => 104 | 319 => 105 | 320 => 106 | 337 => 119 | 338 => 120 | n => n, fun | 3 => 3 | 9 => 9 | 2 => 2 | 4 => 4 | 171 => 108 | 0 => 0 | 53 => 109 | 37 => 68 | 5 => 5 | 173 => 112 | 212 => 129 | 51 => 92 | 20 => 20 | 213 => 130 | 46 => 121 | 232 => 172 | 233 => 173 | n => n, fun | 17 => 1 | 18 => 4 | 19 => 5 | n => n⟩
theorem Tryz.laysM171 : Go.Proofs.LaysM.n171 Tryz.prog Tryz.laysM171_ren := {
  mixed := by kernel_rfl
  f129 := Tryz.func103.trans (congrArg some (by kernel_rfl))
  f171 := Tryz.func65.trans (congrArg some (by kernel_rfl))
  f243 := Tryz.func80.trans (congrArg some (by kernel_rfl))
  f246 := Tryz.func75.trans (congrArg some (by kernel_rfl))
  f283 := Tryz.func84.trans (congrArg some (by kernel_rfl))
  f284 := Tryz.func85.trans (congrArg some (by kernel_rfl))
  f285 := Tryz.func86.trans (congrArg some (by kernel_rfl))
  f286 := Tryz.func87.trans (congrArg some (by kernel_rfl))
  f317 := Tryz.func102.trans (congrArg some (by kernel_rfl))
  f318 := Tryz.func104.trans (congrArg some (by kernel_rfl))
  f319 := Tryz.func105.trans (congrArg some (by kernel_rfl))
  f320 := Tryz.func106.trans (congrArg some (by kernel_rfl))
  f337 := Tryz.func119.trans (congrArg some (by kernel_rfl))
  f338 := Tryz.func120.trans (congrArg some (by kernel_rfl))
  t0 := Tryz.underlying0
  a0 := Tryz.isAgg0
  z0 := Tryz.sizeOf0
  v0 := Tryz.zeroValue0
  t2 := Tryz.underlying2
  a2 := Tryz.isAgg2
  z2 := Tryz.sizeOf2
  v2 := Tryz.zeroValue2
  t3 := Tryz.underlying3
  a3 := Tryz.isAgg3
  z3 := Tryz.sizeOf3
  v3 := Tryz.zeroValue3
  t4 := Tryz.underlying4
  a4 := Tryz.isAgg4
  z4 := Tryz.sizeOf4
  v4 := Tryz.zeroValue4
  t5 := Tryz.underlying5
  a5 := Tryz.isAgg5
  z5 := Tryz.sizeOf5
  v5 := Tryz.zeroValue5
  t9 := Tryz.underlying9
  a9 := Tryz.isAgg9
  z9 := Tryz.sizeOf9
  v9 := Tryz.zeroValue9
  t20 := Tryz.underlying20
  a20 := Tryz.isAgg20
  z20 := Tryz.sizeOf20
  v20 := Tryz.zeroValue20
  t37 := Tryz.underlying68
  a37 := Tryz.isAgg68
  z37 := Tryz.sizeOf68
  v37 := Tryz.zeroValue68
  t46 := Tryz.underlying121
  a46 := Tryz.isAgg121
  z46 := Tryz.sizeOf121
  v46 := Tryz.zeroValue121
  t51 := Tryz.underlying92
  a51 := Tryz.isAgg92
  z51 := Tryz.sizeOf92
  v51 := Tryz.zeroValue92
  t53 := Tryz.underlying109
  a53 := Tryz.isAgg109
  z53 := Tryz.sizeOf109
  v53 := Tryz.zeroValue109
  t171 := Tryz.underlying108
  a171 := Tryz.isAgg108
  z171 := Tryz.sizeOf108
  v171 := Tryz.zeroValue108
  t173 := Tryz.underlying112
  a173 := Tryz.isAgg112
  z173 := Tryz.sizeOf112
  v173 := Tryz.zeroValue112
  t212 := Tryz.underlying129
  a212 := Tryz.isAgg129
  z212 := Tryz.sizeOf129
  v212 := Tryz.zeroValue129
  t213 := Tryz.underlying130
  a213 := Tryz.isAgg130
  z213 := Tryz.sizeOf130
  t232 := Tryz.underlying172
  a232 := Tryz.isAgg172
  z232 := Tryz.sizeOf172
  v232 := Tryz.zeroValue172
  t233 := Tryz.underlying173
  a233 := Tryz.isAgg173
  z233 := Tryz.sizeOf173
  v233 := Tryz.zeroValue173
  g17 := by kernel_rfl
  g18 := by kernel_rfl
  g19 := by kernel_rfl
  i0 := by kernel_rfl
  i2 := by kernel_rfl
  i3 := by kernel_rfl
  i4 := by kernel_rfl
  i5 := by kernel_rfl
  i9 := by kernel_rfl
  i20 := by kernel_rfl
  i37 := by kernel_rfl
  i46 := by kernel_rfl
  i51 := by kernel_rfl
  i53 := by kernel_rfl
  i171 := by kernel_rfl
  i173 := by kernel_rfl
  i212 := by kernel_rfl
  i232 := by kernel_rfl
  i233 := by kernel_rfl
  m17 := by kernel_rfl
  m18 := by kernel_rfl
  m19 := by kernel_rfl }
open Go.RowKit Go.Sort Go.Lib in
theorem Tryz.strconv_Itoa (n : Int) (h0 : -9223372036854775808 ≤ n) (h1 : n ≤ 9223372036854775807) (w : World) (htab : Lib.TabIs Tryz.prog w "internal/strconv.uint64pow10" .u64 Lib.pow10Tab) :
    Calls Tryz.prog 65 #[.int .i64 n] w fun e w' => e = .returned (.string ⟨(Lib.itoa n).toArray⟩) ∧ ∃ k os, w' = grow (w.drewN k) os := Any.strconv_Itoa Tryz.laysM171 n h0 h1 w htab
def Tryz.laysM173_ren : Go.Shelf.Ren := ⟨fun | 173 => 58 | 246 => 75 | 283 => 84 | 284 => 85 | 285 => 86 | 286 => 87 | 129 => 103 | 317 => 102 | 318 => 104 | 319 => 105 | 320 => 106 | 337 => 119 | 338 => 120 | n => n, fun | 2 => 2 | 3 => 3 | 9 => 9 | 4 => 4 | 171 => 108 | 0 => 0 | 53 => 109 | 37 => 68 | 5 => 5 | 173 => 112 | 212 => 129 | 51 => 92 | 20 => 20 | 213 => 130 | 46 => 121 | 232 => 172 | 233 => 173 | n => n, fun | 17 => 1 | 18 => 4 | 19 => 5 | n => n⟩
theorem Tryz.laysM173 : Go.Proofs.LaysM.n173 Tryz.prog Tryz.laysM173_ren := {
  mixed := by kernel_rfl
  f129 := Tryz.func103.trans (congrArg some (by kernel_rfl))
  f173 := Tryz.func58.trans (congrArg some (by kernel_rfl))
  f246 := Tryz.func75.trans (congrArg some (by kernel_rfl))
  f283 := Tryz.func84.trans (congrArg some (by kernel_rfl))
  f284 := Tryz.func85.trans (congrArg some (by kernel_rfl))
  f285 := Tryz.func86.trans (congrArg some (by kernel_rfl))
  f286 := Tryz.func87.trans (congrArg some (by kernel_rfl))
  f317 := Tryz.func102.trans (congrArg some (by kernel_rfl))
  f318 := Tryz.func104.trans (congrArg some (by kernel_rfl))
  f319 := Tryz.func105.trans (congrArg some (by kernel_rfl))
  f320 := Tryz.func106.trans (congrArg some (by kernel_rfl))
  f337 := Tryz.func119.trans (congrArg some (by kernel_rfl))
  f338 := Tryz.func120.trans (congrArg some (by kernel_rfl))
  t0 := Tryz.underlying0
  a0 := Tryz.isAgg0
  z0 := Tryz.sizeOf0
  v0 := Tryz.zeroValue0
  t2 := Tryz.underlying2
  a2 := Tryz.isAgg2
  z2 := Tryz.sizeOf2
  v2 := Tryz.zeroValue2
  t3 := Tryz.underlying3
  a3 := Tryz.isAgg3
  z3 := Tryz.sizeOf3
  v3 := Tryz.zeroValue3
  t4 := Tryz.underlying4
  a4 := Tryz.isAgg4
  z4 := Tryz.sizeOf4
  v4 := Tryz.zeroValue4
  t5 := Tryz.underlying5
  a5 := Tryz.isAgg5
  z5 := Tryz.sizeOf5
  v5 := Tryz.zeroValue5
  t9 := Tryz.underlying9
  a9 := Tryz.isAgg9
  z9 := Tryz.sizeOf9
  v9 := Tryz.zeroValue9
  t20 := Tryz.underlying20
  a20 := Tryz.isAgg20
  z20 := Tryz.sizeOf20
  v20 := Tryz.zeroValue20
  t37 := Tryz.underlying68
  a37 := Tryz.isAgg68
  z37 := Tryz.sizeOf68
  v37 := Tryz.zeroValue68
  t46 := Tryz.underlying121
  a46 := Tryz.isAgg121
  z46 := Tryz.sizeOf121
  v46 := Tryz.zeroValue121
  t51 := Tryz.underlying92
  a51 := Tryz.isAgg92
  z51 := Tryz.sizeOf92
  v51 := Tryz.zeroValue92
  t53 := Tryz.underlying109
  a53 := Tryz.isAgg109
  z53 := Tryz.sizeOf109
  v53 := Tryz.zeroValue109
  t171 := Tryz.underlying108
  a171 := Tryz.isAgg108
  z171 := Tryz.sizeOf108
  v171 := Tryz.zeroValue108
  t173 := Tryz.underlying112
  a173 := Tryz.isAgg112
  z173 := Tryz.sizeOf112
  v173 := Tryz.zeroValue112
  t212 := Tryz.underlying129
  a212 := Tryz.isAgg129
  z212 := Tryz.sizeOf129
  v212 := Tryz.zeroValue129
  t213 := Tryz.underlying130
  a213 := Tryz.isAgg130
  z213 := Tryz.sizeOf130
  t232 := Tryz.underlying172
  a232 := Tryz.isAgg172
  z232 := Tryz.sizeOf172
  v232 := Tryz.zeroValue172
  t233 := Tryz.underlying173
  a233 := Tryz.isAgg173
  z233 := Tryz.sizeOf173
  v233 := Tryz.zeroValue173
  g17 := by kernel_rfl
  g18 := by kernel_rfl
  g19 := by kernel_rfl
  i0 := by kernel_rfl
  i2 := by kernel_rfl
  i3 := by kernel_rfl
  i4 := by kernel_rfl
  i5 := by kernel_rfl
  i9 := by kernel_rfl
  i20 := by kernel_rfl
  i37 := by kernel_rfl
  i46 := by kernel_rfl
  i51 := by kernel_rfl
  i53 := by kernel_rfl
  i171 := by kernel_rfl
  i173 := by kernel_rfl
  i212 := by kernel_rfl
  i232 := by kernel_rfl
  i233 := by kernel_rfl
  m17 := by kernel_rfl
  m18 := by kernel_rfl
  m19 := by kernel_rfl }
open Go.RowKit Go.Sort Go.Lib in
theorem Tryz.strconv_FormatInt_10 (n : Int) (h0 : -9223372036854775808 ≤ n) (h1 : n ≤ 9223372036854775807) (w : World) (htab : Lib.TabIs Tryz.prog w "internal/strconv.uint64pow10" .u64 Lib.pow10Tab) :
    Calls Tryz.prog 58 #[.int .i64 n, .int .i64 10] w fun e w' => e = .returned (.string ⟨(Lib.itoa n).toArray⟩) ∧ ∃ k os, w' = grow (w.drewN k) os := Any.strconv_FormatInt_10 Tryz.laysM173 n h0 h1 w htab
def Tryz.lays138_ren : Go.Shelf.Ren := ⟨fun | 138 => 174 | 195 => 175 | 218 => 176 | 143 => 70 | 219 => 81 | 217 => 93 | 225 => 94 | 224 => 95 | 267 => 96 | 266 => 113 | 314 => 114 | n => n, fun | 9 => 9 | 3 => 3 | 4 => 4 | 5 => 5 | 0 => 0 | 46 => 121 | 146 => 148 | 51 => 92 | n => n, fun | 1 => 0 | n => n⟩
theorem Tryz.lays138 : Go.Proofs.Lays.n138 Tryz.prog Tryz.lays138_ren := {
  mixed := by kernel_rfl
  f138 := Tryz.func174.trans (congrArg some (by kernel_rfl))
  f143 := Tryz.func70.trans (congrArg some (by kernel_rfl))
  f195 := Tryz.func175.trans (congrArg some (by kernel_rfl))
  f217 := Tryz.func93.trans (congrArg some (by kernel_rfl))
  f218 := Tryz.func176.trans (congrArg some (by kernel_rfl))
  f219 := Tryz.func81.trans (congrArg some (by kernel_rfl))
  f224 := Tryz.func95.trans (congrArg some (by kernel_rfl))
  f225 := Tryz.func94.trans (congrArg some (by kernel_rfl))
  f266 := Tryz.func113.trans (congrArg some (by kernel_rfl))
  f267 := Tryz.func96.trans (congrArg some (by kernel_rfl))
  f314 := Tryz.func114.trans (congrArg some (by kernel_rfl))
  t0 := Tryz.underlying0
  a0 := Tryz.isAgg0
  z0 := Tryz.sizeOf0
  v0 := Tryz.zeroValue0
  t3 := Tryz.underlying3
  a3 := Tryz.isAgg3
  z3 := Tryz.sizeOf3
  v3 := Tryz.zeroValue3
  t4 := Tryz.underlying4
  a4 := Tryz.isAgg4
  z4 := Tryz.sizeOf4
  v4 := Tryz.zeroValue4
  t5 := Tryz.underlying5
  a5 := Tryz.isAgg5
  z5 := Tryz.sizeOf5
  v5 := Tryz.zeroValue5
  t9 := Tryz.underlying9
  a9 := Tryz.isAgg9
  z9 := Tryz.sizeOf9
  v9 := Tryz.zeroValue9
  t46 := Tryz.underlying121
  a46 := Tryz.isAgg121
  z46 := Tryz.sizeOf121
  v46 := Tryz.zeroValue121
  t51 := Tryz.underlying92
  a51 := Tryz.isAgg92
  z51 := Tryz.sizeOf92
  v51 := Tryz.zeroValue92
  t146 := Tryz.underlying148
  a146 := Tryz.isAgg148
  z146 := Tryz.sizeOf148
  v146 := Tryz.zeroValue148
  g1 := by kernel_rfl }
open Go.RowKit Go.Lib in
theorem Tryz.strings_Count_one (s : ByteArray) (c : UInt8) (w : World) :
    Calls Tryz.prog 174 #[.string s, .string ⟨#[c]⟩] w fun e w' => e = .returned (.int .i64 (Lib.countByte s.data.toList c)) ∧ w' = w := Any.strings_Count_one Tryz.lays138 s c w
end Go.Proofs

/- Small words for the walks: of no program. -/
namespace Go.Gw
open Go.RowKit

theorem below_grow {B : Nat} {a w : World} (h : Below B a w) (hB : B ≤ w.heap.size) (os : Array Obj) : Below B a (Sort.grow w os) :=
  h.trans ⟨rfl, rfl, rfl, by simp, fun k hk => Sort.heap_grow_old w os (by omega)⟩
theorem below_drewN' {B : Nat} {a w : World} (h : Below B a w) (n : Nat) : Below B a (w.drewN n) := below_drewN h n
theorem size_drewN (w : World) (n : Nat) : (w.drewN n).heap.size = w.heap.size := rfl

theorem ownsRow_below {w w1 : World} {base : Nat} {e : TypeId} {size n : Nat} {v : Value} {xs : List Value} (h : w.ownsRow base e size v n xs) (hb : Below w.heap.size w w1) : w1.ownsRow base e size v n xs :=
  h.kept (row := none) ⟨hb.os, hb.tape, hb.output, hb.size, fun i hi _ => hb.block i hi⟩ (by cases v.ownBlock <;> simp)

theorem builderAt_below {T e : TypeId} {B b : Nat} {p : Value} {bs : List Value} {w w' : World} (h : Lib.BuilderAt T e B b p bs w) (hb : Below w.heap.size w w') : Lib.BuilderAt T e B b p bs w' := by
  obtain ⟨h1, v, h2, h3, h4⟩ := h
  have hlt : b < w.heap.size := by
    rcases Nat.lt_or_ge b w.heap.size with h' | h'
    · exact h'
    · simp [Array.getElem?_eq_none h'] at h2
  exact ⟨h1, v, (hb.block b hlt).trans h2, ownsRow_below h3 hb, h4⟩
theorem isBuilder_below {T e : TypeId} {B b : Nat} {bs : List Value} {w w' : World} (h : Lib.IsBuilder T e B b bs w) (hb : Below w.heap.size w w') : Lib.IsBuilder T e B b bs w' := by
  rcases h with h | h
  · exact .inl (builderAt_below h hb)
  · exact .inr (builderAt_below h hb)

/-- The library's table of the powers of ten lies as its initialiser laid it. -/
structure Tab (P : Program) (w : World) : Prop where
  tab : Lib.TabIs P w "internal/strconv.uint64pow10" .u64 Lib.pow10Tab
theorem var_below {P : Program} {w w' : World} {n : String} {cs : Array Value} (h : w.var? P n = some cs) (hb : Below w.heap.size w w') : w'.var? P n = some cs := by
  unfold World.var? at h ⊢
  cases hg : P.globalNamed n with
  | none => simp [hg] at h
  | some g =>
    simp only [hg, Option.bind_some] at h ⊢
    have hlt : g < w.heap.size := by
      rcases Nat.lt_or_ge g w.heap.size with h' | h'
      · exact h'
      · rw [Array.getElem?_eq_none h'] at h; simp at h
    rw [hb.block g hlt]
    exact h
theorem Tab.below {P : Program} {w w' : World} (h : Tab P w) (hb : Below w.heap.size w w') : Tab P w' := ⟨var_below h.tab hb⟩

theorem strCells_mk (l : List UInt8) : Lib.strCells ⟨l.toArray⟩ = Lib.byteCells l := rfl
theorem str_ext {a b : ByteArray} (h : a.data.toList = b.data.toList) : a = b := by
  cases a; cases b
  simp only at h
  congr 1
  exact Array.toList_inj.1 h
theorem ext_mid (s : ByteArray) (a b : Nat) : s.extract a b = ⟨((s.data.toList.drop a).take (b - a)).toArray⟩ := by
  apply str_ext
  rw [Lib.extract_data]
theorem ret_str {a b : ByteArray} (h : a = b) : Ending.returned (.string a) = .returned (.string b) := by rw [h]
theorem ret_bool {a b : Bool} (h : a = b) : Ending.returned (.bool a) = .returned (.bool b) := by rw [h]
theorem byteTake (r : ByteArray) (k : Nat) (h : k < r.size) : (r[k]'h) ∈ r.data.toList ∧ r.data.toList.take (k + 1) = r.data.toList.take k ++ [r[k]'h] := by
  have hl : k < r.data.toList.length := by rw [Array.length_toList]; exact h
  refine ⟨?_, ?_⟩
  · show r.data[k] ∈ _
    rw [← Array.getElem_toList]
    exact List.getElem_mem hl
  · rw [List.take_succ_eq_append_getElem hl]
    congr 2
end Go.Gw

/- Layer 1 (pack), in plain Lean: rows of texts as bytes, and how bytes come apart. No program. -/
namespace Go.Pk
open Go.Lib

/-- One text of a row. -/
def cell (s : List UInt8) : List UInt8 := decDigits s.length ++ 58 :: s
/-- A row's bytes. -/
def row : List (List UInt8) → List UInt8
  | [] => []
  | s :: l => cell s ++ row l

/-- The number ahead of a text: 'inl e': the error's number; 'inr (n, rest)'. -/
def head : Nat → Nat → List UInt8 → Nat ⊕ (Nat × List UInt8)
  | _, _, [] => .inl 4
  | i, n, c :: r =>
    if c.toNat = 58 ∧ 0 < i then .inr (n, r)
    else if c.toNat < 48 ∨ 57 < c.toNat ∨ i = 9 ∨ (0 < i ∧ n = 0) then .inl 3
    else head (i + 1) (10 * n + (c.toNat - 48)) r

/-- Bytes come apart: with so much fuel. -/
def textsF : Nat → List UInt8 → Nat ⊕ List (List UInt8)
  | 0, _ => .inl 0
  | k + 1, b =>
    if b = [] then .inr []
    else match head 0 0 b with
      | .inl e => .inl e
      | .inr (n, rest) =>
        if rest.length < n then .inl 4
        else match textsF k (rest.drop n) with
          | .inl e => .inl e
          | .inr l => .inr (rest.take n :: l)
/-- The row of bytes, or the error's number. -/
def texts (b : List UInt8) : Nat ⊕ List (List UInt8) := textsF (b.length + 1) b

/-! ### Numbers and their digits -/
/-- What digits spell, behind a number. -/
def spell (n : Nat) (l : List UInt8) : Nat := l.foldl (fun a c => 10 * a + (c.toNat - 48)) n
/-! ### The head of a cell -/
theorem dec_len (u : Nat) (h : u < 1000000000) : (decDigits u).length ≤ 9 := by
  rw [decDigits_length]
  rcases Nat.lt_or_ge 9 (nDigits u) with h9 | h9
  · exfalso
    have key : ∀ (k v : Nat), v < 10 ^ k → 1 ≤ k → nDigits v ≤ k := by
      intro k
      induction k with
      | zero => intro v _ h; omega
      | succ k ih =>
        intro v hv _
        by_cases h10 : v < 10
        · rw [nDigits_small h10]; omega
        · rw [nDigits_big h10]
          rcases Nat.eq_zero_or_pos k with hk | hk
          · subst hk
            omega
          · have := ih (v / 10) (by rw [Nat.pow_succ] at hv; omega) hk
            omega
    have := key 9 u (by omega) (by omega)
    omega
  · exact h9
/-! ### Rows -/
theorem row_append (a b : List (List UInt8)) : row (a ++ b) = row a ++ row b := by
  induction a with
  | nil => rfl
  | cons s a ih => rw [List.cons_append, row, row, ih, List.append_assoc]
/-- How much there is of a row: each text's bytes and one. -/
def bulk : List (List UInt8) → Nat
  | [] => 0
  | s :: l => s.length + 1 + bulk l
theorem bulk_len (l : List (List UInt8)) : l.length ≤ bulk l := by
  induction l with
  | nil => exact Nat.zero_le _
  | cons s l ih => rw [bulk, List.length_cons]; omega
theorem bulk_mem {l : List (List UInt8)} {s : List UInt8} (h : s ∈ l) : s.length + 1 ≤ bulk l := by
  induction l with
  | nil => cases h
  | cons x l ih =>
    rw [bulk]
    rcases List.mem_cons.1 h with rfl | h
    · omega
    · have := ih h
      omega
theorem bulk_small {l : List (List UInt8)} (h : bulk l ≤ 1000000000) : ∀ s ∈ l, s.length < 1000000000 := fun s hs => by
  have := bulk_mem hs
  omega
theorem row_len (l : List (List UInt8)) (h : ∀ s ∈ l, s.length < 1000000000) : (row l).length ≤ 10 * bulk l := by
  induction l with
  | nil => simp [row]
  | cons s l ih =>
    have h1 := ih (fun x hx => h x (by simp [hx]))
    have h2 := dec_len s.length (h s (by simp))
    rw [row, bulk, List.length_append, cell, List.length_append, List.length_cons]
    omega

theorem bulk_le_row (l : List (List UInt8)) : bulk l ≤ (row l).length := by
  induction l with
  | nil => exact Nat.zero_le _
  | cons s l ih =>
    rw [row, bulk, List.length_append, cell, List.length_append, List.length_cons]
    omega
/-! ### Whatever is cut from the end -/
end Go.Pk

/- Layer 1's Row: what a call of it does. Conditions: the texts together at most a million bytes; the library's table of powers of ten as it was laid. -/
namespace Go.Proofs.YtegppacnkfeaoaaGreatDoor
open Go.RowKit Go.Gw Go.Proofs.YtegppacnkfeaoaaGreatDoorW.PrintWords
set_option linter.unusedVariables false
set_option linter.unusedSimpArgs false

theorem Itoa_calls (n : Nat) (hn : n ≤ 9223372036854775807) (w : World) (G : Tab Tryz.prog w) :
    Calls Tryz.prog 65 #[.int .i64 n] w fun e w' => e = .returned (.string ⟨(Lib.decDigits n).toArray⟩) ∧ Below w.heap.size w w' := by
  refine (Tryz.strconv_Itoa n (by omega) (by omega) w G.tab).mono ?_
  rintro e w' ⟨rfl, k, os, rfl⟩
  exact ⟨by rw [Lib.itoa_nonneg], below_grow (below_drewN' (Below.refl _ _) _) (Nat.le_refl _) _⟩

/-- Texts' bytes. -/
def raws (l : List ByteArray) : List (List UInt8) := l.map fun s => s.data.toList
def rowS (l : List ByteArray) : ByteArray := ⟨(Pk.row (raws l)).toArray⟩
theorem row_snoc (l : List (List UInt8)) (s : List UInt8) : Pk.row (l ++ [s]) = Pk.row l ++ Lib.decDigits s.length ++ [58] ++ s := by
  rw [Pk.row_append]; simp [Pk.row, Pk.cell]

theorem raws_take_len (l : List ByteArray) (k : Nat) : Pk.bulk (raws (l.take k)) ≤ Pk.bulk (raws l) := by
  induction l generalizing k with
  | nil => simp
  | cons s l ih =>
    cases k with
    | zero => simp [raws, Pk.bulk]
    | succ k => have := ih k; simp only [raws, List.take_succ_cons, List.map_cons, Pk.bulk] at this ⊢; omega
theorem take_get (l : List ByteArray) (k : Nat) (h : k < l.length) : raws (l.take (k + 1)) = raws (l.take k) ++ [(l.getD k ByteArray.empty).data.toList] := by
  rw [List.take_succ_eq_append_getElem h]
  simp only [raws, List.map_append, List.map_cons, List.map_nil, List.getD_eq_getElem?_getD, List.getElem?_eq_getElem h, Option.getD_some]
theorem row_take_len (l : List ByteArray) (k : Nat) (hb : Pk.bulk (raws l) ≤ 1000000) : (Pk.row (raws (l.take k))).length ≤ 10000000 := by
  have h1 := raws_take_len l k
  have := Pk.row_len (raws (l.take k)) (Pk.bulk_small (by omega))
  omega

set_option maxHeartbeats 1000000 in
set_option maxRecDepth 100000 in
theorem Row_calls (l : List ByteArray) (w : World) (G : Tab Tryz.prog w) (A : Option Addr) (c : Nat) (hr : Kd.C Kd.string w A l.length l) (hb : Pk.bulk (raws l) ≤ 1000000) :
    Calls Tryz.prog 45 #[.slice A l.length c] w fun e w' => e = .returned (.string (rowS l)) ∧ Below w.heap.size w w' := by
  have HR := Lib.hid hr; clear hr
  have HG := Lib.hid G; clear G
  have hll : l.length ≤ 1000000 := by
    have := Pk.bulk_len (raws l)
    simp only [raws, List.length_map] at this hb
    omega
  have HB := Lib.hid hb; clear hb
  go_enter Tryz.func45, Tryz.ntmps45
  go_wp2
  go_loopw [8] (fun i wr => ∃ k : Nat, k ≤ l.length ∧ i = .int .i64 k ∧ Aside0 (Lib.IsBuilder 70 5 w.heap.size w.heap.size (Lib.byteCells (Pk.row (raws (l.take k)))) wr) ∧ Aside0 (Below w.heap.size w wr)) (fun i _ => l.length - (intOf i).toNat)
  case atStart => exact ⟨0, Nat.zero_le _, rfl, ⟨by simpa [raws, Pk.row, Lib.byteCells] using Lib.fresh_isBuilder _ _ w⟩, ⟨(Below.refl _ _).alloc (Nat.le_refl _) _⟩⟩
  case round =>
    obtain ⟨k, hk, rfl, HI, HW⟩ := hrel
    by_cases hlt : k < l.length
    · obtain ⟨ad, e1, hc1⟩ := Kd.at_string (Kd.C_below HR.out HW.out) k (by omega) (by omega)
      cases e1
      have hc2 : wr.cell? (ad.add k) = some (.string (l.getD k ByteArray.empty)) := hc1
      clear hc1
      have hlen : (l.getD k ByteArray.empty).size ≤ 1000000 := by
        have := Pk.bulk_mem (l := raws l) (s := (l.getD k ByteArray.empty).data.toList) (by
          refine List.mem_map.2 ⟨_, ?_, rfl⟩
          rw [List.getD_eq_getElem?_getD, List.getElem?_eq_getElem hlt, Option.getD_some]
          exact List.getElem_mem hlt)
        have h2 := HB.out
        rw [data_length] at this
        omega
      generalize hs : l.getD k ByteArray.empty = s at hc2 hlen
      have HS := Lib.hid hs; clear hs
      go_wp2_with fail
      refine (Itoa_calls _ (by omega) _ (HG.out.below HW.out)).mono ?_
      rintro e w1 ⟨rfl, hb1⟩
      have HI1 := Aside0.mk (isBuilder_below HI.out hb1)
      have HB1 := Lib.hid hb1; clear hb1
      go_wp2_with fail
      have L1 : (Lib.byteCells (Pk.row (raws (l.take k)))).length ≤ 10000000 := by rw [Lib.byteCells_length]; exact row_take_len l k HB.out
      have L2 : (Lib.decDigits s.size).length ≤ 9 := Pk.dec_len s.size (by omega)
      have Z0 : w.heap.size ≤ wr.heap.size := HW.out.size
      have Z1 : wr.heap.size ≤ w1.heap.size := HB1.out.size
      refine (WriteString_calls _ _ _ _ _ HI1.out (by
        have : (⟨(Lib.decDigits s.size).toArray⟩ : ByteArray).size = (Lib.decDigits s.size).length := rfl
        omega) (by omega)).mono ?_
      rintro e w2 ⟨rfl, hI2, hb2⟩
      have HI2 := Lib.hid hI2; clear hI2
      have HB2 := Lib.hid hb2; clear hb2
      have Z2 : w1.heap.size ≤ w2.heap.size := HB2.out.size
      go_wp2_with fail
      refine (WriteByte_calls _ _ _ _ _ (.inr HI2.out) (by simp only [List.length_append, strCells_mk, Lib.byteCells_length] at L1 ⊢; omega) (by omega)).mono ?_
      rintro e w3 ⟨rfl, hI3, hb3⟩
      have HI3 := Lib.hid hI3; clear hI3
      have HB3 := Lib.hid hb3; clear hb3
      have Z3 : w2.heap.size ≤ w3.heap.size := HB3.out.size
      go_wp2_with fail
      refine (WriteString_calls _ _ _ _ _ (.inr HI3.out) (by simp only [List.length_append, strCells_mk, Lib.byteCells_length, List.length_cons, List.length_nil] at L1 ⊢; omega) (by omega)).mono ?_
      rintro e w4 ⟨rfl, hI4, hb4⟩
      have HI4 := Lib.hid hI4; clear hI4
      have HB4 := Lib.hid hb4; clear hb4
      go_wp2
      go_roundw
      case rel =>
        refine ⟨k + 1, by omega, by go_num, ⟨.inr ?_⟩, ⟨?_⟩⟩
        · rw [take_get l k hlt, HS.out, row_snoc, Lib.byteCells_append, Lib.byteCells_append, Lib.byteCells_append]
          have := HI4.out
          rw [data_length]
          simpa [strCells_mk, Lib.strCells_eq, Lib.byteCells] using this
        · exact (((HW.out.trans (HB1.out.mono Z0)).trans (HB2.out)).trans HB3.out).trans HB4.out
      case measure => simp [intOf]; omega
    · obtain rfl : k = l.length := by omega
      go_wp2_with fail
      refine (Tryz.Builder_String_any _ _ _ _ HI.out HW.out.size).mono ?_
      rintro e w1 ⟨rfl, hb1⟩
      have HB1 := Lib.hid hb1; clear hb1
      go_wp2
      go_ret
      exact ⟨by simp [rowS], HW.out.trans HB1.out⟩
end Go.Proofs.YtegppacnkfeaoaaGreatDoor

/- Layer 1's head and Texts: what calls of them do. Conditions: the bytes at most a million. -/
namespace Go.Proofs.YtegppacnkfeaoaaGreatDoor
open Go.RowKit Go.Gw Go.Proofs.YtegppacnkfeaoaaGreatDoorW.PrintWords
set_option linter.unusedVariables false
set_option linter.unusedSimpArgs false

def headV : Nat ⊕ (Nat × List UInt8) → Value
  | .inl e => .tuple #[.int .i64 0, .string ⟨#[]⟩, .int .i64 e]
  | .inr (n, r) => .tuple #[.int .i64 n, .string ⟨r.toArray⟩, .int .i64 0]
/-! ### Texts -/
def mkS (l : List UInt8) : ByteArray := ⟨l.toArray⟩
def textsE : Nat ⊕ List (List UInt8) → Int
  | .inl e => e
  | .inr _ => 0
def textsL : Nat ⊕ List (List UInt8) → List ByteArray
  | .inl _ => []
  | .inr l => l.map mkS
/-- What goes ahead of what is left. -/
def aheadT (l : List (List UInt8)) : Nat ⊕ List (List UInt8) → Nat ⊕ List (List UInt8)
  | .inl e => .inl e
  | .inr m => .inr (l ++ m)
theorem info_str : (Tryz.prog.info? 9).map (fun i => (i.zero, i.size, i.bytes)) = some (some (.string ⟨#[]⟩), 1, 16) := by kernel_rfl

/-- What Texts leaves: a row of its own, and the error's number. -/
def TextsPost (x : Nat ⊕ List (List UInt8)) (w : World) (e : Ending) (w' : World) : Prop :=
  ∃ v, e = .returned (.tuple #[v, .int .i64 (textsE x)]) ∧ Kd.R Kd.string 9 w' w.heap.size (fun _ => True) v (textsL x) ∧ Below w.heap.size w w'

end Go.Proofs.YtegppacnkfeaoaaGreatDoor

/- The reference's layer 1, and the law's guard: what calls of them do. Conditions: a million bytes at most where texts are written or read. -/
namespace Go.Proofs.YtegppacnkfeaoaaGreatDoor
open Go.RowKit Go.Gw Go.Proofs.YtegppacnkfeaoaaGreatDoorW.PrintWords
set_option linter.unusedVariables false
set_option linter.unusedSimpArgs false

/-! ### long -/
/-! ### digits -/
/-- One byte's row as a string. -/
theorem one_byte (x : Int) (w : World) : (convert 68 9 (.slice (some ⟨w.heap.size, 0, none⟩) 1 1)).run Tryz.prog (w.alloc (.cells #[.int .u8 x] 5)) = .ok (.string (strOfNums [x])) (w.alloc (.cells #[.int .u8 x] 5)) :=
  run_convert_bytes_arg _ _ _ Tryz.underlying68 Tryz.underlying5 w.heap.size 0 1 1 [x] rfl (fun i hi => by
    obtain rfl : i = 0 := by omega
    exact (World.cell?_alloc_new w _ _ 0).trans rfl) _ Tryz.underlying9
theorem strOf_dec (n : Nat) (h : n < 10) : strOfNums [48 + (n : Int)] = mkS (Lib.decDigits n) := by
  rw [Lib.decDigits_one h]
  show (⟨#[UInt8.ofNat (48 + (n : Int)).toNat]⟩ : ByteArray) = ⟨#[UInt8.ofNat (48 + n)]⟩
  rw [show (48 + (n : Int)).toNat = 48 + n by omega]
theorem mkS_append (a b : List UInt8) : mkS a ++ mkS b = mkS (a ++ b) := by
  apply str_ext
  rw [ByteArray.data_append, Array.toList_append]
  rfl
theorem mkS_size (a : List UInt8) : (mkS a).size = a.length := rfl
theorem mkS_data (a : List UInt8) : (mkS a).data.toList = a := rfl
/-! ### Row -/
/-! ### Same -/
end Go.Proofs.YtegppacnkfeaoaaGreatDoor

/- Nothing of this text is used here. -/

/- How a value that came in reads as one of a kind, and how great it is. Of no program. -/
namespace Go.Proofs.YtegppacnkfeaoaaGreatDoor
open Go.RowKit Go.Gw Go.Proofs.YtegppacnkfeaoaaGreatDoorW.PrintWords
set_option linter.unusedVariables false

/-- Whatever reads as data of type t, so deep, is of the kind d; Bd: how great it is. -/
def Opens (P : Program) (n : Nat) (t : TypeId) {α : Type} (d : Kd α) (Bd : α → Prop) : Prop :=
  ∀ {H : Type} (enc : TypeId × Value → H) (w : World) (base : Nat) (spare : Nat → Bool) (held : Bool) (fuel : Nat) (cs : List Value) (y : DataW H × List MemPlace), fuel ≤ n →
    DataW.trod enc P w base spare held fuel t cs = some y → (y.1.weights P t).all (· ≤ reachBytes) = true → ∃ x, d.K w x cs ∧ Bd x

def strBd (s : ByteArray) : Prop := s.size ≤ 140737488351232
def intBd (k : IntKind) (n : Int) : Prop := (Lit.int k n).wf = true
def rowBd {α : Type} (B : Nat) (Bd : α → Prop) (l : List α) : Prop := l.length * B ≤ 140737488351232 ∧ ∀ x ∈ l, Bd x

theorem opens_string {P : Program} {n : Nat} {t : TypeId} (ht : P.underlying t = some .string) : Opens P n t Kd.string strBd := by
  intro H enc w base spare held fuel cs y _ h hw
  obtain ⟨s, rfl, rfl, _⟩ := DataW.trod_string ht h
  refine ⟨s, rfl, ?_⟩
  simp only [DataW.weights, List.all_cons, List.all_nil, Bool.and_true, reachBytes, data_length] at hw
  show s.size ≤ 140737488351232
  exact of_decide_eq_true hw
theorem weightsAll_mem {H : Type} {P : Program} {e : TypeId} : ∀ (l : List (DataW H)) (d : DataW H), d ∈ l → ∀ q ∈ d.weights P e, q ∈ DataW.weightsAll P e l := by
  intro l
  induction l with
  | nil => intro d h; cases h
  | cons x l ih =>
    intro d h q hq
    rw [DataW.weightsAll, List.mem_append]
    rcases List.mem_cons.1 h with rfl | h
    · exact .inl hq
    · exact .inr (ih d h q hq)
theorem list_of {α : Type} {Q : Nat → α → Prop} : ∀ n, (∀ i, i < n → ∃ x, Q i x) → ∃ l : List α, l.length = n ∧ ∀ i x, l[i]? = some x → Q i x := by
  intro n
  induction n with
  | zero => intro _; exact ⟨[], rfl, fun i x h => by simp at h⟩
  | succ n ih =>
    intro h
    obtain ⟨l, hl, hq⟩ := ih (fun i hi => h i (by omega))
    obtain ⟨x, hx⟩ := h n (by omega)
    refine ⟨l ++ [x], by simp [hl], fun i y hy => ?_⟩
    rw [List.getElem?_append] at hy
    split at hy
    · exact hq i y hy
    · rename_i hi
      have : i = n := by
        rcases Nat.lt_or_ge (i - l.length) 1 with h1 | h1
        · omega
        · rw [List.getElem?_eq_none (by simpa using h1)] at hy; cases hy
      subst this
      simp [hl] at hy
      rw [← hy]
      exact hx
theorem opens_slice {P : Program} {n : Nat} {t e : TypeId} {α : Type} {d : Kd α} {Bd : α → Prop} {B : Nat} (ht : P.underlying t = some (.slice e)) (hc : P.cellsOf e = d.sz) (hB : P.bytesOf e = B) (hE : Opens P n e d Bd) :
    Opens P (n + 1) t (Kd.slice e d) (rowBd B Bd) := by
  intro H enc w base spare held fuel cs y hf h hw
  rcases DataW.trod_slice ht h with ⟨rfl, rfl⟩ | ⟨a, len, cap, elems, rest, m, rfl, rfl, rfl, hb, hl, hm, hlen, hel, _, _⟩
  · exact ⟨[], ⟨none, 0, rfl, Nat.le_refl _, ⟨rfl, Nat.zero_le _, fun h => absurd h (Nat.lt_irrefl 0)⟩⟩, ⟨by simp, by simp⟩⟩
  · have hw' : ((elems.length + rest.length) * B ≤ 140737488351232) ∧ ∀ q ∈ elems.map (·.1), ∀ z ∈ q.weights P e, z ≤ reachBytes := by
      simp only [DataW.weights, ht, List.all_cons, Bool.and_eq_true, decide_eq_true_eq, List.all_append, List.length_map, hB] at hw
      refine ⟨by simpa [reachBytes] using hw.1, fun q hq z hz => ?_⟩
      have := List.all_eq_true.1 hw.2.1 z (weightsAll_mem _ q hq z hz)
      simpa using this
    have each : ∀ i, i < len → ∃ x c, c.length = d.sz ∧ d.K w x c ∧ Bd x ∧ ∀ j u, c[j]? = some u → w.cell? (a.add (i * d.sz + j)) = some u := by
      intro i hi
      have h1 := hel i hi
      rw [List.getElem?_eq_getElem (by omega : i < elems.length), Option.bind_eq_some_iff] at h1
      obtain ⟨c, hcs, ht2⟩ := h1
      obtain ⟨x, hK, hBd⟩ := hE enc w base spare held m c elems[i] (by omega) ht2 (List.all_eq_true.2 fun z hz => by
        have := hw'.2 elems[i].1 (List.mem_map.2 ⟨_, List.getElem_mem (by omega : i < elems.length), rfl⟩) z hz
        simpa using this)
      refine ⟨x, c, d.K_len hK, hK, hBd, fun j u hu => ?_⟩
      rw [hc] at hcs
      have hj : j < d.sz := by
        have := (List.getElem?_eq_some_iff.1 hu).1
        rw [d.K_len hK] at this
        exact this
      have := (World.cells?_some hcs).2.2 j hj
      rw [hu, Addr.add_add] at this
      exact this
    obtain ⟨l, hll, hq⟩ := list_of len each
    refine ⟨l, ⟨some a, cap, by rw [hll], by omega, rfl, by rw [hll]; unfold maxLen at hm; omega, fun _ => ⟨a, rfl, fun j p hj => ?_⟩⟩, ?_, ?_⟩
    · obtain ⟨c, h1, h2, _, h4⟩ := hq j p hj
      exact ⟨c, h1, h2, h4⟩
    · rw [hll, ← hlen]
      exact Nat.le_trans (Nat.mul_le_mul_right _ (Nat.le_add_right _ _)) hw'.1
    · intro x hx
      obtain ⟨i, hi⟩ := List.getElem?_of_mem hx
      obtain ⟨_, _, _, h3, _⟩ := hq i x hi
      exact h3
/-- A slice's reading, as a walk takes it. -/
theorem C_of_slice {α : Type} {e : Nat} {d : Kd α} {w : World} {l : List α} {v : Value} (h : (Kd.slice e d).K w l [v]) : ∃ A c, v = .slice A l.length c ∧ l.length ≤ c ∧ d.C w A l.length l := by
  obtain ⟨A, c, e, h1, h2⟩ := h
  simp only [List.cons.injEq, and_true] at e
  exact ⟨A, c, e, h1, h2⟩
end Go.Proofs.YtegppacnkfeaoaaGreatDoor

/- Nothing of this text is used here. -/

/- Nothing of this text is used here. -/

/- Layer 1 (pack), in plain Lean: a number's text, and the number of a text. No program. -/
namespace Go.Pk
open Go.Lib

def inRange (n : Int) : Prop := -9223372036854775808 ≤ n ∧ n ≤ 9223372036854775807
/-- The number of a text. -/
def int (s : List UInt8) : Option Int := match parseIntB 64 s with
  | .ok v => if itoa v = s then some v else none
  | _ => none
/-- What digits spell, behind a number. -/
def spellN (n : Nat) (l : List UInt8) : Nat := l.foldl (fun a c => 10 * a + (c.toNat - 48)) n
/-! ### The other way to reckon it -/
theorem itoa_step (n : Int) (h : 10 ≤ n ∨ n ≤ -10) : itoa n = itoa (n.tdiv 10) ++ itoa (if n.tmod 10 < 0 then -(n.tmod 10) else n.tmod 10) := by
  rcases h with h | h
  · obtain ⟨u, rfl⟩ : ∃ u : Nat, n = u := ⟨n.toNat, by omega⟩
    have e1 : (u : Int).tdiv 10 = ((u / 10 : Nat) : Int) := by rw [Int.tdiv_eq_ediv_of_nonneg (by omega)]; omega
    have e2 : (u : Int).tmod 10 = ((u % 10 : Nat) : Int) := by rw [Int.tmod_eq_emod_of_nonneg (by omega)]; omega
    rw [e1, e2, if_neg (by omega), itoa_nonneg, itoa_nonneg, itoa_nonneg]
    rw [decDigits, dif_neg (by omega), decDigits_one (show u % 10 < 10 by omega)]
  · obtain ⟨u, rfl⟩ : ∃ u : Nat, n = -(u : Int) := ⟨n.natAbs, by omega⟩
    have e1 : (-(u : Int)).tdiv 10 = -((u / 10 : Nat) : Int) := by rw [Int.neg_tdiv, Int.tdiv_eq_ediv_of_nonneg (by omega)]; omega
    have e2 : (-(u : Int)).tmod 10 = -((u % 10 : Nat) : Int) := by rw [Int.neg_tmod, Int.tmod_eq_emod_of_nonneg (by omega)]; omega
    have e3 : (if -((u % 10 : Nat) : Int) < 0 then - -((u % 10 : Nat) : Int) else -((u % 10 : Nat) : Int)) = ((u % 10 : Nat) : Int) := by split <;> omega
    rw [e1, e2, e3, itoa_nonneg, itoa_neg u (by omega), itoa_neg (u / 10) (by omega)]
    rw [decDigits, dif_neg (by omega), decDigits_one (show u % 10 < 10 by omega)]
    rfl
end Go.Pk

/- Layer 1's numbers (pack.Num, pack.Int) and the reference's: what calls of them do. Conditions: the library's table of powers of ten, its two errors of numbers, as they were laid; the text at most a million bytes. -/
namespace Go.Proofs.YtegppacnkfeaoaaGreatDoor
open Go.RowKit Go.Gw Go.Proofs.YtegppacnkfeaoaaGreatDoorW.PrintWords
set_option linter.unusedVariables false
set_option linter.unusedSimpArgs false

def numS (n : Int) : ByteArray := ⟨(Lib.itoa n).toArray⟩
theorem Num_calls (n : Int) (hn : Pk.inRange n) (w : World) (G : Tab Tryz.prog w) :
    Calls Tryz.prog 38 #[.int .i64 n] w fun e w' => e = .returned (.string (numS n)) ∧ Below w.heap.size w w' := by
  have hf : Calls Tryz.prog 58 #[.int .i64 n, .int .i64 10] w fun e w' => e = .returned (.string (numS n)) ∧ Below w.heap.size w w' := by
    refine (Tryz.strconv_FormatInt_10 n hn.1 hn.2 w G.tab).mono ?_
    rintro e w' ⟨rfl, k, os, rfl⟩
    exact ⟨rfl, below_grow (below_drewN' (Below.refl _ _) _) (Nat.le_refl _) _⟩
  go_enter Tryz.func38, Tryz.ntmps38
  go_wp2_with fail
  refine hf.mono ?_
  rintro e w1 ⟨rfl, hb1⟩
  have HB := Lib.hid hb1; clear hb1
  go_wp2
  go_ret
  exact ⟨rfl, HB.out⟩

/-- The library's two errors of numbers are there. -/
structure Errs (P : Program) (w : World) : Prop where
  syn : ∃ tp p, w.var? P "strconv.ErrSyntax" = some #[.iface tp p]
  rng : ∃ tp p, w.var? P "strconv.ErrRange" = some #[.iface tp p]
theorem Errs.below {P : Program} {w w' : World} (h : Errs P w) (hb : Below w.heap.size w w') : Errs P w' :=
  ⟨by obtain ⟨tp, p, h⟩ := h.syn; exact ⟨tp, p, var_below h hb⟩, by obtain ⟨tp, p, h⟩ := h.rng; exact ⟨tp, p, var_below h hb⟩⟩

def intOr (x : Option Int) : Value := .tuple #[.int .i64 (x.getD 0), .bool x.isSome]
/-! ### The reference -/
theorem numS_nonneg (n : Nat) : numS n = mkS (Lib.decDigits n) := by show (⟨_⟩ : ByteArray) = ⟨_⟩; rw [Lib.itoa_nonneg]
theorem numS_size {n : Int} (h : Pk.inRange n) : (numS n).size ≤ 21 := Lib.itoa_length_le n h.1 h.2
set_option maxHeartbeats 1000000 in
set_option maxRecDepth 100000 in
theorem RNum_one (n : Nat) (h : n < 10) (w : World) :
    Calls Tryz.prog 42 #[.int .i64 n] w fun e w' => e = .returned (.string (numS n)) ∧ Below w.heap.size w w' := by
  have hcv := one_byte (48 + (n : Int)) w
  have HD := Lib.hid (strOf_dec n h)
  go_enter Tryz.func42, Tryz.ntmps42
  go_wp2
  go_ret
  exact ⟨ret_str (by rw [numS_nonneg]; exact HD.out), (Below.refl _ _).alloc (Nat.le_refl _) _⟩
set_option maxHeartbeats 1000000 in
set_option maxRecDepth 100000 in
theorem RNum_calls (m : Nat) : ∀ n : Int, n.natAbs = m → Pk.inRange n → ∀ w : World,
    Calls Tryz.prog 42 #[.int .i64 n] w fun e w' => e = .returned (.string (numS n)) ∧ Below w.heap.size w w' := by
  induction m using Nat.strongRecOn with
  | _ m ih =>
    intro n hm hr w
    by_cases h : 0 ≤ n ∧ n < 10
    · obtain ⟨u, rfl⟩ : ∃ u : Nat, n = u := ⟨n.toNat, by omega⟩
      exact RNum_one u (by omega) w
    by_cases h2 : -10 < n ∧ n < 0
    · obtain ⟨u, rfl, hu⟩ : ∃ u : Nat, n = -(u : Int) ∧ 1 ≤ u := ⟨n.natAbs, by omega, by omega⟩
      have hz := numS_size (n := (u : Int)) ⟨by omega, by omega⟩
      have HQ : Hid (numS (-(u : Int)) = mkS [45] ++ numS u) := by
        unfold Hid
        rw [numS_nonneg, mkS_append]
        show (⟨_⟩ : ByteArray) = ⟨_⟩
        rw [Lib.itoa_neg u hu]
        rfl
      go_enter Tryz.func42, Tryz.ntmps42
      go_wp2_with fail
      refine (RNum_one u (by omega) w).mono ?_
      rintro e w1 ⟨rfl, hb1⟩
      have HB1 := Lib.hid hb1; clear hb1
      go_wp2
      go_ret
      exact ⟨ret_str (by rw [HQ.out]; rfl), HB1.out⟩
    · have h3 : 10 ≤ n ∨ n ≤ -10 := by omega
      have HQ : Hid (numS n = numS (n.tdiv 10) ++ numS (if n.tmod 10 < 0 then -(n.tmod 10) else n.tmod 10)) := by
        unfold Hid
        have e := Pk.itoa_step n h3
        apply str_ext
        rw [ByteArray.data_append, Array.toList_append]
        exact e
      obtain ⟨r1, r2⟩ := hr
      rcases h3 with h3 | h3
      · obtain ⟨u, rfl⟩ : ∃ u : Nat, n = u := ⟨n.toNat, by omega⟩
        rw [show (u : Int).tdiv 10 = ((u / 10 : Nat) : Int) by rw [Int.tdiv_eq_ediv_of_nonneg (by omega)]; omega, show (u : Int).tmod 10 = ((u % 10 : Nat) : Int) by rw [Int.tmod_eq_emod_of_nonneg (by omega)]; omega, if_neg (by omega)] at HQ
        obtain ⟨v, hv⟩ : ∃ v, v = u / 10 := ⟨_, rfl⟩
        obtain ⟨z, hz⟩ : ∃ z, z = u % 10 := ⟨_, rfl⟩
        rw [← hv, ← hz] at HQ
        have IH := Lib.hid (ih v (by omega) (v : Int) (by omega) ⟨by omega, by omega⟩); clear ih
        have hz1 := numS_size (n := (v : Int)) ⟨by omega, by omega⟩
        have hz2 := numS_size (n := (z : Int)) ⟨by omega, by omega⟩
        have e1 : (u : Int) / 10 = (v : Int) := by omega
        have e2 : (u : Int) % 10 = (z : Int) := by omega
        have E1 := Lib.hid e1; have E2 := Lib.hid e2; clear e1 e2
        have hlt : z < 10 := by omega
        clear hv hz
        go_enter Tryz.func42, Tryz.ntmps42
        go_wp2_with fail
        rw [E1.out]
        refine (IH.out _).mono ?_
        rintro e w1 ⟨rfl, hb1⟩
        have HB1 := Lib.hid hb1; clear hb1
        go_wp2_with fail
        rw [E2.out]
        refine (RNum_one z hlt _).mono ?_
        rintro e w2 ⟨rfl, hb2⟩
        have HB2 := Lib.hid (HB1.out.trans (hb2.mono HB1.out.size)); clear hb2
        go_wp2
        go_ret
        exact ⟨ret_str HQ.out.symm, HB2.out⟩
      · obtain ⟨u, rfl, hu⟩ : ∃ u : Nat, n = -(u : Int) ∧ 10 ≤ u := ⟨n.natAbs, by omega, by omega⟩
        have e1 : (-(u : Int)).tdiv 10 = -((u / 10 : Nat) : Int) := by rw [Int.neg_tdiv, Int.tdiv_eq_ediv_of_nonneg (by omega)]; omega
        have e2 : (-(u : Int)).tmod 10 = -((u % 10 : Nat) : Int) := by rw [Int.neg_tmod, Int.tmod_eq_emod_of_nonneg (by omega)]; omega
        rw [e1, e2, show (if -((u % 10 : Nat) : Int) < 0 then - -((u % 10 : Nat) : Int) else -((u % 10 : Nat) : Int)) = ((u % 10 : Nat) : Int) by split <;> omega] at HQ
        clear e1 e2
        obtain ⟨v, hv⟩ : ∃ v, v = u / 10 := ⟨_, rfl⟩
        obtain ⟨z, hz⟩ : ∃ z, z = u % 10 := ⟨_, rfl⟩
        rw [← hv, ← hz] at HQ
        have IH := Lib.hid (ih v (by omega) (-(v : Int)) (by omega) ⟨by omega, by omega⟩); clear ih
        have hz1 := numS_size (n := -(v : Int)) ⟨by omega, by omega⟩
        have hz2 := numS_size (n := (z : Int)) ⟨by omega, by omega⟩
        have e1 : -((u : Int) / 10) = -(v : Int) := by omega
        have e2 : (u : Int) % 10 = (z : Int) := by omega
        have E1 := Lib.hid e1; have E2 := Lib.hid e2; clear e1 e2
        have hlt : z < 10 := by omega
        clear hv hz
        by_cases h0 : z = 0
        · subst h0
          have hz3 : (numS 0).size ≤ 21 := hz2
          have e3 : ((u : Int) % 10 ≤ 0) := by have := E2.out; omega
          have e4 : (-((u : Int) % 10)) = ((0 : Nat) : Int) := by have := E2.out; omega
          have E4 := Lib.hid e4; clear e4
          go_enter Tryz.func42, Tryz.ntmps42
          go_wp2_with fail
          rw [E1.out]
          refine (IH.out _).mono ?_
          rintro e w1 ⟨rfl, hb1⟩
          have HB1 := Lib.hid hb1; clear hb1
          go_wp2_with fail
          rw [E4.out]
          refine (RNum_one 0 hlt _).mono ?_
          rintro e w2 ⟨rfl, hb2⟩
          have HB2 := Lib.hid (HB1.out.trans (hb2.mono HB1.out.size)); clear hb2
          go_wp2
          go_ret
          exact ⟨ret_str HQ.out.symm, HB2.out⟩
        · have e3 : (0 < (u : Int) % 10) := by have := E2.out; omega
          go_enter Tryz.func42, Tryz.ntmps42
          go_wp2_with fail
          rw [E1.out]
          refine (IH.out _).mono ?_
          rintro e w1 ⟨rfl, hb1⟩
          have HB1 := Lib.hid hb1; clear hb1
          go_wp2_with fail
          rw [E2.out]
          refine (RNum_one z hlt _).mono ?_
          rintro e w2 ⟨rfl, hb2⟩
          have HB2 := Lib.hid (HB1.out.trans (hb2.mono HB1.out.size)); clear hb2
          go_wp2
          go_ret
          exact ⟨ret_str HQ.out.symm, HB2.out⟩

/-! ### The reference's Int -/
/-- What lies behind the sign, and the sign. -/
def sgn (mi : Bool) (x : Int) : Int := if mi then -x else x
def signed (mi : Bool) (r : List UInt8) : List UInt8 := if mi then 45 :: r else r
end Go.Proofs.YtegppacnkfeaoaaGreatDoor

/- The library's Once and its lock, one goroutine, not yet done, the lock free: each part by its contract. -/
namespace Go.Proofs.YtegppacnkfeaoaaGreatDoor
open Go.RowKit
set_option linter.unusedVariables false
set_option linter.unusedSimpArgs false

theorem disable (w : World) : (callFunc 127 #[]).run Tryz.prog w = .ok (.value (.tuple #[])) w := run_call_mark0 Tryz.func127 (by kernel_rfl) (by kernel_rfl) (by kernel_rfl) .disable (by kernel_rfl) w
theorem enable (w : World) : (callFunc 129 #[]).run Tryz.prog w = .ok (.value (.tuple #[])) w := run_call_mark0 Tryz.func129 (by kernel_rfl) (by kernel_rfl) (by kernel_rfl) .enable (by kernel_rfl) w
theorem acquire (a : Addr) (w : World) : (callFunc 130 #[.pointer (some a)]).run Tryz.prog w = .ok (.value (.tuple #[])) w := run_call_marked Tryz.func130 (by kernel_rfl) (by kernel_rfl) (by kernel_rfl) .acquire (by kernel_rfl) a w
theorem releaseMerge (a : Addr) (w : World) : (callFunc 132 #[.pointer (some a)]).run Tryz.prog w = .ok (.value (.tuple #[])) w := run_call_marked Tryz.func132 (by kernel_rfl) (by kernel_rfl) (by kernel_rfl) .releaseMerge (by kernel_rfl) a w

/-- '(*sync/atomic.Bool).Store(true)', ENTERED AS A DEFERRED CALL: the cell holds 1. -/
theorem store_deferred (a : Addr) (x : Value) (u : FrameMode) (w : World) (hc : w.cell? a = some x) (hz : w.frozen? a = false) :
    CallsD Tryz.prog 110 #[.pointer (some a), .bool true] u w fun e u' w' => u' = u ∧ (e = .returned (.tuple #[]) ∧ w' = w.drew.setCell a (.int .u32 1)) := by
  have hc' : w.drew.cell? a = some x := by go_simp
  have hz' : w.drew.frozen? a = false := by go_simp
  have hst := run_call_store (P := Tryz.prog) Tryz.func123 (by kernel_rfl) (by kernel_rfl) (by kernel_rfl) (by kernel_rfl) (k := .u32) (y := 1) hc' hz'
  go_enter_d Tryz.func110, Tryz.ntmps110
  go_wp2
  go_region_calls
  all_goals (go_end0; exact ⟨rfl, rfl⟩)

set_option maxRecDepth 100000 in
set_option maxHeartbeats 1000000 in
/-- '(*sync.Mutex).Unlock', ENTERED AS A DEFERRED CALL, the lock held and nobody waiting (state 1): state 0. -/
theorem unlock_deferred (a : Addr) (u : FrameMode) (w : World) (hc : w.cell? a = some (.int .i32 1)) (hz : w.frozen? a = false) :
    CallsD Tryz.prog 109 #[.pointer (some a)] u w fun e u' w' => u' = u ∧ (e = .returned (.tuple #[]) ∧ w' = w.setCell a (.int .i32 0)) := by
  have hd := disable
  have he := enable
  have hr := releaseMerge
  have hadd := run_call_add (P := Tryz.prog) Tryz.func133 (by kernel_rfl) (by kernel_rfl) (by kernel_rfl) .i32 (by kernel_rfl) (y := -1) (s := 0) hc hz (by simp [go_sem]; rfl)
  have hcv := run_convert_to_unsafe (P := Tryz.prog) (src := 174) (dst := 116) Tryz.underlying174 Tryz.underlying116 (by kernel_rfl) hc
  go_enter_d Tryz.func109, Tryz.ntmps109
  go_wp2
  go_end0
  go_wp2
  go_end0
  exact ⟨rfl, rfl⟩

set_option maxRecDepth 100000 in
set_option maxHeartbeats 1000000 in
/-- '(*sync.Mutex).Lock', the lock free (state 0): state 1. -/
theorem lock_free (a : Addr) (w : World) (hc : w.cell? a = some (.int .i32 0)) (hz : w.frozen? a = false) :
    Calls Tryz.prog 108 #[.pointer (some a)] w fun e w' => e = .returned (.tuple #[]) ∧ w' = w.setCell a (.int .i32 1) := by
  have hd := disable
  have he := enable
  have ha := acquire
  have hcas := run_call_cas_hit (P := Tryz.prog) Tryz.func128 (by kernel_rfl) (by kernel_rfl) (by kernel_rfl) .i32 (by kernel_rfl) (y := 1) hc hz
  have hc' : (w.setCell a (.int .i32 1)).cell? a = some (.int .i32 1) := World.cell?_setCell_same w a _ hc
  have hcv := run_convert_to_unsafe (P := Tryz.prog) (src := 174) (dst := 116) Tryz.underlying174 Tryz.underlying116 (by kernel_rfl) hc'
  go_enter Tryz.func108, Tryz.ntmps108
  go_wp2
  first | go_end0 | (simp only [Exit.inBlock, Exit.then]; refine bodyPost_ret (results_none rfl _ _ _) rfl ?_) | refine bodyPost_ret (results_none rfl _ _ _) rfl ?_
  go_wp2
  go_end0
  exact ⟨rfl, rfl⟩
end Go.Proofs.YtegppacnkfeaoaaGreatDoor

/- The library's replacer of single bytes by texts, at lex.Quote's three: built once, then used. -/
namespace Go.Proofs.YtegppacnkfeaoaaGreatDoor
open Go.RowKit Go.Gw Go.Proofs.YtegppacnkfeaoaaGreatDoorW.PrintWords
set_option linter.unusedVariables false
set_option linter.unusedSimpArgs false

/-- The old texts and the new ones, in turn. -/
def olds : List ByteArray := [⟨#[34]⟩, ⟨#[92, 34]⟩, ⟨#[92]⟩, ⟨#[92, 92]⟩, ⟨#[10]⟩, ⟨#[92, 110]⟩]
/-- They lie so, in a row of the call's own. -/
structure OldsAt (w : World) (G : Nat) : Prop where
  h0 : w.cell? ⟨G, 0, none⟩ = some (.string ⟨#[34]⟩)
  h1 : w.cell? ⟨G, 1, none⟩ = some (.string ⟨#[92, 34]⟩)
  h2 : w.cell? ⟨G, 2, none⟩ = some (.string ⟨#[92]⟩)
  h3 : w.cell? ⟨G, 3, none⟩ = some (.string ⟨#[92, 92]⟩)
  h4 : w.cell? ⟨G, 4, none⟩ = some (.string ⟨#[10]⟩)
  h5 : w.cell? ⟨G, 5, none⟩ = some (.string ⟨#[92, 110]⟩)
theorem OldsAt.below {w w' : World} {G : Nat} (h : OldsAt w G) (hb : Below w.heap.size w w') : OldsAt w' G :=
  ⟨pw_cell_below hb h.h0, pw_cell_below hb h.h1, pw_cell_below hb h.h2, pw_cell_below hb h.h3, pw_cell_below hb h.h4, pw_cell_below hb h.h5⟩
theorem info_strR : (Tryz.prog.info? 9).map (fun i => (i.zero, i.size, i.bytes)) = some (some (.string ⟨#[]⟩), 1, 16) := by kernel_rfl

/-- What stands for a byte, the first n rounds having been. -/
def escP (n k : Nat) : Option (Int × Int) := if k = 10 ∧ 1 ≤ n then some (92, 110) else if k = 92 ∧ 2 ≤ n then some (92, 92) else if k = 34 ∧ 3 ≤ n then some (92, 34) else none
def lst (n : Nat) : List ByteArray := ([⟨#[10]⟩, ⟨#[92]⟩, ⟨#[34]⟩] : List ByteArray).take n
/-- What a cell of the table holds. -/
def EntryP (W : World) (B Q : Nat) (x : Option (Int × Int)) (v : Value) : Prop := match x with
  | none => v = .slice none 0 0
  | some l => ∃ g c, v = .slice (some ⟨g, 0, none⟩) 2 c ∧ B ≤ g ∧ g ≠ Q ∧ (∃ cells fr, W.heap[g]? = some (.cells cells 5 fr)) ∧ W.cell? ⟨g, 0, none⟩ = some (.int .u8 l.1) ∧ W.cell? ⟨g, 1, none⟩ = some (.int .u8 l.2)
theorem EntryP.move {W W' : World} {B Q : Nat} {x : Option (Int × Int)} {v : Value} (h : EntryP W B Q x v) (hm : ∀ k cells fr, B ≤ k → k ≠ Q → W.heap[k]? = some (.cells cells 5 fr) → W'.heap[k]? = W.heap[k]?) : EntryP W' B Q x v := by
  cases x with
  | none => exact h
  | some l =>
    obtain ⟨g, c, rfl, h1, h2, ⟨cells, fr, h3⟩, h4, h5⟩ := h
    have e := hm g cells fr h1 h2 h3
    refine ⟨g, c, rfl, h1, h2, ⟨cells, fr, e.trans h3⟩, ?_, ?_⟩
    · rw [World.cell?_of_block e]; exact h4
    · rw [World.cell?_of_block e]; exact h5
/-- The table, the first n rounds having been. -/
structure TablP (n : Nat) (W : World) (B Q : Nat) (TL : Value) : Prop where
  lo : B ≤ Q
  cells : ∃ cur, W.heap[Q]? = some (.cells cur 146 (0, 0)) ∧ cur.size = 257 ∧ cur[256]? = some TL ∧ ∀ k, k < 256 → ∃ v, cur[k]? = some v ∧ EntryP W B Q (escP n k) v
  row : Kd.R Kd.string 9 W B (fun b => b ≠ Q) TL (lst n)
section
variable {n : Nat} {W W' : World} {B Q : Nat} {TL : Value}
theorem TablP.lt (h : TablP n W B Q TL) : Q < W.heap.size := by
  obtain ⟨cur, h1, _⟩ := h.cells
  exact blk_lt h1
theorem TablP.below (h : TablP n W B Q TL) (hb : Below W.heap.size W W') : TablP n W' B Q TL := by
  refine ⟨h.lo, ?_, Kd.R_below h.row hb⟩
  obtain ⟨cur, h1, h2, h3, h4⟩ := h.cells
  refine ⟨cur, (hb.block Q (blk_lt h1)).trans h1, h2, h3, fun k hk => ?_⟩
  obtain ⟨v, h5, h6⟩ := h4 k hk
  exact ⟨v, h5, h6.move fun j _ _ _ _ hj => hb.block j (blk_lt hj)⟩
/-- What the walk reads of it. -/
theorem TablP.list (h : TablP n W B Q TL) : W.cell? ⟨Q, 256, none⟩ = some TL ∧ W.frozen? ⟨Q, 256, none⟩ = false := by
  obtain ⟨cur, h1, h2, h3, _⟩ := h.cells
  exact ⟨by simp [World.cell?, h1, h3], by simp [World.frozen?, h1]⟩
theorem TablP.entry (h : TablP n W B Q TL) (k : Nat) (hk : k < 256) : ∃ v, W.cell? ⟨Q, k, none⟩ = some v ∧ W.frozen? ⟨Q, k, none⟩ = false ∧ EntryP W B Q (escP n k) v := by
  obtain ⟨cur, h1, h2, _, h4⟩ := h.cells
  obtain ⟨v, h5, h6⟩ := h4 k hk
  exact ⟨v, by simp [World.cell?, h1, h5], by simp [World.frozen?, h1], h6⟩
end
theorem one_byteR (x : Int) (w : World) : (convert 68 9 (.slice (some ⟨w.heap.size, 0, none⟩) 1 1)).run Tryz.prog (w.alloc (.cells #[.int .u8 x] 5)) = .ok (.string (strOfNums [x])) (w.alloc (.cells #[.int .u8 x] 5)) :=
  run_convert_bytes_arg _ _ _ Tryz.underlying68 Tryz.underlying5 w.heap.size 0 1 1 [x] rfl (fun i hi => by
    obtain rfl : i = 0 := by omega
    exact (World.cell?_alloc_new w _ _ 0).trans rfl) _ Tryz.underlying9
theorem heap_set {w : World} {g : Nat} {cells : Array Value} {e : TypeId} {fr : Nat × Nat} (h : w.heap[g]? = some (.cells cells e fr)) (j : Nat) (u : Value) :
    (w.setCell ⟨g, j, none⟩ u).heap[g]? = some (.cells (cells.setIfInBounds j u) e fr) := by
  simp only [World.setCell, Array.getElem?_modify, if_pos, h, Option.map_some]
  simp
theorem heap_set_ne (w : World) {g k : Nat} (hk : k ≠ g) (j : Nat) (u : Value) : (w.setCell ⟨g, j, none⟩ u).heap[k]? = w.heap[k]? := Below.heap_setCell _ _ _ _ hk
/-- A round of the table's making. -/
theorem tabl_step {n kb c : Nat} {a b : Int} {s : ByteArray} {W w2 : World} {B Q : Nat} {TL v1 : Value} (h : TablP n W B Q TL) (hown : Kd.R Kd.string 9 w2 B (fun b => b ≠ Q) v1 (lst (n + 1))) (hg : W.grownBy w2 TL.ownBlock)
    (hkb : kb < 256) (hn : ∀ k, escP (n + 1) k = if k = kb then some (a, b) else escP n k) (hs : s.size = 2) (h0 : ((s.data.toList.getD 0 0).toNat : Int) = a) (h1 : ((s.data.toList.getD 1 0).toNat : Int) = b) :
    TablP (n + 1) ((Lib.bytesWorld (w2.setCell ⟨Q, 256, none⟩ v1) 5 s).setCell ⟨Q, kb, none⟩ (.slice (some ⟨w2.heap.size, 0, none⟩) 2 c)) B Q v1 := by
  obtain ⟨cur, c1, c2, c3, c4⟩ := h.cells
  have hQ : Q < W.heap.size := blk_lt c1
  have hQ2 : some Q ≠ TL.ownBlock := fun e => h.row.1 Q e.symm rfl
  have d1 : w2.heap[Q]? = some (.cells cur 146 (0, 0)) := (hg.block Q hQ hQ2).trans c1
  have z1 : (w2.setCell ⟨Q, 256, none⟩ v1).heap.size = w2.heap.size := by simp [World.setCell]
  have hQw : Q < w2.heap.size := blk_lt d1
  have d2 := heap_set d1 256 v1
  have d3 : (Lib.bytesWorld (w2.setCell ⟨Q, 256, none⟩ v1) 5 s).heap[Q]? = _ := (Lib.bytesWorld_at_old _ 5 s Q (by rw [z1]; exact hQw)).trans d2
  have d4 := heap_set d3 kb (.slice (some ⟨w2.heap.size, 0, none⟩) 2 c)
  refine ⟨h.lo, ⟨_, d4, by simp [c2], ?_, ?_⟩, ?_⟩
  · rw [Array.getElem?_setIfInBounds_ne (by omega), Array.getElem?_setIfInBounds_self, if_pos (by omega)]
  · intro k hk
    by_cases hkk : k = kb
    · subst hkk
      refine ⟨_, Array.getElem?_setIfInBounds_self_of_lt (by simp; omega), ?_⟩
      rw [hn, if_pos rfl]
      have nb := Lib.bytesWorld_at_new (w2.setCell ⟨Q, 256, none⟩ v1) 5 s
      have nc := Lib.bytesWorld_cell (w2.setCell ⟨Q, 256, none⟩ v1) 5 s
      rw [z1] at nb nc
      have ne : w2.heap.size ≠ Q := by omega
      have hbk := heap_set_ne (Lib.bytesWorld (w2.setCell ⟨Q, 256, none⟩ v1) 5 s) ne k (.slice (some ⟨w2.heap.size, 0, none⟩) 2 c)
      refine ⟨w2.heap.size, c, rfl, ?_, ne, ⟨_, _, hbk.trans nb⟩, ?_, ?_⟩
      · have := h.lo; omega
      · rw [World.cell?_of_block (a := ⟨w2.heap.size, 0, none⟩) hbk, nc 0 (by omega), h0]
      · rw [World.cell?_of_block (a := ⟨w2.heap.size, 1, none⟩) hbk, nc 1 (by omega), h1]
    · obtain ⟨v, e1, e2⟩ := c4 k hk
      refine ⟨v, ?_, ?_⟩
      · rw [Array.getElem?_setIfInBounds_ne (fun e => hkk e.symm), Array.getElem?_setIfInBounds_ne (by omega)]
        exact e1
      · rw [hn, if_neg hkk]
        refine e2.move fun g cells fr hB hgQ hgh => ?_
        rw [heap_set_ne _ hgQ, Lib.bytesWorld_at_old _ _ _ _ (by rw [z1]; exact Nat.lt_of_lt_of_le (blk_lt hgh) hg.size), heap_set_ne _ hgQ]
        refine hg.block g (blk_lt hgh) (fun e => ?_)
        obtain ⟨cells', ht⟩ := Kd.R_typed h.row g e.symm
        rw [hgh] at ht
        cases ht
  · have r1 := Kd.R_far (p := ⟨Q, 256, none⟩) hown (fun k hk => hk) v1
    have r2 := Kd.R_below r1 (bytes_below (Below.refl _ _) (Nat.le_refl _) 5 s)
    exact Kd.R_far (p := ⟨Q, kb, none⟩) r2 (fun k hk => hk) _
/-- What the walk reads in a round. -/
theorem step_facts {n kb : Nat} {W w2 : World} {B Q : Nat} {TL : Value} (h : TablP n W B Q TL) (hg : W.grownBy w2 TL.ownBlock) (hkb : kb < 256) (hn : escP n kb = none) (v1 : Value) (s : ByteArray) :
    (w2.cell? ⟨Q, 256, none⟩ = some TL ∧ w2.frozen? ⟨Q, 256, none⟩ = false) ∧
    (Lib.bytesWorld (w2.setCell ⟨Q, 256, none⟩ v1) 5 s).cell? ⟨Q, kb, none⟩ = some (.slice none 0 0) ∧ (Lib.bytesWorld (w2.setCell ⟨Q, 256, none⟩ v1) 5 s).frozen? ⟨Q, kb, none⟩ = false := by
  obtain ⟨cur, c1, c2, c3, c4⟩ := h.cells
  obtain ⟨v, c5, c6⟩ := c4 kb hkb
  rw [hn] at c6
  obtain rfl : v = .slice none 0 0 := c6
  have hQ : Q < W.heap.size := blk_lt c1
  have hQ2 : some Q ≠ TL.ownBlock := fun e => h.row.1 Q e.symm rfl
  have d1 : w2.heap[Q]? = some (.cells cur 146 (0, 0)) := (hg.block Q hQ hQ2).trans c1
  have z1 : (w2.setCell ⟨Q, 256, none⟩ v1).heap.size = w2.heap.size := by simp [World.setCell]
  have d2 := heap_set d1 256 v1
  have d3 : (Lib.bytesWorld (w2.setCell ⟨Q, 256, none⟩ v1) 5 s).heap[Q]? = _ := (Lib.bytesWorld_at_old _ 5 s Q (by rw [z1]; exact blk_lt d1)).trans d2
  refine ⟨⟨?_, ?_⟩, ?_, ?_⟩
  · simp [World.cell?, d1, c3]
  · simp [World.frozen?, d1]
  · have : (cur.setIfInBounds 256 v1)[kb]? = some (.slice none 0 0) := by rw [Array.getElem?_setIfInBounds_ne (by omega)]; exact c5
    simp only [World.cell?, d3]
    simpa using this
  · simp [World.frozen?, d3]
theorem escP_1 (k : Nat) : escP (0 + 1) k = if k = 10 then some (92, 110) else escP 0 k := by
  unfold escP
  by_cases h : k = 10 <;> simp [h]
theorem escP_2 (k : Nat) : escP (1 + 1) k = if k = 92 then some (92, 92) else escP 1 k := by
  unfold escP
  by_cases h : k = 92
  · subst h; simp
  · by_cases h2 : k = 10 <;> simp [h, h2]
theorem escP_3 (k : Nat) : escP (2 + 1) k = if k = 34 then some (92, 34) else escP 2 k := by
  unfold escP
  by_cases h : k = 34
  · subst h; simp
  · by_cases h2 : k = 10 <;> by_cases h3 : k = 92 <;> simp [h, h2, h3]
theorem heap_new (w : World) (o : Obj) : (w.alloc o).heap[w.heap.size]? = some o := by
  show (w.heap.push o)[w.heap.size]? = some o
  simp
theorem all_set (n i : Nat) (v : Value) (hv : v.oneCell' = true) : ((Array.replicate n (Value.slice none 0 0)).setIfInBounds i v).all (·.oneCell') = true := by
  rw [Array.all_eq_true]
  intro k hk
  rw [Array.getElem_setIfInBounds]
  split
  · exact hv
  · rw [Array.getElem_replicate]; rfl
  · simpa using hk
theorem zero_tbl : Tryz.zeroCells146 = Array.replicate 257 (.slice none 0 0) := by kernel_rfl
theorem tabl_start {w w1 : World} (hown : w1.ownsRow w.heap.size 9 1 (.slice (some ⟨w.heap.size, 0, none⟩) 0 3) 0 []) (hgr : w.grownBy w1 none) :
    TablP 0 ((w1.alloc (.cells Tryz.zeroCells146 146)).setRow w1.heap.size (Tryz.zeroCells146.setIfInBounds 256 (.slice (some ⟨w.heap.size, 0, none⟩) 0 3))) w.heap.size w1.heap.size (.slice (some ⟨w.heap.size, 0, none⟩) 0 3) := by
  have hR : Kd.R Kd.string 9 w1 w.heap.size (fun _ => True) (.slice (some ⟨w.heap.size, 0, none⟩) 0 3) [] := Kd.R_of_own (enc := Value.string) (h1 := fun _ => rfl) hown (fun _ _ => trivial)
  have hlt := Kd.R_lt hR w.heap.size rfl
  have hg : (w1.alloc (.cells Tryz.zeroCells146 146)).heap[w1.heap.size]? = some (.cells Tryz.zeroCells146 146 (0, 0)) := heap_new _ _
  refine ⟨hgr.size, ⟨_, setRow_heap _ _ _ _ _ _ hg, ?_, ?_, ?_⟩, ?_⟩
  · rw [zero_tbl]; simp
  · rw [zero_tbl]; simp
  · intro k hk
    refine ⟨.slice none 0 0, ?_, ?_⟩
    · rw [zero_tbl, Array.getElem?_setIfInBounds_ne (by omega), Array.getElem?_replicate, if_pos (by omega)]
    · simp [EntryP, escP]
  · have h2 := Kd.R_step (ok := fun b => b = w.heap.size) (w1 := ((w1.alloc (.cells Tryz.zeroCells146 146)).setRow w1.heap.size (Tryz.zeroCells146.setIfInBounds 256 (.slice (some ⟨w.heap.size, 0, none⟩) 0 3)))) (Kd.R_mono (Kd.R_tight rfl hR) (fun k hk => by injection hk)) (fun k hk hl => by rw [setRow_other _ _ _ _ (by omega), Below.heap_alloc _ _ _ hl])
    exact Kd.R_mono h2 (fun k hk => by omega)
def BuildPost (w : World) (e : Ending) (w' : World) : Prop :=
  ∃ Q TL, e = .returned (.iface 147 (.pointer (some ⟨Q, 0, none⟩))) ∧ TablP 3 w' w.heap.size Q TL ∧ Below w.heap.size w w'
set_option maxHeartbeats 2000000 in
set_option maxRecDepth 100000 in
theorem build_calls (N G : Nat) (c : Nat) (w : World) (h4 : w.cell? ⟨N, 4, none⟩ = some (.slice (some ⟨G, 0, none⟩) 6 c)) (ho : OldsAt w G) :
    Calls Tryz.prog 90 #[.pointer (some ⟨N, 0, none⟩)] w (BuildPost w) := by
  obtain ⟨c0, c1, c2, c3, c4, c5⟩ := ho
  obtain ⟨si, si1, si2, si3, si4⟩ := info_parts info_strR
  go_enter Tryz.func90, Tryz.ntmps90
  go_wp2
  go_loop [4, 5] (fun bv iv => ∃ n : Nat, n ≤ 3 ∧ iv = .int .i64 (2 * n : Nat) ∧ bv = .bool (n == 0)) (fun _ i => 6 - (intOf i).toNat)
  case atStart => exact ⟨0, by omega, rfl, rfl⟩
  case round =>
    obtain ⟨n, hn, rfl, rfl⟩ := hrel
    obtain rfl | rfl | rfl | rfl : n = 0 ∨ n = 1 ∨ n = 2 ∨ n = 3 := by omega
    · go_wp2
      go_round
      case rel => exact ⟨1, by omega, rfl, rfl⟩
      case measure => decide
    · go_wp2
      go_round
      case rel => exact ⟨2, by omega, rfl, rfl⟩
      case measure => decide
    · go_wp2
      go_round
      case rel => exact ⟨3, by omega, rfl, rfl⟩
      case measure => decide
    · go_wp2_with (first | (at_make; refine wpList_make_own _ rfl _ _ 23 rfl w.heap.size 9 si _ 1 Tryz.underlying23 si1 si2 si3 .i64 .i64 3 3 rfl rfl rfl (by rw [si4]; decide) (by decide) (Nat.le_refl _) ?_; intro w1 hown hgr) | ((with_reducible refine gate_store (t := 146) (p := 11) (v := .tmp 95) rfl ?_); (refine wpList_store_row rfl _ _ _ rfl w1.heap.size ?zcs ?zx ?zy 146 ?zold ?zg ?zi ?zo ?zh ?_)))
      case zold => exact Tryz.zeroCells146
      case zy => rfl
      case zg => exact heap_new _ _
      case zi => rw [zero_tbl, Array.size_setIfInBounds, Array.size_replicate]; kernel_rfl
      case zo => rw [zero_tbl]; simp
      case zh => rw [zero_tbl]; exact all_set _ _ _ rfl
      have HT := Lib.hid (tabl_start hown hgr)
      have hB : Below w.heap.size w w1 := (Below.refl _ _).grown hgr (Nat.le_refl _) (fun k hk => by cases hk)
      have HB := Lib.hid (below_setRow (hB.alloc hgr.size (.cells Tryz.zeroCells146 146)) hgr.size (Tryz.zeroCells146.setIfInBounds 256 (.slice (some ⟨w.heap.size, 0, none⟩) 0 3)))
      clear hB
      generalize hW : ((w1.alloc (.cells Tryz.zeroCells146 146)).setRow w1.heap.size (Tryz.zeroCells146.setIfInBounds 256 (.slice (some ⟨w.heap.size, 0, none⟩) 0 3))) = W0 at HT HB ⊢
      clear hW hown hgr
      generalize hQ : w1.heap.size = Q at HT ⊢
      clear hQ
      have HT' : Hid (∃ TL, TablP 0 W0 w.heap.size Q TL) := ⟨_, HT.out⟩
      clear HT
      go_loopw [12] (fun iv wr => ∃ n : Nat, n ≤ 3 ∧ iv = .int .i64 (4 - 2 * n : Int) ∧ Aside0 (∃ TL, TablP n wr w.heap.size Q TL) ∧ Aside0 (Below w.heap.size w wr)) (fun i _ => (intOf i + 2).toNat)
      case atStart => exact ⟨0, by omega, rfl, ⟨HT'.out⟩, ⟨HB.out⟩⟩
      case round =>
        obtain ⟨n, hn, rfl, HT, HW⟩ := hrel
        obtain rfl | rfl | rfl | rfl : n = 0 ∨ n = 1 ∨ n = 2 ∨ n = 3 := by omega
        · have k4 := pw_cell_below HW.out c4
          have k5 := pw_cell_below HW.out c5
          obtain ⟨TL, hT⟩ := HT.out
          have HTT := Lib.hid hT
          obtain ⟨v, e1, e2, e3⟩ := hT.entry 10 (by omega)
          obtain rfl : v = .slice none 0 0 := e3
          obtain ⟨l1, l2⟩ := hT.list
          clear e2 l2 hT
          have hnil := fun W => run_eql_nil_slice (P := Tryz.prog) W 68 5 none 0 0 0 0 Tryz.underlying68
          have hx10 : ((⟨#[10]⟩ : ByteArray)[0]'(by decide)).toNat = 10 := rfl
          have hcv := one_byteR 10 wr
          rw [show strOfNums [10] = (⟨#[10]⟩ : ByteArray) from rfl] at hcv
          have kb := fun W => print_bytes (P := Tryz.prog) 9 68 5 Tryz.underlying9 Tryz.underlying68 Tryz.underlying5 ⟨#[92, 110]⟩ W
          go_wp2_with (first | (at_builtin; (refine Kd.R_append Kd.string (w0 := w) w.heap.size rfl (.tmp 119) (.tmp 123) 23 9 (.string ⟨#[]⟩) 16 rfl Tryz.underlying23 info_strR rfl (by decide) (by omega) TL (lst 0) ⟨#[10]⟩ [.string ⟨#[10]⟩] (fun b => b ≠ Q) (fun _ => False) rfl (by rw [show (wr.alloc (.cells #[.int .u8 10] 5)).heap.size = wr.heap.size + 1 by simp]; rfl) ?aP (fun _ hk => hk.elim) ?aF ?aO ?aB ?aS ?aL ?_); (case aP => exact rfl); (case aF => exact (fun k hk => by have := HTT.out.lt; simp at hk; omega)); (case aO => exact (HTT.out.below ((Below.refl _ _).alloc (Nat.le_refl _) _)).row); (case aB => exact HW.out.alloc HW.out.size _); (case aS => have := HW.out.size; simp; omega); (case aL => decide); intro v1 w2 ho hbb hg hat; obtain ⟨A1, k1, hv1⟩ := Kd.R_slice ho; simp only [lst] at hv1; subst hv1; (obtain ⟨⟨l3, l4⟩, l5, l6⟩ := step_facts (kb := 10) (HTT.out.below ((Below.refl _ _).alloc (Nat.le_refl _) _)) hg (by omega) rfl (.slice A1 1 k1) ⟨#[92, 110]⟩); have HO := Lib.hid ho; have HBB := Lib.hid hbb; have HGG := Lib.hid hg; clear ho hbb hg hat))
          go_roundw
          case rel =>
            refine ⟨1, by omega, rfl, ⟨_, tabl_step (HTT.out.below ((Below.refl _ _).alloc (Nat.le_refl _) _)) HO.out HGG.out (by omega) escP_1 rfl rfl rfl⟩, ⟨?_⟩⟩
            exact (bytes_below (HBB.out.setCell (p := ⟨Q, 256, none⟩) HTT.out.lo _) (by simp only [World.size_setCell]; exact HBB.out.size) _ _).setCell (p := ⟨Q, 10, none⟩) HTT.out.lo _
          case measure => decide
        · have k4 := pw_cell_below HW.out c2
          have k5 := pw_cell_below HW.out c3
          obtain ⟨TL, hT⟩ := HT.out
          have HTT := Lib.hid hT
          obtain ⟨v, e1, e2, e3⟩ := hT.entry 92 (by omega)
          obtain rfl : v = .slice none 0 0 := e3
          obtain ⟨l1, l2⟩ := hT.list
          clear e2 l2 hT
          have hnil := fun W => run_eql_nil_slice (P := Tryz.prog) W 68 5 none 0 0 0 0 Tryz.underlying68
          have hx10 : ((⟨#[92]⟩ : ByteArray)[0]'(by decide)).toNat = 92 := rfl
          have hcv := one_byteR 92 wr
          rw [show strOfNums [92] = (⟨#[92]⟩ : ByteArray) from rfl] at hcv
          have kb := fun W => print_bytes (P := Tryz.prog) 9 68 5 Tryz.underlying9 Tryz.underlying68 Tryz.underlying5 ⟨#[92, 92]⟩ W
          go_wp2_with (first | (at_builtin; (refine Kd.R_append Kd.string (w0 := w) w.heap.size rfl (.tmp 119) (.tmp 123) 23 9 (.string ⟨#[]⟩) 16 rfl Tryz.underlying23 info_strR rfl (by decide) (by omega) TL (lst 1) ⟨#[92]⟩ [.string ⟨#[92]⟩] (fun b => b ≠ Q) (fun _ => False) rfl (by rw [show (wr.alloc (.cells #[.int .u8 92] 5)).heap.size = wr.heap.size + 1 by simp]; rfl) ?aP (fun _ hk => hk.elim) ?aF ?aO ?aB ?aS ?aL ?_); (case aP => exact rfl); (case aF => exact (fun k hk => by have := HTT.out.lt; simp at hk; omega)); (case aO => exact (HTT.out.below ((Below.refl _ _).alloc (Nat.le_refl _) _)).row); (case aB => exact HW.out.alloc HW.out.size _); (case aS => have := HW.out.size; simp; omega); (case aL => decide); intro v1 w2 ho hbb hg hat; obtain ⟨A1, k1, hv1⟩ := Kd.R_slice ho; simp only [lst] at hv1; subst hv1; (obtain ⟨⟨l3, l4⟩, l5, l6⟩ := step_facts (kb := 92) (HTT.out.below ((Below.refl _ _).alloc (Nat.le_refl _) _)) hg (by omega) rfl (.slice A1 2 k1) ⟨#[92, 92]⟩); have HO := Lib.hid ho; have HBB := Lib.hid hbb; have HGG := Lib.hid hg; clear ho hbb hg hat))
          go_roundw
          case rel =>
            refine ⟨2, by omega, rfl, ⟨_, tabl_step (HTT.out.below ((Below.refl _ _).alloc (Nat.le_refl _) _)) HO.out HGG.out (by omega) escP_2 rfl rfl rfl⟩, ⟨?_⟩⟩
            exact (bytes_below (HBB.out.setCell (p := ⟨Q, 256, none⟩) HTT.out.lo _) (by simp only [World.size_setCell]; exact HBB.out.size) _ _).setCell (p := ⟨Q, 92, none⟩) HTT.out.lo _
          case measure => decide
        · have k4 := pw_cell_below HW.out c0
          have k5 := pw_cell_below HW.out c1
          obtain ⟨TL, hT⟩ := HT.out
          have HTT := Lib.hid hT
          obtain ⟨v, e1, e2, e3⟩ := hT.entry 34 (by omega)
          obtain rfl : v = .slice none 0 0 := e3
          obtain ⟨l1, l2⟩ := hT.list
          clear e2 l2 hT
          have hnil := fun W => run_eql_nil_slice (P := Tryz.prog) W 68 5 none 0 0 0 0 Tryz.underlying68
          have hx10 : ((⟨#[34]⟩ : ByteArray)[0]'(by decide)).toNat = 34 := rfl
          have hcv := one_byteR 34 wr
          rw [show strOfNums [34] = (⟨#[34]⟩ : ByteArray) from rfl] at hcv
          have kb := fun W => print_bytes (P := Tryz.prog) 9 68 5 Tryz.underlying9 Tryz.underlying68 Tryz.underlying5 ⟨#[92, 34]⟩ W
          go_wp2_with (first | (at_builtin; (refine Kd.R_append Kd.string (w0 := w) w.heap.size rfl (.tmp 119) (.tmp 123) 23 9 (.string ⟨#[]⟩) 16 rfl Tryz.underlying23 info_strR rfl (by decide) (by omega) TL (lst 2) ⟨#[34]⟩ [.string ⟨#[34]⟩] (fun b => b ≠ Q) (fun _ => False) rfl (by rw [show (wr.alloc (.cells #[.int .u8 34] 5)).heap.size = wr.heap.size + 1 by simp]; rfl) ?aP (fun _ hk => hk.elim) ?aF ?aO ?aB ?aS ?aL ?_); (case aP => exact rfl); (case aF => exact (fun k hk => by have := HTT.out.lt; simp at hk; omega)); (case aO => exact (HTT.out.below ((Below.refl _ _).alloc (Nat.le_refl _) _)).row); (case aB => exact HW.out.alloc HW.out.size _); (case aS => have := HW.out.size; simp; omega); (case aL => decide); intro v1 w2 ho hbb hg hat; obtain ⟨A1, k1, hv1⟩ := Kd.R_slice ho; simp only [lst] at hv1; subst hv1; (obtain ⟨⟨l3, l4⟩, l5, l6⟩ := step_facts (kb := 34) (HTT.out.below ((Below.refl _ _).alloc (Nat.le_refl _) _)) hg (by omega) rfl (.slice A1 3 k1) ⟨#[92, 34]⟩); have HO := Lib.hid ho; have HBB := Lib.hid hbb; have HGG := Lib.hid hg; clear ho hbb hg hat))
          go_roundw
          case rel =>
            refine ⟨3, by omega, rfl, ⟨_, tabl_step (HTT.out.below ((Below.refl _ _).alloc (Nat.le_refl _) _)) HO.out HGG.out (by omega) escP_3 rfl rfl rfl⟩, ⟨?_⟩⟩
            exact (bytes_below (HBB.out.setCell (p := ⟨Q, 256, none⟩) HTT.out.lo _) (by simp only [World.size_setCell]; exact HBB.out.size) _ _).setCell (p := ⟨Q, 34, none⟩) HTT.out.lo _
          case measure => decide
        · obtain ⟨TL, hT⟩ := HT.out
          have HTT := Lib.hid hT; clear hT
          go_wp2
          go_ret
          exact ⟨Q, TL, rfl, HTT.out, HW.out⟩

/-! ### buildOnce, Once.Do -/
theorem cell_lt {w : World} {a : Addr} {v : Value} (h : w.cell? a = some v) : a.block < w.heap.size := by
  rcases Nat.lt_or_ge a.block w.heap.size with h1 | h1
  · exact h1
  · rw [World.cell?, Array.getElem?_eq_none h1] at h
    simp at h
def OncePost (N : Nat) (w : World) (e : Ending) (w' : World) : Prop :=
  ∃ w2 Q TL, e = .returned (.tuple #[]) ∧ w' = (w2.setCell ⟨N, 3, none⟩ (.iface 147 (.pointer (some ⟨Q, 0, none⟩)))).setCell ⟨N, 4, none⟩ (.slice none 0 0) ∧ TablP 3 w2 w.heap.size Q TL ∧ Below w.heap.size w w2
set_option maxHeartbeats 2000000 in
set_option maxRecDepth 100000 in
theorem buildOnce_calls (N G : Nat) (c : Nat) (x3 : Value) (w : World) (h3 : w.cell? ⟨N, 3, none⟩ = some x3) (h4 : w.cell? ⟨N, 4, none⟩ = some (.slice (some ⟨G, 0, none⟩) 6 c)) (f3 : w.frozen? ⟨N, 3, none⟩ = false) (f4 : w.frozen? ⟨N, 4, none⟩ = false) (ho : OldsAt w G) :
    Calls Tryz.prog 77 #[.pointer (some ⟨N, 0, none⟩)] w (OncePost N w) := by
  have HO := Lib.hid ho; clear ho
  go_enter Tryz.func77, Tryz.ntmps77
  go_wp2_with fail
  refine (build_calls N G c w h4 HO.out).mono ?_
  rintro e w1 ⟨Q, TL, rfl, hT, hb⟩
  have HT := Lib.hid hT; clear hT
  have hN : N < w.heap.size := cell_lt h3
  have g3 := pw_cell_below hb h3
  have g4 := pw_cell_below hb h4
  have k3 : w1.frozen? ⟨N, 3, none⟩ = false := (World.frozen?_of_block (a := ⟨N, 3, none⟩) (hb.block N hN)).trans f3
  have k4 : w1.frozen? ⟨N, 4, none⟩ = false := (World.frozen?_of_block (a := ⟨N, 4, none⟩) (hb.block N hN)).trans f4
  have HB := Lib.hid hb; clear hb
  go_wp2
  go_end0
  exact ⟨w1, Q, TL, rfl, rfl, HT.out, HB.out⟩
end Go.Proofs.YtegppacnkfeaoaaGreatDoor

/- The library's Once, once: doSlow, Do; and the replacer's Replace as far as the table. -/
namespace Go.Proofs.YtegppacnkfeaoaaGreatDoor
open Go.RowKit Go.Gw Go.Proofs.YtegppacnkfeaoaaGreatDoorW.PrintWords
set_option linter.unusedVariables false
set_option linter.unusedSimpArgs false

theorem TablP.far {n : Nat} {W : World} {B Q N j : Nat} {TL u : Value} (h : TablP n W B Q TL) (hN : N < B) : TablP n (W.setCell ⟨N, j, none⟩ u) B Q TL := by
  obtain ⟨cur, h1, h2, h3, h4⟩ := h.cells
  have hlo := h.lo
  refine ⟨h.lo, ⟨cur, (heap_set_ne W (show Q ≠ N by omega) j u).trans h1, h2, h3, fun k hk => ?_⟩, ?_⟩
  · obtain ⟨v, h5, h6⟩ := h4 k hk
    exact ⟨v, h5, h6.move fun g _ _ hB _ _ => heap_set_ne W (show g ≠ N by omega) j u⟩
  · exact Kd.R_mono (Kd.R_far (p := ⟨N, j, none⟩) (Kd.R_bound h.row) (fun k hk => by have := hk.2.1; show k ≠ N; omega) u) (fun k hk => hk.1)
/-- What the Once's block holds, not yet done, the lock free. -/
structure Fresh (w : World) (N G c : Nat) : Prop where
  c0 : w.cell? ⟨N, 0, none⟩ = some (.int .u32 0)
  c1 : w.cell? ⟨N, 1, none⟩ = some (.int .i32 0)
  c3 : ∃ x3, w.cell? ⟨N, 3, none⟩ = some x3
  c4 : w.cell? ⟨N, 4, none⟩ = some (.slice (some ⟨G, 0, none⟩) 6 c)
  fz : ∀ j, w.frozen? ⟨N, j, none⟩ = false
  ne : G ≠ N
def DoPost (N : Nat) (w : World) (e : Ending) (w' : World) : Prop :=
  ∃ Q TL, e = .returned (.tuple #[]) ∧ w'.cell? ⟨N, 3, none⟩ = some (.iface 147 (.pointer (some ⟨Q, 0, none⟩))) ∧ TablP 3 w' w.heap.size Q TL ∧ Below N w w'
theorem OldsAt.far {w : World} {G N j : Nat} {u : Value} (h : OldsAt w G) (hN : G ≠ N) : OldsAt (w.setCell ⟨N, j, none⟩ u) G := by
  have e : (w.setCell ⟨N, j, none⟩ u).heap[G]? = w.heap[G]? := heap_set_ne w hN j u
  have m : ∀ k, (w.setCell ⟨N, j, none⟩ u).cell? ⟨G, k, none⟩ = w.cell? ⟨G, k, none⟩ := fun k => World.cell?_of_block (a := ⟨G, k, none⟩) e
  exact ⟨(m _).trans h.h0, (m _).trans h.h1, (m _).trans h.h2, (m _).trans h.h3, (m _).trans h.h4, (m _).trans h.h5⟩

set_option maxHeartbeats 1000000 in
set_option maxRecDepth 100000 in
theorem load_zero (a : Addr) (w : World) (h : w.cell? a = some (.int .u32 0)) :
    Calls Tryz.prog 88 #[.pointer (some a)] w fun e w' => e = .returned (.bool false) ∧ w' = w := by
  have hl := run_call_load (P := Tryz.prog) Tryz.func107 (by kernel_rfl) (by kernel_rfl) (by kernel_rfl) .u32 (by kernel_rfl) h
  go_enter Tryz.func88, Tryz.ntmps88
  go_wp2
  go_ret
  exact ⟨rfl, rfl⟩
set_option maxHeartbeats 2000000 in
set_option maxRecDepth 100000 in
theorem slow_calls (N G c : Nat) (w : World) (hF : Fresh w N G c) (ho : OldsAt w G) :
    Calls Tryz.prog 89 #[.pointer (some ⟨N, 0, none⟩), .func (.func 77) #[.pointer (some ⟨N, 0, none⟩)] #[]] w (DoPost N w) := by
  obtain ⟨c0, c1, ⟨x3, c3⟩, c4, fz, ne⟩ := hF
  have hN : N < w.heap.size := cell_lt c0
  have HFZ := Lib.hid fz
  have f0 := fz 0
  have f1 := fz 1
  clear fz
  have o0 : (w.setCell ⟨N, 1, none⟩ (.int .i32 1)).cell? ⟨N, 0, none⟩ = some (.int .u32 0) := (World.cell?_setCell_other _ ⟨N, 1, none⟩ ⟨N, 0, none⟩ _ (by simp)).trans c0
  have o3 : (w.setCell ⟨N, 1, none⟩ (.int .i32 1)).cell? ⟨N, 3, none⟩ = some x3 := (World.cell?_setCell_other _ ⟨N, 1, none⟩ ⟨N, 3, none⟩ _ (by simp)).trans c3
  have o4 : (w.setCell ⟨N, 1, none⟩ (.int .i32 1)).cell? ⟨N, 4, none⟩ = _ := (World.cell?_setCell_other _ ⟨N, 1, none⟩ ⟨N, 4, none⟩ _ (by simp)).trans c4
  have hnot : ∀ (x : Bool) (w : World), (Op.unary .not (.bool x)).run Tryz.prog w = .ok (.bool (!x)) w := fun _ _ => rfl
  have HO := Lib.hid (ho.far (j := 1) (u := .int .i32 1) ne); clear ho
  go_enter_defers Tryz.func89, Tryz.ntmps89
  go_wp2_with (go_at_call 108; refine (lock_free ⟨N, 1, none⟩ _ (by go_simp) (by go_simp)).mono ?_; rintro e w' ⟨rfl, rfl⟩)
  refine (load_zero ⟨N, 0, none⟩ _ o0).mono ?_
  rintro e w1 ⟨rfl, rfl⟩
  have f3 := HFZ.out 3
  have f4 := HFZ.out 4
  go_wp2_with fail
  refine (buildOnce_calls N G c x3 _ o3 o4 (by go_simp) (by go_simp) HO.out).mono ?_
  rintro e w2' ⟨w2, Q, TL, rfl, hw, hT, hb⟩
  have hs : (w.setCell ⟨N, 1, none⟩ (.int .i32 1)).heap.size = w.heap.size := by simp [World.setCell]
  rw [hs] at hT hb
  have hq : ∀ j v, j ≠ 3 → j ≠ 4 → (w.setCell ⟨N, 1, none⟩ (.int .i32 1)).cell? ⟨N, j, none⟩ = some v → w2'.cell? ⟨N, j, none⟩ = some v := by
    intro j v h3 h4 h
    rw [hw, World.cell?_setCell_other _ _ _ _ (by simp [Ne.symm h4]), World.cell?_setCell_other _ _ _ _ (by simp [Ne.symm h3])]
    exact pw_cell_below (by rw [hs]; exact hb) h
  have d0 := hq 0 _ (by omega) (by omega) o0
  have d1 := hq 1 _ (by omega) (by omega) (World.cell?_setCell_same w ⟨N, 1, none⟩ (.int .i32 1) c1)
  have d3 : w2'.cell? ⟨N, 3, none⟩ = some (.iface 147 (.pointer (some ⟨Q, 0, none⟩))) := by
    rw [hw, World.cell?_setCell_other _ _ _ _ (by simp)]
    exact World.cell?_setCell_same w2 _ _ (pw_cell_below (by rw [hs]; exact hb) o3)
  have zf : ∀ j, w2'.frozen? ⟨N, j, none⟩ = false := by
    intro j
    rw [hw]
    simp only [World.frozen?_setCell]
    rw [World.frozen?_of_block (w := w.setCell ⟨N, 1, none⟩ (.int .i32 1)) (a := ⟨N, j, none⟩) (hb.block N hN)]
    simp only [World.frozen?_setCell]
    exact HFZ.out j
  have z0 := zf 0
  have z1 := zf 1
  have HT := Lib.hid (show TablP 3 w2' w.heap.size Q TL by rw [hw]; exact (hT.far hN).far hN)
  have HB := Lib.hid (show Below N w w2' by rw [hw]; exact ((((Below.refl N w).setCell (p := ⟨N, 1, none⟩) (Nat.le_refl _) _).trans (hb.mono (Nat.le_of_lt hN))).setCell (p := ⟨N, 3, none⟩) (Nat.le_refl _) _).setCell (p := ⟨N, 4, none⟩) (Nat.le_refl _) _)
  have HD3 := Lib.hid d3
  clear hw hT hb hq zf d3 hs
  go_wp2
  refine leaves_cons (f := 110) (args := #[.pointer (some ⟨N, 0, none⟩), .bool true]) (by simp) (by simp [go_sem]) ?_
  refine (store_deferred ⟨N, 0, none⟩ (.int .u32 0) .returning _ d0 z0).mono ?_
  rintro e u' w'' ⟨rfl, rfl, rfl⟩
  refine leaves_cons (f := 109) (args := #[.pointer (some ⟨N, 1, none⟩)]) (by simp [settle]) (by simp [go_sem]) ?_
  refine (unlock_deferred ⟨N, 1, none⟩ _ _ ?_ (by simp [z1])).mono ?_
  · refine (World.cell?_setCell_other _ ⟨N, 0, none⟩ ⟨N, 1, none⟩ _ (by simp)).trans ?_
    rw [World.cell?_drew]
    exact d1
  rintro e u' w'' ⟨rfl, rfl, rfl⟩
  simp [Leaves, settle, results, Tryz.results89]
  refine ⟨Q, TL, rfl, ?_, ?_, ?_⟩
  · rw [World.cell?_setCell_other _ _ _ _ (by simp), World.cell?_setCell_other _ _ _ _ (by simp)]
    exact HD3.out
  · exact ((HT.out.below (Below.drew (Below.refl _ _))).far hN).far hN
  · exact ((HB.out.drew).setCell (p := ⟨N, 0, none⟩) (Nat.le_refl _) _).setCell (p := ⟨N, 1, none⟩) (Nat.le_refl _) _
set_option maxHeartbeats 2000000 in
set_option maxRecDepth 100000 in
theorem do_calls (N G c : Nat) (w : World) (hF : Fresh w N G c) (ho : OldsAt w G) :
    Calls Tryz.prog 76 #[.pointer (some ⟨N, 0, none⟩), .func (.func 77) #[.pointer (some ⟨N, 0, none⟩)] #[]] w (DoPost N w) := by
  have HF := Lib.hid hF; clear hF
  have HO := Lib.hid ho; clear ho
  have hnot : ∀ (x : Bool) (w : World), (Op.unary .not (.bool x)).run Tryz.prog w = .ok (.bool (!x)) w := fun _ _ => rfl
  go_enter Tryz.func76, Tryz.ntmps76
  go_wp2_with fail
  refine (load_zero ⟨N, 0, none⟩ _ HF.out.c0).mono ?_
  rintro e w1 ⟨rfl, rfl⟩
  go_wp2_with fail
  refine (slow_calls N G c w1 HF.out HO.out).mono ?_
  rintro e w2 ⟨Q, TL, rfl, h1, h2, h3⟩
  have H1 := Lib.hid h1; have H2 := Lib.hid h2; have H3 := Lib.hid h3; clear h1 h2 h3
  go_wp2
  go_end0
  exact ⟨Q, TL, rfl, H1.out, H2.out, H3.out⟩
end Go.Proofs.YtegppacnkfeaoaaGreatDoor

/- Layer 9 (lex), in plain Lean: how a text is cut into tokens. No program. -/
namespace Go.Lx

def gapc (c : UInt8) : Bool := c == 32 || c == 9 || c == 10 || c == 13
def digitc (c : UInt8) : Bool := decide (48 ≤ c.toNat) && decide (c.toNat ≤ 57)
def letterc (c : UInt8) : Bool := (decide (97 ≤ c.toNat) && decide (c.toNat ≤ 122)) || (decide (65 ≤ c.toNat) && decide (c.toNat ≤ 90)) || c == 95
def wordc (c : UInt8) : Bool := letterc c || digitc c
def signs : List UInt8 := [61, 43, 40, 41, 91, 93, 123, 125, 44, 58, 59]
/-- What digits spell. -/
def spell (n : Nat) (l : List UInt8) : Nat := l.foldl (fun a c => 10 * a + (c.toNat - 48)) n
/-- What stands behind a backslash. -/
def esc (d : UInt8) : Option UInt8 := if d = 34 then some 34 else if d = 92 then some 92 else if d = 110 then some 10 else none
/-- What a text says, behind its first quotation mark, and how many bytes it has from there on. -/
def quoted : List UInt8 → Option (List UInt8 × Nat)
  | [] => none
  | c :: r =>
    if c = 34 then some ([], 1)
    else if c.toNat < 32 ∨ c = 127 then none
    else if c = 92 then
      match r with
      | [] => none
      | d :: r' => match esc d with
        | none => none
        | some x => match quoted r' with
          | none => none
          | some (t, n) => some (x :: t, n + 2)
    else match quoted r with
      | none => none
      | some (t, n) => some (c :: t, n + 1)

inductive Piece where
  | gap (n : Nat)
  | tok (kind : Nat) (text : List UInt8) (n : Nat)
  | bad (e : Nat)
deriving DecidableEq

def number (s : List UInt8) : Piece :=
  if 1 < (s.takeWhile digitc).length ∧ s.head? = some 48 then .bad 3
  else if 9223372036854775807 < spell 0 (s.takeWhile digitc) then .bad 2
  else .tok 2 (s.takeWhile digitc) (s.takeWhile digitc).length
def notLf (c : UInt8) : Bool := c != 10
/-- What a text begins with; a gap is one byte, or a remark. -/
def piece : List UInt8 → Piece
  | [] => .bad 3
  | c :: r =>
    if gapc c then .gap 1
    else if c = 35 then .gap ((c :: r).takeWhile notLf).length
    else if letterc c then .tok 1 ((c :: r).takeWhile wordc) ((c :: r).takeWhile wordc).length
    else if digitc c then number (c :: r)
    else if c = 34 then
      match quoted r with
      | none => .bad 3
      | some (t, n) => .tok 3 t (n + 1)
    else if r.head? = some 61 ∧ (c = 61 ∨ c = 33) then .tok 4 [c, 61] 2
    else if c ∈ signs then .tok 4 [c] 1
    else .bad 3

theorem piece_cons (c : UInt8) (r : List UInt8) : piece (c :: r) =
    if gapc c then .gap 1
    else if c = 35 then .gap ((c :: r).takeWhile notLf).length
    else if letterc c then .tok 1 ((c :: r).takeWhile wordc) ((c :: r).takeWhile wordc).length
    else if digitc c then number (c :: r)
    else if c = 34 then
      match quoted r with
      | none => .bad 3
      | some (t, n) => .tok 3 t (n + 1)
    else if r.head? = some 61 ∧ (c = 61 ∨ c = 33) then .tok 4 [c, 61] 2
    else if c ∈ signs then .tok 4 [c] 1
    else .bad 3 := rfl

/-- The place behind a byte. -/
def pass1 (p : Nat × Nat) (c : UInt8) : Nat × Nat := if c = 10 then (p.1 + 1, 1) else (p.1, p.2 + 1)
def pass (p : Nat × Nat) (l : List UInt8) : Nat × Nat := l.foldl pass1 p
structure Tok where
  kind : Nat
  text : List UInt8
  place : Nat × Nat
deriving DecidableEq

/-- How many bytes a piece has. -/
def Piece.size : Piece → Nat
  | .gap n => n
  | .tok _ _ n => n
  | .bad _ => 0

/-- The tokens of a text that begins at a place, or the error's number and its place. -/
def allF : Nat → Nat × Nat → List UInt8 → (Nat × (Nat × Nat)) ⊕ List Tok
  | 0, _, _ => .inr []
  | k + 1, p, s =>
    if s = [] then .inr []
    else match piece s with
      | .bad e => .inl (e, p)
      | .gap n => allF k (pass p (s.take n)) (s.drop n)
      | .tok kd t n => match allF k (pass p (s.take n)) (s.drop n) with
        | .inl e => .inl e
        | .inr l => .inr (⟨kd, t, p⟩ :: l)
def all (p : Nat × Nat) (s : List UInt8) : (Nat × (Nat × Nat)) ⊕ List Tok := allF s.length p s

theorem all_nil (p : Nat × Nat) : all p [] = .inr [] := rfl
/-! ### What stands behind -/
/-! ### A text as a token -/
/-- A text's bytes between the marks; none: it can't be. -/
def body : List UInt8 → Option (List UInt8)
  | [] => some []
  | c :: r =>
    if c = 10 then (body r).map ([92, 110] ++ ·)
    else if c.toNat < 32 ∨ c = 127 then none
    else if c = 34 ∨ c = 92 then (body r).map ([92, c] ++ ·)
    else (body r).map (c :: ·)
def quote (s : List UInt8) : List UInt8 := match body s with
  | none => []
  | some b => 34 :: (b ++ [34])
/-- May a byte stand in a text? -/
def mayc (c : UInt8) : Bool := c == 10 || (decide (32 ≤ c.toNat) && c != 127)
theorem body_some : ∀ s : List UInt8, (∀ c ∈ s, mayc c = true) ↔ ∃ b, body s = some b := by
  intro s
  induction s with
  | nil => simp [body]
  | cons c r ih =>
    unfold body
    constructor
    · intro h
      obtain ⟨b, hb⟩ := ih.1 (fun x hx => h x (by simp [hx]))
      have hc := h c (by simp)
      rw [hb]
      by_cases h1 : c = 10
      · rw [if_pos h1]; exact ⟨_, rfl⟩
      · rw [if_neg h1, if_neg (by
          unfold mayc at hc
          simp only [Bool.or_eq_true, beq_iff_eq, Bool.and_eq_true, decide_eq_true_eq, bne_iff_ne] at hc
          rcases hc with hc | hc
          · exact absurd hc h1
          · intro h
            rcases h with h | h
            · omega
            · exact hc.2 h)]
        split
        · exact ⟨_, rfl⟩
        · exact ⟨_, rfl⟩
    · rintro ⟨b, hb⟩
      have key : mayc c = true ∧ ∃ b, body r = some b := by
        split at hb
        · rename_i h1
          cases hr : body r with
          | none => rw [hr] at hb; cases hb
          | some b' => exact ⟨by simp [mayc, h1], b', rfl⟩
        · split at hb
          · cases hb
          · rename_i h1 h2
            have hm : mayc c = true := by
              unfold mayc
              simp only [Bool.or_eq_true, beq_iff_eq, Bool.and_eq_true, decide_eq_true_eq, bne_iff_ne]
              right
              exact ⟨by omega, fun h => h2 (.inr h)⟩
            refine ⟨hm, ?_⟩
            split at hb
            · cases hr : body r with
              | none => rw [hr] at hb; cases hb
              | some b' => exact ⟨b', rfl⟩
            · cases hr : body r with
              | none => rw [hr] at hb; cases hb
              | some b' => exact ⟨b', rfl⟩
      intro x hx
      rcases List.mem_cons.1 hx with rfl | hx
      · exact key.1
      · exact ih.2 key.2 x hx
end Go.Lx

/- A text's bytes, some replaced: in plain Lean. No program. -/
namespace Go.Lx

def special (c : UInt8) : Prop := c = 10 ∨ c = 92 ∨ c = 34
instance (c : UInt8) : Decidable (special c) := by unfold special; infer_instance
/-- What stands for a byte. -/
def rep (c : UInt8) : List UInt8 := if c = 10 then [92, 110] else if c = 92 then [92, 92] else if c = 34 then [92, 34] else [c]
def escs (l : List UInt8) : List UInt8 := l.flatMap rep
/-- How many are replaced, of the first k of the three. -/
def cnt (k : Nat) (l : List UInt8) : Nat := (if 1 ≤ k then l.count 10 else 0) + (if 2 ≤ k then l.count 92 else 0) + (if 3 ≤ k then l.count 34 else 0)
theorem escs_append (a b : List UInt8) : escs (a ++ b) = escs a ++ escs b := by simp [escs]
theorem escs_one (c : UInt8) : escs [c] = rep c := by simp [escs]
theorem rep_plain {c : UInt8} (h : ¬ special c) : rep c = [c] := by
  unfold special at h
  unfold rep
  rw [if_neg (by intro e; exact h (.inl e)), if_neg (by intro e; exact h (.inr (.inl e))), if_neg (by intro e; exact h (.inr (.inr e)))]
theorem rep_special {c : UInt8} (h : special c) : (rep c).length = 2 := by
  rcases h with rfl | rfl | rfl <;> rfl
theorem cnt_append (k : Nat) (a b : List UInt8) : cnt k (a ++ b) = cnt k a + cnt k b := by
  simp only [cnt, List.count_append]
  split <;> split <;> split <;> omega
theorem cnt_le (k : Nat) (l : List UInt8) : cnt k l ≤ 3 * l.length := by
  have h1 := List.count_le_length (a := (10 : UInt8)) (l := l)
  have h2 := List.count_le_length (a := (92 : UInt8)) (l := l)
  have h3 := List.count_le_length (a := (34 : UInt8)) (l := l)
  unfold cnt
  split <;> split <;> split <;> omega
theorem cnt_one (c : UInt8) : cnt 3 [c] = if special c then 1 else 0 := by
  by_cases h : special c
  · rw [if_pos h]
    rcases h with rfl | rfl | rfl <;> rfl
  · rw [if_neg h]
    have h1 : c ≠ 10 := fun e => h (.inl e)
    have h2 : c ≠ 92 := fun e => h (.inr (.inl e))
    have h3 : c ≠ 34 := fun e => h (.inr (.inr e))
    simp [cnt, List.count_cons, h1, h2, h3]
theorem escs_length (l : List UInt8) : (escs l).length = l.length + cnt 3 l := by
  induction l with
  | nil => rfl
  | cons c l ih =>
    have e1 : escs (c :: l) = rep c ++ escs l := rfl
    have e2 : cnt 3 (c :: l) = cnt 3 [c] + cnt 3 l := cnt_append 3 [c] l
    rw [e1, List.length_append, ih, e2, cnt_one, List.length_cons]
    by_cases h : special c
    · rw [rep_special h, if_pos h]; omega
    · rw [rep_plain h, if_neg h]; simp; omega
theorem escs_none : ∀ (l : List UInt8), cnt 3 l = 0 → escs l = l := by
  intro l
  induction l with
  | nil => intro _; rfl
  | cons c l ih =>
    intro h
    have e1 : escs (c :: l) = rep c ++ escs l := rfl
    have e2 : cnt 3 (c :: l) = cnt 3 [c] + cnt 3 l := cnt_append 3 [c] l
    rw [e2, cnt_one] at h
    by_cases hs : special c
    · rw [if_pos hs] at h; omega
    · rw [e1, rep_plain hs, ih (by omega)]; rfl
/-- What a text's bytes become between the marks. -/
theorem body_escs : ∀ (l : List UInt8), (∀ c ∈ l, mayc c = true) → body l = some (escs l) := by
  intro l
  induction l with
  | nil => intro _; rfl
  | cons c l ih =>
    intro h
    have hc := h c (by simp)
    have e1 : escs (c :: l) = rep c ++ escs l := rfl
    rw [body, ih (fun x hx => h x (by simp [hx])), e1]
    by_cases h1 : c = 10
    · subst h1; rfl
    · rw [if_neg h1]
      have hm : 32 ≤ c.toNat ∧ c ≠ 127 := by simpa [mayc, h1] using hc
      rw [if_neg (by rintro (h2 | h2); omega; exact hm.2 h2)]
      by_cases h2 : c = 34
      · subst h2; rfl
      · by_cases h3 : c = 92
        · subst h3; rfl
        · rw [if_neg (by rintro (h4 | h4); exact h2 h4; exact h3 h4), rep_plain (by rintro (h4 | h4 | h4); exact h1 h4; exact h3 h4; exact h2 h4)]
          rfl
end Go.Lx

/- The library's replacer of single bytes by texts, at lex.Quote's three: what a call of its Replace does. -/
namespace Go.Proofs.YtegppacnkfeaoaaGreatDoor
open Go.RowKit Go.Gw Go.Proofs.YtegppacnkfeaoaaGreatDoorW.PrintWords
set_option linter.unusedVariables false
set_option linter.unusedSimpArgs false

def escS (s : ByteArray) : ByteArray := ⟨(Lx.escs s.data.toList).toArray⟩
theorem escS_same {s : ByteArray} (h : Lx.cnt 3 s.data.toList = 0) : s = escS s := by
  apply str_ext
  show _ = Lx.escs s.data.toList
  rw [Lx.escs_none _ h]
/-- What the walk reads of the table. -/
structure Seen (W : World) (Q g : Nat) (cap : Nat) : Prop where
  list : W.cell? ⟨Q, 256, none⟩ = some (.slice (some ⟨g, 0, none⟩) 3 cap)
  t0 : W.cell? ⟨g, 0, none⟩ = some (.string ⟨#[10]⟩)
  t1 : W.cell? ⟨g, 1, none⟩ = some (.string ⟨#[92]⟩)
  t2 : W.cell? ⟨g, 2, none⟩ = some (.string ⟨#[34]⟩)
  row : ∀ c : UInt8, (¬ Lx.special c → W.cell? ⟨Q, c.toNat, none⟩ = some (.slice none 0 0)) ∧
    (Lx.special c → ∃ b k, W.cell? ⟨Q, c.toNat, none⟩ = some (.slice (some ⟨b, 0, none⟩) 2 k) ∧ W.cell? ⟨b, 0, none⟩ = some (.int .u8 ((Lx.rep c).getD 0 0).toNat) ∧ W.cell? ⟨b, 1, none⟩ = some (.int .u8 ((Lx.rep c).getD 1 0).toNat))
theorem seen_of_tabl {W : World} {B Q : Nat} {TL : Value} (h : TablP 3 W B Q TL) : ∃ g cap, Seen W Q g cap := by
  obtain ⟨g, cap, rfl, _, _, _⟩ := Kd.R_form h.row (by decide)
  obtain ⟨_, _, hC⟩ := Kd.R_reads' h.row
  have at_ : ∀ k, k < 3 → W.cell? ⟨g, k, none⟩ = some (.string ((lst 3).getD k ByteArray.empty)) := by
    intro k hk
    obtain ⟨ad, e, hc⟩ := Kd.at_string hC k (by omega) (by simp only [lst]; simp; omega)
    cases e
    have : (⟨g, 0, none⟩ : Addr).add k = ⟨g, k, none⟩ := by simp [Addr.add]; exact fun h => h.symm
    rw [show ((k : Nat) : Int).toNat = k by omega, this] at hc
    exact hc
  refine ⟨g, cap, h.list.1, at_ 0 (by omega), at_ 1 (by omega), at_ 2 (by omega), fun c => ⟨fun hc => ?_, fun hc => ?_⟩⟩
  · obtain ⟨v, h1, _, h3⟩ := h.entry c.toNat c.toNat_lt
    have h10 : c.toNat ≠ 10 := fun e => hc (.inl (UInt8.toNat_inj.1 e))
    have h92 : c.toNat ≠ 92 := fun e => hc (.inr (.inl (UInt8.toNat_inj.1 e)))
    have h34 : c.toNat ≠ 34 := fun e => hc (.inr (.inr (UInt8.toNat_inj.1 e)))
    rw [show escP 3 c.toNat = none by simp [escP, h10, h92, h34]] at h3
    rw [h1]
    exact congrArg some h3
  · obtain ⟨v, h1, _, h3⟩ := h.entry c.toNat c.toNat_lt
    rcases hc with rfl | rfl | rfl
    all_goals
      obtain ⟨b, k, rfl, _, _, _, h4, h5⟩ := h3
      exact ⟨b, k, h1, h4, h5⟩
theorem Seen.below {W W' : World} {Q g cap : Nat} (h : Seen W Q g cap) (hb : Below W.heap.size W W') : Seen W' Q g cap :=
  ⟨pw_cell_below hb h.list, pw_cell_below hb h.t0, pw_cell_below hb h.t1, pw_cell_below hb h.t2, fun c => ⟨fun hc => pw_cell_below hb ((h.row c).1 hc), fun hc => by
    obtain ⟨b, k, h1, h2, h3⟩ := (h.row c).2 hc
    exact ⟨b, k, pw_cell_below hb h1, pw_cell_below hb h2, pw_cell_below hb h3⟩⟩⟩

theorem info_u8R : (Tryz.prog.info? 5).map (fun i => (i.zero, i.size, i.bytes)) = some (some (.int .u8 0), 1, 1) := by kernel_rfl
/-- The row that a make has made. -/
theorem made_row {w : World} {base B n : Nat} {e : TypeId} (h : w.ownsRow base e 1 (.slice (some ⟨B, 0, none⟩) n n) n (madeCells (Value.int .u8 0).cells (n * 1)).toList) :
    w.heap[B]? = some (.cells (List.replicate n (Value.int .u8 0)).toArray e (0, 0)) := by
  obtain ⟨_, h | ⟨g, cap, cur, hv, _, hh, _, _, hz, ht⟩⟩ := h
  · cases h.1
  · cases hv
    rw [hh]
    have e1 : cur.toList = List.replicate n (Value.int .u8 0) := by
      rw [← List.take_of_length_le (l := cur.toList) (i := n * 1) (by rw [Array.length_toList]; omega), ht]
      simp [madeCells, Value.cells, Nat.mod_one, List.map_const']
    rw [← e1]
/-- The buffer, so far. -/
def bufc (n : Nat) (l : List UInt8) : List Value := Lib.byteCells l ++ List.replicate (n - l.length) (.int .u8 0)
theorem bufc_len {n : Nat} {l : List UInt8} (h : l.length ≤ n) : (bufc n l).length = n := by
  simp only [bufc, List.length_append, Lib.byteCells_length, List.length_replicate]; omega
theorem bufc_get {n : Nat} {l : List UInt8} (h : l.length < n) : (bufc n l).toArray[l.length]? = some (Value.int .u8 0) := by
  rw [List.getElem?_toArray]
  simp only [bufc, Lib.byteCells]
  rw [List.getElem?_append_right (by simp)]
  simp only [List.length_map, Nat.sub_self]
  rw [List.getElem?_replicate, if_pos (by omega)]
theorem bufc_set {n : Nat} {l : List UInt8} (c : UInt8) (h : l.length < n) : (bufc n l).toArray.setIfInBounds l.length (.int .u8 c.toNat) = (bufc n (l ++ [c])).toArray := by
  rw [List.setIfInBounds_toArray]
  congr 1
  apply List.ext_getElem?
  intro i
  simp only [bufc, Lib.byteCells]
  obtain ⟨r, hr⟩ : ∃ r, n - l.length = r + 1 := ⟨n - l.length - 1, by omega⟩
  rw [hr, List.replicate_succ, List.set_append_right _ _ (by simp), List.length_map, Nat.sub_self, List.set_cons_zero, List.map_append, List.append_assoc, List.length_append]
  simp only [List.map_cons, List.map_nil, List.cons_append, List.nil_append, List.length_cons, List.length_nil]
  rw [show n - (l.length + (0 + 1)) = r by omega]
theorem bufc_splice {n : Nat} {l : List UInt8} (a b : UInt8) (h : l.length + 2 ≤ n) : splice (bufc n l) l.length [.int .u8 a.toNat, .int .u8 b.toNat] = bufc n (l ++ [a, b]) := by
  simp only [splice, bufc, Lib.byteCells]
  obtain ⟨r, hr⟩ : ∃ r, n - l.length = r + 2 := ⟨n - l.length - 2, by omega⟩
  rw [hr, List.take_append_of_le_length (by simp), List.take_of_length_le (by simp), List.drop_append, List.drop_eq_nil_of_le (by simp), List.map_append, List.append_assoc, List.length_append]
  simp only [List.length_map, List.length_cons, List.length_nil, List.map_cons, List.map_nil, List.cons_append, List.nil_append]
  rw [show n - (l.length + (0 + 1 + 1)) = r by omega, show l.length + (0 + 1 + 1) - l.length = 2 by omega]
  rfl
theorem escS_nums (s : ByteArray) : strOfNums ((Lx.escs s.data.toList).map fun c => (c.toNat : Int)) = escS s := by
  show (⟨_⟩ : ByteArray) = ⟨_⟩
  simp [List.map_map, Function.comp_def]
theorem buf_string {w : World} {B n3 : Nat} {s : ByteArray} (h : w.heap[B]? = some (.cells (bufc n3 (Lx.escs s.data.toList)).toArray 5 (0, 0))) (hn : n3 = (Lx.escs s.data.toList).length) :
    (convert 68 9 (.slice (some ⟨B, 0, none⟩) n3 n3)).run Tryz.prog w = .ok (.string (escS s)) w := by
  have hb : bufc n3 (Lx.escs s.data.toList) = Lib.byteCells (Lx.escs s.data.toList) := by
    rw [bufc, hn, Nat.sub_self]; simp
  rw [hb] at h
  have := run_convert_bytes_arg (P := Tryz.prog) w 68 5 Tryz.underlying68 Tryz.underlying5 B 0 n3 n3 ((Lx.escs s.data.toList).map fun c => (c.toNat : Int)) (by simp [hn]) (fun i hi => by
    rw [Nat.zero_add]
    have h2 : (Lib.byteCells (Lx.escs s.data.toList)).toArray[i]? = some (.int .u8 (((Lx.escs s.data.toList).map fun c => (c.toNat : Int)).getD i 0)) := by
      rw [List.getElem?_toArray, Lib.byteCells, List.getElem?_map, List.getElem?_eq_getElem (by omega), List.getD_eq_getElem?_getD, List.getElem?_map, List.getElem?_eq_getElem (by omega)]
      rfl
    simp only [World.cell?, h]
    simpa using h2) 9 Tryz.underlying9
  rw [this, escS_nums]
set_option maxHeartbeats 2000000 in
set_option maxRecDepth 100000 in
theorem bsr_calls (Q g cap : Nat) (s : ByteArray) (hs : s.size ≤ 1000000) (w : World) (hS : Seen w Q g cap) :
    Calls Tryz.prog 172 #[.pointer (some ⟨Q, 0, none⟩), .string s] w fun e w' => e = .returned (.string (escS s)) ∧ Below w.heap.size w w' := by
  have HS := Lib.hid hS
  have hl := hS.list
  obtain ⟨bi, bi1, bi2, bi3, bi4⟩ := info_parts info_u8R
  clear hS
  by_cases h24 : 24 ≤ s.size
  · have hd : decide ((24 : Int) ≤ (s.size : Int)) = true := by simp; omega
    clear h24
    go_enter Tryz.func172, Tryz.ntmps172
    go_wp2
    go_loopw [5, 6, 32] (fun nv av iv wr => ∃ k : Nat, k ≤ 3 ∧ iv = .int .i64 k ∧ nv = .int .i64 (s.size + Lx.cnt k s.data.toList : Nat) ∧ av = .bool (decide (0 < Lx.cnt k s.data.toList)) ∧ Aside0 (Below w.heap.size w wr)) (fun _ _ i _ => 3 - (intOf i).toNat)
    case atStart => exact ⟨0, by omega, rfl, by simp [Lx.cnt], by simp [Lx.cnt], ⟨Below.refl _ _⟩⟩
    case round =>
      obtain ⟨k, hk, rfl, rfl, rfl, HW⟩ := hrel
      obtain rfl | rfl | rfl | rfl : k = 0 ∨ k = 1 ∨ k = 2 ∨ k = 3 := by omega
      · have u1 := (HS.out.below HW.out).t0
        have u2 := ((HS.out.below HW.out).row 10).2 (by decide)
        obtain ⟨b, kk, u3, -, -⟩ := u2
        have u4 : wr.cell? ⟨Q, 10, none⟩ = some (.slice (some ⟨b, 0, none⟩) 2 kk) := u3
        clear u3
        have u5 := (HS.out.below HW.out).list
        have hx : ((⟨#[10]⟩ : ByteArray)[0]'(by decide)).toNat = 10 := rfl
        have hm2 := Lx.cnt_le 0 s.data.toList
        rw [data_length] at hm2
        obtain ⟨m, hm⟩ : ∃ m, m = Lx.cnt 0 s.data.toList := ⟨_, rfl⟩
        have hn2 : Lib.countByte s.data.toList 10 ≤ s.size := by rw [← data_length]; exact List.count_le_length
        obtain ⟨n, hn⟩ : ∃ n, n = Lib.countByte s.data.toList 10 := ⟨_, rfl⟩
        rw [← hm] at hm2 ⊢
        have hmn : Lx.cnt 1 s.data.toList = m + n := by rw [hm, hn]; simp [Lx.cnt, Lib.countByte]
        have HMN := Lib.hid hmn; clear hmn
        have HN := Lib.hid hn
        rw [← hn] at hn2
        clear hm hn
        go_wp2_with fail
        refine (Tryz.strings_Count_one s 10 _).mono ?_
        rintro e w1 ⟨rfl, rfl⟩
        rw [← HN.out]
        by_cases hz : n = 0
        · subst hz
          go_wp2
          go_roundw
          case rel => exact ⟨1, by omega, rfl, by rw [HMN.out]; go_num, by rw [HMN.out]; simp, ⟨HW.out⟩⟩
          case measure => decide
        · have hz1 : ((n : Int) != 0) = true := by simp [hz]
          have hz2 : ((n : Int) == 0) = false := by simp [hz]
          go_wp2
          go_quiet (fail)
          go_wp2
          go_roundw
          case rel => exact ⟨1, by omega, rfl, by rw [HMN.out]; go_num, by rw [HMN.out]; simp; omega, ⟨below_drewN' HW.out _⟩⟩
          case measure => decide
      · have u1 := (HS.out.below HW.out).t1
        have u2 := ((HS.out.below HW.out).row 92).2 (by decide)
        obtain ⟨b, kk, u3, -, -⟩ := u2
        have u4 : wr.cell? ⟨Q, 92, none⟩ = some (.slice (some ⟨b, 0, none⟩) 2 kk) := u3
        clear u3
        have u5 := (HS.out.below HW.out).list
        have hx : ((⟨#[92]⟩ : ByteArray)[0]'(by decide)).toNat = 92 := rfl
        have hm2 := Lx.cnt_le 1 s.data.toList
        rw [data_length] at hm2
        obtain ⟨m, hm⟩ : ∃ m, m = Lx.cnt 1 s.data.toList := ⟨_, rfl⟩
        have hn2 : Lib.countByte s.data.toList 92 ≤ s.size := by rw [← data_length]; exact List.count_le_length
        obtain ⟨n, hn⟩ : ∃ n, n = Lib.countByte s.data.toList 92 := ⟨_, rfl⟩
        rw [← hm] at hm2 ⊢
        have hmn : Lx.cnt 2 s.data.toList = m + n := by rw [hm, hn]; simp [Lx.cnt, Lib.countByte]
        have HMN := Lib.hid hmn; clear hmn
        have HN := Lib.hid hn
        rw [← hn] at hn2
        clear hm hn
        go_wp2_with fail
        refine (Tryz.strings_Count_one s 92 _).mono ?_
        rintro e w1 ⟨rfl, rfl⟩
        rw [← HN.out]
        by_cases hz : n = 0
        · subst hz
          go_wp2
          go_roundw
          case rel => exact ⟨2, by omega, rfl, by rw [HMN.out]; go_num, by rw [HMN.out]; simp, ⟨HW.out⟩⟩
          case measure => decide
        · have hz1 : ((n : Int) != 0) = true := by simp [hz]
          have hz2 : ((n : Int) == 0) = false := by simp [hz]
          go_wp2
          go_quiet (fail)
          go_wp2
          go_roundw
          case rel => exact ⟨2, by omega, rfl, by rw [HMN.out]; go_num, by rw [HMN.out]; simp; omega, ⟨below_drewN' HW.out _⟩⟩
          case measure => decide
      · have u1 := (HS.out.below HW.out).t2
        have u2 := ((HS.out.below HW.out).row 34).2 (by decide)
        obtain ⟨b, kk, u3, -, -⟩ := u2
        have u4 : wr.cell? ⟨Q, 34, none⟩ = some (.slice (some ⟨b, 0, none⟩) 2 kk) := u3
        clear u3
        have u5 := (HS.out.below HW.out).list
        have hx : ((⟨#[34]⟩ : ByteArray)[0]'(by decide)).toNat = 34 := rfl
        have hm2 := Lx.cnt_le 2 s.data.toList
        rw [data_length] at hm2
        obtain ⟨m, hm⟩ : ∃ m, m = Lx.cnt 2 s.data.toList := ⟨_, rfl⟩
        have hn2 : Lib.countByte s.data.toList 34 ≤ s.size := by rw [← data_length]; exact List.count_le_length
        obtain ⟨n, hn⟩ : ∃ n, n = Lib.countByte s.data.toList 34 := ⟨_, rfl⟩
        rw [← hm] at hm2 ⊢
        have hmn : Lx.cnt 3 s.data.toList = m + n := by rw [hm, hn]; simp [Lx.cnt, Lib.countByte]
        have HMN := Lib.hid hmn; clear hmn
        have HN := Lib.hid hn
        rw [← hn] at hn2
        clear hm hn
        go_wp2_with fail
        refine (Tryz.strings_Count_one s 34 _).mono ?_
        rintro e w1 ⟨rfl, rfl⟩
        rw [← HN.out]
        by_cases hz : n = 0
        · subst hz
          go_wp2
          go_roundw
          case rel => exact ⟨3, by omega, rfl, by rw [HMN.out]; go_num, by rw [HMN.out]; simp, ⟨HW.out⟩⟩
          case measure => decide
        · have hz1 : ((n : Int) != 0) = true := by simp [hz]
          have hz2 : ((n : Int) == 0) = false := by simp [hz]
          go_wp2
          go_quiet (fail)
          go_wp2
          go_roundw
          case rel => exact ⟨3, by omega, rfl, by rw [HMN.out]; go_num, by rw [HMN.out]; simp; omega, ⟨below_drewN' HW.out _⟩⟩
          case measure => decide
      · obtain ⟨m, hm⟩ : ∃ m, m = Lx.cnt 3 s.data.toList := ⟨_, rfl⟩
        have hm2 := Lx.cnt_le 3 s.data.toList
        rw [data_length] at hm2
        rw [← hm] at hm2 ⊢
        have HM := Lib.hid hm; clear hm
        by_cases hz : m = 0
        · have hd1 : decide (0 < m) = false := by simp [hz]
          have HZ := Lib.hid hz; clear hz
          go_wp2
          go_ret
          exact ⟨ret_str (escS_same (by rw [← HM.out]; exact HZ.out)), HW.out⟩
        · have hd1 : decide (0 < m) = true := by simp; omega
          obtain ⟨n3, hn3⟩ : ∃ n3, n3 = s.size + m := ⟨_, rfl⟩
          rw [← hn3]
          have hn4 : n3 ≤ 4000000 := by omega
          have HL : Hid (n3 = (Lx.escs s.data.toList).length) := by
            unfold Hid
            rw [Lx.escs_length, hn3, HM.out, data_length]
          clear hn3 hz hm2
          rename World => wm
          go_wp2_with (at_make; refine wpList_make_full _ rfl _ _ 68 rfl w.heap.size 5 bi _ 1 Tryz.underlying68 bi1 bi2 bi3 .i64 .i64 n3 n3 n3 rfl rfl rfl rfl (by rw [bi4]; omega) (by unfold maxLen; omega) HW.out.size ?_; intro w1 hown hgr)
          have hrow := made_row hown
          have HB1 := Lib.hid (HW.out.grown hgr HW.out.size (fun k hk => by cases hk))
          have hBlo : w.heap.size ≤ wm.heap.size := HW.out.size
          obtain ⟨B, hB⟩ : ∃ B, B = wm.heap.size := ⟨_, rfl⟩
          rw [← hB] at hrow hBlo ⊢
          have HR1 := Lib.hid hrow
          clear hrow hown hgr hB HW
          go_loopw [13, 14] (fun jv iv wr => ∃ k j : Nat, k ≤ s.size ∧ iv = .int .i64 k ∧ jv = .int .i64 j ∧ Aside0 (j = (Lx.escs (s.data.toList.take k)).length) ∧ Aside0 (wr.heap[B]? = some (.cells (bufc n3 (Lx.escs (s.data.toList.take k))).toArray 5 (0, 0))) ∧ Aside0 (Below w.heap.size w wr)) (fun _ i _ => s.size - (intOf i).toNat)
          case atStart => exact ⟨0, 0, Nat.zero_le _, rfl, rfl, ⟨rfl⟩, ⟨by simpa [bufc, Lx.escs, Lib.byteCells] using HR1.out⟩, ⟨HB1.out⟩⟩
          case round =>
            obtain ⟨k, j, hk, rfl, rfl, HJ, HR, HV⟩ := hrel
            by_cases hlt : k < s.size
            · obtain ⟨hc1, hc2⟩ := byteTake s k hlt
              have hrw := (HS.out.below HV.out).row (s[k]'hlt)
              have h256 : ((s[k]'hlt).toNat : Int) < 256 := by have := (s[k]'hlt).toNat_lt; omega
              have hne := fun W a n c => run_neq_slice_nil_any (P := Tryz.prog) W 68 5 a n c 0 0 Tryz.underlying68
              have hes : Lx.escs (s.data.toList.take (k + 1)) = Lx.escs (s.data.toList.take k) ++ Lx.rep (s[k]'hlt) := by rw [hc2, Lx.escs_append, Lx.escs_one]
              have hfit : (Lx.escs (s.data.toList.take (k + 1))).length ≤ n3 := by
                rw [HL.out, ← List.take_append_drop (k + 1) s.data.toList, Lx.escs_append, List.length_append, List.take_append_drop]
                omega
              rw [hes, List.length_append, ← HJ.out] at hfit
              have HES := Lib.hid hes; clear hes hc1 hc2
              by_cases hsp : Lx.special (s[k]'hlt)
              · obtain ⟨b, kk, e1, e2, e3⟩ := hrw.2 hsp
                clear hrw
                rw [Lx.rep_special hsp] at hfit
                have HE2 := Lib.hid e2; have HE3 := Lib.hid e3; clear e2 e3
                have HSP := Lib.hid hsp; clear hsp
                have hj1 : (0 : Int) ≤ (j : Int) ∧ (j : Int) ≤ (n3 : Int) := by omega
                have hj2 : j ≤ n3 := by omega
                have hj3 : ¬ (n3 = j) := by omega
                have hlen : (Lx.escs (s.data.toList.take k)).length ≤ n3 := by rw [← HJ.out]; omega
                have q1 : [Value.int .u8 ((Lx.rep (s[k]'hlt)).getD 0 0).toNat, Value.int .u8 ((Lx.rep (s[k]'hlt)).getD 1 0).toNat].length = Nat.min 2 (n3 - j) := by
                  show 2 = min 2 (n3 - j)
                  omega
                have q2 : ∀ (i : Nat) (v : Value), [Value.int .u8 ((Lx.rep (s[k]'hlt)).getD 0 0).toNat, Value.int .u8 ((Lx.rep (s[k]'hlt)).getD 1 0).toNat][i]? = some v → wr.cell? ((⟨b, 0, none⟩ : Addr).add i) = some v := by
                  intro i v hv
                  match i, hv with
                  | 0, hv => cases hv; simpa [Addr.add] using HE2.out
                  | 1, hv => cases hv; simpa [Addr.add] using HE3.out
                  | i + 2, hv => simp at hv
                have q3 : j + [Value.int .u8 ((Lx.rep (s[k]'hlt)).getD 0 0).toNat, Value.int .u8 ((Lx.rep (s[k]'hlt)).getD 1 0).toNat].length ≤ (bufc n3 (Lx.escs (s.data.toList.take k))).length := by
                  rw [bufc_len hlen]
                  show j + 2 ≤ n3
                  omega
                have q4 : ∀ v ∈ [Value.int .u8 ((Lx.rep (s[k]'hlt)).getD 0 0).toNat, Value.int .u8 ((Lx.rep (s[k]'hlt)).getD 1 0).toNat], v.oneCell' = true := by
                  intro v hv
                  rcases List.mem_cons.1 hv with rfl | hv
                  · rfl
                  · rcases List.mem_cons.1 hv with rfl | hv
                    · rfl
                    · cases hv
                have Q1 := Lib.hid q1; have Q2 := Lib.hid q2; have Q3 := Lib.hid q3; have Q4 := Lib.hid q4; clear q1 q2 q3 q4
                go_wp2
                go_region_law (refine step_copy_splice rfl (.tmp 105) (.tmp 111) 68 68 rfl 5 Tryz.underlying68 (by kernel_rfl) (some ⟨B, j, none⟩) (some ⟨b, 0, none⟩) (n3 - j) (n3 - j) 2 kk (by simp [Act.eval, Act.put]) (by simp [Act.eval, Act.put]) B j (bufc n3 (Lx.escs (s.data.toList.take k))) 5 HR.out [.int .u8 ((Lx.rep (s[k]'hlt)).getD 0 0).toNat, .int .u8 ((Lx.rep (s[k]'hlt)).getD 1 0).toNat] Q1.out (fun _ => ⟨rfl, _, rfl, Q2.out⟩) Q3.out Q4.out w.heap.size w HV.out.drew hBlo ?_; intro w4 hg4 hb4)
                have HB4 := Lib.hid hb4; clear hb4
                go_wp2
                go_roundw
                case rel =>
                  refine ⟨k + 1, j + 2, by omega, by go_num, by go_num, ⟨?_⟩, ⟨?_⟩, ⟨HB4.out⟩⟩
                  · rw [HES.out, List.length_append, ← HJ.out, Lx.rep_special HSP.out]
                  · have h7 := hg4.out
                    have h8 : Lx.rep (s[k]'hlt) = [(Lx.rep (s[k]'hlt)).getD 0 0, (Lx.rep (s[k]'hlt)).getD 1 0] := by
                      rcases HSP.out with h | h | h <;> rw [h] <;> rfl
                    have h9 := bufc_splice (n := n3) (l := Lx.escs (s.data.toList.take k)) ((Lx.rep (s[k]'hlt)).getD 0 0) ((Lx.rep (s[k]'hlt)).getD 1 0) (by rw [← HJ.out]; omega)
                    rw [← HJ.out] at h9
                    rw [h9, ← h8, ← HES.out] at h7
                    exact h7
                case measure => simp [intOf]; omega
              · have e1 := hrw.1 hsp
                clear hrw
                rw [Lx.rep_plain hsp] at hfit
                have hfit1 : j < n3 := by have h5 : ([s[k]'hlt] : List UInt8).length = 1 := rfl; omega
                have h1 : wr.cell? ⟨B, j, none⟩ = some (.int .u8 0) := by
                  have h3 := HR.out
                  have h4 := bufc_get (n := n3) (l := Lx.escs (s.data.toList.take k)) (by rw [← HJ.out]; exact hfit1)
                  rw [← HJ.out] at h4
                  simp only [World.cell?, h3]
                  simpa using h4
                have h2 : wr.frozen? ⟨B, j, none⟩ = false := by
                  have := HR.out
                  simp [World.frozen?, this]
                clear hfit
                have HSP := Lib.hid hsp; clear hsp
                go_wp2
                go_roundw
                case rel =>
                  refine ⟨k + 1, j + 1, by omega, by go_num, by go_num, ⟨?_⟩, ⟨?_⟩, ⟨HV.out.setCell (p := ⟨B, j, none⟩) hBlo _⟩⟩
                  · rw [HES.out, List.length_append, ← HJ.out, Lx.rep_plain HSP.out]; rfl
                  · have h6 := heap_set HR.out j (.int .u8 ((s[k]'hlt).toNat : Nat))
                    rw [HES.out, Lx.rep_plain HSP.out, ← bufc_set (n := n3) (l := Lx.escs (s.data.toList.take k)) (s[k]'hlt) (by rw [← HJ.out]; exact hfit1), ← HJ.out]
                    exact h6
                case measure => simp [intOf]; omega
            · obtain rfl : k = s.size := by omega
              have hr := HR.out
              have hj := HJ.out
              rw [← data_length, List.take_length] at hr hj
              have hjn : j = n3 := by rw [hj, HL.out]
              have hcv := buf_string hr HL.out
              have HCV := Lib.hid hj; clear hj hr hjn
              go_wp2
              go_ret
              exact ⟨rfl, HV.out⟩
  · have hd : decide ((24 : Int) ≤ (s.size : Int)) = false := by simp; omega
    clear h24
    go_enter Tryz.func172, Tryz.ntmps172
    go_wp2
    go_loopw [5, 6, 10] (fun nv av iv wr => ∃ k : Nat, k ≤ s.size ∧ iv = .int .i64 k ∧ nv = .int .i64 (s.size + Lx.cnt 3 (s.data.toList.take k) : Nat) ∧ av = .bool (decide (0 < Lx.cnt 3 (s.data.toList.take k))) ∧ Aside0 (Below w.heap.size w wr)) (fun _ _ i _ => s.size - (intOf i).toNat)
    case atStart => exact ⟨0, by omega, rfl, by simp [Lx.cnt], by simp [Lx.cnt], ⟨Below.refl _ _⟩⟩
    case round =>
      obtain ⟨k, hk, rfl, rfl, rfl, HW⟩ := hrel
      by_cases hlt : k < s.size
      · obtain ⟨hc1, hc2⟩ := byteTake s k hlt
        have hrw := (HS.out.below HW.out).row (s[k]'hlt)
        have h256 : ((s[k]'hlt).toNat : Int) < 256 := by have := (s[k]'hlt).toNat_lt; omega
        have hne := fun W a n c => run_neq_slice_nil_any (P := Tryz.prog) W 68 5 a n c 0 0 Tryz.underlying68
        have hm2 := Lx.cnt_le 3 (s.data.toList.take k)
        have hm3 : (s.data.toList.take k).length ≤ s.size := by rw [List.length_take]; omega
        obtain ⟨m, hm⟩ : ∃ m, m = Lx.cnt 3 (s.data.toList.take k) := ⟨_, rfl⟩
        have hmn : Lx.cnt 3 (s.data.toList.take (k + 1)) = m + (if Lx.special (s[k]'hlt) then 1 else 0) := by rw [hm, hc2, Lx.cnt_append, Lx.cnt_one]
        rw [← hm] at hm2 ⊢
        have HMN := Lib.hid hmn; clear hmn hm hc1 hc2
        have hm4 : m ≤ 3000000 := by omega
        clear hm2 hm3
        by_cases hsp : Lx.special (s[k]'hlt)
        · obtain ⟨b, kk, e1, -, -⟩ := hrw.2 hsp
          clear hrw
          have HSP := Lib.hid hsp; clear hsp
          go_wp2
          go_roundw
          case rel => exact ⟨k + 1, by omega, by go_num, by rw [HMN.out, if_pos HSP.out]; go_num, by rw [HMN.out, if_pos HSP.out]; simp, ⟨HW.out⟩⟩
          case measure => simp [intOf]; omega
        · have e1 := hrw.1 hsp
          clear hrw
          have HSP := Lib.hid hsp; clear hsp
          go_wp2
          go_roundw
          case rel => exact ⟨k + 1, by omega, by go_num, by rw [HMN.out, if_neg HSP.out]; go_num, by rw [HMN.out, if_neg HSP.out]; simp, ⟨HW.out⟩⟩
          case measure => simp [intOf]; omega
      · obtain rfl : k = s.size := by omega
        rw [show s.data.toList.take s.size = s.data.toList by rw [← data_length, List.take_length]]
        obtain ⟨m, hm⟩ : ∃ m, m = Lx.cnt 3 s.data.toList := ⟨_, rfl⟩
        have hm2 := Lx.cnt_le 3 s.data.toList
        rw [data_length] at hm2
        rw [← hm] at hm2 ⊢
        have HM := Lib.hid hm; clear hm
        by_cases hz : m = 0
        · have hd1 : decide (0 < m) = false := by simp [hz]
          have HZ := Lib.hid hz; clear hz
          go_wp2
          go_ret
          exact ⟨ret_str (escS_same (by rw [← HM.out]; exact HZ.out)), HW.out⟩
        · have hd1 : decide (0 < m) = true := by simp; omega
          obtain ⟨n3, hn3⟩ : ∃ n3, n3 = s.size + m := ⟨_, rfl⟩
          rw [← hn3]
          have hn4 : n3 ≤ 4000000 := by omega
          have HL : Hid (n3 = (Lx.escs s.data.toList).length) := by
            unfold Hid
            rw [Lx.escs_length, hn3, HM.out, data_length]
          clear hn3 hz hm2
          rename World => wm
          go_wp2_with (at_make; refine wpList_make_full _ rfl _ _ 68 rfl w.heap.size 5 bi _ 1 Tryz.underlying68 bi1 bi2 bi3 .i64 .i64 n3 n3 n3 rfl rfl rfl rfl (by rw [bi4]; omega) (by unfold maxLen; omega) HW.out.size ?_; intro w1 hown hgr)
          have hrow := made_row hown
          have HB1 := Lib.hid (HW.out.grown hgr HW.out.size (fun k hk => by cases hk))
          have hBlo : w.heap.size ≤ wm.heap.size := HW.out.size
          obtain ⟨B, hB⟩ : ∃ B, B = wm.heap.size := ⟨_, rfl⟩
          rw [← hB] at hrow hBlo ⊢
          have HR1 := Lib.hid hrow
          clear hrow hown hgr hB HW
          go_loopw [13, 14] (fun jv iv wr => ∃ k j : Nat, k ≤ s.size ∧ iv = .int .i64 k ∧ jv = .int .i64 j ∧ Aside0 (j = (Lx.escs (s.data.toList.take k)).length) ∧ Aside0 (wr.heap[B]? = some (.cells (bufc n3 (Lx.escs (s.data.toList.take k))).toArray 5 (0, 0))) ∧ Aside0 (Below w.heap.size w wr)) (fun _ i _ => s.size - (intOf i).toNat)
          case atStart => exact ⟨0, 0, Nat.zero_le _, rfl, rfl, ⟨rfl⟩, ⟨by simpa [bufc, Lx.escs, Lib.byteCells] using HR1.out⟩, ⟨HB1.out⟩⟩
          case round =>
            obtain ⟨k, j, hk, rfl, rfl, HJ, HR, HV⟩ := hrel
            by_cases hlt : k < s.size
            · obtain ⟨hc1, hc2⟩ := byteTake s k hlt
              have hrw := (HS.out.below HV.out).row (s[k]'hlt)
              have h256 : ((s[k]'hlt).toNat : Int) < 256 := by have := (s[k]'hlt).toNat_lt; omega
              have hne := fun W a n c => run_neq_slice_nil_any (P := Tryz.prog) W 68 5 a n c 0 0 Tryz.underlying68
              have hes : Lx.escs (s.data.toList.take (k + 1)) = Lx.escs (s.data.toList.take k) ++ Lx.rep (s[k]'hlt) := by rw [hc2, Lx.escs_append, Lx.escs_one]
              have hfit : (Lx.escs (s.data.toList.take (k + 1))).length ≤ n3 := by
                rw [HL.out, ← List.take_append_drop (k + 1) s.data.toList, Lx.escs_append, List.length_append, List.take_append_drop]
                omega
              rw [hes, List.length_append, ← HJ.out] at hfit
              have HES := Lib.hid hes; clear hes hc1 hc2
              by_cases hsp : Lx.special (s[k]'hlt)
              · obtain ⟨b, kk, e1, e2, e3⟩ := hrw.2 hsp
                clear hrw
                rw [Lx.rep_special hsp] at hfit
                have HE2 := Lib.hid e2; have HE3 := Lib.hid e3; clear e2 e3
                have HSP := Lib.hid hsp; clear hsp
                have hj1 : (0 : Int) ≤ (j : Int) ∧ (j : Int) ≤ (n3 : Int) := by omega
                have hj2 : j ≤ n3 := by omega
                have hj3 : ¬ (n3 = j) := by omega
                have hlen : (Lx.escs (s.data.toList.take k)).length ≤ n3 := by rw [← HJ.out]; omega
                have q1 : [Value.int .u8 ((Lx.rep (s[k]'hlt)).getD 0 0).toNat, Value.int .u8 ((Lx.rep (s[k]'hlt)).getD 1 0).toNat].length = Nat.min 2 (n3 - j) := by
                  show 2 = min 2 (n3 - j)
                  omega
                have q2 : ∀ (i : Nat) (v : Value), [Value.int .u8 ((Lx.rep (s[k]'hlt)).getD 0 0).toNat, Value.int .u8 ((Lx.rep (s[k]'hlt)).getD 1 0).toNat][i]? = some v → wr.cell? ((⟨b, 0, none⟩ : Addr).add i) = some v := by
                  intro i v hv
                  match i, hv with
                  | 0, hv => cases hv; simpa [Addr.add] using HE2.out
                  | 1, hv => cases hv; simpa [Addr.add] using HE3.out
                  | i + 2, hv => simp at hv
                have q3 : j + [Value.int .u8 ((Lx.rep (s[k]'hlt)).getD 0 0).toNat, Value.int .u8 ((Lx.rep (s[k]'hlt)).getD 1 0).toNat].length ≤ (bufc n3 (Lx.escs (s.data.toList.take k))).length := by
                  rw [bufc_len hlen]
                  show j + 2 ≤ n3
                  omega
                have q4 : ∀ v ∈ [Value.int .u8 ((Lx.rep (s[k]'hlt)).getD 0 0).toNat, Value.int .u8 ((Lx.rep (s[k]'hlt)).getD 1 0).toNat], v.oneCell' = true := by
                  intro v hv
                  rcases List.mem_cons.1 hv with rfl | hv
                  · rfl
                  · rcases List.mem_cons.1 hv with rfl | hv
                    · rfl
                    · cases hv
                have Q1 := Lib.hid q1; have Q2 := Lib.hid q2; have Q3 := Lib.hid q3; have Q4 := Lib.hid q4; clear q1 q2 q3 q4
                go_wp2
                go_region_law (refine step_copy_splice rfl (.tmp 105) (.tmp 111) 68 68 rfl 5 Tryz.underlying68 (by kernel_rfl) (some ⟨B, j, none⟩) (some ⟨b, 0, none⟩) (n3 - j) (n3 - j) 2 kk (by simp [Act.eval, Act.put]) (by simp [Act.eval, Act.put]) B j (bufc n3 (Lx.escs (s.data.toList.take k))) 5 HR.out [.int .u8 ((Lx.rep (s[k]'hlt)).getD 0 0).toNat, .int .u8 ((Lx.rep (s[k]'hlt)).getD 1 0).toNat] Q1.out (fun _ => ⟨rfl, _, rfl, Q2.out⟩) Q3.out Q4.out w.heap.size w HV.out.drew hBlo ?_; intro w4 hg4 hb4)
                have HB4 := Lib.hid hb4; clear hb4
                go_wp2
                go_roundw
                case rel =>
                  refine ⟨k + 1, j + 2, by omega, by go_num, by go_num, ⟨?_⟩, ⟨?_⟩, ⟨HB4.out⟩⟩
                  · rw [HES.out, List.length_append, ← HJ.out, Lx.rep_special HSP.out]
                  · have h7 := hg4.out
                    have h8 : Lx.rep (s[k]'hlt) = [(Lx.rep (s[k]'hlt)).getD 0 0, (Lx.rep (s[k]'hlt)).getD 1 0] := by
                      rcases HSP.out with h | h | h <;> rw [h] <;> rfl
                    have h9 := bufc_splice (n := n3) (l := Lx.escs (s.data.toList.take k)) ((Lx.rep (s[k]'hlt)).getD 0 0) ((Lx.rep (s[k]'hlt)).getD 1 0) (by rw [← HJ.out]; omega)
                    rw [← HJ.out] at h9
                    rw [h9, ← h8, ← HES.out] at h7
                    exact h7
                case measure => simp [intOf]; omega
              · have e1 := hrw.1 hsp
                clear hrw
                rw [Lx.rep_plain hsp] at hfit
                have hfit1 : j < n3 := by have h5 : ([s[k]'hlt] : List UInt8).length = 1 := rfl; omega
                have h1 : wr.cell? ⟨B, j, none⟩ = some (.int .u8 0) := by
                  have h3 := HR.out
                  have h4 := bufc_get (n := n3) (l := Lx.escs (s.data.toList.take k)) (by rw [← HJ.out]; exact hfit1)
                  rw [← HJ.out] at h4
                  simp only [World.cell?, h3]
                  simpa using h4
                have h2 : wr.frozen? ⟨B, j, none⟩ = false := by
                  have := HR.out
                  simp [World.frozen?, this]
                clear hfit
                have HSP := Lib.hid hsp; clear hsp
                go_wp2
                go_roundw
                case rel =>
                  refine ⟨k + 1, j + 1, by omega, by go_num, by go_num, ⟨?_⟩, ⟨?_⟩, ⟨HV.out.setCell (p := ⟨B, j, none⟩) hBlo _⟩⟩
                  · rw [HES.out, List.length_append, ← HJ.out, Lx.rep_plain HSP.out]; rfl
                  · have h6 := heap_set HR.out j (.int .u8 ((s[k]'hlt).toNat : Nat))
                    rw [HES.out, Lx.rep_plain HSP.out, ← bufc_set (n := n3) (l := Lx.escs (s.data.toList.take k)) (s[k]'hlt) (by rw [← HJ.out]; exact hfit1), ← HJ.out]
                    exact h6
                case measure => simp [intOf]; omega
            · obtain rfl : k = s.size := by omega
              have hr := HR.out
              have hj := HJ.out
              rw [← data_length, List.take_length] at hr hj
              have hjn : j = n3 := by rw [hj, HL.out]
              have hcv := buf_string hr HL.out
              have HCV := Lib.hid hj; clear hj hr hjn
              go_wp2
              go_ret
              exact ⟨rfl, HV.out⟩
end Go.Proofs.YtegppacnkfeaoaaGreatDoor

/- lex.Quote: what a call of it does, of any text of at most a million bytes. -/
namespace Go.Proofs.YtegppacnkfeaoaaGreatDoor
open Go.RowKit Go.Gw Go.Proofs.YtegppacnkfeaoaaGreatDoorW.PrintWords
set_option linter.unusedVariables false
set_option linter.unusedSimpArgs false

theorem olds_C {w : World} {G : Nat} (h : OldsAt w G) : Kd.C Kd.string w (some ⟨G, 0, none⟩) 6 olds := by
  refine ⟨rfl, by decide, fun _ => ⟨_, rfl, fun j p hj => ⟨[.string p], rfl, rfl, fun i u hu => ?_⟩⟩⟩
  cases i with
  | succ i => simp at hu
  | zero =>
    simp only [List.getElem?_cons_zero, Option.some.injEq] at hu
    subst hu
    have ea : (⟨G, 0, none⟩ : Addr).add (j * 1 + 0) = ⟨G, j, none⟩ := by simp [Addr.add]; exact fun h => h.symm
    show w.cell? ((⟨G, 0, none⟩ : Addr).add (j * 1 + 0)) = _
    rw [ea]
    match j, hj with
    | 0, hj => cases hj; exact h.h0
    | 1, hj => cases hj; exact h.h1
    | 2, hj => cases hj; exact h.h2
    | 3, hj => cases hj; exact h.h3
    | 4, hj => cases hj; exact h.h4
    | 5, hj => cases hj; exact h.h5
    | j + 6, hj => simp [olds] at hj
theorem olds_of_C {w : World} {G c : Nat} {e base : Nat} {ok : Nat → Prop} (h : Kd.R Kd.string e w base ok (.slice (some ⟨G, 0, none⟩) 6 c) olds) : OldsAt w G := by
  obtain ⟨_, _, hC⟩ := Kd.R_reads' h
  have at_ : ∀ k, k < 6 → w.cell? ⟨G, k, none⟩ = some (.string (olds.getD k ByteArray.empty)) := by
    intro k hk
    obtain ⟨ad, e, hc⟩ := Kd.at_string hC k (by omega) (by simp only [olds]; simp; omega)
    cases e
    have : (⟨G, 0, none⟩ : Addr).add k = ⟨G, k, none⟩ := by simp [Addr.add]; exact fun h => h.symm
    rw [show ((k : Nat) : Int).toNat = k by omega, this] at hc
    exact hc
  exact ⟨at_ 0 (by omega), at_ 1 (by omega), at_ 2 (by omega), at_ 3 (by omega), at_ 4 (by omega), at_ 5 (by omega)⟩
def NewPost (w : World) (e : Ending) (w' : World) : Prop :=
  ∃ N G c, e = .returned (.pointer (some ⟨N, 0, none⟩)) ∧ Fresh w' N G c ∧ OldsAt w' G ∧ w.heap.size ≤ N ∧ Below w.heap.size w w'
set_option maxHeartbeats 2000000 in
set_option maxRecDepth 100000 in
theorem new_calls (G0 : Nat) (w : World) (ho : OldsAt w G0) :
    Calls Tryz.prog 59 #[.slice (some ⟨G0, 0, none⟩) 6 6] w (NewPost w) := by
  have HO := Lib.hid ho; clear ho
  go_enter Tryz.func59, Tryz.ntmps59
  go_wp2_with (first | (at_builtin; refine Kd.R_append_row Value.string ByteArray.empty (h1 := fun _ => rfl) (w0 := w) w.heap.size rfl (.const (.slice none 0 0)) (.tmp 8) 23 9 (.string ⟨#[]⟩) 16 rfl Tryz.underlying23 info_strR rfl (by decide) _ [] olds (some ⟨G0, 0, none⟩) 6 6 (fun _ => True) rfl rfl (fun _ _ => trivial) ?aO ?aR ?aB ?aS ?aL ?_; (case aO => exact Kd.R_nil _ _ _ _ _); (case aR => exact olds_C HO.out); (case aB => exact Below.refl _ _); (case aS => exact Nat.le_refl _); (case aL => decide); intro v1 w1 hr hb hg hat; obtain ⟨G, c1, hv1, hge, hlt, -⟩ := Kd.R_form hr (by decide); change v1 = .slice (some ⟨G, 0, none⟩) 6 c1 at hv1; subst hv1; have HR := Lib.hid (olds_of_C hr); have HB := Lib.hid hb; clear hr hb hg hat))
  go_ret
  refine ⟨w1.heap.size, G, c1, rfl, ⟨(World.cell?_alloc_new _ _ _ _).trans rfl, (World.cell?_alloc_new _ _ _ _).trans rfl, ⟨_, (World.cell?_alloc_new _ _ _ _).trans rfl⟩, (World.cell?_alloc_new _ _ _ _).trans rfl, ?_, by omega⟩, HR.out.below ((Below.refl _ _).alloc (Nat.le_refl _) _), HB.out.size, HB.out.alloc HB.out.size _⟩
  intro j
  simp only [World.frozen?, heap_new]
  simp
set_option maxHeartbeats 2000000 in
set_option maxRecDepth 100000 in
theorem replace_calls (N G c : Nat) (s : ByteArray) (hs : s.size ≤ 1000000) (w : World) (hF : Fresh w N G c) (ho : OldsAt w G) :
    Calls Tryz.prog 60 #[.pointer (some ⟨N, 0, none⟩), .string s] w fun e w' => e = .returned (.string (escS s)) ∧ Below N w w' := by
  have hN : N < w.heap.size := cell_lt hF.c0
  have HF := Lib.hid hF; clear hF
  have HO := Lib.hid ho; clear ho
  have hmf : ∀ (fn : Fn) (first cap : Array Value) (w : World), (Instr.makeFunc fn first cap).run Tryz.prog w = .ok (.func fn first cap) w := fun _ _ _ _ => rfl
  go_enter Tryz.func60, Tryz.ntmps60
  go_wp2_with fail
  refine (do_calls N G c w HF.out HO.out).mono ?_
  rintro e w1 ⟨Q, TL, rfl, h1, h2, h3⟩
  obtain ⟨g, cap, hS⟩ := seen_of_tabl h2
  have HS := Lib.hid hS; have H3 := Lib.hid h3; clear h2 h3 hS
  go_wp2_with fail
  refine (bsr_calls Q g cap s hs w1 HS.out).mono ?_
  rintro e w2 ⟨rfl, hb2⟩
  have HB := Lib.hid (H3.out.trans (hb2.mono (Nat.le_trans (Nat.le_of_lt hN) H3.out.size))); clear hb2
  go_wp2
  go_ret
  exact ⟨rfl, HB.out⟩
def quoteS (s : ByteArray) : ByteArray := ⟨(Lx.quote s.data.toList).toArray⟩
theorem quote_bad {s : ByteArray} {c : UInt8} (hc : c ∈ s.data.toList) (h : Lx.mayc c = false) : quoteS s = ByteArray.empty := by
  have hn : Lx.body s.data.toList = none := by
    cases hb : Lx.body s.data.toList with
    | none => rfl
    | some b =>
      have := (Lx.body_some s.data.toList).2 ⟨b, hb⟩ c hc
      rw [h] at this; cases this
  show (⟨(Lx.quote s.data.toList).toArray⟩ : ByteArray) = _
  rw [Lx.quote, hn]
  rfl
theorem quote_good {s : ByteArray} (h : ∀ c ∈ s.data.toList, Lx.mayc c = true) : (⟨#[34]⟩ : ByteArray) ++ escS s ++ ⟨#[34]⟩ = quoteS s := by
  apply str_ext
  rw [ByteArray.data_append, ByteArray.data_append, Array.toList_append, Array.toList_append]
  show [34] ++ Lx.escs s.data.toList ++ [34] = Lx.quote s.data.toList
  rw [Lx.quote, Lx.body_escs _ h]
  rfl
theorem escS_size (s : ByteArray) : (escS s).size ≤ 4 * s.size := by
  have h1 := Lx.escs_length s.data.toList
  have h2 := Lx.cnt_le 3 s.data.toList
  show (Lx.escs s.data.toList).length ≤ _
  rw [data_length] at h1 h2
  omega
theorem mayc_iff (c : UInt8) : Lx.mayc c = true ↔ c.toNat = 10 ∨ (32 ≤ c.toNat ∧ c.toNat ≠ 127) := by
  simp only [Lx.mayc, Bool.or_eq_true, Bool.and_eq_true, decide_eq_true_eq, beq_iff_eq, bne_iff_ne, ne_eq, ← UInt8.toNat_inj]
  rfl
set_option maxHeartbeats 2000000 in
set_option maxRecDepth 100000 in
theorem Quote_calls (s : ByteArray) (hs : s.size ≤ 1000000) (w : World) :
    Calls Tryz.prog 39 #[.string s] w fun e w' => e = .returned (.string (quoteS s)) ∧ Below w.heap.size w w' := by
  go_enter Tryz.func39, Tryz.ntmps39
  go_wp2
  go_loop [6] (fun iv => ∃ k : Nat, k ≤ s.size ∧ iv = .int .i64 k ∧ Aside0 (∀ c ∈ s.data.toList.take k, Lx.mayc c = true)) (fun i => s.size - (intOf i).toNat)
  case atStart => exact ⟨0, Nat.zero_le _, rfl, ⟨by simp⟩⟩
  case round =>
    obtain ⟨k, hk, rfl, HM⟩ := hrel
    by_cases hlt : k < s.size
    · obtain ⟨hc1, hc2⟩ := byteTake s k hlt
      have HC1 := Lib.hid hc1; have HC2 := Lib.hid hc2; clear hc1 hc2
      have hmi := mayc_iff (s[k]'hlt)
      have HMI := Lib.hid hmi; clear hmi
      have next : Lx.mayc (s[k]'hlt) = true → ∀ c ∈ s.data.toList.take (k + 1), Lx.mayc c = true := by
        intro h c hc
        rw [HC2.out] at hc
        rcases List.mem_append.1 hc with hc | hc
        · exact HM.out c hc
        · rw [List.mem_singleton.1 hc]; exact h
      have HNX := Lib.hid next; clear next
      by_cases h127 : (s[k]'hlt).toNat = 127
      · have t1 : ((s[k]'hlt).toNat : Int) = 127 := by omega
        have t2 : (((s[k]'hlt).toNat : Int) == 127) = true := by simp [h127]
        have t3 : ¬ ((s[k]'hlt).toNat : Int) < 32 := by omega
        have HQ := Lib.hid (quote_bad HC1.out (by rw [Bool.eq_false_iff]; intro h; have := HMI.out.1 h; omega))
        have H127 := Lib.hid h127; clear h127 t1
        go_wp2
        go_ret
        exact ⟨ret_str HQ.out.symm, Below.refl _ _⟩
      · have t2 : (((s[k]'hlt).toNat : Int) == 127) = false := by simp; omega
        by_cases h10 : (s[k]'hlt).toNat = 10
        · have t3 : ((s[k]'hlt).toNat : Int) < 32 := by omega
          have t4 : (((s[k]'hlt).toNat : Int) == 10) = true := by simp [h10]
          have t5 : (((s[k]'hlt).toNat : Int) != 10) = false := by simp [h10]
          have t6 : ((s[k]'hlt).toNat : Int) = 10 := by omega
          have HO := Lib.hid (HNX.out (HMI.out.2 (.inl h10)))
          clear h127
          have H10 := Lib.hid h10; clear h10
          go_wp2
          go_round
          case rel => exact ⟨k + 1, by omega, by go_num, ⟨HO.out⟩⟩
          case measure => simp [intOf]; omega
        · have t4 : (((s[k]'hlt).toNat : Int) == 10) = false := by simp; omega
          have t5 : (((s[k]'hlt).toNat : Int) != 10) = true := by simp; omega
          have t6 : ¬ ((s[k]'hlt).toNat : Int) = 10 := by omega
          by_cases h32 : (s[k]'hlt).toNat < 32
          · have t3 : ((s[k]'hlt).toNat : Int) < 32 := by omega
            have HQ := Lib.hid (quote_bad HC1.out (by rw [Bool.eq_false_iff]; intro h; have := HMI.out.1 h; omega))
            clear h127 h10
            go_wp2
            go_ret
            exact ⟨ret_str HQ.out.symm, Below.refl _ _⟩
          · have t3 : ¬ ((s[k]'hlt).toNat : Int) < 32 := by omega
            have HO := Lib.hid (HNX.out (HMI.out.2 (.inr ⟨by omega, h127⟩)))
            clear h127 h10
            go_wp2
            go_round
            case rel => exact ⟨k + 1, by omega, by go_num, ⟨HO.out⟩⟩
            case measure => simp [intOf]; omega
    · obtain rfl : k = s.size := by omega
      have hm := HM.out
      rw [← data_length, List.take_length] at hm
      have HQ := Lib.hid (quote_good hm)
      have hz := escS_size s
      clear hm HM
      go_wp2_with fail
      refine (new_calls w.heap.size _ ⟨(World.cell?_alloc_new _ _ _ _).trans rfl, (World.cell?_alloc_new _ _ _ _).trans rfl, (World.cell?_alloc_new _ _ _ _).trans rfl, (World.cell?_alloc_new _ _ _ _).trans rfl, (World.cell?_alloc_new _ _ _ _).trans rfl, (World.cell?_alloc_new _ _ _ _).trans rfl⟩).mono ?_
      rintro e w1 ⟨N, G, c, rfl, hF, hO, hN, hb⟩
      have hN2 : w.heap.size ≤ N := by simp at hN; omega
      have HF := Lib.hid hF; have HO := Lib.hid hO
      have HB := Lib.hid (((Below.refl w.heap.size w).alloc (Nat.le_refl _) (.cells #[.string ⟨#[34]⟩, .string ⟨#[92, 34]⟩, .string ⟨#[92]⟩, .string ⟨#[92, 92]⟩, .string ⟨#[10]⟩, .string ⟨#[92, 110]⟩] 9)).trans (hb.mono (by simp)))
      clear hF hO hb hN
      go_wp2_with fail
      refine (replace_calls N G c s hs w1 HF.out HO.out).mono ?_
      rintro e w2 ⟨rfl, hb2⟩
      have HB2 := Lib.hid (HB.out.trans (hb2.mono hN2)); clear hb2 HB
      have hq1 : (⟨#[34]⟩ : ByteArray).size = 1 := rfl
      go_wp2
      go_ret
      exact ⟨ret_str HQ.out, HB2.out⟩
end Go.Proofs.YtegppacnkfeaoaaGreatDoor

/- The reference's Quote: what a call of it does, of any text of at most a million bytes. -/
namespace Go.Proofs.YtegppacnkfeaoaaGreatDoor
open Go.RowKit Go.Gw Go.Proofs.YtegppacnkfeaoaaGreatDoorW.PrintWords
set_option linter.unusedVariables false
set_option linter.unusedSimpArgs false

/-- What is written so far: a mark, and what the bytes become. -/
def outS (l : List UInt8) : ByteArray := ⟨(34 :: Lx.escs l).toArray⟩
theorem outS_size (l : List UInt8) : (outS l).size ≤ 4 * l.length + 1 := by
  have h1 := Lx.escs_length l
  have h2 := Lx.cnt_le 3 l
  show (34 :: Lx.escs l).length ≤ _
  simp only [List.length_cons]
  omega
theorem outS_step {l : List UInt8} {c : UInt8} {x : ByteArray} (hx : x.data.toList = Lx.rep c) : outS l ++ x = outS (l ++ [c]) := by
  apply str_ext
  rw [ByteArray.data_append, Array.toList_append, hx]
  show 34 :: Lx.escs l ++ Lx.rep c = 34 :: Lx.escs (l ++ [c])
  rw [Lx.escs_append, Lx.escs_one]
  rfl
theorem one_mid (s : ByteArray) (k : Nat) (h : k < s.size) : (s.extract k (k + 1)).data.toList = [s[k]'h] := by
  rw [ext_mid]
  have hl : k < s.data.toList.length := by rw [Array.length_toList]; exact h
  show (s.data.toList.drop k).take (k + 1 - k) = _
  rw [show k + 1 - k = 1 by omega, List.drop_eq_getElem_cons hl]
  rfl
theorem quote_out {s : ByteArray} (h : ∀ c ∈ s.data.toList, Lx.mayc c = true) : outS s.data.toList ++ (⟨#[34]⟩ : ByteArray) = quoteS s := by
  rw [← quote_good h]
  congr 1
set_option maxHeartbeats 2000000 in
set_option maxRecDepth 100000 in
theorem RefQuote_calls (s : ByteArray) (hs : s.size ≤ 1000000) (w : World) :
    Calls Tryz.prog 43 #[.string s] w fun e w' => e = .returned (.string (quoteS s)) ∧ Below w.heap.size w w' := by
  go_enter Tryz.func43, Tryz.ntmps43
  go_wp2
  go_loop [3, 4] (fun ov iv => ∃ (k : Nat) (o : ByteArray), k ≤ s.size ∧ iv = .int .i64 k ∧ ov = .string o ∧ o.size ≤ 4 * k + 1 ∧ Aside0 (o = outS (s.data.toList.take k)) ∧ Aside0 (∀ c ∈ s.data.toList.take k, Lx.mayc c = true)) (fun _ i => s.size - (intOf i).toNat)
  case atStart => exact ⟨0, ⟨#[34]⟩, Nat.zero_le _, rfl, rfl, by decide, ⟨rfl⟩, ⟨by simp⟩⟩
  case round =>
    obtain ⟨k, o, hk, rfl, rfl, ho, HO, HM⟩ := hrel
    by_cases hlt : k < s.size
    · obtain ⟨hc1, hc2⟩ := byteTake s k hlt
      have HC1 := Lib.hid hc1; have HC2 := Lib.hid hc2; clear hc1 hc2
      have HMI := Lib.hid (mayc_iff (s[k]'hlt))
      have next : Lx.mayc (s[k]'hlt) = true → ∀ c ∈ s.data.toList.take (k + 1), Lx.mayc c = true := by
        intro h c hc
        rw [HC2.out] at hc
        rcases List.mem_append.1 hc with hc | hc
        · exact HM.out c hc
        · rw [List.mem_singleton.1 hc]; exact h
      have HNX := Lib.hid next; clear next
      have HONE := Lib.hid (one_mid s k hlt)
      have hone : (s.extract k (k + 1)).size = 1 := by rw [← data_length, HONE.out]; rfl
      have hz2 : (⟨#[92, 110]⟩ : ByteArray).size = 2 := rfl
      have hz1 : (⟨#[92]⟩ : ByteArray).size = 1 := rfl
      have hstep : ∀ x : ByteArray, x.data.toList = Lx.rep (s[k]'hlt) → o ++ x = outS (s.data.toList.take (k + 1)) := by
        intro x hx
        rw [HC2.out, HO.out]
        exact outS_step hx
      have HST := Lib.hid hstep; clear hstep
      have hosz : (outS (s.data.toList.take (k + 1))).size ≤ 4 * (k + 1) + 1 := by
        refine Nat.le_trans (outS_size _) ?_
        rw [List.length_take]; omega
      have HOS := Lib.hid hosz; clear hosz
      by_cases h10 : (s[k]'hlt).toNat = 10
      · have t4 : (((s[k]'hlt).toNat : Int) == 10) = true := by simp [h10]
        have HX := Lib.hid (HST.out ⟨#[92, 110]⟩ (by rw [show s[k]'hlt = 10 from UInt8.toNat_inj.1 h10]; rfl))
        have HNM := Lib.hid (HNX.out (HMI.out.2 (.inl h10)))
        have H10 := Lib.hid h10; clear h10
        go_wp2
        go_round
        case rel => exact ⟨k + 1, _, by omega, by go_num, rfl, by rw [HX.out]; exact HOS.out, ⟨HX.out⟩, ⟨HNM.out⟩⟩
        case measure => simp [intOf]; omega
      · have t4 : (((s[k]'hlt).toNat : Int) == 10) = false := by simp; omega
        have t5 : ¬ ((s[k]'hlt).toNat : Int) = 10 := by omega
        by_cases hbad : (s[k]'hlt).toNat < 32 ∨ (s[k]'hlt).toNat = 127
        · have HQ := Lib.hid (quote_bad HC1.out (by rw [Bool.eq_false_iff]; intro h; have := HMI.out.1 h; omega))
          rcases hbad with hb | hb
          · have t6 : ((s[k]'hlt).toNat : Int) < 32 := by omega
            clear h10
            go_wp2
            go_ret
            exact ⟨ret_str HQ.out.symm, Below.refl _ _⟩
          · have t6 : ¬ ((s[k]'hlt).toNat : Int) < 32 := by omega
            have t7 : (((s[k]'hlt).toNat : Int) == 127) = true := by simp [hb]
            have HBB := Lib.hid hb; clear hb h10
            go_wp2
            go_ret
            exact ⟨ret_str HQ.out.symm, Below.refl _ _⟩
        · have t6 : ¬ ((s[k]'hlt).toNat : Int) < 32 := by omega
          have t7 : (((s[k]'hlt).toNat : Int) == 127) = false := by simp; omega
          have t8 : ¬ ((s[k]'hlt).toNat : Int) = 127 := by omega
          have HNM := Lib.hid (HNX.out (HMI.out.2 (.inr ⟨by omega, by omega⟩)))
          by_cases h34 : (s[k]'hlt).toNat = 34 ∨ (s[k]'hlt).toNat = 92
          · have hx : ((⟨#[92]⟩ : ByteArray) ++ s.extract k (k + 1)).data.toList = Lx.rep (s[k]'hlt) := by
              rw [ByteArray.data_append, Array.toList_append, HONE.out]
              rcases h34 with h | h
              · rw [show s[k]'hlt = 34 from UInt8.toNat_inj.1 h]; rfl
              · rw [show s[k]'hlt = 92 from UInt8.toNat_inj.1 h]; rfl
            have hX := HST.out _ hx
            rw [← ByteArray.append_assoc] at hX
            have HX := Lib.hid hX; clear hX hx
            clear hbad h10
            rcases h34 with h | h
            · have t9 : (((s[k]'hlt).toNat : Int) == 34) = true := by simp [h]
              have HH := Lib.hid h; clear h
              go_wp2
              go_round
              case rel => exact ⟨k + 1, _, by omega, by go_num, rfl, by rw [HX.out]; exact HOS.out, ⟨HX.out⟩, ⟨HNM.out⟩⟩
              case measure => simp [intOf]; omega
            · have t9 : (((s[k]'hlt).toNat : Int) == 92) = true := by simp [h]
              have t10 : (((s[k]'hlt).toNat : Int) == 34) = false := by simp [h]
              have HH := Lib.hid h; clear h
              go_wp2
              go_round
              case rel => exact ⟨k + 1, _, by omega, by go_num, rfl, by rw [HX.out]; exact HOS.out, ⟨HX.out⟩, ⟨HNM.out⟩⟩
              case measure => simp [intOf]; omega
          · have hx : (s.extract k (k + 1)).data.toList = Lx.rep (s[k]'hlt) := by
              rw [HONE.out, Lx.rep_plain]
              rintro (h | h | h)
              · rw [h] at h10; exact h10 rfl
              · rw [h] at h34; exact h34 (.inr rfl)
              · rw [h] at h34; exact h34 (.inl rfl)
            have HX := Lib.hid (HST.out _ hx); clear hx
            have t9 : (((s[k]'hlt).toNat : Int) == 34) = false := by simp; omega
            have t10 : (((s[k]'hlt).toNat : Int) == 92) = false := by simp; omega
            have t11 : ¬ ((s[k]'hlt).toNat : Int) = 34 := by omega
            have t12 : ¬ ((s[k]'hlt).toNat : Int) = 92 := by omega
            clear hbad h10 h34
            go_wp2
            go_round
            case rel => exact ⟨k + 1, _, by omega, by go_num, rfl, by rw [HX.out]; exact HOS.out, ⟨HX.out⟩, ⟨HNM.out⟩⟩
            case measure => simp [intOf]; omega
    · obtain rfl : k = s.size := by omega
      have hm := HM.out
      have ho2 := HO.out
      rw [← data_length, List.take_length] at hm ho2
      have HQ := Lib.hid (quote_out hm)
      have HO2 := Lib.hid ho2
      clear hm HM ho2 HO
      have hz1 : (⟨#[34]⟩ : ByteArray).size = 1 := rfl
      go_wp2
      go_ret
      exact ⟨ret_str (by rw [HO2.out]; exact HQ.out), Below.refl _ _⟩
end Go.Proofs.YtegppacnkfeaoaaGreatDoor

/- The shelf's contract of strings.Join, laid at this dump by its numbers. Conditions: the contract's own. -/
namespace Go.Proofs.YtegppacnkfeaoaaGreatDoor
open Go.Shelf Go.RowKit Go.Gw Go.Proofs.YtegppacnkfeaoaaGreatDoorW.PrintWords
def jRen : Go.Shelf.Ren := ⟨fun | 156 => 40 | 165 => 61 | 166 => 62 | 169 => 63 | 240 => 78 | 241 => 79 | 276 => 91 | 277 => 92 | n => n, fun | 0 => 0 | 3 => 3 | 4 => 4 | 5 => 5 | 9 => 9 | 20 => 20 | 31 => 23 | 37 => 68 | 70 => 67 | 72 => 70 | 75 => 73 | 76 => 74 | 80 => 76 | 127 => 106 | 164 => 116 | n => n, fun | n => n⟩
theorem laysJ156 : Go.Proofs.Lays.n156 Tryz.prog jRen := {
  mixed := by kernel_rfl
  f156 := Tryz.func40.trans (congrArg some (by kernel_rfl))
  f165 := Tryz.func61.trans (congrArg some (by kernel_rfl))
  f166 := Tryz.func62.trans (congrArg some (by kernel_rfl))
  f169 := Tryz.func63.trans (congrArg some (by kernel_rfl))
  f240 := Tryz.func78.trans (congrArg some (by kernel_rfl))
  f241 := Tryz.func79.trans (congrArg some (by kernel_rfl))
  f276 := Tryz.func91.trans (congrArg some (by kernel_rfl))
  f277 := Tryz.func92.trans (congrArg some (by kernel_rfl))
  t0 := Tryz.underlying0
  a0 := Tryz.isAgg0
  z0 := Tryz.sizeOf0
  v0 := Tryz.zeroValue0
  t3 := Tryz.underlying3
  a3 := Tryz.isAgg3
  z3 := Tryz.sizeOf3
  v3 := Tryz.zeroValue3
  t4 := Tryz.underlying4
  a4 := Tryz.isAgg4
  z4 := Tryz.sizeOf4
  v4 := Tryz.zeroValue4
  t9 := Tryz.underlying9
  a9 := Tryz.isAgg9
  z9 := Tryz.sizeOf9
  v9 := Tryz.zeroValue9
  t20 := Tryz.underlying20
  a20 := Tryz.isAgg20
  z20 := Tryz.sizeOf20
  v20 := Tryz.zeroValue20
  t31 := Tryz.underlying23
  a31 := Tryz.isAgg23
  z31 := Tryz.sizeOf23
  v31 := Tryz.zeroValue23
  t37 := Tryz.underlying68
  a37 := Tryz.isAgg68
  z37 := Tryz.sizeOf68
  v37 := Tryz.zeroValue68
  t70 := Tryz.underlying67
  a70 := Tryz.isAgg67
  z70 := Tryz.sizeOf67
  v70 := Tryz.zeroValue67
  t72 := Tryz.underlying70
  a72 := Tryz.isAgg70
  z72 := Tryz.sizeOf70
  v72 := Tryz.zeroValue70
  t75 := Tryz.underlying73
  a75 := Tryz.isAgg73
  z75 := Tryz.sizeOf73
  v75 := Tryz.zeroValue73
  t76 := Tryz.underlying74
  a76 := Tryz.isAgg74
  z76 := Tryz.sizeOf74
  v76 := Tryz.zeroValue74
  t127 := Tryz.underlying106
  a127 := Tryz.isAgg106
  z127 := Tryz.sizeOf106
  v127 := Tryz.zeroValue106
  t164 := Tryz.underlying116
  a164 := Tryz.isAgg116
  z164 := Tryz.sizeOf116
  v164 := Tryz.zeroValue116 }
theorem jExtra : Builder.Extra Tryz.prog jRen := {
  sizeBuilder := by kernel_rfl
  liesBuilder := by kernel_rfl
  t5 := Tryz.underlying5
  a5 := Tryz.isAgg5
  z5 := Tryz.sizeOf5
  v5 := Tryz.zeroValue5
  infoByte := by kernel_rfl
  cellsByte := by kernel_rfl
  sizeByte := by kernel_rfl
  neB5 := by decide }
/-- The texts, with sep between each two. -/
def joinS (l : List ByteArray) (sep : ByteArray) : ByteArray := ⟨(Lib.join (l.map (·.data.toList)) sep.data.toList).toArray⟩
theorem Join_calls (l : List ByteArray) (sep : ByteArray) (w : World) (A : Option Addr) (c : Nat) (hr : Kd.C Kd.string w A l.length l) (hc : l.length ≤ c) (hl : l.length ≤ 1000000) (hs : (joinS l sep).size ≤ 10000000) :
    Calls Tryz.prog 40 #[.slice A l.length c, .string sep] w fun e w' => e = .returned (.string (joinS l sep)) ∧ Below w.heap.size w w' := by
  have hs' : (Lib.join (l.map (·.data.toList)) sep.data.toList).length ≤ 140737488355328 := by
    have : (joinS l sep).size = (Lib.join (l.map (·.data.toList)) sep.data.toList).length := rfl
    omega
  rcases l with _ | ⟨x, l⟩
  · exact (Any.strings_Join_none laysJ156 jExtra A c sep w).mono fun e w' ⟨he, hw⟩ => ⟨he, hw ▸ Below.refl _ _⟩
  · obtain ⟨ad, e1, h1⟩ := Kd.at_string hr 0 (by omega) (by simp)
    subst e1
    obtain ⟨bk, off, sp⟩ := ad
    obtain rfl : sp = none := by
      cases sp with
      | none => rfl
      | some q =>
        unfold World.cell? at h1
        simp only [Addr.add] at h1
        split at h1 <;> simp at h1
    have hlt := World.block_lt_of_cell? w _ h1
    refine Any.strings_Join laysJ156 jExtra bk off c (x :: l) sep w (fun j y hj => ?_) hlt (by omega) hc hs'
    have hj' : j < (x :: l).length := by
      rcases Nat.lt_or_ge j (x :: l).length with h | h
      · exact h
      · rw [List.getElem?_eq_none h] at hj; cases hj
    obtain ⟨ad, e2, h2⟩ := Kd.at_string hr j (by omega) (by omega)
    cases e2
    have e3 : rdOf ByteArray.empty (x :: l) (j : Int) = y := by
      show (x :: l).getD (j : Int).toNat ByteArray.empty = y
      rw [Int.toNat_natCast, List.getD_eq_getElem?_getD, hj]
      rfl
    rw [e3, Int.toNat_natCast] at h2
    have e4 : (⟨bk, off, none⟩ : Addr).add j = ⟨bk, off + j, none⟩ := by
      unfold Addr.add
      split
      · simp_all
      · rfl
    rw [e4] at h2
    exact h2
end Go.Proofs.YtegppacnkfeaoaaGreatDoor

/- Values of the language, as trees: their texts, their bytes, whether they may be. Conditions: each theorem's own. -/
namespace Go.Proofs.YtegppacnkfeaoaaGreatDoor.G
open Go.RowKit Go.Gw Go.Proofs.YtegppacnkfeaoaaGreatDoorW.PrintWords
set_option linter.unusedVariables false
set_option linter.unusedSimpArgs false

/-- How great the values are that a function value has been shown for; whether the errors of numbers are laid. -/
structure Bound where
  n : Nat
  e : Bool
def bnd [Inhabited Bound] : Nat := (default : Bound).n
def bnde [Inhabited Bound] : Bool := (default : Bound).e

theorem size_kid (v : S25) : SizeOf.sizeOf v.f3 < SizeOf.sizeOf v := by
  cases v
  simp only [S25.mk.sizeOf_spec]
  omega
theorem size_mem {v x : S25} (h : x ∈ v.f3) : SizeOf.sizeOf x < SizeOf.sizeOf v := Nat.lt_trans (List.sizeOf_lt_of_mem h) (size_kid v)
theorem tree_ind {P : S25 → Prop} (h : ∀ v, (∀ x ∈ v.f3, P x) → P v) : ∀ v, P v := by
  have main : ∀ (n : Nat) (v : S25), SizeOf.sizeOf v < n → P v := by
    intro n
    induction n with
    | zero => intro v hv; omega
    | succ n ih => intro v hv; exact h v (fun x hx => ih x (by have := size_mem hx; omega))
  exact fun v => main _ v (Nat.lt_succ_self _)

theorem less_asym : ∀ (a b : List UInt8), Op.bytesLess a b = true → (Op.bytesLess b a || b == a) = false
  | _, [], h => by simp [Op.bytesLess] at h
  | [], _ :: _, _ => by simp [Op.bytesLess]
  | a :: x, b :: y, h => by
    have ih := less_asym x y
    simp only [Op.bytesLess, Bool.or_eq_true, Bool.and_eq_true, decide_eq_true_eq, beq_iff_eq] at h
    rcases h with h | ⟨rfl, h⟩
    · have h1 : ¬ b < a := by rw [UInt8.lt_iff_toNat_lt] at h ⊢; omega
      have h2 : ¬ b = a := by rintro rfl; rw [UInt8.lt_iff_toNat_lt] at h; omega
      simp [Op.bytesLess, h1, h2]
    · have := ih h
      simp only [Bool.or_eq_false_iff] at this
      have h1 : ¬ a < a := by rw [UInt8.lt_iff_toNat_lt]; omega
      simpa [Op.bytesLess, h1] using this
theorem less_total : ∀ (a b : List UInt8), Op.bytesLess a b = false → (Op.bytesLess b a || b == a) = true
  | [], [], _ => by simp [Op.bytesLess]
  | a :: x, [], _ => by simp [Op.bytesLess]
  | [], b :: y, h => by simp [Op.bytesLess] at h
  | a :: x, b :: y, h => by
    have ih := less_total x y
    simp only [Op.bytesLess, Bool.or_eq_false_iff, Bool.and_eq_false_iff, decide_eq_false_iff_not, beq_eq_false_iff_ne, ne_eq] at h
    obtain ⟨h1, h2⟩ := h
    by_cases e : a = b
    · subst e
      have h3 : Op.bytesLess x y = false := h2.resolve_left (fun h => h rfl)
      have := ih h3
      simp only [Bool.or_eq_true, beq_iff_eq] at this
      have h1' : ¬ a < a := h1
      simpa [Op.bytesLess, h1'] using this
    · have : b < a := by
        rw [UInt8.lt_iff_toNat_lt] at h1 ⊢
        have : a.toNat ≠ b.toNat := fun h => e (UInt8.toNat_inj.1 h)
        omega
      simp [Op.bytesLess, this]

/-! ### texts -/
mutual
def textT : S25 → ByteArray
  | ⟨k, n, s, l, ks⟩ =>
    if k = 1 then (if n = 1 then ⟨#[116, 114, 117, 101]⟩ else ⟨#[102, 97, 108, 115, 101]⟩)
    else if k = 2 then numS n
    else if k = 3 then quoteS s
    else if k = 4 then ⟨#[91]⟩ ++ joinS (textTs l) ⟨#[44, 32]⟩ ++ ⟨#[93]⟩
    else if k = 5 then ⟨#[123]⟩ ++ joinS (List.zipWith (fun key t => quoteS key ++ ⟨#[58, 32]⟩ ++ t) ks (textTs l)) ⟨#[44, 32]⟩ ++ ⟨#[125]⟩
    else ⟨#[110, 111, 110, 101]⟩
def textTs : List S25 → List ByteArray
  | [] => []
  | x :: l => textT x :: textTs l
end
theorem textTs_map (l : List S25) : textTs l = l.map textT := by
  induction l with
  | nil => simp [textTs]
  | cons x l ih => simp [textTs, ih]
theorem textT_eq (v : S25) : textT v =
    if v.f0 = 1 then (if v.f1 = 1 then ⟨#[116, 114, 117, 101]⟩ else ⟨#[102, 97, 108, 115, 101]⟩)
    else if v.f0 = 2 then numS v.f1
    else if v.f0 = 3 then quoteS v.f2
    else if v.f0 = 4 then ⟨#[91]⟩ ++ joinS (v.f3.map textT) ⟨#[44, 32]⟩ ++ ⟨#[93]⟩
    else if v.f0 = 5 then ⟨#[123]⟩ ++ joinS (List.zipWith (fun key t => quoteS key ++ ⟨#[58, 32]⟩ ++ t) v.f4 (v.f3.map textT)) ⟨#[44, 32]⟩ ++ ⟨#[125]⟩
    else ⟨#[110, 111, 110, 101]⟩ := by
  cases v
  rw [textT, textTs_map]

/-! ### bytes -/
def weave : List ByteArray → List ByteArray → List ByteArray
  | k :: ks, v :: vs => k :: v :: weave ks vs
  | _, _ => []
def wordB (k : Int) : ByteArray := if k = 1 then ⟨#[98, 111, 111, 108]⟩ else if k = 2 then ⟨#[105, 110, 116]⟩ else if k = 3 then ⟨#[116, 101, 120, 116]⟩ else if k = 4 then ⟨#[108, 105, 115, 116]⟩ else if k = 5 then ⟨#[100, 105, 99, 116]⟩ else ⟨#[110, 111, 110, 101]⟩
mutual
def rowT : S25 → ByteArray
  | ⟨k, n, s, l, ks⟩ => rowS (wordB k :: (if k = 1 ∨ k = 2 then [numS n] else if k = 3 then [s] else if k = 4 then rowTs l else if k = 5 then weave ks (rowTs l) else []))
def rowTs : List S25 → List ByteArray
  | [] => []
  | x :: l => rowT x :: rowTs l
end
theorem rowTs_map (l : List S25) : rowTs l = l.map rowT := by
  induction l with
  | nil => simp [rowTs]
  | cons x l ih => simp [rowTs, ih]
def restT (v : S25) : List ByteArray := if v.f0 = 1 ∨ v.f0 = 2 then [numS v.f1] else if v.f0 = 3 then [v.f2] else if v.f0 = 4 then v.f3.map rowT else if v.f0 = 5 then weave v.f4 (v.f3.map rowT) else []
theorem rowT_eq (v : S25) : rowT v = rowS (wordB v.f0 :: restT v) := by
  cases v
  rw [rowT, rowTs_map, restT]

/-! ### may a value be? -/
/-- Texts that rise. -/
def risesP (l : List ByteArray) : Prop := l.length ≤ 1000 ∧ ∀ i, i < l.length → (l.getD i ByteArray.empty).size ≤ 65536 ∧ (0 < i → Op.bytesLess (l.getD (i - 1) ByteArray.empty).toList (l.getD i ByteArray.empty).toList = true)
open Classical in
noncomputable def risesB (l : List ByteArray) : Bool := decide (risesP l)
theorem risesB_iff (l : List ByteArray) : risesB l = true ↔ risesP l := by unfold risesB; simp only [decide_eq_true_eq]
/-- May a value be, but for what is in it? -/
def nodeP (v : S25) : Prop :=
  (v.f0 = 0 ∧ v.f1 = 0 ∧ v.f2.size = 0 ∧ v.f3.length = 0 ∧ v.f4.length = 0) ∨
  (v.f0 = 1 ∧ (v.f1 = 0 ∨ v.f1 = 1) ∧ v.f2.size = 0 ∧ v.f3.length = 0 ∧ v.f4.length = 0) ∨
  (v.f0 = 2 ∧ v.f2.size = 0 ∧ v.f3.length = 0 ∧ v.f4.length = 0) ∨
  (v.f0 = 3 ∧ v.f1 = 0 ∧ v.f2.size ≤ 65536 ∧ v.f3.length = 0 ∧ v.f4.length = 0) ∨
  (v.f0 = 4 ∧ v.f1 = 0 ∧ v.f2.size = 0 ∧ v.f3.length ≤ 1000 ∧ v.f4.length = 0) ∨
  (v.f0 = 5 ∧ v.f1 = 0 ∧ v.f2.size = 0 ∧ v.f3.length = v.f4.length ∧ risesP v.f4)
open Classical in
noncomputable def nodeB (v : S25) : Bool := decide (nodeP v)
theorem nodeB_iff (v : S25) : nodeB v = true ↔ nodeP v := by unfold nodeB; simp only [decide_eq_true_eq]
mutual
noncomputable def mayT : S25 → Int → Int → Bool × Int
  | ⟨k, n, s, l, ks⟩, deep, left =>
    if 60 < deep ∨ left - 1 < 0 then (false, left - 1) else if nodeB ⟨k, n, s, l, ks⟩ = true then mayTs l (deep + 1) (left - 1) else (false, left - 1)
noncomputable def mayTs : List S25 → Int → Int → Bool × Int
  | [], _, left => (true, left)
  | x :: l, deep, left => if (mayT x deep left).1 = true then mayTs l deep (mayT x deep left).2 else (false, (mayT x deep left).2)
end
theorem mayT_eq (v : S25) (deep left : Int) : mayT v deep left = if 60 < deep ∨ left - 1 < 0 then (false, left - 1) else if nodeB v = true then mayTs v.f3 (deep + 1) (left - 1) else (false, left - 1) := by
  cases v
  rw [mayT]
noncomputable def checkT (v : S25) : Bool := (mayT v 1 20000).1

open Classical in
noncomputable def sameT (a b : S25) : Bool := decide (a = b)
open Classical in
noncomputable def sameTs (a b : List S25) : Bool := decide (a = b)
theorem sameT_iff (a b : S25) : sameT a b = true ↔ a = b := by unfold sameT; simp only [decide_eq_true_eq]
theorem sameTs_iff (a b : List S25) : sameTs a b = true ↔ a = b := by unfold sameTs; simp only [decide_eq_true_eq]

/-! ### which values, and what is asked of a function value -/
inductive AllV (P : S25 → Prop) : S25 → Prop
  | mk (v : S25) : P v → (∀ x ∈ v.f3, AllV P x) → AllV P v
theorem AllV.here {P : S25 → Prop} {v : S25} (h : AllV P v) : P v := by cases h; assumption
theorem AllV.kid {P : S25 → Prop} {v x : S25} (h : AllV P v) (hx : x ∈ v.f3) : AllV P x := by cases h with | mk _ _ h => exact h x hx
theorem AllV.imp {P Q : S25 → Prop} (hi : ∀ v, P v → Q v) : ∀ v, AllV P v → AllV Q v := tree_ind fun v ih h => ⟨v, hi v h.here, fun x hx => ih x hx (h.kid hx)⟩
theorem AllV.and {P Q : S25 → Prop} : ∀ v, AllV P v → AllV Q v → AllV (fun v => P v ∧ Q v) v := tree_ind fun v ih h g => ⟨v, ⟨h.here, g.here⟩, fun x hx => ih x hx (h.kid hx) (g.kid hx)⟩
def nodeR (v : S25) : Prop := nodeP v ∧ Pk.inRange v.f1
def mayText (v : S25) : Prop := AllV nodeR v ∧ (textT v).size ≤ 1000000
def mayRow (v : S25) : Prop := AllV nodeR v ∧ (rowT v).size ≤ 1000000

/-- What is asked of the world. -/
structure Gt [Inhabited Bound] (w : World) : Prop where
  tab : Tab Tryz.prog w
  errs : bnde = true → Errs Tryz.prog w
theorem Gt.below [Inhabited Bound] {w w' : World} (h : Gt w) (hb : Below w.heap.size w w') : Gt w' := ⟨h.tab.below hb, fun e => (h.errs e).below hb⟩

/-- A call of function g on a value hands back F of it. -/
def StrOf [Inhabited Bound] (g : Nat) (F : S25 → ByteArray) (x : S25) : Prop :=
  ∀ (A3 : Option Addr) (c3 : Nat) (A4 : Option Addr) (c4 : Nat) (w : World), Gt w → Kd.C k25 w A3 x.f3.length x.f3 → x.f3.length ≤ c3 → Kd.C Kd.string w A4 x.f4.length x.f4 → x.f4.length ≤ c4 →
    Calls Tryz.prog g #[.agg #[.int .i64 x.f0, .int .i64 x.f1, .string x.f2, .slice A3 x.f3.length c3, .slice A4 x.f4.length c4]] w fun e w' => e = .returned (.string (F x)) ∧ Below w.heap.size w w'
def SameOf [Inhabited Bound] (g : Nat) (x y : S25) : Prop :=
  ∀ (A3 : Option Addr) (c3 : Nat) (A4 : Option Addr) (c4 : Nat) (B3 : Option Addr) (d3 : Nat) (B4 : Option Addr) (d4 : Nat) (w : World), Gt w → Kd.C k25 w A3 x.f3.length x.f3 → x.f3.length ≤ c3 → Kd.C Kd.string w A4 x.f4.length x.f4 → x.f4.length ≤ c4 →
    Kd.C k25 w B3 y.f3.length y.f3 → y.f3.length ≤ d3 → Kd.C Kd.string w B4 y.f4.length y.f4 → y.f4.length ≤ d4 →
    Calls Tryz.prog g #[.agg #[.int .i64 x.f0, .int .i64 x.f1, .string x.f2, .slice A3 x.f3.length c3, .slice A4 x.f4.length c4], .agg #[.int .i64 y.f0, .int .i64 y.f1, .string y.f2, .slice B3 y.f3.length d3, .slice B4 y.f4.length d4]] w fun e w' => e = .returned (.bool (sameT x y)) ∧ Below w.heap.size w w'
/-- The world, and what the function values do, of values that are not too great. -/
structure Gl [Inhabited Bound] (w : World) : Prop where
  gt : Gt w
  text : ∀ x, SizeOf.sizeOf x < bnd → mayText x → StrOf 23 textT x
  row : ∀ x, SizeOf.sizeOf x < bnd → mayRow x → StrOf 30 rowT x
  same : ∀ x y, SizeOf.sizeOf x < bnd → SameOf 13 x y
theorem Gl.below [Inhabited Bound] {w w' : World} (h : Gl w) (hb : Below w.heap.size w w') : Gl w' := ⟨h.gt.below hb, h.text, h.row, h.same⟩
end Go.Proofs.YtegppacnkfeaoaaGreatDoor.G

/- Values as trees: how many, how deep, which may be. Plain Lean. Conditions: each theorem's own. -/
namespace Go.Proofs.YtegppacnkfeaoaaGreatDoor.G
open Go.RowKit Go.Gw Go.Proofs.YtegppacnkfeaoaaGreatDoorW.PrintWords
set_option linter.unusedVariables false
set_option linter.unusedSimpArgs false

theorem w64 {x : Int} (h1 : -9223372036854775808 ≤ x) (h2 : x ≤ 9223372036854775807) : wrap64 x = x := by unfold wrap64; omega
theorem Ev.pos {α : Type} {c : Prop} [Decidable c] {g f : Nat → Option α} {r : α} (hc : c) (h : Ev g r) : Ev (fun k => if c then g k else f k) r := Ev.congr (f := g) (fun k => if_pos hc) h
theorem Ev.neg {α : Type} {c : Prop} [Decidable c] {g f : Nat → Option α} {r : α} (hc : ¬ c) (h : Ev f r) : Ev (fun k => if c then g k else f k) r := Ev.congr (f := f) (fun k => if_neg hc) h
theorem Ev.some_ {α : Type} {g : Nat → Option α} {r : α} (h : ∀ k, g k = some r) : Ev g r := ⟨0, fun k _ => h k⟩
theorem Ev.to {α : Type} {g : Nat → Option α} {r q : α} (h : Ev g r) (e : r = q) : Ev g q := e ▸ h

mutual
def cnt : S25 → Nat
  | ⟨_, _, _, l, _⟩ => 1 + cnts l
def cnts : List S25 → Nat
  | [] => 0
  | x :: l => cnt x + cnts l
end
theorem cnt_eq (v : S25) : cnt v = 1 + cnts v.f3 := by cases v; rw [cnt]
mutual
def depth : S25 → Nat
  | ⟨_, _, _, l, _⟩ => 1 + depths l
def depths : List S25 → Nat
  | [] => 0
  | x :: l => max (depth x) (depths l)
end
theorem depth_eq (v : S25) : depth v = 1 + depths v.f3 := by cases v; rw [depth]
theorem depths_append (a b : List S25) : depths (a ++ b) = max (depths a) (depths b) := by
  induction a with
  | nil => simp [depths]
  | cons x a ih => simp only [List.cons_append, depths, ih]; omega
/-- What holds of any value that comes in. -/
def okN (v : S25) : Prop := Pk.inRange v.f0 ∧ Pk.inRange v.f1 ∧ v.f2.size ≤ 140737488351232 ∧ v.f3.length ≤ 140737488351232 ∧ v.f4.length ≤ 140737488351232 ∧ ∀ s ∈ v.f4, s.size ≤ 140737488351232
/-- May a value be? -/
def checkP (v : S25) : Prop := cnt v ≤ 20000 ∧ depth v ≤ 60 ∧ AllV nodeP v

theorem mayT_all : ∀ (v : S25) (deep left : Int), 1 ≤ deep → 0 ≤ left →
    ((cnt v : Int) ≤ left ∧ (depth v : Int) + deep ≤ 61 ∧ AllV nodeP v → mayT v deep left = (true, left - cnt v)) ∧ ((mayT v deep left).1 = true → (cnt v : Int) ≤ left ∧ (depth v : Int) + deep ≤ 61 ∧ AllV nodeP v) := by
  refine tree_ind (P := fun v => ∀ (deep left : Int), 1 ≤ deep → 0 ≤ left → ((cnt v : Int) ≤ left ∧ (depth v : Int) + deep ≤ 61 ∧ AllV nodeP v → mayT v deep left = (true, left - cnt v)) ∧ ((mayT v deep left).1 = true → (cnt v : Int) ≤ left ∧ (depth v : Int) + deep ≤ 61 ∧ AllV nodeP v)) ?_
  intro v ih deep left hd hl
  have list : ∀ (l : List S25), (∀ x ∈ l, x ∈ v.f3) → ∀ (deep left : Int), 1 ≤ deep → deep ≤ 61 → 0 ≤ left →
      ((cnts l : Int) ≤ left ∧ (depths l : Int) + deep ≤ 61 ∧ (∀ x ∈ l, AllV nodeP x) → mayTs l deep left = (true, left - cnts l)) ∧ ((mayTs l deep left).1 = true → (cnts l : Int) ≤ left ∧ (depths l : Int) + deep ≤ 61 ∧ ∀ x ∈ l, AllV nodeP x) := by
    intro l
    induction l with
    | nil =>
      intro _ deep left h1 h2 h3
      refine ⟨fun _ => ?_, fun _ => ⟨?_, ?_, fun x hx => by cases hx⟩⟩
      · rw [mayTs]; simp [cnts]
      · simp [cnts]; omega
      · simp [depths]; omega
    | cons x l ihl =>
      intro hm deep left h1 h2 h3
      obtain ⟨a1, a2⟩ := ih x (hm x List.mem_cons_self) deep left h1 h3
      have hml : ∀ y ∈ l, y ∈ v.f3 := fun y hy => hm y (List.mem_cons_of_mem _ hy)
      refine ⟨fun ⟨p, q, r⟩ => ?_, fun h => ?_⟩
      · rw [cnts] at p; rw [depths] at q
        have e := a1 ⟨by omega, by omega, r x List.mem_cons_self⟩
        rw [mayTs, e, if_pos rfl]
        have := (ihl hml deep (left - cnt x) h1 h2 (by omega)).1 ⟨by omega, by omega, fun y hy => r y (List.mem_cons_of_mem _ hy)⟩
        rw [this, cnts]
        congr 1
        omega
      · rw [mayTs] at h
        by_cases hx : (mayT x deep left).1 = true
        · obtain ⟨p, q, r⟩ := a2 hx
          have e := a1 ⟨p, q, r⟩
          rw [if_pos hx, e] at h
          obtain ⟨p', q', r'⟩ := (ihl hml deep (left - cnt x) h1 h2 (by omega)).2 h
          refine ⟨by rw [cnts]; omega, by rw [depths]; omega, fun y hy => ?_⟩
          rcases List.mem_cons.1 hy with rfl | hy
          · exact r
          · exact r' y hy
        · rw [if_neg hx] at h; cases h
  rw [mayT_eq]
  by_cases hs : 60 < deep ∨ left - 1 < 0
  · rw [if_pos hs]
    refine ⟨fun ⟨p, q, _⟩ => ?_, fun h => by cases h⟩
    rw [cnt_eq] at p; rw [depth_eq] at q; omega
  · rw [if_neg hs]
    obtain ⟨b1, b2⟩ := list v.f3 (fun x hx => hx) (deep + 1) (left - 1) (by omega) (by omega) (by omega)
    by_cases hn : nodeB v = true
    · rw [if_pos hn]
      refine ⟨fun ⟨p, q, r⟩ => ?_, fun h => ?_⟩
      · rw [cnt_eq] at p ⊢; rw [depth_eq] at q
        rw [b1 ⟨by omega, by omega, fun x hx => r.kid hx⟩]
        congr 1
        omega
      · obtain ⟨p, q, r⟩ := b2 h
        rw [cnt_eq, depth_eq]
        exact ⟨by omega, by omega, ⟨v, (nodeB_iff v).1 hn, r⟩⟩
    · rw [if_neg hn]
      exact ⟨fun ⟨_, _, r⟩ => absurd ((nodeB_iff v).2 r.here) hn, fun h => by cases h⟩
theorem checkT_iff (v : S25) : checkT v = true ↔ checkP v := by
  have h := mayT_all v 1 20000 (by omega) (by omega)
  unfold checkT checkP
  refine ⟨fun g => ?_, fun ⟨p, q, r⟩ => ?_⟩
  · obtain ⟨p, q, r⟩ := h.2 g
    exact ⟨by omega, by omega, r⟩
  · rw [h.1 ⟨by omega, by omega, r⟩]

theorem rd_mid (a : List S25) (x : S25) (b : List S25) : rd_T25 (a ++ x :: b) (a.length : Int) = x := by
  show (a ++ x :: b).getD (a.length : Int).toNat z25 = x
  rw [Int.toNat_natCast, List.getD_eq_getElem?_getD]
  simp
theorem rdOf_mid (a : List ByteArray) (x : ByteArray) (b : List ByteArray) : rdOf ByteArray.empty (a ++ x :: b) (a.length : Int) = x := by
  show (a ++ x :: b).getD (a.length : Int).toNat ByteArray.empty = x
  rw [Int.toNat_natCast, List.getD_eq_getElem?_getD]
  simp
end Go.Proofs.YtegppacnkfeaoaaGreatDoor.G

/- How long values' texts and bytes are. Plain Lean. Conditions: each theorem's own. -/
namespace Go.Proofs.YtegppacnkfeaoaaGreatDoor.G
open Go.RowKit Go.Gw Go.Proofs.YtegppacnkfeaoaaGreatDoorW.PrintWords
set_option linter.unusedVariables false
set_option linter.unusedSimpArgs false

theorem body_len : ∀ (s b : List UInt8), Lx.body s = some b → b.length ≤ 2 * s.length := by
  intro s
  induction s with
  | nil => intro b h; simp [Lx.body] at h; subst h; simp
  | cons c r ih =>
    intro b h
    unfold Lx.body at h
    split at h
    · obtain ⟨x, hx, rfl⟩ := Option.map_eq_some_iff.1 h
      have := ih x hx
      simp; omega
    · split at h
      · cases h
      · split at h
        · obtain ⟨x, hx, rfl⟩ := Option.map_eq_some_iff.1 h
          have := ih x hx
          simp; omega
        · obtain ⟨x, hx, rfl⟩ := Option.map_eq_some_iff.1 h
          have := ih x hx
          simp; omega
theorem mk_size (l : List UInt8) : (⟨l.toArray⟩ : ByteArray).size = l.length := rfl
theorem quoteS_size (s : ByteArray) : (quoteS s).size ≤ 2 * s.size + 2 := by
  unfold quoteS Lx.quote
  rw [mk_size]
  cases h : Lx.body s.data.toList with
  | none => simp
  | some b =>
    have := body_len _ b h
    rw [data_length] at this
    simp; omega
theorem numS_size {n : Int} (h : Pk.inRange n) : (numS n).size ≤ 21 := by
  unfold numS
  rw [mk_size]
  exact Lib.itoa_length_le n h.1 h.2

theorem snoc_ind {α : Type} {P : List α → Prop} (h0 : P []) (h1 : ∀ l x, P l → P (l ++ [x])) : ∀ l, P l := by
  have main : ∀ r : List α, P r.reverse := by
    intro r
    induction r with
    | nil => exact h0
    | cons x r ih => rw [List.reverse_cons]; exact h1 _ _ ih
  intro l
  have := main l.reverse
  rwa [List.reverse_reverse] at this
/-! ### texts with something between -/
def sumS : List ByteArray → Nat
  | [] => 0
  | x :: l => x.size + sumS l
theorem sumS_append (a b : List ByteArray) : sumS (a ++ b) = sumS a + sumS b := by
  induction a with
  | nil => simp [sumS]
  | cons x a ih => simp only [List.cons_append, sumS, ih]; omega
theorem sumS_mem {x : ByteArray} {l : List ByteArray} (h : x ∈ l) : x.size ≤ sumS l := by
  induction l with
  | nil => cases h
  | cons y l ih =>
    rw [sumS]
    rcases List.mem_cons.1 h with rfl | h
    · omega
    · have := ih h; omega
theorem joinS_nil (sep : ByteArray) : joinS [] sep = ⟨#[]⟩ := rfl
theorem joinS_one (x sep : ByteArray) : joinS [x] sep = x := by
  unfold joinS
  rw [List.map_cons, List.map_nil, Lib.join_one]
theorem joinS_snoc (l : List ByteArray) (h : l ≠ []) (x sep : ByteArray) : joinS (l ++ [x]) sep = joinS l sep ++ sep ++ x := by
  obtain ⟨y, r, rfl⟩ : ∃ y r, l = y :: r := by
    cases l with
    | nil => exact absurd rfl h
    | cons y r => exact ⟨y, r, rfl⟩
  apply str_ext
  simp only [joinS, List.cons_append, List.map_cons, List.map_append, List.map_nil, Lib.join_cons, Lib.joinTail, List.flatten_append, List.map_append, ByteArray.data_append, Array.toList_append, List.map_map]
  simp

theorem joinS_size (l : List ByteArray) (sep : ByteArray) : (joinS l sep).size ≤ sumS l + sep.size * l.length ∧ sumS l ≤ (joinS l sep).size := by
  refine snoc_ind (P := fun l => (joinS l sep).size ≤ sumS l + sep.size * l.length ∧ sumS l ≤ (joinS l sep).size) ?_ ?_ l
  · rw [joinS_nil]; exact ⟨by show 0 ≤ _; omega, by simp [sumS]⟩
  · intro l x ih
    by_cases h : l = []
    · subst h
      rw [List.nil_append, joinS_one]
      simp [sumS]
    · rw [joinS_snoc l h, ByteArray.size_append, ByteArray.size_append, sumS_append]
      simp only [sumS, List.length_append, List.length_singleton, Nat.mul_add, Nat.mul_one]
      omega
theorem joinS_mem {x : ByteArray} {l : List ByteArray} (h : x ∈ l) (sep : ByteArray) : x.size ≤ (joinS l sep).size := Nat.le_trans (sumS_mem h) (joinS_size l sep).2
theorem joinS_part (a b : List ByteArray) (sep : ByteArray) : (joinS a sep).size ≤ (joinS (a ++ b) sep).size := by
  refine snoc_ind (P := fun b => (joinS a sep).size ≤ (joinS (a ++ b) sep).size) ?_ ?_ b
  · rw [List.append_nil]; exact Nat.le_refl _
  · intro l x ih
    rw [← List.append_assoc]
    by_cases h : a ++ l = []
    · rw [h, joinS_nil] at ih
      have ha : a = [] := (List.append_eq_nil_iff.1 h).1
      subst ha
      rw [joinS_nil]
      exact Nat.zero_le _
    · rw [joinS_snoc _ h, ByteArray.size_append, ByteArray.size_append]
      omega

/-- What stands between the brackets, piece by piece. -/
def pieces (kd : Int) (ks : List ByteArray) (ts : List ByteArray) : List ByteArray := if kd = 5 then List.zipWith (fun key t => quoteS key ++ ⟨#[58, 32]⟩ ++ t) ks ts else ts
theorem zip_mem {f : ByteArray → ByteArray → ByteArray} (hf : ∀ k t, t.size ≤ (f k t).size) : ∀ (ks ts : List ByteArray), ks.length = ts.length → ∀ t ∈ ts, ∃ p ∈ List.zipWith f ks ts, t.size ≤ p.size := by
  intro ks
  induction ks with
  | nil => intro ts h t ht; cases ts with
    | nil => cases ht
    | cons a b => simp at h
  | cons k ks ih =>
    intro ts h t ht
    cases ts with
    | nil => cases ht
    | cons a b =>
      rw [List.zipWith_cons_cons]
      rcases List.mem_cons.1 ht with rfl | ht
      · exact ⟨_, List.mem_cons_self, hf k t⟩
      · obtain ⟨p, hp, hs⟩ := ih b (by simpa using h) t ht
        exact ⟨p, List.mem_cons_of_mem _ hp, hs⟩
theorem piece_le (k t : ByteArray) : t.size ≤ (quoteS k ++ ⟨#[58, 32]⟩ ++ t).size := by rw [ByteArray.size_append]; omega
/-- A list's or a dict's text. -/
theorem textT_list {v : S25} (h : v.f0 = 4 ∨ v.f0 = 5) : textT v = (if v.f0 = 4 then ⟨#[91]⟩ else ⟨#[123]⟩) ++ joinS (pieces v.f0 v.f4 (v.f3.map textT)) ⟨#[44, 32]⟩ ++ (if v.f0 = 4 then ⟨#[93]⟩ else ⟨#[125]⟩) := by
  rw [textT_eq]
  unfold pieces
  rcases h with h | h
  · rw [h, if_neg (by decide), if_neg (by decide), if_neg (by decide), if_pos rfl, if_pos rfl, if_neg (by decide), if_pos rfl]
  · rw [h, if_neg (by decide), if_neg (by decide), if_neg (by decide), if_neg (by decide), if_pos rfl, if_neg (by decide), if_pos rfl, if_neg (by decide)]
theorem join_le_text {v : S25} (h : v.f0 = 4 ∨ v.f0 = 5) : (joinS (pieces v.f0 v.f4 (v.f3.map textT)) ⟨#[44, 32]⟩).size ≤ (textT v).size := by
  rw [textT_list h, ByteArray.size_append, ByteArray.size_append]; omega
theorem kid_le_text {v x : S25} (hn : nodeP v) (hx : x ∈ v.f3) : (textT x).size ≤ (textT v).size := by
  have hl : 0 < v.f3.length := List.length_pos_of_mem hx
  have h : v.f0 = 4 ∨ (v.f0 = 5 ∧ v.f3.length = v.f4.length) := by unfold nodeP at hn; rcases hn with h | h | h | h | h | h <;> (first | (exfalso; omega) | exact .inl h.1 | exact .inr ⟨h.1, h.2.2.2.1⟩)
  refine Nat.le_trans ?_ (join_le_text (v := v) (by rcases h with h | h; exact .inl h; exact .inr h.1))
  unfold pieces
  rcases h with h | ⟨h, hk⟩
  · rw [if_neg (by omega)]
    exact joinS_mem (List.mem_map.2 ⟨x, hx, rfl⟩) _
  · rw [if_pos h]
    obtain ⟨p, hp, hs⟩ := zip_mem piece_le v.f4 (v.f3.map textT) (by simp [hk]) (textT x) (List.mem_map.2 ⟨x, hx, rfl⟩)
    exact Nat.le_trans hs (joinS_mem hp _)
theorem mayText.kid {v x : S25} (h : mayText v) (hx : x ∈ v.f3) : mayText x := ⟨h.1.kid hx, Nat.le_trans (kid_le_text h.1.here.1 hx) h.2⟩

/-- Texts of at most m bytes each. -/
def small (m : Nat) (v : S25) : Prop := v.f2.size ≤ m ∧ ∀ s ∈ v.f4, s.size ≤ m
theorem zip_sum {f : ByteArray → ByteArray → ByteArray} (m : Nat) : ∀ (ks ts : List ByteArray), (∀ k ∈ ks, ∀ t, (f k t).size ≤ m + t.size) → sumS (List.zipWith f ks ts) ≤ sumS ts + m * ts.length := by
  intro ks
  induction ks with
  | nil => intro ts _; simp [sumS]
  | cons k ks ih =>
    intro ts h
    cases ts with
    | nil => simp [sumS]
    | cons t ts =>
      rw [List.zipWith_cons_cons, sumS, sumS, List.length_cons, Nat.mul_succ]
      have := ih ts (fun k hk => h k (List.mem_cons_of_mem _ hk))
      have := h k List.mem_cons_self t
      omega
theorem sum_cnt {f : S25 → ByteArray} (W c : Nat) : ∀ (l : List S25), (∀ x ∈ l, (f x).size + c ≤ W * cnt x) → sumS (l.map f) + c * l.length ≤ W * cnts l := by
  intro l
  induction l with
  | nil => intro _; simp [sumS]
  | cons x l ih =>
    intro h
    have := ih (fun y hy => h y (List.mem_cons_of_mem _ hy))
    have := h x List.mem_cons_self
    rw [List.map_cons, sumS, List.length_cons, cnts, Nat.mul_add W, Nat.mul_succ]
    omega
theorem textT_size (m : Nat) : ∀ v : S25, AllV (fun v => nodeR v ∧ small m v) v → (textT v).size + (2 * m + 10) ≤ (4 * m + 40) * cnt v := by
  refine tree_ind (P := fun v => AllV (fun v => nodeR v ∧ small m v) v → (textT v).size + (2 * m + 10) ≤ (4 * m + 40) * cnt v) ?_
  intro v ih hv
  obtain ⟨⟨hn, hr⟩, hs, hk⟩ := hv.here
  have hc : cnt v = 1 + cnts v.f3 := cnt_eq v
  have base : (textT v).size ≤ 2 * m + 22 → (textT v).size + (2 * m + 10) ≤ (4 * m + 40) * cnt v := by
    intro h
    rw [hc, Nat.mul_add, Nat.mul_one]
    have := Nat.zero_le ((4 * m + 40) * cnts v.f3)
    omega
  by_cases hl : v.f0 = 4 ∨ v.f0 = 5
  · have hsum := sum_cnt (f := textT) (4 * m + 40) (2 * m + 10) v.f3 (fun x hx => ih x hx (hv.kid hx))
    have hp : sumS (pieces v.f0 v.f4 (v.f3.map textT)) + 2 * (pieces v.f0 v.f4 (v.f3.map textT)).length ≤ sumS (v.f3.map textT) + (2 * m + 6) * v.f3.length := by
      unfold pieces
      split
      · have h1 := zip_sum (f := fun key t => quoteS key ++ ⟨#[58, 32]⟩ ++ t) (2 * m + 4) v.f4 (v.f3.map textT) (fun k hk' t => by
          have := quoteS_size k
          have := hk k hk'
          rw [ByteArray.size_append, ByteArray.size_append]
          have e : (⟨#[58, 32]⟩ : ByteArray).size = 2 := rfl
          omega)
        have h2 : (List.zipWith (fun key t => quoteS key ++ ⟨#[58, 32]⟩ ++ t) v.f4 (v.f3.map textT)).length ≤ v.f3.length := by rw [List.length_zipWith, List.length_map]; omega
        rw [List.length_map] at h1
        have e : (2 * m + 6) * v.f3.length = (2 * m + 4) * v.f3.length + 2 * v.f3.length := by rw [← Nat.add_mul]
        omega
      · rw [List.length_map]
        have e : (2 * m + 6) * v.f3.length = (2 * m + 4) * v.f3.length + 2 * v.f3.length := by rw [← Nat.add_mul]
        omega
    have hj := (joinS_size (pieces v.f0 v.f4 (v.f3.map textT)) ⟨#[44, 32]⟩).1
    have e2 : (⟨#[44, 32]⟩ : ByteArray).size = 2 := rfl
    rw [e2] at hj
    have ht : (textT v).size = 1 + (joinS (pieces v.f0 v.f4 (v.f3.map textT)) ⟨#[44, 32]⟩).size + 1 := by
      rw [textT_list hl, ByteArray.size_append, ByteArray.size_append]
      split <;> rfl
    rw [hc, Nat.mul_add, Nat.mul_one, ht]
    have e : (2 * m + 10) * v.f3.length = (2 * m + 6) * v.f3.length + 4 * v.f3.length := by rw [← Nat.add_mul]
    omega
  · refine base ?_
    have h4 : v.f0 ≠ 4 := fun h => hl (.inl h)
    have h5 : v.f0 ≠ 5 := fun h => hl (.inr h)
    rw [textT_eq]
    have := numS_size hr
    have := quoteS_size v.f2
    have e1 : (⟨#[116, 114, 117, 101]⟩ : ByteArray).size = 4 := rfl
    have e2 : (⟨#[102, 97, 108, 115, 101]⟩ : ByteArray).size = 5 := rfl
    have e3 : (⟨#[110, 111, 110, 101]⟩ : ByteArray).size = 4 := rfl
    repeat' split
    all_goals omega
/-- Of a value that may be: its lists are short. -/
theorem node_len {v : S25} (h : nodeP v) : v.f3.length ≤ 1000 ∧ v.f4.length ≤ 1000 ∧ v.f2.size ≤ 65536 ∧ (∀ s ∈ v.f4, s.size ≤ 65536) ∧ (v.f0 = 5 → v.f3.length = v.f4.length) ∧ 0 ≤ v.f0 ∧ v.f0 ≤ 5 := by
  have nil : v.f4.length = 0 → ∀ s ∈ v.f4, s.size ≤ 65536 := fun h s hs => by
    rw [List.length_eq_zero_iff] at h
    rw [h] at hs
    cases hs
  rcases h with h | h | h | h | h | h
  · obtain ⟨a, b, c, d, e⟩ := h; exact ⟨by omega, by omega, by omega, nil e, by omega, by omega, by omega⟩
  · obtain ⟨a, b, c, d, e⟩ := h; exact ⟨by omega, by omega, by omega, nil e, by omega, by omega, by omega⟩
  · obtain ⟨a, c, d, e⟩ := h; exact ⟨by omega, by omega, by omega, nil e, by omega, by omega, by omega⟩
  · obtain ⟨a, b, c, d, e⟩ := h; exact ⟨by omega, by omega, by omega, nil e, by omega, by omega, by omega⟩
  · obtain ⟨a, b, c, d, e⟩ := h; exact ⟨by omega, by omega, by omega, nil e, by omega, by omega, by omega⟩
  · obtain ⟨a, b, c, d, e⟩ := h
    refine ⟨by have := e.1; omega, e.1, by omega, fun s hs => ?_, fun _ => d, by omega, by omega⟩
    obtain ⟨i, hi, rfl⟩ := List.mem_iff_getElem.1 hs
    have := (e.2 i hi).1
    rwa [List.getD_eq_getElem?_getD, List.getElem?_eq_getElem hi, Option.getD_some] at this

end Go.Proofs.YtegppacnkfeaoaaGreatDoor.G

/- value's all and slices.EqualFunc over values, for any function value of which is known what it does. Conditions: each contract's own. -/
namespace Go.Proofs.YtegppacnkfeaoaaGreatDoor.G
open Go.RowKit Go.Gw Go.Proofs.YtegppacnkfeaoaaGreatDoorW.PrintWords
set_option linter.unusedVariables false
set_option linter.unusedSimpArgs false
variable [Inhabited Bound]

theorem rd_mem {l : List S25} {k : Nat} (h : k < l.length) : rd_T25 l k ∈ l ∧ l.take (k + 1) = l.take k ++ [rd_T25 l k] := by
  have e : rd_T25 l k = l[k] := by
    show l.getD (k : Int).toNat z25 = l[k]
    rw [Int.toNat_natCast, List.getD_eq_getElem?_getD, List.getElem?_eq_getElem h, Option.getD_some]
  rw [e]
  exact ⟨List.getElem_mem h, List.take_succ_eq_append_getElem h⟩

set_option maxHeartbeats 1000000 in
set_option maxRecDepth 100000 in
theorem all_calls (g : Nat) (F : S25 → ByteArray) (eg : ∀ args w, (callFunc g args).run Tryz.prog w = .ok (.enter g args) w) (l : List S25) (hl : l.length ≤ 1000000) (hF : ∀ x ∈ l, StrOf g F x) (w : World) (G : Gt w) (A : Option Addr) (c : Nat) (hr : Kd.C k25 w A l.length l) (hc : l.length ≤ c) :
    Calls Tryz.prog 41 #[.slice A l.length c, .func (.func g) #[] #[]] w fun e w' => ∃ v_ : Value, e = .returned v_ ∧ Kd.R Kd.string 9 w' w.heap.size (fun _ => True) v_ (l.map F) ∧ Below w.heap.size w w' := by
  have HR := Lib.hid hr; clear hr
  have HC := Lib.hid hc; clear hc
  have HF := Lib.hid hF; clear hF
  have HG := Lib.hid G; clear G
  go_enter Tryz.func41, Tryz.ntmps41
  go_wp2
  go_loopw [5, 10] (fun ov iv wr => ∃ k : Nat, k ≤ l.length ∧ iv = .int .i64 k ∧ Aside0 (Kd.R Kd.string 9 wr w.heap.size (fun _ => True) ov ((l.take k).map F)) ∧ Aside0 (Below w.heap.size w wr)) (fun _ i _ => l.length - (intOf i).toNat)
  case atStart => exact ⟨0, Nat.zero_le _, rfl, ⟨Kd.R_nil _ _ _ _ _⟩, ⟨Below.refl _ _⟩⟩
  case round =>
    obtain ⟨k, hk, rfl, HO, HW⟩ := hrel
    by_cases hlt : k < l.length
    · obtain ⟨hm, ht⟩ := rd_mem hlt
      obtain ⟨ad, A3, c3, A4, c4, e1, h0, h1, h2, h3, h4, l3, g3, l4, g4⟩ := at_T25 (Kd.C_below HR.out HW.out) k (by omega) (by omega)
      cases e1
      generalize hx : rd_T25 l k = x at *
      have HT := Lib.hid ht; clear ht
      have HM := Lib.hid hm; clear hm
      have HX := Lib.hid hx; clear hx
      have H3 := Lib.hid (And.intro l3 g3); clear l3 g3
      have H4 := Lib.hid (And.intro l4 g4); clear l4 g4
      rw [Int.toNat_natCast] at h0 h1 h2 h3 h4
      have hu := Tryz.underlying25
      go_wp2_with fail
      have ba : Below wr.heap.size wr (wr.alloc (.cells #[.int .i64 x.f0, .int .i64 x.f1, .string x.f2, .slice A3 x.f3.length c3, .slice A4 x.f4.length c4] 25)) := (Below.refl _ _).alloc (Nat.le_refl _) _
      have BA := Lib.hid ba; clear ba
      refine (HF.out x HM.out A3 c3 A4 c4 _ ((HG.out.below HW.out).below BA.out) (Kd.C_below H3.out.2 BA.out) H3.out.1 (Kd.C_below H4.out.2 BA.out) H4.out.1).mono ?_
      rintro e w1 ⟨rfl, hb1⟩
      have B1 := Lib.hid (BA.out.trans (hb1.mono (by simp))); clear hb1 BA
      have HO1 := Aside0.mk (Kd.R_below HO.out B1.out)
      have HB1 := Lib.hid (HW.out.trans (B1.out.mono HW.out.size))
      have Z1 : w.heap.size ≤ w1.heap.size := HB1.out.size
      go_wp2_with (first | (at_builtin; refine Kd.R_append Kd.string (w0 := w) w.heap.size rfl (.tmp 14) (.tmp 18) 23 9 (.string ⟨#[]⟩) 16 rfl Tryz.underlying23 info_str rfl (by decide) (by omega) u5 ((l.take k).map F) (F x) [.string (F x)] (fun _ => True) (fun _ => False) rfl rfl ?aP (fun _ hk => hk.elim) ?aF ?aO ?aB ?aS ?aL ?_; (case aP => exact rfl); (case aF => exact (fun _ _ => trivial)); (case aO => exact HO1.out); (case aB => exact HB1.out); (case aS => omega); (case aL => simp only [List.length_map, List.length_take]; omega); intro v1 w2 ho hbb hg hat; have HO2 := Aside0.mk ho; have HBB := Aside0.mk hbb; clear ho hbb hg hat))
      go_roundw
      case rel =>
        refine ⟨k + 1, by omega, by go_num, ⟨?_⟩, ⟨HBB.out⟩⟩
        rw [HT.out, List.map_append, List.map_cons, List.map_nil]
        exact HO2.out
      case measure => simp [intOf]; omega
    · obtain rfl : k = l.length := by omega
      go_wp2
      go_ret
      refine ⟨u5, rfl, ?_, HW.out⟩
      have := HO.out
      rwa [List.take_length] at this

theorem sameTs_cons (x y : S25) (l m : List S25) : sameTs (x :: l) (y :: m) = (sameT x y && sameTs l m) := by
  unfold sameTs sameT
  rw [Bool.eq_iff_iff]
  simp
theorem same_split {l m : List S25} (hn : l.length = m.length) {k : Nat} (h : k < l.length) : sameTs (l.drop k) (m.drop k) = (sameT (rd_T25 l k) (rd_T25 m k) && sameTs (l.drop (k + 1)) (m.drop (k + 1))) := by
  have d : ∀ (l : List S25), (h : k < l.length) → l.drop k = rd_T25 l k :: l.drop (k + 1) := by
    intro l h
    rw [List.drop_eq_getElem_cons h]
    congr 1
    show _ = l.getD (k : Int).toNat z25
    rw [Int.toNat_natCast, List.getD_eq_getElem?_getD, List.getElem?_eq_getElem h, Option.getD_some]
  rw [d l h, d m (by omega), sameTs_cons]

set_option maxHeartbeats 1000000 in
set_option maxRecDepth 100000 in
theorem equal_calls (g : Nat) (eg : ∀ args w, (callFunc g args).run Tryz.prog w = .ok (.enter g args) w) (l m : List S25) (hF : ∀ x ∈ l, ∀ y, SameOf g x y) (w : World) (G : Gt w) (A : Option Addr) (c : Nat) (B : Option Addr) (d : Nat) (hr : Kd.C k25 w A l.length l) (hc : l.length ≤ c) (hq : Kd.C k25 w B m.length m) (hd : m.length ≤ d) :
    Calls Tryz.prog 26 #[.slice A l.length c, .slice B m.length d, .func (.func g) #[] #[]] w fun e w' => e = .returned (.bool (sameTs l m)) ∧ Below w.heap.size w w' := by
  have hl : l.length ≤ 9223372036854775807 := hr.2.1
  have HR := Lib.hid hr; clear hr
  have HC := Lib.hid hc; clear hc
  have HQ := Lib.hid hq; clear hq
  have HD := Lib.hid hd; clear hd
  have HF := Lib.hid hF; clear hF
  have HG := Lib.hid G; clear G
  by_cases hn : l.length = m.length
  · have HN := Lib.hid hn
    have hnb : ((l.length : Int) != (m.length : Int)) = false := by rw [hn]; simp
    have hnb2 : ((l.length : Int) == (m.length : Int)) = true := by rw [hn]; simp
    clear hn
    go_enter Tryz.func26, Tryz.ntmps26
    go_wp2
    go_loopw [17] (fun iv wr => ∃ k : Nat, k ≤ l.length ∧ iv = .int .i64 k ∧ Aside0 (sameTs l m = sameTs (l.drop k) (m.drop k)) ∧ Aside0 (Below w.heap.size w wr)) (fun i _ => l.length - (intOf i).toNat)
    case atStart => exact ⟨0, Nat.zero_le _, rfl, ⟨rfl⟩, ⟨Below.refl _ _⟩⟩
    case round =>
      obtain ⟨k, hk, rfl, HO, HW⟩ := hrel
      by_cases hlt : k < l.length
      · obtain ⟨hm, _⟩ := rd_mem hlt
        have hs := same_split HN.out hlt
        obtain ⟨ad, A3, c3, A4, c4, e1, h0, h1, h2, h3, h4, l3, g3, l4, g4⟩ := at_T25 (Kd.C_below HR.out HW.out) k (by omega) (by omega)
        cases e1
        obtain ⟨bd, B3, d3, B4, d4, e2, i0, i1, i2, i3, i4, m3, f3, m4, f4⟩ := at_T25 (Kd.C_below HQ.out HW.out) k (by omega) (by have := HN.out; omega)
        cases e2
        have hlm : k < m.length := by have := HN.out; omega
        generalize hx : rd_T25 l k = x at *
        generalize hy : rd_T25 m k = y at *
        have HM := Lib.hid hm; clear hm
        have HS := Lib.hid hs; clear hs
        have HX := Lib.hid hx; clear hx
        have HY := Lib.hid hy; clear hy
        have H3 := Lib.hid (And.intro l3 g3); clear l3 g3
        have H4 := Lib.hid (And.intro l4 g4); clear l4 g4
        have I3 := Lib.hid (And.intro m3 f3); clear m3 f3
        have I4 := Lib.hid (And.intro m4 f4); clear m4 f4
        rw [Int.toNat_natCast] at h0 h1 h2 h3 h4 i0 i1 i2 i3 i4
        have hu := Tryz.underlying25
        have o0 := (World.block_lt_of_cell? wr _ i0)
        have ba : Below wr.heap.size wr ((wr.alloc (.cells #[.int .i64 x.f0, .int .i64 x.f1, .string x.f2, .slice A3 x.f3.length c3, .slice A4 x.f4.length c4] 25)).alloc (.cells #[.int .i64 y.f0, .int .i64 y.f1, .string y.f2, .slice B3 y.f3.length d3, .slice B4 y.f4.length d4] 25)) := ((Below.refl _ _).alloc (Nat.le_refl _) _).alloc (by simp) _
        have BA := Lib.hid ba; clear ba
        go_wp2_with fail
        refine (HF.out x HM.out y A3 c3 A4 c4 B3 d3 B4 d4 _ ((HG.out.below HW.out).below BA.out) (Kd.C_below H3.out.2 BA.out) H3.out.1 (Kd.C_below H4.out.2 BA.out) H4.out.1 (Kd.C_below I3.out.2 BA.out) I3.out.1 (Kd.C_below I4.out.2 BA.out) I4.out.1).mono ?_
        rintro e w1 ⟨rfl, hb1⟩
        have B1 := Lib.hid (BA.out.trans (hb1.mono (by simp; try omega))); clear hb1 BA
        have HB1 := Lib.hid (HW.out.trans (B1.out.mono HW.out.size))
        cases hs : sameT x y with
        | true =>
          have HSS := Lib.hid hs; clear hs
          go_wp2
          go_roundw
          case rel => exact ⟨k + 1, by omega, by go_num, ⟨by rw [HO.out, HS.out, HSS.out, Bool.true_and]⟩, ⟨HB1.out⟩⟩
          case measure => simp [intOf]; omega
        | false =>
          have HSS := Lib.hid hs; clear hs
          go_wp2
          go_ret
          exact ⟨ret_bool (by rw [HO.out, HS.out, HSS.out, Bool.false_and]), HB1.out⟩
      · obtain rfl : k = l.length := by omega
        go_wp2
        go_ret
        refine ⟨ret_bool ?_, HW.out⟩
        rw [HO.out, List.drop_length, HN.out, List.drop_length]
        simp [sameTs]
  · have hnb : ((l.length : Int) != (m.length : Int)) = true := by simpa using fun h : (l.length : Int) = m.length => hn (by omega)
    have hnb2 : ((l.length : Int) == (m.length : Int)) = false := by simpa using fun h : (l.length : Int) = m.length => hn (by omega)
    have HN := Lib.hid hn; clear hn
    go_enter Tryz.func26, Tryz.ntmps26
    go_wp2
    go_ret
    refine ⟨ret_bool ?_, Below.refl _ _⟩
    unfold sameTs
    rw [Bool.eq_iff_iff]
    simp only [decide_eq_true_eq, Bool.false_eq_true, false_iff]
    intro h
    exact HN.out (by rw [h])
end Go.Proofs.YtegppacnkfeaoaaGreatDoor.G

/- Nothing of this text is used here. -/

/- Go functions as Lean functions, each with its contract: written by a program of mine over the kit's print. Conditions: each contract's own. -/
namespace Go.Proofs.YtegppacnkfeaoaaGreatDoor.H
open Go.RowKit Go.Proofs.YtegppacnkfeaoaaGreatDoorW.PrintWords Go.Proofs.YtegppacnkfeaoaaGreatDoorW.PrintLast Go.Proofs.YtegppacnkfeaoaaGreatDoorW.PrintMore
attribute [local go_sem] max2_int min2_int max_two min_two max_three min_three max_four min_four   -- for this text's walks alone
set_option linter.unusedVariables false
set_option linter.unusedSimpArgs false

/-! ### value_rises: function 56 -/
def value_rises.l0 : Nat → List ByteArray → List ByteArray → Int → Int → Option (Bool)
 | 0, _, _, _, _ => none
 | k + 1, x0, x5, x6, x7 => if x7 < x6 then (if 0 ≤ x7 then (if x7 < (x5.length : Int) then (if ((rdOf ByteArray.empty x5 x7).size : Int) > 65536 then (some false) else (if x7 > 0 then (if 0 ≤ (wrap64 (x7 - 1)) then (if (wrap64 (x7 - 1)) < (x0.length : Int) then (if ((Op.bytesLess ((rdOf ByteArray.empty x0 (wrap64 (x7 - 1))).toList) ((rdOf ByteArray.empty x5 x7).toList)) = true) then (value_rises.l0 k x0 x5 x6 (wrap64 (x7 + 1))) else (some false)) else (none)) else (none)) else (value_rises.l0 k x0 x5 x6 (wrap64 (x7 + 1))))) else (none)) else (none)) else (some (decide ((x0.length : Int) ≤ 1000)))
def value_rises.f (k : Nat) (l0 : List ByteArray) : Option (Bool) := value_rises.l0 k l0 l0 (l0.length : Int) 0
set_option maxHeartbeats 8000000 in
set_option maxRecDepth 100000 in
theorem value_rises.calls (k : Nat) (A0 : Option Addr) (c0 : Nat) (l0 : List ByteArray) (r : Bool) (w : World) (hr0 : Kd.C Kd.string w A0 l0.length l0) (hc0 : l0.length ≤ c0) (h : value_rises.f k l0 = some r) :
  Calls Tryz.prog 56 #[.slice A0 l0.length c0] w fun e w' => e = .returned (.bool r) ∧ Drawn0 w w' := by
 have HR0 := Aside0.mk hr0
 have HC0 := Aside0.mk hc0
 clear hr0 hc0
 have H : (value_rises.l0 k l0 l0 (l0.length : Int) 0) = some r := h
 clear h
 have H' := Aside0.mk H
 clear H
 go_enter Tryz.func56, Tryz.ntmps56
 go_wp2
 go_loopg [7] k (fun kq v7 w' => ∃ (x7_1 : Int), v7 = .int .i64 x7_1 ∧ Aside0 (value_rises.l0 kq l0 l0 (l0.length : Int) x7_1 = some r) ∧ Aside0 (kq ≤ k) ∧ Drawn0 w w')
 case atStart => exact ⟨(0), (by first | rfl | (simp; done) | (simp [*]; done)), (by first | exact H' | (subst_vars; exact H')), ⟨Nat.le_refl _⟩, by repeat (first | exact Drawn0.refl _ | apply Drawn0.step)⟩
 case round =>
  clear H'
  obtain ⟨x7_1, rfl, HA, HK1, ⟨m1, rfl⟩⟩ := hrel
  cases gk with
  | zero => exact absurd HA.out (by simp [value_rises.l0])
  | succ k1 =>
   have H := HA.out
   clear HA
   simp only [value_rises.l0] at H
   by_cases c2 : x7_1 < (l0.length : Int)
   ·rw [if_pos c2] at H
    have c2b0 : decide (x7_1 < (l0.length : Int)) = true := decide_eq_true c2
    clear c2
    by_cases c3 : 0 ≤ x7_1
    ·rw [if_pos c3] at H
     have c3b0 : decide (0 ≤ x7_1) = true := decide_eq_true c3
     clear c3
     by_cases c4 : x7_1 < (l0.length : Int)
     ·rw [if_pos c4] at H
      have c4b0 : decide (x7_1 < (l0.length : Int)) = true := decide_eq_true c4
      clear c4
      by_cases c5 : ((rdOf ByteArray.empty l0 x7_1).size : Int) > 65536
      ·rw [if_pos c5] at H
       have c5b0 : decide (65536 < ((rdOf ByteArray.empty l0 x7_1).size : Int)) = true := decide_eq_true c5
       have c5b1 : decide (65536 < (rdOf ByteArray.empty l0 x7_1).size) = true := decide_eq_true (by omega)
       clear c5
       obtain rfl := Option.some.inj H
       have p101 : 0 ≤ (x7_1 : Int) := of_decide_eq_true (by first | (with_reducible assumption) | assumption)
       have q101 : x7_1 < (l0.length : Int) := of_decide_eq_true (by first | (with_reducible assumption) | assumption)
       obtain ⟨ad101, e101, hx101_0⟩ := Kd.at_string HR0.out x7_1 p101 q101
       cases e101
       replace p101 := eq_true p101
       replace q101 := eq_true q101
       go_wp2
       go_ret
       exact ⟨by first | rfl | (simp; done) | (simp [*]; done), by repeat (first | exact Drawn0.refl _ | apply Drawn0.step)⟩
      ·rw [if_neg c5] at H
       have c5b0 : decide (65536 < ((rdOf ByteArray.empty l0 x7_1).size : Int)) = false := decide_eq_false c5
       have c5b1 : decide (65536 < (rdOf ByteArray.empty l0 x7_1).size) = false := decide_eq_false (by omega)
       clear c5
       by_cases c6 : x7_1 > 0
       ·rw [if_pos c6] at H
        have c6b0 : decide (0 < x7_1) = true := decide_eq_true c6
        clear c6
        obtain ⟨ji7, hji7⟩ : ∃ j_ : Int, (wrap64 (x7_1 - 1)) = j_ := ⟨_, rfl⟩
        replace H : (if 0 ≤ (ji7) then (if (ji7) < (l0.length : Int) then (if ((Op.bytesLess ((rdOf ByteArray.empty l0 (ji7)).toList) ((rdOf ByteArray.empty l0 x7_1).toList)) = true) then (value_rises.l0 k1 l0 l0 (l0.length : Int) (wrap64 (x7_1 + 1))) else (some false)) else (none)) else (none)) = some r := by first | (rw [hji7] at H; exact H) | (simp only [hji7] at H ⊢; exact H)
        have hji7w : (IntKind.i64.wrap (x7_1 - 1)) = ji7 := (i64_w _).trans hji7
        by_cases c8 : 0 ≤ (ji7)
        ·rw [if_pos c8] at H
         have c8b0 : decide (0 ≤ (ji7)) = true := decide_eq_true c8
         clear c8
         by_cases c9 : (ji7) < (l0.length : Int)
         ·rw [if_pos c9] at H
          have c9b0 : decide ((ji7) < (l0.length : Int)) = true := decide_eq_true c9
          clear c9
          by_cases c10 : ((Op.bytesLess ((rdOf ByteArray.empty l0 (ji7)).toList) ((rdOf ByteArray.empty l0 x7_1).toList)) = true)
          ·rw [if_pos c10] at H
           have c10b0 : (Op.bytesLess ((rdOf ByteArray.empty l0 (ji7)).toList) ((rdOf ByteArray.empty l0 x7_1).toList)) = true := c10
           clear c10
           have H' := Aside0.mk H
           clear H
           have p101 : 0 ≤ (x7_1 : Int) := of_decide_eq_true (by first | (with_reducible assumption) | assumption)
           have q101 : x7_1 < (l0.length : Int) := of_decide_eq_true (by first | (with_reducible assumption) | assumption)
           obtain ⟨ad101, e101, hx101_0⟩ := Kd.at_string HR0.out x7_1 p101 q101
           cases e101
           replace p101 := eq_true p101
           replace q101 := eq_true q101
           have p102 : 0 ≤ ((ji7) : Int) := of_decide_eq_true (by first | (with_reducible assumption) | assumption)
           have q102 : (ji7) < (l0.length : Int) := of_decide_eq_true (by first | (with_reducible assumption) | assumption)
           obtain ⟨ad102, e102, hx102_0⟩ := Kd.at_string HR0.out (ji7) p102 q102
           obtain rfl : ad101 = ad102 := (by injection e102)
           replace p102 := eq_true p102
           replace q102 := eq_true q102
           go_wp2
           go_roundg k1
           case measure => have := HK1.out; omega
           case rel => exact ⟨(wrap64 (x7_1 + 1)), (by first | rfl | (simp; done) | (simp [*]; done)), (by first | exact H' | (subst_vars; exact H')), ⟨by have := HK1.out; omega⟩, by repeat (first | exact Drawn0.refl _ | apply Drawn0.step)⟩
          ·rw [if_neg c10] at H
           have c10b0 : (Op.bytesLess ((rdOf ByteArray.empty l0 (ji7)).toList) ((rdOf ByteArray.empty l0 x7_1).toList)) = false := by simpa using c10
           clear c10
           obtain rfl := Option.some.inj H
           have p101 : 0 ≤ (x7_1 : Int) := of_decide_eq_true (by first | (with_reducible assumption) | assumption)
           have q101 : x7_1 < (l0.length : Int) := of_decide_eq_true (by first | (with_reducible assumption) | assumption)
           obtain ⟨ad101, e101, hx101_0⟩ := Kd.at_string HR0.out x7_1 p101 q101
           cases e101
           replace p101 := eq_true p101
           replace q101 := eq_true q101
           have p102 : 0 ≤ ((ji7) : Int) := of_decide_eq_true (by first | (with_reducible assumption) | assumption)
           have q102 : (ji7) < (l0.length : Int) := of_decide_eq_true (by first | (with_reducible assumption) | assumption)
           obtain ⟨ad102, e102, hx102_0⟩ := Kd.at_string HR0.out (ji7) p102 q102
           obtain rfl : ad101 = ad102 := (by injection e102)
           replace p102 := eq_true p102
           replace q102 := eq_true q102
           go_wp2
           go_ret
           exact ⟨by first | rfl | (simp; done) | (simp only [← hji7] <;> (first | rfl | simp)) | (simp [*]; done), by repeat (first | exact Drawn0.refl _ | apply Drawn0.step)⟩
         ·rw [if_neg c9] at H
          exact absurd H (by simp)
        ·rw [if_neg c8] at H
         exact absurd H (by simp)
       ·rw [if_neg c6] at H
        have c6b0 : decide (0 < x7_1) = false := decide_eq_false c6
        clear c6
        have H' := Aside0.mk H
        clear H
        have p101 : 0 ≤ (x7_1 : Int) := of_decide_eq_true (by first | (with_reducible assumption) | assumption)
        have q101 : x7_1 < (l0.length : Int) := of_decide_eq_true (by first | (with_reducible assumption) | assumption)
        obtain ⟨ad101, e101, hx101_0⟩ := Kd.at_string HR0.out x7_1 p101 q101
        cases e101
        replace p101 := eq_true p101
        replace q101 := eq_true q101
        go_wp2
        go_roundg k1
        case measure => have := HK1.out; omega
        case rel => exact ⟨(wrap64 (x7_1 + 1)), (by first | rfl | (simp; done) | (simp [*]; done)), (by first | exact H' | (subst_vars; exact H')), ⟨by have := HK1.out; omega⟩, by repeat (first | exact Drawn0.refl _ | apply Drawn0.step)⟩
     ·rw [if_neg c4] at H
      exact absurd H (by simp)
    ·rw [if_neg c3] at H
     exact absurd H (by simp)
   ·rw [if_neg c2] at H
    have c2b0 : decide (x7_1 < (l0.length : Int)) = false := decide_eq_false c2
    clear c2
    obtain rfl := Option.some.inj H
    go_wp2
    go_ret
    exact ⟨by first | rfl | (simp; done) | (simp [*]; done), by repeat (first | exact Drawn0.refl _ | apply Drawn0.step)⟩

end Go.Proofs.YtegppacnkfeaoaaGreatDoor.H

/- value's may and Check, and what they use: slices.IndexFunc and ContainsFunc over values, with a function value that counts down. Conditions: each contract's own. -/
namespace Go.Proofs.YtegppacnkfeaoaaGreatDoor.G
open Go.RowKit Go.Gw Go.Proofs.YtegppacnkfeaoaaGreatDoorW.PrintWords
set_option linter.unusedVariables false
set_option linter.unusedSimpArgs false

/-! ### rises -/
theorem rd_get {l : List ByteArray} {k : Nat} : rdOf ByteArray.empty l (k : Int) = l.getD k ByteArray.empty := by
  show l.getD (k : Int).toNat ByteArray.empty = _
  rw [Int.toNat_natCast]
def riseAt (l : List ByteArray) (i : Nat) : Prop := (l.getD i ByteArray.empty).size ≤ 65536 ∧ (0 < i → Op.bytesLess (l.getD (i - 1) ByteArray.empty).toList (l.getD i ByteArray.empty).toList = true)
theorem rises_loop (l : List ByteArray) (hl : l.length ≤ 9223372036854775807) : ∀ (d : Nat) (K : Nat) (i : Nat), i ≤ l.length → l.length - i = d → d < K → (∀ j, j < i → riseAt l j) → H.value_rises.l0 K l l (l.length : Int) (i : Int) = some (risesB l) := by
  intro d
  induction d with
  | zero =>
    intro K i hi hd hk hr
    obtain ⟨K, rfl⟩ : ∃ m, K = m + 1 := ⟨K - 1, by omega⟩
    obtain rfl : i = l.length := by omega
    simp only [H.value_rises.l0]
    rw [if_neg (by omega)]
    congr 1
    rw [Bool.eq_iff_iff, decide_eq_true_eq, risesB_iff]
    exact ⟨fun h => ⟨by omega, fun j hj => hr j hj⟩, fun h => by have := h.1; omega⟩
  | succ d ih =>
    intro K i hi hd hk hr
    obtain ⟨K, rfl⟩ : ∃ m, K = m + 1 := ⟨K - 1, by omega⟩
    have hlt : i < l.length := by omega
    have no : ¬ riseAt l i → some false = some (risesB l) := by
      intro h
      congr 1
      symm
      rw [Bool.eq_false_iff, ne_eq, risesB_iff]
      exact fun g => h (g.2 i hlt)
    have w1 : wrap64 ((i : Int) + 1) = ((i + 1 : Nat) : Int) := by unfold wrap64; omega
    have yes : riseAt l i → H.value_rises.l0 K l l (l.length : Int) ((i + 1 : Nat) : Int) = some (risesB l) := fun h => ih K (i + 1) (by omega) (by omega) (by omega) (fun j hj => by
      rcases Nat.lt_or_ge j i with h1 | h1
      · exact hr j h1
      · obtain rfl : j = i := by omega
        exact h)
    simp only [H.value_rises.l0]
    rw [if_pos (by omega), if_pos (by omega), if_pos (by omega), rd_get, w1]
    by_cases h1 : ((l.getD i ByteArray.empty).size : Int) > 65536
    · rw [if_pos h1]
      exact no (fun h => by have := h.1; omega)
    · rw [if_neg h1]
      by_cases h2 : (i : Int) > 0
      · have w2 : wrap64 ((i : Int) - 1) = ((i - 1 : Nat) : Int) := by unfold wrap64; omega
        rw [if_pos h2, w2, if_pos (by omega), if_pos (by omega), rd_get]
        by_cases h3 : Op.bytesLess (l.getD (i - 1) ByteArray.empty).toList (l.getD i ByteArray.empty).toList = true
        · rw [if_pos h3]
          exact yes ⟨by omega, fun _ => h3⟩
        · rw [if_neg h3]
          exact no (fun h => h3 (h.2 (by omega)))
      · rw [if_neg h2]
        exact yes ⟨by omega, fun h => by omega⟩
theorem rises_calls (l : List ByteArray) (A : Option Addr) (c : Nat) (w : World) (hr : Kd.C Kd.string w A l.length l) (hc : l.length ≤ c) :
    Calls Tryz.prog 56 #[.slice A l.length c] w fun e w' => e = .returned (.bool (risesB l)) ∧ Drawn0 w w' := by
  refine H.value_rises.calls (l.length + 1) A c l (risesB l) w hr hc ?_
  unfold H.value_rises.f
  exact rises_loop l hr.2.1 l.length (l.length + 1) 0 (by omega) (by omega) (by omega) (fun j hj => by omega)

/-! ### what may comes to -/
theorem mayT_left (v : S25) : ∀ (deep left : Int), 0 ≤ left → (mayT v deep left).2 ≤ left ∧ -1 ≤ (mayT v deep left).2 ∧ ((mayT v deep left).1 = true → 0 ≤ (mayT v deep left).2) := by
  refine tree_ind (P := fun v => ∀ (deep left : Int), 0 ≤ left → (mayT v deep left).2 ≤ left ∧ -1 ≤ (mayT v deep left).2 ∧ ((mayT v deep left).1 = true → 0 ≤ (mayT v deep left).2)) ?_ v
  intro v ih deep left h
  have list : ∀ (l : List S25), (∀ x ∈ l, x ∈ v.f3) → ∀ (deep left : Int), 0 ≤ left → (mayTs l deep left).2 ≤ left ∧ -1 ≤ (mayTs l deep left).2 ∧ ((mayTs l deep left).1 = true → 0 ≤ (mayTs l deep left).2) := by
    intro l
    induction l with
    | nil => intro _ deep left h; rw [mayTs]; exact ⟨Int.le_refl _, by omega, fun _ => h⟩
    | cons x l ihl =>
      intro hm deep left h
      rw [mayTs]
      have hx := ih x (hm x List.mem_cons_self) deep left h
      by_cases h1 : (mayT x deep left).1 = true
      · rw [if_pos h1]
        have := ihl (fun y hy => hm y (List.mem_cons_of_mem _ hy)) deep _ (hx.2.2 h1)
        exact ⟨by omega, this.2.1, this.2.2⟩
      · rw [if_neg h1]
        exact ⟨hx.1, hx.2.1, fun h => by cases h⟩
  rw [mayT_eq]
  by_cases h1 : 60 < deep ∨ left - 1 < 0
  · rw [if_pos h1]
    exact ⟨by simp only; omega, by simp only; omega, fun h => by cases h⟩
  · rw [if_neg h1]
    by_cases h2 : nodeB v = true
    · rw [if_pos h2]
      have := list v.f3 (fun x hx => hx) (deep + 1) (left - 1) (by omega)
      exact ⟨by omega, this.2.1, this.2.2⟩
    · rw [if_neg h2]
      exact ⟨by simp only; omega, by simp only; omega, fun h => by cases h⟩

/-- A row that is read, wherever but in block g. -/
def FA (g : Nat) (w : World) (A : Option Addr) (l : List S25) : Prop := Kd.F k25 w (fun k => k ≠ g) A l.length l
def FS (g : Nat) (w : World) (A : Option Addr) (l : List ByteArray) : Prop := Kd.F Kd.string w (fun k => k ≠ g) A l.length l
/-- Block g counts. -/
def CountAt (w : World) (g : Nat) (n : Int) : Prop := w.heap[g]? = some (.cells #[.int .i64 n] 3 (0, 0))
/-- What a call leaves: block g counts n, and what else is below is as it was. -/
structure Left (w : World) (g : Nat) (n : Int) (w' : World) : Prop where
  os : w'.os = w.os
  tape : w'.tape = w.tape
  output : w'.output = w.output
  size : w.heap.size ≤ w'.heap.size
  block : ∀ k, k < w.heap.size → k ≠ g → w'.heap[k]? = w.heap[k]?
  count : CountAt w' g n
theorem Left.start {w : World} {g : Nat} {n : Int} (h : CountAt w g n) : Left w g n w := ⟨rfl, rfl, rfl, Nat.le_refl _, fun _ _ _ => rfl, h⟩
theorem Left.lt {w w' : World} {g : Nat} {n : Int} (h : Left w g n w') : g < w'.heap.size := blk_lt h.count
theorem Left.below {w w1 w2 : World} {g : Nat} {n : Int} (h : Left w g n w1) (hb : Below w1.heap.size w1 w2) : Left w g n w2 :=
  ⟨hb.os.trans h.os, hb.tape.trans h.tape, hb.output.trans h.output, Nat.le_trans h.size hb.size, fun k hk hg => (hb.block k (Nat.lt_of_lt_of_le hk h.size)).trans (h.block k hk hg), (hb.block g h.lt).trans h.count⟩
theorem Left.trans {w w1 w2 : World} {g : Nat} {n m : Int} (h : Left w g n w1) (h2 : Left w1 g m w2) : Left w g m w2 :=
  ⟨h2.os.trans h.os, h2.tape.trans h.tape, h2.output.trans h.output, Nat.le_trans h.size h2.size, fun k hk hg => (h2.block k (Nat.lt_of_lt_of_le hk h.size) hg).trans (h.block k hk hg), h2.count⟩
theorem Left.from {w W w' : World} {g : Nat} {n : Int} (hb : Below w.heap.size w W) (h : Left W g n w') : Left w g n w' :=
  ⟨h.os.trans hb.os, h.tape.trans hb.tape, h.output.trans hb.output, Nat.le_trans hb.size h.size, fun k hk hg => (h.block k (Nat.lt_of_lt_of_le hk hb.size) hg).trans (hb.block k hk), h.count⟩
theorem Left.set {w : World} {g : Nat} {n : Int} (h : CountAt w g n) (m : Int) : Left w g m (w.setCell ⟨g, 0, none⟩ (.int .i64 m)) :=
  ⟨rfl, rfl, rfl, by simp, fun k _ hg => Below.heap_setCell w ⟨g, 0, none⟩ _ k hg, by simpa [CountAt] using blk_set h 0 (.int .i64 m)⟩
theorem Left.fa {w w' : World} {g : Nat} {n : Int} {A : Option Addr} {l : List S25} (h : Left w g n w') (hf : FA g w A l) : FA g w' A l := Kd.F_step hf (fun k hk hlt => h.block k hlt hk)
theorem Left.fs {w w' : World} {g : Nat} {n : Int} {A : Option Addr} {l : List ByteArray} (h : Left w g n w') (hf : FS g w A l) : FS g w' A l := Kd.F_step hf (fun k hk hlt => h.block k hlt hk)
theorem Left.blk {w w' : World} {g b : Nat} {n : Int} {o : Obj} (h : Left w g n w') (hb : w.heap[b]? = some o) (hne : b ≠ g) : w'.heap[b]? = some o := (h.block b (blk_lt hb) hne).trans hb

theorem openF {W : World} {ok : Nat → Prop} {x : S25} {cs : List Value} (h : Kd.FK k25 W ok x cs) : ∃ A3 c3 A4 c4, cs = [.int .i64 x.f0, .int .i64 x.f1, .string x.f2, .slice A3 x.f3.length c3, .slice A4 x.f4.length c4] ∧ x.f3.length ≤ c3 ∧ Kd.F k25 W ok A3 x.f3.length x.f3 ∧ x.f4.length ≤ c4 ∧ Kd.F Kd.string W ok A4 x.f4.length x.f4 := by
  obtain ⟨A3, c3, A4, c4, rfl, l3, _, l4, _⟩ := k25_open (Kd.FK_now h)
  refine ⟨A3, c3, A4, c4, rfl, l3, fun W' hW => ?_, l4, fun W' hW => ?_⟩
  all_goals
    obtain ⟨B3, d3, B4, d4, he, _, g3, _, g4⟩ := k25_open (h W' hW)
    simp only [List.cons.injEq, Value.slice.injEq, true_and, and_true] at he
    obtain ⟨⟨rfl, rfl⟩, rfl, rfl⟩ := he
    assumption
theorem at_F {g : Nat} {w : World} {A : Option Addr} {l : List S25} (h : FA g w A l) (k : Nat) (hk : k < l.length) :
    ∃ ad A3 c3 A4 c4, A = some ad ∧ w.cell? (ad.add (k * 5)) = some (.int .i64 (rd_T25 l k).f0) ∧ w.cell? ⟨(ad.add (k * 5)).block, (ad.add (k * 5)).off + 1, none⟩ = some (.int .i64 (rd_T25 l k).f1) ∧ w.cell? ⟨(ad.add (k * 5)).block, (ad.add (k * 5)).off + 2, none⟩ = some (.string (rd_T25 l k).f2) ∧
      w.cell? ⟨(ad.add (k * 5)).block, (ad.add (k * 5)).off + 3, none⟩ = some (.slice A3 (rd_T25 l k).f3.length c3) ∧ w.cell? ⟨(ad.add (k * 5)).block, (ad.add (k * 5)).off + 4, none⟩ = some (.slice A4 (rd_T25 l k).f4.length c4) ∧
      (rd_T25 l k).f3.length ≤ c3 ∧ FA g w A3 (rd_T25 l k).f3 ∧ (rd_T25 l k).f4.length ≤ c4 ∧ FS g w A4 (rd_T25 l k).f4 := by
  obtain ⟨ad, c, e, _, hK, hc0, _⟩ := Kd.F_get h z25 (k : Int) (by omega) (by omega)
  rw [Int.toNat_natCast] at hc0
  have hc : ∀ j u, c[j]? = some u → w.cell? (ad.add (k * 5 + j)) = some u := hc0
  obtain ⟨A3, c3, A4, c4, rfl, l3, g3, l4, g4⟩ := openF hK
  exact ⟨ad, A3, c3, A4, c4, e, hc 0 _ rfl, by rw [← add_field _ _ 1 (by omega)]; exact hc 1 _ rfl, by rw [← add_field _ _ 2 (by omega)]; exact hc 2 _ rfl, by rw [← add_field _ _ 3 (by omega)]; exact hc 3 _ rfl, by rw [← add_field _ _ 4 (by omega)]; exact hc 4 _ rfl, l3, g3, l4, g4⟩

/-- What a call of may does on a value. -/
def MayOK (x : S25) : Prop := ∀ (deep left : Int) (g : Nat) (A3 : Option Addr) (c3 : Nat) (A4 : Option Addr) (c4 : Nat) (w : World), 1 ≤ deep → deep ≤ 61 → 0 ≤ left → left ≤ 20000 → CountAt w g left → FA g w A3 x.f3 → x.f3.length ≤ c3 → FS g w A4 x.f4 → x.f4.length ≤ c4 →
  Calls Tryz.prog 37 #[.agg #[.int .i64 x.f0, .int .i64 x.f1, .string x.f2, .slice A3 x.f3.length c3, .slice A4 x.f4.length c4], .int .i64 deep, .pointer (some ⟨g, 0, none⟩)] w fun e w' => e = .returned (.bool (mayT x deep left).1) ∧ Left w g (mayT x deep left).2 w'

set_option maxHeartbeats 1000000 in
set_option maxRecDepth 100000 in
theorem clo_calls (x : S25) (hx : MayOK x) (deep left : Int) (g bd bl : Nat) (A3 : Option Addr) (c3 : Nat) (A4 : Option Addr) (c4 : Nat) (w : World) (d1 : 0 ≤ deep) (d2 : deep ≤ 60) (l1 : 0 ≤ left) (l2 : left ≤ 20000) (hg : CountAt w g left)
    (hd : w.heap[bd]? = some (.cells #[.int .i64 deep] 3 (0, 0))) (hb : w.heap[bl]? = some (.cells #[.pointer (some ⟨g, 0, none⟩)] 46 (0, 0))) (h3 : FA g w A3 x.f3) (n3 : x.f3.length ≤ c3) (h4 : FS g w A4 x.f4) (n4 : x.f4.length ≤ c4) :
    Calls Tryz.prog 57 #[.agg #[.int .i64 x.f0, .int .i64 x.f1, .string x.f2, .slice A3 x.f3.length c3, .slice A4 x.f4.length c4], .pointer (some ⟨bd, 0, none⟩), .pointer (some ⟨bl, 0, none⟩)] w fun e w' => e = .returned (.bool (!(mayT x (deep + 1) left).1)) ∧ Left w g (mayT x (deep + 1) left).2 w' := by
  have HX := Lib.hid hx; clear hx
  have HG := Lib.hid hg; clear hg
  have H3 := Lib.hid (And.intro n3 h3); clear n3 h3
  have H4 := Lib.hid (And.intro n4 h4); clear n4 h4
  have BA := Lib.hid (show Below w.heap.size w (w.alloc (.cells #[.int .i64 x.f0, .int .i64 x.f1, .string x.f2, .slice A3 x.f3.length c3, .slice A4 x.f4.length c4] 25)) from (Below.refl _ _).alloc (Nat.le_refl _) _)
  have zd : bd < w.heap.size := blk_lt hd
  have zb : bl < w.heap.size := blk_lt hb
  have cd : w.cell? ⟨bd, 0, none⟩ = some (.int .i64 deep) := (blk_cell hd 0).trans rfl
  have cb : w.cell? ⟨bl, 0, none⟩ = some (.pointer (some ⟨g, 0, none⟩)) := (blk_cell hb 0).trans rfl
  have HD := Lib.hid hd; clear hd
  have HB := Lib.hid hb; clear hb
  have hu := Tryz.underlying25
  go_enter Tryz.func57, Tryz.ntmps57
  go_wp2_with fail
  refine (HX.out (deep + 1) left g A3 c3 A4 c4 _ (by omega) (by omega) l1 l2 ((BA.out.block g (blk_lt HG.out)).trans HG.out) (Kd.F_below H3.out.2 BA.out) H3.out.1 (Kd.F_below H4.out.2 BA.out) H4.out.1).mono ?_
  rintro e w1 ⟨rfl, hl⟩
  have HL := Lib.hid hl; clear hl
  go_wp2
  go_ret
  exact ⟨rfl, Left.from BA.out HL.out⟩

/-- What IndexFunc leaves. -/
def IdxPost (w : World) (g : Nat) (r : Bool × Int) (e : Ending) (w' : World) : Prop := ∃ i : Int, e = .returned (.int .i64 i) ∧ decide (0 ≤ i) = !r.1 ∧ Left w g r.2 w'
set_option maxHeartbeats 1000000 in
set_option maxRecDepth 100000 in
theorem idx_calls (l : List S25) (hm : ∀ x ∈ l, MayOK x) (deep left : Int) (g bd bl : Nat) (A : Option Addr) (c : Nat) (w : World) (d1 : 0 ≤ deep) (d2 : deep ≤ 60) (l1 : 0 ≤ left) (l2 : left ≤ 20000) (hg : CountAt w g left) (hne : bd ≠ g)
    (hd : w.heap[bd]? = some (.cells #[.int .i64 deep] 3 (0, 0))) (hb : w.heap[bl]? = some (.cells #[.pointer (some ⟨g, 0, none⟩)] 46 (0, 0))) (hr : FA g w A l) (hc : l.length ≤ c) :
    Calls Tryz.prog 68 #[.slice A l.length c, .func (.func 57) #[] #[.pointer (some ⟨bd, 0, none⟩), .pointer (some ⟨bl, 0, none⟩)]] w (IdxPost w g (mayTs l (deep + 1) left)) := by
  have eg := enters_of Tryz.func57 (by kernel_rfl) rfl
  have hl : l.length ≤ 9223372036854775807 := Kd.F_max hr
  have hne2 : bl ≠ g := by
    rintro rfl
    unfold CountAt at hg
    rw [hg] at hb
    simp at hb
  have HNE := Lib.hid (And.intro hne hne2); clear hne hne2
  have HM := Lib.hid hm; clear hm
  have HG := Lib.hid hg; clear hg
  have HD := Lib.hid hd; clear hd
  have HB := Lib.hid hb; clear hb
  have HR := Lib.hid hr; clear hr
  have HC := Lib.hid hc; clear hc
  have hu := Tryz.underlying25
  go_enter Tryz.func68, Tryz.ntmps68
  go_wp2
  go_loopw [8] (fun iv wr => ∃ (k : Nat) (n : Int), k ≤ l.length ∧ iv = .int .i64 k ∧ 0 ≤ n ∧ n ≤ 20000 ∧ Aside0 (mayTs l (deep + 1) left = mayTs (l.drop k) (deep + 1) n) ∧ Aside0 (Left w g n wr)) (fun i _ => l.length - (intOf i).toNat)
  case atStart => exact ⟨0, left, Nat.zero_le _, rfl, l1, l2, ⟨rfl⟩, ⟨Left.start HG.out⟩⟩
  case round =>
    obtain ⟨k, n, hk, rfl, n1, n2, HT, HL⟩ := hrel
    by_cases hlt : k < l.length
    · obtain ⟨ad, A3, c3, A4, c4, e1, h0, h1, h2, h3, h4, l3, g3, l4, g4⟩ := at_F (HL.out.fa HR.out) k hlt
      cases e1
      have hs : l.drop k = rd_T25 l k :: l.drop (k + 1) := by
        rw [List.drop_eq_getElem_cons hlt]
        congr 1
        show _ = l.getD (k : Int).toNat z25
        rw [Int.toNat_natCast, List.getD_eq_getElem?_getD, List.getElem?_eq_getElem hlt, Option.getD_some]
      have hm' : rd_T25 l k ∈ l := by
        have : rd_T25 l k ∈ l.drop k := by rw [hs]; exact List.mem_cons_self
        exact List.mem_of_mem_drop this
      generalize hx : rd_T25 l k = x at *
      have he := HT.out
      rw [hs, mayTs] at he
      have HE := Lib.hid he; clear he HT hs
      have HX := Lib.hid hx; clear hx
      have HM' := Lib.hid hm'; clear hm'
      have H3 := Lib.hid (And.intro l3 g3); clear l3 g3
      have H4 := Lib.hid (And.intro l4 g4); clear l4 g4
      have hlf := mayT_left x (deep + 1) n n1
      have HLF := Lib.hid hlf; clear hlf
      go_wp2_with fail
      refine (clo_calls x (HM.out x HM'.out) deep n g bd bl A3 c3 A4 c4 _ d1 d2 n1 n2 HL.out.count (HL.out.blk HD.out HNE.out.1) (HL.out.blk HB.out HNE.out.2) H3.out.2 H3.out.1 H4.out.2 H4.out.1).mono ?_
      rintro e w1 ⟨rfl, hl1⟩
      have HL1 := Lib.hid (HL.out.trans hl1); clear hl1
      cases hb : (mayT x (deep + 1) n).1 with
      | true =>
        have he := HE.out
        rw [if_pos hb] at he
        have HE2 := Lib.hid he; clear he
        have HN := Lib.hid (And.intro (HLF.out.2.2 hb) (Int.le_trans HLF.out.1 n2)); clear hb
        go_wp2
        go_roundw
        case rel => exact ⟨k + 1, (mayT x (deep + 1) n).2, by omega, by go_num, HN.out.1, HN.out.2, ⟨HE2.out⟩, ⟨HL1.out⟩⟩
        case measure => simp [intOf]; omega
      | false =>
        have he := HE.out
        rw [if_neg (by rw [hb]; decide)] at he
        have HE2 := Lib.hid he; clear he hb
        go_wp2
        go_ret
        exact ⟨(k : Int), rfl, by rw [HE2.out]; simp, by rw [HE2.out]; exact HL1.out⟩
    · obtain rfl : k = l.length := by omega
      have he := HT.out
      rw [List.drop_length, mayTs] at he
      have HE := Lib.hid he; clear he HT
      go_wp2
      go_ret
      exact ⟨-1, rfl, by rw [HE.out]; rfl, by rw [HE.out]; exact HL.out⟩

set_option maxHeartbeats 1000000 in
set_option maxRecDepth 100000 in
theorem has_calls (l : List S25) (hm : ∀ x ∈ l, MayOK x) (deep left : Int) (g bd bl : Nat) (A : Option Addr) (c : Nat) (w : World) (d1 : 0 ≤ deep) (d2 : deep ≤ 60) (l1 : 0 ≤ left) (l2 : left ≤ 20000) (hg : CountAt w g left) (hne : bd ≠ g)
    (hd : w.heap[bd]? = some (.cells #[.int .i64 deep] 3 (0, 0))) (hb : w.heap[bl]? = some (.cells #[.pointer (some ⟨g, 0, none⟩)] 46 (0, 0))) (hr : FA g w A l) (hc : l.length ≤ c) :
    Calls Tryz.prog 47 #[.slice A l.length c, .func (.func 57) #[] #[.pointer (some ⟨bd, 0, none⟩), .pointer (some ⟨bl, 0, none⟩)]] w fun e w' => e = .returned (.bool (!(mayTs l (deep + 1) left).1)) ∧ Left w g (mayTs l (deep + 1) left).2 w' := by
  have HM := Lib.hid hm; clear hm
  have HG := Lib.hid hg; clear hg
  have HD := Lib.hid hd; clear hd
  have HB := Lib.hid hb; clear hb
  have HR := Lib.hid hr; clear hr
  have HC := Lib.hid hc; clear hc
  have HNE := Lib.hid hne; clear hne
  go_enter Tryz.func47, Tryz.ntmps47
  go_wp2_with fail
  refine (idx_calls l HM.out deep left g bd bl A c w d1 d2 l1 l2 HG.out HNE.out HD.out HB.out HR.out HC.out).mono ?_
  rintro e w1 ⟨i, rfl, hi, hl⟩
  have HL := Lib.hid hl; clear hl
  have HI := Lib.hid hi; clear hi
  go_wp2
  go_ret
  exact ⟨ret_bool HI.out, HL.out⟩
end Go.Proofs.YtegppacnkfeaoaaGreatDoor.G
