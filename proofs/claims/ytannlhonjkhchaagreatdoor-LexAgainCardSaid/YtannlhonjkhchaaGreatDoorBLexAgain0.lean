/- Texts towards the law LexAgain, one behind the other: each begins with its own sentence. Conditions: each theorem's own. -/
import Derived.Tactics
import Derived.Tactics2
import Derived.Defers
import Derived.Laws.Pointers
import Derived.Laws.LoneSync
import Derived.RegionTactic
import Derived.RegionCalls
import Derived.ChangeAlike
import Derived.Laws.NewBlocks
import Derived.Below
import Derived.WalkKit
import Derived.Shelf.Small.Strs
import Derived.Shelf.Strings.Search1
import Derived.Shelf.Strings.Count
import Derived.Shelf.Strings.LastIndex
import Derived.Shelf.Strings.Prefix
import Derived.KernelRfl
import Derived.WalkSmall
import Derived.Lib.Builder
import Derived.Lib.UnsafeStr
import Derived.Lib.AppendStr
import Derived.Lib.LaidTab
import Derived.Lib.IndexBytes
import Derived.Lib.Strings
import Derived.Lib.ItoaMem
import Derived.Sort.Grow
import Derived.WalkSpells
import Derived.Deep.LoopGhost
import Derived.Laws.CopyOwn
import Derived.Lib.ItoaNum
import Derived.Deep.QuietTactic
import Derived.BigQuiet
import Derived.Lib.ParseIntB
import Derived.Shelf.LaysC
import Derived.Shelf.Strconv.ToErrorRange
import Derived.Shelf.Strconv.ParseUint10At
import Derived.Deep.Draws
import Derived.Deep.AppendLies
import Derived.Maps.AppendAt
import Derived.OwnWalk
import Derived.Laws.BytesArg
import Derived.Laws.MakeOwn
import Derived.Laws.OwnMore
import Derived.Deep.OwnRows
import Derived.Lib.ConvBytes
import Derived.Laws.Slices
import Derived.RowKit3
import Derived.WideLaws
import Derived.Deep.DeepCutAuto
import Derived.Deep.CutBlock
import Derived.Deep.RegionHeld3
import Derived.Laws.Rows
import Derived.ArgAppend
import Derived.Laws.IdiomCopy
import Derived.OrdersHeld
import Derived.Laws.BitsLemmas
import Derived.RowKit
import Derived.Test.YtannlhonjkhchaaGreatDoorProg
import Derived.Test.YtannlhonjkhchaaGreatDoorWMore
import Derived.Test.YtannlhonjkhchaaGreatDoorWWords
import Derived.Test.YtannlhonjkhchaaGreatDoorWLast
import Derived.Test.YtannlhonjkhchaaGreatDoorWTab
import Derived.Test.YtannlhonjkhchaaGreatDoorWQPut
import Derived.Test.YtannlhonjkhchaaGreatDoorWApart
import Derived.Test.YtannlhonjkhchaaGreatDoorWArr
import Derived.Test.YtannlhonjkhchaaGreatDoorWZeros
import Derived.Test.YtannlhonjkhchaaGreatDoorWFoot
import Derived.Test.YtannlhonjkhchaaGreatDoorWKept
import Derived.Test.YtannlhonjkhchaaGreatDoorWShare
import Derived.Test.YtannlhonjkhchaaGreatDoorWN
import Derived.Test.YtannlhonjkhchaaGreatDoorWEqStruct
import Derived.Test.YtannlhonjkhchaaGreatDoorWRepsOne
import Derived.Test.YtannlhonjkhchaaGreatDoorWGuard
import Derived.Test.YtannlhonjkhchaaGreatDoorWNEv
/- The library's Once and its lock, one goroutine, not yet done, the lock free: each part by its contract. -/
namespace Go.Proofs.YtannlhonjkhchaaGreatDoor
open Go.RowKit
set_option linter.unusedVariables false
set_option linter.unusedSimpArgs false

theorem disable (w : World) : (callFunc 79 #[]).run Tryz.prog w = .ok (.value (.tuple #[])) w := run_call_mark0 Tryz.func79 (by kernel_rfl) (by kernel_rfl) (by kernel_rfl) .disable (by kernel_rfl) w
theorem enable (w : World) : (callFunc 81 #[]).run Tryz.prog w = .ok (.value (.tuple #[])) w := run_call_mark0 Tryz.func81 (by kernel_rfl) (by kernel_rfl) (by kernel_rfl) .enable (by kernel_rfl) w
theorem acquire (a : Addr) (w : World) : (callFunc 82 #[.pointer (some a)]).run Tryz.prog w = .ok (.value (.tuple #[])) w := run_call_marked Tryz.func82 (by kernel_rfl) (by kernel_rfl) (by kernel_rfl) .acquire (by kernel_rfl) a w
theorem releaseMerge (a : Addr) (w : World) : (callFunc 84 #[.pointer (some a)]).run Tryz.prog w = .ok (.value (.tuple #[])) w := run_call_marked Tryz.func84 (by kernel_rfl) (by kernel_rfl) (by kernel_rfl) .releaseMerge (by kernel_rfl) a w

/-- '(*sync/atomic.Bool).Store(true)', ENTERED AS A DEFERRED CALL: the cell holds 1. -/
theorem store_deferred (a : Addr) (x : Value) (u : FrameMode) (w : World) (hc : w.cell? a = some x) (hz : w.frozen? a = false) :
    CallsD Tryz.prog 57 #[.pointer (some a), .bool true] u w fun e u' w' => u' = u ∧ (e = .returned (.tuple #[]) ∧ w' = w.drew.setCell a (.int .u32 1)) := by
  have hc' : w.drew.cell? a = some x := by go_simp
  have hz' : w.drew.frozen? a = false := by go_simp
  have hst := run_call_store (P := Tryz.prog) Tryz.func71 (by kernel_rfl) (by kernel_rfl) (by kernel_rfl) (by kernel_rfl) (k := .u32) (y := 1) hc' hz'
  go_enter_d Tryz.func57, Tryz.ntmps57
  go_wp2
  go_region_calls
  all_goals (go_end0; exact ⟨rfl, rfl⟩)

set_option maxRecDepth 100000 in
set_option maxHeartbeats 1000000 in
/-- '(*sync.Mutex).Unlock', ENTERED AS A DEFERRED CALL, the lock held and nobody waiting (state 1): state 0. -/
theorem unlock_deferred (a : Addr) (u : FrameMode) (w : World) (hc : w.cell? a = some (.int .i32 1)) (hz : w.frozen? a = false) :
    CallsD Tryz.prog 56 #[.pointer (some a)] u w fun e u' w' => u' = u ∧ (e = .returned (.tuple #[]) ∧ w' = w.setCell a (.int .i32 0)) := by
  have hd := disable
  have he := enable
  have hr := releaseMerge
  have hadd := run_call_add (P := Tryz.prog) Tryz.func85 (by kernel_rfl) (by kernel_rfl) (by kernel_rfl) .i32 (by kernel_rfl) (y := -1) (s := 0) hc hz (by simp [go_sem]; rfl)
  have hcv := run_convert_to_unsafe (P := Tryz.prog) (src := 123) (dst := 127) Tryz.underlying123 Tryz.underlying127 (by kernel_rfl) hc
  go_enter_d Tryz.func56, Tryz.ntmps56
  go_wp2
  go_end0
  go_wp2
  go_end0
  exact ⟨rfl, rfl⟩

set_option maxRecDepth 100000 in
set_option maxHeartbeats 1000000 in
/-- '(*sync.Mutex).Lock', the lock free (state 0): state 1. -/
theorem lock_free (a : Addr) (w : World) (hc : w.cell? a = some (.int .i32 0)) (hz : w.frozen? a = false) :
    Calls Tryz.prog 55 #[.pointer (some a)] w fun e w' => e = .returned (.tuple #[]) ∧ w' = w.setCell a (.int .i32 1) := by
  have hd := disable
  have he := enable
  have ha := acquire
  have hcas := run_call_cas_hit (P := Tryz.prog) Tryz.func80 (by kernel_rfl) (by kernel_rfl) (by kernel_rfl) .i32 (by kernel_rfl) (y := 1) hc hz
  have hc' : (w.setCell a (.int .i32 1)).cell? a = some (.int .i32 1) := World.cell?_setCell_same w a _ hc
  have hcv := run_convert_to_unsafe (P := Tryz.prog) (src := 123) (dst := 127) Tryz.underlying123 Tryz.underlying127 (by kernel_rfl) hc'
  go_enter Tryz.func55, Tryz.ntmps55
  go_wp2
  first | go_end0 | (simp only [Exit.inBlock, Exit.then]; refine bodyPost_ret (results_none rfl _ _ _) rfl ?_) | refine bodyPost_ret (results_none rfl _ _ _) rfl ?_
  go_wp2
  go_end0
  exact ⟨rfl, rfl⟩
end Go.Proofs.YtannlhonjkhchaaGreatDoor

/- The library's contracts at this dump, as the kit's tools lay-shelf and lay-plain write them: those that are used here. -/
namespace Go.Proofs
open Go.Shelf
def Tryz.lays137_ren : Go.Shelf.Ren := ⟨fun | 137 => 30 | 217 => 42 | 266 => 52 | n => n, fun | 9 => 9 | 5 => 5 | 3 => 3 | n => n, fun | n => n⟩
theorem Tryz.lays137 : Go.Proofs.Lays.n137 Tryz.prog Tryz.lays137_ren := {
  mixed := by kernel_rfl
  f137 := Tryz.func30.trans (congrArg some (by kernel_rfl))
  f217 := Tryz.func42.trans (congrArg some (by kernel_rfl))
  f266 := Tryz.func52.trans (congrArg some (by kernel_rfl))
  t3 := Tryz.underlying3
  a3 := Tryz.isAgg3
  z3 := Tryz.sizeOf3
  v3 := Tryz.zeroValue3
  t5 := Tryz.underlying5
  a5 := Tryz.isAgg5
  z5 := Tryz.sizeOf5
  v5 := Tryz.zeroValue5
  t9 := Tryz.underlying9
  a9 := Tryz.isAgg9
  z9 := Tryz.sizeOf9
  v9 := Tryz.zeroValue9 }
open Go.RowKit in
theorem Tryz.strings_IndexByte (s : ByteArray) (c : Int) (w : World) :
    Calls Tryz.prog 30 #[.string s, .int .u8 c] w fun e w' => e = .returned (.int .i64 (Lib.indexByte s.data.toList c.toNat.toUInt8)) ∧ w' = w := Any.strings_IndexByte Tryz.lays137 s c w
def Tryz.lays217_ren : Go.Shelf.Ren := ⟨fun | 217 => 42 | 266 => 52 | n => n, fun | 9 => 9 | 5 => 5 | 3 => 3 | n => n, fun | n => n⟩
theorem Tryz.lays217 : Go.Proofs.Lays.n217 Tryz.prog Tryz.lays217_ren := {
  mixed := by kernel_rfl
  f217 := Tryz.func42.trans (congrArg some (by kernel_rfl))
  f266 := Tryz.func52.trans (congrArg some (by kernel_rfl))
  t3 := Tryz.underlying3
  a3 := Tryz.isAgg3
  z3 := Tryz.sizeOf3
  v3 := Tryz.zeroValue3
  t5 := Tryz.underlying5
  a5 := Tryz.isAgg5
  z5 := Tryz.sizeOf5
  v5 := Tryz.zeroValue5
  t9 := Tryz.underlying9
  a9 := Tryz.isAgg9
  z9 := Tryz.sizeOf9
  v9 := Tryz.zeroValue9 }
open Go.RowKit Go.Lib in
theorem Tryz.stringslite_IndexByte (s : ByteArray) (c : Int) (w : World) :
    Calls Tryz.prog 42 #[.string s, .int .u8 c] w fun e w' => e = .returned (.int .i64 (Lib.indexByte s.data.toList c.toNat.toUInt8)) ∧ w' = w := Any.stringslite_IndexByte Tryz.lays217 s c w
def Tryz.lays138_ren : Go.Shelf.Ren := ⟨fun | 138 => 31 | 195 => 43 | 218 => 44 | 143 => 45 | 219 => 53 | 217 => 42 | 225 => 66 | 224 => 67 | 267 => 68 | 266 => 52 | 314 => 78 | n => n, fun | 9 => 9 | 3 => 3 | 4 => 4 | 5 => 5 | 0 => 0 | 46 => 98 | 146 => 121 | 51 => 58 | n => n, fun | 1 => 0 | n => n⟩
theorem Tryz.lays138 : Go.Proofs.Lays.n138 Tryz.prog Tryz.lays138_ren := {
  mixed := by kernel_rfl
  f138 := Tryz.func31.trans (congrArg some (by kernel_rfl))
  f143 := Tryz.func45.trans (congrArg some (by kernel_rfl))
  f195 := Tryz.func43.trans (congrArg some (by kernel_rfl))
  f217 := Tryz.func42.trans (congrArg some (by kernel_rfl))
  f218 := Tryz.func44.trans (congrArg some (by kernel_rfl))
  f219 := Tryz.func53.trans (congrArg some (by kernel_rfl))
  f224 := Tryz.func67.trans (congrArg some (by kernel_rfl))
  f225 := Tryz.func66.trans (congrArg some (by kernel_rfl))
  f266 := Tryz.func52.trans (congrArg some (by kernel_rfl))
  f267 := Tryz.func68.trans (congrArg some (by kernel_rfl))
  f314 := Tryz.func78.trans (congrArg some (by kernel_rfl))
  t0 := Tryz.underlying0
  a0 := Tryz.isAgg0
  z0 := Tryz.sizeOf0
  v0 := Tryz.zeroValue0
  t3 := Tryz.underlying3
  a3 := Tryz.isAgg3
  z3 := Tryz.sizeOf3
  v3 := Tryz.zeroValue3
  t4 := Tryz.underlying4
  a4 := Tryz.isAgg4
  z4 := Tryz.sizeOf4
  v4 := Tryz.zeroValue4
  t5 := Tryz.underlying5
  a5 := Tryz.isAgg5
  z5 := Tryz.sizeOf5
  v5 := Tryz.zeroValue5
  t9 := Tryz.underlying9
  a9 := Tryz.isAgg9
  z9 := Tryz.sizeOf9
  v9 := Tryz.zeroValue9
  t46 := Tryz.underlying98
  a46 := Tryz.isAgg98
  z46 := Tryz.sizeOf98
  v46 := Tryz.zeroValue98
  t51 := Tryz.underlying58
  a51 := Tryz.isAgg58
  z51 := Tryz.sizeOf58
  v51 := Tryz.zeroValue58
  t146 := Tryz.underlying121
  a146 := Tryz.isAgg121
  z146 := Tryz.sizeOf121
  v146 := Tryz.zeroValue121
  g1 := by kernel_rfl }
open Go.RowKit Go.Lib in
theorem Tryz.strings_Count_one (s : ByteArray) (c : UInt8) (w : World) :
    Calls Tryz.prog 31 #[.string s, .string ⟨#[c]⟩] w fun e w' => e = .returned (.int .i64 (Lib.countByte s.data.toList c)) ∧ w' = w := Any.strings_Count_one Tryz.lays138 s c w
def Tryz.lays149_ren : Go.Shelf.Ren := ⟨fun | 149 => 32 | 222 => 46 | n => n, fun | 9 => 9 | 5 => 5 | 3 => 3 | 4 => 4 | n => n, fun | n => n⟩
theorem Tryz.lays149 : Go.Proofs.Lays.n149 Tryz.prog Tryz.lays149_ren := {
  mixed := by kernel_rfl
  f149 := Tryz.func32.trans (congrArg some (by kernel_rfl))
  f222 := Tryz.func46.trans (congrArg some (by kernel_rfl))
  t3 := Tryz.underlying3
  a3 := Tryz.isAgg3
  z3 := Tryz.sizeOf3
  v3 := Tryz.zeroValue3
  t4 := Tryz.underlying4
  a4 := Tryz.isAgg4
  z4 := Tryz.sizeOf4
  v4 := Tryz.zeroValue4
  t5 := Tryz.underlying5
  a5 := Tryz.isAgg5
  z5 := Tryz.sizeOf5
  v5 := Tryz.zeroValue5
  t9 := Tryz.underlying9
  a9 := Tryz.isAgg9
  z9 := Tryz.sizeOf9
  v9 := Tryz.zeroValue9 }
open Go.RowKit Go.Lib in
theorem Tryz.strings_LastIndexByte (s : ByteArray) (c : Int) (hs : s.size < 4611686018427387904) (w : World) :
    Calls Tryz.prog 32 #[.string s, .int .u8 c] w fun e w' => e = .returned (.int .i64 (Lib.lastIndexByte s c)) ∧ w' = w := Any.strings_LastIndexByte Tryz.lays149 s c hs w
def Tryz.lays99_ren : Go.Shelf.Ren := ⟨fun | 99 => 29 | 206 => 41 | n => n, fun | 9 => 9 | 4 => 4 | 3 => 3 | n => n, fun | n => n⟩
theorem Tryz.lays99 : Go.Proofs.Lays.n99 Tryz.prog Tryz.lays99_ren := {
  mixed := by kernel_rfl
  f99 := Tryz.func29.trans (congrArg some (by kernel_rfl))
  f206 := Tryz.func41.trans (congrArg some (by kernel_rfl))
  t3 := Tryz.underlying3
  a3 := Tryz.isAgg3
  z3 := Tryz.sizeOf3
  v3 := Tryz.zeroValue3
  t4 := Tryz.underlying4
  a4 := Tryz.isAgg4
  z4 := Tryz.sizeOf4
  v4 := Tryz.zeroValue4
  t9 := Tryz.underlying9
  a9 := Tryz.isAgg9
  z9 := Tryz.sizeOf9
  v9 := Tryz.zeroValue9 }
open Go.RowKit Go.Lib in
theorem Tryz.strings_HasPrefix (s p : ByteArray) (w : World) :
    Calls Tryz.prog 29 #[.string s, .string p] w fun e w' => e = .returned (.bool (Lib.hasPrefix s.data.toList p.data.toList)) ∧ w' = w := Any.strings_HasPrefix Tryz.lays99 s p w

end Go.Proofs

/- Small words for the walks: of no program. -/
namespace Go.Gw
open Go.RowKit

theorem below_grow {B : Nat} {a w : World} (h : Below B a w) (hB : B ≤ w.heap.size) (os : Array Obj) : Below B a (Sort.grow w os) :=
  h.trans ⟨rfl, rfl, rfl, by simp, fun k hk => Sort.heap_grow_old w os (by omega)⟩
theorem below_drewN' {B : Nat} {a w : World} (h : Below B a w) (n : Nat) : Below B a (w.drewN n) := below_drewN h n
theorem size_drewN (w : World) (n : Nat) : (w.drewN n).heap.size = w.heap.size := rfl

theorem ownsRow_below {w w1 : World} {base : Nat} {e : TypeId} {size n : Nat} {v : Value} {xs : List Value} (h : w.ownsRow base e size v n xs) (hb : Below w.heap.size w w1) : w1.ownsRow base e size v n xs :=
  h.kept (row := none) ⟨hb.os, hb.tape, hb.output, hb.size, fun i hi _ => hb.block i hi⟩ (by cases v.ownBlock <;> simp)

theorem builderAt_below {T e : TypeId} {B b : Nat} {p : Value} {bs : List Value} {w w' : World} (h : Lib.BuilderAt T e B b p bs w) (hb : Below w.heap.size w w') : Lib.BuilderAt T e B b p bs w' := by
  obtain ⟨h1, v, h2, h3, h4⟩ := h
  have hlt : b < w.heap.size := by
    rcases Nat.lt_or_ge b w.heap.size with h' | h'
    · exact h'
    · simp [Array.getElem?_eq_none h'] at h2
  exact ⟨h1, v, (hb.block b hlt).trans h2, ownsRow_below h3 hb, h4⟩
theorem isBuilder_below {T e : TypeId} {B b : Nat} {bs : List Value} {w w' : World} (h : Lib.IsBuilder T e B b bs w) (hb : Below w.heap.size w w') : Lib.IsBuilder T e B b bs w' := by
  rcases h with h | h
  · exact .inl (builderAt_below h hb)
  · exact .inr (builderAt_below h hb)

/-- The library's table of the powers of ten lies as its initialiser laid it. -/
structure Tab (P : Program) (w : World) : Prop where
  tab : Lib.TabIs P w "internal/strconv.uint64pow10" .u64 Lib.pow10Tab
theorem tabIs_lt {P : Program} {w : World} {name : String} {k : IntKind} {zs : List Int} (h : Lib.TabIs P w name k zs) {g : Nat} (hg : P.globalNamed name = some g) : g < w.heap.size := by
  unfold Lib.TabIs World.var? at h
  simp only [hg, Option.bind_some] at h
  rcases Nat.lt_or_ge g w.heap.size with h' | h'
  · exact h'
  · rw [Array.getElem?_eq_none h'] at h; simp at h
theorem var_below {P : Program} {w w' : World} {n : String} {cs : Array Value} (h : w.var? P n = some cs) (hb : Below w.heap.size w w') : w'.var? P n = some cs := by
  unfold World.var? at h ⊢
  cases hg : P.globalNamed n with
  | none => simp [hg] at h
  | some g =>
    simp only [hg, Option.bind_some] at h ⊢
    have hlt : g < w.heap.size := by
      rcases Nat.lt_or_ge g w.heap.size with h' | h'
      · exact h'
      · rw [Array.getElem?_eq_none h'] at h; simp at h
    rw [hb.block g hlt]
    exact h
theorem Tab.below {P : Program} {w w' : World} (h : Tab P w) (hb : Below w.heap.size w w') : Tab P w' := ⟨var_below h.tab hb⟩

theorem strCells_mk (l : List UInt8) : Lib.strCells ⟨l.toArray⟩ = Lib.byteCells l := rfl
theorem str_ext {a b : ByteArray} (h : a.data.toList = b.data.toList) : a = b := by
  cases a; cases b
  simp only at h
  congr 1
  exact Array.toList_inj.1 h
theorem str_mk (s : ByteArray) : (⟨s.data.toList.toArray⟩ : ByteArray) = s := by cases s; simp
theorem ext_drop (s : ByteArray) (k : Nat) : s.extract k s.size = ⟨(s.data.toList.drop k).toArray⟩ := by
  apply str_ext
  rw [Lib.extract_to_end]
theorem ext_mid (s : ByteArray) (a b : Nat) : s.extract a b = ⟨((s.data.toList.drop a).take (b - a)).toArray⟩ := by
  apply str_ext
  rw [Lib.extract_data]
theorem ext_take (s : ByteArray) (k : Nat) : s.extract 0 k = ⟨(s.data.toList.take k).toArray⟩ := by
  rw [ext_mid]
  rfl
theorem ret_str {a b : ByteArray} (h : a = b) : Ending.returned (.string a) = .returned (.string b) := by rw [h]
theorem ret_bool {a b : Bool} (h : a = b) : Ending.returned (.bool a) = .returned (.bool b) := by rw [h]
theorem ret_int {k : IntKind} {a b : Int} (h : a = b) : Ending.returned (.int k a) = .returned (.int k b) := by rw [h]
theorem byteTake (r : ByteArray) (k : Nat) (h : k < r.size) : (r[k]'h) ∈ r.data.toList ∧ r.data.toList.take (k + 1) = r.data.toList.take k ++ [r[k]'h] := by
  have hl : k < r.data.toList.length := by rw [Array.length_toList]; exact h
  refine ⟨?_, ?_⟩
  · show r.data[k] ∈ _
    rw [← Array.getElem_toList]
    exact List.getElem_mem hl
  · rw [List.take_succ_eq_append_getElem hl]
    congr 2
end Go.Gw

/- The library's replacer of single bytes by texts, at lex.Quote's three: built once, then used. -/
namespace Go.Proofs.YtannlhonjkhchaaGreatDoor
open Go.RowKit Go.Gw Go.Proofs.YtannlhonjkhchaaGreatDoorW.PrintWords
set_option linter.unusedVariables false
set_option linter.unusedSimpArgs false

/-- The old texts and the new ones, in turn. -/
def olds : List ByteArray := [⟨#[34]⟩, ⟨#[92, 34]⟩, ⟨#[92]⟩, ⟨#[92, 92]⟩, ⟨#[10]⟩, ⟨#[92, 110]⟩]
/-- They lie so, in a row of the call's own. -/
structure OldsAt (w : World) (G : Nat) : Prop where
  h0 : w.cell? ⟨G, 0, none⟩ = some (.string ⟨#[34]⟩)
  h1 : w.cell? ⟨G, 1, none⟩ = some (.string ⟨#[92, 34]⟩)
  h2 : w.cell? ⟨G, 2, none⟩ = some (.string ⟨#[92]⟩)
  h3 : w.cell? ⟨G, 3, none⟩ = some (.string ⟨#[92, 92]⟩)
  h4 : w.cell? ⟨G, 4, none⟩ = some (.string ⟨#[10]⟩)
  h5 : w.cell? ⟨G, 5, none⟩ = some (.string ⟨#[92, 110]⟩)
theorem OldsAt.below {w w' : World} {G : Nat} (h : OldsAt w G) (hb : Below w.heap.size w w') : OldsAt w' G :=
  ⟨pw_cell_below hb h.h0, pw_cell_below hb h.h1, pw_cell_below hb h.h2, pw_cell_below hb h.h3, pw_cell_below hb h.h4, pw_cell_below hb h.h5⟩
theorem info_strR : (Tryz.prog.info? 9).map (fun i => (i.zero, i.size, i.bytes)) = some (some (.string ⟨#[]⟩), 1, 16) := by kernel_rfl

/-- What stands for a byte, the first n rounds having been. -/
def escP (n k : Nat) : Option (Int × Int) := if k = 10 ∧ 1 ≤ n then some (92, 110) else if k = 92 ∧ 2 ≤ n then some (92, 92) else if k = 34 ∧ 3 ≤ n then some (92, 34) else none
def lst (n : Nat) : List ByteArray := ([⟨#[10]⟩, ⟨#[92]⟩, ⟨#[34]⟩] : List ByteArray).take n
/-- What a cell of the table holds. -/
def EntryP (W : World) (B Q : Nat) (x : Option (Int × Int)) (v : Value) : Prop := match x with
  | none => v = .slice none 0 0
  | some l => ∃ g c, v = .slice (some ⟨g, 0, none⟩) 2 c ∧ B ≤ g ∧ g ≠ Q ∧ (∃ cells fr, W.heap[g]? = some (.cells cells 5 fr)) ∧ W.cell? ⟨g, 0, none⟩ = some (.int .u8 l.1) ∧ W.cell? ⟨g, 1, none⟩ = some (.int .u8 l.2)
theorem EntryP.move {W W' : World} {B Q : Nat} {x : Option (Int × Int)} {v : Value} (h : EntryP W B Q x v) (hm : ∀ k cells fr, B ≤ k → k ≠ Q → W.heap[k]? = some (.cells cells 5 fr) → W'.heap[k]? = W.heap[k]?) : EntryP W' B Q x v := by
  cases x with
  | none => exact h
  | some l =>
    obtain ⟨g, c, rfl, h1, h2, ⟨cells, fr, h3⟩, h4, h5⟩ := h
    have e := hm g cells fr h1 h2 h3
    refine ⟨g, c, rfl, h1, h2, ⟨cells, fr, e.trans h3⟩, ?_, ?_⟩
    · rw [World.cell?_of_block e]; exact h4
    · rw [World.cell?_of_block e]; exact h5
/-- The table, the first n rounds having been. -/
structure TablP (n : Nat) (W : World) (B Q : Nat) (TL : Value) : Prop where
  lo : B ≤ Q
  cells : ∃ cur, W.heap[Q]? = some (.cells cur 94 (0, 0)) ∧ cur.size = 257 ∧ cur[256]? = some TL ∧ ∀ k, k < 256 → ∃ v, cur[k]? = some v ∧ EntryP W B Q (escP n k) v
  row : Kd.R Kd.string 9 W B (fun b => b ≠ Q) TL (lst n)
section
variable {n : Nat} {W W' : World} {B Q : Nat} {TL : Value}
theorem TablP.lt (h : TablP n W B Q TL) : Q < W.heap.size := by
  obtain ⟨cur, h1, _⟩ := h.cells
  exact blk_lt h1
theorem TablP.below (h : TablP n W B Q TL) (hb : Below W.heap.size W W') : TablP n W' B Q TL := by
  refine ⟨h.lo, ?_, Kd.R_below h.row hb⟩
  obtain ⟨cur, h1, h2, h3, h4⟩ := h.cells
  refine ⟨cur, (hb.block Q (blk_lt h1)).trans h1, h2, h3, fun k hk => ?_⟩
  obtain ⟨v, h5, h6⟩ := h4 k hk
  exact ⟨v, h5, h6.move fun j _ _ _ _ hj => hb.block j (blk_lt hj)⟩
/-- What the walk reads of it. -/
theorem TablP.list (h : TablP n W B Q TL) : W.cell? ⟨Q, 256, none⟩ = some TL ∧ W.frozen? ⟨Q, 256, none⟩ = false := by
  obtain ⟨cur, h1, h2, h3, _⟩ := h.cells
  exact ⟨by simp [World.cell?, h1, h3], by simp [World.frozen?, h1]⟩
theorem TablP.entry (h : TablP n W B Q TL) (k : Nat) (hk : k < 256) : ∃ v, W.cell? ⟨Q, k, none⟩ = some v ∧ W.frozen? ⟨Q, k, none⟩ = false ∧ EntryP W B Q (escP n k) v := by
  obtain ⟨cur, h1, h2, _, h4⟩ := h.cells
  obtain ⟨v, h5, h6⟩ := h4 k hk
  exact ⟨v, by simp [World.cell?, h1, h5], by simp [World.frozen?, h1], h6⟩
end
theorem one_byteR (x : Int) (w : World) : (convert 77 9 (.slice (some ⟨w.heap.size, 0, none⟩) 1 1)).run Tryz.prog (w.alloc (.cells #[.int .u8 x] 5)) = .ok (.string (strOfNums [x])) (w.alloc (.cells #[.int .u8 x] 5)) :=
  run_convert_bytes_arg _ _ _ Tryz.underlying77 Tryz.underlying5 w.heap.size 0 1 1 [x] rfl (fun i hi => by
    obtain rfl : i = 0 := by omega
    exact (World.cell?_alloc_new w _ _ 0).trans rfl) _ Tryz.underlying9
theorem heap_set {w : World} {g : Nat} {cells : Array Value} {e : TypeId} {fr : Nat × Nat} (h : w.heap[g]? = some (.cells cells e fr)) (j : Nat) (u : Value) :
    (w.setCell ⟨g, j, none⟩ u).heap[g]? = some (.cells (cells.setIfInBounds j u) e fr) := by
  simp only [World.setCell, Array.getElem?_modify, if_pos, h, Option.map_some]
  simp
theorem heap_set_ne (w : World) {g k : Nat} (hk : k ≠ g) (j : Nat) (u : Value) : (w.setCell ⟨g, j, none⟩ u).heap[k]? = w.heap[k]? := Below.heap_setCell _ _ _ _ hk
/-- A round of the table's making. -/
theorem tabl_step {n kb c : Nat} {a b : Int} {s : ByteArray} {W w2 : World} {B Q : Nat} {TL v1 : Value} (h : TablP n W B Q TL) (hown : Kd.R Kd.string 9 w2 B (fun b => b ≠ Q) v1 (lst (n + 1))) (hg : W.grownBy w2 TL.ownBlock)
    (hkb : kb < 256) (hn : ∀ k, escP (n + 1) k = if k = kb then some (a, b) else escP n k) (hs : s.size = 2) (h0 : ((s.data.toList.getD 0 0).toNat : Int) = a) (h1 : ((s.data.toList.getD 1 0).toNat : Int) = b) :
    TablP (n + 1) ((Lib.bytesWorld (w2.setCell ⟨Q, 256, none⟩ v1) 5 s).setCell ⟨Q, kb, none⟩ (.slice (some ⟨w2.heap.size, 0, none⟩) 2 c)) B Q v1 := by
  obtain ⟨cur, c1, c2, c3, c4⟩ := h.cells
  have hQ : Q < W.heap.size := blk_lt c1
  have hQ2 : some Q ≠ TL.ownBlock := fun e => h.row.1 Q e.symm rfl
  have d1 : w2.heap[Q]? = some (.cells cur 94 (0, 0)) := (hg.block Q hQ hQ2).trans c1
  have z1 : (w2.setCell ⟨Q, 256, none⟩ v1).heap.size = w2.heap.size := by simp [World.setCell]
  have hQw : Q < w2.heap.size := blk_lt d1
  have d2 := heap_set d1 256 v1
  have d3 : (Lib.bytesWorld (w2.setCell ⟨Q, 256, none⟩ v1) 5 s).heap[Q]? = _ := (Lib.bytesWorld_at_old _ 5 s Q (by rw [z1]; exact hQw)).trans d2
  have d4 := heap_set d3 kb (.slice (some ⟨w2.heap.size, 0, none⟩) 2 c)
  refine ⟨h.lo, ⟨_, d4, by simp [c2], ?_, ?_⟩, ?_⟩
  · rw [Array.getElem?_setIfInBounds_ne (by omega), Array.getElem?_setIfInBounds_self, if_pos (by omega)]
  · intro k hk
    by_cases hkk : k = kb
    · subst hkk
      refine ⟨_, Array.getElem?_setIfInBounds_self_of_lt (by simp; omega), ?_⟩
      rw [hn, if_pos rfl]
      have nb := Lib.bytesWorld_at_new (w2.setCell ⟨Q, 256, none⟩ v1) 5 s
      have nc := Lib.bytesWorld_cell (w2.setCell ⟨Q, 256, none⟩ v1) 5 s
      rw [z1] at nb nc
      have ne : w2.heap.size ≠ Q := by omega
      have hbk := heap_set_ne (Lib.bytesWorld (w2.setCell ⟨Q, 256, none⟩ v1) 5 s) ne k (.slice (some ⟨w2.heap.size, 0, none⟩) 2 c)
      refine ⟨w2.heap.size, c, rfl, ?_, ne, ⟨_, _, hbk.trans nb⟩, ?_, ?_⟩
      · have := h.lo; omega
      · rw [World.cell?_of_block (a := ⟨w2.heap.size, 0, none⟩) hbk, nc 0 (by omega), h0]
      · rw [World.cell?_of_block (a := ⟨w2.heap.size, 1, none⟩) hbk, nc 1 (by omega), h1]
    · obtain ⟨v, e1, e2⟩ := c4 k hk
      refine ⟨v, ?_, ?_⟩
      · rw [Array.getElem?_setIfInBounds_ne (fun e => hkk e.symm), Array.getElem?_setIfInBounds_ne (by omega)]
        exact e1
      · rw [hn, if_neg hkk]
        refine e2.move fun g cells fr hB hgQ hgh => ?_
        rw [heap_set_ne _ hgQ, Lib.bytesWorld_at_old _ _ _ _ (by rw [z1]; exact Nat.lt_of_lt_of_le (blk_lt hgh) hg.size), heap_set_ne _ hgQ]
        refine hg.block g (blk_lt hgh) (fun e => ?_)
        obtain ⟨cells', ht⟩ := Kd.R_typed h.row g e.symm
        rw [hgh] at ht
        cases ht
  · have r1 := Kd.R_far (p := ⟨Q, 256, none⟩) hown (fun k hk => hk) v1
    have r2 := Kd.R_below r1 (bytes_below (Below.refl _ _) (Nat.le_refl _) 5 s)
    exact Kd.R_far (p := ⟨Q, kb, none⟩) r2 (fun k hk => hk) _
/-- What the walk reads in a round. -/
theorem step_facts {n kb : Nat} {W w2 : World} {B Q : Nat} {TL : Value} (h : TablP n W B Q TL) (hg : W.grownBy w2 TL.ownBlock) (hkb : kb < 256) (hn : escP n kb = none) (v1 : Value) (s : ByteArray) :
    (w2.cell? ⟨Q, 256, none⟩ = some TL ∧ w2.frozen? ⟨Q, 256, none⟩ = false) ∧
    (Lib.bytesWorld (w2.setCell ⟨Q, 256, none⟩ v1) 5 s).cell? ⟨Q, kb, none⟩ = some (.slice none 0 0) ∧ (Lib.bytesWorld (w2.setCell ⟨Q, 256, none⟩ v1) 5 s).frozen? ⟨Q, kb, none⟩ = false := by
  obtain ⟨cur, c1, c2, c3, c4⟩ := h.cells
  obtain ⟨v, c5, c6⟩ := c4 kb hkb
  rw [hn] at c6
  obtain rfl : v = .slice none 0 0 := c6
  have hQ : Q < W.heap.size := blk_lt c1
  have hQ2 : some Q ≠ TL.ownBlock := fun e => h.row.1 Q e.symm rfl
  have d1 : w2.heap[Q]? = some (.cells cur 94 (0, 0)) := (hg.block Q hQ hQ2).trans c1
  have z1 : (w2.setCell ⟨Q, 256, none⟩ v1).heap.size = w2.heap.size := by simp [World.setCell]
  have d2 := heap_set d1 256 v1
  have d3 : (Lib.bytesWorld (w2.setCell ⟨Q, 256, none⟩ v1) 5 s).heap[Q]? = _ := (Lib.bytesWorld_at_old _ 5 s Q (by rw [z1]; exact blk_lt d1)).trans d2
  refine ⟨⟨?_, ?_⟩, ?_, ?_⟩
  · simp [World.cell?, d1, c3]
  · simp [World.frozen?, d1]
  · have : (cur.setIfInBounds 256 v1)[kb]? = some (.slice none 0 0) := by rw [Array.getElem?_setIfInBounds_ne (by omega)]; exact c5
    simp only [World.cell?, d3]
    simpa using this
  · simp [World.frozen?, d3]
theorem escP_1 (k : Nat) : escP (0 + 1) k = if k = 10 then some (92, 110) else escP 0 k := by
  unfold escP
  by_cases h : k = 10 <;> simp [h]
theorem escP_2 (k : Nat) : escP (1 + 1) k = if k = 92 then some (92, 92) else escP 1 k := by
  unfold escP
  by_cases h : k = 92
  · subst h; simp
  · by_cases h2 : k = 10 <;> simp [h, h2]
theorem escP_3 (k : Nat) : escP (2 + 1) k = if k = 34 then some (92, 34) else escP 2 k := by
  unfold escP
  by_cases h : k = 34
  · subst h; simp
  · by_cases h2 : k = 10 <;> by_cases h3 : k = 92 <;> simp [h, h2, h3]
theorem heap_new (w : World) (o : Obj) : (w.alloc o).heap[w.heap.size]? = some o := by
  show (w.heap.push o)[w.heap.size]? = some o
  simp
theorem all_set (n i : Nat) (v : Value) (hv : v.oneCell' = true) : ((Array.replicate n (Value.slice none 0 0)).setIfInBounds i v).all (·.oneCell') = true := by
  rw [Array.all_eq_true]
  intro k hk
  rw [Array.getElem_setIfInBounds]
  split
  · exact hv
  · rw [Array.getElem_replicate]; rfl
  · simpa using hk
theorem zero_tbl : Tryz.zeroCells94 = Array.replicate 257 (.slice none 0 0) := by kernel_rfl
theorem tabl_start {w w1 : World} (hown : w1.ownsRow w.heap.size 9 1 (.slice (some ⟨w.heap.size, 0, none⟩) 0 3) 0 []) (hgr : w.grownBy w1 none) :
    TablP 0 ((w1.alloc (.cells Tryz.zeroCells94 94)).setRow w1.heap.size (Tryz.zeroCells94.setIfInBounds 256 (.slice (some ⟨w.heap.size, 0, none⟩) 0 3))) w.heap.size w1.heap.size (.slice (some ⟨w.heap.size, 0, none⟩) 0 3) := by
  have hR : Kd.R Kd.string 9 w1 w.heap.size (fun _ => True) (.slice (some ⟨w.heap.size, 0, none⟩) 0 3) [] := Kd.R_of_own (enc := Value.string) (h1 := fun _ => rfl) hown (fun _ _ => trivial)
  have hlt := Kd.R_lt hR w.heap.size rfl
  have hg : (w1.alloc (.cells Tryz.zeroCells94 94)).heap[w1.heap.size]? = some (.cells Tryz.zeroCells94 94 (0, 0)) := heap_new _ _
  refine ⟨hgr.size, ⟨_, setRow_heap _ _ _ _ _ _ hg, ?_, ?_, ?_⟩, ?_⟩
  · rw [zero_tbl]; simp
  · rw [zero_tbl]; simp
  · intro k hk
    refine ⟨.slice none 0 0, ?_, ?_⟩
    · rw [zero_tbl, Array.getElem?_setIfInBounds_ne (by omega), Array.getElem?_replicate, if_pos (by omega)]
    · simp [EntryP, escP]
  · have h2 := Kd.R_step (ok := fun b => b = w.heap.size) (w1 := ((w1.alloc (.cells Tryz.zeroCells94 94)).setRow w1.heap.size (Tryz.zeroCells94.setIfInBounds 256 (.slice (some ⟨w.heap.size, 0, none⟩) 0 3)))) (Kd.R_mono (Kd.R_tight rfl hR) (fun k hk => by injection hk)) (fun k hk hl => by rw [setRow_other _ _ _ _ (by omega), Below.heap_alloc _ _ _ hl])
    exact Kd.R_mono h2 (fun k hk => by omega)
def BuildPost (w : World) (e : Ending) (w' : World) : Prop :=
  ∃ Q TL, e = .returned (.iface 95 (.pointer (some ⟨Q, 0, none⟩))) ∧ TablP 3 w' w.heap.size Q TL ∧ Below w.heap.size w w'
set_option maxHeartbeats 2000000 in
set_option maxRecDepth 100000 in
theorem build_calls (N G : Nat) (c : Nat) (w : World) (h4 : w.cell? ⟨N, 4, none⟩ = some (.slice (some ⟨G, 0, none⟩) 6 c)) (ho : OldsAt w G) :
    Calls Tryz.prog 49 #[.pointer (some ⟨N, 0, none⟩)] w (BuildPost w) := by
  obtain ⟨c0, c1, c2, c3, c4, c5⟩ := ho
  obtain ⟨si, si1, si2, si3, si4⟩ := info_parts info_strR
  go_enter Tryz.func49, Tryz.ntmps49
  go_wp2
  go_loop [4, 5] (fun bv iv => ∃ n : Nat, n ≤ 3 ∧ iv = .int .i64 (2 * n : Nat) ∧ bv = .bool (n == 0)) (fun _ i => 6 - (intOf i).toNat)
  case atStart => exact ⟨0, by omega, rfl, rfl⟩
  case round =>
    obtain ⟨n, hn, rfl, rfl⟩ := hrel
    obtain rfl | rfl | rfl | rfl : n = 0 ∨ n = 1 ∨ n = 2 ∨ n = 3 := by omega
    · go_wp2
      go_round
      case rel => exact ⟨1, by omega, rfl, rfl⟩
      case measure => decide
    · go_wp2
      go_round
      case rel => exact ⟨2, by omega, rfl, rfl⟩
      case measure => decide
    · go_wp2
      go_round
      case rel => exact ⟨3, by omega, rfl, rfl⟩
      case measure => decide
    · go_wp2_with (first | (at_make; refine wpList_make_own _ rfl _ _ 54 rfl w.heap.size 9 si _ 1 Tryz.underlying54 si1 si2 si3 .i64 .i64 3 3 rfl rfl rfl (by rw [si4]; decide) (by decide) (Nat.le_refl _) ?_; intro w1 hown hgr) | ((with_reducible refine gate_store (t := 94) (p := 11) (v := .tmp 95) rfl ?_); (refine wpList_store_row rfl _ _ _ rfl w1.heap.size ?zcs ?zx ?zy 94 ?zold ?zg ?zi ?zo ?zh ?_)))
      case zold => exact Tryz.zeroCells94
      case zy => rfl
      case zg => exact heap_new _ _
      case zi => rw [zero_tbl, Array.size_setIfInBounds, Array.size_replicate]; kernel_rfl
      case zo => rw [zero_tbl]; simp
      case zh => rw [zero_tbl]; exact all_set _ _ _ rfl
      have HT := Lib.hid (tabl_start hown hgr)
      have hB : Below w.heap.size w w1 := (Below.refl _ _).grown hgr (Nat.le_refl _) (fun k hk => by cases hk)
      have HB := Lib.hid (below_setRow (hB.alloc hgr.size (.cells Tryz.zeroCells94 94)) hgr.size (Tryz.zeroCells94.setIfInBounds 256 (.slice (some ⟨w.heap.size, 0, none⟩) 0 3)))
      clear hB
      generalize hW : ((w1.alloc (.cells Tryz.zeroCells94 94)).setRow w1.heap.size (Tryz.zeroCells94.setIfInBounds 256 (.slice (some ⟨w.heap.size, 0, none⟩) 0 3))) = W0 at HT HB ⊢
      clear hW hown hgr
      generalize hQ : w1.heap.size = Q at HT ⊢
      clear hQ
      have HT' : Hid (∃ TL, TablP 0 W0 w.heap.size Q TL) := ⟨_, HT.out⟩
      clear HT
      go_loopw [12] (fun iv wr => ∃ n : Nat, n ≤ 3 ∧ iv = .int .i64 (4 - 2 * n : Int) ∧ Aside0 (∃ TL, TablP n wr w.heap.size Q TL) ∧ Aside0 (Below w.heap.size w wr)) (fun i _ => (intOf i + 2).toNat)
      case atStart => exact ⟨0, by omega, rfl, ⟨HT'.out⟩, ⟨HB.out⟩⟩
      case round =>
        obtain ⟨n, hn, rfl, HT, HW⟩ := hrel
        obtain rfl | rfl | rfl | rfl : n = 0 ∨ n = 1 ∨ n = 2 ∨ n = 3 := by omega
        · have k4 := pw_cell_below HW.out c4
          have k5 := pw_cell_below HW.out c5
          obtain ⟨TL, hT⟩ := HT.out
          have HTT := Lib.hid hT
          obtain ⟨v, e1, e2, e3⟩ := hT.entry 10 (by omega)
          obtain rfl : v = .slice none 0 0 := e3
          obtain ⟨l1, l2⟩ := hT.list
          clear e2 l2 hT
          have hnil := fun W => run_eql_nil_slice (P := Tryz.prog) W 77 5 none 0 0 0 0 Tryz.underlying77
          have hx10 : ((⟨#[10]⟩ : ByteArray)[0]'(by decide)).toNat = 10 := rfl
          have hcv := one_byteR 10 wr
          rw [show strOfNums [10] = (⟨#[10]⟩ : ByteArray) from rfl] at hcv
          have kb := fun W => print_bytes (P := Tryz.prog) 9 77 5 Tryz.underlying9 Tryz.underlying77 Tryz.underlying5 ⟨#[92, 110]⟩ W
          go_wp2_with (first | (at_builtin; (refine Kd.R_append Kd.string (w0 := w) w.heap.size rfl (.tmp 119) (.tmp 123) 54 9 (.string ⟨#[]⟩) 16 rfl Tryz.underlying54 info_strR rfl (by decide) (by omega) TL (lst 0) ⟨#[10]⟩ [.string ⟨#[10]⟩] (fun b => b ≠ Q) (fun _ => False) rfl (by rw [show (wr.alloc (.cells #[.int .u8 10] 5)).heap.size = wr.heap.size + 1 by simp]; rfl) ?aP (fun _ hk => hk.elim) ?aF ?aO ?aB ?aS ?aL ?_); (case aP => exact rfl); (case aF => exact (fun k hk => by have := HTT.out.lt; simp at hk; omega)); (case aO => exact (HTT.out.below ((Below.refl _ _).alloc (Nat.le_refl _) _)).row); (case aB => exact HW.out.alloc HW.out.size _); (case aS => have := HW.out.size; simp; omega); (case aL => decide); intro v1 w2 ho hbb hg hat; obtain ⟨A1, k1, hv1⟩ := Kd.R_slice ho; simp only [lst] at hv1; subst hv1; (obtain ⟨⟨l3, l4⟩, l5, l6⟩ := step_facts (kb := 10) (HTT.out.below ((Below.refl _ _).alloc (Nat.le_refl _) _)) hg (by omega) rfl (.slice A1 1 k1) ⟨#[92, 110]⟩); have HO := Lib.hid ho; have HBB := Lib.hid hbb; have HGG := Lib.hid hg; clear ho hbb hg hat))
          go_roundw
          case rel =>
            refine ⟨1, by omega, rfl, ⟨_, tabl_step (HTT.out.below ((Below.refl _ _).alloc (Nat.le_refl _) _)) HO.out HGG.out (by omega) escP_1 rfl rfl rfl⟩, ⟨?_⟩⟩
            exact (bytes_below (HBB.out.setCell (p := ⟨Q, 256, none⟩) HTT.out.lo _) (by simp only [World.size_setCell]; exact HBB.out.size) _ _).setCell (p := ⟨Q, 10, none⟩) HTT.out.lo _
          case measure => decide
        · have k4 := pw_cell_below HW.out c2
          have k5 := pw_cell_below HW.out c3
          obtain ⟨TL, hT⟩ := HT.out
          have HTT := Lib.hid hT
          obtain ⟨v, e1, e2, e3⟩ := hT.entry 92 (by omega)
          obtain rfl : v = .slice none 0 0 := e3
          obtain ⟨l1, l2⟩ := hT.list
          clear e2 l2 hT
          have hnil := fun W => run_eql_nil_slice (P := Tryz.prog) W 77 5 none 0 0 0 0 Tryz.underlying77
          have hx10 : ((⟨#[92]⟩ : ByteArray)[0]'(by decide)).toNat = 92 := rfl
          have hcv := one_byteR 92 wr
          rw [show strOfNums [92] = (⟨#[92]⟩ : ByteArray) from rfl] at hcv
          have kb := fun W => print_bytes (P := Tryz.prog) 9 77 5 Tryz.underlying9 Tryz.underlying77 Tryz.underlying5 ⟨#[92, 92]⟩ W
          go_wp2_with (first | (at_builtin; (refine Kd.R_append Kd.string (w0 := w) w.heap.size rfl (.tmp 119) (.tmp 123) 54 9 (.string ⟨#[]⟩) 16 rfl Tryz.underlying54 info_strR rfl (by decide) (by omega) TL (lst 1) ⟨#[92]⟩ [.string ⟨#[92]⟩] (fun b => b ≠ Q) (fun _ => False) rfl (by rw [show (wr.alloc (.cells #[.int .u8 92] 5)).heap.size = wr.heap.size + 1 by simp]; rfl) ?aP (fun _ hk => hk.elim) ?aF ?aO ?aB ?aS ?aL ?_); (case aP => exact rfl); (case aF => exact (fun k hk => by have := HTT.out.lt; simp at hk; omega)); (case aO => exact (HTT.out.below ((Below.refl _ _).alloc (Nat.le_refl _) _)).row); (case aB => exact HW.out.alloc HW.out.size _); (case aS => have := HW.out.size; simp; omega); (case aL => decide); intro v1 w2 ho hbb hg hat; obtain ⟨A1, k1, hv1⟩ := Kd.R_slice ho; simp only [lst] at hv1; subst hv1; (obtain ⟨⟨l3, l4⟩, l5, l6⟩ := step_facts (kb := 92) (HTT.out.below ((Below.refl _ _).alloc (Nat.le_refl _) _)) hg (by omega) rfl (.slice A1 2 k1) ⟨#[92, 92]⟩); have HO := Lib.hid ho; have HBB := Lib.hid hbb; have HGG := Lib.hid hg; clear ho hbb hg hat))
          go_roundw
          case rel =>
            refine ⟨2, by omega, rfl, ⟨_, tabl_step (HTT.out.below ((Below.refl _ _).alloc (Nat.le_refl _) _)) HO.out HGG.out (by omega) escP_2 rfl rfl rfl⟩, ⟨?_⟩⟩
            exact (bytes_below (HBB.out.setCell (p := ⟨Q, 256, none⟩) HTT.out.lo _) (by simp only [World.size_setCell]; exact HBB.out.size) _ _).setCell (p := ⟨Q, 92, none⟩) HTT.out.lo _
          case measure => decide
        · have k4 := pw_cell_below HW.out c0
          have k5 := pw_cell_below HW.out c1
          obtain ⟨TL, hT⟩ := HT.out
          have HTT := Lib.hid hT
          obtain ⟨v, e1, e2, e3⟩ := hT.entry 34 (by omega)
          obtain rfl : v = .slice none 0 0 := e3
          obtain ⟨l1, l2⟩ := hT.list
          clear e2 l2 hT
          have hnil := fun W => run_eql_nil_slice (P := Tryz.prog) W 77 5 none 0 0 0 0 Tryz.underlying77
          have hx10 : ((⟨#[34]⟩ : ByteArray)[0]'(by decide)).toNat = 34 := rfl
          have hcv := one_byteR 34 wr
          rw [show strOfNums [34] = (⟨#[34]⟩ : ByteArray) from rfl] at hcv
          have kb := fun W => print_bytes (P := Tryz.prog) 9 77 5 Tryz.underlying9 Tryz.underlying77 Tryz.underlying5 ⟨#[92, 34]⟩ W
          go_wp2_with (first | (at_builtin; (refine Kd.R_append Kd.string (w0 := w) w.heap.size rfl (.tmp 119) (.tmp 123) 54 9 (.string ⟨#[]⟩) 16 rfl Tryz.underlying54 info_strR rfl (by decide) (by omega) TL (lst 2) ⟨#[34]⟩ [.string ⟨#[34]⟩] (fun b => b ≠ Q) (fun _ => False) rfl (by rw [show (wr.alloc (.cells #[.int .u8 34] 5)).heap.size = wr.heap.size + 1 by simp]; rfl) ?aP (fun _ hk => hk.elim) ?aF ?aO ?aB ?aS ?aL ?_); (case aP => exact rfl); (case aF => exact (fun k hk => by have := HTT.out.lt; simp at hk; omega)); (case aO => exact (HTT.out.below ((Below.refl _ _).alloc (Nat.le_refl _) _)).row); (case aB => exact HW.out.alloc HW.out.size _); (case aS => have := HW.out.size; simp; omega); (case aL => decide); intro v1 w2 ho hbb hg hat; obtain ⟨A1, k1, hv1⟩ := Kd.R_slice ho; simp only [lst] at hv1; subst hv1; (obtain ⟨⟨l3, l4⟩, l5, l6⟩ := step_facts (kb := 34) (HTT.out.below ((Below.refl _ _).alloc (Nat.le_refl _) _)) hg (by omega) rfl (.slice A1 3 k1) ⟨#[92, 34]⟩); have HO := Lib.hid ho; have HBB := Lib.hid hbb; have HGG := Lib.hid hg; clear ho hbb hg hat))
          go_roundw
          case rel =>
            refine ⟨3, by omega, rfl, ⟨_, tabl_step (HTT.out.below ((Below.refl _ _).alloc (Nat.le_refl _) _)) HO.out HGG.out (by omega) escP_3 rfl rfl rfl⟩, ⟨?_⟩⟩
            exact (bytes_below (HBB.out.setCell (p := ⟨Q, 256, none⟩) HTT.out.lo _) (by simp only [World.size_setCell]; exact HBB.out.size) _ _).setCell (p := ⟨Q, 34, none⟩) HTT.out.lo _
          case measure => decide
        · obtain ⟨TL, hT⟩ := HT.out
          have HTT := Lib.hid hT; clear hT
          go_wp2
          go_ret
          exact ⟨Q, TL, rfl, HTT.out, HW.out⟩

/-! ### buildOnce, Once.Do -/
theorem cell_lt {w : World} {a : Addr} {v : Value} (h : w.cell? a = some v) : a.block < w.heap.size := by
  rcases Nat.lt_or_ge a.block w.heap.size with h1 | h1
  · exact h1
  · rw [World.cell?, Array.getElem?_eq_none h1] at h
    simp at h
def OncePost (N : Nat) (w : World) (e : Ending) (w' : World) : Prop :=
  ∃ w2 Q TL, e = .returned (.tuple #[]) ∧ w' = (w2.setCell ⟨N, 3, none⟩ (.iface 95 (.pointer (some ⟨Q, 0, none⟩)))).setCell ⟨N, 4, none⟩ (.slice none 0 0) ∧ TablP 3 w2 w.heap.size Q TL ∧ Below w.heap.size w w2
set_option maxHeartbeats 2000000 in
set_option maxRecDepth 100000 in
theorem buildOnce_calls (N G : Nat) (c : Nat) (x3 : Value) (w : World) (h3 : w.cell? ⟨N, 3, none⟩ = some x3) (h4 : w.cell? ⟨N, 4, none⟩ = some (.slice (some ⟨G, 0, none⟩) 6 c)) (f3 : w.frozen? ⟨N, 3, none⟩ = false) (f4 : w.frozen? ⟨N, 4, none⟩ = false) (ho : OldsAt w G) :
    Calls Tryz.prog 39 #[.pointer (some ⟨N, 0, none⟩)] w (OncePost N w) := by
  have HO := Lib.hid ho; clear ho
  go_enter Tryz.func39, Tryz.ntmps39
  go_wp2_with fail
  refine (build_calls N G c w h4 HO.out).mono ?_
  rintro e w1 ⟨Q, TL, rfl, hT, hb⟩
  have HT := Lib.hid hT; clear hT
  have hN : N < w.heap.size := cell_lt h3
  have g3 := pw_cell_below hb h3
  have g4 := pw_cell_below hb h4
  have k3 : w1.frozen? ⟨N, 3, none⟩ = false := (World.frozen?_of_block (a := ⟨N, 3, none⟩) (hb.block N hN)).trans f3
  have k4 : w1.frozen? ⟨N, 4, none⟩ = false := (World.frozen?_of_block (a := ⟨N, 4, none⟩) (hb.block N hN)).trans f4
  have HB := Lib.hid hb; clear hb
  go_wp2
  go_end0
  exact ⟨w1, Q, TL, rfl, rfl, HT.out, HB.out⟩
end Go.Proofs.YtannlhonjkhchaaGreatDoor

/- The library's Once, once: doSlow, Do; and the replacer's Replace as far as the table. -/
namespace Go.Proofs.YtannlhonjkhchaaGreatDoor
open Go.RowKit Go.Gw Go.Proofs.YtannlhonjkhchaaGreatDoorW.PrintWords
set_option linter.unusedVariables false
set_option linter.unusedSimpArgs false

theorem TablP.far {n : Nat} {W : World} {B Q N j : Nat} {TL u : Value} (h : TablP n W B Q TL) (hN : N < B) : TablP n (W.setCell ⟨N, j, none⟩ u) B Q TL := by
  obtain ⟨cur, h1, h2, h3, h4⟩ := h.cells
  have hlo := h.lo
  refine ⟨h.lo, ⟨cur, (heap_set_ne W (show Q ≠ N by omega) j u).trans h1, h2, h3, fun k hk => ?_⟩, ?_⟩
  · obtain ⟨v, h5, h6⟩ := h4 k hk
    exact ⟨v, h5, h6.move fun g _ _ hB _ _ => heap_set_ne W (show g ≠ N by omega) j u⟩
  · exact Kd.R_mono (Kd.R_far (p := ⟨N, j, none⟩) (Kd.R_bound h.row) (fun k hk => by have := hk.2.1; show k ≠ N; omega) u) (fun k hk => hk.1)
/-- What the Once's block holds, not yet done, the lock free. -/
structure Fresh (w : World) (N G c : Nat) : Prop where
  c0 : w.cell? ⟨N, 0, none⟩ = some (.int .u32 0)
  c1 : w.cell? ⟨N, 1, none⟩ = some (.int .i32 0)
  c3 : ∃ x3, w.cell? ⟨N, 3, none⟩ = some x3
  c4 : w.cell? ⟨N, 4, none⟩ = some (.slice (some ⟨G, 0, none⟩) 6 c)
  fz : ∀ j, w.frozen? ⟨N, j, none⟩ = false
  ne : G ≠ N
def DoPost (N : Nat) (w : World) (e : Ending) (w' : World) : Prop :=
  ∃ Q TL, e = .returned (.tuple #[]) ∧ w'.cell? ⟨N, 3, none⟩ = some (.iface 95 (.pointer (some ⟨Q, 0, none⟩))) ∧ TablP 3 w' w.heap.size Q TL ∧ Below N w w'
theorem OldsAt.far {w : World} {G N j : Nat} {u : Value} (h : OldsAt w G) (hN : G ≠ N) : OldsAt (w.setCell ⟨N, j, none⟩ u) G := by
  have e : (w.setCell ⟨N, j, none⟩ u).heap[G]? = w.heap[G]? := heap_set_ne w hN j u
  have m : ∀ k, (w.setCell ⟨N, j, none⟩ u).cell? ⟨G, k, none⟩ = w.cell? ⟨G, k, none⟩ := fun k => World.cell?_of_block (a := ⟨G, k, none⟩) e
  exact ⟨(m _).trans h.h0, (m _).trans h.h1, (m _).trans h.h2, (m _).trans h.h3, (m _).trans h.h4, (m _).trans h.h5⟩

set_option maxHeartbeats 1000000 in
set_option maxRecDepth 100000 in
theorem load_zero (a : Addr) (w : World) (h : w.cell? a = some (.int .u32 0)) :
    Calls Tryz.prog 47 #[.pointer (some a)] w fun e w' => e = .returned (.bool false) ∧ w' = w := by
  have hl := run_call_load (P := Tryz.prog) Tryz.func54 (by kernel_rfl) (by kernel_rfl) (by kernel_rfl) .u32 (by kernel_rfl) h
  go_enter Tryz.func47, Tryz.ntmps47
  go_wp2
  go_ret
  exact ⟨rfl, rfl⟩
set_option maxHeartbeats 2000000 in
set_option maxRecDepth 100000 in
theorem slow_calls (N G c : Nat) (w : World) (hF : Fresh w N G c) (ho : OldsAt w G) :
    Calls Tryz.prog 48 #[.pointer (some ⟨N, 0, none⟩), .func (.func 39) #[.pointer (some ⟨N, 0, none⟩)] #[]] w (DoPost N w) := by
  obtain ⟨c0, c1, ⟨x3, c3⟩, c4, fz, ne⟩ := hF
  have hN : N < w.heap.size := cell_lt c0
  have HFZ := Lib.hid fz
  have f0 := fz 0
  have f1 := fz 1
  clear fz
  have o0 : (w.setCell ⟨N, 1, none⟩ (.int .i32 1)).cell? ⟨N, 0, none⟩ = some (.int .u32 0) := (World.cell?_setCell_other _ ⟨N, 1, none⟩ ⟨N, 0, none⟩ _ (by simp)).trans c0
  have o3 : (w.setCell ⟨N, 1, none⟩ (.int .i32 1)).cell? ⟨N, 3, none⟩ = some x3 := (World.cell?_setCell_other _ ⟨N, 1, none⟩ ⟨N, 3, none⟩ _ (by simp)).trans c3
  have o4 : (w.setCell ⟨N, 1, none⟩ (.int .i32 1)).cell? ⟨N, 4, none⟩ = _ := (World.cell?_setCell_other _ ⟨N, 1, none⟩ ⟨N, 4, none⟩ _ (by simp)).trans c4
  have hnot : ∀ (x : Bool) (w : World), (Op.unary .not (.bool x)).run Tryz.prog w = .ok (.bool (!x)) w := fun _ _ => rfl
  have HO := Lib.hid (ho.far (j := 1) (u := .int .i32 1) ne); clear ho
  go_enter_defers Tryz.func48, Tryz.ntmps48
  go_wp2_with (go_at_call 55; refine (lock_free ⟨N, 1, none⟩ _ (by go_simp) (by go_simp)).mono ?_; rintro e w' ⟨rfl, rfl⟩)
  refine (load_zero ⟨N, 0, none⟩ _ o0).mono ?_
  rintro e w1 ⟨rfl, rfl⟩
  have f3 := HFZ.out 3
  have f4 := HFZ.out 4
  go_wp2_with fail
  refine (buildOnce_calls N G c x3 _ o3 o4 (by go_simp) (by go_simp) HO.out).mono ?_
  rintro e w2' ⟨w2, Q, TL, rfl, hw, hT, hb⟩
  have hs : (w.setCell ⟨N, 1, none⟩ (.int .i32 1)).heap.size = w.heap.size := by simp [World.setCell]
  rw [hs] at hT hb
  have hq : ∀ j v, j ≠ 3 → j ≠ 4 → (w.setCell ⟨N, 1, none⟩ (.int .i32 1)).cell? ⟨N, j, none⟩ = some v → w2'.cell? ⟨N, j, none⟩ = some v := by
    intro j v h3 h4 h
    rw [hw, World.cell?_setCell_other _ _ _ _ (by simp [Ne.symm h4]), World.cell?_setCell_other _ _ _ _ (by simp [Ne.symm h3])]
    exact pw_cell_below (by rw [hs]; exact hb) h
  have d0 := hq 0 _ (by omega) (by omega) o0
  have d1 := hq 1 _ (by omega) (by omega) (World.cell?_setCell_same w ⟨N, 1, none⟩ (.int .i32 1) c1)
  have d3 : w2'.cell? ⟨N, 3, none⟩ = some (.iface 95 (.pointer (some ⟨Q, 0, none⟩))) := by
    rw [hw, World.cell?_setCell_other _ _ _ _ (by simp)]
    exact World.cell?_setCell_same w2 _ _ (pw_cell_below (by rw [hs]; exact hb) o3)
  have zf : ∀ j, w2'.frozen? ⟨N, j, none⟩ = false := by
    intro j
    rw [hw]
    simp only [World.frozen?_setCell]
    rw [World.frozen?_of_block (w := w.setCell ⟨N, 1, none⟩ (.int .i32 1)) (a := ⟨N, j, none⟩) (hb.block N hN)]
    simp only [World.frozen?_setCell]
    exact HFZ.out j
  have z0 := zf 0
  have z1 := zf 1
  have HT := Lib.hid (show TablP 3 w2' w.heap.size Q TL by rw [hw]; exact (hT.far hN).far hN)
  have HB := Lib.hid (show Below N w w2' by rw [hw]; exact ((((Below.refl N w).setCell (p := ⟨N, 1, none⟩) (Nat.le_refl _) _).trans (hb.mono (Nat.le_of_lt hN))).setCell (p := ⟨N, 3, none⟩) (Nat.le_refl _) _).setCell (p := ⟨N, 4, none⟩) (Nat.le_refl _) _)
  have HD3 := Lib.hid d3
  clear hw hT hb hq zf d3 hs
  go_wp2
  refine leaves_cons (f := 57) (args := #[.pointer (some ⟨N, 0, none⟩), .bool true]) (by simp) (by simp [go_sem]) ?_
  refine (store_deferred ⟨N, 0, none⟩ (.int .u32 0) .returning _ d0 z0).mono ?_
  rintro e u' w'' ⟨rfl, rfl, rfl⟩
  refine leaves_cons (f := 56) (args := #[.pointer (some ⟨N, 1, none⟩)]) (by simp [settle]) (by simp [go_sem]) ?_
  refine (unlock_deferred ⟨N, 1, none⟩ _ _ ?_ (by simp [z1])).mono ?_
  · refine (World.cell?_setCell_other _ ⟨N, 0, none⟩ ⟨N, 1, none⟩ _ (by simp)).trans ?_
    rw [World.cell?_drew]
    exact d1
  rintro e u' w'' ⟨rfl, rfl, rfl⟩
  simp [Leaves, settle, results, Tryz.results48]
  refine ⟨Q, TL, rfl, ?_, ?_, ?_⟩
  · rw [World.cell?_setCell_other _ _ _ _ (by simp), World.cell?_setCell_other _ _ _ _ (by simp)]
    exact HD3.out
  · exact ((HT.out.below (Below.drew (Below.refl _ _))).far hN).far hN
  · exact ((HB.out.drew).setCell (p := ⟨N, 0, none⟩) (Nat.le_refl _) _).setCell (p := ⟨N, 1, none⟩) (Nat.le_refl _) _
set_option maxHeartbeats 2000000 in
set_option maxRecDepth 100000 in
theorem do_calls (N G c : Nat) (w : World) (hF : Fresh w N G c) (ho : OldsAt w G) :
    Calls Tryz.prog 38 #[.pointer (some ⟨N, 0, none⟩), .func (.func 39) #[.pointer (some ⟨N, 0, none⟩)] #[]] w (DoPost N w) := by
  have HF := Lib.hid hF; clear hF
  have HO := Lib.hid ho; clear ho
  have hnot : ∀ (x : Bool) (w : World), (Op.unary .not (.bool x)).run Tryz.prog w = .ok (.bool (!x)) w := fun _ _ => rfl
  go_enter Tryz.func38, Tryz.ntmps38
  go_wp2_with fail
  refine (load_zero ⟨N, 0, none⟩ _ HF.out.c0).mono ?_
  rintro e w1 ⟨rfl, rfl⟩
  go_wp2_with fail
  refine (slow_calls N G c w1 HF.out HO.out).mono ?_
  rintro e w2 ⟨Q, TL, rfl, h1, h2, h3⟩
  have H1 := Lib.hid h1; have H2 := Lib.hid h2; have H3 := Lib.hid h3; clear h1 h2 h3
  go_wp2
  go_end0
  exact ⟨Q, TL, rfl, H1.out, H2.out, H3.out⟩
end Go.Proofs.YtannlhonjkhchaaGreatDoor

/- Layer 9 (lex), in plain Lean: how a text is cut into tokens. No program. -/
namespace Go.Lx

def gapc (c : UInt8) : Bool := c == 32 || c == 9 || c == 10 || c == 13
def digitc (c : UInt8) : Bool := decide (48 ≤ c.toNat) && decide (c.toNat ≤ 57)
def letterc (c : UInt8) : Bool := (decide (97 ≤ c.toNat) && decide (c.toNat ≤ 122)) || (decide (65 ≤ c.toNat) && decide (c.toNat ≤ 90)) || c == 95
def wordc (c : UInt8) : Bool := letterc c || digitc c
def signs : List UInt8 := [61, 43, 40, 41, 91, 93, 123, 125, 44, 58, 59]
/-- What digits spell. -/
def spell (n : Nat) (l : List UInt8) : Nat := l.foldl (fun a c => 10 * a + (c.toNat - 48)) n
/-- What stands behind a backslash. -/
def esc (d : UInt8) : Option UInt8 := if d = 34 then some 34 else if d = 92 then some 92 else if d = 110 then some 10 else none
/-- What a text says, behind its first quotation mark, and how many bytes it has from there on. -/
def quoted : List UInt8 → Option (List UInt8 × Nat)
  | [] => none
  | c :: r =>
    if c = 34 then some ([], 1)
    else if c.toNat < 32 ∨ c = 127 then none
    else if c = 92 then
      match r with
      | [] => none
      | d :: r' => match esc d with
        | none => none
        | some x => match quoted r' with
          | none => none
          | some (t, n) => some (x :: t, n + 2)
    else match quoted r with
      | none => none
      | some (t, n) => some (c :: t, n + 1)

inductive Piece where
  | gap (n : Nat)
  | tok (kind : Nat) (text : List UInt8) (n : Nat)
  | bad (e : Nat)
deriving DecidableEq

def number (s : List UInt8) : Piece :=
  if 1 < (s.takeWhile digitc).length ∧ s.head? = some 48 then .bad 3
  else if 9223372036854775807 < spell 0 (s.takeWhile digitc) then .bad 2
  else .tok 2 (s.takeWhile digitc) (s.takeWhile digitc).length
def notLf (c : UInt8) : Bool := c != 10
/-- What a text begins with; a gap is one byte, or a remark. -/
def piece : List UInt8 → Piece
  | [] => .bad 3
  | c :: r =>
    if gapc c then .gap 1
    else if c = 35 then .gap ((c :: r).takeWhile notLf).length
    else if letterc c then .tok 1 ((c :: r).takeWhile wordc) ((c :: r).takeWhile wordc).length
    else if digitc c then number (c :: r)
    else if c = 34 then
      match quoted r with
      | none => .bad 3
      | some (t, n) => .tok 3 t (n + 1)
    else if r.head? = some 61 ∧ (c = 61 ∨ c = 33) then .tok 4 [c, 61] 2
    else if c ∈ signs then .tok 4 [c] 1
    else .bad 3

theorem piece_cons (c : UInt8) (r : List UInt8) : piece (c :: r) =
    if gapc c then .gap 1
    else if c = 35 then .gap ((c :: r).takeWhile notLf).length
    else if letterc c then .tok 1 ((c :: r).takeWhile wordc) ((c :: r).takeWhile wordc).length
    else if digitc c then number (c :: r)
    else if c = 34 then
      match quoted r with
      | none => .bad 3
      | some (t, n) => .tok 3 t (n + 1)
    else if r.head? = some 61 ∧ (c = 61 ∨ c = 33) then .tok 4 [c, 61] 2
    else if c ∈ signs then .tok 4 [c] 1
    else .bad 3 := rfl

/-- The place behind a byte. -/
def pass1 (p : Nat × Nat) (c : UInt8) : Nat × Nat := if c = 10 then (p.1 + 1, 1) else (p.1, p.2 + 1)
def pass (p : Nat × Nat) (l : List UInt8) : Nat × Nat := l.foldl pass1 p
structure Tok where
  kind : Nat
  text : List UInt8
  place : Nat × Nat
deriving DecidableEq

/-- How many bytes a piece has. -/
def Piece.size : Piece → Nat
  | .gap n => n
  | .tok _ _ n => n
  | .bad _ => 0

theorem takeWhile_pos {p : UInt8 → Bool} {c : UInt8} {r : List UInt8} (h : p c = true) : 1 ≤ ((c :: r).takeWhile p).length := by
  rw [List.takeWhile_cons_of_pos h]; simp
theorem quoted_le : ∀ (k : Nat) (s : List UInt8), s.length ≤ k → ∀ t n, quoted s = some (t, n) → 1 ≤ n ∧ n ≤ s.length := by
  intro k
  induction k with
  | zero =>
    intro s hs t n h
    have : s = [] := List.length_eq_zero_iff.1 (by omega)
    subst this
    simp [quoted] at h
  | succ k ih =>
    intro s hs t n h
    match s with
    | [] => simp [quoted] at h
    | c :: r =>
      simp only [List.length_cons] at hs ⊢
      unfold quoted at h
      split at h
      · cases h; omega
      · split at h
        · cases h
        · split at h
          · match r with
            | [] => simp at h
            | d :: r' =>
              simp only at h
              split at h
              · cases h
              · split at h
                · cases h
                · rename_i t' n' hq
                  cases h
                  simp only [List.length_cons] at hs ⊢
                  have := ih r' (by omega) _ _ hq
                  omega
          · split at h
            · cases h
            · rename_i t' n' hq
              cases h
              have := ih r (by omega) _ _ hq
              omega
theorem piece_size (s : List UInt8) (h : s ≠ []) : (piece s).size ≤ s.length ∧ ((∃ e, piece s = .bad e) ∨ 1 ≤ (piece s).size) := by
  match s with
  | [] => exact absurd rfl h
  | c :: r =>
    rw [piece_cons]
    have hw : ∀ p : UInt8 → Bool, ((c :: r).takeWhile p).length ≤ (c :: r).length := fun p => (List.takeWhile_sublist p).length_le
    by_cases h1 : gapc c = true
    · rw [if_pos h1]; simp [Piece.size]
    · rw [if_neg h1]
      by_cases h2 : c = 35
      · rw [if_pos h2]
        exact ⟨hw _, .inr (takeWhile_pos (by subst h2; rfl))⟩
      · rw [if_neg h2]
        by_cases h3 : letterc c = true
        · rw [if_pos h3]
          exact ⟨hw _, .inr (takeWhile_pos (by simp [wordc, h3]))⟩
        · rw [if_neg h3]
          by_cases h4 : digitc c = true
          · rw [if_pos h4]
            unfold number
            split
            · exact ⟨by simp [Piece.size], .inl ⟨_, rfl⟩⟩
            · split
              · exact ⟨by simp [Piece.size], .inl ⟨_, rfl⟩⟩
              · exact ⟨hw _, .inr (takeWhile_pos h4)⟩
          · rw [if_neg h4]
            by_cases h5 : c = 34
            · rw [if_pos h5]
              split
              · exact ⟨by simp [Piece.size], .inl ⟨_, rfl⟩⟩
              · rename_i t n hq
                have := quoted_le r.length r (by omega) t n hq
                simp only [Piece.size, List.length_cons]
                exact ⟨by omega, .inr (by omega)⟩
            · rw [if_neg h5]
              by_cases h6 : r.head? = some 61 ∧ (c = 61 ∨ c = 33)
              · rw [if_pos h6]
                have : r ≠ [] := by intro e; rw [e] at h6; simp at h6
                have := List.length_pos_iff.2 this
                simp only [Piece.size, List.length_cons]
                exact ⟨by omega, .inr (by omega)⟩
              · rw [if_neg h6]
                split
                · simp [Piece.size]
                · exact ⟨by simp [Piece.size], .inl ⟨_, rfl⟩⟩

/-- The tokens of a text that begins at a place, or the error's number and its place. -/
def allF : Nat → Nat × Nat → List UInt8 → (Nat × (Nat × Nat)) ⊕ List Tok
  | 0, _, _ => .inr []
  | k + 1, p, s =>
    if s = [] then .inr []
    else match piece s with
      | .bad e => .inl (e, p)
      | .gap n => allF k (pass p (s.take n)) (s.drop n)
      | .tok kd t n => match allF k (pass p (s.take n)) (s.drop n) with
        | .inl e => .inl e
        | .inr l => .inr (⟨kd, t, p⟩ :: l)
def all (p : Nat × Nat) (s : List UInt8) : (Nat × (Nat × Nat)) ⊕ List Tok := allF s.length p s

theorem allF_more : ∀ (k : Nat) (p : Nat × Nat) (s : List UInt8), s.length ≤ k → allF (k + 1) p s = allF k p s := by
  intro k
  induction k with
  | zero =>
    intro p s h
    have : s = [] := List.length_eq_zero_iff.1 (by omega)
    subst this
    simp [allF]
  | succ k ih =>
    intro p s h
    by_cases hs : s = []
    · subst hs; simp [allF]
    · have hp := piece_size s hs
      have hlen := List.length_pos_iff.2 hs
      rw [allF, allF]
      simp only [hs, if_false]
      cases hh : piece s with
      | bad e => rfl
      | gap n =>
        rw [hh] at hp
        simp only [Piece.size] at hp
        rcases hp.2 with ⟨e, he⟩ | h1
        · cases he
        · exact ih _ _ (by rw [List.length_drop]; omega)
      | tok kd t n =>
        rw [hh] at hp
        simp only [Piece.size] at hp
        rcases hp.2 with ⟨e, he⟩ | h1
        · cases he
        · simp only
          rw [ih _ _ (by rw [List.length_drop]; omega)]
theorem allF_at (p : Nat × Nat) (s : List UInt8) : ∀ k, s.length ≤ k → allF k p s = all p s := by
  intro k
  induction k with
  | zero =>
    intro h
    have : s.length = 0 := by omega
    unfold all
    rw [this]
  | succ k ih =>
    intro h
    by_cases hk : s.length ≤ k
    · rw [allF_more k p s hk, ih hk]
    · have : k + 1 = s.length := by omega
      rw [this]
      rfl
theorem all_nil (p : Nat × Nat) : all p [] = .inr [] := rfl
theorem all_step (p : Nat × Nat) (s : List UInt8) (hs : s ≠ []) : all p s = match piece s with
      | .bad e => .inl (e, p)
      | .gap n => all (pass p (s.take n)) (s.drop n)
      | .tok kd t n => match all (pass p (s.take n)) (s.drop n) with
        | .inl e => .inl e
        | .inr l => .inr (⟨kd, t, p⟩ :: l) := by
  have hp := piece_size s hs
  have hlen := List.length_pos_iff.2 hs
  rw [← allF_at p s (s.length + 1) (by omega), allF]
  simp only [hs, if_false]
  cases hh : piece s with
  | bad e => rfl
  | gap n =>
    rw [hh] at hp
    simp only [Piece.size] at hp
    rcases hp.2 with ⟨e, he⟩ | h1
    · cases he
    · exact allF_at _ _ _ (by rw [List.length_drop]; omega)
  | tok kd t n =>
    rw [hh] at hp
    simp only [Piece.size] at hp
    rcases hp.2 with ⟨e, he⟩ | h1
    · cases he
    · simp only
      rw [allF_at _ _ _ (by rw [List.length_drop]; omega)]
theorem pass_append (p : Nat × Nat) (a b : List UInt8) : pass p (a ++ b) = pass (pass p a) b := by simp [pass]

/-- A run of gaps' bytes is passed over. -/
theorem all_gaps : ∀ (g : List UInt8) (p : Nat × Nat) (s : List UInt8), (∀ c ∈ g, gapc c = true) → all p (g ++ s) = all (pass p g) s := by
  intro g
  induction g with
  | nil => intro p s _; rfl
  | cons c g ih =>
    intro p s h
    rw [List.cons_append, all_step _ _ (by simp)]
    have hc : piece (c :: (g ++ s)) = .gap 1 := by
      rw [piece_cons, if_pos (h c (by simp))]
    rw [hc]
    simp only [List.take_succ_cons, List.take_zero, List.drop_succ_cons, List.drop_zero]
    rw [ih _ _ (fun x hx => h x (by simp [hx]))]
    rfl

/-! ### What stands behind -/
theorem takeWhile_stop (p : UInt8 → Bool) (x : UInt8) (h : p x = false) (r : List UInt8) : ∀ s : List UInt8, (s ++ x :: r).takeWhile p = s.takeWhile p := by
  intro s
  induction s with
  | nil => simp [h]
  | cons c s ih =>
    cases hc : p c with
    | true => rw [List.cons_append, List.takeWhile_cons_of_pos hc, List.takeWhile_cons_of_pos hc, ih]
    | false => rw [List.cons_append, List.takeWhile_cons_of_neg (by simp [hc]), List.takeWhile_cons_of_neg (by simp [hc])]
theorem quoted_cons (c : UInt8) (r : List UInt8) : quoted (c :: r) =
    if c = 34 then some ([], 1)
    else if c.toNat < 32 ∨ c = 127 then none
    else if c = 92 then
      match r with
      | [] => none
      | d :: r' => match esc d with
        | none => none
        | some x => match quoted r' with
          | none => none
          | some (t, n) => some (x :: t, n + 2)
    else match quoted r with
      | none => none
      | some (t, n) => some (c :: t, n + 1) := by
  cases r <;> simp [quoted]
theorem takeWhile_all (p : UInt8 → Bool) : ∀ s : List UInt8, (∀ c ∈ s, p c = true) → ∀ r, (s ++ r).takeWhile p = s ++ r.takeWhile p := by
  intro s
  induction s with
  | nil => intro _ r; rfl
  | cons c s ih =>
    intro h r
    rw [List.cons_append, List.takeWhile_cons_of_pos (h c (by simp)), ih (fun x hx => h x (by simp [hx]))]
    rfl
/-! ### A text as a token -/
/-- A text's bytes between the marks; none: it can't be. -/
def body : List UInt8 → Option (List UInt8)
  | [] => some []
  | c :: r =>
    if c = 10 then (body r).map ([92, 110] ++ ·)
    else if c.toNat < 32 ∨ c = 127 then none
    else if c = 34 ∨ c = 92 then (body r).map ([92, c] ++ ·)
    else (body r).map (c :: ·)
def quote (s : List UInt8) : List UInt8 := match body s with
  | none => []
  | some b => 34 :: (b ++ [34])
/-- May a byte stand in a text? -/
def mayc (c : UInt8) : Bool := c == 10 || (decide (32 ≤ c.toNat) && c != 127)
theorem body_some : ∀ s : List UInt8, (∀ c ∈ s, mayc c = true) ↔ ∃ b, body s = some b := by
  intro s
  induction s with
  | nil => simp [body]
  | cons c r ih =>
    unfold body
    constructor
    · intro h
      obtain ⟨b, hb⟩ := ih.1 (fun x hx => h x (by simp [hx]))
      have hc := h c (by simp)
      rw [hb]
      by_cases h1 : c = 10
      · rw [if_pos h1]; exact ⟨_, rfl⟩
      · rw [if_neg h1, if_neg (by
          unfold mayc at hc
          simp only [Bool.or_eq_true, beq_iff_eq, Bool.and_eq_true, decide_eq_true_eq, bne_iff_ne] at hc
          rcases hc with hc | hc
          · exact absurd hc h1
          · intro h
            rcases h with h | h
            · omega
            · exact hc.2 h)]
        split
        · exact ⟨_, rfl⟩
        · exact ⟨_, rfl⟩
    · rintro ⟨b, hb⟩
      have key : mayc c = true ∧ ∃ b, body r = some b := by
        split at hb
        · rename_i h1
          cases hr : body r with
          | none => rw [hr] at hb; cases hb
          | some b' => exact ⟨by simp [mayc, h1], b', rfl⟩
        · split at hb
          · cases hb
          · rename_i h1 h2
            have hm : mayc c = true := by
              unfold mayc
              simp only [Bool.or_eq_true, beq_iff_eq, Bool.and_eq_true, decide_eq_true_eq, bne_iff_ne]
              right
              exact ⟨by omega, fun h => h2 (.inr h)⟩
            refine ⟨hm, ?_⟩
            split at hb
            · cases hr : body r with
              | none => rw [hr] at hb; cases hb
              | some b' => exact ⟨b', rfl⟩
            · cases hr : body r with
              | none => rw [hr] at hb; cases hb
              | some b' => exact ⟨b', rfl⟩
      intro x hx
      rcases List.mem_cons.1 hx with rfl | hx
      · exact key.1
      · exact ih.2 key.2 x hx
/-- What is quoted is read as it was. -/
theorem quoted_body : ∀ (s b x : List UInt8), body s = some b → quoted (b ++ 34 :: x) = some (s, b.length + 1) := by
  intro s
  induction s with
  | nil => intro b x h; cases h; simp [quoted_cons]
  | cons c r ih =>
    intro b x h
    unfold body at h
    split at h
    · rename_i h1
      cases hr : body r with
      | none => rw [hr] at h; cases h
      | some b' =>
        rw [hr] at h
        cases h
        have := ih b' x hr
        show quoted (92 :: (110 :: (b' ++ 34 :: x))) = _
        rw [quoted_cons, if_neg (by decide), if_neg (by decide), if_pos rfl]
        have he : esc 110 = some 10 := by decide
        simp only [he, this]
        simp [h1]
    · split at h
      · cases h
      · rename_i h1 h2
        split at h
        · rename_i h3
          cases hr : body r with
          | none => rw [hr] at h; cases h
          | some b' =>
            rw [hr] at h
            cases h
            have := ih b' x hr
            show quoted (92 :: (c :: (b' ++ 34 :: x))) = _
            rw [quoted_cons, if_neg (by decide), if_neg (by decide), if_pos rfl]
            have he : esc c = some c := by
              unfold esc
              rcases h3 with rfl | rfl
              · rfl
              · rfl
            simp only [he, this]
            simp
        · rename_i h3
          cases hr : body r with
          | none => rw [hr] at h; cases h
          | some b' =>
            rw [hr] at h
            cases h
            have := ih b' x hr
            show quoted (c :: (b' ++ 34 :: x)) = _
            rw [quoted_cons, if_neg (fun e => h3 (.inl e)), if_neg h2, if_neg (fun e => h3 (.inr e)), this]
            simp
end Go.Lx

/- A text's bytes, some replaced: in plain Lean. No program. -/
namespace Go.Lx

def special (c : UInt8) : Prop := c = 10 ∨ c = 92 ∨ c = 34
instance (c : UInt8) : Decidable (special c) := by unfold special; infer_instance
/-- What stands for a byte. -/
def rep (c : UInt8) : List UInt8 := if c = 10 then [92, 110] else if c = 92 then [92, 92] else if c = 34 then [92, 34] else [c]
def escs (l : List UInt8) : List UInt8 := l.flatMap rep
/-- How many are replaced, of the first k of the three. -/
def cnt (k : Nat) (l : List UInt8) : Nat := (if 1 ≤ k then l.count 10 else 0) + (if 2 ≤ k then l.count 92 else 0) + (if 3 ≤ k then l.count 34 else 0)
theorem escs_append (a b : List UInt8) : escs (a ++ b) = escs a ++ escs b := by simp [escs]
theorem escs_one (c : UInt8) : escs [c] = rep c := by simp [escs]
theorem rep_plain {c : UInt8} (h : ¬ special c) : rep c = [c] := by
  unfold special at h
  unfold rep
  rw [if_neg (by intro e; exact h (.inl e)), if_neg (by intro e; exact h (.inr (.inl e))), if_neg (by intro e; exact h (.inr (.inr e)))]
theorem rep_special {c : UInt8} (h : special c) : (rep c).length = 2 := by
  rcases h with rfl | rfl | rfl <;> rfl
theorem cnt_append (k : Nat) (a b : List UInt8) : cnt k (a ++ b) = cnt k a + cnt k b := by
  simp only [cnt, List.count_append]
  split <;> split <;> split <;> omega
theorem cnt_le (k : Nat) (l : List UInt8) : cnt k l ≤ 3 * l.length := by
  have h1 := List.count_le_length (a := (10 : UInt8)) (l := l)
  have h2 := List.count_le_length (a := (92 : UInt8)) (l := l)
  have h3 := List.count_le_length (a := (34 : UInt8)) (l := l)
  unfold cnt
  split <;> split <;> split <;> omega
theorem cnt_one (c : UInt8) : cnt 3 [c] = if special c then 1 else 0 := by
  by_cases h : special c
  · rw [if_pos h]
    rcases h with rfl | rfl | rfl <;> rfl
  · rw [if_neg h]
    have h1 : c ≠ 10 := fun e => h (.inl e)
    have h2 : c ≠ 92 := fun e => h (.inr (.inl e))
    have h3 : c ≠ 34 := fun e => h (.inr (.inr e))
    simp [cnt, List.count_cons, h1, h2, h3]
theorem escs_length (l : List UInt8) : (escs l).length = l.length + cnt 3 l := by
  induction l with
  | nil => rfl
  | cons c l ih =>
    have e1 : escs (c :: l) = rep c ++ escs l := rfl
    have e2 : cnt 3 (c :: l) = cnt 3 [c] + cnt 3 l := cnt_append 3 [c] l
    rw [e1, List.length_append, ih, e2, cnt_one, List.length_cons]
    by_cases h : special c
    · rw [rep_special h, if_pos h]; omega
    · rw [rep_plain h, if_neg h]; simp; omega
theorem escs_none : ∀ (l : List UInt8), cnt 3 l = 0 → escs l = l := by
  intro l
  induction l with
  | nil => intro _; rfl
  | cons c l ih =>
    intro h
    have e1 : escs (c :: l) = rep c ++ escs l := rfl
    have e2 : cnt 3 (c :: l) = cnt 3 [c] + cnt 3 l := cnt_append 3 [c] l
    rw [e2, cnt_one] at h
    by_cases hs : special c
    · rw [if_pos hs] at h; omega
    · rw [e1, rep_plain hs, ih (by omega)]; rfl
/-- What a text's bytes become between the marks. -/
theorem body_escs : ∀ (l : List UInt8), (∀ c ∈ l, mayc c = true) → body l = some (escs l) := by
  intro l
  induction l with
  | nil => intro _; rfl
  | cons c l ih =>
    intro h
    have hc := h c (by simp)
    have e1 : escs (c :: l) = rep c ++ escs l := rfl
    rw [body, ih (fun x hx => h x (by simp [hx])), e1]
    by_cases h1 : c = 10
    · subst h1; rfl
    · rw [if_neg h1]
      have hm : 32 ≤ c.toNat ∧ c ≠ 127 := by simpa [mayc, h1] using hc
      rw [if_neg (by rintro (h2 | h2); omega; exact hm.2 h2)]
      by_cases h2 : c = 34
      · subst h2; rfl
      · by_cases h3 : c = 92
        · subst h3; rfl
        · rw [if_neg (by rintro (h4 | h4); exact h2 h4; exact h3 h4), rep_plain (by rintro (h4 | h4 | h4); exact h1 h4; exact h3 h4; exact h2 h4)]
          rfl
end Go.Lx

/- The library's replacer of single bytes by texts, at lex.Quote's three: what a call of its Replace does. -/
namespace Go.Proofs.YtannlhonjkhchaaGreatDoor
open Go.RowKit Go.Gw Go.Proofs.YtannlhonjkhchaaGreatDoorW.PrintWords
set_option linter.unusedVariables false
set_option linter.unusedSimpArgs false

def escS (s : ByteArray) : ByteArray := ⟨(Lx.escs s.data.toList).toArray⟩
theorem escS_same {s : ByteArray} (h : Lx.cnt 3 s.data.toList = 0) : s = escS s := by
  apply str_ext
  show _ = Lx.escs s.data.toList
  rw [Lx.escs_none _ h]
/-- What the walk reads of the table. -/
structure Seen (W : World) (Q g : Nat) (cap : Nat) : Prop where
  list : W.cell? ⟨Q, 256, none⟩ = some (.slice (some ⟨g, 0, none⟩) 3 cap)
  t0 : W.cell? ⟨g, 0, none⟩ = some (.string ⟨#[10]⟩)
  t1 : W.cell? ⟨g, 1, none⟩ = some (.string ⟨#[92]⟩)
  t2 : W.cell? ⟨g, 2, none⟩ = some (.string ⟨#[34]⟩)
  row : ∀ c : UInt8, (¬ Lx.special c → W.cell? ⟨Q, c.toNat, none⟩ = some (.slice none 0 0)) ∧
    (Lx.special c → ∃ b k, W.cell? ⟨Q, c.toNat, none⟩ = some (.slice (some ⟨b, 0, none⟩) 2 k) ∧ W.cell? ⟨b, 0, none⟩ = some (.int .u8 ((Lx.rep c).getD 0 0).toNat) ∧ W.cell? ⟨b, 1, none⟩ = some (.int .u8 ((Lx.rep c).getD 1 0).toNat))
theorem seen_of_tabl {W : World} {B Q : Nat} {TL : Value} (h : TablP 3 W B Q TL) : ∃ g cap, Seen W Q g cap := by
  obtain ⟨g, cap, rfl, _, _, _⟩ := Kd.R_form h.row (by decide)
  obtain ⟨_, _, hC⟩ := Kd.R_reads' h.row
  have at_ : ∀ k, k < 3 → W.cell? ⟨g, k, none⟩ = some (.string ((lst 3).getD k ByteArray.empty)) := by
    intro k hk
    obtain ⟨ad, e, hc⟩ := Kd.at_string hC k (by omega) (by simp only [lst]; simp; omega)
    cases e
    have : (⟨g, 0, none⟩ : Addr).add k = ⟨g, k, none⟩ := by simp [Addr.add]; exact fun h => h.symm
    rw [show ((k : Nat) : Int).toNat = k by omega, this] at hc
    exact hc
  refine ⟨g, cap, h.list.1, at_ 0 (by omega), at_ 1 (by omega), at_ 2 (by omega), fun c => ⟨fun hc => ?_, fun hc => ?_⟩⟩
  · obtain ⟨v, h1, _, h3⟩ := h.entry c.toNat c.toNat_lt
    have h10 : c.toNat ≠ 10 := fun e => hc (.inl (UInt8.toNat_inj.1 e))
    have h92 : c.toNat ≠ 92 := fun e => hc (.inr (.inl (UInt8.toNat_inj.1 e)))
    have h34 : c.toNat ≠ 34 := fun e => hc (.inr (.inr (UInt8.toNat_inj.1 e)))
    rw [show escP 3 c.toNat = none by simp [escP, h10, h92, h34]] at h3
    rw [h1]
    exact congrArg some h3
  · obtain ⟨v, h1, _, h3⟩ := h.entry c.toNat c.toNat_lt
    rcases hc with rfl | rfl | rfl
    all_goals
      obtain ⟨b, k, rfl, _, _, _, h4, h5⟩ := h3
      exact ⟨b, k, h1, h4, h5⟩
theorem Seen.below {W W' : World} {Q g cap : Nat} (h : Seen W Q g cap) (hb : Below W.heap.size W W') : Seen W' Q g cap :=
  ⟨pw_cell_below hb h.list, pw_cell_below hb h.t0, pw_cell_below hb h.t1, pw_cell_below hb h.t2, fun c => ⟨fun hc => pw_cell_below hb ((h.row c).1 hc), fun hc => by
    obtain ⟨b, k, h1, h2, h3⟩ := (h.row c).2 hc
    exact ⟨b, k, pw_cell_below hb h1, pw_cell_below hb h2, pw_cell_below hb h3⟩⟩⟩

theorem info_u8R : (Tryz.prog.info? 5).map (fun i => (i.zero, i.size, i.bytes)) = some (some (.int .u8 0), 1, 1) := by kernel_rfl
/-- The row that a make has made. -/
theorem made_row {w : World} {base B n : Nat} {e : TypeId} (h : w.ownsRow base e 1 (.slice (some ⟨B, 0, none⟩) n n) n (madeCells (Value.int .u8 0).cells (n * 1)).toList) :
    w.heap[B]? = some (.cells (List.replicate n (Value.int .u8 0)).toArray e (0, 0)) := by
  obtain ⟨_, h | ⟨g, cap, cur, hv, _, hh, _, _, hz, ht⟩⟩ := h
  · cases h.1
  · cases hv
    rw [hh]
    have e1 : cur.toList = List.replicate n (Value.int .u8 0) := by
      rw [← List.take_of_length_le (l := cur.toList) (i := n * 1) (by rw [Array.length_toList]; omega), ht]
      simp [madeCells, Value.cells, Nat.mod_one, List.map_const']
    rw [← e1]
/-- The buffer, so far. -/
def bufc (n : Nat) (l : List UInt8) : List Value := Lib.byteCells l ++ List.replicate (n - l.length) (.int .u8 0)
theorem bufc_len {n : Nat} {l : List UInt8} (h : l.length ≤ n) : (bufc n l).length = n := by
  simp only [bufc, List.length_append, Lib.byteCells_length, List.length_replicate]; omega
theorem bufc_get {n : Nat} {l : List UInt8} (h : l.length < n) : (bufc n l).toArray[l.length]? = some (Value.int .u8 0) := by
  rw [List.getElem?_toArray]
  simp only [bufc, Lib.byteCells]
  rw [List.getElem?_append_right (by simp)]
  simp only [List.length_map, Nat.sub_self]
  rw [List.getElem?_replicate, if_pos (by omega)]
theorem bufc_set {n : Nat} {l : List UInt8} (c : UInt8) (h : l.length < n) : (bufc n l).toArray.setIfInBounds l.length (.int .u8 c.toNat) = (bufc n (l ++ [c])).toArray := by
  rw [List.setIfInBounds_toArray]
  congr 1
  apply List.ext_getElem?
  intro i
  simp only [bufc, Lib.byteCells]
  obtain ⟨r, hr⟩ : ∃ r, n - l.length = r + 1 := ⟨n - l.length - 1, by omega⟩
  rw [hr, List.replicate_succ, List.set_append_right _ _ (by simp), List.length_map, Nat.sub_self, List.set_cons_zero, List.map_append, List.append_assoc, List.length_append]
  simp only [List.map_cons, List.map_nil, List.cons_append, List.nil_append, List.length_cons, List.length_nil]
  rw [show n - (l.length + (0 + 1)) = r by omega]
theorem bufc_splice {n : Nat} {l : List UInt8} (a b : UInt8) (h : l.length + 2 ≤ n) : splice (bufc n l) l.length [.int .u8 a.toNat, .int .u8 b.toNat] = bufc n (l ++ [a, b]) := by
  simp only [splice, bufc, Lib.byteCells]
  obtain ⟨r, hr⟩ : ∃ r, n - l.length = r + 2 := ⟨n - l.length - 2, by omega⟩
  rw [hr, List.take_append_of_le_length (by simp), List.take_of_length_le (by simp), List.drop_append, List.drop_eq_nil_of_le (by simp), List.map_append, List.append_assoc, List.length_append]
  simp only [List.length_map, List.length_cons, List.length_nil, List.map_cons, List.map_nil, List.cons_append, List.nil_append]
  rw [show n - (l.length + (0 + 1 + 1)) = r by omega, show l.length + (0 + 1 + 1) - l.length = 2 by omega]
  rfl
theorem escS_nums (s : ByteArray) : strOfNums ((Lx.escs s.data.toList).map fun c => (c.toNat : Int)) = escS s := by
  show (⟨_⟩ : ByteArray) = ⟨_⟩
  simp [List.map_map, Function.comp_def]
theorem buf_string {w : World} {B n3 : Nat} {s : ByteArray} (h : w.heap[B]? = some (.cells (bufc n3 (Lx.escs s.data.toList)).toArray 5 (0, 0))) (hn : n3 = (Lx.escs s.data.toList).length) :
    (convert 77 9 (.slice (some ⟨B, 0, none⟩) n3 n3)).run Tryz.prog w = .ok (.string (escS s)) w := by
  have hb : bufc n3 (Lx.escs s.data.toList) = Lib.byteCells (Lx.escs s.data.toList) := by
    rw [bufc, hn, Nat.sub_self]; simp
  rw [hb] at h
  have := run_convert_bytes_arg (P := Tryz.prog) w 77 5 Tryz.underlying77 Tryz.underlying5 B 0 n3 n3 ((Lx.escs s.data.toList).map fun c => (c.toNat : Int)) (by simp [hn]) (fun i hi => by
    rw [Nat.zero_add]
    have h2 : (Lib.byteCells (Lx.escs s.data.toList)).toArray[i]? = some (.int .u8 (((Lx.escs s.data.toList).map fun c => (c.toNat : Int)).getD i 0)) := by
      rw [List.getElem?_toArray, Lib.byteCells, List.getElem?_map, List.getElem?_eq_getElem (by omega), List.getD_eq_getElem?_getD, List.getElem?_map, List.getElem?_eq_getElem (by omega)]
      rfl
    simp only [World.cell?, h]
    simpa using h2) 9 Tryz.underlying9
  rw [this, escS_nums]
set_option maxHeartbeats 2000000 in
set_option maxRecDepth 100000 in
theorem bsr_calls (Q g cap : Nat) (s : ByteArray) (hs : s.size ≤ 1000000) (w : World) (hS : Seen w Q g cap) :
    Calls Tryz.prog 139 #[.pointer (some ⟨Q, 0, none⟩), .string s] w fun e w' => e = .returned (.string (escS s)) ∧ Below w.heap.size w w' := by
  have HS := Lib.hid hS
  have hl := hS.list
  obtain ⟨bi, bi1, bi2, bi3, bi4⟩ := info_parts info_u8R
  clear hS
  by_cases h24 : 24 ≤ s.size
  · have hd : decide ((24 : Int) ≤ (s.size : Int)) = true := by simp; omega
    clear h24
    go_enter Tryz.func139, Tryz.ntmps139
    go_wp2
    go_loopw [5, 6, 32] (fun nv av iv wr => ∃ k : Nat, k ≤ 3 ∧ iv = .int .i64 k ∧ nv = .int .i64 (s.size + Lx.cnt k s.data.toList : Nat) ∧ av = .bool (decide (0 < Lx.cnt k s.data.toList)) ∧ Aside0 (Below w.heap.size w wr)) (fun _ _ i _ => 3 - (intOf i).toNat)
    case atStart => exact ⟨0, by omega, rfl, by simp [Lx.cnt], by simp [Lx.cnt], ⟨Below.refl _ _⟩⟩
    case round =>
      obtain ⟨k, hk, rfl, rfl, rfl, HW⟩ := hrel
      obtain rfl | rfl | rfl | rfl : k = 0 ∨ k = 1 ∨ k = 2 ∨ k = 3 := by omega
      · have u1 := (HS.out.below HW.out).t0
        have u2 := ((HS.out.below HW.out).row 10).2 (by decide)
        obtain ⟨b, kk, u3, -, -⟩ := u2
        have u4 : wr.cell? ⟨Q, 10, none⟩ = some (.slice (some ⟨b, 0, none⟩) 2 kk) := u3
        clear u3
        have u5 := (HS.out.below HW.out).list
        have hx : ((⟨#[10]⟩ : ByteArray)[0]'(by decide)).toNat = 10 := rfl
        have hm2 := Lx.cnt_le 0 s.data.toList
        rw [data_length] at hm2
        obtain ⟨m, hm⟩ : ∃ m, m = Lx.cnt 0 s.data.toList := ⟨_, rfl⟩
        have hn2 : Lib.countByte s.data.toList 10 ≤ s.size := by rw [← data_length]; exact List.count_le_length
        obtain ⟨n, hn⟩ : ∃ n, n = Lib.countByte s.data.toList 10 := ⟨_, rfl⟩
        rw [← hm] at hm2 ⊢
        have hmn : Lx.cnt 1 s.data.toList = m + n := by rw [hm, hn]; simp [Lx.cnt, Lib.countByte]
        have HMN := Lib.hid hmn; clear hmn
        have HN := Lib.hid hn
        rw [← hn] at hn2
        clear hm hn
        go_wp2_with fail
        refine (Tryz.strings_Count_one s 10 _).mono ?_
        rintro e w1 ⟨rfl, rfl⟩
        rw [← HN.out]
        by_cases hz : n = 0
        · subst hz
          go_wp2
          go_roundw
          case rel => exact ⟨1, by omega, rfl, by rw [HMN.out]; go_num, by rw [HMN.out]; simp, ⟨HW.out⟩⟩
          case measure => decide
        · have hz1 : ((n : Int) != 0) = true := by simp [hz]
          have hz2 : ((n : Int) == 0) = false := by simp [hz]
          go_wp2
          go_quiet (fail)
          go_wp2
          go_roundw
          case rel => exact ⟨1, by omega, rfl, by rw [HMN.out]; go_num, by rw [HMN.out]; simp; omega, ⟨below_drewN' HW.out _⟩⟩
          case measure => decide
      · have u1 := (HS.out.below HW.out).t1
        have u2 := ((HS.out.below HW.out).row 92).2 (by decide)
        obtain ⟨b, kk, u3, -, -⟩ := u2
        have u4 : wr.cell? ⟨Q, 92, none⟩ = some (.slice (some ⟨b, 0, none⟩) 2 kk) := u3
        clear u3
        have u5 := (HS.out.below HW.out).list
        have hx : ((⟨#[92]⟩ : ByteArray)[0]'(by decide)).toNat = 92 := rfl
        have hm2 := Lx.cnt_le 1 s.data.toList
        rw [data_length] at hm2
        obtain ⟨m, hm⟩ : ∃ m, m = Lx.cnt 1 s.data.toList := ⟨_, rfl⟩
        have hn2 : Lib.countByte s.data.toList 92 ≤ s.size := by rw [← data_length]; exact List.count_le_length
        obtain ⟨n, hn⟩ : ∃ n, n = Lib.countByte s.data.toList 92 := ⟨_, rfl⟩
        rw [← hm] at hm2 ⊢
        have hmn : Lx.cnt 2 s.data.toList = m + n := by rw [hm, hn]; simp [Lx.cnt, Lib.countByte]
        have HMN := Lib.hid hmn; clear hmn
        have HN := Lib.hid hn
        rw [← hn] at hn2
        clear hm hn
        go_wp2_with fail
        refine (Tryz.strings_Count_one s 92 _).mono ?_
        rintro e w1 ⟨rfl, rfl⟩
        rw [← HN.out]
        by_cases hz : n = 0
        · subst hz
          go_wp2
          go_roundw
          case rel => exact ⟨2, by omega, rfl, by rw [HMN.out]; go_num, by rw [HMN.out]; simp, ⟨HW.out⟩⟩
          case measure => decide
        · have hz1 : ((n : Int) != 0) = true := by simp [hz]
          have hz2 : ((n : Int) == 0) = false := by simp [hz]
          go_wp2
          go_quiet (fail)
          go_wp2
          go_roundw
          case rel => exact ⟨2, by omega, rfl, by rw [HMN.out]; go_num, by rw [HMN.out]; simp; omega, ⟨below_drewN' HW.out _⟩⟩
          case measure => decide
      · have u1 := (HS.out.below HW.out).t2
        have u2 := ((HS.out.below HW.out).row 34).2 (by decide)
        obtain ⟨b, kk, u3, -, -⟩ := u2
        have u4 : wr.cell? ⟨Q, 34, none⟩ = some (.slice (some ⟨b, 0, none⟩) 2 kk) := u3
        clear u3
        have u5 := (HS.out.below HW.out).list
        have hx : ((⟨#[34]⟩ : ByteArray)[0]'(by decide)).toNat = 34 := rfl
        have hm2 := Lx.cnt_le 2 s.data.toList
        rw [data_length] at hm2
        obtain ⟨m, hm⟩ : ∃ m, m = Lx.cnt 2 s.data.toList := ⟨_, rfl⟩
        have hn2 : Lib.countByte s.data.toList 34 ≤ s.size := by rw [← data_length]; exact List.count_le_length
        obtain ⟨n, hn⟩ : ∃ n, n = Lib.countByte s.data.toList 34 := ⟨_, rfl⟩
        rw [← hm] at hm2 ⊢
        have hmn : Lx.cnt 3 s.data.toList = m + n := by rw [hm, hn]; simp [Lx.cnt, Lib.countByte]
        have HMN := Lib.hid hmn; clear hmn
        have HN := Lib.hid hn
        rw [← hn] at hn2
        clear hm hn
        go_wp2_with fail
        refine (Tryz.strings_Count_one s 34 _).mono ?_
        rintro e w1 ⟨rfl, rfl⟩
        rw [← HN.out]
        by_cases hz : n = 0
        · subst hz
          go_wp2
          go_roundw
          case rel => exact ⟨3, by omega, rfl, by rw [HMN.out]; go_num, by rw [HMN.out]; simp, ⟨HW.out⟩⟩
          case measure => decide
        · have hz1 : ((n : Int) != 0) = true := by simp [hz]
          have hz2 : ((n : Int) == 0) = false := by simp [hz]
          go_wp2
          go_quiet (fail)
          go_wp2
          go_roundw
          case rel => exact ⟨3, by omega, rfl, by rw [HMN.out]; go_num, by rw [HMN.out]; simp; omega, ⟨below_drewN' HW.out _⟩⟩
          case measure => decide
      · obtain ⟨m, hm⟩ : ∃ m, m = Lx.cnt 3 s.data.toList := ⟨_, rfl⟩
        have hm2 := Lx.cnt_le 3 s.data.toList
        rw [data_length] at hm2
        rw [← hm] at hm2 ⊢
        have HM := Lib.hid hm; clear hm
        by_cases hz : m = 0
        · have hd1 : decide (0 < m) = false := by simp [hz]
          have HZ := Lib.hid hz; clear hz
          go_wp2
          go_ret
          exact ⟨ret_str (escS_same (by rw [← HM.out]; exact HZ.out)), HW.out⟩
        · have hd1 : decide (0 < m) = true := by simp; omega
          obtain ⟨n3, hn3⟩ : ∃ n3, n3 = s.size + m := ⟨_, rfl⟩
          rw [← hn3]
          have hn4 : n3 ≤ 4000000 := by omega
          have HL : Hid (n3 = (Lx.escs s.data.toList).length) := by
            unfold Hid
            rw [Lx.escs_length, hn3, HM.out, data_length]
          clear hn3 hz hm2
          rename World => wm
          go_wp2_with (at_make; refine wpList_make_full _ rfl _ _ 77 rfl w.heap.size 5 bi _ 1 Tryz.underlying77 bi1 bi2 bi3 .i64 .i64 n3 n3 n3 rfl rfl rfl rfl (by rw [bi4]; omega) (by unfold maxLen; omega) HW.out.size ?_; intro w1 hown hgr)
          have hrow := made_row hown
          have HB1 := Lib.hid (HW.out.grown hgr HW.out.size (fun k hk => by cases hk))
          have hBlo : w.heap.size ≤ wm.heap.size := HW.out.size
          obtain ⟨B, hB⟩ : ∃ B, B = wm.heap.size := ⟨_, rfl⟩
          rw [← hB] at hrow hBlo ⊢
          have HR1 := Lib.hid hrow
          clear hrow hown hgr hB HW
          go_loopw [13, 14] (fun jv iv wr => ∃ k j : Nat, k ≤ s.size ∧ iv = .int .i64 k ∧ jv = .int .i64 j ∧ Aside0 (j = (Lx.escs (s.data.toList.take k)).length) ∧ Aside0 (wr.heap[B]? = some (.cells (bufc n3 (Lx.escs (s.data.toList.take k))).toArray 5 (0, 0))) ∧ Aside0 (Below w.heap.size w wr)) (fun _ i _ => s.size - (intOf i).toNat)
          case atStart => exact ⟨0, 0, Nat.zero_le _, rfl, rfl, ⟨rfl⟩, ⟨by simpa [bufc, Lx.escs, Lib.byteCells] using HR1.out⟩, ⟨HB1.out⟩⟩
          case round =>
            obtain ⟨k, j, hk, rfl, rfl, HJ, HR, HV⟩ := hrel
            by_cases hlt : k < s.size
            · obtain ⟨hc1, hc2⟩ := byteTake s k hlt
              have hrw := (HS.out.below HV.out).row (s[k]'hlt)
              have h256 : ((s[k]'hlt).toNat : Int) < 256 := by have := (s[k]'hlt).toNat_lt; omega
              have hne := fun W a n c => run_neq_slice_nil_any (P := Tryz.prog) W 77 5 a n c 0 0 Tryz.underlying77
              have hes : Lx.escs (s.data.toList.take (k + 1)) = Lx.escs (s.data.toList.take k) ++ Lx.rep (s[k]'hlt) := by rw [hc2, Lx.escs_append, Lx.escs_one]
              have hfit : (Lx.escs (s.data.toList.take (k + 1))).length ≤ n3 := by
                rw [HL.out, ← List.take_append_drop (k + 1) s.data.toList, Lx.escs_append, List.length_append, List.take_append_drop]
                omega
              rw [hes, List.length_append, ← HJ.out] at hfit
              have HES := Lib.hid hes; clear hes hc1 hc2
              by_cases hsp : Lx.special (s[k]'hlt)
              · obtain ⟨b, kk, e1, e2, e3⟩ := hrw.2 hsp
                clear hrw
                rw [Lx.rep_special hsp] at hfit
                have HE2 := Lib.hid e2; have HE3 := Lib.hid e3; clear e2 e3
                have HSP := Lib.hid hsp; clear hsp
                have hj1 : (0 : Int) ≤ (j : Int) ∧ (j : Int) ≤ (n3 : Int) := by omega
                have hj2 : j ≤ n3 := by omega
                have hj3 : ¬ (n3 = j) := by omega
                have hlen : (Lx.escs (s.data.toList.take k)).length ≤ n3 := by rw [← HJ.out]; omega
                have q1 : [Value.int .u8 ((Lx.rep (s[k]'hlt)).getD 0 0).toNat, Value.int .u8 ((Lx.rep (s[k]'hlt)).getD 1 0).toNat].length = Nat.min 2 (n3 - j) := by
                  show 2 = min 2 (n3 - j)
                  omega
                have q2 : ∀ (i : Nat) (v : Value), [Value.int .u8 ((Lx.rep (s[k]'hlt)).getD 0 0).toNat, Value.int .u8 ((Lx.rep (s[k]'hlt)).getD 1 0).toNat][i]? = some v → wr.cell? ((⟨b, 0, none⟩ : Addr).add i) = some v := by
                  intro i v hv
                  match i, hv with
                  | 0, hv => cases hv; simpa [Addr.add] using HE2.out
                  | 1, hv => cases hv; simpa [Addr.add] using HE3.out
                  | i + 2, hv => simp at hv
                have q3 : j + [Value.int .u8 ((Lx.rep (s[k]'hlt)).getD 0 0).toNat, Value.int .u8 ((Lx.rep (s[k]'hlt)).getD 1 0).toNat].length ≤ (bufc n3 (Lx.escs (s.data.toList.take k))).length := by
                  rw [bufc_len hlen]
                  show j + 2 ≤ n3
                  omega
                have q4 : ∀ v ∈ [Value.int .u8 ((Lx.rep (s[k]'hlt)).getD 0 0).toNat, Value.int .u8 ((Lx.rep (s[k]'hlt)).getD 1 0).toNat], v.oneCell' = true := by
                  intro v hv
                  rcases List.mem_cons.1 hv with rfl | hv
                  · rfl
                  · rcases List.mem_cons.1 hv with rfl | hv
                    · rfl
                    · cases hv
                have Q1 := Lib.hid q1; have Q2 := Lib.hid q2; have Q3 := Lib.hid q3; have Q4 := Lib.hid q4; clear q1 q2 q3 q4
                go_wp2
                go_region_law (refine step_copy_splice rfl (.tmp 105) (.tmp 111) 77 77 rfl 5 Tryz.underlying77 (by kernel_rfl) (some ⟨B, j, none⟩) (some ⟨b, 0, none⟩) (n3 - j) (n3 - j) 2 kk (by simp [Act.eval, Act.put]) (by simp [Act.eval, Act.put]) B j (bufc n3 (Lx.escs (s.data.toList.take k))) 5 HR.out [.int .u8 ((Lx.rep (s[k]'hlt)).getD 0 0).toNat, .int .u8 ((Lx.rep (s[k]'hlt)).getD 1 0).toNat] Q1.out (fun _ => ⟨rfl, _, rfl, Q2.out⟩) Q3.out Q4.out w.heap.size w HV.out.drew hBlo ?_; intro w4 hg4 hb4)
                have HB4 := Lib.hid hb4; clear hb4
                go_wp2
                go_roundw
                case rel =>
                  refine ⟨k + 1, j + 2, by omega, by go_num, by go_num, ⟨?_⟩, ⟨?_⟩, ⟨HB4.out⟩⟩
                  · rw [HES.out, List.length_append, ← HJ.out, Lx.rep_special HSP.out]
                  · have h7 := hg4.out
                    have h8 : Lx.rep (s[k]'hlt) = [(Lx.rep (s[k]'hlt)).getD 0 0, (Lx.rep (s[k]'hlt)).getD 1 0] := by
                      rcases HSP.out with h | h | h <;> rw [h] <;> rfl
                    have h9 := bufc_splice (n := n3) (l := Lx.escs (s.data.toList.take k)) ((Lx.rep (s[k]'hlt)).getD 0 0) ((Lx.rep (s[k]'hlt)).getD 1 0) (by rw [← HJ.out]; omega)
                    rw [← HJ.out] at h9
                    rw [h9, ← h8, ← HES.out] at h7
                    exact h7
                case measure => simp [intOf]; omega
              · have e1 := hrw.1 hsp
                clear hrw
                rw [Lx.rep_plain hsp] at hfit
                have hfit1 : j < n3 := by have h5 : ([s[k]'hlt] : List UInt8).length = 1 := rfl; omega
                have h1 : wr.cell? ⟨B, j, none⟩ = some (.int .u8 0) := by
                  have h3 := HR.out
                  have h4 := bufc_get (n := n3) (l := Lx.escs (s.data.toList.take k)) (by rw [← HJ.out]; exact hfit1)
                  rw [← HJ.out] at h4
                  simp only [World.cell?, h3]
                  simpa using h4
                have h2 : wr.frozen? ⟨B, j, none⟩ = false := by
                  have := HR.out
                  simp [World.frozen?, this]
                clear hfit
                have HSP := Lib.hid hsp; clear hsp
                go_wp2
                go_roundw
                case rel =>
                  refine ⟨k + 1, j + 1, by omega, by go_num, by go_num, ⟨?_⟩, ⟨?_⟩, ⟨HV.out.setCell (p := ⟨B, j, none⟩) hBlo _⟩⟩
                  · rw [HES.out, List.length_append, ← HJ.out, Lx.rep_plain HSP.out]; rfl
                  · have h6 := heap_set HR.out j (.int .u8 ((s[k]'hlt).toNat : Nat))
                    rw [HES.out, Lx.rep_plain HSP.out, ← bufc_set (n := n3) (l := Lx.escs (s.data.toList.take k)) (s[k]'hlt) (by rw [← HJ.out]; exact hfit1), ← HJ.out]
                    exact h6
                case measure => simp [intOf]; omega
            · obtain rfl : k = s.size := by omega
              have hr := HR.out
              have hj := HJ.out
              rw [← data_length, List.take_length] at hr hj
              have hjn : j = n3 := by rw [hj, HL.out]
              have hcv := buf_string hr HL.out
              have HCV := Lib.hid hj; clear hj hr hjn
              go_wp2
              go_ret
              exact ⟨rfl, HV.out⟩
  · have hd : decide ((24 : Int) ≤ (s.size : Int)) = false := by simp; omega
    clear h24
    go_enter Tryz.func139, Tryz.ntmps139
    go_wp2
    go_loopw [5, 6, 10] (fun nv av iv wr => ∃ k : Nat, k ≤ s.size ∧ iv = .int .i64 k ∧ nv = .int .i64 (s.size + Lx.cnt 3 (s.data.toList.take k) : Nat) ∧ av = .bool (decide (0 < Lx.cnt 3 (s.data.toList.take k))) ∧ Aside0 (Below w.heap.size w wr)) (fun _ _ i _ => s.size - (intOf i).toNat)
    case atStart => exact ⟨0, by omega, rfl, by simp [Lx.cnt], by simp [Lx.cnt], ⟨Below.refl _ _⟩⟩
    case round =>
      obtain ⟨k, hk, rfl, rfl, rfl, HW⟩ := hrel
      by_cases hlt : k < s.size
      · obtain ⟨hc1, hc2⟩ := byteTake s k hlt
        have hrw := (HS.out.below HW.out).row (s[k]'hlt)
        have h256 : ((s[k]'hlt).toNat : Int) < 256 := by have := (s[k]'hlt).toNat_lt; omega
        have hne := fun W a n c => run_neq_slice_nil_any (P := Tryz.prog) W 77 5 a n c 0 0 Tryz.underlying77
        have hm2 := Lx.cnt_le 3 (s.data.toList.take k)
        have hm3 : (s.data.toList.take k).length ≤ s.size := by rw [List.length_take]; omega
        obtain ⟨m, hm⟩ : ∃ m, m = Lx.cnt 3 (s.data.toList.take k) := ⟨_, rfl⟩
        have hmn : Lx.cnt 3 (s.data.toList.take (k + 1)) = m + (if Lx.special (s[k]'hlt) then 1 else 0) := by rw [hm, hc2, Lx.cnt_append, Lx.cnt_one]
        rw [← hm] at hm2 ⊢
        have HMN := Lib.hid hmn; clear hmn hm hc1 hc2
        have hm4 : m ≤ 3000000 := by omega
        clear hm2 hm3
        by_cases hsp : Lx.special (s[k]'hlt)
        · obtain ⟨b, kk, e1, -, -⟩ := hrw.2 hsp
          clear hrw
          have HSP := Lib.hid hsp; clear hsp
          go_wp2
          go_roundw
          case rel => exact ⟨k + 1, by omega, by go_num, by rw [HMN.out, if_pos HSP.out]; go_num, by rw [HMN.out, if_pos HSP.out]; simp, ⟨HW.out⟩⟩
          case measure => simp [intOf]; omega
        · have e1 := hrw.1 hsp
          clear hrw
          have HSP := Lib.hid hsp; clear hsp
          go_wp2
          go_roundw
          case rel => exact ⟨k + 1, by omega, by go_num, by rw [HMN.out, if_neg HSP.out]; go_num, by rw [HMN.out, if_neg HSP.out]; simp, ⟨HW.out⟩⟩
          case measure => simp [intOf]; omega
      · obtain rfl : k = s.size := by omega
        rw [show s.data.toList.take s.size = s.data.toList by rw [← data_length, List.take_length]]
        obtain ⟨m, hm⟩ : ∃ m, m = Lx.cnt 3 s.data.toList := ⟨_, rfl⟩
        have hm2 := Lx.cnt_le 3 s.data.toList
        rw [data_length] at hm2
        rw [← hm] at hm2 ⊢
        have HM := Lib.hid hm; clear hm
        by_cases hz : m = 0
        · have hd1 : decide (0 < m) = false := by simp [hz]
          have HZ := Lib.hid hz; clear hz
          go_wp2
          go_ret
          exact ⟨ret_str (escS_same (by rw [← HM.out]; exact HZ.out)), HW.out⟩
        · have hd1 : decide (0 < m) = true := by simp; omega
          obtain ⟨n3, hn3⟩ : ∃ n3, n3 = s.size + m := ⟨_, rfl⟩
          rw [← hn3]
          have hn4 : n3 ≤ 4000000 := by omega
          have HL : Hid (n3 = (Lx.escs s.data.toList).length) := by
            unfold Hid
            rw [Lx.escs_length, hn3, HM.out, data_length]
          clear hn3 hz hm2
          rename World => wm
          go_wp2_with (at_make; refine wpList_make_full _ rfl _ _ 77 rfl w.heap.size 5 bi _ 1 Tryz.underlying77 bi1 bi2 bi3 .i64 .i64 n3 n3 n3 rfl rfl rfl rfl (by rw [bi4]; omega) (by unfold maxLen; omega) HW.out.size ?_; intro w1 hown hgr)
          have hrow := made_row hown
          have HB1 := Lib.hid (HW.out.grown hgr HW.out.size (fun k hk => by cases hk))
          have hBlo : w.heap.size ≤ wm.heap.size := HW.out.size
          obtain ⟨B, hB⟩ : ∃ B, B = wm.heap.size := ⟨_, rfl⟩
          rw [← hB] at hrow hBlo ⊢
          have HR1 := Lib.hid hrow
          clear hrow hown hgr hB HW
          go_loopw [13, 14] (fun jv iv wr => ∃ k j : Nat, k ≤ s.size ∧ iv = .int .i64 k ∧ jv = .int .i64 j ∧ Aside0 (j = (Lx.escs (s.data.toList.take k)).length) ∧ Aside0 (wr.heap[B]? = some (.cells (bufc n3 (Lx.escs (s.data.toList.take k))).toArray 5 (0, 0))) ∧ Aside0 (Below w.heap.size w wr)) (fun _ i _ => s.size - (intOf i).toNat)
          case atStart => exact ⟨0, 0, Nat.zero_le _, rfl, rfl, ⟨rfl⟩, ⟨by simpa [bufc, Lx.escs, Lib.byteCells] using HR1.out⟩, ⟨HB1.out⟩⟩
          case round =>
            obtain ⟨k, j, hk, rfl, rfl, HJ, HR, HV⟩ := hrel
            by_cases hlt : k < s.size
            · obtain ⟨hc1, hc2⟩ := byteTake s k hlt
              have hrw := (HS.out.below HV.out).row (s[k]'hlt)
              have h256 : ((s[k]'hlt).toNat : Int) < 256 := by have := (s[k]'hlt).toNat_lt; omega
              have hne := fun W a n c => run_neq_slice_nil_any (P := Tryz.prog) W 77 5 a n c 0 0 Tryz.underlying77
              have hes : Lx.escs (s.data.toList.take (k + 1)) = Lx.escs (s.data.toList.take k) ++ Lx.rep (s[k]'hlt) := by rw [hc2, Lx.escs_append, Lx.escs_one]
              have hfit : (Lx.escs (s.data.toList.take (k + 1))).length ≤ n3 := by
                rw [HL.out, ← List.take_append_drop (k + 1) s.data.toList, Lx.escs_append, List.length_append, List.take_append_drop]
                omega
              rw [hes, List.length_append, ← HJ.out] at hfit
              have HES := Lib.hid hes; clear hes hc1 hc2
              by_cases hsp : Lx.special (s[k]'hlt)
              · obtain ⟨b, kk, e1, e2, e3⟩ := hrw.2 hsp
                clear hrw
                rw [Lx.rep_special hsp] at hfit
                have HE2 := Lib.hid e2; have HE3 := Lib.hid e3; clear e2 e3
                have HSP := Lib.hid hsp; clear hsp
                have hj1 : (0 : Int) ≤ (j : Int) ∧ (j : Int) ≤ (n3 : Int) := by omega
                have hj2 : j ≤ n3 := by omega
                have hj3 : ¬ (n3 = j) := by omega
                have hlen : (Lx.escs (s.data.toList.take k)).length ≤ n3 := by rw [← HJ.out]; omega
                have q1 : [Value.int .u8 ((Lx.rep (s[k]'hlt)).getD 0 0).toNat, Value.int .u8 ((Lx.rep (s[k]'hlt)).getD 1 0).toNat].length = Nat.min 2 (n3 - j) := by
                  show 2 = min 2 (n3 - j)
                  omega
                have q2 : ∀ (i : Nat) (v : Value), [Value.int .u8 ((Lx.rep (s[k]'hlt)).getD 0 0).toNat, Value.int .u8 ((Lx.rep (s[k]'hlt)).getD 1 0).toNat][i]? = some v → wr.cell? ((⟨b, 0, none⟩ : Addr).add i) = some v := by
                  intro i v hv
                  match i, hv with
                  | 0, hv => cases hv; simpa [Addr.add] using HE2.out
                  | 1, hv => cases hv; simpa [Addr.add] using HE3.out
                  | i + 2, hv => simp at hv
                have q3 : j + [Value.int .u8 ((Lx.rep (s[k]'hlt)).getD 0 0).toNat, Value.int .u8 ((Lx.rep (s[k]'hlt)).getD 1 0).toNat].length ≤ (bufc n3 (Lx.escs (s.data.toList.take k))).length := by
                  rw [bufc_len hlen]
                  show j + 2 ≤ n3
                  omega
                have q4 : ∀ v ∈ [Value.int .u8 ((Lx.rep (s[k]'hlt)).getD 0 0).toNat, Value.int .u8 ((Lx.rep (s[k]'hlt)).getD 1 0).toNat], v.oneCell' = true := by
                  intro v hv
                  rcases List.mem_cons.1 hv with rfl | hv
                  · rfl
                  · rcases List.mem_cons.1 hv with rfl | hv
                    · rfl
                    · cases hv
                have Q1 := Lib.hid q1; have Q2 := Lib.hid q2; have Q3 := Lib.hid q3; have Q4 := Lib.hid q4; clear q1 q2 q3 q4
                go_wp2
                go_region_law (refine step_copy_splice rfl (.tmp 105) (.tmp 111) 77 77 rfl 5 Tryz.underlying77 (by kernel_rfl) (some ⟨B, j, none⟩) (some ⟨b, 0, none⟩) (n3 - j) (n3 - j) 2 kk (by simp [Act.eval, Act.put]) (by simp [Act.eval, Act.put]) B j (bufc n3 (Lx.escs (s.data.toList.take k))) 5 HR.out [.int .u8 ((Lx.rep (s[k]'hlt)).getD 0 0).toNat, .int .u8 ((Lx.rep (s[k]'hlt)).getD 1 0).toNat] Q1.out (fun _ => ⟨rfl, _, rfl, Q2.out⟩) Q3.out Q4.out w.heap.size w HV.out.drew hBlo ?_; intro w4 hg4 hb4)
                have HB4 := Lib.hid hb4; clear hb4
                go_wp2
                go_roundw
                case rel =>
                  refine ⟨k + 1, j + 2, by omega, by go_num, by go_num, ⟨?_⟩, ⟨?_⟩, ⟨HB4.out⟩⟩
                  · rw [HES.out, List.length_append, ← HJ.out, Lx.rep_special HSP.out]
                  · have h7 := hg4.out
                    have h8 : Lx.rep (s[k]'hlt) = [(Lx.rep (s[k]'hlt)).getD 0 0, (Lx.rep (s[k]'hlt)).getD 1 0] := by
                      rcases HSP.out with h | h | h <;> rw [h] <;> rfl
                    have h9 := bufc_splice (n := n3) (l := Lx.escs (s.data.toList.take k)) ((Lx.rep (s[k]'hlt)).getD 0 0) ((Lx.rep (s[k]'hlt)).getD 1 0) (by rw [← HJ.out]; omega)
                    rw [← HJ.out] at h9
                    rw [h9, ← h8, ← HES.out] at h7
                    exact h7
                case measure => simp [intOf]; omega
              · have e1 := hrw.1 hsp
                clear hrw
                rw [Lx.rep_plain hsp] at hfit
                have hfit1 : j < n3 := by have h5 : ([s[k]'hlt] : List UInt8).length = 1 := rfl; omega
                have h1 : wr.cell? ⟨B, j, none⟩ = some (.int .u8 0) := by
                  have h3 := HR.out
                  have h4 := bufc_get (n := n3) (l := Lx.escs (s.data.toList.take k)) (by rw [← HJ.out]; exact hfit1)
                  rw [← HJ.out] at h4
                  simp only [World.cell?, h3]
                  simpa using h4
                have h2 : wr.frozen? ⟨B, j, none⟩ = false := by
                  have := HR.out
                  simp [World.frozen?, this]
                clear hfit
                have HSP := Lib.hid hsp; clear hsp
                go_wp2
                go_roundw
                case rel =>
                  refine ⟨k + 1, j + 1, by omega, by go_num, by go_num, ⟨?_⟩, ⟨?_⟩, ⟨HV.out.setCell (p := ⟨B, j, none⟩) hBlo _⟩⟩
                  · rw [HES.out, List.length_append, ← HJ.out, Lx.rep_plain HSP.out]; rfl
                  · have h6 := heap_set HR.out j (.int .u8 ((s[k]'hlt).toNat : Nat))
                    rw [HES.out, Lx.rep_plain HSP.out, ← bufc_set (n := n3) (l := Lx.escs (s.data.toList.take k)) (s[k]'hlt) (by rw [← HJ.out]; exact hfit1), ← HJ.out]
                    exact h6
                case measure => simp [intOf]; omega
            · obtain rfl : k = s.size := by omega
              have hr := HR.out
              have hj := HJ.out
              rw [← data_length, List.take_length] at hr hj
              have hjn : j = n3 := by rw [hj, HL.out]
              have hcv := buf_string hr HL.out
              have HCV := Lib.hid hj; clear hj hr hjn
              go_wp2
              go_ret
              exact ⟨rfl, HV.out⟩
end Go.Proofs.YtannlhonjkhchaaGreatDoor

/- lex.Quote: what a call of it does, of any text of at most a million bytes. -/
namespace Go.Proofs.YtannlhonjkhchaaGreatDoor
open Go.RowKit Go.Gw Go.Proofs.YtannlhonjkhchaaGreatDoorW.PrintWords
set_option linter.unusedVariables false
set_option linter.unusedSimpArgs false

theorem olds_C {w : World} {G : Nat} (h : OldsAt w G) : Kd.C Kd.string w (some ⟨G, 0, none⟩) 6 olds := by
  refine ⟨rfl, by decide, fun _ => ⟨_, rfl, fun j p hj => ⟨[.string p], rfl, rfl, fun i u hu => ?_⟩⟩⟩
  cases i with
  | succ i => simp at hu
  | zero =>
    simp only [List.getElem?_cons_zero, Option.some.injEq] at hu
    subst hu
    have ea : (⟨G, 0, none⟩ : Addr).add (j * 1 + 0) = ⟨G, j, none⟩ := by simp [Addr.add]; exact fun h => h.symm
    show w.cell? ((⟨G, 0, none⟩ : Addr).add (j * 1 + 0)) = _
    rw [ea]
    match j, hj with
    | 0, hj => cases hj; exact h.h0
    | 1, hj => cases hj; exact h.h1
    | 2, hj => cases hj; exact h.h2
    | 3, hj => cases hj; exact h.h3
    | 4, hj => cases hj; exact h.h4
    | 5, hj => cases hj; exact h.h5
    | j + 6, hj => simp [olds] at hj
theorem olds_of_C {w : World} {G c : Nat} {e base : Nat} {ok : Nat → Prop} (h : Kd.R Kd.string e w base ok (.slice (some ⟨G, 0, none⟩) 6 c) olds) : OldsAt w G := by
  obtain ⟨_, _, hC⟩ := Kd.R_reads' h
  have at_ : ∀ k, k < 6 → w.cell? ⟨G, k, none⟩ = some (.string (olds.getD k ByteArray.empty)) := by
    intro k hk
    obtain ⟨ad, e, hc⟩ := Kd.at_string hC k (by omega) (by simp only [olds]; simp; omega)
    cases e
    have : (⟨G, 0, none⟩ : Addr).add k = ⟨G, k, none⟩ := by simp [Addr.add]; exact fun h => h.symm
    rw [show ((k : Nat) : Int).toNat = k by omega, this] at hc
    exact hc
  exact ⟨at_ 0 (by omega), at_ 1 (by omega), at_ 2 (by omega), at_ 3 (by omega), at_ 4 (by omega), at_ 5 (by omega)⟩
def NewPost (w : World) (e : Ending) (w' : World) : Prop :=
  ∃ N G c, e = .returned (.pointer (some ⟨N, 0, none⟩)) ∧ Fresh w' N G c ∧ OldsAt w' G ∧ w.heap.size ≤ N ∧ Below w.heap.size w w'
set_option maxHeartbeats 2000000 in
set_option maxRecDepth 100000 in
theorem new_calls (G0 : Nat) (w : World) (ho : OldsAt w G0) :
    Calls Tryz.prog 19 #[.slice (some ⟨G0, 0, none⟩) 6 6] w (NewPost w) := by
  have HO := Lib.hid ho; clear ho
  go_enter Tryz.func19, Tryz.ntmps19
  go_wp2_with (first | (at_builtin; refine Kd.R_append_row Value.string ByteArray.empty (h1 := fun _ => rfl) (w0 := w) w.heap.size rfl (.const (.slice none 0 0)) (.tmp 8) 54 9 (.string ⟨#[]⟩) 16 rfl Tryz.underlying54 info_strR rfl (by decide) _ [] olds (some ⟨G0, 0, none⟩) 6 6 (fun _ => True) rfl rfl (fun _ _ => trivial) ?aO ?aR ?aB ?aS ?aL ?_; (case aO => exact Kd.R_nil _ _ _ _ _); (case aR => exact olds_C HO.out); (case aB => exact Below.refl _ _); (case aS => exact Nat.le_refl _); (case aL => decide); intro v1 w1 hr hb hg hat; obtain ⟨G, c1, hv1, hge, hlt, -⟩ := Kd.R_form hr (by decide); change v1 = .slice (some ⟨G, 0, none⟩) 6 c1 at hv1; subst hv1; have HR := Lib.hid (olds_of_C hr); have HB := Lib.hid hb; clear hr hb hg hat))
  go_ret
  refine ⟨w1.heap.size, G, c1, rfl, ⟨(World.cell?_alloc_new _ _ _ _).trans rfl, (World.cell?_alloc_new _ _ _ _).trans rfl, ⟨_, (World.cell?_alloc_new _ _ _ _).trans rfl⟩, (World.cell?_alloc_new _ _ _ _).trans rfl, ?_, by omega⟩, HR.out.below ((Below.refl _ _).alloc (Nat.le_refl _) _), HB.out.size, HB.out.alloc HB.out.size _⟩
  intro j
  simp only [World.frozen?, heap_new]
  simp
set_option maxHeartbeats 2000000 in
set_option maxRecDepth 100000 in
theorem replace_calls (N G c : Nat) (s : ByteArray) (hs : s.size ≤ 1000000) (w : World) (hF : Fresh w N G c) (ho : OldsAt w G) :
    Calls Tryz.prog 20 #[.pointer (some ⟨N, 0, none⟩), .string s] w fun e w' => e = .returned (.string (escS s)) ∧ Below N w w' := by
  have hN : N < w.heap.size := cell_lt hF.c0
  have HF := Lib.hid hF; clear hF
  have HO := Lib.hid ho; clear ho
  have hmf : ∀ (fn : Fn) (first cap : Array Value) (w : World), (Instr.makeFunc fn first cap).run Tryz.prog w = .ok (.func fn first cap) w := fun _ _ _ _ => rfl
  go_enter Tryz.func20, Tryz.ntmps20
  go_wp2_with fail
  refine (do_calls N G c w HF.out HO.out).mono ?_
  rintro e w1 ⟨Q, TL, rfl, h1, h2, h3⟩
  obtain ⟨g, cap, hS⟩ := seen_of_tabl h2
  have HS := Lib.hid hS; have H3 := Lib.hid h3; clear h2 h3 hS
  go_wp2_with fail
  refine (bsr_calls Q g cap s hs w1 HS.out).mono ?_
  rintro e w2 ⟨rfl, hb2⟩
  have HB := Lib.hid (H3.out.trans (hb2.mono (Nat.le_trans (Nat.le_of_lt hN) H3.out.size))); clear hb2
  go_wp2
  go_ret
  exact ⟨rfl, HB.out⟩
def quoteS (s : ByteArray) : ByteArray := ⟨(Lx.quote s.data.toList).toArray⟩
theorem quote_bad {s : ByteArray} {c : UInt8} (hc : c ∈ s.data.toList) (h : Lx.mayc c = false) : quoteS s = ByteArray.empty := by
  have hn : Lx.body s.data.toList = none := by
    cases hb : Lx.body s.data.toList with
    | none => rfl
    | some b =>
      have := (Lx.body_some s.data.toList).2 ⟨b, hb⟩ c hc
      rw [h] at this; cases this
  show (⟨(Lx.quote s.data.toList).toArray⟩ : ByteArray) = _
  rw [Lx.quote, hn]
  rfl
theorem quote_good {s : ByteArray} (h : ∀ c ∈ s.data.toList, Lx.mayc c = true) : (⟨#[34]⟩ : ByteArray) ++ escS s ++ ⟨#[34]⟩ = quoteS s := by
  apply str_ext
  rw [ByteArray.data_append, ByteArray.data_append, Array.toList_append, Array.toList_append]
  show [34] ++ Lx.escs s.data.toList ++ [34] = Lx.quote s.data.toList
  rw [Lx.quote, Lx.body_escs _ h]
  rfl
theorem escS_size (s : ByteArray) : (escS s).size ≤ 4 * s.size := by
  have h1 := Lx.escs_length s.data.toList
  have h2 := Lx.cnt_le 3 s.data.toList
  show (Lx.escs s.data.toList).length ≤ _
  rw [data_length] at h1 h2
  omega
theorem mayc_iff (c : UInt8) : Lx.mayc c = true ↔ c.toNat = 10 ∨ (32 ≤ c.toNat ∧ c.toNat ≠ 127) := by
  simp only [Lx.mayc, Bool.or_eq_true, Bool.and_eq_true, decide_eq_true_eq, beq_iff_eq, bne_iff_ne, ne_eq, ← UInt8.toNat_inj]
  rfl
set_option maxHeartbeats 2000000 in
set_option maxRecDepth 100000 in
theorem Quote_calls (s : ByteArray) (hs : s.size ≤ 1000000) (w : World) :
    Calls Tryz.prog 12 #[.string s] w fun e w' => e = .returned (.string (quoteS s)) ∧ Below w.heap.size w w' := by
  go_enter Tryz.func12, Tryz.ntmps12
  go_wp2
  go_loop [6] (fun iv => ∃ k : Nat, k ≤ s.size ∧ iv = .int .i64 k ∧ Aside0 (∀ c ∈ s.data.toList.take k, Lx.mayc c = true)) (fun i => s.size - (intOf i).toNat)
  case atStart => exact ⟨0, Nat.zero_le _, rfl, ⟨by simp⟩⟩
  case round =>
    obtain ⟨k, hk, rfl, HM⟩ := hrel
    by_cases hlt : k < s.size
    · obtain ⟨hc1, hc2⟩ := byteTake s k hlt
      have HC1 := Lib.hid hc1; have HC2 := Lib.hid hc2; clear hc1 hc2
      have hmi := mayc_iff (s[k]'hlt)
      have HMI := Lib.hid hmi; clear hmi
      have next : Lx.mayc (s[k]'hlt) = true → ∀ c ∈ s.data.toList.take (k + 1), Lx.mayc c = true := by
        intro h c hc
        rw [HC2.out] at hc
        rcases List.mem_append.1 hc with hc | hc
        · exact HM.out c hc
        · rw [List.mem_singleton.1 hc]; exact h
      have HNX := Lib.hid next; clear next
      by_cases h127 : (s[k]'hlt).toNat = 127
      · have t1 : ((s[k]'hlt).toNat : Int) = 127 := by omega
        have t2 : (((s[k]'hlt).toNat : Int) == 127) = true := by simp [h127]
        have t3 : ¬ ((s[k]'hlt).toNat : Int) < 32 := by omega
        have HQ := Lib.hid (quote_bad HC1.out (by rw [Bool.eq_false_iff]; intro h; have := HMI.out.1 h; omega))
        have H127 := Lib.hid h127; clear h127 t1
        go_wp2
        go_ret
        exact ⟨ret_str HQ.out.symm, Below.refl _ _⟩
      · have t2 : (((s[k]'hlt).toNat : Int) == 127) = false := by simp; omega
        by_cases h10 : (s[k]'hlt).toNat = 10
        · have t3 : ((s[k]'hlt).toNat : Int) < 32 := by omega
          have t4 : (((s[k]'hlt).toNat : Int) == 10) = true := by simp [h10]
          have t5 : (((s[k]'hlt).toNat : Int) != 10) = false := by simp [h10]
          have t6 : ((s[k]'hlt).toNat : Int) = 10 := by omega
          have HO := Lib.hid (HNX.out (HMI.out.2 (.inl h10)))
          clear h127
          have H10 := Lib.hid h10; clear h10
          go_wp2
          go_round
          case rel => exact ⟨k + 1, by omega, by go_num, ⟨HO.out⟩⟩
          case measure => simp [intOf]; omega
        · have t4 : (((s[k]'hlt).toNat : Int) == 10) = false := by simp; omega
          have t5 : (((s[k]'hlt).toNat : Int) != 10) = true := by simp; omega
          have t6 : ¬ ((s[k]'hlt).toNat : Int) = 10 := by omega
          by_cases h32 : (s[k]'hlt).toNat < 32
          · have t3 : ((s[k]'hlt).toNat : Int) < 32 := by omega
            have HQ := Lib.hid (quote_bad HC1.out (by rw [Bool.eq_false_iff]; intro h; have := HMI.out.1 h; omega))
            clear h127 h10
            go_wp2
            go_ret
            exact ⟨ret_str HQ.out.symm, Below.refl _ _⟩
          · have t3 : ¬ ((s[k]'hlt).toNat : Int) < 32 := by omega
            have HO := Lib.hid (HNX.out (HMI.out.2 (.inr ⟨by omega, h127⟩)))
            clear h127 h10
            go_wp2
            go_round
            case rel => exact ⟨k + 1, by omega, by go_num, ⟨HO.out⟩⟩
            case measure => simp [intOf]; omega
    · obtain rfl : k = s.size := by omega
      have hm := HM.out
      rw [← data_length, List.take_length] at hm
      have HQ := Lib.hid (quote_good hm)
      have hz := escS_size s
      clear hm HM
      go_wp2_with fail
      refine (new_calls w.heap.size _ ⟨(World.cell?_alloc_new _ _ _ _).trans rfl, (World.cell?_alloc_new _ _ _ _).trans rfl, (World.cell?_alloc_new _ _ _ _).trans rfl, (World.cell?_alloc_new _ _ _ _).trans rfl, (World.cell?_alloc_new _ _ _ _).trans rfl, (World.cell?_alloc_new _ _ _ _).trans rfl⟩).mono ?_
      rintro e w1 ⟨N, G, c, rfl, hF, hO, hN, hb⟩
      have hN2 : w.heap.size ≤ N := by simp at hN; omega
      have HF := Lib.hid hF; have HO := Lib.hid hO
      have HB := Lib.hid (((Below.refl w.heap.size w).alloc (Nat.le_refl _) (.cells #[.string ⟨#[34]⟩, .string ⟨#[92, 34]⟩, .string ⟨#[92]⟩, .string ⟨#[92, 92]⟩, .string ⟨#[10]⟩, .string ⟨#[92, 110]⟩] 9)).trans (hb.mono (by simp)))
      clear hF hO hb hN
      go_wp2_with fail
      refine (replace_calls N G c s hs w1 HF.out HO.out).mono ?_
      rintro e w2 ⟨rfl, hb2⟩
      have HB2 := Lib.hid (HB.out.trans (hb2.mono hN2)); clear hb2 HB
      have hq1 : (⟨#[34]⟩ : ByteArray).size = 1 := rfl
      go_wp2
      go_ret
      exact ⟨ret_str HQ.out, HB2.out⟩
end Go.Proofs.YtannlhonjkhchaaGreatDoor

/- The reference's Quote: what a call of it does, of any text of at most a million bytes. -/
namespace Go.Proofs.YtannlhonjkhchaaGreatDoor
open Go.RowKit Go.Gw Go.Proofs.YtannlhonjkhchaaGreatDoorW.PrintWords
set_option linter.unusedVariables false
set_option linter.unusedSimpArgs false

/-- What is written so far: a mark, and what the bytes become. -/
def outS (l : List UInt8) : ByteArray := ⟨(34 :: Lx.escs l).toArray⟩
theorem outS_size (l : List UInt8) : (outS l).size ≤ 4 * l.length + 1 := by
  have h1 := Lx.escs_length l
  have h2 := Lx.cnt_le 3 l
  show (34 :: Lx.escs l).length ≤ _
  simp only [List.length_cons]
  omega
theorem outS_step {l : List UInt8} {c : UInt8} {x : ByteArray} (hx : x.data.toList = Lx.rep c) : outS l ++ x = outS (l ++ [c]) := by
  apply str_ext
  rw [ByteArray.data_append, Array.toList_append, hx]
  show 34 :: Lx.escs l ++ Lx.rep c = 34 :: Lx.escs (l ++ [c])
  rw [Lx.escs_append, Lx.escs_one]
  rfl
theorem one_mid (s : ByteArray) (k : Nat) (h : k < s.size) : (s.extract k (k + 1)).data.toList = [s[k]'h] := by
  rw [ext_mid]
  have hl : k < s.data.toList.length := by rw [Array.length_toList]; exact h
  show (s.data.toList.drop k).take (k + 1 - k) = _
  rw [show k + 1 - k = 1 by omega, List.drop_eq_getElem_cons hl]
  rfl
theorem quote_out {s : ByteArray} (h : ∀ c ∈ s.data.toList, Lx.mayc c = true) : outS s.data.toList ++ (⟨#[34]⟩ : ByteArray) = quoteS s := by
  rw [← quote_good h]
  congr 1
set_option maxHeartbeats 2000000 in
set_option maxRecDepth 100000 in
theorem RefQuote_calls (s : ByteArray) (hs : s.size ≤ 1000000) (w : World) :
    Calls Tryz.prog 13 #[.string s] w fun e w' => e = .returned (.string (quoteS s)) ∧ Below w.heap.size w w' := by
  go_enter Tryz.func13, Tryz.ntmps13
  go_wp2
  go_loop [3, 4] (fun ov iv => ∃ (k : Nat) (o : ByteArray), k ≤ s.size ∧ iv = .int .i64 k ∧ ov = .string o ∧ o.size ≤ 4 * k + 1 ∧ Aside0 (o = outS (s.data.toList.take k)) ∧ Aside0 (∀ c ∈ s.data.toList.take k, Lx.mayc c = true)) (fun _ i => s.size - (intOf i).toNat)
  case atStart => exact ⟨0, ⟨#[34]⟩, Nat.zero_le _, rfl, rfl, by decide, ⟨rfl⟩, ⟨by simp⟩⟩
  case round =>
    obtain ⟨k, o, hk, rfl, rfl, ho, HO, HM⟩ := hrel
    by_cases hlt : k < s.size
    · obtain ⟨hc1, hc2⟩ := byteTake s k hlt
      have HC1 := Lib.hid hc1; have HC2 := Lib.hid hc2; clear hc1 hc2
      have HMI := Lib.hid (mayc_iff (s[k]'hlt))
      have next : Lx.mayc (s[k]'hlt) = true → ∀ c ∈ s.data.toList.take (k + 1), Lx.mayc c = true := by
        intro h c hc
        rw [HC2.out] at hc
        rcases List.mem_append.1 hc with hc | hc
        · exact HM.out c hc
        · rw [List.mem_singleton.1 hc]; exact h
      have HNX := Lib.hid next; clear next
      have HONE := Lib.hid (one_mid s k hlt)
      have hone : (s.extract k (k + 1)).size = 1 := by rw [← data_length, HONE.out]; rfl
      have hz2 : (⟨#[92, 110]⟩ : ByteArray).size = 2 := rfl
      have hz1 : (⟨#[92]⟩ : ByteArray).size = 1 := rfl
      have hstep : ∀ x : ByteArray, x.data.toList = Lx.rep (s[k]'hlt) → o ++ x = outS (s.data.toList.take (k + 1)) := by
        intro x hx
        rw [HC2.out, HO.out]
        exact outS_step hx
      have HST := Lib.hid hstep; clear hstep
      have hosz : (outS (s.data.toList.take (k + 1))).size ≤ 4 * (k + 1) + 1 := by
        refine Nat.le_trans (outS_size _) ?_
        rw [List.length_take]; omega
      have HOS := Lib.hid hosz; clear hosz
      by_cases h10 : (s[k]'hlt).toNat = 10
      · have t4 : (((s[k]'hlt).toNat : Int) == 10) = true := by simp [h10]
        have HX := Lib.hid (HST.out ⟨#[92, 110]⟩ (by rw [show s[k]'hlt = 10 from UInt8.toNat_inj.1 h10]; rfl))
        have HNM := Lib.hid (HNX.out (HMI.out.2 (.inl h10)))
        have H10 := Lib.hid h10; clear h10
        go_wp2
        go_round
        case rel => exact ⟨k + 1, _, by omega, by go_num, rfl, by rw [HX.out]; exact HOS.out, ⟨HX.out⟩, ⟨HNM.out⟩⟩
        case measure => simp [intOf]; omega
      · have t4 : (((s[k]'hlt).toNat : Int) == 10) = false := by simp; omega
        have t5 : ¬ ((s[k]'hlt).toNat : Int) = 10 := by omega
        by_cases hbad : (s[k]'hlt).toNat < 32 ∨ (s[k]'hlt).toNat = 127
        · have HQ := Lib.hid (quote_bad HC1.out (by rw [Bool.eq_false_iff]; intro h; have := HMI.out.1 h; omega))
          rcases hbad with hb | hb
          · have t6 : ((s[k]'hlt).toNat : Int) < 32 := by omega
            clear h10
            go_wp2
            go_ret
            exact ⟨ret_str HQ.out.symm, Below.refl _ _⟩
          · have t6 : ¬ ((s[k]'hlt).toNat : Int) < 32 := by omega
            have t7 : (((s[k]'hlt).toNat : Int) == 127) = true := by simp [hb]
            have HBB := Lib.hid hb; clear hb h10
            go_wp2
            go_ret
            exact ⟨ret_str HQ.out.symm, Below.refl _ _⟩
        · have t6 : ¬ ((s[k]'hlt).toNat : Int) < 32 := by omega
          have t7 : (((s[k]'hlt).toNat : Int) == 127) = false := by simp; omega
          have t8 : ¬ ((s[k]'hlt).toNat : Int) = 127 := by omega
          have HNM := Lib.hid (HNX.out (HMI.out.2 (.inr ⟨by omega, by omega⟩)))
          by_cases h34 : (s[k]'hlt).toNat = 34 ∨ (s[k]'hlt).toNat = 92
          · have hx : ((⟨#[92]⟩ : ByteArray) ++ s.extract k (k + 1)).data.toList = Lx.rep (s[k]'hlt) := by
              rw [ByteArray.data_append, Array.toList_append, HONE.out]
              rcases h34 with h | h
              · rw [show s[k]'hlt = 34 from UInt8.toNat_inj.1 h]; rfl
              · rw [show s[k]'hlt = 92 from UInt8.toNat_inj.1 h]; rfl
            have hX := HST.out _ hx
            rw [← ByteArray.append_assoc] at hX
            have HX := Lib.hid hX; clear hX hx
            clear hbad h10
            rcases h34 with h | h
            · have t9 : (((s[k]'hlt).toNat : Int) == 34) = true := by simp [h]
              have HH := Lib.hid h; clear h
              go_wp2
              go_round
              case rel => exact ⟨k + 1, _, by omega, by go_num, rfl, by rw [HX.out]; exact HOS.out, ⟨HX.out⟩, ⟨HNM.out⟩⟩
              case measure => simp [intOf]; omega
            · have t9 : (((s[k]'hlt).toNat : Int) == 92) = true := by simp [h]
              have t10 : (((s[k]'hlt).toNat : Int) == 34) = false := by simp [h]
              have HH := Lib.hid h; clear h
              go_wp2
              go_round
              case rel => exact ⟨k + 1, _, by omega, by go_num, rfl, by rw [HX.out]; exact HOS.out, ⟨HX.out⟩, ⟨HNM.out⟩⟩
              case measure => simp [intOf]; omega
          · have hx : (s.extract k (k + 1)).data.toList = Lx.rep (s[k]'hlt) := by
              rw [HONE.out, Lx.rep_plain]
              rintro (h | h | h)
              · rw [h] at h10; exact h10 rfl
              · rw [h] at h34; exact h34 (.inr rfl)
              · rw [h] at h34; exact h34 (.inl rfl)
            have HX := Lib.hid (HST.out _ hx); clear hx
            have t9 : (((s[k]'hlt).toNat : Int) == 34) = false := by simp; omega
            have t10 : (((s[k]'hlt).toNat : Int) == 92) = false := by simp; omega
            have t11 : ¬ ((s[k]'hlt).toNat : Int) = 34 := by omega
            have t12 : ¬ ((s[k]'hlt).toNat : Int) = 92 := by omega
            clear hbad h10 h34
            go_wp2
            go_round
            case rel => exact ⟨k + 1, _, by omega, by go_num, rfl, by rw [HX.out]; exact HOS.out, ⟨HX.out⟩, ⟨HNM.out⟩⟩
            case measure => simp [intOf]; omega
    · obtain rfl : k = s.size := by omega
      have hm := HM.out
      have ho2 := HO.out
      rw [← data_length, List.take_length] at hm ho2
      have HQ := Lib.hid (quote_out hm)
      have HO2 := Lib.hid ho2
      clear hm HM ho2 HO
      have hz1 : (⟨#[34]⟩ : ByteArray).size = 1 := rfl
      go_wp2
      go_ret
      exact ⟨ret_str (by rw [HO2.out]; exact HQ.out), Below.refl _ _⟩
end Go.Proofs.YtannlhonjkhchaaGreatDoor

/- lex's tests of bytes, and the reference's: what calls of them do. -/
namespace Go.Proofs.YtannlhonjkhchaaGreatDoor
open Go.RowKit Go.Gw Go.Proofs.YtannlhonjkhchaaGreatDoorW.PrintWords
set_option linter.unusedVariables false
set_option linter.unusedSimpArgs false

theorem digitc_iff (c : UInt8) : Lx.digitc c = true ↔ 48 ≤ c.toNat ∧ c.toNat ≤ 57 := by simp [Lx.digitc]
theorem letterc_iff (c : UInt8) : Lx.letterc c = true ↔ (97 ≤ c.toNat ∧ c.toNat ≤ 122) ∨ (65 ≤ c.toNat ∧ c.toNat ≤ 90) ∨ c.toNat = 95 := by
  simp only [Lx.letterc, Bool.or_eq_true, Bool.and_eq_true, decide_eq_true_eq, beq_iff_eq, ← UInt8.toNat_inj, or_assoc]
  rfl
theorem gapc_iff (c : UInt8) : Lx.gapc c = true ↔ c.toNat = 32 ∨ c.toNat = 9 ∨ c.toNat = 10 ∨ c.toNat = 13 := by
  simp only [Lx.gapc, Bool.or_eq_true, beq_iff_eq, ← UInt8.toNat_inj, or_assoc]
  rfl
theorem notLf_iff (c : UInt8) : Lx.notLf c = true ↔ c.toNat ≠ 10 := by
  simp only [Lx.notLf, bne_iff_ne, ne_eq, ← UInt8.toNat_inj]
  rfl
/-- What a call of a byte's test does. -/
def Tests (f : Nat) (p : UInt8 → Bool) : Prop := ∀ (c : UInt8) (w : World), Calls Tryz.prog f #[.int .u8 c.toNat] w fun e w' => e = .returned (.bool (p c)) ∧ w' = w
set_option maxHeartbeats 1000000 in
set_option maxRecDepth 100000 in
theorem digit_tests : Tests 26 Lx.digitc := by
  intro c w
  have HI := Lib.hid (digitc_iff c)
  go_enter Tryz.func26, Tryz.ntmps26
  go_wp2
  all_goals
    go_ret
    refine ⟨ret_bool ?_, rfl⟩
    rw [Bool.eq_iff_iff, HI.out]
    first | (simp; done) | (simp; omega) | omega
set_option maxHeartbeats 1000000 in
set_option maxRecDepth 100000 in
theorem rdigit_tests : Tests 35 Lx.digitc := by
  intro c w
  have HI := Lib.hid (digitc_iff c)
  go_enter Tryz.func35, Tryz.ntmps35
  go_wp2
  all_goals
    go_ret
    refine ⟨ret_bool ?_, rfl⟩
    rw [Bool.eq_iff_iff, HI.out]
    first | (simp; done) | (simp; omega) | omega
set_option maxHeartbeats 1000000 in
set_option maxRecDepth 100000 in
theorem letter_tests : Tests 24 Lx.letterc := by
  intro c w
  have HI := Lib.hid (letterc_iff c)
  go_enter Tryz.func24, Tryz.ntmps24
  go_wp2
  all_goals
    go_ret
    refine ⟨ret_bool ?_, rfl⟩
    rw [Bool.eq_iff_iff, HI.out]
    first | (simp; done) | (simp; omega) | omega
set_option maxHeartbeats 1000000 in
set_option maxRecDepth 100000 in
theorem rletter_tests : Tests 34 Lx.letterc := by
  intro c w
  have HI := Lib.hid (letterc_iff c)
  go_enter Tryz.func34, Tryz.ntmps34
  go_wp2
  all_goals
    go_ret
    refine ⟨ret_bool ?_, rfl⟩
    rw [Bool.eq_iff_iff, HI.out]
    first | (simp; done) | (simp; omega) | omega
set_option maxHeartbeats 1000000 in
set_option maxRecDepth 100000 in
theorem gap_tests : Tests 21 Lx.gapc := by
  intro c w
  have HI := Lib.hid (gapc_iff c)
  go_enter Tryz.func21, Tryz.ntmps21
  go_wp2
  all_goals
    go_ret
    refine ⟨ret_bool ?_, rfl⟩
    rw [Bool.eq_iff_iff, HI.out]
    first | (simp; done) | (simp; omega) | omega
set_option maxHeartbeats 1000000 in
set_option maxRecDepth 100000 in
theorem hash_tests : Tests 23 Lx.notLf := by
  intro c w
  have HI := Lib.hid (notLf_iff c)
  go_enter Tryz.func23, Tryz.ntmps23
  go_wp2
  all_goals
    go_ret
    refine ⟨ret_bool ?_, rfl⟩
    rw [Bool.eq_iff_iff, HI.out]
    first | (simp; done) | (simp; omega) | omega
set_option maxHeartbeats 1000000 in
set_option maxRecDepth 100000 in
theorem word_tests : Tests 25 Lx.wordc := by
  intro c w
  go_enter Tryz.func25, Tryz.ntmps25
  go_wp2_with fail
  refine (letter_tests c _).mono ?_
  rintro e w1 ⟨rfl, rfl⟩
  obtain ⟨b, hb⟩ : ∃ b, b = Lx.letterc c := ⟨_, rfl⟩
  rw [← hb]
  have HB := Lib.hid hb; clear hb
  cases b with
  | true =>
    go_wp2
    go_ret
    exact ⟨ret_bool (by rw [Lx.wordc, ← HB.out]; rfl), rfl⟩
  | false =>
    go_wp2_with fail
    refine (digit_tests c _).mono ?_
    rintro e w1 ⟨rfl, rfl⟩
    go_wp2
    go_ret
    exact ⟨ret_bool (by rw [Lx.wordc, ← HB.out]; rfl), rfl⟩

/-- How many bytes a text begins with that are such. -/
def len (p : UInt8 → Bool) (s : ByteArray) : Nat := (s.data.toList.takeWhile p).length
theorem len_stop {p : UInt8 → Bool} {s : ByteArray} {k : Nat} (hk : k < s.size) (h : ∀ c ∈ s.data.toList.take k, p c = true) (hp : p (s[k]'hk) = false) : len p s = k := by
  have hl : k < s.data.toList.length := by rw [Array.length_toList]; exact hk
  have e : s.data.toList = s.data.toList.take k ++ (s[k]'hk) :: s.data.toList.drop (k + 1) := by
    conv => lhs; rw [← List.take_append_drop k s.data.toList, List.drop_eq_getElem_cons hl]
    rfl
  rw [len, e, Lx.takeWhile_all p _ h, List.takeWhile_cons_of_neg (by rw [hp]; simp), List.append_nil, List.length_take]
  omega
theorem len_all {p : UInt8 → Bool} {s : ByteArray} (h : ∀ c ∈ s.data.toList, p c = true) : len p s = s.size := by
  have := Lx.takeWhile_all p s.data.toList h []
  rw [List.append_nil] at this
  rw [len, this]
  simp [data_length]
set_option maxHeartbeats 1000000 in
set_option maxRecDepth 100000 in
theorem run_calls (g : Nat) (p : UInt8 → Bool) (eg : ∀ args w, (callFunc g args).run Tryz.prog w = .ok (.enter g args) w) (hp : Tests g p) (s : ByteArray) (hs : s.size ≤ 1000000) (w : World) :
    Calls Tryz.prog 22 #[.string s, .func (.func g) #[] #[]] w fun e w' => e = .returned (.int .i64 (len p s)) ∧ w' = w := by
  go_enter Tryz.func22, Tryz.ntmps22
  go_wp2
  go_loop [5] (fun iv => ∃ k : Nat, k ≤ s.size ∧ iv = .int .i64 k ∧ Aside0 (∀ c ∈ s.data.toList.take k, p c = true)) (fun i => s.size - (intOf i).toNat)
  case atStart => exact ⟨0, Nat.zero_le _, rfl, ⟨by simp⟩⟩
  case round =>
    obtain ⟨k, hk, rfl, HM⟩ := hrel
    by_cases hlt : k < s.size
    · obtain ⟨hc1, hc2⟩ := byteTake s k hlt
      have HC1 := Lib.hid hc1; have HC2 := Lib.hid hc2; clear hc1 hc2
      go_wp2_with fail
      refine (hp (s[k]'hlt) _).mono ?_
      rintro e w1 ⟨rfl, rfl⟩
      cases hb : p (s[k]'hlt) with
      | true =>
        have next : ∀ c ∈ s.data.toList.take (k + 1), p c = true := by
          intro c hc
          rw [HC2.out] at hc
          rcases List.mem_append.1 hc with hc | hc
          · exact HM.out c hc
          · rw [List.mem_singleton.1 hc]; exact hb
        have HNX := Lib.hid next; clear next hb
        go_wp2
        go_round
        case rel => exact ⟨k + 1, by omega, by go_num, ⟨HNX.out⟩⟩
        case measure => simp [intOf]; omega
      | false =>
        have HL := Lib.hid (len_stop hlt HM.out hb); clear hb
        go_wp2
        go_ret
        exact ⟨ret_int (by rw [HL.out]), rfl⟩
    · obtain rfl : k = s.size := by omega
      have hm := HM.out
      rw [← data_length, List.take_length] at hm
      have HL := Lib.hid (len_all hm); clear hm HM
      go_wp2
      go_ret
      exact ⟨ret_int (by rw [HL.out]), rfl⟩
end Go.Proofs.YtannlhonjkhchaaGreatDoor

/- lex.quoted: what a call of it does, of any text with a byte, of at most a million. -/
namespace Go.Proofs.YtannlhonjkhchaaGreatDoor
open Go.RowKit Go.Gw Go.Proofs.YtannlhonjkhchaaGreatDoorW.PrintWords
set_option linter.unusedVariables false
set_option linter.unusedSimpArgs false

def natsOf (l : List UInt8) : List Int := l.map fun c => (c.toNat : Int)
theorem strOf_nats (l : List UInt8) : strOfNums (natsOf l) = ⟨l.toArray⟩ := by
  show (⟨_⟩ : ByteArray) = ⟨_⟩
  simp [natsOf, List.map_map, Function.comp_def]
theorem natsOf_snoc (l : List UInt8) (c : UInt8) : natsOf l ++ [(c.toNat : Int)] = natsOf (l ++ [c]) := by simp [natsOf]
/-- What quoted hands back. -/
def quotedV : Option (List UInt8 × Nat) → Value
  | none => .tuple #[.string ⟨#[]⟩, .int .i64 0]
  | some (t, n) => .tuple #[.string ⟨t.toArray⟩, .int .i64 (n + 1 : Nat)]
/-- What has been read ahead of the rest. -/
def readq (o : List UInt8) (k : Nat) : Option (List UInt8 × Nat) → Option (List UInt8 × Nat)
  | none => none
  | some (t, n) => some (o ++ t, n + k)
theorem drop_at {s : ByteArray} {k : Nat} (h : k < s.size) : s.data.toList.drop k = (s[k]'h) :: s.data.toList.drop (k + 1) := by
  have hl : k < s.data.toList.length := by rw [Array.length_toList]; exact h
  rw [List.drop_eq_getElem_cons hl]
  rfl
set_option maxHeartbeats 2000000 in
set_option maxRecDepth 100000 in
theorem quoted_calls (s : ByteArray) (hs : s.size ≤ 1000000) (h1 : 1 ≤ s.size) (w : World) :
    Calls Tryz.prog 28 #[.string s] w fun e w' => e = .returned (quotedV (Lx.quoted (s.data.toList.drop 1))) ∧ Below w.heap.size w w' := by
  obtain ⟨R0, hR0⟩ : ∃ R0, R0 = Lx.quoted (s.data.toList.drop 1) := ⟨_, rfl⟩
  rw [← hR0]
  have HR0 := Lib.hid hR0; clear hR0
  go_enter Tryz.func28, Tryz.ntmps28
  go_wp2
  go_loopw [4, 5] (fun ov iv wr => ∃ (k : Nat) (o : List UInt8), 1 ≤ k ∧ k ≤ s.size ∧ o.length ≤ k ∧ iv = .int .i64 k ∧ Aside0 (Kd.R (Kd.int .u8) 5 wr w.heap.size (fun _ => True) ov (natsOf o)) ∧ Aside0 (R0 = readq o (k - 1) (Lx.quoted (s.data.toList.drop k))) ∧ Aside0 (Below w.heap.size w wr)) (fun _ i _ => s.size - (intOf i).toNat)
  case atStart => exact ⟨1, [], Nat.le_refl _, h1, by simp, rfl, ⟨Kd.R_nil _ _ _ _ _⟩, ⟨by rw [HR0.out]; cases Lx.quoted (s.data.toList.drop 1) <;> rfl⟩, ⟨Below.refl _ _⟩⟩
  case round =>
    obtain ⟨k, o, hk1, hk, hok, rfl, HO, HQ, HW⟩ := hrel
    by_cases hlt : k < s.size
    · have hd := drop_at hlt
      have hq := HQ.out
      rw [hd, Lx.quoted_cons] at hq
      have HD := Lib.hid hd; clear hd
      obtain ⟨A4, c4, hu⟩ := Kd.R_slice HO.out
      obtain ⟨n4, hn4⟩ : ∃ n4, n4 = (natsOf o).length := ⟨_, rfl⟩
      rw [← hn4] at hu
      subst hu
      have hn5 : n4 = o.length := hn4.trans (by simp [natsOf])
      have HN4 := Lib.hid hn4
      have hn6 : n4 ≤ 1000000 := by omega
      clear hn4 hn5
      by_cases h34 : (s[k]'hlt).toNat = 34
      · have t1 : (((s[k]'hlt).toNat : Int) == 34) = true := by simp [h34]
        rw [if_pos (UInt8.toNat_inj.1 h34)] at hq
        have HQ2 := Lib.hid hq; clear hq
        obtain ⟨hn, -, hC⟩ := Kd.R_reads' HO.out
        have hcv := Kd.C_string (P := Tryz.prog) (src := 77) (dst := 9) (c := c4) Tryz.underlying77 Tryz.underlying5 Tryz.underlying9 hC
        rw [← HN4.out, strOf_nats] at hcv
        clear hC hn
        have H34 := Lib.hid h34; clear h34
        go_wp2
        go_ret2
        refine ⟨?_, HW.out⟩
        rw [HQ2.out]
        simp only [readq, quotedV, List.append_nil]
        rw [show 1 + (k - 1) + 1 = k + 1 by omega]
        rfl
      · have t1 : (((s[k]'hlt).toNat : Int) == 34) = false := by simp; omega
        rw [if_neg (fun e => h34 (by rw [e]; rfl))] at hq
        by_cases hbad : (s[k]'hlt).toNat < 32 ∨ (s[k]'hlt).toNat = 127
        · rw [if_pos (hbad.imp id (fun h => UInt8.toNat_inj.1 h))] at hq
          have HQ2 := Lib.hid hq; clear hq
          rcases hbad with hb | hb
          · have t6 : ((s[k]'hlt).toNat : Int) < 32 := by omega
            clear h34
            go_wp2
            go_ret2
            exact ⟨by rw [HQ2.out]; rfl, HW.out⟩
          · have t6 : ¬ ((s[k]'hlt).toNat : Int) < 32 := by omega
            have t7 : (((s[k]'hlt).toNat : Int) == 127) = true := by simp [hb]
            have HBB := Lib.hid hb; clear hb h34
            go_wp2
            go_ret2
            exact ⟨by rw [HQ2.out]; rfl, HW.out⟩
        · rw [if_neg (by rintro (h | h); exact hbad (.inl h); exact hbad (.inr (by rw [h]; rfl)))] at hq
          have t6 : ¬ ((s[k]'hlt).toNat : Int) < 32 := by omega
          have t7 : (((s[k]'hlt).toNat : Int) == 127) = false := by simp; omega
          have t8 : ¬ ((s[k]'hlt).toNat : Int) = 127 := by omega
          clear hbad
          by_cases h92 : (s[k]'hlt).toNat = 92
          · have t9 : (((s[k]'hlt).toNat : Int) == 92) = true := by simp [h92]
            rw [if_pos (UInt8.toNat_inj.1 h92)] at hq
            have H92 := Lib.hid h92; clear h92 h34
            by_cases hlt2 : k + 1 < s.size
            · by_cases hd2 : (s[k + 1]'hlt2).toNat = 34
              · have hat : Lib.indexByte [34, 92, 110] (s[k + 1]'hlt2) = 0 := by rw [UInt8.toNat_inj.1 (show (s[k + 1]'hlt2).toNat = (34 : UInt8).toNat from hd2)]; rfl
                have HAT := Lib.hid hat; clear hat
                rw [drop_at hlt2] at hq
                simp only [show Lx.esc (s[k + 1]'hlt2) = some 34 by rw [UInt8.toNat_inj.1 (show (s[k + 1]'hlt2).toNat = (34 : UInt8).toNat from hd2)]; rfl] at hq
                have HQ2 := Lib.hid hq; clear hq hd2
                have hx : ((⟨#[34, 92, 10]⟩ : ByteArray)[0]'(by decide)).toNat = 34 := rfl
                go_wp2_with fail
                refine (Tryz.strings_IndexByte ⟨#[34, 92, 110]⟩ ((s[k + 1]'hlt2).toNat : Nat) _).mono ?_
                rintro e w0 ⟨rfl, rfl⟩
                rw [show ((s[k + 1]'hlt2).toNat : Int).toNat.toUInt8 = s[k + 1]'hlt2 by simp, show (⟨#[34, 92, 110]⟩ : ByteArray).data.toList = [34, 92, 110] from rfl, HAT.out]
                go_wp2_with (first | (at_builtin; refine Kd.R_append (Kd.int .u8) (w0 := w) w.heap.size rfl (.tmp 50) (.tmp 53) 77 5 (.int .u8 0) 1 rfl Tryz.underlying77 info_u8R rfl (by decide) (by omega) (.slice A4 n4 c4) (natsOf o) 34 [.int .u8 34] (fun _ => True) (fun _ => False) rfl rfl ?aP (fun _ hk => hk.elim) ?aF ?aO ?aB ?aS ?aL ?_; (case aP => exact rfl); (case aF => exact (fun _ _ => trivial)); (case aO => exact HO.out); (case aB => exact HW.out); (case aS => exact HW.out.size); (case aL => rw [← HN4.out]; omega); intro v1 w1 ho hbb hg hat; have HO1 := Lib.hid ho; have HB1 := Lib.hid hbb; clear ho hbb hg hat))
                go_roundw
                case rel =>
                  refine ⟨k + 2, o ++ [34], by omega, by omega, by rw [List.length_append, List.length_singleton]; omega, by go_num, ⟨?_⟩, ⟨?_⟩, ⟨HB1.out⟩⟩
                  · rw [show natsOf (o ++ [34]) = natsOf o ++ [(34 : Int)] by simp [natsOf]]; exact HO1.out
                  · rw [HQ2.out, show k + 2 - 1 = k - 1 + 2 by omega]
                    cases Lx.quoted (s.data.toList.drop (k + 1 + 1)) with
                    | none => rfl
                    | some q => obtain ⟨t, n⟩ := q; simp only [readq, List.append_assoc, List.singleton_append, List.cons_append, List.nil_append]; congr 2; omega
                case measure => simp [intOf]; omega
              · by_cases hd3 : (s[k + 1]'hlt2).toNat = 92
                · clear hd2
                  have hat : Lib.indexByte [34, 92, 110] (s[k + 1]'hlt2) = 1 := by rw [UInt8.toNat_inj.1 (show (s[k + 1]'hlt2).toNat = (92 : UInt8).toNat from hd3)]; rfl
                  have HAT := Lib.hid hat; clear hat
                  rw [drop_at hlt2] at hq
                  simp only [show Lx.esc (s[k + 1]'hlt2) = some 92 by rw [UInt8.toNat_inj.1 (show (s[k + 1]'hlt2).toNat = (92 : UInt8).toNat from hd3)]; rfl] at hq
                  have HQ2 := Lib.hid hq; clear hq hd3
                  have hx : ((⟨#[34, 92, 10]⟩ : ByteArray)[1]'(by decide)).toNat = 92 := rfl
                  go_wp2_with fail
                  refine (Tryz.strings_IndexByte ⟨#[34, 92, 110]⟩ ((s[k + 1]'hlt2).toNat : Nat) _).mono ?_
                  rintro e w0 ⟨rfl, rfl⟩
                  rw [show ((s[k + 1]'hlt2).toNat : Int).toNat.toUInt8 = s[k + 1]'hlt2 by simp, show (⟨#[34, 92, 110]⟩ : ByteArray).data.toList = [34, 92, 110] from rfl, HAT.out]
                  go_wp2_with (first | (at_builtin; refine Kd.R_append (Kd.int .u8) (w0 := w) w.heap.size rfl (.tmp 50) (.tmp 53) 77 5 (.int .u8 0) 1 rfl Tryz.underlying77 info_u8R rfl (by decide) (by omega) (.slice A4 n4 c4) (natsOf o) 92 [.int .u8 92] (fun _ => True) (fun _ => False) rfl rfl ?aP (fun _ hk => hk.elim) ?aF ?aO ?aB ?aS ?aL ?_; (case aP => exact rfl); (case aF => exact (fun _ _ => trivial)); (case aO => exact HO.out); (case aB => exact HW.out); (case aS => exact HW.out.size); (case aL => rw [← HN4.out]; omega); intro v1 w1 ho hbb hg hat; have HO1 := Lib.hid ho; have HB1 := Lib.hid hbb; clear ho hbb hg hat))
                  go_roundw
                  case rel =>
                    refine ⟨k + 2, o ++ [92], by omega, by omega, by rw [List.length_append, List.length_singleton]; omega, by go_num, ⟨?_⟩, ⟨?_⟩, ⟨HB1.out⟩⟩
                    · rw [show natsOf (o ++ [92]) = natsOf o ++ [(92 : Int)] by simp [natsOf]]; exact HO1.out
                    · rw [HQ2.out, show k + 2 - 1 = k - 1 + 2 by omega]
                      cases Lx.quoted (s.data.toList.drop (k + 1 + 1)) with
                      | none => rfl
                      | some q => obtain ⟨t, n⟩ := q; simp only [readq, List.append_assoc, List.singleton_append, List.cons_append, List.nil_append]; congr 2; omega
                  case measure => simp [intOf]; omega
                · by_cases hd4 : (s[k + 1]'hlt2).toNat = 110
                  · clear hd2 hd3
                    have hat : Lib.indexByte [34, 92, 110] (s[k + 1]'hlt2) = 2 := by rw [UInt8.toNat_inj.1 (show (s[k + 1]'hlt2).toNat = (110 : UInt8).toNat from hd4)]; rfl
                    have HAT := Lib.hid hat; clear hat
                    rw [drop_at hlt2] at hq
                    simp only [show Lx.esc (s[k + 1]'hlt2) = some 10 by rw [UInt8.toNat_inj.1 (show (s[k + 1]'hlt2).toNat = (110 : UInt8).toNat from hd4)]; rfl] at hq
                    have HQ2 := Lib.hid hq; clear hq hd4
                    have hx : ((⟨#[34, 92, 10]⟩ : ByteArray)[2]'(by decide)).toNat = 10 := rfl
                    go_wp2_with fail
                    refine (Tryz.strings_IndexByte ⟨#[34, 92, 110]⟩ ((s[k + 1]'hlt2).toNat : Nat) _).mono ?_
                    rintro e w0 ⟨rfl, rfl⟩
                    rw [show ((s[k + 1]'hlt2).toNat : Int).toNat.toUInt8 = s[k + 1]'hlt2 by simp, show (⟨#[34, 92, 110]⟩ : ByteArray).data.toList = [34, 92, 110] from rfl, HAT.out]
                    go_wp2_with (first | (at_builtin; refine Kd.R_append (Kd.int .u8) (w0 := w) w.heap.size rfl (.tmp 50) (.tmp 53) 77 5 (.int .u8 0) 1 rfl Tryz.underlying77 info_u8R rfl (by decide) (by omega) (.slice A4 n4 c4) (natsOf o) 10 [.int .u8 10] (fun _ => True) (fun _ => False) rfl rfl ?aP (fun _ hk => hk.elim) ?aF ?aO ?aB ?aS ?aL ?_; (case aP => exact rfl); (case aF => exact (fun _ _ => trivial)); (case aO => exact HO.out); (case aB => exact HW.out); (case aS => exact HW.out.size); (case aL => rw [← HN4.out]; omega); intro v1 w1 ho hbb hg hat; have HO1 := Lib.hid ho; have HB1 := Lib.hid hbb; clear ho hbb hg hat))
                    go_roundw
                    case rel =>
                      refine ⟨k + 2, o ++ [10], by omega, by omega, by rw [List.length_append, List.length_singleton]; omega, by go_num, ⟨?_⟩, ⟨?_⟩, ⟨HB1.out⟩⟩
                      · rw [show natsOf (o ++ [10]) = natsOf o ++ [(10 : Int)] by simp [natsOf]]; exact HO1.out
                      · rw [HQ2.out, show k + 2 - 1 = k - 1 + 2 by omega]
                        cases Lx.quoted (s.data.toList.drop (k + 1 + 1)) with
                        | none => rfl
                        | some q => obtain ⟨t, n⟩ := q; simp only [readq, List.append_assoc, List.singleton_append, List.cons_append, List.nil_append]; congr 2; omega
                    case measure => simp [intOf]; omega
                  · have hat : Lib.indexByte [34, 92, 110] (s[k + 1]'hlt2) = -1 := by
                      have e1 : ((34 : UInt8) == s[k + 1]'hlt2) = false := by rw [beq_eq_false_iff_ne]; intro e; exact hd2 (by rw [← e]; rfl)
                      have e2 : ((92 : UInt8) == s[k + 1]'hlt2) = false := by rw [beq_eq_false_iff_ne]; intro e; exact hd3 (by rw [← e]; rfl)
                      have e3 : ((110 : UInt8) == s[k + 1]'hlt2) = false := by rw [beq_eq_false_iff_ne]; intro e; exact hd4 (by rw [← e]; rfl)
                      simp [Lib.indexByte, e1, e2, e3]
                    have HAT := Lib.hid hat; clear hat
                    rw [drop_at hlt2] at hq
                    simp only [show Lx.esc (s[k + 1]'hlt2) = none by unfold Lx.esc; rw [if_neg (fun e => hd2 (by rw [e]; rfl)), if_neg (fun e => hd3 (by rw [e]; rfl)), if_neg (fun e => hd4 (by rw [e]; rfl))]] at hq
                    have HQ2 := Lib.hid hq; clear hq hd2 hd3 hd4
                    go_wp2_with fail
                    refine (Tryz.strings_IndexByte ⟨#[34, 92, 110]⟩ ((s[k + 1]'hlt2).toNat : Nat) _).mono ?_
                    rintro e w0 ⟨rfl, rfl⟩
                    rw [show ((s[k + 1]'hlt2).toNat : Int).toNat.toUInt8 = s[k + 1]'hlt2 by simp, show (⟨#[34, 92, 110]⟩ : ByteArray).data.toList = [34, 92, 110] from rfl, HAT.out]
                    go_wp2
                    go_ret2
                    exact ⟨by rw [HQ2.out]; rfl, HW.out⟩
            · have hnil : s.data.toList.drop (k + 1) = [] := List.drop_eq_nil_of_le (by rw [data_length]; omega)
              rw [hnil] at hq
              have HQ2 := Lib.hid hq; clear hq hnil
              have hle : ¬ ((k : Int) + 1 < (s.size : Int)) := by omega
              go_wp2
              go_ret2
              exact ⟨by rw [HQ2.out]; rfl, HW.out⟩
          · have t9 : (((s[k]'hlt).toNat : Int) == 92) = false := by simp; omega
            have t10 : ¬ ((s[k]'hlt).toNat : Int) = 92 := by omega
            rw [if_neg (fun e => h92 (by rw [e]; rfl))] at hq
            have HQ2 := Lib.hid hq; clear hq h92 h34
            go_wp2_with (first | (at_builtin; (refine Kd.R_append (Kd.int .u8) (w0 := w) w.heap.size rfl (.tmp 17) (.tmp 19) 77 5 (.int .u8 0) 1 rfl Tryz.underlying77 info_u8R rfl (by decide) (by omega) (.slice A4 n4 c4) (natsOf o) ((s[k]'hlt).toNat : Int) [.int .u8 ((s[k]'hlt).toNat : Int)] (fun _ => True) (fun _ => False) rfl rfl ?aP (fun _ hk => hk.elim) ?aF ?aO ?aB ?aS ?aL ?_); (case aP => exact rfl); (case aF => exact (fun _ _ => trivial)); (case aO => exact HO.out); (case aB => exact HW.out); (case aS => exact HW.out.size); (case aL => rw [← HN4.out]; omega); intro v1 w1 ho hbb hg hat; have HO1 := Lib.hid ho; have HB1 := Lib.hid hbb; clear ho hbb hg hat))
            go_roundw
            case rel =>
              refine ⟨k + 1, o ++ [s[k]'hlt], by omega, by omega, by rw [List.length_append, List.length_singleton]; omega, by go_num, ⟨?_⟩, ⟨?_⟩, ⟨HB1.out⟩⟩
              · rw [← natsOf_snoc]; exact HO1.out
              · rw [HQ2.out, show k + 1 - 1 = k - 1 + 1 by omega]
                cases Lx.quoted (s.data.toList.drop (k + 1)) with
                | none => rfl
                | some q => obtain ⟨t, n⟩ := q; simp only [readq, List.append_assoc, List.singleton_append, List.cons_append, List.nil_append]; congr 2; omega
            case measure => simp [intOf]; omega
    · obtain rfl : k = s.size := by omega
      have hq := HQ.out
      rw [← data_length, List.drop_length] at hq
      have HQ2 := Lib.hid hq; clear hq
      go_wp2
      go_ret2
      exact ⟨by rw [HQ2.out]; rfl, HW.out⟩
end Go.Proofs.YtannlhonjkhchaaGreatDoor

/- What digits spell, as the library reads them: in plain Lean. No program. -/
namespace Go.Lx
open Go.Lib

theorem spell_ge (l : List UInt8) : ∀ n, n ≤ spell n l := by
  induction l with
  | nil => intro n; exact Nat.le_refl _
  | cons c l ih =>
    intro n
    have := ih (10 * n + (c.toNat - 48))
    show n ≤ spell (10 * n + (c.toNat - 48)) l
    omega
theorem parseM (M : Nat) (hM : M ≤ 18446744073709551615) : ∀ (l : List UInt8) (acc : Nat), (∀ c ∈ l, digitc c = true) → acc ≤ M → parseUintM M acc l = if spell acc l ≤ M then .ok (spell acc l) else .range := by
  intro l
  induction l with
  | nil => intro acc _ h; simp [parseUintM, spell, h]
  | cons c l ih =>
    intro acc hd h
    have hc : 48 ≤ c.toNat ∧ c.toNat ≤ 57 := by simpa [digitc] using hd c (by simp)
    have e : spell acc (c :: l) = spell (10 * acc + (c.toNat - 48)) l := rfl
    have hge := spell_ge l (10 * acc + (c.toNat - 48))
    rw [parseUintM, if_pos hc, e]
    by_cases h1 : 1844674407370955162 ≤ acc
    · rw [if_pos h1, if_neg (by omega)]
    · rw [if_neg h1]
      by_cases h2 : M < acc * 10 + (c.toNat - 48)
      · rw [if_pos h2, if_neg (by omega)]
      · rw [if_neg h2, show acc * 10 + (c.toNat - 48) = 10 * acc + (c.toNat - 48) by omega]
        exact ih _ (fun x hx => hd x (by simp [hx])) (by omega)
theorem parseB (l : List UInt8) (hl : l ≠ []) (hd : ∀ c ∈ l, digitc c = true) : parseUintB 64 l = if spell 0 l ≤ 18446744073709551615 then .ok (spell 0 l) else .range := by
  rw [parseUintB, if_neg hl]
  exact parseM _ (by omega) l 0 hd (by omega)
theorem takeWhile_mem (p : UInt8 → Bool) (l : List UInt8) : ∀ c ∈ l.takeWhile p, p c = true := by
  induction l with
  | nil => intro c hc; simp at hc
  | cons x l ih =>
    intro c hc
    cases hx : p x with
    | true =>
      rw [List.takeWhile_cons_of_pos hx] at hc
      rcases List.mem_cons.1 hc with rfl | hc
      · exact hx
      · exact ih c hc
    | false => rw [List.takeWhile_cons_of_neg (by rw [hx]; simp)] at hc; simp at hc
theorem takeWhile_take (p : UInt8 → Bool) (l : List UInt8) : l.take (l.takeWhile p).length = l.takeWhile p := by
  induction l with
  | nil => rfl
  | cons x l ih =>
    cases hx : p x with
    | true => rw [List.takeWhile_cons_of_pos hx, List.length_cons, List.take_succ_cons, ih]
    | false => rw [List.takeWhile_cons_of_neg (by rw [hx]; simp)]; rfl
end Go.Lx

/- The library's contracts at this dump, as the kit's tools lay-shelf and lay-plain write them: those that are used here. -/
namespace Go.Proofs
open Go.Shelf
def Tryz.laysC245_ren : Go.Shelf.Ren := ⟨fun | 245 => 51 | 279 => 62 | 280 => 63 | 281 => 64 | 282 => 65 | 316 => 75 | 171 => 77 | 205 => 76 | 243 => 88 | 246 => 96 | 283 => 97 | 284 => 98 | 285 => 99 | 286 => 100 | 129 => 102 | 317 => 101 | 318 => 103 | 319 => 104 | 320 => 105 | 337 => 106 | 338 => 107 | n => n, fun | 9 => 9 | 3 => 3 | 75 => 74 | 167 => 96 | 4 => 4 | 168 => 99 | 210 => 118 | 37 => 77 | 0 => 0 | 127 => 134 | 145 => 137 | 143 => 135 | 2 => 2 | 171 => 143 | 53 => 72 | 5 => 5 | 173 => 146 | 212 => 149 | 51 => 58 | 20 => 20 | 213 => 150 | 46 => 98 | 232 => 153 | 233 => 154 | 80 => 155 | n => n, fun | 15 => 1 | 16 => 2 | 17 => 3 | 18 => 4 | 19 => 5 | n => n⟩
theorem Tryz.laysC245 : Go.Proofs.LaysC.n245 Tryz.prog Tryz.laysC245_ren := {
  mixed := by kernel_rfl
  f129 := Tryz.func102.trans (congrArg some (by kernel_rfl))
  f171 := Tryz.func77.trans (congrArg some (by kernel_rfl))
  f205 := Tryz.func76.trans (congrArg some (by kernel_rfl))
  f243 := Tryz.func88.trans (congrArg some (by kernel_rfl))
  f245 := Tryz.func51.trans (congrArg some (by kernel_rfl))
  f246 := Tryz.func96.trans (congrArg some (by kernel_rfl))
  f279 := Tryz.func62.trans (congrArg some (by kernel_rfl))
  f280 := Tryz.func63.trans (congrArg some (by kernel_rfl))
  f281 := Tryz.func64.trans (congrArg some (by kernel_rfl))
  f282 := Tryz.func65.trans (congrArg some (by kernel_rfl))
  f283 := Tryz.func97.trans (congrArg some (by kernel_rfl))
  f284 := Tryz.func98.trans (congrArg some (by kernel_rfl))
  f285 := Tryz.func99.trans (congrArg some (by kernel_rfl))
  f286 := Tryz.func100.trans (congrArg some (by kernel_rfl))
  f316 := Tryz.func75.trans (congrArg some (by kernel_rfl))
  f317 := Tryz.func101.trans (congrArg some (by kernel_rfl))
  f318 := Tryz.func103.trans (congrArg some (by kernel_rfl))
  f319 := Tryz.func104.trans (congrArg some (by kernel_rfl))
  f320 := Tryz.func105.trans (congrArg some (by kernel_rfl))
  f337 := Tryz.func106.trans (congrArg some (by kernel_rfl))
  f338 := Tryz.func107.trans (congrArg some (by kernel_rfl))
  t0 := Tryz.underlying0
  a0 := Tryz.isAgg0
  z0 := Tryz.sizeOf0
  v0 := Tryz.zeroValue0
  t2 := Tryz.underlying2
  a2 := Tryz.isAgg2
  z2 := Tryz.sizeOf2
  v2 := Tryz.zeroValue2
  t3 := Tryz.underlying3
  a3 := Tryz.isAgg3
  z3 := Tryz.sizeOf3
  v3 := Tryz.zeroValue3
  t4 := Tryz.underlying4
  a4 := Tryz.isAgg4
  z4 := Tryz.sizeOf4
  v4 := Tryz.zeroValue4
  t5 := Tryz.underlying5
  a5 := Tryz.isAgg5
  z5 := Tryz.sizeOf5
  v5 := Tryz.zeroValue5
  t9 := Tryz.underlying9
  a9 := Tryz.isAgg9
  z9 := Tryz.sizeOf9
  v9 := Tryz.zeroValue9
  t20 := Tryz.underlying20
  a20 := Tryz.isAgg20
  z20 := Tryz.sizeOf20
  v20 := Tryz.zeroValue20
  t37 := Tryz.underlying77
  a37 := Tryz.isAgg77
  z37 := Tryz.sizeOf77
  v37 := Tryz.zeroValue77
  t46 := Tryz.underlying98
  a46 := Tryz.isAgg98
  z46 := Tryz.sizeOf98
  v46 := Tryz.zeroValue98
  t51 := Tryz.underlying58
  a51 := Tryz.isAgg58
  z51 := Tryz.sizeOf58
  v51 := Tryz.zeroValue58
  t53 := Tryz.underlying72
  a53 := Tryz.isAgg72
  z53 := Tryz.sizeOf72
  v53 := Tryz.zeroValue72
  t75 := Tryz.underlying74
  a75 := Tryz.isAgg74
  z75 := Tryz.sizeOf74
  v75 := Tryz.zeroValue74
  t127 := Tryz.underlying134
  a127 := Tryz.isAgg134
  z127 := Tryz.sizeOf134
  v127 := Tryz.zeroValue134
  t143 := Tryz.underlying135
  a143 := Tryz.isAgg135
  z143 := Tryz.sizeOf135
  v143 := Tryz.zeroValue135
  t145 := Tryz.underlying137
  a145 := Tryz.isAgg137
  z145 := Tryz.sizeOf137
  v145 := Tryz.zeroValue137
  t167 := Tryz.underlying96
  a167 := Tryz.isAgg96
  z167 := Tryz.sizeOf96
  v167 := Tryz.zeroValue96
  t168 := Tryz.underlying99
  a168 := Tryz.isAgg99
  z168 := Tryz.sizeOf99
  v168 := Tryz.zeroValue99
  t171 := Tryz.underlying143
  a171 := Tryz.isAgg143
  z171 := Tryz.sizeOf143
  v171 := Tryz.zeroValue143
  t173 := Tryz.underlying146
  a173 := Tryz.isAgg146
  z173 := Tryz.sizeOf146
  v173 := Tryz.zeroValue146
  t210 := Tryz.underlying118
  a210 := Tryz.isAgg118
  z210 := Tryz.sizeOf118
  v210 := Tryz.zeroValue118
  t212 := Tryz.underlying149
  a212 := Tryz.isAgg149
  z212 := Tryz.sizeOf149
  v212 := Tryz.zeroValue149
  t213 := Tryz.underlying150
  a213 := Tryz.isAgg150
  z213 := Tryz.sizeOf150
  t232 := Tryz.underlying153
  a232 := Tryz.isAgg153
  z232 := Tryz.sizeOf153
  v232 := Tryz.zeroValue153
  t233 := Tryz.underlying154
  a233 := Tryz.isAgg154
  z233 := Tryz.sizeOf154
  v233 := Tryz.zeroValue154
  g15 := by kernel_rfl
  g16 := by kernel_rfl
  g17 := by kernel_rfl
  g18 := by kernel_rfl
  g19 := by kernel_rfl
  t80 := Tryz.underlying155
  a80 := Tryz.isAgg155
  z80 := Tryz.sizeOf155
  v80 := Tryz.zeroValue155
  i0 := by kernel_rfl
  i2 := by kernel_rfl
  i3 := by kernel_rfl
  i4 := by kernel_rfl
  i5 := by kernel_rfl
  i9 := by kernel_rfl
  i20 := by kernel_rfl
  i37 := by kernel_rfl
  i46 := by kernel_rfl
  i51 := by kernel_rfl
  i53 := by kernel_rfl
  i75 := by kernel_rfl
  i80 := by kernel_rfl
  i127 := by kernel_rfl
  i143 := by kernel_rfl
  i145 := by kernel_rfl
  i167 := by kernel_rfl
  i168 := by kernel_rfl
  i171 := by kernel_rfl
  i173 := by kernel_rfl
  i210 := by kernel_rfl
  i212 := by kernel_rfl
  i232 := by kernel_rfl
  i233 := by kernel_rfl
  m15 := by kernel_rfl
  m16 := by kernel_rfl
  m17 := by kernel_rfl
  m18 := by kernel_rfl
  m19 := by kernel_rfl
  c0 := by kernel_rfl
  c2 := by kernel_rfl
  c3 := by kernel_rfl
  c4 := by kernel_rfl
  c5 := by kernel_rfl
  c9 := by kernel_rfl
  c20 := by kernel_rfl
  c37 := by kernel_rfl
  c46 := by kernel_rfl
  c51 := by kernel_rfl
  c53 := by kernel_rfl
  c75 := by kernel_rfl
  c80 := by kernel_rfl
  c127 := by kernel_rfl
  c143 := by kernel_rfl
  c145 := by kernel_rfl
  c167 := by kernel_rfl
  c168 := by kernel_rfl
  c171 := by kernel_rfl
  c173 := by kernel_rfl
  c210 := by kernel_rfl
  c212 := by kernel_rfl
  c213 := by kernel_rfl
  c232 := by kernel_rfl
  c233 := by kernel_rfl }
def Tryz.lays287_ren : Go.Shelf.Ren := ⟨fun | 287 => 50 | 321 => 60 | 322 => 61 | n => n, fun | 9 => 9 | 3 => 3 | 53 => 72 | 75 => 74 | 4 => 4 | 167 => 96 | 5 => 5 | 46 => 98 | 37 => 77 | 0 => 0 | 21 => 21 | 80 => 155 | n => n, fun | n => n⟩
theorem Tryz.lays287 : Go.Proofs.Lays.n287 Tryz.prog Tryz.lays287_ren := {
  mixed := by kernel_rfl
  f287 := Tryz.func50.trans (congrArg some (by kernel_rfl))
  f321 := Tryz.func60.trans (congrArg some (by kernel_rfl))
  f322 := Tryz.func61.trans (congrArg some (by kernel_rfl))
  t0 := Tryz.underlying0
  a0 := Tryz.isAgg0
  z0 := Tryz.sizeOf0
  v0 := Tryz.zeroValue0
  t3 := Tryz.underlying3
  a3 := Tryz.isAgg3
  z3 := Tryz.sizeOf3
  v3 := Tryz.zeroValue3
  t4 := Tryz.underlying4
  a4 := Tryz.isAgg4
  z4 := Tryz.sizeOf4
  v4 := Tryz.zeroValue4
  t5 := Tryz.underlying5
  a5 := Tryz.isAgg5
  z5 := Tryz.sizeOf5
  v5 := Tryz.zeroValue5
  t9 := Tryz.underlying9
  a9 := Tryz.isAgg9
  z9 := Tryz.sizeOf9
  v9 := Tryz.zeroValue9
  t21 := Tryz.underlying21
  a21 := Tryz.isAgg21
  z21 := Tryz.sizeOf21
  v21 := Tryz.zeroValue21
  t37 := Tryz.underlying77
  a37 := Tryz.isAgg77
  z37 := Tryz.sizeOf77
  v37 := Tryz.zeroValue77
  t46 := Tryz.underlying98
  a46 := Tryz.isAgg98
  z46 := Tryz.sizeOf98
  v46 := Tryz.zeroValue98
  t53 := Tryz.underlying72
  a53 := Tryz.isAgg72
  z53 := Tryz.sizeOf72
  v53 := Tryz.zeroValue72
  t75 := Tryz.underlying74
  a75 := Tryz.isAgg74
  z75 := Tryz.sizeOf74
  v75 := Tryz.zeroValue74
  t167 := Tryz.underlying96
  a167 := Tryz.isAgg96
  z167 := Tryz.sizeOf96
  v167 := Tryz.zeroValue96 }
open Go.RowKit in
theorem Tryz.strconv_toError_range (fn s : ByteArray) (base bits : Int) (ev : Value) (w : World) (hlim : s.size ≤ 281474976710656) (hv : w.cell? ⟨2, 0, none⟩ = some ev) (hev : ev = .nilIface ∨ ∃ te pe, ev = .iface te pe) :
    Calls Tryz.prog 51 #[.string fn, .string s, .int .i64 base, .int .i64 bits, .iface 96 (.int .i64 1)] w fun e w' => ∃ N, e = .returned (.iface 99 (.pointer (some ⟨N, 0, none⟩))) ∧ w.heap.size ≤ N ∧ w'.heap[N]? = some (.cells #[.string fn, .string s, ev] 118 (0, 0)) ∧ Below w.heap.size w w' := Any.strconv_toError_range Tryz.laysC245 fn s base bits ev w hlim hv hev
open Go.RowKit in
theorem Tryz.internal_strconv_ParseUint_10_at64 (t : ByteArray) (hmax : t.size ≤ 9223372036854775806) (w : World) :
    Calls Tryz.prog 50 #[.string t, .int .i64 10, .int .i64 64] w fun e w' => e = .returned (Lib.uintTupleM 96 18446744073709551615 (Lib.parseUintB 64 t.data.toList)) ∧ (w' = w ∨ w' = Lib.bytesWorld w 5 t) := Any.internal_strconv_ParseUint_10_at64 Tryz.lays287 t hmax w
end Go.Proofs

/- lex.number: what a call of it does, of any text that begins with a digit, of at most a million bytes. Conditions: the library's two errors of numbers as they were laid. -/
namespace Go.Proofs.YtannlhonjkhchaaGreatDoor
open Go.RowKit Go.Gw Go.Proofs.YtannlhonjkhchaaGreatDoorW.PrintWords
set_option linter.unusedVariables false
set_option linter.unusedSimpArgs false

/-- The library's two errors of numbers are there. -/
structure Errs (P : Program) (w : World) : Prop where
  syn : ∃ tp p, w.var? P "strconv.ErrSyntax" = some #[.iface tp p]
  rng : ∃ tp p, w.var? P "strconv.ErrRange" = some #[.iface tp p]
theorem Errs.below {P : Program} {w w' : World} (h : Errs P w) (hb : Below w.heap.size w w') : Errs P w' :=
  ⟨by obtain ⟨tp, p, h⟩ := h.syn; exact ⟨tp, p, var_below h hb⟩, by obtain ⟨tp, p, h⟩ := h.rng; exact ⟨tp, p, var_below h hb⟩⟩
/-- What ParseUint hands back of digits: the number, or some error. -/
def uintV (n : Nat) (v : Value) : Prop := if n ≤ 18446744073709551615 then v = .tuple #[.int .u64 n, .nilIface] else ∃ k t p, v = .tuple #[.int .u64 k, .iface t (.pointer (some p))]
set_option maxHeartbeats 1000000 in
set_option maxRecDepth 100000 in
theorem ParseUint_calls (s : ByteArray) (hs : s.size ≤ 1000000) (h1 : s.data.toList ≠ []) (hd : ∀ c ∈ s.data.toList, Lx.digitc c = true) (w : World) (E : Errs Tryz.prog w) :
    Calls Tryz.prog 40 #[.string s, .int .i64 10, .int .i64 64] w fun e w' => (∃ v, e = .returned v ∧ uintV (Lx.spell 0 s.data.toList) v) ∧ Below w.heap.size w w' := by
  have HE := Lib.hid E; clear E
  have hp := Lx.parseB _ h1 hd
  have HP := Lib.hid hp; clear hp hd h1
  have hI : Calls Tryz.prog 50 #[.string s, .int .i64 10, .int .i64 64] w fun e w' => e = .returned (Lib.uintTupleM 96 18446744073709551615 (Lib.parseUintB 64 s.data.toList)) ∧ Below w.heap.size w w' := by
    refine (Tryz.internal_strconv_ParseUint_10_at64 s (by omega) w).mono ?_
    rintro e w' ⟨rfl, rfl | rfl⟩
    · exact ⟨rfl, Below.refl _ _⟩
    · exact ⟨rfl, bytes_below (Below.refl _ _) (Nat.le_refl _) _ _⟩
  rw [HP.out] at hI
  by_cases hle : Lx.spell 0 s.data.toList ≤ 18446744073709551615
  · rw [if_pos hle] at hI
    have HI := Lib.hid hI; clear hI
    go_enter Tryz.func40, Tryz.ntmps40
    go_wp2_with fail
    refine HI.out.mono ?_
    rintro e w1 ⟨rfl, hb⟩
    have HB := Lib.hid hb; clear hb
    simp only [Lib.uintTupleM]
    go_wp2
    go_ret2
    exact ⟨⟨_, rfl, by unfold uintV; rw [if_pos hle]; rfl⟩, HB.out⟩
  · rw [if_neg hle] at hI
    have HI := Lib.hid hI; clear hI
    go_enter Tryz.func40, Tryz.ntmps40
    go_wp2_with fail
    refine HI.out.mono ?_
    rintro e w1 ⟨rfl, hb⟩
    have HB := Lib.hid hb; clear hb
    simp only [Lib.uintTupleM]
    obtain ⟨tp, p, hv⟩ := (HE.out.below HB.out).rng
    have h0 := World.var?_cell (show Tryz.prog.globalNamed "strconv.ErrRange" = some 2 by kernel_rfl) hv 0
    simp only [List.getElem?_toArray, List.getElem?_cons_zero] at h0
    go_wp2_with fail
    refine (Tryz.strconv_toError_range _ s 10 64 (.iface tp p) w1 (by omega) h0 (.inr ⟨tp, p, rfl⟩)).mono ?_
    rintro e w2 ⟨N, rfl, _, _, hb2⟩
    have HB2 := Lib.hid (HB.out.trans (hb2.mono HB.out.size)); clear hb2
    go_wp2
    go_ret2
    exact ⟨⟨_, rfl, by unfold uintV; rw [if_neg hle]; exact ⟨_, _, _, rfl⟩⟩, HB2.out⟩

/-- Three results, the first a variable's cells. -/
theorem results_cell3 {P : Program} {fn : Func} {p u v : Tmp} {ty : TypeId} (h : fn.results = #[.cell p ty, .tmp u, .tmp v]) (tmps : Array Value) (w : World) (g : Nat) (t : TypeId) (cs : Array Value) (fr : Nat × Nat) (d : TypeDesc)
    (hp : tmps.getD p undef = .pointer (some ⟨g, 0, none⟩)) (hg : w.heap[g]? = some (.cells cs t fr))
    (hu : P.underlying ty = some d) (hd : (match d with | .struct _ | .array _ _ => true | _ => false) = true) (hi : (P.info? ty).map (·.size) = some cs.size) :
    (results fn tmps).run P w = .ok (.tuple #[.agg cs, tmps.getD u undef, tmps.getD v undef]) w := by
  have hp' : tmps[p]?.getD undef = .pointer (some ⟨g, 0, none⟩) := by simpa using hp
  simp [results, h, hp', asAddr, run_loadVar_row w g t ty cs fr d hg hu hd hi]
/-- A token's cells. -/
def tokC (k : Nat) (t : List UInt8) (p : Nat × Nat) : Array Value := #[.int .i64 k, .string ⟨t.toArray⟩, .int .i64 p.1, .int .i64 p.2]
/-- What next (and number) hand back of a piece. -/
def pieceV : Lx.Piece → Value
  | .gap n => .tuple #[.agg (tokC 0 [] (0, 0)), .int .i64 n, .int .i64 0]
  | .tok k t n => .tuple #[.agg (tokC k t (0, 0)), .int .i64 n, .int .i64 0]
  | .bad e => .tuple #[.agg (tokC 0 [] (0, 0)), .int .i64 0, .int .i64 e]
theorem set4 {w : World} {B : Nat} {t : TypeId} {p q r o a b c d : Value} (h : w.heap[B]? = some (.cells #[p, q, r, o] t (0, 0))) :
    ((((w.setCell ⟨B, 0, none⟩ a).setCell ⟨B, 1, none⟩ b).setCell ⟨B, 2, none⟩ c).setCell ⟨B, 3, none⟩ d).heap[B]? = some (.cells #[a, b, c, d] t (0, 0)) :=
  (heap_set (heap_set (heap_set (heap_set h 0 a) 1 b) 2 c) 3 d).trans rfl
theorem below4 {w0 w : World} {B N : Nat} {a b c d : Value} (h : Below N w0 w) (hB : N ≤ B) :
    Below N w0 ((((w.setCell ⟨B, 0, none⟩ a).setCell ⟨B, 1, none⟩ b).setCell ⟨B, 2, none⟩ c).setCell ⟨B, 3, none⟩ d) :=
  (((h.setCell (p := ⟨B, 0, none⟩) hB _).setCell (p := ⟨B, 1, none⟩) hB _).setCell (p := ⟨B, 2, none⟩) hB _).setCell (p := ⟨B, 3, none⟩) hB _
theorem len_pos {p : UInt8 → Bool} {s : ByteArray} (h0 : 0 < s.size) (h : p (s[0]'h0) = true) : 1 ≤ len p s := by
  have hd := drop_at h0
  rw [List.drop_zero] at hd
  rw [len, hd]
  exact Lx.takeWhile_pos h
theorem len_le (p : UInt8 → Bool) (s : ByteArray) : len p s ≤ s.size := by
  rw [← data_length]
  exact (List.takeWhile_sublist p).length_le
theorem len_ext (p : UInt8 → Bool) (s : ByteArray) : (s.extract 0 (len p s)) = ⟨(s.data.toList.takeWhile p).toArray⟩ := by
  rw [ext_take, len, Lx.takeWhile_take]
set_option maxHeartbeats 2000000 in
set_option maxRecDepth 100000 in
theorem number_calls (s : ByteArray) (hs : s.size ≤ 1000000) (h0 : 0 < s.size) (hd : Lx.digitc (s[0]'h0) = true) (w : World) (E : Errs Tryz.prog w) :
    Calls Tryz.prog 27 #[.string s] w fun e w' => e = .returned (pieceV (Lx.number s.data.toList)) ∧ Below w.heap.size w w' := by
  have HE := Lib.hid E; clear E
  have eg : ∀ args w, (callFunc 26 args).run Tryz.prog w = .ok (.enter 26 args) w := enters_of Tryz.func26 (by kernel_rfl) rfl
  have hl1 := len_pos h0 hd
  have hl2 := len_le Lx.digitc s
  have HX := Lib.hid (len_ext Lx.digitc s)
  have hnum : Lx.number s.data.toList = if 1 < len Lx.digitc s ∧ (s[0]'h0).toNat = 48 then .bad 3 else if 9223372036854775807 < Lx.spell 0 (s.data.toList.takeWhile Lx.digitc) then .bad 2 else .tok 2 (s.data.toList.takeWhile Lx.digitc) (len Lx.digitc s) := by
    have hdr := drop_at h0
    rw [List.drop_zero] at hdr
    have hh : s.data.toList.head? = some 48 ↔ (s[0]'h0).toNat = 48 := by
      rw [hdr, List.head?_cons, Option.some.injEq, ← UInt8.toNat_inj]
      rfl
    unfold Lx.number
    simp only [hh]
    rfl
  have HN := Lib.hid hnum; clear hnum
  have hne : s.data.toList.takeWhile Lx.digitc ≠ [] := by
    intro e
    have : len Lx.digitc s = 0 := by rw [len, e]; rfl
    omega
  have HNE := Lib.hid hne; clear hne hd
  have HLen : Hid (len Lx.digitc s = (s.data.toList.takeWhile Lx.digitc).length) := rfl
  generalize hn : len Lx.digitc s = n at hl1 hl2 HX HN HLen
  have HRN := Lib.hid hn; clear hn
  go_enter Tryz.func27, Tryz.ntmps27
  go_wp2_with fail
  refine (run_calls 26 Lx.digitc eg digit_tests s hs _).mono ?_
  rintro e w1 ⟨rfl, rfl⟩
  rw [HRN.out]
  by_cases h3 : 1 < n ∧ (s[0]'h0).toNat = 48
  · rw [if_pos h3] at HN
    obtain ⟨h4, h5⟩ := h3
    have t2 : (((s[0]'h0).toNat : Int) == 48) = true := by simp [h5]
    have H5 := Lib.hid h5; clear h5
    go_wp2
    refine bodyPost_ret (results_cell3 rfl _ _ w.heap.size 33 (tokC 0 [] (0, 0)) (0, 0) _ rfl ?hg Tryz.underlying33 rfl (by kernel_rfl)) rfl ?_
    case hg => exact heap_new _ _
    exact ⟨by rw [HN.out]; rfl, (Below.refl _ _).alloc (Nat.le_refl _) _⟩
  · rw [if_neg h3] at HN
    have E2 : Hid (s.extract 0 n = ⟨(s.data.toList.takeWhile Lx.digitc).toArray⟩) := HX.out
    have hsz : (s.extract 0 n).size = n := by rw [ByteArray.size_extract]; omega
    have t0 : ¬ ((1 : Int) < (n : Int)) ∨ ((1 : Int) < (n : Int) ∧ (((s[0]'h0).toNat : Int) == 48) = false) := by
      by_cases h4 : 1 < n
      · exact .inr ⟨by omega, by simp; intro h5; exact h3 ⟨h4, by omega⟩⟩
      · exact .inl (by omega)
    clear h3
    have HPU : Hid (∀ w1, Errs Tryz.prog w1 → Calls Tryz.prog 40 #[.string (s.extract 0 n), .int .i64 10, .int .i64 64] w1 fun e w' => (∃ v, e = .returned v ∧ uintV (Lx.spell 0 (s.data.toList.takeWhile Lx.digitc)) v) ∧ Below w1.heap.size w1 w') := by
      intro w1 E1
      have h := ParseUint_calls (s.extract 0 n) (by omega) (by rw [E2.out]; exact HNE.out) (by rw [E2.out]; exact Lx.takeWhile_mem _ _) w1 E1
      rwa [show (s.extract 0 n).data.toList = s.data.toList.takeWhile Lx.digitc by rw [E2.out]] at h
    have goon : True := trivial
    rcases t0 with t0 | ⟨t0, t1⟩
    · go_wp2_with fail
      refine (HPU.out _ (HE.out.below ((Below.refl _ _).alloc (Nat.le_refl _) _))).mono ?_
      rintro e w2 ⟨⟨v, rfl, hv⟩, hb⟩
      have hw := (hb.block w.heap.size (by simp)).trans (heap_new _ _)
      have c0 : w2.cell? ⟨w.heap.size, 0, none⟩ = some (.int .i64 0) := by simp [World.cell?, hw]
      have c1 : w2.cell? ⟨w.heap.size, 1, none⟩ = some (.string ⟨#[]⟩) := by simp [World.cell?, hw]
      have c2 : w2.cell? ⟨w.heap.size, 2, none⟩ = some (.int .i64 0) := by simp [World.cell?, hw]
      have c3 : w2.cell? ⟨w.heap.size, 3, none⟩ = some (.int .i64 0) := by simp [World.cell?, hw]
      have f0 : ∀ j, w2.frozen? ⟨w.heap.size, j, none⟩ = false := by intro j; simp [World.frozen?, hw]
      have HW := Lib.hid hw
      have HB := Lib.hid (((Below.refl w.heap.size w).alloc (Nat.le_refl _) _).trans (hb.mono (by simp)))
      clear hb hw
      by_cases hle : Lx.spell 0 (s.data.toList.takeWhile Lx.digitc) ≤ 18446744073709551615
      · rw [uintV, if_pos hle] at hv
        subst hv
        by_cases hbig : 9223372036854775807 < Lx.spell 0 (s.data.toList.takeWhile Lx.digitc)
        · rw [if_pos hbig] at HN
          generalize Lx.spell 0 (s.data.toList.takeWhile Lx.digitc) = u at hle hbig
          have hbi : (9223372036854775807 : Int) < (u : Int) := by omega
          go_wp2
          refine bodyPost_ret (results_cell3 rfl _ _ w.heap.size 33 (tokC 0 [] (0, 0)) (0, 0) _ rfl ?hg Tryz.underlying33 rfl (by kernel_rfl)) rfl ?_
          case hg => exact set4 HW.out
          exact ⟨by rw [HN.out]; rfl, below4 HB.out (Nat.le_refl _)⟩
        · rw [if_neg hbig] at HN
          generalize Lx.spell 0 (s.data.toList.takeWhile Lx.digitc) = u at hle hbig
          have hbi : ¬ ((9223372036854775807 : Int) < (u : Int)) := by omega
          go_wp2
          rw [E2.out]
          refine bodyPost_ret (results_cell3 rfl _ _ w.heap.size 33 (tokC 2 (s.data.toList.takeWhile Lx.digitc) (0, 0)) (0, 0) _ rfl ?hg Tryz.underlying33 rfl (by kernel_rfl)) rfl ?_
          case hg => exact set4 HW.out
          exact ⟨by rw [HN.out]; rfl, below4 HB.out (Nat.le_refl _)⟩
      · rw [uintV, if_neg hle] at hv
        obtain ⟨kk, tt, pp, rfl⟩ := hv
        rw [if_pos (by omega)] at HN
        clear hle
        go_wp2
        refine bodyPost_ret (results_cell3 rfl _ _ w.heap.size 33 (tokC 0 [] (0, 0)) (0, 0) _ rfl ?hg Tryz.underlying33 rfl (by kernel_rfl)) rfl ?_
        case hg => exact set4 HW.out
        exact ⟨by rw [HN.out]; rfl, below4 HB.out (Nat.le_refl _)⟩
    · go_wp2_with fail
      refine (HPU.out _ (HE.out.below ((Below.refl _ _).alloc (Nat.le_refl _) _))).mono ?_
      rintro e w2 ⟨⟨v, rfl, hv⟩, hb⟩
      have hw := (hb.block w.heap.size (by simp)).trans (heap_new _ _)
      have c0 : w2.cell? ⟨w.heap.size, 0, none⟩ = some (.int .i64 0) := by simp [World.cell?, hw]
      have c1 : w2.cell? ⟨w.heap.size, 1, none⟩ = some (.string ⟨#[]⟩) := by simp [World.cell?, hw]
      have c2 : w2.cell? ⟨w.heap.size, 2, none⟩ = some (.int .i64 0) := by simp [World.cell?, hw]
      have c3 : w2.cell? ⟨w.heap.size, 3, none⟩ = some (.int .i64 0) := by simp [World.cell?, hw]
      have f0 : ∀ j, w2.frozen? ⟨w.heap.size, j, none⟩ = false := by intro j; simp [World.frozen?, hw]
      have HW := Lib.hid hw
      have HB := Lib.hid (((Below.refl w.heap.size w).alloc (Nat.le_refl _) _).trans (hb.mono (by simp)))
      clear hb hw
      by_cases hle : Lx.spell 0 (s.data.toList.takeWhile Lx.digitc) ≤ 18446744073709551615
      · rw [uintV, if_pos hle] at hv
        subst hv
        by_cases hbig : 9223372036854775807 < Lx.spell 0 (s.data.toList.takeWhile Lx.digitc)
        · rw [if_pos hbig] at HN
          generalize Lx.spell 0 (s.data.toList.takeWhile Lx.digitc) = u at hle hbig
          have hbi : (9223372036854775807 : Int) < (u : Int) := by omega
          go_wp2
          refine bodyPost_ret (results_cell3 rfl _ _ w.heap.size 33 (tokC 0 [] (0, 0)) (0, 0) _ rfl ?hg Tryz.underlying33 rfl (by kernel_rfl)) rfl ?_
          case hg => exact set4 HW.out
          exact ⟨by rw [HN.out]; rfl, below4 HB.out (Nat.le_refl _)⟩
        · rw [if_neg hbig] at HN
          generalize Lx.spell 0 (s.data.toList.takeWhile Lx.digitc) = u at hle hbig
          have hbi : ¬ ((9223372036854775807 : Int) < (u : Int)) := by omega
          go_wp2
          rw [E2.out]
          refine bodyPost_ret (results_cell3 rfl _ _ w.heap.size 33 (tokC 2 (s.data.toList.takeWhile Lx.digitc) (0, 0)) (0, 0) _ rfl ?hg Tryz.underlying33 rfl (by kernel_rfl)) rfl ?_
          case hg => exact set4 HW.out
          exact ⟨by rw [HN.out]; rfl, below4 HB.out (Nat.le_refl _)⟩
      · rw [uintV, if_neg hle] at hv
        obtain ⟨kk, tt, pp, rfl⟩ := hv
        rw [if_pos (by omega)] at HN
        clear hle
        go_wp2
        refine bodyPost_ret (results_cell3 rfl _ _ w.heap.size 33 (tokC 0 [] (0, 0)) (0, 0) _ rfl ?hg Tryz.underlying33 rfl (by kernel_rfl)) rfl ?_
        case hg => exact set4 HW.out
        exact ⟨by rw [HN.out]; rfl, below4 HB.out (Nat.le_refl _)⟩
end Go.Proofs.YtannlhonjkhchaaGreatDoor

/- lex's functions that the print does not take, in the print's form: each a Lean function with its contract. Conditions: each contract's own; 'Gl': the library's two errors of numbers as they were laid. -/
namespace Go.Proofs.YtannlhonjkhchaaGreatDoor.G
open Go.RowKit Go.Gw Go.Proofs.YtannlhonjkhchaaGreatDoorW.PrintWords
set_option linter.unusedVariables false
set_option linter.unusedSimpArgs false

/-- What is asked of the world. -/
structure Gl (w : World) : Prop where
  errs : Errs Tryz.prog w
theorem Gl.below {w w' : World} (h : Gl w) (hb : Below w.heap.size w w') : Gl w' := ⟨h.errs.below hb⟩
theorem drawn {w : World} : Drawn0 w w := Drawn0.refl w

def lex_run.f (a0 : ByteArray) (a1 : Nat) : Option Int :=
  if a0.size ≤ 1000000 then
    if a1 = 21 then some (len Lx.gapc a0 : Nat)
    else if a1 = 23 then some (len Lx.notLf a0 : Nat)
    else if a1 = 25 then some (len Lx.wordc a0 : Nat)
    else none
  else none
theorem lex_run.calls (a0 : ByteArray) (a1 : Nat) (r : Int) (w : World) (h : lex_run.f a0 a1 = some r) :
    Calls Tryz.prog 22 #[.string a0, .func (.func a1) #[] #[]] w fun e w' => e = .returned (.int .i64 r) ∧ Drawn0 w w' := by
  unfold lex_run.f at h
  split at h
  · rename_i hs
    split at h
    · rename_i ha
      subst ha
      cases h
      refine (run_calls 21 Lx.gapc (enters_of Tryz.func21 (by kernel_rfl) rfl) gap_tests a0 hs w).mono ?_
      rintro e w' ⟨rfl, rfl⟩
      exact ⟨rfl, drawn⟩
    · split at h
      · rename_i ha
        subst ha
        cases h
        refine (run_calls 23 Lx.notLf (enters_of Tryz.func23 (by kernel_rfl) rfl) hash_tests a0 hs w).mono ?_
        rintro e w' ⟨rfl, rfl⟩
        exact ⟨rfl, drawn⟩
      · split at h
        · rename_i ha
          subst ha
          cases h
          refine (run_calls 25 Lx.wordc (enters_of Tryz.func25 (by kernel_rfl) rfl) word_tests a0 hs w).mono ?_
          rintro e w' ⟨rfl, rfl⟩
          exact ⟨rfl, drawn⟩
        · cases h
  · cases h

/-- What number and next hand back: kind, text, place, size, error. -/
def pieceT : Lx.Piece → Int × ByteArray × Int × Int × Int × Int
  | .gap n => (0, ⟨#[]⟩, 0, 0, n, 0)
  | .tok k t n => (k, ⟨t.toArray⟩, 0, 0, n, 0)
  | .bad e => (0, ⟨#[]⟩, 0, 0, 0, e)
theorem pieceV_T (p : Lx.Piece) : pieceV p = .tuple #[.agg #[.int .i64 (pieceT p).1, .string (pieceT p).2.1, .int .i64 (pieceT p).2.2.1, .int .i64 (pieceT p).2.2.2.1], .int .i64 (pieceT p).2.2.2.2.1, .int .i64 (pieceT p).2.2.2.2.2] := by
  cases p <;> rfl
def lex_number.f (a0 : ByteArray) : Option (Int × ByteArray × Int × Int × Int × Int) :=
  if h : 0 < a0.size ∧ a0.size ≤ 1000000 then if Lx.digitc (a0[0]'h.1) = true then some (pieceT (Lx.number a0.data.toList)) else none else none
theorem lex_number.calls (a0 : ByteArray) (r1 : Int) (r2 : ByteArray) (r3 r4 r5 r6 : Int) (w : World) (hgl : Gl w) (h : lex_number.f a0 = some (r1, r2, r3, r4, r5, r6)) :
    Calls Tryz.prog 27 #[.string a0] w fun e w' => e = .returned (.tuple #[.agg #[.int .i64 r1, .string r2, .int .i64 r3, .int .i64 r4], .int .i64 r5, .int .i64 r6]) ∧ Below w.heap.size w w' := by
  unfold lex_number.f at h
  split at h
  · rename_i hs
    split at h
    · rename_i hd
      have h' := Option.some.inj h
      refine (number_calls a0 hs.2 hs.1 hd w hgl.errs).mono ?_
      rintro e w' ⟨rfl, hb⟩
      refine ⟨?_, hb⟩
      rw [pieceV_T, h']
    · cases h
  · cases h

def quotedT : Option (List UInt8 × Nat) → ByteArray × Int
  | none => (⟨#[]⟩, 0)
  | some (t, n) => (⟨t.toArray⟩, (n + 1 : Nat))
theorem quotedV_T (p : Option (List UInt8 × Nat)) : quotedV p = .tuple #[.string (quotedT p).1, .int .i64 (quotedT p).2] := by
  rcases p with _ | ⟨t, n⟩ <;> rfl
def lex_quoted.f (a0 : ByteArray) : Option (ByteArray × Int) := if 1 ≤ a0.size ∧ a0.size ≤ 1000000 then some (quotedT (Lx.quoted (a0.data.toList.drop 1))) else none
theorem lex_quoted.calls (a0 : ByteArray) (r1 : ByteArray) (r2 : Int) (w : World) (h : lex_quoted.f a0 = some (r1, r2)) :
    Calls Tryz.prog 28 #[.string a0] w fun e w' => e = .returned (.tuple #[.string r1, .int .i64 r2]) ∧ Below w.heap.size w w' := by
  unfold lex_quoted.f at h
  split at h
  · rename_i hs
    have h' := Option.some.inj h
    refine (quoted_calls a0 hs.2 hs.1 w).mono ?_
    rintro e w' ⟨rfl, hb⟩
    refine ⟨?_, hb⟩
    rw [quotedV_T, h']
  · cases h

def lex_Quote.f (a0 : ByteArray) : Option ByteArray := if a0.size ≤ 1000000 then some (quoteS a0) else none
theorem lex_Quote.calls (a0 : ByteArray) (r : ByteArray) (w : World) (h : lex_Quote.f a0 = some r) :
    Calls Tryz.prog 12 #[.string a0] w fun e w' => e = .returned (.string r) ∧ Below w.heap.size w w' := by
  unfold lex_Quote.f at h
  split at h
  · rename_i hs
    cases h
    exact Quote_calls a0 hs w
  · cases h
def bloomeryref09_Quote.f (a0 : ByteArray) : Option ByteArray := if a0.size ≤ 1000000 then some (quoteS a0) else none
theorem bloomeryref09_Quote.calls (a0 : ByteArray) (r : ByteArray) (w : World) (h : bloomeryref09_Quote.f a0 = some r) :
    Calls Tryz.prog 13 #[.string a0] w fun e w' => e = .returned (.string r) ∧ Below w.heap.size w w' := by
  unfold bloomeryref09_Quote.f at h
  split at h
  · rename_i hs
    cases h
    exact RefQuote_calls a0 hs w
  · cases h

def strings_IndexByte.f (a0 : ByteArray) (a1 : Int) : Option Int := if 0 ≤ a1 then some (Lib.indexByte a0.data.toList a1.toNat.toUInt8) else none
theorem strings_IndexByte.calls (a0 : ByteArray) (a1 : Int) (r : Int) (w : World) (h : strings_IndexByte.f a0 a1 = some r) :
    Calls Tryz.prog 30 #[.string a0, .int .u8 a1] w fun e w' => e = .returned (.int .i64 r) ∧ Drawn0 w w' := by
  unfold strings_IndexByte.f at h
  split at h
  · rename_i hs
    cases h
    obtain ⟨n, rfl⟩ : ∃ n : Nat, a1 = n := ⟨a1.toNat, by omega⟩
    refine (Tryz.strings_IndexByte a0 n w).mono ?_
    rintro e w' ⟨rfl, rfl⟩
    exact ⟨rfl, drawn⟩
  · cases h
def strings_Count.f (a0 : ByteArray) (a1 : ByteArray) : Option Int := match a1.data.toList with
  | [c] => some (Lib.countByte a0.data.toList c)
  | _ => none
theorem strings_Count.calls (a0 a1 : ByteArray) (r : Int) (w : World) (h : strings_Count.f a0 a1 = some r) :
    Calls Tryz.prog 31 #[.string a0, .string a1] w fun e w' => e = .returned (.int .i64 r) ∧ Drawn0 w w' := by
  unfold strings_Count.f at h
  split at h
  · rename_i c hc
    cases h
    obtain rfl : a1 = ⟨#[c]⟩ := str_ext hc
    refine (Tryz.strings_Count_one a0 c w).mono ?_
    rintro e w' ⟨rfl, rfl⟩
    exact ⟨rfl, drawn⟩
  · cases h
end Go.Proofs.YtannlhonjkhchaaGreatDoor.G

/- Go functions as Lean functions, each with its contract: written by a program of mine over the kit's print. Conditions: each contract's own. -/
namespace Go.Proofs.YtannlhonjkhchaaGreatDoor.G
open Go.RowKit Go.Proofs.YtannlhonjkhchaaGreatDoorW.PrintWords Go.Proofs.YtannlhonjkhchaaGreatDoorW.PrintLast Go.Proofs.YtannlhonjkhchaaGreatDoorW.PrintMore
attribute [local go_sem] max2_int min2_int max_two min_two max_three min_three max_four min_four   -- for this text's walks alone
set_option linter.unusedVariables false
set_option linter.unusedSimpArgs false



def errW : Option Int → Value
 | none => .nilIface
 | some c => .iface 0 (.int .i64 c)
theorem errW_none : errW none = .nilIface := rfl
theorem errW_some (c : Int) : errW (some c) = .iface 0 (.int .i64 c) := rfl

theorem info5 : (Tryz.prog.info? 5).map (fun i => (i.zero, i.size, i.bytes)) = some (some (.int .u8 0), 1, 1) := by kernel_rfl
theorem info33 : (Tryz.prog.info? 33).map (fun i => (i.zero, i.size, i.bytes)) = some (some (.agg #[(.int .i64 0), (.string ⟨#[]⟩), (.int .i64 0), (.int .i64 0)]), 4, 40) := by kernel_rfl
-- the values' own types
/-! #### struct type 26 -/
structure S26 where
 f0 : Int
 f1 : Int
def z26 : S26 := ⟨(0 : Int), (0 : Int)⟩
def k26 : Kd S26 := Kd.iso (Kd.pair (Kd.int .i64) (Kd.int .i64)) (fun x : S26 => (x.f0, x.f1))
theorem k26_open {w : World} {x : S26} {cs : List Value} (h : k26.K w x cs) : cs = [.int .i64 x.f0, .int .i64 x.f1] := by
 obtain ⟨_, _, rfl, rfl, rfl⟩ := h
 exact rfl
theorem k26_openM {w : World} {base : Nat} {ok : Nat → Prop} {x : S26} {cs : List Value} (h : k26.M w base ok x cs) : cs = [.int .i64 x.f0, .int .i64 x.f1] := by
 obtain ⟨_, _, rfl, rfl, rfl⟩ := h
 exact rfl
theorem k26_mk (w : World) (x : S26)  : k26.K w x [.int .i64 x.f0, .int .i64 x.f1] := ⟨[.int .i64 x.f0], [.int .i64 x.f1], rfl, rfl, rfl⟩
theorem k26_mkM (w : World) (base : Nat) (ok : Nat → Prop) (x : S26)  : k26.M w base ok x [.int .i64 x.f0, .int .i64 x.f1] := ⟨[.int .i64 x.f0], [.int .i64 x.f1], rfl, rfl, rfl⟩
def rd_T26 (xs : List S26) (i : Int) : S26 := xs.getD i.toNat z26
theorem at_T26 {w : World} {A : Option Addr} {n : Nat} {xs : List S26} (h : Kd.C k26 w A n xs) (i : Int) (h0 : 0 ≤ i) (h1 : i < n) : ∃ ad , A = some ad ∧ w.cell? (ad.add (i.toNat * 2)) = some (.int .i64 (rd_T26 xs i).f0) ∧ w.cell? ⟨(ad.add (i.toNat * 2)).block, (ad.add (i.toNat * 2)).off + 1, none⟩ = some (.int .i64 (rd_T26 xs i).f1) := by
 obtain ⟨ad, c, e, _, hK, hc0⟩ := Kd.C_get h z26 i h0 h1
 have hc : ∀ j u, c[j]? = some u → w.cell? (ad.add (i.toNat * 2 + j)) = some u := hc0
 obtain rfl := k26_open hK
 exact ⟨ad, e, hc 0 _ rfl, by rw [← add_field _ _ 1 (by omega)]; exact hc 1 _ rfl⟩

/-! #### struct type 33 -/
structure S33 where
 f0 : Int
 f1 : ByteArray
 f2 : S26
def z33 : S33 := ⟨(0 : Int), (⟨#[]⟩ : ByteArray), z26⟩
def k33 : Kd S33 := Kd.iso (Kd.pair (Kd.int .i64) (Kd.pair Kd.string k26)) (fun x : S33 => (x.f0, x.f1, x.f2))
theorem k33_open {w : World} {x : S33} {cs : List Value} (h : k33.K w x cs) : cs = [.int .i64 x.f0, .string x.f1, .int .i64 x.f2.f0, .int .i64 x.f2.f1] := by
 obtain ⟨_, _, rfl, rfl, ⟨_, _, rfl, rfl, s2⟩⟩ := h
 obtain rfl := k26_open s2
 exact rfl
theorem k33_openM {w : World} {base : Nat} {ok : Nat → Prop} {x : S33} {cs : List Value} (h : k33.M w base ok x cs) : cs = [.int .i64 x.f0, .string x.f1, .int .i64 x.f2.f0, .int .i64 x.f2.f1] := by
 obtain ⟨_, _, rfl, rfl, ⟨_, _, rfl, rfl, s2⟩⟩ := h
 obtain rfl := k26_openM s2
 exact rfl
theorem k33_mk (w : World) (x : S33)  : k33.K w x [.int .i64 x.f0, .string x.f1, .int .i64 x.f2.f0, .int .i64 x.f2.f1] := ⟨[.int .i64 x.f0], [.string x.f1, .int .i64 x.f2.f0, .int .i64 x.f2.f1], rfl, rfl, ⟨[.string x.f1], [.int .i64 x.f2.f0, .int .i64 x.f2.f1], rfl, rfl, (k26_mk w x.f2 )⟩⟩
theorem k33_mkM (w : World) (base : Nat) (ok : Nat → Prop) (x : S33)  : k33.M w base ok x [.int .i64 x.f0, .string x.f1, .int .i64 x.f2.f0, .int .i64 x.f2.f1] := ⟨[.int .i64 x.f0], [.string x.f1, .int .i64 x.f2.f0, .int .i64 x.f2.f1], rfl, rfl, ⟨[.string x.f1], [.int .i64 x.f2.f0, .int .i64 x.f2.f1], rfl, rfl, (k26_mkM w base ok x.f2 )⟩⟩
def rd_T33 (xs : List S33) (i : Int) : S33 := xs.getD i.toNat z33
theorem at_T33 {w : World} {A : Option Addr} {n : Nat} {xs : List S33} (h : Kd.C k33 w A n xs) (i : Int) (h0 : 0 ≤ i) (h1 : i < n) : ∃ ad , A = some ad ∧ w.cell? (ad.add (i.toNat * 4)) = some (.int .i64 (rd_T33 xs i).f0) ∧ w.cell? ⟨(ad.add (i.toNat * 4)).block, (ad.add (i.toNat * 4)).off + 1, none⟩ = some (.string (rd_T33 xs i).f1) ∧ w.cell? ⟨(ad.add (i.toNat * 4)).block, (ad.add (i.toNat * 4)).off + 2, none⟩ = some (.int .i64 (rd_T33 xs i).f2.f0) ∧ w.cell? ⟨(ad.add (i.toNat * 4)).block, (ad.add (i.toNat * 4)).off + 3, none⟩ = some (.int .i64 (rd_T33 xs i).f2.f1) := by
 obtain ⟨ad, c, e, _, hK, hc0⟩ := Kd.C_get h z33 i h0 h1
 have hc : ∀ j u, c[j]? = some u → w.cell? (ad.add (i.toNat * 4 + j)) = some u := hc0
 obtain rfl := k33_open hK
 exact ⟨ad, e, hc 0 _ rfl, by rw [← add_field _ _ 1 (by omega)]; exact hc 1 _ rfl, by rw [← add_field _ _ 2 (by omega)]; exact hc 2 _ rfl, by rw [← add_field _ _ 3 (by omega)]; exact hc 3 _ rfl⟩

end Go.Proofs.YtannlhonjkhchaaGreatDoor.G

/- Go functions as Lean functions, each with its contract: written by a program of mine over the kit's print. Conditions: each contract's own. -/
namespace Go.Proofs.YtannlhonjkhchaaGreatDoor.G
open Go.RowKit Go.Proofs.YtannlhonjkhchaaGreatDoorW.PrintWords Go.Proofs.YtannlhonjkhchaaGreatDoorW.PrintLast Go.Proofs.YtannlhonjkhchaaGreatDoorW.PrintMore
attribute [local go_sem] max2_int min2_int max_two min_two max_three min_three max_four min_four   -- for this text's walks alone
set_option linter.unusedVariables false
set_option linter.unusedSimpArgs false

/-! ### lex_gap: function 21 -/
def lex_gap.f (a0 : Int) : Option (Bool) := if a0 = 32 then (some true) else (if a0 = 9 then (some true) else (if a0 = 10 then (some true) else (some (a0 == 13))))
set_option maxHeartbeats 8000000 in
set_option maxRecDepth 100000 in
theorem lex_gap.calls (a0 : Int) (r : Bool) (w : World) (h : lex_gap.f a0 = some r) :
  Calls Tryz.prog 21 #[.int .u8 a0] w fun e w' => e = .returned (.bool r) ∧ Drawn0 w w' := by
 have H : (if a0 = 32 then (some true) else (if a0 = 9 then (some true) else (if a0 = 10 then (some true) else (some (a0 == 13))))) = some r := h
 clear h
 by_cases c2 : a0 = 32
 ·rw [if_pos c2] at H
  have c2b0 : (a0 == 32) = true := beq_iff_eq.mpr c2
  have c2b1 : (a0 != 32) = false := bne_eq_false_iff_eq.mpr c2
  clear c2
  obtain rfl := Option.some.inj H
  go_enter Tryz.func21, Tryz.ntmps21
  go_wp2
  go_ret
  exact ⟨by first | rfl | (simp; done) | (simp [*]; done), by repeat (first | exact Drawn0.refl _ | apply Drawn0.step)⟩
 ·rw [if_neg c2] at H
  have c2b0 : (a0 == 32) = false := beq_eq_false_iff_ne.mpr c2
  have c2b1 : (a0 != 32) = true := bne_iff_ne.mpr c2
  by_cases c3 : a0 = 9
  ·rw [if_pos c3] at H
   have c3b0 : (a0 == 9) = true := beq_iff_eq.mpr c3
   have c3b1 : (a0 != 9) = false := bne_eq_false_iff_eq.mpr c3
   clear c3
   obtain rfl := Option.some.inj H
   go_enter Tryz.func21, Tryz.ntmps21
   go_wp2
   go_ret
   exact ⟨by first | rfl | (simp; done) | (simp [*]; done), by repeat (first | exact Drawn0.refl _ | apply Drawn0.step)⟩
  ·rw [if_neg c3] at H
   have c3b0 : (a0 == 9) = false := beq_eq_false_iff_ne.mpr c3
   have c3b1 : (a0 != 9) = true := bne_iff_ne.mpr c3
   by_cases c4 : a0 = 10
   ·rw [if_pos c4] at H
    have c4b0 : (a0 == 10) = true := beq_iff_eq.mpr c4
    have c4b1 : (a0 != 10) = false := bne_eq_false_iff_eq.mpr c4
    clear c4
    obtain rfl := Option.some.inj H
    go_enter Tryz.func21, Tryz.ntmps21
    go_wp2
    go_ret
    exact ⟨by first | rfl | (simp; done) | (simp [*]; done), by repeat (first | exact Drawn0.refl _ | apply Drawn0.step)⟩
   ·rw [if_neg c4] at H
    have c4b0 : (a0 == 10) = false := beq_eq_false_iff_ne.mpr c4
    have c4b1 : (a0 != 10) = true := bne_iff_ne.mpr c4
    obtain rfl := Option.some.inj H
    go_enter Tryz.func21, Tryz.ntmps21
    go_wp2
    go_ret
    exact ⟨by first | rfl | (simp; done) | (simp [*]; done), by repeat (first | exact Drawn0.refl _ | apply Drawn0.step)⟩

end Go.Proofs.YtannlhonjkhchaaGreatDoor.G

/- Go functions as Lean functions, each with its contract: written by a program of mine over the kit's print. Conditions: each contract's own. -/
namespace Go.Proofs.YtannlhonjkhchaaGreatDoor.G
open Go.RowKit Go.Proofs.YtannlhonjkhchaaGreatDoorW.PrintWords Go.Proofs.YtannlhonjkhchaaGreatDoorW.PrintLast Go.Proofs.YtannlhonjkhchaaGreatDoorW.PrintMore
attribute [local go_sem] max2_int min2_int max_two min_two max_three min_three max_four min_four   -- for this text's walks alone
set_option linter.unusedVariables false
set_option linter.unusedSimpArgs false

/-! ### lex_letter: function 24 -/
def lex_letter.f (a0 : Int) : Option (Bool) := if a0 ≥ 97 then (if a0 ≤ 122 then (some true) else (if a0 ≥ 65 then (if a0 ≤ 90 then (some true) else (some (a0 == 95))) else (some (a0 == 95)))) else (if a0 ≥ 65 then (if a0 ≤ 90 then (some true) else (some (a0 == 95))) else (some (a0 == 95)))
set_option maxHeartbeats 8000000 in
set_option maxRecDepth 100000 in
theorem lex_letter.calls (a0 : Int) (r : Bool) (w : World) (h : lex_letter.f a0 = some r) :
  Calls Tryz.prog 24 #[.int .u8 a0] w fun e w' => e = .returned (.bool r) ∧ Drawn0 w w' := by
 have H : (if a0 ≥ 97 then (if a0 ≤ 122 then (some true) else (if a0 ≥ 65 then (if a0 ≤ 90 then (some true) else (some (a0 == 95))) else (some (a0 == 95)))) else (if a0 ≥ 65 then (if a0 ≤ 90 then (some true) else (some (a0 == 95))) else (some (a0 == 95)))) = some r := h
 clear h
 by_cases c2 : a0 ≥ 97
 ·rw [if_pos c2] at H
  have c2b0 : decide (97 ≤ a0) = true := decide_eq_true c2
  clear c2
  by_cases c3 : a0 ≤ 122
  ·rw [if_pos c3] at H
   have c3b0 : decide (a0 ≤ 122) = true := decide_eq_true c3
   clear c3
   obtain rfl := Option.some.inj H
   go_enter Tryz.func24, Tryz.ntmps24
   go_wp2
   go_ret
   exact ⟨by first | rfl | (simp; done) | (simp [*]; done), by repeat (first | exact Drawn0.refl _ | apply Drawn0.step)⟩
  ·rw [if_neg c3] at H
   have c3b0 : decide (a0 ≤ 122) = false := decide_eq_false c3
   clear c3
   by_cases c4 : a0 ≥ 65
   ·rw [if_pos c4] at H
    have c4b0 : decide (65 ≤ a0) = true := decide_eq_true c4
    clear c4
    by_cases c5 : a0 ≤ 90
    ·rw [if_pos c5] at H
     have c5b0 : decide (a0 ≤ 90) = true := decide_eq_true c5
     clear c5
     obtain rfl := Option.some.inj H
     go_enter Tryz.func24, Tryz.ntmps24
     go_wp2
     go_ret
     exact ⟨by first | rfl | (simp; done) | (simp [*]; done), by repeat (first | exact Drawn0.refl _ | apply Drawn0.step)⟩
    ·rw [if_neg c5] at H
     have c5b0 : decide (a0 ≤ 90) = false := decide_eq_false c5
     clear c5
     obtain rfl := Option.some.inj H
     go_enter Tryz.func24, Tryz.ntmps24
     go_wp2
     go_ret
     exact ⟨by first | rfl | (simp; done) | (simp [*]; done), by repeat (first | exact Drawn0.refl _ | apply Drawn0.step)⟩
   ·rw [if_neg c4] at H
    have c4b0 : decide (65 ≤ a0) = false := decide_eq_false c4
    clear c4
    obtain rfl := Option.some.inj H
    go_enter Tryz.func24, Tryz.ntmps24
    go_wp2
    go_ret
    exact ⟨by first | rfl | (simp; done) | (simp [*]; done), by repeat (first | exact Drawn0.refl _ | apply Drawn0.step)⟩
 ·rw [if_neg c2] at H
  have c2b0 : decide (97 ≤ a0) = false := decide_eq_false c2
  clear c2
  by_cases c6 : a0 ≥ 65
  ·rw [if_pos c6] at H
   have c6b0 : decide (65 ≤ a0) = true := decide_eq_true c6
   clear c6
   by_cases c7 : a0 ≤ 90
   ·rw [if_pos c7] at H
    have c7b0 : decide (a0 ≤ 90) = true := decide_eq_true c7
    clear c7
    obtain rfl := Option.some.inj H
    go_enter Tryz.func24, Tryz.ntmps24
    go_wp2
    go_ret
    exact ⟨by first | rfl | (simp; done) | (simp [*]; done), by repeat (first | exact Drawn0.refl _ | apply Drawn0.step)⟩
   ·rw [if_neg c7] at H
    have c7b0 : decide (a0 ≤ 90) = false := decide_eq_false c7
    clear c7
    obtain rfl := Option.some.inj H
    go_enter Tryz.func24, Tryz.ntmps24
    go_wp2
    go_ret
    exact ⟨by first | rfl | (simp; done) | (simp [*]; done), by repeat (first | exact Drawn0.refl _ | apply Drawn0.step)⟩
  ·rw [if_neg c6] at H
   have c6b0 : decide (65 ≤ a0) = false := decide_eq_false c6
   clear c6
   obtain rfl := Option.some.inj H
   go_enter Tryz.func24, Tryz.ntmps24
   go_wp2
   go_ret
   exact ⟨by first | rfl | (simp; done) | (simp [*]; done), by repeat (first | exact Drawn0.refl _ | apply Drawn0.step)⟩

end Go.Proofs.YtannlhonjkhchaaGreatDoor.G

/- Go functions as Lean functions, each with its contract: written by a program of mine over the kit's print. Conditions: each contract's own. -/
namespace Go.Proofs.YtannlhonjkhchaaGreatDoor.G
open Go.RowKit Go.Proofs.YtannlhonjkhchaaGreatDoorW.PrintWords Go.Proofs.YtannlhonjkhchaaGreatDoorW.PrintLast Go.Proofs.YtannlhonjkhchaaGreatDoorW.PrintMore
attribute [local go_sem] max2_int min2_int max_two min_two max_three min_three max_four min_four   -- for this text's walks alone
set_option linter.unusedVariables false
set_option linter.unusedSimpArgs false

/-! ### lex_digit: function 26 -/
def lex_digit.f (a0 : Int) : Option (Bool) := if a0 ≥ 48 then (some (decide (a0 ≤ 57))) else (some false)
set_option maxHeartbeats 8000000 in
set_option maxRecDepth 100000 in
theorem lex_digit.calls (a0 : Int) (r : Bool) (w : World) (h : lex_digit.f a0 = some r) :
  Calls Tryz.prog 26 #[.int .u8 a0] w fun e w' => e = .returned (.bool r) ∧ Drawn0 w w' := by
 have H : (if a0 ≥ 48 then (some (decide (a0 ≤ 57))) else (some false)) = some r := h
 clear h
 by_cases c2 : a0 ≥ 48
 ·rw [if_pos c2] at H
  have c2b0 : decide (48 ≤ a0) = true := decide_eq_true c2
  clear c2
  obtain rfl := Option.some.inj H
  go_enter Tryz.func26, Tryz.ntmps26
  go_wp2
  go_ret
  exact ⟨by first | rfl | (simp; done) | (simp [*]; done), by repeat (first | exact Drawn0.refl _ | apply Drawn0.step)⟩
 ·rw [if_neg c2] at H
  have c2b0 : decide (48 ≤ a0) = false := decide_eq_false c2
  clear c2
  obtain rfl := Option.some.inj H
  go_enter Tryz.func26, Tryz.ntmps26
  go_wp2
  go_ret
  exact ⟨by first | rfl | (simp; done) | (simp [*]; done), by repeat (first | exact Drawn0.refl _ | apply Drawn0.step)⟩

end Go.Proofs.YtannlhonjkhchaaGreatDoor.G

/- Go functions as Lean functions, each with its contract: written by a program of mine over the kit's print. Conditions: each contract's own. -/
namespace Go.Proofs.YtannlhonjkhchaaGreatDoor.G
open Go.RowKit Go.Proofs.YtannlhonjkhchaaGreatDoorW.PrintWords Go.Proofs.YtannlhonjkhchaaGreatDoorW.PrintLast Go.Proofs.YtannlhonjkhchaaGreatDoorW.PrintMore
attribute [local go_sem] max2_int min2_int max_two min_two max_three min_three max_four min_four   -- for this text's walks alone
set_option linter.unusedVariables false
set_option linter.unusedSimpArgs false

/-! ### stringslite_HasPrefix: function 41 -/
def stringslite_HasPrefix.f (a0 : ByteArray) (a1 : ByteArray) : Option (Bool) := if (a0.size : Int) ≥ (a1.size : Int) then (if 0 ≤ (a1.size : Int) then (if (a1.size : Int) ≤ (a0.size : Int) then (some ((a0.extract 0 ((a1.size : Int) : Int).toNat).toList == a1.toList)) else (none)) else (none)) else (some false)
set_option maxHeartbeats 8000000 in
set_option maxRecDepth 100000 in
theorem stringslite_HasPrefix.calls (a0 : ByteArray) (a1 : ByteArray) (r : Bool) (w : World) (h : stringslite_HasPrefix.f a0 a1 = some r) :
  Calls Tryz.prog 41 #[.string a0, .string a1] w fun e w' => e = .returned (.bool r) ∧ Drawn0 w w' := by
 have H : (if (a0.size : Int) ≥ (a1.size : Int) then (if 0 ≤ (a1.size : Int) then (if (a1.size : Int) ≤ (a0.size : Int) then (some ((a0.extract 0 ((a1.size : Int) : Int).toNat).toList == a1.toList)) else (none)) else (none)) else (some false)) = some r := h
 clear h
 by_cases c3 : (a0.size : Int) ≥ (a1.size : Int)
 ·rw [if_pos c3] at H
  have c3b0 : decide ((a1.size : Int) ≤ (a0.size : Int)) = true := decide_eq_true c3
  have c3b1 : decide (a1.size ≤ a0.size) = true := decide_eq_true (Int.ofNat_le.mp c3)
  clear c3
  by_cases c4 : 0 ≤ (a1.size : Int)
  ·rw [if_pos c4] at H
   have c4b0 := eq_true c4
   have c4b1 : decide (0 ≤ (a1.size : Int)) = true := decide_eq_true c4
   clear c4
   by_cases c5 : (a1.size : Int) ≤ (a0.size : Int)
   ·rw [if_pos c5] at H
    have c5b0 := eq_true c5
    have c5b1 : decide ((a1.size : Int) ≤ (a0.size : Int)) = true := decide_eq_true c5
    clear c5
    obtain rfl := Option.some.inj H
    go_enter Tryz.func41, Tryz.ntmps41
    go_wp2
    go_ret
    exact ⟨by first | rfl | (simp; done) | (simp [*]; done), by repeat (first | exact Drawn0.refl _ | apply Drawn0.step)⟩
   ·rw [if_neg c5] at H
    exact absurd H (by simp)
  ·rw [if_neg c4] at H
   exact absurd H (by simp)
 ·rw [if_neg c3] at H
  have c3b0 : decide ((a1.size : Int) ≤ (a0.size : Int)) = false := decide_eq_false c3
  have c3b1 : decide (a1.size ≤ a0.size) = false := decide_eq_false (fun h => c3 (Int.ofNat_le.mpr h))
  clear c3
  obtain rfl := Option.some.inj H
  go_enter Tryz.func41, Tryz.ntmps41
  go_wp2
  go_ret
  exact ⟨by first | rfl | (simp; done) | (simp [*]; done), by repeat (first | exact Drawn0.refl _ | apply Drawn0.step)⟩

end Go.Proofs.YtannlhonjkhchaaGreatDoor.G

/- Go functions as Lean functions, each with its contract: written by a program of mine over the kit's print. Conditions: each contract's own. -/
namespace Go.Proofs.YtannlhonjkhchaaGreatDoor.G
open Go.RowKit Go.Proofs.YtannlhonjkhchaaGreatDoorW.PrintWords Go.Proofs.YtannlhonjkhchaaGreatDoorW.PrintLast Go.Proofs.YtannlhonjkhchaaGreatDoorW.PrintMore
attribute [local go_sem] max2_int min2_int max_two min_two max_three min_three max_four min_four   -- for this text's walks alone
set_option linter.unusedVariables false
set_option linter.unusedSimpArgs false

/-! ### strings_HasPrefix: function 29 -/
def strings_HasPrefix.f (a0 : ByteArray) (a1 : ByteArray) : Option (Bool) := (stringslite_HasPrefix.f a0 a1).bind fun t101 => (some t101)
set_option maxHeartbeats 8000000 in
set_option maxRecDepth 100000 in
theorem strings_HasPrefix.calls (a0 : ByteArray) (a1 : ByteArray) (r : Bool) (w : World) (h : strings_HasPrefix.f a0 a1 = some r) :
  Calls Tryz.prog 29 #[.string a0, .string a1] w fun e w' => e = .returned (.bool r) ∧ Drawn0 w w' := by
 have H : ((stringslite_HasPrefix.f a0 a1).bind fun t101 => (some t101)) = some r := h
 clear h
 replace H := Option.bind_eq_some_iff.mp H
 obtain ⟨t101, A30, H⟩ := H
 replace H : (some t101) = some r := H
 have A3 := Aside0.mk A30
 clear A30
 obtain rfl := Option.some.inj H
 go_enter Tryz.func29, Tryz.ntmps29
 go_wp2_with (first | ((with_reducible refine gate_callee (f := 41) rfl ?_); refine goesL_ (some 7) rfl rfl Tryz.func41 (by kernel_rfl) rfl #[.string a0, .string a1] rfl (by (try simp only [List.map_toArray, List.map_cons, List.map_nil]); first | done | rfl | (simp only [List.length_drop, List.length_take]; rfl)) ?_; (with_reducible refine (stringslite_HasPrefix.calls a0 a1 t101 _ A3.out).mono ?_); rintro e w' ⟨rfl, ⟨nd, rfl⟩⟩; refine ⟨_, rfl, ?_⟩))
 go_ret
 exact ⟨by first | rfl | (simp; done) | (simp [*]; done), by repeat (first | exact Drawn0.refl _ | apply Drawn0.step)⟩

end Go.Proofs.YtannlhonjkhchaaGreatDoor.G

/- Go functions as Lean functions, each with its contract: written by a program of mine over the kit's print. Conditions: each contract's own. -/
namespace Go.Proofs.YtannlhonjkhchaaGreatDoor.G
open Go.RowKit Go.Proofs.YtannlhonjkhchaaGreatDoorW.PrintWords Go.Proofs.YtannlhonjkhchaaGreatDoorW.PrintLast Go.Proofs.YtannlhonjkhchaaGreatDoorW.PrintMore
attribute [local go_sem] max2_int min2_int max_two min_two max_three min_three max_four min_four   -- for this text's walks alone
set_option linter.unusedVariables false
set_option linter.unusedSimpArgs false

/-! ### lex_next: function 16 -/
def lex_next.j0 : Nat → ByteArray → Int → Bool → Option (Int × ByteArray × Int × Int × Int × Int)
 | 0, _, _, _ => none
 | k + 1, x0, x5, x54 => if x54 = true then (if 0 ≤ 2 then (if 2 ≤ (x0.size : Int) then (some (4, x0.extract 0 2, 0, 0, 2, 0)) else (none)) else (none)) else ((strings_IndexByte.f (⟨#[61, 43, 40, 41, 91, 93, 123, 125, 44, 58, 59]⟩ : ByteArray) x5).bind fun t119 => (if t119 ≥ 0 then (if 0 ≤ 1 then (if 1 ≤ (x0.size : Int) then (some (4, x0.extract 0 1, 0, 0, 1, 0)) else (none)) else (none)) else (some (0, (⟨#[]⟩ : ByteArray), 0, 0, 0, 3))))
def lex_next.f (k : Nat) (a0 : ByteArray) : Option (Int × ByteArray × Int × Int × Int × Int) := if 0 < (a0.size : Int) then ((lex_gap.f (bt a0 0)).bind fun t103 => (if t103 = true then ((lex_run.f a0 21).bind fun t104 => (some (0, (⟨#[]⟩ : ByteArray), 0, 0, t104, 0))) else (if (bt a0 0) = 35 then ((lex_run.f a0 23).bind fun t105 => (some (0, (⟨#[]⟩ : ByteArray), 0, 0, t105, 0))) else ((lex_letter.f (bt a0 0)).bind fun t106 => (if t106 = true then ((lex_run.f a0 25).bind fun t107 => (if 0 ≤ t107 then (if t107 ≤ (a0.size : Int) then (some (1, a0.extract 0 (t107 : Int).toNat, 0, 0, t107, 0)) else (none)) else (none))) else ((lex_digit.f (bt a0 0)).bind fun t108 => (if t108 = true then ((lex_number.f a0).bind fun bt109 => (some (bt109.1, bt109.2.1, bt109.2.2.1, bt109.2.2.2.1, bt109.2.2.2.2.1, bt109.2.2.2.2.2))) else (if (bt a0 0) = 34 then ((lex_quoted.f a0).bind fun bt115 => (if bt115.2 > 0 then (some (3, bt115.1, 0, 0, bt115.2, 0)) else (some (0, (⟨#[]⟩ : ByteArray), 0, 0, 0, 3)))) else ((strings_HasPrefix.f a0 (⟨#[61, 61]⟩ : ByteArray)).bind fun t117 => (if t117 = true then (lex_next.j0 k a0 (bt a0 0) true) else ((strings_HasPrefix.f a0 (⟨#[33, 61]⟩ : ByteArray)).bind fun t118 => (lex_next.j0 k a0 (bt a0 0) t118)))))))))))) else (none)
set_option maxHeartbeats 8000000 in
set_option maxRecDepth 100000 in
theorem lex_next.calls (k : Nat) (a0 : ByteArray) (r1 : Int) (r2 : ByteArray) (r3 : Int) (r4 : Int) (r5 : Int) (r6 : Int) (w : World) (hgl : Gl w) (h : lex_next.f k a0 = some (r1, r2, r3, r4, r5, r6)) :
  Calls Tryz.prog 16 #[.string a0] w fun e w' => e = .returned (.tuple #[.agg #[.int .i64 r1, .string r2, .int .i64 r3, .int .i64 r4], .int .i64 r5, .int .i64 r6]) ∧ Below w.heap.size w w' := by
 have HGL := Aside0.mk hgl
 clear hgl
 have hu33 := Tryz.underlying33
 have HB := Aside0.mk (Below.refl w.heap.size w)
 have H : (if 0 < (a0.size : Int) then ((lex_gap.f (bt a0 0)).bind fun t103 => (if t103 = true then ((lex_run.f a0 21).bind fun t104 => (some (0, (⟨#[]⟩ : ByteArray), 0, 0, t104, 0))) else (if (bt a0 0) = 35 then ((lex_run.f a0 23).bind fun t105 => (some (0, (⟨#[]⟩ : ByteArray), 0, 0, t105, 0))) else ((lex_letter.f (bt a0 0)).bind fun t106 => (if t106 = true then ((lex_run.f a0 25).bind fun t107 => (if 0 ≤ t107 then (if t107 ≤ (a0.size : Int) then (some (1, a0.extract 0 (t107 : Int).toNat, 0, 0, t107, 0)) else (none)) else (none))) else ((lex_digit.f (bt a0 0)).bind fun t108 => (if t108 = true then ((lex_number.f a0).bind fun bt109 => (some (bt109.1, bt109.2.1, bt109.2.2.1, bt109.2.2.2.1, bt109.2.2.2.2.1, bt109.2.2.2.2.2))) else (if (bt a0 0) = 34 then ((lex_quoted.f a0).bind fun bt115 => (if bt115.2 > 0 then (some (3, bt115.1, 0, 0, bt115.2, 0)) else (some (0, (⟨#[]⟩ : ByteArray), 0, 0, 0, 3)))) else ((strings_HasPrefix.f a0 (⟨#[61, 61]⟩ : ByteArray)).bind fun t117 => (if t117 = true then (lex_next.j0 k a0 (bt a0 0) true) else ((strings_HasPrefix.f a0 (⟨#[33, 61]⟩ : ByteArray)).bind fun t118 => (lex_next.j0 k a0 (bt a0 0) t118)))))))))))) else (none)) = some (r1, r2, r3, r4, r5, r6) := h
 clear h
 by_cases c2 : 0 < (a0.size : Int)
 ·rw [if_pos c2] at H
  have c2b0 : decide (0 < (a0.size : Int)) = true := decide_eq_true c2
  have c2b1 : decide (0 < a0.size) = true := decide_eq_true (by omega)
  clear c2
  replace H := Option.bind_eq_some_iff.mp H
  obtain ⟨t103, A40, H⟩ := H
  replace H : (if t103 = true then ((lex_run.f a0 21).bind fun t104 => (some (0, (⟨#[]⟩ : ByteArray), 0, 0, t104, 0))) else (if (bt a0 0) = 35 then ((lex_run.f a0 23).bind fun t105 => (some (0, (⟨#[]⟩ : ByteArray), 0, 0, t105, 0))) else ((lex_letter.f (bt a0 0)).bind fun t106 => (if t106 = true then ((lex_run.f a0 25).bind fun t107 => (if 0 ≤ t107 then (if t107 ≤ (a0.size : Int) then (some (1, a0.extract 0 (t107 : Int).toNat, 0, 0, t107, 0)) else (none)) else (none))) else ((lex_digit.f (bt a0 0)).bind fun t108 => (if t108 = true then ((lex_number.f a0).bind fun bt109 => (some (bt109.1, bt109.2.1, bt109.2.2.1, bt109.2.2.2.1, bt109.2.2.2.2.1, bt109.2.2.2.2.2))) else (if (bt a0 0) = 34 then ((lex_quoted.f a0).bind fun bt115 => (if bt115.2 > 0 then (some (3, bt115.1, 0, 0, bt115.2, 0)) else (some (0, (⟨#[]⟩ : ByteArray), 0, 0, 0, 3)))) else ((strings_HasPrefix.f a0 (⟨#[61, 61]⟩ : ByteArray)).bind fun t117 => (if t117 = true then (lex_next.j0 k a0 (bt a0 0) true) else ((strings_HasPrefix.f a0 (⟨#[33, 61]⟩ : ByteArray)).bind fun t118 => (lex_next.j0 k a0 (bt a0 0) t118))))))))))) = some (r1, r2, r3, r4, r5, r6) := H
  have A4 := Aside0.mk A40
  clear A40
  by_cases c5 : t103 = true
  ·subst c5
   have H1 : ((lex_run.f a0 21).bind fun t104 => (some (0, (⟨#[]⟩ : ByteArray), 0, 0, t104, 0))) = some (r1, r2, r3, r4, r5, r6) := by rw [if_pos rfl] at H; exact H
   clear H
   have H := H1
   clear H1
   replace H := Option.bind_eq_some_iff.mp H
   obtain ⟨t104, A60, H⟩ := H
   replace H : (some (0, (⟨#[]⟩ : ByteArray), 0, 0, t104, 0)) = some (r1, r2, r3, r4, r5, r6) := H
   have A6 := Aside0.mk A60
   clear A60
   simp only [Option.some.injEq, Prod.mk.injEq] at H
   obtain ⟨rfl, rfl, rfl, rfl, rfl, rfl⟩ := H
   go_enter Tryz.func16, Tryz.ntmps16
   go_wp2_with (first | ((with_reducible refine gate_dst (N := 2) rfl ?_); refine box_event ?hg (N := 2) ?hd (cs := #[.int .i64 0, .string (⟨#[]⟩ : ByteArray), .int .i64 0, .int .i64 0]) (t := 33) ?hr ?_; (case hd => rfl); (case hg => rfl); (case hr => first | (go_simp; done) | (go_simp; rfl)); intro gb102 hg w7 hbox hb; have n0_ := Aside0.mk (below_step (by repeat (first | (with_reducible first | exact HB.out | apply below_alloc | apply pw_below_drewN | apply below_drew1) | exact HB.out)) hb); have n1_ := Aside0.mk (hbox); have n2_ := Aside0.mk ((by rw [hg]; exact (below_size (by repeat (first | (with_reducible first | exact HB.out | apply below_alloc | apply pw_below_drewN | apply below_drew1) | exact HB.out))) : w.heap.size ≤ gb102)); have n3_ := Aside0.mk ((by rw [hg]; exact (below_size (by repeat (first | (with_reducible first | exact HB.out | apply below_alloc | apply pw_below_drewN | apply below_drew1) | exact HB.out))) : w.heap.size ≤ gb102)); clear HB; have HB := n0_; have BK102 := n1_; have GW102 := n2_; have GE102 := n3_; clear n0_ n1_ n2_ n3_; clear hb hbox hg; have p3 : 0 ≤ (0 : Int) := (by omega); have q3 : 0 < a0.size := (by have : (0 : Int) < (a0.size : Int) := of_decide_eq_true (by first | (with_reducible assumption) | assumption); omega); have hx3 : ∀ h : 0 < a0.size, ((a0[0]'h).toNat : Int) = bt a0 0 := bt_at a0 0; clear p3; have qi3 : (0 < (a0.size : Int)) = True := eq_true (of_decide_eq_true (by first | (with_reducible assumption) | assumption)); replace q3 := eq_true q3) | ((with_reducible refine gate_callee (f := 21) rfl ?_); refine goesL_ (some 13) rfl rfl Tryz.func21 (by kernel_rfl) rfl #[.int .u8 (bt a0 0)] rfl (by (try simp only [List.map_toArray, List.map_cons, List.map_nil]); first | done | rfl | (simp only [List.length_drop, List.length_take]; rfl)) ?_; (with_reducible refine (lex_gap.calls (bt a0 0) true _ A4.out).mono ?_); rintro e w' ⟨rfl, ⟨nd, rfl⟩⟩; refine ⟨_, rfl, ?_⟩; (try (rw [drewN_self w7]; generalize hq_ : World.drewN w7 _ = w7; have n0_ : Aside0 (w7.heap[gb102]? = some (.cells #[.int .i64 0, .string (⟨#[]⟩ : ByteArray), .int .i64 0, .int .i64 0] 33 (0, 0))) := ⟨by rw [← hq_]; exact (by (with_reducible repeat (first | refine blk_drewN ?_ _ | refine blk_drew ?_ | refine blk_alloc ?_ _)); exact BK102.out)⟩; have n1_ : Aside0 (Below w.heap.size w w7) := ⟨by rw [← hq_]; exact (by repeat (first | (with_reducible first | exact HB.out | apply below_alloc | apply pw_below_drewN | apply below_drew1 | refine below_set ?_ GE102.out) | exact HB.out))⟩; clear BK102 HB hq_; have BK102 := n0_; have HB := n1_; clear n0_ n1_))) | ((with_reducible refine gate_callee (f := 22) rfl ?_); refine goesL_ (some 16) rfl rfl Tryz.func22 (by kernel_rfl) rfl #[.string a0, .func (.func 21) #[] #[]] rfl (by (try simp only [List.map_toArray, List.map_cons, List.map_nil]); first | done | rfl | (simp only [List.length_drop, List.length_take]; rfl)) ?_; (with_reducible refine (lex_run.calls a0 21 t104 _ A6.out).mono ?_); rintro e w' ⟨rfl, ⟨nd, rfl⟩⟩; refine ⟨_, rfl, ?_⟩; (try (rw [drewN_self w7]; generalize hq_ : World.drewN w7 _ = w7; have n0_ : Aside0 (w7.heap[gb102]? = some (.cells #[.int .i64 0, .string (⟨#[]⟩ : ByteArray), .int .i64 0, .int .i64 0] 33 (0, 0))) := ⟨by rw [← hq_]; exact (by (with_reducible repeat (first | refine blk_drewN ?_ _ | refine blk_drew ?_ | refine blk_alloc ?_ _)); exact BK102.out)⟩; have n1_ : Aside0 (Below w.heap.size w w7) := ⟨by rw [← hq_]; exact (by repeat (first | (with_reducible first | exact HB.out | apply below_alloc | apply pw_below_drewN | apply below_drew1 | refine below_set ?_ GE102.out) | exact HB.out))⟩; clear BK102 HB hq_; have BK102 := n0_; have HB := n1_; clear n0_ n1_)); have hcz8_0 : w7.cell? ⟨gb102, 0, none⟩ = some (.int .i64 0) := (blk_cell BK102.out 0).trans rfl; have hcz8_1 : w7.cell? ⟨gb102, 1, none⟩ = some (.string (⟨#[]⟩ : ByteArray)) := (blk_cell BK102.out 1).trans rfl; have hcz8_2 : w7.cell? ⟨gb102, 2, none⟩ = some (.int .i64 0) := (blk_cell BK102.out 2).trans rfl; have hcz8_3 : w7.cell? ⟨gb102, 3, none⟩ = some (.int .i64 0) := (blk_cell BK102.out 3).trans rfl; have hfz8_0 := blk_frozen BK102.out 0; have hfz8_1 := blk_frozen BK102.out 1; have hfz8_2 := blk_frozen BK102.out 2; have hfz8_3 := blk_frozen BK102.out 3))
   refine bodyPost_ret (results_ctt rfl _ _ gb102 33 #[.int .i64 0, .string (⟨#[]⟩ : ByteArray), .int .i64 0, .int .i64 0] (0, 0) _ rfl (by (with_reducible repeat (first | refine blk_drewN ?_ _ | refine blk_drew ?_ | refine blk_alloc ?_ _)); refine blk_put (cs := #[.int .i64 0, .string (⟨#[]⟩ : ByteArray), .int .i64 0, .int .i64 0]) ?_ 3 _ rfl; (with_reducible repeat (first | refine blk_drewN ?_ _ | refine blk_drew ?_ | refine blk_alloc ?_ _)); refine blk_put (cs := #[.int .i64 0, .string (⟨#[]⟩ : ByteArray), .int .i64 0, .int .i64 0]) ?_ 2 _ rfl; (with_reducible repeat (first | refine blk_drewN ?_ _ | refine blk_drew ?_ | refine blk_alloc ?_ _)); refine blk_put (cs := #[.int .i64 0, .string (⟨#[]⟩ : ByteArray), .int .i64 0, .int .i64 0]) ?_ 1 _ rfl; (with_reducible repeat (first | refine blk_drewN ?_ _ | refine blk_drew ?_ | refine blk_alloc ?_ _)); refine blk_put (cs := #[.int .i64 0, .string (⟨#[]⟩ : ByteArray), .int .i64 0, .int .i64 0]) ?_ 0 _ rfl; (with_reducible repeat (first | refine blk_drewN ?_ _ | refine blk_drew ?_ | refine blk_alloc ?_ _)); exact BK102.out) Tryz.underlying33 rfl (by kernel_rfl)) rfl ?_
   exact ⟨by first | rfl | (simp [errW_none, errW_some] <;> rfl) | (simp [*, errW_none, errW_some] <;> rfl), by repeat (first | (with_reducible first | exact HB.out | apply below_alloc | apply pw_below_drewN | apply below_drew1 | refine below_set ?_ GE102.out) | exact HB.out)⟩
  ·replace c5 := Bool.eq_false_iff.mpr c5
   subst c5
   have H1 : (if (bt a0 0) = 35 then ((lex_run.f a0 23).bind fun t105 => (some (0, (⟨#[]⟩ : ByteArray), 0, 0, t105, 0))) else ((lex_letter.f (bt a0 0)).bind fun t106 => (if t106 = true then ((lex_run.f a0 25).bind fun t107 => (if 0 ≤ t107 then (if t107 ≤ (a0.size : Int) then (some (1, a0.extract 0 (t107 : Int).toNat, 0, 0, t107, 0)) else (none)) else (none))) else ((lex_digit.f (bt a0 0)).bind fun t108 => (if t108 = true then ((lex_number.f a0).bind fun bt109 => (some (bt109.1, bt109.2.1, bt109.2.2.1, bt109.2.2.2.1, bt109.2.2.2.2.1, bt109.2.2.2.2.2))) else (if (bt a0 0) = 34 then ((lex_quoted.f a0).bind fun bt115 => (if bt115.2 > 0 then (some (3, bt115.1, 0, 0, bt115.2, 0)) else (some (0, (⟨#[]⟩ : ByteArray), 0, 0, 0, 3)))) else ((strings_HasPrefix.f a0 (⟨#[61, 61]⟩ : ByteArray)).bind fun t117 => (if t117 = true then (lex_next.j0 k a0 (bt a0 0) true) else ((strings_HasPrefix.f a0 (⟨#[33, 61]⟩ : ByteArray)).bind fun t118 => (lex_next.j0 k a0 (bt a0 0) t118)))))))))) = some (r1, r2, r3, r4, r5, r6) := by rw [if_neg (show ¬ (false = true) by decide)] at H; exact H
   clear H
   have H := H1
   clear H1
   by_cases c9 : (bt a0 0) = 35
   ·rw [if_pos c9] at H
    have c9b0 : ((bt a0 0) == 35) = true := beq_iff_eq.mpr c9
    have c9b1 : ((bt a0 0) != 35) = false := bne_eq_false_iff_eq.mpr c9
    clear c9
    replace H := Option.bind_eq_some_iff.mp H
    obtain ⟨t105, A100, H⟩ := H
    replace H : (some (0, (⟨#[]⟩ : ByteArray), 0, 0, t105, 0)) = some (r1, r2, r3, r4, r5, r6) := H
    have A10 := Aside0.mk A100
    clear A100
    simp only [Option.some.injEq, Prod.mk.injEq] at H
    obtain ⟨rfl, rfl, rfl, rfl, rfl, rfl⟩ := H
    go_enter Tryz.func16, Tryz.ntmps16
    go_wp2_with (first | ((with_reducible refine gate_dst (N := 2) rfl ?_); refine box_event ?hg (N := 2) ?hd (cs := #[.int .i64 0, .string (⟨#[]⟩ : ByteArray), .int .i64 0, .int .i64 0]) (t := 33) ?hr ?_; (case hd => rfl); (case hg => rfl); (case hr => first | (go_simp; done) | (go_simp; rfl)); intro gb102 hg w11 hbox hb; have n0_ := Aside0.mk (below_step (by repeat (first | (with_reducible first | exact HB.out | apply below_alloc | apply pw_below_drewN | apply below_drew1) | exact HB.out)) hb); have n1_ := Aside0.mk (hbox); have n2_ := Aside0.mk ((by rw [hg]; exact (below_size (by repeat (first | (with_reducible first | exact HB.out | apply below_alloc | apply pw_below_drewN | apply below_drew1) | exact HB.out))) : w.heap.size ≤ gb102)); have n3_ := Aside0.mk ((by rw [hg]; exact (below_size (by repeat (first | (with_reducible first | exact HB.out | apply below_alloc | apply pw_below_drewN | apply below_drew1) | exact HB.out))) : w.heap.size ≤ gb102)); clear HB; have HB := n0_; have BK102 := n1_; have GW102 := n2_; have GE102 := n3_; clear n0_ n1_ n2_ n3_; clear hb hbox hg; have p3 : 0 ≤ (0 : Int) := (by omega); have q3 : 0 < a0.size := (by have : (0 : Int) < (a0.size : Int) := of_decide_eq_true (by first | (with_reducible assumption) | assumption); omega); have hx3 : ∀ h : 0 < a0.size, ((a0[0]'h).toNat : Int) = bt a0 0 := bt_at a0 0; clear p3; have qi3 : (0 < (a0.size : Int)) = True := eq_true (of_decide_eq_true (by first | (with_reducible assumption) | assumption)); replace q3 := eq_true q3) | ((with_reducible refine gate_callee (f := 21) rfl ?_); refine goesL_ (some 13) rfl rfl Tryz.func21 (by kernel_rfl) rfl #[.int .u8 (bt a0 0)] rfl (by (try simp only [List.map_toArray, List.map_cons, List.map_nil]); first | done | rfl | (simp only [List.length_drop, List.length_take]; rfl)) ?_; (with_reducible refine (lex_gap.calls (bt a0 0) false _ A4.out).mono ?_); rintro e w' ⟨rfl, ⟨nd, rfl⟩⟩; refine ⟨_, rfl, ?_⟩; (try (rw [drewN_self w11]; generalize hq_ : World.drewN w11 _ = w11; have n0_ : Aside0 (w11.heap[gb102]? = some (.cells #[.int .i64 0, .string (⟨#[]⟩ : ByteArray), .int .i64 0, .int .i64 0] 33 (0, 0))) := ⟨by rw [← hq_]; exact (by (with_reducible repeat (first | refine blk_drewN ?_ _ | refine blk_drew ?_ | refine blk_alloc ?_ _)); exact BK102.out)⟩; have n1_ : Aside0 (Below w.heap.size w w11) := ⟨by rw [← hq_]; exact (by repeat (first | (with_reducible first | exact HB.out | apply below_alloc | apply pw_below_drewN | apply below_drew1 | refine below_set ?_ GE102.out) | exact HB.out))⟩; clear BK102 HB hq_; have BK102 := n0_; have HB := n1_; clear n0_ n1_))) | ((with_reducible refine gate_callee (f := 22) rfl ?_); refine goesL_ (some 22) rfl rfl Tryz.func22 (by kernel_rfl) rfl #[.string a0, .func (.func 23) #[] #[]] rfl (by (try simp only [List.map_toArray, List.map_cons, List.map_nil]); first | done | rfl | (simp only [List.length_drop, List.length_take]; rfl)) ?_; (with_reducible refine (lex_run.calls a0 23 t105 _ A10.out).mono ?_); rintro e w' ⟨rfl, ⟨nd, rfl⟩⟩; refine ⟨_, rfl, ?_⟩; (try (rw [drewN_self w11]; generalize hq_ : World.drewN w11 _ = w11; have n0_ : Aside0 (w11.heap[gb102]? = some (.cells #[.int .i64 0, .string (⟨#[]⟩ : ByteArray), .int .i64 0, .int .i64 0] 33 (0, 0))) := ⟨by rw [← hq_]; exact (by (with_reducible repeat (first | refine blk_drewN ?_ _ | refine blk_drew ?_ | refine blk_alloc ?_ _)); exact BK102.out)⟩; have n1_ : Aside0 (Below w.heap.size w w11) := ⟨by rw [← hq_]; exact (by repeat (first | (with_reducible first | exact HB.out | apply below_alloc | apply pw_below_drewN | apply below_drew1 | refine below_set ?_ GE102.out) | exact HB.out))⟩; clear BK102 HB hq_; have BK102 := n0_; have HB := n1_; clear n0_ n1_)); have hcz12_0 : w11.cell? ⟨gb102, 0, none⟩ = some (.int .i64 0) := (blk_cell BK102.out 0).trans rfl; have hcz12_1 : w11.cell? ⟨gb102, 1, none⟩ = some (.string (⟨#[]⟩ : ByteArray)) := (blk_cell BK102.out 1).trans rfl; have hcz12_2 : w11.cell? ⟨gb102, 2, none⟩ = some (.int .i64 0) := (blk_cell BK102.out 2).trans rfl; have hcz12_3 : w11.cell? ⟨gb102, 3, none⟩ = some (.int .i64 0) := (blk_cell BK102.out 3).trans rfl; have hfz12_0 := blk_frozen BK102.out 0; have hfz12_1 := blk_frozen BK102.out 1; have hfz12_2 := blk_frozen BK102.out 2; have hfz12_3 := blk_frozen BK102.out 3))
    refine bodyPost_ret (results_ctt rfl _ _ gb102 33 #[.int .i64 0, .string (⟨#[]⟩ : ByteArray), .int .i64 0, .int .i64 0] (0, 0) _ rfl (by (with_reducible repeat (first | refine blk_drewN ?_ _ | refine blk_drew ?_ | refine blk_alloc ?_ _)); refine blk_put (cs := #[.int .i64 0, .string (⟨#[]⟩ : ByteArray), .int .i64 0, .int .i64 0]) ?_ 3 _ rfl; (with_reducible repeat (first | refine blk_drewN ?_ _ | refine blk_drew ?_ | refine blk_alloc ?_ _)); refine blk_put (cs := #[.int .i64 0, .string (⟨#[]⟩ : ByteArray), .int .i64 0, .int .i64 0]) ?_ 2 _ rfl; (with_reducible repeat (first | refine blk_drewN ?_ _ | refine blk_drew ?_ | refine blk_alloc ?_ _)); refine blk_put (cs := #[.int .i64 0, .string (⟨#[]⟩ : ByteArray), .int .i64 0, .int .i64 0]) ?_ 1 _ rfl; (with_reducible repeat (first | refine blk_drewN ?_ _ | refine blk_drew ?_ | refine blk_alloc ?_ _)); refine blk_put (cs := #[.int .i64 0, .string (⟨#[]⟩ : ByteArray), .int .i64 0, .int .i64 0]) ?_ 0 _ rfl; (with_reducible repeat (first | refine blk_drewN ?_ _ | refine blk_drew ?_ | refine blk_alloc ?_ _)); exact BK102.out) Tryz.underlying33 rfl (by kernel_rfl)) rfl ?_
    exact ⟨by first | rfl | (simp [errW_none, errW_some] <;> rfl) | (simp [*, errW_none, errW_some] <;> rfl), by repeat (first | (with_reducible first | exact HB.out | apply below_alloc | apply pw_below_drewN | apply below_drew1 | refine below_set ?_ GE102.out) | exact HB.out)⟩
   ·rw [if_neg c9] at H
    have c9b0 : ((bt a0 0) == 35) = false := beq_eq_false_iff_ne.mpr c9
    have c9b1 : ((bt a0 0) != 35) = true := bne_iff_ne.mpr c9
    replace H := Option.bind_eq_some_iff.mp H
    obtain ⟨t106, A130, H⟩ := H
    replace H : (if t106 = true then ((lex_run.f a0 25).bind fun t107 => (if 0 ≤ t107 then (if t107 ≤ (a0.size : Int) then (some (1, a0.extract 0 (t107 : Int).toNat, 0, 0, t107, 0)) else (none)) else (none))) else ((lex_digit.f (bt a0 0)).bind fun t108 => (if t108 = true then ((lex_number.f a0).bind fun bt109 => (some (bt109.1, bt109.2.1, bt109.2.2.1, bt109.2.2.2.1, bt109.2.2.2.2.1, bt109.2.2.2.2.2))) else (if (bt a0 0) = 34 then ((lex_quoted.f a0).bind fun bt115 => (if bt115.2 > 0 then (some (3, bt115.1, 0, 0, bt115.2, 0)) else (some (0, (⟨#[]⟩ : ByteArray), 0, 0, 0, 3)))) else ((strings_HasPrefix.f a0 (⟨#[61, 61]⟩ : ByteArray)).bind fun t117 => (if t117 = true then (lex_next.j0 k a0 (bt a0 0) true) else ((strings_HasPrefix.f a0 (⟨#[33, 61]⟩ : ByteArray)).bind fun t118 => (lex_next.j0 k a0 (bt a0 0) t118)))))))) = some (r1, r2, r3, r4, r5, r6) := H
    have A13 := Aside0.mk A130
    clear A130
    by_cases c14 : t106 = true
    ·subst c14
     have H1 : ((lex_run.f a0 25).bind fun t107 => (if 0 ≤ t107 then (if t107 ≤ (a0.size : Int) then (some (1, a0.extract 0 (t107 : Int).toNat, 0, 0, t107, 0)) else (none)) else (none))) = some (r1, r2, r3, r4, r5, r6) := by rw [if_pos rfl] at H; exact H
     clear H
     have H := H1
     clear H1
     replace H := Option.bind_eq_some_iff.mp H
     obtain ⟨t107, A150, H⟩ := H
     replace H : (if 0 ≤ t107 then (if t107 ≤ (a0.size : Int) then (some (1, a0.extract 0 (t107 : Int).toNat, 0, 0, t107, 0)) else (none)) else (none)) = some (r1, r2, r3, r4, r5, r6) := H
     have A15 := Aside0.mk A150
     clear A150
     by_cases c16 : 0 ≤ t107
     ·rw [if_pos c16] at H
      have c16b0 := eq_true c16
      have c16b1 : decide (0 ≤ t107) = true := decide_eq_true c16
      clear c16
      by_cases c17 : t107 ≤ (a0.size : Int)
      ·rw [if_pos c17] at H
       have c17b0 := eq_true c17
       have c17b1 : decide (t107 ≤ (a0.size : Int)) = true := decide_eq_true c17
       clear c17
       simp only [Option.some.injEq, Prod.mk.injEq] at H
       obtain ⟨rfl, rfl, rfl, rfl, rfl, rfl⟩ := H
       go_enter Tryz.func16, Tryz.ntmps16
       go_wp2_with (first | ((with_reducible refine gate_dst (N := 2) rfl ?_); refine box_event ?hg (N := 2) ?hd (cs := #[.int .i64 0, .string (⟨#[]⟩ : ByteArray), .int .i64 0, .int .i64 0]) (t := 33) ?hr ?_; (case hd => rfl); (case hg => rfl); (case hr => first | (go_simp; done) | (go_simp; rfl)); intro gb102 hg w18 hbox hb; have n0_ := Aside0.mk (below_step (by repeat (first | (with_reducible first | exact HB.out | apply below_alloc | apply pw_below_drewN | apply below_drew1) | exact HB.out)) hb); have n1_ := Aside0.mk (hbox); have n2_ := Aside0.mk ((by rw [hg]; exact (below_size (by repeat (first | (with_reducible first | exact HB.out | apply below_alloc | apply pw_below_drewN | apply below_drew1) | exact HB.out))) : w.heap.size ≤ gb102)); have n3_ := Aside0.mk ((by rw [hg]; exact (below_size (by repeat (first | (with_reducible first | exact HB.out | apply below_alloc | apply pw_below_drewN | apply below_drew1) | exact HB.out))) : w.heap.size ≤ gb102)); clear HB; have HB := n0_; have BK102 := n1_; have GW102 := n2_; have GE102 := n3_; clear n0_ n1_ n2_ n3_; clear hb hbox hg; have p3 : 0 ≤ (0 : Int) := (by omega); have q3 : 0 < a0.size := (by have : (0 : Int) < (a0.size : Int) := of_decide_eq_true (by first | (with_reducible assumption) | assumption); omega); have hx3 : ∀ h : 0 < a0.size, ((a0[0]'h).toNat : Int) = bt a0 0 := bt_at a0 0; clear p3; have qi3 : (0 < (a0.size : Int)) = True := eq_true (of_decide_eq_true (by first | (with_reducible assumption) | assumption)); replace q3 := eq_true q3) | ((with_reducible refine gate_callee (f := 21) rfl ?_); refine goesL_ (some 13) rfl rfl Tryz.func21 (by kernel_rfl) rfl #[.int .u8 (bt a0 0)] rfl (by (try simp only [List.map_toArray, List.map_cons, List.map_nil]); first | done | rfl | (simp only [List.length_drop, List.length_take]; rfl)) ?_; (with_reducible refine (lex_gap.calls (bt a0 0) false _ A4.out).mono ?_); rintro e w' ⟨rfl, ⟨nd, rfl⟩⟩; refine ⟨_, rfl, ?_⟩; (try (rw [drewN_self w18]; generalize hq_ : World.drewN w18 _ = w18; have n0_ : Aside0 (w18.heap[gb102]? = some (.cells #[.int .i64 0, .string (⟨#[]⟩ : ByteArray), .int .i64 0, .int .i64 0] 33 (0, 0))) := ⟨by rw [← hq_]; exact (by (with_reducible repeat (first | refine blk_drewN ?_ _ | refine blk_drew ?_ | refine blk_alloc ?_ _)); exact BK102.out)⟩; have n1_ : Aside0 (Below w.heap.size w w18) := ⟨by rw [← hq_]; exact (by repeat (first | (with_reducible first | exact HB.out | apply below_alloc | apply pw_below_drewN | apply below_drew1 | refine below_set ?_ GE102.out) | exact HB.out))⟩; clear BK102 HB hq_; have BK102 := n0_; have HB := n1_; clear n0_ n1_))) | ((with_reducible refine gate_callee (f := 24) rfl ?_); refine goesL_ (some 25) rfl rfl Tryz.func24 (by kernel_rfl) rfl #[.int .u8 (bt a0 0)] rfl (by (try simp only [List.map_toArray, List.map_cons, List.map_nil]); first | done | rfl | (simp only [List.length_drop, List.length_take]; rfl)) ?_; (with_reducible refine (lex_letter.calls (bt a0 0) true _ A13.out).mono ?_); rintro e w' ⟨rfl, ⟨nd, rfl⟩⟩; refine ⟨_, rfl, ?_⟩; (try (rw [drewN_self w18]; generalize hq_ : World.drewN w18 _ = w18; have n0_ : Aside0 (w18.heap[gb102]? = some (.cells #[.int .i64 0, .string (⟨#[]⟩ : ByteArray), .int .i64 0, .int .i64 0] 33 (0, 0))) := ⟨by rw [← hq_]; exact (by (with_reducible repeat (first | refine blk_drewN ?_ _ | refine blk_drew ?_ | refine blk_alloc ?_ _)); exact BK102.out)⟩; have n1_ : Aside0 (Below w.heap.size w w18) := ⟨by rw [← hq_]; exact (by repeat (first | (with_reducible first | exact HB.out | apply below_alloc | apply pw_below_drewN | apply below_drew1 | refine below_set ?_ GE102.out) | exact HB.out))⟩; clear BK102 HB hq_; have BK102 := n0_; have HB := n1_; clear n0_ n1_))) | ((with_reducible refine gate_callee (f := 22) rfl ?_); refine goesL_ (some 27) rfl rfl Tryz.func22 (by kernel_rfl) rfl #[.string a0, .func (.func 25) #[] #[]] rfl (by (try simp only [List.map_toArray, List.map_cons, List.map_nil]); first | done | rfl | (simp only [List.length_drop, List.length_take]; rfl)) ?_; (with_reducible refine (lex_run.calls a0 25 t107 _ A15.out).mono ?_); rintro e w' ⟨rfl, ⟨nd, rfl⟩⟩; refine ⟨_, rfl, ?_⟩; (try (rw [drewN_self w18]; generalize hq_ : World.drewN w18 _ = w18; have n0_ : Aside0 (w18.heap[gb102]? = some (.cells #[.int .i64 0, .string (⟨#[]⟩ : ByteArray), .int .i64 0, .int .i64 0] 33 (0, 0))) := ⟨by rw [← hq_]; exact (by (with_reducible repeat (first | refine blk_drewN ?_ _ | refine blk_drew ?_ | refine blk_alloc ?_ _)); exact BK102.out)⟩; have n1_ : Aside0 (Below w.heap.size w w18) := ⟨by rw [← hq_]; exact (by repeat (first | (with_reducible first | exact HB.out | apply below_alloc | apply pw_below_drewN | apply below_drew1 | refine below_set ?_ GE102.out) | exact HB.out))⟩; clear BK102 HB hq_; have BK102 := n0_; have HB := n1_; clear n0_ n1_)); have hcz19_0 : w18.cell? ⟨gb102, 0, none⟩ = some (.int .i64 0) := (blk_cell BK102.out 0).trans rfl; have hcz19_1 : w18.cell? ⟨gb102, 1, none⟩ = some (.string (⟨#[]⟩ : ByteArray)) := (blk_cell BK102.out 1).trans rfl; have hcz19_2 : w18.cell? ⟨gb102, 2, none⟩ = some (.int .i64 0) := (blk_cell BK102.out 2).trans rfl; have hcz19_3 : w18.cell? ⟨gb102, 3, none⟩ = some (.int .i64 0) := (blk_cell BK102.out 3).trans rfl; have hfz19_0 := blk_frozen BK102.out 0; have hfz19_1 := blk_frozen BK102.out 1; have hfz19_2 := blk_frozen BK102.out 2; have hfz19_3 := blk_frozen BK102.out 3))
       refine bodyPost_ret (results_ctt rfl _ _ gb102 33 #[.int .i64 1, .string (a0.extract 0 (t107 : Int).toNat), .int .i64 0, .int .i64 0] (0, 0) _ rfl (by (with_reducible repeat (first | refine blk_drewN ?_ _ | refine blk_drew ?_ | refine blk_alloc ?_ _)); refine blk_put (cs := #[.int .i64 1, .string (a0.extract 0 (t107 : Int).toNat), .int .i64 0, .int .i64 0]) ?_ 3 _ rfl; (with_reducible repeat (first | refine blk_drewN ?_ _ | refine blk_drew ?_ | refine blk_alloc ?_ _)); refine blk_put (cs := #[.int .i64 1, .string (a0.extract 0 (t107 : Int).toNat), .int .i64 0, .int .i64 0]) ?_ 2 _ rfl; (with_reducible repeat (first | refine blk_drewN ?_ _ | refine blk_drew ?_ | refine blk_alloc ?_ _)); refine blk_put (cs := #[.int .i64 1, .string (⟨#[]⟩ : ByteArray), .int .i64 0, .int .i64 0]) ?_ 1 _ rfl; (with_reducible repeat (first | refine blk_drewN ?_ _ | refine blk_drew ?_ | refine blk_alloc ?_ _)); refine blk_put (cs := #[.int .i64 0, .string (⟨#[]⟩ : ByteArray), .int .i64 0, .int .i64 0]) ?_ 0 _ rfl; (with_reducible repeat (first | refine blk_drewN ?_ _ | refine blk_drew ?_ | refine blk_alloc ?_ _)); exact BK102.out) Tryz.underlying33 rfl (by kernel_rfl)) rfl ?_
       exact ⟨by first | rfl | (simp [errW_none, errW_some] <;> rfl) | (simp [*, errW_none, errW_some] <;> rfl), by repeat (first | (with_reducible first | exact HB.out | apply below_alloc | apply pw_below_drewN | apply below_drew1 | refine below_set ?_ GE102.out) | exact HB.out)⟩
      ·rw [if_neg c17] at H
       exact absurd H (by simp)
     ·rw [if_neg c16] at H
      exact absurd H (by simp)
    ·replace c14 := Bool.eq_false_iff.mpr c14
     subst c14
     have H1 : ((lex_digit.f (bt a0 0)).bind fun t108 => (if t108 = true then ((lex_number.f a0).bind fun bt109 => (some (bt109.1, bt109.2.1, bt109.2.2.1, bt109.2.2.2.1, bt109.2.2.2.2.1, bt109.2.2.2.2.2))) else (if (bt a0 0) = 34 then ((lex_quoted.f a0).bind fun bt115 => (if bt115.2 > 0 then (some (3, bt115.1, 0, 0, bt115.2, 0)) else (some (0, (⟨#[]⟩ : ByteArray), 0, 0, 0, 3)))) else ((strings_HasPrefix.f a0 (⟨#[61, 61]⟩ : ByteArray)).bind fun t117 => (if t117 = true then (lex_next.j0 k a0 (bt a0 0) true) else ((strings_HasPrefix.f a0 (⟨#[33, 61]⟩ : ByteArray)).bind fun t118 => (lex_next.j0 k a0 (bt a0 0) t118))))))) = some (r1, r2, r3, r4, r5, r6) := by rw [if_neg (show ¬ (false = true) by decide)] at H; exact H
     clear H
     have H := H1
     clear H1
     replace H := Option.bind_eq_some_iff.mp H
     obtain ⟨t108, A200, H⟩ := H
     replace H : (if t108 = true then ((lex_number.f a0).bind fun bt109 => (some (bt109.1, bt109.2.1, bt109.2.2.1, bt109.2.2.2.1, bt109.2.2.2.2.1, bt109.2.2.2.2.2))) else (if (bt a0 0) = 34 then ((lex_quoted.f a0).bind fun bt115 => (if bt115.2 > 0 then (some (3, bt115.1, 0, 0, bt115.2, 0)) else (some (0, (⟨#[]⟩ : ByteArray), 0, 0, 0, 3)))) else ((strings_HasPrefix.f a0 (⟨#[61, 61]⟩ : ByteArray)).bind fun t117 => (if t117 = true then (lex_next.j0 k a0 (bt a0 0) true) else ((strings_HasPrefix.f a0 (⟨#[33, 61]⟩ : ByteArray)).bind fun t118 => (lex_next.j0 k a0 (bt a0 0) t118)))))) = some (r1, r2, r3, r4, r5, r6) := H
     have A20 := Aside0.mk A200
     clear A200
     by_cases c21 : t108 = true
     ·subst c21
      have H1 : ((lex_number.f a0).bind fun bt109 => (some (bt109.1, bt109.2.1, bt109.2.2.1, bt109.2.2.2.1, bt109.2.2.2.2.1, bt109.2.2.2.2.2))) = some (r1, r2, r3, r4, r5, r6) := by rw [if_pos rfl] at H; exact H
      clear H
      have H := H1
      clear H1
      replace H := Option.bind_eq_some_iff.mp H
      obtain ⟨⟨t109, t110, t111, t112, t113, t114⟩, A220, H⟩ := H
      replace H : (some (t109, t110, t111, t112, t113, t114)) = some (r1, r2, r3, r4, r5, r6) := H
      have A22 := Aside0.mk A220
      clear A220
      simp only [Option.some.injEq, Prod.mk.injEq] at H
      obtain ⟨rfl, rfl, rfl, rfl, rfl, rfl⟩ := H
      go_enter Tryz.func16, Tryz.ntmps16
      go_wp2_with (first | ((with_reducible refine gate_dst (N := 2) rfl ?_); refine box_event ?hg (N := 2) ?hd (cs := #[.int .i64 0, .string (⟨#[]⟩ : ByteArray), .int .i64 0, .int .i64 0]) (t := 33) ?hr ?_; (case hd => rfl); (case hg => rfl); (case hr => first | (go_simp; done) | (go_simp; rfl)); intro gb102 hg w23 hbox hb; have n0_ := Aside0.mk (below_step (by repeat (first | (with_reducible first | exact HB.out | apply below_alloc | apply pw_below_drewN | apply below_drew1) | exact HB.out)) hb); have n1_ := Aside0.mk (hbox); have n2_ := Aside0.mk ((by rw [hg]; exact (below_size (by repeat (first | (with_reducible first | exact HB.out | apply below_alloc | apply pw_below_drewN | apply below_drew1) | exact HB.out))) : w.heap.size ≤ gb102)); have n3_ := Aside0.mk ((by rw [hg]; exact (below_size (by repeat (first | (with_reducible first | exact HB.out | apply below_alloc | apply pw_below_drewN | apply below_drew1) | exact HB.out))) : w.heap.size ≤ gb102)); clear HB; have HB := n0_; have BK102 := n1_; have GW102 := n2_; have GE102 := n3_; clear n0_ n1_ n2_ n3_; clear hb hbox hg; have p3 : 0 ≤ (0 : Int) := (by omega); have q3 : 0 < a0.size := (by have : (0 : Int) < (a0.size : Int) := of_decide_eq_true (by first | (with_reducible assumption) | assumption); omega); have hx3 : ∀ h : 0 < a0.size, ((a0[0]'h).toNat : Int) = bt a0 0 := bt_at a0 0; clear p3; have qi3 : (0 < (a0.size : Int)) = True := eq_true (of_decide_eq_true (by first | (with_reducible assumption) | assumption)); replace q3 := eq_true q3) | ((with_reducible refine gate_callee (f := 21) rfl ?_); refine goesL_ (some 13) rfl rfl Tryz.func21 (by kernel_rfl) rfl #[.int .u8 (bt a0 0)] rfl (by (try simp only [List.map_toArray, List.map_cons, List.map_nil]); first | done | rfl | (simp only [List.length_drop, List.length_take]; rfl)) ?_; (with_reducible refine (lex_gap.calls (bt a0 0) false _ A4.out).mono ?_); rintro e w' ⟨rfl, ⟨nd, rfl⟩⟩; refine ⟨_, rfl, ?_⟩; (try (rw [drewN_self w23]; generalize hq_ : World.drewN w23 _ = w23; have n0_ : Aside0 (w23.heap[gb102]? = some (.cells #[.int .i64 0, .string (⟨#[]⟩ : ByteArray), .int .i64 0, .int .i64 0] 33 (0, 0))) := ⟨by rw [← hq_]; exact (by (with_reducible repeat (first | refine blk_drewN ?_ _ | refine blk_drew ?_ | refine blk_alloc ?_ _)); exact BK102.out)⟩; have n1_ : Aside0 (Below w.heap.size w w23) := ⟨by rw [← hq_]; exact (by repeat (first | (with_reducible first | exact HB.out | apply below_alloc | apply pw_below_drewN | apply below_drew1 | refine below_set ?_ GE102.out) | exact HB.out))⟩; clear BK102 HB hq_; have BK102 := n0_; have HB := n1_; clear n0_ n1_))) | ((with_reducible refine gate_callee (f := 24) rfl ?_); refine goesL_ (some 25) rfl rfl Tryz.func24 (by kernel_rfl) rfl #[.int .u8 (bt a0 0)] rfl (by (try simp only [List.map_toArray, List.map_cons, List.map_nil]); first | done | rfl | (simp only [List.length_drop, List.length_take]; rfl)) ?_; (with_reducible refine (lex_letter.calls (bt a0 0) false _ A13.out).mono ?_); rintro e w' ⟨rfl, ⟨nd, rfl⟩⟩; refine ⟨_, rfl, ?_⟩; (try (rw [drewN_self w23]; generalize hq_ : World.drewN w23 _ = w23; have n0_ : Aside0 (w23.heap[gb102]? = some (.cells #[.int .i64 0, .string (⟨#[]⟩ : ByteArray), .int .i64 0, .int .i64 0] 33 (0, 0))) := ⟨by rw [← hq_]; exact (by (with_reducible repeat (first | refine blk_drewN ?_ _ | refine blk_drew ?_ | refine blk_alloc ?_ _)); exact BK102.out)⟩; have n1_ : Aside0 (Below w.heap.size w w23) := ⟨by rw [← hq_]; exact (by repeat (first | (with_reducible first | exact HB.out | apply below_alloc | apply pw_below_drewN | apply below_drew1 | refine below_set ?_ GE102.out) | exact HB.out))⟩; clear BK102 HB hq_; have BK102 := n0_; have HB := n1_; clear n0_ n1_))) | ((with_reducible refine gate_callee (f := 26) rfl ?_); refine goesL_ (some 35) rfl rfl Tryz.func26 (by kernel_rfl) rfl #[.int .u8 (bt a0 0)] rfl (by (try simp only [List.map_toArray, List.map_cons, List.map_nil]); first | done | rfl | (simp only [List.length_drop, List.length_take]; rfl)) ?_; (with_reducible refine (lex_digit.calls (bt a0 0) true _ A20.out).mono ?_); rintro e w' ⟨rfl, ⟨nd, rfl⟩⟩; refine ⟨_, rfl, ?_⟩; (try (rw [drewN_self w23]; generalize hq_ : World.drewN w23 _ = w23; have n0_ : Aside0 (w23.heap[gb102]? = some (.cells #[.int .i64 0, .string (⟨#[]⟩ : ByteArray), .int .i64 0, .int .i64 0] 33 (0, 0))) := ⟨by rw [← hq_]; exact (by (with_reducible repeat (first | refine blk_drewN ?_ _ | refine blk_drew ?_ | refine blk_alloc ?_ _)); exact BK102.out)⟩; have n1_ : Aside0 (Below w.heap.size w w23) := ⟨by rw [← hq_]; exact (by repeat (first | (with_reducible first | exact HB.out | apply below_alloc | apply pw_below_drewN | apply below_drew1 | refine below_set ?_ GE102.out) | exact HB.out))⟩; clear BK102 HB hq_; have BK102 := n0_; have HB := n1_; clear n0_ n1_))) | ((with_reducible refine gate_callee (f := 27) rfl ?_); refine goesL_ (some 37) rfl rfl Tryz.func27 (by kernel_rfl) rfl #[.string a0] rfl (by (try simp only [List.map_toArray, List.map_cons, List.map_nil]); first | done | rfl | (simp only [List.length_drop, List.length_take]; rfl)) ?_; (with_reducible refine (lex_number.calls a0 t109 t110 t111 t112 t113 t114 _ ?side1 A22.out).mono ?_); (case side1 => exact Gl.below HGL.out (by repeat (first | (with_reducible first | exact HB.out | apply below_alloc | apply pw_below_drewN | apply below_drew1 | refine below_set ?_ GE102.out) | exact HB.out))); rintro e w24 ⟨rfl, hb⟩; refine ⟨_, rfl, ?_⟩; have n0_ := Aside0.mk (blk_below (g := gb102) (o := .cells #[.int .i64 0, .string (⟨#[]⟩ : ByteArray), .int .i64 0, .int .i64 0] 33 (0, 0)) (by (with_reducible repeat (first | refine blk_drewN ?_ _ | refine blk_drew ?_ | refine blk_alloc ?_ _)); exact BK102.out) hb); have n1_ := Aside0.mk (below_step (by repeat (first | (with_reducible first | exact HB.out | apply below_alloc | apply pw_below_drewN | apply below_drew1 | refine below_set ?_ GE102.out) | exact HB.out)) hb); clear BK102; clear HB; have BK102 := n0_; have HB := n1_; clear n0_ n1_; (try clear hb); (try clear hb2); (try clear hk); (try clear hi); have hcz25_0 : w24.cell? ⟨gb102, 0, none⟩ = some (.int .i64 0) := (blk_cell BK102.out 0).trans rfl; have hcz25_1 : w24.cell? ⟨gb102, 1, none⟩ = some (.string (⟨#[]⟩ : ByteArray)) := (blk_cell BK102.out 1).trans rfl; have hcz25_2 : w24.cell? ⟨gb102, 2, none⟩ = some (.int .i64 0) := (blk_cell BK102.out 2).trans rfl; have hcz25_3 : w24.cell? ⟨gb102, 3, none⟩ = some (.int .i64 0) := (blk_cell BK102.out 3).trans rfl; have hfz25_0 := blk_frozen BK102.out 0; have hfz25_1 := blk_frozen BK102.out 1; have hfz25_2 := blk_frozen BK102.out 2; have hfz25_3 := blk_frozen BK102.out 3))
      refine bodyPost_ret (results_ctt rfl _ _ gb102 33 #[.int .i64 t109, .string t110, .int .i64 t111, .int .i64 t112] (0, 0) _ rfl (by (with_reducible repeat (first | refine blk_drewN ?_ _ | refine blk_drew ?_ | refine blk_alloc ?_ _)); refine blk_put (cs := #[.int .i64 t109, .string t110, .int .i64 t111, .int .i64 0]) ?_ 3 _ rfl; (with_reducible repeat (first | refine blk_drewN ?_ _ | refine blk_drew ?_ | refine blk_alloc ?_ _)); refine blk_put (cs := #[.int .i64 t109, .string t110, .int .i64 0, .int .i64 0]) ?_ 2 _ rfl; (with_reducible repeat (first | refine blk_drewN ?_ _ | refine blk_drew ?_ | refine blk_alloc ?_ _)); refine blk_put (cs := #[.int .i64 t109, .string (⟨#[]⟩ : ByteArray), .int .i64 0, .int .i64 0]) ?_ 1 _ rfl; (with_reducible repeat (first | refine blk_drewN ?_ _ | refine blk_drew ?_ | refine blk_alloc ?_ _)); refine blk_put (cs := #[.int .i64 0, .string (⟨#[]⟩ : ByteArray), .int .i64 0, .int .i64 0]) ?_ 0 _ rfl; (with_reducible repeat (first | refine blk_drewN ?_ _ | refine blk_drew ?_ | refine blk_alloc ?_ _)); exact BK102.out) Tryz.underlying33 rfl (by kernel_rfl)) rfl ?_
      exact ⟨by first | rfl | (simp [errW_none, errW_some] <;> rfl) | (simp [*, errW_none, errW_some] <;> rfl), by repeat (first | (with_reducible first | exact HB.out | apply below_alloc | apply pw_below_drewN | apply below_drew1 | refine below_set ?_ GE102.out) | exact HB.out)⟩
     ·replace c21 := Bool.eq_false_iff.mpr c21
      subst c21
      have H1 : (if (bt a0 0) = 34 then ((lex_quoted.f a0).bind fun bt115 => (if bt115.2 > 0 then (some (3, bt115.1, 0, 0, bt115.2, 0)) else (some (0, (⟨#[]⟩ : ByteArray), 0, 0, 0, 3)))) else ((strings_HasPrefix.f a0 (⟨#[61, 61]⟩ : ByteArray)).bind fun t117 => (if t117 = true then (lex_next.j0 k a0 (bt a0 0) true) else ((strings_HasPrefix.f a0 (⟨#[33, 61]⟩ : ByteArray)).bind fun t118 => (lex_next.j0 k a0 (bt a0 0) t118))))) = some (r1, r2, r3, r4, r5, r6) := by rw [if_neg (show ¬ (false = true) by decide)] at H; exact H
      clear H
      have H := H1
      clear H1
      by_cases c26 : (bt a0 0) = 34
      ·rw [if_pos c26] at H
       have c26b0 : ((bt a0 0) == 34) = true := beq_iff_eq.mpr c26
       have c26b1 : ((bt a0 0) != 34) = false := bne_eq_false_iff_eq.mpr c26
       clear c26
       replace H := Option.bind_eq_some_iff.mp H
       obtain ⟨⟨t115, t116⟩, A270, H⟩ := H
       replace H : (if t116 > 0 then (some (3, t115, 0, 0, t116, 0)) else (some (0, (⟨#[]⟩ : ByteArray), 0, 0, 0, 3))) = some (r1, r2, r3, r4, r5, r6) := H
       have A27 := Aside0.mk A270
       clear A270
       by_cases c28 : t116 > 0
       ·rw [if_pos c28] at H
        have c28b0 : decide (0 < t116) = true := decide_eq_true c28
        clear c28
        simp only [Option.some.injEq, Prod.mk.injEq] at H
        obtain ⟨rfl, rfl, rfl, rfl, rfl, rfl⟩ := H
        go_enter Tryz.func16, Tryz.ntmps16
        go_wp2_with (first | ((with_reducible refine gate_dst (N := 2) rfl ?_); refine box_event ?hg (N := 2) ?hd (cs := #[.int .i64 0, .string (⟨#[]⟩ : ByteArray), .int .i64 0, .int .i64 0]) (t := 33) ?hr ?_; (case hd => rfl); (case hg => rfl); (case hr => first | (go_simp; done) | (go_simp; rfl)); intro gb102 hg w29 hbox hb; have n0_ := Aside0.mk (below_step (by repeat (first | (with_reducible first | exact HB.out | apply below_alloc | apply pw_below_drewN | apply below_drew1) | exact HB.out)) hb); have n1_ := Aside0.mk (hbox); have n2_ := Aside0.mk ((by rw [hg]; exact (below_size (by repeat (first | (with_reducible first | exact HB.out | apply below_alloc | apply pw_below_drewN | apply below_drew1) | exact HB.out))) : w.heap.size ≤ gb102)); have n3_ := Aside0.mk ((by rw [hg]; exact (below_size (by repeat (first | (with_reducible first | exact HB.out | apply below_alloc | apply pw_below_drewN | apply below_drew1) | exact HB.out))) : w.heap.size ≤ gb102)); clear HB; have HB := n0_; have BK102 := n1_; have GW102 := n2_; have GE102 := n3_; clear n0_ n1_ n2_ n3_; clear hb hbox hg; have p3 : 0 ≤ (0 : Int) := (by omega); have q3 : 0 < a0.size := (by have : (0 : Int) < (a0.size : Int) := of_decide_eq_true (by first | (with_reducible assumption) | assumption); omega); have hx3 : ∀ h : 0 < a0.size, ((a0[0]'h).toNat : Int) = bt a0 0 := bt_at a0 0; clear p3; have qi3 : (0 < (a0.size : Int)) = True := eq_true (of_decide_eq_true (by first | (with_reducible assumption) | assumption)); replace q3 := eq_true q3) | ((with_reducible refine gate_callee (f := 21) rfl ?_); refine goesL_ (some 13) rfl rfl Tryz.func21 (by kernel_rfl) rfl #[.int .u8 (bt a0 0)] rfl (by (try simp only [List.map_toArray, List.map_cons, List.map_nil]); first | done | rfl | (simp only [List.length_drop, List.length_take]; rfl)) ?_; (with_reducible refine (lex_gap.calls (bt a0 0) false _ A4.out).mono ?_); rintro e w' ⟨rfl, ⟨nd, rfl⟩⟩; refine ⟨_, rfl, ?_⟩; (try (rw [drewN_self w29]; generalize hq_ : World.drewN w29 _ = w29; have n0_ : Aside0 (w29.heap[gb102]? = some (.cells #[.int .i64 0, .string (⟨#[]⟩ : ByteArray), .int .i64 0, .int .i64 0] 33 (0, 0))) := ⟨by rw [← hq_]; exact (by (with_reducible repeat (first | refine blk_drewN ?_ _ | refine blk_drew ?_ | refine blk_alloc ?_ _)); exact BK102.out)⟩; have n1_ : Aside0 (Below w.heap.size w w29) := ⟨by rw [← hq_]; exact (by repeat (first | (with_reducible first | exact HB.out | apply below_alloc | apply pw_below_drewN | apply below_drew1 | refine below_set ?_ GE102.out) | exact HB.out))⟩; clear BK102 HB hq_; have BK102 := n0_; have HB := n1_; clear n0_ n1_))) | ((with_reducible refine gate_callee (f := 24) rfl ?_); refine goesL_ (some 25) rfl rfl Tryz.func24 (by kernel_rfl) rfl #[.int .u8 (bt a0 0)] rfl (by (try simp only [List.map_toArray, List.map_cons, List.map_nil]); first | done | rfl | (simp only [List.length_drop, List.length_take]; rfl)) ?_; (with_reducible refine (lex_letter.calls (bt a0 0) false _ A13.out).mono ?_); rintro e w' ⟨rfl, ⟨nd, rfl⟩⟩; refine ⟨_, rfl, ?_⟩; (try (rw [drewN_self w29]; generalize hq_ : World.drewN w29 _ = w29; have n0_ : Aside0 (w29.heap[gb102]? = some (.cells #[.int .i64 0, .string (⟨#[]⟩ : ByteArray), .int .i64 0, .int .i64 0] 33 (0, 0))) := ⟨by rw [← hq_]; exact (by (with_reducible repeat (first | refine blk_drewN ?_ _ | refine blk_drew ?_ | refine blk_alloc ?_ _)); exact BK102.out)⟩; have n1_ : Aside0 (Below w.heap.size w w29) := ⟨by rw [← hq_]; exact (by repeat (first | (with_reducible first | exact HB.out | apply below_alloc | apply pw_below_drewN | apply below_drew1 | refine below_set ?_ GE102.out) | exact HB.out))⟩; clear BK102 HB hq_; have BK102 := n0_; have HB := n1_; clear n0_ n1_))) | ((with_reducible refine gate_callee (f := 26) rfl ?_); refine goesL_ (some 35) rfl rfl Tryz.func26 (by kernel_rfl) rfl #[.int .u8 (bt a0 0)] rfl (by (try simp only [List.map_toArray, List.map_cons, List.map_nil]); first | done | rfl | (simp only [List.length_drop, List.length_take]; rfl)) ?_; (with_reducible refine (lex_digit.calls (bt a0 0) false _ A20.out).mono ?_); rintro e w' ⟨rfl, ⟨nd, rfl⟩⟩; refine ⟨_, rfl, ?_⟩; (try (rw [drewN_self w29]; generalize hq_ : World.drewN w29 _ = w29; have n0_ : Aside0 (w29.heap[gb102]? = some (.cells #[.int .i64 0, .string (⟨#[]⟩ : ByteArray), .int .i64 0, .int .i64 0] 33 (0, 0))) := ⟨by rw [← hq_]; exact (by (with_reducible repeat (first | refine blk_drewN ?_ _ | refine blk_drew ?_ | refine blk_alloc ?_ _)); exact BK102.out)⟩; have n1_ : Aside0 (Below w.heap.size w w29) := ⟨by rw [← hq_]; exact (by repeat (first | (with_reducible first | exact HB.out | apply below_alloc | apply pw_below_drewN | apply below_drew1 | refine below_set ?_ GE102.out) | exact HB.out))⟩; clear BK102 HB hq_; have BK102 := n0_; have HB := n1_; clear n0_ n1_))) | ((with_reducible refine gate_callee (f := 28) rfl ?_); refine goesL_ (some 46) rfl rfl Tryz.func28 (by kernel_rfl) rfl #[.string a0] rfl (by (try simp only [List.map_toArray, List.map_cons, List.map_nil]); first | done | rfl | (simp only [List.length_drop, List.length_take]; rfl)) ?_; (with_reducible refine (lex_quoted.calls a0 t115 t116 _ A27.out).mono ?_); rintro e w30 ⟨rfl, hb⟩; refine ⟨_, rfl, ?_⟩; have n0_ := Aside0.mk (blk_below (g := gb102) (o := .cells #[.int .i64 0, .string (⟨#[]⟩ : ByteArray), .int .i64 0, .int .i64 0] 33 (0, 0)) (by (with_reducible repeat (first | refine blk_drewN ?_ _ | refine blk_drew ?_ | refine blk_alloc ?_ _)); exact BK102.out) hb); have n1_ := Aside0.mk (below_step (by repeat (first | (with_reducible first | exact HB.out | apply below_alloc | apply pw_below_drewN | apply below_drew1 | refine below_set ?_ GE102.out) | exact HB.out)) hb); clear BK102; clear HB; have BK102 := n0_; have HB := n1_; clear n0_ n1_; (try clear hb); (try clear hb2); (try clear hk); (try clear hi); have hcz31_0 : w30.cell? ⟨gb102, 0, none⟩ = some (.int .i64 0) := (blk_cell BK102.out 0).trans rfl; have hcz31_1 : w30.cell? ⟨gb102, 1, none⟩ = some (.string (⟨#[]⟩ : ByteArray)) := (blk_cell BK102.out 1).trans rfl; have hcz31_2 : w30.cell? ⟨gb102, 2, none⟩ = some (.int .i64 0) := (blk_cell BK102.out 2).trans rfl; have hcz31_3 : w30.cell? ⟨gb102, 3, none⟩ = some (.int .i64 0) := (blk_cell BK102.out 3).trans rfl; have hfz31_0 := blk_frozen BK102.out 0; have hfz31_1 := blk_frozen BK102.out 1; have hfz31_2 := blk_frozen BK102.out 2; have hfz31_3 := blk_frozen BK102.out 3))
        refine bodyPost_ret (results_ctt rfl _ _ gb102 33 #[.int .i64 3, .string t115, .int .i64 0, .int .i64 0] (0, 0) _ rfl (by (with_reducible repeat (first | refine blk_drewN ?_ _ | refine blk_drew ?_ | refine blk_alloc ?_ _)); refine blk_put (cs := #[.int .i64 3, .string t115, .int .i64 0, .int .i64 0]) ?_ 3 _ rfl; (with_reducible repeat (first | refine blk_drewN ?_ _ | refine blk_drew ?_ | refine blk_alloc ?_ _)); refine blk_put (cs := #[.int .i64 3, .string t115, .int .i64 0, .int .i64 0]) ?_ 2 _ rfl; (with_reducible repeat (first | refine blk_drewN ?_ _ | refine blk_drew ?_ | refine blk_alloc ?_ _)); refine blk_put (cs := #[.int .i64 3, .string (⟨#[]⟩ : ByteArray), .int .i64 0, .int .i64 0]) ?_ 1 _ rfl; (with_reducible repeat (first | refine blk_drewN ?_ _ | refine blk_drew ?_ | refine blk_alloc ?_ _)); refine blk_put (cs := #[.int .i64 0, .string (⟨#[]⟩ : ByteArray), .int .i64 0, .int .i64 0]) ?_ 0 _ rfl; (with_reducible repeat (first | refine blk_drewN ?_ _ | refine blk_drew ?_ | refine blk_alloc ?_ _)); exact BK102.out) Tryz.underlying33 rfl (by kernel_rfl)) rfl ?_
        exact ⟨by first | rfl | (simp [errW_none, errW_some] <;> rfl) | (simp [*, errW_none, errW_some] <;> rfl), by repeat (first | (with_reducible first | exact HB.out | apply below_alloc | apply pw_below_drewN | apply below_drew1 | refine below_set ?_ GE102.out) | exact HB.out)⟩
       ·rw [if_neg c28] at H
        have c28b0 : decide (0 < t116) = false := decide_eq_false c28
        clear c28
        simp only [Option.some.injEq, Prod.mk.injEq] at H
        obtain ⟨rfl, rfl, rfl, rfl, rfl, rfl⟩ := H
        go_enter Tryz.func16, Tryz.ntmps16
        go_wp2_with (first | ((with_reducible refine gate_dst (N := 2) rfl ?_); refine box_event ?hg (N := 2) ?hd (cs := #[.int .i64 0, .string (⟨#[]⟩ : ByteArray), .int .i64 0, .int .i64 0]) (t := 33) ?hr ?_; (case hd => rfl); (case hg => rfl); (case hr => first | (go_simp; done) | (go_simp; rfl)); intro gb102 hg w32 hbox hb; have n0_ := Aside0.mk (below_step (by repeat (first | (with_reducible first | exact HB.out | apply below_alloc | apply pw_below_drewN | apply below_drew1) | exact HB.out)) hb); have n1_ := Aside0.mk (hbox); have n2_ := Aside0.mk ((by rw [hg]; exact (below_size (by repeat (first | (with_reducible first | exact HB.out | apply below_alloc | apply pw_below_drewN | apply below_drew1) | exact HB.out))) : w.heap.size ≤ gb102)); have n3_ := Aside0.mk ((by rw [hg]; exact (below_size (by repeat (first | (with_reducible first | exact HB.out | apply below_alloc | apply pw_below_drewN | apply below_drew1) | exact HB.out))) : w.heap.size ≤ gb102)); clear HB; have HB := n0_; have BK102 := n1_; have GW102 := n2_; have GE102 := n3_; clear n0_ n1_ n2_ n3_; clear hb hbox hg; have p3 : 0 ≤ (0 : Int) := (by omega); have q3 : 0 < a0.size := (by have : (0 : Int) < (a0.size : Int) := of_decide_eq_true (by first | (with_reducible assumption) | assumption); omega); have hx3 : ∀ h : 0 < a0.size, ((a0[0]'h).toNat : Int) = bt a0 0 := bt_at a0 0; clear p3; have qi3 : (0 < (a0.size : Int)) = True := eq_true (of_decide_eq_true (by first | (with_reducible assumption) | assumption)); replace q3 := eq_true q3) | ((with_reducible refine gate_callee (f := 21) rfl ?_); refine goesL_ (some 13) rfl rfl Tryz.func21 (by kernel_rfl) rfl #[.int .u8 (bt a0 0)] rfl (by (try simp only [List.map_toArray, List.map_cons, List.map_nil]); first | done | rfl | (simp only [List.length_drop, List.length_take]; rfl)) ?_; (with_reducible refine (lex_gap.calls (bt a0 0) false _ A4.out).mono ?_); rintro e w' ⟨rfl, ⟨nd, rfl⟩⟩; refine ⟨_, rfl, ?_⟩; (try (rw [drewN_self w32]; generalize hq_ : World.drewN w32 _ = w32; have n0_ : Aside0 (w32.heap[gb102]? = some (.cells #[.int .i64 0, .string (⟨#[]⟩ : ByteArray), .int .i64 0, .int .i64 0] 33 (0, 0))) := ⟨by rw [← hq_]; exact (by (with_reducible repeat (first | refine blk_drewN ?_ _ | refine blk_drew ?_ | refine blk_alloc ?_ _)); exact BK102.out)⟩; have n1_ : Aside0 (Below w.heap.size w w32) := ⟨by rw [← hq_]; exact (by repeat (first | (with_reducible first | exact HB.out | apply below_alloc | apply pw_below_drewN | apply below_drew1 | refine below_set ?_ GE102.out) | exact HB.out))⟩; clear BK102 HB hq_; have BK102 := n0_; have HB := n1_; clear n0_ n1_))) | ((with_reducible refine gate_callee (f := 24) rfl ?_); refine goesL_ (some 25) rfl rfl Tryz.func24 (by kernel_rfl) rfl #[.int .u8 (bt a0 0)] rfl (by (try simp only [List.map_toArray, List.map_cons, List.map_nil]); first | done | rfl | (simp only [List.length_drop, List.length_take]; rfl)) ?_; (with_reducible refine (lex_letter.calls (bt a0 0) false _ A13.out).mono ?_); rintro e w' ⟨rfl, ⟨nd, rfl⟩⟩; refine ⟨_, rfl, ?_⟩; (try (rw [drewN_self w32]; generalize hq_ : World.drewN w32 _ = w32; have n0_ : Aside0 (w32.heap[gb102]? = some (.cells #[.int .i64 0, .string (⟨#[]⟩ : ByteArray), .int .i64 0, .int .i64 0] 33 (0, 0))) := ⟨by rw [← hq_]; exact (by (with_reducible repeat (first | refine blk_drewN ?_ _ | refine blk_drew ?_ | refine blk_alloc ?_ _)); exact BK102.out)⟩; have n1_ : Aside0 (Below w.heap.size w w32) := ⟨by rw [← hq_]; exact (by repeat (first | (with_reducible first | exact HB.out | apply below_alloc | apply pw_below_drewN | apply below_drew1 | refine below_set ?_ GE102.out) | exact HB.out))⟩; clear BK102 HB hq_; have BK102 := n0_; have HB := n1_; clear n0_ n1_))) | ((with_reducible refine gate_callee (f := 26) rfl ?_); refine goesL_ (some 35) rfl rfl Tryz.func26 (by kernel_rfl) rfl #[.int .u8 (bt a0 0)] rfl (by (try simp only [List.map_toArray, List.map_cons, List.map_nil]); first | done | rfl | (simp only [List.length_drop, List.length_take]; rfl)) ?_; (with_reducible refine (lex_digit.calls (bt a0 0) false _ A20.out).mono ?_); rintro e w' ⟨rfl, ⟨nd, rfl⟩⟩; refine ⟨_, rfl, ?_⟩; (try (rw [drewN_self w32]; generalize hq_ : World.drewN w32 _ = w32; have n0_ : Aside0 (w32.heap[gb102]? = some (.cells #[.int .i64 0, .string (⟨#[]⟩ : ByteArray), .int .i64 0, .int .i64 0] 33 (0, 0))) := ⟨by rw [← hq_]; exact (by (with_reducible repeat (first | refine blk_drewN ?_ _ | refine blk_drew ?_ | refine blk_alloc ?_ _)); exact BK102.out)⟩; have n1_ : Aside0 (Below w.heap.size w w32) := ⟨by rw [← hq_]; exact (by repeat (first | (with_reducible first | exact HB.out | apply below_alloc | apply pw_below_drewN | apply below_drew1 | refine below_set ?_ GE102.out) | exact HB.out))⟩; clear BK102 HB hq_; have BK102 := n0_; have HB := n1_; clear n0_ n1_))) | ((with_reducible refine gate_callee (f := 28) rfl ?_); refine goesL_ (some 46) rfl rfl Tryz.func28 (by kernel_rfl) rfl #[.string a0] rfl (by (try simp only [List.map_toArray, List.map_cons, List.map_nil]); first | done | rfl | (simp only [List.length_drop, List.length_take]; rfl)) ?_; (with_reducible refine (lex_quoted.calls a0 t115 t116 _ A27.out).mono ?_); rintro e w33 ⟨rfl, hb⟩; refine ⟨_, rfl, ?_⟩; have n0_ := Aside0.mk (blk_below (g := gb102) (o := .cells #[.int .i64 0, .string (⟨#[]⟩ : ByteArray), .int .i64 0, .int .i64 0] 33 (0, 0)) (by (with_reducible repeat (first | refine blk_drewN ?_ _ | refine blk_drew ?_ | refine blk_alloc ?_ _)); exact BK102.out) hb); have n1_ := Aside0.mk (below_step (by repeat (first | (with_reducible first | exact HB.out | apply below_alloc | apply pw_below_drewN | apply below_drew1 | refine below_set ?_ GE102.out) | exact HB.out)) hb); clear BK102; clear HB; have BK102 := n0_; have HB := n1_; clear n0_ n1_; (try clear hb); (try clear hb2); (try clear hk); (try clear hi); have hcz34_0 : w33.cell? ⟨gb102, 0, none⟩ = some (.int .i64 0) := (blk_cell BK102.out 0).trans rfl; have hcz34_1 : w33.cell? ⟨gb102, 1, none⟩ = some (.string (⟨#[]⟩ : ByteArray)) := (blk_cell BK102.out 1).trans rfl; have hcz34_2 : w33.cell? ⟨gb102, 2, none⟩ = some (.int .i64 0) := (blk_cell BK102.out 2).trans rfl; have hcz34_3 : w33.cell? ⟨gb102, 3, none⟩ = some (.int .i64 0) := (blk_cell BK102.out 3).trans rfl; have hfz34_0 := blk_frozen BK102.out 0; have hfz34_1 := blk_frozen BK102.out 1; have hfz34_2 := blk_frozen BK102.out 2; have hfz34_3 := blk_frozen BK102.out 3))
        refine bodyPost_ret (results_ctt rfl _ _ gb102 33 #[.int .i64 0, .string (⟨#[]⟩ : ByteArray), .int .i64 0, .int .i64 0] (0, 0) _ rfl (by (with_reducible repeat (first | refine blk_drewN ?_ _ | refine blk_drew ?_ | refine blk_alloc ?_ _)); refine blk_put (cs := #[.int .i64 0, .string (⟨#[]⟩ : ByteArray), .int .i64 0, .int .i64 0]) ?_ 3 _ rfl; (with_reducible repeat (first | refine blk_drewN ?_ _ | refine blk_drew ?_ | refine blk_alloc ?_ _)); refine blk_put (cs := #[.int .i64 0, .string (⟨#[]⟩ : ByteArray), .int .i64 0, .int .i64 0]) ?_ 2 _ rfl; (with_reducible repeat (first | refine blk_drewN ?_ _ | refine blk_drew ?_ | refine blk_alloc ?_ _)); refine blk_put (cs := #[.int .i64 0, .string (⟨#[]⟩ : ByteArray), .int .i64 0, .int .i64 0]) ?_ 1 _ rfl; (with_reducible repeat (first | refine blk_drewN ?_ _ | refine blk_drew ?_ | refine blk_alloc ?_ _)); refine blk_put (cs := #[.int .i64 0, .string (⟨#[]⟩ : ByteArray), .int .i64 0, .int .i64 0]) ?_ 0 _ rfl; (with_reducible repeat (first | refine blk_drewN ?_ _ | refine blk_drew ?_ | refine blk_alloc ?_ _)); exact BK102.out) Tryz.underlying33 rfl (by kernel_rfl)) rfl ?_
        exact ⟨by first | rfl | (simp [errW_none, errW_some] <;> rfl) | (simp [*, errW_none, errW_some] <;> rfl), by repeat (first | (with_reducible first | exact HB.out | apply below_alloc | apply pw_below_drewN | apply below_drew1 | refine below_set ?_ GE102.out) | exact HB.out)⟩
      ·rw [if_neg c26] at H
       have c26b0 : ((bt a0 0) == 34) = false := beq_eq_false_iff_ne.mpr c26
       have c26b1 : ((bt a0 0) != 34) = true := bne_iff_ne.mpr c26
       have HC35 := Aside0.mk H
       clear H
       go_enter Tryz.func16, Tryz.ntmps16
       go_upto_region 15 with (first | ((with_reducible refine gate_dst (N := 2) rfl ?_); refine box_event ?hg (N := 2) ?hd (cs := #[.int .i64 0, .string (⟨#[]⟩ : ByteArray), .int .i64 0, .int .i64 0]) (t := 33) ?hr ?_; (case hd => rfl); (case hg => rfl); (case hr => first | (go_simp; done) | (go_simp; rfl)); intro gb102 hg w36 hbox hb; have n0_ := Aside0.mk (below_step (by repeat (first | (with_reducible first | exact HB.out | apply below_alloc | apply pw_below_drewN | apply below_drew1) | exact HB.out)) hb); have n1_ := Aside0.mk (hbox); have n2_ := Aside0.mk ((by rw [hg]; exact (below_size (by repeat (first | (with_reducible first | exact HB.out | apply below_alloc | apply pw_below_drewN | apply below_drew1) | exact HB.out))) : w.heap.size ≤ gb102)); have n3_ := Aside0.mk ((by rw [hg]; exact (below_size (by repeat (first | (with_reducible first | exact HB.out | apply below_alloc | apply pw_below_drewN | apply below_drew1) | exact HB.out))) : w.heap.size ≤ gb102)); clear HB; have HB := n0_; have BK102 := n1_; have GW102 := n2_; have GE102 := n3_; clear n0_ n1_ n2_ n3_; clear hb hbox hg; have p3 : 0 ≤ (0 : Int) := (by omega); have q3 : 0 < a0.size := (by have : (0 : Int) < (a0.size : Int) := of_decide_eq_true (by first | (with_reducible assumption) | assumption); omega); have hx3 : ∀ h : 0 < a0.size, ((a0[0]'h).toNat : Int) = bt a0 0 := bt_at a0 0; clear p3; have qi3 : (0 < (a0.size : Int)) = True := eq_true (of_decide_eq_true (by first | (with_reducible assumption) | assumption)); replace q3 := eq_true q3) | ((with_reducible refine gate_callee (f := 21) rfl ?_); refine goesL_ (some 13) rfl rfl Tryz.func21 (by kernel_rfl) rfl #[.int .u8 (bt a0 0)] rfl (by (try simp only [List.map_toArray, List.map_cons, List.map_nil]); first | done | rfl | (simp only [List.length_drop, List.length_take]; rfl)) ?_; (with_reducible refine (lex_gap.calls (bt a0 0) false _ A4.out).mono ?_); rintro e w' ⟨rfl, ⟨nd, rfl⟩⟩; refine ⟨_, rfl, ?_⟩) | ((with_reducible refine gate_callee (f := 24) rfl ?_); refine goesL_ (some 25) rfl rfl Tryz.func24 (by kernel_rfl) rfl #[.int .u8 (bt a0 0)] rfl (by (try simp only [List.map_toArray, List.map_cons, List.map_nil]); first | done | rfl | (simp only [List.length_drop, List.length_take]; rfl)) ?_; (with_reducible refine (lex_letter.calls (bt a0 0) false _ A13.out).mono ?_); rintro e w' ⟨rfl, ⟨nd, rfl⟩⟩; refine ⟨_, rfl, ?_⟩) | ((with_reducible refine gate_callee (f := 26) rfl ?_); refine goesL_ (some 35) rfl rfl Tryz.func26 (by kernel_rfl) rfl #[.int .u8 (bt a0 0)] rfl (by (try simp only [List.map_toArray, List.map_cons, List.map_nil]); first | done | rfl | (simp only [List.length_drop, List.length_take]; rfl)) ?_; (with_reducible refine (lex_digit.calls (bt a0 0) false _ A20.out).mono ?_); rintro e w' ⟨rfl, ⟨nd, rfl⟩⟩; refine ⟨_, rfl, ?_⟩))
       (try simp only [Act.put, List.setIfInBounds_toArray, List.set_cons_zero, List.set_cons_succ])
       go_cut [54] (fun v54 wc => ∃ (kq : Nat) (x54_34 : Bool), v54 = .bool x54_34 ∧ Aside0 (lex_next.j0 kq a0 (bt a0 0) x54_34 = some (r1, r2, r3, r4, r5, r6)) ∧ Aside0 (kq ≤ k) ∧ Aside0 (wc.heap[gb102]? = some (.cells #[.int .i64 0, .string (⟨#[]⟩ : ByteArray), .int .i64 0, .int .i64 0] 33 (0, 0))) ∧ Aside0 (Below w.heap.size w wc))
       case first =>
        have H := HC35.out
        clear HC35
        replace H := Option.bind_eq_some_iff.mp H
        obtain ⟨t117, A370, H⟩ := H
        replace H : (if t117 = true then (lex_next.j0 k a0 (bt a0 0) true) else ((strings_HasPrefix.f a0 (⟨#[33, 61]⟩ : ByteArray)).bind fun t118 => (lex_next.j0 k a0 (bt a0 0) t118))) = some (r1, r2, r3, r4, r5, r6) := H
        have A37 := Aside0.mk A370
        clear A370
        by_cases c38 : t117 = true
        ·subst c38
         have H1 : (lex_next.j0 k a0 (bt a0 0) true) = some (r1, r2, r3, r4, r5, r6) := by rw [if_pos rfl] at H; exact H
         clear H
         have H := H1
         clear H1
         have H' := Aside0.mk H
         clear H
         go_wp2_with (first | ((with_reducible refine gate_callee (f := 29) rfl ?_); refine goesL_ (some 56) rfl rfl Tryz.func29 (by kernel_rfl) rfl #[.string a0, .string (⟨#[61, 61]⟩ : ByteArray)] rfl (by (try simp only [List.map_toArray, List.map_cons, List.map_nil]); first | done | rfl | (simp only [List.length_drop, List.length_take]; rfl)) ?_; (with_reducible refine (strings_HasPrefix.calls a0 (⟨#[61, 61]⟩ : ByteArray) true _ A37.out).mono ?_); rintro e w' ⟨rfl, ⟨nd, rfl⟩⟩; refine ⟨_, rfl, ?_⟩))
         go_meet
         case rel => exact ⟨_, (true), (by first | rfl | (simp; done) | (simp [*]; done)), (by first | exact H' | (subst_vars; exact H')), ⟨by first | omega | exact Nat.le_refl _⟩, ⟨by (with_reducible repeat (first | refine blk_drewN ?_ _ | refine blk_drew ?_ | refine blk_alloc ?_ _)); exact BK102.out⟩, ⟨by repeat (first | (with_reducible first | exact HB.out | apply below_alloc | apply pw_below_drewN | apply below_drew1 | refine below_set ?_ GE102.out) | exact HB.out)⟩⟩
        ·replace c38 := Bool.eq_false_iff.mpr c38
         subst c38
         have H1 : ((strings_HasPrefix.f a0 (⟨#[33, 61]⟩ : ByteArray)).bind fun t118 => (lex_next.j0 k a0 (bt a0 0) t118)) = some (r1, r2, r3, r4, r5, r6) := by rw [if_neg (show ¬ (false = true) by decide)] at H; exact H
         clear H
         have H := H1
         clear H1
         replace H := Option.bind_eq_some_iff.mp H
         obtain ⟨t118, A390, H⟩ := H
         replace H : (lex_next.j0 k a0 (bt a0 0) t118) = some (r1, r2, r3, r4, r5, r6) := H
         have A39 := Aside0.mk A390
         clear A390
         have H' := Aside0.mk H
         clear H
         go_wp2_with (first | ((with_reducible refine gate_callee (f := 29) rfl ?_); refine goesL_ (some 56) rfl rfl Tryz.func29 (by kernel_rfl) rfl #[.string a0, .string (⟨#[61, 61]⟩ : ByteArray)] rfl (by (try simp only [List.map_toArray, List.map_cons, List.map_nil]); first | done | rfl | (simp only [List.length_drop, List.length_take]; rfl)) ?_; (with_reducible refine (strings_HasPrefix.calls a0 (⟨#[61, 61]⟩ : ByteArray) false _ A37.out).mono ?_); rintro e w' ⟨rfl, ⟨nd, rfl⟩⟩; refine ⟨_, rfl, ?_⟩) | (go_at_call 29; (with_reducible refine (strings_HasPrefix.calls a0 (⟨#[33, 61]⟩ : ByteArray) t118 _ A39.out).mono ?_); rintro e w' ⟨rfl, ⟨nd, rfl⟩⟩))
         go_meet
         case rel => exact ⟨_, (t118), (by first | rfl | (simp; done) | (simp [*]; done)), (by first | exact H' | (subst_vars; exact H')), ⟨by first | omega | exact Nat.le_refl _⟩, ⟨by (with_reducible repeat (first | refine blk_drewN ?_ _ | refine blk_drew ?_ | refine blk_alloc ?_ _)); exact BK102.out⟩, ⟨by repeat (first | (with_reducible first | exact HB.out | apply below_alloc | apply pw_below_drewN | apply below_drew1 | refine below_set ?_ GE102.out) | exact HB.out)⟩⟩
       case rest =>
        clear HC35
        try clear c1
        try clear c2
        try clear c2b0
        try clear c2b1
        try clear p2
        try clear c3
        try clear p3
        try clear q3
        try clear hx3
        try clear qi3
        try clear c5
        try clear c9
        try clear c9b0
        try clear c9b1
        try clear c14
        try clear c16
        try clear c16b0
        try clear c16b1
        try clear c17
        try clear c17b0
        try clear c17b1
        try clear c21
        try clear c22
        try clear c24
        try clear c26
        try clear c26b0
        try clear c26b1
        try clear c27
        try clear c28
        try clear c28b0
        try clear c29
        try clear c38
        try clear hcz12_0
        try clear hcz12_1
        try clear hcz12_2
        try clear hcz12_3
        try clear hcz19_0
        try clear hcz19_1
        try clear hcz19_2
        try clear hcz19_3
        try clear hcz25_0
        try clear hcz25_1
        try clear hcz25_2
        try clear hcz25_3
        try clear hcz31_0
        try clear hcz31_1
        try clear hcz31_2
        try clear hcz31_3
        try clear hcz34_0
        try clear hcz34_1
        try clear hcz34_2
        try clear hcz34_3
        try clear hcz8_0
        try clear hcz8_1
        try clear hcz8_2
        try clear hcz8_3
        try clear hfz12_0
        try clear hfz12_1
        try clear hfz12_2
        try clear hfz12_3
        try clear hfz19_0
        try clear hfz19_1
        try clear hfz19_2
        try clear hfz19_3
        try clear hfz25_0
        try clear hfz25_1
        try clear hfz25_2
        try clear hfz25_3
        try clear hfz31_0
        try clear hfz31_1
        try clear hfz31_2
        try clear hfz31_3
        try clear hfz34_0
        try clear hfz34_1
        try clear hfz34_2
        try clear hfz34_3
        try clear hfz8_0
        try clear hfz8_1
        try clear hfz8_2
        try clear hfz8_3
        try clear p3
        try clear q3
        obtain ⟨kq, x54_34, rfl, HA, HJ34, BK102, HB⟩ := hcut
        cases kq with
        | zero => exact absurd HA.out (by simp [lex_next.j0])
        | succ kj34 =>
         have H := HA.out
         clear HA
         simp only [lex_next.j0] at H
         by_cases c40 : x54_34 = true
         ·subst c40
          have H1 : (if 0 ≤ 2 then (if 2 ≤ (a0.size : Int) then (some (4, a0.extract 0 2, 0, 0, 2, 0)) else (none)) else (none)) = some (r1, r2, r3, r4, r5, r6) := by rw [if_pos rfl] at H; exact H
          clear H
          have H := H1
          clear H1
          by_cases c41 : 0 ≤ 2
          ·rw [if_pos c41] at H
           have c41b0 := eq_true c41
           have c41b1 : decide (0 ≤ 2) = true := decide_eq_true c41
           clear c41
           by_cases c42 : 2 ≤ (a0.size : Int)
           ·rw [if_pos c42] at H
            have c42b0 := eq_true c42
            have c42b1 : decide (2 ≤ (a0.size : Int)) = true := decide_eq_true c42
            clear c42
            simp only [Option.some.injEq, Prod.mk.injEq] at H
            obtain ⟨rfl, rfl, rfl, rfl, rfl, rfl⟩ := H
            have hcz43_0 : wc.cell? ⟨gb102, 0, none⟩ = some (.int .i64 0) := (blk_cell BK102.out 0).trans rfl
            have hcz43_1 : wc.cell? ⟨gb102, 1, none⟩ = some (.string (⟨#[]⟩ : ByteArray)) := (blk_cell BK102.out 1).trans rfl
            have hcz43_2 : wc.cell? ⟨gb102, 2, none⟩ = some (.int .i64 0) := (blk_cell BK102.out 2).trans rfl
            have hcz43_3 : wc.cell? ⟨gb102, 3, none⟩ = some (.int .i64 0) := (blk_cell BK102.out 3).trans rfl
            have hfz43_0 := blk_frozen BK102.out 0
            have hfz43_1 := blk_frozen BK102.out 1
            have hfz43_2 := blk_frozen BK102.out 2
            have hfz43_3 := blk_frozen BK102.out 3
            go_wp2
            refine bodyPost_ret (results_ctt rfl _ _ gb102 33 #[.int .i64 4, .string (a0.extract 0 2), .int .i64 0, .int .i64 0] (0, 0) _ rfl (by (with_reducible repeat (first | refine blk_drewN ?_ _ | refine blk_drew ?_ | refine blk_alloc ?_ _)); refine blk_put (cs := #[.int .i64 4, .string (a0.extract 0 2), .int .i64 0, .int .i64 0]) ?_ 3 _ rfl; (with_reducible repeat (first | refine blk_drewN ?_ _ | refine blk_drew ?_ | refine blk_alloc ?_ _)); refine blk_put (cs := #[.int .i64 4, .string (a0.extract 0 2), .int .i64 0, .int .i64 0]) ?_ 2 _ rfl; (with_reducible repeat (first | refine blk_drewN ?_ _ | refine blk_drew ?_ | refine blk_alloc ?_ _)); refine blk_put (cs := #[.int .i64 4, .string (⟨#[]⟩ : ByteArray), .int .i64 0, .int .i64 0]) ?_ 1 _ rfl; (with_reducible repeat (first | refine blk_drewN ?_ _ | refine blk_drew ?_ | refine blk_alloc ?_ _)); refine blk_put (cs := #[.int .i64 0, .string (⟨#[]⟩ : ByteArray), .int .i64 0, .int .i64 0]) ?_ 0 _ rfl; (with_reducible repeat (first | refine blk_drewN ?_ _ | refine blk_drew ?_ | refine blk_alloc ?_ _)); exact BK102.out) Tryz.underlying33 rfl (by kernel_rfl)) rfl ?_
            exact ⟨by first | rfl | (simp [errW_none, errW_some] <;> rfl) | (simp [*, errW_none, errW_some] <;> rfl), by repeat (first | (with_reducible first | exact HB.out | apply below_alloc | apply pw_below_drewN | apply below_drew1 | refine below_set ?_ GE102.out) | exact HB.out)⟩
           ·rw [if_neg c42] at H
            exact absurd H (by simp)
          ·rw [if_neg c41] at H
           exact absurd H (by simp)
         ·replace c40 := Bool.eq_false_iff.mpr c40
          subst c40
          have H1 : ((strings_IndexByte.f (⟨#[61, 43, 40, 41, 91, 93, 123, 125, 44, 58, 59]⟩ : ByteArray) (bt a0 0)).bind fun t119 => (if t119 ≥ 0 then (if 0 ≤ 1 then (if 1 ≤ (a0.size : Int) then (some (4, a0.extract 0 1, 0, 0, 1, 0)) else (none)) else (none)) else (some (0, (⟨#[]⟩ : ByteArray), 0, 0, 0, 3)))) = some (r1, r2, r3, r4, r5, r6) := by rw [if_neg (show ¬ (false = true) by decide)] at H; exact H
          clear H
          have H := H1
          clear H1
          replace H := Option.bind_eq_some_iff.mp H
          obtain ⟨t119, A440, H⟩ := H
          replace H : (if t119 ≥ 0 then (if 0 ≤ 1 then (if 1 ≤ (a0.size : Int) then (some (4, a0.extract 0 1, 0, 0, 1, 0)) else (none)) else (none)) else (some (0, (⟨#[]⟩ : ByteArray), 0, 0, 0, 3))) = some (r1, r2, r3, r4, r5, r6) := H
          have A44 := Aside0.mk A440
          clear A440
          by_cases c45 : t119 ≥ 0
          ·rw [if_pos c45] at H
           have c45b0 : decide (0 ≤ t119) = true := decide_eq_true c45
           clear c45
           by_cases c46 : 0 ≤ 1
           ·rw [if_pos c46] at H
            have c46b0 := eq_true c46
            have c46b1 : decide (0 ≤ 1) = true := decide_eq_true c46
            clear c46
            by_cases c47 : 1 ≤ (a0.size : Int)
            ·rw [if_pos c47] at H
             have c47b0 := eq_true c47
             have c47b1 : decide (1 ≤ (a0.size : Int)) = true := decide_eq_true c47
             clear c47
             simp only [Option.some.injEq, Prod.mk.injEq] at H
             obtain ⟨rfl, rfl, rfl, rfl, rfl, rfl⟩ := H
             go_wp2_with (first | ((with_reducible refine gate_callee (f := 30) rfl ?_); refine goesL_ (some 66) rfl rfl Tryz.func30 (by kernel_rfl) rfl #[.string (⟨#[61, 43, 40, 41, 91, 93, 123, 125, 44, 58, 59]⟩ : ByteArray), .int .u8 (bt a0 0)] rfl (by (try simp only [List.map_toArray, List.map_cons, List.map_nil]); first | done | rfl | (simp only [List.length_drop, List.length_take]; rfl)) ?_; (with_reducible refine (strings_IndexByte.calls (⟨#[61, 43, 40, 41, 91, 93, 123, 125, 44, 58, 59]⟩ : ByteArray) (bt a0 0) t119 _ A44.out).mono ?_); rintro e w' ⟨rfl, ⟨nd, rfl⟩⟩; refine ⟨_, rfl, ?_⟩; (try (rw [drewN_self wc]; generalize hq_ : World.drewN wc _ = wc; have n0_ : Aside0 (wc.heap[gb102]? = some (.cells #[.int .i64 0, .string (⟨#[]⟩ : ByteArray), .int .i64 0, .int .i64 0] 33 (0, 0))) := ⟨by rw [← hq_]; exact (by (with_reducible repeat (first | refine blk_drewN ?_ _ | refine blk_drew ?_ | refine blk_alloc ?_ _)); exact BK102.out)⟩; have n1_ : Aside0 (Below w.heap.size w wc) := ⟨by rw [← hq_]; exact (by repeat (first | (with_reducible first | exact HB.out | apply below_alloc | apply pw_below_drewN | apply below_drew1 | refine below_set ?_ GE102.out) | exact HB.out))⟩; clear BK102 HB hq_; have BK102 := n0_; have HB := n1_; clear n0_ n1_)); have hcz48_0 : wc.cell? ⟨gb102, 0, none⟩ = some (.int .i64 0) := (blk_cell BK102.out 0).trans rfl; have hcz48_1 : wc.cell? ⟨gb102, 1, none⟩ = some (.string (⟨#[]⟩ : ByteArray)) := (blk_cell BK102.out 1).trans rfl; have hcz48_2 : wc.cell? ⟨gb102, 2, none⟩ = some (.int .i64 0) := (blk_cell BK102.out 2).trans rfl; have hcz48_3 : wc.cell? ⟨gb102, 3, none⟩ = some (.int .i64 0) := (blk_cell BK102.out 3).trans rfl; have hfz48_0 := blk_frozen BK102.out 0; have hfz48_1 := blk_frozen BK102.out 1; have hfz48_2 := blk_frozen BK102.out 2; have hfz48_3 := blk_frozen BK102.out 3))
             refine bodyPost_ret (results_ctt rfl _ _ gb102 33 #[.int .i64 4, .string (a0.extract 0 1), .int .i64 0, .int .i64 0] (0, 0) _ rfl (by (with_reducible repeat (first | refine blk_drewN ?_ _ | refine blk_drew ?_ | refine blk_alloc ?_ _)); refine blk_put (cs := #[.int .i64 4, .string (a0.extract 0 1), .int .i64 0, .int .i64 0]) ?_ 3 _ rfl; (with_reducible repeat (first | refine blk_drewN ?_ _ | refine blk_drew ?_ | refine blk_alloc ?_ _)); refine blk_put (cs := #[.int .i64 4, .string (a0.extract 0 1), .int .i64 0, .int .i64 0]) ?_ 2 _ rfl; (with_reducible repeat (first | refine blk_drewN ?_ _ | refine blk_drew ?_ | refine blk_alloc ?_ _)); refine blk_put (cs := #[.int .i64 4, .string (⟨#[]⟩ : ByteArray), .int .i64 0, .int .i64 0]) ?_ 1 _ rfl; (with_reducible repeat (first | refine blk_drewN ?_ _ | refine blk_drew ?_ | refine blk_alloc ?_ _)); refine blk_put (cs := #[.int .i64 0, .string (⟨#[]⟩ : ByteArray), .int .i64 0, .int .i64 0]) ?_ 0 _ rfl; (with_reducible repeat (first | refine blk_drewN ?_ _ | refine blk_drew ?_ | refine blk_alloc ?_ _)); exact BK102.out) Tryz.underlying33 rfl (by kernel_rfl)) rfl ?_
             exact ⟨by first | rfl | (simp [errW_none, errW_some] <;> rfl) | (simp [*, errW_none, errW_some] <;> rfl), by repeat (first | (with_reducible first | exact HB.out | apply below_alloc | apply pw_below_drewN | apply below_drew1 | refine below_set ?_ GE102.out) | exact HB.out)⟩
            ·rw [if_neg c47] at H
             exact absurd H (by simp)
           ·rw [if_neg c46] at H
            exact absurd H (by simp)
          ·rw [if_neg c45] at H
           have c45b0 : decide (0 ≤ t119) = false := decide_eq_false c45
           clear c45
           simp only [Option.some.injEq, Prod.mk.injEq] at H
           obtain ⟨rfl, rfl, rfl, rfl, rfl, rfl⟩ := H
           go_wp2_with (first | ((with_reducible refine gate_callee (f := 30) rfl ?_); refine goesL_ (some 66) rfl rfl Tryz.func30 (by kernel_rfl) rfl #[.string (⟨#[61, 43, 40, 41, 91, 93, 123, 125, 44, 58, 59]⟩ : ByteArray), .int .u8 (bt a0 0)] rfl (by (try simp only [List.map_toArray, List.map_cons, List.map_nil]); first | done | rfl | (simp only [List.length_drop, List.length_take]; rfl)) ?_; (with_reducible refine (strings_IndexByte.calls (⟨#[61, 43, 40, 41, 91, 93, 123, 125, 44, 58, 59]⟩ : ByteArray) (bt a0 0) t119 _ A44.out).mono ?_); rintro e w' ⟨rfl, ⟨nd, rfl⟩⟩; refine ⟨_, rfl, ?_⟩; (try (rw [drewN_self wc]; generalize hq_ : World.drewN wc _ = wc; have n0_ : Aside0 (wc.heap[gb102]? = some (.cells #[.int .i64 0, .string (⟨#[]⟩ : ByteArray), .int .i64 0, .int .i64 0] 33 (0, 0))) := ⟨by rw [← hq_]; exact (by (with_reducible repeat (first | refine blk_drewN ?_ _ | refine blk_drew ?_ | refine blk_alloc ?_ _)); exact BK102.out)⟩; have n1_ : Aside0 (Below w.heap.size w wc) := ⟨by rw [← hq_]; exact (by repeat (first | (with_reducible first | exact HB.out | apply below_alloc | apply pw_below_drewN | apply below_drew1 | refine below_set ?_ GE102.out) | exact HB.out))⟩; clear BK102 HB hq_; have BK102 := n0_; have HB := n1_; clear n0_ n1_)); have hcz49_0 : wc.cell? ⟨gb102, 0, none⟩ = some (.int .i64 0) := (blk_cell BK102.out 0).trans rfl; have hcz49_1 : wc.cell? ⟨gb102, 1, none⟩ = some (.string (⟨#[]⟩ : ByteArray)) := (blk_cell BK102.out 1).trans rfl; have hcz49_2 : wc.cell? ⟨gb102, 2, none⟩ = some (.int .i64 0) := (blk_cell BK102.out 2).trans rfl; have hcz49_3 : wc.cell? ⟨gb102, 3, none⟩ = some (.int .i64 0) := (blk_cell BK102.out 3).trans rfl; have hfz49_0 := blk_frozen BK102.out 0; have hfz49_1 := blk_frozen BK102.out 1; have hfz49_2 := blk_frozen BK102.out 2; have hfz49_3 := blk_frozen BK102.out 3))
           refine bodyPost_ret (results_ctt rfl _ _ gb102 33 #[.int .i64 0, .string (⟨#[]⟩ : ByteArray), .int .i64 0, .int .i64 0] (0, 0) _ rfl (by (with_reducible repeat (first | refine blk_drewN ?_ _ | refine blk_drew ?_ | refine blk_alloc ?_ _)); refine blk_put (cs := #[.int .i64 0, .string (⟨#[]⟩ : ByteArray), .int .i64 0, .int .i64 0]) ?_ 3 _ rfl; (with_reducible repeat (first | refine blk_drewN ?_ _ | refine blk_drew ?_ | refine blk_alloc ?_ _)); refine blk_put (cs := #[.int .i64 0, .string (⟨#[]⟩ : ByteArray), .int .i64 0, .int .i64 0]) ?_ 2 _ rfl; (with_reducible repeat (first | refine blk_drewN ?_ _ | refine blk_drew ?_ | refine blk_alloc ?_ _)); refine blk_put (cs := #[.int .i64 0, .string (⟨#[]⟩ : ByteArray), .int .i64 0, .int .i64 0]) ?_ 1 _ rfl; (with_reducible repeat (first | refine blk_drewN ?_ _ | refine blk_drew ?_ | refine blk_alloc ?_ _)); refine blk_put (cs := #[.int .i64 0, .string (⟨#[]⟩ : ByteArray), .int .i64 0, .int .i64 0]) ?_ 0 _ rfl; (with_reducible repeat (first | refine blk_drewN ?_ _ | refine blk_drew ?_ | refine blk_alloc ?_ _)); exact BK102.out) Tryz.underlying33 rfl (by kernel_rfl)) rfl ?_
           exact ⟨by first | rfl | (simp [errW_none, errW_some] <;> rfl) | (simp [*, errW_none, errW_some] <;> rfl), by repeat (first | (with_reducible first | exact HB.out | apply below_alloc | apply pw_below_drewN | apply below_drew1 | refine below_set ?_ GE102.out) | exact HB.out)⟩
 ·rw [if_neg c2] at H
  exact absurd H (by simp)

end Go.Proofs.YtannlhonjkhchaaGreatDoor.G

/- Go functions as Lean functions, each with its contract: written by a program of mine over the kit's print. Conditions: each contract's own. -/
namespace Go.Proofs.YtannlhonjkhchaaGreatDoor.G
open Go.RowKit Go.Proofs.YtannlhonjkhchaaGreatDoorW.PrintWords Go.Proofs.YtannlhonjkhchaaGreatDoorW.PrintLast Go.Proofs.YtannlhonjkhchaaGreatDoorW.PrintMore
attribute [local go_sem] max2_int min2_int max_two min_two max_three min_three max_four min_four   -- for this text's walks alone
set_option linter.unusedVariables false
set_option linter.unusedSimpArgs false

/-! ### bytealg_LastIndexByteString: function 46 -/
def bytealg_LastIndexByteString.l0 : Nat → ByteArray → Int → Int → Option (Int)
 | 0, _, _, _ => none
 | k + 1, x0, x1, x5 => if x5 ≥ 0 then (if 0 ≤ x5 then (if x5 < (x0.size : Int) then (if (bt x0 x5) = x1 then (some x5) else (bytealg_LastIndexByteString.l0 k x0 x1 (wrap64 (x5 - 1)))) else (none)) else (none)) else (some (-1))
def bytealg_LastIndexByteString.f (k : Nat) (a0 : ByteArray) (a1 : Int) : Option (Int) := bytealg_LastIndexByteString.l0 k a0 a1 (wrap64 ((a0.size : Int) - 1))
set_option maxHeartbeats 8000000 in
set_option maxRecDepth 100000 in
theorem bytealg_LastIndexByteString.calls (k : Nat) (a0 : ByteArray) (a1 : Int) (r : Int) (w : World) (h : bytealg_LastIndexByteString.f k a0 a1 = some r) :
  Calls Tryz.prog 46 #[.string a0, .int .u8 a1] w fun e w' => e = .returned (.int .i64 r) ∧ Drawn0 w w' := by
 have H : (bytealg_LastIndexByteString.l0 k a0 a1 (wrap64 ((a0.size : Int) - 1))) = some r := h
 clear h
 have H' := Aside0.mk H
 clear H
 go_enter Tryz.func46, Tryz.ntmps46
 go_wp2
 go_loopg [5] k (fun kq v5 w' => ∃ (x5_1 : Int), v5 = .int .i64 x5_1 ∧ Aside0 (bytealg_LastIndexByteString.l0 kq a0 a1 x5_1 = some r) ∧ Aside0 (kq ≤ k) ∧ Drawn0 w w')
 case atStart => exact ⟨(wrap64 ((a0.size : Int) - 1)), (by first | rfl | (simp; done) | (simp [*]; done)), (by first | exact H' | (subst_vars; exact H')), ⟨Nat.le_refl _⟩, by repeat (first | exact Drawn0.refl _ | apply Drawn0.step)⟩
 case round =>
  clear H'
  try clear p2
  obtain ⟨x5_1, rfl, HA, HK1, ⟨m1, rfl⟩⟩ := hrel
  cases gk with
  | zero => exact absurd HA.out (by simp [bytealg_LastIndexByteString.l0])
  | succ k1 =>
   have H := HA.out
   clear HA
   simp only [bytealg_LastIndexByteString.l0] at H
   by_cases c3 : x5_1 ≥ 0
   ·rw [if_pos c3] at H
    have c3b0 : decide (0 ≤ x5_1) = true := decide_eq_true c3
    clear c3
    by_cases c4 : 0 ≤ x5_1
    ·rw [if_pos c4] at H
     have c4b0 : decide (0 ≤ x5_1) = true := decide_eq_true c4
     clear c4
     by_cases c5 : x5_1 < (a0.size : Int)
     ·rw [if_pos c5] at H
      have c5b0 : decide (x5_1 < (a0.size : Int)) = true := decide_eq_true c5
      clear c5
      by_cases c7 : (bt a0 x5_1) = a1
      ·rw [if_pos c7] at H
       have c7b0 : ((bt a0 x5_1) == a1) = true := beq_iff_eq.mpr c7
       have c7b1 : ((bt a0 x5_1) != a1) = false := bne_eq_false_iff_eq.mpr c7
       clear c7
       obtain rfl := Option.some.inj H
       have p6 : 0 ≤ (x5_1 : Int) := of_decide_eq_true (by first | (with_reducible assumption) | assumption)
       have q6 : x5_1 < (a0.size : Int) := of_decide_eq_true (by first | (with_reducible assumption) | assumption)
       have hx6 := bt_at a0 x5_1
       replace p6 := eq_true p6
       replace q6 := eq_true q6
       go_wp2
       go_ret
       exact ⟨by first | rfl | (simp; done) | (simp [*]; done), by repeat (first | exact Drawn0.refl _ | apply Drawn0.step)⟩
      ·rw [if_neg c7] at H
       have c7b0 : ((bt a0 x5_1) == a1) = false := beq_eq_false_iff_ne.mpr c7
       have c7b1 : ((bt a0 x5_1) != a1) = true := bne_iff_ne.mpr c7
       have H' := Aside0.mk H
       clear H
       have p6 : 0 ≤ (x5_1 : Int) := of_decide_eq_true (by first | (with_reducible assumption) | assumption)
       have q6 : x5_1 < (a0.size : Int) := of_decide_eq_true (by first | (with_reducible assumption) | assumption)
       have hx6 := bt_at a0 x5_1
       replace p6 := eq_true p6
       replace q6 := eq_true q6
       go_wp2
       go_roundg k1
       case measure => have := HK1.out; omega
       case rel => exact ⟨(wrap64 (x5_1 - 1)), (by first | rfl | (simp; done) | (simp [*]; done)), (by first | exact H' | (subst_vars; exact H')), ⟨by have := HK1.out; omega⟩, by repeat (first | exact Drawn0.refl _ | apply Drawn0.step)⟩
     ·rw [if_neg c5] at H
      exact absurd H (by simp)
    ·rw [if_neg c4] at H
     exact absurd H (by simp)
   ·rw [if_neg c3] at H
    have c3b0 : decide (0 ≤ x5_1) = false := decide_eq_false c3
    clear c3
    obtain rfl := Option.some.inj H
    go_wp2
    go_ret
    exact ⟨by first | rfl | (simp; done) | (simp [*]; done), by repeat (first | exact Drawn0.refl _ | apply Drawn0.step)⟩

end Go.Proofs.YtannlhonjkhchaaGreatDoor.G

/- Go functions as Lean functions, each with its contract: written by a program of mine over the kit's print. Conditions: each contract's own. -/
namespace Go.Proofs.YtannlhonjkhchaaGreatDoor.G
open Go.RowKit Go.Proofs.YtannlhonjkhchaaGreatDoorW.PrintWords Go.Proofs.YtannlhonjkhchaaGreatDoorW.PrintLast Go.Proofs.YtannlhonjkhchaaGreatDoorW.PrintMore
attribute [local go_sem] max2_int min2_int max_two min_two max_three min_three max_four min_four   -- for this text's walks alone
set_option linter.unusedVariables false
set_option linter.unusedSimpArgs false

/-! ### strings_LastIndexByte: function 32 -/
def strings_LastIndexByte.f (k : Nat) (a0 : ByteArray) (a1 : Int) : Option (Int) := (bytealg_LastIndexByteString.f k a0 a1).bind fun t120 => (some t120)
set_option maxHeartbeats 8000000 in
set_option maxRecDepth 100000 in
theorem strings_LastIndexByte.calls (k : Nat) (a0 : ByteArray) (a1 : Int) (r : Int) (w : World) (h : strings_LastIndexByte.f k a0 a1 = some r) :
  Calls Tryz.prog 32 #[.string a0, .int .u8 a1] w fun e w' => e = .returned (.int .i64 r) ∧ Drawn0 w w' := by
 have H : ((bytealg_LastIndexByteString.f k a0 a1).bind fun t120 => (some t120)) = some r := h
 clear h
 replace H := Option.bind_eq_some_iff.mp H
 obtain ⟨t120, A30, H⟩ := H
 replace H : (some t120) = some r := H
 have A3 := Aside0.mk A30
 clear A30
 obtain rfl := Option.some.inj H
 go_enter Tryz.func32, Tryz.ntmps32
 go_wp2_with (first | ((with_reducible refine gate_callee (f := 46) rfl ?_); refine goesL_ (some 7) rfl rfl Tryz.func46 (by kernel_rfl) rfl #[.string a0, .int .u8 a1] rfl (by (try simp only [List.map_toArray, List.map_cons, List.map_nil]); first | done | rfl | (simp only [List.length_drop, List.length_take]; rfl)) ?_; (with_reducible refine (bytealg_LastIndexByteString.calls k a0 a1 t120 _ A3.out).mono ?_); rintro e w' ⟨rfl, ⟨nd, rfl⟩⟩; refine ⟨_, rfl, ?_⟩))
 go_ret
 exact ⟨by first | rfl | (simp; done) | (simp [*]; done), by repeat (first | exact Drawn0.refl _ | apply Drawn0.step)⟩

end Go.Proofs.YtannlhonjkhchaaGreatDoor.G
