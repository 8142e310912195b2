/- Texts towards the law LabelOrders, one behind the other: each begins with its own sentence. Conditions: each theorem's own. -/
import Derived.Shelf.GgClosure.StringsIndexFuncTop
import Derived.KernelRfl
import Derived.Lib.ItoaNum
import Derived.Shelf.GgClosure.StringsIndexFunc
import Derived.Shelf.Small.Strs
import Derived.Shelf.Strings.Search2
import Derived.Shelf.Strings.Search3
import Derived.Shelf.Strings.Prefix
import Derived.Below
import Derived.WalkSmall
import Derived.Lib.Builder
import Derived.Lib.UnsafeStr
import Derived.Lib.AppendStr
import Derived.Lib.LaidTab
import Derived.Lib.IndexBytes
import Derived.Lib.Strings
import Derived.Lib.ItoaMem
import Derived.Sort.Grow
import Derived.WalkKit
import Derived.WalkSpells
import Derived.Lib.Hide
import Derived.Lib.Bytealg
import Derived.RangeFuncNested
import Derived.RangeFuncBound
import Derived.RangeFuncCalls
import Derived.RangeFuncLeaves
import Derived.Shelf.Abstract
import Derived.Shelf.RegionOpen
import Derived.OwnWalkIn
import Derived.TacticsInMore
import Derived.LoopNIn
import Derived.LoopIn
import Derived.BigCall
import Derived.BigGuard
import Derived.Lib.Bytes2
import Derived.Lib.IndexLaws
import Derived.Laws.Cover1
import Derived.Deep.Draws
import Derived.Deep.AppendLies
import Derived.Maps.AppendAt
import Derived.OwnWalk
import Derived.Laws.BytesArg
import Derived.Laws.MakeOwn
import Derived.Laws.OwnMore
import Derived.Deep.OwnRows
import Derived.Tactics
import Derived.Lib.ConvBytes
import Derived.Laws.Slices
import Derived.RowKit3
import Derived.Deep.LoopGhost
import Derived.Deep.QuietTactic
import Derived.BigQuiet
import Derived.WideLaws
import Derived.Deep.DeepCutAuto
import Derived.Deep.CutBlock
import Derived.Deep.RegionHeld3
import Derived.Laws.Rows
import Derived.ArgAppend
import Derived.Laws.IdiomCopy
import Derived.OrdersHeld
import Derived.Laws.BitsLemmas
import Derived.RowKit
import Derived.Test.YtdhilbefeehbaaaDoorProg
import Derived.Test.YtdhilbefeehbaaaDoorWWords
import Derived.Test.YtdhilbefeehbaaaDoorWLast
import Derived.Test.YtdhilbefeehbaaaDoorWTab
import Derived.Test.YtdhilbefeehbaaaDoorWQPut
import Derived.Test.YtdhilbefeehbaaaDoorWApart
import Derived.Test.YtdhilbefeehbaaaDoorWArr
import Derived.Test.YtdhilbefeehbaaaDoorWZeros
import Derived.Test.YtdhilbefeehbaaaDoorWFoot
import Derived.Test.YtdhilbefeehbaaaDoorWKept
import Derived.Test.YtdhilbefeehbaaaDoorWShare
import Derived.Test.YtdhilbefeehbaaaDoorWN
import Derived.Test.YtdhilbefeehbaaaDoorWEqStruct
import Derived.Test.YtdhilbefeehbaaaDoorWRepsOne
import Derived.Test.YtdhilbefeehbaaaDoorWGuard
import Derived.Test.YtdhilbefeehbaaaDoorWNEv
import Derived.Test.YtdhilbefeehbaaaDoorWMore
/- The shelf's contract of strings.ContainsFunc, laid at this dump by its numbers. Conditions: the contract's own. -/
namespace Go.Proofs.YtdhilbefeehbaaaDoor
open Go.Shelf Go.RowKit
def gwRen : Go.Shelf.Ren := ⟨fun | 15 => 61 | 17 => 43 | 20 => 70 | n => n, fun | 0 => 0 | 3 => 3 | 4 => 4 | 9 => 9 | 21 => 21 | 23 => 55 | n => n, fun | n => n⟩
theorem laysGw17 : Go.Proofs.LaysGw.n17 Tryd.prog gwRen := {
  mixed := by kernel_rfl
  f15 := Tryd.func61.trans (congrArg some (by kernel_rfl))
  f17 := Tryd.func43.trans (congrArg some (by kernel_rfl))
  f20 := Tryd.func70.trans (congrArg some (by kernel_rfl))
  t0 := Tryd.underlying0
  a0 := Tryd.isAgg0
  z0 := Tryd.sizeOf0
  v0 := Tryd.zeroValue0
  i0 := by kernel_rfl
  t3 := Tryd.underlying3
  a3 := Tryd.isAgg3
  z3 := Tryd.sizeOf3
  v3 := Tryd.zeroValue3
  i3 := by kernel_rfl
  t4 := Tryd.underlying4
  a4 := Tryd.isAgg4
  z4 := Tryd.sizeOf4
  v4 := Tryd.zeroValue4
  i4 := by kernel_rfl
  t9 := Tryd.underlying9
  a9 := Tryd.isAgg9
  z9 := Tryd.sizeOf9
  v9 := Tryd.zeroValue9
  i9 := by kernel_rfl
  t21 := Tryd.underlying21
  a21 := Tryd.isAgg21
  z21 := Tryd.sizeOf21
  v21 := Tryd.zeroValue21
  i21 := by kernel_rfl
  t23 := Tryd.underlying55
  a23 := Tryd.isAgg55
  z23 := Tryd.sizeOf55
  v23 := Tryd.zeroValue55
  i23 := by kernel_rfl }
theorem ContainsFunc_calls (g : Nat) (lb : Array Value) (eg : ∀ args w, (callFunc g args).run Tryd.prog w = .ok (.enter g args) w) (p : Nat → Bool) (s : ByteArray) (w : World) (hp : PredAt Tryd.prog g lb encR p w) :
    Calls Tryd.prog 43 #[.string s, .func (.func g) #[] lb] w fun e w' => e = .returned (.bool (decide (0 ≤ Lib.idxFunc p true s))) ∧ Below w.heap.size w w' :=
  Any.strings_ContainsFunc laysGw17 g lb eg p s w hp
end Go.Proofs.YtdhilbefeehbaaaDoor

/- Layers 3 and 13 (path, label), in plain Lean. No program. -/
namespace Go.Lb

/-- What stands between strokes. -/
def parts : List UInt8 → List (List UInt8)
  | [] => [[]]
  | c :: r => if c = 47 then [] :: parts r else match parts r with
    | [] => [[c]]
    | p :: ps => (c :: p) :: ps
def signc (c : UInt8) : Bool := (decide (97 ≤ c.toNat) && decide (c.toNat ≤ 122)) || (decide (65 ≤ c.toNat) && decide (c.toNat ≤ 90)) || (decide (48 ≤ c.toNat) && decide (c.toNat ≤ 57)) || c == 95 || c == 46 || c == 45 || c == 43
def part (s : List UInt8) : Bool := s != [] && decide (s.length ≤ 64) && s != [46] && s != [46, 46] && s.all signc
def may (s : List UInt8) : Bool := decide ((parts s).length ≤ 16) && (parts s).all part
def pkg (s : List UInt8) : Bool := s == [] || may s
/-- A label may be. -/
def mayL (p n : List UInt8) : Bool := pkg p && part n

theorem parts_ne (s : List UInt8) : parts s ≠ [] := by
  cases s with
  | nil => simp [parts]
  | cons c r =>
    unfold parts
    split
    · simp
    · split <;> simp
theorem parts_plain : ∀ s : List UInt8, (∀ c ∈ s, c ≠ 47) → parts s = [s] := by
  intro s
  induction s with
  | nil => intro _; rfl
  | cons c r ih =>
    intro h
    rw [parts, if_neg (h c (by simp)), ih (fun x hx => h x (by simp [hx]))]
theorem sign_47 : signc 47 = false := by decide
theorem part_plain {s : List UInt8} (h : part s = true) : ∀ c ∈ s, c ≠ 47 := by
  intro c hc e
  subst e
  unfold part at h
  simp only [Bool.and_eq_true, List.all_eq_true] at h
  have := h.2 47 hc
  rw [sign_47] at this
  cases this
/-- A name is a path without a stroke. -/
theorem name_part (s : List UInt8) : (may s && !(s.contains 47)) = part s := by
  rw [Bool.eq_iff_iff]
  simp only [Bool.and_eq_true, Bool.not_eq_true', List.contains_eq_mem, decide_eq_false_iff_not]
  constructor
  · rintro ⟨h, hc⟩
    unfold may at h
    rw [parts_plain s (fun c hc' e => hc (e ▸ hc'))] at h
    simpa using h
  · intro h
    have hp := part_plain h
    refine ⟨?_, fun hc => hp 47 hc rfl⟩
    unfold may
    rw [parts_plain s hp]
    simpa using h

/-! ### Labels -/
structure Label where
  pkg : List UInt8
  name : List UInt8
deriving DecidableEq
def Label.may (l : Label) : Bool := mayL l.pkg l.name
/-- The first colon: what stands ahead of it and behind it. -/
def colon : List UInt8 → Option (List UInt8 × List UInt8)
  | [] => none
  | c :: r => if c = 58 then some ([], r) else (colon r).map fun x => (c :: x.1, x.2)
/-- The label of a text in a package, or the error's number. -/
def read (s p : List UInt8) : Nat ⊕ Label :=
  match s with
  | 58 :: r => if pkg p = false then .inl 1 else if mayL p r = false then .inl 7 else .inr ⟨p, r⟩
  | 47 :: 47 :: t => match colon t with
    | none => .inl 3
    | some (h, n) => if mayL h n = false then .inl 7 else .inr ⟨h, n⟩
  | _ => .inl 3
def text (l : Label) : List UInt8 := if l.may = false then [] else 47 :: 47 :: (l.pkg ++ 58 :: l.name)
def short (l : Label) (p : List UInt8) : List UInt8 := if l.may = true ∧ l.pkg = p then 58 :: l.name else text l

theorem colon_app (a b : List UInt8) (h : ∀ c ∈ a, c ≠ 58) : colon (a ++ 58 :: b) = some (a, b) := by
  induction a with
  | nil => simp [colon]
  | cons c a ih =>
    rw [List.cons_append, colon, if_neg (h c (by simp)), ih (fun x hx => h x (by simp [hx]))]
    rfl
theorem colon_back : ∀ (s a b : List UInt8), colon s = some (a, b) → s = a ++ 58 :: b ∧ ∀ c ∈ a, c ≠ 58 := by
  intro s
  induction s with
  | nil => intro a b h; cases h
  | cons c r ih =>
    intro a b h
    unfold colon at h
    split at h
    · rename_i hc
      cases h
      exact ⟨by rw [hc]; rfl, by simp⟩
    · rename_i hc
      cases hr : colon r with
      | none => rw [hr] at h; cases h
      | some x =>
        obtain ⟨x1, x2⟩ := x
        rw [hr] at h
        cases h
        obtain ⟨h1, h2⟩ := ih _ _ hr
        refine ⟨by rw [h1]; rfl, ?_⟩
        intro y hy
        rcases List.mem_cons.1 hy with rfl | hy
        · exact hc
        · exact h2 y hy
theorem part_all {s : List UInt8} (h : part s = true) : ∀ c ∈ s, signc c = true := by
  unfold part at h
  simp only [Bool.and_eq_true, List.all_eq_true] at h
  exact h.2
theorem parts_mem : ∀ (s : List UInt8) (c : UInt8), c ∈ s → c = 47 ∨ ∃ x ∈ parts s, c ∈ x := by
  intro s
  induction s with
  | nil => intro c h; cases h
  | cons d r ih =>
    intro c h
    rcases List.mem_cons.1 h with rfl | h
    · by_cases hd : c = 47
      · exact .inl hd
      · right
        rw [parts, if_neg hd]
        cases hp : parts r with
        | nil => exact absurd hp (parts_ne r)
        | cons p ps => exact ⟨c :: p, by simp, by simp⟩
    · rcases ih c h with h' | ⟨x, hx, hc⟩
      · exact .inl h'
      · right
        rw [parts]
        split
        · exact ⟨x, by simp [hx], hc⟩
        · cases hp : parts r with
          | nil => rw [hp] at hx; cases hx
          | cons p ps =>
            rw [hp] at hx
            rcases List.mem_cons.1 hx with rfl | hx
            · exact ⟨d :: x, by simp, by simp [hc]⟩
            · exact ⟨x, by simp [hx], hc⟩
theorem pkg_plain {p : List UInt8} (h : pkg p = true) : ∀ c ∈ p, c ≠ 58 := by
  intro c hc e
  subst e
  unfold pkg at h
  simp only [Bool.or_eq_true, beq_iff_eq] at h
  rcases h with rfl | h
  · cases hc
  · unfold may at h
    simp only [Bool.and_eq_true, List.all_eq_true] at h
    rcases parts_mem p 58 hc with h1 | ⟨x, hx, h2⟩
    · cases h1
    · have := part_all (h.2 x hx) 58 h2
      revert this
      decide
/-- What is written is read again, in whatever package. -/
theorem read_text (l : Label) (h : l.may = true) (p : List UInt8) : read (text l) p = .inr l := by
  unfold text
  rw [if_neg (by simp [h])]
  unfold Label.may at h
  have hp : pkg l.pkg = true := by unfold mayL at h; simp only [Bool.and_eq_true] at h; exact h.1
  unfold read
  simp only
  rw [colon_app _ _ (pkg_plain hp)]
  simp only [h, Bool.true_eq_false, if_false]
theorem read_short (l : Label) (h : l.may = true) : read (short l l.pkg) l.pkg = .inr l := by
  unfold short
  rw [if_pos ⟨h, rfl⟩]
  unfold Label.may at h
  have hp : pkg l.pkg = true := by unfold mayL at h; simp only [Bool.and_eq_true] at h; exact h.1
  unfold read
  simp only [hp, h, Bool.true_eq_false, if_false]
theorem read_may {s p : List UInt8} {l : Label} (h : read s p = .inr l) : l.may = true := by
  unfold read at h
  split at h
  · split at h
    · cases h
    · split at h
      · cases h
      · rename_i h2
        cases h
        simpa [Label.may] using h2
  · split at h
    · cases h
    · split at h
      · cases h
      · rename_i h2
        cases h
        simpa [Label.may] using h2
  · cases h
theorem text_inj {a b : Label} (ha : a.may = true) (hb : b.may = true) : text a = text b ↔ a = b := by
  constructor
  · intro h
    have h1 := read_text a ha []
    have h2 := read_text b hb []
    rw [h, h2] at h1
    cases h1
    rfl
  · rintro rfl; rfl
theorem text_nil {l : Label} : text l = [] ↔ l.may = false := by
  unfold text
  cases l.may <;> simp
/-- P13.2: no two labels have one text. -/
theorem text_apart (a b : Label) : text a = [] ∨ (text a = text b ↔ a = b) := by
  cases ha : a.may with
  | false => exact .inl (text_nil.2 ha)
  | true =>
    right
    cases hb : b.may with
    | true => exact text_inj ha hb
    | false =>
      constructor
      · intro h
        rw [text_nil.2 hb] at h
        rw [text_nil.1 h] at ha
        cases ha
      · intro e
        rw [← e, ha] at hb
        cases hb
end Go.Lb

/- Whether a rune of a text is such, where such are all beyond ASCII: it is so of its bytes. In plain Lean. No program. -/
namespace Go.Lb

theorem get_eq (s : ByteArray) (i : Nat) (h : i < s.size) : s.get! i = s[i] := by
  simp [ByteArray.get!, getElem!_pos, h]
  rfl
theorem decode_low (s : ByteArray) (i : Nat) (h : i < s.size) (h' : (s[i]).toNat < 128) : Utf8.decode s i = ((s[i]).toNat, 1) := by
  unfold Utf8.decode
  simp only [Nat.add_zero, get_eq s i h]
  rw [if_pos h']
theorem decode_high (s : ByteArray) (i : Nat) (h : i < s.size) (h' : ¬ (s[i]).toNat < 128) : 128 ≤ (Utf8.decode s i).1 := by
  unfold Utf8.decode
  simp only [Nat.add_zero, get_eq s i h]
  rw [if_neg h']
  unfold Utf8.runeError
  repeat' split
  all_goals (simp only [Bool.and_eq_true, decide_eq_true_eq, ge_iff_le] at *; omega)
/-- A test of runes that holds beyond ASCII. -/
theorem idxFunc_bytes (p : Nat → Bool) (hp : ∀ r, 128 ≤ r → p r = true) (s : ByteArray) : decide (0 ≤ Lib.idxFunc p true s) = s.data.toList.any (fun c => p c.toNat) := by
  have hl : s.data.toList.length = s.size := by rw [Array.length_toList]; rfl
  have key : ∀ f i, s.size ≤ f + i → i ≤ s.size → decide (0 ≤ Lib.idxFuncFrom p true s f i) = (s.data.toList.drop i).any (fun c => p c.toNat) := by
    intro f
    induction f with
    | zero =>
      intro i h1 h2
      rw [List.drop_eq_nil_of_le (by omega)]
      rfl
    | succ f ih =>
      intro i h1 h2
      unfold Lib.idxFuncFrom
      by_cases h : i < s.size
      · rw [if_pos h]
        have hd : s.data.toList.drop i = s[i] :: s.data.toList.drop (i + 1) := by
          rw [List.drop_eq_getElem_cons (by omega)]
          rfl
        rw [hd, List.any_cons]
        by_cases hlow : (s[i]).toNat < 128
        · rw [decode_low s i h hlow]
          simp only
          cases hb : p (s[i]).toNat with
          | true => simp
          | false =>
            rw [if_neg (by decide), ih (i + 1) (by omega) (by omega)]
            rfl
        · have hh := hp _ (decode_high s i h hlow)
          rw [if_pos hh, hp _ (by omega)]
          simp
      · rw [if_neg h, List.drop_eq_nil_of_le (by omega)]
        rfl
  have := key s.size 0 (by omega) (by omega)
  rw [List.drop_zero] at this
  exact this
end Go.Lb

/- The library's contracts at this dump, as the kit's tools lay-shelf and lay-plain write them: those that are used here. -/
namespace Go.Proofs
open Go.Shelf
def Tryd.lays137_ren : Go.Shelf.Ren := ⟨fun | 137 => 62 | 217 => 65 | 266 => 72 | n => n, fun | 9 => 9 | 5 => 5 | 3 => 3 | n => n, fun | n => n⟩
theorem Tryd.lays137 : Go.Proofs.Lays.n137 Tryd.prog Tryd.lays137_ren := {
  mixed := by kernel_rfl
  f137 := Tryd.func62.trans (congrArg some (by kernel_rfl))
  f217 := Tryd.func65.trans (congrArg some (by kernel_rfl))
  f266 := Tryd.func72.trans (congrArg some (by kernel_rfl))
  t3 := Tryd.underlying3
  a3 := Tryd.isAgg3
  z3 := Tryd.sizeOf3
  v3 := Tryd.zeroValue3
  t5 := Tryd.underlying5
  a5 := Tryd.isAgg5
  z5 := Tryd.sizeOf5
  v5 := Tryd.zeroValue5
  t9 := Tryd.underlying9
  a9 := Tryd.isAgg9
  z9 := Tryd.sizeOf9
  v9 := Tryd.zeroValue9 }
open Go.RowKit in
theorem Tryd.strings_IndexByte (s : ByteArray) (c : Int) (w : World) :
    Calls Tryd.prog 62 #[.string s, .int .u8 c] w fun e w' => e = .returned (.int .i64 (Lib.indexByte s.data.toList c.toNat.toUInt8)) ∧ w' = w := Any.strings_IndexByte Tryd.lays137 s c w
def Tryd.lays219_ren : Go.Shelf.Ren := ⟨fun | 219 => 56 | 217 => 65 | 225 => 66 | 224 => 67 | 267 => 68 | 266 => 72 | 314 => 73 | n => n, fun | 9 => 9 | 3 => 3 | 4 => 4 | 5 => 5 | 46 => 64 | 146 => 67 | 51 => 66 | n => n, fun | 1 => 0 | n => n⟩
theorem Tryd.lays219 : Go.Proofs.Lays.n219 Tryd.prog Tryd.lays219_ren := {
  mixed := by kernel_rfl
  f217 := Tryd.func65.trans (congrArg some (by kernel_rfl))
  f219 := Tryd.func56.trans (congrArg some (by kernel_rfl))
  f224 := Tryd.func67.trans (congrArg some (by kernel_rfl))
  f225 := Tryd.func66.trans (congrArg some (by kernel_rfl))
  f266 := Tryd.func72.trans (congrArg some (by kernel_rfl))
  f267 := Tryd.func68.trans (congrArg some (by kernel_rfl))
  f314 := Tryd.func73.trans (congrArg some (by kernel_rfl))
  t3 := Tryd.underlying3
  a3 := Tryd.isAgg3
  z3 := Tryd.sizeOf3
  v3 := Tryd.zeroValue3
  t4 := Tryd.underlying4
  a4 := Tryd.isAgg4
  z4 := Tryd.sizeOf4
  v4 := Tryd.zeroValue4
  t5 := Tryd.underlying5
  a5 := Tryd.isAgg5
  z5 := Tryd.sizeOf5
  v5 := Tryd.zeroValue5
  t9 := Tryd.underlying9
  a9 := Tryd.isAgg9
  z9 := Tryd.sizeOf9
  v9 := Tryd.zeroValue9
  t46 := Tryd.underlying64
  a46 := Tryd.isAgg64
  z46 := Tryd.sizeOf64
  v46 := Tryd.zeroValue64
  t51 := Tryd.underlying66
  a51 := Tryd.isAgg66
  z51 := Tryd.sizeOf66
  v51 := Tryd.zeroValue66
  t146 := Tryd.underlying67
  a146 := Tryd.isAgg67
  z146 := Tryd.sizeOf67
  v146 := Tryd.zeroValue67
  g1 := by kernel_rfl }
open Go.RowKit Go.Lib in
theorem Tryd.stringslite_Index_one (s : ByteArray) (c : UInt8) (w : World) :
    Calls Tryd.prog 56 #[.string s, .string ⟨#[c]⟩] w fun e w' => e = .returned (.int .i64 (Lib.indexByte s.data.toList c)) ∧ w' = w := Any.stringslite_Index_one Tryd.lays219 s c w
def Tryd.lays143_ren : Go.Shelf.Ren := ⟨fun | 143 => 60 | 219 => 56 | 217 => 65 | 225 => 66 | 224 => 67 | 267 => 68 | 266 => 72 | 314 => 73 | n => n, fun | 9 => 9 | 3 => 3 | 4 => 4 | 5 => 5 | 46 => 64 | 146 => 67 | 51 => 66 | n => n, fun | 1 => 0 | n => n⟩
theorem Tryd.lays143 : Go.Proofs.Lays.n143 Tryd.prog Tryd.lays143_ren := {
  mixed := by kernel_rfl
  f143 := Tryd.func60.trans (congrArg some (by kernel_rfl))
  f217 := Tryd.func65.trans (congrArg some (by kernel_rfl))
  f219 := Tryd.func56.trans (congrArg some (by kernel_rfl))
  f224 := Tryd.func67.trans (congrArg some (by kernel_rfl))
  f225 := Tryd.func66.trans (congrArg some (by kernel_rfl))
  f266 := Tryd.func72.trans (congrArg some (by kernel_rfl))
  f267 := Tryd.func68.trans (congrArg some (by kernel_rfl))
  f314 := Tryd.func73.trans (congrArg some (by kernel_rfl))
  t3 := Tryd.underlying3
  a3 := Tryd.isAgg3
  z3 := Tryd.sizeOf3
  v3 := Tryd.zeroValue3
  t4 := Tryd.underlying4
  a4 := Tryd.isAgg4
  z4 := Tryd.sizeOf4
  v4 := Tryd.zeroValue4
  t5 := Tryd.underlying5
  a5 := Tryd.isAgg5
  z5 := Tryd.sizeOf5
  v5 := Tryd.zeroValue5
  t9 := Tryd.underlying9
  a9 := Tryd.isAgg9
  z9 := Tryd.sizeOf9
  v9 := Tryd.zeroValue9
  t46 := Tryd.underlying64
  a46 := Tryd.isAgg64
  z46 := Tryd.sizeOf64
  v46 := Tryd.zeroValue64
  t51 := Tryd.underlying66
  a51 := Tryd.isAgg66
  z51 := Tryd.sizeOf66
  v51 := Tryd.zeroValue66
  t146 := Tryd.underlying67
  a146 := Tryd.isAgg67
  z146 := Tryd.sizeOf67
  v146 := Tryd.zeroValue67
  g1 := by kernel_rfl }
open Go.RowKit Go.Lib in
theorem Tryd.strings_Index_one (s : ByteArray) (c : UInt8) (w : World) :
    Calls Tryd.prog 60 #[.string s, .string ⟨#[c]⟩] w fun e w' => e = .returned (.int .i64 (Lib.indexByte s.data.toList c)) ∧ w' = w := Any.strings_Index_one Tryd.lays143 s c w
def Tryd.lays144_ren : Go.Shelf.Ren := ⟨fun | 144 => 57 | 143 => 60 | 219 => 56 | 217 => 65 | 225 => 66 | 224 => 67 | 267 => 68 | 266 => 72 | 314 => 73 | n => n, fun | 9 => 9 | 4 => 4 | 3 => 3 | 5 => 5 | 46 => 64 | 146 => 67 | 51 => 66 | n => n, fun | 1 => 0 | n => n⟩
theorem Tryd.lays144 : Go.Proofs.Lays.n144 Tryd.prog Tryd.lays144_ren := {
  mixed := by kernel_rfl
  f143 := Tryd.func60.trans (congrArg some (by kernel_rfl))
  f144 := Tryd.func57.trans (congrArg some (by kernel_rfl))
  f217 := Tryd.func65.trans (congrArg some (by kernel_rfl))
  f219 := Tryd.func56.trans (congrArg some (by kernel_rfl))
  f224 := Tryd.func67.trans (congrArg some (by kernel_rfl))
  f225 := Tryd.func66.trans (congrArg some (by kernel_rfl))
  f266 := Tryd.func72.trans (congrArg some (by kernel_rfl))
  f267 := Tryd.func68.trans (congrArg some (by kernel_rfl))
  f314 := Tryd.func73.trans (congrArg some (by kernel_rfl))
  t3 := Tryd.underlying3
  a3 := Tryd.isAgg3
  z3 := Tryd.sizeOf3
  v3 := Tryd.zeroValue3
  t4 := Tryd.underlying4
  a4 := Tryd.isAgg4
  z4 := Tryd.sizeOf4
  v4 := Tryd.zeroValue4
  t5 := Tryd.underlying5
  a5 := Tryd.isAgg5
  z5 := Tryd.sizeOf5
  v5 := Tryd.zeroValue5
  t9 := Tryd.underlying9
  a9 := Tryd.isAgg9
  z9 := Tryd.sizeOf9
  v9 := Tryd.zeroValue9
  t46 := Tryd.underlying64
  a46 := Tryd.isAgg64
  z46 := Tryd.sizeOf64
  v46 := Tryd.zeroValue64
  t51 := Tryd.underlying66
  a51 := Tryd.isAgg66
  z51 := Tryd.sizeOf66
  v51 := Tryd.zeroValue66
  t146 := Tryd.underlying67
  a146 := Tryd.isAgg67
  z146 := Tryd.sizeOf67
  v146 := Tryd.zeroValue67
  g1 := by kernel_rfl }
open Go.RowKit Go.Lib in
theorem Tryd.strings_Contains_one (s : ByteArray) (c : UInt8) (w : World) :
    Calls Tryd.prog 57 #[.string s, .string ⟨#[c]⟩] w fun e w' => e = .returned (.bool (decide (0 ≤ Lib.indexByte s.data.toList c))) ∧ w' = w := Any.strings_Contains_one Tryd.lays144 s c w
def Tryd.lays206_ren : Go.Shelf.Ren := ⟨fun | 206 => 37 | n => n, fun | 9 => 9 | 4 => 4 | 3 => 3 | n => n, fun | n => n⟩
theorem Tryd.lays206 : Go.Proofs.Lays.n206 Tryd.prog Tryd.lays206_ren := {
  mixed := by kernel_rfl
  f206 := Tryd.func37.trans (congrArg some (by kernel_rfl))
  t3 := Tryd.underlying3
  a3 := Tryd.isAgg3
  z3 := Tryd.sizeOf3
  v3 := Tryd.zeroValue3
  t4 := Tryd.underlying4
  a4 := Tryd.isAgg4
  z4 := Tryd.sizeOf4
  v4 := Tryd.zeroValue4
  t9 := Tryd.underlying9
  a9 := Tryd.isAgg9
  z9 := Tryd.sizeOf9
  v9 := Tryd.zeroValue9 }
open Go.RowKit Go.Lib in
theorem Tryd.stringslite_HasPrefix (s p : ByteArray) (w : World) :
    Calls Tryd.prog 37 #[.string s, .string p] w fun e w' => e = .returned (.bool (Lib.hasPrefix s.data.toList p.data.toList)) ∧ w' = w := Any.stringslite_HasPrefix Tryd.lays206 s p w
def Tryd.lays99_ren : Go.Shelf.Ren := ⟨fun | 99 => 22 | 206 => 37 | n => n, fun | 9 => 9 | 4 => 4 | 3 => 3 | n => n, fun | n => n⟩
theorem Tryd.lays99 : Go.Proofs.Lays.n99 Tryd.prog Tryd.lays99_ren := {
  mixed := by kernel_rfl
  f99 := Tryd.func22.trans (congrArg some (by kernel_rfl))
  f206 := Tryd.func37.trans (congrArg some (by kernel_rfl))
  t3 := Tryd.underlying3
  a3 := Tryd.isAgg3
  z3 := Tryd.sizeOf3
  v3 := Tryd.zeroValue3
  t4 := Tryd.underlying4
  a4 := Tryd.isAgg4
  z4 := Tryd.sizeOf4
  v4 := Tryd.zeroValue4
  t9 := Tryd.underlying9
  a9 := Tryd.isAgg9
  z9 := Tryd.sizeOf9
  v9 := Tryd.zeroValue9 }
open Go.RowKit Go.Lib in
theorem Tryd.strings_HasPrefix (s p : ByteArray) (w : World) :
    Calls Tryd.prog 22 #[.string s, .string p] w fun e w' => e = .returned (.bool (Lib.hasPrefix s.data.toList p.data.toList)) ∧ w' = w := Any.strings_HasPrefix Tryd.lays99 s p w
end Go.Proofs

/- Small words for the walks: of no program. -/
namespace Go.Gw
open Go.RowKit

theorem below_grow {B : Nat} {a w : World} (h : Below B a w) (hB : B ≤ w.heap.size) (os : Array Obj) : Below B a (Sort.grow w os) :=
  h.trans ⟨rfl, rfl, rfl, by simp, fun k hk => Sort.heap_grow_old w os (by omega)⟩
theorem below_drewN' {B : Nat} {a w : World} (h : Below B a w) (n : Nat) : Below B a (w.drewN n) := below_drewN h n
theorem size_drewN (w : World) (n : Nat) : (w.drewN n).heap.size = w.heap.size := rfl

theorem ownsRow_below {w w1 : World} {base : Nat} {e : TypeId} {size n : Nat} {v : Value} {xs : List Value} (h : w.ownsRow base e size v n xs) (hb : Below w.heap.size w w1) : w1.ownsRow base e size v n xs :=
  h.kept (row := none) ⟨hb.os, hb.tape, hb.output, hb.size, fun i hi _ => hb.block i hi⟩ (by cases v.ownBlock <;> simp)

theorem builderAt_below {T e : TypeId} {B b : Nat} {p : Value} {bs : List Value} {w w' : World} (h : Lib.BuilderAt T e B b p bs w) (hb : Below w.heap.size w w') : Lib.BuilderAt T e B b p bs w' := by
  obtain ⟨h1, v, h2, h3, h4⟩ := h
  have hlt : b < w.heap.size := by
    rcases Nat.lt_or_ge b w.heap.size with h' | h'
    · exact h'
    · simp [Array.getElem?_eq_none h'] at h2
  exact ⟨h1, v, (hb.block b hlt).trans h2, ownsRow_below h3 hb, h4⟩
theorem isBuilder_below {T e : TypeId} {B b : Nat} {bs : List Value} {w w' : World} (h : Lib.IsBuilder T e B b bs w) (hb : Below w.heap.size w w') : Lib.IsBuilder T e B b bs w' := by
  rcases h with h | h
  · exact .inl (builderAt_below h hb)
  · exact .inr (builderAt_below h hb)

/-- The library's table of the powers of ten lies as its initialiser laid it. -/
structure Tab (P : Program) (w : World) : Prop where
  tab : Lib.TabIs P w "internal/strconv.uint64pow10" .u64 Lib.pow10Tab
theorem tabIs_lt {P : Program} {w : World} {name : String} {k : IntKind} {zs : List Int} (h : Lib.TabIs P w name k zs) {g : Nat} (hg : P.globalNamed name = some g) : g < w.heap.size := by
  unfold Lib.TabIs World.var? at h
  simp only [hg, Option.bind_some] at h
  rcases Nat.lt_or_ge g w.heap.size with h' | h'
  · exact h'
  · rw [Array.getElem?_eq_none h'] at h; simp at h
theorem var_below {P : Program} {w w' : World} {n : String} {cs : Array Value} (h : w.var? P n = some cs) (hb : Below w.heap.size w w') : w'.var? P n = some cs := by
  unfold World.var? at h ⊢
  cases hg : P.globalNamed n with
  | none => simp [hg] at h
  | some g =>
    simp only [hg, Option.bind_some] at h ⊢
    have hlt : g < w.heap.size := by
      rcases Nat.lt_or_ge g w.heap.size with h' | h'
      · exact h'
      · rw [Array.getElem?_eq_none h'] at h; simp at h
    rw [hb.block g hlt]
    exact h
theorem Tab.below {P : Program} {w w' : World} (h : Tab P w) (hb : Below w.heap.size w w') : Tab P w' := ⟨var_below h.tab hb⟩

theorem strCells_mk (l : List UInt8) : Lib.strCells ⟨l.toArray⟩ = Lib.byteCells l := rfl
theorem str_ext {a b : ByteArray} (h : a.data.toList = b.data.toList) : a = b := by
  cases a; cases b
  simp only at h
  congr 1
  exact Array.toList_inj.1 h
theorem str_mk (s : ByteArray) : (⟨s.data.toList.toArray⟩ : ByteArray) = s := by cases s; simp
theorem ext_drop (s : ByteArray) (k : Nat) : s.extract k s.size = ⟨(s.data.toList.drop k).toArray⟩ := by
  apply str_ext
  rw [Lib.extract_to_end]
theorem ext_mid (s : ByteArray) (a b : Nat) : s.extract a b = ⟨((s.data.toList.drop a).take (b - a)).toArray⟩ := by
  apply str_ext
  rw [Lib.extract_data]
theorem ext_take (s : ByteArray) (k : Nat) : s.extract 0 k = ⟨(s.data.toList.take k).toArray⟩ := by
  rw [ext_mid]
  rfl
theorem ret_str {a b : ByteArray} (h : a = b) : Ending.returned (.string a) = .returned (.string b) := by rw [h]
theorem ret_bool {a b : Bool} (h : a = b) : Ending.returned (.bool a) = .returned (.bool b) := by rw [h]
theorem ret_int {k : IntKind} {a b : Int} (h : a = b) : Ending.returned (.int k a) = .returned (.int k b) := by rw [h]
theorem byteTake (r : ByteArray) (k : Nat) (h : k < r.size) : (r[k]'h) ∈ r.data.toList ∧ r.data.toList.take (k + 1) = r.data.toList.take k ++ [r[k]'h] := by
  have hl : k < r.data.toList.length := by rw [Array.length_toList]; exact h
  refine ⟨?_, ?_⟩
  · show r.data[k] ∈ _
    rw [← Array.getElem_toList]
    exact List.getElem_mem hl
  · rw [List.take_succ_eq_append_getElem hl]
    congr 2
end Go.Gw

/- path.part: what a call of it does, of any text. -/
namespace Go.Proofs.YtdhilbefeehbaaaDoor
open Go.RowKit Go.Gw
set_option linter.unusedVariables false
set_option linter.unusedSimpArgs false

/-- May a part have a rune? -/
def signN (r : Nat) : Bool := decide (97 ≤ r ∧ r ≤ 122 ∨ 65 ≤ r ∧ r ≤ 90 ∨ 48 ≤ r ∧ r ≤ 57 ∨ r = 95 ∨ r = 46 ∨ r = 45 ∨ r = 43)
theorem signN_byte (c : UInt8) : signN c.toNat = Lb.signc c := by
  rw [Bool.eq_iff_iff]
  simp only [signN, Lb.signc, Bool.or_eq_true, Bool.and_eq_true, decide_eq_true_eq, beq_iff_eq, ← UInt8.toNat_inj, or_assoc]
  rfl
theorem sign_low {r : Nat} (h : r < 128) : decide (0 ≤ Lib.indexByte [95, 46, 45, 43] (UInt8.ofNat r)) = decide (r = 95 ∨ r = 46 ∨ r = 45 ∨ r = 43) := by
  obtain ⟨c, rfl⟩ : ∃ c : Fin 128, r = c.val := ⟨⟨r, h⟩, rfl⟩
  revert c
  decide +kernel
set_option maxHeartbeats 1000000 in
set_option maxRecDepth 100000 in
theorem sign_calls (r : Nat) (w : World) : Calls Tryd.prog 45 #[.int .i32 r] w fun e w' => e = .returned (.bool (signN r)) ∧ ∃ q, w' = w.drewN q := by
  go_enter Tryd.func45, Tryd.ntmps45
  go_wp2_with (go_at_call 62; go_loud (refine (Tryd.strings_IndexByte ⟨#[95, 46, 45, 43]⟩ _ _).mono ?_; rintro e w1 ⟨rfl, rfl⟩))
  all_goals go_ret
  all_goals refine ⟨ret_bool ?_, 0, rfl⟩
  all_goals (try rw [sign_low (by omega)])
  all_goals first | (rw [Bool.eq_iff_iff]; simp only [signN, Bool.or_eq_true, decide_eq_true_eq]; omega) | (symm; unfold signN; rw [decide_eq_true_eq]; omega)
set_option maxHeartbeats 1000000 in
set_option maxRecDepth 100000 in
theorem nosign_calls (r : Nat) (w : World) : Calls Tryd.prog 44 #[.int .i32 r] w fun e w' => e = .returned (.bool (!signN r)) ∧ ∃ q, w' = w.drewN q := by
  go_enter Tryd.func44, Tryd.ntmps44
  go_wp2_with fail
  refine (sign_calls r _).mono ?_
  rintro e w1 ⟨rfl, q, rfl⟩
  go_wp2
  go_ret
  exact ⟨rfl, q, rfl⟩
/-- A text is a part. -/
def partS (s : ByteArray) : Bool := Lb.part s.data.toList
theorem part_end (s : ByteArray) (h : s.size ≤ 64) : (!s.data.isEmpty && !s.data.toList == [46] && !s.data.toList == [46, 46] && !s.data.any (fun c => !signN c.toNat) 0 s.size) =
    (s.data.toList != [] && decide (s.size ≤ 64) && s.data.toList != [46] && s.data.toList != [46, 46] && !s.data.toList.any fun c => !signN c.toNat) := by
  have e1 : s.data.isEmpty = (s.data.toList == []) := by
    rw [← Array.isEmpty_toList]
    cases s.data.toList <;> rfl
  have e2 : (s.data.toList.any fun c => !signN c.toNat) = s.data.any (fun c => !signN c.toNat) 0 s.size := Array.any_toList
  rw [e1, e2, decide_eq_true h, Bool.and_true]
  rfl
set_option maxHeartbeats 1000000 in
set_option maxRecDepth 100000 in
theorem part_calls (s : ByteArray) (w : World) : Calls Tryd.prog 29 #[.string s] w fun e w' => e = .returned (.bool (partS s)) ∧ Below w.heap.size w w' := by
  have hC := fun W => ContainsFunc_calls 44 #[] (enters_of Tryd.func44 (by kernel_rfl) rfl) (fun r => !signN r) s W (fun W' r _ => nosign_calls r W')
  have hI := Lb.idxFunc_bytes (fun r => !signN r) (fun r hr => by simp only [signN, Bool.not_eq_true', decide_eq_false_iff_not]; omega) s
  rw [hI] at hC
  have HC := Lib.hid hC; clear hC hI
  have hp : partS s = (s.data.toList != [] && decide (s.size ≤ 64) && s.data.toList != [46] && s.data.toList != [46, 46] && !(s.data.toList.any fun c => !signN c.toNat)) := by
    have hl : s.data.toList.length = s.size := by rw [Array.length_toList]; rfl
    unfold partS Lb.part
    rw [hl]
    congr 1
    have e : ∀ l : List UInt8, l.all Lb.signc = !(l.any fun c => !signN c.toNat) := by
      intro l
      induction l with
      | nil => rfl
      | cons c l ih => rw [List.all_cons, List.any_cons, ih, signN_byte]; cases Lb.signc c <;> simp
    exact e _
  have ht : s.toList = s.data.toList := Lib.toList_data s
  have HP := Lib.hid hp; clear hp
  go_enter Tryd.func29, Tryd.ntmps29
  go_wp2_with (go_at_call 43; refine (HC.out _).mono ?_; rintro e w1 ⟨rfl, hb⟩)
  all_goals go_ret
  all_goals refine ⟨ret_bool ?_, by first | exact Below.refl _ _ | assumption⟩
  all_goals rw [HP.out]
  all_goals first
    | (have h64 : ¬ s.size ≤ 64 := by omega
       simp [h64]; done)
    | exact part_end s (by omega)
    | (simp [*]; done)
end Go.Proofs.YtdhilbefeehbaaaDoor

/- What stands between strokes, by where the first stroke stands. In plain Lean. No program. -/
namespace Go.Lb

theorem parts_none : ∀ l : List UInt8, Lib.indexByte l 47 = -1 → parts l = [l] := by
  intro l
  induction l with
  | nil => intro _; rfl
  | cons c l ih =>
    intro h
    unfold Lib.indexByte at h
    by_cases hc : c = 47
    · rw [if_pos (by simp [hc])] at h
      omega
    · rw [if_neg (by simpa using hc)] at h
      split at h
      · rename_i h1
        unfold parts
        rw [if_neg hc, ih (by simpa using h1)]
      · have := Lib.indexByte_ge l 47
        rename_i h1
        have h2 : ¬ Lib.indexByte l 47 = -1 := by simpa using h1
        omega
theorem parts_some : ∀ (l : List UInt8) (i : Nat), Lib.indexByte l 47 = i → i < l.length ∧ parts l = l.take i :: parts (l.drop (i + 1)) := by
  intro l
  induction l with
  | nil => intro i h; simp [Lib.indexByte] at h
  | cons c l ih =>
    intro i h
    unfold Lib.indexByte at h
    by_cases hc : c = 47
    · rw [if_pos (by simp [hc])] at h
      obtain rfl : i = 0 := by omega
      refine ⟨by simp, ?_⟩
      conv => lhs; unfold parts
      rw [if_pos hc]
      simp
    · rw [if_neg (by simpa using hc)] at h
      split at h
      · omega
      · have hg := Lib.indexByte_ge l 47
        rename_i h1
        have h2 : ¬ Lib.indexByte l 47 = -1 := by simpa using h1
        obtain ⟨j, hj⟩ : ∃ j : Nat, Lib.indexByte l 47 = j := ⟨(Lib.indexByte l 47).toNat, by omega⟩
        obtain rfl : i = j + 1 := by omega
        obtain ⟨h3, h4⟩ := ih j hj
        refine ⟨by simp; omega, ?_⟩
        conv => lhs; unfold parts
        rw [if_neg hc, h4]
        simp
/-- What is left to ask of a text of which so many parts were right. -/
def mayFrom (k : Nat) (l : List UInt8) : Bool := decide (k + (parts l).length ≤ 16) && (parts l).all part
theorem mayFrom_zero (l : List UInt8) : mayFrom 0 l = may l := by simp [mayFrom, may]
theorem mayFrom_last (k : Nat) (l : List UInt8) (h : Lib.indexByte l 47 = -1) : mayFrom k l = (decide (k + 1 ≤ 16) && part l) := by
  unfold mayFrom
  rw [parts_none l h]
  simp
theorem mayFrom_step (k : Nat) (l : List UInt8) (i : Nat) (h : Lib.indexByte l 47 = i) (h2 : part (l.take i) = true) : mayFrom k l = mayFrom (k + 1) (l.drop (i + 1)) := by
  unfold mayFrom
  rw [(parts_some l i h).2]
  simp only [List.length_cons, List.all_cons, h2, Bool.true_and]
  congr 1
  rw [Bool.eq_iff_iff]
  simp only [decide_eq_true_eq]
  omega
theorem mayFrom_no (k : Nat) (l : List UInt8) (i : Nat) (h : Lib.indexByte l 47 = i) (h1 : ¬ (k + 1 ≤ 16 ∧ part (l.take i) = true)) : mayFrom k l = false := by
  unfold mayFrom
  rw [(parts_some l i h).2]
  simp only [List.length_cons, List.all_cons]
  by_cases h2 : k + 1 ≤ 16
  · have h3 : part (l.take i) = false := by
      cases hp : part (l.take i) with
      | false => rfl
      | true => exact absurd ⟨h2, hp⟩ h1
    rw [h3]
    simp
  · rw [decide_eq_false (by have := List.length_pos_iff.2 (parts_ne (l.drop (i + 1))); omega)]
    simp
end Go.Lb

/- path.May: what a call of it does, of any text. -/
namespace Go.Proofs.YtdhilbefeehbaaaDoor
open Go.RowKit Go.Gw
attribute [local go_sem] Oper.semAt_some
set_option linter.unusedVariables false
set_option linter.unusedSimpArgs false

/-- A fact that the walk does not look into. -/
structure Aside1 (p : Prop) : Prop where mk :: (out : p)
/-- The sequence's function value, its variables from block B on. -/
def seqV (B : Nat) : Value := .func (.func 58) #[] #[.pointer (some ⟨B + 1, 0, none⟩), .pointer (some ⟨B, 0, none⟩), .pointer (some ⟨B + 2, 0, none⟩)]
def seqW (s : ByteArray) (w : World) : World := ((w.alloc (.cells #[.string s] 9)).alloc (.cells #[.string ⟨#[47]⟩] 9)).alloc (.cells #[.int .i64 0] 3)
set_option maxHeartbeats 1000000 in
set_option maxRecDepth 100000 in
theorem splitSeq_calls (s : ByteArray) (w : World) : Calls Tryd.prog 42 #[.string s, .string ⟨#[47]⟩, .int .i64 0] w fun e w' => e = .returned (seqV w.heap.size) ∧ w' = seqW s w := by
  have hmf : ∀ (fn : Fn) (first cap : Array Value) (w : World), (Instr.makeFunc fn first cap).run Tryd.prog w = .ok (.func fn first cap) w := fun _ _ _ _ => rfl
  go_enter Tryd.func42, Tryd.ntmps42
  go_wp2
  go_ret
  exact ⟨rfl, rfl⟩
set_option maxHeartbeats 1000000 in
set_option maxRecDepth 100000 in
theorem SplitSeq_calls (s : ByteArray) (w : World) : Calls Tryd.prog 28 #[.string s, .string ⟨#[47]⟩] w fun e w' => e = .returned (seqV w.heap.size) ∧ w' = seqW s w := by
  go_enter Tryd.func28, Tryd.ntmps28
  go_wp2_with fail
  refine (splitSeq_calls s _).mono ?_
  rintro e w1 ⟨rfl, rfl⟩
  go_wp2
  go_ret
  exact ⟨rfl, rfl⟩

/-- What lies where path.May's loop goes: its result, its number, the sequence's three variables, the loop's two blocks. -/
structure MaySt (w : World) (L : Loop) (k : Nat) (rest : ByteArray) (res : Bool) (W : World) : Prop where
  b0 : W.heap[w.heap.size]? = some (.cells #[.bool res] 4 (0, 0))
  b1 : W.heap[w.heap.size + 1]? = some (.cells #[.int .i64 k] 3 (0, 0))
  b2 : W.heap[w.heap.size + 2]? = some (.cells #[.string rest] 9 (0, 0))
  b3 : W.heap[w.heap.size + 3]? = some (.cells #[.string ⟨#[47]⟩] 9 (0, 0))
  b4 : W.heap[w.heap.size + 4]? = some (.cells #[.int .i64 0] 3 (0, 0))
  bd : W.heap[w.heap.size + 5]? = some (.deferred (some []))
  bl : W.heap[w.heap.size + 6]? = some (.loop L)
  be : Below w.heap.size w W
theorem heap_lt {W : World} {b : Nat} {o : Obj} (h : W.heap[b]? = some o) : b < W.heap.size := (Array.getElem?_eq_some_iff.1 h).1
theorem cell_blk {W : World} {b : Nat} {t : TypeId} {v : Value} (h : W.heap[b]? = some (.cells #[v] t (0, 0))) : W.cell? ⟨b, 0, none⟩ = some v := by simp [World.cell?, h]
theorem frozen_blk {W : World} {b : Nat} {t : TypeId} {v : Value} (h : W.heap[b]? = some (.cells #[v] t (0, 0))) : W.frozen? ⟨b, 0, none⟩ = false := by simp [World.frozen?, h]
theorem set_blk {W : World} {b : Nat} {t : TypeId} {v : Value} (v' : Value) (h : W.heap[b]? = some (.cells #[v] t (0, 0))) : (W.setCell ⟨b, 0, none⟩ v').heap[b]? = some (.cells #[v'] t (0, 0)) := Boxed.set v' h
theorem set_far {W : World} {b c : Nat} {o : Obj} (v' : Value) (h : W.heap[c]? = some o) (hne : c ≠ b) : (W.setCell ⟨b, 0, none⟩ v').heap[c]? = some o := (Below.heap_setCell W ⟨b, 0, none⟩ v' c hne).trans h
theorem MaySt.below {w : World} {L : Loop} {k : Nat} {rest : ByteArray} {res : Bool} {W W' : World} (h : MaySt w L k rest res W) (hb : Below W.heap.size W W') : MaySt w L k rest res W' :=
  have go : ∀ {b : Nat} {o : Obj}, W.heap[b]? = some o → W'.heap[b]? = some o := fun {b o} ho => (hb.block b (heap_lt ho)).trans ho
  ⟨go h.b0, go h.b1, go h.b2, go h.b3, go h.b4, go h.bd, go h.bl, h.be.trans (hb.mono h.be.size)⟩
theorem MaySt.num {w : World} {L : Loop} {k : Nat} {rest : ByteArray} {res : Bool} {W : World} (h : MaySt w L k rest res W) (k' : Nat) : MaySt w L k' rest res (W.setCell ⟨w.heap.size + 1, 0, none⟩ (.int .i64 k')) :=
  ⟨set_far _ h.b0 (by omega), set_blk _ h.b1, set_far _ h.b2 (by omega), set_far _ h.b3 (by omega), set_far _ h.b4 (by omega), set_far _ h.bd (by omega), set_far _ h.bl (by omega), h.be.setCell (p := ⟨w.heap.size + 1, 0, none⟩) (by simp) _⟩
theorem MaySt.result {w : World} {L : Loop} {k : Nat} {rest : ByteArray} {res : Bool} {W : World} (h : MaySt w L k rest res W) (res' : Bool) : MaySt w L k rest res' (W.setCell ⟨w.heap.size, 0, none⟩ (.bool res')) :=
  ⟨set_blk _ h.b0, set_far _ h.b1 (by omega), set_far _ h.b2 (by omega), set_far _ h.b3 (by omega), set_far _ h.b4 (by omega), set_far _ h.bd (by omega), set_far _ h.bl (by omega), h.be.setCell (p := ⟨w.heap.size, 0, none⟩) (Nat.le_refl _) _⟩
theorem MaySt.left {w : World} {L : Loop} {k : Nat} {rest : ByteArray} {res : Bool} {W : World} (h : MaySt w L k rest res W) (rest' : ByteArray) : MaySt w L k rest' res (W.setCell ⟨w.heap.size + 2, 0, none⟩ (.string rest')) :=
  ⟨set_far _ h.b0 (by omega), set_far _ h.b1 (by omega), set_blk _ h.b2, set_far _ h.b3 (by omega), set_far _ h.b4 (by omega), set_far _ h.bd (by omega), set_far _ h.bl (by omega), h.be.setCell (p := ⟨w.heap.size + 2, 0, none⟩) (by simp) _⟩
theorem MaySt.loop {w : World} {L : Loop} {k : Nat} {rest : ByteArray} {res : Bool} {W : World} (h : MaySt w L k rest res W) (L' : Loop) : MaySt w L' k rest res (W.putObj (w.heap.size + 6) (.loop L')) :=
  have go : ∀ {b : Nat} {o : Obj}, b ≠ w.heap.size + 6 → W.heap[b]? = some o → (W.putObj (w.heap.size + 6) (.loop L')).heap[b]? = some o := fun {b o} hb ho => (World.putObj_heap_other hb).trans ho
  ⟨go (by omega) h.b0, go (by omega) h.b1, go (by omega) h.b2, go (by omega) h.b3, go (by omega) h.b4, go (by omega) h.bd, World.putObj_heap_same (heap_lt h.bl), h.be.grown (grownBy_putObj' W _ _) h.be.size (fun j e => by cases e; omega)⟩
/-- How a round ends. -/
def RoundEnd (w : World) (L : LoopState → Option Code → Loop) (k : Nat) (rest x : ByteArray) (e : Ending) (W' : World) : Prop :=
  if k + 1 ≤ 16 ∧ partS x = true then e = .returned (.bool true) ∧ MaySt w (L .ready none) (k + 1) rest false W'
  else e = .returned (.bool false) ∧ MaySt w (L .done (some .ret)) (k + 1) rest false W'
/-- How the sequence ends. -/
def SeqEnd (w : World) (L : LoopState → Option Code → Loop) (s : ByteArray) (W' : World) : Prop :=
  ∃ k rest, (Lb.may s.data.toList = true ∧ MaySt w (L .ready none) k rest false W') ∨ (Lb.may s.data.toList = false ∧ MaySt w (L .done (some .ret)) k rest false W')
/-- What is still to come of a text, as the world has it. -/
def leftOf (b : Nat) (W : World) : Nat := match W.cell? ⟨b, 0, none⟩ with
  | some (.string r) => r.size + 1
  | _ => 0
set_option maxHeartbeats 4000000 in
set_option maxRecDepth 100000 in
theorem seq_calls (m : Nat) (w : World) (L : LoopState → Option Code → Loop) (s : ByteArray) (hs : s.size ≤ 140737488351232)
    (hY : ∀ k rest x W, k ≤ 16 → MaySt w (L .ready none) k rest false W → YieldAt Fence.wide (m - 1) Tryd.prog (w.heap.size + 6) #[.string x] W (RoundEnd w L k rest x)) (W : World) (h0 : MaySt w (L .ready none) 0 s false W) :
    CallsIn Fence.wide m Tryd.prog 58 #[.func (.yield (w.heap.size + 6)) #[] #[], .pointer (some ⟨w.heap.size + 3, 0, none⟩), .pointer (some ⟨w.heap.size + 2, 0, none⟩), .pointer (some ⟨w.heap.size + 4, 0, none⟩)] W fun e W' => (∃ v, e = .returned v) ∧ SeqEnd w L s W' := by
  obtain ⟨B, hB⟩ : ∃ B, B = w.heap.size := ⟨_, rfl⟩
  have c3 := cell_blk h0.b3
  refine callsIn_of_wp Tryd.func58 rfl trivial ?_ rfl
  simp only [Tryd.ntmps58, List.size_toArray, List.length_cons, List.length_nil, Nat.reduceAdd, Nat.reduceSub, Array.replicate_succ, Array.replicate_zero, List.push_toArray, List.append_toArray, List.nil_append, List.cons_append]
  have H0 := Lib.hid h0; clear h0
  gi_wp2_with fail
  clear c3
  gi_loopw [7, 8] (fun _ _ wr => ∃ (k : Nat) (rest : ByteArray), k ≤ 16 ∧ rest.size ≤ s.size ∧ Aside1 (Lb.may s.data.toList = Lb.mayFrom k rest.data.toList) ∧ Aside1 (MaySt w (L .ready none) k rest false wr)) (fun _ _ wr => leftOf (w.heap.size + 2) wr)
  case atStart => exact ⟨0, s, by omega, Nat.le_refl _, ⟨(Lb.mayFrom_zero _).symm⟩, ⟨H0.out⟩⟩
  case round =>
    obtain ⟨k, rest, hk, hr, HM, HS⟩ := hrel
    have c2 := cell_blk HS.out.b2
    have c3 := cell_blk HS.out.b3
    have c4 := cell_blk HS.out.b4
    have f2 := frozen_blk HS.out.b2
    have hg := Lib.indexByte_ge rest.data.toList 47
    by_cases hno : Lib.indexByte rest.data.toList 47 = -1
    · have HN := Lib.hid hno; clear hno hg
      have hlast := Lb.mayFrom_last k rest.data.toList HN.out
      have HL := Lib.hid hlast; clear hlast
      obtain ⟨fn, tmps, assign, body, hy, hR⟩ := hY k rest rest wr hk HS.out
      gi_wp2_with fail
      refine ⟨trivial, (fun h => by cases h), ?_⟩
      refine (callsIn_wide.2 (Tryd.strings_Index_one rest 47 _)).mono ?_
      rintro e w1 ⟨rfl, rfl⟩
      rw [HN.out]
      gi_wp2
      refine ⟨(fun h => by cases h), ?_⟩
      refine hR.mono ?_
      rintro e W' hE
      have hfin : SeqEnd w L s W' ∧ ∃ b : Bool, e = .returned (.bool b) := by
        unfold RoundEnd at hE
        split at hE
        · rename_i hc
          exact ⟨⟨_, _, .inl ⟨by rw [HM.out, HL.out, decide_eq_true hc.1]; exact hc.2, hE.2⟩⟩, _, hE.1⟩
        · rename_i hc
          refine ⟨⟨_, _, .inr ⟨?_, hE.2⟩⟩, _, hE.1⟩
          rw [HM.out, HL.out]
          cases hp : Lb.part rest.data.toList with
          | false => simp
          | true => rw [decide_eq_false (fun h => hc ⟨h, hp⟩)]; rfl
      obtain ⟨hS, b, rfl⟩ := hfin
      have HF := Lib.hid hS; clear hS hE
      gi_wp2
      go_end0
      exact ⟨⟨_, rfl⟩, HF.out⟩
    · obtain ⟨i, hi⟩ : ∃ i : Nat, Lib.indexByte rest.data.toList 47 = i := ⟨(Lib.indexByte rest.data.toList 47).toNat, by omega⟩
      obtain ⟨hil, -⟩ := Lb.parts_some _ i hi
      have hil2 : i < rest.size := by rw [Array.length_toList] at hil; exact hil
      have HN := Lib.hid hi; clear hi hno hg hil
      obtain ⟨fn, tmps, assign, body, hy, hR⟩ := hY k rest (rest.extract 0 i) wr hk HS.out
      gi_wp2_with fail
      refine ⟨trivial, (fun h => by cases h), ?_⟩
      refine (callsIn_wide.2 (Tryd.strings_Index_one rest 47 _)).mono ?_
      rintro e w1 ⟨rfl, rfl⟩
      rw [HN.out]
      gi_wp2
      refine ⟨(fun h => by cases h), ?_⟩
      refine hR.mono ?_
      rintro e W' hE
      unfold RoundEnd at hE
      by_cases hc : k + 1 ≤ 16 ∧ partS (rest.extract 0 i) = true
      · rw [if_pos hc] at hE
        obtain ⟨rfl, hS⟩ := hE
        have c2' := cell_blk hS.b2
        have c3' := cell_blk hS.b3
        have f2' := frozen_blk hS.b2
        have hst := Lb.mayFrom_step k rest.data.toList i HN.out (by have := hc.2; unfold partS at this; rw [ext_take] at this; exact this)
        have HT := Lib.hid hst
        have HS2 := Lib.hid hS
        obtain ⟨hk1, hp⟩ := hc
        clear hst hS hp
        gi_wp2
        refine ⟨⟨k + 1, rest.extract (i + 1) rest.size, hk1, by rw [ByteArray.size_extract]; omega, ⟨?_⟩, ⟨HS2.out.left _⟩⟩, ?_⟩
        · rw [HM.out, HT.out, ext_drop]
        · have e1 := cell_blk (HS2.out.left (rest.extract (i + 1) rest.size)).b2
          have e2 := cell_blk HS.out.b2
          unfold leftOf
          rw [e1, e2]
          simp only [ByteArray.size_extract]
          omega
      · rw [if_neg hc] at hE
        obtain ⟨rfl, hS⟩ := hE
        have hno := Lb.mayFrom_no k rest.data.toList i HN.out (by intro h; exact hc ⟨h.1, by unfold partS; rw [ext_take]; exact h.2⟩)
        have HF : Hid (SeqEnd w L s W') := ⟨_, _, .inr ⟨by rw [HM.out, hno], hS⟩⟩
        clear hS hno hc
        gi_wp2
        refine bodyPost_ret (results_none rfl _ _ _) rfl ?_
        exact ⟨⟨_, rfl⟩, HF.out⟩

/-- How a round's body is left. -/
def MayPost (w : World) (L : Loop) (k : Nat) (rest x : ByteArray) : Exit → Act → World → Prop
  | .normal, _, W' => (k + 1 ≤ 16 ∧ partS x = true) ∧ MaySt w L (k + 1) rest false W'
  | .ret, _, W' => (¬ (k + 1 ≤ 16 ∧ partS x = true)) ∧ MaySt w L (k + 1) rest false W'
  | _, _, _ => False
/-- The frame behind the loop: the block of the rounds' deferred calls is to be looked at. -/
def marked (w : World) (a : Act) : Act := { a with defers := [{ target := .collected (w.heap.size + 5), args := #[] }] ++ a.defers }
theorem mayLoop {g : Operand} {assign body : Code} {Q : Exit → Act → World → Prop} {a : Act} {w W0 : World} (s : ByteArray) (hs : s.size ≤ 140737488351232)
    (hg : a.eval g = .func (.func 58) #[] #[.pointer (some ⟨w.heap.size + 3, 0, none⟩), .pointer (some ⟨w.heap.size + 2, 0, none⟩), .pointer (some ⟨w.heap.size + 4, 0, none⟩)])
    (hsz : W0.heap.size = w.heap.size + 5)
    (b0 : W0.heap[w.heap.size]? = some (.cells #[.bool false] 4 (0, 0))) (b1 : W0.heap[w.heap.size + 1]? = some (.cells #[.int .i64 0] 3 (0, 0))) (b2 : W0.heap[w.heap.size + 2]? = some (.cells #[.string s] 9 (0, 0)))
    (b3 : W0.heap[w.heap.size + 3]? = some (.cells #[.string ⟨#[47]⟩] 9 (0, 0))) (b4 : W0.heap[w.heap.size + 4]? = some (.cells #[.int .i64 0] 3 (0, 0))) (be : Below w.heap.size w W0) (a₁ : ByteArray → Act)
    (hassign : ∀ (x : ByteArray) (W : World) (K : Act → World → Prop), K (a₁ x) W → assign.wpIn (Fence.wide.inRound (w.heap.size + 6)) 7 Tryd.prog (Exit.then K (fun _ _ _ => False)) { tmps := (#[7].zip #[Value.string x]).foldl (fun t (p, v) => t.setIfInBounds p v) a.tmps, defers := [] } W)
    (hbody : ∀ (L : Loop) (k : Nat) (rest x : ByteArray) (W : World), k ≤ 16 → MaySt w L k rest false W → body.wpIn (Fence.wide.inRound (w.heap.size + 6)) 7 Tryd.prog (MayPost w L k rest x) (a₁ x) W)
    (hdone : ∀ (L : Loop) (k : Nat) (rest : ByteArray) (W : World), Lb.may s.data.toList = true → MaySt w L k rest false W → Q .normal (marked w a) W)
    (hstop : ∀ (L : Loop) (k : Nat) (rest : ByteArray) (W : World), Lb.may s.data.toList = false → MaySt w L k rest false W → Code.ret.wpIn Fence.wide 9 Tryd.prog Q (marked w a) W) :
    (Code.rangeFunc g #[7] assign body).wpIn Fence.wide 9 Tryd.prog Q a W0 := by
  refine wpIn_rangeFunc ?_
  intro fn hfn
  obtain ⟨rec, hrec⟩ : ∃ rec : LoopState → Option Code → Loop, rec = fun st pe => { state := st, pending := pe, fn, tmps := a.tmps, params := #[7], assign, body, defers := W0.heap.size } := ⟨_, rfl⟩
  obtain ⟨W1, hW1⟩ : ∃ W1, (W0.alloc (.deferred (some []))).alloc (.loop (rec .ready none)) = W1 := ⟨_, rfl⟩
  have hl : W0.heap.size + 1 = w.heap.size + 6 := by omega
  have old : ∀ {b : Nat} {o : Obj}, W0.heap[b]? = some o → W1.heap[b]? = some o := by
    intro b o h
    rw [← hW1]
    have := heap_lt h
    exact (Below.heap_alloc _ _ _ (by simp; omega)).trans ((Below.heap_alloc _ _ _ this).trans h)
  have h0 : MaySt w (rec .ready none) 0 s false W1 := by
    refine ⟨old b0, old b1, old b2, old b3, old b4, ?_, ?_, ?_⟩
    · rw [← hW1, ← hsz]
      exact (Below.heap_alloc _ _ _ (by simp)).trans (World.alloc_heap_new W0 _)
    · rw [← hW1, ← hl]
      have := World.alloc_heap_new (W0.alloc (.deferred (some []))) (.loop (rec .ready none))
      rwa [World.size_alloc] at this
    · rw [← hW1]
      exact (be.alloc (by omega) _).alloc (by simp; omega) _
  refine ⟨w.heap.size + 6, [{ target := .collected (w.heap.size + 5), args := #[] }], W1, { target := .fn (.func 58) #[.pointer (some ⟨w.heap.size + 3, 0, none⟩), .pointer (some ⟨w.heap.size + 2, 0, none⟩), .pointer (some ⟨w.heap.size + 4, 0, none⟩)], args := #[.func (.yield (w.heap.size + 6)) #[] #[]] }, W1, 58,
    #[.func (.yield (w.heap.size + 6)) #[] #[], .pointer (some ⟨w.heap.size + 3, 0, none⟩), .pointer (some ⟨w.heap.size + 2, 0, none⟩), .pointer (some ⟨w.heap.size + 4, 0, none⟩)], W1, ?_, ?_, fun _ _ => trivial, ?_, (fun h => by cases h), ?_⟩
  · have := run_enterLoop_outer (P := Tryd.prog) (w := W0) fn a.tmps #[7] assign body
    rw [← hW1, hrec, ← hl, ← hsz]
    exact this
  · simp only [resolve, hg]
    simp [go_sem]
  · have eg := enters_of Tryd.func58 (by kernel_rfl) rfl
    simp [invoke, go_sem, eg]
  · refine (seq_calls 8 w rec s hs ?_ W1 h0).mono ?_
    · intro k rest x W hk hS
      have hy := run_yield (P := Tryd.prog) (args := #[.string x]) hS.bl (by rw [hrec]; rfl)
      refine ⟨_, _, _, _, hy, roundIn_of_wpIn trivial ?_⟩
      have ht : ((rec .ready none).params.zip #[Value.string x]).foldl (fun tmps (t, a) => tmps.setIfInBounds t a) (rec .ready none).tmps = (#[7].zip #[Value.string x]).foldl (fun t (p, v) => t.setIfInBounds p v) a.tmps := by rw [hrec]
      rw [ht, show (rec .ready none).assign = assign by rw [hrec], show (rec .ready none).body = body by rw [hrec]]
      refine hassign x W _ ⟨_, run_beginRound hS.bl (by rw [hrec]), ?_⟩
      have hS2 := hS.loop { rec .ready none with state := .busy }
      refine wpIn_mono (hbody _ k rest x _ hk hS2) ?_
      have eq : ∀ st pe, ({ ({ rec .ready none with state := .busy } : Loop) with state := st, pending := pe } : Loop) = rec st pe := by
        intro st pe
        rw [hrec]
      rintro e a3 W3 hp
      cases e with
      | normal =>
        obtain ⟨hc, hS3⟩ := hp
        have hr := run_endRound (P := Tryd.prog) none hS3.bl
        refine ⟨_, _, hr, ?_⟩
        unfold RoundEnd
        rw [if_pos hc]
        exact ⟨rfl, by have := hS3.loop (rec .ready none); simp only [Option.isNone_none, if_true, eq]; exact this⟩
      | ret =>
        obtain ⟨hc, hS3⟩ := hp
        have hr := run_endRound (P := Tryd.prog) (some .ret) hS3.bl
        refine ⟨_, _, hr, ?_⟩
        unfold RoundEnd
        rw [if_neg hc]
        exact ⟨rfl, by have := hS3.loop (rec .done (some .ret)); simp only [Option.isNone_some, eq]; exact this⟩
      | exit id => exact hp.elim
      | goto t => exact hp.elim
      | panic ch => exact hp.elim
      | outgrown => exact hp.elim
    · rintro e W2 ⟨⟨v, rfl⟩, k, rest, (⟨hm, hS⟩ | ⟨hm, hS⟩)⟩
      · have := run_endLoop (P := Tryd.prog) hS.bl (by rw [hrec]; simp)
        exact ⟨_, _, this, by rw [show (rec .ready none).pending = none by rw [hrec]]; exact hdone _ k rest _ hm (hS.loop _)⟩
      · have := run_endLoop (P := Tryd.prog) hS.bl (by rw [hrec]; simp)
        exact ⟨_, _, this, by rw [show (rec .done (some .ret)).pending = some .ret by rw [hrec]]; exact hstop _ k rest _ hm (hS.loop _)⟩

set_option maxHeartbeats 4000000 in
set_option maxRecDepth 100000 in
theorem May_in (s : ByteArray) (hs : s.size ≤ 140737488351232) (w : World) :
    CallsIn Fence.wide 9 Tryd.prog 14 #[.string s] w fun e w' => e = .returned (.bool (Lb.may s.data.toList)) ∧ Below w.heap.size w w' := by
  refine callsIn_of_wp_marks Tryd.func14 rfl trivial ?_ rfl
  simp only [Tryd.ntmps14, List.size_toArray, List.length_cons, List.length_nil, Nat.reduceAdd, Nat.reduceSub, Array.replicate_succ, Array.replicate_zero, List.push_toArray, List.append_toArray, List.nil_append, List.cons_append]
  gi_wp2_with fail
  refine ⟨trivial, ?_⟩
  refine (callsIn_wide.2 (SplitSeq_calls s _)).mono ?_
  rintro e w1 ⟨rfl, rfl⟩
  gi_wp2
  obtain ⟨W0, hW0⟩ : ∃ W0, W0 = seqW s ((w.alloc (.cells #[.bool false] 4)).alloc (.cells #[.int .i64 0] 3)) := ⟨_, rfl⟩
  have hsz : W0.heap.size = w.heap.size + 5 := by rw [hW0]; simp [seqW]
  rw [← hW0]
  have nw : ∀ (W : World) (o : Obj), (W.alloc o).heap[W.heap.size]? = some o := World.alloc_heap_new
  have ol : ∀ {W : World} {b : Nat} {o o' : Obj}, W.heap[b]? = some o → (W.alloc o').heap[b]? = some o := fun h => (Below.heap_alloc _ _ _ (heap_lt h)).trans h
  refine mayLoop s hs ?hg hsz ?b0 ?b1 ?b2 ?b3 ?b4 ?be (fun x => { tmps := #[.string s, undef, .pointer (some ⟨w.heap.size, 0, none⟩), .pointer (some ⟨w.heap.size + 1, 0, none⟩), .string x, .string s, seqV (w.heap.size + 1 + 1), .string x, undef, undef, undef, undef, undef, undef, undef, undef, undef], defers := [] }) ?assign ?body ?done ?stop
  case hg => simp [Act.eval, seqV]
  case b0 => rw [hW0]; exact ol (ol (ol (ol (nw _ _))))
  case b1 =>
    rw [hW0]
    have := nw (w.alloc (.cells #[.bool false] 4)) (.cells #[.int .i64 0] 3)
    rw [World.size_alloc] at this
    exact ol (ol (ol this))
  case b2 =>
    rw [hW0]
    have := nw ((w.alloc (.cells #[.bool false] 4)).alloc (.cells #[.int .i64 0] 3)) (.cells #[.string s] 9)
    simp only [World.size_alloc] at this
    exact ol (ol this)
  case b3 =>
    rw [hW0]
    have := nw (((w.alloc (.cells #[.bool false] 4)).alloc (.cells #[.int .i64 0] 3)).alloc (.cells #[.string s] 9)) (.cells #[.string ⟨#[47]⟩] 9)
    simp only [World.size_alloc] at this
    exact ol this
  case b4 =>
    rw [hW0]
    have := nw ((((w.alloc (.cells #[.bool false] 4)).alloc (.cells #[.int .i64 0] 3)).alloc (.cells #[.string s] 9)).alloc (.cells #[.string ⟨#[47]⟩] 9)) (.cells #[.int .i64 0] 3)
    simp only [World.size_alloc] at this
    exact this
  case be =>
    rw [hW0]
    exact (((((Below.refl _ _).alloc (Nat.le_refl _) _).alloc (by simp) _).alloc (by simp; omega) _).alloc (by simp; omega) _).alloc (by simp; omega) _
  case assign =>
    intro x W K hK
    gi_wp2
    exact hK
  case body =>
    intro L k rest x W hk hS
    have c0 := cell_blk hS.b0
    have f0 := frozen_blk hS.b0
    have c1 := cell_blk hS.b1
    have f1 := frozen_blk hS.b1
    have HS := Lib.hid hS; clear hS
    have hne : ¬ w.heap.size = w.heap.size + 1 := by omega
    by_cases h16 : k + 1 ≤ 16
    · have t16 : ¬ ((16 : Int) < (k : Int) + 1) := by omega
      gi_wp2_with fail
      refine ⟨trivial, ?_⟩
      have hS2 := HS.out.num (k + 1)
      rw [show ((k + 1 : Nat) : Int) = (k : Int) + 1 by omega] at hS2
      generalize W.setCell ⟨w.heap.size + 1, 0, none⟩ (.int .i64 ((k : Int) + 1)) = Wn at hS2 ⊢
      clear c0 f0 c1 f1
      refine (CallsIn.inRound _ (callsIn_wide.2 (part_calls x _))).mono ?_
      rintro e W2 ⟨rfl, hb⟩
      have hS3 := hS2.below hb
      have c0 := cell_blk hS3.b0
      have f0 := frozen_blk hS3.b0
      have HS3 := Lib.hid hS3; clear hS3 hS2 hb
      cases hp : partS x with
      | true =>
        have HP := Lib.hid hp; clear hp
        gi_wp2
        exact ⟨⟨h16, HP.out⟩, HS3.out⟩
      | false =>
        have HP := Lib.hid hp; clear hp
        gi_wp2
        exact ⟨(fun h => by have := h.2; rw [HP.out] at this; cases this), HS3.out.result false⟩
    · have t16 : (16 : Int) < (k : Int) + 1 := by omega
      gi_wp2
      refine ⟨trivial, ?_⟩
      have hS2 := HS.out.num (k + 1)
      rw [show ((k + 1 : Nat) : Int) = (k : Int) + 1 by omega] at hS2
      generalize W.setCell ⟨w.heap.size + 1, 0, none⟩ (.int .i64 ((k : Int) + 1)) = Wn at hS2 ⊢
      clear c0 f0 c1 f1
      have c0 := cell_blk hS2.b0
      have f0 := frozen_blk hS2.b0
      have HS3 := Lib.hid hS2; clear hS2
      gi_wp2
      exact ⟨(fun h => h16 h.1), HS3.out.result false⟩
  case done =>
    intro L k rest W hm hS
    have c0 := cell_blk hS.b0
    have f0 := frozen_blk hS.b0
    have HS := Lib.hid (hS.result true); clear hS
    unfold marked
    gi_wp2
    refine ⟨by simp, .inl ⟨_, _, rfl, run_takeDeferred HS.out.bd, ?_⟩⟩
    have hb0 := (World.putObj_heap_other (w := W.setCell ⟨w.heap.size, 0, none⟩ (.bool true)) (o := .deferred none) (show w.heap.size ≠ w.heap.size + 5 by omega)).trans HS.out.b0
    have hc5 := cell_blk hb0
    refine ⟨.bool true, ?_, by rw [hm], HS.out.be.grown (grownBy_putObj' _ _ _) HS.out.be.size (fun j e => by cases e; omega)⟩
    simp [results, Tryd.f14, go_sem, hc5]
  case stop =>
    intro L k rest W hm hS
    have HS := Lib.hid hS; clear hS
    unfold marked
    gi_wp2
    refine ⟨by simp, .inl ⟨_, _, rfl, run_takeDeferred HS.out.bd, ?_⟩⟩
    have hb0 := (World.putObj_heap_other (w := W) (o := .deferred none) (show w.heap.size ≠ w.heap.size + 5 by omega)).trans HS.out.b0
    have hc5 := cell_blk hb0
    refine ⟨.bool false, ?_, by rw [hm], HS.out.be.grown (grownBy_putObj' _ _ _) HS.out.be.size (fun j e => by cases e; omega)⟩
    simp [results, Tryd.f14, go_sem, hc5]
/-- path.May of any text. -/
theorem May_calls (s : ByteArray) (hs : s.size ≤ 140737488351232) (w : World) :
    Calls Tryd.prog 14 #[.string s] w fun e w' => e = .returned (.bool (Lb.may s.data.toList)) ∧ Below w.heap.size w w' := callsIn_wide.1 (May_in s hs w)
end Go.Proofs.YtdhilbefeehbaaaDoor

/- The library's contracts at this dump, as the kit's tools lay-shelf and lay-plain write them: those that are used here. -/
namespace Go.Proofs
open Go.Shelf
def Tryd.lays207_ren : Go.Shelf.Ren := ⟨fun | 207 => 71 | n => n, fun | 9 => 9 | 4 => 4 | 3 => 3 | n => n, fun | n => n⟩
theorem Tryd.lays207 : Go.Proofs.Lays.n207 Tryd.prog Tryd.lays207_ren := {
  mixed := by kernel_rfl
  f207 := Tryd.func71.trans (congrArg some (by kernel_rfl))
  t3 := Tryd.underlying3
  a3 := Tryd.isAgg3
  z3 := Tryd.sizeOf3
  v3 := Tryd.zeroValue3
  t4 := Tryd.underlying4
  a4 := Tryd.isAgg4
  z4 := Tryd.sizeOf4
  v4 := Tryd.zeroValue4
  t9 := Tryd.underlying9
  a9 := Tryd.isAgg9
  z9 := Tryd.sizeOf9
  v9 := Tryd.zeroValue9 }
open Go.RowKit Go.Lib in
theorem Tryd.stringslite_HasSuffix (s p : ByteArray) (w : World) (hs : s.size ≤ 9223372036854775807) :
    Calls Tryd.prog 71 #[.string s, .string p] w fun e w' => e = .returned (.bool (Lib.hasSuffix s.data.toList p.data.toList)) ∧ w' = w := Any.stringslite_HasSuffix Tryd.lays207 s p w hs
end Go.Proofs

/- strings.CutPrefix, CutSuffix, Cut (a separator of one byte): what calls of them do. -/
namespace Go.Proofs.YtdhilbefeehbaaaDoor
open Go.RowKit Go.Gw
set_option linter.unusedVariables false
set_option linter.unusedSimpArgs false

def cutPre (s p : ByteArray) : ByteArray := if Lib.hasPrefix s.data.toList p.data.toList then s.extract p.size s.size else s
def cutSuf (s p : ByteArray) : ByteArray := if Lib.hasSuffix s.data.toList p.data.toList then s.extract 0 (s.size - p.size) else s
theorem pre_le {s p : ByteArray} (h : Lib.hasPrefix s.data.toList p.data.toList = true) : p.size ≤ s.size := by
  have := Lib.hasPrefix_le h
  rwa [Array.length_toList, Array.length_toList] at this
theorem suf_le {s p : ByteArray} (h : Lib.hasSuffix s.data.toList p.data.toList = true) : p.size ≤ s.size := by
  have := Lib.hasSuffix_le h
  rwa [Array.length_toList, Array.length_toList] at this
set_option maxHeartbeats 1000000 in
set_option maxRecDepth 100000 in
theorem slCutPrefix_calls (s p : ByteArray) (w : World) : Calls Tryd.prog 38 #[.string s, .string p] w fun e w' => e = .returned (.tuple #[.string (cutPre s p), .bool (Lib.hasPrefix s.data.toList p.data.toList)]) ∧ ∃ q, w' = w.drewN q := by
  go_enter Tryd.func38, Tryd.ntmps38
  go_wp2_with fail
  refine (Tryd.stringslite_HasPrefix s p _).mono ?_
  rintro e w1 ⟨rfl, rfl⟩
  obtain ⟨b, hb⟩ : ∃ b, b = Lib.hasPrefix s.data.toList p.data.toList := ⟨_, rfl⟩
  rw [← hb]
  cases b with
  | false =>
    have HB := Lib.hid hb; clear hb
    go_wp2
    go_ret2
    exact ⟨by rw [cutPre, ← HB.out]; rfl, 0, rfl⟩
  | true =>
    have hle := pre_le hb.symm
    have HB := Lib.hid hb; clear hb
    go_wp2
    go_ret2
    exact ⟨by rw [cutPre, ← HB.out]; rfl, 0, rfl⟩
set_option maxHeartbeats 1000000 in
set_option maxRecDepth 100000 in
theorem CutPrefix_calls (s p : ByteArray) (w : World) : Calls Tryd.prog 23 #[.string s, .string p] w fun e w' => e = .returned (.tuple #[.string (cutPre s p), .bool (Lib.hasPrefix s.data.toList p.data.toList)]) ∧ ∃ q, w' = w.drewN q := by
  go_enter Tryd.func23, Tryd.ntmps23
  go_wp2_with fail
  refine (slCutPrefix_calls s p _).mono ?_
  rintro e w1 ⟨rfl, q, rfl⟩
  go_wp2
  go_ret2
  exact ⟨rfl, _, rfl⟩
set_option maxHeartbeats 1000000 in
set_option maxRecDepth 100000 in
theorem slCutSuffix_calls (s p : ByteArray) (hs : s.size ≤ 9223372036854775807) (w : World) : Calls Tryd.prog 64 #[.string s, .string p] w fun e w' => e = .returned (.tuple #[.string (cutSuf s p), .bool (Lib.hasSuffix s.data.toList p.data.toList)]) ∧ ∃ q, w' = w.drewN q := by
  go_enter Tryd.func64, Tryd.ntmps64
  go_wp2_with fail
  refine (Tryd.stringslite_HasSuffix s p _ hs).mono ?_
  rintro e w1 ⟨rfl, rfl⟩
  obtain ⟨b, hb⟩ : ∃ b, b = Lib.hasSuffix s.data.toList p.data.toList := ⟨_, rfl⟩
  rw [← hb]
  cases b with
  | false =>
    have HB := Lib.hid hb; clear hb
    go_wp2
    go_ret2
    exact ⟨by rw [cutSuf, ← HB.out]; rfl, 0, rfl⟩
  | true =>
    have hle := suf_le hb.symm
    have HB := Lib.hid hb; clear hb
    go_wp2
    go_ret2
    exact ⟨by rw [cutSuf, ← HB.out]; rfl, 0, rfl⟩
set_option maxHeartbeats 1000000 in
set_option maxRecDepth 100000 in
theorem CutSuffix_calls (s p : ByteArray) (hs : s.size ≤ 9223372036854775807) (w : World) : Calls Tryd.prog 52 #[.string s, .string p] w fun e w' => e = .returned (.tuple #[.string (cutSuf s p), .bool (Lib.hasSuffix s.data.toList p.data.toList)]) ∧ ∃ q, w' = w.drewN q := by
  go_enter Tryd.func52, Tryd.ntmps52
  go_wp2_with fail
  refine (slCutSuffix_calls s p hs _).mono ?_
  rintro e w1 ⟨rfl, q, rfl⟩
  go_wp2
  go_ret2
  exact ⟨rfl, _, rfl⟩

def cutA (s : ByteArray) (c : UInt8) : ByteArray := if 0 ≤ Lib.indexByte s.data.toList c then s.extract 0 (Lib.indexByte s.data.toList c).toNat else s
def cutB (s : ByteArray) (c : UInt8) : ByteArray := if 0 ≤ Lib.indexByte s.data.toList c then s.extract ((Lib.indexByte s.data.toList c).toNat + 1) s.size else ⟨#[]⟩
set_option maxHeartbeats 1000000 in
set_option maxRecDepth 100000 in
theorem slCut_calls (s : ByteArray) (c : UInt8) (hs : s.size ≤ 140737488351232) (w : World) : Calls Tryd.prog 39 #[.string s, .string ⟨#[c]⟩] w fun e w' => e = .returned (.tuple #[.string (cutA s c), .string (cutB s c), .bool (decide (0 ≤ Lib.indexByte s.data.toList c))]) ∧ ∃ q, w' = w.drewN q := by
  have hg := Lib.indexByte_ge s.data.toList c
  go_enter Tryd.func39, Tryd.ntmps39
  go_wp2_with fail
  refine (Tryd.stringslite_Index_one s c _).mono ?_
  rintro e w1 ⟨rfl, rfl⟩
  by_cases hno : Lib.indexByte s.data.toList c = -1
  · rw [hno]
    have HN := Lib.hid hno; clear hno hg
    go_wp2
    go_ret3
    exact ⟨by rw [cutA, cutB, HN.out]; rfl, 0, rfl⟩
  · obtain ⟨i, hi⟩ : ∃ i : Nat, Lib.indexByte s.data.toList c = i := ⟨(Lib.indexByte s.data.toList c).toNat, by omega⟩
    have hil : i < s.size := by
      have h := (Lib.indexByte_some hi).1
      have h2 := (List.getElem?_eq_some_iff.1 h).1
      rwa [Array.length_toList] at h2
    rw [hi]
    have HN := Lib.hid hi; clear hi hno hg
    have mixed := Tryd.lays219.mixed
    have c1 : (0 : Int) ≤ ↑i := by omega
    have c2 : (↑i : Int) ≤ ↑s.size := by omega
    have c3 : (0 : Int) ≤ ↑i + 1 := by omega
    have c4 : (↑i + 1 : Int) ≤ ↑s.size := by omega
    go_wp2
    go_region_o
    go_wp2
    go_ret3
    exact ⟨by rw [cutA, cutB, HN.out]; rfl, 1, rfl⟩
set_option maxHeartbeats 1000000 in
set_option maxRecDepth 100000 in
theorem Cut_calls (s : ByteArray) (c : UInt8) (hs : s.size ≤ 140737488351232) (w : World) : Calls Tryd.prog 24 #[.string s, .string ⟨#[c]⟩] w fun e w' => e = .returned (.tuple #[.string (cutA s c), .string (cutB s c), .bool (decide (0 ≤ Lib.indexByte s.data.toList c))]) ∧ ∃ q, w' = w.drewN q := by
  go_enter Tryd.func24, Tryd.ntmps24
  go_wp2_with fail
  refine (slCut_calls s c hs _).mono ?_
  rintro e w1 ⟨rfl, q, rfl⟩
  go_wp2
  go_ret3
  exact ⟨rfl, _, rfl⟩
end Go.Proofs.YtdhilbefeehbaaaDoor

/- label.Sees: what a call of it does, of one pattern. -/
namespace Go.Proofs.YtdhilbefeehbaaaDoor
open Go.RowKit Go.Gw
set_option linter.unusedVariables false
set_option linter.unusedSimpArgs false

theorem toList_inj {a b : ByteArray} (h : a.toList = b.toList) : a = b := by
  rw [Lib.toList_data, Lib.toList_data] at h
  obtain ⟨⟨a⟩⟩ := a
  obtain ⟨⟨b⟩⟩ := b
  simp only at h
  rw [h]
theorem eq_S (a b : ByteArray) : (a.toList == b.toList) = decide (a = b) := by
  rw [Bool.eq_iff_iff, beq_iff_eq, decide_eq_true_eq]
  exact ⟨toList_inj, fun h => by rw [h]⟩
/-- A text is a path. -/
def mayS (s : ByteArray) : Bool := Lb.may s.data.toList
/-- A path is below a directory. -/
def underS (s d : ByteArray) : Bool := mayS s && (d.data.toList == [] || mayS d) && (d.data.toList == [] || Lib.hasPrefix s.data.toList (d ++ ⟨#[47]⟩).data.toList)
theorem toList_nil {d : ByteArray} (h : d.toList = []) : d = ⟨#[]⟩ := by
  rw [Lib.toList_data] at h
  obtain ⟨⟨l⟩⟩ := d
  simp only at h
  rw [h]
set_option maxHeartbeats 1000000 in
set_option maxRecDepth 100000 in
theorem Under_calls (s d : ByteArray) (hs : s.size ≤ 140737488351232) (hd : d.size ≤ 140737488351232) (w : World) : Calls Tryd.prog 19 #[.string s, .string d] w fun e w' => e = .returned (.bool (underS s d)) ∧ Below w.heap.size w w' := by
  go_enter Tryd.func19, Tryd.ntmps19
  go_wp2_with fail
  refine (May_calls s hs _).mono ?_
  rintro e w1 ⟨rfl, hb1⟩
  obtain ⟨b1, h1⟩ : ∃ b, b = Lb.may s.data.toList := ⟨_, rfl⟩
  rw [← h1]
  have H1 := Lib.hid h1; clear h1
  cases b1 with
  | false =>
    go_wp2
    go_ret
    exact ⟨ret_bool (by rw [underS, mayS, ← H1.out]; rfl), hb1⟩
  | true =>
    by_cases hE : d = ⟨#[]⟩
    · subst hE
      go_wp2
      go_ret
      exact ⟨ret_bool (by rw [underS, mayS, ← H1.out]; rfl), hb1⟩
    · have hL : ¬ d.toList = [] := fun h => hE (toList_nil h)
      go_wp2_with fail
      refine (May_calls d hd _).mono ?_
      rintro e w2 ⟨rfl, hb2⟩
      have hb := hb1.trans (hb2.mono hb1.size)
      obtain ⟨b2, h2⟩ : ∃ b, b = Lb.may d.data.toList := ⟨_, rfl⟩
      rw [← h2]
      have hEq : (d.data.toList == []) = false := by rw [beq_eq_false_iff_ne, ← Lib.toList_data]; exact hL
      have H2 := Lib.hid h2; clear h2
      have hI : d.toList.isEmpty = false := by rw [List.isEmpty_eq_false_iff]; exact hL
      have HE := Lib.hid hEq; clear hEq
      cases b2 with
      | false =>
        go_wp2
        go_ret
        exact ⟨ret_bool (by rw [underS, mayS, ← H1.out, HE.out, mayS, ← H2.out]; rfl), hb⟩
      | true =>
        go_wp2_with fail
        refine (Tryd.strings_HasPrefix s _ _).mono ?_
        rintro e w3 ⟨rfl, rfl⟩
        go_wp2
        go_ret
        exact ⟨ret_bool (by rw [underS, mayS, ← H1.out, HE.out, mayS, ← H2.out]; rfl), hb⟩

/-! ### label.meant: what it makes of a pattern -/
/-- What a pattern's function tells of a package. -/
def meantS (p pkg : ByteArray) : Bool :=
  if Lib.hasPrefix p.data.toList [47, 47] then
    let s := cutPre p ⟨#[47, 47]⟩
    if s = ⟨#[46, 46, 46]⟩ then true
    else if Lib.hasSuffix s.data.toList [47, 46, 46, 46] then
      let d := cutSuf s ⟨#[47, 46, 46, 46]⟩
      mayS d && (decide (pkg = d) || underS pkg d)
    else decide (pkg = s)
  else false
/-- A function value that tells of packages what m says, in the worlds that keep what lies in w. -/
def Tells (w : World) (v : Value) (m : ByteArray → Bool) : Prop := ∃ (n : Nat) (lb : Array Value), v = .func (.func n) #[] lb ∧ (∀ args w, (callFunc n args).run Tryd.prog w = .ok (.enter n args) w) ∧
  ∀ (pkg : ByteArray) (W : World), pkg.size ≤ 140737488351232 → Below w.heap.size w W → Calls Tryd.prog n (#[.string pkg] ++ lb) W fun e W' => e = .returned (.bool (m pkg)) ∧ Below W.heap.size W W'
set_option maxHeartbeats 1000000 in
set_option maxRecDepth 100000 in
theorem meant1_calls (pkg : ByteArray) (w : World) : Calls Tryd.prog 50 #[.string pkg] w fun e w' => e = .returned (.bool false) ∧ w' = w := by
  go_enter Tryd.func50, Tryd.ntmps50
  go_wp2
  go_ret
  exact ⟨rfl, rfl⟩
set_option maxHeartbeats 1000000 in
set_option maxRecDepth 100000 in
theorem meant2_calls (pkg : ByteArray) (w : World) : Calls Tryd.prog 51 #[.string pkg] w fun e w' => e = .returned (.bool true) ∧ w' = w := by
  go_enter Tryd.func51, Tryd.ntmps51
  go_wp2
  go_ret
  exact ⟨rfl, rfl⟩
set_option maxHeartbeats 1000000 in
set_option maxRecDepth 100000 in
theorem meant4_calls (pkg s : ByteArray) (b : Nat) (w : World) (hc : w.cell? ⟨b, 0, none⟩ = some (.string s)) : Calls Tryd.prog 54 #[.string pkg, .pointer (some ⟨b, 0, none⟩)] w fun e w' => e = .returned (.bool (decide (pkg = s))) ∧ w' = w := by
  go_enter Tryd.func54, Tryd.ntmps54
  go_wp2
  go_ret
  exact ⟨ret_bool (eq_S _ _), rfl⟩
set_option maxHeartbeats 1000000 in
set_option maxRecDepth 100000 in
theorem meant3_calls (pkg d : ByteArray) (hp : pkg.size ≤ 140737488351232) (hd : d.size ≤ 140737488351232) (b : Nat) (w : World) (hc : w.cell? ⟨b, 0, none⟩ = some (.string d)) : Calls Tryd.prog 53 #[.string pkg, .pointer (some ⟨b, 0, none⟩)] w fun e w' => e = .returned (.bool (mayS d && (decide (pkg = d) || underS pkg d))) ∧ Below w.heap.size w w' := by
  go_enter Tryd.func53, Tryd.ntmps53
  go_wp2_with fail
  refine (May_calls d hd _).mono ?_
  rintro e w1 ⟨rfl, hb1⟩
  obtain ⟨b1, h1⟩ : ∃ b, b = Lb.may d.data.toList := ⟨_, rfl⟩
  rw [← h1]
  have H1 := Lib.hid h1; clear h1
  have hc1 : w1.cell? ⟨b, 0, none⟩ = some (.string d) := (hb1.cell (p := ⟨b, 0, none⟩) (World.block_lt_of_cell? w _ hc)).trans hc
  cases b1 with
  | false =>
    go_wp2
    go_ret
    exact ⟨ret_bool (by rw [mayS, ← H1.out]; rfl), hb1⟩
  | true =>
    by_cases he : pkg = d
    · subst he
      go_wp2
      go_ret
      exact ⟨ret_bool (by have e1 : mayS pkg = true := H1.out.symm; simp [e1]), hb1⟩
    · have hE : (pkg.toList == d.toList) = false := by rw [eq_S, decide_eq_false_iff_not]; exact he
      have HE := Lib.hid he; clear he
      go_wp2_with fail
      refine (Under_calls pkg d hp hd _).mono ?_
      rintro e w2 ⟨rfl, hb2⟩
      go_wp2
      go_ret
      exact ⟨ret_bool (by have e1 : mayS d = true := H1.out.symm; have e2 : decide (pkg = d) = false := decide_eq_false HE.out; simp [e1, e2]), hb1.trans (hb2.mono hb1.size)⟩
theorem cutPre_size (s p : ByteArray) : (cutPre s p).size ≤ s.size := by
  unfold cutPre
  split
  · rw [ByteArray.size_extract]; omega
  · exact Nat.le_refl _
theorem cutSuf_size (s p : ByteArray) : (cutSuf s p).size ≤ s.size := by
  unfold cutSuf
  split
  · rw [ByteArray.size_extract]; omega
  · exact Nat.le_refl _
theorem cell_new (w : World) (v : Value) (t : TypeId) : (w.alloc (.cells #[v] t)).cell? ⟨w.heap.size, 0, none⟩ = some v := cell_blk (t := t) (show (w.heap.push (.cells #[v] t))[w.heap.size]? = _ from Array.getElem?_push_size)
set_option maxHeartbeats 2000000 in
set_option maxRecDepth 100000 in
theorem meant_calls (p : ByteArray) (hp : p.size ≤ 140737488351232) (w : World) : Calls Tryd.prog 34 #[.string p] w fun e w' => ∃ v, e = .returned v ∧ Tells w' v (meantS p) ∧ Below w.heap.size w w' := by
  go_enter Tryd.func34, Tryd.ntmps34
  go_wp2_with fail
  refine (CutPrefix_calls p ⟨#[47, 47]⟩ _).mono ?_
  rintro e w1 ⟨rfl, hq⟩
  have hb1 : Below w.heap.size w w1 := by obtain ⟨q, rfl⟩ := hq; exact below_drewN' (Below.refl _ _) _
  clear hq
  obtain ⟨b1, h1⟩ : ∃ b, b = Lib.hasPrefix p.data.toList [47, 47] := ⟨_, rfl⟩
  rw [show Lib.hasPrefix p.data.toList (⟨#[47, 47]⟩ : ByteArray).data.toList = b1 from h1.symm]
  have hs := cutPre_size p ⟨#[47, 47]⟩
  obtain ⟨s, hS⟩ : ∃ s, s = cutPre p ⟨#[47, 47]⟩ := ⟨_, rfl⟩
  rw [← hS] at hs ⊢
  have H1 := Lib.hid h1; clear h1
  have H2 := Lib.hid hS; clear hS
  have hp2 : p.data.toList = p.data.toList := rfl
  cases b1 with
  | false =>
    go_wp2
    go_ret
    refine ⟨_, rfl, ⟨50, #[], rfl, enters_of Tryd.func50 (by kernel_rfl) rfl, fun pkg W _ hW => (meant1_calls pkg W).mono ?_⟩, hb1.alloc hb1.size _⟩
    rintro e W' ⟨rfl, rfl⟩
    exact ⟨by rw [meantS, ← H1.out]; rfl, Below.refl _ _⟩
  | true =>
    by_cases he : s = ⟨#[46, 46, 46]⟩
    · subst he
      go_wp2
      go_ret
      refine ⟨_, rfl, ⟨51, #[], rfl, enters_of Tryd.func51 (by kernel_rfl) rfl, fun pkg W _ hW => (meant2_calls pkg W).mono ?_⟩, hb1.alloc hb1.size _⟩
      rintro e W' ⟨rfl, rfl⟩
      exact ⟨by rw [meantS, ← H1.out, if_pos rfl, ← H2.out]; rfl, Below.refl _ _⟩
    · have hE : (s.toList == [46, 46, 46]) = false := by
        rw [beq_eq_false_iff_ne]
        exact fun h => he (toList_inj (h.trans (Lib.toList_data ⟨#[46, 46, 46]⟩).symm))
      have HE := Lib.hid he; clear he
      go_wp2_with fail
      refine (CutSuffix_calls s ⟨#[47, 46, 46, 46]⟩ (by omega) _).mono ?_
      rintro e w2 ⟨rfl, hq⟩
      have hb2 : Below (w1.alloc (Obj.cells #[Value.string s] 9)).heap.size (w1.alloc (Obj.cells #[Value.string s] 9)) w2 := by obtain ⟨q, rfl⟩ := hq; exact below_drewN' (Below.refl _ _) _
      clear hq
      obtain ⟨b2, h2⟩ : ∃ b, b = Lib.hasSuffix s.data.toList [47, 46, 46, 46] := ⟨_, rfl⟩
      rw [show Lib.hasSuffix s.data.toList (⟨#[47, 46, 46, 46]⟩ : ByteArray).data.toList = b2 from h2.symm]
      have H3 := Lib.hid h2; clear h2
      cases b2 with
      | false =>
        go_wp2
        go_ret
        have hb3 := (hb2.mono (Nat.le_refl _)).alloc (hb2.size) (Obj.cells #[Value.string (cutSuf s ⟨#[47, 46, 46, 46]⟩)] 9)
        have hc := cell_new w1 (.string s) 9
        refine ⟨_, rfl, ⟨54, _, rfl, enters_of Tryd.func54 (by kernel_rfl) rfl, fun pkg W _ hW => (meant4_calls pkg s w1.heap.size W ?_).mono ?_⟩, ?_⟩
        · have h3 := (hb3.cell (p := ⟨w1.heap.size, 0, none⟩) (World.block_lt_of_cell? _ _ hc)).trans hc
          exact (hW.cell (p := ⟨w1.heap.size, 0, none⟩) (World.block_lt_of_cell? _ _ h3)).trans h3
        · rintro e W' ⟨rfl, rfl⟩
          exact ⟨by rw [meantS, ← H1.out, if_pos rfl]; simp only [← H2.out]; rw [if_neg HE.out, ← H3.out]; rfl, Below.refl _ _⟩
        · exact (hb1.alloc hb1.size _).trans (hb3.mono (Nat.le_trans hb1.size (by simp)))
      | true =>
        go_wp2
        go_ret
        have hd := cutSuf_size s ⟨#[47, 46, 46, 46]⟩
        have hb3 := (hb2.mono (Nat.le_refl _)).alloc (hb2.size) (Obj.cells #[Value.string (cutSuf s ⟨#[47, 46, 46, 46]⟩)] 9)
        have hc := cell_new w2 (.string (cutSuf s ⟨#[47, 46, 46, 46]⟩)) 9
        refine ⟨_, rfl, ⟨53, _, rfl, enters_of Tryd.func53 (by kernel_rfl) rfl, fun pkg W hpk hW => (meant3_calls pkg _ hpk (Nat.le_trans hd (Nat.le_trans hs hp)) w2.heap.size W ?_).mono ?_⟩, ?_⟩
        · exact (hW.cell (p := ⟨w2.heap.size, 0, none⟩) (World.block_lt_of_cell? _ _ hc)).trans hc
        · rintro e W' ⟨rfl, hb⟩
          exact ⟨by rw [meantS, ← H1.out, if_pos rfl]; simp only [← H2.out]; rw [if_neg HE.out, ← H3.out]; rfl, hb⟩
        · exact (hb1.alloc hb1.size _).trans (hb3.mono (Nat.le_trans hb1.size (by simp)))
end Go.Proofs.YtdhilbefeehbaaaDoor

/- label.Sees: what a call of it does, of one pattern. -/
namespace Go.Proofs.YtdhilbefeehbaaaDoor
open Go.RowKit Go.Gw
set_option linter.unusedVariables false
set_option linter.unusedSimpArgs false

set_option maxHeartbeats 2000000 in
set_option maxRecDepth 100000 in
theorem sees1_calls (p pkg : ByteArray) (hp : p.size ≤ 140737488351232) (hk : pkg.size ≤ 140737488351232) (b : Nat) (w : World) (hc : w.cell? ⟨b, 0, none⟩ = some (.string pkg)) : Calls Tryd.prog 33 #[.string p, .pointer (some ⟨b, 0, none⟩)] w fun e w' => e = .returned (.bool (meantS p pkg)) ∧ Below w.heap.size w w' := by
  have hc' : w.drew.cell? ⟨b, 0, none⟩ = some (.string pkg) := hc
  have hM : ∀ W, (W = w ∨ W = w.drew) → Calls Tryd.prog 34 #[.string p] W fun e w' => ∃ n lb, e = .returned (.func (.func n) #[] lb) ∧ (∀ args w, (callFunc n args).run Tryd.prog w = .ok (.enter n args) w) ∧ w'.cell? ⟨b, 0, none⟩ = some (.string pkg) ∧ Below w.heap.size w w' ∧
      Calls Tryd.prog n (#[.string pkg] ++ lb) w' fun e W' => e = .returned (.bool (meantS p pkg)) ∧ Below w.heap.size w W' := by
    intro W hW
    have hcW : W.cell? ⟨b, 0, none⟩ = some (.string pkg) := by rcases hW with rfl | rfl <;> exact hc
    have hbW : Below w.heap.size w W := by rcases hW with rfl | rfl; exact Below.refl _ _; exact (Below.refl _ _).drew
    refine (meant_calls p hp W).mono ?_
    rintro e w1 ⟨v, rfl, ⟨n, lb, rfl, hen, hT⟩, hb⟩
    have hb2 := hbW.trans (hb.mono hbW.size)
    refine ⟨n, lb, rfl, hen, (hb.cell (p := ⟨b, 0, none⟩) (World.block_lt_of_cell? _ _ hcW)).trans hcW, hb2, ?_⟩
    refine (hT pkg w1 hk (Below.refl _ _)).mono ?_
    rintro e w2 ⟨rfl, hb3⟩
    exact ⟨rfl, hb2.trans (hb3.mono hb2.size)⟩
  go_enter Tryd.func33, Tryd.ntmps33
  go_wp2
  go_region_with (first | (refine (hM _ (by first | exact .inl rfl | exact .inr rfl)).mono ?_; rintro e w1 ⟨n, lb, rfl, hen, hc1, hb1, hT⟩) | (refine hT.mono ?_; rintro e w2 ⟨rfl, hb2⟩))
  all_goals (go_wp2; go_ret; exact ⟨rfl, hb2⟩)
/-- A number of a place, or -1. -/
def hitI (b : Bool) : Int := if b then 0 else -1
set_option maxHeartbeats 2000000 in
set_option maxRecDepth 100000 in
theorem index1_calls (p pkg : ByteArray) (hp : p.size ≤ 140737488351232) (hk : pkg.size ≤ 140737488351232) (ad : Addr) (c b : Nat) (w : World) (h0 : w.cell? ad = some (.string p)) (hc : w.cell? ⟨b, 0, none⟩ = some (.string pkg)) :
    Calls Tryd.prog 49 #[.slice (some ad) 1 c, .func (.func 33) #[] #[.pointer (some ⟨b, 0, none⟩)]] w fun e w' => e = .returned (.int .i64 (hitI (meantS p pkg))) ∧ Below w.heap.size w w' := by
  have hE := enters_of Tryd.func33 (by kernel_rfl) rfl
  go_enter Tryd.func49, Tryd.ntmps49
  go_wp2
  go_loopw [5, 8] (fun _ iv wr => ∃ k : Nat, k ≤ 1 ∧ iv = .int .i64 k ∧ Aside1 (k = 1 → meantS p pkg = false) ∧ Aside1 (Below w.heap.size w wr)) (fun _ i _ => 1 - (intOf i).toNat)
  case atStart => exact ⟨0, by omega, rfl, ⟨by omega⟩, ⟨Below.refl _ _⟩⟩
  case round =>
    obtain ⟨k, hk1, rfl, HM, HB⟩ := hrel
    by_cases hlt : k < 1
    · obtain rfl : k = 0 := by omega
      have h0' : wr.cell? ad = some (.string p) := (HB.out.cell (World.block_lt_of_cell? _ _ h0)).trans h0
      have hc' : wr.cell? ⟨b, 0, none⟩ = some (.string pkg) := (HB.out.cell (p := ⟨b, 0, none⟩) (World.block_lt_of_cell? _ _ hc)).trans hc
      go_wp2_with fail
      refine (sees1_calls p pkg hp hk b _ hc').mono ?_
      rintro e w1 ⟨rfl, hb⟩
      have hb1 := HB.out.trans (hb.mono HB.out.size)
      obtain ⟨r, hr⟩ : ∃ r, r = meantS p pkg := ⟨_, rfl⟩
      rw [← hr]
      have HR := Lib.hid hr; clear hr
      cases r with
      | true =>
        go_wp2
        go_ret
        exact ⟨by rw [← HR.out]; rfl, hb1⟩
      | false =>
        go_wp2
        go_roundw
        case rel => exact ⟨1, by omega, rfl, ⟨fun _ => HR.out.symm⟩, ⟨hb1⟩⟩
        case measure => exact Nat.lt_of_sub_eq_succ rfl
    · obtain rfl : k = 1 := by omega
      have hM := HM.out rfl
      have HR := Lib.hid hM; clear hM
      go_wp2
      go_ret
      exact ⟨by rw [HR.out]; rfl, HB.out⟩
set_option maxHeartbeats 2000000 in
set_option maxRecDepth 100000 in
theorem contains1_calls (p pkg : ByteArray) (hp : p.size ≤ 140737488351232) (hk : pkg.size ≤ 140737488351232) (ad : Addr) (c b : Nat) (w : World) (h0 : w.cell? ad = some (.string p)) (hc : w.cell? ⟨b, 0, none⟩ = some (.string pkg)) :
    Calls Tryd.prog 32 #[.slice (some ad) 1 c, .func (.func 33) #[] #[.pointer (some ⟨b, 0, none⟩)]] w fun e w' => e = .returned (.bool (meantS p pkg)) ∧ Below w.heap.size w w' := by
  go_enter Tryd.func32, Tryd.ntmps32
  go_wp2_with fail
  refine (index1_calls p pkg hp hk ad c b _ h0 hc).mono ?_
  rintro e w1 ⟨rfl, hb⟩
  obtain ⟨r, hr⟩ : ∃ r, r = meantS p pkg := ⟨_, rfl⟩
  rw [← hr]
  have HR := Lib.hid hr; clear hr
  cases r with
  | true =>
    rw [show hitI true = 0 from rfl]
    go_wp2
    go_ret
    exact ⟨by rw [← HR.out]; rfl, hb⟩
  | false =>
    rw [show hitI false = -1 from rfl]
    go_wp2
    go_ret
    exact ⟨by rw [← HR.out]; rfl, hb⟩
/-- A text is a package. -/
def pkgS (s : ByteArray) : Bool := s.data.toList == [] || mayS s
set_option maxHeartbeats 1000000 in
set_option maxRecDepth 100000 in
theorem isPkg_calls (s : ByteArray) (hs : s.size ≤ 140737488351232) (w : World) : Calls Tryd.prog 25 #[.string s] w fun e w' => e = .returned (.bool (pkgS s)) ∧ Below w.heap.size w w' := by
  by_cases hE : s = ⟨#[]⟩
  · subst hE
    go_enter Tryd.func25, Tryd.ntmps25
    go_wp2
    go_ret
    exact ⟨ret_bool rfl, Below.refl _ _⟩
  · have hL : ¬ s.toList = [] := fun h => hE (toList_nil h)
    have hI : s.toList.isEmpty = false := by rw [List.isEmpty_eq_false_iff]; exact hL
    have hEq : (s.data.toList == []) = false := by rw [beq_eq_false_iff_ne, ← Lib.toList_data]; exact hL
    have HE := Lib.hid hEq; clear hEq hE
    go_enter Tryd.func25, Tryd.ntmps25
    go_wp2_with fail
    refine (May_calls s hs _).mono ?_
    rintro e w1 ⟨rfl, hb1⟩
    go_wp2
    go_ret
    exact ⟨ret_bool (by rw [pkgS, HE.out]; rfl), hb1⟩
set_option maxHeartbeats 2000000 in
set_option maxRecDepth 100000 in
theorem Sees1_calls (p pkg : ByteArray) (hp : p.size ≤ 140737488351232) (hk : pkg.size ≤ 140737488351232) (ad : Addr) (c : Nat) (w : World) (h0 : w.cell? ad = some (.string p)) :
    Calls Tryd.prog 18 #[.slice (some ad) 1 c, .string pkg] w fun e w' => e = .returned (.bool (pkgS pkg && meantS p pkg)) ∧ Below w.heap.size w w' := by
  go_enter Tryd.func18, Tryd.ntmps18
  go_wp2_with fail
  have hc := cell_new w (.string pkg) 9
  refine (isPkg_calls pkg hk _).mono ?_
  rintro e w1 ⟨rfl, hb⟩
  have hb1 := ((Below.refl w.heap.size w).alloc (Nat.le_refl _) (Obj.cells #[Value.string pkg] 9)).trans (hb.mono (by simp))
  have h1 : w1.cell? ad = some (.string p) := (hb1.cell (World.block_lt_of_cell? _ _ h0)).trans h0
  have hc1 : w1.cell? ⟨w.heap.size, 0, none⟩ = some (.string pkg) := (hb.cell (p := ⟨w.heap.size, 0, none⟩) (World.block_lt_of_cell? _ _ hc)).trans hc
  obtain ⟨r, hr⟩ : ∃ r, r = pkgS pkg := ⟨_, rfl⟩
  rw [← hr]
  have HR := Lib.hid hr; clear hr
  cases r with
  | false =>
    go_wp2
    go_ret
    exact ⟨ret_bool (by rw [← HR.out]; rfl), hb1⟩
  | true =>
    go_wp2_with fail
    refine (contains1_calls p pkg hp hk ad c _ _ h1 hc1).mono ?_
    rintro e w2 ⟨rfl, hb2⟩
    go_wp2
    go_ret
    exact ⟨ret_bool (by rw [← HR.out]; rfl), hb1.trans (hb2.mono hb1.size)⟩
end Go.Proofs.YtdhilbefeehbaaaDoor

/- label's and path's functions that the print does not take, in the print's form: each a Lean function with its contract. -/
namespace Go.Proofs.YtdhilbefeehbaaaDoor.G
open Go.RowKit Go.Gw Go.Proofs.YtdhilbefeehbaaaDoorW.PrintWords
set_option linter.unusedVariables false
set_option linter.unusedSimpArgs false

/-- What is asked of the world: nothing. -/
structure Gl (w : World) : Prop where
  on : True
theorem Gl.below {w w' : World} (h : Gl w) (hb : Below w.heap.size w w') : Gl w' := ⟨h.on⟩

def path_May.f (a0 : ByteArray) : Option Bool := if a0.size ≤ 140737488351232 then some (mayS a0) else none
theorem path_May.calls (a0 : ByteArray) (r : Bool) (w : World) (h : path_May.f a0 = some r) :
    Calls Tryd.prog 14 #[.string a0] w fun e w' => e = .returned (.bool r) ∧ Below w.heap.size w w' := by
  unfold path_May.f at h
  split at h
  · rename_i hs
    cases h
    exact May_calls a0 hs w
  · cases h
def path_Under.f (a0 a1 : ByteArray) : Option Bool := if a0.size ≤ 140737488351232 ∧ a1.size ≤ 140737488351232 then some (underS a0 a1) else none
theorem path_Under.calls (a0 a1 : ByteArray) (r : Bool) (w : World) (h : path_Under.f a0 a1 = some r) :
    Calls Tryd.prog 19 #[.string a0, .string a1] w fun e w' => e = .returned (.bool r) ∧ Below w.heap.size w w' := by
  unfold path_Under.f at h
  split at h
  · rename_i hs
    cases h
    exact Under_calls a0 a1 hs.1 hs.2 w
  · cases h
def strings_CutPrefix.f (a0 a1 : ByteArray) : Option (ByteArray × Bool) := some (cutPre a0 a1, Lib.hasPrefix a0.data.toList a1.data.toList)
theorem strings_CutPrefix.calls (a0 a1 : ByteArray) (r1 : ByteArray) (r2 : Bool) (w : World) (h : strings_CutPrefix.f a0 a1 = some (r1, r2)) :
    Calls Tryd.prog 23 #[.string a0, .string a1] w fun e w' => e = .returned (.tuple #[.string r1, .bool r2]) ∧ Drawn0 w w' := by
  cases h
  refine (CutPrefix_calls a0 a1 w).mono ?_
  rintro e w' ⟨rfl, q, rfl⟩
  exact ⟨rfl, ⟨⟨q, rfl⟩⟩⟩
def strings_Cut.f (a0 a1 : ByteArray) : Option (ByteArray × ByteArray × Bool) := if a0.size ≤ 140737488351232 ∧ a1 = ⟨#[58]⟩ then some (cutA a0 58, cutB a0 58, decide (0 ≤ Lib.indexByte a0.data.toList 58)) else none
theorem strings_Cut.calls (a0 a1 : ByteArray) (r1 r2 : ByteArray) (r3 : Bool) (w : World) (h : strings_Cut.f a0 a1 = some (r1, r2, r3)) :
    Calls Tryd.prog 24 #[.string a0, .string a1] w fun e w' => e = .returned (.tuple #[.string r1, .string r2, .bool r3]) ∧ Drawn0 w w' := by
  unfold strings_Cut.f at h
  split at h
  · rename_i hs
    obtain ⟨hs, rfl⟩ := hs
    cases h
    refine (Cut_calls a0 58 hs w).mono ?_
    rintro e w' ⟨rfl, q, rfl⟩
    exact ⟨rfl, ⟨⟨q, rfl⟩⟩⟩
  · cases h
def strings_Contains.f (a0 a1 : ByteArray) : Option Bool := if a1 = ⟨#[47]⟩ then some (decide (0 ≤ Lib.indexByte a0.data.toList 47)) else none
theorem strings_Contains.calls (a0 a1 : ByteArray) (r : Bool) (w : World) (h : strings_Contains.f a0 a1 = some r) :
    Calls Tryd.prog 57 #[.string a0, .string a1] w fun e w' => e = .returned (.bool r) ∧ Drawn0 w w' := by
  unfold strings_Contains.f at h
  split at h
  · rename_i hs
    subst hs
    cases h
    refine (Tryd.strings_Contains_one a0 47 w).mono ?_
    rintro e w' ⟨rfl, rfl⟩
    exact ⟨rfl, Drawn0.refl _⟩
  · cases h
def strings_HasPrefix.f (a0 a1 : ByteArray) : Option Bool := some (Lib.hasPrefix a0.data.toList a1.data.toList)
theorem strings_HasPrefix.calls (a0 a1 : ByteArray) (r : Bool) (w : World) (h : strings_HasPrefix.f a0 a1 = some r) :
    Calls Tryd.prog 22 #[.string a0, .string a1] w fun e w' => e = .returned (.bool r) ∧ Drawn0 w w' := by
  cases h
  refine (Tryd.strings_HasPrefix a0 a1 w).mono ?_
  rintro e w' ⟨rfl, rfl⟩
  exact ⟨rfl, Drawn0.refl _⟩
def label_Sees.f (l0 : List ByteArray) (a1 : ByteArray) : Option Bool := match l0 with
  | [p] => if p.size ≤ 140737488351232 ∧ a1.size ≤ 140737488351232 then some (pkgS a1 && meantS p a1) else none
  | _ => none
theorem label_Sees.calls (A0 : Option Addr) (c0 : Nat) (l0 : List ByteArray) (a1 : ByteArray) (r : Bool) (w : World) (hr0 : Kd.C Kd.string w A0 l0.length l0) (hc0 : l0.length ≤ c0) (h : label_Sees.f l0 a1 = some r) :
    Calls Tryd.prog 18 #[.slice A0 l0.length c0, .string a1] w fun e w' => e = .returned (.bool r) ∧ Below w.heap.size w w' := by
  unfold label_Sees.f at h
  split at h
  · rename_i p
    split at h
    · rename_i hs
      cases h
      obtain ⟨ad, rfl, hc⟩ := Kd.at_string hr0 0 (Int.le_refl _) (by simp)
      have hc2 : w.cell? ad = some (.string p) := hc
      exact Sees1_calls p a1 hs.1 hs.2 ad c0 w hc2
    · cases h
  · cases h
set_option maxHeartbeats 1000000 in
set_option maxRecDepth 100000 in
theorem isNaN_string (s : ByteArray) (w : World) : Calls Tryd.prog 55 #[.string s] w fun e w' => e = .returned (.bool false) ∧ w' = w := by
  go_enter Tryd.func55, Tryd.ntmps55
  go_wp2
  go_ret
  exact ⟨ret_bool (by simp), rfl⟩
def compareI (a0 a1 : ByteArray) : Int := if Op.bytesLess a0.toList a1.toList = true then -1 else if a0 = a1 then 0 else 1
def cmp_Compare_string.f (a0 a1 : ByteArray) : Option Int := some (compareI a0 a1)
set_option maxHeartbeats 1000000 in
set_option maxRecDepth 100000 in
theorem cmp_Compare_string.calls (a0 a1 : ByteArray) (r : Int) (w : World) (h : cmp_Compare_string.f a0 a1 = some r) :
    Calls Tryd.prog 36 #[.string a0, .string a1] w fun e w' => e = .returned (.int .i64 r) ∧ Drawn0 w w' := by
  cases h
  go_enter Tryd.func36, Tryd.ntmps36
  go_wp2_with fail
  refine (isNaN_string a0 _).mono ?_
  rintro e w1 ⟨rfl, rfl⟩
  go_wp2_with fail
  refine (isNaN_string a1 _).mono ?_
  rintro e w2 ⟨rfl, rfl⟩
  by_cases h1 : Op.bytesLess a0.toList a1.toList = true
  · have HI := Lib.hid (show compareI a0 a1 = -1 from if_pos h1)
    go_wp2
    go_ret
    exact ⟨by rw [HI.out]; rfl, Drawn0.refl _⟩
  · have h1' : Op.bytesLess a0.toList a1.toList = false := by simpa using h1
    by_cases h2 : a0 = a1
    · subst h2
      have HI := Lib.hid (show compareI a0 a0 = 0 by rw [compareI, if_neg h1, if_pos rfl])
      go_wp2
      go_ret
      exact ⟨by rw [HI.out]; rfl, Drawn0.refl _⟩
    · have HI := Lib.hid (show compareI a0 a1 = 1 by rw [compareI, if_neg h1, if_neg h2])
      have h2' : (a0.toList == a1.toList) = false := by rw [eq_S, decide_eq_false_iff_not]; exact h2
      clear h1 h2
      go_wp2
      go_ret
      exact ⟨by rw [HI.out]; rfl, Drawn0.refl _⟩
end Go.Proofs.YtdhilbefeehbaaaDoor.G

/- Go functions as Lean functions, each with its contract: written by a program of mine over the kit's print. Conditions: each contract's own. -/
namespace Go.Proofs.YtdhilbefeehbaaaDoor.G
open Go.RowKit Go.Proofs.YtdhilbefeehbaaaDoorW.PrintWords Go.Proofs.YtdhilbefeehbaaaDoorW.PrintLast Go.Proofs.YtdhilbefeehbaaaDoorW.PrintMore
attribute [local go_sem] max2_int min2_int max_two min_two max_three min_three max_four min_four   -- for this text's walks alone
set_option linter.unusedVariables false
set_option linter.unusedSimpArgs false



def errW : Option Int → Value
 | none => .nilIface
 | some c => .iface 0 (.int .i64 c)
theorem errW_none : errW none = .nilIface := rfl
theorem errW_some (c : Int) : errW (some c) = .iface 0 (.int .i64 c) := rfl

theorem info3 : (Tryd.prog.info? 3).map (fun i => (i.zero, i.size, i.bytes)) = some (some (.int .i64 0), 1, 8) := by kernel_rfl
theorem info9 : (Tryd.prog.info? 9).map (fun i => (i.zero, i.size, i.bytes)) = some (some (.string ⟨#[]⟩), 1, 16) := by kernel_rfl
-- the values' own types

end Go.Proofs.YtdhilbefeehbaaaDoor.G

/- Go functions as Lean functions, each with its contract: written by a program of mine over the kit's print. Conditions: each contract's own. -/
namespace Go.Proofs.YtdhilbefeehbaaaDoor.G
open Go.RowKit Go.Proofs.YtdhilbefeehbaaaDoorW.PrintWords Go.Proofs.YtdhilbefeehbaaaDoorW.PrintLast Go.Proofs.YtdhilbefeehbaaaDoorW.PrintMore
attribute [local go_sem] max2_int min2_int max_two min_two max_three min_three max_four min_four   -- for this text's walks alone
set_option linter.unusedVariables false
set_option linter.unusedSimpArgs false

/-! ### label_isPkg: function 25 -/
def label_isPkg.f (a0 : ByteArray) : Option (Bool) := if a0.toList = ([] : List UInt8) then (some true) else ((path_May.f a0).bind fun t101 => (some t101))
set_option maxHeartbeats 8000000 in
set_option maxRecDepth 100000 in
theorem label_isPkg.calls (a0 : ByteArray) (r : Bool) (w : World) (h : label_isPkg.f a0 = some r) :
  Calls Tryd.prog 25 #[.string a0] w fun e w' => e = .returned (.bool r) ∧ Below w.heap.size w w' := by
 have HB := Aside0.mk (Below.refl w.heap.size w)
 have H : (if a0.toList = ([] : List UInt8) then (some true) else ((path_May.f a0).bind fun t101 => (some t101))) = some r := h
 clear h
 by_cases c2 : a0.toList = ([] : List UInt8)
 ·rw [if_pos c2] at H
  have c2b0 : (a0.toList == ([] : List UInt8)) = true := beq_iff_eq.mpr c2
  have c2b1 : (a0.toList != ([] : List UInt8)) = false := bne_eq_false_iff_eq.mpr c2
  clear c2
  obtain rfl := Option.some.inj H
  go_enter Tryd.func25, Tryd.ntmps25
  go_wp2
  go_ret
  exact ⟨by first | rfl | (simp [errW_none, errW_some] <;> rfl) | (simp [*, errW_none, errW_some] <;> rfl), by repeat (first | (with_reducible first | exact HB.out | apply below_alloc | apply pw_below_drewN | apply below_drew1) | exact HB.out)⟩
 ·rw [if_neg c2] at H
  have c2b0 : (a0.toList == ([] : List UInt8)) = false := beq_eq_false_iff_ne.mpr c2
  have c2b1 : (a0.toList != ([] : List UInt8)) = true := bne_iff_ne.mpr c2
  replace H := Option.bind_eq_some_iff.mp H
  obtain ⟨t101, A30, H⟩ := H
  replace H : (some t101) = some r := H
  have A3 := Aside0.mk A30
  clear A30
  obtain rfl := Option.some.inj H
  go_enter Tryd.func25, Tryd.ntmps25
  go_wp2_with (first | (go_at_call 14; (with_reducible refine (path_May.calls a0 t101 _ A3.out).mono ?_); rintro e w4 ⟨rfl, hb⟩; have n0_ := Aside0.mk (below_step (by repeat (first | (with_reducible first | exact HB.out | apply below_alloc | apply pw_below_drewN | apply below_drew1) | exact HB.out)) hb); clear HB; have HB := n0_; clear n0_; (try clear hb); (try clear hb2); (try clear hk); (try clear hi)))
  go_ret
  exact ⟨by first | rfl | (simp [errW_none, errW_some] <;> rfl) | (simp [*, errW_none, errW_some] <;> rfl), by repeat (first | (with_reducible first | exact HB.out | apply below_alloc | apply pw_below_drewN | apply below_drew1) | exact HB.out)⟩

end Go.Proofs.YtdhilbefeehbaaaDoor.G

/- Go functions as Lean functions, each with its contract: written by a program of mine over the kit's print. Conditions: each contract's own. -/
namespace Go.Proofs.YtdhilbefeehbaaaDoor.G
open Go.RowKit Go.Proofs.YtdhilbefeehbaaaDoorW.PrintWords Go.Proofs.YtdhilbefeehbaaaDoorW.PrintLast Go.Proofs.YtdhilbefeehbaaaDoorW.PrintMore
attribute [local go_sem] max2_int min2_int max_two min_two max_three min_three max_four min_four   -- for this text's walks alone
set_option linter.unusedVariables false
set_option linter.unusedSimpArgs false

/-! ### label_isName: function 40 -/
def label_isName.f (a0 : ByteArray) : Option (Bool) := (path_May.f a0).bind fun t102 => (if t102 = true then ((strings_Contains.f a0 (⟨#[47]⟩ : ByteArray)).bind fun t103 => (some (!t103))) else (some false))
set_option maxHeartbeats 8000000 in
set_option maxRecDepth 100000 in
theorem label_isName.calls (a0 : ByteArray) (r : Bool) (w : World) (h : label_isName.f a0 = some r) :
  Calls Tryd.prog 40 #[.string a0] w fun e w' => e = .returned (.bool r) ∧ Below w.heap.size w w' := by
 have HB := Aside0.mk (Below.refl w.heap.size w)
 have H : ((path_May.f a0).bind fun t102 => (if t102 = true then ((strings_Contains.f a0 (⟨#[47]⟩ : ByteArray)).bind fun t103 => (some (!t103))) else (some false))) = some r := h
 clear h
 replace H := Option.bind_eq_some_iff.mp H
 obtain ⟨t102, A20, H⟩ := H
 replace H : (if t102 = true then ((strings_Contains.f a0 (⟨#[47]⟩ : ByteArray)).bind fun t103 => (some (!t103))) else (some false)) = some r := H
 have A2 := Aside0.mk A20
 clear A20
 by_cases c3 : t102 = true
 ·subst c3
  have H1 : ((strings_Contains.f a0 (⟨#[47]⟩ : ByteArray)).bind fun t103 => (some (!t103))) = some r := by rw [if_pos rfl] at H; exact H
  clear H
  have H := H1
  clear H1
  replace H := Option.bind_eq_some_iff.mp H
  obtain ⟨t103, A40, H⟩ := H
  replace H : (some (!t103)) = some r := H
  have A4 := Aside0.mk A40
  clear A40
  obtain rfl := Option.some.inj H
  go_enter Tryd.func40, Tryd.ntmps40
  go_wp2_with (first | ((with_reducible refine gate_callee (f := 14) rfl ?_); refine goesL_ (some 4) rfl rfl Tryd.func14 (by kernel_rfl) rfl #[.string a0] rfl (by (try simp only [List.map_toArray, List.map_cons, List.map_nil]); first | done | rfl | (simp only [List.length_drop, List.length_take]; rfl)) ?_; (with_reducible refine (path_May.calls a0 true _ A2.out).mono ?_); rintro e w5 ⟨rfl, hb⟩; refine ⟨_, rfl, ?_⟩; have n0_ := Aside0.mk (below_step (by repeat (first | (with_reducible first | exact HB.out | apply below_alloc | apply pw_below_drewN | apply below_drew1) | exact HB.out)) hb); clear HB; have HB := n0_; clear n0_; (try clear hb); (try clear hb2); (try clear hk); (try clear hi)) | (go_at_call 57; (with_reducible refine (strings_Contains.calls a0 (⟨#[47]⟩ : ByteArray) t103 _ A4.out).mono ?_); rintro e w' ⟨rfl, ⟨nd, rfl⟩⟩))
  go_ret
  exact ⟨by first | rfl | (simp [errW_none, errW_some] <;> rfl) | (simp [*, errW_none, errW_some] <;> rfl), by repeat (first | (with_reducible first | exact HB.out | apply below_alloc | apply pw_below_drewN | apply below_drew1) | exact HB.out)⟩
 ·replace c3 := Bool.eq_false_iff.mpr c3
  subst c3
  have H1 : (some false) = some r := by rw [if_neg (show ¬ (false = true) by decide)] at H; exact H
  clear H
  have H := H1
  clear H1
  obtain rfl := Option.some.inj H
  go_enter Tryd.func40, Tryd.ntmps40
  go_wp2_with (first | ((with_reducible refine gate_callee (f := 14) rfl ?_); refine goesL_ (some 4) rfl rfl Tryd.func14 (by kernel_rfl) rfl #[.string a0] rfl (by (try simp only [List.map_toArray, List.map_cons, List.map_nil]); first | done | rfl | (simp only [List.length_drop, List.length_take]; rfl)) ?_; (with_reducible refine (path_May.calls a0 false _ A2.out).mono ?_); rintro e w6 ⟨rfl, hb⟩; refine ⟨_, rfl, ?_⟩; have n0_ := Aside0.mk (below_step (by repeat (first | (with_reducible first | exact HB.out | apply below_alloc | apply pw_below_drewN | apply below_drew1) | exact HB.out)) hb); clear HB; have HB := n0_; clear n0_; (try clear hb); (try clear hb2); (try clear hk); (try clear hi)))
  go_ret
  exact ⟨by first | rfl | (simp [errW_none, errW_some] <;> rfl) | (simp [*, errW_none, errW_some] <;> rfl), by repeat (first | (with_reducible first | exact HB.out | apply below_alloc | apply pw_below_drewN | apply below_drew1) | exact HB.out)⟩

end Go.Proofs.YtdhilbefeehbaaaDoor.G

/- Go functions as Lean functions, each with its contract: written by a program of mine over the kit's print. Conditions: each contract's own. -/
namespace Go.Proofs.YtdhilbefeehbaaaDoor.G
open Go.RowKit Go.Proofs.YtdhilbefeehbaaaDoorW.PrintWords Go.Proofs.YtdhilbefeehbaaaDoorW.PrintLast Go.Proofs.YtdhilbefeehbaaaDoorW.PrintMore
attribute [local go_sem] max2_int min2_int max_two min_two max_three min_three max_four min_four   -- for this text's walks alone
set_option linter.unusedVariables false
set_option linter.unusedSimpArgs false

/-! ### label_may: function 26 -/
def label_may.f (a0_0 : ByteArray) (a0_1 : ByteArray) : Option (Bool) := (label_isPkg.f a0_0).bind fun t105 => (if t105 = true then ((label_isName.f a0_1).bind fun t106 => (some t106)) else (some false))
set_option maxHeartbeats 8000000 in
set_option maxRecDepth 100000 in
theorem label_may.calls (a0_0 : ByteArray) (a0_1 : ByteArray) (r : Bool) (w : World) (h : label_may.f a0_0 a0_1 = some r) :
  Calls Tryd.prog 26 #[.agg #[.string a0_0, .string a0_1]] w fun e w' => e = .returned (.bool r) ∧ Below w.heap.size w w' := by
 have hu24 := Tryd.underlying24
 have HB := Aside0.mk (Below.refl w.heap.size w)
 have H : ((label_isPkg.f a0_0).bind fun t105 => (if t105 = true then ((label_isName.f a0_1).bind fun t106 => (some t106)) else (some false))) = some r := h
 clear h
 replace H := Option.bind_eq_some_iff.mp H
 obtain ⟨t105, A20, H⟩ := H
 replace H : (if t105 = true then ((label_isName.f a0_1).bind fun t106 => (some t106)) else (some false)) = some r := H
 have A2 := Aside0.mk A20
 clear A20
 by_cases c3 : t105 = true
 ·subst c3
  have H1 : ((label_isName.f a0_1).bind fun t106 => (some t106)) = some r := by rw [if_pos rfl] at H; exact H
  clear H
  have H := H1
  clear H1
  replace H := Option.bind_eq_some_iff.mp H
  obtain ⟨t106, A40, H⟩ := H
  replace H : (some t106) = some r := H
  have A4 := Aside0.mk A40
  clear A40
  obtain rfl := Option.some.inj H
  go_enter Tryd.func26, Tryd.ntmps26
  go_wp2_with (first | ((with_reducible refine gate_dst (N := 1) rfl ?_); refine box_event ?hg (N := 1) ?hd (cs := #[.string a0_0, .string a0_1]) (t := 24) ?hr ?_; (case hd => rfl); (case hg => rfl); (case hr => first | (go_simp; done) | (go_simp; rfl)); intro gb104 hg w5 hbox hb; have n0_ := Aside0.mk (below_step (by repeat (first | (with_reducible first | exact HB.out | apply below_alloc | apply pw_below_drewN | apply below_drew1) | exact HB.out)) hb); have n1_ := Aside0.mk (hbox); have n2_ := Aside0.mk ((by rw [hg]; exact (below_size (by repeat (first | (with_reducible first | exact HB.out | apply below_alloc | apply pw_below_drewN | apply below_drew1) | exact HB.out))) : w.heap.size ≤ gb104)); have n3_ := Aside0.mk ((by rw [hg]; exact (below_size (by repeat (first | (with_reducible first | exact HB.out | apply below_alloc | apply pw_below_drewN | apply below_drew1) | exact HB.out))) : w.heap.size ≤ gb104)); clear HB; have HB := n0_; have BK104 := n1_; have GW104 := n2_; have GE104 := n3_; clear n0_ n1_ n2_ n3_; clear hb hbox hg; have hcz6_0 : w5.cell? ⟨gb104, 0, none⟩ = some (.string a0_0) := (blk_cell BK104.out 0).trans rfl; have hcz6_1 : w5.cell? ⟨gb104, 1, none⟩ = some (.string a0_1) := (blk_cell BK104.out 1).trans rfl; have hfz6_0 := blk_frozen BK104.out 0; have hfz6_1 := blk_frozen BK104.out 1) | ((with_reducible refine gate_callee (f := 25) rfl ?_); refine goesL_ (some 5) rfl rfl Tryd.func25 (by kernel_rfl) rfl #[.string a0_0] rfl (by (try simp only [List.map_toArray, List.map_cons, List.map_nil]); first | done | rfl | (simp only [List.length_drop, List.length_take]; rfl)) ?_; (with_reducible refine (label_isPkg.calls a0_0 true _ A2.out).mono ?_); rintro e w7 ⟨rfl, hb⟩; refine ⟨_, rfl, ?_⟩; have n0_ := Aside0.mk (blk_below (g := gb104) (o := .cells #[.string a0_0, .string a0_1] 24 (0, 0)) (by (with_reducible repeat (first | refine blk_drewN ?_ _ | refine blk_drew ?_ | refine blk_alloc ?_ _)); exact BK104.out) hb); have n1_ := Aside0.mk (below_step (by repeat (first | (with_reducible first | exact HB.out | apply below_alloc | apply pw_below_drewN | apply below_drew1 | refine below_set ?_ GE104.out) | exact HB.out)) hb); clear BK104; clear HB; have BK104 := n0_; have HB := n1_; clear n0_ n1_; (try clear hb); (try clear hb2); (try clear hk); (try clear hi); have hcz8_0 : w7.cell? ⟨gb104, 0, none⟩ = some (.string a0_0) := (blk_cell BK104.out 0).trans rfl; have hcz8_1 : w7.cell? ⟨gb104, 1, none⟩ = some (.string a0_1) := (blk_cell BK104.out 1).trans rfl; have hfz8_0 := blk_frozen BK104.out 0; have hfz8_1 := blk_frozen BK104.out 1) | (go_at_call 40; (with_reducible refine (label_isName.calls a0_1 t106 _ A4.out).mono ?_); rintro e w9 ⟨rfl, hb⟩; have n0_ := Aside0.mk (blk_below (g := gb104) (o := .cells #[.string a0_0, .string a0_1] 24 (0, 0)) (by (with_reducible repeat (first | refine blk_drewN ?_ _ | refine blk_drew ?_ | refine blk_alloc ?_ _)); exact BK104.out) hb); have n1_ := Aside0.mk (below_step (by repeat (first | (with_reducible first | exact HB.out | apply below_alloc | apply pw_below_drewN | apply below_drew1 | refine below_set ?_ GE104.out) | exact HB.out)) hb); clear BK104; clear HB; have BK104 := n0_; have HB := n1_; clear n0_ n1_; (try clear hb); (try clear hb2); (try clear hk); (try clear hi)))
  go_ret
  exact ⟨by first | rfl | (simp [errW_none, errW_some] <;> rfl) | (simp [*, errW_none, errW_some] <;> rfl), by repeat (first | (with_reducible first | exact HB.out | apply below_alloc | apply pw_below_drewN | apply below_drew1 | refine below_set ?_ GE104.out) | exact HB.out)⟩
 ·replace c3 := Bool.eq_false_iff.mpr c3
  subst c3
  have H1 : (some false) = some r := by rw [if_neg (show ¬ (false = true) by decide)] at H; exact H
  clear H
  have H := H1
  clear H1
  obtain rfl := Option.some.inj H
  go_enter Tryd.func26, Tryd.ntmps26
  go_wp2_with (first | ((with_reducible refine gate_dst (N := 1) rfl ?_); refine box_event ?hg (N := 1) ?hd (cs := #[.string a0_0, .string a0_1]) (t := 24) ?hr ?_; (case hd => rfl); (case hg => rfl); (case hr => first | (go_simp; done) | (go_simp; rfl)); intro gb104 hg w10 hbox hb; have n0_ := Aside0.mk (below_step (by repeat (first | (with_reducible first | exact HB.out | apply below_alloc | apply pw_below_drewN | apply below_drew1) | exact HB.out)) hb); have n1_ := Aside0.mk (hbox); have n2_ := Aside0.mk ((by rw [hg]; exact (below_size (by repeat (first | (with_reducible first | exact HB.out | apply below_alloc | apply pw_below_drewN | apply below_drew1) | exact HB.out))) : w.heap.size ≤ gb104)); have n3_ := Aside0.mk ((by rw [hg]; exact (below_size (by repeat (first | (with_reducible first | exact HB.out | apply below_alloc | apply pw_below_drewN | apply below_drew1) | exact HB.out))) : w.heap.size ≤ gb104)); clear HB; have HB := n0_; have BK104 := n1_; have GW104 := n2_; have GE104 := n3_; clear n0_ n1_ n2_ n3_; clear hb hbox hg; have hcz11_0 : w10.cell? ⟨gb104, 0, none⟩ = some (.string a0_0) := (blk_cell BK104.out 0).trans rfl; have hcz11_1 : w10.cell? ⟨gb104, 1, none⟩ = some (.string a0_1) := (blk_cell BK104.out 1).trans rfl; have hfz11_0 := blk_frozen BK104.out 0; have hfz11_1 := blk_frozen BK104.out 1) | ((with_reducible refine gate_callee (f := 25) rfl ?_); refine goesL_ (some 5) rfl rfl Tryd.func25 (by kernel_rfl) rfl #[.string a0_0] rfl (by (try simp only [List.map_toArray, List.map_cons, List.map_nil]); first | done | rfl | (simp only [List.length_drop, List.length_take]; rfl)) ?_; (with_reducible refine (label_isPkg.calls a0_0 false _ A2.out).mono ?_); rintro e w12 ⟨rfl, hb⟩; refine ⟨_, rfl, ?_⟩; have n0_ := Aside0.mk (blk_below (g := gb104) (o := .cells #[.string a0_0, .string a0_1] 24 (0, 0)) (by (with_reducible repeat (first | refine blk_drewN ?_ _ | refine blk_drew ?_ | refine blk_alloc ?_ _)); exact BK104.out) hb); have n1_ := Aside0.mk (below_step (by repeat (first | (with_reducible first | exact HB.out | apply below_alloc | apply pw_below_drewN | apply below_drew1 | refine below_set ?_ GE104.out) | exact HB.out)) hb); clear BK104; clear HB; have BK104 := n0_; have HB := n1_; clear n0_ n1_; (try clear hb); (try clear hb2); (try clear hk); (try clear hi)))
  go_ret
  exact ⟨by first | rfl | (simp [errW_none, errW_some] <;> rfl) | (simp [*, errW_none, errW_some] <;> rfl), by repeat (first | (with_reducible first | exact HB.out | apply below_alloc | apply pw_below_drewN | apply below_drew1 | refine below_set ?_ GE104.out) | exact HB.out)⟩

end Go.Proofs.YtdhilbefeehbaaaDoor.G

/- Go functions as Lean functions, each with its contract: written by a program of mine over the kit's print. Conditions: each contract's own. -/
namespace Go.Proofs.YtdhilbefeehbaaaDoor.G
open Go.RowKit Go.Proofs.YtdhilbefeehbaaaDoorW.PrintWords Go.Proofs.YtdhilbefeehbaaaDoorW.PrintLast Go.Proofs.YtdhilbefeehbaaaDoorW.PrintMore
attribute [local go_sem] max2_int min2_int max_two min_two max_three min_three max_four min_four   -- for this text's walks alone
set_option linter.unusedVariables false
set_option linter.unusedSimpArgs false

/-! ### label_Text: function 10 -/
def label_Text.f (a0_0 : ByteArray) (a0_1 : ByteArray) : Option (ByteArray) := (label_may.f a0_0 a0_1).bind fun t118 => (if t118 = true then (if 2 + a0_0.size ≤ 9223372036854775807 then (if ((⟨#[47, 47]⟩ : ByteArray) ++ a0_0).size + 1 ≤ 9223372036854775807 then (if (((⟨#[47, 47]⟩ : ByteArray) ++ a0_0) ++ (⟨#[58]⟩ : ByteArray)).size + a0_1.size ≤ 9223372036854775807 then (some ((((⟨#[47, 47]⟩ : ByteArray) ++ a0_0) ++ (⟨#[58]⟩ : ByteArray)) ++ a0_1)) else (none)) else (none)) else (none)) else (some (⟨#[]⟩ : ByteArray)))
set_option maxHeartbeats 8000000 in
set_option maxRecDepth 100000 in
theorem label_Text.calls (a0_0 : ByteArray) (a0_1 : ByteArray) (r : ByteArray) (w : World) (h : label_Text.f a0_0 a0_1 = some r) :
  Calls Tryd.prog 10 #[.agg #[.string a0_0, .string a0_1]] w fun e w' => e = .returned (.string r) ∧ Below w.heap.size w w' := by
 have hu24 := Tryd.underlying24
 have HB := Aside0.mk (Below.refl w.heap.size w)
 have H : ((label_may.f a0_0 a0_1).bind fun t118 => (if t118 = true then (if 2 + a0_0.size ≤ 9223372036854775807 then (if ((⟨#[47, 47]⟩ : ByteArray) ++ a0_0).size + 1 ≤ 9223372036854775807 then (if (((⟨#[47, 47]⟩ : ByteArray) ++ a0_0) ++ (⟨#[58]⟩ : ByteArray)).size + a0_1.size ≤ 9223372036854775807 then (some ((((⟨#[47, 47]⟩ : ByteArray) ++ a0_0) ++ (⟨#[58]⟩ : ByteArray)) ++ a0_1)) else (none)) else (none)) else (none)) else (some (⟨#[]⟩ : ByteArray)))) = some r := h
 clear h
 replace H := Option.bind_eq_some_iff.mp H
 obtain ⟨t118, A20, H⟩ := H
 replace H : (if t118 = true then (if 2 + a0_0.size ≤ 9223372036854775807 then (if ((⟨#[47, 47]⟩ : ByteArray) ++ a0_0).size + 1 ≤ 9223372036854775807 then (if (((⟨#[47, 47]⟩ : ByteArray) ++ a0_0) ++ (⟨#[58]⟩ : ByteArray)).size + a0_1.size ≤ 9223372036854775807 then (some ((((⟨#[47, 47]⟩ : ByteArray) ++ a0_0) ++ (⟨#[58]⟩ : ByteArray)) ++ a0_1)) else (none)) else (none)) else (none)) else (some (⟨#[]⟩ : ByteArray))) = some r := H
 have A2 := Aside0.mk A20
 clear A20
 by_cases c3 : t118 = true
 ·subst c3
  have H1 : (if 2 + a0_0.size ≤ 9223372036854775807 then (if ((⟨#[47, 47]⟩ : ByteArray) ++ a0_0).size + 1 ≤ 9223372036854775807 then (if (((⟨#[47, 47]⟩ : ByteArray) ++ a0_0) ++ (⟨#[58]⟩ : ByteArray)).size + a0_1.size ≤ 9223372036854775807 then (some ((((⟨#[47, 47]⟩ : ByteArray) ++ a0_0) ++ (⟨#[58]⟩ : ByteArray)) ++ a0_1)) else (none)) else (none)) else (none)) = some r := by rw [if_pos rfl] at H; exact H
  clear H
  have H := H1
  clear H1
  by_cases c4 : 2 + a0_0.size ≤ 9223372036854775807
  ·rw [if_pos c4] at H
   have c4b0 := eq_true c4
   have c4b1 : decide (2 + a0_0.size ≤ 9223372036854775807) = true := decide_eq_true c4
   try have c4b2 : (9223372036854775807 < 2 + a0_0.size) = False := eq_false (Nat.not_lt.2 c4)
   by_cases c5 : ((⟨#[47, 47]⟩ : ByteArray) ++ a0_0).size + 1 ≤ 9223372036854775807
   ·rw [if_pos c5] at H
    have c5b0 := eq_true c5
    have c5b7 := c5
    try simp only [ByteArray.size_append] at c5b7
    have c5b8 := decide_eq_true c5b7
    try have c5b9 := Nat.not_lt.2 c5b7
    replace c5b7 := eq_true c5b7
    have c5b1 : decide (((⟨#[47, 47]⟩ : ByteArray) ++ a0_0).size + 1 ≤ 9223372036854775807) = true := decide_eq_true c5
    try have c5b2 : (9223372036854775807 < ((⟨#[47, 47]⟩ : ByteArray) ++ a0_0).size + 1) = False := eq_false (Nat.not_lt.2 c5)
    try have c5b5 : (9223372036854775807 < 2 + a0_0.size + 1) = False := (by have h_ := c5; simp only [ByteArray.size_append] at h_; exact eq_false (Nat.not_lt.2 h_))
    by_cases c6 : (((⟨#[47, 47]⟩ : ByteArray) ++ a0_0) ++ (⟨#[58]⟩ : ByteArray)).size + a0_1.size ≤ 9223372036854775807
    ·rw [if_pos c6] at H
     have c6b0 := eq_true c6
     have c6b7 := c6
     try simp only [ByteArray.size_append] at c6b7
     have c6b8 := decide_eq_true c6b7
     try have c6b9 := Nat.not_lt.2 c6b7
     replace c6b7 := eq_true c6b7
     have c6b1 : decide ((((⟨#[47, 47]⟩ : ByteArray) ++ a0_0) ++ (⟨#[58]⟩ : ByteArray)).size + a0_1.size ≤ 9223372036854775807) = true := decide_eq_true c6
     try have c6b2 : (9223372036854775807 < (((⟨#[47, 47]⟩ : ByteArray) ++ a0_0) ++ (⟨#[58]⟩ : ByteArray)).size + a0_1.size) = False := eq_false (Nat.not_lt.2 c6)
     try have c6b5 : (9223372036854775807 < 2 + a0_0.size + 1 + a0_1.size) = False := (by have h_ := c6; simp only [ByteArray.size_append] at h_; exact eq_false (Nat.not_lt.2 h_))
     obtain rfl := Option.some.inj H
     go_enter Tryd.func10, Tryd.ntmps10
     go_wp2_with (first | ((with_reducible refine gate_dst (N := 1) rfl ?_); refine box_event ?hg (N := 1) ?hd (cs := #[.string a0_0, .string a0_1]) (t := 24) ?hr ?_; (case hd => rfl); (case hg => rfl); (case hr => first | (go_simp; done) | (go_simp; rfl)); intro gb117 hg w7 hbox hb; have n0_ := Aside0.mk (below_step (by repeat (first | (with_reducible first | exact HB.out | apply below_alloc | apply pw_below_drewN | apply below_drew1) | exact HB.out)) hb); have n1_ := Aside0.mk (hbox); have n2_ := Aside0.mk ((by rw [hg]; exact (below_size (by repeat (first | (with_reducible first | exact HB.out | apply below_alloc | apply pw_below_drewN | apply below_drew1) | exact HB.out))) : w.heap.size ≤ gb117)); have n3_ := Aside0.mk ((by rw [hg]; exact (below_size (by repeat (first | (with_reducible first | exact HB.out | apply below_alloc | apply pw_below_drewN | apply below_drew1) | exact HB.out))) : w.heap.size ≤ gb117)); clear HB; have HB := n0_; have BK117 := n1_; have GW117 := n2_; have GE117 := n3_; clear n0_ n1_ n2_ n3_; clear hb hbox hg; have hcz8_0 : w7.cell? ⟨gb117, 0, none⟩ = some (.string a0_0) := (blk_cell BK117.out 0).trans rfl; have hcz8_1 : w7.cell? ⟨gb117, 1, none⟩ = some (.string a0_1) := (blk_cell BK117.out 1).trans rfl; have hfz8_0 := blk_frozen BK117.out 0; have hfz8_1 := blk_frozen BK117.out 1) | ((with_reducible refine gate_callee (f := 26) rfl ?_); refine goesL_ (some 4) rfl rfl Tryd.func26 (by kernel_rfl) rfl #[.agg #[.string a0_0, .string a0_1]] rfl (by (try simp only [List.map_toArray, List.map_cons, List.map_nil]); first | done | rfl | (simp only [List.length_drop, List.length_take]; rfl)) ?_; (with_reducible refine (label_may.calls a0_0 a0_1 true _ A2.out).mono ?_); rintro e w9 ⟨rfl, hb⟩; refine ⟨_, rfl, ?_⟩; have n0_ := Aside0.mk (blk_below (g := gb117) (o := .cells #[.string a0_0, .string a0_1] 24 (0, 0)) (by (with_reducible repeat (first | refine blk_drewN ?_ _ | refine blk_drew ?_ | refine blk_alloc ?_ _)); exact BK117.out) hb); have n1_ := Aside0.mk (below_step (by repeat (first | (with_reducible first | exact HB.out | apply below_alloc | apply pw_below_drewN | apply below_drew1 | refine below_set ?_ GE117.out) | exact HB.out)) hb); clear BK117; clear HB; have BK117 := n0_; have HB := n1_; clear n0_ n1_; (try clear hb); (try clear hb2); (try clear hk); (try clear hi); have hcz10_0 : w9.cell? ⟨gb117, 0, none⟩ = some (.string a0_0) := (blk_cell BK117.out 0).trans rfl; have hcz10_1 : w9.cell? ⟨gb117, 1, none⟩ = some (.string a0_1) := (blk_cell BK117.out 1).trans rfl; have hfz10_0 := blk_frozen BK117.out 0; have hfz10_1 := blk_frozen BK117.out 1))
     go_ret
     exact ⟨by first | rfl | (simp [errW_none, errW_some] <;> rfl) | (simp [*, errW_none, errW_some] <;> rfl), by repeat (first | (with_reducible first | exact HB.out | apply below_alloc | apply pw_below_drewN | apply below_drew1 | refine below_set ?_ GE117.out) | exact HB.out)⟩
    ·rw [if_neg c6] at H
     exact absurd H (by simp)
   ·rw [if_neg c5] at H
    exact absurd H (by simp)
  ·rw [if_neg c4] at H
   exact absurd H (by simp)
 ·replace c3 := Bool.eq_false_iff.mpr c3
  subst c3
  have H1 : (some (⟨#[]⟩ : ByteArray)) = some r := by rw [if_neg (show ¬ (false = true) by decide)] at H; exact H
  clear H
  have H := H1
  clear H1
  obtain rfl := Option.some.inj H
  go_enter Tryd.func10, Tryd.ntmps10
  go_wp2_with (first | ((with_reducible refine gate_dst (N := 1) rfl ?_); refine box_event ?hg (N := 1) ?hd (cs := #[.string a0_0, .string a0_1]) (t := 24) ?hr ?_; (case hd => rfl); (case hg => rfl); (case hr => first | (go_simp; done) | (go_simp; rfl)); intro gb117 hg w11 hbox hb; have n0_ := Aside0.mk (below_step (by repeat (first | (with_reducible first | exact HB.out | apply below_alloc | apply pw_below_drewN | apply below_drew1) | exact HB.out)) hb); have n1_ := Aside0.mk (hbox); have n2_ := Aside0.mk ((by rw [hg]; exact (below_size (by repeat (first | (with_reducible first | exact HB.out | apply below_alloc | apply pw_below_drewN | apply below_drew1) | exact HB.out))) : w.heap.size ≤ gb117)); have n3_ := Aside0.mk ((by rw [hg]; exact (below_size (by repeat (first | (with_reducible first | exact HB.out | apply below_alloc | apply pw_below_drewN | apply below_drew1) | exact HB.out))) : w.heap.size ≤ gb117)); clear HB; have HB := n0_; have BK117 := n1_; have GW117 := n2_; have GE117 := n3_; clear n0_ n1_ n2_ n3_; clear hb hbox hg; have hcz12_0 : w11.cell? ⟨gb117, 0, none⟩ = some (.string a0_0) := (blk_cell BK117.out 0).trans rfl; have hcz12_1 : w11.cell? ⟨gb117, 1, none⟩ = some (.string a0_1) := (blk_cell BK117.out 1).trans rfl; have hfz12_0 := blk_frozen BK117.out 0; have hfz12_1 := blk_frozen BK117.out 1) | ((with_reducible refine gate_callee (f := 26) rfl ?_); refine goesL_ (some 4) rfl rfl Tryd.func26 (by kernel_rfl) rfl #[.agg #[.string a0_0, .string a0_1]] rfl (by (try simp only [List.map_toArray, List.map_cons, List.map_nil]); first | done | rfl | (simp only [List.length_drop, List.length_take]; rfl)) ?_; (with_reducible refine (label_may.calls a0_0 a0_1 false _ A2.out).mono ?_); rintro e w13 ⟨rfl, hb⟩; refine ⟨_, rfl, ?_⟩; have n0_ := Aside0.mk (blk_below (g := gb117) (o := .cells #[.string a0_0, .string a0_1] 24 (0, 0)) (by (with_reducible repeat (first | refine blk_drewN ?_ _ | refine blk_drew ?_ | refine blk_alloc ?_ _)); exact BK117.out) hb); have n1_ := Aside0.mk (below_step (by repeat (first | (with_reducible first | exact HB.out | apply below_alloc | apply pw_below_drewN | apply below_drew1 | refine below_set ?_ GE117.out) | exact HB.out)) hb); clear BK117; clear HB; have BK117 := n0_; have HB := n1_; clear n0_ n1_; (try clear hb); (try clear hb2); (try clear hk); (try clear hi)))
  go_ret
  exact ⟨by first | rfl | (simp [errW_none, errW_some] <;> rfl) | (simp [*, errW_none, errW_some] <;> rfl), by repeat (first | (with_reducible first | exact HB.out | apply below_alloc | apply pw_below_drewN | apply below_drew1 | refine below_set ?_ GE117.out) | exact HB.out)⟩

end Go.Proofs.YtdhilbefeehbaaaDoor.G

/- Go functions as Lean functions, each with its contract: written by a program of mine over the kit's print. Conditions: each contract's own. -/
namespace Go.Proofs.YtdhilbefeehbaaaDoor.G
open Go.RowKit Go.Proofs.YtdhilbefeehbaaaDoorW.PrintWords Go.Proofs.YtdhilbefeehbaaaDoorW.PrintLast Go.Proofs.YtdhilbefeehbaaaDoorW.PrintMore
attribute [local go_sem] max2_int min2_int max_two min_two max_three min_three max_four min_four   -- for this text's walks alone
set_option linter.unusedVariables false
set_option linter.unusedSimpArgs false

/-! ### label_Short: function 11 -/
def label_Short.f (a0_0 : ByteArray) (a0_1 : ByteArray) (a1 : ByteArray) : Option (ByteArray) := (label_may.f a0_0 a0_1).bind fun t160 => (if t160 = true then (if a0_0.toList = a1.toList then (if 1 + a0_1.size ≤ 9223372036854775807 then (some ((⟨#[58]⟩ : ByteArray) ++ a0_1)) else (none)) else ((label_Text.f a0_0 a0_1).bind fun t161 => (some t161))) else ((label_Text.f a0_0 a0_1).bind fun t162 => (some t162)))
set_option maxHeartbeats 8000000 in
set_option maxRecDepth 100000 in
theorem label_Short.calls (a0_0 : ByteArray) (a0_1 : ByteArray) (a1 : ByteArray) (r : ByteArray) (w : World) (h : label_Short.f a0_0 a0_1 a1 = some r) :
  Calls Tryd.prog 11 #[.agg #[.string a0_0, .string a0_1], .string a1] w fun e w' => e = .returned (.string r) ∧ Below w.heap.size w w' := by
 have hu24 := Tryd.underlying24
 have HB := Aside0.mk (Below.refl w.heap.size w)
 have H : ((label_may.f a0_0 a0_1).bind fun t160 => (if t160 = true then (if a0_0.toList = a1.toList then (if 1 + a0_1.size ≤ 9223372036854775807 then (some ((⟨#[58]⟩ : ByteArray) ++ a0_1)) else (none)) else ((label_Text.f a0_0 a0_1).bind fun t161 => (some t161))) else ((label_Text.f a0_0 a0_1).bind fun t162 => (some t162)))) = some r := h
 clear h
 replace H := Option.bind_eq_some_iff.mp H
 obtain ⟨t160, A30, H⟩ := H
 replace H : (if t160 = true then (if a0_0.toList = a1.toList then (if 1 + a0_1.size ≤ 9223372036854775807 then (some ((⟨#[58]⟩ : ByteArray) ++ a0_1)) else (none)) else ((label_Text.f a0_0 a0_1).bind fun t161 => (some t161))) else ((label_Text.f a0_0 a0_1).bind fun t162 => (some t162))) = some r := H
 have A3 := Aside0.mk A30
 clear A30
 by_cases c4 : t160 = true
 ·subst c4
  have H1 : (if a0_0.toList = a1.toList then (if 1 + a0_1.size ≤ 9223372036854775807 then (some ((⟨#[58]⟩ : ByteArray) ++ a0_1)) else (none)) else ((label_Text.f a0_0 a0_1).bind fun t161 => (some t161))) = some r := by rw [if_pos rfl] at H; exact H
  clear H
  have H := H1
  clear H1
  by_cases c5 : a0_0.toList = a1.toList
  ·rw [if_pos c5] at H
   have c5b0 : (a0_0.toList == a1.toList) = true := beq_iff_eq.mpr c5
   have c5b1 : (a0_0.toList != a1.toList) = false := bne_eq_false_iff_eq.mpr c5
   clear c5
   by_cases c6 : 1 + a0_1.size ≤ 9223372036854775807
   ·rw [if_pos c6] at H
    have c6b0 := eq_true c6
    have c6b1 : decide (1 + a0_1.size ≤ 9223372036854775807) = true := decide_eq_true c6
    try have c6b2 : (9223372036854775807 < 1 + a0_1.size) = False := eq_false (Nat.not_lt.2 c6)
    obtain rfl := Option.some.inj H
    go_enter Tryd.func11, Tryd.ntmps11
    go_wp2_with (first | ((with_reducible refine gate_dst (N := 2) rfl ?_); refine box_event ?hg (N := 2) ?hd (cs := #[.string a0_0, .string a0_1]) (t := 24) ?hr ?_; (case hd => rfl); (case hg => rfl); (case hr => first | (go_simp; done) | (go_simp; rfl)); intro gb159 hg w7 hbox hb; have n0_ := Aside0.mk (below_step (by repeat (first | (with_reducible first | exact HB.out | apply below_alloc | apply pw_below_drewN | apply below_drew1) | exact HB.out)) hb); have n1_ := Aside0.mk (hbox); have n2_ := Aside0.mk ((by rw [hg]; exact (below_size (by repeat (first | (with_reducible first | exact HB.out | apply below_alloc | apply pw_below_drewN | apply below_drew1) | exact HB.out))) : w.heap.size ≤ gb159)); have n3_ := Aside0.mk ((by rw [hg]; exact (below_size (by repeat (first | (with_reducible first | exact HB.out | apply below_alloc | apply pw_below_drewN | apply below_drew1) | exact HB.out))) : w.heap.size ≤ gb159)); clear HB; have HB := n0_; have BK159 := n1_; have GW159 := n2_; have GE159 := n3_; clear n0_ n1_ n2_ n3_; clear hb hbox hg; have hcz8_0 : w7.cell? ⟨gb159, 0, none⟩ = some (.string a0_0) := (blk_cell BK159.out 0).trans rfl; have hcz8_1 : w7.cell? ⟨gb159, 1, none⟩ = some (.string a0_1) := (blk_cell BK159.out 1).trans rfl; have hfz8_0 := blk_frozen BK159.out 0; have hfz8_1 := blk_frozen BK159.out 1) | ((with_reducible refine gate_callee (f := 26) rfl ?_); refine goesL_ (some 6) rfl rfl Tryd.func26 (by kernel_rfl) rfl #[.agg #[.string a0_0, .string a0_1]] rfl (by (try simp only [List.map_toArray, List.map_cons, List.map_nil]); first | done | rfl | (simp only [List.length_drop, List.length_take]; rfl)) ?_; (with_reducible refine (label_may.calls a0_0 a0_1 true _ A3.out).mono ?_); rintro e w9 ⟨rfl, hb⟩; refine ⟨_, rfl, ?_⟩; have n0_ := Aside0.mk (blk_below (g := gb159) (o := .cells #[.string a0_0, .string a0_1] 24 (0, 0)) (by (with_reducible repeat (first | refine blk_drewN ?_ _ | refine blk_drew ?_ | refine blk_alloc ?_ _)); exact BK159.out) hb); have n1_ := Aside0.mk (below_step (by repeat (first | (with_reducible first | exact HB.out | apply below_alloc | apply pw_below_drewN | apply below_drew1 | refine below_set ?_ GE159.out) | exact HB.out)) hb); clear BK159; clear HB; have BK159 := n0_; have HB := n1_; clear n0_ n1_; (try clear hb); (try clear hb2); (try clear hk); (try clear hi); have hcz10_0 : w9.cell? ⟨gb159, 0, none⟩ = some (.string a0_0) := (blk_cell BK159.out 0).trans rfl; have hcz10_1 : w9.cell? ⟨gb159, 1, none⟩ = some (.string a0_1) := (blk_cell BK159.out 1).trans rfl; have hfz10_0 := blk_frozen BK159.out 0; have hfz10_1 := blk_frozen BK159.out 1))
    go_ret
    exact ⟨by first | rfl | (simp [errW_none, errW_some] <;> rfl) | (simp [*, errW_none, errW_some] <;> rfl), by repeat (first | (with_reducible first | exact HB.out | apply below_alloc | apply pw_below_drewN | apply below_drew1 | refine below_set ?_ GE159.out) | exact HB.out)⟩
   ·rw [if_neg c6] at H
    exact absurd H (by simp)
  ·rw [if_neg c5] at H
   have c5b0 : (a0_0.toList == a1.toList) = false := beq_eq_false_iff_ne.mpr c5
   have c5b1 : (a0_0.toList != a1.toList) = true := bne_iff_ne.mpr c5
   replace H := Option.bind_eq_some_iff.mp H
   obtain ⟨t161, A110, H⟩ := H
   replace H : (some t161) = some r := H
   have A11 := Aside0.mk A110
   clear A110
   obtain rfl := Option.some.inj H
   go_enter Tryd.func11, Tryd.ntmps11
   go_wp2_with (first | ((with_reducible refine gate_dst (N := 2) rfl ?_); refine box_event ?hg (N := 2) ?hd (cs := #[.string a0_0, .string a0_1]) (t := 24) ?hr ?_; (case hd => rfl); (case hg => rfl); (case hr => first | (go_simp; done) | (go_simp; rfl)); intro gb159 hg w12 hbox hb; have n0_ := Aside0.mk (below_step (by repeat (first | (with_reducible first | exact HB.out | apply below_alloc | apply pw_below_drewN | apply below_drew1) | exact HB.out)) hb); have n1_ := Aside0.mk (hbox); have n2_ := Aside0.mk ((by rw [hg]; exact (below_size (by repeat (first | (with_reducible first | exact HB.out | apply below_alloc | apply pw_below_drewN | apply below_drew1) | exact HB.out))) : w.heap.size ≤ gb159)); have n3_ := Aside0.mk ((by rw [hg]; exact (below_size (by repeat (first | (with_reducible first | exact HB.out | apply below_alloc | apply pw_below_drewN | apply below_drew1) | exact HB.out))) : w.heap.size ≤ gb159)); clear HB; have HB := n0_; have BK159 := n1_; have GW159 := n2_; have GE159 := n3_; clear n0_ n1_ n2_ n3_; clear hb hbox hg; have hcz13_0 : w12.cell? ⟨gb159, 0, none⟩ = some (.string a0_0) := (blk_cell BK159.out 0).trans rfl; have hcz13_1 : w12.cell? ⟨gb159, 1, none⟩ = some (.string a0_1) := (blk_cell BK159.out 1).trans rfl; have hfz13_0 := blk_frozen BK159.out 0; have hfz13_1 := blk_frozen BK159.out 1) | ((with_reducible refine gate_callee (f := 26) rfl ?_); refine goesL_ (some 6) rfl rfl Tryd.func26 (by kernel_rfl) rfl #[.agg #[.string a0_0, .string a0_1]] rfl (by (try simp only [List.map_toArray, List.map_cons, List.map_nil]); first | done | rfl | (simp only [List.length_drop, List.length_take]; rfl)) ?_; (with_reducible refine (label_may.calls a0_0 a0_1 true _ A3.out).mono ?_); rintro e w14 ⟨rfl, hb⟩; refine ⟨_, rfl, ?_⟩; have n0_ := Aside0.mk (blk_below (g := gb159) (o := .cells #[.string a0_0, .string a0_1] 24 (0, 0)) (by (with_reducible repeat (first | refine blk_drewN ?_ _ | refine blk_drew ?_ | refine blk_alloc ?_ _)); exact BK159.out) hb); have n1_ := Aside0.mk (below_step (by repeat (first | (with_reducible first | exact HB.out | apply below_alloc | apply pw_below_drewN | apply below_drew1 | refine below_set ?_ GE159.out) | exact HB.out)) hb); clear BK159; clear HB; have BK159 := n0_; have HB := n1_; clear n0_ n1_; (try clear hb); (try clear hb2); (try clear hk); (try clear hi); have hcz15_0 : w14.cell? ⟨gb159, 0, none⟩ = some (.string a0_0) := (blk_cell BK159.out 0).trans rfl; have hcz15_1 : w14.cell? ⟨gb159, 1, none⟩ = some (.string a0_1) := (blk_cell BK159.out 1).trans rfl; have hfz15_0 := blk_frozen BK159.out 0; have hfz15_1 := blk_frozen BK159.out 1) | ((with_reducible refine gate_callee (f := 10) rfl ?_); refine goesL_ (some 15) rfl rfl Tryd.func10 (by kernel_rfl) rfl #[.agg #[.string a0_0, .string a0_1]] rfl (by (try simp only [List.map_toArray, List.map_cons, List.map_nil]); first | done | rfl | (simp only [List.length_drop, List.length_take]; rfl)) ?_; (with_reducible refine (label_Text.calls a0_0 a0_1 t161 _ A11.out).mono ?_); rintro e w16 ⟨rfl, hb⟩; refine ⟨_, rfl, ?_⟩; have n0_ := Aside0.mk (blk_below (g := gb159) (o := .cells #[.string a0_0, .string a0_1] 24 (0, 0)) (by (with_reducible repeat (first | refine blk_drewN ?_ _ | refine blk_drew ?_ | refine blk_alloc ?_ _)); exact BK159.out) hb); have n1_ := Aside0.mk (below_step (by repeat (first | (with_reducible first | exact HB.out | apply below_alloc | apply pw_below_drewN | apply below_drew1 | refine below_set ?_ GE159.out) | exact HB.out)) hb); clear BK159; clear HB; have BK159 := n0_; have HB := n1_; clear n0_ n1_; (try clear hb); (try clear hb2); (try clear hk); (try clear hi)))
   go_ret
   exact ⟨by first | rfl | (simp [errW_none, errW_some] <;> rfl) | (simp [*, errW_none, errW_some] <;> rfl), by repeat (first | (with_reducible first | exact HB.out | apply below_alloc | apply pw_below_drewN | apply below_drew1 | refine below_set ?_ GE159.out) | exact HB.out)⟩
 ·replace c4 := Bool.eq_false_iff.mpr c4
  subst c4
  have H1 : ((label_Text.f a0_0 a0_1).bind fun t162 => (some t162)) = some r := by rw [if_neg (show ¬ (false = true) by decide)] at H; exact H
  clear H
  have H := H1
  clear H1
  replace H := Option.bind_eq_some_iff.mp H
  obtain ⟨t162, A170, H⟩ := H
  replace H : (some t162) = some r := H
  have A17 := Aside0.mk A170
  clear A170
  obtain rfl := Option.some.inj H
  go_enter Tryd.func11, Tryd.ntmps11
  go_wp2_with (first | ((with_reducible refine gate_dst (N := 2) rfl ?_); refine box_event ?hg (N := 2) ?hd (cs := #[.string a0_0, .string a0_1]) (t := 24) ?hr ?_; (case hd => rfl); (case hg => rfl); (case hr => first | (go_simp; done) | (go_simp; rfl)); intro gb159 hg w18 hbox hb; have n0_ := Aside0.mk (below_step (by repeat (first | (with_reducible first | exact HB.out | apply below_alloc | apply pw_below_drewN | apply below_drew1) | exact HB.out)) hb); have n1_ := Aside0.mk (hbox); have n2_ := Aside0.mk ((by rw [hg]; exact (below_size (by repeat (first | (with_reducible first | exact HB.out | apply below_alloc | apply pw_below_drewN | apply below_drew1) | exact HB.out))) : w.heap.size ≤ gb159)); have n3_ := Aside0.mk ((by rw [hg]; exact (below_size (by repeat (first | (with_reducible first | exact HB.out | apply below_alloc | apply pw_below_drewN | apply below_drew1) | exact HB.out))) : w.heap.size ≤ gb159)); clear HB; have HB := n0_; have BK159 := n1_; have GW159 := n2_; have GE159 := n3_; clear n0_ n1_ n2_ n3_; clear hb hbox hg; have hcz19_0 : w18.cell? ⟨gb159, 0, none⟩ = some (.string a0_0) := (blk_cell BK159.out 0).trans rfl; have hcz19_1 : w18.cell? ⟨gb159, 1, none⟩ = some (.string a0_1) := (blk_cell BK159.out 1).trans rfl; have hfz19_0 := blk_frozen BK159.out 0; have hfz19_1 := blk_frozen BK159.out 1) | ((with_reducible refine gate_callee (f := 26) rfl ?_); refine goesL_ (some 6) rfl rfl Tryd.func26 (by kernel_rfl) rfl #[.agg #[.string a0_0, .string a0_1]] rfl (by (try simp only [List.map_toArray, List.map_cons, List.map_nil]); first | done | rfl | (simp only [List.length_drop, List.length_take]; rfl)) ?_; (with_reducible refine (label_may.calls a0_0 a0_1 false _ A3.out).mono ?_); rintro e w20 ⟨rfl, hb⟩; refine ⟨_, rfl, ?_⟩; have n0_ := Aside0.mk (blk_below (g := gb159) (o := .cells #[.string a0_0, .string a0_1] 24 (0, 0)) (by (with_reducible repeat (first | refine blk_drewN ?_ _ | refine blk_drew ?_ | refine blk_alloc ?_ _)); exact BK159.out) hb); have n1_ := Aside0.mk (below_step (by repeat (first | (with_reducible first | exact HB.out | apply below_alloc | apply pw_below_drewN | apply below_drew1 | refine below_set ?_ GE159.out) | exact HB.out)) hb); clear BK159; clear HB; have BK159 := n0_; have HB := n1_; clear n0_ n1_; (try clear hb); (try clear hb2); (try clear hk); (try clear hi); have hcz21_0 : w20.cell? ⟨gb159, 0, none⟩ = some (.string a0_0) := (blk_cell BK159.out 0).trans rfl; have hcz21_1 : w20.cell? ⟨gb159, 1, none⟩ = some (.string a0_1) := (blk_cell BK159.out 1).trans rfl; have hfz21_0 := blk_frozen BK159.out 0; have hfz21_1 := blk_frozen BK159.out 1) | ((with_reducible refine gate_callee (f := 10) rfl ?_); refine goesL_ (some 15) rfl rfl Tryd.func10 (by kernel_rfl) rfl #[.agg #[.string a0_0, .string a0_1]] rfl (by (try simp only [List.map_toArray, List.map_cons, List.map_nil]); first | done | rfl | (simp only [List.length_drop, List.length_take]; rfl)) ?_; (with_reducible refine (label_Text.calls a0_0 a0_1 t162 _ A17.out).mono ?_); rintro e w22 ⟨rfl, hb⟩; refine ⟨_, rfl, ?_⟩; have n0_ := Aside0.mk (blk_below (g := gb159) (o := .cells #[.string a0_0, .string a0_1] 24 (0, 0)) (by (with_reducible repeat (first | refine blk_drewN ?_ _ | refine blk_drew ?_ | refine blk_alloc ?_ _)); exact BK159.out) hb); have n1_ := Aside0.mk (below_step (by repeat (first | (with_reducible first | exact HB.out | apply below_alloc | apply pw_below_drewN | apply below_drew1 | refine below_set ?_ GE159.out) | exact HB.out)) hb); clear BK159; clear HB; have BK159 := n0_; have HB := n1_; clear n0_ n1_; (try clear hb); (try clear hb2); (try clear hk); (try clear hi)))
  go_ret
  exact ⟨by first | rfl | (simp [errW_none, errW_some] <;> rfl) | (simp [*, errW_none, errW_some] <;> rfl), by repeat (first | (with_reducible first | exact HB.out | apply below_alloc | apply pw_below_drewN | apply below_drew1 | refine below_set ?_ GE159.out) | exact HB.out)⟩

end Go.Proofs.YtdhilbefeehbaaaDoor.G

/- Go functions as Lean functions, each with its contract: written by a program of mine over the kit's print. Conditions: each contract's own. -/
namespace Go.Proofs.YtdhilbefeehbaaaDoor.G
open Go.RowKit Go.Proofs.YtdhilbefeehbaaaDoorW.PrintWords Go.Proofs.YtdhilbefeehbaaaDoorW.PrintLast Go.Proofs.YtdhilbefeehbaaaDoorW.PrintMore
attribute [local go_sem] max2_int min2_int max_two min_two max_three min_three max_four min_four   -- for this text's walks alone
set_option linter.unusedVariables false
set_option linter.unusedSimpArgs false

/-! ### label_Read: function 8 -/
mutual
def label_Read.j0 : Nat → ByteArray → Bool → ByteArray → ByteArray → Option (ByteArray × ByteArray × Int)
 | 0, _, _, _, _ => none
 | k + 1, x1, x6, x9, x10 => if x6 = true then ((label_isPkg.f x1).bind fun t115 => (label_Read.j1 k (!t115) x9 x10)) else (label_Read.j1 k false x9 x10)
def label_Read.j1 : Nat → Bool → ByteArray → ByteArray → Option (ByteArray × ByteArray × Int)
 | 0, _, _, _ => none
 | k + 1, x40, x115000, x115001 => if x40 = true then (some ((⟨#[]⟩ : ByteArray), (⟨#[]⟩ : ByteArray), 1)) else ((label_may.f x115000 x115001).bind fun t116 => (if t116 = true then (some (x115000, x115001, 0)) else (some ((⟨#[]⟩ : ByteArray), (⟨#[]⟩ : ByteArray), 7))))
end
def label_Read.f (k : Nat) (a0 : ByteArray) (a1 : ByteArray) : Option (ByteArray × ByteArray × Int) := (strings_HasPrefix.f a0 (⟨#[58]⟩ : ByteArray)).bind fun t108 => ((strings_CutPrefix.f a0 (⟨#[47, 47]⟩ : ByteArray)).bind fun bt109 => ((strings_Cut.f bt109.1 (⟨#[58]⟩ : ByteArray)).bind fun bt111 => (if t108 = true then (label_Read.j0 k a1 t108 a1 bt111.2.1) else (if bt109.2 = true then (if bt111.2.2 = true then (label_Read.j0 k a1 t108 bt111.1 bt111.2.1) else (some ((⟨#[]⟩ : ByteArray), (⟨#[]⟩ : ByteArray), 3))) else (some ((⟨#[]⟩ : ByteArray), (⟨#[]⟩ : ByteArray), 3))))))
set_option maxHeartbeats 8000000 in
set_option maxRecDepth 100000 in
theorem label_Read.calls (k : Nat) (a0 : ByteArray) (a1 : ByteArray) (r1 : ByteArray) (r2 : ByteArray) (r3 : Int) (w : World) (h : label_Read.f k a0 a1 = some (r1, r2, r3)) :
  Calls Tryd.prog 8 #[.string a0, .string a1] w fun e w' => e = .returned (.tuple #[.agg #[.string r1, .string r2], .int .i64 r3]) ∧ Below w.heap.size w w' := by
 have hu24 := Tryd.underlying24
 have HB := Aside0.mk (Below.refl w.heap.size w)
 have H : ((strings_HasPrefix.f a0 (⟨#[58]⟩ : ByteArray)).bind fun t108 => ((strings_CutPrefix.f a0 (⟨#[47, 47]⟩ : ByteArray)).bind fun bt109 => ((strings_Cut.f bt109.1 (⟨#[58]⟩ : ByteArray)).bind fun bt111 => (if t108 = true then (label_Read.j0 k a1 t108 a1 bt111.2.1) else (if bt109.2 = true then (if bt111.2.2 = true then (label_Read.j0 k a1 t108 bt111.1 bt111.2.1) else (some ((⟨#[]⟩ : ByteArray), (⟨#[]⟩ : ByteArray), 3))) else (some ((⟨#[]⟩ : ByteArray), (⟨#[]⟩ : ByteArray), 3))))))) = some (r1, r2, r3) := h
 clear h
 replace H := Option.bind_eq_some_iff.mp H
 obtain ⟨t108, A30, H⟩ := H
 replace H : ((strings_CutPrefix.f a0 (⟨#[47, 47]⟩ : ByteArray)).bind fun bt109 => ((strings_Cut.f bt109.1 (⟨#[58]⟩ : ByteArray)).bind fun bt111 => (if t108 = true then (label_Read.j0 k a1 t108 a1 bt111.2.1) else (if bt109.2 = true then (if bt111.2.2 = true then (label_Read.j0 k a1 t108 bt111.1 bt111.2.1) else (some ((⟨#[]⟩ : ByteArray), (⟨#[]⟩ : ByteArray), 3))) else (some ((⟨#[]⟩ : ByteArray), (⟨#[]⟩ : ByteArray), 3)))))) = some (r1, r2, r3) := H
 have A3 := Aside0.mk A30
 clear A30
 replace H := Option.bind_eq_some_iff.mp H
 obtain ⟨⟨t109, t110⟩, A40, H⟩ := H
 replace H : ((strings_Cut.f t109 (⟨#[58]⟩ : ByteArray)).bind fun bt111 => (if t108 = true then (label_Read.j0 k a1 t108 a1 bt111.2.1) else (if t110 = true then (if bt111.2.2 = true then (label_Read.j0 k a1 t108 bt111.1 bt111.2.1) else (some ((⟨#[]⟩ : ByteArray), (⟨#[]⟩ : ByteArray), 3))) else (some ((⟨#[]⟩ : ByteArray), (⟨#[]⟩ : ByteArray), 3))))) = some (r1, r2, r3) := H
 have A4 := Aside0.mk A40
 clear A40
 replace H := Option.bind_eq_some_iff.mp H
 obtain ⟨⟨t111, t112, t113⟩, A50, H⟩ := H
 replace H : (if t108 = true then (label_Read.j0 k a1 t108 a1 t112) else (if t110 = true then (if t113 = true then (label_Read.j0 k a1 t108 t111 t112) else (some ((⟨#[]⟩ : ByteArray), (⟨#[]⟩ : ByteArray), 3))) else (some ((⟨#[]⟩ : ByteArray), (⟨#[]⟩ : ByteArray), 3)))) = some (r1, r2, r3) := H
 have A5 := Aside0.mk A50
 clear A50
 have HC6 := Aside0.mk H
 clear H
 go_enter Tryd.func8, Tryd.ntmps8
 go_upto_block 0 with (first | ((with_reducible refine gate_dst (N := 4) rfl ?_); refine box_event ?hg (N := 4) ?hd (cs := #[.string (⟨#[]⟩ : ByteArray), .string (⟨#[]⟩ : ByteArray)]) (t := 24) ?hr ?_; (case hd => rfl); (case hg => rfl); (case hr => first | (go_simp; done) | (go_simp; rfl)); intro gb107 hg w7 hbox hb; have n0_ := Aside0.mk (below_step (by repeat (first | (with_reducible first | exact HB.out | apply below_alloc | apply pw_below_drewN | apply below_drew1) | exact HB.out)) hb); have n1_ := Aside0.mk (hbox); have n2_ := Aside0.mk ((by rw [hg]; exact (below_size (by repeat (first | (with_reducible first | exact HB.out | apply below_alloc | apply pw_below_drewN | apply below_drew1) | exact HB.out))) : w.heap.size ≤ gb107)); have n3_ := Aside0.mk ((by rw [hg]; exact (below_size (by repeat (first | (with_reducible first | exact HB.out | apply below_alloc | apply pw_below_drewN | apply below_drew1) | exact HB.out))) : w.heap.size ≤ gb107)); clear HB; have HB := n0_; have BK107 := n1_; have GW107 := n2_; have GE107 := n3_; clear n0_ n1_ n2_ n3_; clear hb hbox hg) | ((with_reducible refine gate_callee (f := 22) rfl ?_); refine goesL_ (some 14) rfl rfl Tryd.func22 (by kernel_rfl) rfl #[.string a0, .string (⟨#[58]⟩ : ByteArray)] rfl (by (try simp only [List.map_toArray, List.map_cons, List.map_nil]); first | done | rfl | (simp only [List.length_drop, List.length_take]; rfl)) ?_; (with_reducible refine (strings_HasPrefix.calls a0 (⟨#[58]⟩ : ByteArray) t108 _ A3.out).mono ?_); rintro e w' ⟨rfl, ⟨nd, rfl⟩⟩; refine ⟨_, rfl, ?_⟩) | ((with_reducible refine gate_callee (f := 23) rfl ?_); refine goesL_ (some 17) rfl rfl Tryd.func23 (by kernel_rfl) rfl #[.string a0, .string (⟨#[47, 47]⟩ : ByteArray)] rfl (by (try simp only [List.map_toArray, List.map_cons, List.map_nil]); first | done | rfl | (simp only [List.length_drop, List.length_take]; rfl)) ?_; (with_reducible refine (strings_CutPrefix.calls a0 (⟨#[47, 47]⟩ : ByteArray) t109 t110 _ A4.out).mono ?_); rintro e w' ⟨rfl, ⟨nd, rfl⟩⟩; refine ⟨_, rfl, ?_⟩) | ((with_reducible refine gate_callee (f := 24) rfl ?_); refine goesL_ (some 22) rfl rfl Tryd.func24 (by kernel_rfl) rfl #[.string t109, .string (⟨#[58]⟩ : ByteArray)] rfl (by (try simp only [List.map_toArray, List.map_cons, List.map_nil]); first | done | rfl | (simp only [List.length_drop, List.length_take]; rfl)) ?_; (with_reducible refine (strings_Cut.calls t109 (⟨#[58]⟩ : ByteArray) t111 t112 t113 _ A5.out).mono ?_); rintro e w' ⟨rfl, ⟨nd, rfl⟩⟩; refine ⟨_, rfl, ?_⟩))
 (try simp only [Act.put, List.setIfInBounds_toArray, List.set_cons_zero, List.set_cons_succ])
 go_cut [9] (fun v9 wc => ∃ (kq : Nat) (x9_5 : ByteArray) (x108000_5 : ByteArray) (x108001_5 : ByteArray), v9 = .string x9_5 ∧ Aside0 (label_Read.j0 kq a1 t108 x9_5 t112 = some (r1, r2, r3)) ∧ Aside0 (kq ≤ k) ∧ Aside0 (wc.heap[gb107]? = some (.cells #[.string x108000_5, .string x108001_5] 24 (0, 0))) ∧ Aside0 (Below w.heap.size w wc))
 case first =>
  have H := HC6.out
  clear HC6
  by_cases c8 : t108 = true
  ·subst c8
   have H1 : (label_Read.j0 k a1 true a1 t112) = some (r1, r2, r3) := by rw [if_pos rfl] at H; exact H
   clear H
   have H := H1
   clear H1
   have H' := Aside0.mk H
   clear H
   go_wp2
   go_meet
   case rel => exact ⟨_, (a1), ((⟨#[]⟩ : ByteArray)), ((⟨#[]⟩ : ByteArray)), (by first | rfl | (simp; done) | (simp [*]; done)), (by first | exact H' | (subst_vars; exact H')), ⟨by first | omega | exact Nat.le_refl _⟩, ⟨by (with_reducible repeat (first | refine blk_drewN ?_ _ | refine blk_drew ?_ | refine blk_alloc ?_ _)); exact BK107.out⟩, ⟨by repeat (first | (with_reducible first | exact HB.out | apply below_alloc | apply pw_below_drewN | apply below_drew1 | refine below_set ?_ GE107.out) | exact HB.out)⟩⟩
  ·replace c8 := Bool.eq_false_iff.mpr c8
   subst c8
   have H1 : (if t110 = true then (if t113 = true then (label_Read.j0 k a1 false t111 t112) else (some ((⟨#[]⟩ : ByteArray), (⟨#[]⟩ : ByteArray), 3))) else (some ((⟨#[]⟩ : ByteArray), (⟨#[]⟩ : ByteArray), 3))) = some (r1, r2, r3) := by rw [if_neg (show ¬ (false = true) by decide)] at H; exact H
   clear H
   have H := H1
   clear H1
   by_cases c9 : t110 = true
   ·subst c9
    have H1 : (if t113 = true then (label_Read.j0 k a1 false t111 t112) else (some ((⟨#[]⟩ : ByteArray), (⟨#[]⟩ : ByteArray), 3))) = some (r1, r2, r3) := by rw [if_pos rfl] at H; exact H
    clear H
    have H := H1
    clear H1
    by_cases c10 : t113 = true
    ·subst c10
     have H1 : (label_Read.j0 k a1 false t111 t112) = some (r1, r2, r3) := by rw [if_pos rfl] at H; exact H
     clear H
     have H := H1
     clear H1
     have H' := Aside0.mk H
     clear H
     go_wp2
     go_meet
     case rel => exact ⟨_, (t111), ((⟨#[]⟩ : ByteArray)), ((⟨#[]⟩ : ByteArray)), (by first | rfl | (simp; done) | (simp [*]; done)), (by first | exact H' | (subst_vars; exact H')), ⟨by first | omega | exact Nat.le_refl _⟩, ⟨by (with_reducible repeat (first | refine blk_drewN ?_ _ | refine blk_drew ?_ | refine blk_alloc ?_ _)); exact BK107.out⟩, ⟨by repeat (first | (with_reducible first | exact HB.out | apply below_alloc | apply pw_below_drewN | apply below_drew1 | refine below_set ?_ GE107.out) | exact HB.out)⟩⟩
    ·replace c10 := Bool.eq_false_iff.mpr c10
     subst c10
     have H1 : (some ((⟨#[]⟩ : ByteArray), (⟨#[]⟩ : ByteArray), 3)) = some (r1, r2, r3) := by rw [if_neg (show ¬ (false = true) by decide)] at H; exact H
     clear H
     have H := H1
     clear H1
     simp only [Option.some.injEq, Prod.mk.injEq] at H
     obtain ⟨rfl, rfl, rfl⟩ := H
     have hcz11_0 : w7.cell? ⟨gb107, 0, none⟩ = some (.string (⟨#[]⟩ : ByteArray)) := (blk_cell BK107.out 0).trans rfl
     have hcz11_1 : w7.cell? ⟨gb107, 1, none⟩ = some (.string (⟨#[]⟩ : ByteArray)) := (blk_cell BK107.out 1).trans rfl
     have hfz11_0 := blk_frozen BK107.out 0
     have hfz11_1 := blk_frozen BK107.out 1
     go_wp2
     refine bodyPost_ret (results_ct rfl _ _ gb107 24 #[.string (⟨#[]⟩ : ByteArray), .string (⟨#[]⟩ : ByteArray)] (0, 0) _ rfl (by (with_reducible repeat (first | refine blk_drewN ?_ _ | refine blk_drew ?_ | refine blk_alloc ?_ _)); refine blk_put (cs := #[.string (⟨#[]⟩ : ByteArray), .string (⟨#[]⟩ : ByteArray)]) ?_ 1 _ rfl; (with_reducible repeat (first | refine blk_drewN ?_ _ | refine blk_drew ?_ | refine blk_alloc ?_ _)); refine blk_put (cs := #[.string (⟨#[]⟩ : ByteArray), .string (⟨#[]⟩ : ByteArray)]) ?_ 0 _ rfl; (with_reducible repeat (first | refine blk_drewN ?_ _ | refine blk_drew ?_ | refine blk_alloc ?_ _)); exact BK107.out) Tryd.underlying24 rfl (by kernel_rfl)) rfl ?_
     exact ⟨by first | rfl | (simp [errW_none, errW_some] <;> rfl) | (simp [*, errW_none, errW_some] <;> rfl), by repeat (first | (with_reducible first | exact HB.out | apply below_alloc | apply pw_below_drewN | apply below_drew1 | refine below_set ?_ GE107.out) | exact HB.out)⟩
   ·replace c9 := Bool.eq_false_iff.mpr c9
    subst c9
    have H1 : (some ((⟨#[]⟩ : ByteArray), (⟨#[]⟩ : ByteArray), 3)) = some (r1, r2, r3) := by rw [if_neg (show ¬ (false = true) by decide)] at H; exact H
    clear H
    have H := H1
    clear H1
    simp only [Option.some.injEq, Prod.mk.injEq] at H
    obtain ⟨rfl, rfl, rfl⟩ := H
    have hcz12_0 : w7.cell? ⟨gb107, 0, none⟩ = some (.string (⟨#[]⟩ : ByteArray)) := (blk_cell BK107.out 0).trans rfl
    have hcz12_1 : w7.cell? ⟨gb107, 1, none⟩ = some (.string (⟨#[]⟩ : ByteArray)) := (blk_cell BK107.out 1).trans rfl
    have hfz12_0 := blk_frozen BK107.out 0
    have hfz12_1 := blk_frozen BK107.out 1
    go_wp2
    refine bodyPost_ret (results_ct rfl _ _ gb107 24 #[.string (⟨#[]⟩ : ByteArray), .string (⟨#[]⟩ : ByteArray)] (0, 0) _ rfl (by (with_reducible repeat (first | refine blk_drewN ?_ _ | refine blk_drew ?_ | refine blk_alloc ?_ _)); refine blk_put (cs := #[.string (⟨#[]⟩ : ByteArray), .string (⟨#[]⟩ : ByteArray)]) ?_ 1 _ rfl; (with_reducible repeat (first | refine blk_drewN ?_ _ | refine blk_drew ?_ | refine blk_alloc ?_ _)); refine blk_put (cs := #[.string (⟨#[]⟩ : ByteArray), .string (⟨#[]⟩ : ByteArray)]) ?_ 0 _ rfl; (with_reducible repeat (first | refine blk_drewN ?_ _ | refine blk_drew ?_ | refine blk_alloc ?_ _)); exact BK107.out) Tryd.underlying24 rfl (by kernel_rfl)) rfl ?_
    exact ⟨by first | rfl | (simp [errW_none, errW_some] <;> rfl) | (simp [*, errW_none, errW_some] <;> rfl), by repeat (first | (with_reducible first | exact HB.out | apply below_alloc | apply pw_below_drewN | apply below_drew1 | refine below_set ?_ GE107.out) | exact HB.out)⟩
 case rest =>
  clear HC6
  try clear c1
  try clear c2
  try clear p2
  try clear c8
  try clear c9
  try clear c10
  try clear hcz11_0
  try clear hcz11_1
  try clear hcz12_0
  try clear hcz12_1
  try clear hfz11_0
  try clear hfz11_1
  try clear hfz12_0
  try clear hfz12_1
  obtain ⟨kq, x9_5, x108000_5, x108001_5, rfl, HA, HJ5, BK107, HB⟩ := hcut
  cases kq with
  | zero => exact absurd HA.out (by simp [label_Read.j0])
  | succ kj5 =>
   have H := HA.out
   clear HA
   simp only [label_Read.j0] at H
   have HC13 := Aside0.mk H
   clear H
   go_upto_region 9 with (first | ((with_reducible refine gate_dst (N := 12) rfl ?_); refine box_event ?hg (N := 12) ?hd (cs := #[.string (⟨#[]⟩ : ByteArray), .string (⟨#[]⟩ : ByteArray)]) (t := 24) ?hr ?_; (case hd => rfl); (case hg => rfl); (case hr => first | (go_simp; done) | (go_simp; rfl)); intro gb114 hg w14 hbox hb; have n0_ := Aside0.mk (blk_below (g := gb107) (o := .cells #[.string x108000_5, .string x108001_5] 24 (0, 0)) (by (with_reducible repeat (first | refine blk_drewN ?_ _ | refine blk_drew ?_ | refine blk_alloc ?_ _)); exact BK107.out) hb); have n1_ := Aside0.mk (below_step (by repeat (first | (with_reducible first | exact HB.out | apply below_alloc | apply pw_below_drewN | apply below_drew1 | refine below_set ?_ GE107.out) | exact HB.out)) hb); have n2_ := Aside0.mk (hbox); have n3_ := Aside0.mk ((by rw [hg]; exact (below_size (by repeat (first | (with_reducible first | exact HB.out | apply below_alloc | apply pw_below_drewN | apply below_drew1 | refine below_set ?_ GE107.out) | exact HB.out))) : w.heap.size ≤ gb114)); have n4_ := Aside0.mk ((by rw [hg]; exact (below_size (by repeat (first | (with_reducible first | exact HB.out | apply below_alloc | apply pw_below_drewN | apply below_drew1 | refine below_set ?_ GE107.out) | exact HB.out))) : w.heap.size ≤ gb114)); have n5_ := Aside0.mk ((by rw [hg]; exact Nat.ne_of_lt (blk_lt (g := gb107) (o := .cells #[.string x108000_5, .string x108001_5] 24 (0, 0)) (by (with_reducible repeat (first | refine blk_drewN ?_ _ | refine blk_drew ?_ | refine blk_alloc ?_ _)); exact BK107.out)) : gb107 ≠ gb114)); have n6_ := Aside0.mk ((by rw [hg]; exact Nat.ne_of_gt (blk_lt (g := gb107) (o := .cells #[.string x108000_5, .string x108001_5] 24 (0, 0)) (by (with_reducible repeat (first | refine blk_drewN ?_ _ | refine blk_drew ?_ | refine blk_alloc ?_ _)); exact BK107.out)) : gb114 ≠ gb107)); clear BK107; clear HB; have BK107 := n0_; have HB := n1_; have BK114 := n2_; have GW114 := n3_; have GE114 := n4_; have NB107_114 := n5_; have NB114_107 := n6_; clear n0_ n1_ n2_ n3_ n4_ n5_ n6_; clear hb hbox hg; have hnb15 := NB114_107.out; have hnc15 := NB107_114.out; have hcz16_0 : w14.cell? ⟨gb114, 0, none⟩ = some (.string (⟨#[]⟩ : ByteArray)) := (blk_cell BK114.out 0).trans rfl; have hcz16_1 : w14.cell? ⟨gb114, 1, none⟩ = some (.string (⟨#[]⟩ : ByteArray)) := (blk_cell BK114.out 1).trans rfl; have hfz16_0 := blk_frozen BK114.out 0; have hfz16_1 := blk_frozen BK114.out 1))
   (try simp only [Act.put, List.setIfInBounds_toArray, List.set_cons_zero, List.set_cons_succ])
   go_cut [40] (fun v40 wc => ∃ (kq : Nat) (x40_12 : Bool), v40 = .bool x40_12 ∧ Aside0 (label_Read.j1 kq x40_12 x9_5 t112 = some (r1, r2, r3)) ∧ Aside0 (kq ≤ kj5) ∧ Aside0 (wc.heap[gb107]? = some (.cells #[.string x108000_5, .string x108001_5] 24 (0, 0))) ∧ Aside0 (wc.heap[gb114]? = some (.cells #[.string x9_5, .string t112] 24 (0, 0))) ∧ Aside0 (Below w.heap.size w wc))
   case first =>
    have H := HC13.out
    clear HC13
    by_cases c17 : t108 = true
    ·subst c17
     have H1 : ((label_isPkg.f a1).bind fun t115 => (label_Read.j1 kj5 (!t115) x9_5 t112)) = some (r1, r2, r3) := by rw [if_pos rfl] at H; exact H
     clear H
     have H := H1
     clear H1
     replace H := Option.bind_eq_some_iff.mp H
     obtain ⟨t115, A180, H⟩ := H
     replace H : (label_Read.j1 kj5 (!t115) x9_5 t112) = some (r1, r2, r3) := H
     have A18 := Aside0.mk A180
     clear A180
     have H' := Aside0.mk H
     clear H
     go_wp2_with (first | (go_at_call 25; (with_reducible refine (label_isPkg.calls a1 t115 _ A18.out).mono ?_); rintro e w19 ⟨rfl, hb⟩; have n0_ := Aside0.mk (blk_below (g := gb107) (o := .cells #[.string x108000_5, .string x108001_5] 24 (0, 0)) (by (with_reducible repeat (first | refine blk_drewN ?_ _ | refine blk_drew ?_ | refine blk_alloc ?_ _)); refine blk_far ?_ NB107_114.out _; (with_reducible repeat (first | refine blk_drewN ?_ _ | refine blk_drew ?_ | refine blk_alloc ?_ _)); refine blk_far ?_ NB107_114.out _; (with_reducible repeat (first | refine blk_drewN ?_ _ | refine blk_drew ?_ | refine blk_alloc ?_ _)); exact BK107.out) hb); have n1_ := Aside0.mk (blk_below (g := gb114) (o := .cells #[.string x9_5, .string t112] 24 (0, 0)) (by (with_reducible repeat (first | refine blk_drewN ?_ _ | refine blk_drew ?_ | refine blk_alloc ?_ _)); refine blk_put (cs := #[.string x9_5, .string (⟨#[]⟩ : ByteArray)]) ?_ 1 _ rfl; (with_reducible repeat (first | refine blk_drewN ?_ _ | refine blk_drew ?_ | refine blk_alloc ?_ _)); refine blk_put (cs := #[.string (⟨#[]⟩ : ByteArray), .string (⟨#[]⟩ : ByteArray)]) ?_ 0 _ rfl; (with_reducible repeat (first | refine blk_drewN ?_ _ | refine blk_drew ?_ | refine blk_alloc ?_ _)); exact BK114.out) hb); have n2_ := Aside0.mk (below_step (by repeat (first | (with_reducible first | exact HB.out | apply below_alloc | apply pw_below_drewN | apply below_drew1 | refine below_set ?_ GE107.out | refine below_set ?_ GE114.out) | exact HB.out)) hb); clear BK107; clear BK114; clear HB; have BK107 := n0_; have BK114 := n1_; have HB := n2_; clear n0_ n1_ n2_; (try clear hb); (try clear hb2); (try clear hk); (try clear hi)))
     go_meet
     case rel => exact ⟨_, (!t115), (by first | rfl | (simp; done) | (simp [*]; done)), (by first | exact H' | (subst_vars; exact H')), ⟨by have := HJ5.out; first | omega | exact Nat.le_refl _⟩, ⟨by (with_reducible repeat (first | refine blk_drewN ?_ _ | refine blk_drew ?_ | refine blk_alloc ?_ _)); exact BK107.out⟩, ⟨by (with_reducible repeat (first | refine blk_drewN ?_ _ | refine blk_drew ?_ | refine blk_alloc ?_ _)); exact BK114.out⟩, ⟨by repeat (first | (with_reducible first | exact HB.out | apply below_alloc | apply pw_below_drewN | apply below_drew1 | refine below_set ?_ GE107.out | refine below_set ?_ GE114.out) | exact HB.out)⟩⟩
    ·replace c17 := Bool.eq_false_iff.mpr c17
     subst c17
     have H1 : (label_Read.j1 kj5 false x9_5 t112) = some (r1, r2, r3) := by rw [if_neg (show ¬ (false = true) by decide)] at H; exact H
     clear H
     have H := H1
     clear H1
     have H' := Aside0.mk H
     clear H
     go_wp2
     go_meet
     case rel => exact ⟨_, (false), (by first | rfl | (simp; done) | (simp [*]; done)), (by first | exact H' | (subst_vars; exact H')), ⟨by have := HJ5.out; first | omega | exact Nat.le_refl _⟩, ⟨by (with_reducible repeat (first | refine blk_drewN ?_ _ | refine blk_drew ?_ | refine blk_alloc ?_ _)); refine blk_far ?_ NB107_114.out _; (with_reducible repeat (first | refine blk_drewN ?_ _ | refine blk_drew ?_ | refine blk_alloc ?_ _)); refine blk_far ?_ NB107_114.out _; (with_reducible repeat (first | refine blk_drewN ?_ _ | refine blk_drew ?_ | refine blk_alloc ?_ _)); exact BK107.out⟩, ⟨by (with_reducible repeat (first | refine blk_drewN ?_ _ | refine blk_drew ?_ | refine blk_alloc ?_ _)); refine blk_put (cs := #[.string x9_5, .string (⟨#[]⟩ : ByteArray)]) ?_ 1 _ rfl; (with_reducible repeat (first | refine blk_drewN ?_ _ | refine blk_drew ?_ | refine blk_alloc ?_ _)); refine blk_put (cs := #[.string (⟨#[]⟩ : ByteArray), .string (⟨#[]⟩ : ByteArray)]) ?_ 0 _ rfl; (with_reducible repeat (first | refine blk_drewN ?_ _ | refine blk_drew ?_ | refine blk_alloc ?_ _)); exact BK114.out⟩, ⟨by repeat (first | (with_reducible first | exact HB.out | apply below_alloc | apply pw_below_drewN | apply below_drew1 | refine below_set ?_ GE107.out | refine below_set ?_ GE114.out) | exact HB.out)⟩⟩
   case rest =>
    clear HC13
    try clear c1
    try clear c2
    try clear p2
    try clear c8
    try clear c9
    try clear c10
    try clear c15
    try clear c17
    try clear hcz11_0
    try clear hcz11_1
    try clear hcz12_0
    try clear hcz12_1
    try clear hcz16_0
    try clear hcz16_1
    try clear hfz11_0
    try clear hfz11_1
    try clear hfz12_0
    try clear hfz12_1
    try clear hfz16_0
    try clear hfz16_1
    try clear p2
    obtain ⟨kq, x40_12, rfl, HA, HJ12, BK107, BK114, HB⟩ := hcut
    cases kq with
    | zero => exact absurd HA.out (by simp [label_Read.j1])
    | succ kj12 =>
     have H := HA.out
     clear HA
     simp only [label_Read.j1] at H
     by_cases c20 : x40_12 = true
     ·subst c20
      have H1 : (some ((⟨#[]⟩ : ByteArray), (⟨#[]⟩ : ByteArray), 1)) = some (r1, r2, r3) := by rw [if_pos rfl] at H; exact H
      clear H
      have H := H1
      clear H1
      simp only [Option.some.injEq, Prod.mk.injEq] at H
      obtain ⟨rfl, rfl, rfl⟩ := H
      have hnb21 := NB107_114.out
      have hnc21 := NB114_107.out
      have hcz22_0 : wc.cell? ⟨gb107, 0, none⟩ = some (.string x108000_5) := (blk_cell BK107.out 0).trans rfl
      have hcz22_1 : wc.cell? ⟨gb107, 1, none⟩ = some (.string x108001_5) := (blk_cell BK107.out 1).trans rfl
      have hfz22_0 := blk_frozen BK107.out 0
      have hfz22_1 := blk_frozen BK107.out 1
      go_wp2
      refine bodyPost_ret (results_ct rfl _ _ gb107 24 #[.string (⟨#[]⟩ : ByteArray), .string (⟨#[]⟩ : ByteArray)] (0, 0) _ rfl (by (with_reducible repeat (first | refine blk_drewN ?_ _ | refine blk_drew ?_ | refine blk_alloc ?_ _)); refine blk_put (cs := #[.string (⟨#[]⟩ : ByteArray), .string x108001_5]) ?_ 1 _ rfl; (with_reducible repeat (first | refine blk_drewN ?_ _ | refine blk_drew ?_ | refine blk_alloc ?_ _)); refine blk_put (cs := #[.string x108000_5, .string x108001_5]) ?_ 0 _ rfl; (with_reducible repeat (first | refine blk_drewN ?_ _ | refine blk_drew ?_ | refine blk_alloc ?_ _)); exact BK107.out) Tryd.underlying24 rfl (by kernel_rfl)) rfl ?_
      exact ⟨by first | rfl | (simp [errW_none, errW_some] <;> rfl) | (simp [*, errW_none, errW_some] <;> rfl), by repeat (first | (with_reducible first | exact HB.out | apply below_alloc | apply pw_below_drewN | apply below_drew1 | refine below_set ?_ GE107.out | refine below_set ?_ GE114.out) | exact HB.out)⟩
     ·replace c20 := Bool.eq_false_iff.mpr c20
      subst c20
      have H1 : ((label_may.f x9_5 t112).bind fun t116 => (if t116 = true then (some (x9_5, t112, 0)) else (some ((⟨#[]⟩ : ByteArray), (⟨#[]⟩ : ByteArray), 7)))) = some (r1, r2, r3) := by rw [if_neg (show ¬ (false = true) by decide)] at H; exact H
      clear H
      have H := H1
      clear H1
      replace H := Option.bind_eq_some_iff.mp H
      obtain ⟨t116, A230, H⟩ := H
      replace H : (if t116 = true then (some (x9_5, t112, 0)) else (some ((⟨#[]⟩ : ByteArray), (⟨#[]⟩ : ByteArray), 7))) = some (r1, r2, r3) := H
      have A23 := Aside0.mk A230
      clear A230
      by_cases c24 : t116 = true
      ·subst c24
       have H1 : (some (x9_5, t112, 0)) = some (r1, r2, r3) := by rw [if_pos rfl] at H; exact H
       clear H
       have H := H1
       clear H1
       simp only [Option.some.injEq, Prod.mk.injEq] at H
       obtain ⟨rfl, rfl, rfl⟩ := H
       have hnb25 := NB114_107.out
       have hnc25 := NB107_114.out
       have hcz26_0 : wc.cell? ⟨gb114, 0, none⟩ = some (.string x9_5) := (blk_cell BK114.out 0).trans rfl
       have hcz26_1 : wc.cell? ⟨gb114, 1, none⟩ = some (.string t112) := (blk_cell BK114.out 1).trans rfl
       have hfz26_0 := blk_frozen BK114.out 0
       have hfz26_1 := blk_frozen BK114.out 1
       go_wp2_with (first | ((with_reducible refine gate_callee (f := 26) rfl ?_); refine goesL_ (some 50) rfl rfl Tryd.func26 (by kernel_rfl) rfl #[.agg #[.string x9_5, .string t112]] rfl (by (try simp only [List.map_toArray, List.map_cons, List.map_nil]); first | done | rfl | (simp only [List.length_drop, List.length_take]; rfl)) ?_; (with_reducible refine (label_may.calls x9_5 t112 true _ A23.out).mono ?_); rintro e w27 ⟨rfl, hb⟩; refine ⟨_, rfl, ?_⟩; have n0_ := Aside0.mk (blk_below (g := gb107) (o := .cells #[.string x108000_5, .string x108001_5] 24 (0, 0)) (by (with_reducible repeat (first | refine blk_drewN ?_ _ | refine blk_drew ?_ | refine blk_alloc ?_ _)); exact BK107.out) hb); have n1_ := Aside0.mk (blk_below (g := gb114) (o := .cells #[.string x9_5, .string t112] 24 (0, 0)) (by (with_reducible repeat (first | refine blk_drewN ?_ _ | refine blk_drew ?_ | refine blk_alloc ?_ _)); exact BK114.out) hb); have n2_ := Aside0.mk (below_step (by repeat (first | (with_reducible first | exact HB.out | apply below_alloc | apply pw_below_drewN | apply below_drew1 | refine below_set ?_ GE107.out | refine below_set ?_ GE114.out) | exact HB.out)) hb); clear BK107; clear BK114; clear HB; have BK107 := n0_; have BK114 := n1_; have HB := n2_; clear n0_ n1_ n2_; (try clear hb); (try clear hb2); (try clear hk); (try clear hi); have hcz28_0 : w27.cell? ⟨gb114, 0, none⟩ = some (.string x9_5) := (blk_cell BK114.out 0).trans rfl; have hcz28_1 : w27.cell? ⟨gb114, 1, none⟩ = some (.string t112) := (blk_cell BK114.out 1).trans rfl; have hfz28_0 := blk_frozen BK114.out 0; have hfz28_1 := blk_frozen BK114.out 1; have hcz29_0 : w27.cell? ⟨gb107, 0, none⟩ = some (.string x108000_5) := (blk_cell BK107.out 0).trans rfl; have hcz29_1 : w27.cell? ⟨gb107, 1, none⟩ = some (.string x108001_5) := (blk_cell BK107.out 1).trans rfl; have hfz29_0 := blk_frozen BK107.out 0; have hfz29_1 := blk_frozen BK107.out 1))
       refine bodyPost_ret (results_ct rfl _ _ gb107 24 #[.string x9_5, .string t112] (0, 0) _ rfl (by (with_reducible repeat (first | refine blk_drewN ?_ _ | refine blk_drew ?_ | refine blk_alloc ?_ _)); refine blk_put (cs := #[.string x9_5, .string x108001_5]) ?_ 1 _ rfl; (with_reducible repeat (first | refine blk_drewN ?_ _ | refine blk_drew ?_ | refine blk_alloc ?_ _)); refine blk_put (cs := #[.string x108000_5, .string x108001_5]) ?_ 0 _ rfl; (with_reducible repeat (first | refine blk_drewN ?_ _ | refine blk_drew ?_ | refine blk_alloc ?_ _)); exact BK107.out) Tryd.underlying24 rfl (by kernel_rfl)) rfl ?_
       exact ⟨by first | rfl | (simp [errW_none, errW_some] <;> rfl) | (simp [*, errW_none, errW_some] <;> rfl), by repeat (first | (with_reducible first | exact HB.out | apply below_alloc | apply pw_below_drewN | apply below_drew1 | refine below_set ?_ GE107.out | refine below_set ?_ GE114.out) | exact HB.out)⟩
      ·replace c24 := Bool.eq_false_iff.mpr c24
       subst c24
       have H1 : (some ((⟨#[]⟩ : ByteArray), (⟨#[]⟩ : ByteArray), 7)) = some (r1, r2, r3) := by rw [if_neg (show ¬ (false = true) by decide)] at H; exact H
       clear H
       have H := H1
       clear H1
       simp only [Option.some.injEq, Prod.mk.injEq] at H
       obtain ⟨rfl, rfl, rfl⟩ := H
       have hnb30 := NB114_107.out
       have hnc30 := NB107_114.out
       have hcz31_0 : wc.cell? ⟨gb114, 0, none⟩ = some (.string x9_5) := (blk_cell BK114.out 0).trans rfl
       have hcz31_1 : wc.cell? ⟨gb114, 1, none⟩ = some (.string t112) := (blk_cell BK114.out 1).trans rfl
       have hfz31_0 := blk_frozen BK114.out 0
       have hfz31_1 := blk_frozen BK114.out 1
       go_wp2_with (first | ((with_reducible refine gate_callee (f := 26) rfl ?_); refine goesL_ (some 50) rfl rfl Tryd.func26 (by kernel_rfl) rfl #[.agg #[.string x9_5, .string t112]] rfl (by (try simp only [List.map_toArray, List.map_cons, List.map_nil]); first | done | rfl | (simp only [List.length_drop, List.length_take]; rfl)) ?_; (with_reducible refine (label_may.calls x9_5 t112 false _ A23.out).mono ?_); rintro e w32 ⟨rfl, hb⟩; refine ⟨_, rfl, ?_⟩; have n0_ := Aside0.mk (blk_below (g := gb107) (o := .cells #[.string x108000_5, .string x108001_5] 24 (0, 0)) (by (with_reducible repeat (first | refine blk_drewN ?_ _ | refine blk_drew ?_ | refine blk_alloc ?_ _)); exact BK107.out) hb); have n1_ := Aside0.mk (blk_below (g := gb114) (o := .cells #[.string x9_5, .string t112] 24 (0, 0)) (by (with_reducible repeat (first | refine blk_drewN ?_ _ | refine blk_drew ?_ | refine blk_alloc ?_ _)); exact BK114.out) hb); have n2_ := Aside0.mk (below_step (by repeat (first | (with_reducible first | exact HB.out | apply below_alloc | apply pw_below_drewN | apply below_drew1 | refine below_set ?_ GE107.out | refine below_set ?_ GE114.out) | exact HB.out)) hb); clear BK107; clear BK114; clear HB; have BK107 := n0_; have BK114 := n1_; have HB := n2_; clear n0_ n1_ n2_; (try clear hb); (try clear hb2); (try clear hk); (try clear hi); have hcz33_0 : w32.cell? ⟨gb107, 0, none⟩ = some (.string x108000_5) := (blk_cell BK107.out 0).trans rfl; have hcz33_1 : w32.cell? ⟨gb107, 1, none⟩ = some (.string x108001_5) := (blk_cell BK107.out 1).trans rfl; have hfz33_0 := blk_frozen BK107.out 0; have hfz33_1 := blk_frozen BK107.out 1))
       refine bodyPost_ret (results_ct rfl _ _ gb107 24 #[.string (⟨#[]⟩ : ByteArray), .string (⟨#[]⟩ : ByteArray)] (0, 0) _ rfl (by (with_reducible repeat (first | refine blk_drewN ?_ _ | refine blk_drew ?_ | refine blk_alloc ?_ _)); refine blk_put (cs := #[.string (⟨#[]⟩ : ByteArray), .string x108001_5]) ?_ 1 _ rfl; (with_reducible repeat (first | refine blk_drewN ?_ _ | refine blk_drew ?_ | refine blk_alloc ?_ _)); refine blk_put (cs := #[.string x108000_5, .string x108001_5]) ?_ 0 _ rfl; (with_reducible repeat (first | refine blk_drewN ?_ _ | refine blk_drew ?_ | refine blk_alloc ?_ _)); exact BK107.out) Tryd.underlying24 rfl (by kernel_rfl)) rfl ?_
       exact ⟨by first | rfl | (simp [errW_none, errW_some] <;> rfl) | (simp [*, errW_none, errW_some] <;> rfl), by repeat (first | (with_reducible first | exact HB.out | apply below_alloc | apply pw_below_drewN | apply below_drew1 | refine below_set ?_ GE107.out | refine below_set ?_ GE114.out) | exact HB.out)⟩

end Go.Proofs.YtdhilbefeehbaaaDoor.G

/- What label's functions (as Lean functions) come to. No program's run. -/
namespace Go.Proofs.YtdhilbefeehbaaaDoor.G
open Go.RowKit Go.Gw Go.Proofs.YtdhilbefeehbaaaDoorW.PrintWords
set_option linter.unusedVariables false
set_option linter.unusedSimpArgs false

/-- A list of bytes as a string. -/
def B (l : List UInt8) : ByteArray := ⟨l.toArray⟩
theorem B_data (l : List UInt8) : (B l).data.toList = l := rfl
theorem B_of (s : ByteArray) : B s.data.toList = s := str_mk s
theorem B_toList (l : List UInt8) : (B l).toList = l := by rw [Lib.toList_data]; rfl
theorem B_size (l : List UInt8) : (B l).size = l.length := by rw [← data_length]; rfl
theorem B_inj {a b : List UInt8} : B a = B b ↔ a = b := ⟨fun h => by rw [← B_data a, h, B_data], fun h => by rw [h]⟩
theorem B_app (a b : List UInt8) : B a ++ B b = B (a ++ b) := by
  apply str_ext
  simp [B]
theorem B_ext (l : List UInt8) (a b : Nat) : (B l).extract a b = B ((l.drop a).take (b - a)) := by rw [ext_mid]; rfl
theorem B_take (l : List UInt8) (n : Nat) : (B l).extract 0 n = B (l.take n) := by rw [B_ext]; rfl
theorem B_drop (l : List UInt8) (n : Nat) : (B l).extract n (B l).size = B (l.drop n) := by rw [ext_drop]; rfl
theorem bt_get (l : List UInt8) (i : Int) (h : i.toNat < l.length) : bt (B l) i = ((l[i.toNat]'h).toNat : Int) := by
  rw [← bt_at (B l) i (by rw [B_size]; exact h)]
  rfl
theorem bt_nat (l : List UInt8) (i : Nat) (h : i < l.length) : bt (B l) (i : Int) = ((l[i]'h).toNat : Int) := bt_get l (i : Int) (by simpa using h)
theorem w64 {x : Int} (h1 : -9223372036854775808 ≤ x) (h2 : x ≤ 9223372036854775807) : wrap64 x = x := by unfold wrap64; omega
theorem toNat_eq {c d : UInt8} : ((c.toNat : Int) = (d.toNat : Int)) ↔ c = d := by rw [Int.ofNat_inj, UInt8.toNat_inj]
/-- From some number of rounds on. -/
theorem Ev.cond {α : Type} {c : Prop} [Decidable c] {g f : Nat → Option α} {r : α} (h : (c → Ev g r) ∧ (¬ c → Ev f r)) : Ev (fun k => if c then g k else f k) r := by
  by_cases hc : c
  · refine Ev.congr (f := g) (fun k => if_pos hc) (h.1 hc)
  · refine Ev.congr (f := f) (fun k => if_neg hc) (h.2 hc)
theorem Ev.pos {α : Type} {c : Prop} [Decidable c] {g f : Nat → Option α} {r : α} (hc : c) (h : Ev g r) : Ev (fun k => if c then g k else f k) r := Ev.congr (f := g) (fun k => if_pos hc) h
theorem Ev.neg {α : Type} {c : Prop} [Decidable c] {g f : Nat → Option α} {r : α} (hc : ¬ c) (h : Ev f r) : Ev (fun k => if c then g k else f k) r := Ev.congr (f := f) (fun k => if_neg hc) h
theorem Ev.some_ {α : Type} {g : Nat → Option α} {r : α} (h : ∀ k, g k = some r) : Ev g r := ⟨0, fun k _ => h k⟩

/-! ### Tests -/
theorem may_f {s : List UInt8} (h : s.length ≤ 140737488351232) : path_May.f (B s) = some (Lb.may s) := by
  unfold path_May.f
  rw [if_pos (by rw [B_size]; exact h)]
  rfl
theorem isPkg_f {s : List UInt8} (h : s.length ≤ 140737488351232) : label_isPkg.f (B s) = some (Lb.pkg s) := by
  unfold label_isPkg.f
  rw [B_toList, may_f h]
  unfold Lb.pkg
  by_cases h0 : s = []
  · rw [if_pos h0, h0]; rfl
  · rw [if_neg h0, beq_eq_false_iff_ne.2 h0]; rfl
theorem idx_mem (c : UInt8) : ∀ l : List UInt8, (0 ≤ Lib.indexByte l c) ↔ c ∈ l := by
  intro l
  induction l with
  | nil => simp [Lib.indexByte]
  | cons d l ih =>
    have hg := Lib.indexByte_ge l c
    have e : Lib.indexByte (d :: l) c = if d == c then 0 else if Lib.indexByte l c == -1 then -1 else Lib.indexByte l c + 1 := rfl
    rw [List.mem_cons, ← ih, e]
    by_cases h : d = c
    · rw [if_pos (by simp [h])]
      simp [h]
    · rw [if_neg (by simpa using h)]
      have h' : c ≠ d := fun e => h e.symm
      by_cases h1 : Lib.indexByte l c = -1
      · rw [if_pos (by simp [h1]), h1]
        simp [h']
      · rw [if_neg (by simpa using h1)]
        constructor
        · intro _; right; omega
        · intro _; omega
theorem isName_f {s : List UInt8} (h : s.length ≤ 140737488351232) : label_isName.f (B s) = some (Lb.part s) := by
  unfold label_isName.f
  rw [may_f h, ← Lb.name_part]
  simp only [Option.bind_some]
  cases h1 : Lb.may s with
  | false => rw [if_neg (by decide)]; rfl
  | true =>
    rw [if_pos rfl]
    rw [show strings_Contains.f (B s) ⟨#[47]⟩ = some (decide (0 ≤ Lib.indexByte s 47)) from if_pos rfl]
    have e : decide (0 ≤ Lib.indexByte s 47) = s.contains 47 := by
      rw [Bool.eq_iff_iff, decide_eq_true_iff, idx_mem, List.contains_iff_mem]
    rw [e]
    rfl
theorem mayL_f {p n : List UInt8} (hp : p.length ≤ 140737488351232) (hn : n.length ≤ 140737488351232) : label_may.f (B p) (B n) = some (Lb.mayL p n) := by
  unfold label_may.f
  rw [isPkg_f hp, isName_f hn]
  simp only [Option.bind_some]
  unfold Lb.mayL
  cases Lb.pkg p <;> simp
/-! ### Texts -/
theorem text_f {p n : List UInt8} (hp : p.length ≤ 1000000) (hn : n.length ≤ 1000000) : label_Text.f (B p) (B n) = some (B (Lb.text ⟨p, n⟩)) := by
  unfold label_Text.f
  rw [mayL_f (by omega) (by omega)]
  simp only [Option.bind_some]
  have e2 : (⟨#[47, 47]⟩ : ByteArray) = B [47, 47] := rfl
  have e1 : (⟨#[58]⟩ : ByteArray) = B [58] := rfl
  have e0 : (⟨#[]⟩ : ByteArray) = B [] := rfl
  rw [e2, e1, e0]
  simp only [B_app, B_size]
  unfold Lb.text Lb.Label.may
  cases h : Lb.mayL p n with
  | false => rw [if_neg (by decide)]; simp
  | true =>
    rw [if_pos rfl, if_pos (by omega), if_pos (by simp; omega), if_pos (by simp; omega)]
    simp
theorem short_f {p n q : List UInt8} (hp : p.length ≤ 1000000) (hn : n.length ≤ 1000000) : label_Short.f (B p) (B n) (B q) = some (B (Lb.short ⟨p, n⟩ q)) := by
  unfold label_Short.f
  rw [mayL_f (by omega) (by omega), text_f hp hn]
  simp only [Option.bind_some]
  have e1 : (⟨#[58]⟩ : ByteArray) = B [58] := rfl
  rw [e1, B_toList, B_toList]
  simp only [B_app, B_size]
  by_cases h : Lb.mayL p n = true
  · rw [if_pos h]
    by_cases hq : p = q
    · rw [if_pos hq, if_pos (by omega), Lb.short, if_pos ⟨h, hq⟩]; rfl
    · rw [if_neg hq, Lb.short, if_neg (fun hh => hq hh.2)]
  · rw [if_neg h, Lb.short, if_neg (fun hh => h hh.1)]
/-! ### Read -/
def trip : Nat ⊕ Lb.Label → ByteArray × ByteArray × Int
  | .inl e => (B [], B [], e)
  | .inr l => (B l.pkg, B l.name, 0)
theorem colon_idx (s : List UInt8) : Lb.colon s = if 0 ≤ Lib.indexByte s 58 then some (s.take (Lib.indexByte s 58).toNat, s.drop ((Lib.indexByte s 58).toNat + 1)) else none := by
  induction s with
  | nil => rfl
  | cons d l ih =>
    have hg := Lib.indexByte_ge l 58
    have e : Lib.indexByte (d :: l) 58 = if d == 58 then 0 else if Lib.indexByte l 58 == -1 then -1 else Lib.indexByte l 58 + 1 := rfl
    rw [e, Lb.colon, ih]
    by_cases h : d = 58
    · rw [if_pos h, if_pos (show (d == 58) = true by simp [h]), if_pos (Int.le_refl _)]; rfl
    · rw [if_neg h, if_neg (show ¬ (d == 58) = true by simpa using h)]
      by_cases h1 : Lib.indexByte l 58 = -1
      · rw [if_pos (show (Lib.indexByte l 58 == -1) = true by simp [h1]), if_neg (show ¬ 0 ≤ Lib.indexByte l 58 by omega), if_neg (by omega)]; rfl
      · rw [if_neg (show ¬ (Lib.indexByte l 58 == -1) = true by simpa using h1), if_pos (show 0 ≤ Lib.indexByte l 58 by omega), if_pos (show 0 ≤ Lib.indexByte l 58 + 1 by omega)]
        obtain ⟨i, hi⟩ : ∃ i : Nat, Lib.indexByte l 58 = i := ⟨(Lib.indexByte l 58).toNat, by omega⟩
        rw [hi, show ((i : Int) + 1).toNat = i + 1 by omega]
        rfl
theorem cut_f (s : List UInt8) (h : s.length ≤ 140737488351232) : strings_Cut.f (B s) ⟨#[58]⟩ = some (match Lb.colon s with | none => (B s, B [], false) | some (a, b) => (B a, B b, true)) := by
  have e : strings_Cut.f (B s) ⟨#[58]⟩ = some (cutA (B s) 58, cutB (B s) 58, decide (0 ≤ Lib.indexByte s 58)) := if_pos ⟨by rw [B_size]; exact h, rfl⟩
  rw [e, colon_idx]
  have ea : cutA (B s) 58 = if 0 ≤ Lib.indexByte s 58 then (B s).extract 0 (Lib.indexByte s 58).toNat else B s := rfl
  have eb : cutB (B s) 58 = if 0 ≤ Lib.indexByte s 58 then (B s).extract ((Lib.indexByte s 58).toNat + 1) (B s).size else B [] := rfl
  rw [ea, eb]
  by_cases h1 : 0 ≤ Lib.indexByte s 58
  · rw [if_pos h1, if_pos h1, if_pos h1, decide_eq_true h1, B_take, B_drop]
  · rw [if_neg h1, if_neg h1, if_neg h1, decide_eq_false h1]
theorem pre_f (s p : List UInt8) : strings_HasPrefix.f (B s) (B p) = some (p.isPrefixOf s) := rfl
theorem cutPre_f (s p : List UInt8) : strings_CutPrefix.f (B s) (B p) = some (if p.isPrefixOf s then B (s.drop p.length) else B s, p.isPrefixOf s) := by
  have e : strings_CutPrefix.f (B s) (B p) = some (if p.isPrefixOf s then (B s).extract (B p).size (B s).size else B s, p.isPrefixOf s) := rfl
  rw [e, B_drop, B_size]
/-- The end of Read. -/
theorem read_end (k : Nat) (own : Bool) (p n q : List UInt8) (hp : p.length ≤ 1000000) (hn : n.length ≤ 1000000) (hq : q.length ≤ 1000000) :
    label_Read.j0 (k + 2) (B q) own (B p) (B n) = some (trip (if own = true ∧ Lb.pkg q = false then .inl 1 else if Lb.mayL p n = false then .inl 7 else .inr ⟨p, n⟩)) := by
  have e1 : ∀ b, label_Read.j1 (k + 1) b (B p) (B n) = some (trip (if b = true then .inl 1 else if Lb.mayL p n = false then .inl 7 else .inr ⟨p, n⟩)) := by
    intro b
    rw [label_Read.j1, mayL_f (by omega) (by omega)]
    cases b with
    | true => rfl
    | false =>
      simp only [Option.bind_some]
      cases Lb.mayL p n <;> rfl
  rw [label_Read.j0, isPkg_f (by omega)]
  simp only [Option.bind_some]
  cases own with
  | false => rw [if_neg (by decide), e1]; simp
  | true =>
    rw [if_pos rfl, e1]
    cases Lb.pkg q <;> simp
theorem colon_size {s a b : List UInt8} (h : Lb.colon s = some (a, b)) : a.length ≤ s.length ∧ b.length ≤ s.length := by
  have := (Lb.colon_back s a b h).1
  rw [this]
  simp
  omega
theorem read_none (s p : List UInt8) (h1 : ∀ r, s ≠ 58 :: r) (h2 : ∀ t, s ≠ 47 :: 47 :: t) : Lb.read s p = .inl 3 := by
  unfold Lb.read
  split
  · exact absurd rfl (h1 _)
  · exact absurd rfl (h2 _)
  · rfl
theorem read_ev (s p : List UInt8) (hs : s.length ≤ 1000000) (hp : p.length ≤ 1000000) : Ev (fun k => label_Read.f k (B s) (B p)) (trip (Lb.read s p)) := by
  refine Ev.step (f := fun k => label_Read.f (k + 1) (B s) (B p)) (fun k => rfl) (Ev.step (f := fun k => label_Read.f (k + 2) (B s) (B p)) (fun k => rfl) (Ev.some_ fun k => ?_))
  unfold label_Read.f
  have e2 : (⟨#[47, 47]⟩ : ByteArray) = B [47, 47] := rfl
  have e1 : (⟨#[58]⟩ : ByteArray) = B [58] := rfl
  rw [e2, show strings_HasPrefix.f (B s) ⟨#[58]⟩ = some ([58].isPrefixOf s) from rfl, cutPre_f]
  simp only [Option.bind_some]
  by_cases h1 : ∃ r, s = 58 :: r
  · obtain ⟨r, rfl⟩ := h1
    rw [show [58].isPrefixOf (58 :: r) = true from rfl, show [47, 47].isPrefixOf (58 :: r) = false from rfl]
    simp only [if_false, Bool.false_eq_true]
    rw [cut_f _ (by omega), show Lb.colon (58 :: r) = some ([], r) from rfl]
    simp only [Option.bind_some, if_true]
    rw [read_end k true p r p hp (by simp at hs; omega) hp]
    rw [Lb.read]
    simp
  · have n1 : [58].isPrefixOf s = false := by
      cases s with
      | nil => rfl
      | cons c r =>
        have : ¬ (58 : UInt8) = c := fun e => h1 ⟨r, by rw [e]⟩
        simp [List.isPrefixOf, this]
    rw [n1]
    by_cases h2 : ∃ t, s = 47 :: 47 :: t
    · obtain ⟨t, rfl⟩ := h2
      rw [show [47, 47].isPrefixOf (47 :: 47 :: t) = true by simp [List.isPrefixOf]]
      simp only [if_true, Bool.false_eq_true, if_false]
      rw [show List.drop ([47, 47] : List UInt8).length (47 :: 47 :: t) = t from rfl, cut_f _ (by simp at hs; omega), Lb.read]
      cases hc : Lb.colon t with
      | none => rfl
      | some x =>
        obtain ⟨a, b⟩ := x
        have hz := colon_size hc
        simp at hs
        simp only [Option.bind_some, if_true]
        rw [read_end k false a b p (by omega) (by omega) hp]
        simp
    · have n2 : [47, 47].isPrefixOf s = false := by
        match s, h2 with
        | [], _ => rfl
        | [c], _ => simp [List.isPrefixOf]
        | c :: d :: t, h2 =>
          rw [Bool.eq_false_iff]
          intro h
          simp [List.isPrefixOf] at h
          exact h2 ⟨t, by rw [← h.1, ← h.2]⟩
      rw [n2, read_none s p (fun r e => h1 ⟨r, e⟩) (fun t e => h2 ⟨t, e⟩)]
      simp only [Bool.false_eq_true, if_false]
      rw [cut_f _ (by omega)]
      rfl
end Go.Proofs.YtdhilbefeehbaaaDoor.G

/- Go functions as Lean functions, each with its contract: written by a program of mine over the kit's print. Conditions: each contract's own. -/
namespace Go.Proofs.YtdhilbefeehbaaaDoor.G
open Go.RowKit Go.Proofs.YtdhilbefeehbaaaDoorW.PrintWords Go.Proofs.YtdhilbefeehbaaaDoorW.PrintLast Go.Proofs.YtdhilbefeehbaaaDoorW.PrintMore
attribute [local go_sem] max2_int min2_int max_two min_two max_three min_three max_four min_four   -- for this text's walks alone
set_option linter.unusedVariables false
set_option linter.unusedSimpArgs false

/-! ### bloomeryref03_Parts: function 47 -/
def bloomeryref03_Parts.l0 : Nat → ByteArray → List ByteArray → Int → Option (List ByteArray)
 | 0, _, _, _ => none
 | k + 1, x0, x3, x4 => if x4 < (x0.size : Int) then (if 0 ≤ x4 then (if (bt x0 x4) = 47 then (if x3.length < 8796093022208 then (bloomeryref03_Parts.l0 k x0 (x3 ++ [(⟨#[]⟩ : ByteArray)]) (wrap64 (x4 + 1))) else (none)) else (if 0 ≤ (wrap64 ((x3.length : Int) - 1)) then (if (wrap64 ((x3.length : Int) - 1)) < (x3.length : Int) then (if x4 ≤ (wrap64 (x4 + 1)) then (if (wrap64 (x4 + 1)) ≤ (x0.size : Int) then (if (rdOf ByteArray.empty x3 (wrap64 ((x3.length : Int) - 1))).size + (x0.extract (x4 : Int).toNat ((wrap64 (x4 + 1)) : Int).toNat).size ≤ 9223372036854775807 then (bloomeryref03_Parts.l0 k x0 (x3.set ((wrap64 ((x3.length : Int) - 1)) : Int).toNat ((rdOf ByteArray.empty x3 (wrap64 ((x3.length : Int) - 1))) ++ (x0.extract (x4 : Int).toNat ((wrap64 (x4 + 1)) : Int).toNat))) (wrap64 (x4 + 1))) else (none)) else (none)) else (none)) else (none)) else (none))) else (none)) else (some x3)
def bloomeryref03_Parts.f (k : Nat) (a0 : ByteArray) : Option (List ByteArray) := bloomeryref03_Parts.l0 k a0 (([(⟨#[]⟩ : ByteArray)] : List ByteArray)) 0
def bloomeryref03_Parts.T7 : Bool × List (List Nat × List Nat) := (true, [([], []), ([], []), ([1], [1]), ([2], [2]), ([], []), ([], []), ([5], [5]), ([6], [6]), ([4, 7], [4, 7]), ([8], [8]), ([], []), ([], []), ([], []), ([12], [12]), ([10, 11, 13], [10, 11, 13]), ([9, 14], [9, 14]), ([0, 3, 0, 1, 2, 3, 4, 5, 6, 7, 8, 9, 10, 11, 12, 13, 14, 15], [0, 3]), ([16, 15, 0, 1, 2, 3, 4, 5, 6, 7, 8, 9, 10, 11, 12, 13, 14, 15], [15, 16])])
def bloomeryref03_Parts.B7 : List Nat := [0, 0, 2, 6, 0, 0, 32, 96, 240, 496, 0, 0, 0, 4096, 15360, 32752, 65535, 131071]
theorem bloomeryref03_Parts.tab7 : rtab .any (opsOf Tryd.f47 7) = bloomeryref03_Parts.T7 := by kernel_rfl
theorem bloomeryref03_Parts.bits7 : waitsOk bloomeryref03_Parts.T7.2 bloomeryref03_Parts.B7 = true := by kernel_rfl
set_option maxHeartbeats 8000000 in
set_option maxRecDepth 100000 in
theorem bloomeryref03_Parts.calls (k : Nat) (a0 : ByteArray) (r : List ByteArray) (w : World) (h : bloomeryref03_Parts.f k a0 = some r) :
  Calls Tryd.prog 47 #[.string a0] w fun e w' => ∃ v0_ : Value, e = .returned (v0_) ∧ Kd.R Kd.string 9 w' w.heap.size (fun _ => True) v0_ r ∧ Below w.heap.size w w' := by
 have HB := Aside0.mk (Below.refl w.heap.size w)
 have H : (bloomeryref03_Parts.l0 k a0 (([(⟨#[]⟩ : ByteArray)] : List ByteArray)) 0) = some r := h
 clear h
 obtain ⟨y136, hy136⟩ : ∃ y_ : List ByteArray, y_ = (([(⟨#[]⟩ : ByteArray)] : List ByteArray)) := ⟨_, rfl⟩
 replace H : (bloomeryref03_Parts.l0 k a0 y136 0) = some r := by first | (rw [hy136]; with_reducible exact H) | (have H2_ := (Option.bind_some _ _).symm.trans H; rw [hy136]; with_reducible exact H2_) | (have H2_ := (Option.bind_some _ _).symm.trans H; with_reducible exact H2_) | with_reducible exact H | (rw [hy136]; exact H) | exact H
 have Ny136 := Aside0.mk hy136
 clear hy136
 have H' := Aside0.mk H
 clear H
 go_enter Tryd.func47, Tryd.ntmps47
 go_wp2_with (first | ((with_reducible refine gate_dst (N := 5) rfl ?_); refine Kd.R_lit Kd.string _ 9 ?hg (N := 5) ?hd (xs := ([(⟨#[]⟩ : ByteArray)] : List ByteArray)) (inner := [.string (⟨#[]⟩ : ByteArray)]) (ok := fun _ => True) (okp := fun _ => True) ?hr ?hp (fun _ hk => hk) trivial (Below.refl _ _) (Nat.le_refl _) (by simp) ?_; (case hd => rfl); (case hg => rfl); (case hr => first | (go_simp; done) | (go_simp; rfl)); (case hp => exact (Reps.one (show Kd.M Kd.string _ _ _ (⟨#[]⟩ : ByteArray) [.string (⟨#[]⟩ : ByteArray)] from rfl) (Reps.none _ _))); intro v137 w2 ho3 hb hg_ hnew_; clear hg_ hnew_; (first | rw [← Ny136.out] at ho3 | (simp only [Int.reduceToNat] at ho3; rw [← Ny136.out] at ho3)); have n0_ := Aside0.mk (Kd.R_lower ho3 (below_size (by repeat (first | (with_reducible first | exact HB.out | apply below_alloc | apply pw_below_drewN | apply below_drew1) | exact HB.out)))); have n1_ := Aside0.mk (below_step (by repeat (first | (with_reducible first | exact HB.out | apply below_alloc | apply pw_below_drewN | apply below_drew1) | exact HB.out)) hb); clear HB; have HO138 := n0_; have HB := n1_; clear n0_ n1_; clear hb ho3))
 go_loopg [3, 4] k (fun kq v3 v4 w' => ∃ (x3_1 : List ByteArray) (x4_1 : Int), v4 = .int .i64 x4_1 ∧ Aside0 (bloomeryref03_Parts.l0 kq a0 x3_1 x4_1 = some r) ∧ Aside0 (kq ≤ k) ∧ Aside0 (Kd.R Kd.string 9 w' w.heap.size (fun _ => True) v3 x3_1) ∧ Aside0 (Below w.heap.size w w'))
 case atStart => exact ⟨(y136), (0), (by first | rfl | (simp; done) | (simp [*]; done)), (by first | exact H' | (subst_vars; exact H')), ⟨Nat.le_refl _⟩, ⟨by (with_reducible repeat (first | apply Kd.R_alloc | apply Kd.R_drewN | apply Kd.R_drew)); exact HO138.out⟩, ⟨by repeat (first | (with_reducible first | exact HB.out | apply below_alloc | apply pw_below_drewN | apply below_drew1) | exact HB.out)⟩⟩
 case round =>
  clear H'
  try clear p2
  obtain ⟨x3_1, x4_1, rfl, HA, HK1, HO_3, HB⟩ := hrel
  cases gk with
  | zero => exact absurd HA.out (by simp [bloomeryref03_Parts.l0])
  | succ k1 =>
   have H := HA.out
   clear HA
   simp only [bloomeryref03_Parts.l0] at H
   by_cases c4 : x4_1 < (a0.size : Int)
   ·rw [if_pos c4] at H
    have c4b0 : decide (x4_1 < (a0.size : Int)) = true := decide_eq_true c4
    clear c4
    by_cases c5 : 0 ≤ x4_1
    ·rw [if_pos c5] at H
     have c5b0 : decide (0 ≤ x4_1) = true := decide_eq_true c5
     clear c5
     by_cases c7 : (bt a0 x4_1) = 47
     ·rw [if_pos c7] at H
      have c7b0 : ((bt a0 x4_1) == 47) = true := beq_iff_eq.mpr c7
      have c7b1 : ((bt a0 x4_1) != 47) = false := bne_eq_false_iff_eq.mpr c7
      clear c7
      by_cases c8 : x3_1.length < 8796093022208
      ·rw [if_pos c8] at H
       have LMc8 := Aside0.mk c8
       clear c8
       obtain ⟨y139, hy139⟩ : ∃ y_ : List ByteArray, y_ = (x3_1 ++ [(⟨#[]⟩ : ByteArray)]) := ⟨_, rfl⟩
       replace H : (bloomeryref03_Parts.l0 k1 a0 y139 (wrap64 (x4_1 + 1))) = some r := by first | (rw [hy139]; with_reducible exact H) | (have H2_ := (Option.bind_some _ _).symm.trans H; rw [hy139]; with_reducible exact H2_) | (have H2_ := (Option.bind_some _ _).symm.trans H; with_reducible exact H2_) | with_reducible exact H | (rw [hy139]; exact H) | exact H
       have Ny139 := Aside0.mk hy139
       clear hy139
       have H' := Aside0.mk H
       clear H
       have p6 : 0 ≤ (x4_1 : Int) := of_decide_eq_true (by first | (with_reducible assumption) | assumption)
       have q6 : x4_1 < (a0.size : Int) := of_decide_eq_true (by first | (with_reducible assumption) | assumption)
       have hx6 := bt_at a0 x4_1
       replace p6 := eq_true p6
       replace q6 := eq_true q6
       go_wp2_with (first | ((with_reducible refine gate_builtin (b := .append) (xs := #[.tmp 16, .tmp 17]) rfl ?_); at_builtin; refine Kd.R_append Kd.string (w0 := w) w.heap.size rfl (.tmp 16) (.tmp 17) 35 9 (.string ⟨#[]⟩) 16 rfl Tryd.underlying35 info9 rfl (by decide) (by omega) u3 x3_1 (⟨#[]⟩ : ByteArray) [.string (⟨#[]⟩ : ByteArray)] (fun _ => True) (fun _ => False) rfl rfl ?aP (fun _ hk => hk.elim) ?aF ?aO ?aB ?aS ?aL ?_; (case aP => exact rfl); (case aB => exact (by repeat (first | (with_reducible first | exact HB.out | apply below_alloc | apply pw_below_drewN | apply below_drew1) | exact HB.out))); (case aF => exact (fun _ _ => trivial)); (case aO => exact (by (with_reducible repeat (first | apply Kd.R_alloc | apply Kd.R_drewN | apply Kd.R_drew)); exact HO_3.out)); (case aS => exact (below_size (by repeat (first | (with_reducible first | exact HB.out | apply below_alloc | apply pw_below_drewN | apply below_drew1) | exact HB.out)))); (case aL => have := LMc8.out; omega); intro v140 w9 ho hb hg hat; rw [← Ny139.out] at ho; have n0_ := Aside0.mk (hb); have n1_ := Aside0.mk (ho); clear HB; clear HO_3; have HB := n0_; have HO141 := n1_; clear n0_ n1_; clear ho hb hg hat))
       go_roundg k1
       case measure => have := HK1.out; omega
       case rel => exact ⟨(y139), (wrap64 (x4_1 + 1)), (by first | rfl | (simp; done) | (simp [*]; done)), (by first | exact H' | (subst_vars; exact H')), ⟨by have := HK1.out; omega⟩, ⟨by (with_reducible repeat (first | apply Kd.R_alloc | apply Kd.R_drewN | apply Kd.R_drew)); exact HO141.out⟩, ⟨by repeat (first | (with_reducible first | exact HB.out | apply below_alloc | apply pw_below_drewN | apply below_drew1) | exact HB.out)⟩⟩
      ·rw [if_neg c8] at H
       exact absurd H (by simp)
     ·rw [if_neg c7] at H
      have c7b0 : ((bt a0 x4_1) == 47) = false := beq_eq_false_iff_ne.mpr c7
      have c7b1 : ((bt a0 x4_1) != 47) = true := bne_iff_ne.mpr c7
      obtain ⟨ji10, hji10⟩ : ∃ j_ : Int, (wrap64 ((x3_1.length : Int) - 1)) = j_ := ⟨_, rfl⟩
      replace H : (if 0 ≤ (ji10) then (if (ji10) < (x3_1.length : Int) then (if x4_1 ≤ (wrap64 (x4_1 + 1)) then (if (wrap64 (x4_1 + 1)) ≤ (a0.size : Int) then (if (rdOf ByteArray.empty x3_1 (ji10)).size + (a0.extract (x4_1 : Int).toNat ((wrap64 (x4_1 + 1)) : Int).toNat).size ≤ 9223372036854775807 then (bloomeryref03_Parts.l0 k1 a0 (x3_1.set ((ji10) : Int).toNat ((rdOf ByteArray.empty x3_1 (ji10)) ++ (a0.extract (x4_1 : Int).toNat ((wrap64 (x4_1 + 1)) : Int).toNat))) (wrap64 (x4_1 + 1))) else (none)) else (none)) else (none)) else (none)) else (none)) = some r := by first | (rw [hji10] at H; exact H) | (simp only [hji10] at H ⊢; exact H)
      have hji10w : (IntKind.i64.wrap ((x3_1.length : Int) - 1)) = ji10 := (i64_w _).trans hji10
      by_cases c11 : 0 ≤ (ji10)
      ·rw [if_pos c11] at H
       have c11b0 : decide (0 ≤ (ji10)) = true := decide_eq_true c11
       clear c11
       by_cases c12 : (ji10) < (x3_1.length : Int)
       ·rw [if_pos c12] at H
        have c12b0 : decide ((ji10) < (x3_1.length : Int)) = true := decide_eq_true c12
        clear c12
        have c13b0 := eq_true (of_decide_eq_true (by first | (with_reducible assumption) | assumption) : 0 ≤ x4_1)
        by_cases c14 : x4_1 ≤ (wrap64 (x4_1 + 1))
        ·rw [if_pos c14] at H
         have c14b0 := eq_true c14
         have c14b1 : decide (x4_1 ≤ (wrap64 (x4_1 + 1))) = true := decide_eq_true c14
         by_cases c15 : (wrap64 (x4_1 + 1)) ≤ (a0.size : Int)
         ·rw [if_pos c15] at H
          have c15b0 := eq_true c15
          have c15b1 : decide ((wrap64 (x4_1 + 1)) ≤ (a0.size : Int)) = true := decide_eq_true c15
          by_cases c16 : (rdOf ByteArray.empty x3_1 (ji10)).size + (a0.extract (x4_1 : Int).toNat ((wrap64 (x4_1 + 1)) : Int).toNat).size ≤ 9223372036854775807
          ·rw [if_pos c16] at H
           have c16b0 := eq_true c16
           have c16b1 : decide ((rdOf ByteArray.empty x3_1 (ji10)).size + (a0.extract (x4_1 : Int).toNat ((wrap64 (x4_1 + 1)) : Int).toNat).size ≤ 9223372036854775807) = true := decide_eq_true c16
           try have c16b2 : (9223372036854775807 < (rdOf ByteArray.empty x3_1 (ji10)).size + (a0.extract (x4_1 : Int).toNat ((wrap64 (x4_1 + 1)) : Int).toNat).size) = False := eq_false (Nat.not_lt.2 c16)
           try have c16b6 : (9223372036854775807 < (rdOf ByteArray.empty x3_1 (ji10)).size + (((wrap64 (x4_1 + 1)) : Int).toNat - (x4_1 : Int).toNat)) = False := (by have e_ : (a0.extract (x4_1 : Int).toNat ((wrap64 (x4_1 + 1)) : Int).toNat).size = (((wrap64 (x4_1 + 1)) : Int).toNat - (x4_1 : Int).toNat) := (by rw [ByteArray.size_extract]; omega); rw [← e_]; exact eq_false (Nat.not_lt.2 c16))
           obtain ⟨y143, hy143⟩ : ∃ y_ : List ByteArray, y_ = (x3_1.set ((ji10) : Int).toNat ((rdOf ByteArray.empty x3_1 (ji10)) ++ (a0.extract (x4_1 : Int).toNat ((wrap64 (x4_1 + 1)) : Int).toNat))) := ⟨_, rfl⟩
           replace H : (bloomeryref03_Parts.l0 k1 a0 y143 (wrap64 (x4_1 + 1))) = some r := by first | (rw [hy143]; with_reducible exact H) | (have H2_ := (Option.bind_some _ _).symm.trans H; rw [hy143]; with_reducible exact H2_) | (have H2_ := (Option.bind_some _ _).symm.trans H; with_reducible exact H2_) | with_reducible exact H | (rw [hy143]; exact H) | exact H
           have Ny143 := Aside0.mk hy143
           clear hy143
           have H' := Aside0.mk H
           clear H
           have p6 : 0 ≤ (x4_1 : Int) := of_decide_eq_true (by first | (with_reducible assumption) | assumption)
           have q6 : x4_1 < (a0.size : Int) := of_decide_eq_true (by first | (with_reducible assumption) | assumption)
           have hx6 := bt_at a0 x4_1
           replace p6 := eq_true p6
           replace q6 := eq_true q6
           try go_wp2
           have n0_ := Aside0.mk (Kd.R_drew HO_3.out)
           have n1_ := Aside0.mk (below_drew1 HB.out)
           clear HO_3
           clear HB
           have HO_3 := n0_
           have HB := n1_
           clear n0_ n1_
           obtain ⟨Ao19, co19, eo19⟩ := Kd.R_slice HO_3.out
           (first | subst eo19 | (injection eo19 with f1_ f2_ f3_; have f4_ := f1_.symm; have f5_ := f3_.symm; clear f1_ f2_ f3_; subst f4_; subst f5_))
           have p142 : 0 ≤ ((ji10) : Int) := of_decide_eq_true (by first | (with_reducible assumption) | assumption)
           have q142 : (ji10) < (x3_1.length : Int) := of_decide_eq_true (by first | (with_reducible assumption) | assumption)
           obtain ⟨ad142, e142, hx142_0⟩ := Kd.at_string (Kd.R_reads' HO_3.out).2.2 (ji10) p142 q142
           cases e142
           replace p142 := eq_true p142
           replace q142 := eq_true q142
           have p17 : 0 ≤ ((ji10) : Int) := of_decide_eq_true (by first | (with_reducible assumption) | assumption)
           have q17 : ((ji10) : Int) < ((x3_1.length : Int) : Int) := of_decide_eq_true (by first | (with_reducible assumption) | assumption)
           obtain ⟨go17, co17, eo17, gb17, gl17, cl17, HG17⟩ := Kd.R_form HO_3.out (by omega)
           (first | cases eo17 | (injection eo17 with ea_ en_ ec_; (first | subst ea_ | (injection ea_ with ea_; subst ea_)); subst ec_; clear en_))
           have GB17 := Aside0.mk gb17
           have GG17 := Aside0.mk HG17
           clear gb17 gl17 HG17
           (first | simp only [add_plain] at hx142_0 | skip)
           obtain ⟨hx17_0, hf17_0⟩ := Kd.R_celln (⟨#[]⟩ : ByteArray) HO_3.out ((ji10) : Int) p17 q17
           replace p17 := eq_true p17
           replace q17 := eq_true q17
           have HP20 := Kd.R_putn HO_3.out ((ji10) : Int) ((rdOf ByteArray.empty x3_1 (ji10)) ++ (a0.extract (x4_1 : Int).toNat ((wrap64 (x4_1 + 1)) : Int).toNat))
           rw [← Ny143.out] at HP20
           have HQ20 := Aside0.mk HP20
           clear HP20
           refine start_ (n := 18) (S := fun w' => w'.cell? ⟨go17, ((ji10)).toNat, none⟩ = some (.string (rdOf ByteArray.empty x3_1 (ji10)))) (ds := [17]) #[false, false, false, false, false, false, false, false, false, false, false, false, false, false, false, false, false, false] (by kernel_rfl) rfl rfl (hx142_0) (fun hHeld => ?_); refine with_tabW bloomeryref03_Parts.tab7 bloomeryref03_Parts.bits7 (fun HT_ HW_ => ?_)
           generalize wr.drew = w18 at HO_3 HB GG17 HQ20 hf17_0 hx142_0 hx17_0 hHeld ⊢
           refine pure_ (i := 0) (N := some 19) (v := ?_) (a' := ?_) #[true, false, false, false, false, false, false, false, false, false, false, false, false, false, false, false, false, false] rfl rfl (any_of HT_.out (by kernel_rfl)) (fun _ _ _ h => h) (Or.inl ⟨by rfl, ?_⟩) ?_ ?_
           rotate_left
           ·intro w'
            go_simp
            with_reducible rfl
           rotate_left
           ·simp only [Act.put, List.setIfInBounds_toArray, List.set_cons_zero, List.set_cons_succ, i64_w, i32_w]
            rfl
           refine pure_ (i := 1) (N := some 20) (v := ?_) (a' := ?_) #[true, true, false, false, false, false, false, false, false, false, false, false, false, false, false, false, false, false] rfl rfl (any_of HT_.out (by kernel_rfl)) (fun _ _ _ h => h) (Or.inl ⟨by rfl, ?_⟩) ?_ ?_
           rotate_left
           ·intro w'
            go_simp
            with_reducible rfl
           rotate_left
           ·simp only [Act.put, List.setIfInBounds_toArray, List.set_cons_zero, List.set_cons_succ, i64_w, i32_w]
            rfl
           refine pure_ (i := 2) (N := some 21) (v := ?_) (a' := ?_) #[true, true, true, false, false, false, false, false, false, false, false, false, false, false, false, false, false, false] rfl rfl (any_of HT_.out (by kernel_rfl)) (fun _ _ _ h => h) (Or.inl ⟨by rfl, ?_⟩) ?_ ?_
           rotate_left
           ·intro w'
            go_simp
            with_reducible rfl
           rotate_left
           ·simp only [Act.put, List.setIfInBounds_toArray, List.set_cons_zero, List.set_cons_succ, i64_w, i32_w]
            rfl
           refine pure_ (i := 3) (N := some 22) (v := ?_) (a' := ?_) #[true, true, true, true, false, false, false, false, false, false, false, false, false, false, false, false, false, false] rfl rfl (any_of HT_.out (by kernel_rfl)) (fun _ _ _ h => h) (Or.inl ⟨by rfl, ?_⟩) ?_ ?_
           rotate_left
           ·intro w'
            go_simp
            with_reducible rfl
           rotate_left
           ·simp only [Act.put, List.setIfInBounds_toArray, List.set_cons_zero, List.set_cons_succ, i64_w, i32_w]
            rfl
           refine pure_ (i := 4) (N := some 23) (v := ?_) (a' := ?_) #[true, true, true, true, true, false, false, false, false, false, false, false, false, false, false, false, false, false] rfl rfl (any_of HT_.out (by kernel_rfl)) (fun _ _ _ h => h) (Or.inl ⟨by rfl, ?_⟩) ?_ ?_
           rotate_left
           ·intro w'
            go_simp
            with_reducible rfl
           rotate_left
           ·simp only [Act.put, List.setIfInBounds_toArray, List.set_cons_zero, List.set_cons_succ, i64_w, i32_w]
            rfl
           refine pure_ (i := 5) (N := some 24) (v := ?_) (a' := ?_) #[true, true, true, true, true, true, false, false, false, false, false, false, false, false, false, false, false, false] rfl rfl (any_of HT_.out (by kernel_rfl)) (fun _ _ _ h => h) (Or.inl ⟨by rfl, ?_⟩) ?_ ?_
           rotate_left
           ·intro w'
            go_simp
            with_reducible rfl
           rotate_left
           ·simp only [Act.put, List.setIfInBounds_toArray, List.set_cons_zero, List.set_cons_succ, i64_w, i32_w]
            rfl
           refine pure_ (i := 6) (N := some 25) (v := ?_) (a' := ?_) #[true, true, true, true, true, true, true, false, false, false, false, false, false, false, false, false, false, false] rfl rfl (any_of HT_.out (by kernel_rfl)) (fun _ _ _ h => h) (Or.inl ⟨by rfl, ?_⟩) ?_ ?_
           rotate_left
           ·intro w'
            go_simp
            with_reducible rfl
           rotate_left
           ·simp only [Act.put, List.setIfInBounds_toArray, List.set_cons_zero, List.set_cons_succ, i64_w, i32_w]
            rfl
           refine pure_ (i := 7) (N := some 26) (v := ?_) (a' := ?_) #[true, true, true, true, true, true, true, true, false, false, false, false, false, false, false, false, false, false] rfl rfl (any_of HT_.out (by kernel_rfl)) (fun _ _ _ h => h) (Or.inl ⟨by rfl, ?_⟩) ?_ ?_
           rotate_left
           ·intro w'
            go_simp
            with_reducible rfl
           rotate_left
           ·simp only [Act.put, List.setIfInBounds_toArray, List.set_cons_zero, List.set_cons_succ, i64_w, i32_w]
            rfl
           refine pure_ (i := 8) (N := some 27) (v := ?_) (a' := ?_) #[true, true, true, true, true, true, true, true, true, false, false, false, false, false, false, false, false, false] rfl rfl (any_of HT_.out (by kernel_rfl)) (fun _ _ _ h => h) (Or.inl ⟨by rfl, ?_⟩) ?_ ?_
           rotate_left
           ·intro w'
            go_simp
            with_reducible rfl
           rotate_left
           ·simp only [Act.put, List.setIfInBounds_toArray, List.set_cons_zero, List.set_cons_succ, i64_w, i32_w]
            rfl
           refine pure_ (i := 10) (N := some 29) (v := ?_) (a' := ?_) #[true, true, true, true, true, true, true, true, true, false, true, false, false, false, false, false, false, false] rfl rfl (any_of HT_.out (by kernel_rfl)) (fun _ _ _ h => h) (Or.inl ⟨by rfl, ?_⟩) ?_ ?_
           rotate_left
           ·intro w'
            go_simp
            with_reducible rfl
           rotate_left
           ·simp only [Act.put, List.setIfInBounds_toArray, List.set_cons_zero, List.set_cons_succ, i64_w, i32_w]
            rfl
           refine pure_ (i := 11) (N := some 30) (v := ?_) (a' := ?_) #[true, true, true, true, true, true, true, true, true, false, true, true, false, false, false, false, false, false] rfl rfl (any_of HT_.out (by kernel_rfl)) (fun _ _ _ h => h) (Or.inl ⟨by rfl, ?_⟩) ?_ ?_
           rotate_left
           ·intro w'
            go_simp
            with_reducible rfl
           rotate_left
           ·simp only [Act.put, List.setIfInBounds_toArray, List.set_cons_zero, List.set_cons_succ, i64_w, i32_w]
            rfl
           refine pure_ (i := 12) (N := some 31) (v := ?_) (a' := ?_) #[true, true, true, true, true, true, true, true, true, false, true, true, true, false, false, false, false, false] rfl rfl (any_of HT_.out (by kernel_rfl)) (fun _ _ _ h => h) (Or.inl ⟨by rfl, ?_⟩) ?_ ?_
           rotate_left
           ·intro w'
            go_simp
            with_reducible rfl
           rotate_left
           ·simp only [Act.put, List.setIfInBounds_toArray, List.set_cons_zero, List.set_cons_succ, i64_w, i32_w]
            rfl
           refine pure_ (i := 13) (N := some 32) (v := ?_) (a' := ?_) #[true, true, true, true, true, true, true, true, true, false, true, true, true, true, false, false, false, false] rfl rfl (any_of HT_.out (by kernel_rfl)) (fun _ _ _ h => h) (Or.inl ⟨by rfl, ?_⟩) ?_ ?_
           rotate_left
           ·intro w'
            go_simp
            with_reducible rfl
           rotate_left
           ·simp only [Act.put, List.setIfInBounds_toArray, List.set_cons_zero, List.set_cons_succ, i64_w, i32_w]
            rfl
           refine pure_ (i := 14) (N := some 33) (v := ?_) (a' := ?_) #[true, true, true, true, true, true, true, true, true, false, true, true, true, true, true, false, false, false] rfl rfl (any_of HT_.out (by kernel_rfl)) (fun _ _ _ h => h) (Or.inl ⟨by rfl, ?_⟩) ?_ ?_
           rotate_left
           ·intro w'
            go_simp
            with_reducible rfl
           rotate_left
           ·simp only [Act.put, List.setIfInBounds_toArray, List.set_cons_zero, List.set_cons_succ, i64_w, i32_w]
            rfl
           refine take_ (i := 9) (N := some 28) (v := ?_) (a' := ?_) #[true, true, true, true, true, true, true, true, true, true, true, true, true, true, true, false, false, false] rfl rfl (take_ofW HT_.out HW_.out (by kernel_rfl)) (fun _ _ _ h => h) (Or.inl ⟨by rfl, ?_⟩) hHeld ?_ ?_
           rotate_left
           ·intro w' s0
            go_simp
            with_reducible rfl
           rotate_left
           ·simp only [Act.put, List.setIfInBounds_toArray, List.set_cons_zero, List.set_cons_succ, i64_w, i32_w]
            rfl
           refine pure_ (i := 15) (N := some 34) (v := ?_) (a' := ?_) #[true, true, true, true, true, true, true, true, true, true, true, true, true, true, true, true, false, false] rfl rfl (any_of HT_.out (by kernel_rfl)) (fun _ _ _ h => h) (Or.inl ⟨by rfl, ?_⟩) ?_ ?_
           rotate_left
           ·intro w'
            go_simp
            with_reducible rfl
           rotate_left
           ·simp only [Act.put, List.setIfInBounds_toArray, List.set_cons_zero, List.set_cons_succ, i64_w, i32_w]
            rfl
           refine pure_ (i := 16) (N := some 35) (v := ?_) (a' := ?_) #[true, true, true, true, true, true, true, true, true, true, true, true, true, true, true, true, true, false] rfl rfl (any_of HT_.out (by kernel_rfl)) (fun _ _ _ h => h) (Or.inl ⟨by rfl, ?_⟩) ?_ ?_
           rotate_left
           ·intro w'
            go_simp
            with_reducible rfl
           rotate_left
           ·simp only [Act.put, List.setIfInBounds_toArray, List.set_cons_zero, List.set_cons_succ, i64_w, i32_w]
            rfl
           refine last_ (i := 17) (N := none) #[true, true, true, true, true, true, true, true, true, true, true, true, true, true, true, true, true, true] rfl rfl (one_of HT_.out (by kernel_rfl)) (by decide) (fun K hK => ?_)
           refine skip_ (w1 := ?_) (by rfl) rfl ?_ ?_
           rotate_left
           ·go_simp
            rfl
           refine hK.out _ _ ?_
           clear hK K
           refine done_ (done_of HT_.out (by kernel_rfl)) ?_
           try go_wp2
           go_roundg k1
           case measure => have := HK1.out; omega
           case rel => exact ⟨(y143), (wrap64 (x4_1 + 1)), (by first | rfl | (simp; done) | (simp [*]; done)), (by first | exact H' | (subst_vars; exact H')), ⟨by have := HK1.out; omega⟩, ⟨by (with_reducible repeat (first | apply Kd.R_alloc | apply Kd.R_drewN | apply Kd.R_drew)); exact HQ20.out⟩, ⟨by repeat (first | (with_reducible first | exact HB.out | apply below_alloc | apply pw_below_drewN | apply below_drew1 | refine below_set ?_ GB17.out) | exact HB.out)⟩⟩
          ·rw [if_neg c16] at H
           exact absurd H (by simp)
         ·rw [if_neg c15] at H
          exact absurd H (by simp)
        ·rw [if_neg c14] at H
         exact absurd H (by simp)
       ·rw [if_neg c12] at H
        exact absurd H (by simp)
      ·rw [if_neg c11] at H
       exact absurd H (by simp)
    ·rw [if_neg c5] at H
     exact absurd H (by simp)
   ·rw [if_neg c4] at H
    have c4b0 : decide (x4_1 < (a0.size : Int)) = false := decide_eq_false c4
    clear c4
    obtain rfl := Option.some.inj H
    go_wp2
    go_ret
    exact ⟨_, by first | rfl | (simp [errW_none, errW_some] <;> rfl) | (simp [*, errW_none, errW_some] <;> rfl), by (with_reducible repeat (first | apply Kd.R_alloc | apply Kd.R_drewN | apply Kd.R_drew)); exact HO_3.out, by repeat (first | (with_reducible first | exact HB.out | apply below_alloc | apply pw_below_drewN | apply below_drew1) | exact HB.out)⟩

end Go.Proofs.YtdhilbefeehbaaaDoor.G

/- Go functions as Lean functions, each with its contract: written by a program of mine over the kit's print. Conditions: each contract's own. -/
namespace Go.Proofs.YtdhilbefeehbaaaDoor.G
open Go.RowKit Go.Proofs.YtdhilbefeehbaaaDoorW.PrintWords Go.Proofs.YtdhilbefeehbaaaDoorW.PrintLast Go.Proofs.YtdhilbefeehbaaaDoorW.PrintMore
attribute [local go_sem] max2_int min2_int max_two min_two max_three min_three max_four min_four   -- for this text's walks alone
set_option linter.unusedVariables false
set_option linter.unusedSimpArgs false

/-! ### bloomeryref03_Part: function 48 -/
mutual
def bloomeryref03_Part.j0 : Nat → ByteArray → Bool → Option (Bool)
 | 0, _, _ => none
 | k + 1, x0, x20 => if x20 = true then (some false) else (bloomeryref03_Part.l0 k x0 0)
def bloomeryref03_Part.l0 : Nat → ByteArray → Int → Option (Bool)
 | 0, _, _ => none
 | k + 1, x0, x3 => if x3 < (x0.size : Int) then (if 0 ≤ x3 then (if (bt x0 x3) ≥ 97 then (if (bt x0 x3) ≤ 122 then (bloomeryref03_Part.l0 k x0 (wrap64 (x3 + 1))) else (if (bt x0 x3) ≥ 65 then (if (bt x0 x3) ≤ 90 then (bloomeryref03_Part.l0 k x0 (wrap64 (x3 + 1))) else (if (bt x0 x3) ≥ 48 then (if ((bt x0 x3) ≤ 57) then (bloomeryref03_Part.l0 k x0 (wrap64 (x3 + 1))) else (if (bt x0 x3) = 95 then (bloomeryref03_Part.l0 k x0 (wrap64 (x3 + 1))) else (if (bt x0 x3) = 46 then (bloomeryref03_Part.l0 k x0 (wrap64 (x3 + 1))) else (if (bt x0 x3) = 45 then (bloomeryref03_Part.l0 k x0 (wrap64 (x3 + 1))) else (if (bt x0 x3) = 43 then (bloomeryref03_Part.l0 k x0 (wrap64 (x3 + 1))) else (some false)))))) else (if (bt x0 x3) = 95 then (bloomeryref03_Part.l0 k x0 (wrap64 (x3 + 1))) else (if (bt x0 x3) = 46 then (bloomeryref03_Part.l0 k x0 (wrap64 (x3 + 1))) else (if (bt x0 x3) = 45 then (bloomeryref03_Part.l0 k x0 (wrap64 (x3 + 1))) else (if (bt x0 x3) = 43 then (bloomeryref03_Part.l0 k x0 (wrap64 (x3 + 1))) else (some false))))))) else (if (bt x0 x3) ≥ 48 then (if ((bt x0 x3) ≤ 57) then (bloomeryref03_Part.l0 k x0 (wrap64 (x3 + 1))) else (if (bt x0 x3) = 95 then (bloomeryref03_Part.l0 k x0 (wrap64 (x3 + 1))) else (if (bt x0 x3) = 46 then (bloomeryref03_Part.l0 k x0 (wrap64 (x3 + 1))) else (if (bt x0 x3) = 45 then (bloomeryref03_Part.l0 k x0 (wrap64 (x3 + 1))) else (if (bt x0 x3) = 43 then (bloomeryref03_Part.l0 k x0 (wrap64 (x3 + 1))) else (some false)))))) else (if (bt x0 x3) = 95 then (bloomeryref03_Part.l0 k x0 (wrap64 (x3 + 1))) else (if (bt x0 x3) = 46 then (bloomeryref03_Part.l0 k x0 (wrap64 (x3 + 1))) else (if (bt x0 x3) = 45 then (bloomeryref03_Part.l0 k x0 (wrap64 (x3 + 1))) else (if (bt x0 x3) = 43 then (bloomeryref03_Part.l0 k x0 (wrap64 (x3 + 1))) else (some false)))))))) else (if (bt x0 x3) ≥ 65 then (if (bt x0 x3) ≤ 90 then (bloomeryref03_Part.l0 k x0 (wrap64 (x3 + 1))) else (if (bt x0 x3) ≥ 48 then (if ((bt x0 x3) ≤ 57) then (bloomeryref03_Part.l0 k x0 (wrap64 (x3 + 1))) else (if (bt x0 x3) = 95 then (bloomeryref03_Part.l0 k x0 (wrap64 (x3 + 1))) else (if (bt x0 x3) = 46 then (bloomeryref03_Part.l0 k x0 (wrap64 (x3 + 1))) else (if (bt x0 x3) = 45 then (bloomeryref03_Part.l0 k x0 (wrap64 (x3 + 1))) else (if (bt x0 x3) = 43 then (bloomeryref03_Part.l0 k x0 (wrap64 (x3 + 1))) else (some false)))))) else (if (bt x0 x3) = 95 then (bloomeryref03_Part.l0 k x0 (wrap64 (x3 + 1))) else (if (bt x0 x3) = 46 then (bloomeryref03_Part.l0 k x0 (wrap64 (x3 + 1))) else (if (bt x0 x3) = 45 then (bloomeryref03_Part.l0 k x0 (wrap64 (x3 + 1))) else (if (bt x0 x3) = 43 then (bloomeryref03_Part.l0 k x0 (wrap64 (x3 + 1))) else (some false))))))) else (if (bt x0 x3) ≥ 48 then (if ((bt x0 x3) ≤ 57) then (bloomeryref03_Part.l0 k x0 (wrap64 (x3 + 1))) else (if (bt x0 x3) = 95 then (bloomeryref03_Part.l0 k x0 (wrap64 (x3 + 1))) else (if (bt x0 x3) = 46 then (bloomeryref03_Part.l0 k x0 (wrap64 (x3 + 1))) else (if (bt x0 x3) = 45 then (bloomeryref03_Part.l0 k x0 (wrap64 (x3 + 1))) else (if (bt x0 x3) = 43 then (bloomeryref03_Part.l0 k x0 (wrap64 (x3 + 1))) else (some false)))))) else (if (bt x0 x3) = 95 then (bloomeryref03_Part.l0 k x0 (wrap64 (x3 + 1))) else (if (bt x0 x3) = 46 then (bloomeryref03_Part.l0 k x0 (wrap64 (x3 + 1))) else (if (bt x0 x3) = 45 then (bloomeryref03_Part.l0 k x0 (wrap64 (x3 + 1))) else (if (bt x0 x3) = 43 then (bloomeryref03_Part.l0 k x0 (wrap64 (x3 + 1))) else (some false)))))))) else (none)) else (some true)
end
def bloomeryref03_Part.f (k : Nat) (a0 : ByteArray) : Option (Bool) := if a0.toList = ([] : List UInt8) then (bloomeryref03_Part.j0 k a0 true) else (if a0.toList = ([46] : List UInt8) then (bloomeryref03_Part.j0 k a0 true) else (if a0.toList = ([46, 46] : List UInt8) then (bloomeryref03_Part.j0 k a0 true) else (bloomeryref03_Part.j0 k a0 (decide ((a0.size : Int) > 64)))))
set_option maxHeartbeats 8000000 in
set_option maxRecDepth 100000 in
theorem bloomeryref03_Part.calls (k : Nat) (a0 : ByteArray) (r : Bool) (w : World) (h : bloomeryref03_Part.f k a0 = some r) :
  Calls Tryd.prog 48 #[.string a0] w fun e w' => e = .returned (.bool r) ∧ Drawn0 w w' := by
 have H : (if a0.toList = ([] : List UInt8) then (bloomeryref03_Part.j0 k a0 true) else (if a0.toList = ([46] : List UInt8) then (bloomeryref03_Part.j0 k a0 true) else (if a0.toList = ([46, 46] : List UInt8) then (bloomeryref03_Part.j0 k a0 true) else (bloomeryref03_Part.j0 k a0 (decide ((a0.size : Int) > 64)))))) = some r := h
 clear h
 have HC2 := Aside0.mk H
 clear H
 go_enter Tryd.func48, Tryd.ntmps48
 go_upto_region 1 with (fail)
 go_cut [20] (fun v20 wc => ∃ (kq : Nat) (x20_1 : Bool), v20 = .bool x20_1 ∧ Aside0 (bloomeryref03_Part.j0 kq a0 x20_1 = some r) ∧ Aside0 (kq ≤ k) ∧ Drawn0 w wc)
 case first =>
  have H := HC2.out
  clear HC2
  by_cases c3 : a0.toList = ([] : List UInt8)
  ·rw [if_pos c3] at H
   have c3b0 : (a0.toList == ([] : List UInt8)) = true := beq_iff_eq.mpr c3
   have c3b1 : (a0.toList != ([] : List UInt8)) = false := bne_eq_false_iff_eq.mpr c3
   clear c3
   (first | rw [c3b0] | (simp only [i64_w, i32_w]; rw [c3b0]) | skip)
   have H' := Aside0.mk H
   clear H
   go_wp2
   go_meet
   case rel => exact ⟨_, (true), (by first | rfl | (simp; done) | (simp [*]; done)), (by first | exact H' | (subst_vars; exact H')), ⟨by first | omega | exact Nat.le_refl _⟩, by repeat (first | exact Drawn0.refl _ | apply Drawn0.step)⟩
  ·rw [if_neg c3] at H
   have c3b0 : (a0.toList == ([] : List UInt8)) = false := beq_eq_false_iff_ne.mpr c3
   have c3b1 : (a0.toList != ([] : List UInt8)) = true := bne_iff_ne.mpr c3
   (first | rw [c3b0] | (simp only [i64_w, i32_w]; rw [c3b0]) | skip)
   by_cases c4 : a0.toList = ([46] : List UInt8)
   ·rw [if_pos c4] at H
    have c4b0 : (a0.toList == ([46] : List UInt8)) = true := beq_iff_eq.mpr c4
    have c4b1 : (a0.toList != ([46] : List UInt8)) = false := bne_eq_false_iff_eq.mpr c4
    clear c4
    have H' := Aside0.mk H
    clear H
    go_wp2
    go_meet
    case rel => exact ⟨_, (true), (by first | rfl | (simp; done) | (simp [*]; done)), (by first | exact H' | (subst_vars; exact H')), ⟨by first | omega | exact Nat.le_refl _⟩, by repeat (first | exact Drawn0.refl _ | apply Drawn0.step)⟩
   ·rw [if_neg c4] at H
    have c4b0 : (a0.toList == ([46] : List UInt8)) = false := beq_eq_false_iff_ne.mpr c4
    have c4b1 : (a0.toList != ([46] : List UInt8)) = true := bne_iff_ne.mpr c4
    by_cases c5 : a0.toList = ([46, 46] : List UInt8)
    ·rw [if_pos c5] at H
     have c5b0 : (a0.toList == ([46, 46] : List UInt8)) = true := beq_iff_eq.mpr c5
     have c5b1 : (a0.toList != ([46, 46] : List UInt8)) = false := bne_eq_false_iff_eq.mpr c5
     clear c5
     have H' := Aside0.mk H
     clear H
     go_wp2
     go_meet
     case rel => exact ⟨_, (true), (by first | rfl | (simp; done) | (simp [*]; done)), (by first | exact H' | (subst_vars; exact H')), ⟨by first | omega | exact Nat.le_refl _⟩, by repeat (first | exact Drawn0.refl _ | apply Drawn0.step)⟩
    ·rw [if_neg c5] at H
     have c5b0 : (a0.toList == ([46, 46] : List UInt8)) = false := beq_eq_false_iff_ne.mpr c5
     have c5b1 : (a0.toList != ([46, 46] : List UInt8)) = true := bne_iff_ne.mpr c5
     have H' := Aside0.mk H
     clear H
     go_wp2
     go_meet
     case rel => exact ⟨_, (decide ((a0.size : Int) > 64)), (by first | rfl | (simp; done) | (simp [*]; done)), (by first | exact H' | (subst_vars; exact H')), ⟨by first | omega | exact Nat.le_refl _⟩, by repeat (first | exact Drawn0.refl _ | apply Drawn0.step)⟩
 case rest =>
  clear HC2
  try clear p2
  try clear c3
  try clear c3b0
  try clear c3b1
  try clear c4
  try clear c4b0
  try clear c4b1
  try clear c5
  try clear c5b0
  try clear c5b1
  obtain ⟨kq, x20_1, rfl, HA, HJ1, ⟨mc1, rfl⟩⟩ := hcut
  cases kq with
  | zero => exact absurd HA.out (by simp [bloomeryref03_Part.j0])
  | succ kj1 =>
   have H := HA.out
   clear HA
   simp only [bloomeryref03_Part.j0] at H
   by_cases c6 : x20_1 = true
   ·subst c6
    have H1 : (some false) = some r := by rw [if_pos rfl] at H; exact H
    clear H
    have H := H1
    clear H1
    obtain rfl := Option.some.inj H
    go_wp2
    go_ret
    exact ⟨by first | rfl | (simp; done) | (simp [*]; done), by repeat (first | exact Drawn0.refl _ | apply Drawn0.step)⟩
   ·replace c6 := Bool.eq_false_iff.mpr c6
    subst c6
    have H1 : (bloomeryref03_Part.l0 kj1 a0 0) = some r := by rw [if_neg (show ¬ (false = true) by decide)] at H; exact H
    clear H
    have H := H1
    clear H1
    have H' := Aside0.mk H
    clear H
    go_wp2
    go_loopg [3] kj1 (fun kq v3 w' => ∃ (x3_2 : Int), v3 = .int .i64 x3_2 ∧ Aside0 (bloomeryref03_Part.l0 kq a0 x3_2 = some r) ∧ Aside0 (kq ≤ kj1) ∧ Drawn0 w w')
    case atStart => exact ⟨(0), (by first | rfl | (simp; done) | (simp [*]; done)), (by first | exact H' | (subst_vars; exact H')), ⟨Nat.le_refl _⟩, by repeat (first | exact Drawn0.refl _ | apply Drawn0.step)⟩
    case round =>
     clear H'
     try clear c1
     try clear p2
     try clear c3
     try clear c3b0
     try clear c3b1
     try clear c4
     try clear c4b0
     try clear c4b1
     try clear c5
     try clear c5b0
     try clear c5b1
     try clear c6
     try clear p2
     obtain ⟨x3_2, rfl, HA, HK2, ⟨m2, rfl⟩⟩ := hrel
     cases gk with
     | zero => exact absurd HA.out (by simp [bloomeryref03_Part.l0])
     | succ k2 =>
      have H := HA.out
      clear HA
      simp only [bloomeryref03_Part.l0] at H
      by_cases c7 : x3_2 < (a0.size : Int)
      ·rw [if_pos c7] at H
       have c7b0 : decide (x3_2 < (a0.size : Int)) = true := decide_eq_true c7
       clear c7
       by_cases c8 : 0 ≤ x3_2
       ·rw [if_pos c8] at H
        have c8b0 : decide (0 ≤ x3_2) = true := decide_eq_true c8
        clear c8
        by_cases c10 : (bt a0 x3_2) ≥ 97
        ·rw [if_pos c10] at H
         have c10b0 : decide (97 ≤ (bt a0 x3_2)) = true := decide_eq_true c10
         clear c10
         by_cases c11 : (bt a0 x3_2) ≤ 122
         ·rw [if_pos c11] at H
          have c11b0 : decide ((bt a0 x3_2) ≤ 122) = true := decide_eq_true c11
          clear c11
          have H' := Aside0.mk H
          clear H
          have p9 : 0 ≤ (x3_2 : Int) := of_decide_eq_true (by first | (with_reducible assumption) | assumption)
          have q9 : x3_2 < (a0.size : Int) := of_decide_eq_true (by first | (with_reducible assumption) | assumption)
          have hx9 := bt_at a0 x3_2
          replace p9 := eq_true p9
          replace q9 := eq_true q9
          go_wp2
          go_roundg k2
          case measure => have := HJ1.out; have := HK2.out; omega
          case rel => exact ⟨(wrap64 (x3_2 + 1)), (by first | rfl | (simp; done) | (simp [*]; done)), (by first | exact H' | (subst_vars; exact H')), ⟨by have := HJ1.out; have := HK2.out; omega⟩, by repeat (first | exact Drawn0.refl _ | apply Drawn0.step)⟩
         ·rw [if_neg c11] at H
          have c11b0 : decide ((bt a0 x3_2) ≤ 122) = false := decide_eq_false c11
          clear c11
          by_cases c12 : (bt a0 x3_2) ≥ 65
          ·rw [if_pos c12] at H
           have c12b0 : decide (65 ≤ (bt a0 x3_2)) = true := decide_eq_true c12
           clear c12
           by_cases c13 : (bt a0 x3_2) ≤ 90
           ·rw [if_pos c13] at H
            have c13b0 : decide ((bt a0 x3_2) ≤ 90) = true := decide_eq_true c13
            clear c13
            have H' := Aside0.mk H
            clear H
            have p9 : 0 ≤ (x3_2 : Int) := of_decide_eq_true (by first | (with_reducible assumption) | assumption)
            have q9 : x3_2 < (a0.size : Int) := of_decide_eq_true (by first | (with_reducible assumption) | assumption)
            have hx9 := bt_at a0 x3_2
            replace p9 := eq_true p9
            replace q9 := eq_true q9
            go_wp2
            go_roundg k2
            case measure => have := HJ1.out; have := HK2.out; omega
            case rel => exact ⟨(wrap64 (x3_2 + 1)), (by first | rfl | (simp; done) | (simp [*]; done)), (by first | exact H' | (subst_vars; exact H')), ⟨by have := HJ1.out; have := HK2.out; omega⟩, by repeat (first | exact Drawn0.refl _ | apply Drawn0.step)⟩
           ·rw [if_neg c13] at H
            have c13b0 : decide ((bt a0 x3_2) ≤ 90) = false := decide_eq_false c13
            clear c13
            by_cases c14 : (bt a0 x3_2) ≥ 48
            ·rw [if_pos c14] at H
             have c14b0 : decide (48 ≤ (bt a0 x3_2)) = true := decide_eq_true c14
             clear c14
             by_cases c15 : ((bt a0 x3_2) ≤ 57)
             ·rw [if_pos c15] at H
              have c15b0 : decide ((bt a0 x3_2) ≤ 57) = true := decide_eq_true c15
              clear c15
              have H' := Aside0.mk H
              clear H
              have p9 : 0 ≤ (x3_2 : Int) := of_decide_eq_true (by first | (with_reducible assumption) | assumption)
              have q9 : x3_2 < (a0.size : Int) := of_decide_eq_true (by first | (with_reducible assumption) | assumption)
              have hx9 := bt_at a0 x3_2
              replace p9 := eq_true p9
              replace q9 := eq_true q9
              go_wp2
              go_roundg k2
              case measure => have := HJ1.out; have := HK2.out; omega
              case rel => exact ⟨(wrap64 (x3_2 + 1)), (by first | rfl | (simp; done) | (simp [*]; done)), (by first | exact H' | (subst_vars; exact H')), ⟨by have := HJ1.out; have := HK2.out; omega⟩, by repeat (first | exact Drawn0.refl _ | apply Drawn0.step)⟩
             ·rw [if_neg c15] at H
              have c15b0 : decide ((bt a0 x3_2) ≤ 57) = false := decide_eq_false c15
              clear c15
              by_cases c16 : (bt a0 x3_2) = 95
              ·rw [if_pos c16] at H
               have c16b0 : ((bt a0 x3_2) == 95) = true := beq_iff_eq.mpr c16
               have c16b1 : ((bt a0 x3_2) != 95) = false := bne_eq_false_iff_eq.mpr c16
               clear c16
               have H' := Aside0.mk H
               clear H
               have p9 : 0 ≤ (x3_2 : Int) := of_decide_eq_true (by first | (with_reducible assumption) | assumption)
               have q9 : x3_2 < (a0.size : Int) := of_decide_eq_true (by first | (with_reducible assumption) | assumption)
               have hx9 := bt_at a0 x3_2
               replace p9 := eq_true p9
               replace q9 := eq_true q9
               go_wp2
               go_roundg k2
               case measure => have := HJ1.out; have := HK2.out; omega
               case rel => exact ⟨(wrap64 (x3_2 + 1)), (by first | rfl | (simp; done) | (simp [*]; done)), (by first | exact H' | (subst_vars; exact H')), ⟨by have := HJ1.out; have := HK2.out; omega⟩, by repeat (first | exact Drawn0.refl _ | apply Drawn0.step)⟩
              ·rw [if_neg c16] at H
               have c16b0 : ((bt a0 x3_2) == 95) = false := beq_eq_false_iff_ne.mpr c16
               have c16b1 : ((bt a0 x3_2) != 95) = true := bne_iff_ne.mpr c16
               by_cases c17 : (bt a0 x3_2) = 46
               ·rw [if_pos c17] at H
                have c17b0 : ((bt a0 x3_2) == 46) = true := beq_iff_eq.mpr c17
                have c17b1 : ((bt a0 x3_2) != 46) = false := bne_eq_false_iff_eq.mpr c17
                clear c17
                have H' := Aside0.mk H
                clear H
                have p9 : 0 ≤ (x3_2 : Int) := of_decide_eq_true (by first | (with_reducible assumption) | assumption)
                have q9 : x3_2 < (a0.size : Int) := of_decide_eq_true (by first | (with_reducible assumption) | assumption)
                have hx9 := bt_at a0 x3_2
                replace p9 := eq_true p9
                replace q9 := eq_true q9
                go_wp2
                go_roundg k2
                case measure => have := HJ1.out; have := HK2.out; omega
                case rel => exact ⟨(wrap64 (x3_2 + 1)), (by first | rfl | (simp; done) | (simp [*]; done)), (by first | exact H' | (subst_vars; exact H')), ⟨by have := HJ1.out; have := HK2.out; omega⟩, by repeat (first | exact Drawn0.refl _ | apply Drawn0.step)⟩
               ·rw [if_neg c17] at H
                have c17b0 : ((bt a0 x3_2) == 46) = false := beq_eq_false_iff_ne.mpr c17
                have c17b1 : ((bt a0 x3_2) != 46) = true := bne_iff_ne.mpr c17
                by_cases c18 : (bt a0 x3_2) = 45
                ·rw [if_pos c18] at H
                 have c18b0 : ((bt a0 x3_2) == 45) = true := beq_iff_eq.mpr c18
                 have c18b1 : ((bt a0 x3_2) != 45) = false := bne_eq_false_iff_eq.mpr c18
                 clear c18
                 have H' := Aside0.mk H
                 clear H
                 have p9 : 0 ≤ (x3_2 : Int) := of_decide_eq_true (by first | (with_reducible assumption) | assumption)
                 have q9 : x3_2 < (a0.size : Int) := of_decide_eq_true (by first | (with_reducible assumption) | assumption)
                 have hx9 := bt_at a0 x3_2
                 replace p9 := eq_true p9
                 replace q9 := eq_true q9
                 go_wp2
                 go_roundg k2
                 case measure => have := HJ1.out; have := HK2.out; omega
                 case rel => exact ⟨(wrap64 (x3_2 + 1)), (by first | rfl | (simp; done) | (simp [*]; done)), (by first | exact H' | (subst_vars; exact H')), ⟨by have := HJ1.out; have := HK2.out; omega⟩, by repeat (first | exact Drawn0.refl _ | apply Drawn0.step)⟩
                ·rw [if_neg c18] at H
                 have c18b0 : ((bt a0 x3_2) == 45) = false := beq_eq_false_iff_ne.mpr c18
                 have c18b1 : ((bt a0 x3_2) != 45) = true := bne_iff_ne.mpr c18
                 by_cases c19 : (bt a0 x3_2) = 43
                 ·rw [if_pos c19] at H
                  have c19b0 : ((bt a0 x3_2) == 43) = true := beq_iff_eq.mpr c19
                  have c19b1 : ((bt a0 x3_2) != 43) = false := bne_eq_false_iff_eq.mpr c19
                  clear c19
                  have H' := Aside0.mk H
                  clear H
                  have p9 : 0 ≤ (x3_2 : Int) := of_decide_eq_true (by first | (with_reducible assumption) | assumption)
                  have q9 : x3_2 < (a0.size : Int) := of_decide_eq_true (by first | (with_reducible assumption) | assumption)
                  have hx9 := bt_at a0 x3_2
                  replace p9 := eq_true p9
                  replace q9 := eq_true q9
                  go_wp2
                  go_roundg k2
                  case measure => have := HJ1.out; have := HK2.out; omega
                  case rel => exact ⟨(wrap64 (x3_2 + 1)), (by first | rfl | (simp; done) | (simp [*]; done)), (by first | exact H' | (subst_vars; exact H')), ⟨by have := HJ1.out; have := HK2.out; omega⟩, by repeat (first | exact Drawn0.refl _ | apply Drawn0.step)⟩
                 ·rw [if_neg c19] at H
                  have c19b0 : ((bt a0 x3_2) == 43) = false := beq_eq_false_iff_ne.mpr c19
                  have c19b1 : ((bt a0 x3_2) != 43) = true := bne_iff_ne.mpr c19
                  obtain rfl := Option.some.inj H
                  have p9 : 0 ≤ (x3_2 : Int) := of_decide_eq_true (by first | (with_reducible assumption) | assumption)
                  have q9 : x3_2 < (a0.size : Int) := of_decide_eq_true (by first | (with_reducible assumption) | assumption)
                  have hx9 := bt_at a0 x3_2
                  replace p9 := eq_true p9
                  replace q9 := eq_true q9
                  go_wp2
                  go_ret
                  exact ⟨by first | rfl | (simp; done) | (simp [*]; done), by repeat (first | exact Drawn0.refl _ | apply Drawn0.step)⟩
            ·rw [if_neg c14] at H
             have c14b0 : decide (48 ≤ (bt a0 x3_2)) = false := decide_eq_false c14
             clear c14
             by_cases c20 : (bt a0 x3_2) = 95
             ·rw [if_pos c20] at H
              have c20b0 : ((bt a0 x3_2) == 95) = true := beq_iff_eq.mpr c20
              have c20b1 : ((bt a0 x3_2) != 95) = false := bne_eq_false_iff_eq.mpr c20
              clear c20
              have H' := Aside0.mk H
              clear H
              have p9 : 0 ≤ (x3_2 : Int) := of_decide_eq_true (by first | (with_reducible assumption) | assumption)
              have q9 : x3_2 < (a0.size : Int) := of_decide_eq_true (by first | (with_reducible assumption) | assumption)
              have hx9 := bt_at a0 x3_2
              replace p9 := eq_true p9
              replace q9 := eq_true q9
              go_wp2
              go_roundg k2
              case measure => have := HJ1.out; have := HK2.out; omega
              case rel => exact ⟨(wrap64 (x3_2 + 1)), (by first | rfl | (simp; done) | (simp [*]; done)), (by first | exact H' | (subst_vars; exact H')), ⟨by have := HJ1.out; have := HK2.out; omega⟩, by repeat (first | exact Drawn0.refl _ | apply Drawn0.step)⟩
             ·rw [if_neg c20] at H
              have c20b0 : ((bt a0 x3_2) == 95) = false := beq_eq_false_iff_ne.mpr c20
              have c20b1 : ((bt a0 x3_2) != 95) = true := bne_iff_ne.mpr c20
              by_cases c21 : (bt a0 x3_2) = 46
              ·rw [if_pos c21] at H
               have c21b0 : ((bt a0 x3_2) == 46) = true := beq_iff_eq.mpr c21
               have c21b1 : ((bt a0 x3_2) != 46) = false := bne_eq_false_iff_eq.mpr c21
               clear c21
               have H' := Aside0.mk H
               clear H
               have p9 : 0 ≤ (x3_2 : Int) := of_decide_eq_true (by first | (with_reducible assumption) | assumption)
               have q9 : x3_2 < (a0.size : Int) := of_decide_eq_true (by first | (with_reducible assumption) | assumption)
               have hx9 := bt_at a0 x3_2
               replace p9 := eq_true p9
               replace q9 := eq_true q9
               go_wp2
               go_roundg k2
               case measure => have := HJ1.out; have := HK2.out; omega
               case rel => exact ⟨(wrap64 (x3_2 + 1)), (by first | rfl | (simp; done) | (simp [*]; done)), (by first | exact H' | (subst_vars; exact H')), ⟨by have := HJ1.out; have := HK2.out; omega⟩, by repeat (first | exact Drawn0.refl _ | apply Drawn0.step)⟩
              ·rw [if_neg c21] at H
               have c21b0 : ((bt a0 x3_2) == 46) = false := beq_eq_false_iff_ne.mpr c21
               have c21b1 : ((bt a0 x3_2) != 46) = true := bne_iff_ne.mpr c21
               by_cases c22 : (bt a0 x3_2) = 45
               ·rw [if_pos c22] at H
                have c22b0 : ((bt a0 x3_2) == 45) = true := beq_iff_eq.mpr c22
                have c22b1 : ((bt a0 x3_2) != 45) = false := bne_eq_false_iff_eq.mpr c22
                clear c22
                have H' := Aside0.mk H
                clear H
                have p9 : 0 ≤ (x3_2 : Int) := of_decide_eq_true (by first | (with_reducible assumption) | assumption)
                have q9 : x3_2 < (a0.size : Int) := of_decide_eq_true (by first | (with_reducible assumption) | assumption)
                have hx9 := bt_at a0 x3_2
                replace p9 := eq_true p9
                replace q9 := eq_true q9
                go_wp2
                go_roundg k2
                case measure => have := HJ1.out; have := HK2.out; omega
                case rel => exact ⟨(wrap64 (x3_2 + 1)), (by first | rfl | (simp; done) | (simp [*]; done)), (by first | exact H' | (subst_vars; exact H')), ⟨by have := HJ1.out; have := HK2.out; omega⟩, by repeat (first | exact Drawn0.refl _ | apply Drawn0.step)⟩
               ·rw [if_neg c22] at H
                have c22b0 : ((bt a0 x3_2) == 45) = false := beq_eq_false_iff_ne.mpr c22
                have c22b1 : ((bt a0 x3_2) != 45) = true := bne_iff_ne.mpr c22
                by_cases c23 : (bt a0 x3_2) = 43
                ·rw [if_pos c23] at H
                 have c23b0 : ((bt a0 x3_2) == 43) = true := beq_iff_eq.mpr c23
                 have c23b1 : ((bt a0 x3_2) != 43) = false := bne_eq_false_iff_eq.mpr c23
                 clear c23
                 have H' := Aside0.mk H
                 clear H
                 have p9 : 0 ≤ (x3_2 : Int) := of_decide_eq_true (by first | (with_reducible assumption) | assumption)
                 have q9 : x3_2 < (a0.size : Int) := of_decide_eq_true (by first | (with_reducible assumption) | assumption)
                 have hx9 := bt_at a0 x3_2
                 replace p9 := eq_true p9
                 replace q9 := eq_true q9
                 go_wp2
                 go_roundg k2
                 case measure => have := HJ1.out; have := HK2.out; omega
                 case rel => exact ⟨(wrap64 (x3_2 + 1)), (by first | rfl | (simp; done) | (simp [*]; done)), (by first | exact H' | (subst_vars; exact H')), ⟨by have := HJ1.out; have := HK2.out; omega⟩, by repeat (first | exact Drawn0.refl _ | apply Drawn0.step)⟩
                ·rw [if_neg c23] at H
                 have c23b0 : ((bt a0 x3_2) == 43) = false := beq_eq_false_iff_ne.mpr c23
                 have c23b1 : ((bt a0 x3_2) != 43) = true := bne_iff_ne.mpr c23
                 obtain rfl := Option.some.inj H
                 have p9 : 0 ≤ (x3_2 : Int) := of_decide_eq_true (by first | (with_reducible assumption) | assumption)
                 have q9 : x3_2 < (a0.size : Int) := of_decide_eq_true (by first | (with_reducible assumption) | assumption)
                 have hx9 := bt_at a0 x3_2
                 replace p9 := eq_true p9
                 replace q9 := eq_true q9
                 go_wp2
                 go_ret
                 exact ⟨by first | rfl | (simp; done) | (simp [*]; done), by repeat (first | exact Drawn0.refl _ | apply Drawn0.step)⟩
          ·rw [if_neg c12] at H
           have c12b0 : decide (65 ≤ (bt a0 x3_2)) = false := decide_eq_false c12
           clear c12
           by_cases c24 : (bt a0 x3_2) ≥ 48
           ·rw [if_pos c24] at H
            have c24b0 : decide (48 ≤ (bt a0 x3_2)) = true := decide_eq_true c24
            clear c24
            by_cases c25 : ((bt a0 x3_2) ≤ 57)
            ·rw [if_pos c25] at H
             have c25b0 : decide ((bt a0 x3_2) ≤ 57) = true := decide_eq_true c25
             clear c25
             have H' := Aside0.mk H
             clear H
             have p9 : 0 ≤ (x3_2 : Int) := of_decide_eq_true (by first | (with_reducible assumption) | assumption)
             have q9 : x3_2 < (a0.size : Int) := of_decide_eq_true (by first | (with_reducible assumption) | assumption)
             have hx9 := bt_at a0 x3_2
             replace p9 := eq_true p9
             replace q9 := eq_true q9
             go_wp2
             go_roundg k2
             case measure => have := HJ1.out; have := HK2.out; omega
             case rel => exact ⟨(wrap64 (x3_2 + 1)), (by first | rfl | (simp; done) | (simp [*]; done)), (by first | exact H' | (subst_vars; exact H')), ⟨by have := HJ1.out; have := HK2.out; omega⟩, by repeat (first | exact Drawn0.refl _ | apply Drawn0.step)⟩
            ·rw [if_neg c25] at H
             have c25b0 : decide ((bt a0 x3_2) ≤ 57) = false := decide_eq_false c25
             clear c25
             by_cases c26 : (bt a0 x3_2) = 95
             ·rw [if_pos c26] at H
              have c26b0 : ((bt a0 x3_2) == 95) = true := beq_iff_eq.mpr c26
              have c26b1 : ((bt a0 x3_2) != 95) = false := bne_eq_false_iff_eq.mpr c26
              clear c26
              have H' := Aside0.mk H
              clear H
              have p9 : 0 ≤ (x3_2 : Int) := of_decide_eq_true (by first | (with_reducible assumption) | assumption)
              have q9 : x3_2 < (a0.size : Int) := of_decide_eq_true (by first | (with_reducible assumption) | assumption)
              have hx9 := bt_at a0 x3_2
              replace p9 := eq_true p9
              replace q9 := eq_true q9
              go_wp2
              go_roundg k2
              case measure => have := HJ1.out; have := HK2.out; omega
              case rel => exact ⟨(wrap64 (x3_2 + 1)), (by first | rfl | (simp; done) | (simp [*]; done)), (by first | exact H' | (subst_vars; exact H')), ⟨by have := HJ1.out; have := HK2.out; omega⟩, by repeat (first | exact Drawn0.refl _ | apply Drawn0.step)⟩
             ·rw [if_neg c26] at H
              have c26b0 : ((bt a0 x3_2) == 95) = false := beq_eq_false_iff_ne.mpr c26
              have c26b1 : ((bt a0 x3_2) != 95) = true := bne_iff_ne.mpr c26
              by_cases c27 : (bt a0 x3_2) = 46
              ·rw [if_pos c27] at H
               have c27b0 : ((bt a0 x3_2) == 46) = true := beq_iff_eq.mpr c27
               have c27b1 : ((bt a0 x3_2) != 46) = false := bne_eq_false_iff_eq.mpr c27
               clear c27
               have H' := Aside0.mk H
               clear H
               have p9 : 0 ≤ (x3_2 : Int) := of_decide_eq_true (by first | (with_reducible assumption) | assumption)
               have q9 : x3_2 < (a0.size : Int) := of_decide_eq_true (by first | (with_reducible assumption) | assumption)
               have hx9 := bt_at a0 x3_2
               replace p9 := eq_true p9
               replace q9 := eq_true q9
               go_wp2
               go_roundg k2
               case measure => have := HJ1.out; have := HK2.out; omega
               case rel => exact ⟨(wrap64 (x3_2 + 1)), (by first | rfl | (simp; done) | (simp [*]; done)), (by first | exact H' | (subst_vars; exact H')), ⟨by have := HJ1.out; have := HK2.out; omega⟩, by repeat (first | exact Drawn0.refl _ | apply Drawn0.step)⟩
              ·rw [if_neg c27] at H
               have c27b0 : ((bt a0 x3_2) == 46) = false := beq_eq_false_iff_ne.mpr c27
               have c27b1 : ((bt a0 x3_2) != 46) = true := bne_iff_ne.mpr c27
               by_cases c28 : (bt a0 x3_2) = 45
               ·rw [if_pos c28] at H
                have c28b0 : ((bt a0 x3_2) == 45) = true := beq_iff_eq.mpr c28
                have c28b1 : ((bt a0 x3_2) != 45) = false := bne_eq_false_iff_eq.mpr c28
                clear c28
                have H' := Aside0.mk H
                clear H
                have p9 : 0 ≤ (x3_2 : Int) := of_decide_eq_true (by first | (with_reducible assumption) | assumption)
                have q9 : x3_2 < (a0.size : Int) := of_decide_eq_true (by first | (with_reducible assumption) | assumption)
                have hx9 := bt_at a0 x3_2
                replace p9 := eq_true p9
                replace q9 := eq_true q9
                go_wp2
                go_roundg k2
                case measure => have := HJ1.out; have := HK2.out; omega
                case rel => exact ⟨(wrap64 (x3_2 + 1)), (by first | rfl | (simp; done) | (simp [*]; done)), (by first | exact H' | (subst_vars; exact H')), ⟨by have := HJ1.out; have := HK2.out; omega⟩, by repeat (first | exact Drawn0.refl _ | apply Drawn0.step)⟩
               ·rw [if_neg c28] at H
                have c28b0 : ((bt a0 x3_2) == 45) = false := beq_eq_false_iff_ne.mpr c28
                have c28b1 : ((bt a0 x3_2) != 45) = true := bne_iff_ne.mpr c28
                by_cases c29 : (bt a0 x3_2) = 43
                ·rw [if_pos c29] at H
                 have c29b0 : ((bt a0 x3_2) == 43) = true := beq_iff_eq.mpr c29
                 have c29b1 : ((bt a0 x3_2) != 43) = false := bne_eq_false_iff_eq.mpr c29
                 clear c29
                 have H' := Aside0.mk H
                 clear H
                 have p9 : 0 ≤ (x3_2 : Int) := of_decide_eq_true (by first | (with_reducible assumption) | assumption)
                 have q9 : x3_2 < (a0.size : Int) := of_decide_eq_true (by first | (with_reducible assumption) | assumption)
                 have hx9 := bt_at a0 x3_2
                 replace p9 := eq_true p9
                 replace q9 := eq_true q9
                 go_wp2
                 go_roundg k2
                 case measure => have := HJ1.out; have := HK2.out; omega
                 case rel => exact ⟨(wrap64 (x3_2 + 1)), (by first | rfl | (simp; done) | (simp [*]; done)), (by first | exact H' | (subst_vars; exact H')), ⟨by have := HJ1.out; have := HK2.out; omega⟩, by repeat (first | exact Drawn0.refl _ | apply Drawn0.step)⟩
                ·rw [if_neg c29] at H
                 have c29b0 : ((bt a0 x3_2) == 43) = false := beq_eq_false_iff_ne.mpr c29
                 have c29b1 : ((bt a0 x3_2) != 43) = true := bne_iff_ne.mpr c29
                 obtain rfl := Option.some.inj H
                 have p9 : 0 ≤ (x3_2 : Int) := of_decide_eq_true (by first | (with_reducible assumption) | assumption)
                 have q9 : x3_2 < (a0.size : Int) := of_decide_eq_true (by first | (with_reducible assumption) | assumption)
                 have hx9 := bt_at a0 x3_2
                 replace p9 := eq_true p9
                 replace q9 := eq_true q9
                 go_wp2
                 go_ret
                 exact ⟨by first | rfl | (simp; done) | (simp [*]; done), by repeat (first | exact Drawn0.refl _ | apply Drawn0.step)⟩
           ·rw [if_neg c24] at H
            have c24b0 : decide (48 ≤ (bt a0 x3_2)) = false := decide_eq_false c24
            clear c24
            by_cases c30 : (bt a0 x3_2) = 95
            ·rw [if_pos c30] at H
             have c30b0 : ((bt a0 x3_2) == 95) = true := beq_iff_eq.mpr c30
             have c30b1 : ((bt a0 x3_2) != 95) = false := bne_eq_false_iff_eq.mpr c30
             clear c30
             have H' := Aside0.mk H
             clear H
             have p9 : 0 ≤ (x3_2 : Int) := of_decide_eq_true (by first | (with_reducible assumption) | assumption)
             have q9 : x3_2 < (a0.size : Int) := of_decide_eq_true (by first | (with_reducible assumption) | assumption)
             have hx9 := bt_at a0 x3_2
             replace p9 := eq_true p9
             replace q9 := eq_true q9
             go_wp2
             go_roundg k2
             case measure => have := HJ1.out; have := HK2.out; omega
             case rel => exact ⟨(wrap64 (x3_2 + 1)), (by first | rfl | (simp; done) | (simp [*]; done)), (by first | exact H' | (subst_vars; exact H')), ⟨by have := HJ1.out; have := HK2.out; omega⟩, by repeat (first | exact Drawn0.refl _ | apply Drawn0.step)⟩
            ·rw [if_neg c30] at H
             have c30b0 : ((bt a0 x3_2) == 95) = false := beq_eq_false_iff_ne.mpr c30
             have c30b1 : ((bt a0 x3_2) != 95) = true := bne_iff_ne.mpr c30
             by_cases c31 : (bt a0 x3_2) = 46
             ·rw [if_pos c31] at H
              have c31b0 : ((bt a0 x3_2) == 46) = true := beq_iff_eq.mpr c31
              have c31b1 : ((bt a0 x3_2) != 46) = false := bne_eq_false_iff_eq.mpr c31
              clear c31
              have H' := Aside0.mk H
              clear H
              have p9 : 0 ≤ (x3_2 : Int) := of_decide_eq_true (by first | (with_reducible assumption) | assumption)
              have q9 : x3_2 < (a0.size : Int) := of_decide_eq_true (by first | (with_reducible assumption) | assumption)
              have hx9 := bt_at a0 x3_2
              replace p9 := eq_true p9
              replace q9 := eq_true q9
              go_wp2
              go_roundg k2
              case measure => have := HJ1.out; have := HK2.out; omega
              case rel => exact ⟨(wrap64 (x3_2 + 1)), (by first | rfl | (simp; done) | (simp [*]; done)), (by first | exact H' | (subst_vars; exact H')), ⟨by have := HJ1.out; have := HK2.out; omega⟩, by repeat (first | exact Drawn0.refl _ | apply Drawn0.step)⟩
             ·rw [if_neg c31] at H
              have c31b0 : ((bt a0 x3_2) == 46) = false := beq_eq_false_iff_ne.mpr c31
              have c31b1 : ((bt a0 x3_2) != 46) = true := bne_iff_ne.mpr c31
              by_cases c32 : (bt a0 x3_2) = 45
              ·rw [if_pos c32] at H
               have c32b0 : ((bt a0 x3_2) == 45) = true := beq_iff_eq.mpr c32
               have c32b1 : ((bt a0 x3_2) != 45) = false := bne_eq_false_iff_eq.mpr c32
               clear c32
               have H' := Aside0.mk H
               clear H
               have p9 : 0 ≤ (x3_2 : Int) := of_decide_eq_true (by first | (with_reducible assumption) | assumption)
               have q9 : x3_2 < (a0.size : Int) := of_decide_eq_true (by first | (with_reducible assumption) | assumption)
               have hx9 := bt_at a0 x3_2
               replace p9 := eq_true p9
               replace q9 := eq_true q9
               go_wp2
               go_roundg k2
               case measure => have := HJ1.out; have := HK2.out; omega
               case rel => exact ⟨(wrap64 (x3_2 + 1)), (by first | rfl | (simp; done) | (simp [*]; done)), (by first | exact H' | (subst_vars; exact H')), ⟨by have := HJ1.out; have := HK2.out; omega⟩, by repeat (first | exact Drawn0.refl _ | apply Drawn0.step)⟩
              ·rw [if_neg c32] at H
               have c32b0 : ((bt a0 x3_2) == 45) = false := beq_eq_false_iff_ne.mpr c32
               have c32b1 : ((bt a0 x3_2) != 45) = true := bne_iff_ne.mpr c32
               by_cases c33 : (bt a0 x3_2) = 43
               ·rw [if_pos c33] at H
                have c33b0 : ((bt a0 x3_2) == 43) = true := beq_iff_eq.mpr c33
                have c33b1 : ((bt a0 x3_2) != 43) = false := bne_eq_false_iff_eq.mpr c33
                clear c33
                have H' := Aside0.mk H
                clear H
                have p9 : 0 ≤ (x3_2 : Int) := of_decide_eq_true (by first | (with_reducible assumption) | assumption)
                have q9 : x3_2 < (a0.size : Int) := of_decide_eq_true (by first | (with_reducible assumption) | assumption)
                have hx9 := bt_at a0 x3_2
                replace p9 := eq_true p9
                replace q9 := eq_true q9
                go_wp2
                go_roundg k2
                case measure => have := HJ1.out; have := HK2.out; omega
                case rel => exact ⟨(wrap64 (x3_2 + 1)), (by first | rfl | (simp; done) | (simp [*]; done)), (by first | exact H' | (subst_vars; exact H')), ⟨by have := HJ1.out; have := HK2.out; omega⟩, by repeat (first | exact Drawn0.refl _ | apply Drawn0.step)⟩
               ·rw [if_neg c33] at H
                have c33b0 : ((bt a0 x3_2) == 43) = false := beq_eq_false_iff_ne.mpr c33
                have c33b1 : ((bt a0 x3_2) != 43) = true := bne_iff_ne.mpr c33
                obtain rfl := Option.some.inj H
                have p9 : 0 ≤ (x3_2 : Int) := of_decide_eq_true (by first | (with_reducible assumption) | assumption)
                have q9 : x3_2 < (a0.size : Int) := of_decide_eq_true (by first | (with_reducible assumption) | assumption)
                have hx9 := bt_at a0 x3_2
                replace p9 := eq_true p9
                replace q9 := eq_true q9
                go_wp2
                go_ret
                exact ⟨by first | rfl | (simp; done) | (simp [*]; done), by repeat (first | exact Drawn0.refl _ | apply Drawn0.step)⟩
        ·rw [if_neg c10] at H
         have c10b0 : decide (97 ≤ (bt a0 x3_2)) = false := decide_eq_false c10
         clear c10
         by_cases c34 : (bt a0 x3_2) ≥ 65
         ·rw [if_pos c34] at H
          have c34b0 : decide (65 ≤ (bt a0 x3_2)) = true := decide_eq_true c34
          clear c34
          by_cases c35 : (bt a0 x3_2) ≤ 90
          ·rw [if_pos c35] at H
           have c35b0 : decide ((bt a0 x3_2) ≤ 90) = true := decide_eq_true c35
           clear c35
           have H' := Aside0.mk H
           clear H
           have p9 : 0 ≤ (x3_2 : Int) := of_decide_eq_true (by first | (with_reducible assumption) | assumption)
           have q9 : x3_2 < (a0.size : Int) := of_decide_eq_true (by first | (with_reducible assumption) | assumption)
           have hx9 := bt_at a0 x3_2
           replace p9 := eq_true p9
           replace q9 := eq_true q9
           go_wp2
           go_roundg k2
           case measure => have := HJ1.out; have := HK2.out; omega
           case rel => exact ⟨(wrap64 (x3_2 + 1)), (by first | rfl | (simp; done) | (simp [*]; done)), (by first | exact H' | (subst_vars; exact H')), ⟨by have := HJ1.out; have := HK2.out; omega⟩, by repeat (first | exact Drawn0.refl _ | apply Drawn0.step)⟩
          ·rw [if_neg c35] at H
           have c35b0 : decide ((bt a0 x3_2) ≤ 90) = false := decide_eq_false c35
           clear c35
           by_cases c36 : (bt a0 x3_2) ≥ 48
           ·rw [if_pos c36] at H
            have c36b0 : decide (48 ≤ (bt a0 x3_2)) = true := decide_eq_true c36
            clear c36
            by_cases c37 : ((bt a0 x3_2) ≤ 57)
            ·rw [if_pos c37] at H
             have c37b0 : decide ((bt a0 x3_2) ≤ 57) = true := decide_eq_true c37
             clear c37
             have H' := Aside0.mk H
             clear H
             have p9 : 0 ≤ (x3_2 : Int) := of_decide_eq_true (by first | (with_reducible assumption) | assumption)
             have q9 : x3_2 < (a0.size : Int) := of_decide_eq_true (by first | (with_reducible assumption) | assumption)
             have hx9 := bt_at a0 x3_2
             replace p9 := eq_true p9
             replace q9 := eq_true q9
             go_wp2
             go_roundg k2
             case measure => have := HJ1.out; have := HK2.out; omega
             case rel => exact ⟨(wrap64 (x3_2 + 1)), (by first | rfl | (simp; done) | (simp [*]; done)), (by first | exact H' | (subst_vars; exact H')), ⟨by have := HJ1.out; have := HK2.out; omega⟩, by repeat (first | exact Drawn0.refl _ | apply Drawn0.step)⟩
            ·rw [if_neg c37] at H
             have c37b0 : decide ((bt a0 x3_2) ≤ 57) = false := decide_eq_false c37
             clear c37
             by_cases c38 : (bt a0 x3_2) = 95
             ·rw [if_pos c38] at H
              have c38b0 : ((bt a0 x3_2) == 95) = true := beq_iff_eq.mpr c38
              have c38b1 : ((bt a0 x3_2) != 95) = false := bne_eq_false_iff_eq.mpr c38
              clear c38
              have H' := Aside0.mk H
              clear H
              have p9 : 0 ≤ (x3_2 : Int) := of_decide_eq_true (by first | (with_reducible assumption) | assumption)
              have q9 : x3_2 < (a0.size : Int) := of_decide_eq_true (by first | (with_reducible assumption) | assumption)
              have hx9 := bt_at a0 x3_2
              replace p9 := eq_true p9
              replace q9 := eq_true q9
              go_wp2
              go_roundg k2
              case measure => have := HJ1.out; have := HK2.out; omega
              case rel => exact ⟨(wrap64 (x3_2 + 1)), (by first | rfl | (simp; done) | (simp [*]; done)), (by first | exact H' | (subst_vars; exact H')), ⟨by have := HJ1.out; have := HK2.out; omega⟩, by repeat (first | exact Drawn0.refl _ | apply Drawn0.step)⟩
             ·rw [if_neg c38] at H
              have c38b0 : ((bt a0 x3_2) == 95) = false := beq_eq_false_iff_ne.mpr c38
              have c38b1 : ((bt a0 x3_2) != 95) = true := bne_iff_ne.mpr c38
              by_cases c39 : (bt a0 x3_2) = 46
              ·rw [if_pos c39] at H
               have c39b0 : ((bt a0 x3_2) == 46) = true := beq_iff_eq.mpr c39
               have c39b1 : ((bt a0 x3_2) != 46) = false := bne_eq_false_iff_eq.mpr c39
               clear c39
               have H' := Aside0.mk H
               clear H
               have p9 : 0 ≤ (x3_2 : Int) := of_decide_eq_true (by first | (with_reducible assumption) | assumption)
               have q9 : x3_2 < (a0.size : Int) := of_decide_eq_true (by first | (with_reducible assumption) | assumption)
               have hx9 := bt_at a0 x3_2
               replace p9 := eq_true p9
               replace q9 := eq_true q9
               go_wp2
               go_roundg k2
               case measure => have := HJ1.out; have := HK2.out; omega
               case rel => exact ⟨(wrap64 (x3_2 + 1)), (by first | rfl | (simp; done) | (simp [*]; done)), (by first | exact H' | (subst_vars; exact H')), ⟨by have := HJ1.out; have := HK2.out; omega⟩, by repeat (first | exact Drawn0.refl _ | apply Drawn0.step)⟩
              ·rw [if_neg c39] at H
               have c39b0 : ((bt a0 x3_2) == 46) = false := beq_eq_false_iff_ne.mpr c39
               have c39b1 : ((bt a0 x3_2) != 46) = true := bne_iff_ne.mpr c39
               by_cases c40 : (bt a0 x3_2) = 45
               ·rw [if_pos c40] at H
                have c40b0 : ((bt a0 x3_2) == 45) = true := beq_iff_eq.mpr c40
                have c40b1 : ((bt a0 x3_2) != 45) = false := bne_eq_false_iff_eq.mpr c40
                clear c40
                have H' := Aside0.mk H
                clear H
                have p9 : 0 ≤ (x3_2 : Int) := of_decide_eq_true (by first | (with_reducible assumption) | assumption)
                have q9 : x3_2 < (a0.size : Int) := of_decide_eq_true (by first | (with_reducible assumption) | assumption)
                have hx9 := bt_at a0 x3_2
                replace p9 := eq_true p9
                replace q9 := eq_true q9
                go_wp2
                go_roundg k2
                case measure => have := HJ1.out; have := HK2.out; omega
                case rel => exact ⟨(wrap64 (x3_2 + 1)), (by first | rfl | (simp; done) | (simp [*]; done)), (by first | exact H' | (subst_vars; exact H')), ⟨by have := HJ1.out; have := HK2.out; omega⟩, by repeat (first | exact Drawn0.refl _ | apply Drawn0.step)⟩
               ·rw [if_neg c40] at H
                have c40b0 : ((bt a0 x3_2) == 45) = false := beq_eq_false_iff_ne.mpr c40
                have c40b1 : ((bt a0 x3_2) != 45) = true := bne_iff_ne.mpr c40
                by_cases c41 : (bt a0 x3_2) = 43
                ·rw [if_pos c41] at H
                 have c41b0 : ((bt a0 x3_2) == 43) = true := beq_iff_eq.mpr c41
                 have c41b1 : ((bt a0 x3_2) != 43) = false := bne_eq_false_iff_eq.mpr c41
                 clear c41
                 have H' := Aside0.mk H
                 clear H
                 have p9 : 0 ≤ (x3_2 : Int) := of_decide_eq_true (by first | (with_reducible assumption) | assumption)
                 have q9 : x3_2 < (a0.size : Int) := of_decide_eq_true (by first | (with_reducible assumption) | assumption)
                 have hx9 := bt_at a0 x3_2
                 replace p9 := eq_true p9
                 replace q9 := eq_true q9
                 go_wp2
                 go_roundg k2
                 case measure => have := HJ1.out; have := HK2.out; omega
                 case rel => exact ⟨(wrap64 (x3_2 + 1)), (by first | rfl | (simp; done) | (simp [*]; done)), (by first | exact H' | (subst_vars; exact H')), ⟨by have := HJ1.out; have := HK2.out; omega⟩, by repeat (first | exact Drawn0.refl _ | apply Drawn0.step)⟩
                ·rw [if_neg c41] at H
                 have c41b0 : ((bt a0 x3_2) == 43) = false := beq_eq_false_iff_ne.mpr c41
                 have c41b1 : ((bt a0 x3_2) != 43) = true := bne_iff_ne.mpr c41
                 obtain rfl := Option.some.inj H
                 have p9 : 0 ≤ (x3_2 : Int) := of_decide_eq_true (by first | (with_reducible assumption) | assumption)
                 have q9 : x3_2 < (a0.size : Int) := of_decide_eq_true (by first | (with_reducible assumption) | assumption)
                 have hx9 := bt_at a0 x3_2
                 replace p9 := eq_true p9
                 replace q9 := eq_true q9
                 go_wp2
                 go_ret
                 exact ⟨by first | rfl | (simp; done) | (simp [*]; done), by repeat (first | exact Drawn0.refl _ | apply Drawn0.step)⟩
           ·rw [if_neg c36] at H
            have c36b0 : decide (48 ≤ (bt a0 x3_2)) = false := decide_eq_false c36
            clear c36
            by_cases c42 : (bt a0 x3_2) = 95
            ·rw [if_pos c42] at H
             have c42b0 : ((bt a0 x3_2) == 95) = true := beq_iff_eq.mpr c42
             have c42b1 : ((bt a0 x3_2) != 95) = false := bne_eq_false_iff_eq.mpr c42
             clear c42
             have H' := Aside0.mk H
             clear H
             have p9 : 0 ≤ (x3_2 : Int) := of_decide_eq_true (by first | (with_reducible assumption) | assumption)
             have q9 : x3_2 < (a0.size : Int) := of_decide_eq_true (by first | (with_reducible assumption) | assumption)
             have hx9 := bt_at a0 x3_2
             replace p9 := eq_true p9
             replace q9 := eq_true q9
             go_wp2
             go_roundg k2
             case measure => have := HJ1.out; have := HK2.out; omega
             case rel => exact ⟨(wrap64 (x3_2 + 1)), (by first | rfl | (simp; done) | (simp [*]; done)), (by first | exact H' | (subst_vars; exact H')), ⟨by have := HJ1.out; have := HK2.out; omega⟩, by repeat (first | exact Drawn0.refl _ | apply Drawn0.step)⟩
            ·rw [if_neg c42] at H
             have c42b0 : ((bt a0 x3_2) == 95) = false := beq_eq_false_iff_ne.mpr c42
             have c42b1 : ((bt a0 x3_2) != 95) = true := bne_iff_ne.mpr c42
             by_cases c43 : (bt a0 x3_2) = 46
             ·rw [if_pos c43] at H
              have c43b0 : ((bt a0 x3_2) == 46) = true := beq_iff_eq.mpr c43
              have c43b1 : ((bt a0 x3_2) != 46) = false := bne_eq_false_iff_eq.mpr c43
              clear c43
              have H' := Aside0.mk H
              clear H
              have p9 : 0 ≤ (x3_2 : Int) := of_decide_eq_true (by first | (with_reducible assumption) | assumption)
              have q9 : x3_2 < (a0.size : Int) := of_decide_eq_true (by first | (with_reducible assumption) | assumption)
              have hx9 := bt_at a0 x3_2
              replace p9 := eq_true p9
              replace q9 := eq_true q9
              go_wp2
              go_roundg k2
              case measure => have := HJ1.out; have := HK2.out; omega
              case rel => exact ⟨(wrap64 (x3_2 + 1)), (by first | rfl | (simp; done) | (simp [*]; done)), (by first | exact H' | (subst_vars; exact H')), ⟨by have := HJ1.out; have := HK2.out; omega⟩, by repeat (first | exact Drawn0.refl _ | apply Drawn0.step)⟩
             ·rw [if_neg c43] at H
              have c43b0 : ((bt a0 x3_2) == 46) = false := beq_eq_false_iff_ne.mpr c43
              have c43b1 : ((bt a0 x3_2) != 46) = true := bne_iff_ne.mpr c43
              by_cases c44 : (bt a0 x3_2) = 45
              ·rw [if_pos c44] at H
               have c44b0 : ((bt a0 x3_2) == 45) = true := beq_iff_eq.mpr c44
               have c44b1 : ((bt a0 x3_2) != 45) = false := bne_eq_false_iff_eq.mpr c44
               clear c44
               have H' := Aside0.mk H
               clear H
               have p9 : 0 ≤ (x3_2 : Int) := of_decide_eq_true (by first | (with_reducible assumption) | assumption)
               have q9 : x3_2 < (a0.size : Int) := of_decide_eq_true (by first | (with_reducible assumption) | assumption)
               have hx9 := bt_at a0 x3_2
               replace p9 := eq_true p9
               replace q9 := eq_true q9
               go_wp2
               go_roundg k2
               case measure => have := HJ1.out; have := HK2.out; omega
               case rel => exact ⟨(wrap64 (x3_2 + 1)), (by first | rfl | (simp; done) | (simp [*]; done)), (by first | exact H' | (subst_vars; exact H')), ⟨by have := HJ1.out; have := HK2.out; omega⟩, by repeat (first | exact Drawn0.refl _ | apply Drawn0.step)⟩
              ·rw [if_neg c44] at H
               have c44b0 : ((bt a0 x3_2) == 45) = false := beq_eq_false_iff_ne.mpr c44
               have c44b1 : ((bt a0 x3_2) != 45) = true := bne_iff_ne.mpr c44
               by_cases c45 : (bt a0 x3_2) = 43
               ·rw [if_pos c45] at H
                have c45b0 : ((bt a0 x3_2) == 43) = true := beq_iff_eq.mpr c45
                have c45b1 : ((bt a0 x3_2) != 43) = false := bne_eq_false_iff_eq.mpr c45
                clear c45
                have H' := Aside0.mk H
                clear H
                have p9 : 0 ≤ (x3_2 : Int) := of_decide_eq_true (by first | (with_reducible assumption) | assumption)
                have q9 : x3_2 < (a0.size : Int) := of_decide_eq_true (by first | (with_reducible assumption) | assumption)
                have hx9 := bt_at a0 x3_2
                replace p9 := eq_true p9
                replace q9 := eq_true q9
                go_wp2
                go_roundg k2
                case measure => have := HJ1.out; have := HK2.out; omega
                case rel => exact ⟨(wrap64 (x3_2 + 1)), (by first | rfl | (simp; done) | (simp [*]; done)), (by first | exact H' | (subst_vars; exact H')), ⟨by have := HJ1.out; have := HK2.out; omega⟩, by repeat (first | exact Drawn0.refl _ | apply Drawn0.step)⟩
               ·rw [if_neg c45] at H
                have c45b0 : ((bt a0 x3_2) == 43) = false := beq_eq_false_iff_ne.mpr c45
                have c45b1 : ((bt a0 x3_2) != 43) = true := bne_iff_ne.mpr c45
                obtain rfl := Option.some.inj H
                have p9 : 0 ≤ (x3_2 : Int) := of_decide_eq_true (by first | (with_reducible assumption) | assumption)
                have q9 : x3_2 < (a0.size : Int) := of_decide_eq_true (by first | (with_reducible assumption) | assumption)
                have hx9 := bt_at a0 x3_2
                replace p9 := eq_true p9
                replace q9 := eq_true q9
                go_wp2
                go_ret
                exact ⟨by first | rfl | (simp; done) | (simp [*]; done), by repeat (first | exact Drawn0.refl _ | apply Drawn0.step)⟩
         ·rw [if_neg c34] at H
          have c34b0 : decide (65 ≤ (bt a0 x3_2)) = false := decide_eq_false c34
          clear c34
          by_cases c46 : (bt a0 x3_2) ≥ 48
          ·rw [if_pos c46] at H
           have c46b0 : decide (48 ≤ (bt a0 x3_2)) = true := decide_eq_true c46
           clear c46
           by_cases c47 : ((bt a0 x3_2) ≤ 57)
           ·rw [if_pos c47] at H
            have c47b0 : decide ((bt a0 x3_2) ≤ 57) = true := decide_eq_true c47
            clear c47
            have H' := Aside0.mk H
            clear H
            have p9 : 0 ≤ (x3_2 : Int) := of_decide_eq_true (by first | (with_reducible assumption) | assumption)
            have q9 : x3_2 < (a0.size : Int) := of_decide_eq_true (by first | (with_reducible assumption) | assumption)
            have hx9 := bt_at a0 x3_2
            replace p9 := eq_true p9
            replace q9 := eq_true q9
            go_wp2
            go_roundg k2
            case measure => have := HJ1.out; have := HK2.out; omega
            case rel => exact ⟨(wrap64 (x3_2 + 1)), (by first | rfl | (simp; done) | (simp [*]; done)), (by first | exact H' | (subst_vars; exact H')), ⟨by have := HJ1.out; have := HK2.out; omega⟩, by repeat (first | exact Drawn0.refl _ | apply Drawn0.step)⟩
           ·rw [if_neg c47] at H
            have c47b0 : decide ((bt a0 x3_2) ≤ 57) = false := decide_eq_false c47
            clear c47
            by_cases c48 : (bt a0 x3_2) = 95
            ·rw [if_pos c48] at H
             have c48b0 : ((bt a0 x3_2) == 95) = true := beq_iff_eq.mpr c48
             have c48b1 : ((bt a0 x3_2) != 95) = false := bne_eq_false_iff_eq.mpr c48
             clear c48
             have H' := Aside0.mk H
             clear H
             have p9 : 0 ≤ (x3_2 : Int) := of_decide_eq_true (by first | (with_reducible assumption) | assumption)
             have q9 : x3_2 < (a0.size : Int) := of_decide_eq_true (by first | (with_reducible assumption) | assumption)
             have hx9 := bt_at a0 x3_2
             replace p9 := eq_true p9
             replace q9 := eq_true q9
             go_wp2
             go_roundg k2
             case measure => have := HJ1.out; have := HK2.out; omega
             case rel => exact ⟨(wrap64 (x3_2 + 1)), (by first | rfl | (simp; done) | (simp [*]; done)), (by first | exact H' | (subst_vars; exact H')), ⟨by have := HJ1.out; have := HK2.out; omega⟩, by repeat (first | exact Drawn0.refl _ | apply Drawn0.step)⟩
            ·rw [if_neg c48] at H
             have c48b0 : ((bt a0 x3_2) == 95) = false := beq_eq_false_iff_ne.mpr c48
             have c48b1 : ((bt a0 x3_2) != 95) = true := bne_iff_ne.mpr c48
             by_cases c49 : (bt a0 x3_2) = 46
             ·rw [if_pos c49] at H
              have c49b0 : ((bt a0 x3_2) == 46) = true := beq_iff_eq.mpr c49
              have c49b1 : ((bt a0 x3_2) != 46) = false := bne_eq_false_iff_eq.mpr c49
              clear c49
              have H' := Aside0.mk H
              clear H
              have p9 : 0 ≤ (x3_2 : Int) := of_decide_eq_true (by first | (with_reducible assumption) | assumption)
              have q9 : x3_2 < (a0.size : Int) := of_decide_eq_true (by first | (with_reducible assumption) | assumption)
              have hx9 := bt_at a0 x3_2
              replace p9 := eq_true p9
              replace q9 := eq_true q9
              go_wp2
              go_roundg k2
              case measure => have := HJ1.out; have := HK2.out; omega
              case rel => exact ⟨(wrap64 (x3_2 + 1)), (by first | rfl | (simp; done) | (simp [*]; done)), (by first | exact H' | (subst_vars; exact H')), ⟨by have := HJ1.out; have := HK2.out; omega⟩, by repeat (first | exact Drawn0.refl _ | apply Drawn0.step)⟩
             ·rw [if_neg c49] at H
              have c49b0 : ((bt a0 x3_2) == 46) = false := beq_eq_false_iff_ne.mpr c49
              have c49b1 : ((bt a0 x3_2) != 46) = true := bne_iff_ne.mpr c49
              by_cases c50 : (bt a0 x3_2) = 45
              ·rw [if_pos c50] at H
               have c50b0 : ((bt a0 x3_2) == 45) = true := beq_iff_eq.mpr c50
               have c50b1 : ((bt a0 x3_2) != 45) = false := bne_eq_false_iff_eq.mpr c50
               clear c50
               have H' := Aside0.mk H
               clear H
               have p9 : 0 ≤ (x3_2 : Int) := of_decide_eq_true (by first | (with_reducible assumption) | assumption)
               have q9 : x3_2 < (a0.size : Int) := of_decide_eq_true (by first | (with_reducible assumption) | assumption)
               have hx9 := bt_at a0 x3_2
               replace p9 := eq_true p9
               replace q9 := eq_true q9
               go_wp2
               go_roundg k2
               case measure => have := HJ1.out; have := HK2.out; omega
               case rel => exact ⟨(wrap64 (x3_2 + 1)), (by first | rfl | (simp; done) | (simp [*]; done)), (by first | exact H' | (subst_vars; exact H')), ⟨by have := HJ1.out; have := HK2.out; omega⟩, by repeat (first | exact Drawn0.refl _ | apply Drawn0.step)⟩
              ·rw [if_neg c50] at H
               have c50b0 : ((bt a0 x3_2) == 45) = false := beq_eq_false_iff_ne.mpr c50
               have c50b1 : ((bt a0 x3_2) != 45) = true := bne_iff_ne.mpr c50
               by_cases c51 : (bt a0 x3_2) = 43
               ·rw [if_pos c51] at H
                have c51b0 : ((bt a0 x3_2) == 43) = true := beq_iff_eq.mpr c51
                have c51b1 : ((bt a0 x3_2) != 43) = false := bne_eq_false_iff_eq.mpr c51
                clear c51
                have H' := Aside0.mk H
                clear H
                have p9 : 0 ≤ (x3_2 : Int) := of_decide_eq_true (by first | (with_reducible assumption) | assumption)
                have q9 : x3_2 < (a0.size : Int) := of_decide_eq_true (by first | (with_reducible assumption) | assumption)
                have hx9 := bt_at a0 x3_2
                replace p9 := eq_true p9
                replace q9 := eq_true q9
                go_wp2
                go_roundg k2
                case measure => have := HJ1.out; have := HK2.out; omega
                case rel => exact ⟨(wrap64 (x3_2 + 1)), (by first | rfl | (simp; done) | (simp [*]; done)), (by first | exact H' | (subst_vars; exact H')), ⟨by have := HJ1.out; have := HK2.out; omega⟩, by repeat (first | exact Drawn0.refl _ | apply Drawn0.step)⟩
               ·rw [if_neg c51] at H
                have c51b0 : ((bt a0 x3_2) == 43) = false := beq_eq_false_iff_ne.mpr c51
                have c51b1 : ((bt a0 x3_2) != 43) = true := bne_iff_ne.mpr c51
                obtain rfl := Option.some.inj H
                have p9 : 0 ≤ (x3_2 : Int) := of_decide_eq_true (by first | (with_reducible assumption) | assumption)
                have q9 : x3_2 < (a0.size : Int) := of_decide_eq_true (by first | (with_reducible assumption) | assumption)
                have hx9 := bt_at a0 x3_2
                replace p9 := eq_true p9
                replace q9 := eq_true q9
                go_wp2
                go_ret
                exact ⟨by first | rfl | (simp; done) | (simp [*]; done), by repeat (first | exact Drawn0.refl _ | apply Drawn0.step)⟩
          ·rw [if_neg c46] at H
           have c46b0 : decide (48 ≤ (bt a0 x3_2)) = false := decide_eq_false c46
           clear c46
           by_cases c52 : (bt a0 x3_2) = 95
           ·rw [if_pos c52] at H
            have c52b0 : ((bt a0 x3_2) == 95) = true := beq_iff_eq.mpr c52
            have c52b1 : ((bt a0 x3_2) != 95) = false := bne_eq_false_iff_eq.mpr c52
            clear c52
            have H' := Aside0.mk H
            clear H
            have p9 : 0 ≤ (x3_2 : Int) := of_decide_eq_true (by first | (with_reducible assumption) | assumption)
            have q9 : x3_2 < (a0.size : Int) := of_decide_eq_true (by first | (with_reducible assumption) | assumption)
            have hx9 := bt_at a0 x3_2
            replace p9 := eq_true p9
            replace q9 := eq_true q9
            go_wp2
            go_roundg k2
            case measure => have := HJ1.out; have := HK2.out; omega
            case rel => exact ⟨(wrap64 (x3_2 + 1)), (by first | rfl | (simp; done) | (simp [*]; done)), (by first | exact H' | (subst_vars; exact H')), ⟨by have := HJ1.out; have := HK2.out; omega⟩, by repeat (first | exact Drawn0.refl _ | apply Drawn0.step)⟩
           ·rw [if_neg c52] at H
            have c52b0 : ((bt a0 x3_2) == 95) = false := beq_eq_false_iff_ne.mpr c52
            have c52b1 : ((bt a0 x3_2) != 95) = true := bne_iff_ne.mpr c52
            by_cases c53 : (bt a0 x3_2) = 46
            ·rw [if_pos c53] at H
             have c53b0 : ((bt a0 x3_2) == 46) = true := beq_iff_eq.mpr c53
             have c53b1 : ((bt a0 x3_2) != 46) = false := bne_eq_false_iff_eq.mpr c53
             clear c53
             have H' := Aside0.mk H
             clear H
             have p9 : 0 ≤ (x3_2 : Int) := of_decide_eq_true (by first | (with_reducible assumption) | assumption)
             have q9 : x3_2 < (a0.size : Int) := of_decide_eq_true (by first | (with_reducible assumption) | assumption)
             have hx9 := bt_at a0 x3_2
             replace p9 := eq_true p9
             replace q9 := eq_true q9
             go_wp2
             go_roundg k2
             case measure => have := HJ1.out; have := HK2.out; omega
             case rel => exact ⟨(wrap64 (x3_2 + 1)), (by first | rfl | (simp; done) | (simp [*]; done)), (by first | exact H' | (subst_vars; exact H')), ⟨by have := HJ1.out; have := HK2.out; omega⟩, by repeat (first | exact Drawn0.refl _ | apply Drawn0.step)⟩
            ·rw [if_neg c53] at H
             have c53b0 : ((bt a0 x3_2) == 46) = false := beq_eq_false_iff_ne.mpr c53
             have c53b1 : ((bt a0 x3_2) != 46) = true := bne_iff_ne.mpr c53
             by_cases c54 : (bt a0 x3_2) = 45
             ·rw [if_pos c54] at H
              have c54b0 : ((bt a0 x3_2) == 45) = true := beq_iff_eq.mpr c54
              have c54b1 : ((bt a0 x3_2) != 45) = false := bne_eq_false_iff_eq.mpr c54
              clear c54
              have H' := Aside0.mk H
              clear H
              have p9 : 0 ≤ (x3_2 : Int) := of_decide_eq_true (by first | (with_reducible assumption) | assumption)
              have q9 : x3_2 < (a0.size : Int) := of_decide_eq_true (by first | (with_reducible assumption) | assumption)
              have hx9 := bt_at a0 x3_2
              replace p9 := eq_true p9
              replace q9 := eq_true q9
              go_wp2
              go_roundg k2
              case measure => have := HJ1.out; have := HK2.out; omega
              case rel => exact ⟨(wrap64 (x3_2 + 1)), (by first | rfl | (simp; done) | (simp [*]; done)), (by first | exact H' | (subst_vars; exact H')), ⟨by have := HJ1.out; have := HK2.out; omega⟩, by repeat (first | exact Drawn0.refl _ | apply Drawn0.step)⟩
             ·rw [if_neg c54] at H
              have c54b0 : ((bt a0 x3_2) == 45) = false := beq_eq_false_iff_ne.mpr c54
              have c54b1 : ((bt a0 x3_2) != 45) = true := bne_iff_ne.mpr c54
              by_cases c55 : (bt a0 x3_2) = 43
              ·rw [if_pos c55] at H
               have c55b0 : ((bt a0 x3_2) == 43) = true := beq_iff_eq.mpr c55
               have c55b1 : ((bt a0 x3_2) != 43) = false := bne_eq_false_iff_eq.mpr c55
               clear c55
               have H' := Aside0.mk H
               clear H
               have p9 : 0 ≤ (x3_2 : Int) := of_decide_eq_true (by first | (with_reducible assumption) | assumption)
               have q9 : x3_2 < (a0.size : Int) := of_decide_eq_true (by first | (with_reducible assumption) | assumption)
               have hx9 := bt_at a0 x3_2
               replace p9 := eq_true p9
               replace q9 := eq_true q9
               go_wp2
               go_roundg k2
               case measure => have := HJ1.out; have := HK2.out; omega
               case rel => exact ⟨(wrap64 (x3_2 + 1)), (by first | rfl | (simp; done) | (simp [*]; done)), (by first | exact H' | (subst_vars; exact H')), ⟨by have := HJ1.out; have := HK2.out; omega⟩, by repeat (first | exact Drawn0.refl _ | apply Drawn0.step)⟩
              ·rw [if_neg c55] at H
               have c55b0 : ((bt a0 x3_2) == 43) = false := beq_eq_false_iff_ne.mpr c55
               have c55b1 : ((bt a0 x3_2) != 43) = true := bne_iff_ne.mpr c55
               obtain rfl := Option.some.inj H
               have p9 : 0 ≤ (x3_2 : Int) := of_decide_eq_true (by first | (with_reducible assumption) | assumption)
               have q9 : x3_2 < (a0.size : Int) := of_decide_eq_true (by first | (with_reducible assumption) | assumption)
               have hx9 := bt_at a0 x3_2
               replace p9 := eq_true p9
               replace q9 := eq_true q9
               go_wp2
               go_ret
               exact ⟨by first | rfl | (simp; done) | (simp [*]; done), by repeat (first | exact Drawn0.refl _ | apply Drawn0.step)⟩
       ·rw [if_neg c8] at H
        exact absurd H (by simp)
      ·rw [if_neg c7] at H
       have c7b0 : decide (x3_2 < (a0.size : Int)) = false := decide_eq_false c7
       clear c7
       obtain rfl := Option.some.inj H
       go_wp2
       go_ret
       exact ⟨by first | rfl | (simp; done) | (simp [*]; done), by repeat (first | exact Drawn0.refl _ | apply Drawn0.step)⟩

end Go.Proofs.YtdhilbefeehbaaaDoor.G

/- Go functions as Lean functions, each with its contract: written by a program of mine over the kit's print. Conditions: each contract's own. -/
namespace Go.Proofs.YtdhilbefeehbaaaDoor.G
open Go.RowKit Go.Proofs.YtdhilbefeehbaaaDoorW.PrintWords Go.Proofs.YtdhilbefeehbaaaDoorW.PrintLast Go.Proofs.YtdhilbefeehbaaaDoorW.PrintMore
attribute [local go_sem] max2_int min2_int max_two min_two max_three min_three max_four min_four   -- for this text's walks alone
set_option linter.unusedVariables false
set_option linter.unusedSimpArgs false

/-! ### bloomeryref03_May: function 31 -/
def bloomeryref03_May.l0 : Nat → List ByteArray → Int → Option (Bool)
 | 0, _, _ => none
 | k + 1, x3, x4 => if x4 < (x3.length : Int) then (if 0 ≤ x4 then ((bloomeryref03_Part.f k (rdOf ByteArray.empty x3 x4)).bind fun t148 => (if t148 = true then (bloomeryref03_May.l0 k x3 (wrap64 (x4 + 1))) else (some false))) else (none)) else (some (decide ((x3.length : Int) ≤ 16)))
def bloomeryref03_May.f (k : Nat) (a0 : ByteArray) : Option (Bool) := (bloomeryref03_Parts.f k a0).bind fun t144 => (bloomeryref03_May.l0 k t144 0)
set_option maxHeartbeats 8000000 in
set_option maxRecDepth 100000 in
theorem bloomeryref03_May.calls (k : Nat) (a0 : ByteArray) (r : Bool) (w : World) (h : bloomeryref03_May.f k a0 = some r) :
  Calls Tryd.prog 31 #[.string a0] w fun e w' => e = .returned (.bool r) ∧ Below w.heap.size w w' := by
 have HB := Aside0.mk (Below.refl w.heap.size w)
 have H : ((bloomeryref03_Parts.f k a0).bind fun t144 => (bloomeryref03_May.l0 k t144 0)) = some r := h
 clear h
 replace H := Option.bind_eq_some_iff.mp H
 obtain ⟨t144, A20, H⟩ := H
 replace H : (bloomeryref03_May.l0 k t144 0) = some r := H
 have A2 := Aside0.mk A20
 clear A20
 have H' := Aside0.mk H
 clear H
 go_enter Tryd.func31, Tryd.ntmps31
 go_wp2_with (first | ((with_reducible refine gate_callee (f := 47) rfl ?_); refine goesL_ (some 6) rfl rfl Tryd.func47 (by kernel_rfl) rfl #[.string a0] rfl (by (try simp only [List.map_toArray, List.map_cons, List.map_nil]); first | done | rfl | (simp only [List.length_drop, List.length_take]; rfl)) ?_; (with_reducible refine (bloomeryref03_Parts.calls k a0 t144 _ A2.out).mono ?_); rintro e w3 ⟨v145, rfl, ho0, hb⟩; refine ⟨_, rfl, ?_⟩; have n0_ := Aside0.mk (Kd.R_lower ho0 (below_size (by repeat (first | (with_reducible first | exact HB.out | apply below_alloc | apply pw_below_drewN | apply below_drew1) | exact HB.out)))); have n1_ := Aside0.mk (below_step (by repeat (first | (with_reducible first | exact HB.out | apply below_alloc | apply pw_below_drewN | apply below_drew1) | exact HB.out)) hb); clear HB; have HO146 := n0_; have HB := n1_; clear n0_ n1_; (try clear hb); (try clear hb2); (try clear hk); (try clear hi); (try clear ho0)))
 go_loopg [4] k (fun kq v4 w' => ∃ (x4_1 : Int), v4 = .int .i64 x4_1 ∧ Aside0 (bloomeryref03_May.l0 kq t144 x4_1 = some r) ∧ Aside0 (kq ≤ k) ∧ Aside0 (Kd.R Kd.string 9 w' w.heap.size (fun _ => True) v145 t144) ∧ Aside0 (Below w.heap.size w w'))
 case atStart => exact ⟨(0), (by first | rfl | (simp; done) | (simp [*]; done)), (by first | exact H' | (subst_vars; exact H')), ⟨Nat.le_refl _⟩, ⟨by (with_reducible repeat (first | apply Kd.R_alloc | apply Kd.R_drewN | apply Kd.R_drew)); exact HO146.out⟩, ⟨by repeat (first | (with_reducible first | exact HB.out | apply below_alloc | apply pw_below_drewN | apply below_drew1) | exact HB.out)⟩⟩
 case round =>
  clear H'
  try clear p2
  try clear c3
  obtain ⟨x4_1, rfl, HA, HK1, HO_3, HB⟩ := hrel
  cases gk with
  | zero => exact absurd HA.out (by simp [bloomeryref03_May.l0])
  | succ k1 =>
   have H := HA.out
   clear HA
   simp only [bloomeryref03_May.l0] at H
   by_cases c4 : x4_1 < (t144.length : Int)
   ·rw [if_pos c4] at H
    have c4b0 : decide (x4_1 < (t144.length : Int)) = true := decide_eq_true c4
    clear c4
    by_cases c5 : 0 ≤ x4_1
    ·rw [if_pos c5] at H
     have c5b0 : decide (0 ≤ x4_1) = true := decide_eq_true c5
     clear c5
     replace H := Option.bind_eq_some_iff.mp H
     obtain ⟨t148, A60, H⟩ := H
     replace H : (if t148 = true then (bloomeryref03_May.l0 k1 t144 (wrap64 (x4_1 + 1))) else (some false)) = some r := H
     have A6 := Aside0.mk A60
     clear A60
     by_cases c7 : t148 = true
     ·subst c7
      have H1 : (bloomeryref03_May.l0 k1 t144 (wrap64 (x4_1 + 1))) = some r := by rw [if_pos rfl] at H; exact H
      clear H
      have H := H1
      clear H1
      have H' := Aside0.mk H
      clear H
      obtain ⟨Ao8, co8, eo8⟩ := Kd.R_slice HO_3.out
      subst eo8
      have p147 : 0 ≤ (x4_1 : Int) := of_decide_eq_true (by first | (with_reducible assumption) | assumption)
      have q147 : x4_1 < (t144.length : Int) := of_decide_eq_true (by first | (with_reducible assumption) | assumption)
      obtain ⟨ad147, e147, hx147_0⟩ := Kd.at_string (Kd.R_reads' HO_3.out).2.2 x4_1 p147 q147
      cases e147
      replace p147 := eq_true p147
      replace q147 := eq_true q147
      go_wp2_with (first | ((with_reducible refine gate_callee (f := 48) rfl ?_); refine goesL_ (some 17) rfl rfl Tryd.func48 (by kernel_rfl) rfl #[.string (rdOf ByteArray.empty t144 x4_1)] rfl (by (try simp only [List.map_toArray, List.map_cons, List.map_nil]); first | done | rfl | (simp only [List.length_drop, List.length_take]; rfl)) ?_; (with_reducible refine (bloomeryref03_Part.calls k1 (rdOf ByteArray.empty t144 x4_1) true _ A6.out).mono ?_); rintro e w' ⟨rfl, ⟨nd, rfl⟩⟩; refine ⟨_, rfl, ?_⟩))
      go_roundg k1
      case measure => have := HK1.out; omega
      case rel => exact ⟨(wrap64 (x4_1 + 1)), (by first | rfl | (simp; done) | (simp [*]; done)), (by first | exact H' | (subst_vars; exact H')), ⟨by have := HK1.out; omega⟩, ⟨by (with_reducible repeat (first | apply Kd.R_alloc | apply Kd.R_drewN | apply Kd.R_drew)); exact HO_3.out⟩, ⟨by repeat (first | (with_reducible first | exact HB.out | apply below_alloc | apply pw_below_drewN | apply below_drew1) | exact HB.out)⟩⟩
     ·replace c7 := Bool.eq_false_iff.mpr c7
      subst c7
      have H1 : (some false) = some r := by rw [if_neg (show ¬ (false = true) by decide)] at H; exact H
      clear H
      have H := H1
      clear H1
      obtain rfl := Option.some.inj H
      obtain ⟨Ao9, co9, eo9⟩ := Kd.R_slice HO_3.out
      subst eo9
      have p147 : 0 ≤ (x4_1 : Int) := of_decide_eq_true (by first | (with_reducible assumption) | assumption)
      have q147 : x4_1 < (t144.length : Int) := of_decide_eq_true (by first | (with_reducible assumption) | assumption)
      obtain ⟨ad147, e147, hx147_0⟩ := Kd.at_string (Kd.R_reads' HO_3.out).2.2 x4_1 p147 q147
      cases e147
      replace p147 := eq_true p147
      replace q147 := eq_true q147
      go_wp2_with (first | ((with_reducible refine gate_callee (f := 48) rfl ?_); refine goesL_ (some 17) rfl rfl Tryd.func48 (by kernel_rfl) rfl #[.string (rdOf ByteArray.empty t144 x4_1)] rfl (by (try simp only [List.map_toArray, List.map_cons, List.map_nil]); first | done | rfl | (simp only [List.length_drop, List.length_take]; rfl)) ?_; (with_reducible refine (bloomeryref03_Part.calls k1 (rdOf ByteArray.empty t144 x4_1) false _ A6.out).mono ?_); rintro e w' ⟨rfl, ⟨nd, rfl⟩⟩; refine ⟨_, rfl, ?_⟩))
      go_ret
      exact ⟨by first | rfl | (simp [errW_none, errW_some] <;> rfl) | (simp [*, errW_none, errW_some] <;> rfl), by repeat (first | (with_reducible first | exact HB.out | apply below_alloc | apply pw_below_drewN | apply below_drew1) | exact HB.out)⟩
    ·rw [if_neg c5] at H
     exact absurd H (by simp)
   ·rw [if_neg c4] at H
    have c4b0 : decide (x4_1 < (t144.length : Int)) = false := decide_eq_false c4
    clear c4
    obtain rfl := Option.some.inj H
    obtain ⟨Ao10, co10, eo10⟩ := Kd.R_slice HO_3.out
    subst eo10
    go_wp2
    go_ret
    exact ⟨by first | rfl | (simp [errW_none, errW_some] <;> rfl) | (simp [*, errW_none, errW_some] <;> rfl), by repeat (first | (with_reducible first | exact HB.out | apply below_alloc | apply pw_below_drewN | apply below_drew1) | exact HB.out)⟩

end Go.Proofs.YtdhilbefeehbaaaDoor.G
