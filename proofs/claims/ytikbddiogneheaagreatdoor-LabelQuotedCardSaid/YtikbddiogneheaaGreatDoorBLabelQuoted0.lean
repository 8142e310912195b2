/- Texts towards the law LabelQuoted, one behind the other: each begins with its own sentence. Conditions: each theorem's own. -/
import Derived.Shelf.GgClosure.StringsIndexFuncTop
import Derived.KernelRfl
import Derived.Lib.ItoaNum
import Derived.Shelf.GgClosure.StringsIndexFunc
import Derived.Shelf.Small.Strs
import Derived.Shelf.Strings.Search1
import Derived.Shelf.Strings.Search2
import Derived.Shelf.Strings.Search3
import Derived.Shelf.Strings.Count
import Derived.Shelf.Strings.LastIndex
import Derived.Shelf.Strings.Prefix
import Derived.Below
import Derived.WalkSmall
import Derived.Lib.Builder
import Derived.Lib.UnsafeStr
import Derived.Lib.AppendStr
import Derived.Lib.LaidTab
import Derived.Lib.IndexBytes
import Derived.Lib.Strings
import Derived.Lib.ItoaMem
import Derived.Sort.Grow
import Derived.WalkKit
import Derived.WalkSpells
import Derived.Lib.Hide
import Derived.Lib.Bytealg
import Derived.RangeFuncNested
import Derived.RangeFuncBound
import Derived.RangeFuncCalls
import Derived.RangeFuncLeaves
import Derived.Shelf.Abstract
import Derived.Shelf.RegionOpen
import Derived.OwnWalkIn
import Derived.TacticsInMore
import Derived.LoopNIn
import Derived.LoopIn
import Derived.Shelf.LaysC
import Derived.Shelf.Strconv.ToErrorRange
import Derived.Shelf.Strconv.ParseUint10At
import Derived.BigCall
import Derived.BigGuard
import Derived.Lib.Bytes2
import Derived.Lib.IndexLaws
import Derived.Tactics
import Derived.Tactics2
import Derived.Defers
import Derived.Laws.Pointers
import Derived.Laws.LoneSync
import Derived.RegionTactic
import Derived.RegionCalls
import Derived.ChangeAlike
import Derived.Laws.NewBlocks
import Derived.Deep.LoopGhost
import Derived.Laws.CopyOwn
import Derived.Deep.QuietTactic
import Derived.BigQuiet
import Derived.Lib.ParseIntB
import Derived.Laws.Cover1
import Derived.Deep.Draws
import Derived.Deep.AppendLies
import Derived.Maps.AppendAt
import Derived.OwnWalk
import Derived.Laws.BytesArg
import Derived.Laws.MakeOwn
import Derived.Laws.OwnMore
import Derived.Deep.OwnRows
import Derived.Lib.ConvBytes
import Derived.Laws.Slices
import Derived.RowKit3
import Derived.WideLaws
import Derived.Deep.DeepCutAuto
import Derived.Deep.CutBlock
import Derived.Deep.RegionHeld3
import Derived.Laws.Rows
import Derived.ArgAppend
import Derived.Laws.IdiomCopy
import Derived.OrdersHeld
import Derived.Laws.BitsLemmas
import Derived.RowKit
import Derived.Test.YtikbddiogneheaaGreatDoorProg
import Derived.Test.YtikbddiogneheaaGreatDoorWMore
import Derived.Test.YtikbddiogneheaaGreatDoorWWords
import Derived.Test.YtikbddiogneheaaGreatDoorWLast
import Derived.Test.YtikbddiogneheaaGreatDoorWTab
import Derived.Test.YtikbddiogneheaaGreatDoorWQPut
import Derived.Test.YtikbddiogneheaaGreatDoorWApart
import Derived.Test.YtikbddiogneheaaGreatDoorWArr
import Derived.Test.YtikbddiogneheaaGreatDoorWZeros
import Derived.Test.YtikbddiogneheaaGreatDoorWFoot
import Derived.Test.YtikbddiogneheaaGreatDoorWKept
import Derived.Test.YtikbddiogneheaaGreatDoorWShare
import Derived.Test.YtikbddiogneheaaGreatDoorWN
import Derived.Test.YtikbddiogneheaaGreatDoorWEqStruct
import Derived.Test.YtikbddiogneheaaGreatDoorWRepsOne
import Derived.Test.YtikbddiogneheaaGreatDoorWGuard
import Derived.Test.YtikbddiogneheaaGreatDoorWNEv
/- The shelf's contract of strings.ContainsFunc, laid at this dump by its numbers. Conditions: the contract's own. -/
namespace Go.Proofs.YtikbddiogneheaaGreatDoor
open Go.Shelf Go.RowKit
def gwRen : Go.Shelf.Ren := ⟨fun | 15 => 99 | 17 => 80 | 20 => 113 | n => n, fun | 0 => 0 | 3 => 3 | 4 => 4 | 9 => 9 | 21 => 21 | 23 => 111 | n => n, fun | n => n⟩
theorem laysGw17 : Go.Proofs.LaysGw.n17 Tryz.prog gwRen := {
  mixed := by kernel_rfl
  f15 := Tryz.func99.trans (congrArg some (by kernel_rfl))
  f17 := Tryz.func80.trans (congrArg some (by kernel_rfl))
  f20 := Tryz.func113.trans (congrArg some (by kernel_rfl))
  t0 := Tryz.underlying0
  a0 := Tryz.isAgg0
  z0 := Tryz.sizeOf0
  v0 := Tryz.zeroValue0
  i0 := by kernel_rfl
  t3 := Tryz.underlying3
  a3 := Tryz.isAgg3
  z3 := Tryz.sizeOf3
  v3 := Tryz.zeroValue3
  i3 := by kernel_rfl
  t4 := Tryz.underlying4
  a4 := Tryz.isAgg4
  z4 := Tryz.sizeOf4
  v4 := Tryz.zeroValue4
  i4 := by kernel_rfl
  t9 := Tryz.underlying9
  a9 := Tryz.isAgg9
  z9 := Tryz.sizeOf9
  v9 := Tryz.zeroValue9
  i9 := by kernel_rfl
  t21 := Tryz.underlying21
  a21 := Tryz.isAgg21
  z21 := Tryz.sizeOf21
  v21 := Tryz.zeroValue21
  i21 := by kernel_rfl
  t23 := Tryz.underlying111
  a23 := Tryz.isAgg111
  z23 := Tryz.sizeOf111
  v23 := Tryz.zeroValue111
  i23 := by kernel_rfl }
theorem ContainsFunc_calls (g : Nat) (lb : Array Value) (eg : ∀ args w, (callFunc g args).run Tryz.prog w = .ok (.enter g args) w) (p : Nat → Bool) (s : ByteArray) (w : World) (hp : PredAt Tryz.prog g lb encR p w) :
    Calls Tryz.prog 80 #[.string s, .func (.func g) #[] lb] w fun e w' => e = .returned (.bool (decide (0 ≤ Lib.idxFunc p true s))) ∧ Below w.heap.size w w' :=
  Any.strings_ContainsFunc laysGw17 g lb eg p s w hp
end Go.Proofs.YtikbddiogneheaaGreatDoor

/- Layers 3 and 13 (path, label), in plain Lean. No program. -/
namespace Go.Lb

/-- What stands between strokes. -/
def parts : List UInt8 → List (List UInt8)
  | [] => [[]]
  | c :: r => if c = 47 then [] :: parts r else match parts r with
    | [] => [[c]]
    | p :: ps => (c :: p) :: ps
def signc (c : UInt8) : Bool := (decide (97 ≤ c.toNat) && decide (c.toNat ≤ 122)) || (decide (65 ≤ c.toNat) && decide (c.toNat ≤ 90)) || (decide (48 ≤ c.toNat) && decide (c.toNat ≤ 57)) || c == 95 || c == 46 || c == 45 || c == 43
def part (s : List UInt8) : Bool := s != [] && decide (s.length ≤ 64) && s != [46] && s != [46, 46] && s.all signc
def may (s : List UInt8) : Bool := decide ((parts s).length ≤ 16) && (parts s).all part
def pkg (s : List UInt8) : Bool := s == [] || may s
/-- A label may be. -/
def mayL (p n : List UInt8) : Bool := pkg p && part n

theorem parts_ne (s : List UInt8) : parts s ≠ [] := by
  cases s with
  | nil => simp [parts]
  | cons c r =>
    unfold parts
    split
    · simp
    · split <;> simp
theorem parts_plain : ∀ s : List UInt8, (∀ c ∈ s, c ≠ 47) → parts s = [s] := by
  intro s
  induction s with
  | nil => intro _; rfl
  | cons c r ih =>
    intro h
    rw [parts, if_neg (h c (by simp)), ih (fun x hx => h x (by simp [hx]))]
theorem sign_47 : signc 47 = false := by decide
theorem part_plain {s : List UInt8} (h : part s = true) : ∀ c ∈ s, c ≠ 47 := by
  intro c hc e
  subst e
  unfold part at h
  simp only [Bool.and_eq_true, List.all_eq_true] at h
  have := h.2 47 hc
  rw [sign_47] at this
  cases this
/-- A name is a path without a stroke. -/
theorem name_part (s : List UInt8) : (may s && !(s.contains 47)) = part s := by
  rw [Bool.eq_iff_iff]
  simp only [Bool.and_eq_true, Bool.not_eq_true', List.contains_eq_mem, decide_eq_false_iff_not]
  constructor
  · rintro ⟨h, hc⟩
    unfold may at h
    rw [parts_plain s (fun c hc' e => hc (e ▸ hc'))] at h
    simpa using h
  · intro h
    have hp := part_plain h
    refine ⟨?_, fun hc => hp 47 hc rfl⟩
    unfold may
    rw [parts_plain s hp]
    simpa using h

/-! ### Labels -/
structure Label where
  pkg : List UInt8
  name : List UInt8
deriving DecidableEq
def Label.may (l : Label) : Bool := mayL l.pkg l.name
/-- The first colon: what stands ahead of it and behind it. -/
def colon : List UInt8 → Option (List UInt8 × List UInt8)
  | [] => none
  | c :: r => if c = 58 then some ([], r) else (colon r).map fun x => (c :: x.1, x.2)
/-- The label of a text in a package, or the error's number. -/
def read (s p : List UInt8) : Nat ⊕ Label :=
  match s with
  | 58 :: r => if pkg p = false then .inl 1 else if mayL p r = false then .inl 7 else .inr ⟨p, r⟩
  | 47 :: 47 :: t => match colon t with
    | none => .inl 3
    | some (h, n) => if mayL h n = false then .inl 7 else .inr ⟨h, n⟩
  | _ => .inl 3
def text (l : Label) : List UInt8 := if l.may = false then [] else 47 :: 47 :: (l.pkg ++ 58 :: l.name)
def short (l : Label) (p : List UInt8) : List UInt8 := if l.may = true ∧ l.pkg = p then 58 :: l.name else text l

theorem colon_app (a b : List UInt8) (h : ∀ c ∈ a, c ≠ 58) : colon (a ++ 58 :: b) = some (a, b) := by
  induction a with
  | nil => simp [colon]
  | cons c a ih =>
    rw [List.cons_append, colon, if_neg (h c (by simp)), ih (fun x hx => h x (by simp [hx]))]
    rfl
theorem colon_back : ∀ (s a b : List UInt8), colon s = some (a, b) → s = a ++ 58 :: b ∧ ∀ c ∈ a, c ≠ 58 := by
  intro s
  induction s with
  | nil => intro a b h; cases h
  | cons c r ih =>
    intro a b h
    unfold colon at h
    split at h
    · rename_i hc
      cases h
      exact ⟨by rw [hc]; rfl, by simp⟩
    · rename_i hc
      cases hr : colon r with
      | none => rw [hr] at h; cases h
      | some x =>
        obtain ⟨x1, x2⟩ := x
        rw [hr] at h
        cases h
        obtain ⟨h1, h2⟩ := ih _ _ hr
        refine ⟨by rw [h1]; rfl, ?_⟩
        intro y hy
        rcases List.mem_cons.1 hy with rfl | hy
        · exact hc
        · exact h2 y hy
theorem part_all {s : List UInt8} (h : part s = true) : ∀ c ∈ s, signc c = true := by
  unfold part at h
  simp only [Bool.and_eq_true, List.all_eq_true] at h
  exact h.2
theorem parts_mem : ∀ (s : List UInt8) (c : UInt8), c ∈ s → c = 47 ∨ ∃ x ∈ parts s, c ∈ x := by
  intro s
  induction s with
  | nil => intro c h; cases h
  | cons d r ih =>
    intro c h
    rcases List.mem_cons.1 h with rfl | h
    · by_cases hd : c = 47
      · exact .inl hd
      · right
        rw [parts, if_neg hd]
        cases hp : parts r with
        | nil => exact absurd hp (parts_ne r)
        | cons p ps => exact ⟨c :: p, by simp, by simp⟩
    · rcases ih c h with h' | ⟨x, hx, hc⟩
      · exact .inl h'
      · right
        rw [parts]
        split
        · exact ⟨x, by simp [hx], hc⟩
        · cases hp : parts r with
          | nil => rw [hp] at hx; cases hx
          | cons p ps =>
            rw [hp] at hx
            rcases List.mem_cons.1 hx with rfl | hx
            · exact ⟨d :: x, by simp, by simp [hc]⟩
            · exact ⟨x, by simp [hx], hc⟩
theorem pkg_plain {p : List UInt8} (h : pkg p = true) : ∀ c ∈ p, c ≠ 58 := by
  intro c hc e
  subst e
  unfold pkg at h
  simp only [Bool.or_eq_true, beq_iff_eq] at h
  rcases h with rfl | h
  · cases hc
  · unfold may at h
    simp only [Bool.and_eq_true, List.all_eq_true] at h
    rcases parts_mem p 58 hc with h1 | ⟨x, hx, h2⟩
    · cases h1
    · have := part_all (h.2 x hx) 58 h2
      revert this
      decide
/-- What is written is read again, in whatever package. -/
theorem read_text (l : Label) (h : l.may = true) (p : List UInt8) : read (text l) p = .inr l := by
  unfold text
  rw [if_neg (by simp [h])]
  unfold Label.may at h
  have hp : pkg l.pkg = true := by unfold mayL at h; simp only [Bool.and_eq_true] at h; exact h.1
  unfold read
  simp only
  rw [colon_app _ _ (pkg_plain hp)]
  simp only [h, Bool.true_eq_false, if_false]
theorem read_short (l : Label) (h : l.may = true) : read (short l l.pkg) l.pkg = .inr l := by
  unfold short
  rw [if_pos ⟨h, rfl⟩]
  unfold Label.may at h
  have hp : pkg l.pkg = true := by unfold mayL at h; simp only [Bool.and_eq_true] at h; exact h.1
  unfold read
  simp only [hp, h, Bool.true_eq_false, if_false]
theorem read_may {s p : List UInt8} {l : Label} (h : read s p = .inr l) : l.may = true := by
  unfold read at h
  split at h
  · split at h
    · cases h
    · split at h
      · cases h
      · rename_i h2
        cases h
        simpa [Label.may] using h2
  · split at h
    · cases h
    · split at h
      · cases h
      · rename_i h2
        cases h
        simpa [Label.may] using h2
  · cases h
theorem text_inj {a b : Label} (ha : a.may = true) (hb : b.may = true) : text a = text b ↔ a = b := by
  constructor
  · intro h
    have h1 := read_text a ha []
    have h2 := read_text b hb []
    rw [h, h2] at h1
    cases h1
    rfl
  · rintro rfl; rfl
theorem text_nil {l : Label} : text l = [] ↔ l.may = false := by
  unfold text
  cases l.may <;> simp
/-- P13.2: no two labels have one text. -/
theorem text_apart (a b : Label) : text a = [] ∨ (text a = text b ↔ a = b) := by
  cases ha : a.may with
  | false => exact .inl (text_nil.2 ha)
  | true =>
    right
    cases hb : b.may with
    | true => exact text_inj ha hb
    | false =>
      constructor
      · intro h
        rw [text_nil.2 hb] at h
        rw [text_nil.1 h] at ha
        cases ha
      · intro e
        rw [← e, ha] at hb
        cases hb
end Go.Lb

/- Whether a rune of a text is such, where such are all beyond ASCII: it is so of its bytes. In plain Lean. No program. -/
namespace Go.Lb

theorem get_eq (s : ByteArray) (i : Nat) (h : i < s.size) : s.get! i = s[i] := by
  simp [ByteArray.get!, getElem!_pos, h]
  rfl
theorem decode_low (s : ByteArray) (i : Nat) (h : i < s.size) (h' : (s[i]).toNat < 128) : Utf8.decode s i = ((s[i]).toNat, 1) := by
  unfold Utf8.decode
  simp only [Nat.add_zero, get_eq s i h]
  rw [if_pos h']
theorem decode_high (s : ByteArray) (i : Nat) (h : i < s.size) (h' : ¬ (s[i]).toNat < 128) : 128 ≤ (Utf8.decode s i).1 := by
  unfold Utf8.decode
  simp only [Nat.add_zero, get_eq s i h]
  rw [if_neg h']
  unfold Utf8.runeError
  repeat' split
  all_goals (simp only [Bool.and_eq_true, decide_eq_true_eq, ge_iff_le] at *; omega)
/-- A test of runes that holds beyond ASCII. -/
theorem idxFunc_bytes (p : Nat → Bool) (hp : ∀ r, 128 ≤ r → p r = true) (s : ByteArray) : decide (0 ≤ Lib.idxFunc p true s) = s.data.toList.any (fun c => p c.toNat) := by
  have hl : s.data.toList.length = s.size := by rw [Array.length_toList]; rfl
  have key : ∀ f i, s.size ≤ f + i → i ≤ s.size → decide (0 ≤ Lib.idxFuncFrom p true s f i) = (s.data.toList.drop i).any (fun c => p c.toNat) := by
    intro f
    induction f with
    | zero =>
      intro i h1 h2
      rw [List.drop_eq_nil_of_le (by omega)]
      rfl
    | succ f ih =>
      intro i h1 h2
      unfold Lib.idxFuncFrom
      by_cases h : i < s.size
      · rw [if_pos h]
        have hd : s.data.toList.drop i = s[i] :: s.data.toList.drop (i + 1) := by
          rw [List.drop_eq_getElem_cons (by omega)]
          rfl
        rw [hd, List.any_cons]
        by_cases hlow : (s[i]).toNat < 128
        · rw [decode_low s i h hlow]
          simp only
          cases hb : p (s[i]).toNat with
          | true => simp
          | false =>
            rw [if_neg (by decide), ih (i + 1) (by omega) (by omega)]
            rfl
        · have hh := hp _ (decode_high s i h hlow)
          rw [if_pos hh, hp _ (by omega)]
          simp
      · rw [if_neg h, List.drop_eq_nil_of_le (by omega)]
        rfl
  have := key s.size 0 (by omega) (by omega)
  rw [List.drop_zero] at this
  exact this
end Go.Lb

/- The library's contracts at this dump, as the kit's tools lay-shelf and lay-plain write them: those that are used here. -/
namespace Go.Proofs
open Go.Shelf
def Tryz.lays137_ren : Go.Shelf.Ren := ⟨fun | 137 => 35 | 217 => 54 | 266 => 69 | n => n, fun | 9 => 9 | 5 => 5 | 3 => 3 | n => n, fun | n => n⟩
theorem Tryz.lays137 : Go.Proofs.Lays.n137 Tryz.prog Tryz.lays137_ren := {
  mixed := by kernel_rfl
  f137 := Tryz.func35.trans (congrArg some (by kernel_rfl))
  f217 := Tryz.func54.trans (congrArg some (by kernel_rfl))
  f266 := Tryz.func69.trans (congrArg some (by kernel_rfl))
  t3 := Tryz.underlying3
  a3 := Tryz.isAgg3
  z3 := Tryz.sizeOf3
  v3 := Tryz.zeroValue3
  t5 := Tryz.underlying5
  a5 := Tryz.isAgg5
  z5 := Tryz.sizeOf5
  v5 := Tryz.zeroValue5
  t9 := Tryz.underlying9
  a9 := Tryz.isAgg9
  z9 := Tryz.sizeOf9
  v9 := Tryz.zeroValue9 }
open Go.RowKit in
theorem Tryz.strings_IndexByte (s : ByteArray) (c : Int) (w : World) :
    Calls Tryz.prog 35 #[.string s, .int .u8 c] w fun e w' => e = .returned (.int .i64 (Lib.indexByte s.data.toList c.toNat.toUInt8)) ∧ w' = w := Any.strings_IndexByte Tryz.lays137 s c w
def Tryz.lays217_ren : Go.Shelf.Ren := ⟨fun | 217 => 54 | 266 => 69 | n => n, fun | 9 => 9 | 5 => 5 | 3 => 3 | n => n, fun | n => n⟩
theorem Tryz.lays217 : Go.Proofs.Lays.n217 Tryz.prog Tryz.lays217_ren := {
  mixed := by kernel_rfl
  f217 := Tryz.func54.trans (congrArg some (by kernel_rfl))
  f266 := Tryz.func69.trans (congrArg some (by kernel_rfl))
  t3 := Tryz.underlying3
  a3 := Tryz.isAgg3
  z3 := Tryz.sizeOf3
  v3 := Tryz.zeroValue3
  t5 := Tryz.underlying5
  a5 := Tryz.isAgg5
  z5 := Tryz.sizeOf5
  v5 := Tryz.zeroValue5
  t9 := Tryz.underlying9
  a9 := Tryz.isAgg9
  z9 := Tryz.sizeOf9
  v9 := Tryz.zeroValue9 }
open Go.RowKit Go.Lib in
theorem Tryz.stringslite_IndexByte (s : ByteArray) (c : Int) (w : World) :
    Calls Tryz.prog 54 #[.string s, .int .u8 c] w fun e w' => e = .returned (.int .i64 (Lib.indexByte s.data.toList c.toNat.toUInt8)) ∧ w' = w := Any.stringslite_IndexByte Tryz.lays217 s c w
def Tryz.lays219_ren : Go.Shelf.Ren := ⟨fun | 219 => 63 | 217 => 54 | 225 => 76 | 224 => 77 | 267 => 78 | 266 => 69 | 314 => 96 | n => n, fun | 9 => 9 | 3 => 3 | 4 => 4 | 5 => 5 | 46 => 108 | 146 => 131 | 51 => 63 | n => n, fun | 1 => 0 | n => n⟩
theorem Tryz.lays219 : Go.Proofs.Lays.n219 Tryz.prog Tryz.lays219_ren := {
  mixed := by kernel_rfl
  f217 := Tryz.func54.trans (congrArg some (by kernel_rfl))
  f219 := Tryz.func63.trans (congrArg some (by kernel_rfl))
  f224 := Tryz.func77.trans (congrArg some (by kernel_rfl))
  f225 := Tryz.func76.trans (congrArg some (by kernel_rfl))
  f266 := Tryz.func69.trans (congrArg some (by kernel_rfl))
  f267 := Tryz.func78.trans (congrArg some (by kernel_rfl))
  f314 := Tryz.func96.trans (congrArg some (by kernel_rfl))
  t3 := Tryz.underlying3
  a3 := Tryz.isAgg3
  z3 := Tryz.sizeOf3
  v3 := Tryz.zeroValue3
  t4 := Tryz.underlying4
  a4 := Tryz.isAgg4
  z4 := Tryz.sizeOf4
  v4 := Tryz.zeroValue4
  t5 := Tryz.underlying5
  a5 := Tryz.isAgg5
  z5 := Tryz.sizeOf5
  v5 := Tryz.zeroValue5
  t9 := Tryz.underlying9
  a9 := Tryz.isAgg9
  z9 := Tryz.sizeOf9
  v9 := Tryz.zeroValue9
  t46 := Tryz.underlying108
  a46 := Tryz.isAgg108
  z46 := Tryz.sizeOf108
  v46 := Tryz.zeroValue108
  t51 := Tryz.underlying63
  a51 := Tryz.isAgg63
  z51 := Tryz.sizeOf63
  v51 := Tryz.zeroValue63
  t146 := Tryz.underlying131
  a146 := Tryz.isAgg131
  z146 := Tryz.sizeOf131
  v146 := Tryz.zeroValue131
  g1 := by kernel_rfl }
open Go.RowKit Go.Lib in
theorem Tryz.stringslite_Index_one (s : ByteArray) (c : UInt8) (w : World) :
    Calls Tryz.prog 63 #[.string s, .string ⟨#[c]⟩] w fun e w' => e = .returned (.int .i64 (Lib.indexByte s.data.toList c)) ∧ w' = w := Any.stringslite_Index_one Tryz.lays219 s c w
def Tryz.lays143_ren : Go.Shelf.Ren := ⟨fun | 143 => 57 | 219 => 63 | 217 => 54 | 225 => 76 | 224 => 77 | 267 => 78 | 266 => 69 | 314 => 96 | n => n, fun | 9 => 9 | 3 => 3 | 4 => 4 | 5 => 5 | 46 => 108 | 146 => 131 | 51 => 63 | n => n, fun | 1 => 0 | n => n⟩
theorem Tryz.lays143 : Go.Proofs.Lays.n143 Tryz.prog Tryz.lays143_ren := {
  mixed := by kernel_rfl
  f143 := Tryz.func57.trans (congrArg some (by kernel_rfl))
  f217 := Tryz.func54.trans (congrArg some (by kernel_rfl))
  f219 := Tryz.func63.trans (congrArg some (by kernel_rfl))
  f224 := Tryz.func77.trans (congrArg some (by kernel_rfl))
  f225 := Tryz.func76.trans (congrArg some (by kernel_rfl))
  f266 := Tryz.func69.trans (congrArg some (by kernel_rfl))
  f267 := Tryz.func78.trans (congrArg some (by kernel_rfl))
  f314 := Tryz.func96.trans (congrArg some (by kernel_rfl))
  t3 := Tryz.underlying3
  a3 := Tryz.isAgg3
  z3 := Tryz.sizeOf3
  v3 := Tryz.zeroValue3
  t4 := Tryz.underlying4
  a4 := Tryz.isAgg4
  z4 := Tryz.sizeOf4
  v4 := Tryz.zeroValue4
  t5 := Tryz.underlying5
  a5 := Tryz.isAgg5
  z5 := Tryz.sizeOf5
  v5 := Tryz.zeroValue5
  t9 := Tryz.underlying9
  a9 := Tryz.isAgg9
  z9 := Tryz.sizeOf9
  v9 := Tryz.zeroValue9
  t46 := Tryz.underlying108
  a46 := Tryz.isAgg108
  z46 := Tryz.sizeOf108
  v46 := Tryz.zeroValue108
  t51 := Tryz.underlying63
  a51 := Tryz.isAgg63
  z51 := Tryz.sizeOf63
  v51 := Tryz.zeroValue63
  t146 := Tryz.underlying131
  a146 := Tryz.isAgg131
  z146 := Tryz.sizeOf131
  v146 := Tryz.zeroValue131
  g1 := by kernel_rfl }
open Go.RowKit Go.Lib in
theorem Tryz.strings_Index_one (s : ByteArray) (c : UInt8) (w : World) :
    Calls Tryz.prog 57 #[.string s, .string ⟨#[c]⟩] w fun e w' => e = .returned (.int .i64 (Lib.indexByte s.data.toList c)) ∧ w' = w := Any.strings_Index_one Tryz.lays143 s c w
def Tryz.lays144_ren : Go.Shelf.Ren := ⟨fun | 144 => 62 | 143 => 57 | 219 => 63 | 217 => 54 | 225 => 76 | 224 => 77 | 267 => 78 | 266 => 69 | 314 => 96 | n => n, fun | 9 => 9 | 4 => 4 | 3 => 3 | 5 => 5 | 46 => 108 | 146 => 131 | 51 => 63 | n => n, fun | 1 => 0 | n => n⟩
theorem Tryz.lays144 : Go.Proofs.Lays.n144 Tryz.prog Tryz.lays144_ren := {
  mixed := by kernel_rfl
  f143 := Tryz.func57.trans (congrArg some (by kernel_rfl))
  f144 := Tryz.func62.trans (congrArg some (by kernel_rfl))
  f217 := Tryz.func54.trans (congrArg some (by kernel_rfl))
  f219 := Tryz.func63.trans (congrArg some (by kernel_rfl))
  f224 := Tryz.func77.trans (congrArg some (by kernel_rfl))
  f225 := Tryz.func76.trans (congrArg some (by kernel_rfl))
  f266 := Tryz.func69.trans (congrArg some (by kernel_rfl))
  f267 := Tryz.func78.trans (congrArg some (by kernel_rfl))
  f314 := Tryz.func96.trans (congrArg some (by kernel_rfl))
  t3 := Tryz.underlying3
  a3 := Tryz.isAgg3
  z3 := Tryz.sizeOf3
  v3 := Tryz.zeroValue3
  t4 := Tryz.underlying4
  a4 := Tryz.isAgg4
  z4 := Tryz.sizeOf4
  v4 := Tryz.zeroValue4
  t5 := Tryz.underlying5
  a5 := Tryz.isAgg5
  z5 := Tryz.sizeOf5
  v5 := Tryz.zeroValue5
  t9 := Tryz.underlying9
  a9 := Tryz.isAgg9
  z9 := Tryz.sizeOf9
  v9 := Tryz.zeroValue9
  t46 := Tryz.underlying108
  a46 := Tryz.isAgg108
  z46 := Tryz.sizeOf108
  v46 := Tryz.zeroValue108
  t51 := Tryz.underlying63
  a51 := Tryz.isAgg63
  z51 := Tryz.sizeOf63
  v51 := Tryz.zeroValue63
  t146 := Tryz.underlying131
  a146 := Tryz.isAgg131
  z146 := Tryz.sizeOf131
  v146 := Tryz.zeroValue131
  g1 := by kernel_rfl }
open Go.RowKit Go.Lib in
theorem Tryz.strings_Contains_one (s : ByteArray) (c : UInt8) (w : World) :
    Calls Tryz.prog 62 #[.string s, .string ⟨#[c]⟩] w fun e w' => e = .returned (.bool (decide (0 ≤ Lib.indexByte s.data.toList c))) ∧ w' = w := Any.strings_Contains_one Tryz.lays144 s c w
def Tryz.lays138_ren : Go.Shelf.Ren := ⟨fun | 138 => 36 | 195 => 55 | 218 => 56 | 143 => 57 | 219 => 63 | 217 => 54 | 225 => 76 | 224 => 77 | 267 => 78 | 266 => 69 | 314 => 96 | n => n, fun | 9 => 9 | 3 => 3 | 4 => 4 | 5 => 5 | 0 => 0 | 46 => 108 | 146 => 131 | 51 => 63 | n => n, fun | 1 => 0 | n => n⟩
theorem Tryz.lays138 : Go.Proofs.Lays.n138 Tryz.prog Tryz.lays138_ren := {
  mixed := by kernel_rfl
  f138 := Tryz.func36.trans (congrArg some (by kernel_rfl))
  f143 := Tryz.func57.trans (congrArg some (by kernel_rfl))
  f195 := Tryz.func55.trans (congrArg some (by kernel_rfl))
  f217 := Tryz.func54.trans (congrArg some (by kernel_rfl))
  f218 := Tryz.func56.trans (congrArg some (by kernel_rfl))
  f219 := Tryz.func63.trans (congrArg some (by kernel_rfl))
  f224 := Tryz.func77.trans (congrArg some (by kernel_rfl))
  f225 := Tryz.func76.trans (congrArg some (by kernel_rfl))
  f266 := Tryz.func69.trans (congrArg some (by kernel_rfl))
  f267 := Tryz.func78.trans (congrArg some (by kernel_rfl))
  f314 := Tryz.func96.trans (congrArg some (by kernel_rfl))
  t0 := Tryz.underlying0
  a0 := Tryz.isAgg0
  z0 := Tryz.sizeOf0
  v0 := Tryz.zeroValue0
  t3 := Tryz.underlying3
  a3 := Tryz.isAgg3
  z3 := Tryz.sizeOf3
  v3 := Tryz.zeroValue3
  t4 := Tryz.underlying4
  a4 := Tryz.isAgg4
  z4 := Tryz.sizeOf4
  v4 := Tryz.zeroValue4
  t5 := Tryz.underlying5
  a5 := Tryz.isAgg5
  z5 := Tryz.sizeOf5
  v5 := Tryz.zeroValue5
  t9 := Tryz.underlying9
  a9 := Tryz.isAgg9
  z9 := Tryz.sizeOf9
  v9 := Tryz.zeroValue9
  t46 := Tryz.underlying108
  a46 := Tryz.isAgg108
  z46 := Tryz.sizeOf108
  v46 := Tryz.zeroValue108
  t51 := Tryz.underlying63
  a51 := Tryz.isAgg63
  z51 := Tryz.sizeOf63
  v51 := Tryz.zeroValue63
  t146 := Tryz.underlying131
  a146 := Tryz.isAgg131
  z146 := Tryz.sizeOf131
  v146 := Tryz.zeroValue131
  g1 := by kernel_rfl }
open Go.RowKit Go.Lib in
theorem Tryz.strings_Count_one (s : ByteArray) (c : UInt8) (w : World) :
    Calls Tryz.prog 36 #[.string s, .string ⟨#[c]⟩] w fun e w' => e = .returned (.int .i64 (Lib.countByte s.data.toList c)) ∧ w' = w := Any.strings_Count_one Tryz.lays138 s c w
def Tryz.lays149_ren : Go.Shelf.Ren := ⟨fun | 149 => 37 | 222 => 58 | n => n, fun | 9 => 9 | 5 => 5 | 3 => 3 | 4 => 4 | n => n, fun | n => n⟩
theorem Tryz.lays149 : Go.Proofs.Lays.n149 Tryz.prog Tryz.lays149_ren := {
  mixed := by kernel_rfl
  f149 := Tryz.func37.trans (congrArg some (by kernel_rfl))
  f222 := Tryz.func58.trans (congrArg some (by kernel_rfl))
  t3 := Tryz.underlying3
  a3 := Tryz.isAgg3
  z3 := Tryz.sizeOf3
  v3 := Tryz.zeroValue3
  t4 := Tryz.underlying4
  a4 := Tryz.isAgg4
  z4 := Tryz.sizeOf4
  v4 := Tryz.zeroValue4
  t5 := Tryz.underlying5
  a5 := Tryz.isAgg5
  z5 := Tryz.sizeOf5
  v5 := Tryz.zeroValue5
  t9 := Tryz.underlying9
  a9 := Tryz.isAgg9
  z9 := Tryz.sizeOf9
  v9 := Tryz.zeroValue9 }
open Go.RowKit Go.Lib in
theorem Tryz.strings_LastIndexByte (s : ByteArray) (c : Int) (hs : s.size < 4611686018427387904) (w : World) :
    Calls Tryz.prog 37 #[.string s, .int .u8 c] w fun e w' => e = .returned (.int .i64 (Lib.lastIndexByte s c)) ∧ w' = w := Any.strings_LastIndexByte Tryz.lays149 s c hs w
def Tryz.lays206_ren : Go.Shelf.Ren := ⟨fun | 206 => 41 | n => n, fun | 9 => 9 | 4 => 4 | 3 => 3 | n => n, fun | n => n⟩
theorem Tryz.lays206 : Go.Proofs.Lays.n206 Tryz.prog Tryz.lays206_ren := {
  mixed := by kernel_rfl
  f206 := Tryz.func41.trans (congrArg some (by kernel_rfl))
  t3 := Tryz.underlying3
  a3 := Tryz.isAgg3
  z3 := Tryz.sizeOf3
  v3 := Tryz.zeroValue3
  t4 := Tryz.underlying4
  a4 := Tryz.isAgg4
  z4 := Tryz.sizeOf4
  v4 := Tryz.zeroValue4
  t9 := Tryz.underlying9
  a9 := Tryz.isAgg9
  z9 := Tryz.sizeOf9
  v9 := Tryz.zeroValue9 }
open Go.RowKit Go.Lib in
theorem Tryz.stringslite_HasPrefix (s p : ByteArray) (w : World) :
    Calls Tryz.prog 41 #[.string s, .string p] w fun e w' => e = .returned (.bool (Lib.hasPrefix s.data.toList p.data.toList)) ∧ w' = w := Any.stringslite_HasPrefix Tryz.lays206 s p w
def Tryz.lays99_ren : Go.Shelf.Ren := ⟨fun | 99 => 18 | 206 => 41 | n => n, fun | 9 => 9 | 4 => 4 | 3 => 3 | n => n, fun | n => n⟩
theorem Tryz.lays99 : Go.Proofs.Lays.n99 Tryz.prog Tryz.lays99_ren := {
  mixed := by kernel_rfl
  f99 := Tryz.func18.trans (congrArg some (by kernel_rfl))
  f206 := Tryz.func41.trans (congrArg some (by kernel_rfl))
  t3 := Tryz.underlying3
  a3 := Tryz.isAgg3
  z3 := Tryz.sizeOf3
  v3 := Tryz.zeroValue3
  t4 := Tryz.underlying4
  a4 := Tryz.isAgg4
  z4 := Tryz.sizeOf4
  v4 := Tryz.zeroValue4
  t9 := Tryz.underlying9
  a9 := Tryz.isAgg9
  z9 := Tryz.sizeOf9
  v9 := Tryz.zeroValue9 }
open Go.RowKit Go.Lib in
theorem Tryz.strings_HasPrefix (s p : ByteArray) (w : World) :
    Calls Tryz.prog 18 #[.string s, .string p] w fun e w' => e = .returned (.bool (Lib.hasPrefix s.data.toList p.data.toList)) ∧ w' = w := Any.strings_HasPrefix Tryz.lays99 s p w
end Go.Proofs

/- Small words for the walks: of no program. -/
namespace Go.Gw
open Go.RowKit

theorem below_grow {B : Nat} {a w : World} (h : Below B a w) (hB : B ≤ w.heap.size) (os : Array Obj) : Below B a (Sort.grow w os) :=
  h.trans ⟨rfl, rfl, rfl, by simp, fun k hk => Sort.heap_grow_old w os (by omega)⟩
theorem below_drewN' {B : Nat} {a w : World} (h : Below B a w) (n : Nat) : Below B a (w.drewN n) := below_drewN h n
theorem size_drewN (w : World) (n : Nat) : (w.drewN n).heap.size = w.heap.size := rfl

theorem ownsRow_below {w w1 : World} {base : Nat} {e : TypeId} {size n : Nat} {v : Value} {xs : List Value} (h : w.ownsRow base e size v n xs) (hb : Below w.heap.size w w1) : w1.ownsRow base e size v n xs :=
  h.kept (row := none) ⟨hb.os, hb.tape, hb.output, hb.size, fun i hi _ => hb.block i hi⟩ (by cases v.ownBlock <;> simp)

theorem builderAt_below {T e : TypeId} {B b : Nat} {p : Value} {bs : List Value} {w w' : World} (h : Lib.BuilderAt T e B b p bs w) (hb : Below w.heap.size w w') : Lib.BuilderAt T e B b p bs w' := by
  obtain ⟨h1, v, h2, h3, h4⟩ := h
  have hlt : b < w.heap.size := by
    rcases Nat.lt_or_ge b w.heap.size with h' | h'
    · exact h'
    · simp [Array.getElem?_eq_none h'] at h2
  exact ⟨h1, v, (hb.block b hlt).trans h2, ownsRow_below h3 hb, h4⟩
theorem isBuilder_below {T e : TypeId} {B b : Nat} {bs : List Value} {w w' : World} (h : Lib.IsBuilder T e B b bs w) (hb : Below w.heap.size w w') : Lib.IsBuilder T e B b bs w' := by
  rcases h with h | h
  · exact .inl (builderAt_below h hb)
  · exact .inr (builderAt_below h hb)

/-- The library's table of the powers of ten lies as its initialiser laid it. -/
structure Tab (P : Program) (w : World) : Prop where
  tab : Lib.TabIs P w "internal/strconv.uint64pow10" .u64 Lib.pow10Tab
theorem tabIs_lt {P : Program} {w : World} {name : String} {k : IntKind} {zs : List Int} (h : Lib.TabIs P w name k zs) {g : Nat} (hg : P.globalNamed name = some g) : g < w.heap.size := by
  unfold Lib.TabIs World.var? at h
  simp only [hg, Option.bind_some] at h
  rcases Nat.lt_or_ge g w.heap.size with h' | h'
  · exact h'
  · rw [Array.getElem?_eq_none h'] at h; simp at h
theorem var_below {P : Program} {w w' : World} {n : String} {cs : Array Value} (h : w.var? P n = some cs) (hb : Below w.heap.size w w') : w'.var? P n = some cs := by
  unfold World.var? at h ⊢
  cases hg : P.globalNamed n with
  | none => simp [hg] at h
  | some g =>
    simp only [hg, Option.bind_some] at h ⊢
    have hlt : g < w.heap.size := by
      rcases Nat.lt_or_ge g w.heap.size with h' | h'
      · exact h'
      · rw [Array.getElem?_eq_none h'] at h; simp at h
    rw [hb.block g hlt]
    exact h
theorem Tab.below {P : Program} {w w' : World} (h : Tab P w) (hb : Below w.heap.size w w') : Tab P w' := ⟨var_below h.tab hb⟩

theorem strCells_mk (l : List UInt8) : Lib.strCells ⟨l.toArray⟩ = Lib.byteCells l := rfl
theorem str_ext {a b : ByteArray} (h : a.data.toList = b.data.toList) : a = b := by
  cases a; cases b
  simp only at h
  congr 1
  exact Array.toList_inj.1 h
theorem str_mk (s : ByteArray) : (⟨s.data.toList.toArray⟩ : ByteArray) = s := by cases s; simp
theorem ext_drop (s : ByteArray) (k : Nat) : s.extract k s.size = ⟨(s.data.toList.drop k).toArray⟩ := by
  apply str_ext
  rw [Lib.extract_to_end]
theorem ext_mid (s : ByteArray) (a b : Nat) : s.extract a b = ⟨((s.data.toList.drop a).take (b - a)).toArray⟩ := by
  apply str_ext
  rw [Lib.extract_data]
theorem ext_take (s : ByteArray) (k : Nat) : s.extract 0 k = ⟨(s.data.toList.take k).toArray⟩ := by
  rw [ext_mid]
  rfl
theorem ret_str {a b : ByteArray} (h : a = b) : Ending.returned (.string a) = .returned (.string b) := by rw [h]
theorem ret_bool {a b : Bool} (h : a = b) : Ending.returned (.bool a) = .returned (.bool b) := by rw [h]
theorem ret_int {k : IntKind} {a b : Int} (h : a = b) : Ending.returned (.int k a) = .returned (.int k b) := by rw [h]
theorem byteTake (r : ByteArray) (k : Nat) (h : k < r.size) : (r[k]'h) ∈ r.data.toList ∧ r.data.toList.take (k + 1) = r.data.toList.take k ++ [r[k]'h] := by
  have hl : k < r.data.toList.length := by rw [Array.length_toList]; exact h
  refine ⟨?_, ?_⟩
  · show r.data[k] ∈ _
    rw [← Array.getElem_toList]
    exact List.getElem_mem hl
  · rw [List.take_succ_eq_append_getElem hl]
    congr 2
end Go.Gw

/- path.part: what a call of it does, of any text. -/
namespace Go.Proofs.YtikbddiogneheaaGreatDoor
open Go.RowKit Go.Gw
set_option linter.unusedVariables false
set_option linter.unusedSimpArgs false

/-- May a part have a rune? -/
def signN (r : Nat) : Bool := decide (97 ≤ r ∧ r ≤ 122 ∨ 65 ≤ r ∧ r ≤ 90 ∨ 48 ≤ r ∧ r ≤ 57 ∨ r = 95 ∨ r = 46 ∨ r = 45 ∨ r = 43)
theorem signN_byte (c : UInt8) : signN c.toNat = Lb.signc c := by
  rw [Bool.eq_iff_iff]
  simp only [signN, Lb.signc, Bool.or_eq_true, Bool.and_eq_true, decide_eq_true_eq, beq_iff_eq, ← UInt8.toNat_inj, or_assoc]
  rfl
theorem sign_low {r : Nat} (h : r < 128) : decide (0 ≤ Lib.indexByte [95, 46, 45, 43] (UInt8.ofNat r)) = decide (r = 95 ∨ r = 46 ∨ r = 45 ∨ r = 43) := by
  obtain ⟨c, rfl⟩ : ∃ c : Fin 128, r = c.val := ⟨⟨r, h⟩, rfl⟩
  revert c
  decide +kernel
set_option maxHeartbeats 1000000 in
set_option maxRecDepth 100000 in
theorem sign_calls (r : Nat) (w : World) : Calls Tryz.prog 82 #[.int .i32 r] w fun e w' => e = .returned (.bool (signN r)) ∧ ∃ q, w' = w.drewN q := by
  go_enter Tryz.func82, Tryz.ntmps82
  go_wp2_with (go_at_call 35; go_loud (refine (Tryz.strings_IndexByte ⟨#[95, 46, 45, 43]⟩ _ _).mono ?_; rintro e w1 ⟨rfl, rfl⟩))
  all_goals go_ret
  all_goals refine ⟨ret_bool ?_, 0, rfl⟩
  all_goals (try rw [sign_low (by omega)])
  all_goals first | (rw [Bool.eq_iff_iff]; simp only [signN, Bool.or_eq_true, decide_eq_true_eq]; omega) | (symm; unfold signN; rw [decide_eq_true_eq]; omega)
set_option maxHeartbeats 1000000 in
set_option maxRecDepth 100000 in
theorem nosign_calls (r : Nat) (w : World) : Calls Tryz.prog 81 #[.int .i32 r] w fun e w' => e = .returned (.bool (!signN r)) ∧ ∃ q, w' = w.drewN q := by
  go_enter Tryz.func81, Tryz.ntmps81
  go_wp2_with fail
  refine (sign_calls r _).mono ?_
  rintro e w1 ⟨rfl, q, rfl⟩
  go_wp2
  go_ret
  exact ⟨rfl, q, rfl⟩
/-- A text is a part. -/
def partS (s : ByteArray) : Bool := Lb.part s.data.toList
theorem part_end (s : ByteArray) (h : s.size ≤ 64) : (!s.data.isEmpty && !s.data.toList == [46] && !s.data.toList == [46, 46] && !s.data.any (fun c => !signN c.toNat) 0 s.size) =
    (s.data.toList != [] && decide (s.size ≤ 64) && s.data.toList != [46] && s.data.toList != [46, 46] && !s.data.toList.any fun c => !signN c.toNat) := by
  have e1 : s.data.isEmpty = (s.data.toList == []) := by
    rw [← Array.isEmpty_toList]
    cases s.data.toList <;> rfl
  have e2 : (s.data.toList.any fun c => !signN c.toNat) = s.data.any (fun c => !signN c.toNat) 0 s.size := Array.any_toList
  rw [e1, e2, decide_eq_true h, Bool.and_true]
  rfl
set_option maxHeartbeats 1000000 in
set_option maxRecDepth 100000 in
theorem part_calls (s : ByteArray) (w : World) : Calls Tryz.prog 65 #[.string s] w fun e w' => e = .returned (.bool (partS s)) ∧ Below w.heap.size w w' := by
  have hC := fun W => ContainsFunc_calls 81 #[] (enters_of Tryz.func81 (by kernel_rfl) rfl) (fun r => !signN r) s W (fun W' r _ => nosign_calls r W')
  have hI := Lb.idxFunc_bytes (fun r => !signN r) (fun r hr => by simp only [signN, Bool.not_eq_true', decide_eq_false_iff_not]; omega) s
  rw [hI] at hC
  have HC := Lib.hid hC; clear hC hI
  have hp : partS s = (s.data.toList != [] && decide (s.size ≤ 64) && s.data.toList != [46] && s.data.toList != [46, 46] && !(s.data.toList.any fun c => !signN c.toNat)) := by
    have hl : s.data.toList.length = s.size := by rw [Array.length_toList]; rfl
    unfold partS Lb.part
    rw [hl]
    congr 1
    have e : ∀ l : List UInt8, l.all Lb.signc = !(l.any fun c => !signN c.toNat) := by
      intro l
      induction l with
      | nil => rfl
      | cons c l ih => rw [List.all_cons, List.any_cons, ih, signN_byte]; cases Lb.signc c <;> simp
    exact e _
  have ht : s.toList = s.data.toList := Lib.toList_data s
  have HP := Lib.hid hp; clear hp
  go_enter Tryz.func65, Tryz.ntmps65
  go_wp2_with (go_at_call 80; refine (HC.out _).mono ?_; rintro e w1 ⟨rfl, hb⟩)
  all_goals go_ret
  all_goals refine ⟨ret_bool ?_, by first | exact Below.refl _ _ | assumption⟩
  all_goals rw [HP.out]
  all_goals first
    | (have h64 : ¬ s.size ≤ 64 := by omega
       simp [h64]; done)
    | exact part_end s (by omega)
    | (simp [*]; done)
end Go.Proofs.YtikbddiogneheaaGreatDoor

/- What stands between strokes, by where the first stroke stands. In plain Lean. No program. -/
namespace Go.Lb

theorem parts_none : ∀ l : List UInt8, Lib.indexByte l 47 = -1 → parts l = [l] := by
  intro l
  induction l with
  | nil => intro _; rfl
  | cons c l ih =>
    intro h
    unfold Lib.indexByte at h
    by_cases hc : c = 47
    · rw [if_pos (by simp [hc])] at h
      omega
    · rw [if_neg (by simpa using hc)] at h
      split at h
      · rename_i h1
        unfold parts
        rw [if_neg hc, ih (by simpa using h1)]
      · have := Lib.indexByte_ge l 47
        rename_i h1
        have h2 : ¬ Lib.indexByte l 47 = -1 := by simpa using h1
        omega
theorem parts_some : ∀ (l : List UInt8) (i : Nat), Lib.indexByte l 47 = i → i < l.length ∧ parts l = l.take i :: parts (l.drop (i + 1)) := by
  intro l
  induction l with
  | nil => intro i h; simp [Lib.indexByte] at h
  | cons c l ih =>
    intro i h
    unfold Lib.indexByte at h
    by_cases hc : c = 47
    · rw [if_pos (by simp [hc])] at h
      obtain rfl : i = 0 := by omega
      refine ⟨by simp, ?_⟩
      conv => lhs; unfold parts
      rw [if_pos hc]
      simp
    · rw [if_neg (by simpa using hc)] at h
      split at h
      · omega
      · have hg := Lib.indexByte_ge l 47
        rename_i h1
        have h2 : ¬ Lib.indexByte l 47 = -1 := by simpa using h1
        obtain ⟨j, hj⟩ : ∃ j : Nat, Lib.indexByte l 47 = j := ⟨(Lib.indexByte l 47).toNat, by omega⟩
        obtain rfl : i = j + 1 := by omega
        obtain ⟨h3, h4⟩ := ih j hj
        refine ⟨by simp; omega, ?_⟩
        conv => lhs; unfold parts
        rw [if_neg hc, h4]
        simp
/-- What is left to ask of a text of which so many parts were right. -/
def mayFrom (k : Nat) (l : List UInt8) : Bool := decide (k + (parts l).length ≤ 16) && (parts l).all part
theorem mayFrom_zero (l : List UInt8) : mayFrom 0 l = may l := by simp [mayFrom, may]
theorem mayFrom_last (k : Nat) (l : List UInt8) (h : Lib.indexByte l 47 = -1) : mayFrom k l = (decide (k + 1 ≤ 16) && part l) := by
  unfold mayFrom
  rw [parts_none l h]
  simp
theorem mayFrom_step (k : Nat) (l : List UInt8) (i : Nat) (h : Lib.indexByte l 47 = i) (h2 : part (l.take i) = true) : mayFrom k l = mayFrom (k + 1) (l.drop (i + 1)) := by
  unfold mayFrom
  rw [(parts_some l i h).2]
  simp only [List.length_cons, List.all_cons, h2, Bool.true_and]
  congr 1
  rw [Bool.eq_iff_iff]
  simp only [decide_eq_true_eq]
  omega
theorem mayFrom_no (k : Nat) (l : List UInt8) (i : Nat) (h : Lib.indexByte l 47 = i) (h1 : ¬ (k + 1 ≤ 16 ∧ part (l.take i) = true)) : mayFrom k l = false := by
  unfold mayFrom
  rw [(parts_some l i h).2]
  simp only [List.length_cons, List.all_cons]
  by_cases h2 : k + 1 ≤ 16
  · have h3 : part (l.take i) = false := by
      cases hp : part (l.take i) with
      | false => rfl
      | true => exact absurd ⟨h2, hp⟩ h1
    rw [h3]
    simp
  · rw [decide_eq_false (by have := List.length_pos_iff.2 (parts_ne (l.drop (i + 1))); omega)]
    simp
end Go.Lb

/- path.May: what a call of it does, of any text. -/
namespace Go.Proofs.YtikbddiogneheaaGreatDoor
open Go.RowKit Go.Gw
attribute [local go_sem] Oper.semAt_some
set_option linter.unusedVariables false
set_option linter.unusedSimpArgs false

/-- A fact that the walk does not look into. -/
structure Aside1 (p : Prop) : Prop where mk :: (out : p)
/-- The sequence's function value, its variables from block B on. -/
def seqV (B : Nat) : Value := .func (.func 97) #[] #[.pointer (some ⟨B + 1, 0, none⟩), .pointer (some ⟨B, 0, none⟩), .pointer (some ⟨B + 2, 0, none⟩)]
def seqW (s : ByteArray) (w : World) : World := ((w.alloc (.cells #[.string s] 9)).alloc (.cells #[.string ⟨#[47]⟩] 9)).alloc (.cells #[.int .i64 0] 3)
set_option maxHeartbeats 1000000 in
set_option maxRecDepth 100000 in
theorem splitSeq_calls (s : ByteArray) (w : World) : Calls Tryz.prog 79 #[.string s, .string ⟨#[47]⟩, .int .i64 0] w fun e w' => e = .returned (seqV w.heap.size) ∧ w' = seqW s w := by
  have hmf : ∀ (fn : Fn) (first cap : Array Value) (w : World), (Instr.makeFunc fn first cap).run Tryz.prog w = .ok (.func fn first cap) w := fun _ _ _ _ => rfl
  go_enter Tryz.func79, Tryz.ntmps79
  go_wp2
  go_ret
  exact ⟨rfl, rfl⟩
set_option maxHeartbeats 1000000 in
set_option maxRecDepth 100000 in
theorem SplitSeq_calls (s : ByteArray) (w : World) : Calls Tryz.prog 64 #[.string s, .string ⟨#[47]⟩] w fun e w' => e = .returned (seqV w.heap.size) ∧ w' = seqW s w := by
  go_enter Tryz.func64, Tryz.ntmps64
  go_wp2_with fail
  refine (splitSeq_calls s _).mono ?_
  rintro e w1 ⟨rfl, rfl⟩
  go_wp2
  go_ret
  exact ⟨rfl, rfl⟩

/-- What lies where path.May's loop goes: its result, its number, the sequence's three variables, the loop's two blocks. -/
structure MaySt (w : World) (L : Loop) (k : Nat) (rest : ByteArray) (res : Bool) (W : World) : Prop where
  b0 : W.heap[w.heap.size]? = some (.cells #[.bool res] 4 (0, 0))
  b1 : W.heap[w.heap.size + 1]? = some (.cells #[.int .i64 k] 3 (0, 0))
  b2 : W.heap[w.heap.size + 2]? = some (.cells #[.string rest] 9 (0, 0))
  b3 : W.heap[w.heap.size + 3]? = some (.cells #[.string ⟨#[47]⟩] 9 (0, 0))
  b4 : W.heap[w.heap.size + 4]? = some (.cells #[.int .i64 0] 3 (0, 0))
  bd : W.heap[w.heap.size + 5]? = some (.deferred (some []))
  bl : W.heap[w.heap.size + 6]? = some (.loop L)
  be : Below w.heap.size w W
theorem heap_lt {W : World} {b : Nat} {o : Obj} (h : W.heap[b]? = some o) : b < W.heap.size := (Array.getElem?_eq_some_iff.1 h).1
theorem cell_blk {W : World} {b : Nat} {t : TypeId} {v : Value} (h : W.heap[b]? = some (.cells #[v] t (0, 0))) : W.cell? ⟨b, 0, none⟩ = some v := by simp [World.cell?, h]
theorem frozen_blk {W : World} {b : Nat} {t : TypeId} {v : Value} (h : W.heap[b]? = some (.cells #[v] t (0, 0))) : W.frozen? ⟨b, 0, none⟩ = false := by simp [World.frozen?, h]
theorem set_blk {W : World} {b : Nat} {t : TypeId} {v : Value} (v' : Value) (h : W.heap[b]? = some (.cells #[v] t (0, 0))) : (W.setCell ⟨b, 0, none⟩ v').heap[b]? = some (.cells #[v'] t (0, 0)) := Boxed.set v' h
theorem set_far {W : World} {b c : Nat} {o : Obj} (v' : Value) (h : W.heap[c]? = some o) (hne : c ≠ b) : (W.setCell ⟨b, 0, none⟩ v').heap[c]? = some o := (Below.heap_setCell W ⟨b, 0, none⟩ v' c hne).trans h
theorem MaySt.below {w : World} {L : Loop} {k : Nat} {rest : ByteArray} {res : Bool} {W W' : World} (h : MaySt w L k rest res W) (hb : Below W.heap.size W W') : MaySt w L k rest res W' :=
  have go : ∀ {b : Nat} {o : Obj}, W.heap[b]? = some o → W'.heap[b]? = some o := fun {b o} ho => (hb.block b (heap_lt ho)).trans ho
  ⟨go h.b0, go h.b1, go h.b2, go h.b3, go h.b4, go h.bd, go h.bl, h.be.trans (hb.mono h.be.size)⟩
theorem MaySt.num {w : World} {L : Loop} {k : Nat} {rest : ByteArray} {res : Bool} {W : World} (h : MaySt w L k rest res W) (k' : Nat) : MaySt w L k' rest res (W.setCell ⟨w.heap.size + 1, 0, none⟩ (.int .i64 k')) :=
  ⟨set_far _ h.b0 (by omega), set_blk _ h.b1, set_far _ h.b2 (by omega), set_far _ h.b3 (by omega), set_far _ h.b4 (by omega), set_far _ h.bd (by omega), set_far _ h.bl (by omega), h.be.setCell (p := ⟨w.heap.size + 1, 0, none⟩) (by simp) _⟩
theorem MaySt.result {w : World} {L : Loop} {k : Nat} {rest : ByteArray} {res : Bool} {W : World} (h : MaySt w L k rest res W) (res' : Bool) : MaySt w L k rest res' (W.setCell ⟨w.heap.size, 0, none⟩ (.bool res')) :=
  ⟨set_blk _ h.b0, set_far _ h.b1 (by omega), set_far _ h.b2 (by omega), set_far _ h.b3 (by omega), set_far _ h.b4 (by omega), set_far _ h.bd (by omega), set_far _ h.bl (by omega), h.be.setCell (p := ⟨w.heap.size, 0, none⟩) (Nat.le_refl _) _⟩
theorem MaySt.left {w : World} {L : Loop} {k : Nat} {rest : ByteArray} {res : Bool} {W : World} (h : MaySt w L k rest res W) (rest' : ByteArray) : MaySt w L k rest' res (W.setCell ⟨w.heap.size + 2, 0, none⟩ (.string rest')) :=
  ⟨set_far _ h.b0 (by omega), set_far _ h.b1 (by omega), set_blk _ h.b2, set_far _ h.b3 (by omega), set_far _ h.b4 (by omega), set_far _ h.bd (by omega), set_far _ h.bl (by omega), h.be.setCell (p := ⟨w.heap.size + 2, 0, none⟩) (by simp) _⟩
theorem MaySt.loop {w : World} {L : Loop} {k : Nat} {rest : ByteArray} {res : Bool} {W : World} (h : MaySt w L k rest res W) (L' : Loop) : MaySt w L' k rest res (W.putObj (w.heap.size + 6) (.loop L')) :=
  have go : ∀ {b : Nat} {o : Obj}, b ≠ w.heap.size + 6 → W.heap[b]? = some o → (W.putObj (w.heap.size + 6) (.loop L')).heap[b]? = some o := fun {b o} hb ho => (World.putObj_heap_other hb).trans ho
  ⟨go (by omega) h.b0, go (by omega) h.b1, go (by omega) h.b2, go (by omega) h.b3, go (by omega) h.b4, go (by omega) h.bd, World.putObj_heap_same (heap_lt h.bl), h.be.grown (grownBy_putObj' W _ _) h.be.size (fun j e => by cases e; omega)⟩
/-- How a round ends. -/
def RoundEnd (w : World) (L : LoopState → Option Code → Loop) (k : Nat) (rest x : ByteArray) (e : Ending) (W' : World) : Prop :=
  if k + 1 ≤ 16 ∧ partS x = true then e = .returned (.bool true) ∧ MaySt w (L .ready none) (k + 1) rest false W'
  else e = .returned (.bool false) ∧ MaySt w (L .done (some .ret)) (k + 1) rest false W'
/-- How the sequence ends. -/
def SeqEnd (w : World) (L : LoopState → Option Code → Loop) (s : ByteArray) (W' : World) : Prop :=
  ∃ k rest, (Lb.may s.data.toList = true ∧ MaySt w (L .ready none) k rest false W') ∨ (Lb.may s.data.toList = false ∧ MaySt w (L .done (some .ret)) k rest false W')
/-- What is still to come of a text, as the world has it. -/
def leftOf (b : Nat) (W : World) : Nat := match W.cell? ⟨b, 0, none⟩ with
  | some (.string r) => r.size + 1
  | _ => 0
set_option maxHeartbeats 4000000 in
set_option maxRecDepth 100000 in
theorem seq_calls (m : Nat) (w : World) (L : LoopState → Option Code → Loop) (s : ByteArray) (hs : s.size ≤ 140737488351232)
    (hY : ∀ k rest x W, k ≤ 16 → MaySt w (L .ready none) k rest false W → YieldAt Fence.wide (m - 1) Tryz.prog (w.heap.size + 6) #[.string x] W (RoundEnd w L k rest x)) (W : World) (h0 : MaySt w (L .ready none) 0 s false W) :
    CallsIn Fence.wide m Tryz.prog 97 #[.func (.yield (w.heap.size + 6)) #[] #[], .pointer (some ⟨w.heap.size + 3, 0, none⟩), .pointer (some ⟨w.heap.size + 2, 0, none⟩), .pointer (some ⟨w.heap.size + 4, 0, none⟩)] W fun e W' => (∃ v, e = .returned v) ∧ SeqEnd w L s W' := by
  obtain ⟨B, hB⟩ : ∃ B, B = w.heap.size := ⟨_, rfl⟩
  have c3 := cell_blk h0.b3
  refine callsIn_of_wp Tryz.func97 rfl trivial ?_ rfl
  simp only [Tryz.ntmps97, List.size_toArray, List.length_cons, List.length_nil, Nat.reduceAdd, Nat.reduceSub, Array.replicate_succ, Array.replicate_zero, List.push_toArray, List.append_toArray, List.nil_append, List.cons_append]
  have H0 := Lib.hid h0; clear h0
  gi_wp2_with fail
  clear c3
  gi_loopw [7, 8] (fun _ _ wr => ∃ (k : Nat) (rest : ByteArray), k ≤ 16 ∧ rest.size ≤ s.size ∧ Aside1 (Lb.may s.data.toList = Lb.mayFrom k rest.data.toList) ∧ Aside1 (MaySt w (L .ready none) k rest false wr)) (fun _ _ wr => leftOf (w.heap.size + 2) wr)
  case atStart => exact ⟨0, s, by omega, Nat.le_refl _, ⟨(Lb.mayFrom_zero _).symm⟩, ⟨H0.out⟩⟩
  case round =>
    obtain ⟨k, rest, hk, hr, HM, HS⟩ := hrel
    have c2 := cell_blk HS.out.b2
    have c3 := cell_blk HS.out.b3
    have c4 := cell_blk HS.out.b4
    have f2 := frozen_blk HS.out.b2
    have hg := Lib.indexByte_ge rest.data.toList 47
    by_cases hno : Lib.indexByte rest.data.toList 47 = -1
    · have HN := Lib.hid hno; clear hno hg
      have hlast := Lb.mayFrom_last k rest.data.toList HN.out
      have HL := Lib.hid hlast; clear hlast
      obtain ⟨fn, tmps, assign, body, hy, hR⟩ := hY k rest rest wr hk HS.out
      gi_wp2_with fail
      refine ⟨trivial, (fun h => by cases h), ?_⟩
      refine (callsIn_wide.2 (Tryz.strings_Index_one rest 47 _)).mono ?_
      rintro e w1 ⟨rfl, rfl⟩
      rw [HN.out]
      gi_wp2
      refine ⟨(fun h => by cases h), ?_⟩
      refine hR.mono ?_
      rintro e W' hE
      have hfin : SeqEnd w L s W' ∧ ∃ b : Bool, e = .returned (.bool b) := by
        unfold RoundEnd at hE
        split at hE
        · rename_i hc
          exact ⟨⟨_, _, .inl ⟨by rw [HM.out, HL.out, decide_eq_true hc.1]; exact hc.2, hE.2⟩⟩, _, hE.1⟩
        · rename_i hc
          refine ⟨⟨_, _, .inr ⟨?_, hE.2⟩⟩, _, hE.1⟩
          rw [HM.out, HL.out]
          cases hp : Lb.part rest.data.toList with
          | false => simp
          | true => rw [decide_eq_false (fun h => hc ⟨h, hp⟩)]; rfl
      obtain ⟨hS, b, rfl⟩ := hfin
      have HF := Lib.hid hS; clear hS hE
      gi_wp2
      go_end0
      exact ⟨⟨_, rfl⟩, HF.out⟩
    · obtain ⟨i, hi⟩ : ∃ i : Nat, Lib.indexByte rest.data.toList 47 = i := ⟨(Lib.indexByte rest.data.toList 47).toNat, by omega⟩
      obtain ⟨hil, -⟩ := Lb.parts_some _ i hi
      have hil2 : i < rest.size := by rw [Array.length_toList] at hil; exact hil
      have HN := Lib.hid hi; clear hi hno hg hil
      obtain ⟨fn, tmps, assign, body, hy, hR⟩ := hY k rest (rest.extract 0 i) wr hk HS.out
      gi_wp2_with fail
      refine ⟨trivial, (fun h => by cases h), ?_⟩
      refine (callsIn_wide.2 (Tryz.strings_Index_one rest 47 _)).mono ?_
      rintro e w1 ⟨rfl, rfl⟩
      rw [HN.out]
      gi_wp2
      refine ⟨(fun h => by cases h), ?_⟩
      refine hR.mono ?_
      rintro e W' hE
      unfold RoundEnd at hE
      by_cases hc : k + 1 ≤ 16 ∧ partS (rest.extract 0 i) = true
      · rw [if_pos hc] at hE
        obtain ⟨rfl, hS⟩ := hE
        have c2' := cell_blk hS.b2
        have c3' := cell_blk hS.b3
        have f2' := frozen_blk hS.b2
        have hst := Lb.mayFrom_step k rest.data.toList i HN.out (by have := hc.2; unfold partS at this; rw [ext_take] at this; exact this)
        have HT := Lib.hid hst
        have HS2 := Lib.hid hS
        obtain ⟨hk1, hp⟩ := hc
        clear hst hS hp
        gi_wp2
        refine ⟨⟨k + 1, rest.extract (i + 1) rest.size, hk1, by rw [ByteArray.size_extract]; omega, ⟨?_⟩, ⟨HS2.out.left _⟩⟩, ?_⟩
        · rw [HM.out, HT.out, ext_drop]
        · have e1 := cell_blk (HS2.out.left (rest.extract (i + 1) rest.size)).b2
          have e2 := cell_blk HS.out.b2
          unfold leftOf
          rw [e1, e2]
          simp only [ByteArray.size_extract]
          omega
      · rw [if_neg hc] at hE
        obtain ⟨rfl, hS⟩ := hE
        have hno := Lb.mayFrom_no k rest.data.toList i HN.out (by intro h; exact hc ⟨h.1, by unfold partS; rw [ext_take]; exact h.2⟩)
        have HF : Hid (SeqEnd w L s W') := ⟨_, _, .inr ⟨by rw [HM.out, hno], hS⟩⟩
        clear hS hno hc
        gi_wp2
        refine bodyPost_ret (results_none rfl _ _ _) rfl ?_
        exact ⟨⟨_, rfl⟩, HF.out⟩

/-- How a round's body is left. -/
def MayPost (w : World) (L : Loop) (k : Nat) (rest x : ByteArray) : Exit → Act → World → Prop
  | .normal, _, W' => (k + 1 ≤ 16 ∧ partS x = true) ∧ MaySt w L (k + 1) rest false W'
  | .ret, _, W' => (¬ (k + 1 ≤ 16 ∧ partS x = true)) ∧ MaySt w L (k + 1) rest false W'
  | _, _, _ => False
/-- The frame behind the loop: the block of the rounds' deferred calls is to be looked at. -/
def marked (w : World) (a : Act) : Act := { a with defers := [{ target := .collected (w.heap.size + 5), args := #[] }] ++ a.defers }
theorem mayLoop {g : Operand} {assign body : Code} {Q : Exit → Act → World → Prop} {a : Act} {w W0 : World} (s : ByteArray) (hs : s.size ≤ 140737488351232)
    (hg : a.eval g = .func (.func 97) #[] #[.pointer (some ⟨w.heap.size + 3, 0, none⟩), .pointer (some ⟨w.heap.size + 2, 0, none⟩), .pointer (some ⟨w.heap.size + 4, 0, none⟩)])
    (hsz : W0.heap.size = w.heap.size + 5)
    (b0 : W0.heap[w.heap.size]? = some (.cells #[.bool false] 4 (0, 0))) (b1 : W0.heap[w.heap.size + 1]? = some (.cells #[.int .i64 0] 3 (0, 0))) (b2 : W0.heap[w.heap.size + 2]? = some (.cells #[.string s] 9 (0, 0)))
    (b3 : W0.heap[w.heap.size + 3]? = some (.cells #[.string ⟨#[47]⟩] 9 (0, 0))) (b4 : W0.heap[w.heap.size + 4]? = some (.cells #[.int .i64 0] 3 (0, 0))) (be : Below w.heap.size w W0) (a₁ : ByteArray → Act)
    (hassign : ∀ (x : ByteArray) (W : World) (K : Act → World → Prop), K (a₁ x) W → assign.wpIn (Fence.wide.inRound (w.heap.size + 6)) 7 Tryz.prog (Exit.then K (fun _ _ _ => False)) { tmps := (#[7].zip #[Value.string x]).foldl (fun t (p, v) => t.setIfInBounds p v) a.tmps, defers := [] } W)
    (hbody : ∀ (L : Loop) (k : Nat) (rest x : ByteArray) (W : World), k ≤ 16 → MaySt w L k rest false W → body.wpIn (Fence.wide.inRound (w.heap.size + 6)) 7 Tryz.prog (MayPost w L k rest x) (a₁ x) W)
    (hdone : ∀ (L : Loop) (k : Nat) (rest : ByteArray) (W : World), Lb.may s.data.toList = true → MaySt w L k rest false W → Q .normal (marked w a) W)
    (hstop : ∀ (L : Loop) (k : Nat) (rest : ByteArray) (W : World), Lb.may s.data.toList = false → MaySt w L k rest false W → Code.ret.wpIn Fence.wide 9 Tryz.prog Q (marked w a) W) :
    (Code.rangeFunc g #[7] assign body).wpIn Fence.wide 9 Tryz.prog Q a W0 := by
  refine wpIn_rangeFunc ?_
  intro fn hfn
  obtain ⟨rec, hrec⟩ : ∃ rec : LoopState → Option Code → Loop, rec = fun st pe => { state := st, pending := pe, fn, tmps := a.tmps, params := #[7], assign, body, defers := W0.heap.size } := ⟨_, rfl⟩
  obtain ⟨W1, hW1⟩ : ∃ W1, (W0.alloc (.deferred (some []))).alloc (.loop (rec .ready none)) = W1 := ⟨_, rfl⟩
  have hl : W0.heap.size + 1 = w.heap.size + 6 := by omega
  have old : ∀ {b : Nat} {o : Obj}, W0.heap[b]? = some o → W1.heap[b]? = some o := by
    intro b o h
    rw [← hW1]
    have := heap_lt h
    exact (Below.heap_alloc _ _ _ (by simp; omega)).trans ((Below.heap_alloc _ _ _ this).trans h)
  have h0 : MaySt w (rec .ready none) 0 s false W1 := by
    refine ⟨old b0, old b1, old b2, old b3, old b4, ?_, ?_, ?_⟩
    · rw [← hW1, ← hsz]
      exact (Below.heap_alloc _ _ _ (by simp)).trans (World.alloc_heap_new W0 _)
    · rw [← hW1, ← hl]
      have := World.alloc_heap_new (W0.alloc (.deferred (some []))) (.loop (rec .ready none))
      rwa [World.size_alloc] at this
    · rw [← hW1]
      exact (be.alloc (by omega) _).alloc (by simp; omega) _
  refine ⟨w.heap.size + 6, [{ target := .collected (w.heap.size + 5), args := #[] }], W1, { target := .fn (.func 97) #[.pointer (some ⟨w.heap.size + 3, 0, none⟩), .pointer (some ⟨w.heap.size + 2, 0, none⟩), .pointer (some ⟨w.heap.size + 4, 0, none⟩)], args := #[.func (.yield (w.heap.size + 6)) #[] #[]] }, W1, 97,
    #[.func (.yield (w.heap.size + 6)) #[] #[], .pointer (some ⟨w.heap.size + 3, 0, none⟩), .pointer (some ⟨w.heap.size + 2, 0, none⟩), .pointer (some ⟨w.heap.size + 4, 0, none⟩)], W1, ?_, ?_, fun _ _ => trivial, ?_, (fun h => by cases h), ?_⟩
  · have := run_enterLoop_outer (P := Tryz.prog) (w := W0) fn a.tmps #[7] assign body
    rw [← hW1, hrec, ← hl, ← hsz]
    exact this
  · simp only [resolve, hg]
    simp [go_sem]
  · have eg := enters_of Tryz.func97 (by kernel_rfl) rfl
    simp [invoke, go_sem, eg]
  · refine (seq_calls 8 w rec s hs ?_ W1 h0).mono ?_
    · intro k rest x W hk hS
      have hy := run_yield (P := Tryz.prog) (args := #[.string x]) hS.bl (by rw [hrec]; rfl)
      refine ⟨_, _, _, _, hy, roundIn_of_wpIn trivial ?_⟩
      have ht : ((rec .ready none).params.zip #[Value.string x]).foldl (fun tmps (t, a) => tmps.setIfInBounds t a) (rec .ready none).tmps = (#[7].zip #[Value.string x]).foldl (fun t (p, v) => t.setIfInBounds p v) a.tmps := by rw [hrec]
      rw [ht, show (rec .ready none).assign = assign by rw [hrec], show (rec .ready none).body = body by rw [hrec]]
      refine hassign x W _ ⟨_, run_beginRound hS.bl (by rw [hrec]), ?_⟩
      have hS2 := hS.loop { rec .ready none with state := .busy }
      refine wpIn_mono (hbody _ k rest x _ hk hS2) ?_
      have eq : ∀ st pe, ({ ({ rec .ready none with state := .busy } : Loop) with state := st, pending := pe } : Loop) = rec st pe := by
        intro st pe
        rw [hrec]
      rintro e a3 W3 hp
      cases e with
      | normal =>
        obtain ⟨hc, hS3⟩ := hp
        have hr := run_endRound (P := Tryz.prog) none hS3.bl
        refine ⟨_, _, hr, ?_⟩
        unfold RoundEnd
        rw [if_pos hc]
        exact ⟨rfl, by have := hS3.loop (rec .ready none); simp only [Option.isNone_none, if_true, eq]; exact this⟩
      | ret =>
        obtain ⟨hc, hS3⟩ := hp
        have hr := run_endRound (P := Tryz.prog) (some .ret) hS3.bl
        refine ⟨_, _, hr, ?_⟩
        unfold RoundEnd
        rw [if_neg hc]
        exact ⟨rfl, by have := hS3.loop (rec .done (some .ret)); simp only [Option.isNone_some, eq]; exact this⟩
      | exit id => exact hp.elim
      | goto t => exact hp.elim
      | panic ch => exact hp.elim
      | outgrown => exact hp.elim
    · rintro e W2 ⟨⟨v, rfl⟩, k, rest, (⟨hm, hS⟩ | ⟨hm, hS⟩)⟩
      · have := run_endLoop (P := Tryz.prog) hS.bl (by rw [hrec]; simp)
        exact ⟨_, _, this, by rw [show (rec .ready none).pending = none by rw [hrec]]; exact hdone _ k rest _ hm (hS.loop _)⟩
      · have := run_endLoop (P := Tryz.prog) hS.bl (by rw [hrec]; simp)
        exact ⟨_, _, this, by rw [show (rec .done (some .ret)).pending = some .ret by rw [hrec]]; exact hstop _ k rest _ hm (hS.loop _)⟩

set_option maxHeartbeats 4000000 in
set_option maxRecDepth 100000 in
theorem May_in (s : ByteArray) (hs : s.size ≤ 140737488351232) (w : World) :
    CallsIn Fence.wide 9 Tryz.prog 44 #[.string s] w fun e w' => e = .returned (.bool (Lb.may s.data.toList)) ∧ Below w.heap.size w w' := by
  refine callsIn_of_wp_marks Tryz.func44 rfl trivial ?_ rfl
  simp only [Tryz.ntmps44, List.size_toArray, List.length_cons, List.length_nil, Nat.reduceAdd, Nat.reduceSub, Array.replicate_succ, Array.replicate_zero, List.push_toArray, List.append_toArray, List.nil_append, List.cons_append]
  gi_wp2_with fail
  refine ⟨trivial, ?_⟩
  refine (callsIn_wide.2 (SplitSeq_calls s _)).mono ?_
  rintro e w1 ⟨rfl, rfl⟩
  gi_wp2
  obtain ⟨W0, hW0⟩ : ∃ W0, W0 = seqW s ((w.alloc (.cells #[.bool false] 4)).alloc (.cells #[.int .i64 0] 3)) := ⟨_, rfl⟩
  have hsz : W0.heap.size = w.heap.size + 5 := by rw [hW0]; simp [seqW]
  rw [← hW0]
  have nw : ∀ (W : World) (o : Obj), (W.alloc o).heap[W.heap.size]? = some o := World.alloc_heap_new
  have ol : ∀ {W : World} {b : Nat} {o o' : Obj}, W.heap[b]? = some o → (W.alloc o').heap[b]? = some o := fun h => (Below.heap_alloc _ _ _ (heap_lt h)).trans h
  refine mayLoop s hs ?hg hsz ?b0 ?b1 ?b2 ?b3 ?b4 ?be (fun x => { tmps := #[.string s, undef, .pointer (some ⟨w.heap.size, 0, none⟩), .pointer (some ⟨w.heap.size + 1, 0, none⟩), .string x, .string s, seqV (w.heap.size + 1 + 1), .string x, undef, undef, undef, undef, undef, undef, undef, undef, undef], defers := [] }) ?assign ?body ?done ?stop
  case hg => simp [Act.eval, seqV]
  case b0 => rw [hW0]; exact ol (ol (ol (ol (nw _ _))))
  case b1 =>
    rw [hW0]
    have := nw (w.alloc (.cells #[.bool false] 4)) (.cells #[.int .i64 0] 3)
    rw [World.size_alloc] at this
    exact ol (ol (ol this))
  case b2 =>
    rw [hW0]
    have := nw ((w.alloc (.cells #[.bool false] 4)).alloc (.cells #[.int .i64 0] 3)) (.cells #[.string s] 9)
    simp only [World.size_alloc] at this
    exact ol (ol this)
  case b3 =>
    rw [hW0]
    have := nw (((w.alloc (.cells #[.bool false] 4)).alloc (.cells #[.int .i64 0] 3)).alloc (.cells #[.string s] 9)) (.cells #[.string ⟨#[47]⟩] 9)
    simp only [World.size_alloc] at this
    exact ol this
  case b4 =>
    rw [hW0]
    have := nw ((((w.alloc (.cells #[.bool false] 4)).alloc (.cells #[.int .i64 0] 3)).alloc (.cells #[.string s] 9)).alloc (.cells #[.string ⟨#[47]⟩] 9)) (.cells #[.int .i64 0] 3)
    simp only [World.size_alloc] at this
    exact this
  case be =>
    rw [hW0]
    exact (((((Below.refl _ _).alloc (Nat.le_refl _) _).alloc (by simp) _).alloc (by simp; omega) _).alloc (by simp; omega) _).alloc (by simp; omega) _
  case assign =>
    intro x W K hK
    gi_wp2
    exact hK
  case body =>
    intro L k rest x W hk hS
    have c0 := cell_blk hS.b0
    have f0 := frozen_blk hS.b0
    have c1 := cell_blk hS.b1
    have f1 := frozen_blk hS.b1
    have HS := Lib.hid hS; clear hS
    have hne : ¬ w.heap.size = w.heap.size + 1 := by omega
    by_cases h16 : k + 1 ≤ 16
    · have t16 : ¬ ((16 : Int) < (k : Int) + 1) := by omega
      gi_wp2_with fail
      refine ⟨trivial, ?_⟩
      have hS2 := HS.out.num (k + 1)
      rw [show ((k + 1 : Nat) : Int) = (k : Int) + 1 by omega] at hS2
      generalize W.setCell ⟨w.heap.size + 1, 0, none⟩ (.int .i64 ((k : Int) + 1)) = Wn at hS2 ⊢
      clear c0 f0 c1 f1
      refine (CallsIn.inRound _ (callsIn_wide.2 (part_calls x _))).mono ?_
      rintro e W2 ⟨rfl, hb⟩
      have hS3 := hS2.below hb
      have c0 := cell_blk hS3.b0
      have f0 := frozen_blk hS3.b0
      have HS3 := Lib.hid hS3; clear hS3 hS2 hb
      cases hp : partS x with
      | true =>
        have HP := Lib.hid hp; clear hp
        gi_wp2
        exact ⟨⟨h16, HP.out⟩, HS3.out⟩
      | false =>
        have HP := Lib.hid hp; clear hp
        gi_wp2
        exact ⟨(fun h => by have := h.2; rw [HP.out] at this; cases this), HS3.out.result false⟩
    · have t16 : (16 : Int) < (k : Int) + 1 := by omega
      gi_wp2
      refine ⟨trivial, ?_⟩
      have hS2 := HS.out.num (k + 1)
      rw [show ((k + 1 : Nat) : Int) = (k : Int) + 1 by omega] at hS2
      generalize W.setCell ⟨w.heap.size + 1, 0, none⟩ (.int .i64 ((k : Int) + 1)) = Wn at hS2 ⊢
      clear c0 f0 c1 f1
      have c0 := cell_blk hS2.b0
      have f0 := frozen_blk hS2.b0
      have HS3 := Lib.hid hS2; clear hS2
      gi_wp2
      exact ⟨(fun h => h16 h.1), HS3.out.result false⟩
  case done =>
    intro L k rest W hm hS
    have c0 := cell_blk hS.b0
    have f0 := frozen_blk hS.b0
    have HS := Lib.hid (hS.result true); clear hS
    unfold marked
    gi_wp2
    refine ⟨by simp, .inl ⟨_, _, rfl, run_takeDeferred HS.out.bd, ?_⟩⟩
    have hb0 := (World.putObj_heap_other (w := W.setCell ⟨w.heap.size, 0, none⟩ (.bool true)) (o := .deferred none) (show w.heap.size ≠ w.heap.size + 5 by omega)).trans HS.out.b0
    have hc5 := cell_blk hb0
    refine ⟨.bool true, ?_, by rw [hm], HS.out.be.grown (grownBy_putObj' _ _ _) HS.out.be.size (fun j e => by cases e; omega)⟩
    simp [results, Tryz.f44, go_sem, hc5]
  case stop =>
    intro L k rest W hm hS
    have HS := Lib.hid hS; clear hS
    unfold marked
    gi_wp2
    refine ⟨by simp, .inl ⟨_, _, rfl, run_takeDeferred HS.out.bd, ?_⟩⟩
    have hb0 := (World.putObj_heap_other (w := W) (o := .deferred none) (show w.heap.size ≠ w.heap.size + 5 by omega)).trans HS.out.b0
    have hc5 := cell_blk hb0
    refine ⟨.bool false, ?_, by rw [hm], HS.out.be.grown (grownBy_putObj' _ _ _) HS.out.be.size (fun j e => by cases e; omega)⟩
    simp [results, Tryz.f44, go_sem, hc5]
/-- path.May of any text. -/
theorem May_calls (s : ByteArray) (hs : s.size ≤ 140737488351232) (w : World) :
    Calls Tryz.prog 44 #[.string s] w fun e w' => e = .returned (.bool (Lb.may s.data.toList)) ∧ Below w.heap.size w w' := callsIn_wide.1 (May_in s hs w)
end Go.Proofs.YtikbddiogneheaaGreatDoor

/- The library's contracts at this dump, as the kit's tools lay-shelf and lay-plain write them: those that are used here. -/
namespace Go.Proofs
open Go.Shelf
def Tryz.laysC245_ren : Go.Shelf.Ren := ⟨fun | 245 => 68 | 279 => 86 | 280 => 87 | 281 => 88 | 282 => 89 | 316 => 100 | 171 => 102 | 205 => 101 | 243 => 114 | 246 => 122 | 283 => 123 | 284 => 124 | 285 => 125 | 286 => 126 | 129 => 128 | 317 => 127 | 318 => 129 | 319 => 130 | 320 => 131 | 337 => 132 | 338 => 133 | n => n, fun | 9 => 9 | 3 => 3 | 75 => 81 | 167 => 112 | 4 => 4 | 168 => 114 | 210 => 137 | 37 => 84 | 0 => 0 | 127 => 152 | 145 => 155 | 143 => 153 | 2 => 2 | 171 => 164 | 53 => 79 | 5 => 5 | 173 => 167 | 212 => 170 | 51 => 63 | 20 => 20 | 213 => 171 | 46 => 108 | 232 => 174 | 233 => 175 | 80 => 176 | n => n, fun | 15 => 1 | 16 => 2 | 17 => 5 | 18 => 6 | 19 => 7 | n => n⟩
theorem Tryz.laysC245 : Go.Proofs.LaysC.n245 Tryz.prog Tryz.laysC245_ren := {
  mixed := by kernel_rfl
  f129 := Tryz.func128.trans (congrArg some (by kernel_rfl))
  f171 := Tryz.func102.trans (congrArg some (by kernel_rfl))
  f205 := Tryz.func101.trans (congrArg some (by kernel_rfl))
  f243 := Tryz.func114.trans (congrArg some (by kernel_rfl))
  f245 := Tryz.func68.trans (congrArg some (by kernel_rfl))
  f246 := Tryz.func122.trans (congrArg some (by kernel_rfl))
  f279 := Tryz.func86.trans (congrArg some (by kernel_rfl))
  f280 := Tryz.func87.trans (congrArg some (by kernel_rfl))
  f281 := Tryz.func88.trans (congrArg some (by kernel_rfl))
  f282 := Tryz.func89.trans (congrArg some (by kernel_rfl))
  f283 := Tryz.func123.trans (congrArg some (by kernel_rfl))
  f284 := Tryz.func124.trans (congrArg some (by kernel_rfl))
  f285 := Tryz.func125.trans (congrArg some (by kernel_rfl))
  f286 := Tryz.func126.trans (congrArg some (by kernel_rfl))
  f316 := Tryz.func100.trans (congrArg some (by kernel_rfl))
  f317 := Tryz.func127.trans (congrArg some (by kernel_rfl))
  f318 := Tryz.func129.trans (congrArg some (by kernel_rfl))
  f319 := Tryz.func130.trans (congrArg some (by kernel_rfl))
  f320 := Tryz.func131.trans (congrArg some (by kernel_rfl))
  f337 := Tryz.func132.trans (congrArg some (by kernel_rfl))
  f338 := Tryz.func133.trans (congrArg some (by kernel_rfl))
  t0 := Tryz.underlying0
  a0 := Tryz.isAgg0
  z0 := Tryz.sizeOf0
  v0 := Tryz.zeroValue0
  t2 := Tryz.underlying2
  a2 := Tryz.isAgg2
  z2 := Tryz.sizeOf2
  v2 := Tryz.zeroValue2
  t3 := Tryz.underlying3
  a3 := Tryz.isAgg3
  z3 := Tryz.sizeOf3
  v3 := Tryz.zeroValue3
  t4 := Tryz.underlying4
  a4 := Tryz.isAgg4
  z4 := Tryz.sizeOf4
  v4 := Tryz.zeroValue4
  t5 := Tryz.underlying5
  a5 := Tryz.isAgg5
  z5 := Tryz.sizeOf5
  v5 := Tryz.zeroValue5
  t9 := Tryz.underlying9
  a9 := Tryz.isAgg9
  z9 := Tryz.sizeOf9
  v9 := Tryz.zeroValue9
  t20 := Tryz.underlying20
  a20 := Tryz.isAgg20
  z20 := Tryz.sizeOf20
  v20 := Tryz.zeroValue20
  t37 := Tryz.underlying84
  a37 := Tryz.isAgg84
  z37 := Tryz.sizeOf84
  v37 := Tryz.zeroValue84
  t46 := Tryz.underlying108
  a46 := Tryz.isAgg108
  z46 := Tryz.sizeOf108
  v46 := Tryz.zeroValue108
  t51 := Tryz.underlying63
  a51 := Tryz.isAgg63
  z51 := Tryz.sizeOf63
  v51 := Tryz.zeroValue63
  t53 := Tryz.underlying79
  a53 := Tryz.isAgg79
  z53 := Tryz.sizeOf79
  v53 := Tryz.zeroValue79
  t75 := Tryz.underlying81
  a75 := Tryz.isAgg81
  z75 := Tryz.sizeOf81
  v75 := Tryz.zeroValue81
  t127 := Tryz.underlying152
  a127 := Tryz.isAgg152
  z127 := Tryz.sizeOf152
  v127 := Tryz.zeroValue152
  t143 := Tryz.underlying153
  a143 := Tryz.isAgg153
  z143 := Tryz.sizeOf153
  v143 := Tryz.zeroValue153
  t145 := Tryz.underlying155
  a145 := Tryz.isAgg155
  z145 := Tryz.sizeOf155
  v145 := Tryz.zeroValue155
  t167 := Tryz.underlying112
  a167 := Tryz.isAgg112
  z167 := Tryz.sizeOf112
  v167 := Tryz.zeroValue112
  t168 := Tryz.underlying114
  a168 := Tryz.isAgg114
  z168 := Tryz.sizeOf114
  v168 := Tryz.zeroValue114
  t171 := Tryz.underlying164
  a171 := Tryz.isAgg164
  z171 := Tryz.sizeOf164
  v171 := Tryz.zeroValue164
  t173 := Tryz.underlying167
  a173 := Tryz.isAgg167
  z173 := Tryz.sizeOf167
  v173 := Tryz.zeroValue167
  t210 := Tryz.underlying137
  a210 := Tryz.isAgg137
  z210 := Tryz.sizeOf137
  v210 := Tryz.zeroValue137
  t212 := Tryz.underlying170
  a212 := Tryz.isAgg170
  z212 := Tryz.sizeOf170
  v212 := Tryz.zeroValue170
  t213 := Tryz.underlying171
  a213 := Tryz.isAgg171
  z213 := Tryz.sizeOf171
  t232 := Tryz.underlying174
  a232 := Tryz.isAgg174
  z232 := Tryz.sizeOf174
  v232 := Tryz.zeroValue174
  t233 := Tryz.underlying175
  a233 := Tryz.isAgg175
  z233 := Tryz.sizeOf175
  v233 := Tryz.zeroValue175
  g15 := by kernel_rfl
  g16 := by kernel_rfl
  g17 := by kernel_rfl
  g18 := by kernel_rfl
  g19 := by kernel_rfl
  t80 := Tryz.underlying176
  a80 := Tryz.isAgg176
  z80 := Tryz.sizeOf176
  v80 := Tryz.zeroValue176
  i0 := by kernel_rfl
  i2 := by kernel_rfl
  i3 := by kernel_rfl
  i4 := by kernel_rfl
  i5 := by kernel_rfl
  i9 := by kernel_rfl
  i20 := by kernel_rfl
  i37 := by kernel_rfl
  i46 := by kernel_rfl
  i51 := by kernel_rfl
  i53 := by kernel_rfl
  i75 := by kernel_rfl
  i80 := by kernel_rfl
  i127 := by kernel_rfl
  i143 := by kernel_rfl
  i145 := by kernel_rfl
  i167 := by kernel_rfl
  i168 := by kernel_rfl
  i171 := by kernel_rfl
  i173 := by kernel_rfl
  i210 := by kernel_rfl
  i212 := by kernel_rfl
  i232 := by kernel_rfl
  i233 := by kernel_rfl
  m15 := by kernel_rfl
  m16 := by kernel_rfl
  m17 := by kernel_rfl
  m18 := by kernel_rfl
  m19 := by kernel_rfl
  c0 := by kernel_rfl
  c2 := by kernel_rfl
  c3 := by kernel_rfl
  c4 := by kernel_rfl
  c5 := by kernel_rfl
  c9 := by kernel_rfl
  c20 := by kernel_rfl
  c37 := by kernel_rfl
  c46 := by kernel_rfl
  c51 := by kernel_rfl
  c53 := by kernel_rfl
  c75 := by kernel_rfl
  c80 := by kernel_rfl
  c127 := by kernel_rfl
  c143 := by kernel_rfl
  c145 := by kernel_rfl
  c167 := by kernel_rfl
  c168 := by kernel_rfl
  c171 := by kernel_rfl
  c173 := by kernel_rfl
  c210 := by kernel_rfl
  c212 := by kernel_rfl
  c213 := by kernel_rfl
  c232 := by kernel_rfl
  c233 := by kernel_rfl }
def Tryz.lays287_ren : Go.Shelf.Ren := ⟨fun | 287 => 67 | 321 => 84 | 322 => 85 | n => n, fun | 9 => 9 | 3 => 3 | 53 => 79 | 75 => 81 | 4 => 4 | 167 => 112 | 5 => 5 | 46 => 108 | 37 => 84 | 0 => 0 | 21 => 21 | 80 => 176 | n => n, fun | n => n⟩
theorem Tryz.lays287 : Go.Proofs.Lays.n287 Tryz.prog Tryz.lays287_ren := {
  mixed := by kernel_rfl
  f287 := Tryz.func67.trans (congrArg some (by kernel_rfl))
  f321 := Tryz.func84.trans (congrArg some (by kernel_rfl))
  f322 := Tryz.func85.trans (congrArg some (by kernel_rfl))
  t0 := Tryz.underlying0
  a0 := Tryz.isAgg0
  z0 := Tryz.sizeOf0
  v0 := Tryz.zeroValue0
  t3 := Tryz.underlying3
  a3 := Tryz.isAgg3
  z3 := Tryz.sizeOf3
  v3 := Tryz.zeroValue3
  t4 := Tryz.underlying4
  a4 := Tryz.isAgg4
  z4 := Tryz.sizeOf4
  v4 := Tryz.zeroValue4
  t5 := Tryz.underlying5
  a5 := Tryz.isAgg5
  z5 := Tryz.sizeOf5
  v5 := Tryz.zeroValue5
  t9 := Tryz.underlying9
  a9 := Tryz.isAgg9
  z9 := Tryz.sizeOf9
  v9 := Tryz.zeroValue9
  t21 := Tryz.underlying21
  a21 := Tryz.isAgg21
  z21 := Tryz.sizeOf21
  v21 := Tryz.zeroValue21
  t37 := Tryz.underlying84
  a37 := Tryz.isAgg84
  z37 := Tryz.sizeOf84
  v37 := Tryz.zeroValue84
  t46 := Tryz.underlying108
  a46 := Tryz.isAgg108
  z46 := Tryz.sizeOf108
  v46 := Tryz.zeroValue108
  t53 := Tryz.underlying79
  a53 := Tryz.isAgg79
  z53 := Tryz.sizeOf79
  v53 := Tryz.zeroValue79
  t75 := Tryz.underlying81
  a75 := Tryz.isAgg81
  z75 := Tryz.sizeOf81
  v75 := Tryz.zeroValue81
  t167 := Tryz.underlying112
  a167 := Tryz.isAgg112
  z167 := Tryz.sizeOf112
  v167 := Tryz.zeroValue112 }
open Go.RowKit in
theorem Tryz.strconv_toError_range (fn s : ByteArray) (base bits : Int) (ev : Value) (w : World) (hlim : s.size ≤ 281474976710656) (hv : w.cell? ⟨2, 0, none⟩ = some ev) (hev : ev = .nilIface ∨ ∃ te pe, ev = .iface te pe) :
    Calls Tryz.prog 68 #[.string fn, .string s, .int .i64 base, .int .i64 bits, .iface 112 (.int .i64 1)] w fun e w' => ∃ N, e = .returned (.iface 114 (.pointer (some ⟨N, 0, none⟩))) ∧ w.heap.size ≤ N ∧ w'.heap[N]? = some (.cells #[.string fn, .string s, ev] 137 (0, 0)) ∧ Below w.heap.size w w' := Any.strconv_toError_range Tryz.laysC245 fn s base bits ev w hlim hv hev
open Go.RowKit in
theorem Tryz.internal_strconv_ParseUint_10_at64 (t : ByteArray) (hmax : t.size ≤ 9223372036854775806) (w : World) :
    Calls Tryz.prog 67 #[.string t, .int .i64 10, .int .i64 64] w fun e w' => e = .returned (Lib.uintTupleM 112 18446744073709551615 (Lib.parseUintB 64 t.data.toList)) ∧ (w' = w ∨ w' = Lib.bytesWorld w 5 t) := Any.internal_strconv_ParseUint_10_at64 Tryz.lays287 t hmax w
def Tryz.lays207_ren : Go.Shelf.Ren := ⟨fun | 207 => 83 | n => n, fun | 9 => 9 | 4 => 4 | 3 => 3 | n => n, fun | n => n⟩
theorem Tryz.lays207 : Go.Proofs.Lays.n207 Tryz.prog Tryz.lays207_ren := {
  mixed := by kernel_rfl
  f207 := Tryz.func83.trans (congrArg some (by kernel_rfl))
  t3 := Tryz.underlying3
  a3 := Tryz.isAgg3
  z3 := Tryz.sizeOf3
  v3 := Tryz.zeroValue3
  t4 := Tryz.underlying4
  a4 := Tryz.isAgg4
  z4 := Tryz.sizeOf4
  v4 := Tryz.zeroValue4
  t9 := Tryz.underlying9
  a9 := Tryz.isAgg9
  z9 := Tryz.sizeOf9
  v9 := Tryz.zeroValue9 }
open Go.RowKit Go.Lib in
theorem Tryz.stringslite_HasSuffix (s p : ByteArray) (w : World) (hs : s.size ≤ 9223372036854775807) :
    Calls Tryz.prog 83 #[.string s, .string p] w fun e w' => e = .returned (.bool (Lib.hasSuffix s.data.toList p.data.toList)) ∧ w' = w := Any.stringslite_HasSuffix Tryz.lays207 s p w hs
end Go.Proofs

/- strings.CutPrefix, CutSuffix, Cut (a separator of one byte): what calls of them do. -/
namespace Go.Proofs.YtikbddiogneheaaGreatDoor
open Go.RowKit Go.Gw
set_option linter.unusedVariables false
set_option linter.unusedSimpArgs false

def cutPre (s p : ByteArray) : ByteArray := if Lib.hasPrefix s.data.toList p.data.toList then s.extract p.size s.size else s
def cutSuf (s p : ByteArray) : ByteArray := if Lib.hasSuffix s.data.toList p.data.toList then s.extract 0 (s.size - p.size) else s
theorem pre_le {s p : ByteArray} (h : Lib.hasPrefix s.data.toList p.data.toList = true) : p.size ≤ s.size := by
  have := Lib.hasPrefix_le h
  rwa [Array.length_toList, Array.length_toList] at this
theorem suf_le {s p : ByteArray} (h : Lib.hasSuffix s.data.toList p.data.toList = true) : p.size ≤ s.size := by
  have := Lib.hasSuffix_le h
  rwa [Array.length_toList, Array.length_toList] at this
set_option maxHeartbeats 1000000 in
set_option maxRecDepth 100000 in
theorem slCutPrefix_calls (s p : ByteArray) (w : World) : Calls Tryz.prog 42 #[.string s, .string p] w fun e w' => e = .returned (.tuple #[.string (cutPre s p), .bool (Lib.hasPrefix s.data.toList p.data.toList)]) ∧ ∃ q, w' = w.drewN q := by
  go_enter Tryz.func42, Tryz.ntmps42
  go_wp2_with fail
  refine (Tryz.stringslite_HasPrefix s p _).mono ?_
  rintro e w1 ⟨rfl, rfl⟩
  obtain ⟨b, hb⟩ : ∃ b, b = Lib.hasPrefix s.data.toList p.data.toList := ⟨_, rfl⟩
  rw [← hb]
  cases b with
  | false =>
    have HB := Lib.hid hb; clear hb
    go_wp2
    go_ret2
    exact ⟨by rw [cutPre, ← HB.out]; rfl, 0, rfl⟩
  | true =>
    have hle := pre_le hb.symm
    have HB := Lib.hid hb; clear hb
    go_wp2
    go_ret2
    exact ⟨by rw [cutPre, ← HB.out]; rfl, 0, rfl⟩
set_option maxHeartbeats 1000000 in
set_option maxRecDepth 100000 in
theorem CutPrefix_calls (s p : ByteArray) (w : World) : Calls Tryz.prog 19 #[.string s, .string p] w fun e w' => e = .returned (.tuple #[.string (cutPre s p), .bool (Lib.hasPrefix s.data.toList p.data.toList)]) ∧ ∃ q, w' = w.drewN q := by
  go_enter Tryz.func19, Tryz.ntmps19
  go_wp2_with fail
  refine (slCutPrefix_calls s p _).mono ?_
  rintro e w1 ⟨rfl, q, rfl⟩
  go_wp2
  go_ret2
  exact ⟨rfl, _, rfl⟩
set_option maxHeartbeats 1000000 in
set_option maxRecDepth 100000 in
theorem slCutSuffix_calls (s p : ByteArray) (hs : s.size ≤ 9223372036854775807) (w : World) : Calls Tryz.prog 66 #[.string s, .string p] w fun e w' => e = .returned (.tuple #[.string (cutSuf s p), .bool (Lib.hasSuffix s.data.toList p.data.toList)]) ∧ ∃ q, w' = w.drewN q := by
  go_enter Tryz.func66, Tryz.ntmps66
  go_wp2_with fail
  refine (Tryz.stringslite_HasSuffix s p _ hs).mono ?_
  rintro e w1 ⟨rfl, rfl⟩
  obtain ⟨b, hb⟩ : ∃ b, b = Lib.hasSuffix s.data.toList p.data.toList := ⟨_, rfl⟩
  rw [← hb]
  cases b with
  | false =>
    have HB := Lib.hid hb; clear hb
    go_wp2
    go_ret2
    exact ⟨by rw [cutSuf, ← HB.out]; rfl, 0, rfl⟩
  | true =>
    have hle := suf_le hb.symm
    have HB := Lib.hid hb; clear hb
    go_wp2
    go_ret2
    exact ⟨by rw [cutSuf, ← HB.out]; rfl, 0, rfl⟩
set_option maxHeartbeats 1000000 in
set_option maxRecDepth 100000 in
theorem CutSuffix_calls (s p : ByteArray) (hs : s.size ≤ 9223372036854775807) (w : World) : Calls Tryz.prog 48 #[.string s, .string p] w fun e w' => e = .returned (.tuple #[.string (cutSuf s p), .bool (Lib.hasSuffix s.data.toList p.data.toList)]) ∧ ∃ q, w' = w.drewN q := by
  go_enter Tryz.func48, Tryz.ntmps48
  go_wp2_with fail
  refine (slCutSuffix_calls s p hs _).mono ?_
  rintro e w1 ⟨rfl, q, rfl⟩
  go_wp2
  go_ret2
  exact ⟨rfl, _, rfl⟩

def cutA (s : ByteArray) (c : UInt8) : ByteArray := if 0 ≤ Lib.indexByte s.data.toList c then s.extract 0 (Lib.indexByte s.data.toList c).toNat else s
def cutB (s : ByteArray) (c : UInt8) : ByteArray := if 0 ≤ Lib.indexByte s.data.toList c then s.extract ((Lib.indexByte s.data.toList c).toNat + 1) s.size else ⟨#[]⟩
set_option maxHeartbeats 1000000 in
set_option maxRecDepth 100000 in
theorem slCut_calls (s : ByteArray) (c : UInt8) (hs : s.size ≤ 140737488351232) (w : World) : Calls Tryz.prog 43 #[.string s, .string ⟨#[c]⟩] w fun e w' => e = .returned (.tuple #[.string (cutA s c), .string (cutB s c), .bool (decide (0 ≤ Lib.indexByte s.data.toList c))]) ∧ ∃ q, w' = w.drewN q := by
  have hg := Lib.indexByte_ge s.data.toList c
  go_enter Tryz.func43, Tryz.ntmps43
  go_wp2_with fail
  refine (Tryz.stringslite_Index_one s c _).mono ?_
  rintro e w1 ⟨rfl, rfl⟩
  by_cases hno : Lib.indexByte s.data.toList c = -1
  · rw [hno]
    have HN := Lib.hid hno; clear hno hg
    go_wp2
    go_ret3
    exact ⟨by rw [cutA, cutB, HN.out]; rfl, 0, rfl⟩
  · obtain ⟨i, hi⟩ : ∃ i : Nat, Lib.indexByte s.data.toList c = i := ⟨(Lib.indexByte s.data.toList c).toNat, by omega⟩
    have hil : i < s.size := by
      have h := (Lib.indexByte_some hi).1
      have h2 := (List.getElem?_eq_some_iff.1 h).1
      rwa [Array.length_toList] at h2
    rw [hi]
    have HN := Lib.hid hi; clear hi hno hg
    have mixed := Tryz.lays219.mixed
    have c1 : (0 : Int) ≤ ↑i := by omega
    have c2 : (↑i : Int) ≤ ↑s.size := by omega
    have c3 : (0 : Int) ≤ ↑i + 1 := by omega
    have c4 : (↑i + 1 : Int) ≤ ↑s.size := by omega
    go_wp2
    go_region_o
    go_wp2
    go_ret3
    exact ⟨by rw [cutA, cutB, HN.out]; rfl, 1, rfl⟩
set_option maxHeartbeats 1000000 in
set_option maxRecDepth 100000 in
theorem Cut_calls (s : ByteArray) (c : UInt8) (hs : s.size ≤ 140737488351232) (w : World) : Calls Tryz.prog 20 #[.string s, .string ⟨#[c]⟩] w fun e w' => e = .returned (.tuple #[.string (cutA s c), .string (cutB s c), .bool (decide (0 ≤ Lib.indexByte s.data.toList c))]) ∧ ∃ q, w' = w.drewN q := by
  go_enter Tryz.func20, Tryz.ntmps20
  go_wp2_with fail
  refine (slCut_calls s c hs _).mono ?_
  rintro e w1 ⟨rfl, q, rfl⟩
  go_wp2
  go_ret3
  exact ⟨rfl, _, rfl⟩
end Go.Proofs.YtikbddiogneheaaGreatDoor

/- label.Sees: what a call of it does, of one pattern. -/
namespace Go.Proofs.YtikbddiogneheaaGreatDoor
open Go.RowKit Go.Gw
set_option linter.unusedVariables false
set_option linter.unusedSimpArgs false

theorem toList_inj {a b : ByteArray} (h : a.toList = b.toList) : a = b := by
  rw [Lib.toList_data, Lib.toList_data] at h
  obtain ⟨⟨a⟩⟩ := a
  obtain ⟨⟨b⟩⟩ := b
  simp only at h
  rw [h]
theorem eq_S (a b : ByteArray) : (a.toList == b.toList) = decide (a = b) := by
  rw [Bool.eq_iff_iff, beq_iff_eq, decide_eq_true_eq]
  exact ⟨toList_inj, fun h => by rw [h]⟩
/-- A text is a path. -/
def mayS (s : ByteArray) : Bool := Lb.may s.data.toList
/-- A path is below a directory. -/
def underS (s d : ByteArray) : Bool := mayS s && (d.data.toList == [] || mayS d) && (d.data.toList == [] || Lib.hasPrefix s.data.toList (d ++ ⟨#[47]⟩).data.toList)
theorem toList_nil {d : ByteArray} (h : d.toList = []) : d = ⟨#[]⟩ := by
  rw [Lib.toList_data] at h
  obtain ⟨⟨l⟩⟩ := d
  simp only at h
  rw [h]
set_option maxHeartbeats 1000000 in
set_option maxRecDepth 100000 in
theorem Under_calls (s d : ByteArray) (hs : s.size ≤ 140737488351232) (hd : d.size ≤ 140737488351232) (w : World) : Calls Tryz.prog 50 #[.string s, .string d] w fun e w' => e = .returned (.bool (underS s d)) ∧ Below w.heap.size w w' := by
  go_enter Tryz.func50, Tryz.ntmps50
  go_wp2_with fail
  refine (May_calls s hs _).mono ?_
  rintro e w1 ⟨rfl, hb1⟩
  obtain ⟨b1, h1⟩ : ∃ b, b = Lb.may s.data.toList := ⟨_, rfl⟩
  rw [← h1]
  have H1 := Lib.hid h1; clear h1
  cases b1 with
  | false =>
    go_wp2
    go_ret
    exact ⟨ret_bool (by rw [underS, mayS, ← H1.out]; rfl), hb1⟩
  | true =>
    by_cases hE : d = ⟨#[]⟩
    · subst hE
      go_wp2
      go_ret
      exact ⟨ret_bool (by rw [underS, mayS, ← H1.out]; rfl), hb1⟩
    · have hL : ¬ d.toList = [] := fun h => hE (toList_nil h)
      go_wp2_with fail
      refine (May_calls d hd _).mono ?_
      rintro e w2 ⟨rfl, hb2⟩
      have hb := hb1.trans (hb2.mono hb1.size)
      obtain ⟨b2, h2⟩ : ∃ b, b = Lb.may d.data.toList := ⟨_, rfl⟩
      rw [← h2]
      have hEq : (d.data.toList == []) = false := by rw [beq_eq_false_iff_ne, ← Lib.toList_data]; exact hL
      have H2 := Lib.hid h2; clear h2
      have hI : d.toList.isEmpty = false := by rw [List.isEmpty_eq_false_iff]; exact hL
      have HE := Lib.hid hEq; clear hEq
      cases b2 with
      | false =>
        go_wp2
        go_ret
        exact ⟨ret_bool (by rw [underS, mayS, ← H1.out, HE.out, mayS, ← H2.out]; rfl), hb⟩
      | true =>
        go_wp2_with fail
        refine (Tryz.strings_HasPrefix s _ _).mono ?_
        rintro e w3 ⟨rfl, rfl⟩
        go_wp2
        go_ret
        exact ⟨ret_bool (by rw [underS, mayS, ← H1.out, HE.out, mayS, ← H2.out]; rfl), hb⟩

/-! ### label.meant: what it makes of a pattern -/
/-- What a pattern's function tells of a package. -/
def meantS (p pkg : ByteArray) : Bool :=
  if Lib.hasPrefix p.data.toList [47, 47] then
    let s := cutPre p ⟨#[47, 47]⟩
    if s = ⟨#[46, 46, 46]⟩ then true
    else if Lib.hasSuffix s.data.toList [47, 46, 46, 46] then
      let d := cutSuf s ⟨#[47, 46, 46, 46]⟩
      mayS d && (decide (pkg = d) || underS pkg d)
    else decide (pkg = s)
  else false
/-- A function value that tells of packages what m says, in the worlds that keep what lies in w. -/
def Tells (w : World) (v : Value) (m : ByteArray → Bool) : Prop := ∃ (n : Nat) (lb : Array Value), v = .func (.func n) #[] lb ∧ (∀ args w, (callFunc n args).run Tryz.prog w = .ok (.enter n args) w) ∧
  ∀ (pkg : ByteArray) (W : World), pkg.size ≤ 140737488351232 → Below w.heap.size w W → Calls Tryz.prog n (#[.string pkg] ++ lb) W fun e W' => e = .returned (.bool (m pkg)) ∧ Below W.heap.size W W'
set_option maxHeartbeats 1000000 in
set_option maxRecDepth 100000 in
theorem meant1_calls (pkg : ByteArray) (w : World) : Calls Tryz.prog 46 #[.string pkg] w fun e w' => e = .returned (.bool false) ∧ w' = w := by
  go_enter Tryz.func46, Tryz.ntmps46
  go_wp2
  go_ret
  exact ⟨rfl, rfl⟩
set_option maxHeartbeats 1000000 in
set_option maxRecDepth 100000 in
theorem meant2_calls (pkg : ByteArray) (w : World) : Calls Tryz.prog 47 #[.string pkg] w fun e w' => e = .returned (.bool true) ∧ w' = w := by
  go_enter Tryz.func47, Tryz.ntmps47
  go_wp2
  go_ret
  exact ⟨rfl, rfl⟩
set_option maxHeartbeats 1000000 in
set_option maxRecDepth 100000 in
theorem meant4_calls (pkg s : ByteArray) (b : Nat) (w : World) (hc : w.cell? ⟨b, 0, none⟩ = some (.string s)) : Calls Tryz.prog 51 #[.string pkg, .pointer (some ⟨b, 0, none⟩)] w fun e w' => e = .returned (.bool (decide (pkg = s))) ∧ w' = w := by
  go_enter Tryz.func51, Tryz.ntmps51
  go_wp2
  go_ret
  exact ⟨ret_bool (eq_S _ _), rfl⟩
set_option maxHeartbeats 1000000 in
set_option maxRecDepth 100000 in
theorem meant3_calls (pkg d : ByteArray) (hp : pkg.size ≤ 140737488351232) (hd : d.size ≤ 140737488351232) (b : Nat) (w : World) (hc : w.cell? ⟨b, 0, none⟩ = some (.string d)) : Calls Tryz.prog 49 #[.string pkg, .pointer (some ⟨b, 0, none⟩)] w fun e w' => e = .returned (.bool (mayS d && (decide (pkg = d) || underS pkg d))) ∧ Below w.heap.size w w' := by
  go_enter Tryz.func49, Tryz.ntmps49
  go_wp2_with fail
  refine (May_calls d hd _).mono ?_
  rintro e w1 ⟨rfl, hb1⟩
  obtain ⟨b1, h1⟩ : ∃ b, b = Lb.may d.data.toList := ⟨_, rfl⟩
  rw [← h1]
  have H1 := Lib.hid h1; clear h1
  have hc1 : w1.cell? ⟨b, 0, none⟩ = some (.string d) := (hb1.cell (p := ⟨b, 0, none⟩) (World.block_lt_of_cell? w _ hc)).trans hc
  cases b1 with
  | false =>
    go_wp2
    go_ret
    exact ⟨ret_bool (by rw [mayS, ← H1.out]; rfl), hb1⟩
  | true =>
    by_cases he : pkg = d
    · subst he
      go_wp2
      go_ret
      exact ⟨ret_bool (by have e1 : mayS pkg = true := H1.out.symm; simp [e1]), hb1⟩
    · have hE : (pkg.toList == d.toList) = false := by rw [eq_S, decide_eq_false_iff_not]; exact he
      have HE := Lib.hid he; clear he
      go_wp2_with fail
      refine (Under_calls pkg d hp hd _).mono ?_
      rintro e w2 ⟨rfl, hb2⟩
      go_wp2
      go_ret
      exact ⟨ret_bool (by have e1 : mayS d = true := H1.out.symm; have e2 : decide (pkg = d) = false := decide_eq_false HE.out; simp [e1, e2]), hb1.trans (hb2.mono hb1.size)⟩
theorem cutPre_size (s p : ByteArray) : (cutPre s p).size ≤ s.size := by
  unfold cutPre
  split
  · rw [ByteArray.size_extract]; omega
  · exact Nat.le_refl _
theorem cutSuf_size (s p : ByteArray) : (cutSuf s p).size ≤ s.size := by
  unfold cutSuf
  split
  · rw [ByteArray.size_extract]; omega
  · exact Nat.le_refl _
theorem cell_new (w : World) (v : Value) (t : TypeId) : (w.alloc (.cells #[v] t)).cell? ⟨w.heap.size, 0, none⟩ = some v := cell_blk (t := t) (show (w.heap.push (.cells #[v] t))[w.heap.size]? = _ from Array.getElem?_push_size)
set_option maxHeartbeats 2000000 in
set_option maxRecDepth 100000 in
theorem meant_calls (p : ByteArray) (hp : p.size ≤ 140737488351232) (w : World) : Calls Tryz.prog 24 #[.string p] w fun e w' => ∃ v, e = .returned v ∧ Tells w' v (meantS p) ∧ Below w.heap.size w w' := by
  go_enter Tryz.func24, Tryz.ntmps24
  go_wp2_with fail
  refine (CutPrefix_calls p ⟨#[47, 47]⟩ _).mono ?_
  rintro e w1 ⟨rfl, hq⟩
  have hb1 : Below w.heap.size w w1 := by obtain ⟨q, rfl⟩ := hq; exact below_drewN' (Below.refl _ _) _
  clear hq
  obtain ⟨b1, h1⟩ : ∃ b, b = Lib.hasPrefix p.data.toList [47, 47] := ⟨_, rfl⟩
  rw [show Lib.hasPrefix p.data.toList (⟨#[47, 47]⟩ : ByteArray).data.toList = b1 from h1.symm]
  have hs := cutPre_size p ⟨#[47, 47]⟩
  obtain ⟨s, hS⟩ : ∃ s, s = cutPre p ⟨#[47, 47]⟩ := ⟨_, rfl⟩
  rw [← hS] at hs ⊢
  have H1 := Lib.hid h1; clear h1
  have H2 := Lib.hid hS; clear hS
  have hp2 : p.data.toList = p.data.toList := rfl
  cases b1 with
  | false =>
    go_wp2
    go_ret
    refine ⟨_, rfl, ⟨46, #[], rfl, enters_of Tryz.func46 (by kernel_rfl) rfl, fun pkg W _ hW => (meant1_calls pkg W).mono ?_⟩, hb1.alloc hb1.size _⟩
    rintro e W' ⟨rfl, rfl⟩
    exact ⟨by rw [meantS, ← H1.out]; rfl, Below.refl _ _⟩
  | true =>
    by_cases he : s = ⟨#[46, 46, 46]⟩
    · subst he
      go_wp2
      go_ret
      refine ⟨_, rfl, ⟨47, #[], rfl, enters_of Tryz.func47 (by kernel_rfl) rfl, fun pkg W _ hW => (meant2_calls pkg W).mono ?_⟩, hb1.alloc hb1.size _⟩
      rintro e W' ⟨rfl, rfl⟩
      exact ⟨by rw [meantS, ← H1.out, if_pos rfl, ← H2.out]; rfl, Below.refl _ _⟩
    · have hE : (s.toList == [46, 46, 46]) = false := by
        rw [beq_eq_false_iff_ne]
        exact fun h => he (toList_inj (h.trans (Lib.toList_data ⟨#[46, 46, 46]⟩).symm))
      have HE := Lib.hid he; clear he
      go_wp2_with fail
      refine (CutSuffix_calls s ⟨#[47, 46, 46, 46]⟩ (by omega) _).mono ?_
      rintro e w2 ⟨rfl, hq⟩
      have hb2 : Below (w1.alloc (Obj.cells #[Value.string s] 9)).heap.size (w1.alloc (Obj.cells #[Value.string s] 9)) w2 := by obtain ⟨q, rfl⟩ := hq; exact below_drewN' (Below.refl _ _) _
      clear hq
      obtain ⟨b2, h2⟩ : ∃ b, b = Lib.hasSuffix s.data.toList [47, 46, 46, 46] := ⟨_, rfl⟩
      rw [show Lib.hasSuffix s.data.toList (⟨#[47, 46, 46, 46]⟩ : ByteArray).data.toList = b2 from h2.symm]
      have H3 := Lib.hid h2; clear h2
      cases b2 with
      | false =>
        go_wp2
        go_ret
        have hb3 := (hb2.mono (Nat.le_refl _)).alloc (hb2.size) (Obj.cells #[Value.string (cutSuf s ⟨#[47, 46, 46, 46]⟩)] 9)
        have hc := cell_new w1 (.string s) 9
        refine ⟨_, rfl, ⟨51, _, rfl, enters_of Tryz.func51 (by kernel_rfl) rfl, fun pkg W _ hW => (meant4_calls pkg s w1.heap.size W ?_).mono ?_⟩, ?_⟩
        · have h3 := (hb3.cell (p := ⟨w1.heap.size, 0, none⟩) (World.block_lt_of_cell? _ _ hc)).trans hc
          exact (hW.cell (p := ⟨w1.heap.size, 0, none⟩) (World.block_lt_of_cell? _ _ h3)).trans h3
        · rintro e W' ⟨rfl, rfl⟩
          exact ⟨by rw [meantS, ← H1.out, if_pos rfl]; simp only [← H2.out]; rw [if_neg HE.out, ← H3.out]; rfl, Below.refl _ _⟩
        · exact (hb1.alloc hb1.size _).trans (hb3.mono (Nat.le_trans hb1.size (by simp)))
      | true =>
        go_wp2
        go_ret
        have hd := cutSuf_size s ⟨#[47, 46, 46, 46]⟩
        have hb3 := (hb2.mono (Nat.le_refl _)).alloc (hb2.size) (Obj.cells #[Value.string (cutSuf s ⟨#[47, 46, 46, 46]⟩)] 9)
        have hc := cell_new w2 (.string (cutSuf s ⟨#[47, 46, 46, 46]⟩)) 9
        refine ⟨_, rfl, ⟨49, _, rfl, enters_of Tryz.func49 (by kernel_rfl) rfl, fun pkg W hpk hW => (meant3_calls pkg _ hpk (Nat.le_trans hd (Nat.le_trans hs hp)) w2.heap.size W ?_).mono ?_⟩, ?_⟩
        · exact (hW.cell (p := ⟨w2.heap.size, 0, none⟩) (World.block_lt_of_cell? _ _ hc)).trans hc
        · rintro e W' ⟨rfl, hb⟩
          exact ⟨by rw [meantS, ← H1.out, if_pos rfl]; simp only [← H2.out]; rw [if_neg HE.out, ← H3.out]; rfl, hb⟩
        · exact (hb1.alloc hb1.size _).trans (hb3.mono (Nat.le_trans hb1.size (by simp)))
end Go.Proofs.YtikbddiogneheaaGreatDoor

/- label.Sees: what a call of it does, of one pattern. -/
namespace Go.Proofs.YtikbddiogneheaaGreatDoor
open Go.RowKit Go.Gw
set_option linter.unusedVariables false
set_option linter.unusedSimpArgs false

set_option maxHeartbeats 2000000 in
set_option maxRecDepth 100000 in
theorem sees1_calls (p pkg : ByteArray) (hp : p.size ≤ 140737488351232) (hk : pkg.size ≤ 140737488351232) (b : Nat) (w : World) (hc : w.cell? ⟨b, 0, none⟩ = some (.string pkg)) : Calls Tryz.prog 23 #[.string p, .pointer (some ⟨b, 0, none⟩)] w fun e w' => e = .returned (.bool (meantS p pkg)) ∧ Below w.heap.size w w' := by
  have hc' : w.drew.cell? ⟨b, 0, none⟩ = some (.string pkg) := hc
  have hM : ∀ W, (W = w ∨ W = w.drew) → Calls Tryz.prog 24 #[.string p] W fun e w' => ∃ n lb, e = .returned (.func (.func n) #[] lb) ∧ (∀ args w, (callFunc n args).run Tryz.prog w = .ok (.enter n args) w) ∧ w'.cell? ⟨b, 0, none⟩ = some (.string pkg) ∧ Below w.heap.size w w' ∧
      Calls Tryz.prog n (#[.string pkg] ++ lb) w' fun e W' => e = .returned (.bool (meantS p pkg)) ∧ Below w.heap.size w W' := by
    intro W hW
    have hcW : W.cell? ⟨b, 0, none⟩ = some (.string pkg) := by rcases hW with rfl | rfl <;> exact hc
    have hbW : Below w.heap.size w W := by rcases hW with rfl | rfl; exact Below.refl _ _; exact (Below.refl _ _).drew
    refine (meant_calls p hp W).mono ?_
    rintro e w1 ⟨v, rfl, ⟨n, lb, rfl, hen, hT⟩, hb⟩
    have hb2 := hbW.trans (hb.mono hbW.size)
    refine ⟨n, lb, rfl, hen, (hb.cell (p := ⟨b, 0, none⟩) (World.block_lt_of_cell? _ _ hcW)).trans hcW, hb2, ?_⟩
    refine (hT pkg w1 hk (Below.refl _ _)).mono ?_
    rintro e w2 ⟨rfl, hb3⟩
    exact ⟨rfl, hb2.trans (hb3.mono hb2.size)⟩
  go_enter Tryz.func23, Tryz.ntmps23
  go_wp2
  go_region_with (first | (refine (hM _ (by first | exact .inl rfl | exact .inr rfl)).mono ?_; rintro e w1 ⟨n, lb, rfl, hen, hc1, hb1, hT⟩) | (refine hT.mono ?_; rintro e w2 ⟨rfl, hb2⟩))
  all_goals (go_wp2; go_ret; exact ⟨rfl, hb2⟩)
/-- A number of a place, or -1. -/
def hitI (b : Bool) : Int := if b then 0 else -1
set_option maxHeartbeats 2000000 in
set_option maxRecDepth 100000 in
theorem index1_calls (p pkg : ByteArray) (hp : p.size ≤ 140737488351232) (hk : pkg.size ≤ 140737488351232) (ad : Addr) (c b : Nat) (w : World) (h0 : w.cell? ad = some (.string p)) (hc : w.cell? ⟨b, 0, none⟩ = some (.string pkg)) :
    Calls Tryz.prog 45 #[.slice (some ad) 1 c, .func (.func 23) #[] #[.pointer (some ⟨b, 0, none⟩)]] w fun e w' => e = .returned (.int .i64 (hitI (meantS p pkg))) ∧ Below w.heap.size w w' := by
  have hE := enters_of Tryz.func23 (by kernel_rfl) rfl
  go_enter Tryz.func45, Tryz.ntmps45
  go_wp2
  go_loopw [5, 8] (fun _ iv wr => ∃ k : Nat, k ≤ 1 ∧ iv = .int .i64 k ∧ Aside1 (k = 1 → meantS p pkg = false) ∧ Aside1 (Below w.heap.size w wr)) (fun _ i _ => 1 - (intOf i).toNat)
  case atStart => exact ⟨0, by omega, rfl, ⟨by omega⟩, ⟨Below.refl _ _⟩⟩
  case round =>
    obtain ⟨k, hk1, rfl, HM, HB⟩ := hrel
    by_cases hlt : k < 1
    · obtain rfl : k = 0 := by omega
      have h0' : wr.cell? ad = some (.string p) := (HB.out.cell (World.block_lt_of_cell? _ _ h0)).trans h0
      have hc' : wr.cell? ⟨b, 0, none⟩ = some (.string pkg) := (HB.out.cell (p := ⟨b, 0, none⟩) (World.block_lt_of_cell? _ _ hc)).trans hc
      go_wp2_with fail
      refine (sees1_calls p pkg hp hk b _ hc').mono ?_
      rintro e w1 ⟨rfl, hb⟩
      have hb1 := HB.out.trans (hb.mono HB.out.size)
      obtain ⟨r, hr⟩ : ∃ r, r = meantS p pkg := ⟨_, rfl⟩
      rw [← hr]
      have HR := Lib.hid hr; clear hr
      cases r with
      | true =>
        go_wp2
        go_ret
        exact ⟨by rw [← HR.out]; rfl, hb1⟩
      | false =>
        go_wp2
        go_roundw
        case rel => exact ⟨1, by omega, rfl, ⟨fun _ => HR.out.symm⟩, ⟨hb1⟩⟩
        case measure => exact Nat.lt_of_sub_eq_succ rfl
    · obtain rfl : k = 1 := by omega
      have hM := HM.out rfl
      have HR := Lib.hid hM; clear hM
      go_wp2
      go_ret
      exact ⟨by rw [HR.out]; rfl, HB.out⟩
set_option maxHeartbeats 2000000 in
set_option maxRecDepth 100000 in
theorem contains1_calls (p pkg : ByteArray) (hp : p.size ≤ 140737488351232) (hk : pkg.size ≤ 140737488351232) (ad : Addr) (c b : Nat) (w : World) (h0 : w.cell? ad = some (.string p)) (hc : w.cell? ⟨b, 0, none⟩ = some (.string pkg)) :
    Calls Tryz.prog 22 #[.slice (some ad) 1 c, .func (.func 23) #[] #[.pointer (some ⟨b, 0, none⟩)]] w fun e w' => e = .returned (.bool (meantS p pkg)) ∧ Below w.heap.size w w' := by
  go_enter Tryz.func22, Tryz.ntmps22
  go_wp2_with fail
  refine (index1_calls p pkg hp hk ad c b _ h0 hc).mono ?_
  rintro e w1 ⟨rfl, hb⟩
  obtain ⟨r, hr⟩ : ∃ r, r = meantS p pkg := ⟨_, rfl⟩
  rw [← hr]
  have HR := Lib.hid hr; clear hr
  cases r with
  | true =>
    rw [show hitI true = 0 from rfl]
    go_wp2
    go_ret
    exact ⟨by rw [← HR.out]; rfl, hb⟩
  | false =>
    rw [show hitI false = -1 from rfl]
    go_wp2
    go_ret
    exact ⟨by rw [← HR.out]; rfl, hb⟩
/-- A text is a package. -/
def pkgS (s : ByteArray) : Bool := s.data.toList == [] || mayS s
set_option maxHeartbeats 1000000 in
set_option maxRecDepth 100000 in
theorem isPkg_calls (s : ByteArray) (hs : s.size ≤ 140737488351232) (w : World) : Calls Tryz.prog 21 #[.string s] w fun e w' => e = .returned (.bool (pkgS s)) ∧ Below w.heap.size w w' := by
  by_cases hE : s = ⟨#[]⟩
  · subst hE
    go_enter Tryz.func21, Tryz.ntmps21
    go_wp2
    go_ret
    exact ⟨ret_bool rfl, Below.refl _ _⟩
  · have hL : ¬ s.toList = [] := fun h => hE (toList_nil h)
    have hI : s.toList.isEmpty = false := by rw [List.isEmpty_eq_false_iff]; exact hL
    have hEq : (s.data.toList == []) = false := by rw [beq_eq_false_iff_ne, ← Lib.toList_data]; exact hL
    have HE := Lib.hid hEq; clear hEq hE
    go_enter Tryz.func21, Tryz.ntmps21
    go_wp2_with fail
    refine (May_calls s hs _).mono ?_
    rintro e w1 ⟨rfl, hb1⟩
    go_wp2
    go_ret
    exact ⟨ret_bool (by rw [pkgS, HE.out]; rfl), hb1⟩
set_option maxHeartbeats 2000000 in
set_option maxRecDepth 100000 in
theorem Sees1_calls (p pkg : ByteArray) (hp : p.size ≤ 140737488351232) (hk : pkg.size ≤ 140737488351232) (ad : Addr) (c : Nat) (w : World) (h0 : w.cell? ad = some (.string p)) :
    Calls Tryz.prog 10 #[.slice (some ad) 1 c, .string pkg] w fun e w' => e = .returned (.bool (pkgS pkg && meantS p pkg)) ∧ Below w.heap.size w w' := by
  go_enter Tryz.func10, Tryz.ntmps10
  go_wp2_with fail
  have hc := cell_new w (.string pkg) 9
  refine (isPkg_calls pkg hk _).mono ?_
  rintro e w1 ⟨rfl, hb⟩
  have hb1 := ((Below.refl w.heap.size w).alloc (Nat.le_refl _) (Obj.cells #[Value.string pkg] 9)).trans (hb.mono (by simp))
  have h1 : w1.cell? ad = some (.string p) := (hb1.cell (World.block_lt_of_cell? _ _ h0)).trans h0
  have hc1 : w1.cell? ⟨w.heap.size, 0, none⟩ = some (.string pkg) := (hb.cell (p := ⟨w.heap.size, 0, none⟩) (World.block_lt_of_cell? _ _ hc)).trans hc
  obtain ⟨r, hr⟩ : ∃ r, r = pkgS pkg := ⟨_, rfl⟩
  rw [← hr]
  have HR := Lib.hid hr; clear hr
  cases r with
  | false =>
    go_wp2
    go_ret
    exact ⟨ret_bool (by rw [← HR.out]; rfl), hb1⟩
  | true =>
    go_wp2_with fail
    refine (contains1_calls p pkg hp hk ad c _ _ h1 hc1).mono ?_
    rintro e w2 ⟨rfl, hb2⟩
    go_wp2
    go_ret
    exact ⟨ret_bool (by rw [← HR.out]; rfl), hb1.trans (hb2.mono hb1.size)⟩
end Go.Proofs.YtikbddiogneheaaGreatDoor

/- The library's Once and its lock, one goroutine, not yet done, the lock free: each part by its contract. -/
namespace Go.Proofs.YtikbddiogneheaaGreatDoor
open Go.RowKit
set_option linter.unusedVariables false
set_option linter.unusedSimpArgs false

theorem disable (w : World) : (callFunc 103 #[]).run Tryz.prog w = .ok (.value (.tuple #[])) w := run_call_mark0 Tryz.func103 (by kernel_rfl) (by kernel_rfl) (by kernel_rfl) .disable (by kernel_rfl) w
theorem enable (w : World) : (callFunc 105 #[]).run Tryz.prog w = .ok (.value (.tuple #[])) w := run_call_mark0 Tryz.func105 (by kernel_rfl) (by kernel_rfl) (by kernel_rfl) .enable (by kernel_rfl) w
theorem acquire (a : Addr) (w : World) : (callFunc 106 #[.pointer (some a)]).run Tryz.prog w = .ok (.value (.tuple #[])) w := run_call_marked Tryz.func106 (by kernel_rfl) (by kernel_rfl) (by kernel_rfl) .acquire (by kernel_rfl) a w
theorem releaseMerge (a : Addr) (w : World) : (callFunc 108 #[.pointer (some a)]).run Tryz.prog w = .ok (.value (.tuple #[])) w := run_call_marked Tryz.func108 (by kernel_rfl) (by kernel_rfl) (by kernel_rfl) .releaseMerge (by kernel_rfl) a w

/-- '(*sync/atomic.Bool).Store(true)', ENTERED AS A DEFERRED CALL: the cell holds 1. -/
theorem store_deferred (a : Addr) (x : Value) (u : FrameMode) (w : World) (hc : w.cell? a = some x) (hz : w.frozen? a = false) :
    CallsD Tryz.prog 73 #[.pointer (some a), .bool true] u w fun e u' w' => u' = u ∧ (e = .returned (.tuple #[]) ∧ w' = w.drew.setCell a (.int .u32 1)) := by
  have hc' : w.drew.cell? a = some x := by go_simp
  have hz' : w.drew.frozen? a = false := by go_simp
  have hst := run_call_store (P := Tryz.prog) Tryz.func92 (by kernel_rfl) (by kernel_rfl) (by kernel_rfl) (by kernel_rfl) (k := .u32) (y := 1) hc' hz'
  go_enter_d Tryz.func73, Tryz.ntmps73
  go_wp2
  go_region_calls
  all_goals (go_end0; exact ⟨rfl, rfl⟩)

set_option maxRecDepth 100000 in
set_option maxHeartbeats 1000000 in
/-- '(*sync.Mutex).Unlock', ENTERED AS A DEFERRED CALL, the lock held and nobody waiting (state 1): state 0. -/
theorem unlock_deferred (a : Addr) (u : FrameMode) (w : World) (hc : w.cell? a = some (.int .i32 1)) (hz : w.frozen? a = false) :
    CallsD Tryz.prog 72 #[.pointer (some a)] u w fun e u' w' => u' = u ∧ (e = .returned (.tuple #[]) ∧ w' = w.setCell a (.int .i32 0)) := by
  have hd := disable
  have he := enable
  have hr := releaseMerge
  have hadd := run_call_add (P := Tryz.prog) Tryz.func109 (by kernel_rfl) (by kernel_rfl) (by kernel_rfl) .i32 (by kernel_rfl) (y := -1) (s := 0) hc hz (by simp [go_sem]; rfl)
  have hcv := run_convert_to_unsafe (P := Tryz.prog) (src := 140) (dst := 144) Tryz.underlying140 Tryz.underlying144 (by kernel_rfl) hc
  go_enter_d Tryz.func72, Tryz.ntmps72
  go_wp2
  go_end0
  go_wp2
  go_end0
  exact ⟨rfl, rfl⟩

set_option maxRecDepth 100000 in
set_option maxHeartbeats 1000000 in
/-- '(*sync.Mutex).Lock', the lock free (state 0): state 1. -/
theorem lock_free (a : Addr) (w : World) (hc : w.cell? a = some (.int .i32 0)) (hz : w.frozen? a = false) :
    Calls Tryz.prog 71 #[.pointer (some a)] w fun e w' => e = .returned (.tuple #[]) ∧ w' = w.setCell a (.int .i32 1) := by
  have hd := disable
  have he := enable
  have ha := acquire
  have hcas := run_call_cas_hit (P := Tryz.prog) Tryz.func104 (by kernel_rfl) (by kernel_rfl) (by kernel_rfl) .i32 (by kernel_rfl) (y := 1) hc hz
  have hc' : (w.setCell a (.int .i32 1)).cell? a = some (.int .i32 1) := World.cell?_setCell_same w a _ hc
  have hcv := run_convert_to_unsafe (P := Tryz.prog) (src := 140) (dst := 144) Tryz.underlying140 Tryz.underlying144 (by kernel_rfl) hc'
  go_enter Tryz.func71, Tryz.ntmps71
  go_wp2
  first | go_end0 | (simp only [Exit.inBlock, Exit.then]; refine bodyPost_ret (results_none rfl _ _ _) rfl ?_) | refine bodyPost_ret (results_none rfl _ _ _) rfl ?_
  go_wp2
  go_end0
  exact ⟨rfl, rfl⟩
end Go.Proofs.YtikbddiogneheaaGreatDoor

/- The library's replacer of single bytes by texts, at lex.Quote's three: built once, then used. -/
namespace Go.Proofs.YtikbddiogneheaaGreatDoor
open Go.RowKit Go.Gw Go.Proofs.YtikbddiogneheaaGreatDoorW.PrintWords
set_option linter.unusedVariables false
set_option linter.unusedSimpArgs false

/-- The old texts and the new ones, in turn. -/
def olds : List ByteArray := [⟨#[34]⟩, ⟨#[92, 34]⟩, ⟨#[92]⟩, ⟨#[92, 92]⟩, ⟨#[10]⟩, ⟨#[92, 110]⟩]
/-- They lie so, in a row of the call's own. -/
structure OldsAt (w : World) (G : Nat) : Prop where
  h0 : w.cell? ⟨G, 0, none⟩ = some (.string ⟨#[34]⟩)
  h1 : w.cell? ⟨G, 1, none⟩ = some (.string ⟨#[92, 34]⟩)
  h2 : w.cell? ⟨G, 2, none⟩ = some (.string ⟨#[92]⟩)
  h3 : w.cell? ⟨G, 3, none⟩ = some (.string ⟨#[92, 92]⟩)
  h4 : w.cell? ⟨G, 4, none⟩ = some (.string ⟨#[10]⟩)
  h5 : w.cell? ⟨G, 5, none⟩ = some (.string ⟨#[92, 110]⟩)
theorem OldsAt.below {w w' : World} {G : Nat} (h : OldsAt w G) (hb : Below w.heap.size w w') : OldsAt w' G :=
  ⟨pw_cell_below hb h.h0, pw_cell_below hb h.h1, pw_cell_below hb h.h2, pw_cell_below hb h.h3, pw_cell_below hb h.h4, pw_cell_below hb h.h5⟩
theorem info_strR : (Tryz.prog.info? 9).map (fun i => (i.zero, i.size, i.bytes)) = some (some (.string ⟨#[]⟩), 1, 16) := by kernel_rfl

/-- What stands for a byte, the first n rounds having been. -/
def escP (n k : Nat) : Option (Int × Int) := if k = 10 ∧ 1 ≤ n then some (92, 110) else if k = 92 ∧ 2 ≤ n then some (92, 92) else if k = 34 ∧ 3 ≤ n then some (92, 34) else none
def lst (n : Nat) : List ByteArray := ([⟨#[10]⟩, ⟨#[92]⟩, ⟨#[34]⟩] : List ByteArray).take n
/-- What a cell of the table holds. -/
def EntryP (W : World) (B Q : Nat) (x : Option (Int × Int)) (v : Value) : Prop := match x with
  | none => v = .slice none 0 0
  | some l => ∃ g c, v = .slice (some ⟨g, 0, none⟩) 2 c ∧ B ≤ g ∧ g ≠ Q ∧ (∃ cells fr, W.heap[g]? = some (.cells cells 5 fr)) ∧ W.cell? ⟨g, 0, none⟩ = some (.int .u8 l.1) ∧ W.cell? ⟨g, 1, none⟩ = some (.int .u8 l.2)
theorem EntryP.move {W W' : World} {B Q : Nat} {x : Option (Int × Int)} {v : Value} (h : EntryP W B Q x v) (hm : ∀ k cells fr, B ≤ k → k ≠ Q → W.heap[k]? = some (.cells cells 5 fr) → W'.heap[k]? = W.heap[k]?) : EntryP W' B Q x v := by
  cases x with
  | none => exact h
  | some l =>
    obtain ⟨g, c, rfl, h1, h2, ⟨cells, fr, h3⟩, h4, h5⟩ := h
    have e := hm g cells fr h1 h2 h3
    refine ⟨g, c, rfl, h1, h2, ⟨cells, fr, e.trans h3⟩, ?_, ?_⟩
    · rw [World.cell?_of_block e]; exact h4
    · rw [World.cell?_of_block e]; exact h5
/-- The table, the first n rounds having been. -/
structure TablP (n : Nat) (W : World) (B Q : Nat) (TL : Value) : Prop where
  lo : B ≤ Q
  cells : ∃ cur, W.heap[Q]? = some (.cells cur 105 (0, 0)) ∧ cur.size = 257 ∧ cur[256]? = some TL ∧ ∀ k, k < 256 → ∃ v, cur[k]? = some v ∧ EntryP W B Q (escP n k) v
  row : Kd.R Kd.string 9 W B (fun b => b ≠ Q) TL (lst n)
section
variable {n : Nat} {W W' : World} {B Q : Nat} {TL : Value}
theorem TablP.lt (h : TablP n W B Q TL) : Q < W.heap.size := by
  obtain ⟨cur, h1, _⟩ := h.cells
  exact blk_lt h1
theorem TablP.below (h : TablP n W B Q TL) (hb : Below W.heap.size W W') : TablP n W' B Q TL := by
  refine ⟨h.lo, ?_, Kd.R_below h.row hb⟩
  obtain ⟨cur, h1, h2, h3, h4⟩ := h.cells
  refine ⟨cur, (hb.block Q (blk_lt h1)).trans h1, h2, h3, fun k hk => ?_⟩
  obtain ⟨v, h5, h6⟩ := h4 k hk
  exact ⟨v, h5, h6.move fun j _ _ _ _ hj => hb.block j (blk_lt hj)⟩
/-- What the walk reads of it. -/
theorem TablP.list (h : TablP n W B Q TL) : W.cell? ⟨Q, 256, none⟩ = some TL ∧ W.frozen? ⟨Q, 256, none⟩ = false := by
  obtain ⟨cur, h1, h2, h3, _⟩ := h.cells
  exact ⟨by simp [World.cell?, h1, h3], by simp [World.frozen?, h1]⟩
theorem TablP.entry (h : TablP n W B Q TL) (k : Nat) (hk : k < 256) : ∃ v, W.cell? ⟨Q, k, none⟩ = some v ∧ W.frozen? ⟨Q, k, none⟩ = false ∧ EntryP W B Q (escP n k) v := by
  obtain ⟨cur, h1, h2, _, h4⟩ := h.cells
  obtain ⟨v, h5, h6⟩ := h4 k hk
  exact ⟨v, by simp [World.cell?, h1, h5], by simp [World.frozen?, h1], h6⟩
end
theorem one_byteR (x : Int) (w : World) : (convert 84 9 (.slice (some ⟨w.heap.size, 0, none⟩) 1 1)).run Tryz.prog (w.alloc (.cells #[.int .u8 x] 5)) = .ok (.string (strOfNums [x])) (w.alloc (.cells #[.int .u8 x] 5)) :=
  run_convert_bytes_arg _ _ _ Tryz.underlying84 Tryz.underlying5 w.heap.size 0 1 1 [x] rfl (fun i hi => by
    obtain rfl : i = 0 := by omega
    exact (World.cell?_alloc_new w _ _ 0).trans rfl) _ Tryz.underlying9
theorem heap_set {w : World} {g : Nat} {cells : Array Value} {e : TypeId} {fr : Nat × Nat} (h : w.heap[g]? = some (.cells cells e fr)) (j : Nat) (u : Value) :
    (w.setCell ⟨g, j, none⟩ u).heap[g]? = some (.cells (cells.setIfInBounds j u) e fr) := by
  simp only [World.setCell, Array.getElem?_modify, if_pos, h, Option.map_some]
  simp
theorem heap_set_ne (w : World) {g k : Nat} (hk : k ≠ g) (j : Nat) (u : Value) : (w.setCell ⟨g, j, none⟩ u).heap[k]? = w.heap[k]? := Below.heap_setCell _ _ _ _ hk
/-- A round of the table's making. -/
theorem tabl_step {n kb c : Nat} {a b : Int} {s : ByteArray} {W w2 : World} {B Q : Nat} {TL v1 : Value} (h : TablP n W B Q TL) (hown : Kd.R Kd.string 9 w2 B (fun b => b ≠ Q) v1 (lst (n + 1))) (hg : W.grownBy w2 TL.ownBlock)
    (hkb : kb < 256) (hn : ∀ k, escP (n + 1) k = if k = kb then some (a, b) else escP n k) (hs : s.size = 2) (h0 : ((s.data.toList.getD 0 0).toNat : Int) = a) (h1 : ((s.data.toList.getD 1 0).toNat : Int) = b) :
    TablP (n + 1) ((Lib.bytesWorld (w2.setCell ⟨Q, 256, none⟩ v1) 5 s).setCell ⟨Q, kb, none⟩ (.slice (some ⟨w2.heap.size, 0, none⟩) 2 c)) B Q v1 := by
  obtain ⟨cur, c1, c2, c3, c4⟩ := h.cells
  have hQ : Q < W.heap.size := blk_lt c1
  have hQ2 : some Q ≠ TL.ownBlock := fun e => h.row.1 Q e.symm rfl
  have d1 : w2.heap[Q]? = some (.cells cur 105 (0, 0)) := (hg.block Q hQ hQ2).trans c1
  have z1 : (w2.setCell ⟨Q, 256, none⟩ v1).heap.size = w2.heap.size := by simp [World.setCell]
  have hQw : Q < w2.heap.size := blk_lt d1
  have d2 := heap_set d1 256 v1
  have d3 : (Lib.bytesWorld (w2.setCell ⟨Q, 256, none⟩ v1) 5 s).heap[Q]? = _ := (Lib.bytesWorld_at_old _ 5 s Q (by rw [z1]; exact hQw)).trans d2
  have d4 := heap_set d3 kb (.slice (some ⟨w2.heap.size, 0, none⟩) 2 c)
  refine ⟨h.lo, ⟨_, d4, by simp [c2], ?_, ?_⟩, ?_⟩
  · rw [Array.getElem?_setIfInBounds_ne (by omega), Array.getElem?_setIfInBounds_self, if_pos (by omega)]
  · intro k hk
    by_cases hkk : k = kb
    · subst hkk
      refine ⟨_, Array.getElem?_setIfInBounds_self_of_lt (by simp; omega), ?_⟩
      rw [hn, if_pos rfl]
      have nb := Lib.bytesWorld_at_new (w2.setCell ⟨Q, 256, none⟩ v1) 5 s
      have nc := Lib.bytesWorld_cell (w2.setCell ⟨Q, 256, none⟩ v1) 5 s
      rw [z1] at nb nc
      have ne : w2.heap.size ≠ Q := by omega
      have hbk := heap_set_ne (Lib.bytesWorld (w2.setCell ⟨Q, 256, none⟩ v1) 5 s) ne k (.slice (some ⟨w2.heap.size, 0, none⟩) 2 c)
      refine ⟨w2.heap.size, c, rfl, ?_, ne, ⟨_, _, hbk.trans nb⟩, ?_, ?_⟩
      · have := h.lo; omega
      · rw [World.cell?_of_block (a := ⟨w2.heap.size, 0, none⟩) hbk, nc 0 (by omega), h0]
      · rw [World.cell?_of_block (a := ⟨w2.heap.size, 1, none⟩) hbk, nc 1 (by omega), h1]
    · obtain ⟨v, e1, e2⟩ := c4 k hk
      refine ⟨v, ?_, ?_⟩
      · rw [Array.getElem?_setIfInBounds_ne (fun e => hkk e.symm), Array.getElem?_setIfInBounds_ne (by omega)]
        exact e1
      · rw [hn, if_neg hkk]
        refine e2.move fun g cells fr hB hgQ hgh => ?_
        rw [heap_set_ne _ hgQ, Lib.bytesWorld_at_old _ _ _ _ (by rw [z1]; exact Nat.lt_of_lt_of_le (blk_lt hgh) hg.size), heap_set_ne _ hgQ]
        refine hg.block g (blk_lt hgh) (fun e => ?_)
        obtain ⟨cells', ht⟩ := Kd.R_typed h.row g e.symm
        rw [hgh] at ht
        cases ht
  · have r1 := Kd.R_far (p := ⟨Q, 256, none⟩) hown (fun k hk => hk) v1
    have r2 := Kd.R_below r1 (bytes_below (Below.refl _ _) (Nat.le_refl _) 5 s)
    exact Kd.R_far (p := ⟨Q, kb, none⟩) r2 (fun k hk => hk) _
/-- What the walk reads in a round. -/
theorem step_facts {n kb : Nat} {W w2 : World} {B Q : Nat} {TL : Value} (h : TablP n W B Q TL) (hg : W.grownBy w2 TL.ownBlock) (hkb : kb < 256) (hn : escP n kb = none) (v1 : Value) (s : ByteArray) :
    (w2.cell? ⟨Q, 256, none⟩ = some TL ∧ w2.frozen? ⟨Q, 256, none⟩ = false) ∧
    (Lib.bytesWorld (w2.setCell ⟨Q, 256, none⟩ v1) 5 s).cell? ⟨Q, kb, none⟩ = some (.slice none 0 0) ∧ (Lib.bytesWorld (w2.setCell ⟨Q, 256, none⟩ v1) 5 s).frozen? ⟨Q, kb, none⟩ = false := by
  obtain ⟨cur, c1, c2, c3, c4⟩ := h.cells
  obtain ⟨v, c5, c6⟩ := c4 kb hkb
  rw [hn] at c6
  obtain rfl : v = .slice none 0 0 := c6
  have hQ : Q < W.heap.size := blk_lt c1
  have hQ2 : some Q ≠ TL.ownBlock := fun e => h.row.1 Q e.symm rfl
  have d1 : w2.heap[Q]? = some (.cells cur 105 (0, 0)) := (hg.block Q hQ hQ2).trans c1
  have z1 : (w2.setCell ⟨Q, 256, none⟩ v1).heap.size = w2.heap.size := by simp [World.setCell]
  have d2 := heap_set d1 256 v1
  have d3 : (Lib.bytesWorld (w2.setCell ⟨Q, 256, none⟩ v1) 5 s).heap[Q]? = _ := (Lib.bytesWorld_at_old _ 5 s Q (by rw [z1]; exact blk_lt d1)).trans d2
  refine ⟨⟨?_, ?_⟩, ?_, ?_⟩
  · simp [World.cell?, d1, c3]
  · simp [World.frozen?, d1]
  · have : (cur.setIfInBounds 256 v1)[kb]? = some (.slice none 0 0) := by rw [Array.getElem?_setIfInBounds_ne (by omega)]; exact c5
    simp only [World.cell?, d3]
    simpa using this
  · simp [World.frozen?, d3]
theorem escP_1 (k : Nat) : escP (0 + 1) k = if k = 10 then some (92, 110) else escP 0 k := by
  unfold escP
  by_cases h : k = 10 <;> simp [h]
theorem escP_2 (k : Nat) : escP (1 + 1) k = if k = 92 then some (92, 92) else escP 1 k := by
  unfold escP
  by_cases h : k = 92
  · subst h; simp
  · by_cases h2 : k = 10 <;> simp [h, h2]
theorem escP_3 (k : Nat) : escP (2 + 1) k = if k = 34 then some (92, 34) else escP 2 k := by
  unfold escP
  by_cases h : k = 34
  · subst h; simp
  · by_cases h2 : k = 10 <;> by_cases h3 : k = 92 <;> simp [h, h2, h3]
theorem heap_new (w : World) (o : Obj) : (w.alloc o).heap[w.heap.size]? = some o := by
  show (w.heap.push o)[w.heap.size]? = some o
  simp
theorem all_set (n i : Nat) (v : Value) (hv : v.oneCell' = true) : ((Array.replicate n (Value.slice none 0 0)).setIfInBounds i v).all (·.oneCell') = true := by
  rw [Array.all_eq_true]
  intro k hk
  rw [Array.getElem_setIfInBounds]
  split
  · exact hv
  · rw [Array.getElem_replicate]; rfl
  · simpa using hk
theorem zero_tbl : Tryz.zeroCells105 = Array.replicate 257 (.slice none 0 0) := by kernel_rfl
theorem tabl_start {w w1 : World} (hown : w1.ownsRow w.heap.size 9 1 (.slice (some ⟨w.heap.size, 0, none⟩) 0 3) 0 []) (hgr : w.grownBy w1 none) :
    TablP 0 ((w1.alloc (.cells Tryz.zeroCells105 105)).setRow w1.heap.size (Tryz.zeroCells105.setIfInBounds 256 (.slice (some ⟨w.heap.size, 0, none⟩) 0 3))) w.heap.size w1.heap.size (.slice (some ⟨w.heap.size, 0, none⟩) 0 3) := by
  have hR : Kd.R Kd.string 9 w1 w.heap.size (fun _ => True) (.slice (some ⟨w.heap.size, 0, none⟩) 0 3) [] := Kd.R_of_own (enc := Value.string) (h1 := fun _ => rfl) hown (fun _ _ => trivial)
  have hlt := Kd.R_lt hR w.heap.size rfl
  have hg : (w1.alloc (.cells Tryz.zeroCells105 105)).heap[w1.heap.size]? = some (.cells Tryz.zeroCells105 105 (0, 0)) := heap_new _ _
  refine ⟨hgr.size, ⟨_, setRow_heap _ _ _ _ _ _ hg, ?_, ?_, ?_⟩, ?_⟩
  · rw [zero_tbl]; simp
  · rw [zero_tbl]; simp
  · intro k hk
    refine ⟨.slice none 0 0, ?_, ?_⟩
    · rw [zero_tbl, Array.getElem?_setIfInBounds_ne (by omega), Array.getElem?_replicate, if_pos (by omega)]
    · simp [EntryP, escP]
  · have h2 := Kd.R_step (ok := fun b => b = w.heap.size) (w1 := ((w1.alloc (.cells Tryz.zeroCells105 105)).setRow w1.heap.size (Tryz.zeroCells105.setIfInBounds 256 (.slice (some ⟨w.heap.size, 0, none⟩) 0 3)))) (Kd.R_mono (Kd.R_tight rfl hR) (fun k hk => by injection hk)) (fun k hk hl => by rw [setRow_other _ _ _ _ (by omega), Below.heap_alloc _ _ _ hl])
    exact Kd.R_mono h2 (fun k hk => by omega)
def BuildPost (w : World) (e : Ending) (w' : World) : Prop :=
  ∃ Q TL, e = .returned (.iface 106 (.pointer (some ⟨Q, 0, none⟩))) ∧ TablP 3 w' w.heap.size Q TL ∧ Below w.heap.size w w'
set_option maxHeartbeats 2000000 in
set_option maxRecDepth 100000 in
theorem build_calls (N G : Nat) (c : Nat) (w : World) (h4 : w.cell? ⟨N, 4, none⟩ = some (.slice (some ⟨G, 0, none⟩) 6 c)) (ho : OldsAt w G) :
    Calls Tryz.prog 61 #[.pointer (some ⟨N, 0, none⟩)] w (BuildPost w) := by
  obtain ⟨c0, c1, c2, c3, c4, c5⟩ := ho
  obtain ⟨si, si1, si2, si3, si4⟩ := info_parts info_strR
  go_enter Tryz.func61, Tryz.ntmps61
  go_wp2
  go_loop [4, 5] (fun bv iv => ∃ n : Nat, n ≤ 3 ∧ iv = .int .i64 (2 * n : Nat) ∧ bv = .bool (n == 0)) (fun _ i => 6 - (intOf i).toNat)
  case atStart => exact ⟨0, by omega, rfl, rfl⟩
  case round =>
    obtain ⟨n, hn, rfl, rfl⟩ := hrel
    obtain rfl | rfl | rfl | rfl : n = 0 ∨ n = 1 ∨ n = 2 ∨ n = 3 := by omega
    · go_wp2
      go_round
      case rel => exact ⟨1, by omega, rfl, rfl⟩
      case measure => decide
    · go_wp2
      go_round
      case rel => exact ⟨2, by omega, rfl, rfl⟩
      case measure => decide
    · go_wp2
      go_round
      case rel => exact ⟨3, by omega, rfl, rfl⟩
      case measure => decide
    · go_wp2_with (first | (at_make; refine wpList_make_own _ rfl _ _ 40 rfl w.heap.size 9 si _ 1 Tryz.underlying40 si1 si2 si3 .i64 .i64 3 3 rfl rfl rfl (by rw [si4]; decide) (by decide) (Nat.le_refl _) ?_; intro w1 hown hgr) | ((with_reducible refine gate_store (t := 105) (p := 11) (v := .tmp 95) rfl ?_); (refine wpList_store_row rfl _ _ _ rfl w1.heap.size ?zcs ?zx ?zy 105 ?zold ?zg ?zi ?zo ?zh ?_)))
      case zold => exact Tryz.zeroCells105
      case zy => rfl
      case zg => exact heap_new _ _
      case zi => rw [zero_tbl, Array.size_setIfInBounds, Array.size_replicate]; kernel_rfl
      case zo => rw [zero_tbl]; simp
      case zh => rw [zero_tbl]; exact all_set _ _ _ rfl
      have HT := Lib.hid (tabl_start hown hgr)
      have hB : Below w.heap.size w w1 := (Below.refl _ _).grown hgr (Nat.le_refl _) (fun k hk => by cases hk)
      have HB := Lib.hid (below_setRow (hB.alloc hgr.size (.cells Tryz.zeroCells105 105)) hgr.size (Tryz.zeroCells105.setIfInBounds 256 (.slice (some ⟨w.heap.size, 0, none⟩) 0 3)))
      clear hB
      generalize hW : ((w1.alloc (.cells Tryz.zeroCells105 105)).setRow w1.heap.size (Tryz.zeroCells105.setIfInBounds 256 (.slice (some ⟨w.heap.size, 0, none⟩) 0 3))) = W0 at HT HB ⊢
      clear hW hown hgr
      generalize hQ : w1.heap.size = Q at HT ⊢
      clear hQ
      have HT' : Hid (∃ TL, TablP 0 W0 w.heap.size Q TL) := ⟨_, HT.out⟩
      clear HT
      go_loopw [12] (fun iv wr => ∃ n : Nat, n ≤ 3 ∧ iv = .int .i64 (4 - 2 * n : Int) ∧ Aside0 (∃ TL, TablP n wr w.heap.size Q TL) ∧ Aside0 (Below w.heap.size w wr)) (fun i _ => (intOf i + 2).toNat)
      case atStart => exact ⟨0, by omega, rfl, ⟨HT'.out⟩, ⟨HB.out⟩⟩
      case round =>
        obtain ⟨n, hn, rfl, HT, HW⟩ := hrel
        obtain rfl | rfl | rfl | rfl : n = 0 ∨ n = 1 ∨ n = 2 ∨ n = 3 := by omega
        · have k4 := pw_cell_below HW.out c4
          have k5 := pw_cell_below HW.out c5
          obtain ⟨TL, hT⟩ := HT.out
          have HTT := Lib.hid hT
          obtain ⟨v, e1, e2, e3⟩ := hT.entry 10 (by omega)
          obtain rfl : v = .slice none 0 0 := e3
          obtain ⟨l1, l2⟩ := hT.list
          clear e2 l2 hT
          have hnil := fun W => run_eql_nil_slice (P := Tryz.prog) W 84 5 none 0 0 0 0 Tryz.underlying84
          have hx10 : ((⟨#[10]⟩ : ByteArray)[0]'(by decide)).toNat = 10 := rfl
          have hcv := one_byteR 10 wr
          rw [show strOfNums [10] = (⟨#[10]⟩ : ByteArray) from rfl] at hcv
          have kb := fun W => print_bytes (P := Tryz.prog) 9 84 5 Tryz.underlying9 Tryz.underlying84 Tryz.underlying5 ⟨#[92, 110]⟩ W
          go_wp2_with (first | (at_builtin; (refine Kd.R_append Kd.string (w0 := w) w.heap.size rfl (.tmp 119) (.tmp 123) 40 9 (.string ⟨#[]⟩) 16 rfl Tryz.underlying40 info_strR rfl (by decide) (by omega) TL (lst 0) ⟨#[10]⟩ [.string ⟨#[10]⟩] (fun b => b ≠ Q) (fun _ => False) rfl (by rw [show (wr.alloc (.cells #[.int .u8 10] 5)).heap.size = wr.heap.size + 1 by simp]; rfl) ?aP (fun _ hk => hk.elim) ?aF ?aO ?aB ?aS ?aL ?_); (case aP => exact rfl); (case aF => exact (fun k hk => by have := HTT.out.lt; simp at hk; omega)); (case aO => exact (HTT.out.below ((Below.refl _ _).alloc (Nat.le_refl _) _)).row); (case aB => exact HW.out.alloc HW.out.size _); (case aS => have := HW.out.size; simp; omega); (case aL => decide); intro v1 w2 ho hbb hg hat; obtain ⟨A1, k1, hv1⟩ := Kd.R_slice ho; simp only [lst] at hv1; subst hv1; (obtain ⟨⟨l3, l4⟩, l5, l6⟩ := step_facts (kb := 10) (HTT.out.below ((Below.refl _ _).alloc (Nat.le_refl _) _)) hg (by omega) rfl (.slice A1 1 k1) ⟨#[92, 110]⟩); have HO := Lib.hid ho; have HBB := Lib.hid hbb; have HGG := Lib.hid hg; clear ho hbb hg hat))
          go_roundw
          case rel =>
            refine ⟨1, by omega, rfl, ⟨_, tabl_step (HTT.out.below ((Below.refl _ _).alloc (Nat.le_refl _) _)) HO.out HGG.out (by omega) escP_1 rfl rfl rfl⟩, ⟨?_⟩⟩
            exact (bytes_below (HBB.out.setCell (p := ⟨Q, 256, none⟩) HTT.out.lo _) (by simp only [World.size_setCell]; exact HBB.out.size) _ _).setCell (p := ⟨Q, 10, none⟩) HTT.out.lo _
          case measure => decide
        · have k4 := pw_cell_below HW.out c2
          have k5 := pw_cell_below HW.out c3
          obtain ⟨TL, hT⟩ := HT.out
          have HTT := Lib.hid hT
          obtain ⟨v, e1, e2, e3⟩ := hT.entry 92 (by omega)
          obtain rfl : v = .slice none 0 0 := e3
          obtain ⟨l1, l2⟩ := hT.list
          clear e2 l2 hT
          have hnil := fun W => run_eql_nil_slice (P := Tryz.prog) W 84 5 none 0 0 0 0 Tryz.underlying84
          have hx10 : ((⟨#[92]⟩ : ByteArray)[0]'(by decide)).toNat = 92 := rfl
          have hcv := one_byteR 92 wr
          rw [show strOfNums [92] = (⟨#[92]⟩ : ByteArray) from rfl] at hcv
          have kb := fun W => print_bytes (P := Tryz.prog) 9 84 5 Tryz.underlying9 Tryz.underlying84 Tryz.underlying5 ⟨#[92, 92]⟩ W
          go_wp2_with (first | (at_builtin; (refine Kd.R_append Kd.string (w0 := w) w.heap.size rfl (.tmp 119) (.tmp 123) 40 9 (.string ⟨#[]⟩) 16 rfl Tryz.underlying40 info_strR rfl (by decide) (by omega) TL (lst 1) ⟨#[92]⟩ [.string ⟨#[92]⟩] (fun b => b ≠ Q) (fun _ => False) rfl (by rw [show (wr.alloc (.cells #[.int .u8 92] 5)).heap.size = wr.heap.size + 1 by simp]; rfl) ?aP (fun _ hk => hk.elim) ?aF ?aO ?aB ?aS ?aL ?_); (case aP => exact rfl); (case aF => exact (fun k hk => by have := HTT.out.lt; simp at hk; omega)); (case aO => exact (HTT.out.below ((Below.refl _ _).alloc (Nat.le_refl _) _)).row); (case aB => exact HW.out.alloc HW.out.size _); (case aS => have := HW.out.size; simp; omega); (case aL => decide); intro v1 w2 ho hbb hg hat; obtain ⟨A1, k1, hv1⟩ := Kd.R_slice ho; simp only [lst] at hv1; subst hv1; (obtain ⟨⟨l3, l4⟩, l5, l6⟩ := step_facts (kb := 92) (HTT.out.below ((Below.refl _ _).alloc (Nat.le_refl _) _)) hg (by omega) rfl (.slice A1 2 k1) ⟨#[92, 92]⟩); have HO := Lib.hid ho; have HBB := Lib.hid hbb; have HGG := Lib.hid hg; clear ho hbb hg hat))
          go_roundw
          case rel =>
            refine ⟨2, by omega, rfl, ⟨_, tabl_step (HTT.out.below ((Below.refl _ _).alloc (Nat.le_refl _) _)) HO.out HGG.out (by omega) escP_2 rfl rfl rfl⟩, ⟨?_⟩⟩
            exact (bytes_below (HBB.out.setCell (p := ⟨Q, 256, none⟩) HTT.out.lo _) (by simp only [World.size_setCell]; exact HBB.out.size) _ _).setCell (p := ⟨Q, 92, none⟩) HTT.out.lo _
          case measure => decide
        · have k4 := pw_cell_below HW.out c0
          have k5 := pw_cell_below HW.out c1
          obtain ⟨TL, hT⟩ := HT.out
          have HTT := Lib.hid hT
          obtain ⟨v, e1, e2, e3⟩ := hT.entry 34 (by omega)
          obtain rfl : v = .slice none 0 0 := e3
          obtain ⟨l1, l2⟩ := hT.list
          clear e2 l2 hT
          have hnil := fun W => run_eql_nil_slice (P := Tryz.prog) W 84 5 none 0 0 0 0 Tryz.underlying84
          have hx10 : ((⟨#[34]⟩ : ByteArray)[0]'(by decide)).toNat = 34 := rfl
          have hcv := one_byteR 34 wr
          rw [show strOfNums [34] = (⟨#[34]⟩ : ByteArray) from rfl] at hcv
          have kb := fun W => print_bytes (P := Tryz.prog) 9 84 5 Tryz.underlying9 Tryz.underlying84 Tryz.underlying5 ⟨#[92, 34]⟩ W
          go_wp2_with (first | (at_builtin; (refine Kd.R_append Kd.string (w0 := w) w.heap.size rfl (.tmp 119) (.tmp 123) 40 9 (.string ⟨#[]⟩) 16 rfl Tryz.underlying40 info_strR rfl (by decide) (by omega) TL (lst 2) ⟨#[34]⟩ [.string ⟨#[34]⟩] (fun b => b ≠ Q) (fun _ => False) rfl (by rw [show (wr.alloc (.cells #[.int .u8 34] 5)).heap.size = wr.heap.size + 1 by simp]; rfl) ?aP (fun _ hk => hk.elim) ?aF ?aO ?aB ?aS ?aL ?_); (case aP => exact rfl); (case aF => exact (fun k hk => by have := HTT.out.lt; simp at hk; omega)); (case aO => exact (HTT.out.below ((Below.refl _ _).alloc (Nat.le_refl _) _)).row); (case aB => exact HW.out.alloc HW.out.size _); (case aS => have := HW.out.size; simp; omega); (case aL => decide); intro v1 w2 ho hbb hg hat; obtain ⟨A1, k1, hv1⟩ := Kd.R_slice ho; simp only [lst] at hv1; subst hv1; (obtain ⟨⟨l3, l4⟩, l5, l6⟩ := step_facts (kb := 34) (HTT.out.below ((Below.refl _ _).alloc (Nat.le_refl _) _)) hg (by omega) rfl (.slice A1 3 k1) ⟨#[92, 34]⟩); have HO := Lib.hid ho; have HBB := Lib.hid hbb; have HGG := Lib.hid hg; clear ho hbb hg hat))
          go_roundw
          case rel =>
            refine ⟨3, by omega, rfl, ⟨_, tabl_step (HTT.out.below ((Below.refl _ _).alloc (Nat.le_refl _) _)) HO.out HGG.out (by omega) escP_3 rfl rfl rfl⟩, ⟨?_⟩⟩
            exact (bytes_below (HBB.out.setCell (p := ⟨Q, 256, none⟩) HTT.out.lo _) (by simp only [World.size_setCell]; exact HBB.out.size) _ _).setCell (p := ⟨Q, 34, none⟩) HTT.out.lo _
          case measure => decide
        · obtain ⟨TL, hT⟩ := HT.out
          have HTT := Lib.hid hT; clear hT
          go_wp2
          go_ret
          exact ⟨Q, TL, rfl, HTT.out, HW.out⟩

/-! ### buildOnce, Once.Do -/
theorem cell_lt {w : World} {a : Addr} {v : Value} (h : w.cell? a = some v) : a.block < w.heap.size := by
  rcases Nat.lt_or_ge a.block w.heap.size with h1 | h1
  · exact h1
  · rw [World.cell?, Array.getElem?_eq_none h1] at h
    simp at h
def OncePost (N : Nat) (w : World) (e : Ending) (w' : World) : Prop :=
  ∃ w2 Q TL, e = .returned (.tuple #[]) ∧ w' = (w2.setCell ⟨N, 3, none⟩ (.iface 106 (.pointer (some ⟨Q, 0, none⟩)))).setCell ⟨N, 4, none⟩ (.slice none 0 0) ∧ TablP 3 w2 w.heap.size Q TL ∧ Below w.heap.size w w2
set_option maxHeartbeats 2000000 in
set_option maxRecDepth 100000 in
theorem buildOnce_calls (N G : Nat) (c : Nat) (x3 : Value) (w : World) (h3 : w.cell? ⟨N, 3, none⟩ = some x3) (h4 : w.cell? ⟨N, 4, none⟩ = some (.slice (some ⟨G, 0, none⟩) 6 c)) (f3 : w.frozen? ⟨N, 3, none⟩ = false) (f4 : w.frozen? ⟨N, 4, none⟩ = false) (ho : OldsAt w G) :
    Calls Tryz.prog 39 #[.pointer (some ⟨N, 0, none⟩)] w (OncePost N w) := by
  have HO := Lib.hid ho; clear ho
  go_enter Tryz.func39, Tryz.ntmps39
  go_wp2_with fail
  refine (build_calls N G c w h4 HO.out).mono ?_
  rintro e w1 ⟨Q, TL, rfl, hT, hb⟩
  have HT := Lib.hid hT; clear hT
  have hN : N < w.heap.size := cell_lt h3
  have g3 := pw_cell_below hb h3
  have g4 := pw_cell_below hb h4
  have k3 : w1.frozen? ⟨N, 3, none⟩ = false := (World.frozen?_of_block (a := ⟨N, 3, none⟩) (hb.block N hN)).trans f3
  have k4 : w1.frozen? ⟨N, 4, none⟩ = false := (World.frozen?_of_block (a := ⟨N, 4, none⟩) (hb.block N hN)).trans f4
  have HB := Lib.hid hb; clear hb
  go_wp2
  go_end0
  exact ⟨w1, Q, TL, rfl, rfl, HT.out, HB.out⟩
end Go.Proofs.YtikbddiogneheaaGreatDoor

/- The library's Once, once: doSlow, Do; and the replacer's Replace as far as the table. -/
namespace Go.Proofs.YtikbddiogneheaaGreatDoor
open Go.RowKit Go.Gw Go.Proofs.YtikbddiogneheaaGreatDoorW.PrintWords
set_option linter.unusedVariables false
set_option linter.unusedSimpArgs false

theorem TablP.far {n : Nat} {W : World} {B Q N j : Nat} {TL u : Value} (h : TablP n W B Q TL) (hN : N < B) : TablP n (W.setCell ⟨N, j, none⟩ u) B Q TL := by
  obtain ⟨cur, h1, h2, h3, h4⟩ := h.cells
  have hlo := h.lo
  refine ⟨h.lo, ⟨cur, (heap_set_ne W (show Q ≠ N by omega) j u).trans h1, h2, h3, fun k hk => ?_⟩, ?_⟩
  · obtain ⟨v, h5, h6⟩ := h4 k hk
    exact ⟨v, h5, h6.move fun g _ _ hB _ _ => heap_set_ne W (show g ≠ N by omega) j u⟩
  · exact Kd.R_mono (Kd.R_far (p := ⟨N, j, none⟩) (Kd.R_bound h.row) (fun k hk => by have := hk.2.1; show k ≠ N; omega) u) (fun k hk => hk.1)
/-- What the Once's block holds, not yet done, the lock free. -/
structure Fresh (w : World) (N G c : Nat) : Prop where
  c0 : w.cell? ⟨N, 0, none⟩ = some (.int .u32 0)
  c1 : w.cell? ⟨N, 1, none⟩ = some (.int .i32 0)
  c3 : ∃ x3, w.cell? ⟨N, 3, none⟩ = some x3
  c4 : w.cell? ⟨N, 4, none⟩ = some (.slice (some ⟨G, 0, none⟩) 6 c)
  fz : ∀ j, w.frozen? ⟨N, j, none⟩ = false
  ne : G ≠ N
def DoPost (N : Nat) (w : World) (e : Ending) (w' : World) : Prop :=
  ∃ Q TL, e = .returned (.tuple #[]) ∧ w'.cell? ⟨N, 3, none⟩ = some (.iface 106 (.pointer (some ⟨Q, 0, none⟩))) ∧ TablP 3 w' w.heap.size Q TL ∧ Below N w w'
theorem OldsAt.far {w : World} {G N j : Nat} {u : Value} (h : OldsAt w G) (hN : G ≠ N) : OldsAt (w.setCell ⟨N, j, none⟩ u) G := by
  have e : (w.setCell ⟨N, j, none⟩ u).heap[G]? = w.heap[G]? := heap_set_ne w hN j u
  have m : ∀ k, (w.setCell ⟨N, j, none⟩ u).cell? ⟨G, k, none⟩ = w.cell? ⟨G, k, none⟩ := fun k => World.cell?_of_block (a := ⟨G, k, none⟩) e
  exact ⟨(m _).trans h.h0, (m _).trans h.h1, (m _).trans h.h2, (m _).trans h.h3, (m _).trans h.h4, (m _).trans h.h5⟩

set_option maxHeartbeats 1000000 in
set_option maxRecDepth 100000 in
theorem load_zero (a : Addr) (w : World) (h : w.cell? a = some (.int .u32 0)) :
    Calls Tryz.prog 59 #[.pointer (some a)] w fun e w' => e = .returned (.bool false) ∧ w' = w := by
  have hl := run_call_load (P := Tryz.prog) Tryz.func70 (by kernel_rfl) (by kernel_rfl) (by kernel_rfl) .u32 (by kernel_rfl) h
  go_enter Tryz.func59, Tryz.ntmps59
  go_wp2
  go_ret
  exact ⟨rfl, rfl⟩
set_option maxHeartbeats 2000000 in
set_option maxRecDepth 100000 in
theorem slow_calls (N G c : Nat) (w : World) (hF : Fresh w N G c) (ho : OldsAt w G) :
    Calls Tryz.prog 60 #[.pointer (some ⟨N, 0, none⟩), .func (.func 39) #[.pointer (some ⟨N, 0, none⟩)] #[]] w (DoPost N w) := by
  obtain ⟨c0, c1, ⟨x3, c3⟩, c4, fz, ne⟩ := hF
  have hN : N < w.heap.size := cell_lt c0
  have HFZ := Lib.hid fz
  have f0 := fz 0
  have f1 := fz 1
  clear fz
  have o0 : (w.setCell ⟨N, 1, none⟩ (.int .i32 1)).cell? ⟨N, 0, none⟩ = some (.int .u32 0) := (World.cell?_setCell_other _ ⟨N, 1, none⟩ ⟨N, 0, none⟩ _ (by simp)).trans c0
  have o3 : (w.setCell ⟨N, 1, none⟩ (.int .i32 1)).cell? ⟨N, 3, none⟩ = some x3 := (World.cell?_setCell_other _ ⟨N, 1, none⟩ ⟨N, 3, none⟩ _ (by simp)).trans c3
  have o4 : (w.setCell ⟨N, 1, none⟩ (.int .i32 1)).cell? ⟨N, 4, none⟩ = _ := (World.cell?_setCell_other _ ⟨N, 1, none⟩ ⟨N, 4, none⟩ _ (by simp)).trans c4
  have hnot : ∀ (x : Bool) (w : World), (Op.unary .not (.bool x)).run Tryz.prog w = .ok (.bool (!x)) w := fun _ _ => rfl
  have HO := Lib.hid (ho.far (j := 1) (u := .int .i32 1) ne); clear ho
  go_enter_defers Tryz.func60, Tryz.ntmps60
  go_wp2_with (go_at_call 71; refine (lock_free ⟨N, 1, none⟩ _ (by go_simp) (by go_simp)).mono ?_; rintro e w' ⟨rfl, rfl⟩)
  refine (load_zero ⟨N, 0, none⟩ _ o0).mono ?_
  rintro e w1 ⟨rfl, rfl⟩
  have f3 := HFZ.out 3
  have f4 := HFZ.out 4
  go_wp2_with fail
  refine (buildOnce_calls N G c x3 _ o3 o4 (by go_simp) (by go_simp) HO.out).mono ?_
  rintro e w2' ⟨w2, Q, TL, rfl, hw, hT, hb⟩
  have hs : (w.setCell ⟨N, 1, none⟩ (.int .i32 1)).heap.size = w.heap.size := by simp [World.setCell]
  rw [hs] at hT hb
  have hq : ∀ j v, j ≠ 3 → j ≠ 4 → (w.setCell ⟨N, 1, none⟩ (.int .i32 1)).cell? ⟨N, j, none⟩ = some v → w2'.cell? ⟨N, j, none⟩ = some v := by
    intro j v h3 h4 h
    rw [hw, World.cell?_setCell_other _ _ _ _ (by simp [Ne.symm h4]), World.cell?_setCell_other _ _ _ _ (by simp [Ne.symm h3])]
    exact pw_cell_below (by rw [hs]; exact hb) h
  have d0 := hq 0 _ (by omega) (by omega) o0
  have d1 := hq 1 _ (by omega) (by omega) (World.cell?_setCell_same w ⟨N, 1, none⟩ (.int .i32 1) c1)
  have d3 : w2'.cell? ⟨N, 3, none⟩ = some (.iface 106 (.pointer (some ⟨Q, 0, none⟩))) := by
    rw [hw, World.cell?_setCell_other _ _ _ _ (by simp)]
    exact World.cell?_setCell_same w2 _ _ (pw_cell_below (by rw [hs]; exact hb) o3)
  have zf : ∀ j, w2'.frozen? ⟨N, j, none⟩ = false := by
    intro j
    rw [hw]
    simp only [World.frozen?_setCell]
    rw [World.frozen?_of_block (w := w.setCell ⟨N, 1, none⟩ (.int .i32 1)) (a := ⟨N, j, none⟩) (hb.block N hN)]
    simp only [World.frozen?_setCell]
    exact HFZ.out j
  have z0 := zf 0
  have z1 := zf 1
  have HT := Lib.hid (show TablP 3 w2' w.heap.size Q TL by rw [hw]; exact (hT.far hN).far hN)
  have HB := Lib.hid (show Below N w w2' by rw [hw]; exact ((((Below.refl N w).setCell (p := ⟨N, 1, none⟩) (Nat.le_refl _) _).trans (hb.mono (Nat.le_of_lt hN))).setCell (p := ⟨N, 3, none⟩) (Nat.le_refl _) _).setCell (p := ⟨N, 4, none⟩) (Nat.le_refl _) _)
  have HD3 := Lib.hid d3
  clear hw hT hb hq zf d3 hs
  go_wp2
  refine leaves_cons (f := 73) (args := #[.pointer (some ⟨N, 0, none⟩), .bool true]) (by simp) (by simp [go_sem]) ?_
  refine (store_deferred ⟨N, 0, none⟩ (.int .u32 0) .returning _ d0 z0).mono ?_
  rintro e u' w'' ⟨rfl, rfl, rfl⟩
  refine leaves_cons (f := 72) (args := #[.pointer (some ⟨N, 1, none⟩)]) (by simp [settle]) (by simp [go_sem]) ?_
  refine (unlock_deferred ⟨N, 1, none⟩ _ _ ?_ (by simp [z1])).mono ?_
  · refine (World.cell?_setCell_other _ ⟨N, 0, none⟩ ⟨N, 1, none⟩ _ (by simp)).trans ?_
    rw [World.cell?_drew]
    exact d1
  rintro e u' w'' ⟨rfl, rfl, rfl⟩
  simp [Leaves, settle, results, Tryz.results60]
  refine ⟨Q, TL, rfl, ?_, ?_, ?_⟩
  · rw [World.cell?_setCell_other _ _ _ _ (by simp), World.cell?_setCell_other _ _ _ _ (by simp)]
    exact HD3.out
  · exact ((HT.out.below (Below.drew (Below.refl _ _))).far hN).far hN
  · exact ((HB.out.drew).setCell (p := ⟨N, 0, none⟩) (Nat.le_refl _) _).setCell (p := ⟨N, 1, none⟩) (Nat.le_refl _) _
set_option maxHeartbeats 2000000 in
set_option maxRecDepth 100000 in
theorem do_calls (N G c : Nat) (w : World) (hF : Fresh w N G c) (ho : OldsAt w G) :
    Calls Tryz.prog 38 #[.pointer (some ⟨N, 0, none⟩), .func (.func 39) #[.pointer (some ⟨N, 0, none⟩)] #[]] w (DoPost N w) := by
  have HF := Lib.hid hF; clear hF
  have HO := Lib.hid ho; clear ho
  have hnot : ∀ (x : Bool) (w : World), (Op.unary .not (.bool x)).run Tryz.prog w = .ok (.bool (!x)) w := fun _ _ => rfl
  go_enter Tryz.func38, Tryz.ntmps38
  go_wp2_with fail
  refine (load_zero ⟨N, 0, none⟩ _ HF.out.c0).mono ?_
  rintro e w1 ⟨rfl, rfl⟩
  go_wp2_with fail
  refine (slow_calls N G c w1 HF.out HO.out).mono ?_
  rintro e w2 ⟨Q, TL, rfl, h1, h2, h3⟩
  have H1 := Lib.hid h1; have H2 := Lib.hid h2; have H3 := Lib.hid h3; clear h1 h2 h3
  go_wp2
  go_end0
  exact ⟨Q, TL, rfl, H1.out, H2.out, H3.out⟩
end Go.Proofs.YtikbddiogneheaaGreatDoor

/- Layer 9 (lex), in plain Lean: how a text is cut into tokens. No program. -/
namespace Go.Lx

def gapc (c : UInt8) : Bool := c == 32 || c == 9 || c == 10 || c == 13
def digitc (c : UInt8) : Bool := decide (48 ≤ c.toNat) && decide (c.toNat ≤ 57)
def letterc (c : UInt8) : Bool := (decide (97 ≤ c.toNat) && decide (c.toNat ≤ 122)) || (decide (65 ≤ c.toNat) && decide (c.toNat ≤ 90)) || c == 95
def wordc (c : UInt8) : Bool := letterc c || digitc c
def signs : List UInt8 := [61, 43, 40, 41, 91, 93, 123, 125, 44, 58, 59]
/-- What digits spell. -/
def spell (n : Nat) (l : List UInt8) : Nat := l.foldl (fun a c => 10 * a + (c.toNat - 48)) n
/-- What stands behind a backslash. -/
def esc (d : UInt8) : Option UInt8 := if d = 34 then some 34 else if d = 92 then some 92 else if d = 110 then some 10 else none
/-- What a text says, behind its first quotation mark, and how many bytes it has from there on. -/
def quoted : List UInt8 → Option (List UInt8 × Nat)
  | [] => none
  | c :: r =>
    if c = 34 then some ([], 1)
    else if c.toNat < 32 ∨ c = 127 then none
    else if c = 92 then
      match r with
      | [] => none
      | d :: r' => match esc d with
        | none => none
        | some x => match quoted r' with
          | none => none
          | some (t, n) => some (x :: t, n + 2)
    else match quoted r with
      | none => none
      | some (t, n) => some (c :: t, n + 1)

inductive Piece where
  | gap (n : Nat)
  | tok (kind : Nat) (text : List UInt8) (n : Nat)
  | bad (e : Nat)
deriving DecidableEq

def number (s : List UInt8) : Piece :=
  if 1 < (s.takeWhile digitc).length ∧ s.head? = some 48 then .bad 3
  else if 9223372036854775807 < spell 0 (s.takeWhile digitc) then .bad 2
  else .tok 2 (s.takeWhile digitc) (s.takeWhile digitc).length
def notLf (c : UInt8) : Bool := c != 10
/-- What a text begins with; a gap is one byte, or a remark. -/
def piece : List UInt8 → Piece
  | [] => .bad 3
  | c :: r =>
    if gapc c then .gap 1
    else if c = 35 then .gap ((c :: r).takeWhile notLf).length
    else if letterc c then .tok 1 ((c :: r).takeWhile wordc) ((c :: r).takeWhile wordc).length
    else if digitc c then number (c :: r)
    else if c = 34 then
      match quoted r with
      | none => .bad 3
      | some (t, n) => .tok 3 t (n + 1)
    else if r.head? = some 61 ∧ (c = 61 ∨ c = 33) then .tok 4 [c, 61] 2
    else if c ∈ signs then .tok 4 [c] 1
    else .bad 3

theorem piece_cons (c : UInt8) (r : List UInt8) : piece (c :: r) =
    if gapc c then .gap 1
    else if c = 35 then .gap ((c :: r).takeWhile notLf).length
    else if letterc c then .tok 1 ((c :: r).takeWhile wordc) ((c :: r).takeWhile wordc).length
    else if digitc c then number (c :: r)
    else if c = 34 then
      match quoted r with
      | none => .bad 3
      | some (t, n) => .tok 3 t (n + 1)
    else if r.head? = some 61 ∧ (c = 61 ∨ c = 33) then .tok 4 [c, 61] 2
    else if c ∈ signs then .tok 4 [c] 1
    else .bad 3 := rfl

/-- The place behind a byte. -/
def pass1 (p : Nat × Nat) (c : UInt8) : Nat × Nat := if c = 10 then (p.1 + 1, 1) else (p.1, p.2 + 1)
def pass (p : Nat × Nat) (l : List UInt8) : Nat × Nat := l.foldl pass1 p
structure Tok where
  kind : Nat
  text : List UInt8
  place : Nat × Nat
deriving DecidableEq

/-- How many bytes a piece has. -/
def Piece.size : Piece → Nat
  | .gap n => n
  | .tok _ _ n => n
  | .bad _ => 0

theorem takeWhile_pos {p : UInt8 → Bool} {c : UInt8} {r : List UInt8} (h : p c = true) : 1 ≤ ((c :: r).takeWhile p).length := by
  rw [List.takeWhile_cons_of_pos h]; simp
theorem quoted_le : ∀ (k : Nat) (s : List UInt8), s.length ≤ k → ∀ t n, quoted s = some (t, n) → 1 ≤ n ∧ n ≤ s.length := by
  intro k
  induction k with
  | zero =>
    intro s hs t n h
    have : s = [] := List.length_eq_zero_iff.1 (by omega)
    subst this
    simp [quoted] at h
  | succ k ih =>
    intro s hs t n h
    match s with
    | [] => simp [quoted] at h
    | c :: r =>
      simp only [List.length_cons] at hs ⊢
      unfold quoted at h
      split at h
      · cases h; omega
      · split at h
        · cases h
        · split at h
          · match r with
            | [] => simp at h
            | d :: r' =>
              simp only at h
              split at h
              · cases h
              · split at h
                · cases h
                · rename_i t' n' hq
                  cases h
                  simp only [List.length_cons] at hs ⊢
                  have := ih r' (by omega) _ _ hq
                  omega
          · split at h
            · cases h
            · rename_i t' n' hq
              cases h
              have := ih r (by omega) _ _ hq
              omega
theorem piece_size (s : List UInt8) (h : s ≠ []) : (piece s).size ≤ s.length ∧ ((∃ e, piece s = .bad e) ∨ 1 ≤ (piece s).size) := by
  match s with
  | [] => exact absurd rfl h
  | c :: r =>
    rw [piece_cons]
    have hw : ∀ p : UInt8 → Bool, ((c :: r).takeWhile p).length ≤ (c :: r).length := fun p => (List.takeWhile_sublist p).length_le
    by_cases h1 : gapc c = true
    · rw [if_pos h1]; simp [Piece.size]
    · rw [if_neg h1]
      by_cases h2 : c = 35
      · rw [if_pos h2]
        exact ⟨hw _, .inr (takeWhile_pos (by subst h2; rfl))⟩
      · rw [if_neg h2]
        by_cases h3 : letterc c = true
        · rw [if_pos h3]
          exact ⟨hw _, .inr (takeWhile_pos (by simp [wordc, h3]))⟩
        · rw [if_neg h3]
          by_cases h4 : digitc c = true
          · rw [if_pos h4]
            unfold number
            split
            · exact ⟨by simp [Piece.size], .inl ⟨_, rfl⟩⟩
            · split
              · exact ⟨by simp [Piece.size], .inl ⟨_, rfl⟩⟩
              · exact ⟨hw _, .inr (takeWhile_pos h4)⟩
          · rw [if_neg h4]
            by_cases h5 : c = 34
            · rw [if_pos h5]
              split
              · exact ⟨by simp [Piece.size], .inl ⟨_, rfl⟩⟩
              · rename_i t n hq
                have := quoted_le r.length r (by omega) t n hq
                simp only [Piece.size, List.length_cons]
                exact ⟨by omega, .inr (by omega)⟩
            · rw [if_neg h5]
              by_cases h6 : r.head? = some 61 ∧ (c = 61 ∨ c = 33)
              · rw [if_pos h6]
                have : r ≠ [] := by intro e; rw [e] at h6; simp at h6
                have := List.length_pos_iff.2 this
                simp only [Piece.size, List.length_cons]
                exact ⟨by omega, .inr (by omega)⟩
              · rw [if_neg h6]
                split
                · simp [Piece.size]
                · exact ⟨by simp [Piece.size], .inl ⟨_, rfl⟩⟩

/-- The tokens of a text that begins at a place, or the error's number and its place. -/
def allF : Nat → Nat × Nat → List UInt8 → (Nat × (Nat × Nat)) ⊕ List Tok
  | 0, _, _ => .inr []
  | k + 1, p, s =>
    if s = [] then .inr []
    else match piece s with
      | .bad e => .inl (e, p)
      | .gap n => allF k (pass p (s.take n)) (s.drop n)
      | .tok kd t n => match allF k (pass p (s.take n)) (s.drop n) with
        | .inl e => .inl e
        | .inr l => .inr (⟨kd, t, p⟩ :: l)
def all (p : Nat × Nat) (s : List UInt8) : (Nat × (Nat × Nat)) ⊕ List Tok := allF s.length p s

theorem allF_more : ∀ (k : Nat) (p : Nat × Nat) (s : List UInt8), s.length ≤ k → allF (k + 1) p s = allF k p s := by
  intro k
  induction k with
  | zero =>
    intro p s h
    have : s = [] := List.length_eq_zero_iff.1 (by omega)
    subst this
    simp [allF]
  | succ k ih =>
    intro p s h
    by_cases hs : s = []
    · subst hs; simp [allF]
    · have hp := piece_size s hs
      have hlen := List.length_pos_iff.2 hs
      rw [allF, allF]
      simp only [hs, if_false]
      cases hh : piece s with
      | bad e => rfl
      | gap n =>
        rw [hh] at hp
        simp only [Piece.size] at hp
        rcases hp.2 with ⟨e, he⟩ | h1
        · cases he
        · exact ih _ _ (by rw [List.length_drop]; omega)
      | tok kd t n =>
        rw [hh] at hp
        simp only [Piece.size] at hp
        rcases hp.2 with ⟨e, he⟩ | h1
        · cases he
        · simp only
          rw [ih _ _ (by rw [List.length_drop]; omega)]
theorem allF_at (p : Nat × Nat) (s : List UInt8) : ∀ k, s.length ≤ k → allF k p s = all p s := by
  intro k
  induction k with
  | zero =>
    intro h
    have : s.length = 0 := by omega
    unfold all
    rw [this]
  | succ k ih =>
    intro h
    by_cases hk : s.length ≤ k
    · rw [allF_more k p s hk, ih hk]
    · have : k + 1 = s.length := by omega
      rw [this]
      rfl
theorem all_nil (p : Nat × Nat) : all p [] = .inr [] := rfl
theorem all_step (p : Nat × Nat) (s : List UInt8) (hs : s ≠ []) : all p s = match piece s with
      | .bad e => .inl (e, p)
      | .gap n => all (pass p (s.take n)) (s.drop n)
      | .tok kd t n => match all (pass p (s.take n)) (s.drop n) with
        | .inl e => .inl e
        | .inr l => .inr (⟨kd, t, p⟩ :: l) := by
  have hp := piece_size s hs
  have hlen := List.length_pos_iff.2 hs
  rw [← allF_at p s (s.length + 1) (by omega), allF]
  simp only [hs, if_false]
  cases hh : piece s with
  | bad e => rfl
  | gap n =>
    rw [hh] at hp
    simp only [Piece.size] at hp
    rcases hp.2 with ⟨e, he⟩ | h1
    · cases he
    · exact allF_at _ _ _ (by rw [List.length_drop]; omega)
  | tok kd t n =>
    rw [hh] at hp
    simp only [Piece.size] at hp
    rcases hp.2 with ⟨e, he⟩ | h1
    · cases he
    · simp only
      rw [allF_at _ _ _ (by rw [List.length_drop]; omega)]
theorem pass_append (p : Nat × Nat) (a b : List UInt8) : pass p (a ++ b) = pass (pass p a) b := by simp [pass]

/-- A run of gaps' bytes is passed over. -/
theorem all_gaps : ∀ (g : List UInt8) (p : Nat × Nat) (s : List UInt8), (∀ c ∈ g, gapc c = true) → all p (g ++ s) = all (pass p g) s := by
  intro g
  induction g with
  | nil => intro p s _; rfl
  | cons c g ih =>
    intro p s h
    rw [List.cons_append, all_step _ _ (by simp)]
    have hc : piece (c :: (g ++ s)) = .gap 1 := by
      rw [piece_cons, if_pos (h c (by simp))]
    rw [hc]
    simp only [List.take_succ_cons, List.take_zero, List.drop_succ_cons, List.drop_zero]
    rw [ih _ _ (fun x hx => h x (by simp [hx]))]
    rfl

/-! ### What stands behind -/
theorem takeWhile_stop (p : UInt8 → Bool) (x : UInt8) (h : p x = false) (r : List UInt8) : ∀ s : List UInt8, (s ++ x :: r).takeWhile p = s.takeWhile p := by
  intro s
  induction s with
  | nil => simp [h]
  | cons c s ih =>
    cases hc : p c with
    | true => rw [List.cons_append, List.takeWhile_cons_of_pos hc, List.takeWhile_cons_of_pos hc, ih]
    | false => rw [List.cons_append, List.takeWhile_cons_of_neg (by simp [hc]), List.takeWhile_cons_of_neg (by simp [hc])]
theorem quoted_cons (c : UInt8) (r : List UInt8) : quoted (c :: r) =
    if c = 34 then some ([], 1)
    else if c.toNat < 32 ∨ c = 127 then none
    else if c = 92 then
      match r with
      | [] => none
      | d :: r' => match esc d with
        | none => none
        | some x => match quoted r' with
          | none => none
          | some (t, n) => some (x :: t, n + 2)
    else match quoted r with
      | none => none
      | some (t, n) => some (c :: t, n + 1) := by
  cases r <;> simp [quoted]
theorem takeWhile_all (p : UInt8 → Bool) : ∀ s : List UInt8, (∀ c ∈ s, p c = true) → ∀ r, (s ++ r).takeWhile p = s ++ r.takeWhile p := by
  intro s
  induction s with
  | nil => intro _ r; rfl
  | cons c s ih =>
    intro h r
    rw [List.cons_append, List.takeWhile_cons_of_pos (h c (by simp)), ih (fun x hx => h x (by simp [hx]))]
    rfl
/-! ### A text as a token -/
/-- A text's bytes between the marks; none: it can't be. -/
def body : List UInt8 → Option (List UInt8)
  | [] => some []
  | c :: r =>
    if c = 10 then (body r).map ([92, 110] ++ ·)
    else if c.toNat < 32 ∨ c = 127 then none
    else if c = 34 ∨ c = 92 then (body r).map ([92, c] ++ ·)
    else (body r).map (c :: ·)
def quote (s : List UInt8) : List UInt8 := match body s with
  | none => []
  | some b => 34 :: (b ++ [34])
/-- May a byte stand in a text? -/
def mayc (c : UInt8) : Bool := c == 10 || (decide (32 ≤ c.toNat) && c != 127)
theorem body_some : ∀ s : List UInt8, (∀ c ∈ s, mayc c = true) ↔ ∃ b, body s = some b := by
  intro s
  induction s with
  | nil => simp [body]
  | cons c r ih =>
    unfold body
    constructor
    · intro h
      obtain ⟨b, hb⟩ := ih.1 (fun x hx => h x (by simp [hx]))
      have hc := h c (by simp)
      rw [hb]
      by_cases h1 : c = 10
      · rw [if_pos h1]; exact ⟨_, rfl⟩
      · rw [if_neg h1, if_neg (by
          unfold mayc at hc
          simp only [Bool.or_eq_true, beq_iff_eq, Bool.and_eq_true, decide_eq_true_eq, bne_iff_ne] at hc
          rcases hc with hc | hc
          · exact absurd hc h1
          · intro h
            rcases h with h | h
            · omega
            · exact hc.2 h)]
        split
        · exact ⟨_, rfl⟩
        · exact ⟨_, rfl⟩
    · rintro ⟨b, hb⟩
      have key : mayc c = true ∧ ∃ b, body r = some b := by
        split at hb
        · rename_i h1
          cases hr : body r with
          | none => rw [hr] at hb; cases hb
          | some b' => exact ⟨by simp [mayc, h1], b', rfl⟩
        · split at hb
          · cases hb
          · rename_i h1 h2
            have hm : mayc c = true := by
              unfold mayc
              simp only [Bool.or_eq_true, beq_iff_eq, Bool.and_eq_true, decide_eq_true_eq, bne_iff_ne]
              right
              exact ⟨by omega, fun h => h2 (.inr h)⟩
            refine ⟨hm, ?_⟩
            split at hb
            · cases hr : body r with
              | none => rw [hr] at hb; cases hb
              | some b' => exact ⟨b', rfl⟩
            · cases hr : body r with
              | none => rw [hr] at hb; cases hb
              | some b' => exact ⟨b', rfl⟩
      intro x hx
      rcases List.mem_cons.1 hx with rfl | hx
      · exact key.1
      · exact ih.2 key.2 x hx
/-- What is quoted is read as it was. -/
theorem quoted_body : ∀ (s b x : List UInt8), body s = some b → quoted (b ++ 34 :: x) = some (s, b.length + 1) := by
  intro s
  induction s with
  | nil => intro b x h; cases h; simp [quoted_cons]
  | cons c r ih =>
    intro b x h
    unfold body at h
    split at h
    · rename_i h1
      cases hr : body r with
      | none => rw [hr] at h; cases h
      | some b' =>
        rw [hr] at h
        cases h
        have := ih b' x hr
        show quoted (92 :: (110 :: (b' ++ 34 :: x))) = _
        rw [quoted_cons, if_neg (by decide), if_neg (by decide), if_pos rfl]
        have he : esc 110 = some 10 := by decide
        simp only [he, this]
        simp [h1]
    · split at h
      · cases h
      · rename_i h1 h2
        split at h
        · rename_i h3
          cases hr : body r with
          | none => rw [hr] at h; cases h
          | some b' =>
            rw [hr] at h
            cases h
            have := ih b' x hr
            show quoted (92 :: (c :: (b' ++ 34 :: x))) = _
            rw [quoted_cons, if_neg (by decide), if_neg (by decide), if_pos rfl]
            have he : esc c = some c := by
              unfold esc
              rcases h3 with rfl | rfl
              · rfl
              · rfl
            simp only [he, this]
            simp
        · rename_i h3
          cases hr : body r with
          | none => rw [hr] at h; cases h
          | some b' =>
            rw [hr] at h
            cases h
            have := ih b' x hr
            show quoted (c :: (b' ++ 34 :: x)) = _
            rw [quoted_cons, if_neg (fun e => h3 (.inl e)), if_neg h2, if_neg (fun e => h3 (.inr e)), this]
            simp
end Go.Lx

/- A text's bytes, some replaced: in plain Lean. No program. -/
namespace Go.Lx

def special (c : UInt8) : Prop := c = 10 ∨ c = 92 ∨ c = 34
instance (c : UInt8) : Decidable (special c) := by unfold special; infer_instance
/-- What stands for a byte. -/
def rep (c : UInt8) : List UInt8 := if c = 10 then [92, 110] else if c = 92 then [92, 92] else if c = 34 then [92, 34] else [c]
def escs (l : List UInt8) : List UInt8 := l.flatMap rep
/-- How many are replaced, of the first k of the three. -/
def cnt (k : Nat) (l : List UInt8) : Nat := (if 1 ≤ k then l.count 10 else 0) + (if 2 ≤ k then l.count 92 else 0) + (if 3 ≤ k then l.count 34 else 0)
theorem escs_append (a b : List UInt8) : escs (a ++ b) = escs a ++ escs b := by simp [escs]
theorem escs_one (c : UInt8) : escs [c] = rep c := by simp [escs]
theorem rep_plain {c : UInt8} (h : ¬ special c) : rep c = [c] := by
  unfold special at h
  unfold rep
  rw [if_neg (by intro e; exact h (.inl e)), if_neg (by intro e; exact h (.inr (.inl e))), if_neg (by intro e; exact h (.inr (.inr e)))]
theorem rep_special {c : UInt8} (h : special c) : (rep c).length = 2 := by
  rcases h with rfl | rfl | rfl <;> rfl
theorem cnt_append (k : Nat) (a b : List UInt8) : cnt k (a ++ b) = cnt k a + cnt k b := by
  simp only [cnt, List.count_append]
  split <;> split <;> split <;> omega
theorem cnt_le (k : Nat) (l : List UInt8) : cnt k l ≤ 3 * l.length := by
  have h1 := List.count_le_length (a := (10 : UInt8)) (l := l)
  have h2 := List.count_le_length (a := (92 : UInt8)) (l := l)
  have h3 := List.count_le_length (a := (34 : UInt8)) (l := l)
  unfold cnt
  split <;> split <;> split <;> omega
theorem cnt_one (c : UInt8) : cnt 3 [c] = if special c then 1 else 0 := by
  by_cases h : special c
  · rw [if_pos h]
    rcases h with rfl | rfl | rfl <;> rfl
  · rw [if_neg h]
    have h1 : c ≠ 10 := fun e => h (.inl e)
    have h2 : c ≠ 92 := fun e => h (.inr (.inl e))
    have h3 : c ≠ 34 := fun e => h (.inr (.inr e))
    simp [cnt, List.count_cons, h1, h2, h3]
theorem escs_length (l : List UInt8) : (escs l).length = l.length + cnt 3 l := by
  induction l with
  | nil => rfl
  | cons c l ih =>
    have e1 : escs (c :: l) = rep c ++ escs l := rfl
    have e2 : cnt 3 (c :: l) = cnt 3 [c] + cnt 3 l := cnt_append 3 [c] l
    rw [e1, List.length_append, ih, e2, cnt_one, List.length_cons]
    by_cases h : special c
    · rw [rep_special h, if_pos h]; omega
    · rw [rep_plain h, if_neg h]; simp; omega
theorem escs_none : ∀ (l : List UInt8), cnt 3 l = 0 → escs l = l := by
  intro l
  induction l with
  | nil => intro _; rfl
  | cons c l ih =>
    intro h
    have e1 : escs (c :: l) = rep c ++ escs l := rfl
    have e2 : cnt 3 (c :: l) = cnt 3 [c] + cnt 3 l := cnt_append 3 [c] l
    rw [e2, cnt_one] at h
    by_cases hs : special c
    · rw [if_pos hs] at h; omega
    · rw [e1, rep_plain hs, ih (by omega)]; rfl
/-- What a text's bytes become between the marks. -/
theorem body_escs : ∀ (l : List UInt8), (∀ c ∈ l, mayc c = true) → body l = some (escs l) := by
  intro l
  induction l with
  | nil => intro _; rfl
  | cons c l ih =>
    intro h
    have hc := h c (by simp)
    have e1 : escs (c :: l) = rep c ++ escs l := rfl
    rw [body, ih (fun x hx => h x (by simp [hx])), e1]
    by_cases h1 : c = 10
    · subst h1; rfl
    · rw [if_neg h1]
      have hm : 32 ≤ c.toNat ∧ c ≠ 127 := by simpa [mayc, h1] using hc
      rw [if_neg (by rintro (h2 | h2); omega; exact hm.2 h2)]
      by_cases h2 : c = 34
      · subst h2; rfl
      · by_cases h3 : c = 92
        · subst h3; rfl
        · rw [if_neg (by rintro (h4 | h4); exact h2 h4; exact h3 h4), rep_plain (by rintro (h4 | h4 | h4); exact h1 h4; exact h3 h4; exact h2 h4)]
          rfl
end Go.Lx

/- The library's replacer of single bytes by texts, at lex.Quote's three: what a call of its Replace does. -/
namespace Go.Proofs.YtikbddiogneheaaGreatDoor
open Go.RowKit Go.Gw Go.Proofs.YtikbddiogneheaaGreatDoorW.PrintWords
set_option linter.unusedVariables false
set_option linter.unusedSimpArgs false

def escS (s : ByteArray) : ByteArray := ⟨(Lx.escs s.data.toList).toArray⟩
theorem escS_same {s : ByteArray} (h : Lx.cnt 3 s.data.toList = 0) : s = escS s := by
  apply str_ext
  show _ = Lx.escs s.data.toList
  rw [Lx.escs_none _ h]
/-- What the walk reads of the table. -/
structure Seen (W : World) (Q g : Nat) (cap : Nat) : Prop where
  list : W.cell? ⟨Q, 256, none⟩ = some (.slice (some ⟨g, 0, none⟩) 3 cap)
  t0 : W.cell? ⟨g, 0, none⟩ = some (.string ⟨#[10]⟩)
  t1 : W.cell? ⟨g, 1, none⟩ = some (.string ⟨#[92]⟩)
  t2 : W.cell? ⟨g, 2, none⟩ = some (.string ⟨#[34]⟩)
  row : ∀ c : UInt8, (¬ Lx.special c → W.cell? ⟨Q, c.toNat, none⟩ = some (.slice none 0 0)) ∧
    (Lx.special c → ∃ b k, W.cell? ⟨Q, c.toNat, none⟩ = some (.slice (some ⟨b, 0, none⟩) 2 k) ∧ W.cell? ⟨b, 0, none⟩ = some (.int .u8 ((Lx.rep c).getD 0 0).toNat) ∧ W.cell? ⟨b, 1, none⟩ = some (.int .u8 ((Lx.rep c).getD 1 0).toNat))
theorem seen_of_tabl {W : World} {B Q : Nat} {TL : Value} (h : TablP 3 W B Q TL) : ∃ g cap, Seen W Q g cap := by
  obtain ⟨g, cap, rfl, _, _, _⟩ := Kd.R_form h.row (by decide)
  obtain ⟨_, _, hC⟩ := Kd.R_reads' h.row
  have at_ : ∀ k, k < 3 → W.cell? ⟨g, k, none⟩ = some (.string ((lst 3).getD k ByteArray.empty)) := by
    intro k hk
    obtain ⟨ad, e, hc⟩ := Kd.at_string hC k (by omega) (by simp only [lst]; simp; omega)
    cases e
    have : (⟨g, 0, none⟩ : Addr).add k = ⟨g, k, none⟩ := by simp [Addr.add]; exact fun h => h.symm
    rw [show ((k : Nat) : Int).toNat = k by omega, this] at hc
    exact hc
  refine ⟨g, cap, h.list.1, at_ 0 (by omega), at_ 1 (by omega), at_ 2 (by omega), fun c => ⟨fun hc => ?_, fun hc => ?_⟩⟩
  · obtain ⟨v, h1, _, h3⟩ := h.entry c.toNat c.toNat_lt
    have h10 : c.toNat ≠ 10 := fun e => hc (.inl (UInt8.toNat_inj.1 e))
    have h92 : c.toNat ≠ 92 := fun e => hc (.inr (.inl (UInt8.toNat_inj.1 e)))
    have h34 : c.toNat ≠ 34 := fun e => hc (.inr (.inr (UInt8.toNat_inj.1 e)))
    rw [show escP 3 c.toNat = none by simp [escP, h10, h92, h34]] at h3
    rw [h1]
    exact congrArg some h3
  · obtain ⟨v, h1, _, h3⟩ := h.entry c.toNat c.toNat_lt
    rcases hc with rfl | rfl | rfl
    all_goals
      obtain ⟨b, k, rfl, _, _, _, h4, h5⟩ := h3
      exact ⟨b, k, h1, h4, h5⟩
theorem Seen.below {W W' : World} {Q g cap : Nat} (h : Seen W Q g cap) (hb : Below W.heap.size W W') : Seen W' Q g cap :=
  ⟨pw_cell_below hb h.list, pw_cell_below hb h.t0, pw_cell_below hb h.t1, pw_cell_below hb h.t2, fun c => ⟨fun hc => pw_cell_below hb ((h.row c).1 hc), fun hc => by
    obtain ⟨b, k, h1, h2, h3⟩ := (h.row c).2 hc
    exact ⟨b, k, pw_cell_below hb h1, pw_cell_below hb h2, pw_cell_below hb h3⟩⟩⟩

theorem info_u8R : (Tryz.prog.info? 5).map (fun i => (i.zero, i.size, i.bytes)) = some (some (.int .u8 0), 1, 1) := by kernel_rfl
/-- The row that a make has made. -/
theorem made_row {w : World} {base B n : Nat} {e : TypeId} (h : w.ownsRow base e 1 (.slice (some ⟨B, 0, none⟩) n n) n (madeCells (Value.int .u8 0).cells (n * 1)).toList) :
    w.heap[B]? = some (.cells (List.replicate n (Value.int .u8 0)).toArray e (0, 0)) := by
  obtain ⟨_, h | ⟨g, cap, cur, hv, _, hh, _, _, hz, ht⟩⟩ := h
  · cases h.1
  · cases hv
    rw [hh]
    have e1 : cur.toList = List.replicate n (Value.int .u8 0) := by
      rw [← List.take_of_length_le (l := cur.toList) (i := n * 1) (by rw [Array.length_toList]; omega), ht]
      simp [madeCells, Value.cells, Nat.mod_one, List.map_const']
    rw [← e1]
/-- The buffer, so far. -/
def bufc (n : Nat) (l : List UInt8) : List Value := Lib.byteCells l ++ List.replicate (n - l.length) (.int .u8 0)
theorem bufc_len {n : Nat} {l : List UInt8} (h : l.length ≤ n) : (bufc n l).length = n := by
  simp only [bufc, List.length_append, Lib.byteCells_length, List.length_replicate]; omega
theorem bufc_get {n : Nat} {l : List UInt8} (h : l.length < n) : (bufc n l).toArray[l.length]? = some (Value.int .u8 0) := by
  rw [List.getElem?_toArray]
  simp only [bufc, Lib.byteCells]
  rw [List.getElem?_append_right (by simp)]
  simp only [List.length_map, Nat.sub_self]
  rw [List.getElem?_replicate, if_pos (by omega)]
theorem bufc_set {n : Nat} {l : List UInt8} (c : UInt8) (h : l.length < n) : (bufc n l).toArray.setIfInBounds l.length (.int .u8 c.toNat) = (bufc n (l ++ [c])).toArray := by
  rw [List.setIfInBounds_toArray]
  congr 1
  apply List.ext_getElem?
  intro i
  simp only [bufc, Lib.byteCells]
  obtain ⟨r, hr⟩ : ∃ r, n - l.length = r + 1 := ⟨n - l.length - 1, by omega⟩
  rw [hr, List.replicate_succ, List.set_append_right _ _ (by simp), List.length_map, Nat.sub_self, List.set_cons_zero, List.map_append, List.append_assoc, List.length_append]
  simp only [List.map_cons, List.map_nil, List.cons_append, List.nil_append, List.length_cons, List.length_nil]
  rw [show n - (l.length + (0 + 1)) = r by omega]
theorem bufc_splice {n : Nat} {l : List UInt8} (a b : UInt8) (h : l.length + 2 ≤ n) : splice (bufc n l) l.length [.int .u8 a.toNat, .int .u8 b.toNat] = bufc n (l ++ [a, b]) := by
  simp only [splice, bufc, Lib.byteCells]
  obtain ⟨r, hr⟩ : ∃ r, n - l.length = r + 2 := ⟨n - l.length - 2, by omega⟩
  rw [hr, List.take_append_of_le_length (by simp), List.take_of_length_le (by simp), List.drop_append, List.drop_eq_nil_of_le (by simp), List.map_append, List.append_assoc, List.length_append]
  simp only [List.length_map, List.length_cons, List.length_nil, List.map_cons, List.map_nil, List.cons_append, List.nil_append]
  rw [show n - (l.length + (0 + 1 + 1)) = r by omega, show l.length + (0 + 1 + 1) - l.length = 2 by omega]
  rfl
theorem escS_nums (s : ByteArray) : strOfNums ((Lx.escs s.data.toList).map fun c => (c.toNat : Int)) = escS s := by
  show (⟨_⟩ : ByteArray) = ⟨_⟩
  simp [List.map_map, Function.comp_def]
theorem buf_string {w : World} {B n3 : Nat} {s : ByteArray} (h : w.heap[B]? = some (.cells (bufc n3 (Lx.escs s.data.toList)).toArray 5 (0, 0))) (hn : n3 = (Lx.escs s.data.toList).length) :
    (convert 84 9 (.slice (some ⟨B, 0, none⟩) n3 n3)).run Tryz.prog w = .ok (.string (escS s)) w := by
  have hb : bufc n3 (Lx.escs s.data.toList) = Lib.byteCells (Lx.escs s.data.toList) := by
    rw [bufc, hn, Nat.sub_self]; simp
  rw [hb] at h
  have := run_convert_bytes_arg (P := Tryz.prog) w 84 5 Tryz.underlying84 Tryz.underlying5 B 0 n3 n3 ((Lx.escs s.data.toList).map fun c => (c.toNat : Int)) (by simp [hn]) (fun i hi => by
    rw [Nat.zero_add]
    have h2 : (Lib.byteCells (Lx.escs s.data.toList)).toArray[i]? = some (.int .u8 (((Lx.escs s.data.toList).map fun c => (c.toNat : Int)).getD i 0)) := by
      rw [List.getElem?_toArray, Lib.byteCells, List.getElem?_map, List.getElem?_eq_getElem (by omega), List.getD_eq_getElem?_getD, List.getElem?_map, List.getElem?_eq_getElem (by omega)]
      rfl
    simp only [World.cell?, h]
    simpa using h2) 9 Tryz.underlying9
  rw [this, escS_nums]
set_option maxHeartbeats 2000000 in
set_option maxRecDepth 100000 in
theorem bsr_calls (Q g cap : Nat) (s : ByteArray) (hs : s.size ≤ 1000000) (w : World) (hS : Seen w Q g cap) :
    Calls Tryz.prog 165 #[.pointer (some ⟨Q, 0, none⟩), .string s] w fun e w' => e = .returned (.string (escS s)) ∧ Below w.heap.size w w' := by
  have HS := Lib.hid hS
  have hl := hS.list
  obtain ⟨bi, bi1, bi2, bi3, bi4⟩ := info_parts info_u8R
  clear hS
  by_cases h24 : 24 ≤ s.size
  · have hd : decide ((24 : Int) ≤ (s.size : Int)) = true := by simp; omega
    clear h24
    go_enter Tryz.func165, Tryz.ntmps165
    go_wp2
    go_loopw [5, 6, 32] (fun nv av iv wr => ∃ k : Nat, k ≤ 3 ∧ iv = .int .i64 k ∧ nv = .int .i64 (s.size + Lx.cnt k s.data.toList : Nat) ∧ av = .bool (decide (0 < Lx.cnt k s.data.toList)) ∧ Aside0 (Below w.heap.size w wr)) (fun _ _ i _ => 3 - (intOf i).toNat)
    case atStart => exact ⟨0, by omega, rfl, by simp [Lx.cnt], by simp [Lx.cnt], ⟨Below.refl _ _⟩⟩
    case round =>
      obtain ⟨k, hk, rfl, rfl, rfl, HW⟩ := hrel
      obtain rfl | rfl | rfl | rfl : k = 0 ∨ k = 1 ∨ k = 2 ∨ k = 3 := by omega
      · have u1 := (HS.out.below HW.out).t0
        have u2 := ((HS.out.below HW.out).row 10).2 (by decide)
        obtain ⟨b, kk, u3, -, -⟩ := u2
        have u4 : wr.cell? ⟨Q, 10, none⟩ = some (.slice (some ⟨b, 0, none⟩) 2 kk) := u3
        clear u3
        have u5 := (HS.out.below HW.out).list
        have hx : ((⟨#[10]⟩ : ByteArray)[0]'(by decide)).toNat = 10 := rfl
        have hm2 := Lx.cnt_le 0 s.data.toList
        rw [data_length] at hm2
        obtain ⟨m, hm⟩ : ∃ m, m = Lx.cnt 0 s.data.toList := ⟨_, rfl⟩
        have hn2 : Lib.countByte s.data.toList 10 ≤ s.size := by rw [← data_length]; exact List.count_le_length
        obtain ⟨n, hn⟩ : ∃ n, n = Lib.countByte s.data.toList 10 := ⟨_, rfl⟩
        rw [← hm] at hm2 ⊢
        have hmn : Lx.cnt 1 s.data.toList = m + n := by rw [hm, hn]; simp [Lx.cnt, Lib.countByte]
        have HMN := Lib.hid hmn; clear hmn
        have HN := Lib.hid hn
        rw [← hn] at hn2
        clear hm hn
        go_wp2_with fail
        refine (Tryz.strings_Count_one s 10 _).mono ?_
        rintro e w1 ⟨rfl, rfl⟩
        rw [← HN.out]
        by_cases hz : n = 0
        · subst hz
          go_wp2
          go_roundw
          case rel => exact ⟨1, by omega, rfl, by rw [HMN.out]; go_num, by rw [HMN.out]; simp, ⟨HW.out⟩⟩
          case measure => decide
        · have hz1 : ((n : Int) != 0) = true := by simp [hz]
          have hz2 : ((n : Int) == 0) = false := by simp [hz]
          go_wp2
          go_quiet (fail)
          go_wp2
          go_roundw
          case rel => exact ⟨1, by omega, rfl, by rw [HMN.out]; go_num, by rw [HMN.out]; simp; omega, ⟨below_drewN' HW.out _⟩⟩
          case measure => decide
      · have u1 := (HS.out.below HW.out).t1
        have u2 := ((HS.out.below HW.out).row 92).2 (by decide)
        obtain ⟨b, kk, u3, -, -⟩ := u2
        have u4 : wr.cell? ⟨Q, 92, none⟩ = some (.slice (some ⟨b, 0, none⟩) 2 kk) := u3
        clear u3
        have u5 := (HS.out.below HW.out).list
        have hx : ((⟨#[92]⟩ : ByteArray)[0]'(by decide)).toNat = 92 := rfl
        have hm2 := Lx.cnt_le 1 s.data.toList
        rw [data_length] at hm2
        obtain ⟨m, hm⟩ : ∃ m, m = Lx.cnt 1 s.data.toList := ⟨_, rfl⟩
        have hn2 : Lib.countByte s.data.toList 92 ≤ s.size := by rw [← data_length]; exact List.count_le_length
        obtain ⟨n, hn⟩ : ∃ n, n = Lib.countByte s.data.toList 92 := ⟨_, rfl⟩
        rw [← hm] at hm2 ⊢
        have hmn : Lx.cnt 2 s.data.toList = m + n := by rw [hm, hn]; simp [Lx.cnt, Lib.countByte]
        have HMN := Lib.hid hmn; clear hmn
        have HN := Lib.hid hn
        rw [← hn] at hn2
        clear hm hn
        go_wp2_with fail
        refine (Tryz.strings_Count_one s 92 _).mono ?_
        rintro e w1 ⟨rfl, rfl⟩
        rw [← HN.out]
        by_cases hz : n = 0
        · subst hz
          go_wp2
          go_roundw
          case rel => exact ⟨2, by omega, rfl, by rw [HMN.out]; go_num, by rw [HMN.out]; simp, ⟨HW.out⟩⟩
          case measure => decide
        · have hz1 : ((n : Int) != 0) = true := by simp [hz]
          have hz2 : ((n : Int) == 0) = false := by simp [hz]
          go_wp2
          go_quiet (fail)
          go_wp2
          go_roundw
          case rel => exact ⟨2, by omega, rfl, by rw [HMN.out]; go_num, by rw [HMN.out]; simp; omega, ⟨below_drewN' HW.out _⟩⟩
          case measure => decide
      · have u1 := (HS.out.below HW.out).t2
        have u2 := ((HS.out.below HW.out).row 34).2 (by decide)
        obtain ⟨b, kk, u3, -, -⟩ := u2
        have u4 : wr.cell? ⟨Q, 34, none⟩ = some (.slice (some ⟨b, 0, none⟩) 2 kk) := u3
        clear u3
        have u5 := (HS.out.below HW.out).list
        have hx : ((⟨#[34]⟩ : ByteArray)[0]'(by decide)).toNat = 34 := rfl
        have hm2 := Lx.cnt_le 2 s.data.toList
        rw [data_length] at hm2
        obtain ⟨m, hm⟩ : ∃ m, m = Lx.cnt 2 s.data.toList := ⟨_, rfl⟩
        have hn2 : Lib.countByte s.data.toList 34 ≤ s.size := by rw [← data_length]; exact List.count_le_length
        obtain ⟨n, hn⟩ : ∃ n, n = Lib.countByte s.data.toList 34 := ⟨_, rfl⟩
        rw [← hm] at hm2 ⊢
        have hmn : Lx.cnt 3 s.data.toList = m + n := by rw [hm, hn]; simp [Lx.cnt, Lib.countByte]
        have HMN := Lib.hid hmn; clear hmn
        have HN := Lib.hid hn
        rw [← hn] at hn2
        clear hm hn
        go_wp2_with fail
        refine (Tryz.strings_Count_one s 34 _).mono ?_
        rintro e w1 ⟨rfl, rfl⟩
        rw [← HN.out]
        by_cases hz : n = 0
        · subst hz
          go_wp2
          go_roundw
          case rel => exact ⟨3, by omega, rfl, by rw [HMN.out]; go_num, by rw [HMN.out]; simp, ⟨HW.out⟩⟩
          case measure => decide
        · have hz1 : ((n : Int) != 0) = true := by simp [hz]
          have hz2 : ((n : Int) == 0) = false := by simp [hz]
          go_wp2
          go_quiet (fail)
          go_wp2
          go_roundw
          case rel => exact ⟨3, by omega, rfl, by rw [HMN.out]; go_num, by rw [HMN.out]; simp; omega, ⟨below_drewN' HW.out _⟩⟩
          case measure => decide
      · obtain ⟨m, hm⟩ : ∃ m, m = Lx.cnt 3 s.data.toList := ⟨_, rfl⟩
        have hm2 := Lx.cnt_le 3 s.data.toList
        rw [data_length] at hm2
        rw [← hm] at hm2 ⊢
        have HM := Lib.hid hm; clear hm
        by_cases hz : m = 0
        · have hd1 : decide (0 < m) = false := by simp [hz]
          have HZ := Lib.hid hz; clear hz
          go_wp2
          go_ret
          exact ⟨ret_str (escS_same (by rw [← HM.out]; exact HZ.out)), HW.out⟩
        · have hd1 : decide (0 < m) = true := by simp; omega
          obtain ⟨n3, hn3⟩ : ∃ n3, n3 = s.size + m := ⟨_, rfl⟩
          rw [← hn3]
          have hn4 : n3 ≤ 4000000 := by omega
          have HL : Hid (n3 = (Lx.escs s.data.toList).length) := by
            unfold Hid
            rw [Lx.escs_length, hn3, HM.out, data_length]
          clear hn3 hz hm2
          rename World => wm
          go_wp2_with (at_make; refine wpList_make_full _ rfl _ _ 84 rfl w.heap.size 5 bi _ 1 Tryz.underlying84 bi1 bi2 bi3 .i64 .i64 n3 n3 n3 rfl rfl rfl rfl (by rw [bi4]; omega) (by unfold maxLen; omega) HW.out.size ?_; intro w1 hown hgr)
          have hrow := made_row hown
          have HB1 := Lib.hid (HW.out.grown hgr HW.out.size (fun k hk => by cases hk))
          have hBlo : w.heap.size ≤ wm.heap.size := HW.out.size
          obtain ⟨B, hB⟩ : ∃ B, B = wm.heap.size := ⟨_, rfl⟩
          rw [← hB] at hrow hBlo ⊢
          have HR1 := Lib.hid hrow
          clear hrow hown hgr hB HW
          go_loopw [13, 14] (fun jv iv wr => ∃ k j : Nat, k ≤ s.size ∧ iv = .int .i64 k ∧ jv = .int .i64 j ∧ Aside0 (j = (Lx.escs (s.data.toList.take k)).length) ∧ Aside0 (wr.heap[B]? = some (.cells (bufc n3 (Lx.escs (s.data.toList.take k))).toArray 5 (0, 0))) ∧ Aside0 (Below w.heap.size w wr)) (fun _ i _ => s.size - (intOf i).toNat)
          case atStart => exact ⟨0, 0, Nat.zero_le _, rfl, rfl, ⟨rfl⟩, ⟨by simpa [bufc, Lx.escs, Lib.byteCells] using HR1.out⟩, ⟨HB1.out⟩⟩
          case round =>
            obtain ⟨k, j, hk, rfl, rfl, HJ, HR, HV⟩ := hrel
            by_cases hlt : k < s.size
            · obtain ⟨hc1, hc2⟩ := byteTake s k hlt
              have hrw := (HS.out.below HV.out).row (s[k]'hlt)
              have h256 : ((s[k]'hlt).toNat : Int) < 256 := by have := (s[k]'hlt).toNat_lt; omega
              have hne := fun W a n c => run_neq_slice_nil_any (P := Tryz.prog) W 84 5 a n c 0 0 Tryz.underlying84
              have hes : Lx.escs (s.data.toList.take (k + 1)) = Lx.escs (s.data.toList.take k) ++ Lx.rep (s[k]'hlt) := by rw [hc2, Lx.escs_append, Lx.escs_one]
              have hfit : (Lx.escs (s.data.toList.take (k + 1))).length ≤ n3 := by
                rw [HL.out, ← List.take_append_drop (k + 1) s.data.toList, Lx.escs_append, List.length_append, List.take_append_drop]
                omega
              rw [hes, List.length_append, ← HJ.out] at hfit
              have HES := Lib.hid hes; clear hes hc1 hc2
              by_cases hsp : Lx.special (s[k]'hlt)
              · obtain ⟨b, kk, e1, e2, e3⟩ := hrw.2 hsp
                clear hrw
                rw [Lx.rep_special hsp] at hfit
                have HE2 := Lib.hid e2; have HE3 := Lib.hid e3; clear e2 e3
                have HSP := Lib.hid hsp; clear hsp
                have hj1 : (0 : Int) ≤ (j : Int) ∧ (j : Int) ≤ (n3 : Int) := by omega
                have hj2 : j ≤ n3 := by omega
                have hj3 : ¬ (n3 = j) := by omega
                have hlen : (Lx.escs (s.data.toList.take k)).length ≤ n3 := by rw [← HJ.out]; omega
                have q1 : [Value.int .u8 ((Lx.rep (s[k]'hlt)).getD 0 0).toNat, Value.int .u8 ((Lx.rep (s[k]'hlt)).getD 1 0).toNat].length = Nat.min 2 (n3 - j) := by
                  show 2 = min 2 (n3 - j)
                  omega
                have q2 : ∀ (i : Nat) (v : Value), [Value.int .u8 ((Lx.rep (s[k]'hlt)).getD 0 0).toNat, Value.int .u8 ((Lx.rep (s[k]'hlt)).getD 1 0).toNat][i]? = some v → wr.cell? ((⟨b, 0, none⟩ : Addr).add i) = some v := by
                  intro i v hv
                  match i, hv with
                  | 0, hv => cases hv; simpa [Addr.add] using HE2.out
                  | 1, hv => cases hv; simpa [Addr.add] using HE3.out
                  | i + 2, hv => simp at hv
                have q3 : j + [Value.int .u8 ((Lx.rep (s[k]'hlt)).getD 0 0).toNat, Value.int .u8 ((Lx.rep (s[k]'hlt)).getD 1 0).toNat].length ≤ (bufc n3 (Lx.escs (s.data.toList.take k))).length := by
                  rw [bufc_len hlen]
                  show j + 2 ≤ n3
                  omega
                have q4 : ∀ v ∈ [Value.int .u8 ((Lx.rep (s[k]'hlt)).getD 0 0).toNat, Value.int .u8 ((Lx.rep (s[k]'hlt)).getD 1 0).toNat], v.oneCell' = true := by
                  intro v hv
                  rcases List.mem_cons.1 hv with rfl | hv
                  · rfl
                  · rcases List.mem_cons.1 hv with rfl | hv
                    · rfl
                    · cases hv
                have Q1 := Lib.hid q1; have Q2 := Lib.hid q2; have Q3 := Lib.hid q3; have Q4 := Lib.hid q4; clear q1 q2 q3 q4
                go_wp2
                go_region_law (refine step_copy_splice rfl (.tmp 105) (.tmp 111) 84 84 rfl 5 Tryz.underlying84 (by kernel_rfl) (some ⟨B, j, none⟩) (some ⟨b, 0, none⟩) (n3 - j) (n3 - j) 2 kk (by simp [Act.eval, Act.put]) (by simp [Act.eval, Act.put]) B j (bufc n3 (Lx.escs (s.data.toList.take k))) 5 HR.out [.int .u8 ((Lx.rep (s[k]'hlt)).getD 0 0).toNat, .int .u8 ((Lx.rep (s[k]'hlt)).getD 1 0).toNat] Q1.out (fun _ => ⟨rfl, _, rfl, Q2.out⟩) Q3.out Q4.out w.heap.size w HV.out.drew hBlo ?_; intro w4 hg4 hb4)
                have HB4 := Lib.hid hb4; clear hb4
                go_wp2
                go_roundw
                case rel =>
                  refine ⟨k + 1, j + 2, by omega, by go_num, by go_num, ⟨?_⟩, ⟨?_⟩, ⟨HB4.out⟩⟩
                  · rw [HES.out, List.length_append, ← HJ.out, Lx.rep_special HSP.out]
                  · have h7 := hg4.out
                    have h8 : Lx.rep (s[k]'hlt) = [(Lx.rep (s[k]'hlt)).getD 0 0, (Lx.rep (s[k]'hlt)).getD 1 0] := by
                      rcases HSP.out with h | h | h <;> rw [h] <;> rfl
                    have h9 := bufc_splice (n := n3) (l := Lx.escs (s.data.toList.take k)) ((Lx.rep (s[k]'hlt)).getD 0 0) ((Lx.rep (s[k]'hlt)).getD 1 0) (by rw [← HJ.out]; omega)
                    rw [← HJ.out] at h9
                    rw [h9, ← h8, ← HES.out] at h7
                    exact h7
                case measure => simp [intOf]; omega
              · have e1 := hrw.1 hsp
                clear hrw
                rw [Lx.rep_plain hsp] at hfit
                have hfit1 : j < n3 := by have h5 : ([s[k]'hlt] : List UInt8).length = 1 := rfl; omega
                have h1 : wr.cell? ⟨B, j, none⟩ = some (.int .u8 0) := by
                  have h3 := HR.out
                  have h4 := bufc_get (n := n3) (l := Lx.escs (s.data.toList.take k)) (by rw [← HJ.out]; exact hfit1)
                  rw [← HJ.out] at h4
                  simp only [World.cell?, h3]
                  simpa using h4
                have h2 : wr.frozen? ⟨B, j, none⟩ = false := by
                  have := HR.out
                  simp [World.frozen?, this]
                clear hfit
                have HSP := Lib.hid hsp; clear hsp
                go_wp2
                go_roundw
                case rel =>
                  refine ⟨k + 1, j + 1, by omega, by go_num, by go_num, ⟨?_⟩, ⟨?_⟩, ⟨HV.out.setCell (p := ⟨B, j, none⟩) hBlo _⟩⟩
                  · rw [HES.out, List.length_append, ← HJ.out, Lx.rep_plain HSP.out]; rfl
                  · have h6 := heap_set HR.out j (.int .u8 ((s[k]'hlt).toNat : Nat))
                    rw [HES.out, Lx.rep_plain HSP.out, ← bufc_set (n := n3) (l := Lx.escs (s.data.toList.take k)) (s[k]'hlt) (by rw [← HJ.out]; exact hfit1), ← HJ.out]
                    exact h6
                case measure => simp [intOf]; omega
            · obtain rfl : k = s.size := by omega
              have hr := HR.out
              have hj := HJ.out
              rw [← data_length, List.take_length] at hr hj
              have hjn : j = n3 := by rw [hj, HL.out]
              have hcv := buf_string hr HL.out
              have HCV := Lib.hid hj; clear hj hr hjn
              go_wp2
              go_ret
              exact ⟨rfl, HV.out⟩
  · have hd : decide ((24 : Int) ≤ (s.size : Int)) = false := by simp; omega
    clear h24
    go_enter Tryz.func165, Tryz.ntmps165
    go_wp2
    go_loopw [5, 6, 10] (fun nv av iv wr => ∃ k : Nat, k ≤ s.size ∧ iv = .int .i64 k ∧ nv = .int .i64 (s.size + Lx.cnt 3 (s.data.toList.take k) : Nat) ∧ av = .bool (decide (0 < Lx.cnt 3 (s.data.toList.take k))) ∧ Aside0 (Below w.heap.size w wr)) (fun _ _ i _ => s.size - (intOf i).toNat)
    case atStart => exact ⟨0, by omega, rfl, by simp [Lx.cnt], by simp [Lx.cnt], ⟨Below.refl _ _⟩⟩
    case round =>
      obtain ⟨k, hk, rfl, rfl, rfl, HW⟩ := hrel
      by_cases hlt : k < s.size
      · obtain ⟨hc1, hc2⟩ := byteTake s k hlt
        have hrw := (HS.out.below HW.out).row (s[k]'hlt)
        have h256 : ((s[k]'hlt).toNat : Int) < 256 := by have := (s[k]'hlt).toNat_lt; omega
        have hne := fun W a n c => run_neq_slice_nil_any (P := Tryz.prog) W 84 5 a n c 0 0 Tryz.underlying84
        have hm2 := Lx.cnt_le 3 (s.data.toList.take k)
        have hm3 : (s.data.toList.take k).length ≤ s.size := by rw [List.length_take]; omega
        obtain ⟨m, hm⟩ : ∃ m, m = Lx.cnt 3 (s.data.toList.take k) := ⟨_, rfl⟩
        have hmn : Lx.cnt 3 (s.data.toList.take (k + 1)) = m + (if Lx.special (s[k]'hlt) then 1 else 0) := by rw [hm, hc2, Lx.cnt_append, Lx.cnt_one]
        rw [← hm] at hm2 ⊢
        have HMN := Lib.hid hmn; clear hmn hm hc1 hc2
        have hm4 : m ≤ 3000000 := by omega
        clear hm2 hm3
        by_cases hsp : Lx.special (s[k]'hlt)
        · obtain ⟨b, kk, e1, -, -⟩ := hrw.2 hsp
          clear hrw
          have HSP := Lib.hid hsp; clear hsp
          go_wp2
          go_roundw
          case rel => exact ⟨k + 1, by omega, by go_num, by rw [HMN.out, if_pos HSP.out]; go_num, by rw [HMN.out, if_pos HSP.out]; simp, ⟨HW.out⟩⟩
          case measure => simp [intOf]; omega
        · have e1 := hrw.1 hsp
          clear hrw
          have HSP := Lib.hid hsp; clear hsp
          go_wp2
          go_roundw
          case rel => exact ⟨k + 1, by omega, by go_num, by rw [HMN.out, if_neg HSP.out]; go_num, by rw [HMN.out, if_neg HSP.out]; simp, ⟨HW.out⟩⟩
          case measure => simp [intOf]; omega
      · obtain rfl : k = s.size := by omega
        rw [show s.data.toList.take s.size = s.data.toList by rw [← data_length, List.take_length]]
        obtain ⟨m, hm⟩ : ∃ m, m = Lx.cnt 3 s.data.toList := ⟨_, rfl⟩
        have hm2 := Lx.cnt_le 3 s.data.toList
        rw [data_length] at hm2
        rw [← hm] at hm2 ⊢
        have HM := Lib.hid hm; clear hm
        by_cases hz : m = 0
        · have hd1 : decide (0 < m) = false := by simp [hz]
          have HZ := Lib.hid hz; clear hz
          go_wp2
          go_ret
          exact ⟨ret_str (escS_same (by rw [← HM.out]; exact HZ.out)), HW.out⟩
        · have hd1 : decide (0 < m) = true := by simp; omega
          obtain ⟨n3, hn3⟩ : ∃ n3, n3 = s.size + m := ⟨_, rfl⟩
          rw [← hn3]
          have hn4 : n3 ≤ 4000000 := by omega
          have HL : Hid (n3 = (Lx.escs s.data.toList).length) := by
            unfold Hid
            rw [Lx.escs_length, hn3, HM.out, data_length]
          clear hn3 hz hm2
          rename World => wm
          go_wp2_with (at_make; refine wpList_make_full _ rfl _ _ 84 rfl w.heap.size 5 bi _ 1 Tryz.underlying84 bi1 bi2 bi3 .i64 .i64 n3 n3 n3 rfl rfl rfl rfl (by rw [bi4]; omega) (by unfold maxLen; omega) HW.out.size ?_; intro w1 hown hgr)
          have hrow := made_row hown
          have HB1 := Lib.hid (HW.out.grown hgr HW.out.size (fun k hk => by cases hk))
          have hBlo : w.heap.size ≤ wm.heap.size := HW.out.size
          obtain ⟨B, hB⟩ : ∃ B, B = wm.heap.size := ⟨_, rfl⟩
          rw [← hB] at hrow hBlo ⊢
          have HR1 := Lib.hid hrow
          clear hrow hown hgr hB HW
          go_loopw [13, 14] (fun jv iv wr => ∃ k j : Nat, k ≤ s.size ∧ iv = .int .i64 k ∧ jv = .int .i64 j ∧ Aside0 (j = (Lx.escs (s.data.toList.take k)).length) ∧ Aside0 (wr.heap[B]? = some (.cells (bufc n3 (Lx.escs (s.data.toList.take k))).toArray 5 (0, 0))) ∧ Aside0 (Below w.heap.size w wr)) (fun _ i _ => s.size - (intOf i).toNat)
          case atStart => exact ⟨0, 0, Nat.zero_le _, rfl, rfl, ⟨rfl⟩, ⟨by simpa [bufc, Lx.escs, Lib.byteCells] using HR1.out⟩, ⟨HB1.out⟩⟩
          case round =>
            obtain ⟨k, j, hk, rfl, rfl, HJ, HR, HV⟩ := hrel
            by_cases hlt : k < s.size
            · obtain ⟨hc1, hc2⟩ := byteTake s k hlt
              have hrw := (HS.out.below HV.out).row (s[k]'hlt)
              have h256 : ((s[k]'hlt).toNat : Int) < 256 := by have := (s[k]'hlt).toNat_lt; omega
              have hne := fun W a n c => run_neq_slice_nil_any (P := Tryz.prog) W 84 5 a n c 0 0 Tryz.underlying84
              have hes : Lx.escs (s.data.toList.take (k + 1)) = Lx.escs (s.data.toList.take k) ++ Lx.rep (s[k]'hlt) := by rw [hc2, Lx.escs_append, Lx.escs_one]
              have hfit : (Lx.escs (s.data.toList.take (k + 1))).length ≤ n3 := by
                rw [HL.out, ← List.take_append_drop (k + 1) s.data.toList, Lx.escs_append, List.length_append, List.take_append_drop]
                omega
              rw [hes, List.length_append, ← HJ.out] at hfit
              have HES := Lib.hid hes; clear hes hc1 hc2
              by_cases hsp : Lx.special (s[k]'hlt)
              · obtain ⟨b, kk, e1, e2, e3⟩ := hrw.2 hsp
                clear hrw
                rw [Lx.rep_special hsp] at hfit
                have HE2 := Lib.hid e2; have HE3 := Lib.hid e3; clear e2 e3
                have HSP := Lib.hid hsp; clear hsp
                have hj1 : (0 : Int) ≤ (j : Int) ∧ (j : Int) ≤ (n3 : Int) := by omega
                have hj2 : j ≤ n3 := by omega
                have hj3 : ¬ (n3 = j) := by omega
                have hlen : (Lx.escs (s.data.toList.take k)).length ≤ n3 := by rw [← HJ.out]; omega
                have q1 : [Value.int .u8 ((Lx.rep (s[k]'hlt)).getD 0 0).toNat, Value.int .u8 ((Lx.rep (s[k]'hlt)).getD 1 0).toNat].length = Nat.min 2 (n3 - j) := by
                  show 2 = min 2 (n3 - j)
                  omega
                have q2 : ∀ (i : Nat) (v : Value), [Value.int .u8 ((Lx.rep (s[k]'hlt)).getD 0 0).toNat, Value.int .u8 ((Lx.rep (s[k]'hlt)).getD 1 0).toNat][i]? = some v → wr.cell? ((⟨b, 0, none⟩ : Addr).add i) = some v := by
                  intro i v hv
                  match i, hv with
                  | 0, hv => cases hv; simpa [Addr.add] using HE2.out
                  | 1, hv => cases hv; simpa [Addr.add] using HE3.out
                  | i + 2, hv => simp at hv
                have q3 : j + [Value.int .u8 ((Lx.rep (s[k]'hlt)).getD 0 0).toNat, Value.int .u8 ((Lx.rep (s[k]'hlt)).getD 1 0).toNat].length ≤ (bufc n3 (Lx.escs (s.data.toList.take k))).length := by
                  rw [bufc_len hlen]
                  show j + 2 ≤ n3
                  omega
                have q4 : ∀ v ∈ [Value.int .u8 ((Lx.rep (s[k]'hlt)).getD 0 0).toNat, Value.int .u8 ((Lx.rep (s[k]'hlt)).getD 1 0).toNat], v.oneCell' = true := by
                  intro v hv
                  rcases List.mem_cons.1 hv with rfl | hv
                  · rfl
                  · rcases List.mem_cons.1 hv with rfl | hv
                    · rfl
                    · cases hv
                have Q1 := Lib.hid q1; have Q2 := Lib.hid q2; have Q3 := Lib.hid q3; have Q4 := Lib.hid q4; clear q1 q2 q3 q4
                go_wp2
                go_region_law (refine step_copy_splice rfl (.tmp 105) (.tmp 111) 84 84 rfl 5 Tryz.underlying84 (by kernel_rfl) (some ⟨B, j, none⟩) (some ⟨b, 0, none⟩) (n3 - j) (n3 - j) 2 kk (by simp [Act.eval, Act.put]) (by simp [Act.eval, Act.put]) B j (bufc n3 (Lx.escs (s.data.toList.take k))) 5 HR.out [.int .u8 ((Lx.rep (s[k]'hlt)).getD 0 0).toNat, .int .u8 ((Lx.rep (s[k]'hlt)).getD 1 0).toNat] Q1.out (fun _ => ⟨rfl, _, rfl, Q2.out⟩) Q3.out Q4.out w.heap.size w HV.out.drew hBlo ?_; intro w4 hg4 hb4)
                have HB4 := Lib.hid hb4; clear hb4
                go_wp2
                go_roundw
                case rel =>
                  refine ⟨k + 1, j + 2, by omega, by go_num, by go_num, ⟨?_⟩, ⟨?_⟩, ⟨HB4.out⟩⟩
                  · rw [HES.out, List.length_append, ← HJ.out, Lx.rep_special HSP.out]
                  · have h7 := hg4.out
                    have h8 : Lx.rep (s[k]'hlt) = [(Lx.rep (s[k]'hlt)).getD 0 0, (Lx.rep (s[k]'hlt)).getD 1 0] := by
                      rcases HSP.out with h | h | h <;> rw [h] <;> rfl
                    have h9 := bufc_splice (n := n3) (l := Lx.escs (s.data.toList.take k)) ((Lx.rep (s[k]'hlt)).getD 0 0) ((Lx.rep (s[k]'hlt)).getD 1 0) (by rw [← HJ.out]; omega)
                    rw [← HJ.out] at h9
                    rw [h9, ← h8, ← HES.out] at h7
                    exact h7
                case measure => simp [intOf]; omega
              · have e1 := hrw.1 hsp
                clear hrw
                rw [Lx.rep_plain hsp] at hfit
                have hfit1 : j < n3 := by have h5 : ([s[k]'hlt] : List UInt8).length = 1 := rfl; omega
                have h1 : wr.cell? ⟨B, j, none⟩ = some (.int .u8 0) := by
                  have h3 := HR.out
                  have h4 := bufc_get (n := n3) (l := Lx.escs (s.data.toList.take k)) (by rw [← HJ.out]; exact hfit1)
                  rw [← HJ.out] at h4
                  simp only [World.cell?, h3]
                  simpa using h4
                have h2 : wr.frozen? ⟨B, j, none⟩ = false := by
                  have := HR.out
                  simp [World.frozen?, this]
                clear hfit
                have HSP := Lib.hid hsp; clear hsp
                go_wp2
                go_roundw
                case rel =>
                  refine ⟨k + 1, j + 1, by omega, by go_num, by go_num, ⟨?_⟩, ⟨?_⟩, ⟨HV.out.setCell (p := ⟨B, j, none⟩) hBlo _⟩⟩
                  · rw [HES.out, List.length_append, ← HJ.out, Lx.rep_plain HSP.out]; rfl
                  · have h6 := heap_set HR.out j (.int .u8 ((s[k]'hlt).toNat : Nat))
                    rw [HES.out, Lx.rep_plain HSP.out, ← bufc_set (n := n3) (l := Lx.escs (s.data.toList.take k)) (s[k]'hlt) (by rw [← HJ.out]; exact hfit1), ← HJ.out]
                    exact h6
                case measure => simp [intOf]; omega
            · obtain rfl : k = s.size := by omega
              have hr := HR.out
              have hj := HJ.out
              rw [← data_length, List.take_length] at hr hj
              have hjn : j = n3 := by rw [hj, HL.out]
              have hcv := buf_string hr HL.out
              have HCV := Lib.hid hj; clear hj hr hjn
              go_wp2
              go_ret
              exact ⟨rfl, HV.out⟩
end Go.Proofs.YtikbddiogneheaaGreatDoor

/- lex.Quote: what a call of it does, of any text of at most a million bytes. -/
namespace Go.Proofs.YtikbddiogneheaaGreatDoor
open Go.RowKit Go.Gw Go.Proofs.YtikbddiogneheaaGreatDoorW.PrintWords
set_option linter.unusedVariables false
set_option linter.unusedSimpArgs false

theorem olds_C {w : World} {G : Nat} (h : OldsAt w G) : Kd.C Kd.string w (some ⟨G, 0, none⟩) 6 olds := by
  refine ⟨rfl, by decide, fun _ => ⟨_, rfl, fun j p hj => ⟨[.string p], rfl, rfl, fun i u hu => ?_⟩⟩⟩
  cases i with
  | succ i => simp at hu
  | zero =>
    simp only [List.getElem?_cons_zero, Option.some.injEq] at hu
    subst hu
    have ea : (⟨G, 0, none⟩ : Addr).add (j * 1 + 0) = ⟨G, j, none⟩ := by simp [Addr.add]; exact fun h => h.symm
    show w.cell? ((⟨G, 0, none⟩ : Addr).add (j * 1 + 0)) = _
    rw [ea]
    match j, hj with
    | 0, hj => cases hj; exact h.h0
    | 1, hj => cases hj; exact h.h1
    | 2, hj => cases hj; exact h.h2
    | 3, hj => cases hj; exact h.h3
    | 4, hj => cases hj; exact h.h4
    | 5, hj => cases hj; exact h.h5
    | j + 6, hj => simp [olds] at hj
theorem olds_of_C {w : World} {G c : Nat} {e base : Nat} {ok : Nat → Prop} (h : Kd.R Kd.string e w base ok (.slice (some ⟨G, 0, none⟩) 6 c) olds) : OldsAt w G := by
  obtain ⟨_, _, hC⟩ := Kd.R_reads' h
  have at_ : ∀ k, k < 6 → w.cell? ⟨G, k, none⟩ = some (.string (olds.getD k ByteArray.empty)) := by
    intro k hk
    obtain ⟨ad, e, hc⟩ := Kd.at_string hC k (by omega) (by simp only [olds]; simp; omega)
    cases e
    have : (⟨G, 0, none⟩ : Addr).add k = ⟨G, k, none⟩ := by simp [Addr.add]; exact fun h => h.symm
    rw [show ((k : Nat) : Int).toNat = k by omega, this] at hc
    exact hc
  exact ⟨at_ 0 (by omega), at_ 1 (by omega), at_ 2 (by omega), at_ 3 (by omega), at_ 4 (by omega), at_ 5 (by omega)⟩
def NewPost (w : World) (e : Ending) (w' : World) : Prop :=
  ∃ N G c, e = .returned (.pointer (some ⟨N, 0, none⟩)) ∧ Fresh w' N G c ∧ OldsAt w' G ∧ w.heap.size ≤ N ∧ Below w.heap.size w w'
set_option maxHeartbeats 2000000 in
set_option maxRecDepth 100000 in
theorem new_calls (G0 : Nat) (w : World) (ho : OldsAt w G0) :
    Calls Tryz.prog 15 #[.slice (some ⟨G0, 0, none⟩) 6 6] w (NewPost w) := by
  have HO := Lib.hid ho; clear ho
  go_enter Tryz.func15, Tryz.ntmps15
  go_wp2_with (first | (at_builtin; refine Kd.R_append_row Value.string ByteArray.empty (h1 := fun _ => rfl) (w0 := w) w.heap.size rfl (.const (.slice none 0 0)) (.tmp 8) 40 9 (.string ⟨#[]⟩) 16 rfl Tryz.underlying40 info_strR rfl (by decide) _ [] olds (some ⟨G0, 0, none⟩) 6 6 (fun _ => True) rfl rfl (fun _ _ => trivial) ?aO ?aR ?aB ?aS ?aL ?_; (case aO => exact Kd.R_nil _ _ _ _ _); (case aR => exact olds_C HO.out); (case aB => exact Below.refl _ _); (case aS => exact Nat.le_refl _); (case aL => decide); intro v1 w1 hr hb hg hat; obtain ⟨G, c1, hv1, hge, hlt, -⟩ := Kd.R_form hr (by decide); change v1 = .slice (some ⟨G, 0, none⟩) 6 c1 at hv1; subst hv1; have HR := Lib.hid (olds_of_C hr); have HB := Lib.hid hb; clear hr hb hg hat))
  go_ret
  refine ⟨w1.heap.size, G, c1, rfl, ⟨(World.cell?_alloc_new _ _ _ _).trans rfl, (World.cell?_alloc_new _ _ _ _).trans rfl, ⟨_, (World.cell?_alloc_new _ _ _ _).trans rfl⟩, (World.cell?_alloc_new _ _ _ _).trans rfl, ?_, by omega⟩, HR.out.below ((Below.refl _ _).alloc (Nat.le_refl _) _), HB.out.size, HB.out.alloc HB.out.size _⟩
  intro j
  simp only [World.frozen?, heap_new]
  simp
set_option maxHeartbeats 2000000 in
set_option maxRecDepth 100000 in
theorem replace_calls (N G c : Nat) (s : ByteArray) (hs : s.size ≤ 1000000) (w : World) (hF : Fresh w N G c) (ho : OldsAt w G) :
    Calls Tryz.prog 16 #[.pointer (some ⟨N, 0, none⟩), .string s] w fun e w' => e = .returned (.string (escS s)) ∧ Below N w w' := by
  have hN : N < w.heap.size := cell_lt hF.c0
  have HF := Lib.hid hF; clear hF
  have HO := Lib.hid ho; clear ho
  have hmf : ∀ (fn : Fn) (first cap : Array Value) (w : World), (Instr.makeFunc fn first cap).run Tryz.prog w = .ok (.func fn first cap) w := fun _ _ _ _ => rfl
  go_enter Tryz.func16, Tryz.ntmps16
  go_wp2_with fail
  refine (do_calls N G c w HF.out HO.out).mono ?_
  rintro e w1 ⟨Q, TL, rfl, h1, h2, h3⟩
  obtain ⟨g, cap, hS⟩ := seen_of_tabl h2
  have HS := Lib.hid hS; have H3 := Lib.hid h3; clear h2 h3 hS
  go_wp2_with fail
  refine (bsr_calls Q g cap s hs w1 HS.out).mono ?_
  rintro e w2 ⟨rfl, hb2⟩
  have HB := Lib.hid (H3.out.trans (hb2.mono (Nat.le_trans (Nat.le_of_lt hN) H3.out.size))); clear hb2
  go_wp2
  go_ret
  exact ⟨rfl, HB.out⟩
def quoteS (s : ByteArray) : ByteArray := ⟨(Lx.quote s.data.toList).toArray⟩
theorem quote_bad {s : ByteArray} {c : UInt8} (hc : c ∈ s.data.toList) (h : Lx.mayc c = false) : quoteS s = ByteArray.empty := by
  have hn : Lx.body s.data.toList = none := by
    cases hb : Lx.body s.data.toList with
    | none => rfl
    | some b =>
      have := (Lx.body_some s.data.toList).2 ⟨b, hb⟩ c hc
      rw [h] at this; cases this
  show (⟨(Lx.quote s.data.toList).toArray⟩ : ByteArray) = _
  rw [Lx.quote, hn]
  rfl
theorem quote_good {s : ByteArray} (h : ∀ c ∈ s.data.toList, Lx.mayc c = true) : (⟨#[34]⟩ : ByteArray) ++ escS s ++ ⟨#[34]⟩ = quoteS s := by
  apply str_ext
  rw [ByteArray.data_append, ByteArray.data_append, Array.toList_append, Array.toList_append]
  show [34] ++ Lx.escs s.data.toList ++ [34] = Lx.quote s.data.toList
  rw [Lx.quote, Lx.body_escs _ h]
  rfl
theorem escS_size (s : ByteArray) : (escS s).size ≤ 4 * s.size := by
  have h1 := Lx.escs_length s.data.toList
  have h2 := Lx.cnt_le 3 s.data.toList
  show (Lx.escs s.data.toList).length ≤ _
  rw [data_length] at h1 h2
  omega
theorem mayc_iff (c : UInt8) : Lx.mayc c = true ↔ c.toNat = 10 ∨ (32 ≤ c.toNat ∧ c.toNat ≠ 127) := by
  simp only [Lx.mayc, Bool.or_eq_true, Bool.and_eq_true, decide_eq_true_eq, beq_iff_eq, bne_iff_ne, ne_eq, ← UInt8.toNat_inj]
  rfl
set_option maxHeartbeats 2000000 in
set_option maxRecDepth 100000 in
theorem Quote_calls (s : ByteArray) (hs : s.size ≤ 1000000) (w : World) :
    Calls Tryz.prog 7 #[.string s] w fun e w' => e = .returned (.string (quoteS s)) ∧ Below w.heap.size w w' := by
  go_enter Tryz.func7, Tryz.ntmps7
  go_wp2
  go_loop [6] (fun iv => ∃ k : Nat, k ≤ s.size ∧ iv = .int .i64 k ∧ Aside0 (∀ c ∈ s.data.toList.take k, Lx.mayc c = true)) (fun i => s.size - (intOf i).toNat)
  case atStart => exact ⟨0, Nat.zero_le _, rfl, ⟨by simp⟩⟩
  case round =>
    obtain ⟨k, hk, rfl, HM⟩ := hrel
    by_cases hlt : k < s.size
    · obtain ⟨hc1, hc2⟩ := byteTake s k hlt
      have HC1 := Lib.hid hc1; have HC2 := Lib.hid hc2; clear hc1 hc2
      have hmi := mayc_iff (s[k]'hlt)
      have HMI := Lib.hid hmi; clear hmi
      have next : Lx.mayc (s[k]'hlt) = true → ∀ c ∈ s.data.toList.take (k + 1), Lx.mayc c = true := by
        intro h c hc
        rw [HC2.out] at hc
        rcases List.mem_append.1 hc with hc | hc
        · exact HM.out c hc
        · rw [List.mem_singleton.1 hc]; exact h
      have HNX := Lib.hid next; clear next
      by_cases h127 : (s[k]'hlt).toNat = 127
      · have t1 : ((s[k]'hlt).toNat : Int) = 127 := by omega
        have t2 : (((s[k]'hlt).toNat : Int) == 127) = true := by simp [h127]
        have t3 : ¬ ((s[k]'hlt).toNat : Int) < 32 := by omega
        have HQ := Lib.hid (quote_bad HC1.out (by rw [Bool.eq_false_iff]; intro h; have := HMI.out.1 h; omega))
        have H127 := Lib.hid h127; clear h127 t1
        go_wp2
        go_ret
        exact ⟨ret_str HQ.out.symm, Below.refl _ _⟩
      · have t2 : (((s[k]'hlt).toNat : Int) == 127) = false := by simp; omega
        by_cases h10 : (s[k]'hlt).toNat = 10
        · have t3 : ((s[k]'hlt).toNat : Int) < 32 := by omega
          have t4 : (((s[k]'hlt).toNat : Int) == 10) = true := by simp [h10]
          have t5 : (((s[k]'hlt).toNat : Int) != 10) = false := by simp [h10]
          have t6 : ((s[k]'hlt).toNat : Int) = 10 := by omega
          have HO := Lib.hid (HNX.out (HMI.out.2 (.inl h10)))
          clear h127
          have H10 := Lib.hid h10; clear h10
          go_wp2
          go_round
          case rel => exact ⟨k + 1, by omega, by go_num, ⟨HO.out⟩⟩
          case measure => simp [intOf]; omega
        · have t4 : (((s[k]'hlt).toNat : Int) == 10) = false := by simp; omega
          have t5 : (((s[k]'hlt).toNat : Int) != 10) = true := by simp; omega
          have t6 : ¬ ((s[k]'hlt).toNat : Int) = 10 := by omega
          by_cases h32 : (s[k]'hlt).toNat < 32
          · have t3 : ((s[k]'hlt).toNat : Int) < 32 := by omega
            have HQ := Lib.hid (quote_bad HC1.out (by rw [Bool.eq_false_iff]; intro h; have := HMI.out.1 h; omega))
            clear h127 h10
            go_wp2
            go_ret
            exact ⟨ret_str HQ.out.symm, Below.refl _ _⟩
          · have t3 : ¬ ((s[k]'hlt).toNat : Int) < 32 := by omega
            have HO := Lib.hid (HNX.out (HMI.out.2 (.inr ⟨by omega, h127⟩)))
            clear h127 h10
            go_wp2
            go_round
            case rel => exact ⟨k + 1, by omega, by go_num, ⟨HO.out⟩⟩
            case measure => simp [intOf]; omega
    · obtain rfl : k = s.size := by omega
      have hm := HM.out
      rw [← data_length, List.take_length] at hm
      have HQ := Lib.hid (quote_good hm)
      have hz := escS_size s
      clear hm HM
      go_wp2_with fail
      refine (new_calls w.heap.size _ ⟨(World.cell?_alloc_new _ _ _ _).trans rfl, (World.cell?_alloc_new _ _ _ _).trans rfl, (World.cell?_alloc_new _ _ _ _).trans rfl, (World.cell?_alloc_new _ _ _ _).trans rfl, (World.cell?_alloc_new _ _ _ _).trans rfl, (World.cell?_alloc_new _ _ _ _).trans rfl⟩).mono ?_
      rintro e w1 ⟨N, G, c, rfl, hF, hO, hN, hb⟩
      have hN2 : w.heap.size ≤ N := by simp at hN; omega
      have HF := Lib.hid hF; have HO := Lib.hid hO
      have HB := Lib.hid (((Below.refl w.heap.size w).alloc (Nat.le_refl _) (.cells #[.string ⟨#[34]⟩, .string ⟨#[92, 34]⟩, .string ⟨#[92]⟩, .string ⟨#[92, 92]⟩, .string ⟨#[10]⟩, .string ⟨#[92, 110]⟩] 9)).trans (hb.mono (by simp)))
      clear hF hO hb hN
      go_wp2_with fail
      refine (replace_calls N G c s hs w1 HF.out HO.out).mono ?_
      rintro e w2 ⟨rfl, hb2⟩
      have HB2 := Lib.hid (HB.out.trans (hb2.mono hN2)); clear hb2 HB
      have hq1 : (⟨#[34]⟩ : ByteArray).size = 1 := rfl
      go_wp2
      go_ret
      exact ⟨ret_str HQ.out, HB2.out⟩
end Go.Proofs.YtikbddiogneheaaGreatDoor

/- The reference's Quote: what a call of it does, of any text of at most a million bytes. -/
namespace Go.Proofs.YtikbddiogneheaaGreatDoor
open Go.RowKit Go.Gw Go.Proofs.YtikbddiogneheaaGreatDoorW.PrintWords
set_option linter.unusedVariables false
set_option linter.unusedSimpArgs false

/-- What is written so far: a mark, and what the bytes become. -/
def outS (l : List UInt8) : ByteArray := ⟨(34 :: Lx.escs l).toArray⟩
theorem outS_size (l : List UInt8) : (outS l).size ≤ 4 * l.length + 1 := by
  have h1 := Lx.escs_length l
  have h2 := Lx.cnt_le 3 l
  show (34 :: Lx.escs l).length ≤ _
  simp only [List.length_cons]
  omega
theorem outS_step {l : List UInt8} {c : UInt8} {x : ByteArray} (hx : x.data.toList = Lx.rep c) : outS l ++ x = outS (l ++ [c]) := by
  apply str_ext
  rw [ByteArray.data_append, Array.toList_append, hx]
  show 34 :: Lx.escs l ++ Lx.rep c = 34 :: Lx.escs (l ++ [c])
  rw [Lx.escs_append, Lx.escs_one]
  rfl
theorem one_mid (s : ByteArray) (k : Nat) (h : k < s.size) : (s.extract k (k + 1)).data.toList = [s[k]'h] := by
  rw [ext_mid]
  have hl : k < s.data.toList.length := by rw [Array.length_toList]; exact h
  show (s.data.toList.drop k).take (k + 1 - k) = _
  rw [show k + 1 - k = 1 by omega, List.drop_eq_getElem_cons hl]
  rfl
theorem quote_out {s : ByteArray} (h : ∀ c ∈ s.data.toList, Lx.mayc c = true) : outS s.data.toList ++ (⟨#[34]⟩ : ByteArray) = quoteS s := by
  rw [← quote_good h]
  congr 1
end Go.Proofs.YtikbddiogneheaaGreatDoor

/- lex's tests of bytes, and the reference's: what calls of them do. -/
namespace Go.Proofs.YtikbddiogneheaaGreatDoor
open Go.RowKit Go.Gw Go.Proofs.YtikbddiogneheaaGreatDoorW.PrintWords
set_option linter.unusedVariables false
set_option linter.unusedSimpArgs false

theorem digitc_iff (c : UInt8) : Lx.digitc c = true ↔ 48 ≤ c.toNat ∧ c.toNat ≤ 57 := by simp [Lx.digitc]
theorem letterc_iff (c : UInt8) : Lx.letterc c = true ↔ (97 ≤ c.toNat ∧ c.toNat ≤ 122) ∨ (65 ≤ c.toNat ∧ c.toNat ≤ 90) ∨ c.toNat = 95 := by
  simp only [Lx.letterc, Bool.or_eq_true, Bool.and_eq_true, decide_eq_true_eq, beq_iff_eq, ← UInt8.toNat_inj, or_assoc]
  rfl
theorem gapc_iff (c : UInt8) : Lx.gapc c = true ↔ c.toNat = 32 ∨ c.toNat = 9 ∨ c.toNat = 10 ∨ c.toNat = 13 := by
  simp only [Lx.gapc, Bool.or_eq_true, beq_iff_eq, ← UInt8.toNat_inj, or_assoc]
  rfl
theorem notLf_iff (c : UInt8) : Lx.notLf c = true ↔ c.toNat ≠ 10 := by
  simp only [Lx.notLf, bne_iff_ne, ne_eq, ← UInt8.toNat_inj]
  rfl
/-- What a call of a byte's test does. -/
def Tests (f : Nat) (p : UInt8 → Bool) : Prop := ∀ (c : UInt8) (w : World), Calls Tryz.prog f #[.int .u8 c.toNat] w fun e w' => e = .returned (.bool (p c)) ∧ w' = w
set_option maxHeartbeats 1000000 in
set_option maxRecDepth 100000 in
theorem digit_tests : Tests 32 Lx.digitc := by
  intro c w
  have HI := Lib.hid (digitc_iff c)
  go_enter Tryz.func32, Tryz.ntmps32
  go_wp2
  all_goals
    go_ret
    refine ⟨ret_bool ?_, rfl⟩
    rw [Bool.eq_iff_iff, HI.out]
    first | (simp; done) | (simp; omega) | omega
set_option maxHeartbeats 1000000 in
set_option maxRecDepth 100000 in
theorem letter_tests : Tests 30 Lx.letterc := by
  intro c w
  have HI := Lib.hid (letterc_iff c)
  go_enter Tryz.func30, Tryz.ntmps30
  go_wp2
  all_goals
    go_ret
    refine ⟨ret_bool ?_, rfl⟩
    rw [Bool.eq_iff_iff, HI.out]
    first | (simp; done) | (simp; omega) | omega
set_option maxHeartbeats 1000000 in
set_option maxRecDepth 100000 in
theorem gap_tests : Tests 27 Lx.gapc := by
  intro c w
  have HI := Lib.hid (gapc_iff c)
  go_enter Tryz.func27, Tryz.ntmps27
  go_wp2
  all_goals
    go_ret
    refine ⟨ret_bool ?_, rfl⟩
    rw [Bool.eq_iff_iff, HI.out]
    first | (simp; done) | (simp; omega) | omega
set_option maxHeartbeats 1000000 in
set_option maxRecDepth 100000 in
theorem hash_tests : Tests 29 Lx.notLf := by
  intro c w
  have HI := Lib.hid (notLf_iff c)
  go_enter Tryz.func29, Tryz.ntmps29
  go_wp2
  all_goals
    go_ret
    refine ⟨ret_bool ?_, rfl⟩
    rw [Bool.eq_iff_iff, HI.out]
    first | (simp; done) | (simp; omega) | omega
set_option maxHeartbeats 1000000 in
set_option maxRecDepth 100000 in
theorem word_tests : Tests 31 Lx.wordc := by
  intro c w
  go_enter Tryz.func31, Tryz.ntmps31
  go_wp2_with fail
  refine (letter_tests c _).mono ?_
  rintro e w1 ⟨rfl, rfl⟩
  obtain ⟨b, hb⟩ : ∃ b, b = Lx.letterc c := ⟨_, rfl⟩
  rw [← hb]
  have HB := Lib.hid hb; clear hb
  cases b with
  | true =>
    go_wp2
    go_ret
    exact ⟨ret_bool (by rw [Lx.wordc, ← HB.out]; rfl), rfl⟩
  | false =>
    go_wp2_with fail
    refine (digit_tests c _).mono ?_
    rintro e w1 ⟨rfl, rfl⟩
    go_wp2
    go_ret
    exact ⟨ret_bool (by rw [Lx.wordc, ← HB.out]; rfl), rfl⟩

/-- How many bytes a text begins with that are such. -/
def len (p : UInt8 → Bool) (s : ByteArray) : Nat := (s.data.toList.takeWhile p).length
theorem len_stop {p : UInt8 → Bool} {s : ByteArray} {k : Nat} (hk : k < s.size) (h : ∀ c ∈ s.data.toList.take k, p c = true) (hp : p (s[k]'hk) = false) : len p s = k := by
  have hl : k < s.data.toList.length := by rw [Array.length_toList]; exact hk
  have e : s.data.toList = s.data.toList.take k ++ (s[k]'hk) :: s.data.toList.drop (k + 1) := by
    conv => lhs; rw [← List.take_append_drop k s.data.toList, List.drop_eq_getElem_cons hl]
    rfl
  rw [len, e, Lx.takeWhile_all p _ h, List.takeWhile_cons_of_neg (by rw [hp]; simp), List.append_nil, List.length_take]
  omega
theorem len_all {p : UInt8 → Bool} {s : ByteArray} (h : ∀ c ∈ s.data.toList, p c = true) : len p s = s.size := by
  have := Lx.takeWhile_all p s.data.toList h []
  rw [List.append_nil] at this
  rw [len, this]
  simp [data_length]
set_option maxHeartbeats 1000000 in
set_option maxRecDepth 100000 in
theorem run_calls (g : Nat) (p : UInt8 → Bool) (eg : ∀ args w, (callFunc g args).run Tryz.prog w = .ok (.enter g args) w) (hp : Tests g p) (s : ByteArray) (hs : s.size ≤ 1000000) (w : World) :
    Calls Tryz.prog 28 #[.string s, .func (.func g) #[] #[]] w fun e w' => e = .returned (.int .i64 (len p s)) ∧ w' = w := by
  go_enter Tryz.func28, Tryz.ntmps28
  go_wp2
  go_loop [5] (fun iv => ∃ k : Nat, k ≤ s.size ∧ iv = .int .i64 k ∧ Aside0 (∀ c ∈ s.data.toList.take k, p c = true)) (fun i => s.size - (intOf i).toNat)
  case atStart => exact ⟨0, Nat.zero_le _, rfl, ⟨by simp⟩⟩
  case round =>
    obtain ⟨k, hk, rfl, HM⟩ := hrel
    by_cases hlt : k < s.size
    · obtain ⟨hc1, hc2⟩ := byteTake s k hlt
      have HC1 := Lib.hid hc1; have HC2 := Lib.hid hc2; clear hc1 hc2
      go_wp2_with fail
      refine (hp (s[k]'hlt) _).mono ?_
      rintro e w1 ⟨rfl, rfl⟩
      cases hb : p (s[k]'hlt) with
      | true =>
        have next : ∀ c ∈ s.data.toList.take (k + 1), p c = true := by
          intro c hc
          rw [HC2.out] at hc
          rcases List.mem_append.1 hc with hc | hc
          · exact HM.out c hc
          · rw [List.mem_singleton.1 hc]; exact hb
        have HNX := Lib.hid next; clear next hb
        go_wp2
        go_round
        case rel => exact ⟨k + 1, by omega, by go_num, ⟨HNX.out⟩⟩
        case measure => simp [intOf]; omega
      | false =>
        have HL := Lib.hid (len_stop hlt HM.out hb); clear hb
        go_wp2
        go_ret
        exact ⟨ret_int (by rw [HL.out]), rfl⟩
    · obtain rfl : k = s.size := by omega
      have hm := HM.out
      rw [← data_length, List.take_length] at hm
      have HL := Lib.hid (len_all hm); clear hm HM
      go_wp2
      go_ret
      exact ⟨ret_int (by rw [HL.out]), rfl⟩
end Go.Proofs.YtikbddiogneheaaGreatDoor

/- lex.quoted: what a call of it does, of any text with a byte, of at most a million. -/
namespace Go.Proofs.YtikbddiogneheaaGreatDoor
open Go.RowKit Go.Gw Go.Proofs.YtikbddiogneheaaGreatDoorW.PrintWords
set_option linter.unusedVariables false
set_option linter.unusedSimpArgs false

def natsOf (l : List UInt8) : List Int := l.map fun c => (c.toNat : Int)
theorem strOf_nats (l : List UInt8) : strOfNums (natsOf l) = ⟨l.toArray⟩ := by
  show (⟨_⟩ : ByteArray) = ⟨_⟩
  simp [natsOf, List.map_map, Function.comp_def]
theorem natsOf_snoc (l : List UInt8) (c : UInt8) : natsOf l ++ [(c.toNat : Int)] = natsOf (l ++ [c]) := by simp [natsOf]
/-- What quoted hands back. -/
def quotedV : Option (List UInt8 × Nat) → Value
  | none => .tuple #[.string ⟨#[]⟩, .int .i64 0]
  | some (t, n) => .tuple #[.string ⟨t.toArray⟩, .int .i64 (n + 1 : Nat)]
/-- What has been read ahead of the rest. -/
def readq (o : List UInt8) (k : Nat) : Option (List UInt8 × Nat) → Option (List UInt8 × Nat)
  | none => none
  | some (t, n) => some (o ++ t, n + k)
theorem drop_at {s : ByteArray} {k : Nat} (h : k < s.size) : s.data.toList.drop k = (s[k]'h) :: s.data.toList.drop (k + 1) := by
  have hl : k < s.data.toList.length := by rw [Array.length_toList]; exact h
  rw [List.drop_eq_getElem_cons hl]
  rfl
set_option maxHeartbeats 2000000 in
set_option maxRecDepth 100000 in
theorem quoted_calls (s : ByteArray) (hs : s.size ≤ 1000000) (h1 : 1 ≤ s.size) (w : World) :
    Calls Tryz.prog 34 #[.string s] w fun e w' => e = .returned (quotedV (Lx.quoted (s.data.toList.drop 1))) ∧ Below w.heap.size w w' := by
  obtain ⟨R0, hR0⟩ : ∃ R0, R0 = Lx.quoted (s.data.toList.drop 1) := ⟨_, rfl⟩
  rw [← hR0]
  have HR0 := Lib.hid hR0; clear hR0
  go_enter Tryz.func34, Tryz.ntmps34
  go_wp2
  go_loopw [4, 5] (fun ov iv wr => ∃ (k : Nat) (o : List UInt8), 1 ≤ k ∧ k ≤ s.size ∧ o.length ≤ k ∧ iv = .int .i64 k ∧ Aside0 (Kd.R (Kd.int .u8) 5 wr w.heap.size (fun _ => True) ov (natsOf o)) ∧ Aside0 (R0 = readq o (k - 1) (Lx.quoted (s.data.toList.drop k))) ∧ Aside0 (Below w.heap.size w wr)) (fun _ i _ => s.size - (intOf i).toNat)
  case atStart => exact ⟨1, [], Nat.le_refl _, h1, by simp, rfl, ⟨Kd.R_nil _ _ _ _ _⟩, ⟨by rw [HR0.out]; cases Lx.quoted (s.data.toList.drop 1) <;> rfl⟩, ⟨Below.refl _ _⟩⟩
  case round =>
    obtain ⟨k, o, hk1, hk, hok, rfl, HO, HQ, HW⟩ := hrel
    by_cases hlt : k < s.size
    · have hd := drop_at hlt
      have hq := HQ.out
      rw [hd, Lx.quoted_cons] at hq
      have HD := Lib.hid hd; clear hd
      obtain ⟨A4, c4, hu⟩ := Kd.R_slice HO.out
      obtain ⟨n4, hn4⟩ : ∃ n4, n4 = (natsOf o).length := ⟨_, rfl⟩
      rw [← hn4] at hu
      subst hu
      have hn5 : n4 = o.length := hn4.trans (by simp [natsOf])
      have HN4 := Lib.hid hn4
      have hn6 : n4 ≤ 1000000 := by omega
      clear hn4 hn5
      by_cases h34 : (s[k]'hlt).toNat = 34
      · have t1 : (((s[k]'hlt).toNat : Int) == 34) = true := by simp [h34]
        rw [if_pos (UInt8.toNat_inj.1 h34)] at hq
        have HQ2 := Lib.hid hq; clear hq
        obtain ⟨hn, -, hC⟩ := Kd.R_reads' HO.out
        have hcv := Kd.C_string (P := Tryz.prog) (src := 84) (dst := 9) (c := c4) Tryz.underlying84 Tryz.underlying5 Tryz.underlying9 hC
        rw [← HN4.out, strOf_nats] at hcv
        clear hC hn
        have H34 := Lib.hid h34; clear h34
        go_wp2
        go_ret2
        refine ⟨?_, HW.out⟩
        rw [HQ2.out]
        simp only [readq, quotedV, List.append_nil]
        rw [show 1 + (k - 1) + 1 = k + 1 by omega]
        rfl
      · have t1 : (((s[k]'hlt).toNat : Int) == 34) = false := by simp; omega
        rw [if_neg (fun e => h34 (by rw [e]; rfl))] at hq
        by_cases hbad : (s[k]'hlt).toNat < 32 ∨ (s[k]'hlt).toNat = 127
        · rw [if_pos (hbad.imp id (fun h => UInt8.toNat_inj.1 h))] at hq
          have HQ2 := Lib.hid hq; clear hq
          rcases hbad with hb | hb
          · have t6 : ((s[k]'hlt).toNat : Int) < 32 := by omega
            clear h34
            go_wp2
            go_ret2
            exact ⟨by rw [HQ2.out]; rfl, HW.out⟩
          · have t6 : ¬ ((s[k]'hlt).toNat : Int) < 32 := by omega
            have t7 : (((s[k]'hlt).toNat : Int) == 127) = true := by simp [hb]
            have HBB := Lib.hid hb; clear hb h34
            go_wp2
            go_ret2
            exact ⟨by rw [HQ2.out]; rfl, HW.out⟩
        · rw [if_neg (by rintro (h | h); exact hbad (.inl h); exact hbad (.inr (by rw [h]; rfl)))] at hq
          have t6 : ¬ ((s[k]'hlt).toNat : Int) < 32 := by omega
          have t7 : (((s[k]'hlt).toNat : Int) == 127) = false := by simp; omega
          have t8 : ¬ ((s[k]'hlt).toNat : Int) = 127 := by omega
          clear hbad
          by_cases h92 : (s[k]'hlt).toNat = 92
          · have t9 : (((s[k]'hlt).toNat : Int) == 92) = true := by simp [h92]
            rw [if_pos (UInt8.toNat_inj.1 h92)] at hq
            have H92 := Lib.hid h92; clear h92 h34
            by_cases hlt2 : k + 1 < s.size
            · by_cases hd2 : (s[k + 1]'hlt2).toNat = 34
              · have hat : Lib.indexByte [34, 92, 110] (s[k + 1]'hlt2) = 0 := by rw [UInt8.toNat_inj.1 (show (s[k + 1]'hlt2).toNat = (34 : UInt8).toNat from hd2)]; rfl
                have HAT := Lib.hid hat; clear hat
                rw [drop_at hlt2] at hq
                simp only [show Lx.esc (s[k + 1]'hlt2) = some 34 by rw [UInt8.toNat_inj.1 (show (s[k + 1]'hlt2).toNat = (34 : UInt8).toNat from hd2)]; rfl] at hq
                have HQ2 := Lib.hid hq; clear hq hd2
                have hx : ((⟨#[34, 92, 10]⟩ : ByteArray)[0]'(by decide)).toNat = 34 := rfl
                go_wp2_with fail
                refine (Tryz.strings_IndexByte ⟨#[34, 92, 110]⟩ ((s[k + 1]'hlt2).toNat : Nat) _).mono ?_
                rintro e w0 ⟨rfl, rfl⟩
                rw [show ((s[k + 1]'hlt2).toNat : Int).toNat.toUInt8 = s[k + 1]'hlt2 by simp, show (⟨#[34, 92, 110]⟩ : ByteArray).data.toList = [34, 92, 110] from rfl, HAT.out]
                go_wp2_with (first | (at_builtin; refine Kd.R_append (Kd.int .u8) (w0 := w) w.heap.size rfl (.tmp 50) (.tmp 53) 84 5 (.int .u8 0) 1 rfl Tryz.underlying84 info_u8R rfl (by decide) (by omega) (.slice A4 n4 c4) (natsOf o) 34 [.int .u8 34] (fun _ => True) (fun _ => False) rfl rfl ?aP (fun _ hk => hk.elim) ?aF ?aO ?aB ?aS ?aL ?_; (case aP => exact rfl); (case aF => exact (fun _ _ => trivial)); (case aO => exact HO.out); (case aB => exact HW.out); (case aS => exact HW.out.size); (case aL => rw [← HN4.out]; omega); intro v1 w1 ho hbb hg hat; have HO1 := Lib.hid ho; have HB1 := Lib.hid hbb; clear ho hbb hg hat))
                go_roundw
                case rel =>
                  refine ⟨k + 2, o ++ [34], by omega, by omega, by rw [List.length_append, List.length_singleton]; omega, by go_num, ⟨?_⟩, ⟨?_⟩, ⟨HB1.out⟩⟩
                  · rw [show natsOf (o ++ [34]) = natsOf o ++ [(34 : Int)] by simp [natsOf]]; exact HO1.out
                  · rw [HQ2.out, show k + 2 - 1 = k - 1 + 2 by omega]
                    cases Lx.quoted (s.data.toList.drop (k + 1 + 1)) with
                    | none => rfl
                    | some q => obtain ⟨t, n⟩ := q; simp only [readq, List.append_assoc, List.singleton_append, List.cons_append, List.nil_append]; congr 2; omega
                case measure => simp [intOf]; omega
              · by_cases hd3 : (s[k + 1]'hlt2).toNat = 92
                · clear hd2
                  have hat : Lib.indexByte [34, 92, 110] (s[k + 1]'hlt2) = 1 := by rw [UInt8.toNat_inj.1 (show (s[k + 1]'hlt2).toNat = (92 : UInt8).toNat from hd3)]; rfl
                  have HAT := Lib.hid hat; clear hat
                  rw [drop_at hlt2] at hq
                  simp only [show Lx.esc (s[k + 1]'hlt2) = some 92 by rw [UInt8.toNat_inj.1 (show (s[k + 1]'hlt2).toNat = (92 : UInt8).toNat from hd3)]; rfl] at hq
                  have HQ2 := Lib.hid hq; clear hq hd3
                  have hx : ((⟨#[34, 92, 10]⟩ : ByteArray)[1]'(by decide)).toNat = 92 := rfl
                  go_wp2_with fail
                  refine (Tryz.strings_IndexByte ⟨#[34, 92, 110]⟩ ((s[k + 1]'hlt2).toNat : Nat) _).mono ?_
                  rintro e w0 ⟨rfl, rfl⟩
                  rw [show ((s[k + 1]'hlt2).toNat : Int).toNat.toUInt8 = s[k + 1]'hlt2 by simp, show (⟨#[34, 92, 110]⟩ : ByteArray).data.toList = [34, 92, 110] from rfl, HAT.out]
                  go_wp2_with (first | (at_builtin; refine Kd.R_append (Kd.int .u8) (w0 := w) w.heap.size rfl (.tmp 50) (.tmp 53) 84 5 (.int .u8 0) 1 rfl Tryz.underlying84 info_u8R rfl (by decide) (by omega) (.slice A4 n4 c4) (natsOf o) 92 [.int .u8 92] (fun _ => True) (fun _ => False) rfl rfl ?aP (fun _ hk => hk.elim) ?aF ?aO ?aB ?aS ?aL ?_; (case aP => exact rfl); (case aF => exact (fun _ _ => trivial)); (case aO => exact HO.out); (case aB => exact HW.out); (case aS => exact HW.out.size); (case aL => rw [← HN4.out]; omega); intro v1 w1 ho hbb hg hat; have HO1 := Lib.hid ho; have HB1 := Lib.hid hbb; clear ho hbb hg hat))
                  go_roundw
                  case rel =>
                    refine ⟨k + 2, o ++ [92], by omega, by omega, by rw [List.length_append, List.length_singleton]; omega, by go_num, ⟨?_⟩, ⟨?_⟩, ⟨HB1.out⟩⟩
                    · rw [show natsOf (o ++ [92]) = natsOf o ++ [(92 : Int)] by simp [natsOf]]; exact HO1.out
                    · rw [HQ2.out, show k + 2 - 1 = k - 1 + 2 by omega]
                      cases Lx.quoted (s.data.toList.drop (k + 1 + 1)) with
                      | none => rfl
                      | some q => obtain ⟨t, n⟩ := q; simp only [readq, List.append_assoc, List.singleton_append, List.cons_append, List.nil_append]; congr 2; omega
                  case measure => simp [intOf]; omega
                · by_cases hd4 : (s[k + 1]'hlt2).toNat = 110
                  · clear hd2 hd3
                    have hat : Lib.indexByte [34, 92, 110] (s[k + 1]'hlt2) = 2 := by rw [UInt8.toNat_inj.1 (show (s[k + 1]'hlt2).toNat = (110 : UInt8).toNat from hd4)]; rfl
                    have HAT := Lib.hid hat; clear hat
                    rw [drop_at hlt2] at hq
                    simp only [show Lx.esc (s[k + 1]'hlt2) = some 10 by rw [UInt8.toNat_inj.1 (show (s[k + 1]'hlt2).toNat = (110 : UInt8).toNat from hd4)]; rfl] at hq
                    have HQ2 := Lib.hid hq; clear hq hd4
                    have hx : ((⟨#[34, 92, 10]⟩ : ByteArray)[2]'(by decide)).toNat = 10 := rfl
                    go_wp2_with fail
                    refine (Tryz.strings_IndexByte ⟨#[34, 92, 110]⟩ ((s[k + 1]'hlt2).toNat : Nat) _).mono ?_
                    rintro e w0 ⟨rfl, rfl⟩
                    rw [show ((s[k + 1]'hlt2).toNat : Int).toNat.toUInt8 = s[k + 1]'hlt2 by simp, show (⟨#[34, 92, 110]⟩ : ByteArray).data.toList = [34, 92, 110] from rfl, HAT.out]
                    go_wp2_with (first | (at_builtin; refine Kd.R_append (Kd.int .u8) (w0 := w) w.heap.size rfl (.tmp 50) (.tmp 53) 84 5 (.int .u8 0) 1 rfl Tryz.underlying84 info_u8R rfl (by decide) (by omega) (.slice A4 n4 c4) (natsOf o) 10 [.int .u8 10] (fun _ => True) (fun _ => False) rfl rfl ?aP (fun _ hk => hk.elim) ?aF ?aO ?aB ?aS ?aL ?_; (case aP => exact rfl); (case aF => exact (fun _ _ => trivial)); (case aO => exact HO.out); (case aB => exact HW.out); (case aS => exact HW.out.size); (case aL => rw [← HN4.out]; omega); intro v1 w1 ho hbb hg hat; have HO1 := Lib.hid ho; have HB1 := Lib.hid hbb; clear ho hbb hg hat))
                    go_roundw
                    case rel =>
                      refine ⟨k + 2, o ++ [10], by omega, by omega, by rw [List.length_append, List.length_singleton]; omega, by go_num, ⟨?_⟩, ⟨?_⟩, ⟨HB1.out⟩⟩
                      · rw [show natsOf (o ++ [10]) = natsOf o ++ [(10 : Int)] by simp [natsOf]]; exact HO1.out
                      · rw [HQ2.out, show k + 2 - 1 = k - 1 + 2 by omega]
                        cases Lx.quoted (s.data.toList.drop (k + 1 + 1)) with
                        | none => rfl
                        | some q => obtain ⟨t, n⟩ := q; simp only [readq, List.append_assoc, List.singleton_append, List.cons_append, List.nil_append]; congr 2; omega
                    case measure => simp [intOf]; omega
                  · have hat : Lib.indexByte [34, 92, 110] (s[k + 1]'hlt2) = -1 := by
                      have e1 : ((34 : UInt8) == s[k + 1]'hlt2) = false := by rw [beq_eq_false_iff_ne]; intro e; exact hd2 (by rw [← e]; rfl)
                      have e2 : ((92 : UInt8) == s[k + 1]'hlt2) = false := by rw [beq_eq_false_iff_ne]; intro e; exact hd3 (by rw [← e]; rfl)
                      have e3 : ((110 : UInt8) == s[k + 1]'hlt2) = false := by rw [beq_eq_false_iff_ne]; intro e; exact hd4 (by rw [← e]; rfl)
                      simp [Lib.indexByte, e1, e2, e3]
                    have HAT := Lib.hid hat; clear hat
                    rw [drop_at hlt2] at hq
                    simp only [show Lx.esc (s[k + 1]'hlt2) = none by unfold Lx.esc; rw [if_neg (fun e => hd2 (by rw [e]; rfl)), if_neg (fun e => hd3 (by rw [e]; rfl)), if_neg (fun e => hd4 (by rw [e]; rfl))]] at hq
                    have HQ2 := Lib.hid hq; clear hq hd2 hd3 hd4
                    go_wp2_with fail
                    refine (Tryz.strings_IndexByte ⟨#[34, 92, 110]⟩ ((s[k + 1]'hlt2).toNat : Nat) _).mono ?_
                    rintro e w0 ⟨rfl, rfl⟩
                    rw [show ((s[k + 1]'hlt2).toNat : Int).toNat.toUInt8 = s[k + 1]'hlt2 by simp, show (⟨#[34, 92, 110]⟩ : ByteArray).data.toList = [34, 92, 110] from rfl, HAT.out]
                    go_wp2
                    go_ret2
                    exact ⟨by rw [HQ2.out]; rfl, HW.out⟩
            · have hnil : s.data.toList.drop (k + 1) = [] := List.drop_eq_nil_of_le (by rw [data_length]; omega)
              rw [hnil] at hq
              have HQ2 := Lib.hid hq; clear hq hnil
              have hle : ¬ ((k : Int) + 1 < (s.size : Int)) := by omega
              go_wp2
              go_ret2
              exact ⟨by rw [HQ2.out]; rfl, HW.out⟩
          · have t9 : (((s[k]'hlt).toNat : Int) == 92) = false := by simp; omega
            have t10 : ¬ ((s[k]'hlt).toNat : Int) = 92 := by omega
            rw [if_neg (fun e => h92 (by rw [e]; rfl))] at hq
            have HQ2 := Lib.hid hq; clear hq h92 h34
            go_wp2_with (first | (at_builtin; (refine Kd.R_append (Kd.int .u8) (w0 := w) w.heap.size rfl (.tmp 17) (.tmp 19) 84 5 (.int .u8 0) 1 rfl Tryz.underlying84 info_u8R rfl (by decide) (by omega) (.slice A4 n4 c4) (natsOf o) ((s[k]'hlt).toNat : Int) [.int .u8 ((s[k]'hlt).toNat : Int)] (fun _ => True) (fun _ => False) rfl rfl ?aP (fun _ hk => hk.elim) ?aF ?aO ?aB ?aS ?aL ?_); (case aP => exact rfl); (case aF => exact (fun _ _ => trivial)); (case aO => exact HO.out); (case aB => exact HW.out); (case aS => exact HW.out.size); (case aL => rw [← HN4.out]; omega); intro v1 w1 ho hbb hg hat; have HO1 := Lib.hid ho; have HB1 := Lib.hid hbb; clear ho hbb hg hat))
            go_roundw
            case rel =>
              refine ⟨k + 1, o ++ [s[k]'hlt], by omega, by omega, by rw [List.length_append, List.length_singleton]; omega, by go_num, ⟨?_⟩, ⟨?_⟩, ⟨HB1.out⟩⟩
              · rw [← natsOf_snoc]; exact HO1.out
              · rw [HQ2.out, show k + 1 - 1 = k - 1 + 1 by omega]
                cases Lx.quoted (s.data.toList.drop (k + 1)) with
                | none => rfl
                | some q => obtain ⟨t, n⟩ := q; simp only [readq, List.append_assoc, List.singleton_append, List.cons_append, List.nil_append]; congr 2; omega
            case measure => simp [intOf]; omega
    · obtain rfl : k = s.size := by omega
      have hq := HQ.out
      rw [← data_length, List.drop_length] at hq
      have HQ2 := Lib.hid hq; clear hq
      go_wp2
      go_ret2
      exact ⟨by rw [HQ2.out]; rfl, HW.out⟩
end Go.Proofs.YtikbddiogneheaaGreatDoor

/- What digits spell, as the library reads them: in plain Lean. No program. -/
namespace Go.Lx
open Go.Lib

theorem spell_ge (l : List UInt8) : ∀ n, n ≤ spell n l := by
  induction l with
  | nil => intro n; exact Nat.le_refl _
  | cons c l ih =>
    intro n
    have := ih (10 * n + (c.toNat - 48))
    show n ≤ spell (10 * n + (c.toNat - 48)) l
    omega
theorem parseM (M : Nat) (hM : M ≤ 18446744073709551615) : ∀ (l : List UInt8) (acc : Nat), (∀ c ∈ l, digitc c = true) → acc ≤ M → parseUintM M acc l = if spell acc l ≤ M then .ok (spell acc l) else .range := by
  intro l
  induction l with
  | nil => intro acc _ h; simp [parseUintM, spell, h]
  | cons c l ih =>
    intro acc hd h
    have hc : 48 ≤ c.toNat ∧ c.toNat ≤ 57 := by simpa [digitc] using hd c (by simp)
    have e : spell acc (c :: l) = spell (10 * acc + (c.toNat - 48)) l := rfl
    have hge := spell_ge l (10 * acc + (c.toNat - 48))
    rw [parseUintM, if_pos hc, e]
    by_cases h1 : 1844674407370955162 ≤ acc
    · rw [if_pos h1, if_neg (by omega)]
    · rw [if_neg h1]
      by_cases h2 : M < acc * 10 + (c.toNat - 48)
      · rw [if_pos h2, if_neg (by omega)]
      · rw [if_neg h2, show acc * 10 + (c.toNat - 48) = 10 * acc + (c.toNat - 48) by omega]
        exact ih _ (fun x hx => hd x (by simp [hx])) (by omega)
theorem parseB (l : List UInt8) (hl : l ≠ []) (hd : ∀ c ∈ l, digitc c = true) : parseUintB 64 l = if spell 0 l ≤ 18446744073709551615 then .ok (spell 0 l) else .range := by
  rw [parseUintB, if_neg hl]
  exact parseM _ (by omega) l 0 hd (by omega)
theorem takeWhile_mem (p : UInt8 → Bool) (l : List UInt8) : ∀ c ∈ l.takeWhile p, p c = true := by
  induction l with
  | nil => intro c hc; simp at hc
  | cons x l ih =>
    intro c hc
    cases hx : p x with
    | true =>
      rw [List.takeWhile_cons_of_pos hx] at hc
      rcases List.mem_cons.1 hc with rfl | hc
      · exact hx
      · exact ih c hc
    | false => rw [List.takeWhile_cons_of_neg (by rw [hx]; simp)] at hc; simp at hc
theorem takeWhile_take (p : UInt8 → Bool) (l : List UInt8) : l.take (l.takeWhile p).length = l.takeWhile p := by
  induction l with
  | nil => rfl
  | cons x l ih =>
    cases hx : p x with
    | true => rw [List.takeWhile_cons_of_pos hx, List.length_cons, List.take_succ_cons, ih]
    | false => rw [List.takeWhile_cons_of_neg (by rw [hx]; simp)]; rfl
end Go.Lx

/- lex.number: what a call of it does, of any text that begins with a digit, of at most a million bytes. Conditions: the library's two errors of numbers as they were laid. -/
namespace Go.Proofs.YtikbddiogneheaaGreatDoor
open Go.RowKit Go.Gw Go.Proofs.YtikbddiogneheaaGreatDoorW.PrintWords
set_option linter.unusedVariables false
set_option linter.unusedSimpArgs false

/-- The library's two errors of numbers are there. -/
structure Errs (P : Program) (w : World) : Prop where
  syn : ∃ tp p, w.var? P "strconv.ErrSyntax" = some #[.iface tp p]
  rng : ∃ tp p, w.var? P "strconv.ErrRange" = some #[.iface tp p]
theorem Errs.below {P : Program} {w w' : World} (h : Errs P w) (hb : Below w.heap.size w w') : Errs P w' :=
  ⟨by obtain ⟨tp, p, h⟩ := h.syn; exact ⟨tp, p, var_below h hb⟩, by obtain ⟨tp, p, h⟩ := h.rng; exact ⟨tp, p, var_below h hb⟩⟩
/-- What ParseUint hands back of digits: the number, or some error. -/
def uintV (n : Nat) (v : Value) : Prop := if n ≤ 18446744073709551615 then v = .tuple #[.int .u64 n, .nilIface] else ∃ k t p, v = .tuple #[.int .u64 k, .iface t (.pointer (some p))]
set_option maxHeartbeats 1000000 in
set_option maxRecDepth 100000 in
theorem ParseUint_calls (s : ByteArray) (hs : s.size ≤ 1000000) (h1 : s.data.toList ≠ []) (hd : ∀ c ∈ s.data.toList, Lx.digitc c = true) (w : World) (E : Errs Tryz.prog w) :
    Calls Tryz.prog 53 #[.string s, .int .i64 10, .int .i64 64] w fun e w' => (∃ v, e = .returned v ∧ uintV (Lx.spell 0 s.data.toList) v) ∧ Below w.heap.size w w' := by
  have HE := Lib.hid E; clear E
  have hp := Lx.parseB _ h1 hd
  have HP := Lib.hid hp; clear hp hd h1
  have hI : Calls Tryz.prog 67 #[.string s, .int .i64 10, .int .i64 64] w fun e w' => e = .returned (Lib.uintTupleM 112 18446744073709551615 (Lib.parseUintB 64 s.data.toList)) ∧ Below w.heap.size w w' := by
    refine (Tryz.internal_strconv_ParseUint_10_at64 s (by omega) w).mono ?_
    rintro e w' ⟨rfl, rfl | rfl⟩
    · exact ⟨rfl, Below.refl _ _⟩
    · exact ⟨rfl, bytes_below (Below.refl _ _) (Nat.le_refl _) _ _⟩
  rw [HP.out] at hI
  by_cases hle : Lx.spell 0 s.data.toList ≤ 18446744073709551615
  · rw [if_pos hle] at hI
    have HI := Lib.hid hI; clear hI
    go_enter Tryz.func53, Tryz.ntmps53
    go_wp2_with fail
    refine HI.out.mono ?_
    rintro e w1 ⟨rfl, hb⟩
    have HB := Lib.hid hb; clear hb
    simp only [Lib.uintTupleM]
    go_wp2
    go_ret2
    exact ⟨⟨_, rfl, by unfold uintV; rw [if_pos hle]; rfl⟩, HB.out⟩
  · rw [if_neg hle] at hI
    have HI := Lib.hid hI; clear hI
    go_enter Tryz.func53, Tryz.ntmps53
    go_wp2_with fail
    refine HI.out.mono ?_
    rintro e w1 ⟨rfl, hb⟩
    have HB := Lib.hid hb; clear hb
    simp only [Lib.uintTupleM]
    obtain ⟨tp, p, hv⟩ := (HE.out.below HB.out).rng
    have h0 := World.var?_cell (show Tryz.prog.globalNamed "strconv.ErrRange" = some 2 by kernel_rfl) hv 0
    simp only [List.getElem?_toArray, List.getElem?_cons_zero] at h0
    go_wp2_with fail
    refine (Tryz.strconv_toError_range _ s 10 64 (.iface tp p) w1 (by omega) h0 (.inr ⟨tp, p, rfl⟩)).mono ?_
    rintro e w2 ⟨N, rfl, _, _, hb2⟩
    have HB2 := Lib.hid (HB.out.trans (hb2.mono HB.out.size)); clear hb2
    go_wp2
    go_ret2
    exact ⟨⟨_, rfl, by unfold uintV; rw [if_neg hle]; exact ⟨_, _, _, rfl⟩⟩, HB2.out⟩

/-- Three results, the first a variable's cells. -/
theorem results_cell3 {P : Program} {fn : Func} {p u v : Tmp} {ty : TypeId} (h : fn.results = #[.cell p ty, .tmp u, .tmp v]) (tmps : Array Value) (w : World) (g : Nat) (t : TypeId) (cs : Array Value) (fr : Nat × Nat) (d : TypeDesc)
    (hp : tmps.getD p undef = .pointer (some ⟨g, 0, none⟩)) (hg : w.heap[g]? = some (.cells cs t fr))
    (hu : P.underlying ty = some d) (hd : (match d with | .struct _ | .array _ _ => true | _ => false) = true) (hi : (P.info? ty).map (·.size) = some cs.size) :
    (results fn tmps).run P w = .ok (.tuple #[.agg cs, tmps.getD u undef, tmps.getD v undef]) w := by
  have hp' : tmps[p]?.getD undef = .pointer (some ⟨g, 0, none⟩) := by simpa using hp
  simp [results, h, hp', asAddr, run_loadVar_row w g t ty cs fr d hg hu hd hi]
/-- A token's cells. -/
def tokC (k : Nat) (t : List UInt8) (p : Nat × Nat) : Array Value := #[.int .i64 k, .string ⟨t.toArray⟩, .int .i64 p.1, .int .i64 p.2]
/-- What next (and number) hand back of a piece. -/
def pieceV : Lx.Piece → Value
  | .gap n => .tuple #[.agg (tokC 0 [] (0, 0)), .int .i64 n, .int .i64 0]
  | .tok k t n => .tuple #[.agg (tokC k t (0, 0)), .int .i64 n, .int .i64 0]
  | .bad e => .tuple #[.agg (tokC 0 [] (0, 0)), .int .i64 0, .int .i64 e]
theorem set4 {w : World} {B : Nat} {t : TypeId} {p q r o a b c d : Value} (h : w.heap[B]? = some (.cells #[p, q, r, o] t (0, 0))) :
    ((((w.setCell ⟨B, 0, none⟩ a).setCell ⟨B, 1, none⟩ b).setCell ⟨B, 2, none⟩ c).setCell ⟨B, 3, none⟩ d).heap[B]? = some (.cells #[a, b, c, d] t (0, 0)) :=
  (heap_set (heap_set (heap_set (heap_set h 0 a) 1 b) 2 c) 3 d).trans rfl
theorem below4 {w0 w : World} {B N : Nat} {a b c d : Value} (h : Below N w0 w) (hB : N ≤ B) :
    Below N w0 ((((w.setCell ⟨B, 0, none⟩ a).setCell ⟨B, 1, none⟩ b).setCell ⟨B, 2, none⟩ c).setCell ⟨B, 3, none⟩ d) :=
  (((h.setCell (p := ⟨B, 0, none⟩) hB _).setCell (p := ⟨B, 1, none⟩) hB _).setCell (p := ⟨B, 2, none⟩) hB _).setCell (p := ⟨B, 3, none⟩) hB _
theorem len_pos {p : UInt8 → Bool} {s : ByteArray} (h0 : 0 < s.size) (h : p (s[0]'h0) = true) : 1 ≤ len p s := by
  have hd := drop_at h0
  rw [List.drop_zero] at hd
  rw [len, hd]
  exact Lx.takeWhile_pos h
theorem len_le (p : UInt8 → Bool) (s : ByteArray) : len p s ≤ s.size := by
  rw [← data_length]
  exact (List.takeWhile_sublist p).length_le
theorem len_ext (p : UInt8 → Bool) (s : ByteArray) : (s.extract 0 (len p s)) = ⟨(s.data.toList.takeWhile p).toArray⟩ := by
  rw [ext_take, len, Lx.takeWhile_take]
set_option maxHeartbeats 2000000 in
set_option maxRecDepth 100000 in
theorem number_calls (s : ByteArray) (hs : s.size ≤ 1000000) (h0 : 0 < s.size) (hd : Lx.digitc (s[0]'h0) = true) (w : World) (E : Errs Tryz.prog w) :
    Calls Tryz.prog 33 #[.string s] w fun e w' => e = .returned (pieceV (Lx.number s.data.toList)) ∧ Below w.heap.size w w' := by
  have HE := Lib.hid E; clear E
  have eg : ∀ args w, (callFunc 32 args).run Tryz.prog w = .ok (.enter 32 args) w := enters_of Tryz.func32 (by kernel_rfl) rfl
  have hl1 := len_pos h0 hd
  have hl2 := len_le Lx.digitc s
  have HX := Lib.hid (len_ext Lx.digitc s)
  have hnum : Lx.number s.data.toList = if 1 < len Lx.digitc s ∧ (s[0]'h0).toNat = 48 then .bad 3 else if 9223372036854775807 < Lx.spell 0 (s.data.toList.takeWhile Lx.digitc) then .bad 2 else .tok 2 (s.data.toList.takeWhile Lx.digitc) (len Lx.digitc s) := by
    have hdr := drop_at h0
    rw [List.drop_zero] at hdr
    have hh : s.data.toList.head? = some 48 ↔ (s[0]'h0).toNat = 48 := by
      rw [hdr, List.head?_cons, Option.some.injEq, ← UInt8.toNat_inj]
      rfl
    unfold Lx.number
    simp only [hh]
    rfl
  have HN := Lib.hid hnum; clear hnum
  have hne : s.data.toList.takeWhile Lx.digitc ≠ [] := by
    intro e
    have : len Lx.digitc s = 0 := by rw [len, e]; rfl
    omega
  have HNE := Lib.hid hne; clear hne hd
  have HLen : Hid (len Lx.digitc s = (s.data.toList.takeWhile Lx.digitc).length) := rfl
  generalize hn : len Lx.digitc s = n at hl1 hl2 HX HN HLen
  have HRN := Lib.hid hn; clear hn
  go_enter Tryz.func33, Tryz.ntmps33
  go_wp2_with fail
  refine (run_calls 32 Lx.digitc eg digit_tests s hs _).mono ?_
  rintro e w1 ⟨rfl, rfl⟩
  rw [HRN.out]
  by_cases h3 : 1 < n ∧ (s[0]'h0).toNat = 48
  · rw [if_pos h3] at HN
    obtain ⟨h4, h5⟩ := h3
    have t2 : (((s[0]'h0).toNat : Int) == 48) = true := by simp [h5]
    have H5 := Lib.hid h5; clear h5
    go_wp2
    refine bodyPost_ret (results_cell3 rfl _ _ w.heap.size 35 (tokC 0 [] (0, 0)) (0, 0) _ rfl ?hg Tryz.underlying35 rfl (by kernel_rfl)) rfl ?_
    case hg => exact heap_new _ _
    exact ⟨by rw [HN.out]; rfl, (Below.refl _ _).alloc (Nat.le_refl _) _⟩
  · rw [if_neg h3] at HN
    have E2 : Hid (s.extract 0 n = ⟨(s.data.toList.takeWhile Lx.digitc).toArray⟩) := HX.out
    have hsz : (s.extract 0 n).size = n := by rw [ByteArray.size_extract]; omega
    have t0 : ¬ ((1 : Int) < (n : Int)) ∨ ((1 : Int) < (n : Int) ∧ (((s[0]'h0).toNat : Int) == 48) = false) := by
      by_cases h4 : 1 < n
      · exact .inr ⟨by omega, by simp; intro h5; exact h3 ⟨h4, by omega⟩⟩
      · exact .inl (by omega)
    clear h3
    have HPU : Hid (∀ w1, Errs Tryz.prog w1 → Calls Tryz.prog 53 #[.string (s.extract 0 n), .int .i64 10, .int .i64 64] w1 fun e w' => (∃ v, e = .returned v ∧ uintV (Lx.spell 0 (s.data.toList.takeWhile Lx.digitc)) v) ∧ Below w1.heap.size w1 w') := by
      intro w1 E1
      have h := ParseUint_calls (s.extract 0 n) (by omega) (by rw [E2.out]; exact HNE.out) (by rw [E2.out]; exact Lx.takeWhile_mem _ _) w1 E1
      rwa [show (s.extract 0 n).data.toList = s.data.toList.takeWhile Lx.digitc by rw [E2.out]] at h
    have goon : True := trivial
    rcases t0 with t0 | ⟨t0, t1⟩
    · go_wp2_with fail
      refine (HPU.out _ (HE.out.below ((Below.refl _ _).alloc (Nat.le_refl _) _))).mono ?_
      rintro e w2 ⟨⟨v, rfl, hv⟩, hb⟩
      have hw := (hb.block w.heap.size (by simp)).trans (heap_new _ _)
      have c0 : w2.cell? ⟨w.heap.size, 0, none⟩ = some (.int .i64 0) := by simp [World.cell?, hw]
      have c1 : w2.cell? ⟨w.heap.size, 1, none⟩ = some (.string ⟨#[]⟩) := by simp [World.cell?, hw]
      have c2 : w2.cell? ⟨w.heap.size, 2, none⟩ = some (.int .i64 0) := by simp [World.cell?, hw]
      have c3 : w2.cell? ⟨w.heap.size, 3, none⟩ = some (.int .i64 0) := by simp [World.cell?, hw]
      have f0 : ∀ j, w2.frozen? ⟨w.heap.size, j, none⟩ = false := by intro j; simp [World.frozen?, hw]
      have HW := Lib.hid hw
      have HB := Lib.hid (((Below.refl w.heap.size w).alloc (Nat.le_refl _) _).trans (hb.mono (by simp)))
      clear hb hw
      by_cases hle : Lx.spell 0 (s.data.toList.takeWhile Lx.digitc) ≤ 18446744073709551615
      · rw [uintV, if_pos hle] at hv
        subst hv
        by_cases hbig : 9223372036854775807 < Lx.spell 0 (s.data.toList.takeWhile Lx.digitc)
        · rw [if_pos hbig] at HN
          generalize Lx.spell 0 (s.data.toList.takeWhile Lx.digitc) = u at hle hbig
          have hbi : (9223372036854775807 : Int) < (u : Int) := by omega
          go_wp2
          refine bodyPost_ret (results_cell3 rfl _ _ w.heap.size 35 (tokC 0 [] (0, 0)) (0, 0) _ rfl ?hg Tryz.underlying35 rfl (by kernel_rfl)) rfl ?_
          case hg => exact set4 HW.out
          exact ⟨by rw [HN.out]; rfl, below4 HB.out (Nat.le_refl _)⟩
        · rw [if_neg hbig] at HN
          generalize Lx.spell 0 (s.data.toList.takeWhile Lx.digitc) = u at hle hbig
          have hbi : ¬ ((9223372036854775807 : Int) < (u : Int)) := by omega
          go_wp2
          rw [E2.out]
          refine bodyPost_ret (results_cell3 rfl _ _ w.heap.size 35 (tokC 2 (s.data.toList.takeWhile Lx.digitc) (0, 0)) (0, 0) _ rfl ?hg Tryz.underlying35 rfl (by kernel_rfl)) rfl ?_
          case hg => exact set4 HW.out
          exact ⟨by rw [HN.out]; rfl, below4 HB.out (Nat.le_refl _)⟩
      · rw [uintV, if_neg hle] at hv
        obtain ⟨kk, tt, pp, rfl⟩ := hv
        rw [if_pos (by omega)] at HN
        clear hle
        go_wp2
        refine bodyPost_ret (results_cell3 rfl _ _ w.heap.size 35 (tokC 0 [] (0, 0)) (0, 0) _ rfl ?hg Tryz.underlying35 rfl (by kernel_rfl)) rfl ?_
        case hg => exact set4 HW.out
        exact ⟨by rw [HN.out]; rfl, below4 HB.out (Nat.le_refl _)⟩
    · go_wp2_with fail
      refine (HPU.out _ (HE.out.below ((Below.refl _ _).alloc (Nat.le_refl _) _))).mono ?_
      rintro e w2 ⟨⟨v, rfl, hv⟩, hb⟩
      have hw := (hb.block w.heap.size (by simp)).trans (heap_new _ _)
      have c0 : w2.cell? ⟨w.heap.size, 0, none⟩ = some (.int .i64 0) := by simp [World.cell?, hw]
      have c1 : w2.cell? ⟨w.heap.size, 1, none⟩ = some (.string ⟨#[]⟩) := by simp [World.cell?, hw]
      have c2 : w2.cell? ⟨w.heap.size, 2, none⟩ = some (.int .i64 0) := by simp [World.cell?, hw]
      have c3 : w2.cell? ⟨w.heap.size, 3, none⟩ = some (.int .i64 0) := by simp [World.cell?, hw]
      have f0 : ∀ j, w2.frozen? ⟨w.heap.size, j, none⟩ = false := by intro j; simp [World.frozen?, hw]
      have HW := Lib.hid hw
      have HB := Lib.hid (((Below.refl w.heap.size w).alloc (Nat.le_refl _) _).trans (hb.mono (by simp)))
      clear hb hw
      by_cases hle : Lx.spell 0 (s.data.toList.takeWhile Lx.digitc) ≤ 18446744073709551615
      · rw [uintV, if_pos hle] at hv
        subst hv
        by_cases hbig : 9223372036854775807 < Lx.spell 0 (s.data.toList.takeWhile Lx.digitc)
        · rw [if_pos hbig] at HN
          generalize Lx.spell 0 (s.data.toList.takeWhile Lx.digitc) = u at hle hbig
          have hbi : (9223372036854775807 : Int) < (u : Int) := by omega
          go_wp2
          refine bodyPost_ret (results_cell3 rfl _ _ w.heap.size 35 (tokC 0 [] (0, 0)) (0, 0) _ rfl ?hg Tryz.underlying35 rfl (by kernel_rfl)) rfl ?_
          case hg => exact set4 HW.out
          exact ⟨by rw [HN.out]; rfl, below4 HB.out (Nat.le_refl _)⟩
        · rw [if_neg hbig] at HN
          generalize Lx.spell 0 (s.data.toList.takeWhile Lx.digitc) = u at hle hbig
          have hbi : ¬ ((9223372036854775807 : Int) < (u : Int)) := by omega
          go_wp2
          rw [E2.out]
          refine bodyPost_ret (results_cell3 rfl _ _ w.heap.size 35 (tokC 2 (s.data.toList.takeWhile Lx.digitc) (0, 0)) (0, 0) _ rfl ?hg Tryz.underlying35 rfl (by kernel_rfl)) rfl ?_
          case hg => exact set4 HW.out
          exact ⟨by rw [HN.out]; rfl, below4 HB.out (Nat.le_refl _)⟩
      · rw [uintV, if_neg hle] at hv
        obtain ⟨kk, tt, pp, rfl⟩ := hv
        rw [if_pos (by omega)] at HN
        clear hle
        go_wp2
        refine bodyPost_ret (results_cell3 rfl _ _ w.heap.size 35 (tokC 0 [] (0, 0)) (0, 0) _ rfl ?hg Tryz.underlying35 rfl (by kernel_rfl)) rfl ?_
        case hg => exact set4 HW.out
        exact ⟨by rw [HN.out]; rfl, below4 HB.out (Nat.le_refl _)⟩
end Go.Proofs.YtikbddiogneheaaGreatDoor

/- lex's functions that the print does not take, in the print's form: each a Lean function with its contract. Conditions: each contract's own; 'Gl': the library's two errors of numbers as they were laid. -/
namespace Go.Proofs.YtikbddiogneheaaGreatDoor.G
open Go.RowKit Go.Gw Go.Proofs.YtikbddiogneheaaGreatDoorW.PrintWords
set_option linter.unusedVariables false
set_option linter.unusedSimpArgs false

/-- What is asked of the world. -/
structure Gl (w : World) : Prop where
  errs : Errs Tryz.prog w
theorem Gl.below {w w' : World} (h : Gl w) (hb : Below w.heap.size w w') : Gl w' := ⟨h.errs.below hb⟩
theorem drawn {w : World} : Drawn0 w w := Drawn0.refl w

def lex_run.f (a0 : ByteArray) (a1 : Nat) : Option Int :=
  if a0.size ≤ 1000000 then
    if a1 = 27 then some (len Lx.gapc a0 : Nat)
    else if a1 = 29 then some (len Lx.notLf a0 : Nat)
    else if a1 = 31 then some (len Lx.wordc a0 : Nat)
    else none
  else none
theorem lex_run.calls (a0 : ByteArray) (a1 : Nat) (r : Int) (w : World) (h : lex_run.f a0 a1 = some r) :
    Calls Tryz.prog 28 #[.string a0, .func (.func a1) #[] #[]] w fun e w' => e = .returned (.int .i64 r) ∧ Drawn0 w w' := by
  unfold lex_run.f at h
  split at h
  · rename_i hs
    split at h
    · rename_i ha
      subst ha
      cases h
      refine (run_calls 27 Lx.gapc (enters_of Tryz.func27 (by kernel_rfl) rfl) gap_tests a0 hs w).mono ?_
      rintro e w' ⟨rfl, rfl⟩
      exact ⟨rfl, drawn⟩
    · split at h
      · rename_i ha
        subst ha
        cases h
        refine (run_calls 29 Lx.notLf (enters_of Tryz.func29 (by kernel_rfl) rfl) hash_tests a0 hs w).mono ?_
        rintro e w' ⟨rfl, rfl⟩
        exact ⟨rfl, drawn⟩
      · split at h
        · rename_i ha
          subst ha
          cases h
          refine (run_calls 31 Lx.wordc (enters_of Tryz.func31 (by kernel_rfl) rfl) word_tests a0 hs w).mono ?_
          rintro e w' ⟨rfl, rfl⟩
          exact ⟨rfl, drawn⟩
        · cases h
  · cases h

/-- What number and next hand back: kind, text, place, size, error. -/
def pieceT : Lx.Piece → Int × ByteArray × Int × Int × Int × Int
  | .gap n => (0, ⟨#[]⟩, 0, 0, n, 0)
  | .tok k t n => (k, ⟨t.toArray⟩, 0, 0, n, 0)
  | .bad e => (0, ⟨#[]⟩, 0, 0, 0, e)
theorem pieceV_T (p : Lx.Piece) : pieceV p = .tuple #[.agg #[.int .i64 (pieceT p).1, .string (pieceT p).2.1, .int .i64 (pieceT p).2.2.1, .int .i64 (pieceT p).2.2.2.1], .int .i64 (pieceT p).2.2.2.2.1, .int .i64 (pieceT p).2.2.2.2.2] := by
  cases p <;> rfl
def lex_number.f (a0 : ByteArray) : Option (Int × ByteArray × Int × Int × Int × Int) :=
  if h : 0 < a0.size ∧ a0.size ≤ 1000000 then if Lx.digitc (a0[0]'h.1) = true then some (pieceT (Lx.number a0.data.toList)) else none else none
theorem lex_number.calls (a0 : ByteArray) (r1 : Int) (r2 : ByteArray) (r3 r4 r5 r6 : Int) (w : World) (hgl : Gl w) (h : lex_number.f a0 = some (r1, r2, r3, r4, r5, r6)) :
    Calls Tryz.prog 33 #[.string a0] w fun e w' => e = .returned (.tuple #[.agg #[.int .i64 r1, .string r2, .int .i64 r3, .int .i64 r4], .int .i64 r5, .int .i64 r6]) ∧ Below w.heap.size w w' := by
  unfold lex_number.f at h
  split at h
  · rename_i hs
    split at h
    · rename_i hd
      have h' := Option.some.inj h
      refine (number_calls a0 hs.2 hs.1 hd w hgl.errs).mono ?_
      rintro e w' ⟨rfl, hb⟩
      refine ⟨?_, hb⟩
      rw [pieceV_T, h']
    · cases h
  · cases h

def quotedT : Option (List UInt8 × Nat) → ByteArray × Int
  | none => (⟨#[]⟩, 0)
  | some (t, n) => (⟨t.toArray⟩, (n + 1 : Nat))
theorem quotedV_T (p : Option (List UInt8 × Nat)) : quotedV p = .tuple #[.string (quotedT p).1, .int .i64 (quotedT p).2] := by
  rcases p with _ | ⟨t, n⟩ <;> rfl
def lex_quoted.f (a0 : ByteArray) : Option (ByteArray × Int) := if 1 ≤ a0.size ∧ a0.size ≤ 1000000 then some (quotedT (Lx.quoted (a0.data.toList.drop 1))) else none
theorem lex_quoted.calls (a0 : ByteArray) (r1 : ByteArray) (r2 : Int) (w : World) (h : lex_quoted.f a0 = some (r1, r2)) :
    Calls Tryz.prog 34 #[.string a0] w fun e w' => e = .returned (.tuple #[.string r1, .int .i64 r2]) ∧ Below w.heap.size w w' := by
  unfold lex_quoted.f at h
  split at h
  · rename_i hs
    have h' := Option.some.inj h
    refine (quoted_calls a0 hs.2 hs.1 w).mono ?_
    rintro e w' ⟨rfl, hb⟩
    refine ⟨?_, hb⟩
    rw [quotedV_T, h']
  · cases h

def lex_Quote.f (a0 : ByteArray) : Option ByteArray := if a0.size ≤ 1000000 then some (quoteS a0) else none
theorem lex_Quote.calls (a0 : ByteArray) (r : ByteArray) (w : World) (h : lex_Quote.f a0 = some r) :
    Calls Tryz.prog 7 #[.string a0] w fun e w' => e = .returned (.string r) ∧ Below w.heap.size w w' := by
  unfold lex_Quote.f at h
  split at h
  · rename_i hs
    cases h
    exact Quote_calls a0 hs w
  · cases h
def bloomeryref09_Quote.f (a0 : ByteArray) : Option ByteArray := if a0.size ≤ 1000000 then some (quoteS a0) else none
def strings_IndexByte.f (a0 : ByteArray) (a1 : Int) : Option Int := if 0 ≤ a1 then some (Lib.indexByte a0.data.toList a1.toNat.toUInt8) else none
theorem strings_IndexByte.calls (a0 : ByteArray) (a1 : Int) (r : Int) (w : World) (h : strings_IndexByte.f a0 a1 = some r) :
    Calls Tryz.prog 35 #[.string a0, .int .u8 a1] w fun e w' => e = .returned (.int .i64 r) ∧ Drawn0 w w' := by
  unfold strings_IndexByte.f at h
  split at h
  · rename_i hs
    cases h
    obtain ⟨n, rfl⟩ : ∃ n : Nat, a1 = n := ⟨a1.toNat, by omega⟩
    refine (Tryz.strings_IndexByte a0 n w).mono ?_
    rintro e w' ⟨rfl, rfl⟩
    exact ⟨rfl, drawn⟩
  · cases h
def strings_Count.f (a0 : ByteArray) (a1 : ByteArray) : Option Int := match a1.data.toList with
  | [c] => some (Lib.countByte a0.data.toList c)
  | _ => none
theorem strings_Count.calls (a0 a1 : ByteArray) (r : Int) (w : World) (h : strings_Count.f a0 a1 = some r) :
    Calls Tryz.prog 36 #[.string a0, .string a1] w fun e w' => e = .returned (.int .i64 r) ∧ Drawn0 w w' := by
  unfold strings_Count.f at h
  split at h
  · rename_i c hc
    cases h
    obtain rfl : a1 = ⟨#[c]⟩ := str_ext hc
    refine (Tryz.strings_Count_one a0 c w).mono ?_
    rintro e w' ⟨rfl, rfl⟩
    exact ⟨rfl, drawn⟩
  · cases h
end Go.Proofs.YtikbddiogneheaaGreatDoor.G

/- label's and path's functions that the print does not take, in the print's form: each a Lean function with its contract. -/
namespace Go.Proofs.YtikbddiogneheaaGreatDoor.G
open Go.RowKit Go.Gw Go.Proofs.YtikbddiogneheaaGreatDoorW.PrintWords
set_option linter.unusedVariables false
set_option linter.unusedSimpArgs false

def path_May.f (a0 : ByteArray) : Option Bool := if a0.size ≤ 140737488351232 then some (mayS a0) else none
theorem path_May.calls (a0 : ByteArray) (r : Bool) (w : World) (h : path_May.f a0 = some r) :
    Calls Tryz.prog 44 #[.string a0] w fun e w' => e = .returned (.bool r) ∧ Below w.heap.size w w' := by
  unfold path_May.f at h
  split at h
  · rename_i hs
    cases h
    exact May_calls a0 hs w
  · cases h
def path_Under.f (a0 a1 : ByteArray) : Option Bool := if a0.size ≤ 140737488351232 ∧ a1.size ≤ 140737488351232 then some (underS a0 a1) else none
theorem path_Under.calls (a0 a1 : ByteArray) (r : Bool) (w : World) (h : path_Under.f a0 a1 = some r) :
    Calls Tryz.prog 50 #[.string a0, .string a1] w fun e w' => e = .returned (.bool r) ∧ Below w.heap.size w w' := by
  unfold path_Under.f at h
  split at h
  · rename_i hs
    cases h
    exact Under_calls a0 a1 hs.1 hs.2 w
  · cases h
def strings_CutPrefix.f (a0 a1 : ByteArray) : Option (ByteArray × Bool) := some (cutPre a0 a1, Lib.hasPrefix a0.data.toList a1.data.toList)
theorem strings_CutPrefix.calls (a0 a1 : ByteArray) (r1 : ByteArray) (r2 : Bool) (w : World) (h : strings_CutPrefix.f a0 a1 = some (r1, r2)) :
    Calls Tryz.prog 19 #[.string a0, .string a1] w fun e w' => e = .returned (.tuple #[.string r1, .bool r2]) ∧ Drawn0 w w' := by
  cases h
  refine (CutPrefix_calls a0 a1 w).mono ?_
  rintro e w' ⟨rfl, q, rfl⟩
  exact ⟨rfl, ⟨⟨q, rfl⟩⟩⟩
def strings_Cut.f (a0 a1 : ByteArray) : Option (ByteArray × ByteArray × Bool) := if a0.size ≤ 140737488351232 ∧ a1 = ⟨#[58]⟩ then some (cutA a0 58, cutB a0 58, decide (0 ≤ Lib.indexByte a0.data.toList 58)) else none
theorem strings_Cut.calls (a0 a1 : ByteArray) (r1 r2 : ByteArray) (r3 : Bool) (w : World) (h : strings_Cut.f a0 a1 = some (r1, r2, r3)) :
    Calls Tryz.prog 20 #[.string a0, .string a1] w fun e w' => e = .returned (.tuple #[.string r1, .string r2, .bool r3]) ∧ Drawn0 w w' := by
  unfold strings_Cut.f at h
  split at h
  · rename_i hs
    obtain ⟨hs, rfl⟩ := hs
    cases h
    refine (Cut_calls a0 58 hs w).mono ?_
    rintro e w' ⟨rfl, q, rfl⟩
    exact ⟨rfl, ⟨⟨q, rfl⟩⟩⟩
  · cases h
def strings_Contains.f (a0 a1 : ByteArray) : Option Bool := if a1 = ⟨#[47]⟩ then some (decide (0 ≤ Lib.indexByte a0.data.toList 47)) else none
theorem strings_Contains.calls (a0 a1 : ByteArray) (r : Bool) (w : World) (h : strings_Contains.f a0 a1 = some r) :
    Calls Tryz.prog 62 #[.string a0, .string a1] w fun e w' => e = .returned (.bool r) ∧ Drawn0 w w' := by
  unfold strings_Contains.f at h
  split at h
  · rename_i hs
    subst hs
    cases h
    refine (Tryz.strings_Contains_one a0 47 w).mono ?_
    rintro e w' ⟨rfl, rfl⟩
    exact ⟨rfl, Drawn0.refl _⟩
  · cases h
def label_Sees.f (l0 : List ByteArray) (a1 : ByteArray) : Option Bool := match l0 with
  | [p] => if p.size ≤ 140737488351232 ∧ a1.size ≤ 140737488351232 then some (pkgS a1 && meantS p a1) else none
  | _ => none
theorem label_Sees.calls (A0 : Option Addr) (c0 : Nat) (l0 : List ByteArray) (a1 : ByteArray) (r : Bool) (w : World) (hr0 : Kd.C Kd.string w A0 l0.length l0) (hc0 : l0.length ≤ c0) (h : label_Sees.f l0 a1 = some r) :
    Calls Tryz.prog 10 #[.slice A0 l0.length c0, .string a1] w fun e w' => e = .returned (.bool r) ∧ Below w.heap.size w w' := by
  unfold label_Sees.f at h
  split at h
  · rename_i p
    split at h
    · rename_i hs
      cases h
      obtain ⟨ad, rfl, hc⟩ := Kd.at_string hr0 0 (Int.le_refl _) (by simp)
      have hc2 : w.cell? ad = some (.string p) := hc
      exact Sees1_calls p a1 hs.1 hs.2 ad c0 w hc2
    · cases h
  · cases h
end Go.Proofs.YtikbddiogneheaaGreatDoor.G

/- Go functions as Lean functions, each with its contract: written by a program of mine over the kit's print. Conditions: each contract's own. -/
namespace Go.Proofs.YtikbddiogneheaaGreatDoor.G
open Go.RowKit Go.Proofs.YtikbddiogneheaaGreatDoorW.PrintWords Go.Proofs.YtikbddiogneheaaGreatDoorW.PrintLast Go.Proofs.YtikbddiogneheaaGreatDoorW.PrintMore
attribute [local go_sem] max2_int min2_int max_two min_two max_three min_three max_four min_four   -- for this text's walks alone
set_option linter.unusedVariables false
set_option linter.unusedSimpArgs false



def errW : Option Int → Value
 | none => .nilIface
 | some c => .iface 0 (.int .i64 c)
theorem errW_none : errW none = .nilIface := rfl
theorem errW_some (c : Int) : errW (some c) = .iface 0 (.int .i64 c) := rfl

theorem info9 : (Tryz.prog.info? 9).map (fun i => (i.zero, i.size, i.bytes)) = some (some (.string ⟨#[]⟩), 1, 16) := by kernel_rfl
theorem info35 : (Tryz.prog.info? 35).map (fun i => (i.zero, i.size, i.bytes)) = some (some (.agg #[(.int .i64 0), (.string ⟨#[]⟩), (.int .i64 0), (.int .i64 0)]), 4, 40) := by kernel_rfl
-- the values' own types
/-! #### struct type 29 -/
structure S29 where
 f0 : Int
 f1 : Int
def z29 : S29 := ⟨(0 : Int), (0 : Int)⟩
def k29 : Kd S29 := Kd.iso (Kd.pair (Kd.int .i64) (Kd.int .i64)) (fun x : S29 => (x.f0, x.f1))
theorem k29_open {w : World} {x : S29} {cs : List Value} (h : k29.K w x cs) : cs = [.int .i64 x.f0, .int .i64 x.f1] := by
 obtain ⟨_, _, rfl, rfl, rfl⟩ := h
 exact rfl
theorem k29_openM {w : World} {base : Nat} {ok : Nat → Prop} {x : S29} {cs : List Value} (h : k29.M w base ok x cs) : cs = [.int .i64 x.f0, .int .i64 x.f1] := by
 obtain ⟨_, _, rfl, rfl, rfl⟩ := h
 exact rfl
theorem k29_mk (w : World) (x : S29)  : k29.K w x [.int .i64 x.f0, .int .i64 x.f1] := ⟨[.int .i64 x.f0], [.int .i64 x.f1], rfl, rfl, rfl⟩
theorem k29_mkM (w : World) (base : Nat) (ok : Nat → Prop) (x : S29)  : k29.M w base ok x [.int .i64 x.f0, .int .i64 x.f1] := ⟨[.int .i64 x.f0], [.int .i64 x.f1], rfl, rfl, rfl⟩
def rd_T29 (xs : List S29) (i : Int) : S29 := xs.getD i.toNat z29
theorem at_T29 {w : World} {A : Option Addr} {n : Nat} {xs : List S29} (h : Kd.C k29 w A n xs) (i : Int) (h0 : 0 ≤ i) (h1 : i < n) : ∃ ad , A = some ad ∧ w.cell? (ad.add (i.toNat * 2)) = some (.int .i64 (rd_T29 xs i).f0) ∧ w.cell? ⟨(ad.add (i.toNat * 2)).block, (ad.add (i.toNat * 2)).off + 1, none⟩ = some (.int .i64 (rd_T29 xs i).f1) := by
 obtain ⟨ad, c, e, _, hK, hc0⟩ := Kd.C_get h z29 i h0 h1
 have hc : ∀ j u, c[j]? = some u → w.cell? (ad.add (i.toNat * 2 + j)) = some u := hc0
 obtain rfl := k29_open hK
 exact ⟨ad, e, hc 0 _ rfl, by rw [← add_field _ _ 1 (by omega)]; exact hc 1 _ rfl⟩

/-! #### struct type 35 -/
structure S35 where
 f0 : Int
 f1 : ByteArray
 f2 : S29
def z35 : S35 := ⟨(0 : Int), (⟨#[]⟩ : ByteArray), z29⟩
def k35 : Kd S35 := Kd.iso (Kd.pair (Kd.int .i64) (Kd.pair Kd.string k29)) (fun x : S35 => (x.f0, x.f1, x.f2))
theorem k35_open {w : World} {x : S35} {cs : List Value} (h : k35.K w x cs) : cs = [.int .i64 x.f0, .string x.f1, .int .i64 x.f2.f0, .int .i64 x.f2.f1] := by
 obtain ⟨_, _, rfl, rfl, ⟨_, _, rfl, rfl, s2⟩⟩ := h
 obtain rfl := k29_open s2
 exact rfl
theorem k35_openM {w : World} {base : Nat} {ok : Nat → Prop} {x : S35} {cs : List Value} (h : k35.M w base ok x cs) : cs = [.int .i64 x.f0, .string x.f1, .int .i64 x.f2.f0, .int .i64 x.f2.f1] := by
 obtain ⟨_, _, rfl, rfl, ⟨_, _, rfl, rfl, s2⟩⟩ := h
 obtain rfl := k29_openM s2
 exact rfl
theorem k35_mk (w : World) (x : S35)  : k35.K w x [.int .i64 x.f0, .string x.f1, .int .i64 x.f2.f0, .int .i64 x.f2.f1] := ⟨[.int .i64 x.f0], [.string x.f1, .int .i64 x.f2.f0, .int .i64 x.f2.f1], rfl, rfl, ⟨[.string x.f1], [.int .i64 x.f2.f0, .int .i64 x.f2.f1], rfl, rfl, (k29_mk w x.f2 )⟩⟩
theorem k35_mkM (w : World) (base : Nat) (ok : Nat → Prop) (x : S35)  : k35.M w base ok x [.int .i64 x.f0, .string x.f1, .int .i64 x.f2.f0, .int .i64 x.f2.f1] := ⟨[.int .i64 x.f0], [.string x.f1, .int .i64 x.f2.f0, .int .i64 x.f2.f1], rfl, rfl, ⟨[.string x.f1], [.int .i64 x.f2.f0, .int .i64 x.f2.f1], rfl, rfl, (k29_mkM w base ok x.f2 )⟩⟩
def rd_T35 (xs : List S35) (i : Int) : S35 := xs.getD i.toNat z35
theorem at_T35 {w : World} {A : Option Addr} {n : Nat} {xs : List S35} (h : Kd.C k35 w A n xs) (i : Int) (h0 : 0 ≤ i) (h1 : i < n) : ∃ ad , A = some ad ∧ w.cell? (ad.add (i.toNat * 4)) = some (.int .i64 (rd_T35 xs i).f0) ∧ w.cell? ⟨(ad.add (i.toNat * 4)).block, (ad.add (i.toNat * 4)).off + 1, none⟩ = some (.string (rd_T35 xs i).f1) ∧ w.cell? ⟨(ad.add (i.toNat * 4)).block, (ad.add (i.toNat * 4)).off + 2, none⟩ = some (.int .i64 (rd_T35 xs i).f2.f0) ∧ w.cell? ⟨(ad.add (i.toNat * 4)).block, (ad.add (i.toNat * 4)).off + 3, none⟩ = some (.int .i64 (rd_T35 xs i).f2.f1) := by
 obtain ⟨ad, c, e, _, hK, hc0⟩ := Kd.C_get h z35 i h0 h1
 have hc : ∀ j u, c[j]? = some u → w.cell? (ad.add (i.toNat * 4 + j)) = some u := hc0
 obtain rfl := k35_open hK
 exact ⟨ad, e, hc 0 _ rfl, by rw [← add_field _ _ 1 (by omega)]; exact hc 1 _ rfl, by rw [← add_field _ _ 2 (by omega)]; exact hc 2 _ rfl, by rw [← add_field _ _ 3 (by omega)]; exact hc 3 _ rfl⟩

end Go.Proofs.YtikbddiogneheaaGreatDoor.G

/- Go functions as Lean functions, each with its contract: written by a program of mine over the kit's print. Conditions: each contract's own. -/
namespace Go.Proofs.YtikbddiogneheaaGreatDoor.G
open Go.RowKit Go.Proofs.YtikbddiogneheaaGreatDoorW.PrintWords Go.Proofs.YtikbddiogneheaaGreatDoorW.PrintLast Go.Proofs.YtikbddiogneheaaGreatDoorW.PrintMore
attribute [local go_sem] max2_int min2_int max_two min_two max_three min_three max_four min_four   -- for this text's walks alone
set_option linter.unusedVariables false
set_option linter.unusedSimpArgs false

/-! ### stringslite_HasPrefix: function 41 -/
def stringslite_HasPrefix.f (a0 : ByteArray) (a1 : ByteArray) : Option (Bool) := if (a0.size : Int) ≥ (a1.size : Int) then (if 0 ≤ (a1.size : Int) then (if (a1.size : Int) ≤ (a0.size : Int) then (some ((a0.extract 0 ((a1.size : Int) : Int).toNat).toList == a1.toList)) else (none)) else (none)) else (some false)
set_option maxHeartbeats 8000000 in
set_option maxRecDepth 100000 in
theorem stringslite_HasPrefix.calls (a0 : ByteArray) (a1 : ByteArray) (r : Bool) (w : World) (h : stringslite_HasPrefix.f a0 a1 = some r) :
  Calls Tryz.prog 41 #[.string a0, .string a1] w fun e w' => e = .returned (.bool r) ∧ Drawn0 w w' := by
 have H : (if (a0.size : Int) ≥ (a1.size : Int) then (if 0 ≤ (a1.size : Int) then (if (a1.size : Int) ≤ (a0.size : Int) then (some ((a0.extract 0 ((a1.size : Int) : Int).toNat).toList == a1.toList)) else (none)) else (none)) else (some false)) = some r := h
 clear h
 by_cases c3 : (a0.size : Int) ≥ (a1.size : Int)
 ·rw [if_pos c3] at H
  have c3b0 : decide ((a1.size : Int) ≤ (a0.size : Int)) = true := decide_eq_true c3
  have c3b1 : decide (a1.size ≤ a0.size) = true := decide_eq_true (Int.ofNat_le.mp c3)
  clear c3
  by_cases c4 : 0 ≤ (a1.size : Int)
  ·rw [if_pos c4] at H
   have c4b0 := eq_true c4
   have c4b1 : decide (0 ≤ (a1.size : Int)) = true := decide_eq_true c4
   clear c4
   by_cases c5 : (a1.size : Int) ≤ (a0.size : Int)
   ·rw [if_pos c5] at H
    have c5b0 := eq_true c5
    have c5b1 : decide ((a1.size : Int) ≤ (a0.size : Int)) = true := decide_eq_true c5
    clear c5
    obtain rfl := Option.some.inj H
    go_enter Tryz.func41, Tryz.ntmps41
    go_wp2
    go_ret
    exact ⟨by first | rfl | (simp; done) | (simp [*]; done), by repeat (first | exact Drawn0.refl _ | apply Drawn0.step)⟩
   ·rw [if_neg c5] at H
    exact absurd H (by simp)
  ·rw [if_neg c4] at H
   exact absurd H (by simp)
 ·rw [if_neg c3] at H
  have c3b0 : decide ((a1.size : Int) ≤ (a0.size : Int)) = false := decide_eq_false c3
  have c3b1 : decide (a1.size ≤ a0.size) = false := decide_eq_false (fun h => c3 (Int.ofNat_le.mpr h))
  clear c3
  obtain rfl := Option.some.inj H
  go_enter Tryz.func41, Tryz.ntmps41
  go_wp2
  go_ret
  exact ⟨by first | rfl | (simp; done) | (simp [*]; done), by repeat (first | exact Drawn0.refl _ | apply Drawn0.step)⟩

end Go.Proofs.YtikbddiogneheaaGreatDoor.G

/- Go functions as Lean functions, each with its contract: written by a program of mine over the kit's print. Conditions: each contract's own. -/
namespace Go.Proofs.YtikbddiogneheaaGreatDoor.G
open Go.RowKit Go.Proofs.YtikbddiogneheaaGreatDoorW.PrintWords Go.Proofs.YtikbddiogneheaaGreatDoorW.PrintLast Go.Proofs.YtikbddiogneheaaGreatDoorW.PrintMore
attribute [local go_sem] max2_int min2_int max_two min_two max_three min_three max_four min_four   -- for this text's walks alone
set_option linter.unusedVariables false
set_option linter.unusedSimpArgs false

/-! ### strings_HasPrefix: function 18 -/
def strings_HasPrefix.f (a0 : ByteArray) (a1 : ByteArray) : Option (Bool) := (stringslite_HasPrefix.f a0 a1).bind fun t109 => (some t109)
set_option maxHeartbeats 8000000 in
set_option maxRecDepth 100000 in
theorem strings_HasPrefix.calls (a0 : ByteArray) (a1 : ByteArray) (r : Bool) (w : World) (h : strings_HasPrefix.f a0 a1 = some r) :
  Calls Tryz.prog 18 #[.string a0, .string a1] w fun e w' => e = .returned (.bool r) ∧ Drawn0 w w' := by
 have H : ((stringslite_HasPrefix.f a0 a1).bind fun t109 => (some t109)) = some r := h
 clear h
 replace H := Option.bind_eq_some_iff.mp H
 obtain ⟨t109, A30, H⟩ := H
 replace H : (some t109) = some r := H
 have A3 := Aside0.mk A30
 clear A30
 obtain rfl := Option.some.inj H
 go_enter Tryz.func18, Tryz.ntmps18
 go_wp2_with (first | ((with_reducible refine gate_callee (f := 41) rfl ?_); refine goesL_ (some 7) rfl rfl Tryz.func41 (by kernel_rfl) rfl #[.string a0, .string a1] rfl (by (try simp only [List.map_toArray, List.map_cons, List.map_nil]); first | done | rfl | (simp only [List.length_drop, List.length_take]; rfl)) ?_; (with_reducible refine (stringslite_HasPrefix.calls a0 a1 t109 _ A3.out).mono ?_); rintro e w' ⟨rfl, ⟨nd, rfl⟩⟩; refine ⟨_, rfl, ?_⟩))
 go_ret
 exact ⟨by first | rfl | (simp; done) | (simp [*]; done), by repeat (first | exact Drawn0.refl _ | apply Drawn0.step)⟩

end Go.Proofs.YtikbddiogneheaaGreatDoor.G

/- Go functions as Lean functions, each with its contract: written by a program of mine over the kit's print. Conditions: each contract's own. -/
namespace Go.Proofs.YtikbddiogneheaaGreatDoor.G
open Go.RowKit Go.Proofs.YtikbddiogneheaaGreatDoorW.PrintWords Go.Proofs.YtikbddiogneheaaGreatDoorW.PrintLast Go.Proofs.YtikbddiogneheaaGreatDoorW.PrintMore
attribute [local go_sem] max2_int min2_int max_two min_two max_three min_three max_four min_four   -- for this text's walks alone
set_option linter.unusedVariables false
set_option linter.unusedSimpArgs false

/-! ### lex_gap: function 27 -/
def lex_gap.f (a0 : Int) : Option (Bool) := if a0 = 32 then (some true) else (if a0 = 9 then (some true) else (if a0 = 10 then (some true) else (some (a0 == 13))))
set_option maxHeartbeats 8000000 in
set_option maxRecDepth 100000 in
theorem lex_gap.calls (a0 : Int) (r : Bool) (w : World) (h : lex_gap.f a0 = some r) :
  Calls Tryz.prog 27 #[.int .u8 a0] w fun e w' => e = .returned (.bool r) ∧ Drawn0 w w' := by
 have H : (if a0 = 32 then (some true) else (if a0 = 9 then (some true) else (if a0 = 10 then (some true) else (some (a0 == 13))))) = some r := h
 clear h
 by_cases c2 : a0 = 32
 ·rw [if_pos c2] at H
  have c2b0 : (a0 == 32) = true := beq_iff_eq.mpr c2
  have c2b1 : (a0 != 32) = false := bne_eq_false_iff_eq.mpr c2
  clear c2
  obtain rfl := Option.some.inj H
  go_enter Tryz.func27, Tryz.ntmps27
  go_wp2
  go_ret
  exact ⟨by first | rfl | (simp; done) | (simp [*]; done), by repeat (first | exact Drawn0.refl _ | apply Drawn0.step)⟩
 ·rw [if_neg c2] at H
  have c2b0 : (a0 == 32) = false := beq_eq_false_iff_ne.mpr c2
  have c2b1 : (a0 != 32) = true := bne_iff_ne.mpr c2
  by_cases c3 : a0 = 9
  ·rw [if_pos c3] at H
   have c3b0 : (a0 == 9) = true := beq_iff_eq.mpr c3
   have c3b1 : (a0 != 9) = false := bne_eq_false_iff_eq.mpr c3
   clear c3
   obtain rfl := Option.some.inj H
   go_enter Tryz.func27, Tryz.ntmps27
   go_wp2
   go_ret
   exact ⟨by first | rfl | (simp; done) | (simp [*]; done), by repeat (first | exact Drawn0.refl _ | apply Drawn0.step)⟩
  ·rw [if_neg c3] at H
   have c3b0 : (a0 == 9) = false := beq_eq_false_iff_ne.mpr c3
   have c3b1 : (a0 != 9) = true := bne_iff_ne.mpr c3
   by_cases c4 : a0 = 10
   ·rw [if_pos c4] at H
    have c4b0 : (a0 == 10) = true := beq_iff_eq.mpr c4
    have c4b1 : (a0 != 10) = false := bne_eq_false_iff_eq.mpr c4
    clear c4
    obtain rfl := Option.some.inj H
    go_enter Tryz.func27, Tryz.ntmps27
    go_wp2
    go_ret
    exact ⟨by first | rfl | (simp; done) | (simp [*]; done), by repeat (first | exact Drawn0.refl _ | apply Drawn0.step)⟩
   ·rw [if_neg c4] at H
    have c4b0 : (a0 == 10) = false := beq_eq_false_iff_ne.mpr c4
    have c4b1 : (a0 != 10) = true := bne_iff_ne.mpr c4
    obtain rfl := Option.some.inj H
    go_enter Tryz.func27, Tryz.ntmps27
    go_wp2
    go_ret
    exact ⟨by first | rfl | (simp; done) | (simp [*]; done), by repeat (first | exact Drawn0.refl _ | apply Drawn0.step)⟩

end Go.Proofs.YtikbddiogneheaaGreatDoor.G

/- Go functions as Lean functions, each with its contract: written by a program of mine over the kit's print. Conditions: each contract's own. -/
namespace Go.Proofs.YtikbddiogneheaaGreatDoor.G
open Go.RowKit Go.Proofs.YtikbddiogneheaaGreatDoorW.PrintWords Go.Proofs.YtikbddiogneheaaGreatDoorW.PrintLast Go.Proofs.YtikbddiogneheaaGreatDoorW.PrintMore
attribute [local go_sem] max2_int min2_int max_two min_two max_three min_three max_four min_four   -- for this text's walks alone
set_option linter.unusedVariables false
set_option linter.unusedSimpArgs false

/-! ### lex_letter: function 30 -/
def lex_letter.f (a0 : Int) : Option (Bool) := if a0 ≥ 97 then (if a0 ≤ 122 then (some true) else (if a0 ≥ 65 then (if a0 ≤ 90 then (some true) else (some (a0 == 95))) else (some (a0 == 95)))) else (if a0 ≥ 65 then (if a0 ≤ 90 then (some true) else (some (a0 == 95))) else (some (a0 == 95)))
set_option maxHeartbeats 8000000 in
set_option maxRecDepth 100000 in
theorem lex_letter.calls (a0 : Int) (r : Bool) (w : World) (h : lex_letter.f a0 = some r) :
  Calls Tryz.prog 30 #[.int .u8 a0] w fun e w' => e = .returned (.bool r) ∧ Drawn0 w w' := by
 have H : (if a0 ≥ 97 then (if a0 ≤ 122 then (some true) else (if a0 ≥ 65 then (if a0 ≤ 90 then (some true) else (some (a0 == 95))) else (some (a0 == 95)))) else (if a0 ≥ 65 then (if a0 ≤ 90 then (some true) else (some (a0 == 95))) else (some (a0 == 95)))) = some r := h
 clear h
 by_cases c2 : a0 ≥ 97
 ·rw [if_pos c2] at H
  have c2b0 : decide (97 ≤ a0) = true := decide_eq_true c2
  clear c2
  by_cases c3 : a0 ≤ 122
  ·rw [if_pos c3] at H
   have c3b0 : decide (a0 ≤ 122) = true := decide_eq_true c3
   clear c3
   obtain rfl := Option.some.inj H
   go_enter Tryz.func30, Tryz.ntmps30
   go_wp2
   go_ret
   exact ⟨by first | rfl | (simp; done) | (simp [*]; done), by repeat (first | exact Drawn0.refl _ | apply Drawn0.step)⟩
  ·rw [if_neg c3] at H
   have c3b0 : decide (a0 ≤ 122) = false := decide_eq_false c3
   clear c3
   by_cases c4 : a0 ≥ 65
   ·rw [if_pos c4] at H
    have c4b0 : decide (65 ≤ a0) = true := decide_eq_true c4
    clear c4
    by_cases c5 : a0 ≤ 90
    ·rw [if_pos c5] at H
     have c5b0 : decide (a0 ≤ 90) = true := decide_eq_true c5
     clear c5
     obtain rfl := Option.some.inj H
     go_enter Tryz.func30, Tryz.ntmps30
     go_wp2
     go_ret
     exact ⟨by first | rfl | (simp; done) | (simp [*]; done), by repeat (first | exact Drawn0.refl _ | apply Drawn0.step)⟩
    ·rw [if_neg c5] at H
     have c5b0 : decide (a0 ≤ 90) = false := decide_eq_false c5
     clear c5
     obtain rfl := Option.some.inj H
     go_enter Tryz.func30, Tryz.ntmps30
     go_wp2
     go_ret
     exact ⟨by first | rfl | (simp; done) | (simp [*]; done), by repeat (first | exact Drawn0.refl _ | apply Drawn0.step)⟩
   ·rw [if_neg c4] at H
    have c4b0 : decide (65 ≤ a0) = false := decide_eq_false c4
    clear c4
    obtain rfl := Option.some.inj H
    go_enter Tryz.func30, Tryz.ntmps30
    go_wp2
    go_ret
    exact ⟨by first | rfl | (simp; done) | (simp [*]; done), by repeat (first | exact Drawn0.refl _ | apply Drawn0.step)⟩
 ·rw [if_neg c2] at H
  have c2b0 : decide (97 ≤ a0) = false := decide_eq_false c2
  clear c2
  by_cases c6 : a0 ≥ 65
  ·rw [if_pos c6] at H
   have c6b0 : decide (65 ≤ a0) = true := decide_eq_true c6
   clear c6
   by_cases c7 : a0 ≤ 90
   ·rw [if_pos c7] at H
    have c7b0 : decide (a0 ≤ 90) = true := decide_eq_true c7
    clear c7
    obtain rfl := Option.some.inj H
    go_enter Tryz.func30, Tryz.ntmps30
    go_wp2
    go_ret
    exact ⟨by first | rfl | (simp; done) | (simp [*]; done), by repeat (first | exact Drawn0.refl _ | apply Drawn0.step)⟩
   ·rw [if_neg c7] at H
    have c7b0 : decide (a0 ≤ 90) = false := decide_eq_false c7
    clear c7
    obtain rfl := Option.some.inj H
    go_enter Tryz.func30, Tryz.ntmps30
    go_wp2
    go_ret
    exact ⟨by first | rfl | (simp; done) | (simp [*]; done), by repeat (first | exact Drawn0.refl _ | apply Drawn0.step)⟩
  ·rw [if_neg c6] at H
   have c6b0 : decide (65 ≤ a0) = false := decide_eq_false c6
   clear c6
   obtain rfl := Option.some.inj H
   go_enter Tryz.func30, Tryz.ntmps30
   go_wp2
   go_ret
   exact ⟨by first | rfl | (simp; done) | (simp [*]; done), by repeat (first | exact Drawn0.refl _ | apply Drawn0.step)⟩

end Go.Proofs.YtikbddiogneheaaGreatDoor.G

/- Go functions as Lean functions, each with its contract: written by a program of mine over the kit's print. Conditions: each contract's own. -/
namespace Go.Proofs.YtikbddiogneheaaGreatDoor.G
open Go.RowKit Go.Proofs.YtikbddiogneheaaGreatDoorW.PrintWords Go.Proofs.YtikbddiogneheaaGreatDoorW.PrintLast Go.Proofs.YtikbddiogneheaaGreatDoorW.PrintMore
attribute [local go_sem] max2_int min2_int max_two min_two max_three min_three max_four min_four   -- for this text's walks alone
set_option linter.unusedVariables false
set_option linter.unusedSimpArgs false

/-! ### lex_digit: function 32 -/
def lex_digit.f (a0 : Int) : Option (Bool) := if a0 ≥ 48 then (some (decide (a0 ≤ 57))) else (some false)
set_option maxHeartbeats 8000000 in
set_option maxRecDepth 100000 in
theorem lex_digit.calls (a0 : Int) (r : Bool) (w : World) (h : lex_digit.f a0 = some r) :
  Calls Tryz.prog 32 #[.int .u8 a0] w fun e w' => e = .returned (.bool r) ∧ Drawn0 w w' := by
 have H : (if a0 ≥ 48 then (some (decide (a0 ≤ 57))) else (some false)) = some r := h
 clear h
 by_cases c2 : a0 ≥ 48
 ·rw [if_pos c2] at H
  have c2b0 : decide (48 ≤ a0) = true := decide_eq_true c2
  clear c2
  obtain rfl := Option.some.inj H
  go_enter Tryz.func32, Tryz.ntmps32
  go_wp2
  go_ret
  exact ⟨by first | rfl | (simp; done) | (simp [*]; done), by repeat (first | exact Drawn0.refl _ | apply Drawn0.step)⟩
 ·rw [if_neg c2] at H
  have c2b0 : decide (48 ≤ a0) = false := decide_eq_false c2
  clear c2
  obtain rfl := Option.some.inj H
  go_enter Tryz.func32, Tryz.ntmps32
  go_wp2
  go_ret
  exact ⟨by first | rfl | (simp; done) | (simp [*]; done), by repeat (first | exact Drawn0.refl _ | apply Drawn0.step)⟩

end Go.Proofs.YtikbddiogneheaaGreatDoor.G
