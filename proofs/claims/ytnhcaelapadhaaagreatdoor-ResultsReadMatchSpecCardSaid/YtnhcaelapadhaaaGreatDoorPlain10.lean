/- Plain words: actions, and what is wrong with them. -/
import Derived.Test.YtnhcaelapadhaaaGreatDoorPlain9
namespace Go.Proofs.Sm
open Go.RowKit

structure VarV where
  name : ByteArray
  value : ByteArray
structure ActionV where
  tool : ByteArray
  commands : List (List ByteArray)
  vars : List VarV
  outputs : List ByteArray
  needs : List VarV
  time : Int

instance : Rep VarV where
  sz := 2
  rep _ _ x vs := vs = [.string x.name, .string x.value] ∧ x.name.size ≤ maxLen ∧ x.value.size ≤ maxLen
  len h := by rw [h.1]; rfl
  keep _ h := h
  more _ h := h
theorem Sl.var {w : World} {S : Nat → Prop} {A : Option Addr} {n k : Nat} {l : List VarV} (h : Sl w S A n l) (hk : k < n) :
    ∃ b o x, A = some ⟨b, o, none⟩ ∧ S b ∧ l[k]? = some x ∧ x.name.size ≤ maxLen ∧ x.value.size ≤ maxLen ∧
      w.cell? ⟨b, o + k * 2, none⟩ = some (.string x.name) ∧ w.cell? ⟨b, o + k * 2 + 1, none⟩ = some (.string x.value) := by
  have hk' : k < l.length := by rw [h.1]; exact hk
  obtain ⟨b, o, vs, e, hb, ⟨rfl, h1, h2⟩, ha⟩ := h.at hk'
  exact ⟨b, o, _, e, hb, List.getElem?_eq_getElem hk', h1, h2, ha 0 _ rfl, ha 1 _ rfl⟩
/-- a list of lists -/
theorem Sl.row {α : Type} [Rep α] {w : World} {S : Nat → Prop} {A : Option Addr} {n k : Nat} {l : List (List α)} (h : Sl w S A n l) (hk : k < n) :
    ∃ b o x A' n' c', A = some ⟨b, o, none⟩ ∧ S b ∧ l[k]? = some x ∧ n' ≤ c' ∧ c' ≤ maxLen ∧ Sl w S A' n' x ∧ w.cell? ⟨b, o + k, none⟩ = some (.slice A' n' c') := by
  have hk' : k < l.length := by rw [h.1]; exact hk
  obtain ⟨b, o, vs, e, hb, ⟨A', n', c', rfl, h2, h3, h4⟩, ha⟩ := h.at hk'
  have h0 := ha 0 _ rfl
  simp only [Rep.sz, Nat.mul_one, Nat.add_zero] at h0
  exact ⟨b, o, _, A', n', c', e, hb, List.getElem?_eq_getElem hk', h2, h3, h4, h0⟩

/-! ### Lists of things in order -/
def listErr {α : Type} (err : Option ByteArray → α → Int) (key : α → ByteArray) : Option ByteArray → List α → Int
  | _, [] => 0
  | prev, x :: r => if err prev x = 0 then listErr err key (some (key x)) r else err prev x
theorem list_round {α : Type} {err : Option ByteArray → α → Int} {key : α → ByteArray} {l : List α} {k : Nat} {x : α} (hx : l[k]? = some x) (h : err (ahead key l k) x = 0) :
    listErr err key (ahead key l k) (l.drop k) = listErr err key (ahead key l (k + 1)) (l.drop (k + 1)) := by
  rw [drop_at hx, listErr, if_pos h, ahead_succ hx]
theorem list_stop {α : Type} {err : Option ByteArray → α → Int} {key : α → ByteArray} {l : List α} {k : Nat} {x : α} {e : Int} (hx : l[k]? = some x) (h : err (ahead key l k) x = e) (he : e ≠ 0) :
    listErr err key (ahead key l k) (l.drop k) = e := by
  rw [drop_at hx, listErr, if_neg (by rw [h]; exact he), h]
theorem list_end {α : Type} {err : Option ByteArray → α → Int} {key : α → ByteArray} {l : List α} {k : Nat} (hk : l.length ≤ k) : listErr err key (ahead key l k) (l.drop k) = 0 := by
  rw [List.drop_eq_nil_of_le hk]; rfl

/-! ### Words, numbers, names -/
def bytesInB (lo hi : Int) (c : UInt8) : Bool := decide (lo ≤ (c.toNat : Int)) && decide ((c.toNat : Int) ≤ hi)
def isWordS (s : ByteArray) : Bool := s.data.toList.all (bytesInB 33 126) && withinB s.size 1 300
/-- no needless 0 -/
def leadOk (l : List UInt8) : Bool := !(l.head? == some 48) || l == [48]
def isNumberS (s : ByteArray) (most : Int) : Bool := withinB s.size 1 most && s.data.toList.all digitB && leadOk s.data.toList
def smallI (c : Int) : Bool := 97 ≤ c && c ≤ 122
def nameI (c : Int) : Bool := smallI c || digitI c || c == 95
def nameB (c : UInt8) : Bool := nameI (c.toNat : Int)
/-- the words of the language -/
def langWords : List (List UInt8) := [[109, 97, 99, 114, 111], [102, 111, 114], [105, 110], [105, 102], [101, 108, 115, 101], [117, 115, 101], [102, 105, 108, 101, 115], [99, 104, 111, 111, 115, 101]]
def isNameS (s : ByteArray) : Bool := withinB s.size 1 40 && (match s.data.toList with | [] => false | c :: _ => smallI (c.toNat : Int)) && s.data.toList.all nameB && !(langWords.contains s.data.toList)

/-! ### Commands -/
/-- what stands behind the word of a command, and whether more may follow -/
def formS (w : List UInt8) : Option (List UInt8 × Bool) :=
  if w = [106, 111, 105, 110] then some ([112, 112], true)
  else if w = [115, 111, 114, 116] ∨ w = [99, 111, 117, 110, 116] ∨ w = [101, 120, 112, 97, 110, 100] ∨ w = [109, 97, 107, 101] ∨ w = [100, 105, 103, 101, 115, 116] ∨ w = [108, 105, 115, 116] ∨ w = [115, 97, 109, 101] then some ([112, 112], false)
  else if w = [102, 105, 114, 115, 116] then some ([112, 110, 112], false)
  else if w = [99, 104, 97, 110, 103, 101] then some ([112, 119, 119, 112], false)
  else if w = [112, 105, 99, 107] then some ([112, 112, 112], true)
  else if w = [118, 97, 114] then some ([112, 119], false)
  else if w = [116, 101, 108, 108] then some ([119], true)
  else if w = [110, 101, 101, 100] then some ([112], false)
  else if w = [102, 97, 105, 108] then some ([110], false)
  else none
def fitsS (k : UInt8) (s : ByteArray) : Bool := if k = 112 then isPathS s else if k = 110 then isNumberS s 6 else true
/-- words have a form, from word i on -/
def wordsFit (kinds : List UInt8) : Nat → List ByteArray → Bool
  | _, [] => true
  | i, s :: r => fitsS (kinds.getD (min i (kinds.length - 1)) 0) s && wordsFit kinds (i + 1) r
def hasFormS (words : List ByteArray) (kinds : List UInt8) (more : Bool) : Bool :=
  decide (kinds.length ≤ words.length) && (decide (words.length ≤ kinds.length) || more) && wordsFit kinds 0 words
def checkCommandS (c : List ByteArray) : Int :=
  if 50 < (c.length : Int) then 2
  else match c with
  | [] => 9
  | c0 :: words =>
    if c.all isWordS = false then 3
    else match formS c0.data.toList with
      | none => 4
      | some (kinds, more) => if hasFormS words kinds more = false then 3 else if (c0.data.toList == [102, 97, 105, 108] && (words.head?.map fun s => s.data.toList) == some [48]) = true then 3 else 0
def commandsErr : List (List ByteArray) → Int
  | [] => 0
  | c :: r => if checkCommandS c = 0 then commandsErr r else checkCommandS c

/-! ### Variables, outputs -/
def varErr (prev : Option ByteArray) (v : VarV) : Int :=
  if isNameS v.name = false then 5 else if (decide (300 < (v.value.size : Int)) || !(v.value.data.toList.all (bytesInB 32 126))) = true then 3 else if notAfter prev v.name then 8 else 0
def checkVarsS (l : List VarV) : Int := if 30 < (l.length : Int) then 2 else listErr varErr VarV.name none l
def outErr (prev : Option ByteArray) (p : ByteArray) : Int := if isPathS p = false then 3 else if notAfter prev p then 8 else 0
/-- a path lies within another one -/
def liesS (p q : ByteArray) : Bool := Lib.hasPrefix p.data.toList (q.data.toList ++ [47])
def checkOutputsS (l : List ByteArray) : Int :=
  if l.length = 0 then 9 else if 100 < (l.length : Int) then 2 else if listErr outErr id none l ≠ 0 then listErr outErr id none l else if l.any (fun p => l.any fun q => liesS p q) then 12 else 0
def checkActionS (a : ActionV) : Int :=
  if isDigestS a.tool = false then 3
  else if a.commands.length = 0 then 9
  else if 50 < (a.commands.length : Int) then 2
  else if commandsErr a.commands ≠ 0 then commandsErr a.commands
  else if checkVarsS a.vars ≠ 0 then checkVarsS a.vars
  else if checkOutputsS a.outputs ≠ 0 then checkOutputsS a.outputs
  else if checkVarsS a.needs ≠ 0 then checkVarsS a.needs
  else if withinB a.time 1 100000 = false then 1
  else 0
end Go.Proofs.Sm
