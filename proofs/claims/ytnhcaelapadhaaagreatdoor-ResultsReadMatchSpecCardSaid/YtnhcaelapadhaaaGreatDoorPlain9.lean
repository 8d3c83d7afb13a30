/- Plain words: results, what is wrong with them, and their text. -/
import Derived.Test.YtnhcaelapadhaaaGreatDoorPlain8
import Derived.Lib.ItoaLen
import Derived.Shelf.GgClosure.StringsIndexFunc
namespace Go.Proofs.Sm
open Go.RowKit

structure ResultV where
  code : Int
  text : ByteArray
  files : List FileV
  looks : List Look
  command : Int

/-! ### Texts that are told -/
def textI (c : Int) : Bool := c == 10 || (decide (32 ≤ c) && decide (c ≤ 126))
def textB (c : UInt8) : Bool := textI (c.toNat : Int)
def endsS (l : List UInt8) : Bool := l.isEmpty || l.getLast? == some 10
def isTextS (s : ByteArray) : Bool := s.data.toList.all textB && endsS s.data.toList

theorem decode_small {s : ByteArray} {i : Nat} (h : (s.get! i).toNat < 128) : Utf8.decode s i = ((s.get! i).toNat, 1) := by
  have h' : (s.get! (i + 0)).toNat < 0x80 := h
  simp only [Utf8.decode, if_pos h']
  rfl
theorem decode_big {s : ByteArray} {i : Nat} (h : 128 ≤ (s.get! i).toNat) : 128 ≤ (Utf8.decode s i).1 := by
  have h' : ¬ (s.get! (i + 0)).toNat < 0x80 := by
    show ¬ (s.get! i).toNat < 128
    omega
  simp only [Utf8.decode, if_neg h']
  repeat' split
  all_goals (first | (unfold Utf8.runeError; omega) | omega | (simp only [Bool.and_eq_true, decide_eq_true_eq, ge_iff_le] at *; omega))
theorem idxFuncFrom_bytes (p : Nat → Bool) (hp : ∀ x, 127 ≤ x → p x = true) (s : ByteArray) : ∀ (f pos : Nat), s.size ≤ pos + f → decide (0 ≤ Lib.idxFuncFrom p true s f pos) = (s.data.toList.drop pos).any (fun c => p c.toNat)
  | 0, pos, h => by
    rw [List.drop_eq_nil_of_le (by simp; exact h)]
    simp [Lib.idxFuncFrom]
  | f + 1, pos, h => by
    rw [Lib.idxFuncFrom]
    by_cases hlt : pos < s.size
    · rw [if_pos hlt]
      have hlt' : pos < s.data.toList.length := by simpa using hlt
      rw [List.drop_eq_getElem_cons hlt', List.any_cons]
      have hg : s.get! pos = s.data.toList[pos] := by
        show s.data[pos]! = _
        rw [getElem!_pos s.data pos (by simpa using hlt)]
        simp
      by_cases h128 : (s.get! pos).toNat < 128
      · rw [decode_small h128, hg]
        cases hq : p s.data.toList[pos].toNat
        · simp only [Bool.false_eq_true, if_false, Bool.false_or]
          exact idxFuncFrom_bytes p hp s f (pos + 1) (by omega)
        · simp
      · have h2 := decode_big (s := s) (i := pos) (by omega)
        rw [hp _ (by omega), if_pos rfl, ← hg, hp _ (by omega)]
        simp
    · rw [if_neg hlt, List.drop_eq_nil_of_le (by simp; omega)]
      simp
theorem idxFunc_bytes (p : Nat → Bool) (hp : ∀ x, 127 ≤ x → p x = true) (s : ByteArray) : decide (0 ≤ Lib.idxFunc p true s) = s.data.toList.any (fun c => p c.toNat) :=
  idxFuncFrom_bytes p hp s s.size 0 (by omega)

/-- no byte of a text is another one -/
def untold (x : Nat) : Bool := !(textI (x : Int))
theorem untold_big (x : Nat) (h : 127 ≤ x) : untold x = true := by
  simp only [untold, textI, Bool.not_eq_true', Bool.or_eq_false_iff, beq_eq_false_iff_ne, Bool.and_eq_false_iff, decide_eq_false_iff_not]
  omega
theorem untold_any (s : ByteArray) : decide (0 ≤ Lib.idxFunc untold true s) = !(s.data.toList.all textB) := by
  rw [idxFunc_bytes untold untold_big, List.not_all_eq_any_not]
  rfl
theorem ends_suffix (l : List UInt8) (h : l ≠ []) : Lib.hasSuffix l [10] = endsS l := by
  unfold Lib.hasSuffix endsS
  rw [Bool.eq_iff_iff, List.isSuffixOf_iff_suffix]
  rcases List.eq_nil_or_concat l with rfl | ⟨l', x, rfl⟩
  · exact absurd rfl h
  · rw [List.concat_eq_append, List.getLast?_append]
    simp only [List.getLast?_singleton, Option.some_or, Bool.or_eq_true, List.isEmpty_iff, List.append_eq_nil_iff, List.cons_ne_self, and_false, false_or, beq_iff_eq, Option.some.injEq]
    constructor
    · rintro ⟨q, hq⟩
      have := List.append_inj_right' hq rfl
      simp at this
      exact this.symm
    · rintro rfl
      exact ⟨l', rfl⟩
theorem ends_nil : endsS [] = true := rfl
theorem ends_at (s : ByteArray) (h : s.size - 1 < s.size) : endsS s.data.toList = ((s[s.size - 1].toNat : Int) == 10) := by
  have hlast : s.data.toList.getLast? = some s[s.size - 1] := by
    rw [List.getLast?_eq_getElem?]
    have e : s.data.toList.length - 1 = s.size - 1 := by simp
    rw [e, Array.getElem?_toList]
    exact Array.getElem?_eq_getElem h
  have hne : s.data.toList.isEmpty = false := by
    cases hl : s.data.toList with
    | nil => rw [hl] at hlast; cases hlast
    | cons a l => rfl
  rw [endsS, hne, hlast, Bool.false_or, Bool.eq_iff_iff]
  simp only [beq_iff_eq, Option.some.injEq]
  constructor
  · intro e; rw [e]; rfl
  · intro e
    apply UInt8.toNat_inj.1
    have : (10 : UInt8).toNat = 10 := rfl
    omega
def checkResultS (r : ResultV) : Int :=
  if (withinB r.code 0 999999 && withinB r.command 0 50) = false then 1
  else if 100000 < (r.text.size : Int) then 2
  else if isTextS r.text = false then 3
  else if checkFilesS r.files ≠ 0 then checkFilesS r.files
  else if (!r.files.isEmpty && r.code != 0) = true then 3
  else checkLooksS r.looks

/-! ### The text of a result -/
def signB (r : Bool) : List UInt8 := if r then [120] else [45]
def digestOr (d : ByteArray) : List UInt8 := if d.data.toList.isEmpty then [45] else d.data.toList
def lookLineS (x : Look) : List UInt8 := [108, 111, 111, 107, 32] ++ x.path.data.toList ++ [32] ++ digestOr x.digest ++ [32] ++ signB x.run ++ [10]
def fileHeadS (x : FileV) : List UInt8 := [102, 105, 108, 101, 32] ++ x.path.data.toList ++ [32] ++ signB x.run ++ [32] ++ Lib.itoa x.bytes.length ++ [10]
def fileTextS (x : FileV) : List UInt8 := fileHeadS x ++ x.bytes ++ [10]
def headTextS (r : ResultV) : List UInt8 := [99, 111, 100, 101, 32] ++ Lib.itoa r.code ++ [32] ++ Lib.itoa r.command ++ [10, 116, 101, 120, 116, 32] ++ Lib.itoa r.text.size ++ [10] ++ r.text.data.toList
def resultTextL (r : ResultV) : List UInt8 := headTextS r ++ r.files.flatMap fileTextS ++ r.looks.flatMap lookLineS
def resultTextErr (r : ResultV) : Int := if checkResultS r ≠ 0 then checkResultS r else if 4000000 < ((resultTextL r).length : Int) then 2 else 0
def resultTextS (r : ResultV) : ByteArray := if resultTextErr r = 0 then ⟨(resultTextL r).toArray⟩ else ⟨#[]⟩
end Go.Proofs.Sm
