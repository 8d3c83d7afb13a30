/- Plain words: a text of given bytes alone, asked by Trim. -/
import Derived.Test.YtnhcaelapadhaaaGreatDoorPlain2
import Derived.Lib.SlTrimSet
namespace Go.Proofs.Sm
open Go.RowKit

theorem dropWhile_nil {α : Type} {p : α → Bool} : ∀ {l : List α}, l.dropWhile p = [] ↔ l.all p = true
  | [] => by simp
  | a :: l => by
    rw [List.dropWhile_cons, List.all_cons]
    cases h : p a
    · simp
    · simp only [if_true, Bool.true_and]
      exact dropWhile_nil
theorem dropWhile_all {α : Type} {p : α → Bool} : ∀ {l : List α}, (l.dropWhile p).all p = true → l.all p = true
  | [], _ => rfl
  | a :: l, h => by
    rw [List.dropWhile_cons] at h
    cases hp : p a
    · rw [hp] at h; exact h
    · rw [hp] at h
      rw [List.all_cons, hp, Bool.true_and]
      exact dropWhile_all h
theorem trimS_nil (l cs : List UInt8) : Lib.trimS l cs = [] ↔ l.all (cs.contains ·) = true := by
  unfold Lib.trimS Lib.trimLeftS Lib.trimRightS
  rw [dropWhile_nil, List.all_reverse]
  constructor
  · intro h
    have := dropWhile_all h
    rwa [List.all_reverse] at this
  · intro h
    have : l.reverse.dropWhile (cs.contains ·) = [] := dropWhile_nil.2 (by rwa [List.all_reverse])
    rw [this]; rfl
def hexDigits : List UInt8 := [48, 49, 50, 51, 52, 53, 54, 55, 56, 57, 97, 98, 99, 100, 101, 102]
theorem hexB_mem : ∀ c : UInt8, hexDigits.contains c = hexB c := by
  have h : ∀ n : Fin 256, hexDigits.contains (UInt8.ofNat n.val) = hexB (UInt8.ofNat n.val) := by decide +kernel
  intro c
  have := h ⟨c.toNat, c.toNat_lt⟩
  simpa using this
theorem trim_hex (l : List UInt8) : (Lib.trimS l hexDigits = []) ↔ l.all hexB = true := by
  rw [trimS_nil]
  have : (hexDigits.contains ·) = hexB := funext hexB_mem
  rw [this]
/-- digits -/
def digitI (c : Int) : Bool := 48 ≤ c && c ≤ 57
def digitB (c : UInt8) : Bool := digitI (c.toNat : Int)
def digits : List UInt8 := [48, 49, 50, 51, 52, 53, 54, 55, 56, 57]
theorem digitB_mem : ∀ c : UInt8, digits.contains c = digitB c := by
  have h : ∀ n : Fin 256, digits.contains (UInt8.ofNat n.val) = digitB (UInt8.ofNat n.val) := by decide +kernel
  intro c
  have := h ⟨c.toNat, c.toNat_lt⟩
  simpa using this
theorem trim_digits (l : List UInt8) : (Lib.trimS l digits = []) ↔ l.all digitB = true := by
  rw [trimS_nil]
  have : (digits.contains ·) = digitB := funext digitB_mem
  rw [this]
end Go.Proofs.Sm
