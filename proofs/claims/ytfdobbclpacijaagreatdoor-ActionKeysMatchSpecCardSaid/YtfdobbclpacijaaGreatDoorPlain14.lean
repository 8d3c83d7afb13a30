/- Plain words: forms of commands: small laws. -/
import Derived.Test.YtfdobbclpacijaaGreatDoorPlain13
namespace Go.Proofs.Sm
open Go.RowKit

def plusL (more : Bool) : List UInt8 := if more then [43] else []
def formL (w : List UInt8) : List UInt8 := match formS w with
  | none => []
  | some (k, more) => k ++ plusL more
def FormIs (k : List UInt8) (more : Bool) : Prop :=
  Lib.trimSuffix (k ++ plusL more) [43] = k ∧ Lib.hasSuffix (k ++ plusL more) [43] = more ∧ 1 ≤ k.length ∧ k.length ≤ 4
theorem form_is {w k : List UInt8} {more : Bool} (h : formS w = some (k, more)) : FormIs k more := by
  unfold formS at h
  repeat' split at h
  all_goals (first | (simp at h; done) | (simp only [Option.some.injEq, Prod.mk.injEq] at h; obtain ⟨rfl, rfl⟩ := h; unfold FormIs; decide +kernel))
theorem form_fail {w : List UInt8} (h : w = [102, 97, 105, 108]) : formS w = some ([110], false) := by subst h; decide
theorem form_none {w : List UInt8} (h : formS w = none) : formL w = [] := by rw [formL, h]
theorem form_some {w k : List UInt8} {more : Bool} (h : formS w = some (k, more)) : formL w = k ++ plusL more := by rw [formL, h]
theorem wordsFit_step {k : List UInt8} {l : List ByteArray} {i : Nat} {x : ByteArray} (hx : l[i]? = some x) (h : fitsS (k.getD (min i (k.length - 1)) 0) x = true) : wordsFit k i (l.drop i) = wordsFit k (i + 1) (l.drop (i + 1)) := by
  rw [drop_at hx, wordsFit, h, Bool.true_and]
theorem wordsFit_no {k : List UInt8} {l : List ByteArray} {i : Nat} {x : ByteArray} (hx : l[i]? = some x) (h : fitsS (k.getD (min i (k.length - 1)) 0) x = false) : wordsFit k i (l.drop i) = false := by
  rw [drop_at hx, wordsFit, h, Bool.false_and]
theorem wordsFit_end {k : List UInt8} {l : List ByteArray} {i : Nat} (h : l.length ≤ i) : wordsFit k i (l.drop i) = true := by
  rw [List.drop_eq_nil_of_le h, wordsFit]
theorem hasForm_len {k : List UInt8} {l : List ByteArray} {more : Bool} (h : (decide (k.length ≤ l.length) && (decide (l.length ≤ k.length) || more)) = false) : hasFormS l k more = false := by
  rw [hasFormS, h, Bool.false_and]
theorem hasForm_fit {k : List UInt8} {l : List ByteArray} {more : Bool} (h : (decide (k.length ≤ l.length) && (decide (l.length ≤ k.length) || more)) = true) : hasFormS l k more = wordsFit k 0 l := by
  rw [hasFormS, h, Bool.true_and]
end Go.Proofs.Sm
