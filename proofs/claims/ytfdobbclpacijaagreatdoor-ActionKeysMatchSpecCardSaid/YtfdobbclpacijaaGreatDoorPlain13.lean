/- Plain words: names, words, numbers: small laws. -/
import Derived.Test.YtfdobbclpacijaaGreatDoorPlain10
import Derived.Lib.Atoi
namespace Go.Proofs.Sm
open Go.RowKit

def firstSmall (l : List UInt8) : Bool := match l with | [] => false | c :: _ => smallI (c.toNat : Int)
theorem isNameS_eq (s : ByteArray) : isNameS s = (withinB s.size 1 40 && firstSmall s.data.toList && s.data.toList.all nameB && !(langWords.contains s.data.toList)) := rfl
theorem byte_at (s : ByteArray) (k : Nat) (h : k < s.size) : s.data.toList[k]? = some s[k] := by
  rw [Array.getElem?_toList]
  exact Array.getElem?_eq_getElem h
theorem firstSmall_at (s : ByteArray) (h : 0 < s.size) : firstSmall s.data.toList = smallI (s[0].toNat : Int) := by
  have h1 := byte_at s 0 h
  cases hl : s.data.toList with
  | nil => rw [hl] at h1; cases h1
  | cons a l => rw [hl] at h1; cases h1; rfl
theorem first_of_take {l : List UInt8} {k : Nat} (h : 0 < k) : firstSmall (l.take k) = firstSmall l := by
  cases l with
  | nil => simp
  | cons a l =>
    cases k with
    | zero => omega
    | succ k => rfl
/-- the value of digits -/
def numS (s : ByteArray) : Nat := (Lib.decNat s.data.toList).getD 0
theorem decFrom_some : ∀ (l : List UInt8) (acc : Nat), l.all digitB = true → ∃ n, Lib.decFrom acc l = some n ∧ n < (acc + 1) * 10 ^ l.length
  | [], acc, _ => ⟨acc, rfl, by simp⟩
  | c :: l, acc, h => by
    rw [List.all_cons, Bool.and_eq_true] at h
    have hc : 48 ≤ c.toNat ∧ c.toNat ≤ 57 := by
      have := h.1
      simp [digitB, digitI] at this
      omega
    obtain ⟨n, h1, h2⟩ := decFrom_some l (acc * 10 + (c.toNat - 48)) h.2
    refine ⟨n, ?_, ?_⟩
    · rw [Lib.decFrom, Lib.digitVal, if_pos hc]
      exact h1
    · refine Nat.lt_of_lt_of_le h2 ?_
      rw [List.length_cons, Nat.pow_succ, ← Nat.mul_assoc, Nat.mul_right_comm]
      exact Nat.mul_le_mul_right _ (by omega)
theorem number_some {s : ByteArray} {m : Int} (h : isNumberS s m = true) : Lib.decNat s.data.toList = some (numS s) ∧ numS s < 10 ^ s.size ∧ s.size ≤ m.toNat ∧ 1 ≤ s.size := by
  simp only [isNumberS, Bool.and_eq_true] at h
  have h1 := withinB_true h.1.1
  obtain ⟨n, h2, h3⟩ := decFrom_some s.data.toList 0 h.1.2
  have hne : s.data.toList.isEmpty = false := by
    rw [List.isEmpty_eq_false_iff]
    intro e
    have := congrArg List.length e
    simp at this
    have : s.size = 0 := by simp [ByteArray.size, this]
    omega
  have h4 : Lib.decNat s.data.toList = some n := by rw [Lib.decNat, hne]; exact h2
  have h5 : s.data.toList.length = s.size := by simp
  refine ⟨by rw [numS, h4]; rfl, by rw [numS, h4]; simpa [h5] using h3, by omega, by omega⟩
theorem number_atoi {s : ByteArray} {m : Int} (h : isNumberS s m = true) : Lib.atoi s.data.toList = some ((numS s : Nat) : Int) := by
  have h1 := (number_some h).1
  simp only [isNumberS, Bool.and_eq_true] at h
  cases hl : s.data.toList with
  | nil => rw [hl, Lib.decNat] at h1; cases h1
  | cons b r =>
    have hb : digitB b = true := by
      have := h.1.2
      rw [hl, List.all_cons, Bool.and_eq_true] at this
      exact this.1
    have hb1 : (b == 45) = false := by
      rw [beq_eq_false_iff_ne]
      intro e; subst e; revert hb; decide
    have hb2 : (b == 43) = false := by
      rw [beq_eq_false_iff_ne]
      intro e; subst e; revert hb; decide
    rw [Lib.atoi, hb1, hb2, ← hl, h1]
    rfl
theorem leadOk_two {s : ByteArray} (h : 1 < s.size) : leadOk s.data.toList = !(((s[0]'(by omega)).toNat : Int) == 48) := by
  have h1 := byte_at s 0 (by omega)
  have h2 : s.data.toList.length = s.size := by simp
  cases hl : s.data.toList with
  | nil => rw [hl] at h1; cases h1
  | cons a l =>
    rw [hl] at h1 h2
    cases h1
    have hne : ((s[0]'(by omega)) :: l == [48]) = false := by
      cases l with
      | nil => simp at h2; omega
      | cons c l => simp
    rw [leadOk, hne, Bool.or_false, List.head?_cons, Bool.eq_iff_iff]
    simp only [Bool.not_eq_true', beq_eq_false_iff_ne, ne_eq, Option.some.injEq]
    have e48 : (48 : UInt8).toNat = 48 := rfl
    constructor
    · intro hh e; exact hh (UInt8.toNat_inj.1 (by omega))
    · intro hh e; rw [e] at hh; exact hh rfl
theorem leadOk_one {s : ByteArray} (h : s.size = 1) : leadOk s.data.toList = true := by
  have h2 : s.data.toList.length = s.size := by simp
  cases hl : s.data.toList with
  | nil => rfl
  | cons a l =>
    rw [hl, h] at h2
    have : l = [] := List.eq_nil_of_length_eq_zero (by simpa using h2)
    subst this
    unfold leadOk
    rw [List.head?_cons]
    by_cases ha : a = 48
    · subst ha; rfl
    · have : (some a == some (48 : UInt8)) = false := by simpa using ha
      rw [this]; rfl
end Go.Proofs.Sm
