/- Plain words: the look at a path in files. -/
import Derived.Test.YtnhcaelapadhaaaGreatDoorPlain7
namespace Go.Proofs.Sm
open Go.RowKit

def eqp (p : ByteArray) (y : FileV) : Bool := y.path.toList == p.toList
def lookAtS (l : List FileV) (p : ByteArray) : Look := match l.find? (eqp p) with
  | none => ⟨p, ⟨#[]⟩, false⟩
  | some x => ⟨p, digestS x.bytes, x.run⟩
/-- Where a file stands, or -1. -/
def FindIs (l : List FileV) (p : ByteArray) (r : Int) : Prop := (r = -1 ∧ l.find? (eqp p) = none) ∨ ∃ (k : Nat) (x : FileV), r = k ∧ l[k]? = some x ∧ l.find? (eqp p) = some x
theorem find_none_succ {l : List FileV} {p : ByteArray} {k : Nat} {x : FileV} (hx : l[k]? = some x) (h : (l.take k).find? (eqp p) = none) (hn : (x.path.toList == p.toList) = false) : (l.take (k + 1)).find? (eqp p) = none := by
  rw [List.take_add_one, hx, List.find?_append, h]
  simp [eqp, hn]
theorem find_hit {l : List FileV} {p : ByteArray} {k : Nat} {x : FileV} (hx : l[k]? = some x) (h : (l.take k).find? (eqp p) = none) (hn : (x.path.toList == p.toList) = true) : l.find? (eqp p) = some x := by
  have e : l = l.take k ++ x :: l.drop (k + 1) := by rw [← drop_at hx, List.take_append_drop]
  rw [e, List.find?_append, h]
  simp [eqp, hn]
theorem find_end {l : List FileV} {p : ByteArray} {k : Nat} (hk : ¬ k < l.length) (h : (l.take k).find? (eqp p) = none) : l.find? (eqp p) = none := by
  rwa [List.take_of_length_le (by omega)] at h
theorem lookAt_none {l : List FileV} {p : ByteArray} (h : l.find? (eqp p) = none) : lookAtS l p = ⟨p, ⟨#[]⟩, false⟩ := by simp [lookAtS, h]
theorem lookAt_some {l : List FileV} {p : ByteArray} {x : FileV} (h : l.find? (eqp p) = some x) : lookAtS l p = ⟨p, digestS x.bytes, x.run⟩ := by simp [lookAtS, h]
theorem find_sorted {l : List FileV} {p : ByteArray} {k : Nat} {x : FileV} (hso : Sorted l) (hx : l[k]? = some x) (hn : (x.path.toList == p.toList) = true) : l.find? (eqp p) = some x := by
  refine find_hit hx ?_ hn
  rw [List.find?_eq_none]
  intro y hy
  obtain ⟨q, hq⟩ := List.getElem?_of_mem hy
  rw [List.getElem?_take] at hq
  split at hq
  · rename_i hqk
    have h1 := lt_ne (hso q k y x hqk hq hx)
    simp only [eqp, beq_iff_eq, beq_eq_false_iff_ne] at *
    rw [← hn]; exact h1
  · cases hq
theorem Halves.none {l : List FileV} {p : ByteArray} {i : Nat} (h : Halves l p i i) (hs : Sorted l) (hno : ∀ y, l[i]? = some y → (y.path.toList == p.toList) = false) : l.find? (eqp p) = Option.none := by
  have := h.miss hs hno
  unfold hasPath at this
  rw [List.any_eq_false] at this
  rw [List.find?_eq_none]
  intro y hy
  have h1 := this y hy
  rw [data_beq] at h1
  simpa [eqp] using h1
end Go.Proofs.Sm
