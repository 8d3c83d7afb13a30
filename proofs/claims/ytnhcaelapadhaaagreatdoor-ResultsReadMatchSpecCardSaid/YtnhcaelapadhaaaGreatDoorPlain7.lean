/- Plain words: a place in files in order, by halves. -/
import Derived.Test.YtnhcaelapadhaaaGreatDoorPlain6
namespace Go.Proofs.Sm
open Go.RowKit

/-- What stands ahead of i comes before p; what stands from j on does not. -/
def Halves (l : List FileV) (p : ByteArray) (i j : Nat) : Prop :=
  i ≤ j ∧ j ≤ l.length ∧ (∀ m x, m < i → l[m]? = some x → ltS x.path p = true) ∧ (∀ m x, j ≤ m → l[m]? = some x → ltS x.path p = false)
theorem Halves.start (l : List FileV) (p : ByteArray) : Halves l p 0 l.length :=
  ⟨Nat.zero_le _, Nat.le_refl _, fun m x h => absurd h (by omega), fun m x h hx => by
    have := (List.getElem?_eq_some_iff.1 hx).1
    omega⟩
section
variable {l : List FileV} {p : ByteArray} {i j m : Nat} {x : FileV}
theorem Halves.up (h : Halves l p i j) (hs : Sorted l) (him : i ≤ m) (hmj : m < j) (hx : l[m]? = some x) (hlt : ltS x.path p = true) : Halves l p (m + 1) j := by
  refine ⟨hmj, h.2.1, fun q y hq hy => ?_, h.2.2.2⟩
  by_cases hqm : q = m
  · subst hqm
    rw [hx] at hy
    cases hy
    exact hlt
  · exact bl_trans (hs q m y x (by omega) hy hx) hlt
theorem Halves.down (h : Halves l p i j) (hs : Sorted l) (him : i ≤ m) (hmj : m < j) (hx : l[m]? = some x) (hlt : ltS x.path p = false) : Halves l p i m := by
  refine ⟨him, by have := h.2.1; omega, h.2.2.1, fun q y hq hy => ?_⟩
  by_cases hqm : q = m
  · subst hqm
    rw [hx] at hy
    cases hy
    exact hlt
  · have h1 := hs m q x y (by omega) hx hy
    cases hyp : ltS y.path p
    · rfl
    · exact absurd (bl_trans h1 hyp) (by rw [show Op.bytesLess x.path.toList p.toList = false from hlt]; decide)
theorem lt_ne {a b : ByteArray} (h : ltS a b = true) : (a.toList == b.toList) = false := by
  simp only [beq_eq_false_iff_ne]
  intro e
  unfold ltS at h
  rw [e, bl_irrefl] at h
  exact absurd h (by decide)
theorem data_beq (a b : ByteArray) : (a.data.toList == b.data.toList) = (a.toList == b.toList) := by rw [Lib.toList_data, Lib.toList_data]
/-- Where the halves meet the place is found, if there is one. -/
theorem Halves.miss (h : Halves l p i i) (hs : Sorted l) (hno : ∀ y, l[i]? = some y → (y.path.toList == p.toList) = false) : hasPath l p.data.toList = false := by
  unfold hasPath
  rw [List.any_eq_false]
  intro y hy
  obtain ⟨q, hq⟩ := List.getElem?_of_mem hy
  rw [data_beq]
  rcases Nat.lt_trichotomy q i with h1 | h1 | h1
  · rw [lt_ne (h.2.2.1 q y h1 hq)]; decide
  · subst h1; rw [hno y hq]; decide
  · obtain ⟨z, hz⟩ : ∃ z, l[i]? = some z := ⟨l[i]'(by have := (List.getElem?_eq_some_iff.1 hq).1; omega), List.getElem?_eq_getElem _⟩
    have h2 := hs i q z y h1 hz hq
    have h3 := h.2.2.2 i z (Nat.le_refl _) hz
    have h4 : ltS p z.path = true := bl_total h3 (by have := hno z hz; simpa using this)
    have h5 := lt_ne (bl_trans h4 h2)
    simp only [beq_eq_false_iff_ne, Bool.not_eq_true] at *
    exact fun e => h5 e.symm
theorem hasPath_at (hx : l[i]? = some x) (he : (x.path.toList == p.toList) = true) : hasPath l p.data.toList = true := by
  unfold hasPath
  rw [List.any_eq_true]
  exact ⟨x, List.mem_of_getElem? hx, by rw [data_beq]; exact he⟩
end
end Go.Proofs.Sm
