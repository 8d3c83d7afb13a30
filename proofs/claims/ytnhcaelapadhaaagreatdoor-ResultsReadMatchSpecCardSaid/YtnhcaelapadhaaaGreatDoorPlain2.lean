/- Plain words: paths. -/
import Derived.Test.YtnhcaelapadhaaaGreatDoorPlain1
import Derived.Lib.SplitLaws
namespace Go.Proofs.Sm
open Go.RowKit

theorem splitB_size {sep : ByteArray} {n : Nat} : ∀ {s x : ByteArray}, x ∈ Lib.splitB sep 0 n s → x.size ≤ s.size := by
  induction n with
  | zero =>
    intro s x h
    simp [Lib.splitB] at h
    subst h
    exact Nat.le_refl _
  | succ k ih =>
    intro s x h
    unfold Lib.splitB at h
    split at h
    · simp at h; subst h; exact Nat.le_refl _
    · simp only [List.mem_cons] at h
      rcases h with rfl | h
      · rw [ByteArray.size_extract]; omega
      · have := ih h
        rw [ByteArray.size_extract] at this
        omega
/-- the parts of a path -/
def partsS (s : ByteArray) : List ByteArray := Lib.splitB ⟨#[47]⟩ 0 (Lib.countB s ⟨#[47]⟩) s
def isPathS (s : ByteArray) : Bool := withinB s.size 1 200 && (partsS s).all isPartS
theorem isPathS_eq (s : ByteArray) : isPathS s = (withinB s.size 1 200 && (partsS s).all isPartS) := rfl
theorem partsS_length (s : ByteArray) : (partsS s).length = Lib.countB s ⟨#[47]⟩ + 1 := Lib.splitB_all _ (by decide) 0 _ _ rfl
/-- a row of strings in a new block -/
theorem strs_cell (l : List ByteArray) (k : Nat) (h : k < l.length) : ((l.map Value.string).toArray)[k]? = some (.string l[k]) := by
  simp [h]
end Go.Proofs.Sm
