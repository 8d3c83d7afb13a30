/- Walks: LooksOf and Stands. -/
import Derived.Test.YtnhcaelapadhaaaGreatDoorW15
namespace Go.Proofs.Sm
open Go.RowKit

theorem ret_pair {a b c d : Value} (h1 : a = c) (h2 : b = d) : Ending.returned (.tuple #[a, b]) = .returned (.tuple #[c, d]) := by rw [h1, h2]
def looksOfErr (l : List Look) (files : List FileV) : Int := if checkLooksS l ≠ 0 then checkLooksS l else checkFilesS files
def looksOfS (l : List Look) (files : List FileV) : List Look := if looksOfErr l files = 0 then looksAtS l files else []
theorem checkLooks_len {l : List Look} (h : checkLooksS l = 0) : l.length ≤ 4000 := by
  unfold checkLooksS at h
  split at h
  · omega
  · omega
theorem checkFiles_len {l : List FileV} (h : checkFilesS l = 0) : l.length ≤ 1000 := by
  unfold checkFilesS at h
  split at h
  · omega
  · omega
theorem checkFiles_sorted {l : List FileV} (h : checkFilesS l = 0) : Sorted l := by
  unfold checkFilesS at h
  split at h
  · omega
  · split at h
    · rename_i h1
      exact absurd h h1
    · rename_i h1
      exact sorted_of (by simpa using h1)

end Go.Proofs.Sm
