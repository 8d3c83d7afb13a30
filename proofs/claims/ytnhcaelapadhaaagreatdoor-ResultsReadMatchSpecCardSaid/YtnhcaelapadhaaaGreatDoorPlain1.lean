/- Plain words for contents and paths (chapter 1): no program is in sight. -/
import Derived.Test.YtnhcaelapadhaaaGreatDoorBase
import Derived.Lib.Strings
namespace Go.Proofs.Sm
open Go.RowKit

/-- from lo to hi -/
def withinB (n lo hi : Int) : Bool := decide (lo ≤ n) && decide (n ≤ hi)
theorem withinB_true {n lo hi : Int} (h : withinB n lo hi = true) : lo ≤ n ∧ n ≤ hi := by simpa [withinB] using h
theorem withinB_false {n lo hi : Int} (h : withinB n lo hi = false) : n < lo ∨ hi < n := by simp [withinB] at h; omega
/-- a byte of a part of a path -/
def partI (c : Int) : Bool := (97 ≤ c && c ≤ 122) || (65 ≤ c && c ≤ 90) || (48 ≤ c && c ≤ 57) || c == 46 || c == 95 || c == 45 || c == 43
def partB (c : UInt8) : Bool := partI (c.toNat : Int)
def isPartS (s : ByteArray) : Bool := s.data.toList.all partB && !(s.data.toList == []) && !(s.data.toList == [46]) && !(s.data.toList == [46, 46])
def hexI (c : Int) : Bool := (48 ≤ c && c ≤ 57) || (97 ≤ c && c ≤ 102)
def hexB (c : UInt8) : Bool := hexI (c.toNat : Int)
def isDigestS (s : ByteArray) : Bool := s.data.toList.all hexB && ((s.size : Int) == 16)
end Go.Proofs.Sm
