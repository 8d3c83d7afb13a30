/- Walks: forms of commands. -/
import Derived.Test.YtfdobbclpacijaaGreatDoorW33
import Derived.Test.YtfdobbclpacijaaGreatDoorPlain14
import Derived.Test.YtfdobbclpacijaaGreatDoorW23
namespace Go.Proofs.Sm
open Go.RowKit

set_option maxHeartbeats 1000000 in
set_option maxRecDepth 100000 in
theorem act_formOf (s : ByteArray) (w : World) : Calls Tryz.prog 124 #[.string s] w fun e w' => e = .returned (.string ⟨(formL s.data.toList).toArray⟩) ∧ w = w' := by
  rw [← Lib.toList_data]
  go_enter Tryz.func124, Tryz.ntmps124
  go_wp2
  all_goals (go_ret; exact ⟨ret_str (by simp_all [formL, formS, plusL]), rfl⟩)
set_option maxHeartbeats 1000000 in
set_option maxRecDepth 100000 in
theorem ref5_form (s : ByteArray) (w : World) : Calls Tryz.prog 132 #[.string s] w fun e w' => e = .returned (.tuple #[.string ⟨(formL s.data.toList).toArray⟩, .bool (formS s.data.toList).isSome]) ∧ w = w' := by
  rw [← Lib.toList_data]
  go_enter Tryz.func132, Tryz.ntmps132
  go_wp2
  all_goals (go_ret2; exact ⟨ret_pair (congrArg Value.string (bytes_ext (by simp_all [formL, formS, plusL]))) (congrArg Value.bool (by simp_all [formS])), rfl⟩)
/-- the number that a string is, or 0 -/
def numOr (s : ByteArray) (m : Int) : Int := if isNumberS s m then (numS s : Nat) else 0
theorem ref5_num (s : ByteArray) (m : Int) (w : World) (hs : s.size ≤ maxLen) (h18 : m ≤ 18) :
    Calls Tryz.prog 107 #[.string s, .int .i64 m] w fun e w' => e = .returned (.tuple #[.int .i64 (numOr s m), .bool (isNumberS s m)]) ∧ Below w.heap.size w w' := ref5_numbered s m w hs h18
set_option maxRecDepth 100000 in
theorem ref5_fits (c : UInt8) (s : ByteArray) (w : World) (hE : Env w) (hs : s.size ≤ maxLen) : Calls Tryz.prog 178 #[.int .u8 c.toNat, .string s] w fun e w' => e = .returned (.bool (fitsS c s)) ∧ Below w.heap.size w w' := by
  by_cases h1 : c = 112
  · subst h1
    have HV := Lib.hid (show fitsS 112 s = isPathS s from rfl)
    have e1 : ((112 : UInt8).toNat : Int) = 112 := rfl
    rw [e1]
    go_enter Tryz.func178, Tryz.ntmps178
    go_wp2_with (go_at_call 135; refine (ref1_IsPath _ _ hE).mono ?_; rintro e w1 ⟨rfl, hb1⟩)
    go_ret; exact ⟨ret_bool HV.out.symm, hb1⟩
  by_cases h2 : c = 110
  · subst h2
    have HV := Lib.hid (show fitsS 110 s = isNumberS s 6 from rfl)
    have e1 : ((110 : UInt8).toNat : Int) = 110 := rfl
    rw [e1]
    go_enter Tryz.func178, Tryz.ntmps178
    go_wp2_with (go_at_call 107; refine (ref5_num s 6 _ hs (by decide)).mono ?_; rintro e w1 ⟨rfl, hb1⟩)
    go_ret; exact ⟨ret_bool HV.out.symm, hb1⟩
  · have HV := Lib.hid (show fitsS c s = true by rw [fitsS, if_neg h1, if_neg h2])
    have g1 : ((c.toNat : Int) == 112) = false := by
      rw [beq_eq_false_iff_ne]; intro e; exact h1 (UInt8.toNat_inj.1 (by have : (112 : UInt8).toNat = 112 := rfl; omega))
    have g2 : ((c.toNat : Int) == 110) = false := by
      rw [beq_eq_false_iff_ne]; intro e; exact h2 (UInt8.toNat_inj.1 (by have : (110 : UInt8).toNat = 110 := rfl; omega))
    go_enter Tryz.func178, Tryz.ntmps178
    go_wp2
    go_ret; exact ⟨ret_bool HV.out.symm, Below.refl _ _⟩
end Go.Proofs.Sm
