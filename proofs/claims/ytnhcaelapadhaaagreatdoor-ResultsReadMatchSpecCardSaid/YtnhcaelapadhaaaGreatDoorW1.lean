/- Walks: bytes, parts of paths, digests' form. -/
import Derived.Test.YtnhcaelapadhaaaGreatDoorW0
import Derived.Test.YtnhcaelapadhaaaGreatDoorPlain1
namespace Go.Proofs.Sm
open Go.RowKit

theorem ref1_within (n lo hi : Int) (w : World) : Calls Tryz.prog 116 #[.int .i64 n, .int .i64 lo, .int .i64 hi] w fun e w' => e = .returned (.bool (withinB n lo hi)) ∧ w = w' := by
  go_enter Tryz.func116, Tryz.ntmps116
  go_wp2
  all_goals (go_ret; exact ⟨ret_bool (by simp [withinB]; omega), rfl⟩)

theorem ref1_partByte (c : Int) (w : World) : Calls Tryz.prog 152 #[.int .u8 c] w fun e w' => e = .returned (.bool (partI c)) ∧ w = w' := by
  go_enter Tryz.func152, Tryz.ntmps152
  go_wp2
  all_goals (go_ret; refine ⟨ret_bool ?_, rfl⟩; rw [Bool.eq_iff_iff]; simp [partI] <;> omega)

theorem partI_index (c : Int) (h0 : 0 ≤ c) (h1 : c ≤ 255) : (0 ≤ Lib.indexByte (⟨#[46, 95, 45, 43]⟩ : ByteArray).data.toList c.toNat.toUInt8) = (c = 46 ∨ c = 95 ∨ c = 45 ∨ c = 43) := by
  obtain ⟨n, rfl⟩ := Int.eq_ofNat_of_zero_le h0
  have hn : n < 256 := by omega
  clear h0 h1
  revert n
  decide +kernel

theorem blob_inPart (c : Int) (h0 : 0 ≤ c) (h1 : c ≤ 255) (w : World) : Calls Tryz.prog 151 #[.int .u8 c] w fun e w' => e = .returned (.bool (partI c)) ∧ w = w' := by
  have hx := Lib.hid (partI_index c h0 h1)
  go_enter Tryz.func151, Tryz.ntmps151
  go_wp2_with (go_at_call 172; refine (Tryz.strings_IndexByte _ _ _).mono ?_; rintro e w1 ⟨rfl, rfl⟩)
  all_goals (go_ret; refine ⟨ret_bool ?_, rfl⟩; rw [Bool.eq_iff_iff]; try (simp only [decide_eq_true_eq, hx.out]); simp [partI] <;> omega)
end Go.Proofs.Sm
