/- Walks: parts of paths, the form of digests (the reference's). -/
import Derived.Test.YtnhcaelapadhaaaGreatDoorW1
namespace Go.Proofs.Sm
open Go.RowKit

theorem ref1_isPart (s : ByteArray) (w : World) (hs : s.size ≤ maxLen) : Calls Tryz.prog 117 #[.string s] w fun e w' => e = .returned (.bool (isPartS s)) ∧ w = w' := by
  unfold maxLen at hs
  go_enter Tryz.func117, Tryz.ntmps117
  go_wp2
  go_loop [3] (fun i => ∃ k : Nat, k ≤ s.size ∧ i = .int .i64 k ∧ (s.data.toList.take k).all partB = true) (fun i => s.size - (intOf i).toNat)
  case atStart => exact ⟨0, Nat.zero_le _, rfl, rfl⟩
  case round =>
    obtain ⟨k, hk, rfl, hall⟩ := hrel
    have H := Lib.hid hall; clear hall
    by_cases hlt : k < s.size
    · go_wp2_with (go_at_call 152; refine (ref1_partByte _ _).mono ?_; rintro e w1 ⟨rfl, rfl⟩)
      all_goals first
        | (go_round
           case rel => exact ⟨k + 1, by omega, by go_num, all_step hlt H.out (by simp_all [partB])⟩
           case measure => simp [intOf]; omega)
        | (go_ret; exact ⟨ret_bool (by simp [isPartS, all_no (p := partB) hlt (by simp_all [partB])]), rfl⟩)
    · have He := all_end hlt H.out
      go_wp2
      all_goals (go_ret; exact ⟨ret_bool (by simp_all [isPartS, Lib.toList_data]), rfl⟩)

theorem blob_isPart (s : ByteArray) (w : World) (hs : s.size ≤ maxLen) : Calls Tryz.prog 115 #[.string s] w fun e w' => e = .returned (.bool (isPartS s)) ∧ w = w' := by
  unfold maxLen at hs
  go_enter Tryz.func115, Tryz.ntmps115
  go_wp2
  go_loop [3, 6] (fun _ i => ∃ k : Nat, k ≤ s.size ∧ i = .int .i64 k ∧ (s.data.toList.take k).all partB = true) (fun _ i => s.size - (intOf i).toNat)
  case atStart => exact ⟨0, Nat.zero_le _, rfl, rfl⟩
  case round =>
    obtain ⟨k, hk, rfl, hall⟩ := hrel
    have H := Lib.hid hall; clear hall
    by_cases hlt : k < s.size
    · have h255 : (s[k].toNat : Int) ≤ 255 := by have := s[k].toNat_lt; omega
      go_wp2_with (go_at_call 151; refine (blob_inPart _ (Int.natCast_nonneg _) h255 _).mono ?_; rintro e w1 ⟨rfl, rfl⟩)
      all_goals first
        | (go_round
           case rel => exact ⟨k + 1, by omega, by go_num, all_step hlt H.out (by simp_all [partB])⟩
           case measure => simp [intOf]; omega)
        | (go_ret; exact ⟨ret_bool (by simp [isPartS, all_no (p := partB) hlt (by simp_all [partB])]), rfl⟩)
    · have He := all_end hlt H.out
      go_wp2
      all_goals (go_ret; exact ⟨ret_bool (by simp_all [isPartS, Lib.toList_data]), rfl⟩)

theorem ref1_IsDigest (s : ByteArray) (w : World) (hs : s.size ≤ maxLen) : Calls Tryz.prog 71 #[.string s] w fun e w' => e = .returned (.bool (isDigestS s)) ∧ w = w' := by
  unfold maxLen at hs
  go_enter Tryz.func71, Tryz.ntmps71
  go_wp2
  go_loop [3] (fun i => ∃ k : Nat, k ≤ s.size ∧ i = .int .i64 k ∧ (s.data.toList.take k).all hexB = true) (fun i => s.size - (intOf i).toNat)
  case atStart => exact ⟨0, Nat.zero_le _, rfl, rfl⟩
  case round =>
    obtain ⟨k, hk, rfl, hall⟩ := hrel
    have H := Lib.hid hall; clear hall
    by_cases hlt : k < s.size
    · go_wp2
      all_goals first
        | (go_round
           case rel => exact ⟨k + 1, by omega, by go_num, all_step hlt H.out (by simp [hexB, hexI]; simp at *; omega)⟩
           case measure => simp [intOf]; omega)
        | (go_ret; exact ⟨ret_bool (by rw [isDigestS, all_no hlt (by simp [hexB, hexI]; simp at *; omega)]; rfl), rfl⟩)
    · go_wp2
      go_ret; exact ⟨ret_bool (by rw [isDigestS, all_end hlt H.out]; rfl), rfl⟩
end Go.Proofs.Sm
