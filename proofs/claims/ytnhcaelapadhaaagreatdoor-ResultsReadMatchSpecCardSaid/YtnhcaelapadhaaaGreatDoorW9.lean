/- Walks: whether a path lies within that of a file. -/
import Derived.Test.YtnhcaelapadhaaaGreatDoorW8
import Derived.Test.YtnhcaelapadhaaaGreatDoorPlain6
import Derived.Test.YtnhcaelapadhaaaGreatDoorMapR
namespace Go.Proofs.Sm
open Go.RowKit

/-- What 'has' holds. -/
def hasOf (l : List FileV) : List UInt8 → Option Value := fun key => if hasPath l key then some (.bool true) else none

theorem has_look {m nn : Nat} {l : List FileV} {w : World} (hmap : MapIs Tryz.prog 9 w m nn (hasOf l)) {s : ByteArray} (hs : s.size ≤ maxLen) :
    (Instr.lookup 118 (.map (some m)) (.string s) false).run Tryz.prog w = .ok (.bool (hasPath l s.data.toList)) w := by
  have hz : ∀ w, (zeroValue 4).run Tryz.prog w = .ok (.bool false) w := fun w => by kernel_rfl
  rw [hmap.look Tryz.underlying9 Tryz.underlying118 (hz w) hs, hasOf]
  cases hasPath l s.data.toList <;> rfl

set_option maxRecDepth 100000 in
theorem blob_clashes (m nn : Nat) (l : List FileV) (s : ByteArray) (w : World) (hs : s.size ≤ maxLen) (hmap : MapIs Tryz.prog 9 w m nn (hasOf l)) :
    Calls Tryz.prog 84 #[.map (some m), .string s] w fun e w' => e = .returned (.bool (clashS l s)) ∧ w = w' := by
  have hm : s.size ≤ 9223372036854775807 := hs
  go_enter Tryz.func84, Tryz.ntmps84
  go_wp2
  go_loop [5, 8] (fun _ i => ∃ k : Nat, k ≤ s.size ∧ i = .int .i64 k ∧ clashS l s = clashFrom l s (s.size - k) k) (fun _ i => s.size - (intOf i).toNat)
  case atStart => exact ⟨0, Nat.zero_le _, rfl, rfl⟩
  case round =>
    obtain ⟨k, hk, rfl, hd⟩ := hrel
    have Hr := Lib.hid hd; clear hd
    by_cases hlt : k < s.size
    · have hlk := has_look hmap (s := s.extract 0 k) (by rw [ByteArray.size_extract]; omega)
      have e0 : (s.extract 0 k).data.toList = s.data.toList.take k := by simp
      rw [e0] at hlk
      cases h47 : ((s[k].toNat : Int) == 47)
      · have HS := Lib.hid (clash_other (l := l) hlt (by simpa using h47))
        go_wp2
        go_round
        case rel => exact ⟨k + 1, by omega, by go_num, by rw [Hr.out, HS.out]⟩
        case measure => simp [intOf]; omega
      · cases hp : hasPath l (s.data.toList.take k)
        · have HS := Lib.hid (clash_slash (l := l) hlt hp)
          rw [hp] at hlk
          go_wp2
          go_round
          case rel => exact ⟨k + 1, by omega, by go_num, by rw [Hr.out, HS.out]⟩
          case measure => simp [intOf]; omega
        · have HS := Lib.hid (clash_yes (l := l) hlt (by simpa using h47) hp)
          rw [hp] at hlk
          go_wp2
          go_ret
          exact ⟨ret_bool (by rw [Hr.out, HS.out]), rfl⟩
    · go_wp2
      go_ret
      exact ⟨ret_bool (by rw [Hr.out, show s.size - k = 0 by omega]; rfl), rfl⟩
end Go.Proofs.Sm
