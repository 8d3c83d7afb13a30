/- Walks: the reference's digest. -/
import Derived.Test.YtfdobbclpacijaaGreatDoorW4
namespace Go.Proofs.Sm
open Go.RowKit

set_option maxRecDepth 100000 in
theorem ref1_Digest (A : Option Addr) (n c : Nat) (l : List UInt8) (w : World) (hsl : Sl w (Lt w.heap.size) A n l) : Calls Tryz.prog 80 #[.slice A n c] w fun e w' => e = .returned (.string (digestS l)) ∧ w = w' := by
  have hm : n ≤ 9223372036854775807 := hsl.2.1
  go_enter Tryz.func80, Tryz.ntmps80
  go_wp2
  go_loop [3, 4] (fun h i => ∃ k : Nat, k ≤ n ∧ i = .int .i64 k ∧ h = .int .u64 (fnv (l.take k) : Nat)) (fun _ i => n - (intOf i).toNat)
  case atStart => exact ⟨0, Nat.zero_le _, rfl, by rw [fnv_zero]; rfl⟩
  case round =>
    obtain ⟨k, hk, rfl, rfl⟩ := hrel
    by_cases hlt : k < n
    · obtain ⟨b, o, x, rfl, hb, hx, c0⟩ := hsl.byte hlt
      have Hs := Lib.hid (fnv_succ hx); clear hx
      have Hw := Lib.hid (fnv_walk _ (fnv_lt (l.take k)) x)
      have h0 : (0 : Int) ≤ (fnv (l.take k) : Nat) := Int.natCast_nonneg _
      go_wp2
      go_round
      case rel => exact ⟨k + 1, by omega, by go_num, by rw [Hw.out, Hs.out]⟩
      case measure => simp [intOf]; omega
    · have Hl := Lib.hid (show l.take k = l from List.take_of_length_le (by rw [hsl.1]; omega))
      have HU := Lib.hid (fnv_lt (l.take k))
      generalize hH : fnv (l.take k) = H at *
      have HH := Lib.hid hH; clear hH
      go_wp2
      go_loop [5, 6, 7] (fun s i _ => ∃ j : Nat, j ≤ 16 ∧ i = .int .i64 (60 - 4 * (j : Int)) ∧ s = .string ⟨((List.range j).map fun i => hexChar (H / 16 ^ (15 - i) % 16)).toArray⟩) (fun _ i _ => (intOf i + 4).toNat)
      case atStart => exact ⟨0, by omega, rfl, rfl⟩
      case round =>
        obtain ⟨j, hj, rfl, rfl⟩ := hrel
        by_cases hj' : j < 16
        · have hdg := digit_shift H j hj'
          have hlt16 : H / 16 ^ (15 - j) % 16 < 16 := Nat.mod_lt _ (by decide)
          generalize hd : H / 16 ^ (15 - j) % 16 = d at *
          have Hd := Lib.hid hd; clear hd
          have hwr : IntKind.u64.wrap ((d : Int) + 1) = (d : Int) + 1 := by rw [IntKind.wrap_u64]; omega
          have hle : (d : Int) + 1 ≤ 16 := by omega
          go_wp2
          go_round
          case rel => exact ⟨j + 1, by omega, by congr 1; omega, by rw [hexPiece d hlt16, bytes_append, List.range_succ, List.map_append, List.map_cons, List.map_nil, Hd.out]⟩
          case measure => simp [intOf]; omega
        · obtain rfl : j = 16 := by omega
          have Hr := Lib.hid (digestS_eq (l := l) (h := H) (by rw [← HH.out, Hl.out]))
          generalize (⟨((List.range 16).map fun i => hexChar (H / 16 ^ (15 - i) % 16)).toArray⟩ : ByteArray) = r at *
          go_wp2
          go_ret
          exact ⟨ret_string Hr.out.symm, rfl⟩
end Go.Proofs.Sm
