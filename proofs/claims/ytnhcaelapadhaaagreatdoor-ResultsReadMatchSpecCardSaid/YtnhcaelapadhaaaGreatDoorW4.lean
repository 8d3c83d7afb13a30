/- Walks: digests. -/
import Derived.Test.YtnhcaelapadhaaaGreatDoorW3
import Derived.Test.YtnhcaelapadhaaaGreatDoorPlain4
namespace Go.Proofs.Sm
open Go.RowKit

set_option maxRecDepth 100000 in
theorem blob_Digest (A : Option Addr) (n c : Nat) (l : List UInt8) (w : World) (hsl : Sl w (Lt w.heap.size) A n l) : Calls Tryz.prog 92 #[.slice A n c] w fun e w' => e = .returned (.string (digestS l)) ∧ Below w.heap.size w w' := by
  have hm : n ≤ 9223372036854775807 := hsl.2.1
  have hmk : ∀ w, (Instr.makeSlice 63 (.int .i64 16) (.int .i64 16)).run Tryz.prog w = .ok (.slice (some ⟨w.heap.size, 0, none⟩) 16 16) (w.alloc (.cells (Array.replicate 16 (.int .u8 0)) 5)) := fun _ => by kernel_rfl
  go_enter Tryz.func92, Tryz.ntmps92
  go_wp2
  go_loop [3, 5, 10] (fun h _ i => ∃ k : Nat, k ≤ n ∧ i = .int .i64 k ∧ h = .int .u64 (fnv (l.take k) : Nat)) (fun _ _ i => n - (intOf i).toNat)
  case atStart => exact ⟨0, Nat.zero_le _, rfl, by rw [fnv_zero]; rfl⟩
  case round =>
    obtain ⟨k, hk, rfl, rfl⟩ := hrel
    by_cases hlt : k < n
    · obtain ⟨b, o, x, rfl, hb, hx, c0⟩ := hsl.byte hlt
      have Hs := Lib.hid (fnv_succ hx); clear hx
      have Hw := Lib.hid (fnv_walk _ (fnv_lt (l.take k)) x)
      have h0 : (0 : Int) ≤ (fnv (l.take k) : Nat) := Int.natCast_nonneg _
      go_wp2
      go_round
      case rel => exact ⟨k + 1, by omega, by go_num, by rw [Hw.out, Hs.out]⟩
      case measure => simp [intOf]; omega
    · have Hl := Lib.hid (show l.take k = l from List.take_of_length_le (by rw [hsl.1]; omega))
      have HU := Lib.hid (fnv_lt (l.take k))
      generalize hH : fnv (l.take k) = H at *
      have HH := Lib.hid hH; clear hH
      go_wp2
      go_loopw [3, 7, 23] (fun h _ i wr => ∃ j : Nat, j ≤ 16 ∧ i = .int .i64 j ∧ h = .int .u64 (H / 16 ^ j : Nat) ∧ ∃ (cs : Array Value), cs.size = 16 ∧ (∀ i, i < 16 → 16 ≤ i + j → cs[i]? = some (.int .u8 (hexChar (H / 16 ^ (15 - i) % 16)).toNat)) ∧ wr.heap[w.heap.size]? = some (.cells cs 5 (0, 0)) ∧ wr.heap.size = w.heap.size + 1 ∧ Below w.heap.size w wr) (fun _ _ i _ => 16 - (intOf i).toNat)
      case atStart =>
        refine ⟨0, by omega, rfl, by simp, Array.replicate 16 (.int .u8 0), by simp, fun i h1 h2 => absurd h2 (by omega), ?_, by simp, (Below.refl _ _).alloc (Nat.le_refl _) _⟩
        exact heap_alloc_new w _
      case round =>
        obtain ⟨j, hj, rfl, rfl, cs, hcs, hdone, hbk, hsz, hbel⟩ := hrel
        have Hdone := Lib.hid hdone; clear hdone
        have Hcs := Lib.hid hcs; clear hcs
        by_cases hj' : j < 16
        · have hc : wr.cell? ⟨w.heap.size, 15 - j, none⟩ = some (cs[15 - j]'(by rw [Hcs.out]; omega)) := by
            rw [World.cell?]; simp [hbk]
          have hf : wr.frozen? ⟨w.heap.size, 15 - j, none⟩ = false := by simp [World.frozen?, hbk]
          have Hbk := Lib.hid hbk; clear hbk
          have Hsz := Lib.hid hsz; clear hsz
          have hnb := nibble H j HU.out
          have hlt16 : H / 16 ^ j % 16 < 16 := Nat.mod_lt _ (by decide)
          generalize hd : H / 16 ^ j % 16 = d at *
          have Hd := Lib.hid hd; clear hd
          have Hsh := Lib.hid (shift4 H j)
          generalize hy : H / 16 ^ j = y at *
          have Hy := Lib.hid hy; clear hy
          go_wp2
          go_round
          case rel =>
            have hy0 := Hy.out
            have hsz' : (wr.setCell ⟨w.heap.size, 15 - j, none⟩ (.int .u8 (hexChar d).toNat)).heap.size = w.heap.size + 1 := by simp [World.setCell, Hsz.out]
            refine ⟨j + 1, by omega, by go_num, by rw [← Hsh.out], cs.setIfInBounds (15 - j) (.int .u8 (hexChar d).toNat), by simp [Hcs.out], fun i h1 h2 => ?_, ?_, ?_, ?_⟩
            · by_cases he : i = 15 - j
              · subst he
                have e : 15 - (15 - j) = j := by omega
                rw [Array.getElem?_setIfInBounds_self_of_lt (by rw [Hcs.out]; omega), e, hy0, Hd.out]
              · rw [Array.getElem?_setIfInBounds_ne (by omega)]
                exact Hdone.out i h1 (by omega)
            · rw [hexGet d hlt16]
              simp [World.setCell, Array.getElem?_modify, Hbk.out]
            · rw [hexGet d hlt16]
              exact hsz'
            · exact hbel.setCell (Nat.le_refl _) _
          case measure => simp [intOf]; omega
        · obtain rfl : j = 16 := by omega
          have hsl' : Sl wr (Lt wr.heap.size) (some ⟨w.heap.size, 0, none⟩) 16 ((List.range 16).map fun i => hexChar (H / 16 ^ (15 - i) % 16)) := by
            refine ⟨by simp, by unfold maxLen; decide, fun _ => ⟨_, _, rfl, by rw [hsz]; exact Nat.lt_succ_self _, fun i x hx => ⟨_, rfl, fun q v hv => ?_⟩⟩⟩
            obtain ⟨rfl, rfl⟩ : q = 0 ∧ v = .int .u8 x.toNat := by
              cases q with
              | zero => simp at hv; exact ⟨rfl, hv.symm⟩
              | succ q => simp at hv
            have hi : i < 16 := by
              have := (List.getElem?_eq_some_iff.1 hx).1
              simpa using this
            rw [List.getElem?_map, List.getElem?_range hi] at hx
            obtain rfl : hexChar (H / 16 ^ (15 - i) % 16) = x := by simpa using hx
            have h1 : 0 + i * Rep.sz UInt8 + 0 = i := by simp [Rep.sz]
            rw [h1, World.cell?, hbk]
            exact Hdone.out i hi (by omega)
          have hcv := run_bytes_string (P := Tryz.prog) hsl' 63 9 5 16 Tryz.underlying63 Tryz.underlying5 Tryz.underlying9
          have Hr := Lib.hid (digestS_eq (l := l) (h := H) (by rw [← HH.out, Hl.out]))
          generalize (⟨((List.range 16).map fun i => hexChar (H / 16 ^ (15 - i) % 16)).toArray⟩ : ByteArray) = r at *
          clear hbk hsz hsl'
          go_wp2
          go_ret
          exact ⟨ret_string Hr.out.symm, hbel⟩
end Go.Proofs.Sm
