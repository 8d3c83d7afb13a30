/- Walks: the reference's names; words; numbers. -/
import Derived.Test.YtfdobbclpacijaaGreatDoorW31
namespace Go.Proofs.Sm
open Go.RowKit

theorem ref4_within (n lo hi : Int) (w : World) : Calls Tryz.prog 179 #[.int .i64 n, .int .i64 lo, .int .i64 hi] w fun e w' => e = .returned (.bool (withinB n lo hi)) ∧ w = w' := by
  go_enter Tryz.func179, Tryz.ntmps179
  go_wp2
  all_goals (go_ret; exact ⟨ret_bool (by simp [withinB]; omega), rfl⟩)
theorem not_word {l : List UInt8} {x : List UInt8} (h : langWords.contains l = false) (hx : x ∈ langWords) : ¬ l = x := by
  intro e
  subst e
  rw [List.contains_eq_mem, decide_eq_false_iff_not] at h
  exact h hx
set_option maxRecDepth 100000 in
theorem ref4_IsName (s : ByteArray) (w : World) (hs : s.size ≤ maxLen) : Calls Tryz.prog 134 #[.string s] w fun e w' => e = .returned (.bool (isNameS s)) ∧ w = w' := by
  have hm : s.size ≤ 9223372036854775807 := hs
  have Hd := Lib.hid (isNameS_eq s)
  go_enter Tryz.func134, Tryz.ntmps134
  go_wp2
  go_loop [3] (fun i => ∃ k : Nat, k ≤ s.size ∧ i = .int .i64 k ∧ (s.data.toList.take k).all nameB = true ∧ (0 < k → firstSmall s.data.toList = true)) (fun i => s.size - (intOf i).toNat)
  case atStart => exact ⟨0, Nat.zero_le _, rfl, rfl, fun h => absurd h (by omega)⟩
  case round =>
    obtain ⟨k, hk, rfl, hall, hfst⟩ := hrel
    have H := Lib.hid hall; clear hall
    have HF := Lib.hid hfst; clear hfst
    by_cases hlt : k < s.size
    · have HN : Hid (nameB s[k] = (smallI (s[k].toNat : Int) || digitI (s[k].toNat : Int) || ((s[k].toNat : Int) == 95))) := Lib.hid rfl
      by_cases hk0 : k = 0
      · subst hk0
        have HF0 := Lib.hid (firstSmall_at s hlt)
        go_wp2
        all_goals first
          | (exfalso; simp at *; done)
          | (exfalso; omega)
          | (go_round; (case rel => exact ⟨0 + 1, by omega, by go_num, all_step hlt H.out (by rw [HN.out]; simp [smallI, digitI]; simp at *; omega), fun _ => by rw [HF0.out]; simp [smallI]; simp at *; omega⟩); (case measure => simp [intOf]; omega))
          | (go_ret; exact ⟨ret_bool (by rw [Hd.out, HF0.out, show smallI (s[0].toNat : Int) = false by simp [smallI]; simp at *; omega]; simp), rfl⟩)
      · have hk1 : ((k : Int) == 0) = false := by simp; omega
        go_wp2
        all_goals first
          | (go_round; (case rel => exact ⟨k + 1, by omega, by go_num, all_step hlt H.out (by rw [HN.out]; simp [smallI, digitI]; simp at *; omega), fun _ => HF.out (by omega)⟩); (case measure => simp [intOf]; omega))
          | (go_ret; exact ⟨ret_bool (by rw [Hd.out, all_no (p := nameB) hlt (by rw [HN.out]; simp [smallI, digitI]; simp at *; omega)]; simp), rfl⟩)
    · have He := Lib.hid (all_end hlt H.out)
      have hks : k = s.size := by omega
      have HV := Lib.hid (show isNameS s = (withinB s.size 1 40 && !(langWords.contains s.data.toList)) by
        rw [Hd.out, He.out, Bool.and_true]
        cases hw : withinB s.size 1 40
        · rfl
        · have := (withinB_true hw).1
          rw [HF.out (by omega)]; rfl)
      clear hks
      cases hc : langWords.contains s.data.toList
      · have HVV := Lib.hid (show isNameS s = withinB s.size 1 40 by rw [HV.out, hc]; simp)
        rw [← Lib.toList_data] at hc
        have n1 := not_word hc (x := [109, 97, 99, 114, 111]) (by decide)
        have n2 := not_word hc (x := [102, 111, 114]) (by decide)
        have n3 := not_word hc (x := [105, 110]) (by decide)
        have n4 := not_word hc (x := [105, 102]) (by decide)
        have n5 := not_word hc (x := [101, 108, 115, 101]) (by decide)
        have n6 := not_word hc (x := [117, 115, 101]) (by decide)
        have n7 := not_word hc (x := [102, 105, 108, 101, 115]) (by decide)
        have n8 := not_word hc (x := [99, 104, 111, 111, 115, 101]) (by decide)
        clear hc
        go_wp2_with (first | (go_at_call 179; refine (ref4_within _ _ _ _).mono ?_; rintro e w1 ⟨rfl, rfl⟩))
        all_goals first
          | (go_ret; exact ⟨ret_bool HVV.out.symm, rfl⟩)
          | (exfalso; simp_all; done)
      · have HVV := Lib.hid (show isNameS s = false by rw [HV.out, hc]; simp)
        rw [← Lib.toList_data] at hc
        have HC := Lib.hid hc; clear hc
        go_wp2_with (first | (go_at_call 179; refine (ref4_within _ _ _ _).mono ?_; rintro e w1 ⟨rfl, rfl⟩))
        all_goals first
          | (go_ret; exact ⟨ret_bool HVV.out.symm, rfl⟩)
          | (exfalso; have := HC.out; simp_all [langWords]; done)
end Go.Proofs.Sm
