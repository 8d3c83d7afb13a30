/- Walks: names, words, numbers. -/
import Derived.Test.YtfdobbclpacijaaGreatDoorW30
import Derived.Test.YtfdobbclpacijaaGreatDoorPlain13
namespace Go.Proofs.Sm
open Go.RowKit

theorem script_isSmall (c : Int) (w : World) : Calls Tryz.prog 174 #[.int .u8 c] w fun e w' => e = .returned (.bool (smallI c)) ∧ w = w' := by
  go_enter Tryz.func174, Tryz.ntmps174
  go_wp2
  all_goals (go_ret; refine ⟨ret_bool ?_, rfl⟩; rw [Bool.eq_iff_iff]; simp [smallI] <;> omega)
theorem script_isDigit (c : Int) (w : World) : Calls Tryz.prog 175 #[.int .u8 c] w fun e w' => e = .returned (.bool (digitI c)) ∧ w = w' := by
  go_enter Tryz.func175, Tryz.ntmps175
  go_wp2
  all_goals (go_ret; refine ⟨ret_bool ?_, rfl⟩; rw [Bool.eq_iff_iff]; simp [digitI] <;> omega)
def wordsL : List ByteArray := langWords.map fun l => ⟨l.toArray⟩
theorem script_words (w : World) : Calls Tryz.prog 176 #[] w fun e w' => ∃ A, e = .returned (.slice A 8 8) ∧ Sl w' (Lt w'.heap.size) A 8 wordsL ∧ Below w.heap.size w w' := by
  go_enter Tryz.func176, Tryz.ntmps176
  go_wp2
  go_ret
  refine ⟨_, rfl, ?_, (by repeat (first | exact fr_refl _ | refine fr_call ?_ (by assumption) | refine fr_alloc ?_ _ | refine fr_set ?_ (by simp) _ | refine Below.drew ?_ | refine below_drewN ?_ _))⟩
  have h := Sl.new_strs (w := w) (t := 9) (l := wordsL) (by unfold maxLen; decide) (fun x hx => by
    have : ∀ y ∈ wordsL, y.size ≤ 40 := by decide
    have := this x hx
    unfold maxLen; omega)
  have hz : ∀ o, (w.alloc o).heap.size = w.heap.size + 1 := fun o => by simp
  rw [hz]
  exact h
theorem words_any (s : ByteArray) : wordsL.any (eqS s) = langWords.contains s.data.toList := by
  rw [Bool.eq_iff_iff, List.any_eq_true, List.contains_iff_mem]
  simp only [wordsL, List.mem_map, eqS, beq_iff_eq]
  constructor
  · rintro ⟨x, ⟨l, hl, rfl⟩, h⟩
    rw [Lib.toList_data, Lib.toList_data] at h
    rw [← h]
    simpa using hl
  · intro h
    exact ⟨_, ⟨_, h, rfl⟩, by rw [Lib.toList_data]⟩
set_option maxRecDepth 100000 in
theorem script_IsName (s : ByteArray) (w : World) (hs : s.size ≤ maxLen) : Calls Tryz.prog 126 #[.string s] w fun e w' => e = .returned (.bool (isNameS s)) ∧ Below w.heap.size w w' := by
  have hm : s.size ≤ 9223372036854775807 := hs
  have Hd := Lib.hid (isNameS_eq s)
  cases hw : withinB s.size 1 40
  · have HV := Lib.hid (show isNameS s = false by rw [Hd.out, hw]; rfl)
    have h1 : (s.size : Int) < 1 ∨ (40 : Int) < s.size := withinB_false hw
    clear hw
    go_enter Tryz.func126, Tryz.ntmps126
    go_wp2
    all_goals first
      | (exfalso; omega)
      | (go_ret; exact ⟨ret_bool HV.out.symm, Below.refl _ _⟩)
  · have h1 := withinB_true hw
    have h0 : 0 < s.size := by omega
    have HF := Lib.hid (firstSmall_at s h0)
    have HW := Lib.hid hw; clear hw
    cases hf : smallI (s[0].toNat : Int)
    · have HV := Lib.hid (show isNameS s = false by rw [Hd.out, HW.out, HF.out, hf]; rfl)
      go_enter Tryz.func126, Tryz.ntmps126
      go_wp2_with (first | (go_at_call 174; refine (script_isSmall _ _).mono ?_; rintro e w1 ⟨rfl, rfl⟩))
      go_ret; exact ⟨ret_bool HV.out.symm, Below.refl _ _⟩
    · have HF2 := Lib.hid (show firstSmall s.data.toList = true by rw [HF.out, hf])
      go_enter Tryz.func126, Tryz.ntmps126
      go_wp2_with (first | (go_at_call 174; refine (script_isSmall _ _).mono ?_; rintro e w1 ⟨rfl, rfl⟩))
      go_loop [3, 20] (fun _ i => ∃ k : Nat, k ≤ s.size ∧ i = .int .i64 k ∧ (s.data.toList.take k).all nameB = true) (fun _ i => s.size - (intOf i).toNat)
      case atStart => exact ⟨0, Nat.zero_le _, rfl, rfl⟩
      case round =>
        clear hf
        obtain ⟨k, hk, rfl, hall⟩ := hrel
        have H := Lib.hid hall; clear hall
        by_cases hlt : k < s.size
        · cases g1 : smallI (s[k].toNat : Int) <;> cases g2 : digitI (s[k].toNat : Int) <;> cases g3 : ((s[k].toNat : Int) == 95)
          all_goals
            have HN : Hid (nameB s[k] = (smallI (s[k].toNat : Int) || digitI (s[k].toNat : Int) || ((s[k].toNat : Int) == 95))) := Lib.hid rfl
            rw [g1, g2, g3] at HN
            have g4 : ((s[k].toNat : Int) != 95) = !((s[k].toNat : Int) == 95) := rfl
            rw [g3] at g4
            go_wp2_with (first | (go_at_call 174; refine (script_isSmall _ _).mono ?_; rintro e w1 ⟨rfl, rfl⟩) | (go_at_call 175; refine (script_isDigit _ _).mono ?_; rintro e w1 ⟨rfl, rfl⟩))
            first
            | (go_round; (case rel => exact ⟨k + 1, by omega, by go_num, all_step hlt H.out (by rw [HN.out]; rfl)⟩); (case measure => simp [intOf]; omega))
            | (go_ret; exact ⟨ret_bool (by rw [Hd.out, all_no (p := nameB) hlt (by rw [HN.out]; rfl)]; simp), Below.refl _ _⟩)
        · have He := Lib.hid (all_end hlt H.out)
          have Hc := Lib.hid (words_any s)
          go_wp2_with fail
          refine (script_words _).mono ?_
          rintro e w1 ⟨A, rfl, hsl, hb1⟩
          go_wp2_with fail
          refine (slices_ContainsStr A 8 8 wordsL s _ hsl).mono ?_
          rintro e w2 ⟨rfl, rfl⟩
          go_wp2
          go_ret
          exact ⟨ret_bool (by rw [Hd.out, HW.out, HF2.out, He.out, Hc.out]; rfl), hb1⟩
end Go.Proofs.Sm
