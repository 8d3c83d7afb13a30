/- Walks: results are validated, by the program and by the reference. -/
import Derived.Test.YtnhcaelapadhaaaGreatDoorW21
import Derived.Test.YtnhcaelapadhaaaGreatDoorW17
namespace Go.Proofs.Sm
open Go.RowKit

theorem hasSuffix_any (s : ByteArray) (w : World) (hs : s.size ≤ maxLen) (h0 : s.toList.isEmpty = false) : Calls Tryz.prog 47 #[.string s, .string ⟨#[10]⟩] w fun e w' => e = .returned (.bool (endsS s.data.toList)) ∧ w = w' :=
  (Tryz.strings_HasSuffix s ⟨#[10]⟩ w hs).mono fun _ _ h => ⟨by rw [h.1]; congr 2; exact ends_suffix _ (by rw [Lib.toList_data] at h0; simpa using h0), h.2.symm⟩
/-- the fields of a result -/
def resVal (r : ResultV) (A : Option Addr) (n c : Nat) (B : Option Addr) (m d : Nat) : Value := .agg #[.int .i64 r.code, .string r.text, .slice A n c, .slice B m d, .int .i64 r.command]
structure ResIs (w : World) (r : ResultV) (A : Option Addr) (n : Nat) (B : Option Addr) (m : Nat) : Prop where
  code : InInt r.code
  text : r.text.size ≤ maxLen
  files : Sl w (Lt w.heap.size) A n r.files
  looks : Sl w (Lt w.heap.size) B m r.looks
  command : InInt r.command
theorem ResIs.then_ {w w' : World} {r : ResultV} {A : Option Addr} {n : Nat} {B : Option Addr} {m : Nat} (h : ResIs w r A n B m) (hb : Below w.heap.size w w') : ResIs w' r A n B m :=
  ⟨h.code, h.text, sl_call h.files hb (Nat.le_refl _), sl_call h.looks hb (Nat.le_refl _), h.command⟩
theorem checkResult_range {r : ResultV} (h : (withinB r.code 0 999999 && withinB r.command 0 50) = false) : checkResultS r = 1 := by rw [checkResultS, if_pos h]
theorem checkResult_large {r : ResultV} (h : (withinB r.code 0 999999 && withinB r.command 0 50) = true) (h1 : (100000 : Int) < r.text.size) : checkResultS r = 2 := by
  rw [checkResultS, if_neg (by rw [h]; decide), if_pos h1]
theorem checkResult_text {r : ResultV} (h : (withinB r.code 0 999999 && withinB r.command 0 50) = true) (h1 : ¬ (100000 : Int) < r.text.size) (h2 : isTextS r.text = false) : checkResultS r = 3 := by
  rw [checkResultS, if_neg (by rw [h]; decide), if_neg h1, if_pos h2]
theorem checkResult_files {r : ResultV} (h : (withinB r.code 0 999999 && withinB r.command 0 50) = true) (h1 : ¬ (100000 : Int) < r.text.size) (h2 : isTextS r.text = true) (h3 : checkFilesS r.files ≠ 0) : checkResultS r = checkFilesS r.files := by
  rw [checkResultS, if_neg (by rw [h]; decide), if_neg h1, if_neg (by rw [h2]; decide), if_pos h3]
theorem checkResult_code {r : ResultV} (h : (withinB r.code 0 999999 && withinB r.command 0 50) = true) (h1 : ¬ (100000 : Int) < r.text.size) (h2 : isTextS r.text = true) (h3 : checkFilesS r.files = 0) :
    checkResultS r = if (!r.files.isEmpty && r.code != 0) = true then 3 else checkLooksS r.looks := by
  rw [checkResultS, if_neg (by rw [h]; decide), if_neg h1, if_neg (by rw [h2]; decide), if_neg (by rw [h3]; decide)]
theorem files_none {w : World} {S : Nat → Prop} {A : Option Addr} {n : Nat} {l : List FileV} (h : Sl w S A n l) : l.isEmpty = decide (n = 0) := by
  rw [← h.1]
  cases l <;> simp

set_option maxHeartbeats 1000000 in
set_option maxRecDepth 100000 in
theorem act_CheckResult (r : ResultV) (A : Option Addr) (n c : Nat) (B : Option Addr) (m d : Nat) (w : World) (hE : Env w) (hr : ResIs w r A n B m) :
    Calls Tryz.prog 17 #[resVal r A n c B m d] w fun e w' => e = .returned (.int .i64 (checkResultS r)) ∧ Below w.heap.size w w' := by
  unfold resVal
  have hm : n ≤ 9223372036854775807 := hr.files.2.1
  cases h0 : (withinB r.code 0 999999 && withinB r.command 0 50)
  · have HV := Lib.hid (checkResult_range h0)
    have h1 : r.code < 0 ∨ 999999 < r.code ∨ r.command < 0 ∨ 50 < r.command := by simp [withinB] at h0; omega
    clear h0
    go_enter Tryz.func17, Tryz.ntmps17
    go_wp2
    all_goals first
      | (exfalso; omega)
      | (go_ret; exact ⟨ret_int HV.out.symm, fr_alloc (fr_refl _) _⟩)
  · have hq : 0 ≤ r.code ∧ r.code ≤ 999999 ∧ 0 ≤ r.command ∧ r.command ≤ 50 := by simp [withinB] at h0; omega
    obtain ⟨q1, q2, q3, q4⟩ := hq
    have H0 := Lib.hid h0; clear h0
    by_cases hl : (100000 : Int) < r.text.size
    · have HV := Lib.hid (checkResult_large H0.out hl)
      go_enter Tryz.func17, Tryz.ntmps17
      go_wp2
      go_ret; exact ⟨ret_int HV.out.symm, fr_alloc (fr_refl _) _⟩
    cases ht : isTextS r.text
    · have HV := Lib.hid (checkResult_text H0.out hl ht)
      cases ha : r.text.data.toList.all textB
      · clear ht
        go_enter Tryz.func17, Tryz.ntmps17
        go_wp2_with (first
        | (go_at_call 45; refine (told_any _ _).mono ?_; rintro e w1 ⟨rfl, hb1⟩; obtain ⟨hc1, hf1⟩ := bcell hb1; have hz1 := grew hb1)
        | (go_at_call 47; refine (hasSuffix_any _ _ hr.text (by assumption)).mono ?_; rintro e w1' ⟨rfl, rfl⟩))
        go_ret; exact ⟨ret_int HV.out.symm, (by repeat (first | exact fr_refl _ | refine fr_call ?_ (by assumption) | refine fr_alloc ?_ _ | refine fr_set ?_ (by simp) _ | refine Below.drew ?_ | refine below_drewN ?_ _))⟩
      · have he : endsS r.text.data.toList = false := by rw [isTextS, ha] at ht; exact ht
        have hn : r.text.toList.isEmpty = false := by
          cases hn : r.text.toList.isEmpty
          · rfl
          · rw [Lib.toList_data, List.isEmpty_iff] at hn
            rw [hn] at he; cases he
        clear ht
        go_enter Tryz.func17, Tryz.ntmps17
        go_wp2_with (first
        | (go_at_call 45; refine (told_any _ _).mono ?_; rintro e w1 ⟨rfl, hb1⟩; obtain ⟨hc1, hf1⟩ := bcell hb1; have hz1 := grew hb1)
        | (go_at_call 47; refine (hasSuffix_any _ _ hr.text (by assumption)).mono ?_; rintro e w1' ⟨rfl, rfl⟩))
        go_ret; exact ⟨ret_int HV.out.symm, (by repeat (first | exact fr_refl _ | refine fr_call ?_ (by assumption) | refine fr_alloc ?_ _ | refine fr_set ?_ (by simp) _ | refine Below.drew ?_ | refine below_drewN ?_ _))⟩
    · have HT := Lib.hid ht
      have ha : r.text.data.toList.all textB = true := by rw [isTextS] at ht; exact (Bool.and_eq_true_iff.1 ht).1
      have he : endsS r.text.data.toList = true := by rw [isTextS] at ht; exact (Bool.and_eq_true_iff.1 ht).2
      clear ht
      cases hn : r.text.toList.isEmpty
      all_goals
        go_enter Tryz.func17, Tryz.ntmps17
        go_wp2_with (first
        | (go_at_call 45; refine (told_any _ _).mono ?_; rintro e w1 ⟨rfl, hb1⟩; obtain ⟨hc1, hf1⟩ := bcell hb1; have hz1 := grew hb1)
        | (go_at_call 47; refine (hasSuffix_any _ _ hr.text (by assumption)).mono ?_; rintro e w1' ⟨rfl, rfl⟩))
        refine (blob_CheckFiles A n c r.files _ (hE.then_ (by repeat (first | exact fr_refl _ | refine fr_call ?_ (by assumption) | refine fr_alloc ?_ _ | refine fr_set ?_ (by simp) _ | refine Below.drew ?_ | refine below_drewN ?_ _))) (sl_call hr.files (by repeat (first | exact fr_refl _ | refine fr_call ?_ (by assumption) | refine fr_alloc ?_ _ | refine fr_set ?_ (by simp) _ | refine Below.drew ?_ | refine below_drewN ?_ _)) (Nat.le_refl _))).mono ?_
        rintro e w2 ⟨rfl, hb2⟩
        clear ha he hn
        obtain ⟨hc2, hf2⟩ := bcell hb2
        have hz2 := hb2.size
        cases h0 : (checkFilesS r.files == 0)
        · have hne : checkFilesS r.files ≠ 0 := by simpa using h0
          have hbn : (checkFilesS r.files != 0) = true := by simpa using h0
          have HV := Lib.hid (checkResult_files H0.out (Int.not_lt.2 hl) HT.out hne)
          clear hne
          go_wp2
          go_ret; exact ⟨ret_int HV.out.symm, (by repeat (first | exact fr_refl _ | refine fr_call ?_ (by assumption) | refine fr_alloc ?_ _ | refine fr_set ?_ (by simp) _ | refine Below.drew ?_ | refine below_drewN ?_ _))⟩
        · have hz : checkFilesS r.files = 0 := by simpa using h0
          have hbn : (checkFilesS r.files != 0) = false := by simpa using h0
          have HV := Lib.hid (checkResult_code H0.out (Int.not_lt.2 hl) HT.out hz)
          have HN := Lib.hid (files_none hr.files)
          clear hz
          have hE3 : Env w2 := hE.then_ (by repeat (first | exact fr_refl _ | refine fr_call ?_ (by assumption) | refine fr_alloc ?_ _ | refine fr_set ?_ (by simp) _ | refine Below.drew ?_ | refine below_drewN ?_ _))
          by_cases hn0 : (0 : Int) < n
          · have hg : decide ((0 : Int) < (n : Int)) = true := by simpa using hn0
            cases hk : (r.code == 0)
            · have hk' : (r.code != 0) = true := by simpa using hk
              have HW := Lib.hid (show checkResultS r = 3 by rw [HV.out, HN.out, hk', decide_eq_false (by omega)]; rfl)
              go_wp2
              go_ret; exact ⟨ret_int HW.out.symm, (by repeat (first | exact fr_refl _ | refine fr_call ?_ (by assumption) | refine fr_alloc ?_ _ | refine fr_set ?_ (by simp) _ | refine Below.drew ?_ | refine below_drewN ?_ _))⟩
            · have hk' : (r.code != 0) = false := by simpa using hk
              have HW := Lib.hid (show checkResultS r = checkLooksS r.looks by rw [HV.out, HN.out, hk', Bool.and_false]; rfl)
              go_wp2_with fail
              refine (act_CheckLooks B m d r.looks _ hE3 (sl_call hr.looks (by repeat (first | exact fr_refl _ | refine fr_call ?_ (by assumption) | refine fr_alloc ?_ _ | refine fr_set ?_ (by simp) _ | refine Below.drew ?_ | refine below_drewN ?_ _)) (Nat.le_refl _))).mono ?_
              rintro e w3 ⟨rfl, hb3⟩
              go_wp2
              go_ret; exact ⟨ret_int HW.out.symm, (by repeat (first | exact fr_refl _ | refine fr_call ?_ (by assumption) | refine fr_alloc ?_ _ | refine fr_set ?_ (by simp) _ | refine Below.drew ?_ | refine below_drewN ?_ _))⟩
          · have hg : decide ((0 : Int) < (n : Int)) = false := by simpa using hn0
            have HW := Lib.hid (show checkResultS r = checkLooksS r.looks by rw [HV.out, HN.out, decide_eq_true (by omega)]; rfl)
            go_wp2_with fail
            refine (act_CheckLooks B m d r.looks _ hE3 (sl_call hr.looks (by repeat (first | exact fr_refl _ | refine fr_call ?_ (by assumption) | refine fr_alloc ?_ _ | refine fr_set ?_ (by simp) _ | refine Below.drew ?_ | refine below_drewN ?_ _)) (Nat.le_refl _))).mono ?_
            rintro e w3 ⟨rfl, hb3⟩
            go_wp2
            go_ret; exact ⟨ret_int HW.out.symm, (by repeat (first | exact fr_refl _ | refine fr_call ?_ (by assumption) | refine fr_alloc ?_ _ | refine fr_set ?_ (by simp) _ | refine Below.drew ?_ | refine below_drewN ?_ _))⟩
theorem ref5_within (n lo hi : Int) (w : World) : Calls Tryz.prog 53 #[.int .i64 n, .int .i64 lo, .int .i64 hi] w fun e w' => e = .returned (.bool (withinB n lo hi)) ∧ w = w' := by
  go_enter Tryz.func53, Tryz.ntmps53
  go_wp2
  all_goals (go_ret; exact ⟨ret_bool (by simp [withinB]; omega), rfl⟩)
set_option maxHeartbeats 1000000 in
set_option maxRecDepth 100000 in
theorem ref5_CheckResult (r : ResultV) (A : Option Addr) (n c : Nat) (B : Option Addr) (m d : Nat) (w : World) (hE : Env w) (hr : ResIs w r A n B m) :
    Calls Tryz.prog 22 #[resVal r A n c B m d] w fun e w' => e = .returned (.int .i64 (checkResultS r)) ∧ Below w.heap.size w w' := by
  unfold resVal
  have hm : n ≤ 9223372036854775807 := hr.files.2.1
  cases h0 : (withinB r.code 0 999999 && withinB r.command 0 50)
  · have HV := Lib.hid (checkResult_range h0)
    cases h1 : withinB r.code 0 999999
    · go_enter Tryz.func22, Tryz.ntmps22
      go_wp2_with (first
      | (go_at_call 53; refine (ref5_within _ _ _ _).mono ?_; rintro e w1' ⟨rfl, rfl⟩)
      | (go_at_call 54; refine (ref5_isText _ _ hr.text).mono ?_; rintro e w1 ⟨rfl, rfl⟩))
      go_ret; exact ⟨ret_int HV.out.symm, fr_alloc (fr_refl _) _⟩
    · have h2 : withinB r.command 0 50 = false := by rw [h1] at h0; exact h0
      clear h0
      go_enter Tryz.func22, Tryz.ntmps22
      go_wp2_with (first
      | (go_at_call 53; refine (ref5_within _ _ _ _).mono ?_; rintro e w1' ⟨rfl, rfl⟩)
      | (go_at_call 54; refine (ref5_isText _ _ hr.text).mono ?_; rintro e w1 ⟨rfl, rfl⟩))
      go_ret; exact ⟨ret_int HV.out.symm, fr_alloc (fr_refl _) _⟩
  · obtain ⟨h1, h2⟩ := Bool.and_eq_true_iff.1 h0
    have H0 := Lib.hid h0; clear h0
    by_cases hl : (100000 : Int) < r.text.size
    · have HV := Lib.hid (checkResult_large H0.out hl)
      go_enter Tryz.func22, Tryz.ntmps22
      go_wp2_with (first
      | (go_at_call 53; refine (ref5_within _ _ _ _).mono ?_; rintro e w1' ⟨rfl, rfl⟩)
      | (go_at_call 54; refine (ref5_isText _ _ hr.text).mono ?_; rintro e w1 ⟨rfl, rfl⟩))
      go_ret; exact ⟨ret_int HV.out.symm, fr_alloc (fr_refl _) _⟩
    cases ht : isTextS r.text
    · have HV := Lib.hid (checkResult_text H0.out hl ht)
      go_enter Tryz.func22, Tryz.ntmps22
      go_wp2_with (first
      | (go_at_call 53; refine (ref5_within _ _ _ _).mono ?_; rintro e w1' ⟨rfl, rfl⟩)
      | (go_at_call 54; refine (ref5_isText _ _ hr.text).mono ?_; rintro e w1 ⟨rfl, rfl⟩))
      go_ret; exact ⟨ret_int HV.out.symm, (by repeat (first | exact fr_refl _ | refine fr_call ?_ (by assumption) | refine fr_alloc ?_ _ | refine fr_set ?_ (by simp) _ | refine Below.drew ?_ | refine below_drewN ?_ _))⟩
    · have HT := Lib.hid ht
      go_enter Tryz.func22, Tryz.ntmps22
      go_wp2_with (first
      | (go_at_call 53; refine (ref5_within _ _ _ _).mono ?_; rintro e w1' ⟨rfl, rfl⟩)
      | (go_at_call 54; refine (ref5_isText _ _ hr.text).mono ?_; rintro e w1 ⟨rfl, rfl⟩))
      all_goals
        refine (ref1_CheckFiles A n c r.files _ (hE.then_ (by repeat (first | exact fr_refl _ | refine fr_call ?_ (by assumption) | refine fr_alloc ?_ _ | refine fr_set ?_ (by simp) _ | refine Below.drew ?_ | refine below_drewN ?_ _))) (sl_call hr.files (by repeat (first | exact fr_refl _ | refine fr_call ?_ (by assumption) | refine fr_alloc ?_ _ | refine fr_set ?_ (by simp) _ | refine Below.drew ?_ | refine below_drewN ?_ _)) (Nat.le_refl _))).mono ?_
        rintro e w2 ⟨rfl, hb2⟩
        obtain ⟨hc2, hf2⟩ := bcell hb2
        have hz2 := hb2.size
        cases h0 : (checkFilesS r.files == 0)
        · have hne : checkFilesS r.files ≠ 0 := by simpa using h0
          have hbn : (checkFilesS r.files != 0) = true := by simpa using h0
          have HV := Lib.hid (checkResult_files H0.out (Int.not_lt.2 hl) HT.out hne)
          clear hne
          go_wp2
          go_ret; exact ⟨ret_int HV.out.symm, (by repeat (first | exact fr_refl _ | refine fr_call ?_ (by assumption) | refine fr_alloc ?_ _ | refine fr_set ?_ (by simp) _ | refine Below.drew ?_ | refine below_drewN ?_ _))⟩
        · have hz : checkFilesS r.files = 0 := by simpa using h0
          have hbn : (checkFilesS r.files != 0) = false := by simpa using h0
          have HV := Lib.hid (checkResult_code H0.out (Int.not_lt.2 hl) HT.out hz)
          have HN := Lib.hid (files_none hr.files)
          clear hz
          have hE3 : Env w2 := hE.then_ (by repeat (first | exact fr_refl _ | refine fr_call ?_ (by assumption) | refine fr_alloc ?_ _ | refine fr_set ?_ (by simp) _ | refine Below.drew ?_ | refine below_drewN ?_ _))
          by_cases hn0 : (0 : Int) < n
          · have hg : decide ((0 : Int) < (n : Int)) = true := by simpa using hn0
            cases hk : (r.code == 0)
            · have hk' : (r.code != 0) = true := by simpa using hk
              have HW := Lib.hid (show checkResultS r = 3 by rw [HV.out, HN.out, hk', decide_eq_false (by omega)]; rfl)
              go_wp2
              go_ret; exact ⟨ret_int HW.out.symm, (by repeat (first | exact fr_refl _ | refine fr_call ?_ (by assumption) | refine fr_alloc ?_ _ | refine fr_set ?_ (by simp) _ | refine Below.drew ?_ | refine below_drewN ?_ _))⟩
            · have hk' : (r.code != 0) = false := by simpa using hk
              have HW := Lib.hid (show checkResultS r = checkLooksS r.looks by rw [HV.out, HN.out, hk', Bool.and_false]; rfl)
              go_wp2_with fail
              refine (ref5_CheckLooks B m d r.looks _ hE3 (sl_call hr.looks (by repeat (first | exact fr_refl _ | refine fr_call ?_ (by assumption) | refine fr_alloc ?_ _ | refine fr_set ?_ (by simp) _ | refine Below.drew ?_ | refine below_drewN ?_ _)) (Nat.le_refl _))).mono ?_
              rintro e w3 ⟨rfl, hb3⟩
              go_wp2
              go_ret; exact ⟨ret_int HW.out.symm, (by repeat (first | exact fr_refl _ | refine fr_call ?_ (by assumption) | refine fr_alloc ?_ _ | refine fr_set ?_ (by simp) _ | refine Below.drew ?_ | refine below_drewN ?_ _))⟩
          · have hg : decide ((0 : Int) < (n : Int)) = false := by simpa using hn0
            have HW := Lib.hid (show checkResultS r = checkLooksS r.looks by rw [HV.out, HN.out, decide_eq_true (by omega)]; rfl)
            go_wp2_with fail
            refine (ref5_CheckLooks B m d r.looks _ hE3 (sl_call hr.looks (by repeat (first | exact fr_refl _ | refine fr_call ?_ (by assumption) | refine fr_alloc ?_ _ | refine fr_set ?_ (by simp) _ | refine Below.drew ?_ | refine below_drewN ?_ _)) (Nat.le_refl _))).mono ?_
            rintro e w3 ⟨rfl, hb3⟩
            go_wp2
            go_ret; exact ⟨ret_int HW.out.symm, (by repeat (first | exact fr_refl _ | refine fr_call ?_ (by assumption) | refine fr_alloc ?_ _ | refine fr_set ?_ (by simp) _ | refine Below.drew ?_ | refine below_drewN ?_ _))⟩
end Go.Proofs.Sm
