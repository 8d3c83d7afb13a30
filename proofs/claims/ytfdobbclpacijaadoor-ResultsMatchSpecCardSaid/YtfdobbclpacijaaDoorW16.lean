/- Walks: LooksOf and Stands. -/
import Derived.Test.YtfdobbclpacijaaDoorW15
namespace Go.Proofs.Sm
open Go.RowKit

theorem ret_pair {a b c d : Value} (h1 : a = c) (h2 : b = d) : Ending.returned (.tuple #[a, b]) = .returned (.tuple #[c, d]) := by rw [h1, h2]
def looksOfErr (l : List Look) (files : List FileV) : Int := if checkLooksS l ≠ 0 then checkLooksS l else checkFilesS files
def looksOfS (l : List Look) (files : List FileV) : List Look := if looksOfErr l files = 0 then looksAtS l files else []
theorem checkLooks_len {l : List Look} (h : checkLooksS l = 0) : l.length ≤ 4000 := by
  unfold checkLooksS at h
  split at h
  · omega
  · omega
theorem checkFiles_len {l : List FileV} (h : checkFilesS l = 0) : l.length ≤ 1000 := by
  unfold checkFilesS at h
  split at h
  · omega
  · omega
theorem checkFiles_sorted {l : List FileV} (h : checkFilesS l = 0) : Sorted l := by
  unfold checkFilesS at h
  split at h
  · omega
  · split at h
    · rename_i h1
      exact absurd h h1
    · rename_i h1
      exact sorted_of (by simpa using h1)

theorem ref5_LooksOf (A B : Option Addr) (n c m d : Nat) (l : List Look) (files : List FileV) (w : World) (hE : Env w) (hsl : Sl w (Lt w.heap.size) A n l) (hfs : Sl w (Lt w.heap.size) B m files) :
    Calls Tryd.prog 6 #[.slice A n c, .slice B m d] w fun e w' => ∃ A' n' c', e = .returned (.tuple #[.slice A' n' c', .int .i64 (looksOfErr l files)]) ∧ n' ≤ c' ∧ c' ≤ maxLen ∧ Sl w' (Lt w'.heap.size) A' n' (looksOfS l files) ∧ Below w.heap.size w w' := by
  go_enter Tryd.func6, Tryd.ntmps6
  go_wp2_with fail
  refine (ref5_CheckLooks A n c l w hE hsl).mono ?_
  rintro e w1 ⟨rfl, hb1⟩
  have hE1 := hE.then_ hb1
  have hfs1 := (hfs.keep (keep_lt hb1)).more (lt_mono hb1.size)
  have hsl1 := (hsl.keep (keep_lt hb1)).more (lt_mono hb1.size)
  cases h0 : (checkLooksS l == 0)
  · have hne : checkLooksS l ≠ 0 := by simpa using h0
    have hbn : (checkLooksS l != 0) = true := by simpa using h0
    have HE := Lib.hid (show looksOfErr l files = checkLooksS l by rw [looksOfErr, if_pos hne])
    have HN := Lib.hid hne; clear hne
    go_wp2
    go_ret2
    exact ⟨none, 0, 0, ret_pair rfl (congrArg (Value.int .i64) HE.out.symm), Nat.le_refl _, Nat.zero_le _, by rw [looksOfS, if_neg (by rw [HE.out]; exact HN.out)]; exact Sl.nil, hb1⟩
  · have hz : checkLooksS l = 0 := by simpa using h0
    have hbn : (checkLooksS l != 0) = false := by simpa using h0
    have hlen := checkLooks_len hz
    have HE := Lib.hid (show looksOfErr l files = checkFilesS files by rw [looksOfErr, if_neg (by rw [hz]; simp)])
    have HZ := Lib.hid hz; clear hz
    rw [hsl.1] at hlen
    go_wp2_with fail
    refine (ref1_CheckFiles B m d files w1 hE1 hfs1).mono ?_
    rintro e w2 ⟨rfl, hb2⟩
    have hfs2 := (hfs1.keep (keep_lt hb2)).more (lt_mono hb2.size)
    have hsl2 := (hsl1.keep (keep_lt hb2)).more (lt_mono hb2.size)
    cases h1 : (checkFilesS files == 0)
    · have hne : checkFilesS files ≠ 0 := by simpa using h1
      have hbn1 : (checkFilesS files != 0) = true := by simpa using h1
      have HN := Lib.hid hne; clear hne
      go_wp2
      go_ret2
      exact ⟨none, 0, 0, ret_pair rfl (congrArg (Value.int .i64) HE.out.symm), Nat.le_refl _, Nat.zero_le _, by rw [looksOfS, if_neg (by rw [HE.out]; exact HN.out)]; exact Sl.nil, fr_call hb1 hb2⟩
    · have hbn1 : (checkFilesS files != 0) = false := by simpa using h1
      have HF := Lib.hid (show checkFilesS files = 0 by simpa using h1)
      go_wp2_with (go_at_call 20; refine (ref5_LooksAt A B n c m d l files w2 hsl2 hfs2 hlen).mono ?_; rintro e w3 ⟨A', n', c', rfl, q1, q2, q3, hb3⟩)
      go_ret2
      exact ⟨A', n', c', ret_pair rfl (congrArg (Value.int .i64) (HE.out.trans HF.out).symm), q1, q2, by rw [looksOfS, if_pos (by rw [HE.out]; exact HF.out)]; exact q3, fr_call (fr_call hb1 hb2) hb3⟩

theorem ref5_Stands (A B : Option Addr) (n c m d : Nat) (l : List Look) (files : List FileV) (w : World) (hE : Env w) (hsl : Sl w (Lt w.heap.size) A n l) (hfs : Sl w (Lt w.heap.size) B m files) :
    Calls Tryd.prog 8 #[.slice A n c, .slice B m d] w fun e w' => e = .returned (.tuple #[.bool (looksOfErr l files == 0 && sameLooksS l (looksOfS l files)), .int .i64 (looksOfErr l files)]) ∧ Below w.heap.size w w' := by
  go_enter Tryd.func8, Tryd.ntmps8
  go_wp2_with fail
  refine (ref5_LooksOf A B n c m d l files w hE hsl hfs).mono ?_
  rintro e w1 ⟨A', n', c', rfl, q1, q2, q3, hb1⟩
  have hsl1 := (hsl.keep (keep_lt hb1)).more (lt_mono hb1.size)
  cases h0 : (looksOfErr l files == 0)
  · have hbn : (looksOfErr l files != 0) = true := by simpa using h0
    have HB := Lib.hid (show (looksOfErr l files == 0 && sameLooksS l (looksOfS l files)) = false by rw [h0]; rfl)
    go_wp2
    go_ret2
    exact ⟨ret_pair (congrArg Value.bool HB.out.symm) rfl, hb1⟩
  · have hbn : (looksOfErr l files != 0) = false := by simpa using h0
    have HZ := Lib.hid (show looksOfErr l files = 0 by simpa using h0)
    go_wp2_with (go_at_call 11; refine (ref5_SameLooks _ _ _ _ _ _ _ _ _ hsl1 q3).mono ?_; rintro e w2 ⟨rfl, hb2⟩)
    go_ret2
    exact ⟨ret_pair (congrArg Value.bool (by rw [HZ.out]; rfl)) (congrArg (Value.int .i64) HZ.out.symm), fr_call hb1 hb2⟩
end Go.Proofs.Sm
