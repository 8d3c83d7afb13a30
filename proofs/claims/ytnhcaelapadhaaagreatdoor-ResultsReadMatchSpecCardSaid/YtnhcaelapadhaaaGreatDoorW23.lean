/- Walks: the line of a look; numbers written. -/
import Derived.Test.YtnhcaelapadhaaaGreatDoorW22
import Derived.Lib.AppendIntMem
namespace Go.Proofs.Sm
open Go.RowKit

theorem bytes_ext {a b : ByteArray} (h : a.data.toList = b.data.toList) : a = b := by
  obtain ⟨⟨x⟩⟩ := a
  obtain ⟨⟨y⟩⟩ := b
  simp at h
  rw [h]
theorem ret_str {a : ByteArray} {l : List UInt8} (h : a.data.toList = l) : Ending.returned (.string a) = .returned (.string ⟨l.toArray⟩) := by
  subst h; rfl
theorem itoa_any (n : Int) (hn : InInt n) (w : World) (hE : Env2 w) : Calls Tryz.prog 26 #[.int .i64 n] w fun e w' => e = .returned (.string ⟨(Lib.itoa n).toArray⟩) ∧ Below w.heap.size w w' :=
  (Tryz.strconv_Itoa n hn.1 hn.2 w hE.pow).mono fun e w' ⟨h1, k, os, h2⟩ => ⟨h1, by rw [h2]; exact Lib.below_grow _ _ (Nat.le_refl _) _ _⟩
/-- a number written, its text a name -/
theorem itoa_op (n : Int) (hn : InInt n) : ∃ s : ByteArray, s.size ≤ 21 ∧ Hid (s.data.toList = Lib.itoa n) ∧ Hid (∀ w, Env2 w → Calls Tryz.prog 26 #[.int .i64 n] w fun e w' => e = .returned (.string s) ∧ Below w.heap.size w w') :=
  ⟨⟨(Lib.itoa n).toArray⟩, by have := Lib.itoa_length_le n hn.1 hn.2; simpa [ByteArray.size] using this, Lib.hid (by simp), Lib.hid fun w hE => itoa_any n hn w hE⟩
/-- a sum of strings, its value a name -/
theorem cat_op (a b : ByteArray) (h : a.size + b.size ≤ 9223372036854775807) : ∃ s : ByteArray, s.size ≤ a.size + b.size ∧ Hid (s.data.toList = a.data.toList ++ b.data.toList) ∧ ∀ w, (Op.stringOp .add a b).run Tryz.prog w = .ok (.string s) w :=
  ⟨a ++ b, by simp, Lib.hid (by simp), fun w => run_string_add_sum (P := Tryz.prog) (w := w) a b h⟩
theorem signB_length (r : Bool) : (signB r).length = 1 := by cases r <;> rfl
theorem act_runText (r : Bool) (w : World) : Calls Tryz.prog 28 #[.bool r] w fun e w' => e = .returned (.string ⟨(signB r).toArray⟩) ∧ w' = w := by
  cases r
  all_goals
    go_enter Tryz.func28, Tryz.ntmps28
    go_wp2
    go_ret; exact ⟨rfl, rfl⟩
theorem sign_size (r : Bool) : (⟨(signB r).toArray⟩ : ByteArray).size ≤ 1 := by have := signB_length r; simpa [ByteArray.size] using Nat.le_of_eq this
theorem runText_op (r : Bool) : ∃ s : ByteArray, s.size ≤ 1 ∧ Hid (s.data.toList = signB r) ∧ Hid (∀ w, Calls Tryz.prog 28 #[.bool r] w fun e w' => e = .returned (.string s) ∧ w = w') :=
  ⟨_, sign_size r, Lib.hid (by simp), Lib.hid fun w => (act_runText r w).mono fun _ _ h => ⟨h.1, h.2.symm⟩⟩
set_option maxRecDepth 100000 in
theorem act_lookText (x : Look) (w : World) (h1 : x.path.size ≤ 1000) (h2 : x.digest.size ≤ 1000) :
    Calls Tryz.prog 30 #[.agg #[.string x.path, .string x.digest, .bool x.run]] w fun e w' => e = .returned (.string ⟨(lookLineS x).toArray⟩) ∧ Below w.heap.size w w' := by
  have hs := signB_length x.run
  cases hd : x.digest.toList.isEmpty
  · have HD := Lib.hid (show digestOr x.digest = x.digest.data.toList by rw [digestOr, ← Lib.toList_data, hd]; rfl)
    go_enter Tryz.func30, Tryz.ntmps30
    go_wp2
    go_quiet ((go_at_call 28; exact Calls.quiet_of_same (act_runText _ _)))
    go_wp2
    go_ret
    exact ⟨ret_str (by simp [lookLineS, HD.out]), (by repeat (first | exact fr_refl _ | refine fr_call ?_ (by assumption) | refine fr_alloc ?_ _ | refine fr_set ?_ (by simp) _ | refine Below.drew ?_ | refine below_drewN ?_ _))⟩
  · have HD := Lib.hid (show digestOr x.digest = [45] by rw [digestOr, ← Lib.toList_data, hd]; rfl)
    have hd' : x.digest.toList = [] := by simpa using hd
    go_enter Tryz.func30, Tryz.ntmps30
    go_wp2
    go_quiet ((go_at_call 28; exact Calls.quiet_of_same (act_runText _ _)))
    go_wp2
    go_ret
    exact ⟨ret_str (by simp [lookLineS, HD.out]), (by repeat (first | exact fr_refl _ | refine fr_call ?_ (by assumption) | refine fr_alloc ?_ _ | refine fr_set ?_ (by simp) _ | refine Below.drew ?_ | refine below_drewN ?_ _))⟩
end Go.Proofs.Sm
