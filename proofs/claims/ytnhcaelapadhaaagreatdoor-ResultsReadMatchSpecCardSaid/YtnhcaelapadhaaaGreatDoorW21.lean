/- Walks: results are validated. -/
import Derived.Test.YtnhcaelapadhaaaGreatDoorW12
import Derived.Test.YtnhcaelapadhaaaGreatDoorPlain9
import Derived.Shelf.Strings.FuncGrows
namespace Go.Proofs.Sm
open Go.RowKit

/-- the package-level variables, the table of powers of ten among them -/
structure Env2 (w : World) : Prop extends Env w where
  pow : Lib.TabIs Tryz.prog w "internal/strconv.uint64pow10" .u64 Lib.pow10Tab
theorem Env2.of_heap {w w' : World} (h : Env2 w) (hs : w.heap.size ≤ w'.heap.size) (hk : ∀ k, k < 8 → w'.heap[k]? = w.heap[k]?) : Env2 w' where
  toEnv := h.toEnv.of_heap hs hk
  pow := by
    have hg : Tryz.prog.globalNamed "internal/strconv.uint64pow10" = some 1 := by kernel_rfl
    have h1 := h.pow
    unfold Lib.TabIs World.var? at *
    rw [hg] at *
    simp only [Option.bind_some] at *
    rw [hk 1 (by decide)]
    exact h1
theorem Env2.then_ {w w' : World} (h : Env2 w) (hb : Below w.heap.size w w') : Env2 w' := h.of_heap hb.size fun k hk => hb.block k (Nat.lt_of_lt_of_le hk h.size)
theorem Env2.alloc {w : World} (h : Env2 w) (o : Obj) : Env2 (w.alloc o) := h.then_ ((Below.refl _ _).alloc (Nat.le_refl _) o)

theorem untold_pays (w : World) : PredGrows Tryz.prog 46 #[] untold w := by
  intro W x hx _
  show Calls Tryz.prog 46 #[.int .i32 (x : Int)] W _
  go_enter Tryz.func46, Tryz.ntmps46
  go_wp2
  all_goals (go_ret; refine ⟨ret_bool ?_, Below.refl _ _⟩; rw [Bool.eq_iff_iff]; simp [untold, textI] <;> omega)
theorem told_any (s : ByteArray) (w : World) : Calls Tryz.prog 45 #[.string s, .func (.func 46) #[] #[]] w fun e w' => e = .returned (.bool (!(s.data.toList.all textB))) ∧ Below w.heap.size w w' :=
  (Tryz.strings_ContainsFunc_grows 46 #[] (enters_of Tryz.func46 (by kernel_rfl) rfl) untold s w (untold_pays w)).mono fun _ _ h => ⟨by rw [h.1, untold_any], h.2⟩

set_option maxRecDepth 100000 in
theorem ref5_isText (s : ByteArray) (w : World) (hs : s.size ≤ maxLen) : Calls Tryz.prog 54 #[.string s] w fun e w' => e = .returned (.bool (isTextS s)) ∧ w = w' := by
  have hm : s.size ≤ 9223372036854775807 := hs
  go_enter Tryz.func54, Tryz.ntmps54
  go_wp2
  go_loop [3] (fun i => ∃ k : Nat, k ≤ s.size ∧ i = .int .i64 k ∧ (s.data.toList.take k).all textB = true) (fun i => s.size - (intOf i).toNat)
  case atStart => exact ⟨0, Nat.zero_le _, rfl, rfl⟩
  case round =>
    obtain ⟨k, hk, rfl, hall⟩ := hrel
    have H := Lib.hid hall; clear hall
    by_cases hlt : k < s.size
    · go_wp2
      all_goals first
        | (go_round
           case rel => exact ⟨k + 1, by omega, by go_num, all_step hlt H.out (by simp [textB, textI]; simp at *; omega)⟩
           case measure => simp [intOf]; omega)
        | (go_ret; exact ⟨ret_bool (by rw [isTextS, all_no hlt (by simp [textB, textI]; simp at *; omega)]; rfl), rfl⟩)
    · have He := Lib.hid (all_end hlt H.out)
      by_cases h0 : s.size = 0
      · have hn : s.toList = [] := by rw [Lib.toList_data]; exact List.eq_nil_of_length_eq_zero (by simpa using h0)
        have HN := Lib.hid (show isTextS s = true by rw [isTextS, He.out, ← Lib.toList_data, hn]; rfl)
        clear h0
        go_wp2
        go_ret; exact ⟨ret_bool HN.out.symm, rfl⟩
      · have hn : s.toList.isEmpty = false := by
          rw [Lib.toList_data, List.isEmpty_eq_false_iff]
          exact fun e => h0 (by have := congrArg List.length e; simpa using this)
        have hlt1 : s.size - 1 < s.size := by omega
        have g0 : ((s.size : Int) - 1).toNat = s.size - 1 := by omega
        have HN := Lib.hid (show isTextS s = ((s[s.size - 1].toNat : Int) == 10) by rw [isTextS, He.out, ends_at s hlt1, Bool.true_and])
        go_wp2
        go_ret; exact ⟨ret_bool HN.out.symm, rfl⟩
end Go.Proofs.Sm
