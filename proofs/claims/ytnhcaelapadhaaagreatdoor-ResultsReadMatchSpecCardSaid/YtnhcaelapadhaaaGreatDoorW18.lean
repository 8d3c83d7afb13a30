/- Walks: what is simple (awake), and the law of looks. -/
import Derived.Test.YtnhcaelapadhaaaGreatDoorW17
namespace Go.Proofs.Sm
open Go.RowKit

def aLook : Look := ⟨⟨#[97]⟩, ⟨#[]⟩, false⟩
def aFile : FileV := ⟨⟨#[97]⟩, false, []⟩
def bLook : Look := ⟨⟨#[97]⟩, ⟨#[99, 98, 102, 50, 57, 99, 101, 52, 56, 52, 50, 50, 50, 51, 50, 53]⟩, false⟩
theorem a_err : looksOfErr [aLook] [aFile] = 0 := by decide +kernel
theorem a_looks : looksOfS [aLook] [aFile] = [bLook] := sameLooksS_iff.1 (by decide +kernel)
theorem at_box3 {w : World} {g : Nat} {a b c : Value} (h : Box3 w g a b c) : At w g 0 [a, b, c] := by
  intro j v hv
  match j, hv with
  | 0, hv => cases hv; exact h.1.1
  | 1, hv => cases hv; exact h.1.2.1
  | 2, hv => cases hv; exact h.1.2.2
theorem one_look {w : World} {g : Nat} {x : Look} (h : Box3 w g (.string x.path) (.string x.digest) (.bool x.run)) (h1 : x.path.size ≤ maxLen) (h2 : x.digest.size ≤ maxLen) : Sl w (Lt w.heap.size) (some ⟨g, 0, none⟩) 1 [x] :=
  ⟨rfl, by unfold maxLen; decide, fun _ => ⟨g, 0, rfl, h.2.2, fun i y hy => by
    cases i with
    | zero => cases hy; exact ⟨_, ⟨rfl, h1, h2⟩, at_box3 h⟩
    | succ i => simp at hy⟩⟩
theorem one_file {w : World} {g : Nat} {x : FileV} (h : Box3 w g (.string x.path) (.bool x.run) (.slice none 0 0)) (h1 : x.path.size ≤ maxLen) (hb : x.bytes = []) : Sl w (Lt w.heap.size) (some ⟨g, 0, none⟩) 1 [x] :=
  ⟨rfl, by unfold maxLen; decide, fun _ => ⟨g, 0, rfl, h.2.2, fun i y hy => by
    cases i with
    | zero => cases hy; exact ⟨_, ⟨h1, none, 0, 0, rfl, Nat.le_refl _, Nat.zero_le _, by rw [hb]; exact Sl.nil⟩, at_box3 h⟩
    | succ i => simp at hy⟩⟩

set_option maxRecDepth 100000 in
theorem law5_awake (w : World) (hE : Env w) : Calls Tryz.prog 10 #[] w fun e w' => e = .returned (.bool true) ∧ Below w.heap.size w w' := by
  go_enter Tryz.func10, Tryz.ntmps10
  go_wp2_with fail
  have hb1 := box3_new w (.string ⟨#[97]⟩) (.string ⟨#[]⟩) (.bool false) 57
  have hb2 := hb1.call (fr_alloc (fr_refl _) (.cells #[.string ⟨#[97]⟩, .bool false, .slice none 0 0] 65))
  have hb3 := box3_new (w.alloc (.cells #[.string ⟨#[97]⟩, .string ⟨#[]⟩, .bool false] 57)) (.string ⟨#[97]⟩) (.bool false) (.slice none 0 0) 65
  have c := act_LooksOf (some ⟨w.heap.size, 0, none⟩) (some ⟨(w.alloc (.cells #[.string ⟨#[97]⟩, .string ⟨#[]⟩, .bool false] 57)).heap.size, 0, none⟩) 1 1 1 1 [aLook] [aFile] _ ((hE.alloc _).alloc _) (one_look (x := aLook) hb2 (by unfold maxLen; decide) (by unfold maxLen; decide)) (one_file (x := aFile) hb3 (by unfold maxLen; decide) rfl)
  rw [a_err, a_looks] at c
  have hs : (w.alloc (.cells #[.string ⟨#[97]⟩, .string ⟨#[]⟩, .bool false] 57)).heap.size = w.heap.size + 1 := by simp
  rw [hs] at c
  refine c.mono ?_
  rintro e w1 ⟨A', n', c', rfl, q1, q2, q3, hbel⟩
  obtain rfl : n' = 1 := q3.1.symm
  obtain ⟨b, o, x, rfl, hb, hx, hs1, hs2, c0, c1, c2⟩ := q3.look (k := 0) (by omega)
  obtain rfl : bLook = x := by simpa using hx
  have d1 : w1.cell? ⟨b, o + 1, none⟩ = some (.string ⟨#[99, 98, 102, 50, 57, 99, 101, 52, 56, 52, 50, 50, 50, 51, 50, 53]⟩) := by
    have h : some (Value.string bLook.digest) = some (.string ⟨#[99, 98, 102, 50, 57, 99, 101, 52, 56, 52, 50, 50, 50, 51, 50, 53]⟩) := rfl
    rw [← h]
    simpa using c1
  clear c0 c1 c2 hx
  go_wp2
  go_ret
  exact ⟨rfl, fr_call (fr_alloc (fr_alloc (fr_refl _) _) _) hbel⟩

end Go.Proofs.Sm
