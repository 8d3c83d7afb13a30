/- Walks: what is simple (awake), and the law of looks. -/
import Derived.Test.YtfdobbclpacijaaDoorW17
namespace Go.Proofs.Sm
open Go.RowKit

def aLook : Look := ⟨⟨#[97]⟩, ⟨#[]⟩, false⟩
def aFile : FileV := ⟨⟨#[97]⟩, false, []⟩
def bLook : Look := ⟨⟨#[97]⟩, ⟨#[99, 98, 102, 50, 57, 99, 101, 52, 56, 52, 50, 50, 50, 51, 50, 53]⟩, false⟩
theorem a_err : looksOfErr [aLook] [aFile] = 0 := by decide +kernel
theorem a_looks : looksOfS [aLook] [aFile] = [bLook] := sameLooksS_iff.1 (by decide +kernel)
theorem at_box3 {w : World} {g : Nat} {a b c : Value} (h : Box3 w g a b c) : At w g 0 [a, b, c] := by
  intro j v hv
  match j, hv with
  | 0, hv => cases hv; exact h.1.1
  | 1, hv => cases hv; exact h.1.2.1
  | 2, hv => cases hv; exact h.1.2.2
theorem one_look {w : World} {g : Nat} {x : Look} (h : Box3 w g (.string x.path) (.string x.digest) (.bool x.run)) (h1 : x.path.size ≤ maxLen) (h2 : x.digest.size ≤ maxLen) : Sl w (Lt w.heap.size) (some ⟨g, 0, none⟩) 1 [x] :=
  ⟨rfl, by unfold maxLen; decide, fun _ => ⟨g, 0, rfl, h.2.2, fun i y hy => by
    cases i with
    | zero => cases hy; exact ⟨_, ⟨rfl, h1, h2⟩, at_box3 h⟩
    | succ i => simp at hy⟩⟩
theorem one_file {w : World} {g : Nat} {x : FileV} (h : Box3 w g (.string x.path) (.bool x.run) (.slice none 0 0)) (h1 : x.path.size ≤ maxLen) (hb : x.bytes = []) : Sl w (Lt w.heap.size) (some ⟨g, 0, none⟩) 1 [x] :=
  ⟨rfl, by unfold maxLen; decide, fun _ => ⟨g, 0, rfl, h.2.2, fun i y hy => by
    cases i with
    | zero => cases hy; exact ⟨_, ⟨h1, none, 0, 0, rfl, Nat.le_refl _, Nat.zero_le _, by rw [hb]; exact Sl.nil⟩, at_box3 h⟩
    | succ i => simp at hy⟩⟩

set_option maxRecDepth 100000 in
theorem law5_awake (w : World) (hE : Env w) : Calls Tryd.prog 12 #[] w fun e w' => e = .returned (.bool true) ∧ Below w.heap.size w w' := by
  go_enter Tryd.func12, Tryd.ntmps12
  go_wp2_with fail
  have hb1 := box3_new w (.string ⟨#[97]⟩) (.string ⟨#[]⟩) (.bool false) 41
  have hb2 := hb1.call (fr_alloc (fr_refl _) (.cells #[.string ⟨#[97]⟩, .bool false, .slice none 0 0] 47))
  have hb3 := box3_new (w.alloc (.cells #[.string ⟨#[97]⟩, .string ⟨#[]⟩, .bool false] 41)) (.string ⟨#[97]⟩) (.bool false) (.slice none 0 0) 47
  have c := act_LooksOf (some ⟨w.heap.size, 0, none⟩) (some ⟨(w.alloc (.cells #[.string ⟨#[97]⟩, .string ⟨#[]⟩, .bool false] 41)).heap.size, 0, none⟩) 1 1 1 1 [aLook] [aFile] _ ((hE.alloc _).alloc _) (one_look (x := aLook) hb2 (by unfold maxLen; decide) (by unfold maxLen; decide)) (one_file (x := aFile) hb3 (by unfold maxLen; decide) rfl)
  rw [a_err, a_looks] at c
  have hs : (w.alloc (.cells #[.string ⟨#[97]⟩, .string ⟨#[]⟩, .bool false] 41)).heap.size = w.heap.size + 1 := by simp
  rw [hs] at c
  refine c.mono ?_
  rintro e w1 ⟨A', n', c', rfl, q1, q2, q3, hbel⟩
  obtain rfl : n' = 1 := q3.1.symm
  obtain ⟨b, o, x, rfl, hb, hx, hs1, hs2, c0, c1, c2⟩ := q3.look (k := 0) (by omega)
  obtain rfl : bLook = x := by simpa using hx
  have d1 : w1.cell? ⟨b, o + 1, none⟩ = some (.string ⟨#[99, 98, 102, 50, 57, 99, 101, 52, 56, 52, 50, 50, 50, 51, 50, 53]⟩) := by
    have h : some (Value.string bLook.digest) = some (.string ⟨#[99, 98, 102, 50, 57, 99, 101, 52, 56, 52, 50, 50, 50, 51, 50, 53]⟩) := rfl
    rw [← h]
    simpa using c1
  clear c0 c1 c2 hx
  go_wp2
  go_ret
  exact ⟨rfl, fr_call (fr_alloc (fr_alloc (fr_refl _) _) _) hbel⟩

set_option maxHeartbeats 1000000 in
set_option maxRecDepth 100000 in
theorem law_looks (A B : Option Addr) (n c m d : Nat) (l : List Look) (files : List FileV) (w : World) (hE : Env w) (hsl : Sl w (Lt w.heap.size) A n l) (hfs : Sl w (Lt w.heap.size) B m files) :
    Calls Tryd.prog 3 #[.slice A n c, .slice B m d] w fun e w' => e = .returned (.bool true) ∧ Below w.heap.size w w' := by
  have HS := Lib.hid (sameLooksS_iff.2 (rfl : looksOfS l files = looksOfS l files))
  go_enter Tryd.func3, Tryd.ntmps3
  go_wp2_with fail
  refine (act_LooksOf A B n c m d l files w hE hsl hfs).mono ?_
  rintro e w1 ⟨A1, n1, c1, rfl, _, _, s1, b1⟩
  have hE1 := hE.then_ b1
  have hsl1 := sl_call hsl b1 (Nat.le_refl _)
  have hfs1 := sl_call hfs b1 (Nat.le_refl _)
  go_wp2_with fail
  refine (ref5_LooksOf A B n c m d l files w1 hE1 hsl1 hfs1).mono ?_
  rintro e w2 ⟨A2, n2, c2, rfl, _, _, s2, b2⟩
  have hE2 := hE1.then_ b2
  have hsl2 := sl_call hsl1 b2 (Nat.le_refl _)
  have hfs2 := sl_call hfs1 b2 (Nat.le_refl _)
  have s1' := sl_call s1 b2 (Nat.le_refl _)
  go_wp2_with fail
  refine (act_Stands A B n c m d l files w2 hE2 hsl2 hfs2).mono ?_
  rintro e w3 ⟨rfl, b3⟩
  have hE3 := hE2.then_ b3
  have hsl3 := sl_call hsl2 b3 (Nat.le_refl _)
  have hfs3 := sl_call hfs2 b3 (Nat.le_refl _)
  have s1'' := sl_call s1' b3 (Nat.le_refl _)
  have s2' := sl_call s2 b3 (Nat.le_refl _)
  go_wp2_with fail
  refine (ref5_Stands A B n c m d l files w3 hE3 hsl3 hfs3).mono ?_
  rintro e w4 ⟨rfl, b4⟩
  have hE4 := hE3.then_ b4
  have hsl4 := sl_call hsl3 b4 (Nat.le_refl _)
  have t1 := sl_call s1'' b4 (Nat.le_refl _)
  have t2 := sl_call s2' b4 (Nat.le_refl _)
  clear hE hE1 hE2 hE3 hsl hsl1 hsl2 hsl3 hfs hfs1 hfs2 hfs3 s1 s2 s1' s2' s1''
  go_wp2_with fail
  refine (act_CheckLooks A n c l w4 hE4 hsl4).mono ?_
  rintro e w5 ⟨rfl, b5⟩
  have hE5 := hE4.then_ b5
  have hsl5 := sl_call hsl4 b5 (Nat.le_refl _)
  have u1 := sl_call t1 b5 (Nat.le_refl _)
  have u2 := sl_call t2 b5 (Nat.le_refl _)
  go_wp2_with fail
  refine (ref5_CheckLooks A n c l w5 hE5 hsl5).mono ?_
  rintro e w6 ⟨rfl, b6⟩
  have hE6 := hE5.then_ b6
  have v1 := sl_call u1 b6 (Nat.le_refl _)
  have v2 := sl_call u2 b6 (Nat.le_refl _)
  go_wp2_with fail
  refine (ref5_SameLooks A1 A2 n1 n2 c1 c2 _ _ w6 v1 v2).mono ?_
  rintro e w7 ⟨rfl, b7⟩
  rw [HS.out]
  have hE7 := hE6.then_ b7
  go_wp2_with fail
  refine (law5_awake w7 hE7).mono ?_
  rintro e w8 ⟨rfl, b8⟩
  go_wp2
  go_ret
  exact ⟨rfl, fr_call (fr_call (fr_call (fr_call (fr_call (fr_call (fr_call b1 b2) b3) b4) b5) b6) b7) b8⟩
end Go.Proofs.Sm
