/- Plain words: how long the text of a right result can be. -/
import Derived.Test.YtfdobbclpacijaaDoorPlain9
namespace Go.Proofs.Sm
open Go.RowKit

theorem path_size {s : ByteArray} (h : isPathS s = true) : s.size ≤ 200 := by
  have := (withinB_true ((Bool.and_eq_true_iff.1 h).1)).2
  omega
theorem looksErr_all {l : List Look} : ∀ prev, looksErr prev l = 0 → ∀ x ∈ l, ∃ q, lookErr q x = 0 := by
  induction l with
  | nil => intro _ _ x hx; simp at hx
  | cons a l ih =>
    intro prev h x hx
    rw [looksErr] at h
    split at h
    · rename_i h0
      rcases List.mem_cons.1 hx with rfl | hx
      · exact ⟨_, h0⟩
      · exact ih _ h x hx
    · exact absurd h ‹_›
theorem lookErr_zero {q : Option ByteArray} {x : Look} (h : lookErr q x = 0) : isPathS x.path = true ∧ (x.digest.toList.isEmpty = true ∨ isDigestS x.digest = true) ∧ (x.digest.toList.isEmpty = true → x.run = false) := by
  unfold lookErr at h
  split at h
  · omega
  · split at h
    · omega
    · split at h
      · omega
      · rename_i h1 h2 h3
        refine ⟨by simpa using h1, ?_, fun he => ?_⟩
        · cases he : x.digest.toList.isEmpty
          · right
            cases hd : isDigestS x.digest
            · rw [he, hd] at h2; simp at h2
            · rfl
          · left; rfl
        · cases hr : x.run
          · rfl
          · rw [he, hr] at h3
            simp at h3
theorem looks_all {l : List Look} (h : checkLooksS l = 0) : ∀ x ∈ l, isPathS x.path = true ∧ (x.digest.toList.isEmpty = true ∨ isDigestS x.digest = true) ∧ (x.digest.toList.isEmpty = true → x.run = false) := by
  unfold checkLooksS at h
  split at h
  · omega
  · intro x hx
    obtain ⟨q, hq⟩ := looksErr_all _ h x hx
    exact lookErr_zero hq
theorem digest_size {s : ByteArray} (h : s.toList.isEmpty = true ∨ isDigestS s = true) : s.size ≤ 16 := by
  rcases h with h | h
  · rw [Lib.toList_data, List.isEmpty_iff] at h
    have := congrArg List.length h
    simp at this
    simp [ByteArray.size, this]
  · have := (Bool.and_eq_true_iff.1 h).2
    simp at this
    omega
theorem looks_sizes {l : List Look} (h : checkLooksS l = 0) : ∀ x ∈ l, x.path.size ≤ 200 ∧ x.digest.size ≤ 16 := fun x hx =>
  ⟨path_size (looks_all h x hx).1, digest_size (looks_all h x hx).2.1⟩
theorem checkFiles_err {l : List FileV} (h : checkFilesS l = 0) : l.length ≤ 1000 ∧ filesErr none l = 0 ∧ l.any (fun x => clashS l x.path) = false ∧ totalS l ≤ 2000000 := by
  unfold checkFilesS at h
  split at h
  · omega
  · split at h
    · rename_i h1; exact absurd h h1
    · split at h
      · omega
      · split at h
        · omega
        · rename_i h1 h2 h3 h4
          refine ⟨by omega, by simpa using h2, by simpa using h3, by omega⟩
theorem files_sizes {l : List FileV} (h : checkFilesS l = 0) : ∀ x ∈ l, x.path.size ≤ 200 ∧ x.bytes.length ≤ 100000 := by
  intro x hx
  obtain ⟨i, hi⟩ := List.getElem?_of_mem hx
  have := filesErr_step none (checkFiles_err h).2.1 i x hi
  exact ⟨path_size this.2.1, this.2.2⟩
structure ResOk (r : ResultV) : Prop where
  code : 0 ≤ r.code ∧ r.code ≤ 999999
  command : 0 ≤ r.command ∧ r.command ≤ 50
  text : r.text.size ≤ 100000
  told : isTextS r.text = true
  files : checkFilesS r.files = 0
  none : r.code ≠ 0 → r.files = []
  looks : checkLooksS r.looks = 0
theorem checkResult_ok {r : ResultV} (h : checkResultS r = 0) : ResOk r := by
  unfold checkResultS at h
  split at h
  · omega
  · split at h
    · omega
    · split at h
      · omega
      · split at h
        · rename_i h1; exact absurd h h1
        · split at h
          · omega
          · rename_i h1 h2 h3 h4 h5
            simp only [Bool.not_eq_false, Bool.and_eq_true] at h1
            have h6 := withinB_true h1.1
            have h7 := withinB_true h1.2
            refine ⟨h6, h7, by omega, by simpa using h3, by simpa using h4, fun hc => ?_, h⟩
            cases hf : r.files with
            | nil => rfl
            | cons a l => rw [hf] at h5; simp at h5; exact absurd h5 hc
theorem itoa_short (n : Nat) (h : n ≤ 9223372036854775807) : (Lib.itoa n).length ≤ 21 := Lib.itoa_length_le n (by omega) (by omega)
theorem fileHead_length (x : FileV) (h1 : x.path.size ≤ 200) (h2 : x.bytes.length ≤ 100000) : (fileHeadS x).length ≤ 240 := by
  have h3 := itoa_short x.bytes.length (by omega)
  have h4 : (signB x.run).length = 1 := by cases x.run <;> rfl
  have h5 : x.path.data.toList.length = x.path.size := by simp
  simp only [fileHeadS, List.length_append, List.length_cons, List.length_nil, h4, h5]
  omega
theorem fileText_length (x : FileV) (h1 : x.path.size ≤ 200) (h2 : x.bytes.length ≤ 100000) : (fileTextS x).length ≤ 100300 := by
  have := fileHead_length x h1 h2
  simp only [fileTextS, List.length_append, List.length_cons, List.length_nil]
  omega
theorem lookLine_length (x : Look) (h1 : x.path.size ≤ 200) (h2 : x.digest.size ≤ 16) : (lookLineS x).length ≤ 230 := by
  have h4 : (signB x.run).length = 1 := by cases x.run <;> rfl
  have h5 : x.path.data.toList.length = x.path.size := by simp
  have h6 : (digestOr x.digest).length ≤ 16 := by
    unfold digestOr
    split
    · simp
    · have : x.digest.data.toList.length = x.digest.size := by simp
      omega
  simp only [lookLineS, List.length_append, List.length_cons, List.length_nil, h4, h5]
  omega
theorem flatMap_length {α : Type} {f : α → List UInt8} {m : Nat} : ∀ {l : List α}, (∀ x ∈ l, (f x).length ≤ m) → (l.flatMap f).length ≤ m * l.length
  | [], _ => by simp
  | a :: l, h => by
    have h1 := h a (by simp)
    have h2 := flatMap_length (l := l) (fun x hx => h x (by simp [hx]))
    simp only [List.flatMap_cons, List.length_append, List.length_cons, Nat.mul_succ]
    omega
theorem files_length {r : ResultV} (h : ResOk r) (k : Nat) : ((r.files.take k).flatMap fileTextS).length ≤ 100300000 := by
  have h1 := (checkFiles_err h.files).1
  have h2 := flatMap_length (f := fileTextS) (m := 100300) (l := r.files.take k) (fun x hx => by
    have := files_sizes h.files x (List.mem_of_mem_take hx)
    exact fileText_length x this.1 this.2)
  have h3 : (r.files.take k).length ≤ 1000 := by rw [List.length_take]; omega
  have : 100300 * (r.files.take k).length ≤ 100300 * 1000 := Nat.mul_le_mul_left _ h3
  omega
theorem looks_length {r : ResultV} (h : ResOk r) (k : Nat) : ((r.looks.take k).flatMap lookLineS).length ≤ 920000 := by
  have h1 : r.looks.length ≤ 4000 := by
    have := h.looks
    unfold checkLooksS at this
    split at this
    · omega
    · omega
  have h2 := flatMap_length (f := lookLineS) (m := 230) (l := r.looks.take k) (fun x hx => by
    have := looks_sizes h.looks x (List.mem_of_mem_take hx)
    exact lookLine_length x this.1 this.2)
  have h3 : (r.looks.take k).length ≤ 4000 := by rw [List.length_take]; omega
  have : 230 * (r.looks.take k).length ≤ 230 * 4000 := Nat.mul_le_mul_left _ h3
  omega
theorem head_length {r : ResultV} (h : ResOk r) : (headTextS r).length ≤ 100100 := by
  have h1 := Lib.itoa_length_le r.code (by have := h.code; omega) (by have := h.code; omega)
  have h2 := Lib.itoa_length_le r.command (by have := h.command; omega) (by have := h.command; omega)
  have h3 := itoa_short r.text.size (by have := h.text; omega)
  have h4 : r.text.data.toList.length = r.text.size := by simp
  have h5 := h.text
  simp only [headTextS, List.length_append, List.length_cons, List.length_nil, h4]
  omega
theorem flatMap_succ {α : Type} {f : α → List UInt8} {l : List α} {k : Nat} {x : α} (hx : l[k]? = some x) : (l.take (k + 1)).flatMap f = (l.take k).flatMap f ++ f x := by
  rw [List.take_add_one, hx, List.flatMap_append]
  simp
end Go.Proofs.Sm
