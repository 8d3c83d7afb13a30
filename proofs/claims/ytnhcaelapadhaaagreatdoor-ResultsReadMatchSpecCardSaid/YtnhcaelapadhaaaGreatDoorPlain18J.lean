/- Plain words: a result is read as it was written, and what was read is written as it was. No program is in sight here. -/
import Derived.Test.YtnhcaelapadhaaaGreatDoorPlain9
import Derived.Test.YtnhcaelapadhaaaGreatDoorPlain17J
namespace Go.Proofs.Sm
open Go.RowKit

theorem path_size {s : ByteArray} (h : isPathS s = true) : s.size ≤ 200 := by
  have := (withinB_true ((Bool.and_eq_true_iff.1 h).1)).2
  omega
theorem looksErr_all {l : List Look} : ∀ prev, looksErr prev l = 0 → ∀ x ∈ l, ∃ q, lookErr q x = 0 := by
  induction l with
  | nil => intro _ _ x hx; simp at hx
  | cons a l ih =>
    intro prev h x hx
    rw [looksErr] at h
    split at h
    · rename_i h0
      rcases List.mem_cons.1 hx with rfl | hx
      · exact ⟨_, h0⟩
      · exact ih _ h x hx
    · exact absurd h ‹_›
theorem lookErr_zero {q : Option ByteArray} {x : Look} (h : lookErr q x = 0) : isPathS x.path = true ∧ (x.digest.toList.isEmpty = true ∨ isDigestS x.digest = true) ∧ (x.digest.toList.isEmpty = true → x.run = false) := by
  unfold lookErr at h
  split at h
  · omega
  · split at h
    · omega
    · split at h
      · omega
      · rename_i h1 h2 h3
        refine ⟨by simpa using h1, ?_, fun he => ?_⟩
        · cases he : x.digest.toList.isEmpty
          · right
            cases hd : isDigestS x.digest
            · rw [he, hd] at h2; simp at h2
            · rfl
          · left; rfl
        · cases hr : x.run
          · rfl
          · rw [he, hr] at h3
            simp at h3
theorem looks_all {l : List Look} (h : checkLooksS l = 0) : ∀ x ∈ l, isPathS x.path = true ∧ (x.digest.toList.isEmpty = true ∨ isDigestS x.digest = true) ∧ (x.digest.toList.isEmpty = true → x.run = false) := by
  unfold checkLooksS at h
  split at h
  · omega
  · intro x hx
    obtain ⟨q, hq⟩ := looksErr_all _ h x hx
    exact lookErr_zero hq
theorem digest_size {s : ByteArray} (h : s.toList.isEmpty = true ∨ isDigestS s = true) : s.size ≤ 16 := by
  rcases h with h | h
  · rw [Lib.toList_data, List.isEmpty_iff] at h
    have := congrArg List.length h
    simp at this
    simp [ByteArray.size, this]
  · have := (Bool.and_eq_true_iff.1 h).2
    simp at this
    omega
theorem looks_sizes {l : List Look} (h : checkLooksS l = 0) : ∀ x ∈ l, x.path.size ≤ 200 ∧ x.digest.size ≤ 16 := fun x hx =>
  ⟨path_size (looks_all h x hx).1, digest_size (looks_all h x hx).2.1⟩
theorem checkFiles_err {l : List FileV} (h : checkFilesS l = 0) : l.length ≤ 1000 ∧ filesErr none l = 0 ∧ l.any (fun x => clashS l x.path) = false ∧ totalS l ≤ 2000000 := by
  unfold checkFilesS at h
  split at h
  · omega
  · split at h
    · rename_i h1; exact absurd h h1
    · split at h
      · omega
      · split at h
        · omega
        · rename_i h1 h2 h3 h4
          refine ⟨by omega, by simpa using h2, by simpa using h3, by omega⟩
theorem files_sizes {l : List FileV} (h : checkFilesS l = 0) : ∀ x ∈ l, x.path.size ≤ 200 ∧ x.bytes.length ≤ 100000 := by
  intro x hx
  obtain ⟨i, hi⟩ := List.getElem?_of_mem hx
  have := filesErr_step none (checkFiles_err h).2.1 i x hi
  exact ⟨path_size this.2.1, this.2.2⟩
structure ResOk (r : ResultV) : Prop where
  code : 0 ≤ r.code ∧ r.code ≤ 999999
  command : 0 ≤ r.command ∧ r.command ≤ 50
  text : r.text.size ≤ 100000
  told : isTextS r.text = true
  files : checkFilesS r.files = 0
  none : r.code ≠ 0 → r.files = []
  looks : checkLooksS r.looks = 0
theorem checkResult_ok {r : ResultV} (h : checkResultS r = 0) : ResOk r := by
  unfold checkResultS at h
  split at h
  · omega
  · split at h
    · omega
    · split at h
      · omega
      · split at h
        · rename_i h1; exact absurd h h1
        · split at h
          · omega
          · rename_i h1 h2 h3 h4 h5
            simp only [Bool.not_eq_false, Bool.and_eq_true] at h1
            have h6 := withinB_true h1.1
            have h7 := withinB_true h1.2
            refine ⟨h6, h7, by omega, by simpa using h3, by simpa using h4, fun hc => ?_, h⟩
            cases hf : r.files with
            | nil => rfl
            | cons a l => rw [hf] at h5; simp at h5; exact absurd h5 hc
theorem itoa_short (n : Nat) (h : n ≤ 9223372036854775807) : (Lib.itoa n).length ≤ 21 := Lib.itoa_length_le n (by omega) (by omega)
theorem fileHead_length (x : FileV) (h1 : x.path.size ≤ 200) (h2 : x.bytes.length ≤ 100000) : (fileHeadS x).length ≤ 240 := by
  have h3 := itoa_short x.bytes.length (by omega)
  have h4 : (signB x.run).length = 1 := by cases x.run <;> rfl
  have h5 : x.path.data.toList.length = x.path.size := by simp
  simp only [fileHeadS, List.length_append, List.length_cons, List.length_nil, h4, h5]
  omega
theorem fileText_length (x : FileV) (h1 : x.path.size ≤ 200) (h2 : x.bytes.length ≤ 100000) : (fileTextS x).length ≤ 100300 := by
  have := fileHead_length x h1 h2
  simp only [fileTextS, List.length_append, List.length_cons, List.length_nil]
  omega
theorem lookLine_length (x : Look) (h1 : x.path.size ≤ 200) (h2 : x.digest.size ≤ 16) : (lookLineS x).length ≤ 230 := by
  have h4 : (signB x.run).length = 1 := by cases x.run <;> rfl
  have h5 : x.path.data.toList.length = x.path.size := by simp
  have h6 : (digestOr x.digest).length ≤ 16 := by
    unfold digestOr
    split
    · simp
    · have : x.digest.data.toList.length = x.digest.size := by simp
      omega
  simp only [lookLineS, List.length_append, List.length_cons, List.length_nil, h4, h5]
  omega
theorem flatMap_length {α : Type} {f : α → List UInt8} {m : Nat} : ∀ {l : List α}, (∀ x ∈ l, (f x).length ≤ m) → (l.flatMap f).length ≤ m * l.length
  | [], _ => by simp
  | a :: l, h => by
    have h1 := h a (by simp)
    have h2 := flatMap_length (l := l) (fun x hx => h x (by simp [hx]))
    simp only [List.flatMap_cons, List.length_append, List.length_cons, Nat.mul_succ]
    omega
theorem files_length {r : ResultV} (h : ResOk r) (k : Nat) : ((r.files.take k).flatMap fileTextS).length ≤ 100300000 := by
  have h1 := (checkFiles_err h.files).1
  have h2 := flatMap_length (f := fileTextS) (m := 100300) (l := r.files.take k) (fun x hx => by
    have := files_sizes h.files x (List.mem_of_mem_take hx)
    exact fileText_length x this.1 this.2)
  have h3 : (r.files.take k).length ≤ 1000 := by rw [List.length_take]; omega
  have : 100300 * (r.files.take k).length ≤ 100300 * 1000 := Nat.mul_le_mul_left _ h3
  omega
theorem looks_length {r : ResultV} (h : ResOk r) (k : Nat) : ((r.looks.take k).flatMap lookLineS).length ≤ 920000 := by
  have h1 : r.looks.length ≤ 4000 := by
    have := h.looks
    unfold checkLooksS at this
    split at this
    · omega
    · omega
  have h2 := flatMap_length (f := lookLineS) (m := 230) (l := r.looks.take k) (fun x hx => by
    have := looks_sizes h.looks x (List.mem_of_mem_take hx)
    exact lookLine_length x this.1 this.2)
  have h3 : (r.looks.take k).length ≤ 4000 := by rw [List.length_take]; omega
  have : 230 * (r.looks.take k).length ≤ 230 * 4000 := Nat.mul_le_mul_left _ h3
  omega
theorem head_length {r : ResultV} (h : ResOk r) : (headTextS r).length ≤ 100100 := by
  have h1 := Lib.itoa_length_le r.code (by have := h.code; omega) (by have := h.code; omega)
  have h2 := Lib.itoa_length_le r.command (by have := h.command; omega) (by have := h.command; omega)
  have h3 := itoa_short r.text.size (by have := h.text; omega)
  have h4 : r.text.data.toList.length = r.text.size := by simp
  have h5 := h.text
  simp only [headTextS, List.length_append, List.length_cons, List.length_nil, h4]
  omega
theorem flatMap_succ {α : Type} {f : α → List UInt8} {l : List α} {k : Nat} {x : α} (hx : l[k]? = some x) : (l.take (k + 1)).flatMap f = (l.take k).flatMap f ++ f x := by
  rw [List.take_add_one, hx, List.flatMap_append]
  simp
end Go.Proofs.Sm

namespace Go.Proofs.Sm
open Go.RowKit

theorem bytes_eq {a b : ByteArray} (h : a.data.toList = b.data.toList) : a = b := by
  obtain ⟨⟨x⟩⟩ := a
  obtain ⟨⟨y⟩⟩ := b
  simp at h
  rw [h]
/-- a word that can stand in a line -/
structure Word (x : List UInt8) : Prop where
  some : x ≠ []
  blank : 32 ∉ x
  line : 10 ∉ x
theorem all_word {p : UInt8 → Bool} {x : List UInt8} (hne : x ≠ []) (h : x.all p = true) (h1 : p 32 = false) (h2 : p 10 = false) : Word x where
  some := hne
  blank hm := by have := List.all_eq_true.1 h _ hm; rw [h1] at this; cases this
  line hm := by have := List.all_eq_true.1 h _ hm; rw [h2] at this; cases this
theorem join_lineless {ws : List (List UInt8)} (h : ∀ x ∈ ws, 10 ∉ x) : (10 : UInt8) ∉ Lib.join ws [32] := by
  cases ws with
  | nil => simp [Lib.join_nil]
  | cons a r =>
    rw [Lib.join_cons]
    simp only [List.mem_append, not_or]
    refine ⟨h a (by simp), ?_⟩
    intro hm
    simp only [Lib.joinTail, List.mem_flatten, List.mem_map] at hm
    obtain ⟨l, ⟨y, hy, rfl⟩, hl⟩ := hm
    rcases List.mem_append.1 hl with h1 | h1
    · revert h1; decide
    · exact h y (by simp [hy]) h1
theorem map_bytes : ∀ {l m : List ByteArray}, l.map (·.data.toList) = m.map (·.data.toList) → l = m
  | [], [], _ => rfl
  | [], _ :: _, h => by simp at h
  | _ :: _, [], h => by simp at h
  | a :: l, b :: m, h => by
    simp only [List.map_cons, List.cons.injEq] at h
    rw [bytes_eq h.1, map_bytes h.2]
theorem row_of {T : ByteArray} {pre rest : List UInt8} {ws : List ByteArray} (hT : T.data.toList = pre ++ (Lib.join (ws.map (·.data.toList)) [32] ++ 10 :: rest)) (hne : ws ≠ []) (hw : ∀ x ∈ ws, Word x.data.toList) :
    rowS T pre.length = some (ws, pre.length + (Lib.join (ws.map (·.data.toList)) [32]).length + 1) := by
  have hd : (restB T pre.length).data.toList = Lib.join (ws.map (·.data.toList)) [32] ++ 10 :: rest := by rw [restB_data, hT]; simp
  have hnl : 10 ∉ Lib.join (ws.map (·.data.toList)) [32] := join_lineless (by
    intro x hx
    obtain ⟨y, hy, rfl⟩ := List.mem_map.1 hx
    exact (hw y hy).line)
  have hc := cut_some (t := rest) hnl
  have h1 : hasLine T pre.length = true := by rw [hasLine, hd, hc]
  have h2 : lineB T pre.length = ⟨(Lib.join (ws.map (·.data.toList)) [32]).toArray⟩ := by rw [lineB, hd, hc]
  have h3 : wordsOf (lineB T pre.length) = ws := by
    have h4 := wordsOf_data (lineB T pre.length)
    have h5 : (lineB T pre.length).data.toList = Lib.join (ws.map (·.data.toList)) [32] := by rw [h2]
    rw [h5, join_pieces (by simpa using hne) (by
      intro x hx
      obtain ⟨y, hy, rfl⟩ := List.mem_map.1 hx
      exact (hw y hy).blank)] at h4
    exact map_bytes h4
  have h6 : noneEmpty (wordsOf (lineB T pre.length)) = true := by
    rw [h3, noneEmpty, Bool.not_eq_true', List.any_eq_false]
    intro x hx e
    exact (hw x hx).some (List.isEmpty_iff.1 e)
  have h7 : (lineB T pre.length).size = (Lib.join (ws.map (·.data.toList)) [32]).length := by rw [h2]; simp [ByteArray.size]
  rw [rowS, h1, h6, h3, h7]
  rfl

/-! ### Words of lines -/
theorem part_word {c : UInt8} (h : partB c = true) : c ≠ 32 ∧ c ≠ 10 := by
  constructor <;> (intro e; subst e; revert h; decide)
theorem splitK_join (c : UInt8) (l : List UInt8) : Lib.join (Lib.splitK [c] 0 (Lib.count l [c]) l) [c] = l := by rw [splitK_pieces c _ l (Nat.le_refl _), pieces_join]
theorem path_bytes {s : ByteArray} (h : isPathS s = true) : ∀ c ∈ s.data.toList, partB c = true ∨ c = 47 := by
  rw [isPathS_eq, Bool.and_eq_true] at h
  have h1 : (partsS s).map (·.data.toList) = piecesL 47 s.data.toList := by
    rw [partsS, Lib.splitB_data]
    exact splitK_pieces 47 _ _ (Nat.le_refl _)
  have h2 : s.data.toList = Lib.join ((partsS s).map (·.data.toList)) [47] := by rw [h1, pieces_join]
  intro c hc
  rw [h2] at hc
  have hall : ∀ x ∈ (partsS s).map (·.data.toList), ∀ c ∈ x, partB c = true := by
    intro x hx c hc
    obtain ⟨y, hy, rfl⟩ := List.mem_map.1 hx
    have h3 := List.all_eq_true.1 h.2 y hy
    simp only [isPartS, Bool.and_eq_true] at h3
    exact List.all_eq_true.1 h3.1.1.1 c hc
  cases hm : (partsS s).map (·.data.toList) with
  | nil => rw [hm, Lib.join_nil] at hc; cases hc
  | cons a r =>
    rw [hm] at hc hall
    rw [Lib.join_cons] at hc
    rcases List.mem_append.1 hc with h3 | h3
    · exact .inl (hall a (by simp) c h3)
    · simp only [Lib.joinTail, List.mem_flatten, List.mem_map] at h3
      obtain ⟨l, ⟨y, hy, rfl⟩, hl⟩ := h3
      rcases List.mem_append.1 hl with h4 | h4
      · exact .inr (by simpa using h4)
      · exact .inl (hall y (by simp [hy]) c h4)
theorem path_word {s : ByteArray} (h : isPathS s = true) : Word s.data.toList where
  some e := by
    rw [isPathS_eq, Bool.and_eq_true] at h
    have h1 := withinB_true h.1
    have h2 := congrArg List.length e
    have h3 : s.data.toList.length = s.size := by simp
    simp only [List.length_nil] at h2
    omega
  blank hm := by
    rcases path_bytes h _ hm with h1 | h1
    · exact (part_word h1).1 rfl
    · revert h1; decide
  line hm := by
    rcases path_bytes h _ hm with h1 | h1
    · exact (part_word h1).2 rfl
    · revert h1; decide
theorem digest_word {s : ByteArray} (h : s.toList.isEmpty = true ∨ isDigestS s = true) : Word (digestOr s) := by
  rw [digestOr]
  split
  · exact ⟨by simp, by decide, by decide⟩
  · rename_i hn
    rcases h with h | h
    · rw [Lib.toList_data] at h; exact absurd h hn
    · rw [isDigestS, Bool.and_eq_true] at h
      exact all_word (by simpa using hn) h.1 (by decide) (by decide)
theorem sign_word (r : Bool) : Word (signB r) := by cases r <;> exact ⟨by simp [signB], by decide, by decide⟩
theorem itoa_word (n : Nat) : Word (Lib.itoa (n : Int)) := by
  have e : ((n : Nat) : Int).toNat = n := by omega
  rw [Lib.itoa, if_neg (by omega), e]
  exact all_word (digits_ne n) (digits_all n) (by decide) (by decide)

/-! ### Read as it was written -/
theorem isX_sign (r : Bool) : isX ⟨(signB r).toArray⟩ = r := by cases r <;> rfl
theorem isRun_sign (r : Bool) : isRunS ⟨(signB r).toArray⟩ = true := by cases r <;> rfl
theorem digest_ne_dash {s : ByteArray} (h : s.toList.isEmpty = true ∨ isDigestS s = true) : undash ⟨(digestOr s).toArray⟩ = s := by
  rw [undash, digestOr]
  split
  · rename_i hd
    have : s.data.toList = [] := by simpa using hd
    simp only
    exact bytes_eq (by simp [this])
  · rename_i hd
    rcases h with h | h
    · rw [Lib.toList_data] at h; exact absurd h hd
    · rw [isDigestS, Bool.and_eq_true] at h
      have h1 : s.data.toList ≠ [45] := by
        intro e
        have := h.1
        rw [e] at this
        revert this; decide
      have h2 : ((⟨s.data.toList.toArray⟩ : ByteArray).data.toList == [45]) = false := by simpa using h1
      simp only [h2, Bool.false_eq_true, if_false]
theorem numS_itoa (n : Nat) (h : n < 1000000000) : isNumberS ⟨(Lib.itoa (n : Int)).toArray⟩ 9 = true ∧ numS ⟨(Lib.itoa (n : Int)).toArray⟩ = n :=
  text_number (k := 9) (by simp) (by omega) (by decide)
theorem look_read {T : ByteArray} {pre rest : List UInt8} {x : Look} {fs : List FileV} {ls : List Look} (hT : T.data.toList = pre ++ (lookLineS x ++ rest))
    (hx : isPathS x.path = true ∧ (x.digest.toList.isEmpty = true ∨ isDigestS x.digest = true)) :
    stepS T ⟨pre.length, fs, ls⟩ = .ok ⟨pre.length + (lookLineS x).length, fs, ls ++ [x]⟩ := by
  have hj : Lib.join (([⟨lookW.toArray⟩, x.path, ⟨(digestOr x.digest).toArray⟩, ⟨(signB x.run).toArray⟩] : List ByteArray).map (·.data.toList)) [32] ++ [10] = lookLineS x := by
    simp [Lib.join_cons, Lib.joinTail, lookLineS, lookW]
  have hr := row_of (T := T) (pre := pre) (rest := rest) (ws := [⟨lookW.toArray⟩, x.path, ⟨(digestOr x.digest).toArray⟩, ⟨(signB x.run).toArray⟩]) (by rw [hT, ← hj]; simp) (by simp) (by
    intro y hy
    simp only [List.mem_cons, List.not_mem_nil, or_false] at hy
    rcases hy with rfl | rfl | rfl | rfl
    · exact ⟨by decide, by decide, by decide⟩
    · exact path_word hx.1
    · exact digest_word hx.2
    · exact sign_word x.run)
  have hlen : (Lib.join (([⟨lookW.toArray⟩, x.path, ⟨(digestOr x.digest).toArray⟩, ⟨(signB x.run).toArray⟩] : List ByteArray).map (·.data.toList)) [32]).length + 1 = (lookLineS x).length := by rw [← hj]; simp
  have hl := lineIs_of (word := lookW) (many := 4) hr rfl rfl
  have hf : lineIs T pre.length fileW 4 = none := by
    rw [lineIs, hr]
    rfl
  rw [stepS, hf, if_neg (by simp), lookStep, hl]
  simp only [isRun_sign, isX_sign, digest_ne_dash hx.2, if_true]
  rw [← hlen]
  simp only [Nat.add_assoc]
theorem file_read {T : ByteArray} {pre rest : List UInt8} {x : FileV} {fs : List FileV} (hT : T.data.toList = pre ++ (fileTextS x ++ rest)) (hx : isPathS x.path = true ∧ x.bytes.length ≤ 100000) :
    stepS T ⟨pre.length, fs, []⟩ = .ok ⟨pre.length + (fileTextS x).length, fs ++ [x], []⟩ := by
  have hj : Lib.join (([⟨fileW.toArray⟩, x.path, ⟨(signB x.run).toArray⟩, ⟨(Lib.itoa x.bytes.length).toArray⟩] : List ByteArray).map (·.data.toList)) [32] ++ [10] = fileHeadS x := by
    simp [Lib.join_cons, Lib.joinTail, fileHeadS, fileW]
  have hr := row_of (T := T) (pre := pre) (rest := x.bytes ++ [10] ++ rest) (ws := [⟨fileW.toArray⟩, x.path, ⟨(signB x.run).toArray⟩, ⟨(Lib.itoa x.bytes.length).toArray⟩]) (by rw [hT, fileTextS, ← hj]; simp) (by simp) (by
    intro y hy
    simp only [List.mem_cons, List.not_mem_nil, or_false] at hy
    rcases hy with rfl | rfl | rfl | rfl
    · exact ⟨by decide, by decide, by decide⟩
    · exact path_word hx.1
    · exact sign_word x.run
    · exact itoa_word _)
  have hlen : (Lib.join (([⟨fileW.toArray⟩, x.path, ⟨(signB x.run).toArray⟩, ⟨(Lib.itoa x.bytes.length).toArray⟩] : List ByteArray).map (·.data.toList)) [32]).length + 1 = (fileHeadS x).length := by rw [← hj]; simp
  have hq : ∀ q, q = pre.length + (Lib.join (([⟨fileW.toArray⟩, x.path, ⟨(signB x.run).toArray⟩, ⟨(Lib.itoa x.bytes.length).toArray⟩] : List ByteArray).map (·.data.toList)) [32]).length + 1 → q = pre.length + (fileHeadS x).length := by
    intro q hq; rw [hq, ← hlen]; omega
  rw [hq _ rfl] at hr
  have hl := lineIs_of (word := fileW) (many := 4) hr rfl rfl
  obtain ⟨n1, n2⟩ := numS_itoa x.bytes.length (by omega)
  have e0 : T.data.toList.length = T.size := by simp
  have hd : T.data.toList.drop (pre.length + (fileHeadS x).length) = x.bytes ++ 10 :: rest := by
    rw [hT, fileTextS, ← List.append_assoc, ← List.append_assoc, ← List.append_assoc, ← List.length_append]
    simp [List.append_assoc]
  have hsz : pre.length + (fileHeadS x).length + x.bytes.length ≤ T.size := by
    have := congrArg List.length hT
    rw [e0] at this
    simp only [fileTextS, List.length_append, List.length_cons, List.length_nil] at this
    omega
  have h10 : T.data.toList[pre.length + (fileHeadS x).length + x.bytes.length]? = some 10 := by
    rw [← List.getElem?_drop, hd]; simp
  rw [stepS, hl, if_pos (by rfl), fileStep]
  simp only [hl, isRun_sign, n1, n2, Bool.and_self, if_true]
  rw [fileBody, if_neg (by omega), if_pos h10, hd]
  simp only [isX_sign, List.take_left]
  have hlen2 : pre.length + (fileHeadS x).length + x.bytes.length + 1 = pre.length + (fileTextS x).length := by
    simp only [fileTextS, List.length_append, List.length_cons, List.length_nil]; omega
  rw [hlen2]
theorem looks_read {T : ByteArray} {fs : List FileV} : ∀ (l : List Look) (pre : List UInt8) (done : List Look), T.data.toList = pre ++ l.flatMap lookLineS →
    (∀ x ∈ l, isPathS x.path = true ∧ (x.digest.toList.isEmpty = true ∨ isDigestS x.digest = true)) → runS T ⟨pre.length, fs, done⟩ = .ok ⟨T.size, fs, done ++ l⟩
  | [], pre, done, hT, _ => by
    have e0 : T.data.toList.length = T.size := by simp
    have h1 := congrArg List.length hT
    rw [e0, List.length_append, List.flatMap_nil, List.length_nil] at h1
    rw [run_end (by show T.size ≤ pre.length; omega), List.append_nil, show pre.length = T.size by omega]
  | x :: l, pre, done, hT, hx => by
    rw [List.flatMap_cons] at hT
    have hs := look_read (fs := fs) (ls := done) hT (hx x (by simp))
    have hp := step_place hs
    rw [run_round (Nat.lt_of_lt_of_le hp.1 hp.2) hs, ← List.length_append]
    rw [looks_read l (pre ++ lookLineS x) (done ++ [x]) (by rw [hT]; simp) (fun y hy => hx y (by simp [hy]))]
    simp
theorem files_read {T : ByteArray} : ∀ (l : List FileV) (pre rest : List UInt8) (done : List FileV), T.data.toList = pre ++ (l.flatMap fileTextS ++ rest) →
    (∀ x ∈ l, isPathS x.path = true ∧ x.bytes.length ≤ 100000) → runS T ⟨pre.length, done, []⟩ = runS T ⟨(pre ++ l.flatMap fileTextS).length, done ++ l, []⟩
  | [], pre, rest, done, hT, _ => by simp
  | x :: l, pre, rest, done, hT, hx => by
    rw [List.flatMap_cons, List.append_assoc] at hT
    have hs := file_read (fs := done) hT (hx x (by simp))
    have hp := step_place hs
    rw [run_round (Nat.lt_of_lt_of_le hp.1 hp.2) hs, ← List.length_append]
    rw [files_read l (pre ++ fileTextS x) rest (done ++ [x]) (by rw [hT]; simp) (fun y hy => hx y (by simp [hy]))]
    simp
theorem files_paths {l : List FileV} (h : checkFilesS l = 0) : ∀ x ∈ l, isPathS x.path = true ∧ x.bytes.length ≤ 100000 := by
  have h1 := (checkFiles_err h).2.1
  intro x hx
  obtain ⟨i, hi⟩ := List.getElem?_of_mem hx
  have := filesErr_step none h1 i x hi
  exact this.2
theorem checkResult_parts {r : ResultV} (h : checkResultS r = 0) : (0 ≤ r.code ∧ r.code ≤ 999999 ∧ 0 ≤ r.command ∧ r.command ≤ 50) ∧ r.text.size ≤ 100000 ∧ checkFilesS r.files = 0 ∧ checkLooksS r.looks = 0 := by
  unfold checkResultS at h
  split at h
  · cases h
  rename_i h1
  split at h
  · cases h
  rename_i h2
  split at h
  · cases h
  split at h
  · contradiction
  rename_i h3
  split at h
  · cases h
  refine ⟨?_, by omega, by simpa using h3, h⟩
  simp only [Bool.not_eq_false, Bool.and_eq_true] at h1
  have a := withinB_true h1.1
  have b := withinB_true h1.2
  omega
theorem result_back {r : ResultV} (h : checkResultS r = 0) : readB ⟨(resultTextL r).toArray⟩ = .ok r := by
  obtain ⟨⟨c0, c1, d0, d1⟩, ht, hf, hl⟩ := checkResult_parts h
  generalize hT0 : (⟨(resultTextL r).toArray⟩ : ByteArray) = T
  have hT : T.data.toList = resultTextL r := by rw [← hT0]
  obtain ⟨c, hc⟩ : ∃ c : Nat, r.code = (c : Int) := ⟨r.code.toNat, by omega⟩
  obtain ⟨d, hd⟩ : ∃ d : Nat, r.command = (d : Int) := ⟨r.command.toNat, by omega⟩
  have hj1 : Lib.join (([⟨codeW.toArray⟩, ⟨(Lib.itoa (c : Int)).toArray⟩, ⟨(Lib.itoa (d : Int)).toArray⟩] : List ByteArray).map (·.data.toList)) [32] = codeW ++ [32] ++ Lib.itoa c ++ [32] ++ Lib.itoa d := by
    simp [Lib.join_cons, Lib.joinTail]
  have hj2 : Lib.join (([⟨textW.toArray⟩, ⟨(Lib.itoa (r.text.size : Int)).toArray⟩] : List ByteArray).map (·.data.toList)) [32] = textW ++ [32] ++ Lib.itoa r.text.size := by
    simp [Lib.join_cons, Lib.joinTail]
  have hhead : headTextS r = (codeW ++ [32] ++ Lib.itoa c ++ [32] ++ Lib.itoa d ++ [10]) ++ ((textW ++ [32] ++ Lib.itoa r.text.size ++ [10]) ++ r.text.data.toList) := by
    simp [headTextS, codeW, textW, hc, hd]
  have hr1 := row_of (T := T) (pre := []) (rest := (textW ++ [32] ++ Lib.itoa r.text.size ++ [10]) ++ r.text.data.toList ++ r.files.flatMap fileTextS ++ r.looks.flatMap lookLineS)
    (ws := [⟨codeW.toArray⟩, ⟨(Lib.itoa (c : Int)).toArray⟩, ⟨(Lib.itoa (d : Int)).toArray⟩]) (by rw [hT, hj1, resultTextL, hhead]; simp) (by simp) (by
    intro y hy
    simp only [List.mem_cons, List.not_mem_nil, or_false] at hy
    rcases hy with rfl | rfl | rfl
    · exact ⟨by decide, by decide, by decide⟩
    · exact itoa_word _
    · exact itoa_word _)
  rw [hj1] at hr1
  generalize hq : ([] : List UInt8).length + (codeW ++ [32] ++ Lib.itoa c ++ [32] ++ Lib.itoa d).length + 1 = q at hr1
  have hq' : (codeW ++ [32] ++ Lib.itoa c ++ [32] ++ Lib.itoa d ++ [10]).length = q := by rw [← hq]; simp only [List.length_append, List.length_cons, List.length_nil]; omega
  have hr2 := row_of (T := T) (pre := codeW ++ [32] ++ Lib.itoa c ++ [32] ++ Lib.itoa d ++ [10]) (rest := r.text.data.toList ++ r.files.flatMap fileTextS ++ r.looks.flatMap lookLineS)
    (ws := [⟨textW.toArray⟩, ⟨(Lib.itoa (r.text.size : Int)).toArray⟩]) (by rw [hT, hj2, resultTextL, hhead]; simp) (by simp) (by
    intro y hy
    simp only [List.mem_cons, List.not_mem_nil, or_false] at hy
    rcases hy with rfl | rfl
    · exact ⟨by decide, by decide, by decide⟩
    · exact itoa_word _)
  rw [hj2, hq'] at hr2
  generalize hq2 : q + (textW ++ [32] ++ Lib.itoa r.text.size).length + 1 = q2 at hr2
  obtain ⟨n1, n2⟩ := numS_itoa c (by omega)
  obtain ⟨n3, n4⟩ := numS_itoa d (by omega)
  obtain ⟨n5, n6⟩ := numS_itoa r.text.size (by omega)
  have hl1 := lineIs_of (word := codeW) (many := 3) hr1 rfl rfl
  have hl2 := lineIs_of (word := textW) (many := 2) hr2 rfl rfl
  have e0 : T.data.toList.length = T.size := by simp
  have et : r.text.data.toList.length = r.text.size := by simp
  have hpre : T.data.toList = ((codeW ++ [32] ++ Lib.itoa c ++ [32] ++ Lib.itoa d ++ [10]) ++ (textW ++ [32] ++ Lib.itoa r.text.size ++ [10])) ++ (r.text.data.toList ++ (r.files.flatMap fileTextS ++ r.looks.flatMap lookLineS)) := by
    rw [hT, resultTextL, hhead]; simp
  have hq3 : ((codeW ++ [32] ++ Lib.itoa c ++ [32] ++ Lib.itoa d ++ [10]) ++ (textW ++ [32] ++ Lib.itoa r.text.size ++ [10])).length = q2 := by
    rw [List.length_append, hq', ← hq2]; simp only [List.length_append, List.length_cons, List.length_nil]; omega
  have hsz : q2 + r.text.size ≤ T.size := by
    have := congrArg List.length hpre
    rw [List.length_append, hq3, e0, List.length_append, et] at this
    omega
  have hdrop : T.data.toList.drop q2 = r.text.data.toList ++ (r.files.flatMap fileTextS ++ r.looks.flatMap lookLineS) := by
    rw [hpre, ← hq3]; simp
  have hext : T.extract q2 (q2 + r.text.size) = r.text := by
    apply bytes_eq
    rw [Lib.extract_data, hdrop, show q2 + r.text.size - q2 = r.text.size by omega, ← et, List.take_left]
  have hhl : (headTextS r).length = q2 + r.text.size := by
    rw [hhead, ← List.append_assoc, List.length_append, hq3, et]
  have htop : topS T = .ok (c, d, r.text, q2 + r.text.size) := by
    rw [topS, show (0 : Nat) = ([] : List UInt8).length from rfl, hl1]
    simp only [n1, n3, n2, n4, Bool.and_self, if_true]
    rw [textS, hl2]
    simp only [n5, n6, if_true]
    rw [if_neg (by omega), hext]
  have hrun := files_read (T := T) r.files (headTextS r) (r.looks.flatMap lookLineS) [] (by rw [hT, resultTextL, List.append_assoc]) (files_paths hf)
  have hrun2 := looks_read (T := T) (fs := [] ++ r.files) r.looks (headTextS r ++ r.files.flatMap fileTextS) [] (by rw [hT, resultTextL]) (fun x hx => ⟨(looks_all hl x hx).1, (looks_all hl x hx).2.1⟩)
  rw [readB, htop]
  simp only
  rw [← hhl, hrun, hrun2]
  simp only [List.nil_append]
  rw [← hc, ← hd]

/-! ### Written as it was -/
theorem isX_text {c : ByteArray} (h : isRunS c = true) : signB (isX c) = c.data.toList := by
  rw [isRunS, Bool.or_eq_true] at h
  rcases h with h | h
  · rw [h]
    rw [isX, beq_iff_eq] at h
    rw [h]; rfl
  · have h1 : isX c = false := by
      rw [beq_iff_eq] at h
      rw [isX, h]; rfl
    rw [h1]
    rw [beq_iff_eq] at h
    rw [h]; rfl
theorem undash_text {b : ByteArray} (h : b.data.toList ≠ []) : digestOr (undash b) = b.data.toList := by
  rw [undash, digestOr]
  split
  · rename_i h1
    rw [beq_iff_eq] at h1
    rw [h1]; rfl
  · rw [if_neg (by simpa using h)]
theorem line_text {T : ByteArray} {p q many : Nat} {word : List UInt8} {ws : List ByteArray} (h : lineIs T p word many = some (ws, q)) :
    T.data.toList.drop p = word ++ Lib.joinTail [32] (ws.map (·.data.toList)) ++ 10 :: T.data.toList.drop q ∧ (∀ x ∈ ws, x.data.toList ≠ []) ∧ p < q ∧ q ≤ T.size := by
  obtain ⟨w, hr, hw, _⟩ := lineIs_some h
  obtain ⟨h1, _, h3, _⟩ := row_text hr
  refine ⟨?_, fun x hx => h3 x (by simp [hx]), row_place hr⟩
  rw [h1, List.map_cons, Lib.join_cons, hw]
theorem look_wrote {T : ByteArray} {st st' : RSt} (h : lookStep T st = .ok st') : ∃ x, st'.files = st.files ∧ st'.looks = st.looks ++ [x] ∧ T.data.toList.drop st.pos = lookLineS x ++ T.data.toList.drop st'.pos := by
  rw [lookStep] at h
  split at h
  · rename_i a b c q hl
    obtain ⟨h1, h2, _⟩ := line_text hl
    split at h
    · rename_i hc
      cases h
      refine ⟨_, rfl, rfl, ?_⟩
      rw [h1]
      simp [lookLineS, Lib.joinTail, lookW, isX_text hc, undash_text (h2 b (by simp))]
    · cases h
  · cases h
theorem file_wrote {T : ByteArray} {st st' : RSt} (h : fileStep T st = .ok st') : ∃ x, st'.files = st.files ++ [x] ∧ st'.looks = st.looks ∧ T.data.toList.drop st.pos = fileTextS x ++ T.data.toList.drop st'.pos := by
  rw [fileStep] at h
  split at h
  · rename_i a b c q hl
    obtain ⟨h1, h2, _, hq⟩ := line_text hl
    split at h
    · rename_i hc
      obtain ⟨hb, hn⟩ := Bool.and_eq_true_iff.1 hc
      rw [fileBody] at h
      split at h
      · cases h
      · rename_i hsz
        split at h
        · rename_i h10
          cases h
          refine ⟨_, rfl, rfl, ?_⟩
          have e0 : T.data.toList.length = T.size := by simp
          have hlen : ((T.data.toList.drop q).take (numS c)).length = numS c := by
            rw [List.length_take, List.length_drop, e0]; omega
          have hlast : T.data.toList.drop (q + numS c) = 10 :: T.data.toList.drop (q + numS c + 1) := by
            obtain ⟨hk, he⟩ := List.getElem?_eq_some_iff.1 h10
            rw [List.drop_eq_getElem_cons hk, he]
          have hq2 : T.data.toList.drop q = (T.data.toList.drop q).take (numS c) ++ 10 :: T.data.toList.drop (q + numS c + 1) := by
            conv => lhs; rw [← List.take_append_drop (numS c) (T.data.toList.drop q)]
            rw [List.drop_drop, hlast]
          simp only [fileTextS, fileHeadS, hlen, number_text hn, isX_text hb]
          generalize (T.data.toList.drop q).take (numS c) = B at hq2 ⊢
          rw [h1, hq2]
          simp [Lib.joinTail, fileW]
        · cases h
    · cases h
  · cases h
theorem loop_wrote {T : ByteArray} : ∀ (n : Nat) (st st' : RSt), T.size - st.pos ≤ n → loopS T n st = .ok st' →
    ∃ fs ls, st'.files = st.files ++ fs ∧ st'.looks = st.looks ++ ls ∧ T.data.toList.drop st.pos = fs.flatMap fileTextS ++ ls.flatMap lookLineS ∧ (st.looks ≠ [] → fs = [])
  | 0, st, st', hn, h => by
    cases h
    exact ⟨[], [], by simp, by simp, by
      have e0 : T.data.toList.length = T.size := by simp
      simp only [List.flatMap_nil, List.append_nil]
      rw [List.drop_eq_nil_of_le (by omega)], fun _ => rfl⟩
  | n + 1, st, st', hn, h => by
    rw [loopS] at h
    split at h
    · rename_i hp
      cases h
      exact ⟨[], [], by simp, by simp, by
        have e0 : T.data.toList.length = T.size := by simp
        simp only [List.flatMap_nil, List.append_nil]
        rw [List.drop_eq_nil_of_le (by omega)], fun _ => rfl⟩
    · split at h
      · cases h
      · rename_i st1 hs
        have hp := step_place hs
        obtain ⟨fs, ls, h1, h2, h3, h4⟩ := loop_wrote n st1 st' (by omega) h
        rw [stepS] at hs
        split at hs
        · rename_i hc
          obtain ⟨x, h5, h6, h7⟩ := file_wrote hs
          refine ⟨x :: fs, ls, by rw [h1, h5]; simp, by rw [h2, h6], by rw [h7, h3]; simp, fun hne => ?_⟩
          exact absurd (List.isEmpty_iff.1 (Bool.and_eq_true_iff.1 hc).2) hne
        · obtain ⟨x, h5, h6, h7⟩ := look_wrote hs
          have h8 := h4 (by rw [h6]; simp)
          subst h8
          exact ⟨[], x :: ls, by rw [h1, h5], by rw [h2, h6]; simp, by rw [h7, h3]; simp, fun _ => rfl⟩
theorem result_wrote {T : ByteArray} {r : ResultV} (h : readB T = .ok r) : resultTextL r = T.data.toList := by
  rw [readB] at h
  split at h
  · cases h
  · rename_i c d t p htop
    split at h
    · cases h
    · rename_i st hrun
      cases h
      obtain ⟨fs, ls, h1, h2, h3, _⟩ := loop_wrote _ _ _ (Nat.le_refl _) hrun
      simp only [List.nil_append] at h1 h2 h3
      rw [topS] at htop
      split at htop
      · rename_i a b q hl
        split at htop
        · rename_i hc
          obtain ⟨na, nb⟩ := Bool.and_eq_true_iff.1 hc
          rw [textS] at htop
          split at htop
          · rename_i a2 q2 hl2
            split at htop
            · rename_i n3
              split at htop
              · cases htop
              · rename_i hsz
                cases htop
                obtain ⟨t1, _, _, _⟩ := line_text hl
                obtain ⟨t2, _, _, hq2⟩ := line_text hl2
                have e0 : T.data.toList.length = T.size := by simp
                have hx : (T.extract q2 (q2 + numS a2)).data.toList = (T.data.toList.drop q2).take (numS a2) := by
                  rw [Lib.extract_data, show q2 + numS a2 - q2 = numS a2 by omega]
                have hxs : (T.extract q2 (q2 + numS a2)).size = numS a2 := by rw [ByteArray.size_extract]; omega
                have hlast : T.data.toList.drop q2 = (T.data.toList.drop q2).take (numS a2) ++ T.data.toList.drop (q2 + numS a2) := by
                  conv => lhs; rw [← List.take_append_drop (numS a2) (T.data.toList.drop q2)]
                  rw [List.drop_drop]
                rw [List.drop_zero] at t1
                rw [resultTextL, headTextS]
                simp only [hx, hxs, number_text na, number_text nb, number_text n3]
                generalize (T.data.toList.drop q2).take (numS a2) = B at hlast ⊢
                generalize hR : T.data.toList = R at t1 t2 hlast h3 ⊢
                have e1 : R = codeW ++ Lib.joinTail [32] ([a, b].map (·.data.toList)) ++ 10 :: (textW ++ Lib.joinTail [32] ([a2].map (·.data.toList)) ++ 10 :: (B ++ (fs.flatMap fileTextS ++ ls.flatMap lookLineS))) := by
                  rw [← h3, ← hlast, ← t2]; exact t1
                rw [h1, h2, e1]
                simp [Lib.joinTail, codeW, textW]
            · cases htop
          · cases htop
        · cases htop
      · cases htop
end Go.Proofs.Sm
