/- Plain words: a result is read. No program is in sight here. -/
import Derived.Test.YtnhcaelapadhaaaGreatDoorPlain10
import Derived.Lib.Atoi
import Derived.Lib.SplitLaws
import Derived.Lib.ItoaNum
import Derived.Lib.Join
namespace Go.Proofs.Sm
open Go.RowKit

def firstSmall (l : List UInt8) : Bool := match l with | [] => false | c :: _ => smallI (c.toNat : Int)
theorem isNameS_eq (s : ByteArray) : isNameS s = (withinB s.size 1 40 && firstSmall s.data.toList && s.data.toList.all nameB && !(langWords.contains s.data.toList)) := rfl
theorem byte_at (s : ByteArray) (k : Nat) (h : k < s.size) : s.data.toList[k]? = some s[k] := by
  rw [Array.getElem?_toList]
  exact Array.getElem?_eq_getElem h
theorem firstSmall_at (s : ByteArray) (h : 0 < s.size) : firstSmall s.data.toList = smallI (s[0].toNat : Int) := by
  have h1 := byte_at s 0 h
  cases hl : s.data.toList with
  | nil => rw [hl] at h1; cases h1
  | cons a l => rw [hl] at h1; cases h1; rfl
theorem first_of_take {l : List UInt8} {k : Nat} (h : 0 < k) : firstSmall (l.take k) = firstSmall l := by
  cases l with
  | nil => simp
  | cons a l =>
    cases k with
    | zero => omega
    | succ k => rfl
/-- the value of digits -/
def numS (s : ByteArray) : Nat := (Lib.decNat s.data.toList).getD 0
theorem decFrom_some : ∀ (l : List UInt8) (acc : Nat), l.all digitB = true → ∃ n, Lib.decFrom acc l = some n ∧ n < (acc + 1) * 10 ^ l.length
  | [], acc, _ => ⟨acc, rfl, by simp⟩
  | c :: l, acc, h => by
    rw [List.all_cons, Bool.and_eq_true] at h
    have hc : 48 ≤ c.toNat ∧ c.toNat ≤ 57 := by
      have := h.1
      simp [digitB, digitI] at this
      omega
    obtain ⟨n, h1, h2⟩ := decFrom_some l (acc * 10 + (c.toNat - 48)) h.2
    refine ⟨n, ?_, ?_⟩
    · rw [Lib.decFrom, Lib.digitVal, if_pos hc]
      exact h1
    · refine Nat.lt_of_lt_of_le h2 ?_
      rw [List.length_cons, Nat.pow_succ, ← Nat.mul_assoc, Nat.mul_right_comm]
      exact Nat.mul_le_mul_right _ (by omega)
theorem number_some {s : ByteArray} {m : Int} (h : isNumberS s m = true) : Lib.decNat s.data.toList = some (numS s) ∧ numS s < 10 ^ s.size ∧ s.size ≤ m.toNat ∧ 1 ≤ s.size := by
  simp only [isNumberS, Bool.and_eq_true] at h
  have h1 := withinB_true h.1.1
  obtain ⟨n, h2, h3⟩ := decFrom_some s.data.toList 0 h.1.2
  have hne : s.data.toList.isEmpty = false := by
    rw [List.isEmpty_eq_false_iff]
    intro e
    have := congrArg List.length e
    simp at this
    have : s.size = 0 := by simp [ByteArray.size, this]
    omega
  have h4 : Lib.decNat s.data.toList = some n := by rw [Lib.decNat, hne]; exact h2
  have h5 : s.data.toList.length = s.size := by simp
  refine ⟨by rw [numS, h4]; rfl, by rw [numS, h4]; simpa [h5] using h3, by omega, by omega⟩
theorem number_atoi {s : ByteArray} {m : Int} (h : isNumberS s m = true) : Lib.atoi s.data.toList = some ((numS s : Nat) : Int) := by
  have h1 := (number_some h).1
  simp only [isNumberS, Bool.and_eq_true] at h
  cases hl : s.data.toList with
  | nil => rw [hl, Lib.decNat] at h1; cases h1
  | cons b r =>
    have hb : digitB b = true := by
      have := h.1.2
      rw [hl, List.all_cons, Bool.and_eq_true] at this
      exact this.1
    have hb1 : (b == 45) = false := by
      rw [beq_eq_false_iff_ne]
      intro e; subst e; revert hb; decide
    have hb2 : (b == 43) = false := by
      rw [beq_eq_false_iff_ne]
      intro e; subst e; revert hb; decide
    rw [Lib.atoi, hb1, hb2, ← hl, h1]
    rfl
theorem leadOk_two {s : ByteArray} (h : 1 < s.size) : leadOk s.data.toList = !(((s[0]'(by omega)).toNat : Int) == 48) := by
  have h1 := byte_at s 0 (by omega)
  have h2 : s.data.toList.length = s.size := by simp
  cases hl : s.data.toList with
  | nil => rw [hl] at h1; cases h1
  | cons a l =>
    rw [hl] at h1 h2
    cases h1
    have hne : ((s[0]'(by omega)) :: l == [48]) = false := by
      cases l with
      | nil => simp at h2; omega
      | cons c l => simp
    rw [leadOk, hne, Bool.or_false, List.head?_cons, Bool.eq_iff_iff]
    simp only [Bool.not_eq_true', beq_eq_false_iff_ne, ne_eq, Option.some.injEq]
    have e48 : (48 : UInt8).toNat = 48 := rfl
    constructor
    · intro hh e; exact hh (UInt8.toNat_inj.1 (by omega))
    · intro hh e; rw [e] at hh; exact hh rfl
theorem leadOk_one {s : ByteArray} (h : s.size = 1) : leadOk s.data.toList = true := by
  have h2 : s.data.toList.length = s.size := by simp
  cases hl : s.data.toList with
  | nil => rfl
  | cons a l =>
    rw [hl, h] at h2
    have : l = [] := List.eq_nil_of_length_eq_zero (by simpa using h2)
    subst this
    unfold leadOk
    rw [List.head?_cons]
    by_cases ha : a = 48
    · subst ha; rfl
    · have : (some a == some (48 : UInt8)) = false := by simpa using ha
      rw [this]; rfl
end Go.Proofs.Sm

namespace Go.Proofs.Sm
open Go.RowKit

/-! ### Pieces between bytes c -/
def piecesL (c : UInt8) : List UInt8 → List (List UInt8)
  | [] => [[]]
  | b :: l => if b = c then [] :: piecesL c l else match piecesL c l with
    | [] => [[b]]
    | x :: r => (b :: x) :: r
theorem pieces_none {c : UInt8} : ∀ {l : List UInt8}, c ∉ l → piecesL c l = [l]
  | [], _ => rfl
  | b :: l, h => by
    simp only [List.mem_cons, not_or] at h
    rw [piecesL, if_neg (Ne.symm h.1), pieces_none h.2]
theorem pieces_app {c : UInt8} {t : List UInt8} : ∀ {a : List UInt8}, c ∉ a → piecesL c (a ++ c :: t) = a :: piecesL c t
  | [], _ => by rw [List.nil_append, piecesL, if_pos rfl]
  | b :: a, h => by
    simp only [List.mem_cons, not_or] at h
    rw [List.cons_append, piecesL, if_neg (Ne.symm h.1), pieces_app h.2]
theorem index_piece (c : UInt8) : ∀ l : List UInt8, (c ∉ l ∧ Lib.index l [c] = -1) ∨ ∃ a t, l = a ++ c :: t ∧ c ∉ a ∧ Lib.index l [c] = a.length
  | [] => .inl ⟨by simp, by simp [Lib.index]⟩
  | b :: l => by
    by_cases h : b = c
    · subst h
      exact .inr ⟨[], l, rfl, by simp, by rw [Lib.index]; simp [List.isPrefixOf]⟩
    · have hp : ([c] : List UInt8).isPrefixOf (b :: l) = false := by simp [List.isPrefixOf, Ne.symm h]
      have hix : Lib.index (b :: l) [c] = if Lib.index l [c] == -1 then -1 else Lib.index l [c] + 1 := by rw [Lib.index, hp]; simp
      rcases index_piece c l with ⟨h1, h2⟩ | ⟨a, t, rfl, h2, h3⟩
      · refine .inl ⟨?_, by rw [hix, h2]; rfl⟩
        simp only [List.mem_cons, not_or]
        exact ⟨Ne.symm h, h1⟩
      · refine .inr ⟨b :: a, t, rfl, ?_, ?_⟩
        · simp only [List.mem_cons, not_or]
          exact ⟨Ne.symm h, h2⟩
        · rw [hix, h3, if_neg (by rw [beq_iff_eq]; omega), List.length_cons]
          omega
theorem cut_none {c : UInt8} {l : List UInt8} (h : c ∉ l) : Lib.cut l [c] = (l, [], false) := by
  rcases index_piece c l with ⟨_, h2⟩ | ⟨a, t, rfl, _, _⟩
  · rw [Lib.cut, h2, if_neg (by omega)]
  · simp at h
theorem cut_some {c : UInt8} {a t : List UInt8} (h : c ∉ a) : Lib.cut (a ++ c :: t) [c] = (a, t, true) := by
  rcases index_piece c (a ++ c :: t) with ⟨h1, _⟩ | ⟨a', t', e, h2, h3⟩
  · simp at h1
  · have key : ∀ (a a' t t' : List UInt8), c ∉ a → c ∉ a' → a ++ c :: t = a' ++ c :: t' → a = a' := by
      intro a
      induction a with
      | nil =>
        intro a' t t' _ h2 e
        cases a' with
        | nil => rfl
        | cons x r => simp at e h2; exact absurd e.1 h2.1
      | cons b a ih =>
        intro a' t t' h1 h2 e
        cases a' with
        | nil => simp at e h1; exact absurd e.1.symm h1.1
        | cons x r =>
          simp at e h1 h2
          rw [e.1, ih r t t' h1.2 h2.2 e.2]
    have ha := key a a' t t' h h2 e
    subst ha
    have h3' : (Lib.index (a ++ c :: t) [c]).toNat = a.length := by omega
    rw [Lib.cut, if_pos (by omega), h3']
    simp
theorem cut_has {c : UInt8} {l : List UInt8} (h : (Lib.cut l [c]).2.2 = true) : c ∉ (Lib.cut l [c]).1 ∧ l = (Lib.cut l [c]).1 ++ c :: (Lib.cut l [c]).2.1 := by
  rcases index_piece c l with ⟨h1, _⟩ | ⟨a, t, rfl, h2, _⟩
  · rw [cut_none h1] at h; cases h
  · rw [cut_some h2]; exact ⟨h2, rfl⟩
theorem cut_hasnt {c : UInt8} {l : List UInt8} (h : (Lib.cut l [c]).2.2 = false) : c ∉ l ∧ (Lib.cut l [c]).1 = l ∧ (Lib.cut l [c]).2.1 = [] := by
  rcases index_piece c l with ⟨h1, _⟩ | ⟨a, t, rfl, h2, _⟩
  · rw [cut_none h1]; exact ⟨h1, rfl, rfl⟩
  · rw [cut_some h2] at h; cases h
theorem splitK_pieces (c : UInt8) : ∀ (n : Nat) (l : List UInt8), l.length ≤ n → Lib.splitK [c] 0 (Lib.count l [c]) l = piecesL c l := by
  intro n
  induction n with
  | zero =>
    intro l h
    have : l = [] := List.eq_nil_of_length_eq_zero (by omega)
    subst this
    rw [Lib.count_miss (by simp [Lib.index])]
    rfl
  | succ n ih =>
    intro l h
    rcases index_piece c l with ⟨h1, h2⟩ | ⟨a, t, rfl, h2, h3⟩
    · rw [Lib.count_miss h2, pieces_none h1]; rfl
    · rw [Lib.count_hit (by simp) h3, pieces_app h2, Nat.add_comm, Lib.splitK, if_neg (by rw [h3, beq_iff_eq]; omega), h3]
      have e1 : ((a.length : Int).toNat) = a.length := by omega
      have e2 : (a ++ c :: t).drop (a.length + [c].length) = t := by simp
      have e3 : (a ++ c :: t).take (a.length + 0) = a := by simp
      rw [e1, e2, e3, ih t (by simp at h; omega)]
theorem pieces_ne (c : UInt8) (l : List UInt8) : piecesL c l ≠ [] := by
  cases l with
  | nil => simp [piecesL]
  | cons b l =>
    rw [piecesL]
    split
    · simp
    · split <;> simp
theorem pieces_mem {c : UInt8} {l x : List UInt8} (h : x ∈ piecesL c l) : c ∉ x := by
  induction l generalizing x with
  | nil => simp [piecesL] at h; simp [h]
  | cons b l ih =>
    rw [piecesL] at h
    split at h
    · rcases List.mem_cons.1 h with rfl | h
      · simp
      · exact ih h
    · rename_i hb
      split at h
      · rename_i hp; exact absurd hp (pieces_ne c l)
      · rename_i y r hp
        rcases List.mem_cons.1 h with rfl | h
        · simp only [List.mem_cons, not_or]
          exact ⟨Ne.symm hb, ih (by rw [hp]; simp)⟩
        · exact ih (by rw [hp]; simp [h])
theorem pieces_join (c : UInt8) (l : List UInt8) : Lib.join (piecesL c l) [c] = l := by
  induction l with
  | nil => simp [piecesL, Lib.join]
  | cons b l ih =>
    rw [piecesL]
    cases hp : piecesL c l with
    | nil => exact absurd hp (pieces_ne c l)
    | cons x r =>
      rw [hp] at ih
      rw [Lib.join_cons] at ih
      split
      · rename_i hb
        subst hb
        rw [Lib.join_cons]
        rw [← ih]
        simp [Lib.joinTail]
      · rw [Lib.join_cons, ← ih]
        simp
theorem join_pieces {c : UInt8} : ∀ {ws : List (List UInt8)}, ws ≠ [] → (∀ x ∈ ws, c ∉ x) → piecesL c (Lib.join ws [c]) = ws
  | [], h, _ => absurd rfl h
  | [x], _, h => by
    have : Lib.join [x] [c] = x := by simp [Lib.join_cons, Lib.joinTail]
    rw [this, pieces_none (h x (by simp))]
  | x :: y :: r, _, h => by
    have e : Lib.join (x :: y :: r) [c] = x ++ c :: Lib.join (y :: r) [c] := by
      rw [Lib.join_cons, Lib.join_cons]; simp [Lib.joinTail]
    rw [e, pieces_app (h x (by simp)), join_pieces (by simp) (fun z hz => h z (by simp only [List.mem_cons] at hz ⊢; exact .inr hz))]

/-! ### Words of a line -/
def wordsOf (s : ByteArray) : List ByteArray := Lib.splitB ⟨#[32]⟩ 0 (Lib.countB s ⟨#[32]⟩) s
theorem wordsOf_data (s : ByteArray) : (wordsOf s).map (·.data.toList) = piecesL 32 s.data.toList := by
  rw [wordsOf, Lib.splitB_data]
  exact splitK_pieces 32 _ _ (Nat.le_refl _)
theorem wordsOf_length (s : ByteArray) : (wordsOf s).length = Lib.countB s ⟨#[32]⟩ + 1 := Lib.splitB_all _ (by decide) 0 _ _ rfl
theorem wordsOf_size {s x : ByteArray} (h : x ∈ wordsOf s) : x.size ≤ s.size := splitB_size h
theorem wordsOf_count (s : ByteArray) : (wordsOf s).length ≤ s.size + 1 := by
  rw [wordsOf_length]
  have := Lib.countB_le ⟨#[32]⟩ (by decide) s.size s (Nat.le_refl _)
  omega
def noneEmpty (l : List ByteArray) : Bool := !(l.any fun x => x.data.toList.isEmpty)

/-! ### Lines of a text -/
def restB (T : ByteArray) (p : Nat) : ByteArray := T.extract p T.size
theorem restB_data (T : ByteArray) (p : Nat) : (restB T p).data.toList = T.data.toList.drop p := by
  rw [restB, Lib.extract_data]
  exact List.take_of_length_le (by simp)
def lineB (T : ByteArray) (p : Nat) : ByteArray := ⟨(Lib.cut (restB T p).data.toList [10]).1.toArray⟩
def hasLine (T : ByteArray) (p : Nat) : Bool := (Lib.cut (restB T p).data.toList [10]).2.2
/-- the words of the line at a place, and the place behind it; none: the line has no end, or an empty word -/
def rowS (T : ByteArray) (p : Nat) : Option (List ByteArray × Nat) :=
  if (hasLine T p && noneEmpty (wordsOf (lineB T p))) = true then some (wordsOf (lineB T p), p + (lineB T p).size + 1) else none
theorem line_size {T : ByteArray} {p : Nat} (h : hasLine T p = true) : p + (lineB T p).size + 1 ≤ T.size := by
  have h1 := (cut_has h).2
  rw [restB_data] at h1
  have h2 := congrArg List.length h1
  have e : T.data.toList.length = T.size := by simp
  rw [List.length_drop, List.length_append, List.length_cons, e] at h2
  have e3 : (lineB T p).size = (Lib.cut (restB T p).data.toList [10]).1.length := by simp [lineB, ByteArray.size]
  rw [e3, restB_data]
  omega
theorem line_le (T : ByteArray) (p : Nat) : (lineB T p).size ≤ T.size := by
  cases h : hasLine T p
  · have h1 := (cut_hasnt h).2.1
    have e3 : (lineB T p).size = (Lib.cut (restB T p).data.toList [10]).1.length := by simp [lineB, ByteArray.size]
    rw [e3, h1, restB_data]
    simp
  · have := line_size h; omega
theorem row_place {T : ByteArray} {p q : Nat} {l : List ByteArray} (h : rowS T p = some (l, q)) : p < q ∧ q ≤ T.size := by
  rw [rowS] at h
  split at h
  · rename_i hh
    simp only [Option.some.injEq, Prod.mk.injEq] at h
    have := line_size (Bool.and_eq_true_iff.1 hh).1
    omega
  · cases h
/-- the words behind the first one, if this is the word and there are so many -/
def lineIs (T : ByteArray) (p : Nat) (word : List UInt8) (many : Nat) : Option (List ByteArray × Nat) :=
  match rowS T p with
  | some (w :: ws, q) => if (w.data.toList == word && ws.length + 1 == many) = true then some (ws, q) else none
  | _ => none
theorem lineIs_some {T : ByteArray} {p q many : Nat} {word : List UInt8} {ws : List ByteArray} (h : lineIs T p word many = some (ws, q)) :
    ∃ w, rowS T p = some (w :: ws, q) ∧ w.data.toList = word ∧ ws.length + 1 = many := by
  rw [lineIs] at h
  split at h
  · rename_i w l q' hr
    split at h
    · rename_i hc
      simp only [Bool.and_eq_true, beq_iff_eq] at hc
      simp only [Option.some.injEq, Prod.mk.injEq] at h
      obtain ⟨rfl, rfl⟩ := h
      exact ⟨w, hr, hc.1, hc.2⟩
    · cases h
  · cases h
theorem lineIs_of {T : ByteArray} {p q many : Nat} {word : List UInt8} {w : ByteArray} {ws : List ByteArray} (h : rowS T p = some (w :: ws, q)) (h1 : w.data.toList = word) (h2 : ws.length + 1 = many) : lineIs T p word many = some (ws, q) := by
  rw [lineIs, h]
  simp [h1, h2]

/-! ### Numbers read and written -/
theorem decFrom_append (l m : List UInt8) : ∀ acc, Lib.decFrom acc (l ++ m) = (Lib.decFrom acc l).bind fun n => Lib.decFrom n m := by
  induction l with
  | nil => intro acc; rfl
  | cons b l ih =>
    intro acc
    rw [List.cons_append, Lib.decFrom, Lib.decFrom]
    cases Lib.digitVal b with
    | none => rfl
    | some d => exact ih _
theorem digit_val (d : Nat) (h : d < 10) : Lib.digitVal (UInt8.ofNat (48 + d)) = some d := by
  have e : (UInt8.ofNat (48 + d)).toNat = 48 + d := by rw [UInt8.toNat_ofNat']; omega
  rw [Lib.digitVal, e, if_pos (by omega)]
  congr 1; omega
theorem digits_val : ∀ u : Nat, Lib.decFrom 0 (Lib.decDigits u) = some u := by
  intro u
  induction u using Nat.strongRecOn with
  | _ u ih =>
    rw [Lib.decDigits]
    split
    · rename_i h
      rw [Lib.decFrom, digit_val u h]
      simp [Lib.decFrom]
    · rename_i h
      rw [decFrom_append, ih (u / 10) (by omega)]
      rw [Option.bind_some, Lib.decFrom, digit_val _ (Nat.mod_lt _ (by decide))]
      simp only [Lib.decFrom, Option.some.injEq]
      omega
theorem digits_all : ∀ u : Nat, (Lib.decDigits u).all digitB = true := by
  intro u
  have hd : ∀ d, d < 10 → digitB (UInt8.ofNat (48 + d)) = true := by
    intro d hd
    have e : (UInt8.ofNat (48 + d)).toNat = 48 + d := by rw [UInt8.toNat_ofNat']; omega
    rw [digitB, e, digitI]
    simp only [Bool.and_eq_true, decide_eq_true_eq]
    omega
  induction u using Nat.strongRecOn with
  | _ u ih =>
    rw [Lib.decDigits]
    split
    · rename_i h
      rw [List.all_cons, hd u h]; rfl
    · rename_i h
      rw [List.all_append, ih (u / 10) (by omega), List.all_cons, hd _ (Nat.mod_lt u (by decide : 0 < 10))]
      rfl
theorem digits_ne (u : Nat) : Lib.decDigits u ≠ [] := by
  rw [Lib.decDigits]
  split <;> simp
theorem digits_head : ∀ u : Nat, 0 < u → (Lib.decDigits u).head? ≠ some 48 := by
  intro u
  induction u using Nat.strongRecOn with
  | _ u ih =>
    intro h0
    rw [Lib.decDigits]
    split
    · rename_i h
      simp only [List.head?_cons, ne_eq, Option.some.injEq]
      intro e
      have e1 := congrArg UInt8.toNat e
      rw [UInt8.toNat_ofNat'] at e1
      have : (48 : UInt8).toNat = 48 := rfl
      omega
    · rename_i h
      have := ih (u / 10) (by omega) (by omega)
      cases hl : Lib.decDigits (u / 10) with
      | nil => exact absurd hl (digits_ne _)
      | cons a l => rw [hl] at this; simpa using this
theorem digits_lead (u : Nat) : leadOk (Lib.decDigits u) = true := by
  by_cases h : u = 0
  · subst h
    have : Lib.decDigits 0 = [48] := by rw [Lib.decDigits, dif_pos (by decide)]; rfl
    rw [this]; rfl
  · have h1 := digits_head u (by omega)
    rw [leadOk]
    have : ((Lib.decDigits u).head? == some 48) = false := by simpa using h1
    rw [this]; rfl
/-- digits without a zero ahead are the text of their number -/
theorem digits_unique : ∀ (n : Nat) (l : List UInt8), l.length ≤ n → l ≠ [] → l.all digitB = true → leadOk l = true → ∀ u, Lib.decFrom 0 l = some u → Lib.decDigits u = l := by
  intro n
  induction n with
  | zero => intro l h hne; exact absurd (List.eq_nil_of_length_eq_zero (by omega)) hne
  | succ n ih =>
    intro l h hne hd hl u hu
    rcases List.eq_nil_or_concat l with rfl | ⟨m, b, rfl⟩
    · exact absurd rfl hne
    · rw [List.concat_eq_append] at *
      rw [List.all_append, Bool.and_eq_true] at hd
      have hb : 48 ≤ b.toNat ∧ b.toNat ≤ 57 := by
        have := hd.2
        simp [digitB, digitI] at this
        omega
      have hbo : UInt8.ofNat (48 + (b.toNat - 48)) = b := by
        apply UInt8.toNat_inj.1
        rw [UInt8.toNat_ofNat']
        omega
      have hv : Lib.digitVal b = some (b.toNat - 48) := by rw [Lib.digitVal, if_pos hb]
      rw [decFrom_append] at hu
      cases m with
      | nil =>
        rw [Lib.decFrom, Option.bind_some, Lib.decFrom, hv] at hu
        simp only [Lib.decFrom, Option.some.injEq] at hu
        rw [Lib.decDigits, dif_pos (by omega), ← hu]
        simp only [Nat.zero_mul, Nat.zero_add, hbo, List.nil_append]
      | cons a m =>
        obtain ⟨k, hk, _⟩ := decFrom_some (a :: m) 0 hd.1
        rw [hk, Option.bind_some, Lib.decFrom, hv] at hu
        simp only [Lib.decFrom, Option.some.injEq] at hu
        have hlead : leadOk (a :: m) = true ∧ a ≠ 48 := by
          have ha : a ≠ 48 := by
            intro e
            subst e
            rw [leadOk] at hl
            have h1 : ((48 :: m ++ [b]).head? == some (48 : UInt8)) = true := by simp
            have h2 : ((48 :: m ++ [b]) == [48]) = false := by simp
            rw [h1, h2] at hl
            cases hl
          refine ⟨?_, ha⟩
          rw [leadOk]
          have : ((a :: m).head? == some (48 : UInt8)) = false := by simpa using ha
          rw [this]; rfl
        have hdig := ih (a :: m) (by simp at h ⊢; omega) (by simp) hd.1 hlead.1 k hk
        have hk0 : 0 < k := by
          rcases Nat.eq_zero_or_pos k with h0 | h0
          · subst h0
            have e0 : Lib.decDigits 0 = [48] := by rw [Lib.decDigits, dif_pos (by decide)]; rfl
            rw [e0] at hdig
            simp at hdig
            exact absurd hdig.1.symm hlead.2
          · exact h0
        have e1 : u / 10 = k := by omega
        have e2 : u % 10 = b.toNat - 48 := by omega
        rw [Lib.decDigits, dif_neg (by omega), e1, e2, hdig, hbo]
theorem number_text {s : ByteArray} {m : Int} (h : isNumberS s m = true) : Lib.itoa (numS s : Nat) = s.data.toList := by
  have h1 := (number_some h).1
  have h2 := (number_some h).2.2.2
  have hne : s.data.toList ≠ [] := by
    intro e
    have := congrArg List.length e
    simp at this
    have : s.size = 0 := by simp [ByteArray.size, this]
    omega
  rw [Lib.itoa, if_neg (by omega)]
  simp only [isNumberS, Bool.and_eq_true] at h
  have h3 : Lib.decFrom 0 s.data.toList = some (numS s) := by
    rw [Lib.decNat] at h1
    split at h1
    · cases h1
    · exact h1
  have e : ((numS s : Nat) : Int).toNat = numS s := by omega
  rw [e]
  exact digits_unique _ _ (Nat.le_refl _) hne h.1.2 h.2 _ h3
theorem text_number {s : ByteArray} {n k : Nat} (h : s.data.toList = Lib.itoa (n : Int)) (hk : n < 10 ^ k) (h1 : 1 ≤ k) : isNumberS s k = true ∧ numS s = n := by
  have e : ((n : Nat) : Int).toNat = n := by omega
  rw [Lib.itoa, if_neg (by omega), e] at h
  have hs : s.size = Lib.nDigits n := by rw [← Lib.decDigits_length, ← h]; simp
  have hd : Lib.nDigits n ≤ k := by
    rcases Nat.lt_or_ge k (Lib.nDigits n) with hlt | hge
    · exfalso
      have key : ∀ u, 0 < u → 10 ^ (Lib.nDigits u - 1) ≤ u := by
        intro u
        induction u using Nat.strongRecOn with
        | _ u ih =>
          intro h0
          rw [Lib.nDigits]
          split
          · show 1 ≤ u; exact h0
          · have h3 := ih (u / 10) (by omega) (by omega)
            have h4 := Lib.nDigits_pos (u / 10)
            have e5 : Lib.nDigits (u / 10) + 1 - 1 = (Lib.nDigits (u / 10) - 1) + 1 := by omega
            rw [e5, Nat.pow_succ]
            omega
      rcases Nat.eq_zero_or_pos n with h0 | h0
      · subst h0
        rw [Lib.nDigits, dif_pos (by decide)] at hlt
        omega
      · have h3 := key n h0
        have h4 : 10 ^ k ≤ 10 ^ (Lib.nDigits n - 1) := Nat.pow_le_pow_right (by decide) (by omega)
        omega
    · exact hge
  have hp := Lib.nDigits_pos n
  refine ⟨?_, ?_⟩
  · rw [isNumberS, h, digits_all, digits_lead]
    simp [withinB]; omega
  · rw [numS, h, Lib.decNat, if_neg (by simpa using digits_ne n), digits_val]; rfl
end Go.Proofs.Sm

namespace Go.Proofs.Sm
open Go.RowKit

def codeW : List UInt8 := [99, 111, 100, 101]
def textW : List UInt8 := [116, 101, 120, 116]
def fileW : List UInt8 := [102, 105, 108, 101]
def lookW : List UInt8 := [108, 111, 111, 107]
def isX (s : ByteArray) : Bool := s.data.toList == [120]
def isRunS (s : ByteArray) : Bool := isX s || s.data.toList == [45]
def undash (s : ByteArray) : ByteArray := if s.data.toList == [45] then ⟨#[]⟩ else s
structure RSt where
  pos : Nat
  files : List FileV
  looks : List Look
def lookStep (T : ByteArray) (st : RSt) : Except Nat RSt := match lineIs T st.pos lookW 4 with
  | some ([a, b, c], q) => if isRunS c = true then .ok ⟨q, st.files, st.looks ++ [⟨a, undash b, isX c⟩]⟩ else .error st.pos
  | _ => .error st.pos
def fileBody (T : ByteArray) (st : RSt) (a b : ByteArray) (n q : Nat) : Except Nat RSt :=
  if T.size < q + n then .error T.size else if T.data.toList[q + n]? = some 10 then .ok ⟨q + n + 1, st.files ++ [⟨a, isX b, (T.data.toList.drop q).take n⟩], st.looks⟩ else .error (q + n)
def fileStep (T : ByteArray) (st : RSt) : Except Nat RSt := match lineIs T st.pos fileW 4 with
  | some ([a, b, c], q) => if (isRunS b && isNumberS c 9) = true then fileBody T st a b (numS c) q else .error st.pos
  | _ => .error st.pos
def stepS (T : ByteArray) (st : RSt) : Except Nat RSt := if ((lineIs T st.pos fileW 4).isSome && st.looks.isEmpty) = true then fileStep T st else lookStep T st
def loopS (T : ByteArray) : Nat → RSt → Except Nat RSt
  | 0, st => .ok st
  | n + 1, st => if T.size ≤ st.pos then .ok st else match stepS T st with
    | .error p => .error p
    | .ok st' => loopS T n st'
def runS (T : ByteArray) (st : RSt) : Except Nat RSt := loopS T (T.size - st.pos) st
def textS (T : ByteArray) (c d q : Nat) : Except Nat (Nat × Nat × ByteArray × Nat) := match lineIs T q textW 2 with
  | some ([a], q') => if isNumberS a 9 = true then (if T.size < q' + numS a then .error T.size else .ok (c, d, T.extract q' (q' + numS a), q' + numS a)) else .error q
  | _ => .error q
def topS (T : ByteArray) : Except Nat (Nat × Nat × ByteArray × Nat) := match lineIs T 0 codeW 3 with
  | some ([a, b], q) => if (isNumberS a 9 && isNumberS b 9) = true then textS T (numS a) (numS b) q else .error 0
  | _ => .error 0
def readB (T : ByteArray) : Except Nat ResultV := match topS T with
  | .error p => .error p
  | .ok (c, d, t, p) => match runS T ⟨p, [], []⟩ with
    | .error p => .error p
    | .ok st => .ok ⟨(c : Nat), t, st.files, st.looks, (d : Nat)⟩
def noResult : ResultV := ⟨0, ⟨#[]⟩, [], [], 0⟩
/-- what ReadResult answers -/
def readResS (T : ByteArray) : ResultV × Int × Int :=
  if 4000000 < (T.size : Int) then (noResult, 0, 2) else match readB T with
    | .error p => (noResult, (p : Nat), 10)
    | .ok r => if checkResultS r = 0 then (r, 0, 0) else (noResult, 0, checkResultS r)

/-! ### The loop -/
theorem look_place {T : ByteArray} {st st' : RSt} (h : lookStep T st = .ok st') : st.pos < st'.pos ∧ st'.pos ≤ T.size := by
  rw [lookStep] at h
  split at h
  · rename_i a b c q hl
    obtain ⟨w, hr, _⟩ := lineIs_some hl
    have := row_place hr
    split at h
    · cases h; exact this
    · cases h
  · cases h
theorem file_place {T : ByteArray} {st st' : RSt} (h : fileStep T st = .ok st') : st.pos < st'.pos ∧ st'.pos ≤ T.size := by
  rw [fileStep] at h
  split at h
  · rename_i a b c q hl
    obtain ⟨w, hr, _⟩ := lineIs_some hl
    have := row_place hr
    split at h
    · rw [fileBody] at h
      split at h
      · cases h
      · split at h
        · rename_i h1
          have h2 := (List.getElem?_eq_some_iff.1 h1).1
          have e : T.data.toList.length = T.size := by simp
          cases h
          show _ < q + numS c + 1 ∧ q + numS c + 1 ≤ _
          omega
        · cases h
    · cases h
  · cases h
theorem step_place {T : ByteArray} {st st' : RSt} (h : stepS T st = .ok st') : st.pos < st'.pos ∧ st'.pos ≤ T.size := by
  rw [stepS] at h
  split at h
  · exact file_place h
  · exact look_place h
theorem loop_fuel {T : ByteArray} : ∀ (n m : Nat) (st : RSt), T.size - st.pos ≤ n → T.size - st.pos ≤ m → loopS T n st = loopS T m st := by
  intro n
  induction n with
  | zero =>
    intro m st h1 h2
    cases m with
    | zero => rfl
    | succ m => rw [loopS, loopS, if_pos (by omega)]
  | succ n ih =>
    intro m st h1 h2
    cases m with
    | zero => rw [loopS, loopS, if_pos (by omega)]
    | succ m =>
      rw [loopS, loopS]
      split
      · rfl
      · split
        · rfl
        · rename_i st' hs
          have := step_place hs
          exact ih m st' (by omega) (by omega)
theorem run_end {T : ByteArray} {st : RSt} (h : T.size ≤ st.pos) : runS T st = .ok st := by
  rw [runS, show T.size - st.pos = 0 by omega, loopS]
theorem run_round {T : ByteArray} {st st' : RSt} (h : st.pos < T.size) (hs : stepS T st = .ok st') : runS T st = runS T st' := by
  have h1 := step_place hs
  rw [runS, show T.size - st.pos = (T.size - st.pos - 1) + 1 by omega, loopS, if_neg (by omega), hs, runS]
  exact loop_fuel _ _ _ (by omega) (by omega)
theorem run_stop {T : ByteArray} {st : RSt} {p : Nat} (h : st.pos < T.size) (hs : stepS T st = .error p) : runS T st = .error p := by
  rw [runS, show T.size - st.pos = (T.size - st.pos - 1) + 1 by omega, loopS, if_neg (by omega), hs]

/-! ### Two ways to tell the lines of files -/
def fileAt (T : ByteArray) (p : Nat) : Bool := Lib.hasPrefix (restB T p).data.toList [102, 105, 108, 101, 32]
theorem drop_cut {c : UInt8} {l a t : List UInt8} (h : l = a ++ c :: t) : l.drop (a.length + 1) = t := by
  subst h; simp
theorem row_text {T : ByteArray} {p q : Nat} {l : List ByteArray} (h : rowS T p = some (l, q)) :
    T.data.toList.drop p = Lib.join (l.map (·.data.toList)) [32] ++ 10 :: T.data.toList.drop q ∧ q = p + (Lib.join (l.map (·.data.toList)) [32]).length + 1 ∧ (∀ x ∈ l, x.data.toList ≠ []) ∧ l ≠ [] := by
  rw [rowS] at h
  split at h
  · rename_i hh
    obtain ⟨h1, h2⟩ := Bool.and_eq_true_iff.1 hh
    simp only [Option.some.injEq, Prod.mk.injEq] at h
    obtain ⟨rfl, rfl⟩ := h
    have h3 := cut_has h1
    have e1 : (lineB T p).data.toList = (Lib.cut (restB T p).data.toList [10]).1 := by simp [lineB]
    have e2 : (lineB T p).size = (Lib.cut (restB T p).data.toList [10]).1.length := by simp [lineB, ByteArray.size]
    have e3 : Lib.join ((wordsOf (lineB T p)).map (·.data.toList)) [32] = (Lib.cut (restB T p).data.toList [10]).1 := by rw [wordsOf_data, pieces_join, e1]
    rw [e3, ← e2]
    refine ⟨?_, rfl, ?_, ?_⟩
    · have h4 := h3.2
      rw [restB_data] at h4 ⊢
      have h5 : (T.data.toList.drop p).drop ((lineB T p).size + 1) = (Lib.cut (T.data.toList.drop p) [10]).2.1 := by
        rw [e2, restB_data]
        exact drop_cut h4
      rw [List.drop_drop] at h5
      rw [show p + (lineB T p).size + 1 = p + ((lineB T p).size + 1) by omega, h5]
      exact h4
    · intro x hx e
      rw [noneEmpty, Bool.not_eq_true', List.any_eq_false] at h2
      exact h2 x hx (by simp [e])
    · intro e
      have := wordsOf_length (lineB T p)
      rw [e] at this
      simp at this
  · cases h
theorem row_file {T : ByteArray} {p q : Nat} {w : ByteArray} {ws : List ByteArray} (h : rowS T p = some (w :: ws, q)) (hf : fileAt T p = true) : w.data.toList = fileW := by
  obtain ⟨h1, _, _, _⟩ := row_text h
  rw [fileAt, restB_data, Lib.hasPrefix, List.isPrefixOf_iff_prefix] at hf
  obtain ⟨t, ht⟩ := hf
  rw [h1, List.map_cons, Lib.join_cons] at ht
  have hw : 32 ∉ w.data.toList := by
    rw [rowS] at h
    split at h
    · simp only [Option.some.injEq, Prod.mk.injEq] at h
      have : w.data.toList ∈ piecesL 32 (lineB T p).data.toList := by
        rw [← wordsOf_data, h.1]; simp
      exact pieces_mem this
    · cases h
  have hnl : 10 ∉ w.data.toList := by
    rw [rowS] at h
    split at h
    · rename_i hh
      simp only [Option.some.injEq, Prod.mk.injEq] at h
      have h3 := (cut_has (Bool.and_eq_true_iff.1 hh).1).1
      have h4 : Lib.join ((w :: ws).map (·.data.toList)) [32] = (Lib.cut (restB T p).data.toList [10]).1 := by
        rw [← h.1, wordsOf_data, pieces_join]; simp [lineB]
      rw [← h4, List.map_cons, Lib.join_cons] at h3
      intro hm
      exact h3 (by simp [hm])
    · cases h
  have htail : ∃ c r, Lib.joinTail [32] (ws.map (·.data.toList)) ++ 10 :: T.data.toList.drop q = c :: r ∧ (c = 32 ∨ c = 10) := by
    cases ws with
    | nil => exact ⟨10, _, rfl, .inr rfl⟩
    | cons y r => exact ⟨32, y.data.toList ++ (Lib.joinTail [32] (r.map (·.data.toList)) ++ 10 :: T.data.toList.drop q), by simp [Lib.joinTail], .inl rfl⟩
  obtain ⟨c, r, hc, hc2⟩ := htail
  rw [List.append_assoc, hc] at ht
  have key : ∀ (a : List UInt8), 32 ∉ a → 10 ∉ a → [102, 105, 108, 101, 32] ++ t = a ++ c :: r → a = fileW := by
    intro a ha1 ha2 he
    have hlen : ∀ k, k < a.length → ∃ x, ([102, 105, 108, 101, 32] ++ t)[k]? = some x ∧ x ∈ a := by
      intro k hk
      refine ⟨a[k], ?_, List.getElem_mem hk⟩
      rw [he, List.getElem?_append_left hk, List.getElem?_eq_getElem hk]
    have hat : ([102, 105, 108, 101, 32] ++ t)[a.length]? = some c := by rw [he]; simp
    have h5 : a.length ≤ 4 := by
      rcases Nat.lt_or_ge 4 a.length with h4 | h4
      · obtain ⟨x, hx, hm⟩ := hlen 4 h4
        simp at hx
        subst hx
        exact absurd hm ha1
      · exact h4
    have h6 : a.length = 4 := by
      rcases Nat.lt_or_ge a.length 4 with h4 | h4
      · exfalso
        have : a.length = 0 ∨ a.length = 1 ∨ a.length = 2 ∨ a.length = 3 := by omega
        rcases this with h7 | h7 | h7 | h7 <;> rw [h7] at hat <;> simp at hat <;> subst hat <;> rcases hc2 with h8 | h8 <;> revert h8 <;> decide
      · omega
    have h7 := congrArg (List.take 4) he
    rw [List.take_append_of_le_length (by simp), List.take_append_of_le_length (by omega), List.take_of_length_le (by omega : a.length ≤ 4)] at h7
    rw [← h7]; rfl
  exact key _ hw hnl ht
theorem file_line {T : ByteArray} {p q : Nat} {ws : List ByteArray} (h : lineIs T p fileW 4 = some (ws, q)) : fileAt T p = true := by
  obtain ⟨w, hr, hw, hl⟩ := lineIs_some h
  obtain ⟨h1, _, _, _⟩ := row_text hr
  cases ws with
  | nil => simp at hl
  | cons y r =>
    rw [fileAt, restB_data, Lib.hasPrefix, List.isPrefixOf_iff_prefix, h1, List.map_cons, Lib.join_cons, hw]
    exact ⟨_, by simp [Lib.joinTail, fileW]; rfl⟩
/-- the first loop of the program -/
theorem step_file {T : ByteArray} {st : RSt} (h : fileAt T st.pos = true) (hl : st.looks = []) : stepS T st = fileStep T st := by
  rw [stepS]
  split
  · rfl
  · rename_i hn
    rw [hl] at hn
    have h0 : lineIs T st.pos fileW 4 = none := by
      cases he : lineIs T st.pos fileW 4 with
      | none => rfl
      | some x => rw [he] at hn; simp at hn
    have h1 : lineIs T st.pos lookW 4 = none := by
      cases he : lineIs T st.pos lookW 4 with
      | none => rfl
      | some x =>
        obtain ⟨ws, q⟩ := x
        obtain ⟨w, hr, hw, _⟩ := lineIs_some he
        have := row_file hr h
        rw [this] at hw
        exact absurd hw (by decide)
    rw [fileStep, lookStep, h0, h1]
/-- the second loop of the program -/
theorem step_look {T : ByteArray} {st : RSt} (h : fileAt T st.pos = false ∨ st.looks ≠ []) : stepS T st = lookStep T st := by
  rw [stepS, if_neg]
  intro hn
  obtain ⟨h1, h2⟩ := Bool.and_eq_true_iff.1 hn
  rcases h with h | h
  · obtain ⟨⟨ws, q⟩, hx⟩ := Option.isSome_iff_exists.1 h1
    rw [file_line hx] at h; cases h
  · exact h (List.isEmpty_iff.1 h2)
end Go.Proofs.Sm
