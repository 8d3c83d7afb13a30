/- Plain words: the order of strings; what is wrong with a list of files; binary search. -/
import Derived.Test.YtnhcaelapadhaaaGreatDoorPlain5
namespace Go.Proofs.Sm
open Go.RowKit

/-! ### The order of bytes -/
theorem bl_irrefl : ∀ a : List UInt8, Op.bytesLess a a = false
  | [] => rfl
  | c :: a => by simp [Op.bytesLess, bl_irrefl a]
theorem bl_trans : ∀ {a b c : List UInt8}, Op.bytesLess a b = true → Op.bytesLess b c = true → Op.bytesLess a c = true
  | _, [], _, h, _ => by simp [Op.bytesLess] at h
  | _, _ :: _, [], _, h => by simp [Op.bytesLess] at h
  | [], _ :: _, _ :: _, _, _ => rfl
  | x :: a, y :: b, z :: c, h1, h2 => by
    simp only [Op.bytesLess, Bool.or_eq_true, decide_eq_true_eq, Bool.and_eq_true, beq_iff_eq] at *
    rcases h1 with h1 | ⟨rfl, h1⟩
    · rcases h2 with h2 | ⟨rfl, h2⟩
      · exact .inl (UInt8.lt_trans h1 h2)
      · exact .inl h1
    · rcases h2 with h2 | ⟨rfl, h2⟩
      · exact .inl h2
      · exact .inr ⟨rfl, bl_trans h1 h2⟩
theorem bl_total : ∀ {a b : List UInt8}, Op.bytesLess a b = false → a ≠ b → Op.bytesLess b a = true
  | [], [], _, h => absurd rfl h
  | [], _ :: _, h, _ => by simp [Op.bytesLess] at h
  | _ :: _, [], _, _ => rfl
  | x :: a, y :: b, h, hne => by
    simp only [Op.bytesLess, Bool.or_eq_false_iff, decide_eq_false_iff_not, Bool.and_eq_false_iff, beq_eq_false_iff_ne, Bool.or_eq_true, decide_eq_true_eq, Bool.and_eq_true, beq_iff_eq] at *
    obtain ⟨h1, h2⟩ := h
    by_cases hxy : x = y
    · subst hxy
      refine .inr ⟨rfl, bl_total (h2.resolve_left (fun h => h rfl)) (fun e => hne (by rw [e]))⟩
    · left
      rcases UInt8.lt_or_lt_of_ne hxy with h | h
      · exact absurd h h1
      · exact h
theorem leS_lt {a b : ByteArray} (h : leS a b = false) : ltS b a = true := by
  simp only [leS, Bool.or_eq_false_iff, beq_eq_false_iff_ne] at h
  exact bl_total h.1 h.2

/-! ### Files -/
def fileErr (prev : Option ByteArray) (x : FileV) : Int :=
  if isPathS x.path = false then 3 else if 100000 < (x.bytes.length : Int) then 2 else if notAfter prev x.path then 8 else 0
def filesErr : Option ByteArray → List FileV → Int
  | _, [] => 0
  | prev, x :: r => if fileErr prev x = 0 then filesErr (some x.path) r else fileErr prev x
def hasPath (l : List FileV) (p : List UInt8) : Bool := l.any fun y => y.path.data.toList == p
/-- a path lies within that of one of the files: from byte i on -/
def clashFrom (l : List FileV) (p : ByteArray) : Nat → Nat → Bool
  | 0, _ => false
  | n + 1, i => (decide (p.data.toList[i]? = some 47) && hasPath l (p.data.toList.take i)) || clashFrom l p n (i + 1)
theorem clash_yes {l : List FileV} {p : ByteArray} {k : Nat} (hk : k < p.size) (h : (p[k].toNat : Int) = 47) (hh : hasPath l (p.data.toList.take k) = true) : clashFrom l p (p.size - k) k = true := by
  rw [show p.size - k = (p.size - (k + 1)) + 1 by omega, clashFrom, hh]
  have e : p.data.toList[k]? = some 47 := by
    have e1 : p.data.toList[k]? = some p[k] := by
      rw [Array.getElem?_toList]
      exact Array.getElem?_eq_getElem hk
    rw [e1]
    congr 1
    apply UInt8.toNat_inj.1
    have : (47 : UInt8).toNat = 47 := rfl
    omega
  simp [e]
theorem clash_slash {l : List FileV} {p : ByteArray} {k : Nat} (hk : k < p.size) (hh : hasPath l (p.data.toList.take k) = false) : clashFrom l p (p.size - k) k = clashFrom l p (p.size - (k + 1)) (k + 1) := by
  rw [show p.size - k = (p.size - (k + 1)) + 1 by omega, clashFrom, hh]
  simp
theorem clash_other {l : List FileV} {p : ByteArray} {k : Nat} (hk : k < p.size) (h : (p[k].toNat : Int) ≠ 47) : clashFrom l p (p.size - k) k = clashFrom l p (p.size - (k + 1)) (k + 1) := by
  rw [show p.size - k = (p.size - (k + 1)) + 1 by omega, clashFrom]
  have e : ¬ p.data.toList[k]? = some 47 := by
    have e1 : p.data.toList[k]? = some p[k] := by
      rw [Array.getElem?_toList]
      exact Array.getElem?_eq_getElem hk
    rw [e1]
    intro e2
    have e3 : p[k] = 47 := by simpa using e2
    rw [e3] at h
    exact h rfl
  rw [decide_eq_false e]
  simp
def clashS (l : List FileV) (p : ByteArray) : Bool := clashFrom l p p.size 0
def totalS (l : List FileV) : Nat := (l.map fun x => x.bytes.length).sum
def checkFilesS (l : List FileV) : Int :=
  if 1000 < (l.length : Int) then 2 else if filesErr none l ≠ 0 then filesErr none l else if l.any (fun x => clashS l x.path) then 12 else if 2000000 < (totalS l : Int) then 2 else 0
theorem files_round {l : List FileV} {k : Nat} {x : FileV} (hx : l[k]? = some x) (h : fileErr (ahead FileV.path l k) x = 0) :
    filesErr (ahead FileV.path l k) (l.drop k) = filesErr (ahead FileV.path l (k + 1)) (l.drop (k + 1)) := by
  rw [drop_at hx, filesErr, if_pos h, ahead_succ hx]
theorem files_stop {l : List FileV} {k : Nat} {x : FileV} {e : Int} (hx : l[k]? = some x) (h : fileErr (ahead FileV.path l k) x = e) (he : e ≠ 0) :
    filesErr (ahead FileV.path l k) (l.drop k) = e := by
  rw [drop_at hx, filesErr, if_neg (by rw [h]; exact he), h]
section
variable {prev : Option ByteArray} {x : FileV}
theorem fileErr_path (hp : isPathS x.path = false) : fileErr prev x = 3 := by simp [fileErr, hp]
theorem fileErr_large (hp : isPathS x.path = true) (h : (100000 : Int) < x.bytes.length) : fileErr prev x = 2 := by simp only [fileErr, hp, if_pos h]; rfl
theorem fileErr_rest (hp : isPathS x.path = true) (h : ¬ (100000 : Int) < x.bytes.length) : fileErr prev x = if notAfter prev x.path then 8 else 0 := by simp only [fileErr, hp, if_neg h]; rfl
end
theorem total_succ {l : List FileV} {k : Nat} {x : FileV} (hx : l[k]? = some x) : totalS (l.take (k + 1)) = totalS (l.take k) + x.bytes.length := by
  unfold totalS
  rw [List.take_add_one, hx, List.map_append, List.sum_append]
  simp
theorem total_le {l : List FileV} {m : Nat} (h : ∀ x ∈ l, x.bytes.length ≤ m) : totalS l ≤ m * l.length := by
  induction l with
  | nil => simp [totalS]
  | cons x l ih =>
    have h1 := h x (by simp)
    have h2 := ih (fun y hy => h y (by simp [hy]))
    unfold totalS at *
    simp only [List.map_cons, List.sum_cons, List.length_cons, Nat.mul_succ]
    omega
theorem hasPath_succ {l : List FileV} {k : Nat} {x : FileV} (hx : l[k]? = some x) (p : List UInt8) : hasPath (l.take (k + 1)) p = (hasPath (l.take k) p || x.path.data.toList == p) := by
  unfold hasPath
  rw [List.take_add_one, hx, List.any_append]
  simp

/-- in increasing order -/
def Sorted (l : List FileV) : Prop := ∀ (i j : Nat) (x y : FileV), i < j → l[i]? = some x → l[j]? = some y → ltS x.path y.path = true
theorem filesErr_step {l : List FileV} : ∀ (prev : Option ByteArray), filesErr prev l = 0 → ∀ i x, l[i]? = some x → (if i = 0 then notAfter prev x.path = false else ∀ y, l[i - 1]? = some y → ltS y.path x.path = true) ∧ isPathS x.path = true ∧ x.bytes.length ≤ 100000 := by
  induction l with
  | nil => intro _ _ i x hx; simp at hx
  | cons a l ih =>
    intro prev h i x hx
    rw [filesErr] at h
    split at h
    · rename_i h0
      cases i with
      | zero =>
        obtain rfl : a = x := by simpa using hx
        simp only [fileErr] at h0
        split at h0
        · omega
        · split at h0
          · omega
          · split at h0
            · omega
            · rename_i h1 h2 h3
              refine ⟨by simpa using h3, by simpa using h1, by omega⟩
      | succ i =>
        have hx' : l[i]? = some x := by simpa using hx
        obtain ⟨h1, h2⟩ := ih _ h i x hx'
        refine ⟨?_, h2⟩
        simp only [Nat.add_one_ne_zero, if_false]
        intro y hy
        cases i with
        | zero =>
          obtain rfl : a = y := by simpa using hy
          simp only [if_true, notAfter] at h1
          exact leS_lt h1
        | succ i =>
          simp only [Nat.add_one_ne_zero, if_false] at h1
          exact h1 y (by simpa using hy)
    · exact absurd h ‹_›
theorem sorted_of {l : List FileV} (h : filesErr none l = 0) : Sorted l := by
  have key : ∀ d i x y, l[i]? = some x → l[i + d + 1]? = some y → ltS x.path y.path = true := by
    intro d
    induction d with
    | zero =>
      intro i x y hx hy
      have := (filesErr_step none h (i + 1) y (by simpa using hy)).1
      simp only [Nat.add_one_ne_zero, if_false] at this
      exact this x (by simpa using hx)
    | succ d ih =>
      intro i x y hx hy
      obtain ⟨z, hz⟩ : ∃ z, l[i + d + 1]? = some z := by
        have := (List.getElem?_eq_some_iff.1 hy).1
        exact ⟨l[i + d + 1]'(by omega), List.getElem?_eq_getElem _⟩
      have h1 := ih i x z hx hz
      have := (filesErr_step none h (i + d + 1 + 1) y hy).1
      simp only [Nat.add_one_ne_zero, if_false] at this
      exact bl_trans h1 (this z (by simpa using hz))
  intro i j x y hij hx hy
  exact key (j - i - 1) i x y hx (by rw [show i + (j - i - 1) + 1 = j by omega]; exact hy)
end Go.Proofs.Sm
