/- Plain words: files, looks, and what is wrong with a list of them. -/
import Derived.Test.YtnhcaelapadhaaaGreatDoorPlain4
namespace Go.Proofs.Sm
open Go.RowKit

structure Look where
  path : ByteArray
  digest : ByteArray
  run : Bool
structure FileV where
  path : ByteArray
  run : Bool
  bytes : List UInt8

instance : Rep Look where
  sz := 3
  rep _ _ x vs := vs = [.string x.path, .string x.digest, .bool x.run] ∧ x.path.size ≤ maxLen ∧ x.digest.size ≤ maxLen
  len h := by rw [h.1]; rfl
  keep _ h := h
  more _ h := h
instance : Rep FileV where
  sz := 3
  rep w S x vs := x.path.size ≤ maxLen ∧ ∃ A n c, vs = [.string x.path, .bool x.run, .slice A n c] ∧ n ≤ c ∧ c ≤ maxLen ∧ Sl w S A n x.bytes
  len h := by obtain ⟨_, A, n, c, rfl, _⟩ := h; rfl
  keep hk h := by obtain ⟨h0, A, n, c, e, h1, h2, h3⟩ := h; exact ⟨h0, A, n, c, e, h1, h2, h3.keep hk⟩
  more hs h := by obtain ⟨h0, A, n, c, e, h1, h2, h3⟩ := h; exact ⟨h0, A, n, c, e, h1, h2, h3.more hs⟩

section
variable {w : World} {S : Nat → Prop} {A : Option Addr} {n k : Nat}
theorem Sl.look {l : List Look} (h : Sl w S A n l) (hk : k < n) :
    ∃ b o x, A = some ⟨b, o, none⟩ ∧ S b ∧ l[k]? = some x ∧ x.path.size ≤ maxLen ∧ x.digest.size ≤ maxLen ∧
      w.cell? ⟨b, o + k * 3, none⟩ = some (.string x.path) ∧ w.cell? ⟨b, o + k * 3 + 1, none⟩ = some (.string x.digest) ∧ w.cell? ⟨b, o + k * 3 + 2, none⟩ = some (.bool x.run) := by
  have hk' : k < l.length := by rw [h.1]; exact hk
  obtain ⟨b, o, vs, e, hb, ⟨rfl, h1, h2⟩, ha⟩ := h.at hk'
  exact ⟨b, o, _, e, hb, List.getElem?_eq_getElem hk', h1, h2, ha 0 _ rfl, ha 1 _ rfl, ha 2 _ rfl⟩
theorem Sl.file {l : List FileV} (h : Sl w S A n l) (hk : k < n) :
    ∃ b o x A' n' c', A = some ⟨b, o, none⟩ ∧ S b ∧ l[k]? = some x ∧ x.path.size ≤ maxLen ∧ n' ≤ c' ∧ c' ≤ maxLen ∧ Sl w S A' n' x.bytes ∧
      w.cell? ⟨b, o + k * 3, none⟩ = some (.string x.path) ∧ w.cell? ⟨b, o + k * 3 + 1, none⟩ = some (.bool x.run) ∧ w.cell? ⟨b, o + k * 3 + 2, none⟩ = some (.slice A' n' c') := by
  have hk' : k < l.length := by rw [h.1]; exact hk
  obtain ⟨b, o, vs, e, hb, ⟨h1, A', n', c', rfl, h2, h3, h4⟩, ha⟩ := h.at hk'
  exact ⟨b, o, _, A', n', c', e, hb, List.getElem?_eq_getElem hk', h1, h2, h3, h4, ha 0 _ rfl, ha 1 _ rfl, ha 2 _ rfl⟩
end

/-- 'a <= b' on strings, as the walk spells it -/
def leS (a b : ByteArray) : Bool := Op.bytesLess a.toList b.toList || a.toList == b.toList
def ltS (a b : ByteArray) : Bool := Op.bytesLess a.toList b.toList
theorem leS_false {a b : ByteArray} (h : leS a b = false) : (Op.bytesLess a.toList b.toList || a.toList == b.toList) = false := h
theorem leS_true {a b : ByteArray} (h : leS a b = true) : (Op.bytesLess a.toList b.toList || a.toList == b.toList) = true := h
def notAfter (prev : Option ByteArray) (p : ByteArray) : Bool := match prev with | none => false | some q => leS p q
def lookErr (prev : Option ByteArray) (x : Look) : Int :=
  if isPathS x.path = false then 3 else if x.digest.toList.isEmpty = false && isDigestS x.digest = false then 3 else if x.digest.toList.isEmpty && x.run then 3 else if notAfter prev x.path then 8 else 0
def looksErr : Option ByteArray → List Look → Int
  | _, [] => 0
  | prev, x :: r => if lookErr prev x = 0 then looksErr (some x.path) r else lookErr prev x
def checkLooksS (l : List Look) : Int := if 4000 < (l.length : Int) then 2 else looksErr none l
/-- what stands ahead of place k -/
def ahead {α : Type} (f : α → ByteArray) (l : List α) (k : Nat) : Option ByteArray := if k = 0 then none else (l[k - 1]?).map f
theorem ahead_succ {α : Type} {f : α → ByteArray} {l : List α} {k : Nat} {x : α} (hx : l[k]? = some x) : ahead f l (k + 1) = some (f x) := by simp [ahead, hx]
theorem drop_at {α : Type} {l : List α} {k : Nat} {x : α} (hx : l[k]? = some x) : l.drop k = x :: l.drop (k + 1) := by
  obtain ⟨h, e⟩ := List.getElem?_eq_some_iff.1 hx
  rw [List.drop_eq_getElem_cons h, e]
theorem looks_round {l : List Look} {k : Nat} {x : Look} (hx : l[k]? = some x) (h : lookErr (ahead Look.path l k) x = 0) :
    looksErr (ahead Look.path l k) (l.drop k) = looksErr (ahead Look.path l (k + 1)) (l.drop (k + 1)) := by
  rw [drop_at hx, looksErr, if_pos h, ahead_succ hx]
theorem looks_stop {l : List Look} {k : Nat} {x : Look} {e : Int} (hx : l[k]? = some x) (h : lookErr (ahead Look.path l k) x = e) (he : e ≠ 0) :
    looksErr (ahead Look.path l k) (l.drop k) = e := by
  rw [drop_at hx, looksErr, if_neg (by rw [h]; exact he), h]
def lookEq (x y : Look) : Bool := x.path.toList == y.path.toList && x.digest.toList == y.digest.toList && x.run == y.run
theorem toList_inj {a b : ByteArray} (h : a.toList = b.toList) : a = b := by
  rw [ByteArray.toList_eq, ByteArray.toList_eq] at h
  obtain ⟨⟨x⟩⟩ := a
  obtain ⟨⟨y⟩⟩ := b
  simp at h
  rw [h]
theorem lookEq_iff {x y : Look} : lookEq x y = true ↔ x = y := by
  obtain ⟨p, d, r⟩ := x
  obtain ⟨p', d', r'⟩ := y
  simp only [lookEq, Bool.and_eq_true, beq_iff_eq, Look.mk.injEq]
  constructor
  · rintro ⟨⟨h1, h2⟩, h3⟩
    exact ⟨toList_inj h1, toList_inj h2, h3⟩
  · rintro ⟨rfl, rfl, rfl⟩
    exact ⟨⟨rfl, rfl⟩, rfl⟩
/-- lists of looks compared -/
def sameLooksS : List Look → List Look → Bool
  | [], [] => true
  | x :: l, y :: r => lookEq x y && sameLooksS l r
  | _, _ => false
theorem sameLooksS_iff {l r : List Look} : sameLooksS l r = true ↔ l = r := by
  induction l generalizing r with
  | nil => cases r <;> simp [sameLooksS]
  | cons x l ih => cases r <;> simp [sameLooksS, lookEq_iff, ih]
theorem sameLooks_length {l r : List Look} (h : l.length ≠ r.length) : sameLooksS l r = false := by
  cases hs : sameLooksS l r
  · rfl
  · exact absurd (by rw [sameLooksS_iff.1 hs]) h
theorem sameLooks_round {l r : List Look} {k : Nat} {x y : Look} (hx : l[k]? = some x) (hy : r[k]? = some y) (h : lookEq x y = true) :
    sameLooksS (l.drop k) (r.drop k) = sameLooksS (l.drop (k + 1)) (r.drop (k + 1)) := by rw [drop_at hx, drop_at hy, sameLooksS, h, Bool.true_and]
theorem sameLooks_stop {l r : List Look} {k : Nat} {x y : Look} (hx : l[k]? = some x) (hy : r[k]? = some y) (h : lookEq x y = false) :
    sameLooksS (l.drop k) (r.drop k) = false := by rw [drop_at hx, drop_at hy, sameLooksS, h, Bool.false_and]
theorem sameLooks_end {l r : List Look} {k : Nat} (hl : l.length ≤ k) (hr : r.length ≤ k) : sameLooksS (l.drop k) (r.drop k) = true := by
  rw [List.drop_eq_nil_of_le hl, List.drop_eq_nil_of_le hr]; rfl
section
variable {prev : Option ByteArray} {x : Look}
theorem lookErr_path (hp : isPathS x.path = false) : lookErr prev x = 3 := by simp [lookErr, hp]
theorem lookErr_digest (hp : isPathS x.path = true) (he : x.digest.toList.isEmpty = false) (hd : isDigestS x.digest = false) : lookErr prev x = 3 := by simp [lookErr, hp, he, hd]
theorem lookErr_run (hp : isPathS x.path = true) (he : x.digest.toList.isEmpty = true) (hr : x.run = true) : lookErr prev x = 3 := by simp [lookErr, hp, he, hr]
theorem lookErr_rest (hp : isPathS x.path = true) (h : (x.digest.toList.isEmpty = false ∧ isDigestS x.digest = true) ∨ (x.digest.toList.isEmpty = true ∧ x.run = false)) :
    lookErr prev x = if notAfter prev x.path then 8 else 0 := by
  rcases h with ⟨h1, h2⟩ | ⟨h1, h2⟩ <;> simp [lookErr, hp, h1, h2]
end
theorem ahead_zero {α : Type} {f : α → ByteArray} {l : List α} : ahead f l 0 = none := rfl
theorem ahead_pos {α : Type} {f : α → ByteArray} {l : List α} {k : Nat} {y : α} (hk : 0 < k) (hy : l[k - 1]? = some y) : ahead f l k = some (f y) := by
  simp [ahead, hy]; omega
end Go.Proofs.Sm
