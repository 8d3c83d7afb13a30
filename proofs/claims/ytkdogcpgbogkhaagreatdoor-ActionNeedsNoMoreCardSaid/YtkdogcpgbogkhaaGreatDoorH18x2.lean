/- Plain words: actions, and what is wrong with them. -/
import Derived.Test.YtkdogcpgbogkhaaGreatDoorH18x1
import Derived.Lib.SlKeysI
import Derived.Sort.KeysCollected
import Derived.WalkArith
import Derived.Shelf.SlGeneric
import Derived.Shelf.SlIter.Nil
import Derived.Shelf.SlIterI.Nil
import Derived.Ground.GgzProg
import Derived.Test.YtkdogcpgbogkhaaGreatDoorProg
import Derived.Test.YtkdogcpgbogkhaaGreatDoorShelf2
import Derived.Lib.ItoaLen
import Derived.Shelf.GgClosure.StringsIndexFunc
namespace Go.Proofs.Sm
open Go.RowKit

structure Look where
  path : ByteArray
  digest : ByteArray
  run : Bool
structure FileV where
  path : ByteArray
  run : Bool
  bytes : List UInt8

instance : Rep Look where
  sz := 3
  rep _ _ x vs := vs = [.string x.path, .string x.digest, .bool x.run] ∧ x.path.size ≤ maxLen ∧ x.digest.size ≤ maxLen
  len h := by rw [h.1]; rfl
  keep _ h := h
  more _ h := h
instance : Rep FileV where
  sz := 3
  rep w S x vs := x.path.size ≤ maxLen ∧ ∃ A n c, vs = [.string x.path, .bool x.run, .slice A n c] ∧ n ≤ c ∧ c ≤ maxLen ∧ Sl w S A n x.bytes
  len h := by obtain ⟨_, A, n, c, rfl, _⟩ := h; rfl
  keep hk h := by obtain ⟨h0, A, n, c, e, h1, h2, h3⟩ := h; exact ⟨h0, A, n, c, e, h1, h2, h3.keep hk⟩
  more hs h := by obtain ⟨h0, A, n, c, e, h1, h2, h3⟩ := h; exact ⟨h0, A, n, c, e, h1, h2, h3.more hs⟩

section
variable {w : World} {S : Nat → Prop} {A : Option Addr} {n k : Nat}
theorem Sl.look {l : List Look} (h : Sl w S A n l) (hk : k < n) :
    ∃ b o x, A = some ⟨b, o, none⟩ ∧ S b ∧ l[k]? = some x ∧ x.path.size ≤ maxLen ∧ x.digest.size ≤ maxLen ∧
      w.cell? ⟨b, o + k * 3, none⟩ = some (.string x.path) ∧ w.cell? ⟨b, o + k * 3 + 1, none⟩ = some (.string x.digest) ∧ w.cell? ⟨b, o + k * 3 + 2, none⟩ = some (.bool x.run) := by
  have hk' : k < l.length := by rw [h.1]; exact hk
  obtain ⟨b, o, vs, e, hb, ⟨rfl, h1, h2⟩, ha⟩ := h.at hk'
  exact ⟨b, o, _, e, hb, List.getElem?_eq_getElem hk', h1, h2, ha 0 _ rfl, ha 1 _ rfl, ha 2 _ rfl⟩
theorem Sl.file {l : List FileV} (h : Sl w S A n l) (hk : k < n) :
    ∃ b o x A' n' c', A = some ⟨b, o, none⟩ ∧ S b ∧ l[k]? = some x ∧ x.path.size ≤ maxLen ∧ n' ≤ c' ∧ c' ≤ maxLen ∧ Sl w S A' n' x.bytes ∧
      w.cell? ⟨b, o + k * 3, none⟩ = some (.string x.path) ∧ w.cell? ⟨b, o + k * 3 + 1, none⟩ = some (.bool x.run) ∧ w.cell? ⟨b, o + k * 3 + 2, none⟩ = some (.slice A' n' c') := by
  have hk' : k < l.length := by rw [h.1]; exact hk
  obtain ⟨b, o, vs, e, hb, ⟨h1, A', n', c', rfl, h2, h3, h4⟩, ha⟩ := h.at hk'
  exact ⟨b, o, _, A', n', c', e, hb, List.getElem?_eq_getElem hk', h1, h2, h3, h4, ha 0 _ rfl, ha 1 _ rfl, ha 2 _ rfl⟩
end

/-- 'a <= b' on strings, as the walk spells it -/
def leS (a b : ByteArray) : Bool := Op.bytesLess a.toList b.toList || a.toList == b.toList
def ltS (a b : ByteArray) : Bool := Op.bytesLess a.toList b.toList
theorem leS_false {a b : ByteArray} (h : leS a b = false) : (Op.bytesLess a.toList b.toList || a.toList == b.toList) = false := h
theorem leS_true {a b : ByteArray} (h : leS a b = true) : (Op.bytesLess a.toList b.toList || a.toList == b.toList) = true := h
def notAfter (prev : Option ByteArray) (p : ByteArray) : Bool := match prev with | none => false | some q => leS p q
def lookErr (prev : Option ByteArray) (x : Look) : Int :=
  if isPathS x.path = false then 3 else if x.digest.toList.isEmpty = false && isDigestS x.digest = false then 3 else if x.digest.toList.isEmpty && x.run then 3 else if notAfter prev x.path then 8 else 0
def looksErr : Option ByteArray → List Look → Int
  | _, [] => 0
  | prev, x :: r => if lookErr prev x = 0 then looksErr (some x.path) r else lookErr prev x
def checkLooksS (l : List Look) : Int := if 4000 < (l.length : Int) then 2 else looksErr none l
/-- what stands ahead of place k -/
def ahead {α : Type} (f : α → ByteArray) (l : List α) (k : Nat) : Option ByteArray := if k = 0 then none else (l[k - 1]?).map f
theorem ahead_succ {α : Type} {f : α → ByteArray} {l : List α} {k : Nat} {x : α} (hx : l[k]? = some x) : ahead f l (k + 1) = some (f x) := by simp [ahead, hx]
theorem drop_at {α : Type} {l : List α} {k : Nat} {x : α} (hx : l[k]? = some x) : l.drop k = x :: l.drop (k + 1) := by
  obtain ⟨h, e⟩ := List.getElem?_eq_some_iff.1 hx
  rw [List.drop_eq_getElem_cons h, e]
theorem looks_round {l : List Look} {k : Nat} {x : Look} (hx : l[k]? = some x) (h : lookErr (ahead Look.path l k) x = 0) :
    looksErr (ahead Look.path l k) (l.drop k) = looksErr (ahead Look.path l (k + 1)) (l.drop (k + 1)) := by
  rw [drop_at hx, looksErr, if_pos h, ahead_succ hx]
theorem looks_stop {l : List Look} {k : Nat} {x : Look} {e : Int} (hx : l[k]? = some x) (h : lookErr (ahead Look.path l k) x = e) (he : e ≠ 0) :
    looksErr (ahead Look.path l k) (l.drop k) = e := by
  rw [drop_at hx, looksErr, if_neg (by rw [h]; exact he), h]
def lookEq (x y : Look) : Bool := x.path.toList == y.path.toList && x.digest.toList == y.digest.toList && x.run == y.run
theorem toList_inj {a b : ByteArray} (h : a.toList = b.toList) : a = b := by
  rw [ByteArray.toList_eq, ByteArray.toList_eq] at h
  obtain ⟨⟨x⟩⟩ := a
  obtain ⟨⟨y⟩⟩ := b
  simp at h
  rw [h]
theorem lookEq_iff {x y : Look} : lookEq x y = true ↔ x = y := by
  obtain ⟨p, d, r⟩ := x
  obtain ⟨p', d', r'⟩ := y
  simp only [lookEq, Bool.and_eq_true, beq_iff_eq, Look.mk.injEq]
  constructor
  · rintro ⟨⟨h1, h2⟩, h3⟩
    exact ⟨toList_inj h1, toList_inj h2, h3⟩
  · rintro ⟨rfl, rfl, rfl⟩
    exact ⟨⟨rfl, rfl⟩, rfl⟩
/-- lists of looks compared -/
def sameLooksS : List Look → List Look → Bool
  | [], [] => true
  | x :: l, y :: r => lookEq x y && sameLooksS l r
  | _, _ => false
theorem sameLooksS_iff {l r : List Look} : sameLooksS l r = true ↔ l = r := by
  induction l generalizing r with
  | nil => cases r <;> simp [sameLooksS]
  | cons x l ih => cases r <;> simp [sameLooksS, lookEq_iff, ih]
theorem sameLooks_length {l r : List Look} (h : l.length ≠ r.length) : sameLooksS l r = false := by
  cases hs : sameLooksS l r
  · rfl
  · exact absurd (by rw [sameLooksS_iff.1 hs]) h
theorem sameLooks_round {l r : List Look} {k : Nat} {x y : Look} (hx : l[k]? = some x) (hy : r[k]? = some y) (h : lookEq x y = true) :
    sameLooksS (l.drop k) (r.drop k) = sameLooksS (l.drop (k + 1)) (r.drop (k + 1)) := by rw [drop_at hx, drop_at hy, sameLooksS, h, Bool.true_and]
theorem sameLooks_stop {l r : List Look} {k : Nat} {x y : Look} (hx : l[k]? = some x) (hy : r[k]? = some y) (h : lookEq x y = false) :
    sameLooksS (l.drop k) (r.drop k) = false := by rw [drop_at hx, drop_at hy, sameLooksS, h, Bool.false_and]
theorem sameLooks_end {l r : List Look} {k : Nat} (hl : l.length ≤ k) (hr : r.length ≤ k) : sameLooksS (l.drop k) (r.drop k) = true := by
  rw [List.drop_eq_nil_of_le hl, List.drop_eq_nil_of_le hr]; rfl
section
variable {prev : Option ByteArray} {x : Look}
theorem lookErr_path (hp : isPathS x.path = false) : lookErr prev x = 3 := by simp [lookErr, hp]
theorem lookErr_digest (hp : isPathS x.path = true) (he : x.digest.toList.isEmpty = false) (hd : isDigestS x.digest = false) : lookErr prev x = 3 := by simp [lookErr, hp, he, hd]
theorem lookErr_run (hp : isPathS x.path = true) (he : x.digest.toList.isEmpty = true) (hr : x.run = true) : lookErr prev x = 3 := by simp [lookErr, hp, he, hr]
theorem lookErr_rest (hp : isPathS x.path = true) (h : (x.digest.toList.isEmpty = false ∧ isDigestS x.digest = true) ∨ (x.digest.toList.isEmpty = true ∧ x.run = false)) :
    lookErr prev x = if notAfter prev x.path then 8 else 0 := by
  rcases h with ⟨h1, h2⟩ | ⟨h1, h2⟩ <;> simp [lookErr, hp, h1, h2]
end
theorem ahead_zero {α : Type} {f : α → ByteArray} {l : List α} : ahead f l 0 = none := rfl
theorem ahead_pos {α : Type} {f : α → ByteArray} {l : List α} {k : Nat} {y : α} (hk : 0 < k) (hy : l[k - 1]? = some y) : ahead f l k = some (f y) := by
  simp [ahead, hy]; omega
end Go.Proofs.Sm

namespace Go.Proofs.Sm
open Go.RowKit Go.Maps Go.WideMaps

section
variable {P : Program} {k : TypeId} {w w' : World} {b n : Nat} {f : List UInt8 → Option Value}
theorem MapIs.has (h : MapIs P k w b n f) : ∃ D : DataW Value, w.ownsMap P k raw b n D ∧ IsMap D ∧ (∀ key z, D.atKey (.string key) z = match f key with | some v => .held v | none => z) ∧ ∀ key, Maps.has D (.string key) = (f key).isSome := by
  obtain ⟨D, h1, h2, h3⟩ := h
  refine ⟨D, h1, h2, h3, fun key => ?_⟩
  cases hf : f key with
  | none => exact has_false_of_atKey fun z => by rw [h3, hf]
  | some v => exact has_true_of_atKey (y := .held v) fun z => by rw [h3, hf]
theorem MapIs.look_ok {t e : TypeId} (h : MapIs P k w b n f) (hk : P.underlying k = some .string) (ht : P.underlying t = some (.map k e)) {z : Value} (hz : (zeroValue e).run P w = .ok z w)
    {s : ByteArray} (hs : s.size ≤ maxLen) : (Instr.lookup t (.map (some b)) (.string s) true).run P w = .ok (.tuple #[(f s.data.toList).getD z, .bool (f s.data.toList).isSome]) w := by
  obtain ⟨D, h1, _, h3, h4⟩ := h.has
  obtain ⟨v, ps, hrun, hv⟩ := h1.look_ok (string_keyed hk) ht hz (zd := .held z) (zp := []) rfl (kl := .string s.data.toList) (keyOf_string_mk hk hs)
  rw [hrun, h4]
  simp only [raw, h3] at hv
  cases hf : f s.data.toList with
  | none => rw [hf] at hv; simp at hv; simp [hv.1]
  | some u => rw [hf] at hv; simp at hv; simp [hv.1]
theorem MapIs.grown {row : Option Nat} (h : MapIs P k w b n f) (hg : w.grownBy w' row) (hne : row ≠ some b) : MapIs P k w' b n f := h.keep (hg.block b h.lt fun e => hne e.symm)
theorem MapIs.congr {g : List UInt8 → Option Value} (h : MapIs P k w b n f) (hf : ∀ key, f key = g key) : MapIs P k w b n g := by
  obtain rfl : f = g := funext hf
  exact h
theorem insert_length {H : Type} (x : Lit × DataW H) : ∀ l : List (Lit × DataW H), (DataW.insert x l).length = l.length + 1
  | [] => rfl
  | y :: r => by
    rw [DataW.insert]
    split
    · simp
    · simp [insert_length x r]
theorem ownsMap_size {H : Type} {R : Value → Option (DataW H × List MemPlace)} {D : DataW H} (h : w.ownsMap P k R b n D) : Maps.size D ≤ n := by
  obtain ⟨es, clock, _, _, hs, rfl⟩ := h
  rw [size_eq]
  have key : ∀ l : List (Lit × DataW H), (l.foldr DataW.insert []).length = l.length := by
    intro l
    induction l with
    | nil => rfl
    | cons x l ih => rw [List.foldr_cons, insert_length, ih]; rfl
  rw [key, List.length_map, Array.length_toList]
  exact hs
/-- the keys of a map, each once -/
theorem MapIs.keys (h : MapIs P k w b n f) (hk : P.underlying k = some .string) : ∃ D : DataW Value, w.ownsMap P k raw b n D ∧ Maps.size D ≤ n ∧ (strKeys D).Nodup ∧ (∀ key, key ∈ strKeys D ↔ (f key).isSome = true) ∧ ∀ x ∈ strKeys D, x.length ≤ maxLen := by
  obtain ⟨D, h1, _, _, h4⟩ := h.has
  refine ⟨D, h1, ownsMap_size h1, ?_, ?_, strKeys_le h1 hk⟩
  all_goals
    obtain ⟨es, hD, hpw, _⟩ := h1.entries (string_keyed hk)
    obtain ⟨es', hD', hko⟩ := h1.keysOf
    obtain rfl : es = es' := by rw [hD] at hD'; simpa using hD'
    subst hD
    have hks : ∀ p ∈ es, ∃ x, p.1 = .string x := fun p hp => by obtain ⟨v, hv⟩ := hko p hp; obtain ⟨x, _, hx, _⟩ := Maps.keyOf_str hk hv; exact ⟨x, hx⟩
  · show (es.map fun p => Go.strOf p.1).Nodup
    refine List.pairwise_map.2 (hpw.imp_of_mem fun {p q} hp' hq' hne e => hne ?_)
    obtain ⟨x, hx⟩ := hks p hp'
    obtain ⟨y, hy⟩ := hks q hq'
    rw [hx, hy] at e ⊢
    exact congrArg _ e
  · intro key
    rw [← h4, has_eq, List.any_eq_true]
    show key ∈ (es.map fun p => Go.strOf p.1) ↔ _
    rw [List.mem_map]
    constructor
    · rintro ⟨p, hp', rfl⟩
      obtain ⟨x, hx⟩ := hks p hp'
      exact ⟨p, hp', by rw [hx]; simp [Lit.sameKey, Go.strOf]⟩
    · rintro ⟨p, hp', hs⟩
      obtain ⟨x, hx⟩ := hks p hp'
      rw [hx] at hs
      exact ⟨p, hp', by rw [hx]; simpa [Lit.sameKey, Go.strOf] using hs⟩
end
/-- a list of strings that is in order and has just the keys of a map -/
structure KeysAre (f : List UInt8 → Option Value) (ks : List ByteArray) : Prop where
  sorted : ks.Pairwise fun x y => x.data.toList < y.data.toList
  mem : ∀ key, key ∈ ks.map (·.data.toList) ↔ (f key).isSome = true
  size : ∀ x ∈ ks, x.size ≤ maxLen
theorem sorted_strict {l : List (List UInt8)} (h : l.Nodup) : (l.mergeSort leB).Pairwise fun x y => x < y := by
  have tr : ∀ a b c : List UInt8, leB a b = true → leB b c = true → leB a c = true := fun a b c h1 h2 => by simp only [leB, decide_eq_true_eq] at *; exact List.le_trans h1 h2
  have tt2 : ∀ a b : List UInt8, (leB a b || leB b a) = true := fun a b => by simp only [leB, Bool.or_eq_true, decide_eq_true_eq]; exact List.le_total a b
  have h1 := List.pairwise_mergeSort tr tt2 l
  have h2 : (l.mergeSort leB).Nodup := (List.mergeSort_perm l leB).nodup_iff.2 h
  refine List.Pairwise.imp₂ (R := fun a b => leB a b = true) (S := fun a b => a ≠ b) (fun a b ha hb => ?_) h1 h2
  simp only [leB, decide_eq_true_eq] at ha
  exact Classical.byContradiction fun hc => hb (List.le_antisymm ha (List.not_lt.1 hc))
theorem keysAre_of {f : List UInt8 → Option Value} {l ss : List (List UInt8)} (hp : ss.Perm l) (hn : l.Nodup) (hm : ∀ key, key ∈ l ↔ (f key).isSome = true) (hs : ∀ x ∈ l, x.length ≤ maxLen) :
    KeysAre f ((ss.mergeSort leB).map fun x => ⟨x.toArray⟩) ∧ (ss.mergeSort leB).map encStr = ((ss.mergeSort leB).map fun x => (⟨x.toArray⟩ : ByteArray)).map Value.string := by
  have hn' : ss.Nodup := hp.nodup_iff.2 hn
  have hmem : ∀ key, key ∈ ss.mergeSort leB ↔ key ∈ l := fun key => (List.mergeSort_perm ss leB).mem_iff.trans hp.mem_iff
  refine ⟨⟨?_, fun key => ?_, fun x hx => ?_⟩, by simp [List.map_map, Function.comp_def]⟩
  · exact List.pairwise_map.2 ((sorted_strict hn').imp fun h => h)
  · rw [← hm, ← hmem, List.map_map]
    simp [Function.comp_def]
  · obtain ⟨y, hy, rfl⟩ := List.mem_map.1 hx
    have := hs y ((hmem y).1 hy)
    simpa [ByteArray.size] using this
theorem KeysAre.unique {f g : List UInt8 → Option Value} {ks ls : List ByteArray} (h : KeysAre f ks) (h' : KeysAre g ls) (hfg : ∀ key, (f key).isSome = (g key).isSome) : ks = ls := by
  have key : ∀ {a b : List (List UInt8)}, a.Pairwise (· < ·) → b.Pairwise (· < ·) → (∀ x, x ∈ a ↔ x ∈ b) → a = b := by
    intro a b ha hb hm
    have na : a.Nodup := ha.imp fun h e => by subst e; exact List.lt_irrefl _ h
    have nb : b.Nodup := hb.imp fun h e => by subst e; exact List.lt_irrefl _ h
    refine List.Perm.eq_of_pairwise (le := fun x y => x < y) (fun x y _ _ h1 h2 => absurd (List.lt_trans h1 h2) (List.lt_irrefl _)) ha hb ((List.perm_ext_iff_of_nodup na nb).2 hm)
  have h1 := key (List.pairwise_map.2 h.sorted) (List.pairwise_map.2 h'.sorted) (fun x => by rw [h.mem, h'.mem, hfg])
  exact (List.map_inj_right (fun x y e => by
    obtain ⟨⟨x⟩⟩ := x
    obtain ⟨⟨y⟩⟩ := y
    simp at e
    subst e; rfl)).1 h1

/-! ### Maps whose keys are ints -/
def MapZ (P : Program) (k : TypeId) (w : World) (b n : Nat) (f : Int → Option Value) : Prop :=
  ∃ D : DataW Value, w.ownsMap P k raw b n D ∧ IsMap D ∧ ∀ key z, D.atKey (.int .i64 key) z = match f key with | some v => .held v | none => z
section
variable {P : Program} {k : TypeId} {w w' : World} {b n : Nat} {f : Int → Option Value}
theorem MapZ.made (w : World) : MapZ P k (w.alloc (.map #[] 0)) w.heap.size 0 (fun _ => none) :=
  ⟨.map [], World.ownsMap_made _ _ _ _, isMap_empty, fun key z => by simp [DataW.atKey]⟩
theorem MapZ.keep (h : MapZ P k w b n f) (hk : w'.heap[b]? = w.heap[b]?) : MapZ P k w' b n f := by
  obtain ⟨D, ⟨es, clock, hb, F, h1⟩, h2⟩ := h
  exact ⟨D, ⟨es, clock, hk.trans hb, F, h1⟩, h2⟩
theorem MapZ.lt (h : MapZ P k w b n f) : b < w.heap.size := by
  obtain ⟨D, h1, _⟩ := h
  exact h1.lt
theorem MapZ.call (h : MapZ P k w b n f) (hb : Below w.heap.size w w') : MapZ P k w' b n f := h.keep (hb.block b h.lt)
theorem MapZ.more (h : MapZ P k w b n f) {n' : Nat} (hn : n ≤ n') : MapZ P k w b n' f := by
  obtain ⟨D, h1, h2⟩ := h
  exact ⟨D, h1.mono hn, h2⟩
theorem int_wf {a : Int} (h : InInt a) : (Lit.int .i64 a).wf = true := WalkArith.wf_i64 h
theorem MapZ.store {t e : TypeId} (h : MapZ P k w b n f) (hk : P.underlying k = some (.int .i64)) (ht : P.underlying t = some (.map k e)) (hn : n < maxLen) {a : Int} (ha : InInt a) (v : Value) :
    ∃ w', (Instr.mapUpdate t (.map (some b)) (.int .i64 a) v).run P w = .ok () w' ∧ MapZ P k w' b (n + 1) (fun key => if key = a then some v else f key) ∧ w.grownBy w' (some b) := by
  obtain ⟨D, h1, h2, h3⟩ := h
  obtain ⟨w', hrun, hown, hg⟩ := h1.update (int_keyed hk) ht hn (key := .int .i64 a) (val := v) (kl := .int .i64 a) (d := .held v) (ps := []) (keyOf_int_mk hk (int_wf ha)) rfl
  have hkl : WideAt.IsKeyLit (.int .i64 a) := (int_keyed hk).key (keyOf_int_mk hk (int_wf ha))
  refine ⟨w', hrun, ⟨_, hown, h2.put _ _, fun key z => ?_⟩, hg⟩
  by_cases he : key = a
  · subst he
    rw [atKey_put_same h2 hkl]; simp
  · rw [atKey_put_other (by simpa using he)]
    simp only [if_neg he]
    exact h3 key z
theorem wpList_mapUpdate_z (w : World) {ops : Array Oper} {rest : List Oper} {o : Oper} {a : Act} {Q : Exit → Act → World → Prop}
    (hg : o.guard = none) (m x v : Operand) (t : TypeId) (hop : o.op = Op.mapUpdate t m x v) (hk : P.underlying k = some (.int .i64)) {e : TypeId} (ht : P.underlying t = some (.map k e))
    (hm : a.eval m = .map (some b)) (hmap : MapZ P k w b n f) (hn : n < maxLen) (y : Int) (hy : InInt y) (val : Value) (hx : a.eval x = .int .i64 y) (hv : a.eval v = val)
    (hK : ∀ w', MapZ P k w' b (n + 1) (fun key => if key = y then some val else f key) → w.grownBy w' (some b) → wpList P ops Q rest (a.put o.dst undef) w') :
    wpList P ops Q (o :: rest) a w := by
  refine wpList_plain hg fun K' hK' => ?_
  obtain ⟨w', hrun, r1, r2⟩ := hmap.store hk ht hn hy val
  unfold Oper.wp
  simp [execOp, hop, hm, hx, hv, hrun, Result.andThen]
  exact hK' _ _ (hK w' r1 r2)
theorem MapZ.keys (h : MapZ P k w b n f) (hk : P.underlying k = some (.int .i64)) : ∃ D : DataW Value, w.ownsMap P k raw b n D ∧ Maps.size D ≤ n ∧ (intKeys D).Nodup ∧ ∀ key, key ∈ intKeys D ↔ (f key).isSome = true := by
  obtain ⟨D, h1, _, h3⟩ := h
  have h4 : ∀ key, Maps.has D (.int .i64 key) = (f key).isSome := fun key => by
    cases hf : f key with
    | none => exact has_false_of_atKey fun z => by rw [h3, hf]
    | some v => exact has_true_of_atKey (y := .held v) fun z => by rw [h3, hf]
  refine ⟨D, h1, ownsMap_size h1, ?_, ?_⟩
  all_goals
    obtain ⟨es, hD, hpw, _⟩ := h1.entries (int_keyed hk)
    obtain ⟨es', hD', hko⟩ := h1.keysOf
    obtain rfl : es = es' := by rw [hD] at hD'; simpa using hD'
    subst hD
    have hks : ∀ p ∈ es, ∃ x, p.1 = .int .i64 x := fun p hp => by obtain ⟨v, hv⟩ := hko p hp; obtain ⟨x, _, hx, _⟩ := Maps.keyOf_i64 hk hv; exact ⟨x, hx⟩
  · show (es.map fun p => Go.intOf p.1).Nodup
    refine List.pairwise_map.2 (hpw.imp_of_mem fun {p q} hp' hq' hne e => hne ?_)
    obtain ⟨x, hx⟩ := hks p hp'
    obtain ⟨y, hy⟩ := hks q hq'
    rw [hx, hy] at e ⊢
    exact congrArg _ e
  · intro key
    rw [← h4, has_eq, List.any_eq_true]
    show key ∈ (es.map fun p => Go.intOf p.1) ↔ _
    rw [List.mem_map]
    constructor
    · rintro ⟨p, hp', rfl⟩
      obtain ⟨x, hx⟩ := hks p hp'
      exact ⟨p, hp', by rw [hx]; simp [Lit.sameKey, Go.intOf]⟩
    · rintro ⟨p, hp', hs⟩
      obtain ⟨x, hx⟩ := hks p hp'
      rw [hx] at hs
      exact ⟨p, hp', by rw [hx]; simpa [Lit.sameKey, Go.intOf] using hs⟩
end
theorem sorted_strict_i {l : List Int} (h : l.Nodup) : (l.mergeSort leI).Pairwise fun x y => x < y := by
  have tr : ∀ a b c : Int, leI a b = true → leI b c = true → leI a c = true := fun a b c h1 h2 => by simp only [leI, decide_eq_true_eq] at *; omega
  have tt2 : ∀ a b : Int, (leI a b || leI b a) = true := fun a b => by simp only [leI, Bool.or_eq_true, decide_eq_true_eq]; omega
  have h1 := List.pairwise_mergeSort tr tt2 l
  have h2 : (l.mergeSort leI).Nodup := (List.mergeSort_perm l leI).nodup_iff.2 h
  refine List.Pairwise.imp₂ (R := fun a b => leI a b = true) (S := fun a b => a ≠ b) (fun a b ha hb => ?_) h1 h2
  simp only [leI, decide_eq_true_eq] at ha
  omega
/-- numbers in order, those of a range of which p says so -/
theorem keys_filter {l ss : List Int} {n : Nat} {p : Nat → Bool} (hp : ss.Perm l) (hn : l.Nodup) (hm : ∀ key, key ∈ l ↔ ∃ i : Nat, i < n ∧ p i = true ∧ key = (i : Int)) : ss.mergeSort leI = ((List.range n).filter p).map fun i : Nat => (i : Int) := by
  have hn' : ss.Nodup := hp.nodup_iff.2 hn
  have h1 := sorted_strict_i hn'
  have h2 : (((List.range n).filter p).map fun i : Nat => (i : Int)).Pairwise fun x y => x < y := by
    refine List.pairwise_map.2 ?_
    refine ((List.pairwise_lt_range (n := n)).filter p).imp fun {a b} h => ?_
    omega
  have na : (ss.mergeSort leI).Nodup := h1.imp fun h => Int.ne_of_lt h
  have nb : (((List.range n).filter p).map fun i : Nat => (i : Int)).Nodup := h2.imp fun h => Int.ne_of_lt h
  refine List.Perm.eq_of_pairwise (le := fun x y => x < y) (fun x y _ _ a b => by omega) h1 h2 ((List.perm_ext_iff_of_nodup na nb).2 fun x => ?_)
  rw [(List.mergeSort_perm ss leI).mem_iff, hp.mem_iff, hm, List.mem_map]
  constructor
  · rintro ⟨i, hi, hpi, rfl⟩
    exact ⟨i, by simp [hi, hpi], rfl⟩
  · rintro ⟨i, hi, rfl⟩
    simp only [List.mem_filter, List.mem_range] at hi
    exact ⟨i, hi.1, hi.2, rfl⟩
end Go.Proofs.Sm

namespace Go.Proofs
open Go.Shelf
def Tryz.keys_mapstringsmithyardapiLook_ren : Go.Shelf.Ren := ⟨fun | 7 => 46 | 10 => 87 | n => n, fun | 23 => 100 | 26 => 9 | 3 => 38 | 28 => 107 | 0 => 0 | 27 => 106 | 33 => 151 | 4 => 4 | n => n, fun | n => n⟩
theorem Tryz.keys_mapstringsmithyardapiLook : Go.Proofs.SlLaysZ.n7 Tryz.prog Tryz.keys_mapstringsmithyardapiLook_ren := {
  mixed := by kernel_rfl
  f7 := ⟨Tryz.f46.name, by decide, Tryz.func46.trans (congrArg some (by kernel_rfl))⟩
  f10 := ⟨Tryz.f87.name, by decide, Tryz.func87.trans (congrArg some (by kernel_rfl))⟩
  t0 := Tryz.underlying0
  a0 := Tryz.isAgg0
  z0 := Tryz.sizeOf0
  v0 := Tryz.zeroValue0
  t4 := Tryz.underlying4
  a4 := Tryz.isAgg4
  z4 := Tryz.sizeOf4
  v4 := Tryz.zeroValue4
  t23 := Tryz.underlying100
  a23 := Tryz.isAgg100
  z23 := Tryz.sizeOf100
  v23 := Tryz.zeroValue100
  t26 := Tryz.underlying9
  a26 := Tryz.isAgg9
  z26 := Tryz.sizeOf9
  v26 := Tryz.zeroValue9
  t27 := Tryz.underlying106
  a27 := Tryz.isAgg106
  z27 := Tryz.sizeOf106
  v27 := Tryz.zeroValue106
  t28 := Tryz.underlying107
  a28 := Tryz.isAgg107
  z28 := Tryz.sizeOf107
  v28 := Tryz.zeroValue107
  t33 := Tryz.underlying151
  a33 := Tryz.isAgg151
  z33 := Tryz.sizeOf151
  v33 := Tryz.zeroValue151 }
def Tryz.keys_mapstringsmithyardapiFile_ren : Go.Shelf.Ren := ⟨fun | 7 => 47 | 10 => 88 | n => n, fun | 23 => 99 | 26 => 9 | 3 => 50 | 28 => 107 | 0 => 0 | 27 => 106 | 33 => 151 | 4 => 4 | n => n, fun | n => n⟩
theorem Tryz.keys_mapstringsmithyardapiFile : Go.Proofs.SlLaysZ.n7 Tryz.prog Tryz.keys_mapstringsmithyardapiFile_ren := {
  mixed := by kernel_rfl
  f7 := ⟨Tryz.f47.name, by decide, Tryz.func47.trans (congrArg some (by kernel_rfl))⟩
  f10 := ⟨Tryz.f88.name, by decide, Tryz.func88.trans (congrArg some (by kernel_rfl))⟩
  t0 := Tryz.underlying0
  a0 := Tryz.isAgg0
  z0 := Tryz.sizeOf0
  v0 := Tryz.zeroValue0
  t4 := Tryz.underlying4
  a4 := Tryz.isAgg4
  z4 := Tryz.sizeOf4
  v4 := Tryz.zeroValue4
  t23 := Tryz.underlying99
  a23 := Tryz.isAgg99
  z23 := Tryz.sizeOf99
  v23 := Tryz.zeroValue99
  t26 := Tryz.underlying9
  a26 := Tryz.isAgg9
  z26 := Tryz.sizeOf9
  v26 := Tryz.zeroValue9
  t27 := Tryz.underlying106
  a27 := Tryz.isAgg106
  z27 := Tryz.sizeOf106
  v27 := Tryz.zeroValue106
  t28 := Tryz.underlying107
  a28 := Tryz.isAgg107
  z28 := Tryz.sizeOf107
  v28 := Tryz.zeroValue107
  t33 := Tryz.underlying151
  a33 := Tryz.isAgg151
  z33 := Tryz.sizeOf151
  v33 := Tryz.zeroValue151 }
def Tryz.keys_mapintbool_ren : Go.Shelf.Ren := ⟨fun | 7 => 104 | 10 => 143 | n => n, fun | 23 => 174 | 26 => 3 | 3 => 4 | 28 => 177 | 0 => 0 | 27 => 176 | 33 => 156 | 4 => 4 | n => n, fun | n => n⟩
theorem Tryz.keys_mapintbool : Go.Proofs.SlLaysZI.n7 Tryz.prog Tryz.keys_mapintbool_ren := {
  mixed := by kernel_rfl
  f7 := ⟨Tryz.f104.name, by decide, Tryz.func104.trans (congrArg some (by kernel_rfl))⟩
  f10 := ⟨Tryz.f143.name, by decide, Tryz.func143.trans (congrArg some (by kernel_rfl))⟩
  t0 := Tryz.underlying0
  a0 := Tryz.isAgg0
  z0 := Tryz.sizeOf0
  v0 := Tryz.zeroValue0
  t4 := Tryz.underlying4
  a4 := Tryz.isAgg4
  z4 := Tryz.sizeOf4
  v4 := Tryz.zeroValue4
  t23 := Tryz.underlying174
  a23 := Tryz.isAgg174
  z23 := Tryz.sizeOf174
  v23 := Tryz.zeroValue174
  t26 := Tryz.underlying3
  a26 := Tryz.isAgg3
  z26 := Tryz.sizeOf3
  v26 := Tryz.zeroValue3
  t27 := Tryz.underlying176
  a27 := Tryz.isAgg176
  z27 := Tryz.sizeOf176
  v27 := Tryz.zeroValue176
  t28 := Tryz.underlying177
  a28 := Tryz.isAgg177
  z28 := Tryz.sizeOf177
  v28 := Tryz.zeroValue177
  t33 := Tryz.underlying156
  a33 := Tryz.isAgg156
  z33 := Tryz.sizeOf156
  v33 := Tryz.zeroValue156 }
def Tryz.keys_mapstringsmithyardapiMemory_ren : Go.Shelf.Ren := ⟨fun | 7 => 112 | 10 => 150 | n => n, fun | 23 => 139 | 26 => 9 | 3 => 73 | 28 => 107 | 0 => 0 | 27 => 106 | 33 => 151 | 4 => 4 | n => n, fun | n => n⟩
theorem Tryz.keys_mapstringsmithyardapiMemory : Go.Proofs.SlLaysZ.n7 Tryz.prog Tryz.keys_mapstringsmithyardapiMemory_ren := {
  mixed := by kernel_rfl
  f7 := ⟨Tryz.f112.name, by decide, Tryz.func112.trans (congrArg some (by kernel_rfl))⟩
  f10 := ⟨Tryz.f150.name, by decide, Tryz.func150.trans (congrArg some (by kernel_rfl))⟩
  t0 := Tryz.underlying0
  a0 := Tryz.isAgg0
  z0 := Tryz.sizeOf0
  v0 := Tryz.zeroValue0
  t4 := Tryz.underlying4
  a4 := Tryz.isAgg4
  z4 := Tryz.sizeOf4
  v4 := Tryz.zeroValue4
  t23 := Tryz.underlying139
  a23 := Tryz.isAgg139
  z23 := Tryz.sizeOf139
  v23 := Tryz.zeroValue139
  t26 := Tryz.underlying9
  a26 := Tryz.isAgg9
  z26 := Tryz.sizeOf9
  v26 := Tryz.zeroValue9
  t27 := Tryz.underlying106
  a27 := Tryz.isAgg106
  z27 := Tryz.sizeOf106
  v27 := Tryz.zeroValue106
  t28 := Tryz.underlying107
  a28 := Tryz.isAgg107
  z28 := Tryz.sizeOf107
  v28 := Tryz.zeroValue107
  t33 := Tryz.underlying151
  a33 := Tryz.isAgg151
  z33 := Tryz.sizeOf151
  v33 := Tryz.zeroValue151 }
def Tryz.keys_mapstringbool_ren : Go.Shelf.Ren := ⟨fun | 7 => 231 | 10 => 270 | n => n, fun | 23 => 150 | 26 => 9 | 3 => 4 | 28 => 107 | 0 => 0 | 27 => 106 | 33 => 151 | 4 => 4 | n => n, fun | n => n⟩
theorem Tryz.keys_mapstringbool : Go.Proofs.SlLaysZ.n7 Tryz.prog Tryz.keys_mapstringbool_ren := {
  mixed := by kernel_rfl
  f7 := ⟨Tryz.f231.name, by decide, Tryz.func231.trans (congrArg some (by kernel_rfl))⟩
  f10 := ⟨Tryz.f270.name, by decide, Tryz.func270.trans (congrArg some (by kernel_rfl))⟩
  t0 := Tryz.underlying0
  a0 := Tryz.isAgg0
  z0 := Tryz.sizeOf0
  v0 := Tryz.zeroValue0
  t4 := Tryz.underlying4
  a4 := Tryz.isAgg4
  z4 := Tryz.sizeOf4
  v4 := Tryz.zeroValue4
  t23 := Tryz.underlying150
  a23 := Tryz.isAgg150
  z23 := Tryz.sizeOf150
  v23 := Tryz.zeroValue150
  t26 := Tryz.underlying9
  a26 := Tryz.isAgg9
  z26 := Tryz.sizeOf9
  v26 := Tryz.zeroValue9
  t27 := Tryz.underlying106
  a27 := Tryz.isAgg106
  z27 := Tryz.sizeOf106
  v27 := Tryz.zeroValue106
  t28 := Tryz.underlying107
  a28 := Tryz.isAgg107
  z28 := Tryz.sizeOf107
  v28 := Tryz.zeroValue107
  t33 := Tryz.underlying151
  a33 := Tryz.isAgg151
  z33 := Tryz.sizeOf151
  v33 := Tryz.zeroValue151 }
def Tryz.sorted_int_ren : Go.Shelf.Ren := ⟨fun | 6 => 103 | 8 => 141 | 9 => 142 | 11 => 204 | 13 => 133 | 12 => 205 | 23 => 186 | 24 => 187 | 14 => 248 | 15 => 249 | 16 => 250 | 17 => 251 | 18 => 252 | 19 => 253 | 20 => 254 | 21 => 255 | 22 => 256 | 25 => 280 | 26 => 236 | 27 => 237 | 28 => 281 | 29 => 282 | 30 => 283 | 31 => 301 | n => n, fun | 26 => 3 | 28 => 177 | 24 => 132 | 0 => 0 | 3 => 3 | 37 => 207 | 48 => 246 | 50 => 169 | 4 => 4 | 40 => 240 | 39 => 239 | 45 => 161 | 5 => 5 | 9 => 9 | 51 => 282 | 55 => 286 | 57 => 309 | 58 => 103 | 33 => 156 | n => n, fun | n => n⟩
theorem Tryz.sorted_int : Go.Proofs.SlLaysZI.n6 Tryz.prog Tryz.sorted_int_ren := {
  mixed := by kernel_rfl
  f6 := ⟨Tryz.f103.name, by decide, Tryz.func103.trans (congrArg some (by kernel_rfl))⟩
  f8 := ⟨Tryz.f141.name, by decide, Tryz.func141.trans (congrArg some (by kernel_rfl))⟩
  f11 := ⟨Tryz.f204.name, by decide, Tryz.func204.trans (congrArg some (by kernel_rfl))⟩
  t0 := Tryz.underlying0
  a0 := Tryz.isAgg0
  z0 := Tryz.sizeOf0
  v0 := Tryz.zeroValue0
  t24 := Tryz.underlying132
  a24 := Tryz.isAgg132
  z24 := Tryz.sizeOf132
  v24 := Tryz.zeroValue132
  t26 := Tryz.underlying3
  a26 := Tryz.isAgg3
  z26 := Tryz.sizeOf3
  v26 := Tryz.zeroValue3
  t28 := Tryz.underlying177
  a28 := Tryz.isAgg177
  z28 := Tryz.sizeOf177
  v28 := Tryz.zeroValue177
  i26 := by kernel_rfl }
def Tryz.sorted_string_ren : Go.Shelf.Ren := ⟨fun | 6 => 45 | 8 => 85 | 9 => 86 | 11 => 131 | 13 => 133 | 12 => 132 | 23 => 186 | 24 => 187 | 14 => 177 | 15 => 178 | 16 => 179 | 17 => 180 | 18 => 181 | 19 => 182 | 20 => 183 | 21 => 184 | 22 => 185 | 25 => 235 | 26 => 236 | 27 => 237 | 28 => 238 | 29 => 239 | 30 => 240 | 31 => 275 | n => n, fun | 26 => 9 | 28 => 107 | 24 => 24 | 0 => 0 | 3 => 3 | 37 => 207 | 48 => 246 | 50 => 169 | 4 => 4 | 40 => 240 | 39 => 239 | 45 => 161 | 5 => 5 | 9 => 9 | 51 => 282 | 55 => 286 | 57 => 309 | 58 => 103 | 33 => 151 | n => n, fun | n => n⟩
theorem Tryz.sorted_string : Go.Proofs.SlLaysZ.n6 Tryz.prog Tryz.sorted_string_ren := {
  mixed := by kernel_rfl
  f6 := ⟨Tryz.f45.name, by decide, Tryz.func45.trans (congrArg some (by kernel_rfl))⟩
  f8 := ⟨Tryz.f85.name, by decide, Tryz.func85.trans (congrArg some (by kernel_rfl))⟩
  f11 := ⟨Tryz.f131.name, by decide, Tryz.func131.trans (congrArg some (by kernel_rfl))⟩
  t0 := Tryz.underlying0
  a0 := Tryz.isAgg0
  z0 := Tryz.sizeOf0
  v0 := Tryz.zeroValue0
  t24 := Tryz.underlying24
  a24 := Tryz.isAgg24
  z24 := Tryz.sizeOf24
  v24 := Tryz.zeroValue24
  t26 := Tryz.underlying9
  a26 := Tryz.isAgg9
  z26 := Tryz.sizeOf9
  v26 := Tryz.zeroValue9
  t28 := Tryz.underlying107
  a28 := Tryz.isAgg107
  z28 := Tryz.sizeOf107
  v28 := Tryz.zeroValue107
  i26 := by kernel_rfl }
end Go.Proofs

namespace Go.Proofs.Sm
open Go.RowKit Go.Maps Go.Sort Go.Shelf

theorem flat_one {α β : Type} (f : α → β) (l : List α) : (l.flatMap fun x => [f x]) = l.map f := by
  induction l with
  | nil => rfl
  | cons x l ih => rw [List.flatMap_cons, ih]; rfl
theorem sorts_string (m : Nat) : /- slices.Sorted at strings: 45 -/ AnyZ.SortsIn Tryz.prog Tryz.sorted_string_ren Fence.wide m :=
  ⟨fun blk off cap ss W hH hblk hsz => callsIn_wide.2 (Tryz.slices_Sort_string blk off cap ss W hH hblk hsz), fun p cap W => callsIn_wide.2 (Tryz.slices_Sort_string_none p cap W)⟩
theorem keys_mapstringbool (b : Nat) (w : World) : Calls Tryz.prog 231 #[.map (some b)] w fun e w' => e = .returned (.func (.func 270) #[] #[.pointer (some ⟨w.heap.size, 0, none⟩)]) ∧ w' = w.alloc (.cells #[.map (some b)] 150) :=
  (callsIn_wide (n := 5)).1 (AnyZ.keys_in Tryz.keys_mapstringbool Fence.wide 5 trivial rfl (some b) w)
set_option maxHeartbeats 1000000 in
theorem sorted_mapstringbool (b n : Nat) (f : List UInt8 → Option Value) (w : World) (h : MapIs Tryz.prog 9 w b n f) (hn : n ≤ 1000000000) :
    Calls Tryz.prog 45 #[.func (.func 270) #[] #[.pointer (some ⟨w.heap.size, 0, none⟩)]] (w.alloc (.cells #[.map (some b)] 150)) fun e w' =>
      ∃ ks A c, e = .returned (.slice A ks.length c) ∧ KeysAre f ks ∧ ks.length ≤ c ∧ c ≤ maxLen ∧ Sl w' (Lt w'.heap.size) A ks.length ks ∧ Below w.heap.size w w' := by
  obtain ⟨D0, hown, hsz, hnd, hmem, hlen⟩ := h.keys Tryz.underlying9
  have hbl := hown.lt
  have hseq : SeqGives Fence.wide 2 Tryz.prog 270 #[.pointer (some ⟨w.heap.size, 0, none⟩)] encStr (fun ss => ss.Perm (strKeys D0)) (Maps.size D0) (w.alloc (.cells #[.map (some b)] 150)) :=
    AnyZ.keys_gives (ρ := Tryz.keys_mapstringbool_ren) { Tryz.keys_mapstringbool with } Fence.wide _ trivial rfl (by omega) w.heap.size b n D0 _ (by simp) (by simp) (by
      obtain ⟨es, clock, hb, Ft, hs, hD⟩ := hown
      exact ⟨es, clock, (Below.heap_alloc _ _ b hbl).trans hb, Ft, hs, hD⟩)
  have hm1 : Maps.size D0 ≤ maxLen := by unfold maxLen; omega
  have cS := AnyZ.sorted_in Tryz.sorted_string Fence.wide 5 trivial trivial trivial trivial rfl (by omega) (sorts_string _) (enters_of Tryz.func86 (by kernel_rfl) rfl) 270 #[.pointer (some ⟨w.heap.size, 0, none⟩)] trivial (enters_of Tryz.func270 (by kernel_rfl) rfl) _ _ hm1 (by omega) _ hseq
  change CallsIn _ _ Tryz.prog 45 _ _ _ at cS
  refine (callsIn_wide.1 cS).mono ?_
  rintro e w' ⟨v, ss, rfl, hp, hrow, _, hb⟩
  obtain ⟨h1, h2⟩ := keysAre_of hp hnd hmem hlen
  have hl : ss.length = ((ss.mergeSort leB).map fun x => (⟨x.toArray⟩ : ByteArray)).length := by simp
  generalize hks : ((ss.mergeSort leB).map fun x => (⟨x.toArray⟩ : ByteArray)) = ks at h1 h2 hl
  have hrow2 : w'.ownsRow (w.alloc (.cells #[.map (some b)] 150)).heap.size 9 1 v ks.length (ks.flatMap fun x => [Value.string x]) := by
    rw [flat_one, ← h2, ← hl]
    exact hrow
  obtain ⟨A, c, rfl, h3, h4, h5⟩ := Sl.of_own (α := ByteArray) (cells := fun x => [Value.string x]) (fun _ => rfl) (fun x hx => ⟨rfl, h1.size x hx⟩) hrow2
  exact ⟨ks, A, c, rfl, h1, h3, h4, h5, ((Below.refl _ w).alloc (Nat.le_refl _) _).trans (hb.mono (by simp))⟩
theorem sorts_int (m : Nat) : /- slices.Sorted at ints: 103 -/ AnyZI.SortsIn Tryz.prog Tryz.sorted_int_ren Fence.wide m :=
  ⟨fun blk off cap ss W hH hblk hsz => callsIn_wide.2 (Tryz.slices_Sort_int blk off cap ss W hH hblk hsz), fun p cap W => callsIn_wide.2 (Tryz.slices_Sort_int_none p cap W)⟩
theorem keys_mapintbool (b : Nat) (w : World) : Calls Tryz.prog 104 #[.map (some b)] w fun e w' => e = .returned (.func (.func 143) #[] #[.pointer (some ⟨w.heap.size, 0, none⟩)]) ∧ w' = w.alloc (.cells #[.map (some b)] 174) :=
  (callsIn_wide (n := 5)).1 (AnyZI.keys_in Tryz.keys_mapintbool Fence.wide 5 trivial rfl (some b) w)
set_option maxHeartbeats 1000000 in
theorem sorted_mapintbool (b n m : Nat) (p : Nat → Bool) (f : Int → Option Value) (w : World) (h : MapZ Tryz.prog 3 w b n f) (hn : n ≤ 1000000000) (hm : m ≤ 1000000000) (hf : ∀ key, (f key).isSome = true ↔ ∃ i : Nat, i < m ∧ p i = true ∧ key = (i : Int)) :
    Calls Tryz.prog 103 #[.func (.func 143) #[] #[.pointer (some ⟨w.heap.size, 0, none⟩)]] (w.alloc (.cells #[.map (some b)] 174)) fun e w' =>
      ∃ v, e = .returned v ∧ RowK w' (w.heap.size + 1) 3 (fun _ => False) v ((List.range m).filter p) ∧ Below w.heap.size w w' := by
  obtain ⟨D0, hown, hsz, hnd, hmem⟩ := h.keys Tryz.underlying3
  have hbl := hown.lt
  have hseq : SeqGives Fence.wide 2 Tryz.prog 143 #[.pointer (some ⟨w.heap.size, 0, none⟩)] encZ (fun ss => ss.Perm (intKeys D0)) (Maps.size D0) (w.alloc (.cells #[.map (some b)] 174)) :=
    AnyZI.keys_gives (ρ := Tryz.keys_mapintbool_ren) { Tryz.keys_mapintbool with } Fence.wide _ trivial rfl (by omega) w.heap.size b n D0 _ (by simp) (by simp) (by
      obtain ⟨es, clock, hb, Ft, hs, hD⟩ := hown
      exact ⟨es, clock, (Below.heap_alloc _ _ b hbl).trans hb, Ft, hs, hD⟩)
  have hm1 : Maps.size D0 ≤ maxLen := by unfold maxLen; omega
  have cS := AnyZI.sorted_in Tryz.sorted_int Fence.wide 5 trivial trivial trivial trivial rfl (by omega) (sorts_int _) (enters_of Tryz.func142 (by kernel_rfl) rfl) 143 #[.pointer (some ⟨w.heap.size, 0, none⟩)] trivial (enters_of Tryz.func143 (by kernel_rfl) rfl) _ _ hm1 (by omega) _ hseq
  change CallsIn _ _ Tryz.prog 103 _ _ _ at cS
  refine (callsIn_wide.1 cS).mono ?_
  rintro e w' ⟨v, ss, rfl, hp, hrow, _, hb⟩
  have h1 := keys_filter (n := m) (p := p) hp hnd fun key => (hmem key).trans (hf key)
  have hl : ss.length = ((List.range m).filter p).length := by
    have := congrArg List.length h1
    simpa using this
  have hrow3 : w'.ownsRow (w.heap.size + 1) 3 1 v ((List.range m).filter p).length (((List.range m).filter p).map fun i : Nat => Value.int .i64 (i : Int)) := by
    rw [World.size_alloc] at hrow
    have e1 : (((List.range m).filter p).map fun i : Nat => Value.int .i64 (i : Int)) = (ss.mergeSort leI).map encZ := by rw [h1, List.map_map]; rfl
    rw [e1, ← hl]
    exact hrow
  refine ⟨v, rfl, ⟨fun _ hk => hk.elim, ((List.range m).filter p).map fun i : Nat => [Value.int .i64 (i : Int)], by simp, ?_, fun i x r hx hr => ?_⟩, ((Below.refl _ w).alloc (Nat.le_refl _) _).trans (hb.mono (by simp))⟩
  · have e2 : (((List.range m).filter p).map fun i : Nat => [Value.int .i64 (i : Int)]).flatten = ((List.range m).filter p).map fun i : Nat => Value.int .i64 (i : Int) := by
      generalize (List.range m).filter p = l
      induction l with
      | nil => rfl
      | cons x l ih => simp [ih]
    rw [e2]
    exact hrow3
  · rw [List.getElem?_map, hx] at hr
    cases hr
    have hxm := List.mem_of_getElem? hx
    simp only [List.mem_filter, List.mem_range] at hxm
    exact ⟨rfl, by unfold maxLen; omega⟩
end Go.Proofs.Sm

namespace Go.Proofs.Sm
open Go.RowKit

/-! ### The order of bytes -/
theorem bl_irrefl : ∀ a : List UInt8, Op.bytesLess a a = false
  | [] => rfl
  | c :: a => by simp [Op.bytesLess, bl_irrefl a]
theorem bl_trans : ∀ {a b c : List UInt8}, Op.bytesLess a b = true → Op.bytesLess b c = true → Op.bytesLess a c = true
  | _, [], _, h, _ => by simp [Op.bytesLess] at h
  | _, _ :: _, [], _, h => by simp [Op.bytesLess] at h
  | [], _ :: _, _ :: _, _, _ => rfl
  | x :: a, y :: b, z :: c, h1, h2 => by
    simp only [Op.bytesLess, Bool.or_eq_true, decide_eq_true_eq, Bool.and_eq_true, beq_iff_eq] at *
    rcases h1 with h1 | ⟨rfl, h1⟩
    · rcases h2 with h2 | ⟨rfl, h2⟩
      · exact .inl (UInt8.lt_trans h1 h2)
      · exact .inl h1
    · rcases h2 with h2 | ⟨rfl, h2⟩
      · exact .inl h2
      · exact .inr ⟨rfl, bl_trans h1 h2⟩
theorem bl_total : ∀ {a b : List UInt8}, Op.bytesLess a b = false → a ≠ b → Op.bytesLess b a = true
  | [], [], _, h => absurd rfl h
  | [], _ :: _, h, _ => by simp [Op.bytesLess] at h
  | _ :: _, [], _, _ => rfl
  | x :: a, y :: b, h, hne => by
    simp only [Op.bytesLess, Bool.or_eq_false_iff, decide_eq_false_iff_not, Bool.and_eq_false_iff, beq_eq_false_iff_ne, Bool.or_eq_true, decide_eq_true_eq, Bool.and_eq_true, beq_iff_eq] at *
    obtain ⟨h1, h2⟩ := h
    by_cases hxy : x = y
    · subst hxy
      refine .inr ⟨rfl, bl_total (h2.resolve_left (fun h => h rfl)) (fun e => hne (by rw [e]))⟩
    · left
      rcases UInt8.lt_or_lt_of_ne hxy with h | h
      · exact absurd h h1
      · exact h
theorem leS_lt {a b : ByteArray} (h : leS a b = false) : ltS b a = true := by
  simp only [leS, Bool.or_eq_false_iff, beq_eq_false_iff_ne] at h
  exact bl_total h.1 h.2

/-! ### Files -/
def fileErr (prev : Option ByteArray) (x : FileV) : Int :=
  if isPathS x.path = false then 3 else if 100000 < (x.bytes.length : Int) then 2 else if notAfter prev x.path then 8 else 0
def filesErr : Option ByteArray → List FileV → Int
  | _, [] => 0
  | prev, x :: r => if fileErr prev x = 0 then filesErr (some x.path) r else fileErr prev x
def hasPath (l : List FileV) (p : List UInt8) : Bool := l.any fun y => y.path.data.toList == p
/-- a path lies within that of one of the files: from byte i on -/
def clashFrom (l : List FileV) (p : ByteArray) : Nat → Nat → Bool
  | 0, _ => false
  | n + 1, i => (decide (p.data.toList[i]? = some 47) && hasPath l (p.data.toList.take i)) || clashFrom l p n (i + 1)
theorem clash_yes {l : List FileV} {p : ByteArray} {k : Nat} (hk : k < p.size) (h : (p[k].toNat : Int) = 47) (hh : hasPath l (p.data.toList.take k) = true) : clashFrom l p (p.size - k) k = true := by
  rw [show p.size - k = (p.size - (k + 1)) + 1 by omega, clashFrom, hh]
  have e : p.data.toList[k]? = some 47 := by
    have e1 : p.data.toList[k]? = some p[k] := by
      rw [Array.getElem?_toList]
      exact Array.getElem?_eq_getElem hk
    rw [e1]
    congr 1
    apply UInt8.toNat_inj.1
    have : (47 : UInt8).toNat = 47 := rfl
    omega
  simp [e]
theorem clash_slash {l : List FileV} {p : ByteArray} {k : Nat} (hk : k < p.size) (hh : hasPath l (p.data.toList.take k) = false) : clashFrom l p (p.size - k) k = clashFrom l p (p.size - (k + 1)) (k + 1) := by
  rw [show p.size - k = (p.size - (k + 1)) + 1 by omega, clashFrom, hh]
  simp
theorem clash_other {l : List FileV} {p : ByteArray} {k : Nat} (hk : k < p.size) (h : (p[k].toNat : Int) ≠ 47) : clashFrom l p (p.size - k) k = clashFrom l p (p.size - (k + 1)) (k + 1) := by
  rw [show p.size - k = (p.size - (k + 1)) + 1 by omega, clashFrom]
  have e : ¬ p.data.toList[k]? = some 47 := by
    have e1 : p.data.toList[k]? = some p[k] := by
      rw [Array.getElem?_toList]
      exact Array.getElem?_eq_getElem hk
    rw [e1]
    intro e2
    have e3 : p[k] = 47 := by simpa using e2
    rw [e3] at h
    exact h rfl
  rw [decide_eq_false e]
  simp
def clashS (l : List FileV) (p : ByteArray) : Bool := clashFrom l p p.size 0
def totalS (l : List FileV) : Nat := (l.map fun x => x.bytes.length).sum
def checkFilesS (l : List FileV) : Int :=
  if 1000 < (l.length : Int) then 2 else if filesErr none l ≠ 0 then filesErr none l else if l.any (fun x => clashS l x.path) then 12 else if 2000000 < (totalS l : Int) then 2 else 0
theorem files_round {l : List FileV} {k : Nat} {x : FileV} (hx : l[k]? = some x) (h : fileErr (ahead FileV.path l k) x = 0) :
    filesErr (ahead FileV.path l k) (l.drop k) = filesErr (ahead FileV.path l (k + 1)) (l.drop (k + 1)) := by
  rw [drop_at hx, filesErr, if_pos h, ahead_succ hx]
theorem files_stop {l : List FileV} {k : Nat} {x : FileV} {e : Int} (hx : l[k]? = some x) (h : fileErr (ahead FileV.path l k) x = e) (he : e ≠ 0) :
    filesErr (ahead FileV.path l k) (l.drop k) = e := by
  rw [drop_at hx, filesErr, if_neg (by rw [h]; exact he), h]
section
variable {prev : Option ByteArray} {x : FileV}
theorem fileErr_path (hp : isPathS x.path = false) : fileErr prev x = 3 := by simp [fileErr, hp]
theorem fileErr_large (hp : isPathS x.path = true) (h : (100000 : Int) < x.bytes.length) : fileErr prev x = 2 := by simp only [fileErr, hp, if_pos h]; rfl
theorem fileErr_rest (hp : isPathS x.path = true) (h : ¬ (100000 : Int) < x.bytes.length) : fileErr prev x = if notAfter prev x.path then 8 else 0 := by simp only [fileErr, hp, if_neg h]; rfl
end
theorem total_succ {l : List FileV} {k : Nat} {x : FileV} (hx : l[k]? = some x) : totalS (l.take (k + 1)) = totalS (l.take k) + x.bytes.length := by
  unfold totalS
  rw [List.take_add_one, hx, List.map_append, List.sum_append]
  simp
theorem total_le {l : List FileV} {m : Nat} (h : ∀ x ∈ l, x.bytes.length ≤ m) : totalS l ≤ m * l.length := by
  induction l with
  | nil => simp [totalS]
  | cons x l ih =>
    have h1 := h x (by simp)
    have h2 := ih (fun y hy => h y (by simp [hy]))
    unfold totalS at *
    simp only [List.map_cons, List.sum_cons, List.length_cons, Nat.mul_succ]
    omega
theorem hasPath_succ {l : List FileV} {k : Nat} {x : FileV} (hx : l[k]? = some x) (p : List UInt8) : hasPath (l.take (k + 1)) p = (hasPath (l.take k) p || x.path.data.toList == p) := by
  unfold hasPath
  rw [List.take_add_one, hx, List.any_append]
  simp

/-- in increasing order -/
def Sorted (l : List FileV) : Prop := ∀ (i j : Nat) (x y : FileV), i < j → l[i]? = some x → l[j]? = some y → ltS x.path y.path = true
theorem filesErr_step {l : List FileV} : ∀ (prev : Option ByteArray), filesErr prev l = 0 → ∀ i x, l[i]? = some x → (if i = 0 then notAfter prev x.path = false else ∀ y, l[i - 1]? = some y → ltS y.path x.path = true) ∧ isPathS x.path = true ∧ x.bytes.length ≤ 100000 := by
  induction l with
  | nil => intro _ _ i x hx; simp at hx
  | cons a l ih =>
    intro prev h i x hx
    rw [filesErr] at h
    split at h
    · rename_i h0
      cases i with
      | zero =>
        obtain rfl : a = x := by simpa using hx
        simp only [fileErr] at h0
        split at h0
        · omega
        · split at h0
          · omega
          · split at h0
            · omega
            · rename_i h1 h2 h3
              refine ⟨by simpa using h3, by simpa using h1, by omega⟩
      | succ i =>
        have hx' : l[i]? = some x := by simpa using hx
        obtain ⟨h1, h2⟩ := ih _ h i x hx'
        refine ⟨?_, h2⟩
        simp only [Nat.add_one_ne_zero, if_false]
        intro y hy
        cases i with
        | zero =>
          obtain rfl : a = y := by simpa using hy
          simp only [if_true, notAfter] at h1
          exact leS_lt h1
        | succ i =>
          simp only [Nat.add_one_ne_zero, if_false] at h1
          exact h1 y (by simpa using hy)
    · exact absurd h ‹_›
theorem sorted_of {l : List FileV} (h : filesErr none l = 0) : Sorted l := by
  have key : ∀ d i x y, l[i]? = some x → l[i + d + 1]? = some y → ltS x.path y.path = true := by
    intro d
    induction d with
    | zero =>
      intro i x y hx hy
      have := (filesErr_step none h (i + 1) y (by simpa using hy)).1
      simp only [Nat.add_one_ne_zero, if_false] at this
      exact this x (by simpa using hx)
    | succ d ih =>
      intro i x y hx hy
      obtain ⟨z, hz⟩ : ∃ z, l[i + d + 1]? = some z := by
        have := (List.getElem?_eq_some_iff.1 hy).1
        exact ⟨l[i + d + 1]'(by omega), List.getElem?_eq_getElem _⟩
      have h1 := ih i x z hx hz
      have := (filesErr_step none h (i + d + 1 + 1) y hy).1
      simp only [Nat.add_one_ne_zero, if_false] at this
      exact bl_trans h1 (this z (by simpa using hz))
  intro i j x y hij hx hy
  exact key (j - i - 1) i x y hx (by rw [show i + (j - i - 1) + 1 = j by omega]; exact hy)
end Go.Proofs.Sm

namespace Go.Proofs.Sm
open Go.RowKit

/-- What stands ahead of i comes before p; what stands from j on does not. -/
def Halves (l : List FileV) (p : ByteArray) (i j : Nat) : Prop :=
  i ≤ j ∧ j ≤ l.length ∧ (∀ m x, m < i → l[m]? = some x → ltS x.path p = true) ∧ (∀ m x, j ≤ m → l[m]? = some x → ltS x.path p = false)
theorem Halves.start (l : List FileV) (p : ByteArray) : Halves l p 0 l.length :=
  ⟨Nat.zero_le _, Nat.le_refl _, fun m x h => absurd h (by omega), fun m x h hx => by
    have := (List.getElem?_eq_some_iff.1 hx).1
    omega⟩
section
variable {l : List FileV} {p : ByteArray} {i j m : Nat} {x : FileV}
theorem Halves.up (h : Halves l p i j) (hs : Sorted l) (him : i ≤ m) (hmj : m < j) (hx : l[m]? = some x) (hlt : ltS x.path p = true) : Halves l p (m + 1) j := by
  refine ⟨hmj, h.2.1, fun q y hq hy => ?_, h.2.2.2⟩
  by_cases hqm : q = m
  · subst hqm
    rw [hx] at hy
    cases hy
    exact hlt
  · exact bl_trans (hs q m y x (by omega) hy hx) hlt
theorem Halves.down (h : Halves l p i j) (hs : Sorted l) (him : i ≤ m) (hmj : m < j) (hx : l[m]? = some x) (hlt : ltS x.path p = false) : Halves l p i m := by
  refine ⟨him, by have := h.2.1; omega, h.2.2.1, fun q y hq hy => ?_⟩
  by_cases hqm : q = m
  · subst hqm
    rw [hx] at hy
    cases hy
    exact hlt
  · have h1 := hs m q x y (by omega) hx hy
    cases hyp : ltS y.path p
    · rfl
    · exact absurd (bl_trans h1 hyp) (by rw [show Op.bytesLess x.path.toList p.toList = false from hlt]; decide)
theorem lt_ne {a b : ByteArray} (h : ltS a b = true) : (a.toList == b.toList) = false := by
  simp only [beq_eq_false_iff_ne]
  intro e
  unfold ltS at h
  rw [e, bl_irrefl] at h
  exact absurd h (by decide)
theorem data_beq (a b : ByteArray) : (a.data.toList == b.data.toList) = (a.toList == b.toList) := by rw [Lib.toList_data, Lib.toList_data]
/-- Where the halves meet the place is found, if there is one. -/
theorem Halves.miss (h : Halves l p i i) (hs : Sorted l) (hno : ∀ y, l[i]? = some y → (y.path.toList == p.toList) = false) : hasPath l p.data.toList = false := by
  unfold hasPath
  rw [List.any_eq_false]
  intro y hy
  obtain ⟨q, hq⟩ := List.getElem?_of_mem hy
  rw [data_beq]
  rcases Nat.lt_trichotomy q i with h1 | h1 | h1
  · rw [lt_ne (h.2.2.1 q y h1 hq)]; decide
  · subst h1; rw [hno y hq]; decide
  · obtain ⟨z, hz⟩ : ∃ z, l[i]? = some z := ⟨l[i]'(by have := (List.getElem?_eq_some_iff.1 hq).1; omega), List.getElem?_eq_getElem _⟩
    have h2 := hs i q z y h1 hz hq
    have h3 := h.2.2.2 i z (Nat.le_refl _) hz
    have h4 : ltS p z.path = true := bl_total h3 (by have := hno z hz; simpa using this)
    have h5 := lt_ne (bl_trans h4 h2)
    simp only [beq_eq_false_iff_ne, Bool.not_eq_true] at *
    exact fun e => h5 e.symm
theorem hasPath_at (hx : l[i]? = some x) (he : (x.path.toList == p.toList) = true) : hasPath l p.data.toList = true := by
  unfold hasPath
  rw [List.any_eq_true]
  exact ⟨x, List.mem_of_getElem? hx, by rw [data_beq]; exact he⟩
end
end Go.Proofs.Sm

namespace Go.Proofs.Sm
open Go.RowKit

def eqp (p : ByteArray) (y : FileV) : Bool := y.path.toList == p.toList
def lookAtS (l : List FileV) (p : ByteArray) : Look := match l.find? (eqp p) with
  | none => ⟨p, ⟨#[]⟩, false⟩
  | some x => ⟨p, digestS x.bytes, x.run⟩
/-- Where a file stands, or -1. -/
def FindIs (l : List FileV) (p : ByteArray) (r : Int) : Prop := (r = -1 ∧ l.find? (eqp p) = none) ∨ ∃ (k : Nat) (x : FileV), r = k ∧ l[k]? = some x ∧ l.find? (eqp p) = some x
theorem find_none_succ {l : List FileV} {p : ByteArray} {k : Nat} {x : FileV} (hx : l[k]? = some x) (h : (l.take k).find? (eqp p) = none) (hn : (x.path.toList == p.toList) = false) : (l.take (k + 1)).find? (eqp p) = none := by
  rw [List.take_add_one, hx, List.find?_append, h]
  simp [eqp, hn]
theorem find_hit {l : List FileV} {p : ByteArray} {k : Nat} {x : FileV} (hx : l[k]? = some x) (h : (l.take k).find? (eqp p) = none) (hn : (x.path.toList == p.toList) = true) : l.find? (eqp p) = some x := by
  have e : l = l.take k ++ x :: l.drop (k + 1) := by rw [← drop_at hx, List.take_append_drop]
  rw [e, List.find?_append, h]
  simp [eqp, hn]
theorem find_end {l : List FileV} {p : ByteArray} {k : Nat} (hk : ¬ k < l.length) (h : (l.take k).find? (eqp p) = none) : l.find? (eqp p) = none := by
  rwa [List.take_of_length_le (by omega)] at h
theorem lookAt_none {l : List FileV} {p : ByteArray} (h : l.find? (eqp p) = none) : lookAtS l p = ⟨p, ⟨#[]⟩, false⟩ := by simp [lookAtS, h]
theorem lookAt_some {l : List FileV} {p : ByteArray} {x : FileV} (h : l.find? (eqp p) = some x) : lookAtS l p = ⟨p, digestS x.bytes, x.run⟩ := by simp [lookAtS, h]
theorem find_sorted {l : List FileV} {p : ByteArray} {k : Nat} {x : FileV} (hso : Sorted l) (hx : l[k]? = some x) (hn : (x.path.toList == p.toList) = true) : l.find? (eqp p) = some x := by
  refine find_hit hx ?_ hn
  rw [List.find?_eq_none]
  intro y hy
  obtain ⟨q, hq⟩ := List.getElem?_of_mem hy
  rw [List.getElem?_take] at hq
  split at hq
  · rename_i hqk
    have h1 := lt_ne (hso q k y x hqk hq hx)
    simp only [eqp, beq_iff_eq, beq_eq_false_iff_ne] at *
    rw [← hn]; exact h1
  · cases hq
theorem Halves.none {l : List FileV} {p : ByteArray} {i : Nat} (h : Halves l p i i) (hs : Sorted l) (hno : ∀ y, l[i]? = some y → (y.path.toList == p.toList) = false) : l.find? (eqp p) = Option.none := by
  have := h.miss hs hno
  unfold hasPath at this
  rw [List.any_eq_false] at this
  rw [List.find?_eq_none]
  intro y hy
  have h1 := this y hy
  rw [data_beq] at h1
  simpa [eqp] using h1
end Go.Proofs.Sm

namespace Go.Proofs.Sm
open Go.RowKit

structure ResultV where
  code : Int
  text : ByteArray
  files : List FileV
  looks : List Look
  command : Int

/-! ### Texts that are told -/
def textI (c : Int) : Bool := c == 10 || (decide (32 ≤ c) && decide (c ≤ 126))
def textB (c : UInt8) : Bool := textI (c.toNat : Int)
def endsS (l : List UInt8) : Bool := l.isEmpty || l.getLast? == some 10
def isTextS (s : ByteArray) : Bool := s.data.toList.all textB && endsS s.data.toList

theorem decode_small {s : ByteArray} {i : Nat} (h : (s.get! i).toNat < 128) : Utf8.decode s i = ((s.get! i).toNat, 1) := by
  have h' : (s.get! (i + 0)).toNat < 0x80 := h
  simp only [Utf8.decode, if_pos h']
  rfl
theorem decode_big {s : ByteArray} {i : Nat} (h : 128 ≤ (s.get! i).toNat) : 128 ≤ (Utf8.decode s i).1 := by
  have h' : ¬ (s.get! (i + 0)).toNat < 0x80 := by
    show ¬ (s.get! i).toNat < 128
    omega
  simp only [Utf8.decode, if_neg h']
  repeat' split
  all_goals (first | (unfold Utf8.runeError; omega) | omega | (simp only [Bool.and_eq_true, decide_eq_true_eq, ge_iff_le] at *; omega))
theorem idxFuncFrom_bytes (p : Nat → Bool) (hp : ∀ x, 127 ≤ x → p x = true) (s : ByteArray) : ∀ (f pos : Nat), s.size ≤ pos + f → decide (0 ≤ Lib.idxFuncFrom p true s f pos) = (s.data.toList.drop pos).any (fun c => p c.toNat)
  | 0, pos, h => by
    rw [List.drop_eq_nil_of_le (by simp; exact h)]
    simp [Lib.idxFuncFrom]
  | f + 1, pos, h => by
    rw [Lib.idxFuncFrom]
    by_cases hlt : pos < s.size
    · rw [if_pos hlt]
      have hlt' : pos < s.data.toList.length := by simpa using hlt
      rw [List.drop_eq_getElem_cons hlt', List.any_cons]
      have hg : s.get! pos = s.data.toList[pos] := by
        show s.data[pos]! = _
        rw [getElem!_pos s.data pos (by simpa using hlt)]
        simp
      by_cases h128 : (s.get! pos).toNat < 128
      · rw [decode_small h128, hg]
        cases hq : p s.data.toList[pos].toNat
        · simp only [Bool.false_eq_true, if_false, Bool.false_or]
          exact idxFuncFrom_bytes p hp s f (pos + 1) (by omega)
        · simp
      · have h2 := decode_big (s := s) (i := pos) (by omega)
        rw [hp _ (by omega), if_pos rfl, ← hg, hp _ (by omega)]
        simp
    · rw [if_neg hlt, List.drop_eq_nil_of_le (by simp; omega)]
      simp
theorem idxFunc_bytes (p : Nat → Bool) (hp : ∀ x, 127 ≤ x → p x = true) (s : ByteArray) : decide (0 ≤ Lib.idxFunc p true s) = s.data.toList.any (fun c => p c.toNat) :=
  idxFuncFrom_bytes p hp s s.size 0 (by omega)

/-- no byte of a text is another one -/
def untold (x : Nat) : Bool := !(textI (x : Int))
theorem untold_big (x : Nat) (h : 127 ≤ x) : untold x = true := by
  simp only [untold, textI, Bool.not_eq_true', Bool.or_eq_false_iff, beq_eq_false_iff_ne, Bool.and_eq_false_iff, decide_eq_false_iff_not]
  omega
theorem untold_any (s : ByteArray) : decide (0 ≤ Lib.idxFunc untold true s) = !(s.data.toList.all textB) := by
  rw [idxFunc_bytes untold untold_big, List.not_all_eq_any_not]
  rfl
theorem ends_suffix (l : List UInt8) (h : l ≠ []) : Lib.hasSuffix l [10] = endsS l := by
  unfold Lib.hasSuffix endsS
  rw [Bool.eq_iff_iff, List.isSuffixOf_iff_suffix]
  rcases List.eq_nil_or_concat l with rfl | ⟨l', x, rfl⟩
  · exact absurd rfl h
  · rw [List.concat_eq_append, List.getLast?_append]
    simp only [List.getLast?_singleton, Option.some_or, Bool.or_eq_true, List.isEmpty_iff, List.append_eq_nil_iff, List.cons_ne_self, and_false, false_or, beq_iff_eq, Option.some.injEq]
    constructor
    · rintro ⟨q, hq⟩
      have := List.append_inj_right' hq rfl
      simp at this
      exact this.symm
    · rintro rfl
      exact ⟨l', rfl⟩
theorem ends_nil : endsS [] = true := rfl
theorem ends_at (s : ByteArray) (h : s.size - 1 < s.size) : endsS s.data.toList = ((s[s.size - 1].toNat : Int) == 10) := by
  have hlast : s.data.toList.getLast? = some s[s.size - 1] := by
    rw [List.getLast?_eq_getElem?]
    have e : s.data.toList.length - 1 = s.size - 1 := by simp
    rw [e, Array.getElem?_toList]
    exact Array.getElem?_eq_getElem h
  have hne : s.data.toList.isEmpty = false := by
    cases hl : s.data.toList with
    | nil => rw [hl] at hlast; cases hlast
    | cons a l => rfl
  rw [endsS, hne, hlast, Bool.false_or, Bool.eq_iff_iff]
  simp only [beq_iff_eq, Option.some.injEq]
  constructor
  · intro e; rw [e]; rfl
  · intro e
    apply UInt8.toNat_inj.1
    have : (10 : UInt8).toNat = 10 := rfl
    omega
def checkResultS (r : ResultV) : Int :=
  if (withinB r.code 0 999999 && withinB r.command 0 50) = false then 1
  else if 100000 < (r.text.size : Int) then 2
  else if isTextS r.text = false then 3
  else if checkFilesS r.files ≠ 0 then checkFilesS r.files
  else if (!r.files.isEmpty && r.code != 0) = true then 3
  else checkLooksS r.looks

/-! ### The text of a result -/
def signB (r : Bool) : List UInt8 := if r then [120] else [45]
def digestOr (d : ByteArray) : List UInt8 := if d.data.toList.isEmpty then [45] else d.data.toList
def lookLineS (x : Look) : List UInt8 := [108, 111, 111, 107, 32] ++ x.path.data.toList ++ [32] ++ digestOr x.digest ++ [32] ++ signB x.run ++ [10]
def fileHeadS (x : FileV) : List UInt8 := [102, 105, 108, 101, 32] ++ x.path.data.toList ++ [32] ++ signB x.run ++ [32] ++ Lib.itoa x.bytes.length ++ [10]
def fileTextS (x : FileV) : List UInt8 := fileHeadS x ++ x.bytes ++ [10]
def headTextS (r : ResultV) : List UInt8 := [99, 111, 100, 101, 32] ++ Lib.itoa r.code ++ [32] ++ Lib.itoa r.command ++ [10, 116, 101, 120, 116, 32] ++ Lib.itoa r.text.size ++ [10] ++ r.text.data.toList
def resultTextL (r : ResultV) : List UInt8 := headTextS r ++ r.files.flatMap fileTextS ++ r.looks.flatMap lookLineS
def resultTextErr (r : ResultV) : Int := if checkResultS r ≠ 0 then checkResultS r else if 4000000 < ((resultTextL r).length : Int) then 2 else 0
def resultTextS (r : ResultV) : ByteArray := if resultTextErr r = 0 then ⟨(resultTextL r).toArray⟩ else ⟨#[]⟩
end Go.Proofs.Sm

namespace Go.Proofs.Sm
open Go.RowKit

theorem path_size {s : ByteArray} (h : isPathS s = true) : s.size ≤ 200 := by
  have := (withinB_true ((Bool.and_eq_true_iff.1 h).1)).2
  omega
theorem looksErr_all {l : List Look} : ∀ prev, looksErr prev l = 0 → ∀ x ∈ l, ∃ q, lookErr q x = 0 := by
  induction l with
  | nil => intro _ _ x hx; simp at hx
  | cons a l ih =>
    intro prev h x hx
    rw [looksErr] at h
    split at h
    · rename_i h0
      rcases List.mem_cons.1 hx with rfl | hx
      · exact ⟨_, h0⟩
      · exact ih _ h x hx
    · exact absurd h ‹_›
theorem lookErr_zero {q : Option ByteArray} {x : Look} (h : lookErr q x = 0) : isPathS x.path = true ∧ (x.digest.toList.isEmpty = true ∨ isDigestS x.digest = true) ∧ (x.digest.toList.isEmpty = true → x.run = false) := by
  unfold lookErr at h
  split at h
  · omega
  · split at h
    · omega
    · split at h
      · omega
      · rename_i h1 h2 h3
        refine ⟨by simpa using h1, ?_, fun he => ?_⟩
        · cases he : x.digest.toList.isEmpty
          · right
            cases hd : isDigestS x.digest
            · rw [he, hd] at h2; simp at h2
            · rfl
          · left; rfl
        · cases hr : x.run
          · rfl
          · rw [he, hr] at h3
            simp at h3
theorem looks_all {l : List Look} (h : checkLooksS l = 0) : ∀ x ∈ l, isPathS x.path = true ∧ (x.digest.toList.isEmpty = true ∨ isDigestS x.digest = true) ∧ (x.digest.toList.isEmpty = true → x.run = false) := by
  unfold checkLooksS at h
  split at h
  · omega
  · intro x hx
    obtain ⟨q, hq⟩ := looksErr_all _ h x hx
    exact lookErr_zero hq
theorem digest_size {s : ByteArray} (h : s.toList.isEmpty = true ∨ isDigestS s = true) : s.size ≤ 16 := by
  rcases h with h | h
  · rw [Lib.toList_data, List.isEmpty_iff] at h
    have := congrArg List.length h
    simp at this
    simp [ByteArray.size, this]
  · have := (Bool.and_eq_true_iff.1 h).2
    simp at this
    omega
theorem looks_sizes {l : List Look} (h : checkLooksS l = 0) : ∀ x ∈ l, x.path.size ≤ 200 ∧ x.digest.size ≤ 16 := fun x hx =>
  ⟨path_size (looks_all h x hx).1, digest_size (looks_all h x hx).2.1⟩
theorem checkFiles_err {l : List FileV} (h : checkFilesS l = 0) : l.length ≤ 1000 ∧ filesErr none l = 0 ∧ l.any (fun x => clashS l x.path) = false ∧ totalS l ≤ 2000000 := by
  unfold checkFilesS at h
  split at h
  · omega
  · split at h
    · rename_i h1; exact absurd h h1
    · split at h
      · omega
      · split at h
        · omega
        · rename_i h1 h2 h3 h4
          refine ⟨by omega, by simpa using h2, by simpa using h3, by omega⟩
theorem files_sizes {l : List FileV} (h : checkFilesS l = 0) : ∀ x ∈ l, x.path.size ≤ 200 ∧ x.bytes.length ≤ 100000 := by
  intro x hx
  obtain ⟨i, hi⟩ := List.getElem?_of_mem hx
  have := filesErr_step none (checkFiles_err h).2.1 i x hi
  exact ⟨path_size this.2.1, this.2.2⟩
structure ResOk (r : ResultV) : Prop where
  code : 0 ≤ r.code ∧ r.code ≤ 999999
  command : 0 ≤ r.command ∧ r.command ≤ 50
  text : r.text.size ≤ 100000
  told : isTextS r.text = true
  files : checkFilesS r.files = 0
  none : r.code ≠ 0 → r.files = []
  looks : checkLooksS r.looks = 0
theorem checkResult_ok {r : ResultV} (h : checkResultS r = 0) : ResOk r := by
  unfold checkResultS at h
  split at h
  · omega
  · split at h
    · omega
    · split at h
      · omega
      · split at h
        · rename_i h1; exact absurd h h1
        · split at h
          · omega
          · rename_i h1 h2 h3 h4 h5
            simp only [Bool.not_eq_false, Bool.and_eq_true] at h1
            have h6 := withinB_true h1.1
            have h7 := withinB_true h1.2
            refine ⟨h6, h7, by omega, by simpa using h3, by simpa using h4, fun hc => ?_, h⟩
            cases hf : r.files with
            | nil => rfl
            | cons a l => rw [hf] at h5; simp at h5; exact absurd h5 hc
theorem itoa_short (n : Nat) (h : n ≤ 9223372036854775807) : (Lib.itoa n).length ≤ 21 := Lib.itoa_length_le n (by omega) (by omega)
theorem fileHead_length (x : FileV) (h1 : x.path.size ≤ 200) (h2 : x.bytes.length ≤ 100000) : (fileHeadS x).length ≤ 240 := by
  have h3 := itoa_short x.bytes.length (by omega)
  have h4 : (signB x.run).length = 1 := by cases x.run <;> rfl
  have h5 : x.path.data.toList.length = x.path.size := by simp
  simp only [fileHeadS, List.length_append, List.length_cons, List.length_nil, h4, h5]
  omega
theorem fileText_length (x : FileV) (h1 : x.path.size ≤ 200) (h2 : x.bytes.length ≤ 100000) : (fileTextS x).length ≤ 100300 := by
  have := fileHead_length x h1 h2
  simp only [fileTextS, List.length_append, List.length_cons, List.length_nil]
  omega
theorem lookLine_length (x : Look) (h1 : x.path.size ≤ 200) (h2 : x.digest.size ≤ 16) : (lookLineS x).length ≤ 230 := by
  have h4 : (signB x.run).length = 1 := by cases x.run <;> rfl
  have h5 : x.path.data.toList.length = x.path.size := by simp
  have h6 : (digestOr x.digest).length ≤ 16 := by
    unfold digestOr
    split
    · simp
    · have : x.digest.data.toList.length = x.digest.size := by simp
      omega
  simp only [lookLineS, List.length_append, List.length_cons, List.length_nil, h4, h5]
  omega
theorem flatMap_length {α : Type} {f : α → List UInt8} {m : Nat} : ∀ {l : List α}, (∀ x ∈ l, (f x).length ≤ m) → (l.flatMap f).length ≤ m * l.length
  | [], _ => by simp
  | a :: l, h => by
    have h1 := h a (by simp)
    have h2 := flatMap_length (l := l) (fun x hx => h x (by simp [hx]))
    simp only [List.flatMap_cons, List.length_append, List.length_cons, Nat.mul_succ]
    omega
theorem files_length {r : ResultV} (h : ResOk r) (k : Nat) : ((r.files.take k).flatMap fileTextS).length ≤ 100300000 := by
  have h1 := (checkFiles_err h.files).1
  have h2 := flatMap_length (f := fileTextS) (m := 100300) (l := r.files.take k) (fun x hx => by
    have := files_sizes h.files x (List.mem_of_mem_take hx)
    exact fileText_length x this.1 this.2)
  have h3 : (r.files.take k).length ≤ 1000 := by rw [List.length_take]; omega
  have : 100300 * (r.files.take k).length ≤ 100300 * 1000 := Nat.mul_le_mul_left _ h3
  omega
theorem looks_length {r : ResultV} (h : ResOk r) (k : Nat) : ((r.looks.take k).flatMap lookLineS).length ≤ 920000 := by
  have h1 : r.looks.length ≤ 4000 := by
    have := h.looks
    unfold checkLooksS at this
    split at this
    · omega
    · omega
  have h2 := flatMap_length (f := lookLineS) (m := 230) (l := r.looks.take k) (fun x hx => by
    have := looks_sizes h.looks x (List.mem_of_mem_take hx)
    exact lookLine_length x this.1 this.2)
  have h3 : (r.looks.take k).length ≤ 4000 := by rw [List.length_take]; omega
  have : 230 * (r.looks.take k).length ≤ 230 * 4000 := Nat.mul_le_mul_left _ h3
  omega
theorem head_length {r : ResultV} (h : ResOk r) : (headTextS r).length ≤ 100100 := by
  have h1 := Lib.itoa_length_le r.code (by have := h.code; omega) (by have := h.code; omega)
  have h2 := Lib.itoa_length_le r.command (by have := h.command; omega) (by have := h.command; omega)
  have h3 := itoa_short r.text.size (by have := h.text; omega)
  have h4 : r.text.data.toList.length = r.text.size := by simp
  have h5 := h.text
  simp only [headTextS, List.length_append, List.length_cons, List.length_nil, h4]
  omega
theorem flatMap_succ {α : Type} {f : α → List UInt8} {l : List α} {k : Nat} {x : α} (hx : l[k]? = some x) : (l.take (k + 1)).flatMap f = (l.take k).flatMap f ++ f x := by
  rw [List.take_add_one, hx, List.flatMap_append]
  simp
end Go.Proofs.Sm

namespace Go.Proofs.Sm
open Go.RowKit

structure VarV where
  name : ByteArray
  value : ByteArray
structure ActionV where
  tool : ByteArray
  commands : List (List ByteArray)
  vars : List VarV
  outputs : List ByteArray
  needs : List VarV
  time : Int

instance : Rep VarV where
  sz := 2
  rep _ _ x vs := vs = [.string x.name, .string x.value] ∧ x.name.size ≤ maxLen ∧ x.value.size ≤ maxLen
  len h := by rw [h.1]; rfl
  keep _ h := h
  more _ h := h
theorem Sl.var {w : World} {S : Nat → Prop} {A : Option Addr} {n k : Nat} {l : List VarV} (h : Sl w S A n l) (hk : k < n) :
    ∃ b o x, A = some ⟨b, o, none⟩ ∧ S b ∧ l[k]? = some x ∧ x.name.size ≤ maxLen ∧ x.value.size ≤ maxLen ∧
      w.cell? ⟨b, o + k * 2, none⟩ = some (.string x.name) ∧ w.cell? ⟨b, o + k * 2 + 1, none⟩ = some (.string x.value) := by
  have hk' : k < l.length := by rw [h.1]; exact hk
  obtain ⟨b, o, vs, e, hb, ⟨rfl, h1, h2⟩, ha⟩ := h.at hk'
  exact ⟨b, o, _, e, hb, List.getElem?_eq_getElem hk', h1, h2, ha 0 _ rfl, ha 1 _ rfl⟩
/-- a list of lists -/
theorem Sl.row {α : Type} [Rep α] {w : World} {S : Nat → Prop} {A : Option Addr} {n k : Nat} {l : List (List α)} (h : Sl w S A n l) (hk : k < n) :
    ∃ b o x A' n' c', A = some ⟨b, o, none⟩ ∧ S b ∧ l[k]? = some x ∧ n' ≤ c' ∧ c' ≤ maxLen ∧ Sl w S A' n' x ∧ w.cell? ⟨b, o + k, none⟩ = some (.slice A' n' c') := by
  have hk' : k < l.length := by rw [h.1]; exact hk
  obtain ⟨b, o, vs, e, hb, ⟨A', n', c', rfl, h2, h3, h4⟩, ha⟩ := h.at hk'
  have h0 := ha 0 _ rfl
  simp only [Rep.sz, Nat.mul_one, Nat.add_zero] at h0
  exact ⟨b, o, _, A', n', c', e, hb, List.getElem?_eq_getElem hk', h2, h3, h4, h0⟩

/-! ### Lists of things in order -/
def listErr {α : Type} (err : Option ByteArray → α → Int) (key : α → ByteArray) : Option ByteArray → List α → Int
  | _, [] => 0
  | prev, x :: r => if err prev x = 0 then listErr err key (some (key x)) r else err prev x
theorem list_round {α : Type} {err : Option ByteArray → α → Int} {key : α → ByteArray} {l : List α} {k : Nat} {x : α} (hx : l[k]? = some x) (h : err (ahead key l k) x = 0) :
    listErr err key (ahead key l k) (l.drop k) = listErr err key (ahead key l (k + 1)) (l.drop (k + 1)) := by
  rw [drop_at hx, listErr, if_pos h, ahead_succ hx]
theorem list_stop {α : Type} {err : Option ByteArray → α → Int} {key : α → ByteArray} {l : List α} {k : Nat} {x : α} {e : Int} (hx : l[k]? = some x) (h : err (ahead key l k) x = e) (he : e ≠ 0) :
    listErr err key (ahead key l k) (l.drop k) = e := by
  rw [drop_at hx, listErr, if_neg (by rw [h]; exact he), h]
theorem list_end {α : Type} {err : Option ByteArray → α → Int} {key : α → ByteArray} {l : List α} {k : Nat} (hk : l.length ≤ k) : listErr err key (ahead key l k) (l.drop k) = 0 := by
  rw [List.drop_eq_nil_of_le hk]; rfl

/-! ### Words, numbers, names -/
def bytesInB (lo hi : Int) (c : UInt8) : Bool := decide (lo ≤ (c.toNat : Int)) && decide ((c.toNat : Int) ≤ hi)
def isWordS (s : ByteArray) : Bool := s.data.toList.all (bytesInB 33 126) && withinB s.size 1 300
/-- no needless 0 -/
def leadOk (l : List UInt8) : Bool := !(l.head? == some 48) || l == [48]
def isNumberS (s : ByteArray) (most : Int) : Bool := withinB s.size 1 most && s.data.toList.all digitB && leadOk s.data.toList
def smallI (c : Int) : Bool := 97 ≤ c && c ≤ 122
def nameI (c : Int) : Bool := smallI c || digitI c || c == 95
def nameB (c : UInt8) : Bool := nameI (c.toNat : Int)
/-- the words of the language -/
def langWords : List (List UInt8) := [[109, 97, 99, 114, 111], [102, 111, 114], [105, 110], [105, 102], [101, 108, 115, 101], [117, 115, 101], [102, 105, 108, 101, 115], [99, 104, 111, 111, 115, 101]]
def isNameS (s : ByteArray) : Bool := withinB s.size 1 40 && (match s.data.toList with | [] => false | c :: _ => smallI (c.toNat : Int)) && s.data.toList.all nameB && !(langWords.contains s.data.toList)

/-! ### Commands -/
/-- what stands behind the word of a command, and whether more may follow -/
def formS (w : List UInt8) : Option (List UInt8 × Bool) :=
  if w = [106, 111, 105, 110] then some ([112, 112], true)
  else if w = [115, 111, 114, 116] ∨ w = [99, 111, 117, 110, 116] ∨ w = [101, 120, 112, 97, 110, 100] ∨ w = [109, 97, 107, 101] ∨ w = [100, 105, 103, 101, 115, 116] ∨ w = [108, 105, 115, 116] ∨ w = [115, 97, 109, 101] then some ([112, 112], false)
  else if w = [102, 105, 114, 115, 116] then some ([112, 110, 112], false)
  else if w = [99, 104, 97, 110, 103, 101] then some ([112, 119, 119, 112], false)
  else if w = [112, 105, 99, 107] then some ([112, 112, 112], true)
  else if w = [118, 97, 114] then some ([112, 119], false)
  else if w = [116, 101, 108, 108] then some ([119], true)
  else if w = [110, 101, 101, 100] then some ([112], false)
  else if w = [102, 97, 105, 108] then some ([110], false)
  else none
def fitsS (k : UInt8) (s : ByteArray) : Bool := if k = 112 then isPathS s else if k = 110 then isNumberS s 6 else true
/-- words have a form, from word i on -/
def wordsFit (kinds : List UInt8) : Nat → List ByteArray → Bool
  | _, [] => true
  | i, s :: r => fitsS (kinds.getD (min i (kinds.length - 1)) 0) s && wordsFit kinds (i + 1) r
def hasFormS (words : List ByteArray) (kinds : List UInt8) (more : Bool) : Bool :=
  decide (kinds.length ≤ words.length) && (decide (words.length ≤ kinds.length) || more) && wordsFit kinds 0 words
def checkCommandS (c : List ByteArray) : Int :=
  if 50 < (c.length : Int) then 2
  else match c with
  | [] => 9
  | c0 :: words =>
    if c.all isWordS = false then 3
    else match formS c0.data.toList with
      | none => 4
      | some (kinds, more) => if hasFormS words kinds more = false then 3 else if (c0.data.toList == [102, 97, 105, 108] && (words.head?.map fun s => s.data.toList) == some [48]) = true then 3 else 0
def commandsErr : List (List ByteArray) → Int
  | [] => 0
  | c :: r => if checkCommandS c = 0 then commandsErr r else checkCommandS c

/-! ### Variables, outputs -/
def varErr (prev : Option ByteArray) (v : VarV) : Int :=
  if isNameS v.name = false then 5 else if (decide (300 < (v.value.size : Int)) || !(v.value.data.toList.all (bytesInB 32 126))) = true then 3 else if notAfter prev v.name then 8 else 0
def checkVarsS (l : List VarV) : Int := if 30 < (l.length : Int) then 2 else listErr varErr VarV.name none l
def outErr (prev : Option ByteArray) (p : ByteArray) : Int := if isPathS p = false then 3 else if notAfter prev p then 8 else 0
/-- a path lies within another one -/
def liesS (p q : ByteArray) : Bool := Lib.hasPrefix p.data.toList (q.data.toList ++ [47])
def checkOutputsS (l : List ByteArray) : Int :=
  if l.length = 0 then 9 else if 100 < (l.length : Int) then 2 else if listErr outErr id none l ≠ 0 then listErr outErr id none l else if l.any (fun p => l.any fun q => liesS p q) then 12 else 0
def checkActionS (a : ActionV) : Int :=
  if isDigestS a.tool = false then 3
  else if a.commands.length = 0 then 9
  else if 50 < (a.commands.length : Int) then 2
  else if commandsErr a.commands ≠ 0 then commandsErr a.commands
  else if checkVarsS a.vars ≠ 0 then checkVarsS a.vars
  else if checkOutputsS a.outputs ≠ 0 then checkOutputsS a.outputs
  else if checkVarsS a.needs ≠ 0 then checkVarsS a.needs
  else if withinB a.time 1 100000 = false then 1
  else 0
end Go.Proofs.Sm
