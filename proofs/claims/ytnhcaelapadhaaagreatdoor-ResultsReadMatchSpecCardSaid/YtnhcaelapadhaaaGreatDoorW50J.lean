/- Walks: the program's reader of a result: what a step answers. -/
import Derived.Test.YtnhcaelapadhaaaGreatDoorW17
import Derived.Test.YtnhcaelapadhaaaGreatDoorW33J
import Derived.Test.YtnhcaelapadhaaaGreatDoorPlain17J
import Derived.Test.YtnhcaelapadhaaaGreatDoorBase5J
import Derived.Deep.RegionHeld3
import Derived.Test.YtnhcaelapadhaaaGreatDoorW15
namespace Go.Proofs.Sm
open Go.RowKit

theorem sl_tail {w : World} {S : Nat → Prop} {b o n : Nat} {x : ByteArray} {l : List ByteArray} (h : Sl w S (some ⟨b, o, none⟩) n (x :: l)) : Sl w S (some ⟨b, o + 1, none⟩) (n - 1) l := by
  have h1 := h.1
  simp at h1
  refine ⟨by omega, by have := h.2.1; omega, fun hn => ?_⟩
  obtain ⟨b', o', e, hb, hc⟩ := h.2.2 (by omega)
  cases e
  refine ⟨b, o + 1, rfl, hb, fun i y hy => ?_⟩
  obtain ⟨vs, hr, ha⟩ := hc (i + 1) y (by simpa using hy)
  refine ⟨vs, hr, ?_⟩
  have e2 : o + 1 + i * Rep.sz ByteArray = o + (i + 1) * Rep.sz ByteArray := by simp [Rep.sz]; omega
  rw [e2]; exact ha
end Go.Proofs.Sm

namespace Go.Proofs.Sm
open Go.RowKit

theorem cut_line (T : ByteArray) (p : Nat) (w : World) (hE : Env w) (hT : T.size ≤ 4000000) :
    Calls Tryz.prog 33 #[.string (T.extract p T.size), .string ⟨#[10]⟩] w fun e w' => ∃ r, e = .returned (.tuple #[.string (lineB T p), .string r, .bool (hasLine T p)]) ∧ Below w.heap.size w w' := by
  obtain ⟨m, hm⟩ := hE.most
  have hs : (T.extract p T.size).size < 4294967281 := by rw [ByteArray.size_extract]; omega
  exact (Tryz.strings_Cut _ ⟨#[10]⟩ m w hs hm).mono fun _ _ h => ⟨_, h.1, below_drewn h.2⟩
/-- in blocks from a on -/
def From (a : Nat) (w : World) : Nat → Prop := fun k => a ≤ k ∧ k < w.heap.size
theorem split_words (s : ByteArray) (w : World) (hE : Env w) (hs : s.size ≤ 4000000) :
    Calls Tryz.prog 63 #[.string s, .string ⟨#[32]⟩] w fun e w' => e = .returned (.slice (some ⟨w.heap.size, 0, none⟩) (wordsOf s).length (wordsOf s).length) ∧
      Sl w' (From w.heap.size w') (some ⟨w.heap.size, 0, none⟩) (wordsOf s).length (wordsOf s) ∧ Below w.heap.size w w' := by
  refine (split_any s ⟨#[32]⟩ w hE (by omega) (by decide)).mono ?_
  rintro e w' ⟨rfl, rfl⟩
  have hl := wordsOf_length s
  have hn : (wordsOf s).length ≤ maxLen := by
    have := wordsOf_count s
    unfold maxLen; omega
  have hsl := Sl.new_strs (w := w) (t := 9) (l := wordsOf s) hn (fun x hx => Nat.le_trans (wordsOf_size hx) (by unfold maxLen; omega))
  refine ⟨by rw [hl], ?_, fr_alloc (fr_refl w) _⟩
  refine ⟨hsl.1, hsl.2.1, fun h0 => ?_⟩
  obtain ⟨b, o, e, hb, hc⟩ := hsl.2.2 h0
  cases e
  exact ⟨_, _, rfl, ⟨Nat.le_refl _, by simp⟩, fun i x hx => by
    obtain ⟨vs, hv, ha⟩ := hc i x hx
    exact ⟨vs, hv, ha⟩⟩
theorem any_empty (l : List ByteArray) : l.any (eqS ⟨#[]⟩) = !(noneEmpty l) := by
  rw [noneEmpty, Bool.not_not]
  congr 1
  funext x
  have e : (⟨#[]⟩ : ByteArray).toList = [] := by rw [Lib.toList_data]
  rw [eqS, e, Lib.toList_data]
  cases x.data.toList <;> rfl
theorem contains_empty (A : Option Addr) (n c : Nat) (l : List ByteArray) (w : World) (S : Nat → Prop) (hS : ∀ k, S k → k < w.heap.size) (hsl : Sl w S A n l) :
    Calls Tryz.prog 64 #[.slice A n c, .string ⟨#[]⟩] w fun e w' => e = .returned (.bool (!(noneEmpty l))) ∧ w = w' :=
  (slices_ContainsStr A n c l ⟨#[]⟩ w (hsl.more hS)).mono fun _ _ h => ⟨by rw [h.1, any_empty], h.2⟩
theorem nil_any {α : Type} [Rep α] {w : World} {S : Nat → Prop} {A : Option Addr} : Sl w S A 0 ([] : List α) := ⟨rfl, Nat.zero_le _, fun h => absurd h (by omega)⟩
/-- the slice of all words but the first -/
theorem tail_runR {w : World} {S : Nat → Prop} {b n c : Nat} {x : ByteArray} {l : List ByteArray} (h : Sl w S (some ⟨b, 0, none⟩) n (x :: l)) (hnc : n ≤ c) :
    ∃ A2 c2, Sl w S A2 l.length l ∧ l.length ≤ c2 ∧ c2 ≤ c ∧ ∀ W, (Instr.slice 37 (.slice (some ⟨b, 0, none⟩) n c) (some (.int .i64 1)) none none).run Tryz.prog W = .ok (.slice A2 l.length c2) W := by
  have hl := h.1
  rw [List.length_cons] at hl
  have ht := sl_tail h
  have e1 : n - 1 = l.length := by omega
  rw [e1] at ht
  by_cases hc : c = 1
  · subst hc
    obtain rfl : n = 1 := by omega
    have hl2 : l = [] := List.eq_nil_of_length_eq_zero (by omega)
    subst hl2
    refine ⟨some ⟨b, 0, none⟩, 0, nil_any, Nat.le_refl _, by omega, fun W => ?_⟩
    simp [go_sem, Tryz.underlying37]
  · refine ⟨some ⟨b, 0 + 1, none⟩, c - 1, ht, by omega, by omega, fun W => ?_⟩
    have h2 : (1 : Int) ≤ n := by omega
    have e2 : ((n : Int) - 1).toNat = l.length := by omega
    simp [go_sem, Tryz.underlying37, hc, h2, e1]

theorem lineIs_val {T : ByteArray} {p : Nat} {word : List UInt8} {many : Nat} {w0 : ByteArray} {ws : List ByteArray} (h : wordsOf (lineB T p) = w0 :: ws) :
    lineIs T p word many = if (hasLine T p && (ws.length + 1 == many) && (w0.data.toList == word) && noneEmpty (w0 :: ws)) = true then some (ws, p + (lineB T p).size + 1) else none := by
  rw [lineIs, rowS, h]
  cases hasLine T p <;> cases noneEmpty (w0 :: ws) <;> cases h1 : (w0.data.toList == word) <;> cases h2 : (ws.length + 1 == many) <;> simp [h1, h2]
theorem words_cons (s : ByteArray) : ∃ w0 ws, wordsOf s = w0 :: ws := by
  cases h : wordsOf s with
  | nil =>
    have := wordsOf_length s
    rw [h] at this
    simp at this
  | cons a l => exact ⟨a, l, rfl⟩
/-- what the program's reader answers of a line -/
def LineAns (w : World) (r : Option (List ByteArray × Nat)) (e : Ending) (w' : World) : Prop := Below w.heap.size w w' ∧ match r with
  | none => e = .returned (.tuple #[.slice none 0 0, .int .i64 0, .bool false])
  | some (ws, q) => ∃ A c, e = .returned (.tuple #[.slice A ws.length c, .int .i64 (q : Nat), .bool true]) ∧ ws.length ≤ c ∧ c ≤ maxLen ∧ Sl w' (From w.heap.size w') A ws.length ws
theorem LineAns.none_ {w w' : World} {R : Option (List ByteArray × Nat)} (h : R = none) (hb : Below w.heap.size w w') : LineAns w R (.returned (.tuple #[.slice none 0 0, .int .i64 0, .bool false])) w' := by
  subst h; exact ⟨hb, rfl⟩
theorem LineAns.some_ {w w' : World} {R : Option (List ByteArray × Nat)} {A : Option Addr} {ws : List ByteArray} {c q : Nat} {z : Int} (h : R = some (ws, q)) (hb : Below w.heap.size w w') (h1 : ws.length ≤ c) (h2 : c ≤ maxLen) (hz : z = (q : Nat)) (hsl : Sl w' (From w.heap.size w') A ws.length ws) :
    LineAns w R (.returned (.tuple #[.slice A ws.length c, .int .i64 z, .bool true])) w' := by
  subst h; subst hz; exact ⟨hb, A, c, rfl, h1, h2, hsl⟩
theorem from_mono {a b : Nat} {w w' : World} (hab : a ≤ b) (hs : w.heap.size ≤ w'.heap.size) : ∀ k, From b w k → From a w' k := fun _ h => ⟨Nat.le_trans hab h.1, Nat.lt_of_lt_of_le h.2 hs⟩

set_option maxHeartbeats 1000000 in
set_option maxRecDepth 100000 in
theorem act_line (T : ByteArray) (p b many : Nat) (word : ByteArray) (w : World) (hE : Env w) (hb : b < w.heap.size) (c0 : w.cell? ⟨b, 0, none⟩ = some (.string T)) (c1 : w.cell? ⟨b, 1, none⟩ = some (.int .i64 (p : Nat)))
    (hp : p ≤ T.size) (hT : T.size ≤ 4000000) (hmany : 1 ≤ many ∧ many ≤ 9) :
    Calls Tryz.prog 77 #[.pointer (some ⟨b, 0, none⟩), .string word, .int .i64 (many : Nat)] w fun e w' => LineAns w (lineIs T p word.data.toList many) e w' := by
  obtain ⟨w0, ws, hws⟩ := words_cons (lineB T p)
  have hval := lineIs_val (word := word.data.toList) (many := many) hws
  have hlen := line_le T p
  have hp1 : p ≤ 9223372036854775807 := by omega
  have hp2 : (p : Int) ≤ (T.size : Int) := by omega
  have HK := Lib.hid (show ∀ w', Below w.heap.size w w' → (Below w.heap.size w w' ∧ w'.cell? ⟨b, 0, none⟩ = some (.string T) ∧ w'.cell? ⟨b, 1, none⟩ = some (.int .i64 (p : Nat))) from
    fun w' h => ⟨h, (h.cell (p := ⟨b, 0, none⟩) hb).trans c0, (h.cell (p := ⟨b, 1, none⟩) hb).trans c1⟩)
  have HC := Lib.hid (fun w' (h : Below w.heap.size w w') => cut_line T p w' (hE.then_ h) hT)
  have hwl : ws.length + 1 ≤ 4000001 := by
    have := wordsOf_count (lineB T p)
    rw [hws] at this
    simp only [List.length_cons] at this
    omega
  generalize hR : lineIs T p word.data.toList many = R at hval ⊢
  have HW := Lib.hid (fun w' (h : Env w') => split_words (lineB T p) w' h (by omega))
  rw [hws] at HW
  simp only [List.length_cons] at HW
  clear hR
  cases hl : hasLine T p
  · have HV := Lib.hid (show R = none by rw [hval, hl]; rfl)
    rw [hl] at HC
    clear hval hws
    go_enter Tryz.func77, Tryz.ntmps77
    go_wp2
    go_region_held3 (fun w' => Below w.heap.size w w' ∧ w'.cell? ⟨b, 0, none⟩ = some (.string T) ∧ w'.cell? ⟨b, 1, none⟩ = some (.int .i64 (p : Nat)))
      (first | assumption | exact HK.out _ (Below.refl _ _).drew | exact HK.out _ (fr_call (And.left (by assumption)) hbc))
      (first | (go_at_call 33; refine (HC.out _ (And.left (by assumption))).mono ?_; rintro e wc ⟨r, rfl, hbc⟩))
    have hb1 : Below w.heap.size w wc := And.left (by assumption)
    have d1 : wc.cell? ⟨b, 1, none⟩ = some (.int .i64 (p : Nat)) := And.right (And.right (by assumption))
    go_wp2_with fail
    refine (HW.out _ (hE.then_ hb1)).mono ?_
    rintro e w2 ⟨rfl, hsl, hb2⟩
    go_wp2
    go_ret3
    exact LineAns.none_ HV.out (fr_call hb1 hb2)
  · rw [hl] at HC
    have hsz := line_size hl
    by_cases hn : ws.length + 1 = many
    · subst hn
      cases hw : (w0.toList == word.toList)
      · have HV := Lib.hid (show R = none by
          rw [hval, ← Lib.toList_data, ← Lib.toList_data, hw]
          simp)
        have hw2 : (w0.toList != word.toList) = true := by rw [bne, hw]; rfl
        clear hval hws
        go_enter Tryz.func77, Tryz.ntmps77
        go_wp2
        go_region_held3 (fun w' => Below w.heap.size w w' ∧ w'.cell? ⟨b, 0, none⟩ = some (.string T) ∧ w'.cell? ⟨b, 1, none⟩ = some (.int .i64 (p : Nat)))
          (first | assumption | exact HK.out _ (Below.refl _ _).drew | exact HK.out _ (fr_call (And.left (by assumption)) hbc))
          (first | (go_at_call 33; refine (HC.out _ (And.left (by assumption))).mono ?_; rintro e wc ⟨r, rfl, hbc⟩))
        have hb1 : Below w.heap.size w wc := And.left (by assumption)
        have d1 : wc.cell? ⟨b, 1, none⟩ = some (.int .i64 (p : Nat)) := And.right (And.right (by assumption))
        go_wp2_with fail
        refine (HW.out _ (hE.then_ hb1)).mono ?_
        rintro e w2 ⟨rfl, hsl, hb2⟩
        obtain ⟨b2, o2, x2, e2, hS2, hx2, hxs2, y0⟩ := hsl.str (k := 0) (by omega)
        cases e2
        obtain rfl : w0 = x2 := by simpa using hx2
        clear hx2
        go_wp2
        go_ret3
        exact LineAns.none_ HV.out (fr_call hb1 hb2)
      · have hw2 : (w0.toList != word.toList) = false := by rw [bne, hw]; rfl
        cases hne : noneEmpty (w0 :: ws)
        · have HV := Lib.hid (show R = none by rw [hval, hne]; simp)
          clear hval hws
          go_enter Tryz.func77, Tryz.ntmps77
          go_wp2
          go_region_held3 (fun w' => Below w.heap.size w w' ∧ w'.cell? ⟨b, 0, none⟩ = some (.string T) ∧ w'.cell? ⟨b, 1, none⟩ = some (.int .i64 (p : Nat)))
            (first | assumption | exact HK.out _ (Below.refl _ _).drew | exact HK.out _ (fr_call (And.left (by assumption)) hbc))
            (first | (go_at_call 33; refine (HC.out _ (And.left (by assumption))).mono ?_; rintro e wc ⟨r, rfl, hbc⟩))
          have hb1 : Below w.heap.size w wc := And.left (by assumption)
          have d1 : wc.cell? ⟨b, 1, none⟩ = some (.int .i64 (p : Nat)) := And.right (And.right (by assumption))
          go_wp2_with fail
          refine (HW.out _ (hE.then_ hb1)).mono ?_
          rintro e w2 ⟨rfl, hsl, hb2⟩
          obtain ⟨b2, o2, x2, e2, hS2, hx2, hxs2, y0⟩ := hsl.str (k := 0) (by omega)
          cases e2
          obtain rfl : w0 = x2 := by simpa using hx2
          clear hx2
          have HCE := Lib.hid (contains_empty _ _ (ws.length + 1) _ w2 _ (fun k h => h.2) hsl)
          rw [hne] at HCE
          go_wp2_with (go_at_call 64; refine HCE.out.mono ?_; rintro e w3 ⟨rfl, rfl⟩)
          go_ret3
          exact LineAns.none_ HV.out (fr_call hb1 hb2)
        · have HV := Lib.hid (show R = some (ws, p + (lineB T p).size + 1) by
            rw [hval, hne, hl, ← Lib.toList_data, ← Lib.toList_data, hw]
            simp)
          clear hval hws
          go_enter Tryz.func77, Tryz.ntmps77
          go_wp2
          go_region_held3 (fun w' => Below w.heap.size w w' ∧ w'.cell? ⟨b, 0, none⟩ = some (.string T) ∧ w'.cell? ⟨b, 1, none⟩ = some (.int .i64 (p : Nat)))
            (first | assumption | exact HK.out _ (Below.refl _ _).drew | exact HK.out _ (fr_call (And.left (by assumption)) hbc))
            (first | (go_at_call 33; refine (HC.out _ (And.left (by assumption))).mono ?_; rintro e wc ⟨r, rfl, hbc⟩))
          have hb1 : Below w.heap.size w wc := And.left (by assumption)
          have d1 : wc.cell? ⟨b, 1, none⟩ = some (.int .i64 (p : Nat)) := And.right (And.right (by assumption))
          go_wp2_with fail
          refine (HW.out _ (hE.then_ hb1)).mono ?_
          rintro e w2 ⟨rfl, hsl, hb2⟩
          obtain ⟨b2, o2, x2, e2, hS2, hx2, hxs2, y0⟩ := hsl.str (k := 0) (by omega)
          cases e2
          obtain rfl : w0 = x2 := by simpa using hx2
          clear hx2
          have HCE := Lib.hid (contains_empty _ _ (ws.length + 1) _ w2 _ (fun k h => h.2) hsl)
          rw [hne] at HCE
          obtain ⟨A2, c2, hs2, hc1, hc2, hrun⟩ := tail_runR hsl (Nat.le_refl _)
          have z1 := (hb2.cell (p := ⟨b, 1, none⟩) (Nat.lt_of_lt_of_le hb hb1.size)).trans d1
          have g1 := IntWalk.i64_in ((lineB T p).size : Int) ⟨by omega, by omega⟩
          have g2 := IntWalk.i64_in ((p : Int) + ((lineB T p).size : Int)) ⟨by omega, by omega⟩
          have g3 := IntWalk.i64_in ((p : Int) + ((lineB T p).size : Int) + 1) ⟨by omega, by omega⟩
          go_wp2_with (go_at_call 64; refine HCE.out.mono ?_; rintro e w3 ⟨rfl, rfl⟩)
          go_region
          go_wp2
          go_ret3
          exact LineAns.some_ HV.out (fr_call hb1 hb2).drew hc1 (by unfold maxLen; omega) (by omega) (hs2.more (from_mono hb1.size (Nat.le_refl _)))
    · have HV := Lib.hid (show R = none by rw [hval]; simp [hn])
      have hn2 : ¬ ((ws.length : Int) + 1 = (many : Int)) := by omega
      clear hval hws
      go_enter Tryz.func77, Tryz.ntmps77
      go_wp2
      go_region_held3 (fun w' => Below w.heap.size w w' ∧ w'.cell? ⟨b, 0, none⟩ = some (.string T) ∧ w'.cell? ⟨b, 1, none⟩ = some (.int .i64 (p : Nat)))
        (first | assumption | exact HK.out _ (Below.refl _ _).drew | exact HK.out _ (fr_call (And.left (by assumption)) hbc))
        (first | (go_at_call 33; refine (HC.out _ (And.left (by assumption))).mono ?_; rintro e wc ⟨r, rfl, hbc⟩))
      have hb1 : Below w.heap.size w wc := And.left (by assumption)
      have d1 : wc.cell? ⟨b, 1, none⟩ = some (.int .i64 (p : Nat)) := And.right (And.right (by assumption))
      go_wp2_with fail
      refine (HW.out _ (hE.then_ hb1)).mono ?_
      rintro e w2 ⟨rfl, hsl, hb2⟩
      go_wp2
      go_ret3
      exact LineAns.none_ HV.out (fr_call hb1 hb2)
end Go.Proofs.Sm

namespace Go.Proofs.Sm
open Go.RowKit

/-! ### A block that holds a struct -/
theorem gb_refl (w : World) (row : Option Nat) : w.grownBy w row := ⟨rfl, rfl, rfl, Nat.le_refl _, fun _ _ _ => rfl⟩
theorem gb_trans {w w1 w2 : World} {row : Option Nat} (h : w.grownBy w1 row) (k : w1.grownBy w2 row) : w.grownBy w2 row :=
  ⟨k.os.trans h.os, k.tape.trans h.tape, k.output.trans h.output, Nat.le_trans h.size k.size, fun i hi hne => (k.block i (Nat.lt_of_lt_of_le hi h.size) hne).trans (h.block i hi hne)⟩
theorem gb_below {w w1 : World} (h : Below w.heap.size w w1) (row : Option Nat) : w.grownBy w1 row := ⟨h.os, h.tape, h.output, h.size, fun i hi _ => h.block i hi⟩
theorem gb_call {w w1 w2 : World} {row : Option Nat} (h : w.grownBy w1 row) (k : Below w1.heap.size w1 w2) : w.grownBy w2 row := gb_trans h (gb_below k row)
theorem gb_set {w w1 : World} {b : Nat} (h : w.grownBy w1 (some b)) (o : Nat) (u : Value) : w.grownBy (w1.setCell ⟨b, o, none⟩ u) (some b) :=
  gb_trans h ⟨rfl, rfl, rfl, by simp, fun i _ hne => heap_setCell_other w1 ⟨b, o, none⟩ i u (fun e => hne (by rw [e]))⟩
theorem gb_drew {w w1 : World} {row : Option Nat} (h : w.grownBy w1 row) : w.grownBy w1.drew row := ⟨h.os, h.tape, h.output, h.size, h.block⟩
theorem gb_alloc {w w1 : World} {row : Option Nat} (h : w.grownBy w1 row) (o : Obj) : w.grownBy (w1.alloc o) row := gb_trans h (World.grownBy_alloc w1 o row)
theorem gb_env {w w1 : World} {b : Nat} (hE : Env w) (h : w.grownBy w1 (some b)) (hb : 8 ≤ b) : Env w1 := by
  have := hE.size
  exact hE.of_heap h.size fun k hk => h.block k (by omega) (fun e => by cases e; omega)
theorem heap_lt {w : World} {b : Nat} {o : Obj} (h : w.heap[b]? = some o) : b < w.heap.size := (Array.getElem?_eq_some_iff.1 h).1

/-- the program's reader -/
def RB (T : ByteArray) (p : Nat) (c : Int) (t : ByteArray) (vF vL : Value) (d : Int) : Obj := .cells #[.string T, .int .i64 (p : Nat), .int .i64 c, .string t, vF, vL, .int .i64 d] 47 (0, 0)
section
variable {w : World} {b p : Nat} {T t : ByteArray} {c d : Int} {vF vL : Value}
theorem rb_cells (h : w.heap[b]? = some (RB T p c t vF vL d)) : (w.cell? ⟨b, 0, none⟩ = some (.string T) ∧ w.cell? ⟨b, 1, none⟩ = some (.int .i64 (p : Nat)) ∧ w.cell? ⟨b, 2, none⟩ = some (.int .i64 c) ∧ w.cell? ⟨b, 3, none⟩ = some (.string t) ∧ w.cell? ⟨b, 4, none⟩ = some vF ∧ w.cell? ⟨b, 5, none⟩ = some vL ∧ w.cell? ⟨b, 6, none⟩ = some (.int .i64 d)) ∧
    (w.frozen? ⟨b, 1, none⟩ = false ∧ w.frozen? ⟨b, 2, none⟩ = false ∧ w.frozen? ⟨b, 3, none⟩ = false ∧ w.frozen? ⟨b, 4, none⟩ = false ∧ w.frozen? ⟨b, 5, none⟩ = false ∧ w.frozen? ⟨b, 6, none⟩ = false) ∧ b < w.heap.size := by
  refine ⟨⟨?_, ?_, ?_, ?_, ?_, ?_, ?_⟩, ⟨?_, ?_, ?_, ?_, ?_, ?_⟩, heap_lt h⟩
  all_goals first
    | (rw [Lib.cell_of_heap (show w.heap[b]? = some (.cells _ _ _) from h)]; rfl)
    | exact Lib.frozen_of_heap (show w.heap[b]? = some (.cells _ _ _) from h) _
theorem rb_at (h : w.heap[b]? = some (RB T p c t vF vL d)) (q : Nat) {z : Int} (hz : z = (q : Nat)) : (w.setCell ⟨b, 1, none⟩ (.int .i64 z)).heap[b]? = some (RB T q c t vF vL d) := by
  subst hz; exact heap_setCell_same w b 1 _ _ _ h
theorem rb_code (h : w.heap[b]? = some (RB T p c t vF vL d)) (z : Int) : (w.setCell ⟨b, 2, none⟩ (.int .i64 z)).heap[b]? = some (RB T p z t vF vL d) := heap_setCell_same w b 2 _ _ _ h
theorem rb_text (h : w.heap[b]? = some (RB T p c t vF vL d)) (z : ByteArray) : (w.setCell ⟨b, 3, none⟩ (.string z)).heap[b]? = some (RB T p c z vF vL d) := heap_setCell_same w b 3 _ _ _ h
theorem rb_files (h : w.heap[b]? = some (RB T p c t vF vL d)) (z : Value) : (w.setCell ⟨b, 4, none⟩ z).heap[b]? = some (RB T p c t z vL d) := heap_setCell_same w b 4 _ _ _ h
theorem rb_looks (h : w.heap[b]? = some (RB T p c t vF vL d)) (z : Value) : (w.setCell ⟨b, 5, none⟩ z).heap[b]? = some (RB T p c t vF z d) := heap_setCell_same w b 5 _ _ _ h
theorem rb_command (h : w.heap[b]? = some (RB T p c t vF vL d)) (z : Int) : (w.setCell ⟨b, 6, none⟩ (.int .i64 z)).heap[b]? = some (RB T p c t vF vL z) := heap_setCell_same w b 6 _ _ _ h
theorem rb_call {w' : World} (h : w.heap[b]? = some (RB T p c t vF vL d)) (hb : Below w.heap.size w w') : w'.heap[b]? = some (RB T p c t vF vL d) := (hb.block b (heap_lt h)).trans h
end
section
variable {w : World} {S : Nat → Prop} {A : Option Addr} {x y z : ByteArray}
theorem sl_one (h : Sl w S A 1 [x]) : ∃ g o, A = some ⟨g, o, none⟩ ∧ S g ∧ x.size ≤ maxLen ∧ w.cell? ⟨g, o, none⟩ = some (.string x) := by
  obtain ⟨g, o, x', e, hS, hx, hs, c0⟩ := h.str (k := 0) (by omega)
  obtain rfl : x = x' := by simpa using hx
  exact ⟨g, o, e, hS, hs, c0⟩
theorem sl_two (h : Sl w S A 2 [x, y]) : ∃ g o, A = some ⟨g, o, none⟩ ∧ S g ∧ x.size ≤ maxLen ∧ y.size ≤ maxLen ∧ w.cell? ⟨g, o, none⟩ = some (.string x) ∧ w.cell? ⟨g, o + 1, none⟩ = some (.string y) := by
  obtain ⟨g, o, x', e, hS, hx, hs, c0⟩ := h.str (k := 0) (by omega)
  obtain ⟨g2, o2, y', e2, _, hy, hs2, c1⟩ := h.str (k := 1) (by omega)
  rw [e] at e2
  cases e2
  obtain rfl : x = x' := by simpa using hx
  obtain rfl : y = y' := by simpa using hy
  exact ⟨g, o, e, hS, hs, hs2, c0, c1⟩
theorem sl_three (h : Sl w S A 3 [x, y, z]) : ∃ g o, A = some ⟨g, o, none⟩ ∧ S g ∧ (x.size ≤ maxLen ∧ y.size ≤ maxLen ∧ z.size ≤ maxLen) ∧ w.cell? ⟨g, o, none⟩ = some (.string x) ∧ w.cell? ⟨g, o + 1, none⟩ = some (.string y) ∧ w.cell? ⟨g, o + 2, none⟩ = some (.string z) := by
  obtain ⟨g, o, x', e, hS, hx, hs, c0⟩ := h.str (k := 0) (by omega)
  obtain ⟨g2, o2, y', e2, _, hy, hs2, c1⟩ := h.str (k := 1) (by omega)
  obtain ⟨g3, o3, z', e3, _, hz, hs3, c2⟩ := h.str (k := 2) (by omega)
  rw [e] at e2 e3
  cases e2; cases e3
  obtain rfl : x = x' := by simpa using hx
  obtain rfl : y = y' := by simpa using hy
  obtain rfl : z = z' := by simpa using hz
  exact ⟨g, o, e, hS, ⟨hs, hs2, hs3⟩, c0, c1, c2⟩
end
theorem num9 {s : ByteArray} (h : isNumberS s 9 = true) : numS s < 1000000000 := by
  have h1 := number_some h
  exact Nat.lt_of_lt_of_le h1.2.1 (Nat.pow_le_pow_right (by decide : 0 < 10) (show s.size ≤ 9 by omega))

set_option maxHeartbeats 1000000 in
set_option maxRecDepth 100000 in
theorem act_bytes (T : ByteArray) (b q : Nat) (s : ByteArray) (w : World) {p : Nat} {c d : Int} {t : ByteArray} {vF vL : Value} (blk : w.heap[b]? = some (RB T p c t vF vL d)) (hT : T.size ≤ 4000000) (hq : q ≤ T.size) (hs : isNumberS s 9 = true) :
    Calls Tryz.prog 78 #[.pointer (some ⟨b, 0, none⟩), .int .i64 (q : Nat), .string s] w fun e w' =>
      (T.size < q + numS s → e = .returned (.tuple #[.string ⟨#[]⟩, .bool false]) ∧ w'.heap[b]? = some (RB T T.size c t vF vL d)) ∧
      (¬ T.size < q + numS s → e = .returned (.tuple #[.string (T.extract q (q + numS s)), .bool true]) ∧ w'.heap[b]? = some (RB T (q + numS s) c t vF vL d)) ∧ w.grownBy w' (some b) := by
  have hn := num9 hs
  have HA := Lib.hid (fun w' => atoi_any s 9 w' hs (by decide))
  clear hs
  generalize numS s = n at hn HA ⊢
  have g1 := IntWalk.i64_in ((T.size : Int) - (q : Int)) ⟨by omega, by omega⟩
  have g2 := IntWalk.i64_in ((q : Int) + (n : Int)) ⟨by omega, by omega⟩
  have g3 := IntWalk.i64_in ((T.size : Int)) ⟨by omega, by omega⟩
  by_cases hlt : T.size < q + n
  · have h1 : (T.size : Int) - (q : Int) < (n : Int) := by omega
    go_enter Tryz.func78, Tryz.ntmps78
    go_wp2_with fail
    refine (HA.out _).mono ?_
    rintro e w1 ⟨rfl, hb1⟩
    have blk1 := rb_call blk hb1
    obtain ⟨⟨c0, c1, c2, c3, c4, c5, c6⟩, ⟨f1, f2, f3, f4, f5, f6⟩, hbl⟩ := rb_cells blk1
    have HL := Lib.hid hlt; clear hlt
    go_wp2
    go_ret2
    exact ⟨fun _ => ⟨rfl, rb_at blk1 T.size rfl⟩, fun h => absurd HL.out h, gb_set (gb_below hb1 _) _ _⟩
  · have h1 : ¬ ((T.size : Int) - (q : Int) < (n : Int)) := by omega
    have h2 : (q : Int) + (n : Int) ≤ (T.size : Int) := by omega
    have h3 : (q : Int) ≤ (q : Int) + (n : Int) := by omega
    have h4 : ((q : Int) + (n : Int)).toNat = q + n := by omega
    go_enter Tryz.func78, Tryz.ntmps78
    go_wp2_with fail
    refine (HA.out _).mono ?_
    rintro e w1 ⟨rfl, hb1⟩
    have blk1 := rb_call blk hb1
    obtain ⟨⟨c0, c1, c2, c3, c4, c5, c6⟩, ⟨f1, f2, f3, f4, f5, f6⟩, hbl⟩ := rb_cells blk1
    have HL := Lib.hid hlt; clear hlt
    go_wp2
    go_region
    go_wp2
    go_ret2
    exact ⟨fun h => absurd h HL.out, fun _ => ⟨rfl, rb_at blk1 (q + n) (by omega)⟩, gb_drew (gb_set (gb_below hb1 _) _ _)⟩
end Go.Proofs.Sm

namespace Go.Proofs.Sm
open Go.RowKit

theorem list_one {α : Type} {l : List α} (h : l.length + 1 = 2) : ∃ x, l = [x] := by
  match l, h with
  | [x], _ => exact ⟨x, rfl⟩
theorem list_two {α : Type} {l : List α} (h : l.length + 1 = 3) : ∃ x y, l = [x, y] := by
  match l, h with
  | [x, y], _ => exact ⟨x, y, rfl⟩
theorem list_three {α : Type} {l : List α} (h : l.length + 1 = 4) : ∃ x y z, l = [x, y, z] := by
  match l, h with
  | [x, y, z], _ => exact ⟨x, y, z, rfl⟩
theorem act_lineR (T : ByteArray) (b p many : Nat) (word : ByteArray) (W : List UInt8) (hw : word.data.toList = W) (w : World) {c d : Int} {t : ByteArray} {vF vL : Value} (hE : Env w) (blk : w.heap[b]? = some (RB T p c t vF vL d))
    (hp : p ≤ T.size) (hT : T.size ≤ 4000000) (hmany : 1 ≤ many ∧ many ≤ 9) :
    Calls Tryz.prog 77 #[.pointer (some ⟨b, 0, none⟩), .string word, .int .i64 (many : Nat)] w fun e w' => LineAns w (lineIs T p W many) e w' := by
  subst hw
  obtain ⟨⟨c0, c1, _, _, _, _, _⟩, _, hb⟩ := rb_cells blk
  exact act_line T p b many word w hE hb c0 c1 hp hT hmany
def TopAns (b : Nat) (T : ByteArray) (vF vL : Value) (r : Except Nat (Nat × Nat × ByteArray × Nat)) (w : World) (e : Ending) (w' : World) : Prop := w.grownBy w' (some b) ∧ match r with
  | .error p => e = .returned (.bool false) ∧ ∃ c t d, w'.heap[b]? = some (RB T p c t vF vL d)
  | .ok (c, d, t, p) => e = .returned (.bool true) ∧ w'.heap[b]? = some (RB T p (c : Nat) t vF vL (d : Nat))
section
variable {b p : Nat} {T t : ByteArray} {vF vL : Value} {R : Except Nat (Nat × Nat × ByteArray × Nat)} {w w' : World}
theorem TopAns.bad {c d : Int} (h : R = .error p) (hg : w.grownBy w' (some b)) (hb : w'.heap[b]? = some (RB T p c t vF vL d)) : TopAns b T vF vL R w (.returned (.bool false)) w' := by
  subst h; exact ⟨hg, rfl, c, t, d, hb⟩
theorem TopAns.good {c d : Nat} (h : R = .ok (c, d, t, p)) (hg : w.grownBy w' (some b)) (hb : w'.heap[b]? = some (RB T p (c : Nat) t vF vL (d : Nat))) : TopAns b T vF vL R w (.returned (.bool true)) w' := by
  subst h; exact ⟨hg, rfl, hb⟩
end
theorem cell_past {w : World} {g o b k : Nat} {v u : Value} (h : w.cell? ⟨g, o, none⟩ = some v) (hne : g ≠ b) : (w.setCell ⟨b, k, none⟩ u).cell? ⟨g, o, none⟩ = some v :=
  (World.cell?_of_block (a := ⟨g, o, none⟩) (heap_setCell_other w ⟨b, k, none⟩ g u hne)).trans h

set_option maxHeartbeats 2000000 in
set_option maxRecDepth 100000 in
theorem act_top (T : ByteArray) (b : Nat) (w : World) {vF vL : Value} (hE : Env w) (hnb : 8 ≤ b) (blk : w.heap[b]? = some (RB T 0 0 ⟨#[]⟩ vF vL 0)) (hT : T.size ≤ 4000000) :
    Calls Tryz.prog 41 #[.pointer (some ⟨b, 0, none⟩)] w fun e w' => TopAns b T vF vL (topS T) w e w' := by
  generalize hR : topS T = R
  have HL1 := Lib.hid (act_lineR T b 0 3 ⟨#[99, 111, 100, 101]⟩ codeW rfl w hE blk (Nat.zero_le _) hT (by decide))
  cases hl : lineIs T 0 codeW 3 with
  | none =>
    rw [hl] at HL1
    have HV := Lib.hid (show R = .error 0 by rw [← hR, topS, hl])
    clear hR
    go_enter Tryz.func41, Tryz.ntmps41
    go_wp2_with fail
    refine HL1.out.mono ?_
    rintro e w1 ⟨hb1, rfl⟩
    go_wp2
    go_ret
    exact TopAns.bad HV.out (gb_below hb1 _) (rb_call blk hb1)
  | some r =>
    obtain ⟨ws, q⟩ := r
    obtain ⟨_, hrow, _, hlen⟩ := lineIs_some hl
    obtain ⟨hq0, hqT⟩ := row_place hrow
    obtain ⟨x, y, rfl⟩ := list_two hlen
    rw [hl] at HL1
    clear hrow hlen
    cases hn1 : isNumberS x 9
    · have HV := Lib.hid (show R = .error 0 by rw [← hR, topS, hl]; simp [hn1])
      clear hR hl
      go_enter Tryz.func41, Tryz.ntmps41
      go_wp2_with fail
      refine HL1.out.mono ?_
      rintro e w1 ⟨hb1, A, cc, rfl, hc1, hc2, hsl⟩
      obtain ⟨g, o, rfl, ⟨hg1, hg2⟩, hxs, hys, y0, y1⟩ := sl_two hsl
      have blk1 := rb_call blk hb1
      have hgb : g ≠ b := by have := heap_lt blk; omega
      clear hsl hc1 hc2
      go_wp2_with fail
      refine ((Lib.hid (act_isNumber x 9 _ hxs)).out).mono ?_
      rw [hn1]
      rintro e w2 ⟨rfl, hb2⟩
      have blk2 := rb_call blk1 hb2
      have hg3 := Nat.lt_of_lt_of_le hg2 hb2.size
      have x0 := (hb2.cell (p := ⟨g, o, none⟩) hg2).trans y0
      have x1 := (hb2.cell (p := ⟨g, o + 1, none⟩) hg2).trans y1
      clear y0 y1
      go_wp2
      go_ret
      exact TopAns.bad HV.out (gb_call (gb_below hb1 _) hb2) blk2
    cases hn2 : isNumberS y 9
    · have HV := Lib.hid (show R = .error 0 by rw [← hR, topS, hl]; simp [hn2])
      clear hR hl
      go_enter Tryz.func41, Tryz.ntmps41
      go_wp2_with fail
      refine HL1.out.mono ?_
      rintro e w1 ⟨hb1, A, cc, rfl, hc1, hc2, hsl⟩
      obtain ⟨g, o, rfl, ⟨hg1, hg2⟩, hxs, hys, y0, y1⟩ := sl_two hsl
      have blk1 := rb_call blk hb1
      have hgb : g ≠ b := by have := heap_lt blk; omega
      clear hsl hc1 hc2
      go_wp2_with fail
      refine ((Lib.hid (act_isNumber x 9 _ hxs)).out).mono ?_
      rw [hn1]
      rintro e w2 ⟨rfl, hb2⟩
      have blk2 := rb_call blk1 hb2
      have hg3 := Nat.lt_of_lt_of_le hg2 hb2.size
      have x0 := (hb2.cell (p := ⟨g, o, none⟩) hg2).trans y0
      have x1 := (hb2.cell (p := ⟨g, o + 1, none⟩) hg2).trans y1
      clear y0 y1
      go_wp2_with fail
      refine ((Lib.hid (act_isNumber y 9 _ hys)).out).mono ?_
      rw [hn2]
      rintro e w3 ⟨rfl, hb3⟩
      have blk3 := rb_call blk2 hb3
      have hg4 := Nat.lt_of_lt_of_le hg3 hb3.size
      have y0 := (hb3.cell (p := ⟨g, o, none⟩) hg3).trans x0
      have y1 := (hb3.cell (p := ⟨g, o + 1, none⟩) hg3).trans x1
      have hgr3 := gb_call (gb_call (gb_below hb1 (some b)) hb2) hb3
      clear x0 x1
      go_wp2
      go_ret
      exact TopAns.bad HV.out hgr3 blk3
    have hR2 : R = textS T (numS x) (numS y) q := by rw [← hR, topS, hl]; simp [hn1, hn2]
    have HL2 := Lib.hid (fun w' (c d : Int) (t : ByteArray) (hE' : Env w') (blk' : w'.heap[b]? = some (RB T q c t vF vL d)) => act_lineR T b q 2 ⟨#[116, 101, 120, 116]⟩ textW rfl w' hE' blk' hqT hT (by decide))
    clear hR hl
    cases hl2 : lineIs T q textW 2 with
    | none =>
      rw [hl2] at HL2
      have HV := Lib.hid (show R = .error q by rw [hR2, textS, hl2])
      clear hR2
      go_enter Tryz.func41, Tryz.ntmps41
      go_wp2_with fail
      refine HL1.out.mono ?_
      rintro e w1 ⟨hb1, A, cc, rfl, hc1, hc2, hsl⟩
      obtain ⟨g, o, rfl, ⟨hg1, hg2⟩, hxs, hys, y0, y1⟩ := sl_two hsl
      have blk1 := rb_call blk hb1
      have hgb : g ≠ b := by have := heap_lt blk; omega
      clear hsl hc1 hc2
      go_wp2_with fail
      refine ((Lib.hid (act_isNumber x 9 _ hxs)).out).mono ?_
      rw [hn1]
      rintro e w2 ⟨rfl, hb2⟩
      have blk2 := rb_call blk1 hb2
      have hg3 := Nat.lt_of_lt_of_le hg2 hb2.size
      have x0 := (hb2.cell (p := ⟨g, o, none⟩) hg2).trans y0
      have x1 := (hb2.cell (p := ⟨g, o + 1, none⟩) hg2).trans y1
      clear y0 y1
      go_wp2_with fail
      refine ((Lib.hid (act_isNumber y 9 _ hys)).out).mono ?_
      rw [hn2]
      rintro e w3 ⟨rfl, hb3⟩
      have blk3 := rb_call blk2 hb3
      have hg4 := Nat.lt_of_lt_of_le hg3 hb3.size
      have y0 := (hb3.cell (p := ⟨g, o, none⟩) hg3).trans x0
      have y1 := (hb3.cell (p := ⟨g, o + 1, none⟩) hg3).trans x1
      have hgr3 := gb_call (gb_call (gb_below hb1 (some b)) hb2) hb3
      clear x0 x1
      go_wp2_with fail
      refine (atoi_any x 9 _ hn1 (by decide)).mono ?_
      rintro e w4 ⟨rfl, hb4⟩
      have blk4 := rb_call blk3 hb4
      obtain ⟨⟨_, _, k2, _, _, _, _⟩, ⟨_, f2, _, _, _, _⟩, hbl4⟩ := rb_cells blk4
      have hg5 := Nat.lt_of_lt_of_le hg4 hb4.size
      have x1 := cell_past (k := 2) (u := .int .i64 (numS x : Nat)) ((hb4.cell (p := ⟨g, o + 1, none⟩) hg4).trans y1) hgb
      have hgr4 := gb_set (gb_call hgr3 hb4) 2 (.int .i64 (numS x : Nat))
      have blk4' := rb_code blk4 (numS x : Nat)
      clear y0 y1
      go_wp2_with fail
      refine (atoi_any y 9 _ hn2 (by decide)).mono ?_
      rintro e w5 ⟨rfl, hb5⟩
      have blk5 := rb_call blk4' hb5
      have hgr5 := gb_set (gb_set (gb_call hgr4 hb5) 6 (.int .i64 (numS y : Nat))) 1 (.int .i64 (q : Nat))
      have blk6 := rb_at (rb_command blk5 (numS y : Nat)) q rfl
      obtain ⟨⟨_, k1, _, _, _, _, k6⟩, ⟨f1, _, _, _, _, f6⟩, hbl5⟩ := rb_cells blk5
      clear blk4 blk4' x1 f2 k2
      go_wp2_with fail
      refine (HL2.out _ _ _ _ (gb_env hE hgr5 hnb) blk6).mono ?_
      clear f1 f6 k1 k6
      rintro e w7 ⟨hb7, rfl⟩
      go_wp2
      go_ret
      exact TopAns.bad HV.out (gb_call hgr5 hb7) (rb_call blk6 hb7)
    | some r =>
      obtain ⟨ws, q2⟩ := r
      obtain ⟨_, hrow, _, hlen⟩ := lineIs_some hl2
      obtain ⟨hq2, hqT2⟩ := row_place hrow
      obtain ⟨z, rfl⟩ := list_one hlen
      rw [hl2] at HL2
      clear hrow hlen
      cases hn3 : isNumberS z 9
      · have HV := Lib.hid (show R = .error q by rw [hR2, textS, hl2]; simp [hn3])
        clear hR2 hl2
        go_enter Tryz.func41, Tryz.ntmps41
        go_wp2_with fail
        refine HL1.out.mono ?_
        rintro e w1 ⟨hb1, A, cc, rfl, hc1, hc2, hsl⟩
        obtain ⟨g, o, rfl, ⟨hg1, hg2⟩, hxs, hys, y0, y1⟩ := sl_two hsl
        have blk1 := rb_call blk hb1
        have hgb : g ≠ b := by have := heap_lt blk; omega
        clear hsl hc1 hc2
        go_wp2_with fail
        refine ((Lib.hid (act_isNumber x 9 _ hxs)).out).mono ?_
        rw [hn1]
        rintro e w2 ⟨rfl, hb2⟩
        have blk2 := rb_call blk1 hb2
        have hg3 := Nat.lt_of_lt_of_le hg2 hb2.size
        have x0 := (hb2.cell (p := ⟨g, o, none⟩) hg2).trans y0
        have x1 := (hb2.cell (p := ⟨g, o + 1, none⟩) hg2).trans y1
        clear y0 y1
        go_wp2_with fail
        refine ((Lib.hid (act_isNumber y 9 _ hys)).out).mono ?_
        rw [hn2]
        rintro e w3 ⟨rfl, hb3⟩
        have blk3 := rb_call blk2 hb3
        have hg4 := Nat.lt_of_lt_of_le hg3 hb3.size
        have y0 := (hb3.cell (p := ⟨g, o, none⟩) hg3).trans x0
        have y1 := (hb3.cell (p := ⟨g, o + 1, none⟩) hg3).trans x1
        have hgr3 := gb_call (gb_call (gb_below hb1 (some b)) hb2) hb3
        clear x0 x1
        go_wp2_with fail
        refine (atoi_any x 9 _ hn1 (by decide)).mono ?_
        rintro e w4 ⟨rfl, hb4⟩
        have blk4 := rb_call blk3 hb4
        obtain ⟨⟨_, _, k2, _, _, _, _⟩, ⟨_, f2, _, _, _, _⟩, hbl4⟩ := rb_cells blk4
        have hg5 := Nat.lt_of_lt_of_le hg4 hb4.size
        have x1 := cell_past (k := 2) (u := .int .i64 (numS x : Nat)) ((hb4.cell (p := ⟨g, o + 1, none⟩) hg4).trans y1) hgb
        have hgr4 := gb_set (gb_call hgr3 hb4) 2 (.int .i64 (numS x : Nat))
        have blk4' := rb_code blk4 (numS x : Nat)
        clear y0 y1
        go_wp2_with fail
        refine (atoi_any y 9 _ hn2 (by decide)).mono ?_
        rintro e w5 ⟨rfl, hb5⟩
        have blk5 := rb_call blk4' hb5
        have hgr5 := gb_set (gb_set (gb_call hgr4 hb5) 6 (.int .i64 (numS y : Nat))) 1 (.int .i64 (q : Nat))
        have blk6 := rb_at (rb_command blk5 (numS y : Nat)) q rfl
        obtain ⟨⟨_, k1, _, _, _, _, k6⟩, ⟨f1, _, _, _, _, f6⟩, hbl5⟩ := rb_cells blk5
        clear blk4 blk4' x1 f2 k2
        go_wp2_with fail
        refine (HL2.out _ _ _ _ (gb_env hE hgr5 hnb) blk6).mono ?_
        clear f1 f6 k1 k6
        rintro e w7 ⟨hb7, A2, cc2, rfl, hc1, hc2, hsl⟩
        obtain ⟨g2, o2, rfl, ⟨hg6, hg7⟩, hzs, z0⟩ := sl_one hsl
        go_wp2_with fail
        refine ((Lib.hid (act_isNumber z 9 _ hzs)).out).mono ?_
        rw [hn3]
        rintro e w8 ⟨rfl, hb8⟩
        go_wp2
        go_ret
        exact TopAns.bad HV.out (gb_call (gb_call hgr5 hb7) hb8) (rb_call (rb_call blk6 hb7) hb8)
      · by_cases hlt : T.size < q2 + numS z
        · have HV := Lib.hid (show R = .error T.size by rw [hR2, textS, hl2]; simp [hn3, hlt])
          clear hR2 hl2
          go_enter Tryz.func41, Tryz.ntmps41
          go_wp2_with fail
          refine HL1.out.mono ?_
          rintro e w1 ⟨hb1, A, cc, rfl, hc1, hc2, hsl⟩
          obtain ⟨g, o, rfl, ⟨hg1, hg2⟩, hxs, hys, y0, y1⟩ := sl_two hsl
          have blk1 := rb_call blk hb1
          have hgb : g ≠ b := by have := heap_lt blk; omega
          clear hsl hc1 hc2
          go_wp2_with fail
          refine ((Lib.hid (act_isNumber x 9 _ hxs)).out).mono ?_
          rw [hn1]
          rintro e w2 ⟨rfl, hb2⟩
          have blk2 := rb_call blk1 hb2
          have hg3 := Nat.lt_of_lt_of_le hg2 hb2.size
          have x0 := (hb2.cell (p := ⟨g, o, none⟩) hg2).trans y0
          have x1 := (hb2.cell (p := ⟨g, o + 1, none⟩) hg2).trans y1
          clear y0 y1
          go_wp2_with fail
          refine ((Lib.hid (act_isNumber y 9 _ hys)).out).mono ?_
          rw [hn2]
          rintro e w3 ⟨rfl, hb3⟩
          have blk3 := rb_call blk2 hb3
          have hg4 := Nat.lt_of_lt_of_le hg3 hb3.size
          have y0 := (hb3.cell (p := ⟨g, o, none⟩) hg3).trans x0
          have y1 := (hb3.cell (p := ⟨g, o + 1, none⟩) hg3).trans x1
          have hgr3 := gb_call (gb_call (gb_below hb1 (some b)) hb2) hb3
          clear x0 x1
          go_wp2_with fail
          refine (atoi_any x 9 _ hn1 (by decide)).mono ?_
          rintro e w4 ⟨rfl, hb4⟩
          have blk4 := rb_call blk3 hb4
          obtain ⟨⟨_, _, k2, _, _, _, _⟩, ⟨_, f2, _, _, _, _⟩, hbl4⟩ := rb_cells blk4
          have hg5 := Nat.lt_of_lt_of_le hg4 hb4.size
          have x1 := cell_past (k := 2) (u := .int .i64 (numS x : Nat)) ((hb4.cell (p := ⟨g, o + 1, none⟩) hg4).trans y1) hgb
          have hgr4 := gb_set (gb_call hgr3 hb4) 2 (.int .i64 (numS x : Nat))
          have blk4' := rb_code blk4 (numS x : Nat)
          clear y0 y1
          go_wp2_with fail
          refine (atoi_any y 9 _ hn2 (by decide)).mono ?_
          rintro e w5 ⟨rfl, hb5⟩
          have blk5 := rb_call blk4' hb5
          have hgr5 := gb_set (gb_set (gb_call hgr4 hb5) 6 (.int .i64 (numS y : Nat))) 1 (.int .i64 (q : Nat))
          have blk6 := rb_at (rb_command blk5 (numS y : Nat)) q rfl
          obtain ⟨⟨_, k1, _, _, _, _, k6⟩, ⟨f1, _, _, _, _, f6⟩, hbl5⟩ := rb_cells blk5
          clear blk4 blk4' x1 f2 k2
          go_wp2_with fail
          refine (HL2.out _ _ _ _ (gb_env hE hgr5 hnb) blk6).mono ?_
          clear f1 f6 k1 k6
          rintro e w7 ⟨hb7, A2, cc2, rfl, hc1, hc2, hsl⟩
          obtain ⟨g2, o2, rfl, ⟨hg6, hg7⟩, hzs, z0⟩ := sl_one hsl
          go_wp2_with fail
          refine ((Lib.hid (act_isNumber z 9 _ hzs)).out).mono ?_
          rw [hn3]
          rintro e w8 ⟨rfl, hb8⟩
          have z1 := (hb8.cell (p := ⟨g2, o2, none⟩) hg7).trans z0
          have blk8 := rb_call (rb_call blk6 hb7) hb8
          go_wp2_with fail
          refine (act_bytes T b q2 z _ blk8 hT hqT2 hn3).mono ?_
          rintro e w9 ⟨ha, _, hgr9⟩
          obtain ⟨rfl, blk9⟩ := ha hlt
          clear ha
          obtain ⟨⟨_, _, _, k3, _, _, _⟩, ⟨_, _, f3, _, _, _⟩, hbl9⟩ := rb_cells blk9
          go_wp2
          go_ret
          exact TopAns.bad HV.out (gb_set (gb_trans (gb_call (gb_call hgr5 hb7) hb8) hgr9) _ _) (rb_text blk9 _)
        · have HV := Lib.hid (show R = .ok (numS x, numS y, T.extract q2 (q2 + numS z), q2 + numS z) by rw [hR2, textS, hl2]; simp [hn3, hlt])
          clear hR2 hl2
          go_enter Tryz.func41, Tryz.ntmps41
          go_wp2_with fail
          refine HL1.out.mono ?_
          rintro e w1 ⟨hb1, A, cc, rfl, hc1, hc2, hsl⟩
          obtain ⟨g, o, rfl, ⟨hg1, hg2⟩, hxs, hys, y0, y1⟩ := sl_two hsl
          have blk1 := rb_call blk hb1
          have hgb : g ≠ b := by have := heap_lt blk; omega
          clear hsl hc1 hc2
          go_wp2_with fail
          refine ((Lib.hid (act_isNumber x 9 _ hxs)).out).mono ?_
          rw [hn1]
          rintro e w2 ⟨rfl, hb2⟩
          have blk2 := rb_call blk1 hb2
          have hg3 := Nat.lt_of_lt_of_le hg2 hb2.size
          have x0 := (hb2.cell (p := ⟨g, o, none⟩) hg2).trans y0
          have x1 := (hb2.cell (p := ⟨g, o + 1, none⟩) hg2).trans y1
          clear y0 y1
          go_wp2_with fail
          refine ((Lib.hid (act_isNumber y 9 _ hys)).out).mono ?_
          rw [hn2]
          rintro e w3 ⟨rfl, hb3⟩
          have blk3 := rb_call blk2 hb3
          have hg4 := Nat.lt_of_lt_of_le hg3 hb3.size
          have y0 := (hb3.cell (p := ⟨g, o, none⟩) hg3).trans x0
          have y1 := (hb3.cell (p := ⟨g, o + 1, none⟩) hg3).trans x1
          have hgr3 := gb_call (gb_call (gb_below hb1 (some b)) hb2) hb3
          clear x0 x1
          go_wp2_with fail
          refine (atoi_any x 9 _ hn1 (by decide)).mono ?_
          rintro e w4 ⟨rfl, hb4⟩
          have blk4 := rb_call blk3 hb4
          obtain ⟨⟨_, _, k2, _, _, _, _⟩, ⟨_, f2, _, _, _, _⟩, hbl4⟩ := rb_cells blk4
          have hg5 := Nat.lt_of_lt_of_le hg4 hb4.size
          have x1 := cell_past (k := 2) (u := .int .i64 (numS x : Nat)) ((hb4.cell (p := ⟨g, o + 1, none⟩) hg4).trans y1) hgb
          have hgr4 := gb_set (gb_call hgr3 hb4) 2 (.int .i64 (numS x : Nat))
          have blk4' := rb_code blk4 (numS x : Nat)
          clear y0 y1
          go_wp2_with fail
          refine (atoi_any y 9 _ hn2 (by decide)).mono ?_
          rintro e w5 ⟨rfl, hb5⟩
          have blk5 := rb_call blk4' hb5
          have hgr5 := gb_set (gb_set (gb_call hgr4 hb5) 6 (.int .i64 (numS y : Nat))) 1 (.int .i64 (q : Nat))
          have blk6 := rb_at (rb_command blk5 (numS y : Nat)) q rfl
          obtain ⟨⟨_, k1, _, _, _, _, k6⟩, ⟨f1, _, _, _, _, f6⟩, hbl5⟩ := rb_cells blk5
          clear blk4 blk4' x1 f2 k2
          go_wp2_with fail
          refine (HL2.out _ _ _ _ (gb_env hE hgr5 hnb) blk6).mono ?_
          clear f1 f6 k1 k6
          rintro e w7 ⟨hb7, A2, cc2, rfl, hc1, hc2, hsl⟩
          obtain ⟨g2, o2, rfl, ⟨hg6, hg7⟩, hzs, z0⟩ := sl_one hsl
          go_wp2_with fail
          refine ((Lib.hid (act_isNumber z 9 _ hzs)).out).mono ?_
          rw [hn3]
          rintro e w8 ⟨rfl, hb8⟩
          have z1 := (hb8.cell (p := ⟨g2, o2, none⟩) hg7).trans z0
          have blk8 := rb_call (rb_call blk6 hb7) hb8
          go_wp2_with fail
          refine (act_bytes T b q2 z _ blk8 hT hqT2 hn3).mono ?_
          rintro e w9 ⟨_, ha, hgr9⟩
          obtain ⟨rfl, blk9⟩ := ha hlt
          clear ha
          obtain ⟨⟨_, _, _, k3, _, _, _⟩, ⟨_, _, f3, _, _, _⟩, hbl9⟩ := rb_cells blk9
          go_wp2
          go_ret
          exact TopAns.good HV.out (gb_set (gb_trans (gb_call (gb_call hgr5 hb7) hb8) hgr9) _ _) (rb_text blk9 _)
end Go.Proofs.Sm

namespace Go.Proofs.Sm
open Go.RowKit

theorem file_info : (Tryz.prog.info? 65).map (fun i => (i.zero, i.size, i.bytes)) = some (some (.agg #[.string ⟨#[]⟩, .bool false, .slice none 0 0]), 3, 48) := by kernel_rfl
/-- bytes of a string, in a row of their own, and of what type -/
theorem to_bytesK (s : ByteArray) (hs : s.size ≤ maxLen) (w : World) : ∃ w2 c, (convert 9 63 (.string s)).run Tryz.prog w = .ok (.slice (some ⟨w.heap.size, 0, none⟩) s.size c) w2 ∧ s.size ≤ c ∧ c ≤ maxLen ∧
    Below w.heap.size w w2 ∧ Sl w2 (Kind 5 w2) (some ⟨w.heap.size, 0, none⟩) s.size s.data.toList := by
  refine ⟨Lib.bytesWorld w 5 s, _, Lib.run_convert_string_bytes (P := Tryz.prog) w 9 63 5 s Tryz.underlying9 Tryz.underlying63 Tryz.underlying5, grownCap_ge _ _ _ _, grownCap_le_maxLen _ _ _ _ hs, Lib.bytesWorld_below _ _ _, by simp, hs, fun _ => ⟨_, _, rfl, ⟨_, _, Lib.bytesWorld_at_new w _ s⟩, fun i x hx => ⟨[.int .u8 x.toNat], rfl, fun j v hv => ?_⟩⟩⟩
  have hj : j = 0 ∧ v = .int .u8 x.toNat := by
    cases j with
    | zero => simp at hv; exact ⟨rfl, hv.symm⟩
    | succ j => simp at hv
  obtain ⟨rfl, rfl⟩ := hj
  have hi : i < s.data.toList.length := (List.getElem?_eq_some_iff.1 hx).1
  have h := Lib.bytesWorld_cell w 5 s i (by simpa using hi)
  simp only [Rep.sz, Nat.mul_one, Nat.add_zero, Nat.zero_add]
  rw [h, List.getD_eq_getElem?_getD, hx]; rfl
theorem act_isRun (s : ByteArray) (w : World) : Calls Tryz.prog 80 #[.string s] w fun e w' => e = .returned (.bool (isRunS s)) ∧ w = w' := by
  have e1 : isRunS s = (s.toList == [120] || s.toList == [45]) := by rw [isRunS, isX, Lib.toList_data]
  rw [e1]
  cases h1 : (s.toList == [120])
  · cases h2 : (s.toList == [45])
    all_goals
      go_enter Tryz.func80, Tryz.ntmps80
      go_wp2
      go_ret; exact ⟨rfl, rfl⟩
  · go_enter Tryz.func80, Tryz.ntmps80
    go_wp2
    go_ret; exact ⟨rfl, rfl⟩

/-- the program's reader, and what it has read so far -/
structure ARd (w : World) (B b : Nat) (T : ByteArray) (c : Int) (t : ByteArray) (d : Int) (st : RSt) (vF vL : Value) : Prop where
  blk : w.heap[b]? = some (RB T st.pos c t vF vL d)
  files : RowOwn w B 65 5 vF st.files
  looks : RowOwn w B 57 5 vL st.looks
  low : B ≤ b
  room : st.files.length ≤ st.pos ∧ st.looks.length ≤ st.pos ∧ st.pos ≤ T.size
theorem ARd.call {w w' : World} {B b : Nat} {T : ByteArray} {c : Int} {t : ByteArray} {d : Int} {st : RSt} {vF vL : Value} (h : ARd w B b T c t d st vF vL) (hb : Below w.heap.size w w') : ARd w' B b T c t d st vF vL :=
  ⟨rb_call h.blk hb, h.files.call hb, h.looks.call hb, h.low, h.room⟩
theorem gb_drew' {B : Nat} {w w1 : World} (h : Below B w w1) : Below B w w1.drew := h.drew
theorem gb_base {B b : Nat} {w w1 w2 : World} (hB : B ≤ w.heap.size) (h : Below B w w1) (k : w1.grownBy w2 (some b)) (hb : B ≤ b) : Below B w w2 :=
  h.grown k (Nat.le_trans hB h.size) (fun q e => by cases e; exact hb)
/-- what a step of the program's reader answers -/
def StepAns (B b : Nat) (T : ByteArray) (c : Int) (t : ByteArray) (d : Int) (r : Except Nat RSt) (w : World) (e : Ending) (w' : World) : Prop := Below B w w' ∧ match r with
  | .error p => e = .returned (.bool false) ∧ ∃ vF vL, w'.heap[b]? = some (RB T p c t vF vL d)
  | .ok st => e = .returned (.bool true) ∧ ∃ vF vL, ARd w' B b T c t d st vF vL
section
variable {B b p : Nat} {T t : ByteArray} {c d : Int} {vF vL : Value} {R : Except Nat RSt} {w w' : World} {st : RSt}
theorem StepAns.bad (h : R = .error p) (hg : Below B w w') (hb : w'.heap[b]? = some (RB T p c t vF vL d)) : StepAns B b T c t d R w (.returned (.bool false)) w' := by
  subst h; exact ⟨hg, rfl, _, _, hb⟩
theorem StepAns.good (h : R = .ok st) (hg : Below B w w') (hb : ARd w' B b T c t d st vF vL) : StepAns B b T c t d R w (.returned (.bool true)) w' := by
  subst h; exact ⟨hg, rfl, _, _, hb⟩
end
/-- a file more -/
theorem file_joined {B b p : Nat} {T t : ByteArray} {c d : Int} {vF vL v' : Value} {fs : List FileV} {ls : List Look} {w8 w1 : World} {A : Option Addr} {n k : Nat} {x : FileV} {rows : List (List Value)}
    (blk : w8.heap[b]? = some (RB T p c t vF vL d)) (hF : RowOwn w8 B 65 5 vF fs) (hL : RowOwn w8 B 57 5 vL ls) (hlow : B ≤ b)
    (hrows : rows.length = fs.length) (hown : w8.ownsRow B 65 3 vF fs.length rows.flatten) (hrep : ∀ (i : Nat) (x : FileV) (r : List Value), fs[i]? = some x → rows[i]? = some r → Rep.rep w8 (Kind 5 w8) x r)
    (hx : x.path.size ≤ maxLen) (hsl : Sl w8 (Kind 5 w8) A n x.bytes) (hnk : n ≤ k) (hk : k ≤ maxLen)
    (hroom : fs.length + 1 ≤ p ∧ ls.length ≤ p ∧ p ≤ T.size) (o : Obj)
    (hg : (w8.alloc o).grownBy w1 vF.ownBlock) (hown' : w1.ownsRow B 65 3 v' (fs.length + 1) (rows.flatten ++ [.string x.path, .bool x.run, .slice A n k])) :
    ARd (w1.setCell ⟨b, 4, none⟩ v') B b T c t d ⟨p, fs ++ [x], ls⟩ v' vL := by
  have hw9 := fr_alloc (fr_refl w8) o
  have hkb : ∀ k, Kind 5 w8 k → (w8.alloc o).heap[k]? = w8.heap[k]? := fun k hk => hw9.block k hk.lt
  have blk1 : w1.heap[b]? = some (RB T p c t vF vL d) := by
    rw [hg.block b (Nat.lt_of_lt_of_le (heap_lt blk) hw9.size) ?_]
    · exact rb_call blk hw9
    · intro e
      have h1 := (hF.kind b e.symm).2
      exact kind_ne h1 ⟨_, _, blk⟩ (by decide) rfl
  have hrow : ∀ g, vF.ownBlock = some g → Kind 65 (w8.alloc o) g := fun g e => ((hF.call hw9).kind g e).2
  have hb1 : Kind 47 w1 b := ⟨_, _, blk1⟩
  refine ⟨rb_files blk1 v', ?_, ?_, hlow, by simp only [List.length_append, List.length_singleton]; exact hroom⟩
  · refine RowOwn.set (t := 47) (p := ⟨b, 4, none⟩) ?_ hb1 (by decide) (by decide) v'
    refine RowOwn.append (w := w8.alloc o) (rows := rows) hrows (hown.alloc o) (fun i y r hy hr => Rep.more (Kind.of_keep hkb) (Rep.keep hkb (hrep i y r hy hr))) ?_ (by decide) hg hown'
    exact ⟨hx, A, n, k, rfl, hnk, hk, (hsl.keep hkb).more (Kind.of_keep hkb)⟩
  · exact ((hL.call hw9).other hg hrow (by decide) (by decide)).set (t := 47) (p := ⟨b, 4, none⟩) hb1 (by decide) (by decide) v'
theorem file_one (x : ByteArray) (r : Bool) (A : Option Addr) (n k : Nat) : ∀ u ∈ ([.string x, .bool r, .slice A n k] : List Value), u.oneCell' = true := by
  intro u hu
  simp only [List.mem_cons, List.mem_nil_iff, or_false] at hu
  rcases hu with rfl | rfl | rfl <;> rfl

end Go.Proofs.Sm
