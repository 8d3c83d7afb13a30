/- Walks: the reference's ReadResult. -/
import Derived.Test.YtnhcaelapadhaaaGreatDoorW57J
import Derived.Test.YtnhcaelapadhaaaGreatDoorW54J
import Derived.Deep.RegionHeld3
namespace Go.Proofs.Sm
open Go.RowKit

theorem row_words {T : ByteArray} {p q : Nat} {l : List ByteArray} (h : rowS T p = some (l, q)) : ∃ w0 ws, l = w0 :: ws := by
  obtain ⟨_, _, _, hne⟩ := row_text h
  cases l with
  | nil => exact absurd rfl hne
  | cons a r => exact ⟨a, r, rfl⟩
/-- the step at a line, by its words -/
def rowStep (T : ByteArray) (st : RSt) (l : List ByteArray) (q : Nat) : Except Nat RSt := match l with
  | [w0, x, y, z] => if (w0.data.toList == fileW && st.looks.isEmpty) = true then fileR T st x y z q
    else if (w0.data.toList == lookW && isRunS z) = true then .ok ⟨q, st.files, st.looks ++ [⟨x, undash y, isX z⟩]⟩ else .error st.pos
  | _ => .error st.pos
theorem step_none {T : ByteArray} {st : RSt} (h : rowS T st.pos = none) : stepS T st = .error st.pos := by
  have h1 : lineIs T st.pos fileW 4 = none := by rw [lineIs, h]
  have h2 : lineIs T st.pos lookW 4 = none := by rw [lineIs, h]
  rw [stepS, h1, if_neg (by simp), lookStep, h2]
theorem step_row {T : ByteArray} {st : RSt} {l : List ByteArray} {q : Nat} (h : rowS T st.pos = some (l, q)) : stepS T st = rowStep T st l q := by
  by_cases hl : l.length = 4
  · obtain ⟨w0, x, y, z, rfl⟩ : ∃ w0 x y z, l = [w0, x, y, z] := by
      match l, hl with
      | [a, b, c, d], _ => exact ⟨a, b, c, d, rfl⟩
    have h1 : ∀ word, lineIs T st.pos word 4 = if (w0.data.toList == word) = true then some ([x, y, z], q) else none := fun word => by
      have e : ([x, y, z].length + 1 == 4) = true := rfl
      rw [lineIs, h]
      simp only [e, Bool.and_true]
    rw [stepS, rowStep, h1 fileW]
    cases hf : (w0.data.toList == fileW)
    · rw [Bool.false_and, if_neg (by simp), if_neg (by decide), lookStep, h1 lookW]
      cases hk : (w0.data.toList == lookW)
      · rfl
      · rw [Bool.true_and]; rfl
    · cases hk : st.looks.isEmpty
      · rw [if_neg (by simp), if_neg (by simp), lookStep, h1 lookW]
        have : (w0.data.toList == lookW) = false := by
          rw [beq_iff_eq] at hf
          rw [hf]; decide
        rw [this]
        rfl
      · rw [if_pos (by simp), if_pos (by simp), fileStep_line (x := x) (y := y) (z := z) (q := q) (by rw [h1, hf]; rfl)]
  · have h1 : ∀ word, lineIs T st.pos word 4 = none := fun word => by
      cases l with
      | nil => rw [lineIs, h]
      | cons a r =>
        rw [lineIs, h]
        have : (r.length + 1 == 4) = false := by
          rw [beq_eq_false_iff_ne]
          exact hl
        simp only [this, Bool.and_false, Bool.false_eq_true, if_false]
    have h2 : rowStep T st l q = .error st.pos := by
      unfold rowStep
      split
      · exact absurd rfl hl
      · rfl
    rw [h2, stepS, h1, if_neg (by simp), lookStep, h1]
/-- a look more -/
theorem look_joinedR {B b o q : Nat} {bad : Int} {T t : ByteArray} {c d : Int} {vF vL v' : Value} {fs : List FileV} {ls : List Look} {V W9 w1 : World} {x : Look} {rows : List (List Value)}
    (hw9 : Below V.heap.size V W9) (blk : V.heap[b]? = some (QB T q bad)) (out : V.heap[o]? = some (RO c t vF vL d)) (hF : RowOwn V B 65 5 vF fs) (hL : RowOwn V B 57 5 vL ls) (hob : o ≠ b)
    (hrows : rows.length = ls.length) (hown : V.ownsRow B 57 3 vL ls.length rows.flatten) (hrep : ∀ (i : Nat) (x : Look) (r : List Value), ls[i]? = some x → rows[i]? = some r → Rep.rep V (Kind 5 V) x r)
    (hx : x.path.size ≤ maxLen) (hx2 : x.digest.size ≤ maxLen)
    (hg : W9.grownBy w1 vL.ownBlock) (hown' : w1.ownsRow B 57 3 v' (ls.length + 1) (rows.flatten ++ [.string x.path, .string x.digest, .bool x.run])) :
    (w1.setCell ⟨o, 3, none⟩ v').heap[b]? = some (QB T q bad) ∧ (w1.setCell ⟨o, 3, none⟩ v').heap[o]? = some (RO c t vF v' d) ∧
      RowOwn (w1.setCell ⟨o, 3, none⟩ v') B 65 5 vF fs ∧ RowOwn (w1.setCell ⟨o, 3, none⟩ v') B 57 5 v' (ls ++ [x]) := by
  have hkb : ∀ k, Kind 5 V k → W9.heap[k]? = V.heap[k]? := fun k hk => hw9.block k hk.lt
  have hrow : ∀ g, vL.ownBlock = some g → Kind 57 W9 g := fun g e => ((hL.call hw9).kind g e).2
  have blk1 : w1.heap[b]? = some (QB T q bad) := by
    rw [hg.block b (Nat.lt_of_lt_of_le (heap_lt blk) hw9.size) ?_]
    · exact qb_call blk hw9
    · intro e
      exact kind_ne (hL.kind b e.symm).2 ⟨_, _, blk⟩ (by decide) rfl
  have out1 : w1.heap[o]? = some (RO c t vF vL d) := by
    rw [hg.block o (Nat.lt_of_lt_of_le (heap_lt out) hw9.size) ?_]
    · exact below_other hw9 out
    · intro e
      exact kind_ne (hL.kind o e.symm).2 ⟨_, _, out⟩ (by decide) rfl
  have ho1 : Kind 25 w1 o := ⟨_, _, out1⟩
  refine ⟨set_other blk1 (Ne.symm hob) v', ro_looks out1 v', ?_, ?_⟩
  · exact ((hF.call hw9).other hg hrow (by decide) (by decide)).set (t := 25) (p := ⟨o, 3, none⟩) ho1 (by decide) (by decide) v'
  · refine RowOwn.set (t := 25) (p := ⟨o, 3, none⟩) ?_ ho1 (by decide) (by decide) v'
    exact RowOwn.append (w := W9) (rows := rows) hrows (ownsRow_keep hown (fun g e => hw9.block g (hL.kind g e).2.lt)) (fun i y r hy hr => Rep.more (Kind.of_keep hkb) (Rep.keep hkb (hrep i y r hy hr))) ⟨rfl, hx, hx2⟩ (by decide) hg hown'
/-- how far the loop is from its end -/
def measR (w : World) (b n : Nat) : Nat := match w.cell? ⟨b, 2, none⟩ with
  | some (.int _ z) => if z < 0 then n - posOf w b + 1 else 0
  | _ => 0
theorem measR_bad {w : World} {b n q p : Nat} {T : ByteArray} (h : w.heap[b]? = some (QB T q (p : Nat))) : measR w b n = 0 := by
  obtain ⟨⟨_, _, c2⟩, _⟩ := qb_cells h
  rw [measR, c2]
  simp
theorem measR_ok {w : World} {b n q : Nat} {T : ByteArray} (h : w.heap[b]? = some (QB T q (-1))) : measR w b n = n - q + 1 := by
  obtain ⟨⟨_, c1, c2⟩, _⟩ := qb_cells h
  rw [measR, c2, posOf, c1]
  simp
/-- the loop's relation -/
def LoopR (B b o : Nat) (T : ByteArray) (c : Int) (t : ByteArray) (d : Int) (R : Except Nat RSt) (W wr : World) : Prop := Below B W wr ∧
  ((∃ (st : RSt) (vF vL : Value), ARr wr B b o T c t d st vF vL ∧ runS T st = R) ∨ ∃ p q : Nat, wr.heap[b]? = some (QB T q (p : Nat)) ∧ R = .error p)
theorem LoopR.ok {B b o : Nat} {T : ByteArray} {c : Int} {t : ByteArray} {d : Int} {R : Except Nat RSt} {W wr : World} {st : RSt} {vF vL : Value} (h : ARr wr B b o T c t d st vF vL) (hr : runS T st = R) (hb : Below B W wr) : LoopR B b o T c t d R W wr := ⟨hb, .inl ⟨st, vF, vL, h, hr⟩⟩
theorem LoopR.bad {B b o : Nat} {T : ByteArray} {c : Int} {t : ByteArray} {d : Int} {R : Except Nat RSt} {W wr : World} {p q : Nat} {z : Int} (h : wr.heap[b]? = some (QB T q z)) (hz : z = (p : Nat)) (hr : R = .error p) (hb : Below B W wr) : LoopR B b o T c t d R W wr := by
  subst hz; exact ⟨hb, .inr ⟨p, q, h, hr⟩⟩

/-- what the head leaves for the loop -/
def LoopIs (B b o : Nat) (T : ByteArray) (W w1 : World) : Prop := ∃ (c : Int) (t : ByteArray) (d : Int) (R : Except Nat RSt), LoopR B b o T c t d R W w1 ∧
  (∀ p, R = .error p → readB T = .error p) ∧ (∀ st, R = .ok st → readB T = .ok ⟨c, t, st.files, st.looks, d⟩)
theorem loop_start {B b o : Nat} {T : ByteArray} {W w w1 : World} {e : Ending} (h : HeadAns B b o T (.slice none 0 0) (.slice none 0 0) (topS T) w e w1) (hW : Below B W w) (hlow : B ≤ b ∧ B ≤ o ∧ o ≠ b) : e = .returned (.tuple #[]) ∧ LoopIs B b o T W w1 := by
  obtain ⟨rfl, hb, ha⟩ := h
  refine ⟨rfl, ?_⟩
  cases htop : topS T with
  | error z =>
    rw [htop] at ha
    obtain ⟨q, blk⟩ := ha
    refine ⟨0, ⟨#[]⟩, 0, .error z, LoopR.bad blk rfl rfl (hW.trans hb), fun p hp => ?_, fun st hst => by cases hst⟩
    cases hp
    rw [readB, htop]
  | ok r =>
    obtain ⟨c, d, t, p⟩ := r
    rw [htop] at ha
    obtain ⟨blk, out⟩ := ha
    refine ⟨(c : Nat), t, (d : Nat), runS T ⟨p, [], []⟩, LoopR.ok (st := ⟨p, [], []⟩) ⟨blk, out, RowOwn.nil, RowOwn.nil, hlow, Nat.zero_le _, Nat.zero_le _, (top_facts htop).2.2.2⟩ rfl (hW.trans hb), fun q hq => ?_, fun st hst => ?_⟩
    · rw [readB, htop]; simp only; rw [hq]
    · rw [readB, htop]; simp only; rw [hst]
end Go.Proofs.Sm
