/- Walks: the reference's reader of a result: a file. -/
import Derived.Test.YtnhcaelapadhaaaGreatDoorW0
import Derived.Test.YtnhcaelapadhaaaGreatDoorW50J
import Derived.Test.YtnhcaelapadhaaaGreatDoorW52J
import Derived.Lib.AppendStr
import Derived.Deep.RegionLaw
namespace Go.Proofs.Sm
open Go.RowKit
theorem byte_info : (Tryz.prog.info? 5).map (fun i => (i.zero, i.size, i.bytes)) = some (some (.int .u8 0), 1, 1) := by kernel_rfl
end Go.Proofs.Sm

namespace Go.Proofs.Sm
open Go.RowKit

/-- what 'apart' answers -/
def ApartAns (l : List ByteArray) (w : World) (e : Ending) (w' : World) : Prop := Below w.heap.size w w' ∧ (noneEmpty l = false → e = .returned (.tuple #[.slice none 0 0, .bool false])) ∧
  (noneEmpty l = true → ∃ A, e = .returned (.tuple #[.slice A l.length l.length, .bool true]) ∧ Sl w' (From w.heap.size w') A l.length l)
theorem ApartAns.none_ {l : List ByteArray} {w w' : World} (h : noneEmpty l = false) (hb : Below w.heap.size w w') : ApartAns l w (.returned (.tuple #[.slice none 0 0, .bool false])) w' :=
  ⟨hb, fun _ => rfl, fun (h2 : noneEmpty l = true) => (by rw [h] at h2; cases h2)⟩
theorem ApartAns.some_ {l : List ByteArray} {w w' : World} {A : Option Addr} (h : noneEmpty l = true) (hb : Below w.heap.size w w') (hsl : Sl w' (From w.heap.size w') A l.length l) : ApartAns l w (.returned (.tuple #[.slice A l.length l.length, .bool true])) w' :=
  ⟨hb, fun (h2 : noneEmpty l = false) => (by rw [h] at h2; cases h2), fun _ => ⟨A, rfl, hsl⟩⟩
set_option maxRecDepth 100000 in
theorem ref5_apart (s : ByteArray) (w : World) (hE : Env w) (hs : s.size ≤ 4000000) :
    Calls Tryz.prog 52 #[.string s] w fun e w' => ApartAns (wordsOf s) w e w' := by
  have HW := Lib.hid (split_words s w hE hs)
  have hlen := wordsOf_count s
  generalize hl : wordsOf s = l at HW hlen ⊢
  clear hl
  have hm : l.length ≤ 9223372036854775807 := by omega
  go_enter Tryz.func52, Tryz.ntmps52
  go_wp2_with fail
  refine HW.out.mono ?_
  rintro e w1 ⟨rfl, hsl, hb1⟩
  go_wp2
  go_loop [5] (fun i => ∃ k : Nat, k ≤ l.length ∧ i = .int .i64 k ∧ (l.take k).any (fun x => x.data.toList.isEmpty) = false) (fun i => l.length - (intOf i).toNat)
  case atStart => exact ⟨0, Nat.zero_le _, rfl, rfl⟩
  case round =>
    obtain ⟨k, hk, rfl, hall⟩ := hrel
    have H := Lib.hid hall; clear hall
    by_cases hlt : k < l.length
    · obtain ⟨b, o, x, e, hb, hx, hxs, c0⟩ := hsl.str hlt
      cases e
      rw [Nat.zero_add] at c0
      have Hx := Lib.hid hx; clear hx
      cases hq : x.toList.isEmpty
      · have HS := Lib.hid (any_step (p := fun x : ByteArray => x.data.toList.isEmpty) Hx.out H.out (by rw [← Lib.toList_data]; exact hq))
        go_wp2
        go_round
        case rel => exact ⟨k + 1, by omega, by go_num, HS.out⟩
        case measure => simp [intOf]; omega
      · have HS := Lib.hid (any_yes (p := fun x : ByteArray => x.data.toList.isEmpty) Hx.out (by rw [← Lib.toList_data]; exact hq))
        have hq2 : x.toList = [] := by simpa using hq
        go_wp2
        go_ret2
        exact ApartAns.none_ (by rw [noneEmpty, HS.out]; rfl) hb1
    · have HS := Lib.hid (any_end (p := fun x : ByteArray => x.data.toList.isEmpty) (by omega) H.out)
      have HSl := Lib.hid hsl
      go_wp2
      go_ret2
      exact ApartAns.some_ (by rw [noneEmpty, HS.out]; rfl) hb1 HSl.out

/-- the reference's reader -/
def QB (T : ByteArray) (p : Nat) (bad : Int) : Obj := .cells #[.string T, .int .i64 (p : Nat), .int .i64 bad] 51 (0, 0)
section
variable {w : World} {b p : Nat} {T : ByteArray} {bad : Int}
theorem qb_cells (h : w.heap[b]? = some (QB T p bad)) : (w.cell? ⟨b, 0, none⟩ = some (.string T) ∧ w.cell? ⟨b, 1, none⟩ = some (.int .i64 (p : Nat)) ∧ w.cell? ⟨b, 2, none⟩ = some (.int .i64 bad)) ∧
    (w.frozen? ⟨b, 1, none⟩ = false ∧ w.frozen? ⟨b, 2, none⟩ = false) ∧ b < w.heap.size := by
  refine ⟨⟨?_, ?_, ?_⟩, ⟨?_, ?_⟩, heap_lt h⟩
  all_goals first
    | (rw [Lib.cell_of_heap (show w.heap[b]? = some (.cells _ _ _) from h)]; rfl)
    | exact Lib.frozen_of_heap (show w.heap[b]? = some (.cells _ _ _) from h) _
theorem qb_at (h : w.heap[b]? = some (QB T p bad)) (q : Nat) {z : Int} (hz : z = (q : Nat)) : (w.setCell ⟨b, 1, none⟩ (.int .i64 z)).heap[b]? = some (QB T q bad) := by
  subst hz; exact heap_setCell_same w b 1 _ _ _ h
theorem qb_bad (h : w.heap[b]? = some (QB T p bad)) (z : Int) : (w.setCell ⟨b, 2, none⟩ (.int .i64 z)).heap[b]? = some (QB T p z) := heap_setCell_same w b 2 _ _ _ h
theorem qb_call {w' : World} (h : w.heap[b]? = some (QB T p bad)) (hb : Below w.heap.size w w') : w'.heap[b]? = some (QB T p bad) := (hb.block b (heap_lt h)).trans h
end
theorem row_none {T : ByteArray} {p : Nat} (h : hasLine T p = false ∨ noneEmpty (wordsOf (lineB T p)) = false) : rowS T p = none := by
  rw [rowS, if_neg]
  intro hh
  obtain ⟨h1, h2⟩ := Bool.and_eq_true_iff.1 hh
  rcases h with h | h
  · rw [h] at h1; cases h1
  · rw [h] at h2; cases h2
theorem row_some {T : ByteArray} {p : Nat} (h1 : hasLine T p = true) (h2 : noneEmpty (wordsOf (lineB T p)) = true) : rowS T p = some (wordsOf (lineB T p), p + (lineB T p).size + 1) := by rw [rowS, h1, h2]; rfl
/-- what the reference's reader answers of a line -/
def RowAns (b : Nat) (T : ByteArray) (bad : Int) (r : Option (List ByteArray × Nat)) (w : World) (e : Ending) (w' : World) : Prop := w.grownBy w' (some b) ∧ match r with
  | none => e = .returned (.slice none 0 0) ∧ ∃ q, q ≤ T.size ∧ w'.heap[b]? = some (QB T q bad)
  | some (l, q) => ∃ A, e = .returned (.slice A l.length l.length) ∧ l.length ≤ maxLen ∧ Sl w' (From w.heap.size w') A l.length l ∧ w'.heap[b]? = some (QB T q bad)
section
variable {b q : Nat} {T : ByteArray} {bad : Int} {R : Option (List ByteArray × Nat)} {w w' : World} {l : List ByteArray} {A : Option Addr}
theorem RowAns.none_ (h : R = none) (hg : w.grownBy w' (some b)) (hq : q ≤ T.size) (hb : w'.heap[b]? = some (QB T q bad)) : RowAns b T bad R w (.returned (.slice none 0 0)) w' := by
  subst h; exact ⟨hg, rfl, q, hq, hb⟩
theorem RowAns.some_ (h : R = some (l, q)) (hg : w.grownBy w' (some b)) (hl : l.length ≤ maxLen) (hsl : Sl w' (From w.heap.size w') A l.length l) (hb : w'.heap[b]? = some (QB T q bad)) : RowAns b T bad R w (.returned (.slice A l.length l.length)) w' := by
  subst h; exact ⟨hg, A, rfl, hl, hsl, hb⟩
end
theorem sl_from_set {w : World} {a b k : Nat} {u : Value} {A : Option Addr} {l : List ByteArray} (h : Sl w (From a w) A l.length l) (hb : b < a) : Sl (w.setCell ⟨b, k, none⟩ u) (From a (w.setCell ⟨b, k, none⟩ u)) A l.length l :=
  (h.keep (fun g hg => heap_setCell_other w ⟨b, k, none⟩ g u (fun e => by have := hg.1; simp only at e; omega))).more (fun g hg => ⟨hg.1, by simpa using hg.2⟩)
set_option maxHeartbeats 1000000 in
set_option maxRecDepth 100000 in
theorem ref5_line (T : ByteArray) (b p : Nat) (bad : Int) (w : World) (hE : Env w) (blk : w.heap[b]? = some (QB T p bad)) (hp : p ≤ T.size) (hT : T.size ≤ 4000000) :
    Calls Tryz.prog 19 #[.pointer (some ⟨b, 0, none⟩)] w fun e w' => RowAns b T bad (rowS T p) w e w' := by
  obtain ⟨⟨c0, c1, _⟩, _, hb⟩ := qb_cells blk
  have hp1 : p ≤ 9223372036854775807 := by omega
  have hp2 : (p : Int) ≤ (T.size : Int) := by omega
  have HK := Lib.hid (show ∀ w', Below w.heap.size w w' → (Below w.heap.size w w' ∧ w'.cell? ⟨b, 0, none⟩ = some (.string T) ∧ w'.cell? ⟨b, 1, none⟩ = some (.int .i64 (p : Nat))) from
    fun w' h => ⟨h, (h.cell (p := ⟨b, 0, none⟩) hb).trans c0, (h.cell (p := ⟨b, 1, none⟩) hb).trans c1⟩)
  have HC := Lib.hid (fun w' (h : Below w.heap.size w w') => cut_line T p w' (hE.then_ h) hT)
  have hlen := line_le T p
  have HA := Lib.hid (fun w' (h : Env w') => ref5_apart (lineB T p) w' h (by omega))
  cases hl : hasLine T p
  · have HV := Lib.hid (row_none (.inl hl))
    rw [hl] at HC
    go_enter Tryz.func19, Tryz.ntmps19
    go_wp2
    go_region_held3 (fun w' => Below w.heap.size w w' ∧ w'.cell? ⟨b, 0, none⟩ = some (.string T) ∧ w'.cell? ⟨b, 1, none⟩ = some (.int .i64 (p : Nat)))
      (first | assumption | exact HK.out _ (Below.refl _ _).drew | exact HK.out _ (fr_call (And.left (by assumption)) hbc))
      (first | (go_at_call 33; refine (HC.out _ (And.left (by assumption))).mono ?_; rintro e wc ⟨r, rfl, hbc⟩))
    have hb1 : Below w.heap.size w wc := And.left (by assumption)
    have d1 : wc.cell? ⟨b, 1, none⟩ = some (.int .i64 (p : Nat)) := And.right (And.right (by assumption))
    go_wp2
    go_ret
    exact RowAns.none_ HV.out (gb_below hb1 _) hp (qb_call blk hb1)
  · rw [hl] at HC
    have hsz := line_size hl
    have hcnt := wordsOf_count (lineB T p)
    have g1 := IntWalk.i64_in ((lineB T p).size : Int) ⟨by omega, by omega⟩
    have g2 := IntWalk.i64_in (((lineB T p).size : Int) + 1) ⟨by omega, by omega⟩
    have g3 := IntWalk.i64_in ((p : Int) + (((lineB T p).size : Int) + 1)) ⟨by omega, by omega⟩
    cases hne : noneEmpty (wordsOf (lineB T p))
    · have HV := Lib.hid (row_none (.inr hne))
      go_enter Tryz.func19, Tryz.ntmps19
      go_wp2
      go_region_held3 (fun w' => Below w.heap.size w w' ∧ w'.cell? ⟨b, 0, none⟩ = some (.string T) ∧ w'.cell? ⟨b, 1, none⟩ = some (.int .i64 (p : Nat)))
        (first | assumption | exact HK.out _ (Below.refl _ _).drew | exact HK.out _ (fr_call (And.left (by assumption)) hbc))
        (first | (go_at_call 33; refine (HC.out _ (And.left (by assumption))).mono ?_; rintro e wc ⟨r, rfl, hbc⟩))
      have hb1 : Below w.heap.size w wc := And.left (by assumption)
      have d1 : wc.cell? ⟨b, 1, none⟩ = some (.int .i64 (p : Nat)) := And.right (And.right (by assumption))
      go_wp2_with fail
      refine (HA.out _ (hE.then_ hb1)).mono ?_
      rintro e w2 ⟨hb2, ha, _⟩
      obtain rfl := ha hne
      have blk2 := qb_call (qb_call blk hb1) hb2
      obtain ⟨⟨d0, d1, d2⟩, ⟨f1, f2⟩, hbl⟩ := qb_cells blk2
      clear ha
      go_wp2
      go_ret
      exact RowAns.none_ HV.out (gb_set (gb_call (gb_below hb1 _) hb2) _ _) hsz (qb_at blk2 _ (by omega))
    · have HV := Lib.hid (row_some hl hne)
      go_enter Tryz.func19, Tryz.ntmps19
      go_wp2
      go_region_held3 (fun w' => Below w.heap.size w w' ∧ w'.cell? ⟨b, 0, none⟩ = some (.string T) ∧ w'.cell? ⟨b, 1, none⟩ = some (.int .i64 (p : Nat)))
        (first | assumption | exact HK.out _ (Below.refl _ _).drew | exact HK.out _ (fr_call (And.left (by assumption)) hbc))
        (first | (go_at_call 33; refine (HC.out _ (And.left (by assumption))).mono ?_; rintro e wc ⟨r, rfl, hbc⟩))
      have hb1 : Below w.heap.size w wc := And.left (by assumption)
      have d1 : wc.cell? ⟨b, 1, none⟩ = some (.int .i64 (p : Nat)) := And.right (And.right (by assumption))
      go_wp2_with fail
      refine (HA.out _ (hE.then_ hb1)).mono ?_
      rintro e w2 ⟨hb2, _, ha⟩
      obtain ⟨A, rfl, hsl⟩ := ha hne
      have blk2 := qb_call (qb_call blk hb1) hb2
      obtain ⟨⟨d0, d1, d2⟩, ⟨f1, f2⟩, hbl⟩ := qb_cells blk2
      have HSl := Lib.hid (hsl.more (from_mono hb1.size (Nat.le_refl _)))
      clear ha hsl
      go_wp2
      go_ret
      exact RowAns.some_ HV.out (gb_set (gb_call (gb_below hb1 _) hb2) _ _) (by unfold maxLen; omega) (sl_from_set HSl.out hb) (qb_at blk2 _ (by omega))
/-- the place that is noted -/
def stopB (bad z : Int) : Int := if bad < 0 then z else bad
theorem stop_new {bad z : Int} (h : bad < 0) : stopB bad z = z := if_pos h
theorem stop_old {bad z : Int} (h : ¬ bad < 0) : stopB bad z = bad := if_neg h
theorem ref5_stop (T : ByteArray) (b p : Nat) (bad z : Int) (w : World) (blk : w.heap[b]? = some (QB T p bad)) :
    Calls Tryz.prog 21 #[.pointer (some ⟨b, 0, none⟩), .int .i64 z] w fun e w' => e = .returned (.tuple #[]) ∧ w.grownBy w' (some b) ∧ w'.heap[b]? = some (QB T p (stopB bad z)) := by
  obtain ⟨⟨c0, c1, c2⟩, ⟨f1, f2⟩, hb⟩ := qb_cells blk
  by_cases h : bad < 0
  · have HV := Lib.hid (stop_new (z := z) h)
    go_enter Tryz.func21, Tryz.ntmps21
    go_wp2
    go_end0
    exact ⟨rfl, gb_set (gb_refl _ _) _ _, by rw [HV.out]; exact qb_bad blk z⟩
  · have HV := Lib.hid (stop_old (z := z) h)
    go_enter Tryz.func21, Tryz.ntmps21
    go_wp2
    go_end0
    exact ⟨rfl, gb_refl _ _, by rw [HV.out]; exact blk⟩
set_option maxHeartbeats 1000000 in
set_option maxRecDepth 100000 in
theorem ref5_bytes (T : ByteArray) (b q n m : Nat) (w : World) {bad : Int} (blk : w.heap[b]? = some (QB T q bad)) (hT : T.size ≤ 4000000) (hq : q ≤ T.size) (hn : n < 1000000000) (hm : m = q + n) (hbad : bad < 0) :
    Calls Tryz.prog 51 #[.pointer (some ⟨b, 0, none⟩), .int .i64 (n : Nat)] w fun e w' =>
      (T.size < m → e = .returned (.string ⟨#[]⟩) ∧ w'.heap[b]? = some (QB T q T.size)) ∧
      (¬ T.size < m → e = .returned (.string (T.extract q m)) ∧ w'.heap[b]? = some (QB T m bad)) ∧ w.grownBy w' (some b) := by
  obtain ⟨⟨c0, c1, c2⟩, ⟨f1, f2⟩, hb⟩ := qb_cells blk
  have g1 := IntWalk.i64_in ((T.size : Int) - (q : Int)) ⟨by omega, by omega⟩
  have g2 := IntWalk.i64_in ((q : Int) + (n : Int)) ⟨by omega, by omega⟩
  have g3 := IntWalk.i64_in ((T.size : Int)) ⟨by omega, by omega⟩
  by_cases hlt : T.size < m
  · have h1 : (T.size : Int) - (q : Int) < (n : Int) := by omega
    have HL := Lib.hid hlt; clear hlt
    have HM := Lib.hid hm; clear hm
    go_enter Tryz.func51, Tryz.ntmps51
    go_wp2
    go_quiet (fail)
    go_wp2_with fail
    refine (ref5_stop T b q bad T.size _ (show (w.drewN nq).heap[b]? = _ from blk)).mono ?_
    rintro e w2 ⟨rfl, hg2, blk2⟩
    rw [stop_new hbad] at blk2
    have hg3 := gb_trans (gb_below (below_drewN (fr_refl w) nq) _) hg2
    go_wp2
    go_ret
    exact ⟨fun _ => ⟨rfl, blk2⟩, fun h => absurd HL.out h, hg3⟩
  · have h1 : ¬ ((T.size : Int) - (q : Int) < (n : Int)) := by omega
    have h2 : (q : Int) + (n : Int) ≤ (T.size : Int) := by omega
    have h3 : (q : Int) ≤ (q : Int) + (n : Int) := by omega
    have h4 : ((q : Int) + (n : Int)).toNat = m := by omega
    have h5 : q + n = m := hm.symm
    have HL := Lib.hid hlt; clear hlt
    have HM := Lib.hid hm; clear hm
    go_enter Tryz.func51, Tryz.ntmps51
    go_wp2
    go_quiet (fail)
    go_wp2
    go_quiet (fail)
    go_wp2
    go_ret
    exact ⟨fun h => absurd h HL.out, fun _ => ⟨rfl, qb_at (w := w.drewN _) blk m (by have := HM.out; omega)⟩, gb_set (gb_below (below_drewN (fr_refl w) _) _) _ _⟩
end Go.Proofs.Sm

namespace Go.Proofs.Sm
open Go.RowKit

/-- a result that is put together -/
def RO (c : Int) (t : ByteArray) (vF vL : Value) (d : Int) : Obj := .cells #[.int .i64 c, .string t, vF, vL, .int .i64 d] 25 (0, 0)
section
variable {w : World} {o : Nat} {t : ByteArray} {c d : Int} {vF vL : Value}
theorem ro_cells (h : w.heap[o]? = some (RO c t vF vL d)) : (w.cell? ⟨o, 0, none⟩ = some (.int .i64 c) ∧ w.cell? ⟨o, 1, none⟩ = some (.string t) ∧ w.cell? ⟨o, 2, none⟩ = some vF ∧ w.cell? ⟨o, 3, none⟩ = some vL ∧ w.cell? ⟨o, 4, none⟩ = some (.int .i64 d)) ∧
    (w.frozen? ⟨o, 0, none⟩ = false ∧ w.frozen? ⟨o, 1, none⟩ = false ∧ w.frozen? ⟨o, 2, none⟩ = false ∧ w.frozen? ⟨o, 3, none⟩ = false ∧ w.frozen? ⟨o, 4, none⟩ = false) ∧ o < w.heap.size := by
  refine ⟨⟨?_, ?_, ?_, ?_, ?_⟩, ⟨?_, ?_, ?_, ?_, ?_⟩, heap_lt h⟩
  all_goals first
    | (rw [Lib.cell_of_heap (show w.heap[o]? = some (.cells _ _ _) from h)]; rfl)
    | exact Lib.frozen_of_heap (show w.heap[o]? = some (.cells _ _ _) from h) _
theorem ro_code (h : w.heap[o]? = some (RO c t vF vL d)) (z : Int) : (w.setCell ⟨o, 0, none⟩ (.int .i64 z)).heap[o]? = some (RO z t vF vL d) := heap_setCell_same w o 0 _ _ _ h
theorem ro_text (h : w.heap[o]? = some (RO c t vF vL d)) (z : ByteArray) : (w.setCell ⟨o, 1, none⟩ (.string z)).heap[o]? = some (RO c z vF vL d) := heap_setCell_same w o 1 _ _ _ h
theorem ro_files (h : w.heap[o]? = some (RO c t vF vL d)) (z : Value) : (w.setCell ⟨o, 2, none⟩ z).heap[o]? = some (RO c t z vL d) := heap_setCell_same w o 2 _ _ _ h
theorem ro_looks (h : w.heap[o]? = some (RO c t vF vL d)) (z : Value) : (w.setCell ⟨o, 3, none⟩ z).heap[o]? = some (RO c t vF z d) := heap_setCell_same w o 3 _ _ _ h
theorem ro_command (h : w.heap[o]? = some (RO c t vF vL d)) (z : Int) : (w.setCell ⟨o, 4, none⟩ (.int .i64 z)).heap[o]? = some (RO c t vF vL z) := heap_setCell_same w o 4 _ _ _ h
end
theorem gb_other {w w1 : World} {b o : Nat} {X : Obj} (hg : w.grownBy w1 (some b)) (h : w.heap[o]? = some X) (hne : o ≠ b) : w1.heap[o]? = some X :=
  (hg.block o (heap_lt h) (fun e => hne (Option.some.inj e))).trans h
theorem set_other {w : World} {b o k : Nat} {X : Obj} (h : w.heap[o]? = some X) (hne : o ≠ b) (u : Value) : (w.setCell ⟨b, k, none⟩ u).heap[o]? = some X := (heap_setCell_other w ⟨b, k, none⟩ o u hne).trans h
theorem below_other {w w1 : World} {o : Nat} {X : Obj} (hb : Below w.heap.size w w1) (h : w.heap[o]? = some X) : w1.heap[o]? = some X := (hb.block o (heap_lt h)).trans h

section
variable {b p many q : Nat} {T : ByteArray} {bad : Int} {w w' : World} {e : Ending} {word : List UInt8} {ws : List ByteArray}
theorem RowAns.miss (h : RowAns b T bad (rowS T p) w e w') (hl : lineIs T p word many = none) (hm : 1 ≤ many) : w.grownBy w' (some b) ∧ (∃ q, q ≤ T.size ∧ w'.heap[b]? = some (QB T q bad)) ∧
    ∃ A n, e = .returned (.slice A n n) ∧ n ≤ maxLen ∧ (n ≠ many ∨ ∃ g o w0, n = many ∧ A = some ⟨g, o, none⟩ ∧ g < w'.heap.size ∧ w'.cell? ⟨g, o, none⟩ = some (.string w0) ∧ (w0.toList == word) = false) := by
  cases hr : rowS T p with
  | none =>
    rw [hr] at h
    obtain ⟨hg, rfl, q, hq, hb⟩ := h
    exact ⟨hg, ⟨q, hq, hb⟩, none, 0, rfl, Nat.zero_le _, .inl (by omega)⟩
  | some r =>
    obtain ⟨l, q⟩ := r
    rw [hr] at h
    obtain ⟨hg, A, rfl, hlen, hsl, hb⟩ := h
    obtain ⟨_, _, _, hne⟩ := row_text hr
    have hq := (row_place hr).2
    refine ⟨hg, ⟨q, hq, hb⟩, A, l.length, rfl, hlen, ?_⟩
    by_cases hn : l.length = many
    · right
      cases l with
      | nil => exact absurd rfl hne
      | cons w0 ws =>
        obtain ⟨g, o, x, rfl, hS, hx, _, c0⟩ := hsl.str (k := 0) (by simp)
        obtain rfl : w0 = x := by simpa using hx
        refine ⟨g, o, w0, hn, rfl, hS.2, c0, ?_⟩
        rw [beq_eq_false_iff_ne, Lib.toList_data]
        intro e
        rw [lineIs_of hr e hn] at hl
        cases hl
    · exact .inl hn
theorem RowAns.hit (h : RowAns b T bad (rowS T p) w e w') (hl : lineIs T p word many = some (ws, q)) : w.grownBy w' (some b) ∧ w'.heap[b]? = some (QB T q bad) ∧
    ∃ g o w0, e = .returned (.slice (some ⟨g, o, none⟩) many many) ∧ (w.heap.size ≤ g ∧ g < w'.heap.size) ∧ w'.cell? ⟨g, o, none⟩ = some (.string w0) ∧ (w0.toList == word) = true ∧ Sl w' (From w.heap.size w') (some ⟨g, o, none⟩) many (w0 :: ws) := by
  obtain ⟨w0, hr, hw, hn⟩ := lineIs_some hl
  rw [hr] at h
  obtain ⟨hg, A, rfl, hlen, hsl, hb⟩ := h
  obtain ⟨g, o, x, rfl, hS, hx, _, c0⟩ := hsl.str (k := 0) (by simp)
  obtain rfl : w0 = x := by simpa using hx
  have hn2 : (w0 :: ws).length = many := hn
  rw [hn2] at hsl
  exact ⟨hg, hb, g, o, w0, by rw [hn2], hS, c0, by rw [beq_iff_eq, Lib.toList_data]; exact hw, hsl⟩
end
def HeadAns (B b o : Nat) (T : ByteArray) (vF vL : Value) (r : Except Nat (Nat × Nat × ByteArray × Nat)) (w : World) (e : Ending) (w' : World) : Prop := e = .returned (.tuple #[]) ∧ Below B w w' ∧ match r with
  | .error z => ∃ q, w'.heap[b]? = some (QB T q (z : Nat))
  | .ok (c, d, t, p) => w'.heap[b]? = some (QB T p (-1)) ∧ w'.heap[o]? = some (RO (c : Nat) t vF vL (d : Nat))
section
variable {B b o p q : Nat} {T t : ByteArray} {vF vL : Value} {R : Except Nat (Nat × Nat × ByteArray × Nat)} {w w' : World}
theorem HeadAns.bad {z : Int} (h : R = .error p) (hz : z = (p : Nat)) (hg : Below B w w') (hb : w'.heap[b]? = some (QB T q z)) : HeadAns B b o T vF vL R w (.returned (.tuple #[])) w' := by
  subst h; subst hz; exact ⟨rfl, hg, q, hb⟩
theorem HeadAns.good {c d : Nat} (h : R = .ok (c, d, t, p)) (hg : Below B w w') (hb : w'.heap[b]? = some (QB T p (-1))) (ho : w'.heap[o]? = some (RO (c : Nat) t vF vL (d : Nat))) : HeadAns B b o T vF vL R w (.returned (.tuple #[])) w' := by
  subst h; exact ⟨rfl, hg, hb, ho⟩
end
set_option maxHeartbeats 4000000 in
set_option maxRecDepth 100000 in
theorem ref5_head (T : ByteArray) (B b o : Nat) (w : World) {vF vL : Value} (hE : Env w) (hnB : 8 ≤ B) (hBw : B ≤ w.heap.size) (hBb : B ≤ b) (hBo : B ≤ o) (hob : o ≠ b) (blk : w.heap[b]? = some (QB T 0 (-1))) (blkO : w.heap[o]? = some (RO 0 ⟨#[]⟩ vF vL 0)) (hT : T.size ≤ 4000000) :
    Calls Tryz.prog 18 #[.pointer (some ⟨b, 0, none⟩), .pointer (some ⟨o, 0, none⟩)] w fun e w' => HeadAns B b o T vF vL (topS T) w e w' := by
  obtain ⟨⟨c0, c1, c2⟩, _, hb⟩ := qb_cells blk
  generalize hR : topS T = R
  cases hl : lineIs T 0 codeW 3 with
  | none =>
    have HV := Lib.hid (show R = .error 0 by rw [← hR, topS, hl])
    clear hR
    go_enter Tryz.func18, Tryz.ntmps18
    go_wp2_with fail
    refine (ref5_line T b 0 (-1) w hE blk (Nat.zero_le _) hT).mono ?_
    rintro e w1 hans
    obtain ⟨hg1, ⟨q, hq, blk1⟩, A, n, rfl, hnl, hor⟩ := hans.miss hl (by decide)
    rcases hor with hne | ⟨g, k, w0, rfl, rfl, hgl, y0, hw⟩
    · have hnI : ¬ ((n : Int) = 3) := by omega
      go_wp2_with fail
      refine (ref5_stop T b q (-1) 0 w1 blk1).mono ?_
      rintro e w2 ⟨rfl, hg2, blk2⟩
      rw [stop_new (by decide)] at blk2
      go_wp2
      go_end0
      exact HeadAns.bad HV.out rfl (gb_base hBw (Below.refl B w) (gb_trans hg1 hg2) hBb) blk2
    · unfold codeW at hw
      go_wp2_with fail
      refine (ref5_stop T b q (-1) 0 w1 blk1).mono ?_
      rintro e w2 ⟨rfl, hg2, blk2⟩
      rw [stop_new (by decide)] at blk2
      go_wp2
      go_end0
      exact HeadAns.bad HV.out rfl (gb_base hBw (Below.refl B w) (gb_trans hg1 hg2) hBb) blk2
  | some r =>
    obtain ⟨ws, q⟩ := r
    obtain ⟨_, hrow, _, hlen⟩ := lineIs_some hl
    obtain ⟨hq0, hqT⟩ := row_place hrow
    obtain ⟨x, y, rfl⟩ := list_two hlen
    clear hrow hlen
    by_cases hnn : (isNumberS x 9 && isNumberS y 9) = false
    · have HV := Lib.hid (show R = .error 0 by rw [← hR, topS, hl]; simp only; rw [if_neg (by rw [hnn]; decide)])
      clear hR
      have hcs : (isNumberS x 9 = false ∧ isNumberS y 9 = false) ∨ (isNumberS x 9 = false ∧ isNumberS y 9 = true) ∨ (isNumberS x 9 = true ∧ isNumberS y 9 = false) := by
        revert hnn
        cases isNumberS x 9 <;> cases isNumberS y 9 <;> simp
      clear hnn
      rcases hcs with ⟨hn1, hn2⟩ | ⟨hn1, hn2⟩ | ⟨hn1, hn2⟩
      all_goals
        go_enter Tryz.func18, Tryz.ntmps18
        go_wp2_with fail
        refine (ref5_line T b 0 (-1) w hE blk (Nat.zero_le _) hT).mono ?_
        rintro e w1 hans
        obtain ⟨hg1, blk1, g, k, w0, rfl, ⟨hgl, hgs⟩, y0, hw0, hsl⟩ := hans.hit hl
        obtain ⟨g', k', e', _, ⟨_, hxs, hys⟩, _, y1, y2⟩ := sl_three hsl
        cases e'
        unfold codeW at hw0
        have blkO1 := gb_other hg1 blkO hob
        clear hsl
        go_wp2_with fail
        refine ((Lib.hid (ref5_numbered x 9 _ hxs (by decide))).out).mono ?_
        rw [hn1]
        rintro e w2 ⟨rfl, hb2⟩
        have blk2 := qb_call blk1 hb2
        have blkO2 := below_other hb2 blkO1
        have hgs2 := Nat.lt_of_lt_of_le hgs hb2.size
        have x2 := (hb2.cell (p := ⟨g, k + 2, none⟩) hgs).trans y2
        clear y0 y1 y2
        go_wp2_with fail
        refine ((Lib.hid (ref5_numbered y 9 _ hys (by decide))).out).mono ?_
        rw [hn2]
        rintro e w3 ⟨rfl, hb3⟩
        have blk3 := qb_call blk2 hb3
        have blkO3 := below_other hb3 blkO2
        have hgr3 := gb_call (gb_call hg1 hb2) hb3
        clear x2
        go_wp2_with fail
        refine (ref5_stop T b q (-1) 0 _ blk3).mono ?_
        rintro e w4 ⟨rfl, hg4, blk4⟩
        rw [stop_new (by decide)] at blk4
        go_wp2
        go_end0
        exact HeadAns.bad HV.out rfl (gb_base hBw (Below.refl B w) (gb_trans hgr3 hg4) hBb) blk4
    obtain ⟨hn1, hn2⟩ := Bool.and_eq_true_iff.1 (by simpa using hnn : (isNumberS x 9 && isNumberS y 9) = true)
    have hR2 : R = textS T (numS x) (numS y) q := by rw [← hR, topS, hl]; simp [hn1, hn2]
    clear hR hnn
    cases hl2 : lineIs T q textW 2 with
    | none =>
      have HV := Lib.hid (show R = .error q by rw [hR2, textS, hl2])
      clear hR2
      go_enter Tryz.func18, Tryz.ntmps18
      go_wp2_with fail
      refine (ref5_line T b 0 (-1) w hE blk (Nat.zero_le _) hT).mono ?_
      rintro e w1 hans
      obtain ⟨hg1, blk1, g, k, w0, rfl, ⟨hgl, hgs⟩, y0, hw0, hsl⟩ := hans.hit hl
      obtain ⟨g', k', e', _, ⟨_, hxs, hys⟩, _, y1, y2⟩ := sl_three hsl
      cases e'
      unfold codeW at hw0
      have blkO1 := gb_other hg1 blkO hob
      clear hsl
      go_wp2_with fail
      refine ((Lib.hid (ref5_numbered x 9 _ hxs (by decide))).out).mono ?_
      rw [hn1]
      rintro e w2 ⟨rfl, hb2⟩
      have blk2 := qb_call blk1 hb2
      have blkO2 := below_other hb2 blkO1
      have hgs2 := Nat.lt_of_lt_of_le hgs hb2.size
      have x2 := (hb2.cell (p := ⟨g, k + 2, none⟩) hgs).trans y2
      clear y0 y1 y2
      go_wp2_with fail
      refine ((Lib.hid (ref5_numbered y 9 _ hys (by decide))).out).mono ?_
      rw [hn2]
      rintro e w3 ⟨rfl, hb3⟩
      have blk3 := qb_call blk2 hb3
      have blkO3 := below_other hb3 blkO2
      have hgr3 := gb_call (gb_call hg1 hb2) hb3
      clear x2
      obtain ⟨⟨o0, o1, o2, o3, o4⟩, ⟨f0, f1, f2, f3, f4⟩, hol⟩ := ro_cells blkO3
      obtain ⟨⟨q0, q1, q2⟩, _, hbl⟩ := qb_cells blk3
      have blkO4 := ro_command (ro_code blkO3 (numS x : Nat)) (numS y : Nat)
      have blk4 : (((w3.setCell ⟨o, 0, none⟩ (.int .i64 (numS x : Nat))).setCell ⟨o, 4, none⟩ (.int .i64 (numS y : Nat)))).heap[b]? = some (QB T q (-1)) := set_other (set_other blk3 (Ne.symm hob) _) (Ne.symm hob) _
      have hbel4 : Below B w ((w3.setCell ⟨o, 0, none⟩ (.int .i64 (numS x : Nat))).setCell ⟨o, 4, none⟩ (.int .i64 (numS y : Nat))) := ((gb_base hBw (Below.refl B w) hgr3 hBb).setCell (p := ⟨o, 0, none⟩) hBo _).setCell (p := ⟨o, 4, none⟩) hBo _
      go_wp2_with fail
      refine (ref5_line T b q (-1) _ (hE.below hbel4 hnB) blk4 hqT hT).mono ?_
      clear o0 o1 o2 o3 o4 f0 f1 f2 f3 f4 q0 q1 q2
      rintro e w5 hans
      obtain ⟨hg5, ⟨q5, hq5, blk5⟩, A, n, rfl, hnl, hor⟩ := hans.miss hl2 (by decide)
      rcases hor with hne | ⟨g5, k5, w05, rfl, rfl, hgl5, y0, hw⟩
      · have hnI : ¬ ((n : Int) = 2) := by omega
        go_wp2_with fail
        refine (ref5_stop T b q5 (-1) q w5 blk5).mono ?_
        rintro e w6 ⟨rfl, hg6, blk6⟩
        rw [stop_new (by decide)] at blk6
        go_wp2
        go_end0
        exact HeadAns.bad HV.out rfl (gb_base hBw hbel4 (gb_trans hg5 hg6) hBb) blk6
      · unfold textW at hw
        go_wp2_with fail
        refine (ref5_stop T b q5 (-1) q w5 blk5).mono ?_
        rintro e w6 ⟨rfl, hg6, blk6⟩
        rw [stop_new (by decide)] at blk6
        go_wp2
        go_end0
        exact HeadAns.bad HV.out rfl (gb_base hBw hbel4 (gb_trans hg5 hg6) hBb) blk6
    | some r =>
      obtain ⟨ws, q2⟩ := r
      obtain ⟨_, hrow, _, hlen⟩ := lineIs_some hl2
      obtain ⟨hq2, hqT2⟩ := row_place hrow
      obtain ⟨z, rfl⟩ := list_one hlen
      clear hrow hlen
      cases hn3 : isNumberS z 9
      · have HV := Lib.hid (show R = .error q by rw [hR2, textS, hl2]; simp [hn3])
        clear hR2
        go_enter Tryz.func18, Tryz.ntmps18
        go_wp2_with fail
        refine (ref5_line T b 0 (-1) w hE blk (Nat.zero_le _) hT).mono ?_
        rintro e w1 hans
        obtain ⟨hg1, blk1, g, k, w0, rfl, ⟨hgl, hgs⟩, y0, hw0, hsl⟩ := hans.hit hl
        obtain ⟨g', k', e', _, ⟨_, hxs, hys⟩, _, y1, y2⟩ := sl_three hsl
        cases e'
        unfold codeW at hw0
        have blkO1 := gb_other hg1 blkO hob
        clear hsl
        go_wp2_with fail
        refine ((Lib.hid (ref5_numbered x 9 _ hxs (by decide))).out).mono ?_
        rw [hn1]
        rintro e w2 ⟨rfl, hb2⟩
        have blk2 := qb_call blk1 hb2
        have blkO2 := below_other hb2 blkO1
        have hgs2 := Nat.lt_of_lt_of_le hgs hb2.size
        have x2 := (hb2.cell (p := ⟨g, k + 2, none⟩) hgs).trans y2
        clear y0 y1 y2
        go_wp2_with fail
        refine ((Lib.hid (ref5_numbered y 9 _ hys (by decide))).out).mono ?_
        rw [hn2]
        rintro e w3 ⟨rfl, hb3⟩
        have blk3 := qb_call blk2 hb3
        have blkO3 := below_other hb3 blkO2
        have hgr3 := gb_call (gb_call hg1 hb2) hb3
        clear x2
        obtain ⟨⟨o0, o1, o2, o3, o4⟩, ⟨f0, f1, f2, f3, f4⟩, hol⟩ := ro_cells blkO3
        obtain ⟨⟨q0, q1, q2⟩, _, hbl⟩ := qb_cells blk3
        have blkO4 := ro_command (ro_code blkO3 (numS x : Nat)) (numS y : Nat)
        have blk4 : (((w3.setCell ⟨o, 0, none⟩ (.int .i64 (numS x : Nat))).setCell ⟨o, 4, none⟩ (.int .i64 (numS y : Nat)))).heap[b]? = some (QB T q (-1)) := set_other (set_other blk3 (Ne.symm hob) _) (Ne.symm hob) _
        have hbel4 : Below B w ((w3.setCell ⟨o, 0, none⟩ (.int .i64 (numS x : Nat))).setCell ⟨o, 4, none⟩ (.int .i64 (numS y : Nat))) := ((gb_base hBw (Below.refl B w) hgr3 hBb).setCell (p := ⟨o, 0, none⟩) hBo _).setCell (p := ⟨o, 4, none⟩) hBo _
        go_wp2_with fail
        refine (ref5_line T b q (-1) _ (hE.below hbel4 hnB) blk4 hqT hT).mono ?_
        clear o0 o1 o2 o3 o4 f0 f1 f2 f3 f4 q0 q1 q2
        rintro e w5 hans
        obtain ⟨hg5, blk5, g5, k5, w05, rfl, ⟨hgl5, hgs5⟩, y0, hw5, hsl⟩ := hans.hit hl2
        obtain ⟨g', k', e', _, _, hzs, _, y1⟩ := sl_two hsl
        cases e'
        clear hsl
        unfold textW at hw5
        go_wp2_with fail
        refine ((Lib.hid (ref5_numbered z 9 _ hzs (by decide))).out).mono ?_
        rw [hn3]
        rintro e w6 ⟨rfl, hb6⟩
        go_wp2_with fail
        refine (ref5_stop T b q2 (-1) q w6 (qb_call blk5 hb6)).mono ?_
        rintro e w7 ⟨rfl, hg7, blk7⟩
        rw [stop_new (by decide)] at blk7
        go_wp2
        go_end0
        exact HeadAns.bad HV.out rfl (gb_base hBw hbel4 (gb_trans (gb_call hg5 hb6) hg7) hBb) blk7
      · have hn9 := num9 hn3
        by_cases hlt : T.size < q2 + numS z
        · have HV := Lib.hid (show R = .error T.size by rw [hR2, textS, hl2]; simp [hn3, hlt])
          clear hR2
          go_enter Tryz.func18, Tryz.ntmps18
          go_wp2_with fail
          refine (ref5_line T b 0 (-1) w hE blk (Nat.zero_le _) hT).mono ?_
          rintro e w1 hans
          obtain ⟨hg1, blk1, g, k, w0, rfl, ⟨hgl, hgs⟩, y0, hw0, hsl⟩ := hans.hit hl
          obtain ⟨g', k', e', _, ⟨_, hxs, hys⟩, _, y1, y2⟩ := sl_three hsl
          cases e'
          unfold codeW at hw0
          have blkO1 := gb_other hg1 blkO hob
          clear hsl
          go_wp2_with fail
          refine ((Lib.hid (ref5_numbered x 9 _ hxs (by decide))).out).mono ?_
          rw [hn1]
          rintro e w2 ⟨rfl, hb2⟩
          have blk2 := qb_call blk1 hb2
          have blkO2 := below_other hb2 blkO1
          have hgs2 := Nat.lt_of_lt_of_le hgs hb2.size
          have x2 := (hb2.cell (p := ⟨g, k + 2, none⟩) hgs).trans y2
          clear y0 y1 y2
          go_wp2_with fail
          refine ((Lib.hid (ref5_numbered y 9 _ hys (by decide))).out).mono ?_
          rw [hn2]
          rintro e w3 ⟨rfl, hb3⟩
          have blk3 := qb_call blk2 hb3
          have blkO3 := below_other hb3 blkO2
          have hgr3 := gb_call (gb_call hg1 hb2) hb3
          clear x2
          obtain ⟨⟨o0, o1, o2, o3, o4⟩, ⟨f0, f1, f2, f3, f4⟩, hol⟩ := ro_cells blkO3
          obtain ⟨⟨q0, q1, q2⟩, _, hbl⟩ := qb_cells blk3
          have blkO4 := ro_command (ro_code blkO3 (numS x : Nat)) (numS y : Nat)
          have blk4 : (((w3.setCell ⟨o, 0, none⟩ (.int .i64 (numS x : Nat))).setCell ⟨o, 4, none⟩ (.int .i64 (numS y : Nat)))).heap[b]? = some (QB T q (-1)) := set_other (set_other blk3 (Ne.symm hob) _) (Ne.symm hob) _
          have hbel4 : Below B w ((w3.setCell ⟨o, 0, none⟩ (.int .i64 (numS x : Nat))).setCell ⟨o, 4, none⟩ (.int .i64 (numS y : Nat))) := ((gb_base hBw (Below.refl B w) hgr3 hBb).setCell (p := ⟨o, 0, none⟩) hBo _).setCell (p := ⟨o, 4, none⟩) hBo _
          go_wp2_with fail
          refine (ref5_line T b q (-1) _ (hE.below hbel4 hnB) blk4 hqT hT).mono ?_
          clear o0 o1 o2 o3 o4 f0 f1 f2 f3 f4 q0 q1 q2
          rintro e w5 hans
          obtain ⟨hg5, blk5, g5, k5, w05, rfl, ⟨hgl5, hgs5⟩, y0, hw5, hsl⟩ := hans.hit hl2
          obtain ⟨g', k', e', _, _, hzs, _, y1⟩ := sl_two hsl
          cases e'
          have blkO5 := gb_other hg5 blkO4 hob
          clear hsl
          unfold textW at hw5
          go_wp2_with fail
          refine ((Lib.hid (ref5_numbered z 9 _ hzs (by decide))).out).mono ?_
          rw [hn3]
          rintro e w6 ⟨rfl, hb6⟩
          have blkO6 := below_other hb6 blkO5
          go_wp2_with fail
          refine (ref5_bytes T b q2 (numS z) _ w6 (qb_call blk5 hb6) hT hqT2 hn9 rfl (by decide)).mono ?_
          rintro e w7 ⟨ha, _, hg7⟩
          obtain ⟨rfl, blk7⟩ := ha hlt
          have blkO7 := gb_other hg7 blkO6 hob
          obtain ⟨⟨o0, o1, o2, o3, o4⟩, ⟨f0, f1, f2, f3, f4⟩, hol⟩ := ro_cells blkO7
          clear ha
          go_wp2
          go_end0
          exact HeadAns.bad HV.out rfl ((gb_base hBw hbel4 (gb_trans (gb_call hg5 hb6) hg7) hBb).setCell (p := ⟨o, 1, none⟩) hBo _) (set_other blk7 (Ne.symm hob) _)
        · have HV := Lib.hid (show R = .ok (numS x, numS y, T.extract q2 (q2 + numS z), q2 + numS z) by rw [hR2, textS, hl2]; simp [hn3, hlt])
          clear hR2
          go_enter Tryz.func18, Tryz.ntmps18
          go_wp2_with fail
          refine (ref5_line T b 0 (-1) w hE blk (Nat.zero_le _) hT).mono ?_
          rintro e w1 hans
          obtain ⟨hg1, blk1, g, k, w0, rfl, ⟨hgl, hgs⟩, y0, hw0, hsl⟩ := hans.hit hl
          obtain ⟨g', k', e', _, ⟨_, hxs, hys⟩, _, y1, y2⟩ := sl_three hsl
          cases e'
          unfold codeW at hw0
          have blkO1 := gb_other hg1 blkO hob
          clear hsl
          go_wp2_with fail
          refine ((Lib.hid (ref5_numbered x 9 _ hxs (by decide))).out).mono ?_
          rw [hn1]
          rintro e w2 ⟨rfl, hb2⟩
          have blk2 := qb_call blk1 hb2
          have blkO2 := below_other hb2 blkO1
          have hgs2 := Nat.lt_of_lt_of_le hgs hb2.size
          have x2 := (hb2.cell (p := ⟨g, k + 2, none⟩) hgs).trans y2
          clear y0 y1 y2
          go_wp2_with fail
          refine ((Lib.hid (ref5_numbered y 9 _ hys (by decide))).out).mono ?_
          rw [hn2]
          rintro e w3 ⟨rfl, hb3⟩
          have blk3 := qb_call blk2 hb3
          have blkO3 := below_other hb3 blkO2
          have hgr3 := gb_call (gb_call hg1 hb2) hb3
          clear x2
          obtain ⟨⟨o0, o1, o2, o3, o4⟩, ⟨f0, f1, f2, f3, f4⟩, hol⟩ := ro_cells blkO3
          obtain ⟨⟨q0, q1, q2⟩, _, hbl⟩ := qb_cells blk3
          have blkO4 := ro_command (ro_code blkO3 (numS x : Nat)) (numS y : Nat)
          have blk4 : (((w3.setCell ⟨o, 0, none⟩ (.int .i64 (numS x : Nat))).setCell ⟨o, 4, none⟩ (.int .i64 (numS y : Nat)))).heap[b]? = some (QB T q (-1)) := set_other (set_other blk3 (Ne.symm hob) _) (Ne.symm hob) _
          have hbel4 : Below B w ((w3.setCell ⟨o, 0, none⟩ (.int .i64 (numS x : Nat))).setCell ⟨o, 4, none⟩ (.int .i64 (numS y : Nat))) := ((gb_base hBw (Below.refl B w) hgr3 hBb).setCell (p := ⟨o, 0, none⟩) hBo _).setCell (p := ⟨o, 4, none⟩) hBo _
          go_wp2_with fail
          refine (ref5_line T b q (-1) _ (hE.below hbel4 hnB) blk4 hqT hT).mono ?_
          clear o0 o1 o2 o3 o4 f0 f1 f2 f3 f4 q0 q1 q2
          rintro e w5 hans
          obtain ⟨hg5, blk5, g5, k5, w05, rfl, ⟨hgl5, hgs5⟩, y0, hw5, hsl⟩ := hans.hit hl2
          obtain ⟨g', k', e', _, _, hzs, _, y1⟩ := sl_two hsl
          cases e'
          have blkO5 := gb_other hg5 blkO4 hob
          clear hsl
          unfold textW at hw5
          go_wp2_with fail
          refine ((Lib.hid (ref5_numbered z 9 _ hzs (by decide))).out).mono ?_
          rw [hn3]
          rintro e w6 ⟨rfl, hb6⟩
          have blkO6 := below_other hb6 blkO5
          go_wp2_with fail
          refine (ref5_bytes T b q2 (numS z) _ w6 (qb_call blk5 hb6) hT hqT2 hn9 rfl (by decide)).mono ?_
          rintro e w7 ⟨_, ha, hg7⟩
          obtain ⟨rfl, blk7⟩ := ha hlt
          have blkO7 := gb_other hg7 blkO6 hob
          obtain ⟨⟨o0, o1, o2, o3, o4⟩, ⟨f0, f1, f2, f3, f4⟩, hol⟩ := ro_cells blkO7
          clear ha
          go_wp2
          go_end0
          exact HeadAns.good HV.out ((gb_base hBw hbel4 (gb_trans (gb_call hg5 hb6) hg7) hBb).setCell (p := ⟨o, 1, none⟩) hBo _) (set_other blk7 (Ne.symm hob) _) (ro_text blkO7 _)
end Go.Proofs.Sm

namespace Go.Proofs.Sm
open Go.RowKit

/-- append of a string onto bytes of the call's own, as a step of a region that draws -/
theorem step_append_str {P : Program} {w : World} {ops : Array Oper} {o : Oper} {a : Act} {K : Act → World → Prop} {Q : Exit → Act → World → Prop} {E : Prop} (hgd : o.guard = none) (sl x : Operand) (t u : TypeId)
    (ho : o.op = .call { callee := .builtin .append, args := #[sl, x], argTypes := #[t, u] })
    (base : Nat) (e : TypeId) (i : TypeInfo) (ht : P.underlying t = some (.slice e)) (hu : P.underlying u = some .string) (hi : P.info? e = some i) (hz : i.zero = some (.int .u8 0))
    (hsize : i.size = 1) (hby : i.bytes = 1)
    (v : Value) (n : Nat) (xs : List Value) (hs : a.eval sl = v) (hown : w.ownsRow base e 1 v n xs) (s : ByteArray) (hx : a.eval x = .string s)
    (h63 : n + s.size ≤ maxLen) (hbytes : n + s.size ≤ 140737488355328) (hbase : base ≤ w.heap.size)
    (h : ∀ v' w', w'.ownsRow base e 1 v' (n + s.size) (xs ++ Lib.strCells s) → w.grownBy w' v.ownBlock → K (a.put o.dst v') w') :
    if Region.wanted o (yielded ops a.tmps) = true then Oper.wp P o a w K Q else E := by
  have hw : Region.wanted o (yielded ops a.tmps) = true := by simp [Region.wanted, hgd]
  rw [if_pos hw]
  obtain ⟨v', w', hr, h2, h3, _⟩ := Lib.run_append_own_string (P := P) w base t u o.type e i ht hu hi hz hsize hby v n xs hown s h63 hbytes hbase
  unfold Oper.wp execOp
  simp only [ho, resolve, invoke, builtin, Sem.run_bind, Sem.run_pure, Result.andThen_ok, List.map_toArray, List.map_cons, List.map_nil, hs, hx, hr]
  exact h v' w' h2 h3
theorem own_bytes {w : World} {B : Nat} {v : Value} {s : ByteArray} (h : w.ownsRow B 5 1 v s.size (Lib.strCells s)) :
    ∃ A c, v = .slice A s.size c ∧ s.size ≤ c ∧ c ≤ maxLen ∧ Sl w (Kind 5 w) A s.size s.data.toList := by
  have hcells := fun g hg => h.cells (g := g) hg
  have hk := ownsRow_kind h
  have e0 : s.data.toList.length = s.size := by simp
  rcases h.2 with ⟨rfl, h0⟩ | ⟨g, cap, cur, rfl, hb, hh, hnc, hcm, _, _⟩
  · rw [h0]
    have hl : s.data.toList = [] := List.eq_nil_of_length_eq_zero (by omega)
    rw [hl]
    exact ⟨none, 0, rfl, Nat.le_refl _, Nat.zero_le _, Sl.nil⟩
  · refine ⟨some ⟨g, 0, none⟩, cap, rfl, hnc, hcm, e0, Nat.le_trans hnc hcm, fun hn => ⟨g, 0, rfl, (hk g rfl).2, fun i x hx => ⟨[.int .u8 x.toNat], rfl, fun j u hu => ?_⟩⟩⟩
    have hj : j = 0 ∧ u = .int .u8 x.toNat := by
      cases j with
      | zero => simp at hu; exact ⟨rfl, hu.symm⟩
      | succ j => simp at hu
    obtain ⟨rfl, rfl⟩ := hj
    have h3 := hcells g rfl i (.int .u8 x.toNat) (by rw [Lib.strCells_eq, Lib.byteCells, List.getElem?_map, hx]; rfl)
    rw [addr_add] at h3
    simpa [Rep.sz] using h3

/-- the reference's reader, and what it has read so far -/
structure ARr (w : World) (B b o : Nat) (T : ByteArray) (c : Int) (t : ByteArray) (d : Int) (st : RSt) (vF vL : Value) : Prop where
  blk : w.heap[b]? = some (QB T st.pos (-1))
  out : w.heap[o]? = some (RO c t vF vL d)
  files : RowOwn w B 65 5 vF st.files
  looks : RowOwn w B 57 5 vL st.looks
  low : B ≤ b ∧ B ≤ o ∧ o ≠ b
  room : st.files.length ≤ st.pos ∧ st.looks.length ≤ st.pos ∧ st.pos ≤ T.size
theorem ARr.call {w w' : World} {B b o : Nat} {T : ByteArray} {c : Int} {t : ByteArray} {d : Int} {st : RSt} {vF vL : Value} (h : ARr w B b o T c t d st vF vL) (hb : Below w.heap.size w w') : ARr w' B b o T c t d st vF vL :=
  ⟨qb_call h.blk hb, below_other hb h.out, h.files.call hb, h.looks.call hb, h.low, h.room⟩
theorem ARr.drewN {w : World} {B b o : Nat} {T : ByteArray} {c : Int} {t : ByteArray} {d : Int} {st : RSt} {vF vL : Value} (h : ARr w B b o T c t d st vF vL) (n : Nat) : ARr (w.drewN n) B b o T c t d st vF vL :=
  h.call (below_drewN (fr_refl w) n)
/-- what a step of the reference's reader leaves -/
def StepR (B b o : Nat) (T : ByteArray) (c : Int) (t : ByteArray) (d : Int) (r : Except Nat RSt) (w : World) (w' : World) : Prop := Below B w w' ∧ match r with
  | .error p => ∃ q, w'.heap[b]? = some (QB T q (p : Nat))
  | .ok st => ∃ vF vL, ARr w' B b o T c t d st vF vL
section
variable {B b o p q : Nat} {T t : ByteArray} {c d : Int} {vF vL : Value} {R : Except Nat RSt} {w w' : World} {st : RSt}
theorem StepR.bad {z : Int} (h : R = .error p) (hz : z = (p : Nat)) (hg : Below B w w') (hb : w'.heap[b]? = some (QB T q z)) : StepR B b o T c t d R w w' := by
  subst h; subst hz; exact ⟨hg, q, hb⟩
theorem StepR.good (h : R = .ok st) (hg : Below B w w') (hb : ARr w' B b o T c t d st vF vL) : StepR B b o T c t d R w w' := by
  subst h; exact ⟨hg, _, _, hb⟩
end
/-- a file more -/
theorem file_joinedR {B b o p : Nat} {bad : Int} {T t : ByteArray} {c d : Int} {vF vL v' : Value} {fs : List FileV} {ls : List Look} {V W9 w1 : World} {A : Option Addr} {n k : Nat} {x : FileV} {rows : List (List Value)}
    (hw9 : Below V.heap.size V W9) (blk : V.heap[b]? = some (QB T p bad)) (out : V.heap[o]? = some (RO c t vF vL d)) (hF : RowOwn V B 65 5 vF fs) (hL : RowOwn V B 57 5 vL ls) (hob : o ≠ b)
    (hrows : rows.length = fs.length) (hown : V.ownsRow B 65 3 vF fs.length rows.flatten) (hrep : ∀ (i : Nat) (x : FileV) (r : List Value), fs[i]? = some x → rows[i]? = some r → Rep.rep V (Kind 5 V) x r)
    (hx : x.path.size ≤ maxLen) (hsl : Sl V (Kind 5 V) A n x.bytes) (hnk : n ≤ k) (hk : k ≤ maxLen)
    (hg : W9.grownBy w1 vF.ownBlock) (hown' : w1.ownsRow B 65 3 v' (fs.length + 1) (rows.flatten ++ [.string x.path, .bool x.run, .slice A n k])) :
    (w1.setCell ⟨o, 2, none⟩ v').heap[b]? = some (QB T p bad) ∧ (w1.setCell ⟨o, 2, none⟩ v').heap[o]? = some (RO c t v' vL d) ∧
      RowOwn (w1.setCell ⟨o, 2, none⟩ v') B 65 5 v' (fs ++ [x]) ∧ RowOwn (w1.setCell ⟨o, 2, none⟩ v') B 57 5 vL ls := by
  have hkb : ∀ k, Kind 5 V k → W9.heap[k]? = V.heap[k]? := fun k hk => hw9.block k hk.lt
  have hrow : ∀ g, vF.ownBlock = some g → Kind 65 W9 g := fun g e => ((hF.call hw9).kind g e).2
  have blk1 : w1.heap[b]? = some (QB T p bad) := by
    rw [hg.block b (Nat.lt_of_lt_of_le (heap_lt blk) hw9.size) ?_]
    · exact qb_call blk hw9
    · intro e
      exact kind_ne (hF.kind b e.symm).2 ⟨_, _, blk⟩ (by decide) rfl
  have out1 : w1.heap[o]? = some (RO c t vF vL d) := by
    rw [hg.block o (Nat.lt_of_lt_of_le (heap_lt out) hw9.size) ?_]
    · exact below_other hw9 out
    · intro e
      exact kind_ne (hF.kind o e.symm).2 ⟨_, _, out⟩ (by decide) rfl
  have ho1 : Kind 25 w1 o := ⟨_, _, out1⟩
  refine ⟨set_other blk1 (Ne.symm hob) v', ro_files out1 v', ?_, ?_⟩
  · refine RowOwn.set (t := 25) (p := ⟨o, 2, none⟩) ?_ ho1 (by decide) (by decide) v'
    refine RowOwn.append (w := W9) (rows := rows) hrows (ownsRow_keep hown (fun g e => hw9.block g (hF.kind g e).2.lt)) (fun i y r hy hr => Rep.more (Kind.of_keep hkb) (Rep.keep hkb (hrep i y r hy hr))) ?_ (by decide) hg hown'
    exact ⟨hx, A, n, k, rfl, hnk, hk, (hsl.keep hkb).more (Kind.of_keep hkb)⟩
  · exact ((hL.call hw9).other hg hrow (by decide) (by decide)).set (t := 25) (p := ⟨o, 2, none⟩) ho1 (by decide) (by decide) v'
/-- what the line of a file leads to -/
def fileR (T : ByteArray) (st : RSt) (x y z : ByteArray) (q : Nat) : Except Nat RSt := if (isRunS y && isNumberS z 9) = true then fileBody T st x y (numS z) q else .error st.pos
theorem fileStep_line {T : ByteArray} {st : RSt} {x y z : ByteArray} {q : Nat} (h : lineIs T st.pos fileW 4 = some ([x, y, z], q)) : fileStep T st = fileR T st x y z q := by
  rw [fileStep, h]; rfl
end Go.Proofs.Sm
