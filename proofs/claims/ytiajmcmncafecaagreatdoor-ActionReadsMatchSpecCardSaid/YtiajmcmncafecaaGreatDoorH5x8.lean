/- Walks: the reference's reader of an action, whole. -/
import Derived.Test.YtiajmcmncafecaaGreatDoorH8x7
import Derived.Test.YtiajmcmncafecaaGreatDoorH8x3
namespace Go.Proofs.Sm
open Go.RowKit

theorem place_step {s : ByteArray} {k : List UInt8} (h : (s.toList == k) = false) : ¬ s.data.toList = k := by
  rw [Lib.toList_data] at h
  simpa using h
theorem place_hit {s : ByteArray} {k : List UInt8} (h : (s.toList == k) = true) : s.data.toList = k := by
  rw [Lib.toList_data] at h
  simpa using h
set_option maxRecDepth 100000 in
theorem ref5_place (s : ByteArray) (w : World) :
    Calls Tryz.prog 13 #[.string s] w fun e w' => e = .returned (.int .i64 (placeS s.data.toList : Nat)) ∧ w = w' := by
  have HV := Lib.hid (show placeS s.data.toList = if s.data.toList = toolW then 1 else if s.data.toList = doW then 2 else if s.data.toList = varW then 3 else if s.data.toList = outW then 4 else if s.data.toList = needW then 5 else if s.data.toList = timeW then 6 else 0 from rfl)
  generalize placeS s.data.toList = R at HV ⊢
  unfold toolW doW varW outW needW timeW at HV
  cases h1 : (s.toList == [116, 111, 111, 108])
  rotate_left
  · have HR := Lib.hid (show R = 1 by rw [HV.out, if_pos (place_hit h1)])
    clear HV
    go_enter Tryz.func13, Tryz.ntmps13
    go_wp2
    go_ret
    exact ⟨by rw [HR.out]; rfl, rfl⟩
  cases h2 : (s.toList == [100, 111])
  rotate_left
  · have HR := Lib.hid (show R = 2 by rw [HV.out, if_neg (place_step h1), if_pos (place_hit h2)])
    clear HV
    go_enter Tryz.func13, Tryz.ntmps13
    go_wp2
    go_ret
    exact ⟨by rw [HR.out]; rfl, rfl⟩
  cases h3 : (s.toList == [118, 97, 114])
  rotate_left
  · have HR := Lib.hid (show R = 3 by rw [HV.out, if_neg (place_step h1), if_neg (place_step h2), if_pos (place_hit h3)])
    clear HV
    go_enter Tryz.func13, Tryz.ntmps13
    go_wp2
    go_ret
    exact ⟨by rw [HR.out]; rfl, rfl⟩
  cases h4 : (s.toList == [111, 117, 116])
  rotate_left
  · have HR := Lib.hid (show R = 4 by rw [HV.out, if_neg (place_step h1), if_neg (place_step h2), if_neg (place_step h3), if_pos (place_hit h4)])
    clear HV
    go_enter Tryz.func13, Tryz.ntmps13
    go_wp2
    go_ret
    exact ⟨by rw [HR.out]; rfl, rfl⟩
  cases h5 : (s.toList == [110, 101, 101, 100])
  rotate_left
  · have HR := Lib.hid (show R = 5 by rw [HV.out, if_neg (place_step h1), if_neg (place_step h2), if_neg (place_step h3), if_neg (place_step h4), if_pos (place_hit h5)])
    clear HV
    go_enter Tryz.func13, Tryz.ntmps13
    go_wp2
    go_ret
    exact ⟨by rw [HR.out]; rfl, rfl⟩
  cases h6 : (s.toList == [116, 105, 109, 101])
  rotate_left
  · have HR := Lib.hid (show R = 6 by rw [HV.out, if_neg (place_step h1), if_neg (place_step h2), if_neg (place_step h3), if_neg (place_step h4), if_neg (place_step h5), if_pos (place_hit h6)])
    clear HV
    go_enter Tryz.func13, Tryz.ntmps13
    go_wp2
    go_ret
    exact ⟨by rw [HR.out]; rfl, rfl⟩
  have HR := Lib.hid (show R = 0 by rw [HV.out, if_neg (place_step h1), if_neg (place_step h2), if_neg (place_step h3), if_neg (place_step h4), if_neg (place_step h5), if_neg (place_step h6)])
  clear HV
  go_enter Tryz.func13, Tryz.ntmps13
  go_wp2
  go_ret
  exact ⟨by rw [HR.out]; rfl, rfl⟩
theorem oneWord_words (s : ByteArray) : oneWord s = (noneEmpty (wordsOf s) && decide ((wordsOf s).length = 1)) := by
  have hd := wordsOf_data s
  have hl : (wordsOf s).length = (piecesL 32 s.data.toList).length := by rw [← hd, List.length_map]
  cases h : cutHas s 32
  · have h1 := cut_hasnt h
    rw [pieces_none h1.1] at hd hl
    have h2 : ∃ x, wordsOf s = [x] ∧ x.data.toList = s.data.toList := by
      cases hw : wordsOf s with
      | nil => rw [hw] at hd; cases hd
      | cons x r =>
        rw [hw] at hd
        simp only [List.map_cons, List.cons.injEq, List.map_eq_nil_iff] at hd
        exact ⟨x, by rw [hd.2], hd.1⟩
    obtain ⟨x, h2, h3⟩ := h2
    rw [oneWord, h, h2, noneEmpty, List.any_cons, List.any_nil, h3]
    cases s.data.toList.isEmpty <;> rfl
  · have h1 := cut_whole h
    rw [h1.2, pieces_app h1.1, List.length_cons] at hl
    have h2 : (piecesL 32 (cut2 s 32).data.toList).length ≠ 0 := fun e => pieces_ne _ _ (List.eq_nil_of_length_eq_zero e)
    rw [oneWord, h, decide_eq_false (by omega)]
    simp
/-- what 'apart' answers -/
def ApK (l : List ByteArray) (w : World) (e : Ending) (w' : World) : Prop := ∃ A n, e = .returned (.tuple #[.slice A n n, .bool (noneEmpty l)]) ∧ Below w.heap.size w w' ∧
  (noneEmpty l = true → A = some ⟨w.heap.size, 0, none⟩ ∧ n = l.length ∧ Kind 9 w' w.heap.size ∧ Sl w' (fun k => k = w.heap.size) A n l)
theorem ApK.no {l : List ByteArray} {w w' : World} (h : noneEmpty l = false) (hb : Below w.heap.size w w') : ApK l w (.returned (.tuple #[.slice none 0 0, .bool false])) w' :=
  ⟨none, 0, by rw [h], hb, fun h2 => by rw [h] at h2; cases h2⟩
theorem ApK.yes {l : List ByteArray} {w w' : World} (h : noneEmpty l = true) (hb : Below w.heap.size w w') (hk : Kind 9 w' w.heap.size) (hsl : Sl w' (fun k => k = w.heap.size) (some ⟨w.heap.size, 0, none⟩) l.length l) : ApK l w (.returned (.tuple #[.slice (some ⟨w.heap.size, 0, none⟩) l.length l.length, .bool true])) w' :=
  ⟨_, l.length, by rw [h], hb, fun _ => ⟨rfl, rfl, hk, hsl⟩⟩
set_option maxRecDepth 100000 in
theorem ref5_apartK (s : ByteArray) (w : World) (hE : Env w) (hs : s.size ≤ 4000000) :
    Calls Tryz.prog 29 #[.string s] w fun e w' => ApK (wordsOf s) w e w' := by
  have HW := Lib.hid (split_rows s w hE hs)
  have hlen := wordsOf_count s
  generalize hl : wordsOf s = l at HW hlen ⊢
  clear hl
  have hm : l.length ≤ 9223372036854775807 := by omega
  go_enter Tryz.func29, Tryz.ntmps29
  go_wp2_with fail
  refine HW.out.mono ?_
  rintro e w1 ⟨rfl, hkd, hsl, hb1⟩
  go_wp2
  go_loop [5] (fun i => ∃ k : Nat, k ≤ l.length ∧ i = .int .i64 k ∧ (l.take k).any (fun x => x.data.toList.isEmpty) = false) (fun i => l.length - (intOf i).toNat)
  case atStart => exact ⟨0, Nat.zero_le _, rfl, rfl⟩
  case round =>
    obtain ⟨k, hk, rfl, hall⟩ := hrel
    have H := Lib.hid hall; clear hall
    by_cases hlt : k < l.length
    · obtain ⟨b, o, x, e, hb, hx, hxs, c0⟩ := hsl.str hlt
      cases e
      rw [Nat.zero_add] at c0
      have Hx := Lib.hid hx; clear hx
      cases hq : x.toList.isEmpty
      · have HS := Lib.hid (any_step (p := fun x : ByteArray => x.data.toList.isEmpty) Hx.out H.out (by rw [← Lib.toList_data]; exact hq))
        go_wp2
        go_round
        case rel => exact ⟨k + 1, by omega, by go_num, HS.out⟩
        case measure => simp [intOf]; omega
      · have HS := Lib.hid (any_yes (p := fun x : ByteArray => x.data.toList.isEmpty) Hx.out (by rw [← Lib.toList_data]; exact hq))
        have hq2 : x.toList = [] := by simpa using hq
        go_wp2
        go_ret2
        exact ApK.no (by rw [noneEmpty, HS.out]; rfl) hb1
    · have HS := Lib.hid (any_end (p := fun x : ByteArray => x.data.toList.isEmpty) (by omega) H.out)
      have HSl := Lib.hid (And.intro hkd hsl)
      go_wp2
      go_ret2
      exact ApK.yes (by rw [noneEmpty, HS.out]; rfl) hb1 HSl.out.1 HSl.out.2

/-- an action that is put together by the reference -/
def NB (tool : ByteArray) (vC vV vO vN : Value) (tm : Int) : Obj := .cells #[.string tool, vC, vV, vO, vN, .int .i64 tm] 26 (0, 0)
section
variable {w : World} {b : Nat} {tool : ByteArray} {tm : Int} {vC vV vO vN : Value}
theorem nb_cells (h : w.heap[b]? = some (NB tool vC vV vO vN tm)) : (w.cell? ⟨b, 0, none⟩ = some (.string tool) ∧ w.cell? ⟨b, 1, none⟩ = some vC ∧ w.cell? ⟨b, 2, none⟩ = some vV ∧ w.cell? ⟨b, 3, none⟩ = some vO ∧ w.cell? ⟨b, 4, none⟩ = some vN ∧ w.cell? ⟨b, 5, none⟩ = some (.int .i64 tm)) ∧
    (w.frozen? ⟨b, 0, none⟩ = false ∧ w.frozen? ⟨b, 1, none⟩ = false ∧ w.frozen? ⟨b, 2, none⟩ = false ∧ w.frozen? ⟨b, 3, none⟩ = false ∧ w.frozen? ⟨b, 4, none⟩ = false ∧ w.frozen? ⟨b, 5, none⟩ = false) ∧ b < w.heap.size := by
  refine ⟨⟨?_, ?_, ?_, ?_, ?_, ?_⟩, ⟨?_, ?_, ?_, ?_, ?_, ?_⟩, heap_lt h⟩
  all_goals first
    | (rw [Lib.cell_of_heap (show w.heap[b]? = some (.cells _ _ _) from h)]; rfl)
    | exact Lib.frozen_of_heap (show w.heap[b]? = some (.cells _ _ _) from h) _
theorem nb_tool (h : w.heap[b]? = some (NB tool vC vV vO vN tm)) (z : ByteArray) : (w.setCell ⟨b, 0, none⟩ (.string z)).heap[b]? = some (NB z vC vV vO vN tm) := heap_setCell_same w b 0 _ _ _ h
theorem nb_c (h : w.heap[b]? = some (NB tool vC vV vO vN tm)) (z : Value) : (w.setCell ⟨b, 1, none⟩ z).heap[b]? = some (NB tool z vV vO vN tm) := heap_setCell_same w b 1 _ _ _ h
theorem nb_v (h : w.heap[b]? = some (NB tool vC vV vO vN tm)) (z : Value) : (w.setCell ⟨b, 2, none⟩ z).heap[b]? = some (NB tool vC z vO vN tm) := heap_setCell_same w b 2 _ _ _ h
theorem nb_o (h : w.heap[b]? = some (NB tool vC vV vO vN tm)) (z : Value) : (w.setCell ⟨b, 3, none⟩ z).heap[b]? = some (NB tool vC vV z vN tm) := heap_setCell_same w b 3 _ _ _ h
theorem nb_n (h : w.heap[b]? = some (NB tool vC vV vO vN tm)) (z : Value) : (w.setCell ⟨b, 4, none⟩ z).heap[b]? = some (NB tool vC vV vO z tm) := heap_setCell_same w b 4 _ _ _ h
theorem nb_time (h : w.heap[b]? = some (NB tool vC vV vO vN tm)) (z : Int) : (w.setCell ⟨b, 5, none⟩ (.int .i64 z)).heap[b]? = some (NB tool vC vV vO vN z) := heap_setCell_same w b 5 _ _ _ h
theorem nb_call {w' : World} (h : w.heap[b]? = some (NB tool vC vV vO vN tm)) (hb : Below w.heap.size w w') : w'.heap[b]? = some (NB tool vC vV vO vN tm) := (hb.block b (heap_lt h)).trans h
end
structure RAt (w : World) (B b : Nat) (a : ActionV) (K : Nat → Prop) (vC vV vO vN : Value) : Prop where
  blk : w.heap[b]? = some (NB a.tool vC vV vO vN a.time)
  rows : Rows4 w B a K vC vV vO vN
  low : B ≤ b
  tool : a.tool.size ≤ maxLen
  time : InInt a.time
def TakeAns (B b : Nat) (r : Option ActionV) (w : World) (e : Ending) (w' : World) : Prop := Below B w w' ∧ match r with
  | none => e = .returned (.bool false)
  | some a => e = .returned (.bool true) ∧ ∃ K vC vV vO vN, RAt w' B b a K vC vV vO vN
theorem TakeAns.no {B b : Nat} {r : Option ActionV} {w w' : World} (h : r = none) (hb : Below B w w') : TakeAns B b r w (.returned (.bool false)) w' := by
  subst h; exact ⟨hb, rfl⟩
theorem TakeAns.yes {B b : Nat} {r : Option ActionV} {w w' : World} {a : ActionV} {K : Nat → Prop} {vC vV vO vN : Value} (h : r = some a) (hb : Below B w w') (ha : RAt w' B b a K vC vV vO vN) : TakeAns B b r w (.returned (.bool true)) w' := by
  subst h; exact ⟨hb, rfl, K, vC, vV, vO, vN, ha⟩
set_option maxHeartbeats 4000000 in
set_option maxRecDepth 100000 in
theorem ref5_take3 (B b : Nat) (word rest : ByteArray) (w : World) {a : ActionV} {K : Nat → Prop} {vC vV vO vN : Value} (hE : Env w) (hnB : 8 ≤ B) (hBw : B ≤ w.heap.size) (h : RAt w B b a K vC vV vO vN) (hs : rest.size ≤ 4000000)
    (hr : a.vars.length ≤ 2000000) (hk : word = ⟨#[118, 97, 114]⟩) :
    Calls Tryz.prog 14 #[.pointer (some ⟨b, 0, none⟩), .string word, .string rest] w fun e w' => TakeAns B b (takeS a 3 rest) w e w' := by
  subst hk
  obtain ⟨i0, hi0, hz0, hz1, hz2⟩ := info_parts var_info
  have hcs := cut_size rest 32
  have hn4 : (cut1 rest 32).size ≤ maxLen ∧ (cut2 rest 32).size ≤ maxLen := by unfold maxLen; omega
  have hT := Lib.hid (show takeS a 3 rest = if twoWords rest = true then some { a with vars := a.vars ++ [⟨cut1 rest 32, cut2 rest 32⟩] } else none from rfl)
  generalize takeS a 3 rest = R at hT ⊢
  go_enter Tryz.func14, Tryz.ntmps14
  go_wp2_with fail
  refine (ref5_apartK rest w hE hs).mono ?_
  rintro e w1 ⟨A1, m1, rfl, hb1, hyes⟩
  have HY := Lib.hid hyes; clear hyes
  have blk1 := nb_call h.blk hb1
  have rows1 := h.rows.call hb1
  have hbel1 : Below B w w1 := hb1.mono hBw
  go_wp2_with fail
  refine (cut_any rest 32 _ (hE.below hbel1 hnB) hs).mono ?_
  rintro e w2 ⟨rfl, hb2⟩
  have blk2 := nb_call blk1 hb2
  have rows2 := rows1.call hb2
  have hbel2 : Below B w w2 := hbel1.trans (hb2.mono (Nat.le_trans hBw hbel1.size))
  obtain ⟨⟨d0, d1, d2, d3, d4, d5⟩, ⟨e0, e1, e2, e3, e4, e5⟩, hbl⟩ := nb_cells blk2
  have hN1 := Lib.hid (show twoWords rest = (cutHas rest 32 && !(cut1 rest 32).toList.isEmpty) by rw [twoWords, Lib.toList_data])
  generalize cut1 rest 32 = n1 at hcs hn4 hT hN1 ⊢
  generalize cut2 rest 32 = n2 at hcs hn4 hT ⊢
  have hW9 : Below w2.heap.size w2 (w2.alloc (.cells #[.string n1, .string n2] 47)) := fr_alloc (fr_refl w2) _
  have blk9 := nb_call blk2 hW9
  have rows9 := rows2.call hW9
  have hbel9 : Below B w _ := hbel2.trans (hW9.mono (Nat.le_trans hBw hbel2.size))
  obtain ⟨_, rows, hrows, hown9, hrep⟩ := id rows9.v
  clear HY
  go_wp2_with (at_builtin; refine wpList_append_lies _ rfl _ _ 23 rfl B 47 i0 _ 2 32 Tryz.underlying23 hi0 hz0 hz1 hz2 rfl (by decide) _ a.vars.length _ rfl hown9 ⟨w2.heap.size, 0, none⟩ 1 1 [.string n1, .string n2] rfl rfl ?c1 ?c2 ?c3 ?c4 ?c5 ?c6 _ rfl ?_)
  case c1 => exact new_cells w2 #[_, _] _
  case c2 => exact two_one _ _
  case c3 => decide
  case c4 => unfold maxLen; omega
  case c5 => omega
  case c6 => exact Nat.le_trans hBw hbel9.size
  intro g cap w5 hown5 hg5 hat5 hlt5
  have rows5 := rows9.moreV (x := ⟨n1, n2⟩) hrows hrep hn4 hg5 hown5 (by rw [World.size_alloc]; exact hat5)
  have blk5 := (hg5.block b (heap_lt blk9) fun e => kind_ne (rows9.v.kind b e.symm).2 ⟨_, _, blk9⟩ (by decide) rfl).trans blk9
  have hbel5 := hbel9.grown hg5 (Nat.le_trans hBw hbel9.size) (fun n e => (rows9.v.kind n e).1)
  have hB := hbel5.setCell (p := ⟨b, 2, none⟩) h.low (.slice (some ⟨g, 0, none⟩) (a.vars.length + 1) cap)
  have rows6 := rows5.set (t := 26) (b := b) ⟨_, _, blk5⟩ (by decide) (by decide) (by decide) 2 (.slice (some ⟨g, 0, none⟩) (a.vars.length + 1) cap)
  have blk6 := nb_v blk5 (.slice (some ⟨g, 0, none⟩) (a.vars.length + 1) cap)
  obtain ⟨_, ⟨_, g1, g2, g3, g4, _⟩, hbl5⟩ := nb_cells blk5
  clear hown5 hat5 hg5 hown9 hrep
  rw [hN1.out] at hT
  cases hq1 : cutHas rest 32
  · rw [hq1] at hT
    have HV := Lib.hid (show R = none by rw [hT.out]; rfl)
    go_wp2
    go_ret
    exact TakeAns.no HV.out hB
  cases hq2 : n1.toList.isEmpty
  · rw [hq1, hq2] at hT
    have HV := Lib.hid (show R = some { a with vars := a.vars ++ [⟨n1, n2⟩] } by rw [hT.out]; rfl)
    go_wp2
    go_ret
    exact TakeAns.yes HV.out hB ⟨blk6, rows6, h.low, h.tool, h.time⟩
  · rw [hq1, hq2] at hT
    have HV := Lib.hid (show R = none by rw [hT.out]; rfl)
    go_wp2
    go_ret
    exact TakeAns.no HV.out hB
set_option maxHeartbeats 4000000 in
set_option maxRecDepth 100000 in
theorem ref5_take5 (B b : Nat) (word rest : ByteArray) (w : World) {a : ActionV} {K : Nat → Prop} {vC vV vO vN : Value} (hE : Env w) (hnB : 8 ≤ B) (hBw : B ≤ w.heap.size) (h : RAt w B b a K vC vV vO vN) (hs : rest.size ≤ 4000000)
    (hr : a.needs.length ≤ 2000000) (hk : word = ⟨#[110, 101, 101, 100]⟩) :
    Calls Tryz.prog 14 #[.pointer (some ⟨b, 0, none⟩), .string word, .string rest] w fun e w' => TakeAns B b (takeS a 5 rest) w e w' := by
  subst hk
  obtain ⟨i0, hi0, hz0, hz1, hz2⟩ := info_parts var_info
  have hcs := cut_size rest 32
  have hn4 : (cut1 rest 32).size ≤ maxLen ∧ (cut2 rest 32).size ≤ maxLen := by unfold maxLen; omega
  have hT := Lib.hid (show takeS a 5 rest = if twoWords rest = true then some { a with needs := a.needs ++ [⟨cut1 rest 32, cut2 rest 32⟩] } else none from rfl)
  generalize takeS a 5 rest = R at hT ⊢
  go_enter Tryz.func14, Tryz.ntmps14
  go_wp2_with fail
  refine (ref5_apartK rest w hE hs).mono ?_
  rintro e w1 ⟨A1, m1, rfl, hb1, hyes⟩
  have HY := Lib.hid hyes; clear hyes
  have blk1 := nb_call h.blk hb1
  have rows1 := h.rows.call hb1
  have hbel1 : Below B w w1 := hb1.mono hBw
  go_wp2_with fail
  refine (cut_any rest 32 _ (hE.below hbel1 hnB) hs).mono ?_
  rintro e w2 ⟨rfl, hb2⟩
  have blk2 := nb_call blk1 hb2
  have rows2 := rows1.call hb2
  have hbel2 : Below B w w2 := hbel1.trans (hb2.mono (Nat.le_trans hBw hbel1.size))
  obtain ⟨⟨d0, d1, d2, d3, d4, d5⟩, ⟨e0, e1, e2, e3, e4, e5⟩, hbl⟩ := nb_cells blk2
  have hN1 := Lib.hid (show twoWords rest = (cutHas rest 32 && !(cut1 rest 32).toList.isEmpty) by rw [twoWords, Lib.toList_data])
  generalize cut1 rest 32 = n1 at hcs hn4 hT hN1 ⊢
  generalize cut2 rest 32 = n2 at hcs hn4 hT ⊢
  have hW9 : Below w2.heap.size w2 (w2.alloc (.cells #[.string n1, .string n2] 47)) := fr_alloc (fr_refl w2) _
  have blk9 := nb_call blk2 hW9
  have rows9 := rows2.call hW9
  have hbel9 : Below B w _ := hbel2.trans (hW9.mono (Nat.le_trans hBw hbel2.size))
  obtain ⟨_, rows, hrows, hown9, hrep⟩ := id rows9.n
  clear HY
  go_wp2_with (at_builtin; refine wpList_append_lies _ rfl _ _ 23 rfl B 47 i0 _ 2 32 Tryz.underlying23 hi0 hz0 hz1 hz2 rfl (by decide) _ a.needs.length _ rfl hown9 ⟨w2.heap.size, 0, none⟩ 1 1 [.string n1, .string n2] rfl rfl ?c1 ?c2 ?c3 ?c4 ?c5 ?c6 _ rfl ?_)
  case c1 => exact new_cells w2 #[_, _] _
  case c2 => exact two_one _ _
  case c3 => decide
  case c4 => unfold maxLen; omega
  case c5 => omega
  case c6 => exact Nat.le_trans hBw hbel9.size
  intro g cap w5 hown5 hg5 hat5 hlt5
  have rows5 := rows9.moreN (x := ⟨n1, n2⟩) hrows hrep hn4 hg5 hown5 (by rw [World.size_alloc]; exact hat5)
  have blk5 := (hg5.block b (heap_lt blk9) fun e => kind_ne (rows9.n.kind b e.symm).2 ⟨_, _, blk9⟩ (by decide) rfl).trans blk9
  have hbel5 := hbel9.grown hg5 (Nat.le_trans hBw hbel9.size) (fun n e => (rows9.n.kind n e).1)
  have hB := hbel5.setCell (p := ⟨b, 4, none⟩) h.low (.slice (some ⟨g, 0, none⟩) (a.needs.length + 1) cap)
  have rows6 := rows5.set (t := 26) (b := b) ⟨_, _, blk5⟩ (by decide) (by decide) (by decide) 4 (.slice (some ⟨g, 0, none⟩) (a.needs.length + 1) cap)
  have blk6 := nb_n blk5 (.slice (some ⟨g, 0, none⟩) (a.needs.length + 1) cap)
  obtain ⟨_, ⟨_, g1, g2, g3, g4, _⟩, hbl5⟩ := nb_cells blk5
  clear hown5 hat5 hg5 hown9 hrep
  rw [hN1.out] at hT
  cases hq1 : cutHas rest 32
  · rw [hq1] at hT
    have HV := Lib.hid (show R = none by rw [hT.out]; rfl)
    go_wp2
    go_ret
    exact TakeAns.no HV.out hB
  cases hq2 : n1.toList.isEmpty
  · rw [hq1, hq2] at hT
    have HV := Lib.hid (show R = some { a with needs := a.needs ++ [⟨n1, n2⟩] } by rw [hT.out]; rfl)
    go_wp2
    go_ret
    exact TakeAns.yes HV.out hB ⟨blk6, rows6, h.low, h.tool, h.time⟩
  · rw [hq1, hq2] at hT
    have HV := Lib.hid (show R = none by rw [hT.out]; rfl)
    go_wp2
    go_ret
    exact TakeAns.no HV.out hB
set_option maxHeartbeats 4000000 in
set_option maxRecDepth 100000 in
theorem ref5_take4 (B b : Nat) (word rest : ByteArray) (w : World) {a : ActionV} {K : Nat → Prop} {vC vV vO vN : Value} (hE : Env w) (hnB : 8 ≤ B) (hBw : B ≤ w.heap.size) (h : RAt w B b a K vC vV vO vN) (hs : rest.size ≤ 4000000)
    (hr : a.outputs.length ≤ 2000000) (hk : word = ⟨#[111, 117, 116]⟩) :
    Calls Tryz.prog 14 #[.pointer (some ⟨b, 0, none⟩), .string word, .string rest] w fun e w' => TakeAns B b (takeS a 4 rest) w e w' := by
  subst hk
  obtain ⟨i0, hi0, hz0, hz1, hz2⟩ := info_parts strs_info
  have hn4 : rest.size ≤ maxLen := by unfold maxLen; omega
  have hT := Lib.hid (show takeS a 4 rest = if oneWord rest = true then some { a with outputs := a.outputs ++ [rest] } else none from rfl)
  generalize takeS a 4 rest = R at hT ⊢
  go_enter Tryz.func14, Tryz.ntmps14
  go_wp2_with fail
  refine (ref5_apartK rest w hE hs).mono ?_
  rintro e w1 ⟨A1, m1, rfl, hb1, hyes⟩
  have HY := Lib.hid hyes; clear hyes
  have blk1 := nb_call h.blk hb1
  have rows1 := h.rows.call hb1
  have hbel1 : Below B w w1 := hb1.mono hBw
  go_wp2_with fail
  refine (cut_any rest 32 _ (hE.below hbel1 hnB) hs).mono ?_
  rintro e w2 ⟨rfl, hb2⟩
  have blk2 := nb_call blk1 hb2
  have rows2 := rows1.call hb2
  have hbel2 : Below B w w2 := hbel1.trans (hb2.mono (Nat.le_trans hBw hbel1.size))
  obtain ⟨⟨d0, d1, d2, d3, d4, d5⟩, ⟨e0, e1, e2, e3, e4, e5⟩, hbl⟩ := nb_cells blk2
  have hN1 := Lib.hid (oneWord_words rest)
  have hW9 : Below w2.heap.size w2 (w2.alloc (.cells #[.string rest] 9)) := fr_alloc (fr_refl w2) _
  have blk9 := nb_call blk2 hW9
  have rows9 := rows2.call hW9
  have hbel9 : Below B w _ := hbel2.trans (hW9.mono (Nat.le_trans hBw hbel2.size))
  obtain ⟨_, rows, hrows, hown9, hrep⟩ := id rows9.o
  go_wp2_with (at_builtin; refine wpList_append_lies _ rfl _ _ 24 rfl B 9 i0 _ 1 16 Tryz.underlying24 hi0 hz0 hz1 hz2 rfl (by decide) _ a.outputs.length _ rfl hown9 ⟨w2.heap.size, 0, none⟩ 1 1 [.string rest] rfl rfl ?c1 ?c2 ?c3 ?c4 ?c5 ?c6 _ rfl ?_)
  case c1 => exact new_cells w2 #[_] _
  case c2 => exact one_one _
  case c3 => decide
  case c4 => unfold maxLen; omega
  case c5 => omega
  case c6 => exact Nat.le_trans hBw hbel9.size
  intro g cap w5 hown5 hg5 hat5 hlt5
  have rows5 := rows9.moreO (x := rest) hrows hrep hn4 hg5 hown5 (by rw [World.size_alloc]; exact hat5)
  have blk5 := (hg5.block b (heap_lt blk9) fun e => kind_ne (rows9.o.kind b e.symm).2 ⟨_, _, blk9⟩ (by decide) rfl).trans blk9
  have hbel5 := hbel9.grown hg5 (Nat.le_trans hBw hbel9.size) (fun n e => (rows9.o.kind n e).1)
  have hB := hbel5.setCell (p := ⟨b, 3, none⟩) h.low (.slice (some ⟨g, 0, none⟩) (a.outputs.length + 1) cap)
  have rows6 := rows5.set (t := 26) (b := b) ⟨_, _, blk5⟩ (by decide) (by decide) (by decide) 3 (.slice (some ⟨g, 0, none⟩) (a.outputs.length + 1) cap)
  have blk6 := nb_o blk5 (.slice (some ⟨g, 0, none⟩) (a.outputs.length + 1) cap)
  obtain ⟨_, ⟨_, g1, g2, g3, g4, _⟩, hbl5⟩ := nb_cells blk5
  clear hown5 hat5 hg5 hown9 hrep
  rw [hN1.out] at hT
  cases hq1 : noneEmpty (wordsOf rest)
  · rw [hq1] at hT
    have HV := Lib.hid (show R = none by rw [hT.out]; rfl)
    clear HY
    go_wp2
    go_ret
    exact TakeAns.no HV.out hB
  obtain ⟨rfl, rfl, _, _⟩ := HY.out hq1
  by_cases hq2 : (wordsOf rest).length = 1
  · rw [hq1, decide_eq_true hq2] at hT
    have HV := Lib.hid (show R = some { a with outputs := a.outputs ++ [rest] } by rw [hT.out]; rfl)
    clear HY
    go_wp2
    go_ret
    exact TakeAns.yes HV.out hB ⟨blk6, rows6, h.low, h.tool, h.time⟩
  · rw [hq1, decide_eq_false hq2] at hT
    have HV := Lib.hid (show R = none by rw [hT.out]; rfl)
    have hq3 : (((wordsOf rest).length : Int) == 1) = false := beq_eq_false_iff_ne.2 (by omega)
    clear HY
    go_wp2
    go_ret
    exact TakeAns.no HV.out hB
set_option maxHeartbeats 4000000 in
set_option maxRecDepth 100000 in
theorem ref5_take1 (B b : Nat) (word rest : ByteArray) (w : World) {a : ActionV} {K : Nat → Prop} {vC vV vO vN : Value} (hE : Env w) (hnB : 8 ≤ B) (hBw : B ≤ w.heap.size) (h : RAt w B b a K vC vV vO vN) (hs : rest.size ≤ 4000000)
    (hk : word = ⟨#[116, 111, 111, 108]⟩) :
    Calls Tryz.prog 14 #[.pointer (some ⟨b, 0, none⟩), .string word, .string rest] w fun e w' => TakeAns B b (takeS a 1 rest) w e w' := by
  subst hk
  have hn4 : rest.size ≤ maxLen := by unfold maxLen; omega
  have hT := Lib.hid (show takeS a 1 rest = if oneWord rest = true then some { a with tool := rest } else none from rfl)
  generalize takeS a 1 rest = R at hT ⊢
  go_enter Tryz.func14, Tryz.ntmps14
  go_wp2_with fail
  refine (ref5_apartK rest w hE hs).mono ?_
  rintro e w1 ⟨A1, m1, rfl, hb1, hyes⟩
  have HY := Lib.hid hyes; clear hyes
  have blk1 := nb_call h.blk hb1
  have rows1 := h.rows.call hb1
  have hbel1 : Below B w w1 := hb1.mono hBw
  go_wp2_with fail
  refine (cut_any rest 32 _ (hE.below hbel1 hnB) hs).mono ?_
  rintro e w2 ⟨rfl, hb2⟩
  have blk2 := nb_call blk1 hb2
  have rows2 := rows1.call hb2
  have hbel2 : Below B w w2 := hbel1.trans (hb2.mono (Nat.le_trans hBw hbel1.size))
  obtain ⟨⟨d0, d1, d2, d3, d4, d5⟩, ⟨e0, e1, e2, e3, e4, e5⟩, hbl⟩ := nb_cells blk2
  have hN1 := Lib.hid (oneWord_words rest)
  have hB := hbel2.setCell (p := ⟨b, 0, none⟩) h.low (.string rest)
  have rows6 := (rows2.set (t := 26) (b := b) ⟨_, _, blk2⟩ (by decide) (by decide) (by decide) 0 (.string rest)).tool rest
  have blk6 := nb_tool blk2 rest
  rw [hN1.out] at hT
  cases hq1 : noneEmpty (wordsOf rest)
  · rw [hq1] at hT
    have HV := Lib.hid (show R = none by rw [hT.out]; rfl)
    clear HY
    go_wp2
    go_ret
    exact TakeAns.no HV.out hB
  obtain ⟨rfl, rfl, _, _⟩ := HY.out hq1
  by_cases hq2 : (wordsOf rest).length = 1
  · rw [hq1, decide_eq_true hq2] at hT
    have HV := Lib.hid (show R = some { a with tool := rest } by rw [hT.out]; rfl)
    clear HY
    go_wp2
    go_ret
    exact TakeAns.yes HV.out hB ⟨blk6, rows6, h.low, hn4, h.time⟩
  · rw [hq1, decide_eq_false hq2] at hT
    have HV := Lib.hid (show R = none by rw [hT.out]; rfl)
    have hq3 : (((wordsOf rest).length : Int) == 1) = false := beq_eq_false_iff_ne.2 (by omega)
    clear HY
    go_wp2
    go_ret
    exact TakeAns.no HV.out hB
set_option maxHeartbeats 4000000 in
set_option maxRecDepth 100000 in
theorem ref5_take2 (B b : Nat) (word rest : ByteArray) (w : World) {a : ActionV} {K : Nat → Prop} {vC vV vO vN : Value} (hE : Env w) (hnB : 8 ≤ B) (hBw : B ≤ w.heap.size) (h : RAt w B b a K vC vV vO vN) (hs : rest.size ≤ 4000000)
    (hr : a.commands.length ≤ 2000000) (hk : word = ⟨#[100, 111]⟩) :
    Calls Tryz.prog 14 #[.pointer (some ⟨b, 0, none⟩), .string word, .string rest] w fun e w' => TakeAns B b (takeS a 2 rest) w e w' := by
  subst hk
  obtain ⟨i0, hi0, hz0, hz1, hz2⟩ := info_parts row_info
  have hT := Lib.hid (show takeS a 2 rest = if noneEmpty (wordsOf rest) = true then some { a with commands := a.commands ++ [wordsOf rest] } else none from rfl)
  generalize takeS a 2 rest = R at hT ⊢
  go_enter Tryz.func14, Tryz.ntmps14
  go_wp2_with fail
  refine (ref5_apartK rest w hE hs).mono ?_
  rintro e w1 ⟨A1, m1, rfl, hb1, hyes⟩
  have HY := Lib.hid hyes; clear hyes
  have blk1 := nb_call h.blk hb1
  have rows1 := h.rows.call hb1
  have hbel1 : Below B w w1 := hb1.mono hBw
  go_wp2_with fail
  refine (cut_any rest 32 _ (hE.below hbel1 hnB) hs).mono ?_
  rintro e w2 ⟨rfl, hb2⟩
  have blk2 := nb_call blk1 hb2
  have rows2 := rows1.call hb2
  have hbel2 : Below B w w2 := hbel1.trans (hb2.mono (Nat.le_trans hBw hbel1.size))
  obtain ⟨⟨d0, d1, d2, d3, d4, d5⟩, ⟨e0, e1, e2, e3, e4, e5⟩, hbl⟩ := nb_cells blk2
  generalize wordsOf rest = ws at hT HY ⊢
  have hW9 : Below w2.heap.size w2 (w2.alloc (.cells #[.slice A1 m1 m1] 24)) := fr_alloc (fr_refl w2) _
  have blk9 := nb_call blk2 hW9
  have rows9 := rows2.call hW9
  have hbel9 : Below B w _ := hbel2.trans (hW9.mono (Nat.le_trans hBw hbel2.size))
  obtain ⟨_, rows, hrows, hown9, hrep⟩ := id rows9.c
  have hkO : vO.ownBlock ≠ some w.heap.size := fun e => Nat.lt_irrefl _ (h.rows.o.kind _ e).2.lt
  generalize w.heap.size = kb at HY hkO ⊢
  go_wp2_with (at_builtin; refine wpList_append_lies _ rfl _ _ 22 rfl B 24 i0 _ 1 24 Tryz.underlying22 hi0 hz0 hz1 hz2 rfl (by decide) _ a.commands.length _ rfl hown9 ⟨w2.heap.size, 0, none⟩ 1 1 [.slice A1 m1 m1] rfl rfl ?c1 ?c2 ?c3 ?c4 ?c5 ?c6 _ rfl ?_)
  case c1 => exact new_cells w2 #[_] _
  case c2 => exact slice_one _ _ _ _ rfl
  case c3 => decide
  case c4 => unfold maxLen; omega
  case c5 => omega
  case c6 => exact Nat.le_trans hBw hbel9.size
  intro g cap w6 hown6 hg6 hat6 hlt6
  have blk6 := (hg6.block b (heap_lt blk9) fun e => kind_ne (rows9.c.kind b e.symm).2 ⟨_, _, blk9⟩ (by decide) rfl).trans blk9
  have hbel6 := hbel9.grown hg6 (Nat.le_trans hBw hbel9.size) (fun n e => (rows9.c.kind n e).1)
  have hB := hbel6.setCell (p := ⟨b, 1, none⟩) h.low (.slice (some ⟨g, 0, none⟩) (a.commands.length + 1) cap)
  have blk7 := nb_c blk6 (.slice (some ⟨g, 0, none⟩) (a.commands.length + 1) cap)
  obtain ⟨_, ⟨_, g1, g2, g3, g4, _⟩, hbl5⟩ := nb_cells blk6
  cases hq : noneEmpty ws
  · rw [hq] at hT
    have HV := Lib.hid (show R = none by rw [hT.out]; rfl)
    clear HY hown6 hat6 hg6 hown9 hrep
    go_wp2
    go_ret
    exact TakeAns.no HV.out hB
  · obtain ⟨rfl, rfl, hkd, hsl1⟩ := HY.out hq
    have hk2 : Kind 9 w2 kb := Kind.of_keep (ty := 9) (fun k hk => hb2.block k hk.lt) kb hkd
    have hk9 : Kind 9 _ kb := Kind.of_keep (ty := 9) (fun k hk => hW9.block k hk.lt) kb hk2
    have hsl9 := (hsl1.keep (fun k (hk : k = kb) => by subst hk; exact hb2.block k hkd.lt)).keep (fun k (hk : k = kb) => by subst hk; exact hW9.block k hk2.lt)
    have hnm : ws.length ≤ maxLen := hsl9.2.1
    have rows6 := rows9.moreC (x := ws) hrows hrep ⟨hk9, hkO⟩ ⟨_, _, _, rfl, Nat.le_refl _, hnm, hsl9⟩ hg6 hown6
    have rows7 := rows6.set (t := 26) (b := b) ⟨_, _, blk6⟩ (by decide) (by decide) (by decide) 1 (.slice (some ⟨g, 0, none⟩) (a.commands.length + 1) cap)
    rw [hq] at hT
    have HV := Lib.hid (show R = some { a with commands := a.commands ++ [ws] } by rw [hT.out]; rfl)
    clear HY hown6 hat6 hg6 hown9 hrep hsl9 hsl1
    go_wp2
    go_ret
    exact TakeAns.yes HV.out hB ⟨blk7, rows7, h.low, h.tool, h.time⟩
set_option maxHeartbeats 4000000 in
set_option maxRecDepth 100000 in
theorem ref5_take6 (B b : Nat) (word rest : ByteArray) (w : World) {a : ActionV} {K : Nat → Prop} {vC vV vO vN : Value} (hE : Env w) (hnB : 8 ≤ B) (hBw : B ≤ w.heap.size) (h : RAt w B b a K vC vV vO vN) (hs : rest.size ≤ 4000000)
    (hk : word = ⟨#[116, 105, 109, 101]⟩) :
    Calls Tryz.prog 14 #[.pointer (some ⟨b, 0, none⟩), .string word, .string rest] w fun e w' => TakeAns B b (takeS a 6 rest) w e w' := by
  subst hk
  have hn4 : rest.size ≤ maxLen := by unfold maxLen; omega
  have hT := Lib.hid (show takeS a 6 rest = if isNumberS rest 9 = true then some { a with time := (numS rest : Nat) } else none from rfl)
  generalize takeS a 6 rest = R at hT ⊢
  have hI : isNumberS rest 9 = true → InInt ((numS rest : Nat) : Int) := fun hq => by
    have h1 := number_some hq
    have h2 : numS rest < 1000000000 := Nat.lt_of_lt_of_le h1.2.1 (Nat.pow_le_pow_right (by decide : 0 < 10) (show rest.size ≤ 9 by omega))
    exact ⟨by omega, by omega⟩
  have HI := Lib.hid hI; clear hI
  go_enter Tryz.func14, Tryz.ntmps14
  go_wp2_with fail
  refine (ref5_apartK rest w hE hs).mono ?_
  rintro e w1 ⟨A1, m1, rfl, hb1, hyes⟩
  have HY := Lib.hid hyes; clear hyes
  have blk1 := nb_call h.blk hb1
  have rows1 := h.rows.call hb1
  have hbel1 : Below B w w1 := hb1.mono hBw
  go_wp2_with fail
  refine (cut_any rest 32 _ (hE.below hbel1 hnB) hs).mono ?_
  rintro e w2 ⟨rfl, hb2⟩
  have blk2 := nb_call blk1 hb2
  have rows2 := rows1.call hb2
  have hbel2 : Below B w w2 := hbel1.trans (hb2.mono (Nat.le_trans hBw hbel1.size))
  obtain ⟨⟨d0, d1, d2, d3, d4, d5⟩, ⟨e0, e1, e2, e3, e4, e5⟩, hbl⟩ := nb_cells blk2
  clear HY
  go_wp2_with fail
  refine (ref5_numbered rest 9 _ hn4 (by decide)).mono ?_
  rintro e w3 ⟨rfl, hb3⟩
  have blk3 := nb_call blk2 hb3
  have rows3 := rows2.call hb3
  have hbel3 : Below B w w3 := hbel2.trans (hb3.mono (Nat.le_trans hBw hbel2.size))
  obtain ⟨⟨d0, d1, d2, d3, d4, d5⟩, ⟨e0, e1, e2, e3, e4, e5⟩, hbl3⟩ := nb_cells blk3
  cases hq : isNumberS rest 9
  · rw [hq] at hT
    have HV := Lib.hid (show R = none by rw [hT.out]; rfl)
    have hB := hbel3.setCell (p := ⟨b, 5, none⟩) h.low (.int .i64 0)
    go_wp2
    go_ret
    exact TakeAns.no HV.out hB
  · rw [hq] at hT
    have HV := Lib.hid (show R = some { a with time := (numS rest : Nat) } by rw [hT.out]; rfl)
    have hB := hbel3.setCell (p := ⟨b, 5, none⟩) h.low (.int .i64 (numS rest : Nat))
    have rows6 := (rows3.set (t := 26) (b := b) ⟨_, _, blk3⟩ (by decide) (by decide) (by decide) 5 (.int .i64 (numS rest : Nat))).time (numS rest : Nat)
    have blk6 := nb_time blk3 (numS rest : Nat)
    have hin := HI.out hq
    go_wp2
    go_ret
    exact TakeAns.yes HV.out hB ⟨blk6, rows6, h.low, h.tool, hin⟩
theorem place_word {s : ByteArray} {k : Nat} (h : placeS s.data.toList = k) (h0 : k ≠ 0) : (k = 1 ∧ s = ⟨#[116, 111, 111, 108]⟩) ∨ (k = 2 ∧ s = ⟨#[100, 111]⟩) ∨ (k = 3 ∧ s = ⟨#[118, 97, 114]⟩) ∨ (k = 4 ∧ s = ⟨#[111, 117, 116]⟩) ∨ (k = 5 ∧ s = ⟨#[110, 101, 101, 100]⟩) ∨ (k = 6 ∧ s = ⟨#[116, 105, 109, 101]⟩) := by
  have e : ∀ l : List UInt8, s.data.toList = l → s = ⟨l.toArray⟩ := fun l h => by
    obtain ⟨⟨d⟩⟩ := s
    subst h; rfl
  unfold placeS at h
  split at h
  · rename_i h1; exact .inl ⟨h.symm, e _ h1⟩
  split at h
  · rename_i h1; exact .inr (.inl ⟨h.symm, e _ h1⟩)
  split at h
  · rename_i h1; exact .inr (.inr (.inl ⟨h.symm, e _ h1⟩))
  split at h
  · rename_i h1; exact .inr (.inr (.inr (.inl ⟨h.symm, e _ h1⟩)))
  split at h
  · rename_i h1; exact .inr (.inr (.inr (.inr (.inl ⟨h.symm, e _ h1⟩))))
  split at h
  · rename_i h1; exact .inr (.inr (.inr (.inr (.inr ⟨h.symm, e _ h1⟩))))
  · exact absurd h.symm h0
theorem ref5_take (B b : Nat) (word rest : ByteArray) (w : World) {a : ActionV} {K : Nat → Prop} {vC vV vO vN : Value} (hE : Env w) (hnB : 8 ≤ B) (hBw : B ≤ w.heap.size) (h : RAt w B b a K vC vV vO vN) (hs : rest.size ≤ 4000000)
    (hr : a.commands.length ≤ 2000000 ∧ a.vars.length ≤ 2000000 ∧ a.outputs.length ≤ 2000000 ∧ a.needs.length ≤ 2000000) {k : Nat} (hk : placeS word.data.toList = k) (h0 : k ≠ 0) :
    Calls Tryz.prog 14 #[.pointer (some ⟨b, 0, none⟩), .string word, .string rest] w fun e w' => TakeAns B b (takeS a k rest) w e w' := by
  rcases place_word hk h0 with ⟨rfl, e⟩ | ⟨rfl, e⟩ | ⟨rfl, e⟩ | ⟨rfl, e⟩ | ⟨rfl, e⟩ | ⟨rfl, e⟩
  · exact ref5_take1 B b word rest w hE hnB hBw h hs e
  · exact ref5_take2 B b word rest w hE hnB hBw h hs hr.1 e
  · exact ref5_take3 B b word rest w hE hnB hBw h hs hr.2.1 e
  · exact ref5_take4 B b word rest w hE hnB hBw h hs hr.2.2.1 e
  · exact ref5_take5 B b word rest w hE hnB hBw h hs hr.2.2.2 e
  · exact ref5_take6 B b word rest w hE hnB hBw h hs e
end Go.Proofs.Sm

namespace Go.Proofs.Sm
open Go.RowKit

theorem readAct_bad1 {T : ByteArray} {n : Nat} (h : ¬ (2000000 : Int) < T.size) (h1 : runA T 1 ⟨0, noAction⟩ = .error (n + 1)) : readActS T = (noAction, (n : Int) + 1, 10) := by rw [readAct_bad h h1]; rfl
set_option maxHeartbeats 0 in
set_option maxRecDepth 100000 in
theorem ref5_Read (T : ByteArray) (w : World) (hE : Env w) (hs : T.size ≤ maxLen) :
    Calls Tryz.prog 6 #[.string T] w fun e w' => ReadAnsA T w e w' := by
  have hm : T.size ≤ 9223372036854775807 := hs
  by_cases hl : (2000000 : Int) < T.size
  · have HV := Lib.hid (readAct_large hl)
    go_enter Tryz.func6, Tryz.ntmps6
    go_wp2
    (try simp only [Exit.inBlock, Exit.then])
    refine bodyPost_ret (v := .tuple #[.agg #[.string ⟨#[]⟩, .slice none 0 0, .slice none 0 0, .slice none 0 0, .slice none 0 0, .int .i64 0], .int .i64 0, .int .i64 2]) (by simp [results, Tryz.results6, go_sem]) rfl ?_
    exact ReadAnsA.zero HV.out (by repeat (first | exact fr_refl _ | refine fr_call ?_ (by assumption) | refine fr_alloc ?_ _ | refine fr_set ?_ (by simp) _ | refine Below.drew ?_ | refine below_drewN ?_ _))
  have hT : T.size ≤ 2000000 := by omega
  have HL := Lib.hid hl
  have HB := Lib.hid (fun n => readAct_bad1 (T := T) (n := n) hl)
  have HW := Lib.hid (fun a => readAct_wrong (T := T) (a := a) hl)
  have HR := Lib.hid (fun a => readAct_right (T := T) (a := a) hl)
  clear HL
  go_enter Tryz.func6, Tryz.ntmps6
  go_wp2_with fail
  generalize hW0 : (w.alloc (.cells #[.string ⟨#[]⟩, .slice none 0 0, .slice none 0 0, .slice none 0 0, .slice none 0 0, .int .i64 0] 26)).alloc (.cells #[.string ⟨#[]⟩, .slice none 0 0, .slice none 0 0, .slice none 0 0, .slice none 0 0, .int .i64 0] 26) = W
  have hb0 : Below w.heap.size w W := by rw [← hW0]; exact fr_alloc (fr_alloc (fr_refl w) _) _
  have hsz : W.heap.size = w.heap.size + 2 := by rw [← hW0]; simp
  have hblk : W.heap[w.heap.size + 1]? = some (NB ⟨#[]⟩ (.slice none 0 0) (.slice none 0 0) (.slice none 0 0) (.slice none 0 0) 0) := by
    rw [← hW0]
    have := heap_alloc_new (w.alloc (.cells #[.string ⟨#[]⟩, .slice none 0 0, .slice none 0 0, .slice none 0 0, .slice none 0 0, .int .i64 0] 26)) (NB ⟨#[]⟩ (.slice none 0 0) (.slice none 0 0) (.slice none 0 0) (.slice none 0 0) 0)
    simpa [NB] using this
  have hres : W.heap[w.heap.size]? = some AZ := by
    rw [← hW0]
    exact ((fr_alloc (fr_refl (w.alloc _)) _).block w.heap.size (by simp)).trans (heap_alloc_new w _)
  clear hW0
  have hE0 := hE.then_ hb0
  obtain ⟨B, hBe⟩ : ∃ B, B = w.heap.size + 1 := ⟨_, rfl⟩
  have hnB : 8 ≤ B := by have := hE.size; omega
  have hBW : B ≤ W.heap.size := by omega
  have hresB : w.heap.size < B := by omega
  rw [← hBe] at hblk ⊢
  clear hBe hsz
  have hst : RAt W B B noAction (fun _ => False) (.slice none 0 0) (.slice none 0 0) (.slice none 0 0) (.slice none 0 0) := ⟨hblk, Rows4.nil, Nat.le_refl _, by decide, ⟨by decide, by decide⟩⟩
  go_wp2
  go_loopw [0, 6, 7] (fun v l i wr => ∃ (S : ByteArray) (n : Nat) (st : ASt) (K : Nat → Prop) (vC vV vO vN : Value), v = .string S ∧ l = .int .i64 st.last ∧ i = .int .i64 n ∧ RAt wr B B st.a K vC vV vO vN ∧ runA T 1 ⟨0, noAction⟩ = runA S (n + 1) st ∧ RoomA st.a S.size T.size ∧ st.last ≤ 6 ∧ n + S.size ≤ T.size ∧ Below B W wr) (fun v _ _ _ => (strOf v).size)
  case atStart => exact ⟨T, 0, ⟨0, noAction⟩, _, _, _, _, _, rfl, rfl, rfl, hst, rfl, ⟨by simp [noAction], by simp [noAction], by simp [noAction], by simp [noAction]⟩, by simp, by omega, Below.refl _ _⟩
  case round =>
    clear hst hblk
    obtain ⟨S, n, st, K, vC, vV, vO, vN, rfl, rfl, rfl, hat, hrun, hroom, h6, hn, hbel⟩ := hrel
    have HRun := Lib.hid hrun; clear hrun
    have gn := IntWalk.i64_in ((n : Int) + 1) ⟨by omega, by omega⟩
    cases hz : S.toList.isEmpty
    · have hS0 := size_some hz
      have hcz := cut_size S 10
      have hcz2 := cut_size (cut1 S 10) 32
      obtain ⟨k, hk⟩ : ∃ k, placeS (cut1 (cut1 S 10) 32).data.toList = k := ⟨_, rfl⟩
      have hk6 : k ≤ 6 := by rcases place_cases' (cut1 (cut1 S 10) 32).data.toList with h | h | h | h | h | h | h <;> omega
      cases hh : cutHas S 10
      · have HV := Lib.hid (HB.out n (by rw [HRun.out, runA_cut hS0 hh]))
        go_wp2_with fail
        refine (cut_any S 10 _ (hE0.below hbel hnB) (by omega)).mono ?_
        rintro e w1 ⟨rfl, hb1⟩
        have hbel1 : Below B W w1 := hbel.trans (hb1.mono (Nat.le_trans hBW hbel.size))
        go_wp2_with fail
        refine (cut_any (cut1 S 10) 32 _ (hE0.below hbel1 hnB) (by omega)).mono ?_
        rintro e w2 ⟨rfl, hb2⟩
        have hbel2 : Below B W w2 := hbel1.trans (hb2.mono (Nat.le_trans hBW hbel1.size))
        go_wp2_with fail
        refine (ref5_place (cut1 (cut1 S 10) 32) _).mono ?_
        rintro e w3 ⟨rfl, rfl⟩
        rw [hk]
        have hres2 := (hbel2.block _ hresB).trans hres
        obtain ⟨⟨z0, z1, z2, z3, z4, z5⟩, ⟨y0, y1, y2, y3, y4, y5⟩, hzl⟩ := az_cells hres2
        have hat2 : RAt w2 B B st.a K vC vV vO vN := ⟨nb_call (nb_call hat.blk hb1) hb2, (hat.rows.call hb1).call hb2, hat.low, hat.tool, hat.time⟩
        have hbw2 := hb0.trans (hbel2.mono (by omega : w.heap.size ≤ B))
        go_wp2
        all_goals
          (try simp only [Exit.inBlock, Exit.then])
          refine bodyPost_ret (v := .tuple #[.agg #[.string ⟨#[]⟩, .slice none 0 0, .slice none 0 0, .slice none 0 0, .slice none 0 0, .int .i64 0], .int .i64 ((n : Int) + 1), .int .i64 10]) (by simp [results, Tryz.results6, go_sem, z0, z1, z2, z3, z4, z5]) rfl ?_
          exact ReadAnsA.zero HV.out (by repeat (first | refine fr_set ?_ (Nat.le_refl _) _ | refine Below.drew ?_ | exact hbw2))
      have hcl := cut_less hh
      cases hh2 : cutHas (cut1 S 10) 32
      · have HV := Lib.hid (HB.out n (by rw [HRun.out, runA_stop hh (line_none (.inl hh2))]))
        go_wp2_with fail
        refine (cut_any S 10 _ (hE0.below hbel hnB) (by omega)).mono ?_
        rintro e w1 ⟨rfl, hb1⟩
        have hbel1 : Below B W w1 := hbel.trans (hb1.mono (Nat.le_trans hBW hbel.size))
        go_wp2_with fail
        refine (cut_any (cut1 S 10) 32 _ (hE0.below hbel1 hnB) (by omega)).mono ?_
        rintro e w2 ⟨rfl, hb2⟩
        have hbel2 : Below B W w2 := hbel1.trans (hb2.mono (Nat.le_trans hBW hbel1.size))
        go_wp2_with fail
        refine (ref5_place (cut1 (cut1 S 10) 32) _).mono ?_
        rintro e w3 ⟨rfl, rfl⟩
        rw [hk]
        have hres2 := (hbel2.block _ hresB).trans hres
        obtain ⟨⟨z0, z1, z2, z3, z4, z5⟩, ⟨y0, y1, y2, y3, y4, y5⟩, hzl⟩ := az_cells hres2
        have hat2 : RAt w2 B B st.a K vC vV vO vN := ⟨nb_call (nb_call hat.blk hb1) hb2, (hat.rows.call hb1).call hb2, hat.low, hat.tool, hat.time⟩
        have hbw2 := hb0.trans (hbel2.mono (by omega : w.heap.size ≤ B))
        go_wp2
        all_goals
          (try simp only [Exit.inBlock, Exit.then])
          refine bodyPost_ret (v := .tuple #[.agg #[.string ⟨#[]⟩, .slice none 0 0, .slice none 0 0, .slice none 0 0, .slice none 0 0, .int .i64 0], .int .i64 ((n : Int) + 1), .int .i64 10]) (by simp [results, Tryz.results6, go_sem, z0, z1, z2, z3, z4, z5]) rfl ?_
          exact ReadAnsA.zero HV.out (by repeat (first | refine fr_set ?_ (Nat.le_refl _) _ | refine Below.drew ?_ | exact hbw2))
      cases hm : misplaced st.last k
      · have hm2 := hm
        simp only [misplaced, Bool.or_eq_false_iff, decide_eq_false_iff_not, Bool.and_eq_false_iff, Bool.not_eq_false', decide_eq_true_eq, Bool.and_eq_true] at hm2
        obtain ⟨⟨⟨hk0, m1⟩, m2⟩, m3⟩ := hm2
        have hln := Lib.hid (line_take hh2 hk hm)
        clear hm
        by_cases hkl : k = st.last
        · have m4 : 2 ≤ k ∧ k ≤ 5 := by rcases m2 with m2 | m2 <;> omega
          clear m1 m2 m3
          have q0 : ¬ (st.last : Int) = 0 := by omega
          have q1 : (2 : Int) ≤ (st.last : Int) := by omega
          have q2 : (st.last : Int) ≤ 5 := by omega
          go_wp2_with fail
          refine (cut_any S 10 _ (hE0.below hbel hnB) (by omega)).mono ?_
          rintro e w1 ⟨rfl, hb1⟩
          have hbel1 : Below B W w1 := hbel.trans (hb1.mono (Nat.le_trans hBW hbel.size))
          go_wp2_with fail
          refine (cut_any (cut1 S 10) 32 _ (hE0.below hbel1 hnB) (by omega)).mono ?_
          rintro e w2 ⟨rfl, hb2⟩
          have hbel2 : Below B W w2 := hbel1.trans (hb2.mono (Nat.le_trans hBW hbel1.size))
          go_wp2_with fail
          refine (ref5_place (cut1 (cut1 S 10) 32) _).mono ?_
          rintro e w3 ⟨rfl, rfl⟩
          rw [hk]
          have hres2 := (hbel2.block _ hresB).trans hres
          obtain ⟨⟨z0, z1, z2, z3, z4, z5⟩, ⟨y0, y1, y2, y3, y4, y5⟩, hzl⟩ := az_cells hres2
          have hat2 : RAt w2 B B st.a K vC vV vO vN := ⟨nb_call (nb_call hat.blk hb1) hb2, (hat.rows.call hb1).call hb2, hat.low, hat.tool, hat.time⟩
          have hbw2 := hb0.trans (hbel2.mono (by omega : w.heap.size ≤ B))
          have hkI : (k : Int) = (st.last : Int) := by omega
          rw [hkI]
          clear hkI
          go_wp2_with fail
          refine (ref5_take B B (cut1 (cut1 S 10) 32) (cut2 (cut1 S 10) 32) _ (hE0.below hbel2 hnB) hnB (Nat.le_trans hBW hbel2.size) hat2 (by omega) (hroom.four hT) hk hk0).mono ?_
          cases htk : takeS st.a k (cut2 (cut1 S 10) 32) with
          | none =>
            have HV := Lib.hid (HB.out n (by rw [HRun.out, runA_stop hh (by rw [hln.out, htk]; rfl)]))
            rintro e w4 ⟨hb4, rfl⟩
            have hres3 := (hb4.block _ hresB).trans hres2
            have hbw4 := hbw2.trans (hb4.mono (by omega : w.heap.size ≤ B))
            clear z0 z1 z2 z3 z4 z5 y0 y1 y2 y3 y4 y5 hzl
            obtain ⟨⟨z0, z1, z2, z3, z4, z5⟩, ⟨y0, y1, y2, y3, y4, y5⟩, hzl⟩ := az_cells hres3
            clear htk
            go_wp2
            (try simp only [Exit.inBlock, Exit.then])
            refine bodyPost_ret (v := .tuple #[.agg #[.string ⟨#[]⟩, .slice none 0 0, .slice none 0 0, .slice none 0 0, .slice none 0 0, .int .i64 0], .int .i64 ((n : Int) + 1), .int .i64 10]) (by simp [results, Tryz.results6, go_sem, z0, z1, z2, z3, z4, z5]) rfl ?_
            exact ReadAnsA.zero HV.out (by repeat (first | refine fr_set ?_ (Nat.le_refl _) _ | refine Below.drew ?_ | exact hbw4))
          | some a2 =>
            have hln2 : lineA st (cut1 S 10) = some ⟨k, a2⟩ := by rw [hln.out, htk]; rfl
            have HN := Lib.hid (show runA T 1 ⟨0, noAction⟩ = runA (cut2 S 10) (n + 1 + 1) ⟨k, a2⟩ by rw [HRun.out, runA_round hh hln2])
            have hroom2 := lineA_room hln2 hroom (show (cut2 S 10).size + 1 ≤ S.size by omega)
            rintro e w4 ⟨hb4, rfl, K2, vC2, vV2, vO2, vN2, hat4⟩
            clear hln2 htk z0 z1 z2 z3 z4 z5 y0 y1 y2 y3 y4 y5 hzl
            go_wp2
            go_roundw
            case rel => exact ⟨_, n + 1, ⟨k, a2⟩, K2, vC2, vV2, vO2, vN2, rfl, (by first | rfl | (refine congrArg (Value.int .i64) ?_; simp only; omega)), by go_num, hat4, HN.out, hroom2.1, hk6, by omega, hbel2.trans hb4⟩
            case measure => simp only [strOf]; omega
        · have q4 : ¬ (k : Int) = (st.last : Int) := by omega
          have q5 : ¬ (k : Int) < (st.last : Int) := by omega
          have q0 : ¬ (k : Int) = 0 := by omega
          by_cases hl0 : st.last = 0
          · have hk1 : k = 1 := by rcases m3 with m3 | m3 <;> omega
            have q6 : (k : Int) = 1 := by omega
            clear m1 m2 m3 q4 q5 q0
            go_wp2_with fail
            refine (cut_any S 10 _ (hE0.below hbel hnB) (by omega)).mono ?_
            rintro e w1 ⟨rfl, hb1⟩
            have hbel1 : Below B W w1 := hbel.trans (hb1.mono (Nat.le_trans hBW hbel.size))
            go_wp2_with fail
            refine (cut_any (cut1 S 10) 32 _ (hE0.below hbel1 hnB) (by omega)).mono ?_
            rintro e w2 ⟨rfl, hb2⟩
            have hbel2 : Below B W w2 := hbel1.trans (hb2.mono (Nat.le_trans hBW hbel1.size))
            go_wp2_with fail
            refine (ref5_place (cut1 (cut1 S 10) 32) _).mono ?_
            rintro e w3 ⟨rfl, rfl⟩
            rw [hk]
            have hres2 := (hbel2.block _ hresB).trans hres
            obtain ⟨⟨z0, z1, z2, z3, z4, z5⟩, ⟨y0, y1, y2, y3, y4, y5⟩, hzl⟩ := az_cells hres2
            have hat2 : RAt w2 B B st.a K vC vV vO vN := ⟨nb_call (nb_call hat.blk hb1) hb2, (hat.rows.call hb1).call hb2, hat.low, hat.tool, hat.time⟩
            have hbw2 := hb0.trans (hbel2.mono (by omega : w.heap.size ≤ B))
            rw [q6]
            clear q6
            go_wp2_with fail
            refine (ref5_take B B (cut1 (cut1 S 10) 32) (cut2 (cut1 S 10) 32) _ (hE0.below hbel2 hnB) hnB (Nat.le_trans hBW hbel2.size) hat2 (by omega) (hroom.four hT) hk hk0).mono ?_
            cases htk : takeS st.a k (cut2 (cut1 S 10) 32) with
            | none =>
              have HV := Lib.hid (HB.out n (by rw [HRun.out, runA_stop hh (by rw [hln.out, htk]; rfl)]))
              rintro e w4 ⟨hb4, rfl⟩
              have hres3 := (hb4.block _ hresB).trans hres2
              have hbw4 := hbw2.trans (hb4.mono (by omega : w.heap.size ≤ B))
              clear z0 z1 z2 z3 z4 z5 y0 y1 y2 y3 y4 y5 hzl
              obtain ⟨⟨z0, z1, z2, z3, z4, z5⟩, ⟨y0, y1, y2, y3, y4, y5⟩, hzl⟩ := az_cells hres3
              clear htk
              go_wp2
              (try simp only [Exit.inBlock, Exit.then])
              refine bodyPost_ret (v := .tuple #[.agg #[.string ⟨#[]⟩, .slice none 0 0, .slice none 0 0, .slice none 0 0, .slice none 0 0, .int .i64 0], .int .i64 ((n : Int) + 1), .int .i64 10]) (by simp [results, Tryz.results6, go_sem, z0, z1, z2, z3, z4, z5]) rfl ?_
              exact ReadAnsA.zero HV.out (by repeat (first | refine fr_set ?_ (Nat.le_refl _) _ | refine Below.drew ?_ | exact hbw4))
            | some a2 =>
              have hln2 : lineA st (cut1 S 10) = some ⟨k, a2⟩ := by rw [hln.out, htk]; rfl
              have HN := Lib.hid (show runA T 1 ⟨0, noAction⟩ = runA (cut2 S 10) (n + 1 + 1) ⟨k, a2⟩ by rw [HRun.out, runA_round hh hln2])
              have hroom2 := lineA_room hln2 hroom (show (cut2 S 10).size + 1 ≤ S.size by omega)
              rintro e w4 ⟨hb4, rfl, K2, vC2, vV2, vO2, vN2, hat4⟩
              clear hln2 htk z0 z1 z2 z3 z4 z5 y0 y1 y2 y3 y4 y5 hzl
              go_wp2
              go_roundw
              case rel => exact ⟨_, n + 1, ⟨k, a2⟩, K2, vC2, vV2, vO2, vN2, rfl, (by first | rfl | (refine congrArg (Value.int .i64) ?_; simp only; omega)), by go_num, hat4, HN.out, hroom2.1, hk6, by omega, hbel2.trans hb4⟩
              case measure => simp only [strOf]; omega
          · have q6 : ¬ (st.last : Int) = 0 := by omega
            clear q5 m2 m3
            go_wp2_with fail
            refine (cut_any S 10 _ (hE0.below hbel hnB) (by omega)).mono ?_
            rintro e w1 ⟨rfl, hb1⟩
            have hbel1 : Below B W w1 := hbel.trans (hb1.mono (Nat.le_trans hBW hbel.size))
            go_wp2_with fail
            refine (cut_any (cut1 S 10) 32 _ (hE0.below hbel1 hnB) (by omega)).mono ?_
            rintro e w2 ⟨rfl, hb2⟩
            have hbel2 : Below B W w2 := hbel1.trans (hb2.mono (Nat.le_trans hBW hbel1.size))
            go_wp2_with fail
            refine (ref5_place (cut1 (cut1 S 10) 32) _).mono ?_
            rintro e w3 ⟨rfl, rfl⟩
            rw [hk]
            have hres2 := (hbel2.block _ hresB).trans hres
            obtain ⟨⟨z0, z1, z2, z3, z4, z5⟩, ⟨y0, y1, y2, y3, y4, y5⟩, hzl⟩ := az_cells hres2
            have hat2 : RAt w2 B B st.a K vC vV vO vN := ⟨nb_call (nb_call hat.blk hb1) hb2, (hat.rows.call hb1).call hb2, hat.low, hat.tool, hat.time⟩
            have hbw2 := hb0.trans (hbel2.mono (by omega : w.heap.size ≤ B))
            go_wp2_with fail
            refine (ref5_take B B (cut1 (cut1 S 10) 32) (cut2 (cut1 S 10) 32) _ (hE0.below hbel2 hnB) hnB (Nat.le_trans hBW hbel2.size) hat2 (by omega) (hroom.four hT) hk hk0).mono ?_
            cases htk : takeS st.a k (cut2 (cut1 S 10) 32) with
            | none =>
              have HV := Lib.hid (HB.out n (by rw [HRun.out, runA_stop hh (by rw [hln.out, htk]; rfl)]))
              rintro e w4 ⟨hb4, rfl⟩
              have hres3 := (hb4.block _ hresB).trans hres2
              have hbw4 := hbw2.trans (hb4.mono (by omega : w.heap.size ≤ B))
              clear z0 z1 z2 z3 z4 z5 y0 y1 y2 y3 y4 y5 hzl
              obtain ⟨⟨z0, z1, z2, z3, z4, z5⟩, ⟨y0, y1, y2, y3, y4, y5⟩, hzl⟩ := az_cells hres3
              clear htk
              go_wp2
              (try simp only [Exit.inBlock, Exit.then])
              refine bodyPost_ret (v := .tuple #[.agg #[.string ⟨#[]⟩, .slice none 0 0, .slice none 0 0, .slice none 0 0, .slice none 0 0, .int .i64 0], .int .i64 ((n : Int) + 1), .int .i64 10]) (by simp [results, Tryz.results6, go_sem, z0, z1, z2, z3, z4, z5]) rfl ?_
              exact ReadAnsA.zero HV.out (by repeat (first | refine fr_set ?_ (Nat.le_refl _) _ | refine Below.drew ?_ | exact hbw4))
            | some a2 =>
              have hln2 : lineA st (cut1 S 10) = some ⟨k, a2⟩ := by rw [hln.out, htk]; rfl
              have HN := Lib.hid (show runA T 1 ⟨0, noAction⟩ = runA (cut2 S 10) (n + 1 + 1) ⟨k, a2⟩ by rw [HRun.out, runA_round hh hln2])
              have hroom2 := lineA_room hln2 hroom (show (cut2 S 10).size + 1 ≤ S.size by omega)
              rintro e w4 ⟨hb4, rfl, K2, vC2, vV2, vO2, vN2, hat4⟩
              clear hln2 htk z0 z1 z2 z3 z4 z5 y0 y1 y2 y3 y4 y5 hzl
              go_wp2
              go_roundw
              case rel => exact ⟨_, n + 1, ⟨k, a2⟩, K2, vC2, vV2, vO2, vN2, rfl, (by first | rfl | (refine congrArg (Value.int .i64) ?_; simp only; omega)), by go_num, hat4, HN.out, hroom2.1, hk6, by omega, hbel2.trans hb4⟩
              case measure => simp only [strOf]; omega
      · have HV := Lib.hid (HB.out n (by rw [HRun.out, runA_stop hh (line_none (.inr (by rw [hk]; exact hm)))]))
        have hm2 := hm
        simp only [misplaced, Bool.or_eq_true, decide_eq_true_eq, Bool.and_eq_true, Bool.not_eq_true', Bool.and_eq_false_iff, decide_eq_false_iff_not] at hm2
        clear hm
        by_cases hk0 : k = 0
        · have q0 : (k : Int) = 0 := by omega
          clear hm2
          by_cases hl0 : st.last = 0
          · go_wp2_with fail
            refine (cut_any S 10 _ (hE0.below hbel hnB) (by omega)).mono ?_
            rintro e w1 ⟨rfl, hb1⟩
            have hbel1 : Below B W w1 := hbel.trans (hb1.mono (Nat.le_trans hBW hbel.size))
            go_wp2_with fail
            refine (cut_any (cut1 S 10) 32 _ (hE0.below hbel1 hnB) (by omega)).mono ?_
            rintro e w2 ⟨rfl, hb2⟩
            have hbel2 : Below B W w2 := hbel1.trans (hb2.mono (Nat.le_trans hBW hbel1.size))
            go_wp2_with fail
            refine (ref5_place (cut1 (cut1 S 10) 32) _).mono ?_
            rintro e w3 ⟨rfl, rfl⟩
            rw [hk]
            have hres2 := (hbel2.block _ hresB).trans hres
            obtain ⟨⟨z0, z1, z2, z3, z4, z5⟩, ⟨y0, y1, y2, y3, y4, y5⟩, hzl⟩ := az_cells hres2
            have hat2 : RAt w2 B B st.a K vC vV vO vN := ⟨nb_call (nb_call hat.blk hb1) hb2, (hat.rows.call hb1).call hb2, hat.low, hat.tool, hat.time⟩
            have hbw2 := hb0.trans (hbel2.mono (by omega : w.heap.size ≤ B))
            rw [q0]
            go_wp2
            all_goals
              (try simp only [Exit.inBlock, Exit.then])
              refine bodyPost_ret (v := .tuple #[.agg #[.string ⟨#[]⟩, .slice none 0 0, .slice none 0 0, .slice none 0 0, .slice none 0 0, .int .i64 0], .int .i64 ((n : Int) + 1), .int .i64 10]) (by simp [results, Tryz.results6, go_sem, z0, z1, z2, z3, z4, z5]) rfl ?_
              exact ReadAnsA.zero HV.out (by repeat (first | refine fr_set ?_ (Nat.le_refl _) _ | refine Below.drew ?_ | exact hbw2))
          · have hl1 : ¬ (0 : Int) = (st.last : Int) := by omega
            go_wp2_with fail
            refine (cut_any S 10 _ (hE0.below hbel hnB) (by omega)).mono ?_
            rintro e w1 ⟨rfl, hb1⟩
            have hbel1 : Below B W w1 := hbel.trans (hb1.mono (Nat.le_trans hBW hbel.size))
            go_wp2_with fail
            refine (cut_any (cut1 S 10) 32 _ (hE0.below hbel1 hnB) (by omega)).mono ?_
            rintro e w2 ⟨rfl, hb2⟩
            have hbel2 : Below B W w2 := hbel1.trans (hb2.mono (Nat.le_trans hBW hbel1.size))
            go_wp2_with fail
            refine (ref5_place (cut1 (cut1 S 10) 32) _).mono ?_
            rintro e w3 ⟨rfl, rfl⟩
            rw [hk]
            have hres2 := (hbel2.block _ hresB).trans hres
            obtain ⟨⟨z0, z1, z2, z3, z4, z5⟩, ⟨y0, y1, y2, y3, y4, y5⟩, hzl⟩ := az_cells hres2
            have hat2 : RAt w2 B B st.a K vC vV vO vN := ⟨nb_call (nb_call hat.blk hb1) hb2, (hat.rows.call hb1).call hb2, hat.low, hat.tool, hat.time⟩
            have hbw2 := hb0.trans (hbel2.mono (by omega : w.heap.size ≤ B))
            rw [q0]
            go_wp2
            all_goals
              (try simp only [Exit.inBlock, Exit.then])
              refine bodyPost_ret (v := .tuple #[.agg #[.string ⟨#[]⟩, .slice none 0 0, .slice none 0 0, .slice none 0 0, .slice none 0 0, .int .i64 0], .int .i64 ((n : Int) + 1), .int .i64 10]) (by simp [results, Tryz.results6, go_sem, z0, z1, z2, z3, z4, z5]) rfl ?_
              exact ReadAnsA.zero HV.out (by repeat (first | refine fr_set ?_ (Nat.le_refl _) _ | refine Below.drew ?_ | exact hbw2))
        have q0 : ¬ (k : Int) = 0 := by omega
        by_cases hkl : k < st.last
        · have q1 : (k : Int) < (st.last : Int) := by omega
          have q2 : ¬ (k : Int) = (st.last : Int) := by omega
          have q3 : ¬ k = st.last := by omega
          clear hm2
          go_wp2_with fail
          refine (cut_any S 10 _ (hE0.below hbel hnB) (by omega)).mono ?_
          rintro e w1 ⟨rfl, hb1⟩
          have hbel1 : Below B W w1 := hbel.trans (hb1.mono (Nat.le_trans hBW hbel.size))
          go_wp2_with fail
          refine (cut_any (cut1 S 10) 32 _ (hE0.below hbel1 hnB) (by omega)).mono ?_
          rintro e w2 ⟨rfl, hb2⟩
          have hbel2 : Below B W w2 := hbel1.trans (hb2.mono (Nat.le_trans hBW hbel1.size))
          go_wp2_with fail
          refine (ref5_place (cut1 (cut1 S 10) 32) _).mono ?_
          rintro e w3 ⟨rfl, rfl⟩
          rw [hk]
          have hres2 := (hbel2.block _ hresB).trans hres
          obtain ⟨⟨z0, z1, z2, z3, z4, z5⟩, ⟨y0, y1, y2, y3, y4, y5⟩, hzl⟩ := az_cells hres2
          have hat2 : RAt w2 B B st.a K vC vV vO vN := ⟨nb_call (nb_call hat.blk hb1) hb2, (hat.rows.call hb1).call hb2, hat.low, hat.tool, hat.time⟩
          have hbw2 := hb0.trans (hbel2.mono (by omega : w.heap.size ≤ B))
          go_wp2
          all_goals
            (try simp only [Exit.inBlock, Exit.then])
            refine bodyPost_ret (v := .tuple #[.agg #[.string ⟨#[]⟩, .slice none 0 0, .slice none 0 0, .slice none 0 0, .slice none 0 0, .int .i64 0], .int .i64 ((n : Int) + 1), .int .i64 10]) (by simp [results, Tryz.results6, go_sem, z0, z1, z2, z3, z4, z5]) rfl ?_
            exact ReadAnsA.zero HV.out (by repeat (first | refine fr_set ?_ (Nat.le_refl _) _ | refine Below.drew ?_ | exact hbw2))
        have q1 : ¬ (k : Int) < (st.last : Int) := by omega
        by_cases hke : k = st.last
        · have q3 : ¬ ((2 : Int) ≤ (st.last : Int) ∧ (st.last : Int) ≤ 5) := by omega
          have q4 : ¬ (st.last : Int) = 0 := by omega
          have Q3 := Lib.hid q3
          clear hm2 q3
          have hkI : (k : Int) = (st.last : Int) := by omega
          by_cases h2 : (2 : Int) ≤ (st.last : Int)
          · have h5 : ¬ (st.last : Int) ≤ 5 := fun h => Q3.out ⟨h2, h⟩
            go_wp2_with fail
            refine (cut_any S 10 _ (hE0.below hbel hnB) (by omega)).mono ?_
            rintro e w1 ⟨rfl, hb1⟩
            have hbel1 : Below B W w1 := hbel.trans (hb1.mono (Nat.le_trans hBW hbel.size))
            go_wp2_with fail
            refine (cut_any (cut1 S 10) 32 _ (hE0.below hbel1 hnB) (by omega)).mono ?_
            rintro e w2 ⟨rfl, hb2⟩
            have hbel2 : Below B W w2 := hbel1.trans (hb2.mono (Nat.le_trans hBW hbel1.size))
            go_wp2_with fail
            refine (ref5_place (cut1 (cut1 S 10) 32) _).mono ?_
            rintro e w3 ⟨rfl, rfl⟩
            rw [hk]
            have hres2 := (hbel2.block _ hresB).trans hres
            obtain ⟨⟨z0, z1, z2, z3, z4, z5⟩, ⟨y0, y1, y2, y3, y4, y5⟩, hzl⟩ := az_cells hres2
            have hat2 : RAt w2 B B st.a K vC vV vO vN := ⟨nb_call (nb_call hat.blk hb1) hb2, (hat.rows.call hb1).call hb2, hat.low, hat.tool, hat.time⟩
            have hbw2 := hb0.trans (hbel2.mono (by omega : w.heap.size ≤ B))
            rw [hkI]
            clear hkI
            go_wp2
            all_goals
              (try simp only [Exit.inBlock, Exit.then])
              refine bodyPost_ret (v := .tuple #[.agg #[.string ⟨#[]⟩, .slice none 0 0, .slice none 0 0, .slice none 0 0, .slice none 0 0, .int .i64 0], .int .i64 ((n : Int) + 1), .int .i64 10]) (by simp [results, Tryz.results6, go_sem, z0, z1, z2, z3, z4, z5]) rfl ?_
              exact ReadAnsA.zero HV.out (by repeat (first | refine fr_set ?_ (Nat.le_refl _) _ | refine Below.drew ?_ | exact hbw2))
          · go_wp2_with fail
            refine (cut_any S 10 _ (hE0.below hbel hnB) (by omega)).mono ?_
            rintro e w1 ⟨rfl, hb1⟩
            have hbel1 : Below B W w1 := hbel.trans (hb1.mono (Nat.le_trans hBW hbel.size))
            go_wp2_with fail
            refine (cut_any (cut1 S 10) 32 _ (hE0.below hbel1 hnB) (by omega)).mono ?_
            rintro e w2 ⟨rfl, hb2⟩
            have hbel2 : Below B W w2 := hbel1.trans (hb2.mono (Nat.le_trans hBW hbel1.size))
            go_wp2_with fail
            refine (ref5_place (cut1 (cut1 S 10) 32) _).mono ?_
            rintro e w3 ⟨rfl, rfl⟩
            rw [hk]
            have hres2 := (hbel2.block _ hresB).trans hres
            obtain ⟨⟨z0, z1, z2, z3, z4, z5⟩, ⟨y0, y1, y2, y3, y4, y5⟩, hzl⟩ := az_cells hres2
            have hat2 : RAt w2 B B st.a K vC vV vO vN := ⟨nb_call (nb_call hat.blk hb1) hb2, (hat.rows.call hb1).call hb2, hat.low, hat.tool, hat.time⟩
            have hbw2 := hb0.trans (hbel2.mono (by omega : w.heap.size ≤ B))
            rw [hkI]
            clear hkI
            go_wp2
            all_goals
              (try simp only [Exit.inBlock, Exit.then])
              refine bodyPost_ret (v := .tuple #[.agg #[.string ⟨#[]⟩, .slice none 0 0, .slice none 0 0, .slice none 0 0, .slice none 0 0, .int .i64 0], .int .i64 ((n : Int) + 1), .int .i64 10]) (by simp [results, Tryz.results6, go_sem, z0, z1, z2, z3, z4, z5]) rfl ?_
              exact ReadAnsA.zero HV.out (by repeat (first | refine fr_set ?_ (Nat.le_refl _) _ | refine Below.drew ?_ | exact hbw2))
        · have q2 : ¬ (k : Int) = (st.last : Int) := by omega
          have q3 : (st.last : Int) = 0 := by omega
          have q4 : ¬ (k : Int) = 1 := by omega
          clear hm2 q1 q2
          go_wp2_with fail
          refine (cut_any S 10 _ (hE0.below hbel hnB) (by omega)).mono ?_
          rintro e w1 ⟨rfl, hb1⟩
          have hbel1 : Below B W w1 := hbel.trans (hb1.mono (Nat.le_trans hBW hbel.size))
          go_wp2_with fail
          refine (cut_any (cut1 S 10) 32 _ (hE0.below hbel1 hnB) (by omega)).mono ?_
          rintro e w2 ⟨rfl, hb2⟩
          have hbel2 : Below B W w2 := hbel1.trans (hb2.mono (Nat.le_trans hBW hbel1.size))
          go_wp2_with fail
          refine (ref5_place (cut1 (cut1 S 10) 32) _).mono ?_
          rintro e w3 ⟨rfl, rfl⟩
          rw [hk]
          have hres2 := (hbel2.block _ hresB).trans hres
          obtain ⟨⟨z0, z1, z2, z3, z4, z5⟩, ⟨y0, y1, y2, y3, y4, y5⟩, hzl⟩ := az_cells hres2
          have hat2 : RAt w2 B B st.a K vC vV vO vN := ⟨nb_call (nb_call hat.blk hb1) hb2, (hat.rows.call hb1).call hb2, hat.low, hat.tool, hat.time⟩
          have hbw2 := hb0.trans (hbel2.mono (by omega : w.heap.size ≤ B))
          go_wp2
          all_goals
            (try simp only [Exit.inBlock, Exit.then])
            refine bodyPost_ret (v := .tuple #[.agg #[.string ⟨#[]⟩, .slice none 0 0, .slice none 0 0, .slice none 0 0, .slice none 0 0, .int .i64 0], .int .i64 ((n : Int) + 1), .int .i64 10]) (by simp [results, Tryz.results6, go_sem, z0, z1, z2, z3, z4, z5]) rfl ?_
            exact ReadAnsA.zero HV.out (by repeat (first | refine fr_set ?_ (Nat.le_refl _) _ | refine Below.drew ?_ | exact hbw2))
    · have hS0 := size_empty hz
      have hres1 := (hbel.block _ hresB).trans hres
      obtain ⟨⟨z0, z1, z2, z3, z4, z5⟩, ⟨y0, y1, y2, y3, y4, y5⟩, hzl⟩ := az_cells hres1
      obtain ⟨⟨c0, c1, c2, c3, c4, c5⟩, _, hbl⟩ := nb_cells hat.blk
      have hbw := hb0.trans (hbel.mono (by omega : w.heap.size ≤ B))
      by_cases hl6 : st.last = 6
      · have hdone : runA T 1 ⟨0, noAction⟩ = .ok st.a := by rw [HRun.out, runA_end hS0, doneA, if_pos hl6]
        have HF := Lib.hid (show st.a.tool.size ≤ maxLen ∧ InInt st.a.time from ⟨hat.tool, hat.time⟩)
        obtain ⟨A, n', B', m', C, p', D, q', rfl, rfl, rfl, rfl, ⟨s1, s2, s3, s4⟩, hcaps⟩ := hat.rows.sls
        have HC := Lib.hid (ref5_CheckAction st.a A st.a.commands.length n' B' st.a.vars.length m' C st.a.outputs.length p' D st.a.needs.length q' wr (hE0.below hbel hnB) ⟨HF.out.1, s1, s2, s3, s4, HF.out.2⟩)
        unfold actVal at HC
        clear s1 s2 s3 s4
        have q6 : (st.last : Int) = 6 := by omega
        cases hc : (checkActionS st.a == 0)
        · have hne : checkActionS st.a ≠ 0 := by simpa using hc
          have hbn : (checkActionS st.a != 0) = true := by simpa using hc
          have HV := Lib.hid (HW.out _ hdone hne)
          clear hne hdone
          rw [q6]
          go_wp2_with fail
          refine HC.out.mono ?_
          rintro e w2 ⟨rfl, hb2⟩
          have hbel2 := fr_call hbw hb2
          obtain ⟨⟨z0, z1, z2, z3, z4, z5⟩, ⟨y0, y1, y2, y3, y4, y5⟩, hzl⟩ := az_cells ((hb2.block _ hzl).trans hres1)
          go_wp2
          (try simp only [Exit.inBlock, Exit.then])
          refine bodyPost_ret (v := .tuple #[.agg #[.string ⟨#[]⟩, .slice none 0 0, .slice none 0 0, .slice none 0 0, .slice none 0 0, .int .i64 0], .int .i64 0, .int .i64 (checkActionS st.a)]) (by simp [results, Tryz.results6, go_sem, z0, z1, z2, z3, z4, z5]) rfl ?_
          exact ReadAnsA.zero HV.out (by repeat (first | refine fr_set ?_ (Nat.le_refl _) _ | refine Below.drew ?_ | exact hbel2))
        · have hz2 : checkActionS st.a = 0 := by simpa using hc
          have hbn : (checkActionS st.a != 0) = false := by simpa using hc
          have HV := Lib.hid (HR.out _ hdone hz2)
          clear hz2 hdone
          rw [q6]
          go_wp2_with fail
          refine HC.out.mono ?_
          rintro e w2 ⟨rfl, hb2⟩
          have hbel2 := fr_call hbw hb2
          have hzl0 := hzl
          obtain ⟨⟨z0, z1, z2, z3, z4, z5⟩, ⟨y0, y1, y2, y3, y4, y5⟩, hzl⟩ := az_cells ((hb2.block _ hzl).trans hres1)
          obtain ⟨⟨c0, c1, c2, c3, c4, c5⟩, _, hbl⟩ := nb_cells (nb_call hat.blk hb2)
          go_wp2
          (try simp only [Exit.inBlock, Exit.then])
          refine bodyPost_ret (v := .tuple #[.agg #[.string st.a.tool, .slice A st.a.commands.length n', .slice B' st.a.vars.length m', .slice C st.a.outputs.length p', .slice D st.a.needs.length q', .int .i64 st.a.time], .int .i64 0, .int .i64 0]) (by simp [results, Tryz.results6, go_sem, z0, z1, z2, z3, z4, z5]) rfl ?_
          refine read_fullA HV.out (hat.rows.call hb2) (g := w.heap.size) ⟨_, _, (hb2.block _ hzl0).trans hres1⟩ (by simp) (fun k hk => ?_) HF.out (by repeat (first | refine fr_set ?_ (Nat.le_refl _) _ | refine Below.drew ?_ | exact hbel2))
          repeat (refine (heap_setCell_other _ ⟨w.heap.size, _, none⟩ k _ hk).trans ?_)
          rfl
      · have HV := Lib.hid (HB.out n (by rw [HRun.out, runA_end hS0, doneA, if_neg hl6]))
        have hn6 : ¬ ((st.last : Int) = 6) := by omega
        go_wp2
        (try simp only [Exit.inBlock, Exit.then])
        refine bodyPost_ret (v := .tuple #[.agg #[.string ⟨#[]⟩, .slice none 0 0, .slice none 0 0, .slice none 0 0, .slice none 0 0, .int .i64 0], .int .i64 ((n : Int) + 1), .int .i64 10]) (by simp [results, Tryz.results6, go_sem, z0, z1, z2, z3, z4, z5]) rfl ?_
        exact ReadAnsA.zero HV.out (by repeat (first | refine fr_set ?_ (Nat.le_refl _) _ | refine Below.drew ?_ | exact hbw))
end Go.Proofs.Sm
