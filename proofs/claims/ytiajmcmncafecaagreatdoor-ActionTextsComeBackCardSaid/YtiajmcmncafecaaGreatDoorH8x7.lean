/- Walks: the program's reader of an action, whole. -/
import Derived.Test.YtiajmcmncafecaaGreatDoorH8x6
import Derived.Test.YtiajmcmncafecaaGreatDoorH8x2
import Derived.Test.YtiajmcmncafecaaGreatDoorH8x5
namespace Go.Proofs.Sm
open Go.RowKit

def LineAnsA (B b : Nat) (r : Option ASt) (w : World) (e : Ending) (w' : World) : Prop := Below B w w' ∧ match r with
  | none => e = .returned (.bool false)
  | some st => e = .returned (.bool true) ∧ ∃ K vC vV vO vN, AAt w' B b st (atOf st.last) K vC vV vO vN
theorem LineAnsA.no {B b : Nat} {r : Option ASt} {w w' : World} (h : r = none) (hb : Below B w w') : LineAnsA B b r w (.returned (.bool false)) w' := by
  subst h; exact ⟨hb, rfl⟩
theorem LineAnsA.yes {B b : Nat} {r : Option ASt} {w w' : World} {st : ASt} {at_ : Int} {K : Nat → Prop} {vC vV vO vN : Value} (h : r = some st) (hb : Below B w w') (ha : AAt w' B b st at_ K vC vV vO vN) (hat : at_ = atOf st.last) : LineAnsA B b r w (.returned (.bool true)) w' := by
  subst h; subst hat; exact ⟨hb, rfl, K, vC, vV, vO, vN, ha⟩
theorem six_new (w : World) : Sl (w.alloc (.cells #[.string ⟨#[116, 111, 111, 108]⟩, .string ⟨#[100, 111]⟩, .string ⟨#[118, 97, 114]⟩, .string ⟨#[111, 117, 116]⟩, .string ⟨#[110, 101, 101, 100]⟩, .string ⟨#[116, 105, 109, 101]⟩] 9))
    (Lt (w.alloc (.cells #[.string ⟨#[116, 111, 111, 108]⟩, .string ⟨#[100, 111]⟩, .string ⟨#[118, 97, 114]⟩, .string ⟨#[111, 117, 116]⟩, .string ⟨#[110, 101, 101, 100]⟩, .string ⟨#[116, 105, 109, 101]⟩] 9)).heap.size) (some ⟨w.heap.size, 0, none⟩) 6 sixWords := by
  have h := Sl.new_strs (w := w) (t := 9) (l := sixWords) (by decide) (by decide)
  rw [World.size_alloc]
  exact h
theorem place_cases' (w : List UInt8) : placeS w = 0 ∨ placeS w = 1 ∨ placeS w = 2 ∨ placeS w = 3 ∨ placeS w = 4 ∨ placeS w = 5 ∨ placeS w = 6 := by
  unfold placeS
  repeat' split
  all_goals simp
theorem line_none {st : ASt} {s : ByteArray} (h : cutHas s 32 = false ∨ misplaced st.last (placeS (cut1 s 32).data.toList) = true) : lineA st s = none := by
  rw [lineA, if_pos]
  rcases h with h | h
  · rw [h]; rfl
  · rw [h]; simp
theorem line_take {st : ASt} {s : ByteArray} {k : Nat} (h : cutHas s 32 = true) (hk : placeS (cut1 s 32).data.toList = k) (hm : misplaced st.last k = false) : lineA st s = (takeS st.a k (cut2 s 32)).map fun a => ⟨k, a⟩ := by
  rw [lineA, hk, h, hm]; rfl
theorem var_info : (Tryz.prog.info? 47).map (fun i => (i.zero, i.size, i.bytes)) = some (some (.agg #[.string ⟨#[]⟩, .string ⟨#[]⟩]), 2, 32) := by kernel_rfl
theorem row_info : (Tryz.prog.info? 24).map (fun i => (i.zero, i.size, i.bytes)) = some (some (.slice none 0 0), 1, 24) := by kernel_rfl
theorem strs_info : (Tryz.prog.info? 9).map (fun i => (i.zero, i.size, i.bytes)) = some (some (.string ⟨#[]⟩), 1, 16) := by kernel_rfl
theorem two_one (x y : ByteArray) : ∀ u ∈ ([.string x, .string y] : List Value), u.oneCell' = true := by
  intro u hu
  simp only [List.mem_cons, List.mem_nil_iff, or_false] at hu
  rcases hu with rfl | rfl <;> rfl
theorem one_one (x : ByteArray) : ∀ u ∈ ([.string x] : List Value), u.oneCell' = true := by
  intro u hu
  simp only [List.mem_cons, List.mem_nil_iff, or_false] at hu
  subst hu; rfl
set_option maxHeartbeats 4000000 in
set_option maxRecDepth 100000 in
theorem act_line3 (B b : Nat) (s : ByteArray) (w : World) {st : ASt} {a6 : Int} {K : Nat → Prop} {vC vV vO vN : Value} (hE : Env3 w) (hnB : 8 ≤ B) (hBw : B ≤ w.heap.size) (h : AAt w B b st a6 K vC vV vO vN) (hs : s.size ≤ 4000000)
    (hr : st.a.vars.length ≤ 2000000) (hh : cutHas s 32 = true) (hk : placeS (cut1 s 32).data.toList = 3) (h1 : ¬ a6 = -1) (h2 : ¬ 2 < a6) :
    Calls Tryz.prog 11 #[.pointer (some ⟨b, 0, none⟩), .string s] w fun e w' => LineAnsA B b ((takeS st.a 3 (cut2 s 32)).map fun a => ⟨3, a⟩) w e w' := by
  obtain ⟨i0, hi0, hz0, hz1, hz2⟩ := info_parts var_info
  have hs2 : (cut2 s 32).size ≤ 4000000 := Nat.le_trans (cut_size s 32).2 hs
  have hcs := cut_size (cut2 s 32) 32
  have hn4 : (cut1 (cut2 s 32) 32).size ≤ maxLen ∧ (cut2 (cut2 s 32) 32).size ≤ maxLen := by unfold maxLen; omega
  have hT := Lib.hid (show takeS st.a 3 (cut2 s 32) = if twoWords (cut2 s 32) = true then some { st.a with vars := st.a.vars ++ [⟨cut1 (cut2 s 32) 32, cut2 (cut2 s 32) 32⟩] } else none from rfl)
  generalize takeS st.a 3 (cut2 s 32) = R at hT ⊢
  go_enter Tryz.func11, Tryz.ntmps11
  go_wp2_with fail
  refine (cut_any s 32 w hE.toEnv hs).mono ?_
  rintro e w1 ⟨rfl, hb1⟩
  rw [hh]
  have blk1 := ab_call h.blk hb1
  have rows1 := h.rows.call hb1
  go_wp2_with fail
  refine (slices_IndexIs _ 6 6 sixWords (cut1 s 32) _ (six_new w1)).mono ?_
  rintro e w2' ⟨r, rfl, hr, rfl⟩
  obtain rfl := place_index hr
  clear hr
  generalize hW2 : w1.alloc (.cells #[.string ⟨#[116, 111, 111, 108]⟩, .string ⟨#[100, 111]⟩, .string ⟨#[118, 97, 114]⟩, .string ⟨#[111, 117, 116]⟩, .string ⟨#[110, 101, 101, 100]⟩, .string ⟨#[116, 105, 109, 101]⟩] 9) = w2
  have hb2 : Below w1.heap.size w1 w2 := by rw [← hW2]; exact fr_alloc (fr_refl w1) _
  clear hW2
  have blk2 := ab_call blk1 hb2
  have rows2 := rows1.call hb2
  have hbel2 : Below B w w2 := (fr_call hb1 hb2).mono hBw
  obtain ⟨⟨c0, c1, c2, c3, c4, c5, c6⟩, ⟨f0, f1, f2, f3, f4, f5, f6⟩, hbl⟩ := ab_cells blk2
  rw [hk]
  clear blk1 rows1 hb1 hb2
  rw [show ((3 : Nat) : Int) - 1 = 2 from rfl]
  go_wp2_with fail
  · rename_i hbad
    rcases hbad with hbad | hbad
    · exact absurd (by simpa using hbad) h1
    · omega
  refine (cut_any (cut2 s 32) 32 _ (hE.toEnv.below (hbel2.setCell (p := ⟨b, 6, none⟩) h.low _) hnB) hs2).mono ?_
  rintro e w4 ⟨rfl, hb4⟩
  have blk4 := ab_call (ab_at blk2 2) hb4
  have rows4 := (rows2.set (t := 38) (b := b) ⟨_, _, blk2⟩ (by decide) (by decide) (by decide) 6 (.int .i64 2)).call hb4
  have hbel4 : Below B w w4 := (hbel2.setCell (p := ⟨b, 6, none⟩) h.low _).trans (hb4.mono (Nat.le_trans hBw (hbel2.setCell (p := ⟨b, 6, none⟩) h.low _).size))
  obtain ⟨⟨d0, d1, d2, d3, d4, d5, d6⟩, ⟨e0, e1, e2, e3, e4, e5, e6⟩, hbl4⟩ := ab_cells blk4
  have hN1 := Lib.hid (show twoWords (cut2 s 32) = (cutHas (cut2 s 32) 32 && !(cut1 (cut2 s 32) 32).toList.isEmpty) by rw [twoWords, Lib.toList_data])
  generalize cut1 (cut2 s 32) 32 = n1 at hcs hn4 hT hN1 ⊢
  generalize cut2 (cut2 s 32) 32 = n2 at hcs hn4 hT ⊢
  have hW9 : Below w4.heap.size w4 (w4.alloc (.cells #[.string n1, .string n2] 47)) := fr_alloc (fr_refl w4) _
  have blk9 := ab_call blk4 hW9
  have rows9 := rows4.call hW9
  have hbel9 : Below B w _ := hbel4.trans (hW9.mono (Nat.le_trans hBw hbel4.size))
  obtain ⟨_, rows, hrows, hown9, hrep⟩ := id rows9.v
  clear c0 c1 c2 c3 c4 c5 c6 f0 f1 f2 f3 f4 f5 f6
  go_wp2_with (at_builtin; refine wpList_append_lies _ rfl _ _ 23 rfl B 47 i0 _ 2 32 Tryz.underlying23 hi0 hz0 hz1 hz2 rfl (by decide) _ st.a.vars.length _ rfl hown9 ⟨w4.heap.size, 0, none⟩ 1 1 [.string n1, .string n2] rfl rfl ?c1 ?c2 ?c3 ?c4 ?c5 ?c6 _ rfl ?_)
  case c1 => exact new_cells w4 #[_, _] _
  case c2 => exact two_one _ _
  case c3 => decide
  case c4 => unfold maxLen; omega
  case c5 => omega
  case c6 => exact Nat.le_trans hBw hbel9.size
  intro g cap w5 hown5 hg5 hat5 hlt5
  have rows5 := rows9.moreV (x := ⟨n1, n2⟩) hrows hrep hn4 hg5 hown5 (by rw [World.size_alloc]; exact hat5)
  have blk5 := (hg5.block b (heap_lt blk9) fun e => kind_ne (rows9.v.kind b e.symm).2 ⟨_, _, blk9⟩ (by decide) rfl).trans blk9
  have hbel5 := hbel9.grown hg5 (Nat.le_trans hBw hbel9.size) (fun n e => (rows9.v.kind n e).1)
  have hB := hbel5.setCell (p := ⟨b, 2, none⟩) h.low (.slice (some ⟨g, 0, none⟩) (st.a.vars.length + 1) cap)
  have rows6 := rows5.set (t := 38) (b := b) ⟨_, _, blk5⟩ (by decide) (by decide) (by decide) 2 (.slice (some ⟨g, 0, none⟩) (st.a.vars.length + 1) cap)
  have blk6 := ab_v blk5 (.slice (some ⟨g, 0, none⟩) (st.a.vars.length + 1) cap)
  obtain ⟨⟨_, _, _, _, _, _, _⟩, ⟨_, _, g2, _, _, _, _⟩, hbl5⟩ := ab_cells blk5
  clear hown5 hat5 hg5 hown9 hrep
  rw [hN1.out] at hT
  cases hq1 : cutHas (cut2 s 32) 32
  · rw [hq1] at hT
    have HV := Lib.hid (show Option.map (fun a => (⟨3, a⟩ : ASt)) R = none by rw [hT.out]; rfl)
    go_wp2
    go_ret
    exact LineAnsA.no HV.out hB
  cases hq2 : n1.toList.isEmpty
  · rw [hq1, hq2] at hT
    have HV := Lib.hid (show Option.map (fun a => (⟨3, a⟩ : ASt)) R = some ⟨3, { st.a with vars := st.a.vars ++ [⟨n1, n2⟩] }⟩ by rw [hT.out]; rfl)
    go_wp2
    go_ret
    exact LineAnsA.yes HV.out hB ⟨blk6, rows6, h.low, h.tool, h.time⟩ rfl
  · rw [hq1, hq2] at hT
    have HV := Lib.hid (show Option.map (fun a => (⟨3, a⟩ : ASt)) R = none by rw [hT.out]; rfl)
    go_wp2
    go_ret
    exact LineAnsA.no HV.out hB
set_option maxHeartbeats 4000000 in
set_option maxRecDepth 100000 in
theorem act_line5 (B b : Nat) (s : ByteArray) (w : World) {st : ASt} {a6 : Int} {K : Nat → Prop} {vC vV vO vN : Value} (hE : Env3 w) (hnB : 8 ≤ B) (hBw : B ≤ w.heap.size) (h : AAt w B b st a6 K vC vV vO vN) (hs : s.size ≤ 4000000)
    (hr : st.a.needs.length ≤ 2000000) (hh : cutHas s 32 = true) (hk : placeS (cut1 s 32).data.toList = 5) (h1 : ¬ a6 = -1) (h2 : ¬ 4 < a6) :
    Calls Tryz.prog 11 #[.pointer (some ⟨b, 0, none⟩), .string s] w fun e w' => LineAnsA B b ((takeS st.a 5 (cut2 s 32)).map fun a => ⟨5, a⟩) w e w' := by
  obtain ⟨i0, hi0, hz0, hz1, hz2⟩ := info_parts var_info
  have hs2 : (cut2 s 32).size ≤ 4000000 := Nat.le_trans (cut_size s 32).2 hs
  have hcs := cut_size (cut2 s 32) 32
  have hn4 : (cut1 (cut2 s 32) 32).size ≤ maxLen ∧ (cut2 (cut2 s 32) 32).size ≤ maxLen := by unfold maxLen; omega
  have hT := Lib.hid (show takeS st.a 5 (cut2 s 32) = if twoWords (cut2 s 32) = true then some { st.a with needs := st.a.needs ++ [⟨cut1 (cut2 s 32) 32, cut2 (cut2 s 32) 32⟩] } else none from rfl)
  generalize takeS st.a 5 (cut2 s 32) = R at hT ⊢
  go_enter Tryz.func11, Tryz.ntmps11
  go_wp2_with fail
  refine (cut_any s 32 w hE.toEnv hs).mono ?_
  rintro e w1 ⟨rfl, hb1⟩
  rw [hh]
  have blk1 := ab_call h.blk hb1
  have rows1 := h.rows.call hb1
  go_wp2_with fail
  refine (slices_IndexIs _ 6 6 sixWords (cut1 s 32) _ (six_new w1)).mono ?_
  rintro e w2' ⟨r, rfl, hr, rfl⟩
  obtain rfl := place_index hr
  clear hr
  generalize hW2 : w1.alloc (.cells #[.string ⟨#[116, 111, 111, 108]⟩, .string ⟨#[100, 111]⟩, .string ⟨#[118, 97, 114]⟩, .string ⟨#[111, 117, 116]⟩, .string ⟨#[110, 101, 101, 100]⟩, .string ⟨#[116, 105, 109, 101]⟩] 9) = w2
  have hb2 : Below w1.heap.size w1 w2 := by rw [← hW2]; exact fr_alloc (fr_refl w1) _
  clear hW2
  have blk2 := ab_call blk1 hb2
  have rows2 := rows1.call hb2
  have hbel2 : Below B w w2 := (fr_call hb1 hb2).mono hBw
  obtain ⟨⟨c0, c1, c2, c3, c4, c5, c6⟩, ⟨f0, f1, f2, f3, f4, f5, f6⟩, hbl⟩ := ab_cells blk2
  rw [hk]
  clear blk1 rows1 hb1 hb2
  rw [show ((5 : Nat) : Int) - 1 = 4 from rfl]
  go_wp2_with fail
  · rename_i hbad
    rcases hbad with hbad | hbad
    · exact absurd (by simpa using hbad) h1
    · omega
  refine (cut_any (cut2 s 32) 32 _ (hE.toEnv.below (hbel2.setCell (p := ⟨b, 6, none⟩) h.low _) hnB) hs2).mono ?_
  rintro e w4 ⟨rfl, hb4⟩
  have blk4 := ab_call (ab_at blk2 4) hb4
  have rows4 := (rows2.set (t := 38) (b := b) ⟨_, _, blk2⟩ (by decide) (by decide) (by decide) 6 (.int .i64 4)).call hb4
  have hbel4 : Below B w w4 := (hbel2.setCell (p := ⟨b, 6, none⟩) h.low _).trans (hb4.mono (Nat.le_trans hBw (hbel2.setCell (p := ⟨b, 6, none⟩) h.low _).size))
  obtain ⟨⟨d0, d1, d2, d3, d4, d5, d6⟩, ⟨e0, e1, e2, e3, e4, e5, e6⟩, hbl4⟩ := ab_cells blk4
  have hN1 := Lib.hid (show twoWords (cut2 s 32) = (cutHas (cut2 s 32) 32 && !(cut1 (cut2 s 32) 32).toList.isEmpty) by rw [twoWords, Lib.toList_data])
  generalize cut1 (cut2 s 32) 32 = n1 at hcs hn4 hT hN1 ⊢
  generalize cut2 (cut2 s 32) 32 = n2 at hcs hn4 hT ⊢
  have hW9 : Below w4.heap.size w4 (w4.alloc (.cells #[.string n1, .string n2] 47)) := fr_alloc (fr_refl w4) _
  have blk9 := ab_call blk4 hW9
  have rows9 := rows4.call hW9
  have hbel9 : Below B w _ := hbel4.trans (hW9.mono (Nat.le_trans hBw hbel4.size))
  obtain ⟨_, rows, hrows, hown9, hrep⟩ := id rows9.n
  clear c0 c1 c2 c3 c4 c5 c6 f0 f1 f2 f3 f4 f5 f6
  go_wp2_with (at_builtin; refine wpList_append_lies _ rfl _ _ 23 rfl B 47 i0 _ 2 32 Tryz.underlying23 hi0 hz0 hz1 hz2 rfl (by decide) _ st.a.needs.length _ rfl hown9 ⟨w4.heap.size, 0, none⟩ 1 1 [.string n1, .string n2] rfl rfl ?c1 ?c2 ?c3 ?c4 ?c5 ?c6 _ rfl ?_)
  case c1 => exact new_cells w4 #[_, _] _
  case c2 => exact two_one _ _
  case c3 => decide
  case c4 => unfold maxLen; omega
  case c5 => omega
  case c6 => exact Nat.le_trans hBw hbel9.size
  intro g cap w5 hown5 hg5 hat5 hlt5
  have rows5 := rows9.moreN (x := ⟨n1, n2⟩) hrows hrep hn4 hg5 hown5 (by rw [World.size_alloc]; exact hat5)
  have blk5 := (hg5.block b (heap_lt blk9) fun e => kind_ne (rows9.n.kind b e.symm).2 ⟨_, _, blk9⟩ (by decide) rfl).trans blk9
  have hbel5 := hbel9.grown hg5 (Nat.le_trans hBw hbel9.size) (fun n e => (rows9.n.kind n e).1)
  have hB := hbel5.setCell (p := ⟨b, 4, none⟩) h.low (.slice (some ⟨g, 0, none⟩) (st.a.needs.length + 1) cap)
  have rows6 := rows5.set (t := 38) (b := b) ⟨_, _, blk5⟩ (by decide) (by decide) (by decide) 4 (.slice (some ⟨g, 0, none⟩) (st.a.needs.length + 1) cap)
  have blk6 := ab_n blk5 (.slice (some ⟨g, 0, none⟩) (st.a.needs.length + 1) cap)
  obtain ⟨⟨_, _, _, _, _, _, _⟩, ⟨_, _, _, _, g2, _, _⟩, hbl5⟩ := ab_cells blk5
  clear hown5 hat5 hg5 hown9 hrep
  rw [hN1.out] at hT
  cases hq1 : cutHas (cut2 s 32) 32
  · rw [hq1] at hT
    have HV := Lib.hid (show Option.map (fun a => (⟨5, a⟩ : ASt)) R = none by rw [hT.out]; rfl)
    go_wp2
    go_ret
    exact LineAnsA.no HV.out hB
  cases hq2 : n1.toList.isEmpty
  · rw [hq1, hq2] at hT
    have HV := Lib.hid (show Option.map (fun a => (⟨5, a⟩ : ASt)) R = some ⟨5, { st.a with needs := st.a.needs ++ [⟨n1, n2⟩] }⟩ by rw [hT.out]; rfl)
    go_wp2
    go_ret
    exact LineAnsA.yes HV.out hB ⟨blk6, rows6, h.low, h.tool, h.time⟩ rfl
  · rw [hq1, hq2] at hT
    have HV := Lib.hid (show Option.map (fun a => (⟨5, a⟩ : ASt)) R = none by rw [hT.out]; rfl)
    go_wp2
    go_ret
    exact LineAnsA.no HV.out hB
set_option maxHeartbeats 4000000 in
set_option maxRecDepth 100000 in
theorem act_line4 (B b : Nat) (s : ByteArray) (w : World) {st : ASt} {a6 : Int} {K : Nat → Prop} {vC vV vO vN : Value} (hE : Env3 w) (hnB : 8 ≤ B) (hBw : B ≤ w.heap.size) (h : AAt w B b st a6 K vC vV vO vN) (hs : s.size ≤ 4000000)
    (hr : st.a.outputs.length ≤ 2000000) (hh : cutHas s 32 = true) (hk : placeS (cut1 s 32).data.toList = 4) (h1 : ¬ a6 = -1) (h2 : ¬ 3 < a6) :
    Calls Tryz.prog 11 #[.pointer (some ⟨b, 0, none⟩), .string s] w fun e w' => LineAnsA B b ((takeS st.a 4 (cut2 s 32)).map fun a => ⟨4, a⟩) w e w' := by
  obtain ⟨i0, hi0, hz0, hz1, hz2⟩ := info_parts strs_info
  have hs2 : (cut2 s 32).size ≤ 4000000 := Nat.le_trans (cut_size s 32).2 hs
  have hn4 : (cut2 s 32).size ≤ maxLen := by unfold maxLen; omega
  have hT := Lib.hid (show takeS st.a 4 (cut2 s 32) = if oneWord (cut2 s 32) = true then some { st.a with outputs := st.a.outputs ++ [cut2 s 32] } else none from rfl)
  generalize takeS st.a 4 (cut2 s 32) = R at hT ⊢
  go_enter Tryz.func11, Tryz.ntmps11
  go_wp2_with fail
  refine (cut_any s 32 w hE.toEnv hs).mono ?_
  rintro e w1 ⟨rfl, hb1⟩
  rw [hh]
  have blk1 := ab_call h.blk hb1
  have rows1 := h.rows.call hb1
  go_wp2_with fail
  refine (slices_IndexIs _ 6 6 sixWords (cut1 s 32) _ (six_new w1)).mono ?_
  rintro e w2' ⟨r, rfl, hr, rfl⟩
  obtain rfl := place_index hr
  clear hr
  generalize hW2 : w1.alloc (.cells #[.string ⟨#[116, 111, 111, 108]⟩, .string ⟨#[100, 111]⟩, .string ⟨#[118, 97, 114]⟩, .string ⟨#[111, 117, 116]⟩, .string ⟨#[110, 101, 101, 100]⟩, .string ⟨#[116, 105, 109, 101]⟩] 9) = w2
  have hb2 : Below w1.heap.size w1 w2 := by rw [← hW2]; exact fr_alloc (fr_refl w1) _
  clear hW2
  have blk2 := ab_call blk1 hb2
  have rows2 := rows1.call hb2
  have hbel2 : Below B w w2 := (fr_call hb1 hb2).mono hBw
  obtain ⟨⟨c0, c1, c2, c3, c4, c5, c6⟩, ⟨f0, f1, f2, f3, f4, f5, f6⟩, hbl⟩ := ab_cells blk2
  rw [hk]
  clear blk1 rows1 hb1 hb2
  rw [show ((4 : Nat) : Int) - 1 = 3 from rfl]
  go_wp2_with fail
  · rename_i hbad
    rcases hbad with hbad | hbad
    · exact absurd (by simpa using hbad) h1
    · omega
  refine (cut_any (cut2 s 32) 32 _ (hE.toEnv.below (hbel2.setCell (p := ⟨b, 6, none⟩) h.low _) hnB) hs2).mono ?_
  rintro e w4 ⟨rfl, hb4⟩
  have blk4 := ab_call (ab_at blk2 3) hb4
  have rows4 := (rows2.set (t := 38) (b := b) ⟨_, _, blk2⟩ (by decide) (by decide) (by decide) 6 (.int .i64 3)).call hb4
  have hbel4 : Below B w w4 := (hbel2.setCell (p := ⟨b, 6, none⟩) h.low _).trans (hb4.mono (Nat.le_trans hBw (hbel2.setCell (p := ⟨b, 6, none⟩) h.low _).size))
  obtain ⟨⟨d0, d1, d2, d3, d4, d5, d6⟩, ⟨e0, e1, e2, e3, e4, e5, e6⟩, hbl4⟩ := ab_cells blk4
  have hN1 := Lib.hid (show oneWord (cut2 s 32) = (!(cut2 s 32).toList.isEmpty && !(cutHas (cut2 s 32) 32)) by rw [oneWord, Lib.toList_data])
  have hW9 : Below w4.heap.size w4 (w4.alloc (.cells #[.string (cut2 s 32)] 9)) := fr_alloc (fr_refl w4) _
  have blk9 := ab_call blk4 hW9
  have rows9 := rows4.call hW9
  have hbel9 : Below B w _ := hbel4.trans (hW9.mono (Nat.le_trans hBw hbel4.size))
  obtain ⟨_, rows, hrows, hown9, hrep⟩ := id rows9.o
  clear c0 c1 c2 c3 c4 c5 c6 f0 f1 f2 f3 f4 f5 f6
  go_wp2_with (at_builtin; refine wpList_append_lies _ rfl _ _ 24 rfl B 9 i0 _ 1 16 Tryz.underlying24 hi0 hz0 hz1 hz2 rfl (by decide) _ st.a.outputs.length _ rfl hown9 ⟨w4.heap.size, 0, none⟩ 1 1 [.string (cut2 s 32)] rfl rfl ?c1 ?c2 ?c3 ?c4 ?c5 ?c6 _ rfl ?_)
  case c1 => exact new_cells w4 #[_] _
  case c2 => exact one_one _
  case c3 => decide
  case c4 => unfold maxLen; omega
  case c5 => omega
  case c6 => exact Nat.le_trans hBw hbel9.size
  intro g cap w5 hown5 hg5 hat5 hlt5
  have rows5 := rows9.moreO (x := cut2 s 32) hrows hrep hn4 hg5 hown5 (by rw [World.size_alloc]; exact hat5)
  have blk5 := (hg5.block b (heap_lt blk9) fun e => kind_ne (rows9.o.kind b e.symm).2 ⟨_, _, blk9⟩ (by decide) rfl).trans blk9
  have hbel5 := hbel9.grown hg5 (Nat.le_trans hBw hbel9.size) (fun n e => (rows9.o.kind n e).1)
  have hB := hbel5.setCell (p := ⟨b, 3, none⟩) h.low (.slice (some ⟨g, 0, none⟩) (st.a.outputs.length + 1) cap)
  have rows6 := rows5.set (t := 38) (b := b) ⟨_, _, blk5⟩ (by decide) (by decide) (by decide) 3 (.slice (some ⟨g, 0, none⟩) (st.a.outputs.length + 1) cap)
  have blk6 := ab_o blk5 (.slice (some ⟨g, 0, none⟩) (st.a.outputs.length + 1) cap)
  obtain ⟨⟨_, _, _, _, _, _, _⟩, ⟨_, _, _, g2, _, _, _⟩, hbl5⟩ := ab_cells blk5
  clear hown5 hat5 hg5 hown9 hrep
  rw [hN1.out] at hT
  cases hq1 : (cut2 s 32).toList.isEmpty
  · rw [hq1] at hT
    cases hq2 : cutHas (cut2 s 32) 32
    · rw [hq2] at hT
      have HV := Lib.hid (show Option.map (fun a => (⟨4, a⟩ : ASt)) R = some ⟨4, { st.a with outputs := st.a.outputs ++ [cut2 s 32] }⟩ by rw [hT.out]; rfl)
      go_wp2
      go_ret
      exact LineAnsA.yes HV.out hB ⟨blk6, rows6, h.low, h.tool, h.time⟩ rfl
    · rw [hq2] at hT
      have HV := Lib.hid (show Option.map (fun a => (⟨4, a⟩ : ASt)) R = none by rw [hT.out]; rfl)
      go_wp2
      go_ret
      exact LineAnsA.no HV.out hB
  · rw [hq1] at hT
    have HV := Lib.hid (show Option.map (fun a => (⟨4, a⟩ : ASt)) R = none by rw [hT.out]; rfl)
    go_wp2
    go_ret
    exact LineAnsA.no HV.out hB
set_option maxHeartbeats 4000000 in
set_option maxRecDepth 100000 in
theorem act_line1 (B b : Nat) (s : ByteArray) (w : World) {st : ASt} {K : Nat → Prop} {vC vV vO vN : Value} (hE : Env3 w) (hnB : 8 ≤ B) (hBw : B ≤ w.heap.size) (h : AAt w B b st (-1) K vC vV vO vN) (hs : s.size ≤ 4000000)
    (hh : cutHas s 32 = true) (hk : placeS (cut1 s 32).data.toList = 1) :
    Calls Tryz.prog 11 #[.pointer (some ⟨b, 0, none⟩), .string s] w fun e w' => LineAnsA B b ((takeS st.a 1 (cut2 s 32)).map fun a => ⟨1, a⟩) w e w' := by
  have hs2 : (cut2 s 32).size ≤ 4000000 := Nat.le_trans (cut_size s 32).2 hs
  have hn4 : (cut2 s 32).size ≤ maxLen := by unfold maxLen; omega
  have hT := Lib.hid (show takeS st.a 1 (cut2 s 32) = if oneWord (cut2 s 32) = true then some { st.a with tool := cut2 s 32 } else none from rfl)
  generalize takeS st.a 1 (cut2 s 32) = R at hT ⊢
  go_enter Tryz.func11, Tryz.ntmps11
  go_wp2_with fail
  refine (cut_any s 32 w hE.toEnv hs).mono ?_
  rintro e w1 ⟨rfl, hb1⟩
  rw [hh]
  have blk1 := ab_call h.blk hb1
  have rows1 := h.rows.call hb1
  go_wp2_with fail
  refine (slices_IndexIs _ 6 6 sixWords (cut1 s 32) _ (six_new w1)).mono ?_
  rintro e w2' ⟨r, rfl, hr, rfl⟩
  obtain rfl := place_index hr
  clear hr
  generalize hW2 : w1.alloc (.cells #[.string ⟨#[116, 111, 111, 108]⟩, .string ⟨#[100, 111]⟩, .string ⟨#[118, 97, 114]⟩, .string ⟨#[111, 117, 116]⟩, .string ⟨#[110, 101, 101, 100]⟩, .string ⟨#[116, 105, 109, 101]⟩] 9) = w2
  have hb2 : Below w1.heap.size w1 w2 := by rw [← hW2]; exact fr_alloc (fr_refl w1) _
  clear hW2
  have blk2 := ab_call blk1 hb2
  have rows2 := rows1.call hb2
  have hbel2 : Below B w w2 := (fr_call hb1 hb2).mono hBw
  obtain ⟨⟨c0, c1, c2, c3, c4, c5, c6⟩, ⟨f0, f1, f2, f3, f4, f5, f6⟩, hbl⟩ := ab_cells blk2
  rw [hk]
  clear blk1 rows1 hb1 hb2
  rw [show ((1 : Nat) : Int) - 1 = 0 from rfl]
  go_wp2_with fail
  refine (cut_any (cut2 s 32) 32 _ (hE.toEnv.below (hbel2.setCell (p := ⟨b, 6, none⟩) h.low _) hnB) hs2).mono ?_
  rintro e w4 ⟨rfl, hb4⟩
  have blk4 := ab_call (ab_at blk2 0) hb4
  have rows4 := (rows2.set (t := 38) (b := b) ⟨_, _, blk2⟩ (by decide) (by decide) (by decide) 6 (.int .i64 0)).call hb4
  have hbel4 : Below B w w4 := (hbel2.setCell (p := ⟨b, 6, none⟩) h.low _).trans (hb4.mono (Nat.le_trans hBw (hbel2.setCell (p := ⟨b, 6, none⟩) h.low _).size))
  obtain ⟨⟨d0, d1, d2, d3, d4, d5, d6⟩, ⟨e0, e1, e2, e3, e4, e5, e6⟩, hbl4⟩ := ab_cells blk4
  have hN1 := Lib.hid (show oneWord (cut2 s 32) = (!(cut2 s 32).toList.isEmpty && !(cutHas (cut2 s 32) 32)) by rw [oneWord, Lib.toList_data])
  have hB := hbel4.setCell (p := ⟨b, 0, none⟩) h.low (.string (cut2 s 32))
  have rows6 := (rows4.set (t := 38) (b := b) ⟨_, _, blk4⟩ (by decide) (by decide) (by decide) 0 (.string (cut2 s 32))).tool (cut2 s 32)
  have blk6 := ab_tool blk4 (cut2 s 32)
  clear c0 c1 c2 c3 c4 c5 c6 f0 f1 f2 f3 f4 f5 f6
  rw [hN1.out] at hT
  cases hq1 : (cut2 s 32).toList.isEmpty
  · rw [hq1] at hT
    cases hq2 : cutHas (cut2 s 32) 32
    · rw [hq2] at hT
      have HV := Lib.hid (show Option.map (fun a => (⟨1, a⟩ : ASt)) R = some ⟨1, { st.a with tool := cut2 s 32 }⟩ by rw [hT.out]; rfl)
      go_wp2
      go_ret
      exact LineAnsA.yes HV.out hB ⟨blk6, rows6, h.low, hn4, h.time⟩ rfl
    · rw [hq2] at hT
      have HV := Lib.hid (show Option.map (fun a => (⟨1, a⟩ : ASt)) R = none by rw [hT.out]; rfl)
      go_wp2
      go_ret
      exact LineAnsA.no HV.out hB
  · rw [hq1] at hT
    have HV := Lib.hid (show Option.map (fun a => (⟨1, a⟩ : ASt)) R = none by rw [hT.out]; rfl)
    go_wp2
    go_ret
    exact LineAnsA.no HV.out hB
theorem split_rows (s : ByteArray) (w : World) (hE : Env w) (hs : s.size ≤ 4000000) :
    Calls Tryz.prog 21 #[.string s, .string ⟨#[32]⟩] w fun e w' => e = .returned (.slice (some ⟨w.heap.size, 0, none⟩) (wordsOf s).length (wordsOf s).length) ∧
      Kind 9 w' w.heap.size ∧ Sl w' (fun k => k = w.heap.size) (some ⟨w.heap.size, 0, none⟩) (wordsOf s).length (wordsOf s) ∧ Below w.heap.size w w' := by
  refine (split_any s ⟨#[32]⟩ w hE (by omega) (by decide)).mono ?_
  rintro e w' ⟨rfl, rfl⟩
  have hl := wordsOf_length s
  have hn : (wordsOf s).length ≤ maxLen := by
    have := wordsOf_count s
    unfold maxLen; omega
  have hsl := Sl.new_strs (w := w) (t := 9) (l := wordsOf s) hn (fun x hx => Nat.le_trans (wordsOf_size hx) (by unfold maxLen; omega))
  refine ⟨by rw [hl], ⟨_, _, heap_alloc_new w _⟩, ?_, fr_alloc (fr_refl w) _⟩
  refine ⟨hsl.1, hsl.2.1, fun h0 => ?_⟩
  obtain ⟨b, o, e, hb, hc⟩ := hsl.2.2 h0
  cases e
  exact ⟨_, _, rfl, rfl, fun i x hx => by
    obtain ⟨vs, hv, ha⟩ := hc i x hx
    exact ⟨vs, hv, ha⟩⟩
theorem slice_one (v : Value) (A : Option Addr) (n c : Nat) (hv : v = .slice A n c) : ∀ u ∈ ([v] : List Value), u.oneCell' = true := by
  intro u hu
  simp only [List.mem_cons, List.mem_nil_iff, or_false] at hu
  subst hu; subst hv; rfl
set_option maxHeartbeats 4000000 in
set_option maxRecDepth 100000 in
theorem act_line2 (B b : Nat) (s : ByteArray) (w : World) {st : ASt} {a6 : Int} {K : Nat → Prop} {vC vV vO vN : Value} (hE : Env3 w) (hnB : 8 ≤ B) (hBw : B ≤ w.heap.size) (h : AAt w B b st a6 K vC vV vO vN) (hs : s.size ≤ 4000000)
    (hr : st.a.commands.length ≤ 2000000) (hh : cutHas s 32 = true) (hk : placeS (cut1 s 32).data.toList = 2) (h1 : ¬ a6 = -1) (h2 : ¬ 1 < a6) :
    Calls Tryz.prog 11 #[.pointer (some ⟨b, 0, none⟩), .string s] w fun e w' => LineAnsA B b ((takeS st.a 2 (cut2 s 32)).map fun a => ⟨2, a⟩) w e w' := by
  obtain ⟨i0, hi0, hz0, hz1, hz2⟩ := info_parts row_info
  have hs2 : (cut2 s 32).size ≤ 4000000 := Nat.le_trans (cut_size s 32).2 hs
  have hT := Lib.hid (show takeS st.a 2 (cut2 s 32) = if noneEmpty (wordsOf (cut2 s 32)) = true then some { st.a with commands := st.a.commands ++ [wordsOf (cut2 s 32)] } else none from rfl)
  generalize takeS st.a 2 (cut2 s 32) = R at hT ⊢
  go_enter Tryz.func11, Tryz.ntmps11
  go_wp2_with fail
  refine (cut_any s 32 w hE.toEnv hs).mono ?_
  rintro e w1 ⟨rfl, hb1⟩
  rw [hh]
  have blk1 := ab_call h.blk hb1
  have rows1 := h.rows.call hb1
  go_wp2_with fail
  refine (slices_IndexIs _ 6 6 sixWords (cut1 s 32) _ (six_new w1)).mono ?_
  rintro e w2' ⟨r, rfl, hr, rfl⟩
  obtain rfl := place_index hr
  clear hr
  generalize hW2 : w1.alloc (.cells #[.string ⟨#[116, 111, 111, 108]⟩, .string ⟨#[100, 111]⟩, .string ⟨#[118, 97, 114]⟩, .string ⟨#[111, 117, 116]⟩, .string ⟨#[110, 101, 101, 100]⟩, .string ⟨#[116, 105, 109, 101]⟩] 9) = w2
  have hb2 : Below w1.heap.size w1 w2 := by rw [← hW2]; exact fr_alloc (fr_refl w1) _
  clear hW2
  have blk2 := ab_call blk1 hb2
  have rows2 := rows1.call hb2
  have hbel2 : Below B w w2 := (fr_call hb1 hb2).mono hBw
  obtain ⟨⟨c0, c1, c2, c3, c4, c5, c6⟩, ⟨f0, f1, f2, f3, f4, f5, f6⟩, hbl⟩ := ab_cells blk2
  rw [hk]
  clear blk1 rows1 hb1 hb2
  rw [show ((2 : Nat) : Int) - 1 = 1 from rfl]
  go_wp2_with fail
  · rename_i hbad
    rcases hbad with hbad | hbad
    · exact absurd (by simpa using hbad) h1
    · omega
  refine (cut_any (cut2 s 32) 32 _ (hE.toEnv.below (hbel2.setCell (p := ⟨b, 6, none⟩) h.low _) hnB) hs2).mono ?_
  rintro e w4 ⟨rfl, hb4⟩
  have blk4 := ab_call (ab_at blk2 1) hb4
  have rows4 := (rows2.set (t := 38) (b := b) ⟨_, _, blk2⟩ (by decide) (by decide) (by decide) 6 (.int .i64 1)).call hb4
  have hbel4 : Below B w w4 := (hbel2.setCell (p := ⟨b, 6, none⟩) h.low _).trans (hb4.mono (Nat.le_trans hBw (hbel2.setCell (p := ⟨b, 6, none⟩) h.low _).size))
  go_wp2_with fail
  refine (split_rows (cut2 s 32) _ (hE.toEnv.below hbel4 hnB) hs2).mono ?_
  rintro e w5 ⟨rfl, hkd5, hsl5, hb5⟩
  have hnm : (wordsOf (cut2 s 32)).length ≤ maxLen := hsl5.2.1
  generalize wordsOf (cut2 s 32) = ws at hT hsl5 hnm ⊢
  have hkO : vO.ownBlock ≠ some w4.heap.size := fun e => Nat.lt_irrefl _ (rows4.o.kind _ e).2.lt
  generalize w4.heap.size = kb at hkd5 hsl5 hkO ⊢
  have blk5 := ab_call blk4 hb5
  have rows5 := rows4.call hb5
  have hbel5 : Below B w w5 := hbel4.trans (hb5.mono (Nat.le_trans hBw hbel4.size))
  obtain ⟨⟨d0, d1, d2, d3, d4, d5, d6⟩, ⟨e0, e1, e2, e3, e4, e5, e6⟩, hbl4⟩ := ab_cells blk5
  have hW9 : Below w5.heap.size w5 (w5.alloc (.cells #[.slice (some ⟨kb, 0, none⟩) ws.length ws.length] 24)) := fr_alloc (fr_refl w5) _
  have blk9 := ab_call blk5 hW9
  have rows9 := rows5.call hW9
  have hbel9 : Below B w _ := hbel5.trans (hW9.mono (Nat.le_trans hBw hbel5.size))
  have hk9 : Kind 9 _ kb := Kind.of_keep (ty := 9) (fun k hk => hW9.block k hk.lt) kb hkd5
  have hsl9 := hsl5.keep (fun k (hk : k = kb) => by subst hk; exact hW9.block k hkd5.lt)
  obtain ⟨_, rows, hrows, hown9, hrep⟩ := id rows9.c
  clear c0 c1 c2 c3 c4 c5 c6 f0 f1 f2 f3 f4 f5 f6
  go_wp2_with (at_builtin; refine wpList_append_lies _ rfl _ _ 22 rfl B 24 i0 _ 1 24 Tryz.underlying22 hi0 hz0 hz1 hz2 rfl (by decide) _ st.a.commands.length _ rfl hown9 ⟨w5.heap.size, 0, none⟩ 1 1 [.slice (some ⟨kb, 0, none⟩) ws.length ws.length] rfl rfl ?c1 ?c2 ?c3 ?c4 ?c5 ?c6 _ rfl ?_)
  case c1 => exact new_cells w5 #[_] _
  case c2 => exact slice_one _ _ _ _ rfl
  case c3 => decide
  case c4 => unfold maxLen; omega
  case c5 => omega
  case c6 => exact Nat.le_trans hBw hbel9.size
  intro g cap w6 hown6 hg6 hat6 hlt6
  have rows6 := rows9.moreC (x := ws) hrows hrep ⟨hk9, hkO⟩ ⟨_, _, _, rfl, Nat.le_refl _, hnm, hsl9⟩ hg6 hown6
  have blk6 := (hg6.block b (heap_lt blk9) fun e => kind_ne (rows9.c.kind b e.symm).2 ⟨_, _, blk9⟩ (by decide) rfl).trans blk9
  have hbel6 := hbel9.grown hg6 (Nat.le_trans hBw hbel9.size) (fun n e => (rows9.c.kind n e).1)
  have hB := hbel6.setCell (p := ⟨b, 1, none⟩) h.low (.slice (some ⟨g, 0, none⟩) (st.a.commands.length + 1) cap)
  have rows7 := rows6.set (t := 38) (b := b) ⟨_, _, blk6⟩ (by decide) (by decide) (by decide) 1 (.slice (some ⟨g, 0, none⟩) (st.a.commands.length + 1) cap)
  have blk7 := ab_c blk6 (.slice (some ⟨g, 0, none⟩) (st.a.commands.length + 1) cap)
  have hk6 : Kind 9 w6 kb := (rows6.words kb (.inr rfl)).1
  have hbk6 := hg6.block kb hk9.lt fun e => kind_ne hk9 (rows9.c.kind kb e.symm).2 (by decide) rfl
  have hbk7 := (heap_setCell_other w6 ⟨b, 1, none⟩ kb (.slice (some ⟨g, 0, none⟩) (st.a.commands.length + 1) cap) (kind_ne hk6 ⟨_, _, blk6⟩ (by decide))).trans hbk6
  have hsl7 := hsl9.keep (fun k (hk : k = kb) => by subst hk; exact hbk7)
  have hlt7 := (rows7.words kb (.inr rfl)).1.lt
  obtain ⟨⟨_, _, _, _, _, _, _⟩, ⟨_, g2, _, _, _, _, _⟩, hbl5⟩ := ab_cells blk6
  clear hown6 hat6 hg6 hown9 hrep
  go_wp2_with fail
  refine (contains_empty _ _ _ ws _ _ (fun k (hk : k = kb) => hk ▸ hlt7) hsl7).mono ?_
  rintro e w8 ⟨rfl, rfl⟩
  cases hq : noneEmpty ws
  · rw [hq] at hT
    have HV := Lib.hid (show Option.map (fun a => (⟨2, a⟩ : ASt)) R = none by rw [hT.out]; rfl)
    go_wp2
    go_ret
    exact LineAnsA.no HV.out hB
  · rw [hq] at hT
    have HV := Lib.hid (show Option.map (fun a => (⟨2, a⟩ : ASt)) R = some ⟨2, { st.a with commands := st.a.commands ++ [ws] }⟩ by rw [hT.out]; rfl)
    go_wp2
    go_ret
    exact LineAnsA.yes HV.out hB ⟨blk7, rows7, h.low, h.tool, h.time⟩ rfl
set_option maxHeartbeats 4000000 in
set_option maxRecDepth 100000 in
theorem act_line6 (B b : Nat) (s : ByteArray) (w : World) {st : ASt} {a6 : Int} {K : Nat → Prop} {vC vV vO vN : Value} (hE : Env3 w) (hnB : 8 ≤ B) (hBw : B ≤ w.heap.size) (h : AAt w B b st a6 K vC vV vO vN) (hs : s.size ≤ 4000000)
    (hh : cutHas s 32 = true) (hk : placeS (cut1 s 32).data.toList = 6) (h1 : ¬ a6 = -1) (h2 : ¬ 5 < a6) :
    Calls Tryz.prog 11 #[.pointer (some ⟨b, 0, none⟩), .string s] w fun e w' => LineAnsA B b ((takeS st.a 6 (cut2 s 32)).map fun a => ⟨6, a⟩) w e w' := by
  have hs2 : (cut2 s 32).size ≤ 4000000 := Nat.le_trans (cut_size s 32).2 hs
  have hn4 : (cut2 s 32).size ≤ maxLen := by unfold maxLen; omega
  have hT := Lib.hid (show takeS st.a 6 (cut2 s 32) = if isNumberS (cut2 s 32) 9 = true then some { st.a with time := (numS (cut2 s 32) : Nat) } else none from rfl)
  generalize takeS st.a 6 (cut2 s 32) = R at hT ⊢
  go_enter Tryz.func11, Tryz.ntmps11
  go_wp2_with fail
  refine (cut_any s 32 w hE.toEnv hs).mono ?_
  rintro e w1 ⟨rfl, hb1⟩
  rw [hh]
  have blk1 := ab_call h.blk hb1
  have rows1 := h.rows.call hb1
  go_wp2_with fail
  refine (slices_IndexIs _ 6 6 sixWords (cut1 s 32) _ (six_new w1)).mono ?_
  rintro e w2' ⟨r, rfl, hr, rfl⟩
  obtain rfl := place_index hr
  clear hr
  generalize hW2 : w1.alloc (.cells #[.string ⟨#[116, 111, 111, 108]⟩, .string ⟨#[100, 111]⟩, .string ⟨#[118, 97, 114]⟩, .string ⟨#[111, 117, 116]⟩, .string ⟨#[110, 101, 101, 100]⟩, .string ⟨#[116, 105, 109, 101]⟩] 9) = w2
  have hb2 : Below w1.heap.size w1 w2 := by rw [← hW2]; exact fr_alloc (fr_refl w1) _
  clear hW2
  have blk2 := ab_call blk1 hb2
  have rows2 := rows1.call hb2
  have hbel2 : Below B w w2 := (fr_call hb1 hb2).mono hBw
  obtain ⟨⟨c0, c1, c2, c3, c4, c5, c6⟩, ⟨f0, f1, f2, f3, f4, f5, f6⟩, hbl⟩ := ab_cells blk2
  rw [hk]
  clear blk1 rows1 hb1 hb2
  rw [show ((6 : Nat) : Int) - 1 = 5 from rfl]
  go_wp2_with fail
  · rename_i hbad
    rcases hbad with hbad | hbad
    · exact absurd (by simpa using hbad) h1
    · omega
  refine (cut_any (cut2 s 32) 32 _ (hE.toEnv.below (hbel2.setCell (p := ⟨b, 6, none⟩) h.low _) hnB) hs2).mono ?_
  rintro e w4 ⟨rfl, hb4⟩
  have blk4 := ab_call (ab_at blk2 5) hb4
  have rows4 := (rows2.set (t := 38) (b := b) ⟨_, _, blk2⟩ (by decide) (by decide) (by decide) 6 (.int .i64 5)).call hb4
  have hbel4 : Below B w w4 := (hbel2.setCell (p := ⟨b, 6, none⟩) h.low _).trans (hb4.mono (Nat.le_trans hBw (hbel2.setCell (p := ⟨b, 6, none⟩) h.low _).size))
  go_wp2_with fail
  refine (atoi_total (cut2 s 32) _ (hE.below hbel4 hnB) hs2).mono ?_
  rintro e w5 ⟨n, v, rfl, hn, hnum, hb5⟩
  have blk5 := ab_call blk4 hb5
  have rows5 := rows4.call hb5
  have hbel5 : Below B w w5 := hbel4.trans (hb5.mono (Nat.le_trans hBw hbel4.size))
  obtain ⟨⟨d0, d1, d2, d3, d4, d5, d6⟩, ⟨e0, e1, e2, e3, e4, e5, e6⟩, hbl4⟩ := ab_cells blk5
  have blk6 := ab_time blk5 n
  have rows6 := (rows5.set (t := 38) (b := b) ⟨_, _, blk5⟩ (by decide) (by decide) (by decide) 5 (.int .i64 n)).time n
  have hbel6 := hbel5.setCell (p := ⟨b, 5, none⟩) h.low (.int .i64 n)
  obtain ⟨⟨_, _, _, _, _, _, d66⟩, ⟨_, _, _, _, _, _, e66⟩, hbl6⟩ := ab_cells blk6
  have blk7 := ab_at blk6 6
  have rows7 := rows6.set (t := 38) (b := b) ⟨_, _, blk6⟩ (by decide) (by decide) (by decide) 6 (.int .i64 6)
  have hbel7 := hbel6.setCell (p := ⟨b, 6, none⟩) h.low (.int .i64 6)
  clear c0 c1 c2 c3 c4 c5 c6 f0 f1 f2 f3 f4 f5 f6
  go_wp2_with fail
  refine (act_isNumber (cut2 s 32) 9 _ hn4).mono ?_
  rintro e w8 ⟨rfl, hb8⟩
  have blk8 := ab_call blk7 hb8
  have rows8 := rows7.call hb8
  have hbel8 : Below B w w8 := hbel7.trans (hb8.mono (Nat.le_trans hBw hbel7.size))
  cases hq : isNumberS (cut2 s 32) 9
  · rw [hq] at hT
    have HV := Lib.hid (show Option.map (fun a => (⟨6, a⟩ : ASt)) R = none by rw [hT.out]; rfl)
    go_wp2
    go_ret
    exact LineAnsA.no HV.out hbel8
  · rw [hq] at hT
    obtain rfl := hnum 9 hq (by decide)
    have HV := Lib.hid (show Option.map (fun a => (⟨6, a⟩ : ASt)) R = some ⟨6, { st.a with time := (numS (cut2 s 32) : Nat) }⟩ by rw [hT.out]; rfl)
    go_wp2
    go_ret
    exact LineAnsA.yes HV.out hbel8 ⟨blk8, rows8, h.low, h.tool, hn⟩ rfl
set_option maxHeartbeats 4000000 in
set_option maxRecDepth 100000 in
theorem act_lineA (B b : Nat) (s : ByteArray) (w : World) {st : ASt} {K : Nat → Prop} {vC vV vO vN : Value} (hE : Env3 w) (hnB : 8 ≤ B) (hBw : B ≤ w.heap.size) (h : AAt w B b st (atOf st.last) K vC vV vO vN) (hs : s.size ≤ 4000000) (h6 : st.last ≤ 6)
    (hr : st.a.commands.length ≤ 2000000 ∧ st.a.vars.length ≤ 2000000 ∧ st.a.outputs.length ≤ 2000000 ∧ st.a.needs.length ≤ 2000000) :
    Calls Tryz.prog 11 #[.pointer (some ⟨b, 0, none⟩), .string s] w fun e w' => LineAnsA B b (lineA st s) w e w' := by
  have hcz := cut_size s 32
  generalize hR : lineA st s = R
  cases hh : cutHas s 32
  · have HV := Lib.hid (show R = none by rw [← hR, line_none (.inl hh)])
    clear hR
    obtain ⟨k, hk⟩ : ∃ k, placeS (cut1 s 32).data.toList = k := ⟨_, rfl⟩
    go_enter Tryz.func11, Tryz.ntmps11
    go_wp2_with fail
    refine (cut_any s 32 w hE.toEnv hs).mono ?_
    rintro e w1 ⟨rfl, hb1⟩
    rw [hh]
    have blk1 := ab_call h.blk hb1
    have rows1 := h.rows.call hb1
    go_wp2_with fail
    refine (slices_IndexIs _ 6 6 sixWords (cut1 s 32) _ (six_new w1)).mono ?_
    rintro e w2' ⟨r, rfl, hr, rfl⟩
    obtain rfl := place_index hr
    clear hr
    generalize hW2 : w1.alloc (.cells #[.string ⟨#[116, 111, 111, 108]⟩, .string ⟨#[100, 111]⟩, .string ⟨#[118, 97, 114]⟩, .string ⟨#[111, 117, 116]⟩, .string ⟨#[110, 101, 101, 100]⟩, .string ⟨#[116, 105, 109, 101]⟩] 9) = w2
    have hb2 : Below w1.heap.size w1 w2 := by rw [← hW2]; exact fr_alloc (fr_refl w1) _
    clear hW2
    have blk2 := ab_call blk1 hb2
    have rows2 := rows1.call hb2
    have hbel2 : Below B w w2 := (fr_call hb1 hb2).mono hBw
    obtain ⟨⟨c0, c1, c2, c3, c4, c5, c6⟩, ⟨f0, f1, f2, f3, f4, f5, f6⟩, hbl⟩ := ab_cells blk2
    rw [hk]
    clear blk1 rows1 hb1 hb2
    go_wp2
    go_ret
    exact LineAnsA.no HV.out hbel2
  obtain ⟨k, hk⟩ : ∃ k, placeS (cut1 s 32).data.toList = k := ⟨_, rfl⟩
  have hk6 : k ≤ 6 := by rcases place_cases' (cut1 s 32).data.toList with h | h | h | h | h | h | h <;> omega
  by_cases hk0 : k = 0
  · subst hk0
    have HV := Lib.hid (show R = none by rw [← hR, line_none (.inr (by rw [hk]; rfl))])
    clear hR
    go_enter Tryz.func11, Tryz.ntmps11
    go_wp2_with fail
    refine (cut_any s 32 w hE.toEnv hs).mono ?_
    rintro e w1 ⟨rfl, hb1⟩
    rw [hh]
    have blk1 := ab_call h.blk hb1
    have rows1 := h.rows.call hb1
    go_wp2_with fail
    refine (slices_IndexIs _ 6 6 sixWords (cut1 s 32) _ (six_new w1)).mono ?_
    rintro e w2' ⟨r, rfl, hr, rfl⟩
    obtain rfl := place_index hr
    clear hr
    generalize hW2 : w1.alloc (.cells #[.string ⟨#[116, 111, 111, 108]⟩, .string ⟨#[100, 111]⟩, .string ⟨#[118, 97, 114]⟩, .string ⟨#[111, 117, 116]⟩, .string ⟨#[110, 101, 101, 100]⟩, .string ⟨#[116, 105, 109, 101]⟩] 9) = w2
    have hb2 : Below w1.heap.size w1 w2 := by rw [← hW2]; exact fr_alloc (fr_refl w1) _
    clear hW2
    have blk2 := ab_call blk1 hb2
    have rows2 := rows1.call hb2
    have hbel2 : Below B w w2 := (fr_call hb1 hb2).mono hBw
    obtain ⟨⟨c0, c1, c2, c3, c4, c5, c6⟩, ⟨f0, f1, f2, f3, f4, f5, f6⟩, hbl⟩ := ab_cells blk2
    rw [hk]
    clear blk1 rows1 hb1 hb2
    go_wp2
    go_ret
    exact LineAnsA.no HV.out hbel2
  by_cases hl6 : st.last = 6
  · have hat : atOf st.last = 6 := by rw [hl6]; rfl
    have HV := Lib.hid (show R = none by rw [← hR, line_none (.inr (by rw [hk, hl6]; revert hk6 hk0; clear hk; revert k; decide))])
    have hkI : ¬ ((k : Int) - 1 < 0) := by omega
    have g1 := IntWalk.i64_in ((k : Int) - 1) ⟨by omega, by omega⟩
    rw [hat] at h
    clear hR
    go_enter Tryz.func11, Tryz.ntmps11
    go_wp2_with fail
    refine (cut_any s 32 w hE.toEnv hs).mono ?_
    rintro e w1 ⟨rfl, hb1⟩
    rw [hh]
    have blk1 := ab_call h.blk hb1
    have rows1 := h.rows.call hb1
    go_wp2_with fail
    refine (slices_IndexIs _ 6 6 sixWords (cut1 s 32) _ (six_new w1)).mono ?_
    rintro e w2' ⟨r, rfl, hr, rfl⟩
    obtain rfl := place_index hr
    clear hr
    generalize hW2 : w1.alloc (.cells #[.string ⟨#[116, 111, 111, 108]⟩, .string ⟨#[100, 111]⟩, .string ⟨#[118, 97, 114]⟩, .string ⟨#[111, 117, 116]⟩, .string ⟨#[110, 101, 101, 100]⟩, .string ⟨#[116, 105, 109, 101]⟩] 9) = w2
    have hb2 : Below w1.heap.size w1 w2 := by rw [← hW2]; exact fr_alloc (fr_refl w1) _
    clear hW2
    have blk2 := ab_call blk1 hb2
    have rows2 := rows1.call hb2
    have hbel2 : Below B w w2 := (fr_call hb1 hb2).mono hBw
    obtain ⟨⟨c0, c1, c2, c3, c4, c5, c6⟩, ⟨f0, f1, f2, f3, f4, f5, f6⟩, hbl⟩ := ab_cells blk2
    rw [hk]
    clear blk1 rows1 hb1 hb2
    go_wp2
    go_ret
    exact LineAnsA.no HV.out hbel2
  have hat : atOf st.last = (st.last : Int) - 1 := if_neg hl6
  rw [hat] at h
  cases hm : misplaced st.last k
  · have hRk := line_take hh hk hm
    rw [hR] at hRk
    rw [hRk]
    have hm2 := hm
    simp only [misplaced, Bool.or_eq_false_iff, decide_eq_false_iff_not, Bool.and_eq_false_iff, Bool.not_eq_false', decide_eq_true_eq, Bool.and_eq_true] at hm2
    obtain ⟨⟨⟨_, m1⟩, m2⟩, m3⟩ := hm2
    by_cases e1 : k = 1
    · subst e1
      have hz : st.last = 0 := by omega
      rw [hz] at h
      exact act_line1 B b s w hE hnB hBw h hs hh hk
    have q1 : ¬ (st.last : Int) - 1 = -1 := by omega
    by_cases e2 : k = 2
    · subst e2; exact act_line2 B b s w hE hnB hBw h hs hr.1 hh hk q1 (by omega)
    by_cases e3 : k = 3
    · subst e3; exact act_line3 B b s w hE hnB hBw h hs hr.2.1 hh hk q1 (by omega)
    by_cases e4 : k = 4
    · subst e4; exact act_line4 B b s w hE hnB hBw h hs hr.2.2.1 hh hk q1 (by omega)
    by_cases e5 : k = 5
    · subst e5; exact act_line5 B b s w hE hnB hBw h hs hr.2.2.2 hh hk q1 (by omega)
    obtain rfl : k = 6 := by omega
    exact act_line6 B b s w hE hnB hBw h hs hh hk q1 (by omega)
  · have HV := Lib.hid (show R = none by rw [← hR, line_none (.inr (by rw [hk]; exact hm))])
    have hm2 := hm
    simp only [misplaced, Bool.or_eq_true, decide_eq_true_eq, Bool.and_eq_true, Bool.not_eq_true', Bool.and_eq_false_iff, decide_eq_false_iff_not] at hm2
    clear hR hm
    have hkI : ¬ ((k : Int) - 1 < 0) := by omega
    have g1 := IntWalk.i64_in ((k : Int) - 1) ⟨by omega, by omega⟩
    have g2 := IntWalk.i64_in ((st.last : Int) - 1) ⟨by omega, by omega⟩
    have hl6' : ¬ (st.last : Int) - 1 = 6 := by omega
    by_cases e1 : k = 1
    · subst e1
      have q1 : ¬ (st.last : Int) - 1 = -1 := by omega
      go_enter Tryz.func11, Tryz.ntmps11
      go_wp2_with fail
      refine (cut_any s 32 w hE.toEnv hs).mono ?_
      rintro e w1 ⟨rfl, hb1⟩
      rw [hh]
      have blk1 := ab_call h.blk hb1
      have rows1 := h.rows.call hb1
      go_wp2_with fail
      refine (slices_IndexIs _ 6 6 sixWords (cut1 s 32) _ (six_new w1)).mono ?_
      rintro e w2' ⟨r, rfl, hr, rfl⟩
      obtain rfl := place_index hr
      clear hr
      generalize hW2 : w1.alloc (.cells #[.string ⟨#[116, 111, 111, 108]⟩, .string ⟨#[100, 111]⟩, .string ⟨#[118, 97, 114]⟩, .string ⟨#[111, 117, 116]⟩, .string ⟨#[110, 101, 101, 100]⟩, .string ⟨#[116, 105, 109, 101]⟩] 9) = w2
      have hb2 : Below w1.heap.size w1 w2 := by rw [← hW2]; exact fr_alloc (fr_refl w1) _
      clear hW2
      have blk2 := ab_call blk1 hb2
      have rows2 := rows1.call hb2
      have hbel2 : Below B w w2 := (fr_call hb1 hb2).mono hBw
      obtain ⟨⟨c0, c1, c2, c3, c4, c5, c6⟩, ⟨f0, f1, f2, f3, f4, f5, f6⟩, hbl⟩ := ab_cells blk2
      rw [hk]
      clear blk1 rows1 hb1 hb2
      rw [show ((1 : Nat) : Int) - 1 = 0 from rfl]
      go_wp2
      all_goals
        go_ret
        exact LineAnsA.no HV.out hbel2
    have hkJ : ¬ ((k : Int) - 1 = 0) := by omega
    by_cases e2 : st.last = 0
    · rw [e2, show ((0 : Nat) : Int) - 1 = -1 from rfl] at h
      go_enter Tryz.func11, Tryz.ntmps11
      go_wp2_with fail
      refine (cut_any s 32 w hE.toEnv hs).mono ?_
      rintro e w1 ⟨rfl, hb1⟩
      rw [hh]
      have blk1 := ab_call h.blk hb1
      have rows1 := h.rows.call hb1
      go_wp2_with fail
      refine (slices_IndexIs _ 6 6 sixWords (cut1 s 32) _ (six_new w1)).mono ?_
      rintro e w2' ⟨r, rfl, hr, rfl⟩
      obtain rfl := place_index hr
      clear hr
      generalize hW2 : w1.alloc (.cells #[.string ⟨#[116, 111, 111, 108]⟩, .string ⟨#[100, 111]⟩, .string ⟨#[118, 97, 114]⟩, .string ⟨#[111, 117, 116]⟩, .string ⟨#[110, 101, 101, 100]⟩, .string ⟨#[116, 105, 109, 101]⟩] 9) = w2
      have hb2 : Below w1.heap.size w1 w2 := by rw [← hW2]; exact fr_alloc (fr_refl w1) _
      clear hW2
      have blk2 := ab_call blk1 hb2
      have rows2 := rows1.call hb2
      have hbel2 : Below B w w2 := (fr_call hb1 hb2).mono hBw
      obtain ⟨⟨c0, c1, c2, c3, c4, c5, c6⟩, ⟨f0, f1, f2, f3, f4, f5, f6⟩, hbl⟩ := ab_cells blk2
      rw [hk]
      clear blk1 rows1 hb1 hb2
      go_wp2
      all_goals
        go_ret
        exact LineAnsA.no HV.out hbel2
    have q1 : ¬ (st.last : Int) - 1 = -1 := by omega
    have q2 : (k : Int) - 1 < (st.last : Int) - 1 := by omega
    go_enter Tryz.func11, Tryz.ntmps11
    go_wp2_with fail
    refine (cut_any s 32 w hE.toEnv hs).mono ?_
    rintro e w1 ⟨rfl, hb1⟩
    rw [hh]
    have blk1 := ab_call h.blk hb1
    have rows1 := h.rows.call hb1
    go_wp2_with fail
    refine (slices_IndexIs _ 6 6 sixWords (cut1 s 32) _ (six_new w1)).mono ?_
    rintro e w2' ⟨r, rfl, hr, rfl⟩
    obtain rfl := place_index hr
    clear hr
    generalize hW2 : w1.alloc (.cells #[.string ⟨#[116, 111, 111, 108]⟩, .string ⟨#[100, 111]⟩, .string ⟨#[118, 97, 114]⟩, .string ⟨#[111, 117, 116]⟩, .string ⟨#[110, 101, 101, 100]⟩, .string ⟨#[116, 105, 109, 101]⟩] 9) = w2
    have hb2 : Below w1.heap.size w1 w2 := by rw [← hW2]; exact fr_alloc (fr_refl w1) _
    clear hW2
    have blk2 := ab_call blk1 hb2
    have rows2 := rows1.call hb2
    have hbel2 : Below B w w2 := (fr_call hb1 hb2).mono hBw
    obtain ⟨⟨c0, c1, c2, c3, c4, c5, c6⟩, ⟨f0, f1, f2, f3, f4, f5, f6⟩, hbl⟩ := ab_cells blk2
    rw [hk]
    clear blk1 rows1 hb1 hb2
    go_wp2
    all_goals
      go_ret
      exact LineAnsA.no HV.out hbel2
end Go.Proofs.Sm

namespace Go.Proofs.Sm
open Go.RowKit

/-- what Read answers -/
def ReadAnsA (T : ByteArray) (w : World) (e : Ending) (w' : World) : Prop := ∃ A n n' B m m' C p p' D q q', e = .returned (.tuple #[actVal (readActS T).1 A n n' B m m' C p p' D q q', .int .i64 (readActS T).2.1, .int .i64 (readActS T).2.2]) ∧
  ActIs w' (readActS T).1 A n B m C p D q ∧ (n ≤ n' ∧ n' ≤ maxLen ∧ m ≤ m' ∧ m' ≤ maxLen ∧ p ≤ p' ∧ p' ≤ maxLen ∧ q ≤ q' ∧ q' ≤ maxLen) ∧ Below w.heap.size w w'
theorem noAct (w : World) : ActIs w noAction none 0 none 0 none 0 none 0 := ⟨by decide, Sl.nil, Sl.nil, Sl.nil, Sl.nil, ⟨by decide, by decide⟩⟩
theorem ReadAnsA.zero {T : ByteArray} {w w' : World} {k f : Int} (h : readActS T = (noAction, k, f)) (hb : Below w.heap.size w w') :
    ReadAnsA T w (.returned (.tuple #[.agg #[.string ⟨#[]⟩, .slice none 0 0, .slice none 0 0, .slice none 0 0, .slice none 0 0, .int .i64 0], .int .i64 k, .int .i64 f])) w' :=
  ⟨none, 0, 0, none, 0, 0, none, 0, 0, none, 0, 0, by rw [h]; rfl, by rw [h]; exact noAct w', ⟨Nat.le_refl _, Nat.zero_le _, Nat.le_refl _, Nat.zero_le _, Nat.le_refl _, Nat.zero_le _, Nat.le_refl _, Nat.zero_le _⟩, hb⟩
theorem readAct_large {T : ByteArray} (h : (2000000 : Int) < T.size) : readActS T = (noAction, 0, 2) := by rw [readActS, if_pos h]
theorem readAct_bad {T : ByteArray} {n : Nat} (h : ¬ (2000000 : Int) < T.size) (h1 : runA T 1 ⟨0, noAction⟩ = .error n) : readActS T = (noAction, ((n : Nat) : Int), 10) := by rw [readActS, if_neg h, h1]
theorem readAct_wrong {T : ByteArray} {a : ActionV} (h : ¬ (2000000 : Int) < T.size) (h1 : runA T 1 ⟨0, noAction⟩ = .ok a) (h2 : checkActionS a ≠ 0) : readActS T = (noAction, 0, checkActionS a) := by rw [readActS, if_neg h, h1]; simp only; rw [if_neg h2]
theorem readAct_right {T : ByteArray} {a : ActionV} (h : ¬ (2000000 : Int) < T.size) (h1 : runA T 1 ⟨0, noAction⟩ = .ok a) (h2 : checkActionS a = 0) : readActS T = (a, 0, 0) := by rw [readActS, if_neg h, h1]; simp only; rw [if_pos h2]
/-- the result's own block -/
def AZ : Obj := .cells #[.string ⟨#[]⟩, .slice none 0 0, .slice none 0 0, .slice none 0 0, .slice none 0 0, .int .i64 0] 26 (0, 0)
theorem az_cells {w : World} {b : Nat} (h : w.heap[b]? = some AZ) : (w.cell? ⟨b, 0, none⟩ = some (.string ⟨#[]⟩) ∧ w.cell? ⟨b, 1, none⟩ = some (.slice none 0 0) ∧ w.cell? ⟨b, 2, none⟩ = some (.slice none 0 0) ∧ w.cell? ⟨b, 3, none⟩ = some (.slice none 0 0) ∧ w.cell? ⟨b, 4, none⟩ = some (.slice none 0 0) ∧ w.cell? ⟨b, 5, none⟩ = some (.int .i64 0)) ∧
    (w.frozen? ⟨b, 0, none⟩ = false ∧ w.frozen? ⟨b, 1, none⟩ = false ∧ w.frozen? ⟨b, 2, none⟩ = false ∧ w.frozen? ⟨b, 3, none⟩ = false ∧ w.frozen? ⟨b, 4, none⟩ = false ∧ w.frozen? ⟨b, 5, none⟩ = false) ∧ b < w.heap.size := by
  refine ⟨⟨?_, ?_, ?_, ?_, ?_, ?_⟩, ⟨?_, ?_, ?_, ?_, ?_, ?_⟩, heap_lt h⟩
  all_goals first
    | (rw [Lib.cell_of_heap (show w.heap[b]? = some (.cells _ _ _) from h)]; rfl)
    | exact Lib.frozen_of_heap (show w.heap[b]? = some (.cells _ _ _) from h) _
/-- how much of an action there may be when a text of this length is left -/
def RoomA (a : ActionV) (s t : Nat) : Prop := a.commands.length + s ≤ t ∧ a.vars.length + s ≤ t ∧ a.outputs.length + s ≤ t ∧ a.needs.length + s ≤ t
theorem RoomA.four {a : ActionV} {s t : Nat} (h : RoomA a s t) (ht : t ≤ 2000000) : a.commands.length ≤ 2000000 ∧ a.vars.length ≤ 2000000 ∧ a.outputs.length ≤ 2000000 ∧ a.needs.length ≤ 2000000 := by
  obtain ⟨h1, h2, h3, h4⟩ := h
  exact ⟨by omega, by omega, by omega, by omega⟩
theorem takeS_room {a a' : ActionV} {k : Nat} {s : ByteArray} {n m t : Nat} (h : takeS a k s = some a') (hr : RoomA a n t) (hm : m + 1 ≤ n) : RoomA a' m t := by
  obtain ⟨h1, h2, h3, h4⟩ := hr
  unfold takeS at h
  repeat' split at h
  all_goals first
    | (cases h; done)
    | (obtain rfl := Option.some.inj h
       refine ⟨?_, ?_, ?_, ?_⟩ <;> simp only [List.length_append, List.length_singleton] <;> omega)
theorem lineA_room {st st' : ASt} {s : ByteArray} {n m t : Nat} (h : lineA st s = some st') (hr : RoomA st.a n t) (hm : m + 1 ≤ n) : RoomA st'.a m t ∧ st'.last ≤ 6 := by
  unfold lineA at h
  split at h
  · cases h
  · cases h1 : takeS st.a (placeS (cut1 s 32).data.toList) (cut2 s 32) with
    | none => rw [h1] at h; cases h
    | some a' =>
      rw [h1] at h
      obtain rfl := Option.some.inj h
      refine ⟨takeS_room h1 hr hm, ?_⟩
      rcases place_cases' (cut1 s 32).data.toList with h | h | h | h | h | h | h <;> simp only [h] <;> omega
theorem Rows4.sls {w : World} {B : Nat} {a : ActionV} {K : Nat → Prop} {vC vV vO vN : Value} (h : Rows4 w B a K vC vV vO vN) : ∃ A n' B' m' C p' D q', vC = .slice A a.commands.length n' ∧ vV = .slice B' a.vars.length m' ∧ vO = .slice C a.outputs.length p' ∧ vN = .slice D a.needs.length q' ∧
    (Sl w (Lt w.heap.size) A a.commands.length a.commands ∧ Sl w (Lt w.heap.size) B' a.vars.length a.vars ∧ Sl w (Lt w.heap.size) C a.outputs.length a.outputs ∧ Sl w (Lt w.heap.size) D a.needs.length a.needs) ∧
    (a.commands.length ≤ n' ∧ n' ≤ maxLen ∧ a.vars.length ≤ m' ∧ m' ≤ maxLen ∧ a.outputs.length ≤ p' ∧ p' ≤ maxLen ∧ a.needs.length ≤ q' ∧ q' ≤ maxLen) := by
  obtain ⟨A, n', e1, a1, a2, a3⟩ := h.c.sl
  obtain ⟨B', m', e2, b1, b2, b3⟩ := h.v.sl
  obtain ⟨C, p', e3, c1, c2, c3⟩ := h.o.sl
  obtain ⟨D, q', e4, d1, d2, d3⟩ := h.n.sl
  exact ⟨A, n', B', m', C, p', D, q', e1, e2, e3, e4, ⟨a3, b3, c3, d3⟩, a1, a2, b1, b2, c1, c2, d1, d2⟩
/-- the text that a slot holds -/
def strOf : Value → ByteArray
  | .string s => s
  | _ => ⟨#[]⟩
theorem size_empty {S : ByteArray} (h : S.toList.isEmpty = true) : S.size = 0 := by
  rw [Lib.toList_data, List.isEmpty_iff] at h
  have : S.size = S.data.toList.length := by simp
  rw [this, h]; rfl
theorem size_some {S : ByteArray} (h : S.toList.isEmpty = false) : S.size ≠ 0 := by
  rw [Lib.toList_data, List.isEmpty_eq_false_iff] at h
  intro h0
  apply h
  apply List.eq_nil_of_length_eq_zero
  have : S.size = S.data.toList.length := by simp
  omega

theorem read_fullA {T : ByteArray} {w w2 W : World} {a : ActionV} {K : Nat → Prop} {A : Option Addr} {n' : Nat} {B : Option Addr} {m' : Nat} {C : Option Addr} {p' : Nat} {D : Option Addr} {q' B0 g : Nat} (h : readActS T = (a, 0, 0))
    (hR : Rows4 w2 B0 a K (.slice A a.commands.length n') (.slice B a.vars.length m') (.slice C a.outputs.length p') (.slice D a.needs.length q')) (hg : Kind 26 w2 g) (hs : w2.heap.size ≤ W.heap.size) (hW : ∀ k, k ≠ g → W.heap[k]? = w2.heap[k]?)
    (hc : a.tool.size ≤ maxLen ∧ InInt a.time) (hb : Below w.heap.size w W) :
    ReadAnsA T w (.returned (.tuple #[.agg #[.string a.tool, .slice A a.commands.length n', .slice B a.vars.length m', .slice C a.outputs.length p', .slice D a.needs.length q', .int .i64 a.time], .int .i64 0, .int .i64 0])) W := by
  have hR2 : Rows4 W B0 a K (.slice A a.commands.length n') (.slice B a.vars.length m') (.slice C a.outputs.length p') (.slice D a.needs.length q') := hR.keep hs fun k t hk hor => hW k (kind_ne hk hg (by rcases hor with rfl | rfl | rfl <;> decide))
  obtain ⟨_, _, _, _, _, _, _, _, e1, e2, e3, e4, ⟨s1, s2, s3, s4⟩, hcaps⟩ := hR2.sls
  cases e1; cases e2; cases e3; cases e4
  exact ⟨A, _, n', B, _, m', C, _, p', D, _, q', by rw [h]; rfl, by rw [h]; exact ⟨hc.1, s1, s2, s3, s4, hc.2⟩, hcaps, hb⟩

set_option maxHeartbeats 0 in
set_option maxRecDepth 100000 in
theorem act_Read (T : ByteArray) (w : World) (hE : Env3 w) (hs : T.size ≤ maxLen) :
    Calls Tryz.prog 5 #[.string T] w fun e w' => ReadAnsA T w e w' := by
  have hm : T.size ≤ 9223372036854775807 := hs
  by_cases hl : (2000000 : Int) < T.size
  · have HV := Lib.hid (readAct_large hl)
    go_enter Tryz.func5, Tryz.ntmps5
    go_wp2
    (try simp only [Exit.inBlock, Exit.then])
    refine bodyPost_ret (v := .tuple #[.agg #[.string ⟨#[]⟩, .slice none 0 0, .slice none 0 0, .slice none 0 0, .slice none 0 0, .int .i64 0], .int .i64 0, .int .i64 2]) (by simp [results, Tryz.results5, go_sem]) rfl ?_
    exact ReadAnsA.zero HV.out (fr_alloc (fr_refl w) _)
  have hT : T.size ≤ 2000000 := by omega
  have HL := Lib.hid hl
  have HB := Lib.hid (fun n => readAct_bad (T := T) (n := n) hl)
  have HW := Lib.hid (fun a => readAct_wrong (T := T) (a := a) hl)
  have HR := Lib.hid (fun a => readAct_right (T := T) (a := a) hl)
  clear HL
  go_enter Tryz.func5, Tryz.ntmps5
  go_wp2_with fail
  generalize hW0 : (w.alloc (.cells #[.string ⟨#[]⟩, .slice none 0 0, .slice none 0 0, .slice none 0 0, .slice none 0 0, .int .i64 0] 26)).alloc (.cells #[.string ⟨#[]⟩, .slice none 0 0, .slice none 0 0, .slice none 0 0, .slice none 0 0, .int .i64 0, .int .i64 (-1)] 38) = W
  have hb0 : Below w.heap.size w W := by rw [← hW0]; exact fr_alloc (fr_alloc (fr_refl w) _) _
  have hsz : W.heap.size = w.heap.size + 2 := by rw [← hW0]; simp
  have hblk : W.heap[w.heap.size + 1]? = some (AB ⟨#[]⟩ (.slice none 0 0) (.slice none 0 0) (.slice none 0 0) (.slice none 0 0) 0 (-1)) := by
    rw [← hW0]
    have := heap_alloc_new (w.alloc (.cells #[.string ⟨#[]⟩, .slice none 0 0, .slice none 0 0, .slice none 0 0, .slice none 0 0, .int .i64 0] 26)) (AB ⟨#[]⟩ (.slice none 0 0) (.slice none 0 0) (.slice none 0 0) (.slice none 0 0) 0 (-1))
    simpa [AB] using this
  have hres : W.heap[w.heap.size]? = some AZ := by
    rw [← hW0]
    exact ((fr_alloc (fr_refl (w.alloc _)) _).block w.heap.size (by simp)).trans (heap_alloc_new w _)
  clear hW0
  have hE0 := hE.then_ hb0
  obtain ⟨B, hBe⟩ : ∃ B, B = w.heap.size + 1 := ⟨_, rfl⟩
  have hnB : 8 ≤ B := by have := hE.size; omega
  have hBW : B ≤ W.heap.size := by omega
  have hresB : w.heap.size < B := by omega
  rw [← hBe] at hblk ⊢
  clear hBe hsz
  have hst : AAt W B B ⟨0, noAction⟩ (atOf 0) (fun _ => False) (.slice none 0 0) (.slice none 0 0) (.slice none 0 0) (.slice none 0 0) := ⟨hblk, Rows4.nil, Nat.le_refl _, by decide, ⟨by decide, by decide⟩⟩
  go_wp2
  go_loopw [0, 6] (fun v i wr => ∃ (S : ByteArray) (n : Nat) (st : ASt) (K : Nat → Prop) (vC vV vO vN : Value), v = .string S ∧ i = .int .i64 n ∧ AAt wr B B st (atOf st.last) K vC vV vO vN ∧ runA T 1 ⟨0, noAction⟩ = runA S n st ∧ RoomA st.a S.size T.size ∧ st.last ≤ 6 ∧ n + S.size ≤ T.size + 1 ∧ Below B W wr) (fun v _ _ => (strOf v).size)
  case atStart => exact ⟨T, 1, ⟨0, noAction⟩, _, _, _, _, _, rfl, rfl, hst, rfl, ⟨by simp [noAction], by simp [noAction], by simp [noAction], by simp [noAction]⟩, by simp, by omega, Below.refl _ _⟩
  case round =>
    clear hst hblk
    obtain ⟨S, n, st, K, vC, vV, vO, vN, rfl, rfl, hat, hrun, hroom, h6, hn, hbel⟩ := hrel
    have HRun := Lib.hid hrun; clear hrun
    have hres1 := (hbel.block _ hresB).trans hres
    obtain ⟨⟨z0, z1, z2, z3, z4, z5⟩, ⟨y0, y1, y2, y3, y4, y5⟩, hzl⟩ := az_cells hres1
    obtain ⟨⟨c0, c1, c2, c3, c4, c5, c6⟩, _, hbl⟩ := ab_cells hat.blk
    have hbw := hb0.trans (hbel.mono (by omega : w.heap.size ≤ B))
    cases hz : S.toList.isEmpty
    · have hS0 := size_some hz
      go_wp2_with fail
      refine (cut_any S 10 _ ((hE0.toEnv).below hbel hnB) (by omega)).mono ?_
      rintro e w1 ⟨rfl, hb1⟩
      have hres2 := (hb1.block _ (heap_lt hres1)).trans hres1
      have hbel1 : Below B W w1 := hbel.trans (hb1.mono (Nat.le_trans hBW hbel.size))
      have hbw1 := hb0.trans (hbel1.mono (by omega : w.heap.size ≤ B))
      obtain ⟨⟨z0, z1, z2, z3, z4, z5⟩, ⟨y0, y1, y2, y3, y4, y5⟩, hzl⟩ := az_cells hres2
      have hat1 : AAt w1 B B st (atOf st.last) K vC vV vO vN := ⟨ab_call hat.blk hb1, hat.rows.call hb1, hat.low, hat.tool, hat.time⟩
      cases hh : cutHas S 10
      · have HV := Lib.hid (HB.out n (by rw [HRun.out, runA_cut hS0 hh]))
        go_wp2
        (try simp only [Exit.inBlock, Exit.then])
        refine bodyPost_ret (v := .tuple #[.agg #[.string ⟨#[]⟩, .slice none 0 0, .slice none 0 0, .slice none 0 0, .slice none 0 0, .int .i64 0], .int .i64 (n : Nat), .int .i64 10]) (by simp [results, Tryz.results5, go_sem, z0, z1, z2, z3, z4, z5]) rfl ?_
        exact ReadAnsA.zero HV.out (by repeat (first | refine fr_set ?_ (Nat.le_refl _) _ | refine Below.drew ?_ | exact hbw1))
      · have hcl := cut_less hh
        cases hln : lineA st (cut1 S 10) with
        | none =>
          have HV := Lib.hid (HB.out n (by rw [HRun.out, runA_stop hh hln]))
          go_wp2_with fail
          refine (act_lineA B B (cut1 S 10) _ (hE0.below hbel1 hnB) hnB (Nat.le_trans hBW hbel1.size) hat1 (by omega) h6 (hroom.four hT)).mono ?_
          rw [hln]
          rintro e w2 ⟨hb2, rfl⟩
          have hres3 := (hb2.block _ hresB).trans hres2
          have hbw2 := hbw1.trans (hb2.mono (by omega : w.heap.size ≤ B))
          obtain ⟨⟨z0, z1, z2, z3, z4, z5⟩, ⟨y0, y1, y2, y3, y4, y5⟩, hzl⟩ := az_cells hres3
          go_wp2
          (try simp only [Exit.inBlock, Exit.then])
          refine bodyPost_ret (v := .tuple #[.agg #[.string ⟨#[]⟩, .slice none 0 0, .slice none 0 0, .slice none 0 0, .slice none 0 0, .int .i64 0], .int .i64 (n : Nat), .int .i64 10]) (by simp [results, Tryz.results5, go_sem, z0, z1, z2, z3, z4, z5]) rfl ?_
          exact ReadAnsA.zero HV.out (by repeat (first | refine fr_set ?_ (Nat.le_refl _) _ | refine Below.drew ?_ | exact hbw2))
        | some st2 =>
          have HN := Lib.hid (show runA T 1 ⟨0, noAction⟩ = runA (cut2 S 10) (n + 1) st2 by rw [HRun.out, runA_round hh hln])
          have hroom2 := lineA_room hln hroom (show (cut2 S 10).size + 1 ≤ S.size by omega)
          go_wp2_with fail
          refine (act_lineA B B (cut1 S 10) _ (hE0.below hbel1 hnB) hnB (Nat.le_trans hBW hbel1.size) hat1 (by omega) h6 (hroom.four hT)).mono ?_
          rw [hln]
          rintro e w2 ⟨hb2, rfl, K2, vC2, vV2, vO2, vN2, hat2⟩
          clear hln
          go_wp2
          go_roundw
          case rel => exact ⟨_, n + 1, st2, K2, vC2, vV2, vO2, vN2, rfl, by go_num, hat2, HN.out, hroom2.1, hroom2.2, by omega, hbel1.trans hb2⟩
          case measure => simp only [strOf]; omega
    · have hS0 := size_empty hz
      by_cases hl6 : st.last = 6
      · have hdone : runA T 1 ⟨0, noAction⟩ = .ok st.a := by rw [HRun.out, runA_end hS0, doneA, if_pos hl6]
        have ha6 : atOf st.last = 6 := by rw [hl6]; rfl
        rw [ha6] at c6
        have HF := Lib.hid (show st.a.tool.size ≤ maxLen ∧ InInt st.a.time from ⟨hat.tool, hat.time⟩)
        obtain ⟨A, n', B', m', C, p', D, q', rfl, rfl, rfl, rfl, ⟨s1, s2, s3, s4⟩, hcaps⟩ := hat.rows.sls
        have HC := Lib.hid (act_CheckAction st.a A st.a.commands.length n' B' st.a.vars.length m' C st.a.outputs.length p' D st.a.needs.length q' wr (hE0.toEnv.below hbel hnB) ⟨HF.out.1, s1, s2, s3, s4, HF.out.2⟩)
        unfold actVal at HC
        clear s1 s2 s3 s4
        cases hc : (checkActionS st.a == 0)
        · have hne : checkActionS st.a ≠ 0 := by simpa using hc
          have hbn : (checkActionS st.a != 0) = true := by simpa using hc
          have HV := Lib.hid (HW.out _ hdone hne)
          clear hne hdone
          go_wp2_with fail
          refine HC.out.mono ?_
          rintro e w2 ⟨rfl, hb2⟩
          have hbel2 := fr_call hbw hb2
          obtain ⟨⟨z0, z1, z2, z3, z4, z5⟩, ⟨y0, y1, y2, y3, y4, y5⟩, hzl⟩ := az_cells ((hb2.block _ hzl).trans hres1)
          go_wp2
          (try simp only [Exit.inBlock, Exit.then])
          refine bodyPost_ret (v := .tuple #[.agg #[.string ⟨#[]⟩, .slice none 0 0, .slice none 0 0, .slice none 0 0, .slice none 0 0, .int .i64 0], .int .i64 0, .int .i64 (checkActionS st.a)]) (by simp [results, Tryz.results5, go_sem, z0, z1, z2, z3, z4, z5]) rfl ?_
          exact ReadAnsA.zero HV.out (by repeat (first | refine fr_set ?_ (Nat.le_refl _) _ | refine Below.drew ?_ | exact hbel2))
        · have hz2 : checkActionS st.a = 0 := by simpa using hc
          have hbn : (checkActionS st.a != 0) = false := by simpa using hc
          have HV := Lib.hid (HR.out _ hdone hz2)
          clear hz2 hdone
          go_wp2_with fail
          refine HC.out.mono ?_
          rintro e w2 ⟨rfl, hb2⟩
          have hbel2 := fr_call hbw hb2
          have hzl0 := hzl
          obtain ⟨⟨z0, z1, z2, z3, z4, z5⟩, ⟨y0, y1, y2, y3, y4, y5⟩, hzl⟩ := az_cells ((hb2.block _ hzl).trans hres1)
          obtain ⟨⟨c0, c1, c2, c3, c4, c5, c6⟩, _, hbl⟩ := ab_cells (ab_call hat.blk hb2)
          go_wp2
          (try simp only [Exit.inBlock, Exit.then])
          refine bodyPost_ret (v := .tuple #[.agg #[.string st.a.tool, .slice A st.a.commands.length n', .slice B' st.a.vars.length m', .slice C st.a.outputs.length p', .slice D st.a.needs.length q', .int .i64 st.a.time], .int .i64 0, .int .i64 0]) (by simp [results, Tryz.results5, go_sem, z0, z1, z2, z3, z4, z5]) rfl ?_
          refine read_fullA HV.out (hat.rows.call hb2) (g := w.heap.size) ⟨_, _, (hb2.block _ hzl0).trans hres1⟩ (by simp) (fun k hk => ?_) HF.out (by repeat (first | refine fr_set ?_ (Nat.le_refl _) _ | refine Below.drew ?_ | exact hbel2))
          repeat (refine (heap_setCell_other _ ⟨w.heap.size, _, none⟩ k _ hk).trans ?_)
          rfl
      · have HV := Lib.hid (HB.out n (by rw [HRun.out, runA_end hS0, doneA, if_neg hl6]))
        have ha6 : atOf st.last = (st.last : Int) - 1 := if_neg hl6
        rw [ha6] at c6
        have hn6 : ¬ ((st.last : Int) - 1 = 6) := by omega
        go_wp2
        (try simp only [Exit.inBlock, Exit.then])
        refine bodyPost_ret (v := .tuple #[.agg #[.string ⟨#[]⟩, .slice none 0 0, .slice none 0 0, .slice none 0 0, .slice none 0 0, .int .i64 0], .int .i64 (n : Nat), .int .i64 10]) (by simp [results, Tryz.results5, go_sem, z0, z1, z2, z3, z4, z5]) rfl ?_
        exact ReadAnsA.zero HV.out (by repeat (first | refine fr_set ?_ (Nat.le_refl _) _ | refine Below.drew ?_ | exact hbw))
end Go.Proofs.Sm
