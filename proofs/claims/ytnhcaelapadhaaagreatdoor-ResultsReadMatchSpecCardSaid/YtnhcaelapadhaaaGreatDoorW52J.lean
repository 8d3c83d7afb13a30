/- Walks: the program's reader of a result: a look. -/
import Derived.Test.YtnhcaelapadhaaaGreatDoorW50J
import Derived.Deep.RegionLaw
namespace Go.Proofs.Sm
open Go.RowKit

theorem new_cellsD (w : World) (cs : Array Value) (t : TypeId) : ∀ (j : Nat) u, cs.toList[j]? = some u → (w.alloc (.cells cs t)).drew.cell? ((⟨w.heap.size, 0, none⟩ : Addr).add j) = some u := new_cells w cs t
theorem look_one (x y : ByteArray) (r : Bool) : ∀ u ∈ ([.string x, .string y, .bool r] : List Value), u.oneCell' = true := by
  intro u hu
  simp only [List.mem_cons, List.mem_nil_iff, or_false] at hu
  rcases hu with rfl | rfl | rfl <;> rfl
/-- a look more -/
theorem look_joined {B b q p : Nat} {T t : ByteArray} {c d : Int} {vF vL v' : Value} {fs : List FileV} {ls : List Look} {V W9 w1 : World} {x : Look} {rows : List (List Value)}
    (hw9 : Below V.heap.size V W9) (blk : V.heap[b]? = some (RB T p c t vF vL d)) (hF : RowOwn V B 65 5 vF fs) (hL : RowOwn V B 57 5 vL ls) (hlow : B ≤ b)
    (hrows : rows.length = ls.length) (hown : V.ownsRow B 57 3 vL ls.length rows.flatten) (hrep : ∀ (i : Nat) (x : Look) (r : List Value), ls[i]? = some x → rows[i]? = some r → Rep.rep V (Kind 5 V) x r)
    (hx : x.path.size ≤ maxLen) (hx2 : x.digest.size ≤ maxLen) (hroom : fs.length ≤ q ∧ ls.length + 1 ≤ q ∧ q ≤ T.size)
    (hg : W9.grownBy w1 vL.ownBlock) (hown' : w1.ownsRow B 57 3 v' (ls.length + 1) (rows.flatten ++ [.string x.path, .string x.digest, .bool x.run])) :
    ARd ((w1.setCell ⟨b, 5, none⟩ v').setCell ⟨b, 1, none⟩ (.int .i64 (q : Nat))) B b T c t d ⟨q, fs, ls ++ [x]⟩ vF v' := by
  have hkb : ∀ k, Kind 5 V k → W9.heap[k]? = V.heap[k]? := fun k hk => hw9.block k hk.lt
  have blk1 : w1.heap[b]? = some (RB T p c t vF vL d) := by
    rw [hg.block b (Nat.lt_of_lt_of_le (heap_lt blk) hw9.size) ?_]
    · exact rb_call blk hw9
    · intro e
      have h1 := (hL.kind b e.symm).2
      exact kind_ne h1 ⟨_, _, blk⟩ (by decide) rfl
  have hrow : ∀ g, vL.ownBlock = some g → Kind 57 W9 g := fun g e => ((hL.call hw9).kind g e).2
  have hb1 : Kind 47 w1 b := ⟨_, _, blk1⟩
  have blk2 := rb_looks blk1 v'
  have hb2 : Kind 47 (w1.setCell ⟨b, 5, none⟩ v') b := ⟨_, _, blk2⟩
  refine ⟨rb_at blk2 q rfl, ?_, ?_, hlow, by simp only [List.length_append, List.length_singleton]; exact hroom⟩
  · exact (((hF.call hw9).other hg hrow (by decide) (by decide)).set (t := 47) (p := ⟨b, 5, none⟩) hb1 (by decide) (by decide) v').set (t := 47) (p := ⟨b, 1, none⟩) hb2 (by decide) (by decide) _
  · refine RowOwn.set (t := 47) (p := ⟨b, 1, none⟩) (RowOwn.set (t := 47) (p := ⟨b, 5, none⟩) ?_ hb1 (by decide) (by decide) v') hb2 (by decide) (by decide) _
    exact RowOwn.append (w := W9) (rows := rows) hrows (ownsRow_keep hown (fun g e => hw9.block g (hL.kind g e).2.lt)) (fun i y r hy hr => Rep.more (Kind.of_keep hkb) (Rep.keep hkb (hrep i y r hy hr))) ⟨rfl, hx, hx2⟩ (by decide) hg hown'
set_option maxHeartbeats 2000000 in
set_option maxRecDepth 100000 in
theorem act_look (T : ByteArray) (B b : Nat) (w : World) {c d : Int} {t : ByteArray} {vF vL : Value} {st : RSt} (hE : Env w) (hBw : B ≤ w.heap.size) (h : ARd w B b T c t d st vF vL) (hT : T.size ≤ 4000000) :
    Calls Tryz.prog 44 #[.pointer (some ⟨b, 0, none⟩)] w fun e w' => StepAns B b T c t d (lookStep T st) w e w' := by
  obtain ⟨i0, hi0, hz0, hz1, hz2⟩ := info_parts look_info
  generalize hR : lookStep T st = R
  have HL1 := Lib.hid (act_lineR T b st.pos 4 ⟨#[108, 111, 111, 107]⟩ lookW rfl w hE h.blk h.room.2.2 hT (by decide))
  cases hl : lineIs T st.pos lookW 4 with
  | none =>
    rw [hl] at HL1
    have HV := Lib.hid (show R = .error st.pos by rw [← hR, lookStep, hl])
    clear hR
    go_enter Tryz.func44, Tryz.ntmps44
    go_wp2_with fail
    refine HL1.out.mono ?_
    rintro e w1 ⟨hb1, rfl⟩
    go_wp2
    go_ret
    exact StepAns.bad HV.out (hb1.mono hBw) (h.call hb1).blk
  | some r =>
    obtain ⟨ws, q⟩ := r
    obtain ⟨_, hrow, _, hlen⟩ := lineIs_some hl
    obtain ⟨hq0, hqT⟩ := row_place hrow
    obtain ⟨x, y, z, rfl⟩ := list_three hlen
    rw [hl] at HL1
    clear hrow hlen
    have hroom := h.room
    cases hn1 : isRunS z
    · have HV := Lib.hid (show R = .error st.pos by rw [← hR, lookStep, hl]; simp [hn1])
      clear hR hl
      go_enter Tryz.func44, Tryz.ntmps44
      go_wp2_with fail
      refine HL1.out.mono ?_
      rintro e w1 ⟨hb1, A, cc, rfl, hc1, hc2, hsl⟩
      obtain ⟨g, o, rfl, ⟨hg1, hg2⟩, ⟨hxs, hys, hzs⟩, y0, y1, y2⟩ := sl_three hsl
      have h1 := h.call hb1
      have hgb : g ≠ b := by have := heap_lt h.blk; omega
      clear hsl hc1 hc2
      go_wp2_with fail
      refine ((Lib.hid (act_isRun z _)).out).mono ?_
      rw [hn1]
      rintro e w2 ⟨rfl, rfl⟩
      go_wp2
      go_ret
      exact StepAns.bad HV.out (hb1.mono hBw) h1.blk
    have HV := Lib.hid (show R = .ok ⟨q, st.files, st.looks ++ [⟨x, undash y, isX z⟩]⟩ by rw [← hR, lookStep, hl]; simp [hn1])
    have hXe : (z.toList == [120]) = isX z := by rw [isX, Lib.toList_data]
    generalize isX z = X at hXe HV
    clear hR hl
    cases hd : (y.toList == [45])
    · have HU := Lib.hid (show undash y = y by rw [undash, ← Lib.toList_data, hd]; rfl)
      go_enter Tryz.func44, Tryz.ntmps44
      go_wp2_with fail
      refine HL1.out.mono ?_
      rintro e w1 ⟨hb1, A, cc, rfl, hc1, hc2, hsl⟩
      obtain ⟨g, o, rfl, ⟨hg1, hg2⟩, ⟨hxs, hys, hzs⟩, y0, y1, y2⟩ := sl_three hsl
      have h1 := h.call hb1
      have hgb : g ≠ b := by have := heap_lt h.blk; omega
      clear hsl hc1 hc2
      go_wp2_with fail
      refine ((Lib.hid (act_isRun z _)).out).mono ?_
      rw [hn1]
      rintro e w2 ⟨rfl, rfl⟩
      go_wp2
      have HK := Lib.hid (show ∀ w' : World, w'.heap[g]? = w1.heap[g]? → (w'.heap[g]? = w1.heap[g]? ∧ w'.cell? ⟨g, o, none⟩ = some (.string x) ∧ w'.cell? ⟨g, o + 1, none⟩ = some (.string y) ∧ w'.cell? ⟨g, o + 2, none⟩ = some (.string z)) from fun w' hw =>
        ⟨hw, (World.cell?_of_block (a := ⟨g, o, none⟩) hw).trans y0, (World.cell?_of_block (a := ⟨g, o + 1, none⟩) hw).trans y1, (World.cell?_of_block (a := ⟨g, o + 2, none⟩) hw).trans y2⟩)
      have HA := Lib.hid (fun o => show (w1.drew.alloc o).heap[g]? = w1.heap[g]? from (fr_alloc (fr_refl w1.drew) o).block g hg2)
      have hgn : g ≠ w1.heap.size := by omega
      go_region_held3 (fun w' => w'.heap[g]? = w1.heap[g]? ∧ w'.cell? ⟨g, o, none⟩ = some (.string x) ∧ w'.cell? ⟨g, o + 1, none⟩ = some (.string y) ∧ w'.cell? ⟨g, o + 2, none⟩ = some (.string z))
        (first | assumption | exact HK.out _ rfl | exact HK.out _ (HA.out _) | exact HK.out _ ((heap_setCell_other _ _ g _ hgn).trans (And.left (by assumption))))
        (fail)
      clear hgn HA HK
      go_wp2
      generalize hV : (w1.alloc (.cells #[.string x, .string y, .bool X] 57)).drew = V
      have q1 : ∃ u : ByteArray, u = undash y ∧ u.size ≤ maxLen ∧ V.heap[w1.heap.size]? = some (.cells #[.string x, .string u, .bool X] 57 (0, 0)) := ⟨y, HU.out.symm, hys, by rw [← hV]; exact heap_alloc_new w1 _⟩
      have q2 : Below w1.heap.size w1 V := by rw [← hV]; exact (fr_alloc (fr_refl w1) _).drew
      clear hV
      obtain ⟨u, hu, hus, q1⟩ := q1
      have h2 := h1.call q2
      have m0 : V.cell? ⟨w1.heap.size, 0, none⟩ = some (.string x) := by rw [Lib.cell_of_heap q1]; rfl
      have m1 : V.cell? ⟨w1.heap.size, 1, none⟩ = some (.string u) := by rw [Lib.cell_of_heap q1]; rfl
      have m2 : V.cell? ⟨w1.heap.size, 2, none⟩ = some (.bool X) := by rw [Lib.cell_of_heap q1]; rfl
      have hsV := heap_lt q1
      obtain ⟨⟨_, _, _, _, _, k5, _⟩, ⟨f1, _, _, _, f5, _⟩, hblV⟩ := rb_cells h2.blk
      have hL2 := h2.looks
      obtain ⟨rows, hrows, hownV, hrepV⟩ := hL2
      have hVB : Below B w V := (hb1.trans (q2.mono hb1.size)).mono hBw
      have H9 := Lib.hid (fun o => show ((V.alloc o).drew).ownsRow B 57 3 vL st.looks.length rows.flatten from hownV.alloc o)
      have H63 := Lib.hid (show st.looks.length + 1 ≤ maxLen by unfold maxLen; omega)
      have H48 := Lib.hid (show (st.looks.length + 1) * 40 ≤ 140737488355328 by omega)
      have HW9 := Lib.hid (fun o => show Below V.heap.size V (V.alloc o).drew from (fr_alloc (fr_refl V) o).drew)
      have HB9 := Lib.hid (fun o => show B ≤ (V.alloc o).drew.heap.size from Nat.le_trans hBw (Nat.le_trans hVB.size (HW9.out o).size))
      have HFB := Lib.hid (fun e : some b = vL.ownBlock => kind_ne (h2.looks.kind b e.symm).2 ⟨_, _, h2.blk⟩ (by decide) rfl)
      have HBk := Lib.hid (fun k e => (h2.looks.kind k e).1)
      have HV2 := Lib.hid (show R = .ok ⟨q, st.files, st.looks ++ [⟨x, u, X⟩]⟩ by rw [hu]; exact HV.out)
      have HJ := Lib.hid (fun o w1 v' hg hown' => look_joined (x := ⟨x, u, X⟩) (HW9.out o) h2.blk h2.files h2.looks h2.low hrows hownV hrepV hxs hus ⟨by omega, by omega, hqT⟩ (w1 := w1) (v' := v') hg hown' (q := q))
      have HEnd := Lib.hid (fun (o : Obj) (w1 : World) (v' : Value) (hg : (V.alloc o).drew.grownBy w1 vL.ownBlock) (hown' : w1.ownsRow B 57 3 v' (st.looks.length + 1) (rows.flatten ++ [.string x, .string u, .bool X])) =>
        show StepAns B b T c t d R w (.returned (.bool true)) ((w1.setCell ⟨b, 5, none⟩ v').setCell ⟨b, 1, none⟩ (.int .i64 (q : Nat))) from
          StepAns.good HV2.out ((((hVB.trans ((HW9.out o).mono (Nat.le_trans hBw hVB.size))).grown hg (HB9.out o) HBk.out).setCell (p := ⟨b, 5, none⟩) h2.low v').setCell (p := ⟨b, 1, none⟩) h2.low _) (HJ.out o w1 v' hg hown'))
      have HB8 := Lib.hid (fun o w9 (hg : (V.alloc o).drew.grownBy w9 vL.ownBlock) => (hg.block b (Nat.lt_of_lt_of_le hblV (HW9.out o).size) HFB.out).trans (rb_call h2.blk (HW9.out o)))
      clear h1 h2 hownV hrepV hVB q1 q2 y0 y1 y2 hgb hu
      go_region_law (first
        | (refine step_append_lies _ rfl _ _ 23 rfl B 57 i0 _ 3 40 Tryz.underlying23 hi0 hz0 hz1 hz2 rfl (by decide) _ st.looks.length _ rfl (H9.out _) ⟨V.heap.size, 0, none⟩ 1 1 [.string x, .string u, .bool X] rfl rfl (new_cellsD V #[_, _, _] _) (look_one _ _ _) (by decide) H63.out H48.out (HB9.out _) _ rfl ?_
           intro g' cap w9 hown' hgrow hat hlt'
           obtain ⟨⟨_, kk1, _, _, _, kk5, _⟩, ⟨ff1, _, _, _, ff5, _⟩, hbl9⟩ := rb_cells (HB8.out _ w9 hgrow)))
      all_goals
        go_wp2
        go_ret
        exact HEnd.out _ _ _ hgrow hown'
    · have HU := Lib.hid (show undash y = ⟨#[]⟩ by rw [undash, ← Lib.toList_data, hd]; rfl)
      go_enter Tryz.func44, Tryz.ntmps44
      go_wp2_with fail
      refine HL1.out.mono ?_
      rintro e w1 ⟨hb1, A, cc, rfl, hc1, hc2, hsl⟩
      obtain ⟨g, o, rfl, ⟨hg1, hg2⟩, ⟨hxs, hys, hzs⟩, y0, y1, y2⟩ := sl_three hsl
      have h1 := h.call hb1
      have hgb : g ≠ b := by have := heap_lt h.blk; omega
      clear hsl hc1 hc2
      go_wp2_with fail
      refine ((Lib.hid (act_isRun z _)).out).mono ?_
      rw [hn1]
      rintro e w2 ⟨rfl, rfl⟩
      go_wp2
      have HK := Lib.hid (show ∀ w' : World, w'.heap[g]? = w1.heap[g]? → (w'.heap[g]? = w1.heap[g]? ∧ w'.cell? ⟨g, o, none⟩ = some (.string x) ∧ w'.cell? ⟨g, o + 1, none⟩ = some (.string y) ∧ w'.cell? ⟨g, o + 2, none⟩ = some (.string z)) from fun w' hw =>
        ⟨hw, (World.cell?_of_block (a := ⟨g, o, none⟩) hw).trans y0, (World.cell?_of_block (a := ⟨g, o + 1, none⟩) hw).trans y1, (World.cell?_of_block (a := ⟨g, o + 2, none⟩) hw).trans y2⟩)
      have HA := Lib.hid (fun o => show (w1.drew.alloc o).heap[g]? = w1.heap[g]? from (fr_alloc (fr_refl w1.drew) o).block g hg2)
      have hgn : g ≠ w1.heap.size := by omega
      go_region_held3 (fun w' => w'.heap[g]? = w1.heap[g]? ∧ w'.cell? ⟨g, o, none⟩ = some (.string x) ∧ w'.cell? ⟨g, o + 1, none⟩ = some (.string y) ∧ w'.cell? ⟨g, o + 2, none⟩ = some (.string z))
        (first | assumption | exact HK.out _ rfl | exact HK.out _ (HA.out _) | exact HK.out _ ((heap_setCell_other _ _ g _ hgn).trans (And.left (by assumption))))
        (fail)
      clear hgn HA HK
      go_wp2
      generalize hV : (w1.alloc (.cells #[.string x, .string ⟨#[]⟩, .bool X] 57)).drew = V
      have q1 : ∃ u : ByteArray, u = undash y ∧ u.size ≤ maxLen ∧ V.heap[w1.heap.size]? = some (.cells #[.string x, .string u, .bool X] 57 (0, 0)) := ⟨⟨#[]⟩, HU.out.symm, by decide, by rw [← hV]; exact heap_alloc_new w1 _⟩
      have q2 : Below w1.heap.size w1 V := by rw [← hV]; exact (fr_alloc (fr_refl w1) _).drew
      clear hV
      obtain ⟨u, hu, hus, q1⟩ := q1
      have h2 := h1.call q2
      have m0 : V.cell? ⟨w1.heap.size, 0, none⟩ = some (.string x) := by rw [Lib.cell_of_heap q1]; rfl
      have m1 : V.cell? ⟨w1.heap.size, 1, none⟩ = some (.string u) := by rw [Lib.cell_of_heap q1]; rfl
      have m2 : V.cell? ⟨w1.heap.size, 2, none⟩ = some (.bool X) := by rw [Lib.cell_of_heap q1]; rfl
      have hsV := heap_lt q1
      obtain ⟨⟨_, _, _, _, _, k5, _⟩, ⟨f1, _, _, _, f5, _⟩, hblV⟩ := rb_cells h2.blk
      have hL2 := h2.looks
      obtain ⟨rows, hrows, hownV, hrepV⟩ := hL2
      have hVB : Below B w V := (hb1.trans (q2.mono hb1.size)).mono hBw
      have H9 := Lib.hid (fun o => show ((V.alloc o).drew).ownsRow B 57 3 vL st.looks.length rows.flatten from hownV.alloc o)
      have H63 := Lib.hid (show st.looks.length + 1 ≤ maxLen by unfold maxLen; omega)
      have H48 := Lib.hid (show (st.looks.length + 1) * 40 ≤ 140737488355328 by omega)
      have HW9 := Lib.hid (fun o => show Below V.heap.size V (V.alloc o).drew from (fr_alloc (fr_refl V) o).drew)
      have HB9 := Lib.hid (fun o => show B ≤ (V.alloc o).drew.heap.size from Nat.le_trans hBw (Nat.le_trans hVB.size (HW9.out o).size))
      have HFB := Lib.hid (fun e : some b = vL.ownBlock => kind_ne (h2.looks.kind b e.symm).2 ⟨_, _, h2.blk⟩ (by decide) rfl)
      have HBk := Lib.hid (fun k e => (h2.looks.kind k e).1)
      have HV2 := Lib.hid (show R = .ok ⟨q, st.files, st.looks ++ [⟨x, u, X⟩]⟩ by rw [hu]; exact HV.out)
      have HJ := Lib.hid (fun o w1 v' hg hown' => look_joined (x := ⟨x, u, X⟩) (HW9.out o) h2.blk h2.files h2.looks h2.low hrows hownV hrepV hxs hus ⟨by omega, by omega, hqT⟩ (w1 := w1) (v' := v') hg hown' (q := q))
      have HEnd := Lib.hid (fun (o : Obj) (w1 : World) (v' : Value) (hg : (V.alloc o).drew.grownBy w1 vL.ownBlock) (hown' : w1.ownsRow B 57 3 v' (st.looks.length + 1) (rows.flatten ++ [.string x, .string u, .bool X])) =>
        show StepAns B b T c t d R w (.returned (.bool true)) ((w1.setCell ⟨b, 5, none⟩ v').setCell ⟨b, 1, none⟩ (.int .i64 (q : Nat))) from
          StepAns.good HV2.out ((((hVB.trans ((HW9.out o).mono (Nat.le_trans hBw hVB.size))).grown hg (HB9.out o) HBk.out).setCell (p := ⟨b, 5, none⟩) h2.low v').setCell (p := ⟨b, 1, none⟩) h2.low _) (HJ.out o w1 v' hg hown'))
      have HB8 := Lib.hid (fun o w9 (hg : (V.alloc o).drew.grownBy w9 vL.ownBlock) => (hg.block b (Nat.lt_of_lt_of_le hblV (HW9.out o).size) HFB.out).trans (rb_call h2.blk (HW9.out o)))
      clear h1 h2 hownV hrepV hVB q1 q2 y0 y1 y2 hgb hu
      go_region_law (first
        | (refine step_append_lies _ rfl _ _ 23 rfl B 57 i0 _ 3 40 Tryz.underlying23 hi0 hz0 hz1 hz2 rfl (by decide) _ st.looks.length _ rfl (H9.out _) ⟨V.heap.size, 0, none⟩ 1 1 [.string x, .string u, .bool X] rfl rfl (new_cellsD V #[_, _, _] _) (look_one _ _ _) (by decide) H63.out H48.out (HB9.out _) _ rfl ?_
           intro g' cap w9 hown' hgrow hat hlt'
           obtain ⟨⟨_, kk1, _, _, _, kk5, _⟩, ⟨ff1, _, _, _, ff5, _⟩, hbl9⟩ := rb_cells (HB8.out _ w9 hgrow)))
      all_goals
        go_wp2
        go_ret
        exact HEnd.out _ _ _ hgrow hown'
end Go.Proofs.Sm
