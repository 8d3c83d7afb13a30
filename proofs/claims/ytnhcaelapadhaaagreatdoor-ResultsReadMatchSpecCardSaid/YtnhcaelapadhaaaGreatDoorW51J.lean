/- Walks: the program's reader of a result: a file. -/
import Derived.Test.YtnhcaelapadhaaaGreatDoorW50J
import Derived.Deep.RegionLaw
namespace Go.Proofs.Sm
open Go.RowKit

theorem act_bytes2 (T : ByteArray) (b q m : Nat) (s : ByteArray) (w : World) {p : Nat} {c d : Int} {t : ByteArray} {vF vL : Value} (blk : w.heap[b]? = some (RB T p c t vF vL d)) (hT : T.size ≤ 4000000) (hq : q ≤ T.size) (hs : isNumberS s 9 = true) (hm : m = q + numS s) :
    Calls Tryz.prog 78 #[.pointer (some ⟨b, 0, none⟩), .int .i64 (q : Nat), .string s] w fun e w' =>
      (T.size < m → e = .returned (.tuple #[.string ⟨#[]⟩, .bool false]) ∧ w'.heap[b]? = some (RB T T.size c t vF vL d)) ∧
      (¬ T.size < m → e = .returned (.tuple #[.string (T.extract q m), .bool true]) ∧ w'.heap[b]? = some (RB T m c t vF vL d)) ∧ w.grownBy w' (some b) := by
  subst hm
  exact act_bytes T b q s w blk hT hq hs

set_option maxHeartbeats 2000000 in
set_option maxRecDepth 100000 in
theorem act_file (T : ByteArray) (B b : Nat) (w : World) {c d : Int} {t : ByteArray} {vF vL : Value} {st : RSt} (hE : Env w) (hBw : B ≤ w.heap.size) (h : ARd w B b T c t d st vF vL) (hT : T.size ≤ 4000000) :
    Calls Tryz.prog 43 #[.pointer (some ⟨b, 0, none⟩)] w fun e w' => StepAns B b T c t d (fileStep T st) w e w' := by
  obtain ⟨i0, hi0, hz0, hz1, hz2⟩ := info_parts file_info
  generalize hR : fileStep T st = R
  have HL1 := Lib.hid (act_lineR T b st.pos 4 ⟨#[102, 105, 108, 101]⟩ fileW rfl w hE h.blk h.room.2.2 hT (by decide))
  cases hl : lineIs T st.pos fileW 4 with
  | none =>
    rw [hl] at HL1
    have HV := Lib.hid (show R = .error st.pos by rw [← hR, fileStep, hl])
    clear hR
    go_enter Tryz.func43, Tryz.ntmps43
    go_wp2_with fail
    refine HL1.out.mono ?_
    rintro e w1 ⟨hb1, rfl⟩
    go_wp2
    go_ret
    exact StepAns.bad HV.out (hb1.mono hBw) (h.call hb1).blk
  | some r =>
    obtain ⟨ws, q⟩ := r
    obtain ⟨_, hrow, _, hlen⟩ := lineIs_some hl
    obtain ⟨hq0, hqT⟩ := row_place hrow
    obtain ⟨x, y, z, rfl⟩ := list_three hlen
    rw [hl] at HL1
    clear hrow hlen
    have hroom := h.room
    cases hn1 : isRunS y
    · have HV := Lib.hid (show R = .error st.pos by rw [← hR, fileStep, hl]; simp [hn1])
      clear hR hl
      go_enter Tryz.func43, Tryz.ntmps43
      go_wp2_with fail
      refine HL1.out.mono ?_
      rintro e w1 ⟨hb1, A, cc, rfl, hc1, hc2, hsl⟩
      obtain ⟨g, o, rfl, ⟨hg1, hg2⟩, ⟨hxs, hys, hzs⟩, y0, y1, y2⟩ := sl_three hsl
      have h1 := h.call hb1
      have hgb : g ≠ b := by have := heap_lt h.blk; omega
      clear hsl hc1 hc2
      go_wp2_with fail
      refine ((Lib.hid (act_isRun y _)).out).mono ?_
      rw [hn1]
      rintro e w2 ⟨rfl, rfl⟩
      go_wp2
      go_ret
      exact StepAns.bad HV.out (hb1.mono hBw) h1.blk
    cases hn2 : isNumberS z 9
    · have HV := Lib.hid (show R = .error st.pos by rw [← hR, fileStep, hl]; simp [hn2])
      clear hR hl
      go_enter Tryz.func43, Tryz.ntmps43
      go_wp2_with fail
      refine HL1.out.mono ?_
      rintro e w1 ⟨hb1, A, cc, rfl, hc1, hc2, hsl⟩
      obtain ⟨g, o, rfl, ⟨hg1, hg2⟩, ⟨hxs, hys, hzs⟩, y0, y1, y2⟩ := sl_three hsl
      have h1 := h.call hb1
      have hgb : g ≠ b := by have := heap_lt h.blk; omega
      clear hsl hc1 hc2
      go_wp2_with fail
      refine ((Lib.hid (act_isRun y _)).out).mono ?_
      rw [hn1]
      rintro e w2 ⟨rfl, rfl⟩
      go_wp2_with fail
      refine ((Lib.hid (act_isNumber z 9 _ hzs)).out).mono ?_
      rw [hn2]
      rintro e w3 ⟨rfl, hb3⟩
      have h3 := h1.call hb3
      have hg3 := Nat.lt_of_lt_of_le hg2 hb3.size
      have x0 := (hb3.cell (p := ⟨g, o, none⟩) hg2).trans y0
      have x1 := (hb3.cell (p := ⟨g, o + 1, none⟩) hg2).trans y1
      have x2 := (hb3.cell (p := ⟨g, o + 2, none⟩) hg2).trans y2
      have hbel3 : Below B w w3 := (hb1.trans (hb3.mono hb1.size)).mono hBw
      clear y0 y1 y2
      go_wp2
      go_ret
      exact StepAns.bad HV.out hbel3 h3.blk
    have hR2 : R = fileBody T st x y (numS z) q := by rw [← hR, fileStep, hl]; simp [hn1, hn2]
    clear hR hl
    rw [fileBody] at hR2
    obtain ⟨m, hm⟩ : ∃ m, m = q + numS z := ⟨_, rfl⟩
    rw [← hm] at hR2
    have HM := Lib.hid hm; clear hm
    by_cases hlt : T.size < m
    · have HV := Lib.hid (show R = .error T.size by rw [hR2, if_pos hlt])
      clear hR2
      go_enter Tryz.func43, Tryz.ntmps43
      go_wp2_with fail
      refine HL1.out.mono ?_
      rintro e w1 ⟨hb1, A, cc, rfl, hc1, hc2, hsl⟩
      obtain ⟨g, o, rfl, ⟨hg1, hg2⟩, ⟨hxs, hys, hzs⟩, y0, y1, y2⟩ := sl_three hsl
      have h1 := h.call hb1
      have hgb : g ≠ b := by have := heap_lt h.blk; omega
      clear hsl hc1 hc2
      go_wp2_with fail
      refine ((Lib.hid (act_isRun y _)).out).mono ?_
      rw [hn1]
      rintro e w2 ⟨rfl, rfl⟩
      go_wp2_with fail
      refine ((Lib.hid (act_isNumber z 9 _ hzs)).out).mono ?_
      rw [hn2]
      rintro e w3 ⟨rfl, hb3⟩
      have h3 := h1.call hb3
      have hg3 := Nat.lt_of_lt_of_le hg2 hb3.size
      have x0 := (hb3.cell (p := ⟨g, o, none⟩) hg2).trans y0
      have x1 := (hb3.cell (p := ⟨g, o + 1, none⟩) hg2).trans y1
      have x2 := (hb3.cell (p := ⟨g, o + 2, none⟩) hg2).trans y2
      have hbel3 : Below B w w3 := (hb1.trans (hb3.mono hb1.size)).mono hBw
      clear y0 y1 y2
      go_wp2_with fail
      refine (act_bytes2 T b q m z _ h3.blk hT hqT hn2 HM.out).mono ?_
      rintro e w4 ⟨ha, _, hgr⟩
      obtain ⟨rfl, blk4⟩ := ha hlt
      obtain ⟨⟨k0, k1, _, _, _, _, _⟩, _, hbl4⟩ := rb_cells blk4
      clear ha
      go_wp2
      go_quiet (fail)
      go_wp2
      go_ret
      exact StepAns.bad HV.out (below_drewN (gb_base hBw hbel3 hgr h.low) _) blk4
    · rw [if_neg hlt] at hR2
      by_cases heq : m = T.size
      · have HV := Lib.hid (show R = .error m by
          rw [hR2, if_neg]
          have e0 : T.data.toList.length = T.size := by simp
          rw [List.getElem?_eq_none (by omega)]
          simp)
        clear hR2
        go_enter Tryz.func43, Tryz.ntmps43
        go_wp2_with fail
        refine HL1.out.mono ?_
        rintro e w1 ⟨hb1, A, cc, rfl, hc1, hc2, hsl⟩
        obtain ⟨g, o, rfl, ⟨hg1, hg2⟩, ⟨hxs, hys, hzs⟩, y0, y1, y2⟩ := sl_three hsl
        have h1 := h.call hb1
        have hgb : g ≠ b := by have := heap_lt h.blk; omega
        clear hsl hc1 hc2
        go_wp2_with fail
        refine ((Lib.hid (act_isRun y _)).out).mono ?_
        rw [hn1]
        rintro e w2 ⟨rfl, rfl⟩
        go_wp2_with fail
        refine ((Lib.hid (act_isNumber z 9 _ hzs)).out).mono ?_
        rw [hn2]
        rintro e w3 ⟨rfl, hb3⟩
        have h3 := h1.call hb3
        have hg3 := Nat.lt_of_lt_of_le hg2 hb3.size
        have x0 := (hb3.cell (p := ⟨g, o, none⟩) hg2).trans y0
        have x1 := (hb3.cell (p := ⟨g, o + 1, none⟩) hg2).trans y1
        have x2 := (hb3.cell (p := ⟨g, o + 2, none⟩) hg2).trans y2
        have hbel3 : Below B w w3 := (hb1.trans (hb3.mono hb1.size)).mono hBw
        clear y0 y1 y2
        go_wp2_with fail
        refine (act_bytes2 T b q m z _ h3.blk hT hqT hn2 HM.out).mono ?_
        rintro e w4 ⟨_, ha, hgr⟩
        obtain ⟨rfl, blk4⟩ := ha hlt
        obtain ⟨⟨k0, k1, _, _, _, _, _⟩, _, hbl4⟩ := rb_cells blk4
        clear ha
        have heq2 : (m : Int) = (T.size : Int) := by omega
        go_wp2
        go_quiet (fail)
        go_wp2
        go_ret
        exact StepAns.bad HV.out (below_drewN (gb_base hBw hbel3 hgr h.low) _) blk4
      · have hmT : m < T.size := by omega
        have hb10 := byte_at T m hmT
        have heq2 : ((m : Int) == (T.size : Int)) = false := by rw [beq_eq_false_iff_ne]; omega
        have hmI : (m : Int) < (T.size : Int) := by omega
        cases h10 : ((T[m].toNat : Int) == 10)
        · have h10b : ((T[m].toNat : Int) != 10) = true := by rw [bne, h10]; rfl
          have HV := Lib.hid (show R = .error m by
            rw [hR2, if_neg]
            rw [hb10]
            intro e
            rw [Option.some.inj e] at h10
            revert h10; decide)
          clear hR2 hb10
          go_enter Tryz.func43, Tryz.ntmps43
          go_wp2_with fail
          refine HL1.out.mono ?_
          rintro e w1 ⟨hb1, A, cc, rfl, hc1, hc2, hsl⟩
          obtain ⟨g, o, rfl, ⟨hg1, hg2⟩, ⟨hxs, hys, hzs⟩, y0, y1, y2⟩ := sl_three hsl
          have h1 := h.call hb1
          have hgb : g ≠ b := by have := heap_lt h.blk; omega
          clear hsl hc1 hc2
          go_wp2_with fail
          refine ((Lib.hid (act_isRun y _)).out).mono ?_
          rw [hn1]
          rintro e w2 ⟨rfl, rfl⟩
          go_wp2_with fail
          refine ((Lib.hid (act_isNumber z 9 _ hzs)).out).mono ?_
          rw [hn2]
          rintro e w3 ⟨rfl, hb3⟩
          have h3 := h1.call hb3
          have hg3 := Nat.lt_of_lt_of_le hg2 hb3.size
          have x0 := (hb3.cell (p := ⟨g, o, none⟩) hg2).trans y0
          have x1 := (hb3.cell (p := ⟨g, o + 1, none⟩) hg2).trans y1
          have x2 := (hb3.cell (p := ⟨g, o + 2, none⟩) hg2).trans y2
          have hbel3 : Below B w w3 := (hb1.trans (hb3.mono hb1.size)).mono hBw
          clear y0 y1 y2
          go_wp2_with fail
          refine (act_bytes2 T b q m z _ h3.blk hT hqT hn2 HM.out).mono ?_
          rintro e w4 ⟨_, ha, hgr⟩
          obtain ⟨rfl, blk4⟩ := ha hlt
          obtain ⟨⟨k0, k1, _, _, _, _, _⟩, _, hbl4⟩ := rb_cells blk4
          clear ha
          go_wp2
          go_quiet (fail)
          go_wp2
          go_ret
          exact StepAns.bad HV.out (below_drewN (gb_base hBw hbel3 hgr h.low) _) blk4
        · have h10b : ((T[m].toNat : Int) != 10) = false := by rw [bne, h10]; rfl
          have HV := Lib.hid (show R = .ok ⟨m + 1, st.files ++ [⟨x, isX y, (T.data.toList.drop q).take (numS z)⟩], st.looks⟩ by
            rw [hR2, if_pos]
            rw [hb10]
            congr 1
            apply UInt8.toNat_inj.1
            rw [beq_iff_eq] at h10
            have : (10 : UInt8).toNat = 10 := rfl
            omega)
          have hXe : (y.toList == [120]) = isX y := by rw [isX, Lib.toList_data]
          have hext : (T.extract q m).data.toList = (T.data.toList.drop q).take (numS z) := by
            rw [Lib.extract_data, show m - q = numS z by have := HM.out; omega]
          have hexs : (T.extract q m).size ≤ maxLen := by rw [ByteArray.size_extract]; unfold maxLen; omega
          have HX := Lib.hid hext; clear hext
          generalize isX y = X at hXe HV
          clear hR2 hb10
          generalize hS : T.extract q m = S at HX hexs
          have g1 := IntWalk.i64_in ((m : Int) + 1) ⟨by omega, by omega⟩
          go_enter Tryz.func43, Tryz.ntmps43
          go_wp2_with fail
          refine HL1.out.mono ?_
          rintro e w1 ⟨hb1, A, cc, rfl, hc1, hc2, hsl⟩
          obtain ⟨g, o, rfl, ⟨hg1, hg2⟩, ⟨hxs, hys, hzs⟩, y0, y1, y2⟩ := sl_three hsl
          have h1 := h.call hb1
          have hgb : g ≠ b := by have := heap_lt h.blk; omega
          clear hsl hc1 hc2
          go_wp2_with fail
          refine ((Lib.hid (act_isRun y _)).out).mono ?_
          rw [hn1]
          rintro e w2 ⟨rfl, rfl⟩
          go_wp2_with fail
          refine ((Lib.hid (act_isNumber z 9 _ hzs)).out).mono ?_
          rw [hn2]
          rintro e w3 ⟨rfl, hb3⟩
          have h3 := h1.call hb3
          have hg3 := Nat.lt_of_lt_of_le hg2 hb3.size
          have x0 := (hb3.cell (p := ⟨g, o, none⟩) hg2).trans y0
          have x1 := (hb3.cell (p := ⟨g, o + 1, none⟩) hg2).trans y1
          have x2 := (hb3.cell (p := ⟨g, o + 2, none⟩) hg2).trans y2
          have hbel3 : Below B w w3 := (hb1.trans (hb3.mono hb1.size)).mono hBw
          clear y0 y1 y2
          go_wp2_with fail
          refine (act_bytes2 T b q m z _ h3.blk hT hqT hn2 HM.out).mono ?_
          rintro e w4 ⟨_, ha, hgr⟩
          obtain ⟨rfl, blk4⟩ := ha hlt
          rw [hS]
          obtain ⟨⟨k0, k1, _, _, _, _, _⟩, ⟨f1, _, _, _, _, _⟩, hbl4⟩ := rb_cells blk4
          clear ha
          go_wp2
          go_quiet (fail)
          go_wp2
          generalize hV : (w4.drewN nq).setCell ⟨b, 1, none⟩ (.int .i64 ((m : Int) + 1)) = V
          have hgb3 := heap_lt h3.blk
          have hV3 : ∀ k, k < w3.heap.size → k ≠ b → V.heap[k]? = w3.heap[k]? := fun k hk hkb => by
            rw [← hV]
            exact (heap_setCell_other (w4.drewN nq) ⟨b, 1, none⟩ k _ hkb).trans (hgr.block k hk (fun e => hkb (Option.some.inj e)))
          have blkV : V.heap[b]? = some (RB T (m + 1) c t vF vL d) := by
            rw [← hV]
            exact rb_at (w := w4.drewN nq) blk4 (m + 1) (by omega)
          have hVs : w3.heap.size ≤ V.heap.size := by
            rw [← hV]
            simpa using hgr.size
          have hVB : Below B w V := by
            rw [← hV]
            exact (below_drewN (gb_base hBw hbel3 hgr h.low) _).setCell (p := ⟨b, 1, none⟩) h.low _
          have hbk : Kind 47 w3 b := ⟨_, _, h3.blk⟩
          have hFV : RowOwn V B 65 5 vF st.files := h3.files.keep (fun k hk => hV3 k hk.lt (kind_ne hk hbk (by decide))) (fun k hk => hV3 k (h3.files.kind k hk).2.lt (kind_ne (h3.files.kind k hk).2 hbk (by decide)))
          have hLV : RowOwn V B 57 5 vL st.looks := h3.looks.keep (fun k hk => hV3 k hk.lt (kind_ne hk hbk (by decide))) (fun k hk => hV3 k (h3.looks.kind k hk).2.lt (kind_ne (h3.looks.kind k hk).2 hbk (by decide)))
          have hgV : g < V.heap.size := Nat.lt_of_lt_of_le hg3 hVs
          have v0 : V.cell? ⟨g, o, none⟩ = some (.string x) := (World.cell?_of_block (a := ⟨g, o, none⟩) (hV3 g hg3 hgb)).trans x0
          have v1 : V.cell? ⟨g, o + 1, none⟩ = some (.string y) := (World.cell?_of_block (a := ⟨g, o + 1, none⟩) (hV3 g hg3 hgb)).trans x1
          have hFg : some g ≠ vF.ownBlock := fun e => by
            have := (h.files.kind g e.symm).2.lt
            omega
          clear hV k0 k1 f1 x0 x1 x2 hgr blk4 hV3 hbl4
          obtain ⟨w8, c8, hcv0, hnk, hk8, hb8, hsl8⟩ := to_bytesK S hexs V.drew
          have hcv : (convert 9 63 (.string S)).run Tryz.prog V.drew = .ok (.slice (some ⟨V.heap.size, 0, none⟩) S.size c8) w8 := hcv0
          have hb8' : Below V.heap.size V w8 := of_drew hb8
          clear hcv0 hb8
          have blk8 := rb_call blkV hb8'
          have hF8 := hFV.call hb8'
          have hL8 := hLV.call hb8'
          have hFV8 := hF8
          obtain ⟨rows, hrows, hown8, hrep8⟩ := hF8
          have hg8 := Nat.lt_of_lt_of_le hgV hb8'.size
          obtain ⟨⟨_, _, _, _, k4, _, _⟩, ⟨_, _, _, f4, _, _⟩, hblV⟩ := rb_cells blkV
          obtain ⟨⟨_, _, _, _, k4', _, _⟩, ⟨_, _, _, f4', _, _⟩, hbl8⟩ := rb_cells blk8
          have HK := Lib.hid (show ∀ w' : World, w'.heap[g]? = V.heap[g]? → (w'.heap[g]? = V.heap[g]? ∧ w'.cell? ⟨g, o, none⟩ = some (.string x) ∧ w'.cell? ⟨g, o + 1, none⟩ = some (.string y)) from fun w' hw =>
            ⟨hw, (World.cell?_of_block (a := ⟨g, o, none⟩) hw).trans v0, (World.cell?_of_block (a := ⟨g, o + 1, none⟩) hw).trans v1⟩)
          have H9 := Lib.hid (fun o => hown8.alloc o)
          have H63 := Lib.hid (show st.files.length + 1 ≤ maxLen by unfold maxLen; omega)
          have H48 := Lib.hid (show (st.files.length + 1) * 48 ≤ 140737488355328 by omega)
          have HB9 := Lib.hid (fun o => show B ≤ (w8.alloc o).heap.size from Nat.le_trans hBw (Nat.le_trans hVB.size (Nat.le_trans hb8'.size (fr_alloc (fr_refl w8) o).size)))
          have HG9 := Lib.hid (fun o => show g < (w8.alloc o).heap.size from Nat.lt_of_lt_of_le hg8 (fr_alloc (fr_refl w8) o).size)
          have HA9 := Lib.hid (fun o => show (w8.alloc o).heap[g]? = V.heap[g]? from ((fr_alloc (fr_refl w8) o).block g hg8).trans (hb8'.block g hgV))
          have hqm : q ≤ m := by have := HM.out; omega
          have HJ := Lib.hid (fun o w1 v' hg hown' => file_joined (x := ⟨x, X, S.data.toList⟩) blk8 hFV8 hL8 h.low hrows hown8 hrep8 hxs hsl8 hnk hk8 ⟨by omega, by omega, by omega⟩ o (w1 := w1) (v' := v') hg hown')
          have HV2 := Lib.hid (show R = .ok ⟨m + 1, st.files ++ [⟨x, X, S.data.toList⟩], st.looks⟩ by rw [HX.out]; exact HV.out)
          have hVw := Lib.hid (hVB.trans (hb8'.mono (Nat.le_trans hBw hVB.size)))
          have HFG := Lib.hid hFg
          have HFB := Lib.hid (fun e : some b = vF.ownBlock => kind_ne (hFV.kind b e.symm).2 ⟨_, _, blkV⟩ (by decide) rfl)
          have HBk := Lib.hid (fun k e => (hFV.kind k e).1)
          have HEnd := Lib.hid (fun (o : Obj) (w1 : World) (v' : Value) (hg : (w8.alloc o).grownBy w1 vF.ownBlock) (hown' : w1.ownsRow B 65 3 v' (st.files.length + 1) (rows.flatten ++ [.string x, .bool X, .slice (some ⟨V.heap.size, 0, none⟩) S.size c8])) =>
            show StepAns B b T c t d R w (.returned (.bool true)) (w1.setCell ⟨b, 4, none⟩ v') from
              StepAns.good HV2.out (((hVw.out.alloc (Nat.le_trans hBw hVw.out.size) o).grown hg (HB9.out o) HBk.out).setCell (p := ⟨b, 4, none⟩) h.low v') (HJ.out o w1 v' hg hown'))
          clear hFg hFV hLV hFV8 hL8 hown8 hrep8 hsl8 hVB h1 h3 hbel3
          have v0' := (hb8'.cell (p := ⟨g, o, none⟩) hgV).trans v0
          have v1' := (hb8'.cell (p := ⟨g, o + 1, none⟩) hgV).trans v1
          go_region_law (first
              | (refine step_append_lies _ rfl _ _ 22 rfl B 65 i0 _ 3 48 Tryz.underlying22 hi0 hz0 hz1 hz2 rfl (by decide) _ st.files.length _ rfl (H9.out _) ⟨w8.heap.size, 0, none⟩ 1 1 [.string x, .bool X, .slice (some ⟨V.heap.size, 0, none⟩) S.size c8] rfl rfl (new_cells w8 #[_, _, _] _) (file_one _ _ _ _ _) (by decide) H63.out H48.out (HB9.out _) _ rfl ?_
                 intro g' cap w9 hown' hgrow hat hlt'
                 have blk9 : w9.heap[b]? = some (RB T (m + 1) c t vF vL d) := (hgrow.block b (Nat.lt_of_lt_of_le hbl8 (fr_alloc (fr_refl w8) _).size) HFB.out).trans (rb_call blk8 (fr_alloc (fr_refl w8) _))
                 obtain ⟨⟨_, _, _, _, k5, _, _⟩, ⟨_, _, _, f5, _, _⟩, hbl9⟩ := rb_cells blk9))
          all_goals
            go_wp2
            go_ret
            exact HEnd.out _ _ _ hgrow hown'
end Go.Proofs.Sm
