/- Walks: the reference's reader of a result: a file, walked. -/
import Derived.Test.YtnhcaelapadhaaaGreatDoorW57J
namespace Go.Proofs.Sm
open Go.RowKit

theorem sl_four {w : World} {S : Nat → Prop} {A : Option Addr} {x y z u : ByteArray} (h : Sl w S A 4 [x, y, z, u]) : ∃ g o, A = some ⟨g, o, none⟩ ∧ S g ∧ (x.size ≤ maxLen ∧ y.size ≤ maxLen ∧ z.size ≤ maxLen ∧ u.size ≤ maxLen) ∧
    w.cell? ⟨g, o, none⟩ = some (.string x) ∧ w.cell? ⟨g, o + 1, none⟩ = some (.string y) ∧ w.cell? ⟨g, o + 2, none⟩ = some (.string z) ∧ w.cell? ⟨g, o + 3, none⟩ = some (.string u) := by
  obtain ⟨g, o, x', e, hS, hx, hs, c0⟩ := h.str (k := 0) (by omega)
  obtain ⟨g2, o2, y', e2, _, hy, hs2, c1⟩ := h.str (k := 1) (by omega)
  obtain ⟨g3, o3, z', e3, _, hz, hs3, c2⟩ := h.str (k := 2) (by omega)
  obtain ⟨g4, o4, u', e4, _, hu, hs4, c3⟩ := h.str (k := 3) (by omega)
  rw [e] at e2 e3 e4
  cases e2; cases e3; cases e4
  obtain rfl : x = x' := by simpa using hx
  obtain rfl : y = y' := by simpa using hy
  obtain rfl : z = z' := by simpa using hz
  obtain rfl : u = u' := by simpa using hu
  exact ⟨g, o, e, hS, ⟨hs, hs2, hs3, hs4⟩, c0, c1, c2, c3⟩
set_option maxHeartbeats 0 in
set_option maxRecDepth 100000 in
theorem ref5_file (T : ByteArray) (B b o g k : Nat) (w0 x y z : ByteArray) (w : World) {c d : Int} {t : ByteArray} {vF vL : Value} {st : RSt} {q : Nat} {S0 : Nat → Prop} (hBw : B ≤ w.heap.size)
    (blk : w.heap[b]? = some (QB T q (-1))) (out : w.heap[o]? = some (RO c t vF vL d)) (hF : RowOwn w B 65 5 vF st.files) (hL : RowOwn w B 57 5 vL st.looks) (low : B ≤ b ∧ B ≤ o ∧ o ≠ b)
    (room : st.files.length ≤ st.pos ∧ st.looks.length ≤ st.pos) (hq0 : st.pos < q) (hqT : q ≤ T.size) (hT : T.size ≤ 4000000) (hsl : Sl w S0 (some ⟨g, k, none⟩) 4 [w0, x, y, z]) (hgs : g < w.heap.size) :
    Calls Tryz.prog 20 #[.pointer (some ⟨b, 0, none⟩), .slice (some ⟨g, k, none⟩) 4 4, .int .i64 (st.pos : Nat), .pointer (some ⟨o, 0, none⟩)] w fun e w' => e = .returned (.tuple #[]) ∧ StepR B b o T c t d (fileR T st x y z q) w w' := by
  obtain ⟨i0, hi0, hz0, hz1, hz2⟩ := info_parts file_info
  obtain ⟨i1, hi1, hy0, hy1, hy2⟩ := info_parts byte_info
  obtain ⟨g', k', e', _, ⟨_, hxs, hys, hzs⟩, _, y1, y2, y3⟩ := sl_four hsl
  cases e'
  clear hsl
  generalize hR : fileR T st x y z q = R
  rw [fileR] at hR
  cases hn : isNumberS z 9
  · have HV := Lib.hid (show R = .error st.pos by rw [← hR, hn, Bool.and_false]; rfl)
    clear hR
    go_enter Tryz.func20, Tryz.ntmps20
    go_wp2_with fail
    refine ((Lib.hid (ref5_numbered z 9 _ hzs (by decide))).out).mono ?_
    rw [hn]
    rintro e w1 ⟨rfl, hb1⟩
    have blk1 := qb_call blk hb1
    have out1 := below_other hb1 out
    have hF1 := hF.call hb1
    have hL1 := hL.call hb1
    have hg1 := Nat.lt_of_lt_of_le hgs hb1.size
    have u1 := (hb1.cell (p := ⟨g, k + 1, none⟩) hgs).trans y1
    have u2 := (hb1.cell (p := ⟨g, k + 2, none⟩) hgs).trans y2
    go_wp2_with fail
    refine (ref5_stop T b q (-1) st.pos w1 blk1).mono ?_
    rintro e w2 ⟨rfl, hg2, blk2⟩
    rw [stop_new (by decide)] at blk2
    go_wp2
    refine bodyPost_ret (results_none rfl _ _ _) rfl ?_
    exact ⟨rfl, StepR.bad HV.out rfl (gb_base hBw (hb1.mono hBw) hg2 low.1) blk2⟩
  have e120 : (y.toList == [120]) = isX y := by rw [isX, Lib.toList_data]
  cases hX : isX y
  · cases hd : (y.toList == [45])
    · have HV := Lib.hid (show R = .error st.pos by
        rw [← hR, isRunS, hX, ← Lib.toList_data, hd]; rfl)
      rw [hX] at e120
      have n120 : (y.toList != [120]) = true := by rw [bne, e120]; rfl
      have n45 : (y.toList != [45]) = true := by rw [bne, hd]; rfl
      clear hR
      go_enter Tryz.func20, Tryz.ntmps20
      go_wp2_with fail
      refine ((Lib.hid (ref5_numbered z 9 _ hzs (by decide))).out).mono ?_
      rw [hn]
      rintro e w1 ⟨rfl, hb1⟩
      have blk1 := qb_call blk hb1
      have out1 := below_other hb1 out
      have hF1 := hF.call hb1
      have hL1 := hL.call hb1
      have hg1 := Nat.lt_of_lt_of_le hgs hb1.size
      have u1 := (hb1.cell (p := ⟨g, k + 1, none⟩) hgs).trans y1
      have u2 := (hb1.cell (p := ⟨g, k + 2, none⟩) hgs).trans y2
      go_wp2_with fail
      refine (ref5_stop T b q (-1) st.pos w1 blk1).mono ?_
      rintro e w2 ⟨rfl, hg2, blk2⟩
      rw [stop_new (by decide)] at blk2
      go_wp2
      refine bodyPost_ret (results_none rfl _ _ _) rfl ?_
      exact ⟨rfl, StepR.bad HV.out rfl (gb_base hBw (hb1.mono hBw) hg2 low.1) blk2⟩
    · have hR2 : R = fileBody T st x y (numS z) q := by rw [← hR, isRunS, hX, hn, ← Lib.toList_data, hd]; rfl
      rw [hX] at e120
      have n120 : (y.toList != [120]) = true := by rw [bne, e120]; rfl
      have n45 : (y.toList != [45]) = false := by rw [bne, hd]; rfl
      clear hR
      obtain ⟨m, hm⟩ : ∃ m, m = q + numS z := ⟨_, rfl⟩
      rw [fileBody, ← hm] at hR2
      have hn9 := num9 hn
      have hByt := Lib.hid (fun (w' : World) (bl : w'.heap[b]? = some (QB T q (-1))) => ref5_bytes T b q (numS z) m w' bl hT hqT hn9 hm (by decide))
      obtain ⟨X, hXt⟩ : ∃ X : Bool, X = isX y := ⟨_, rfl⟩
      rw [hX] at hXt
      have hcs : ∃ (S : ByteArray) (p' : Nat) (bad' : Int), ((T.size < m ∧ S = ⟨#[]⟩ ∧ p' = q ∧ bad' = (T.size : Nat)) ∨ (¬ T.size < m ∧ S = T.extract q m ∧ p' = m ∧ bad' = -1)) ∧
          (∀ (w' : World) (bl : w'.heap[b]? = some (QB T q (-1))), Calls Tryz.prog 51 #[.pointer (some ⟨b, 0, none⟩), .int .i64 (numS z : Nat)] w' fun e w'' => e = .returned (.string S) ∧ w''.heap[b]? = some (QB T p' bad') ∧ w'.grownBy w'' (some b)) := by
        by_cases hlt : T.size < m
        · exact ⟨_, _, _, .inl ⟨hlt, rfl, rfl, rfl⟩, fun w' bl => (hByt.out w' bl).mono fun e w'' h => ⟨(h.1 hlt).1, (h.1 hlt).2, h.2.2⟩⟩
        · exact ⟨_, _, _, .inr ⟨hlt, rfl, rfl, rfl⟩, fun w' bl => (hByt.out w' bl).mono fun e w'' h => ⟨(h.2.1 hlt).1, (h.2.1 hlt).2, h.2.2⟩⟩
      obtain ⟨S, p', bad', hcs, hBy⟩ := hcs
      have HBy := Lib.hid hBy
      have hexs : S.size ≤ maxLen := by
        rcases hcs with ⟨_, rfl, _⟩ | ⟨_, rfl, _⟩
        · decide
        · rw [ByteArray.size_extract]; unfold maxLen; omega
      have hexb : S.size ≤ 140737488355328 := by
        rcases hcs with ⟨_, rfl, _⟩ | ⟨_, rfl, _⟩
        · decide
        · rw [ByteArray.size_extract]; omega
      have HCS := Lib.hid hcs
      have HR := Lib.hid hR2
      have HM := Lib.hid hm
      have HXt := Lib.hid hXt
      clear hBy hByt hcs hR2 hm hXt
      go_enter Tryz.func20, Tryz.ntmps20
      go_wp2_with fail
      refine ((Lib.hid (ref5_numbered z 9 _ hzs (by decide))).out).mono ?_
      rw [hn]
      rintro e w1 ⟨rfl, hb1⟩
      have blk1 := qb_call blk hb1
      have out1 := below_other hb1 out
      have hF1 := hF.call hb1
      have hL1 := hL.call hb1
      have hg1 := Nat.lt_of_lt_of_le hgs hb1.size
      have u1 := (hb1.cell (p := ⟨g, k + 1, none⟩) hgs).trans y1
      have u2 := (hb1.cell (p := ⟨g, k + 2, none⟩) hgs).trans y2
      go_wp2
      have HK := Lib.hid (show ∀ w' : World, w'.heap[g]? = w1.heap[g]? → (w'.heap[g]? = w1.heap[g]? ∧ w'.cell? ⟨g, k + 1, none⟩ = some (.string x) ∧ w'.cell? ⟨g, k + 2, none⟩ = some (.string y)) from fun w' hw =>
        ⟨hw, (World.cell?_of_block (a := ⟨g, k + 1, none⟩) hw).trans u1, (World.cell?_of_block (a := ⟨g, k + 2, none⟩) hw).trans u2⟩)
      have HA := Lib.hid (fun o => show (w1.drew.alloc o).heap[g]? = w1.heap[g]? from (fr_alloc (fr_refl w1.drew) o).block g hg1)
      have hgn : g ≠ w1.heap.size := by omega
      go_region_held3 (fun w' => w'.heap[g]? = w1.heap[g]? ∧ w'.cell? ⟨g, k + 1, none⟩ = some (.string x) ∧ w'.cell? ⟨g, k + 2, none⟩ = some (.string y))
        (first | assumption | exact HK.out _ rfl | exact HK.out _ (HA.out _) | exact HK.out _ ((heap_setCell_other _ _ g _ hgn).trans (And.left (by assumption))))
        (fail)
      clear hgn HA HK u1 u2 y1 y2
      go_wp2
      generalize hV : (w1.alloc (.cells #[.string x, .bool false, .slice none 0 0] 65)).drew = V
      have v0 : V.heap[w1.heap.size]? = some (.cells #[.string x, .bool X, .slice none 0 0] 65 (0, 0)) := by rw [← hV, HXt.out]; exact heap_alloc_new w1 _
      have v1 : Below w1.heap.size w1 V := by rw [← hV]; exact (fr_alloc (fr_refl w1) _).drew
      clear hV
      have blkV := qb_call blk1 v1
      have outV := below_other v1 out1
      have hFV := hF1.call v1
      have hLV := hL1.call v1
      have hsV := heap_lt v0
      have m2 : V.cell? ⟨w1.heap.size, 2, none⟩ = some (.slice none 0 0) := by rw [Lib.cell_of_heap v0]; rfl
      have hVB : Below B w V := (hb1.trans (v1.mono hb1.size)).mono hBw
      have hbn : w1.heap.size ≠ b := by have := heap_lt blk1; omega
      have hon : w1.heap.size ≠ o := by have := heap_lt out1; omega
      have hFn : ∀ k, vF.ownBlock = some k → k < w1.heap.size := fun k e => (hF1.kind k e).2.lt
      obtain ⟨rows, hrows, hownV, hrepV⟩ := id hFV
      -- behind region 4: the world w5, the bytes in v5
      have HM4 := Lib.hid (fun (w4 w5 : World) (v5 : Value) (hg4 : V.grownBy w4 (some b)) (blk4 : w4.heap[b]? = some (QB T p' bad')) (hg5 : w4.grownBy w5 none) (hown5 : w5.ownsRow B 5 1 v5 S.size (Lib.strCells S)) =>
        show (w5.heap[w1.heap.size]? = some (.cells #[.string x, .bool X, .slice none 0 0] 65 (0, 0)) ∧ w5.heap[b]? = some (QB T p' bad') ∧ w5.heap[o]? = some (RO c t vF vL d)) from
          ⟨(hg5.block _ (Nat.lt_of_lt_of_le hsV hg4.size) (by simp)).trans ((hg4.block _ hsV (fun e => hbn (Option.some.inj e))).trans v0), (hg5.block b (heap_lt blk4) (by simp)).trans blk4,
            (hg5.block o (Nat.lt_of_lt_of_le (heap_lt outV) hg4.size) (by simp)).trans (gb_other hg4 outV low.2.2)⟩)
      have HKeep := Lib.hid (fun (w4 w5 : World) (v5 : Value) (hg4 : V.grownBy w4 (some b)) (hg5 : w4.grownBy w5 none) (n : Nat) (hn : n < V.heap.size) (hnb : n ≠ b) (hnh : n ≠ w1.heap.size) =>
        show (w5.setCell ⟨w1.heap.size, 2, none⟩ v5).heap[n]? = V.heap[n]? from (heap_setCell_other w5 ⟨w1.heap.size, 2, none⟩ n v5 hnh).trans ((hg5.block n (Nat.lt_of_lt_of_le hn hg4.size) (by simp)).trans (hg4.block n hn (fun e => hnb (Option.some.inj e)))))
      have HB4 := Lib.hid (fun (w4 w5 : World) (v5 : Value) (hg4 : V.grownBy w4 (some b)) (hg5 : w4.grownBy w5 none) =>
        show Below B w (w5.setCell ⟨w1.heap.size, 2, none⟩ v5) from ((gb_base hBw hVB hg4 low.1).grown hg5 (Nat.le_trans hBw (Nat.le_trans hVB.size hg4.size)) (fun _ e => by cases e)).setCell (p := ⟨w1.heap.size, 2, none⟩) (Nat.le_trans hBw hb1.size) v5)
      have HF5 := Lib.hid (fun (w4 w5 : World) (v5 : Value) (hg4 : V.grownBy w4 (some b)) (hg5 : w4.grownBy w5 none) => show RowOwn (w5.setCell ⟨w1.heap.size, 2, none⟩ v5) B 65 5 vF st.files ∧ RowOwn (w5.setCell ⟨w1.heap.size, 2, none⟩ v5) B 57 5 vL st.looks from
        ⟨hFV.keep (fun n hn => HKeep.out w4 w5 v5 hg4 hg5 n hn.lt (kind_ne hn ⟨_, _, blkV⟩ (by decide)) (kind_ne hn ⟨_, _, v0⟩ (by decide))) (fun n hn => HKeep.out w4 w5 v5 hg4 hg5 n (hFV.kind n hn).2.lt (kind_ne (hFV.kind n hn).2 ⟨_, _, blkV⟩ (by decide)) (by have := hFn n hn; omega)),
         hLV.keep (fun n hn => HKeep.out w4 w5 v5 hg4 hg5 n hn.lt (kind_ne hn ⟨_, _, blkV⟩ (by decide)) (kind_ne hn ⟨_, _, v0⟩ (by decide))) (fun n hn => HKeep.out w4 w5 v5 hg4 hg5 n (hLV.kind n hn).2.lt (kind_ne (hLV.kind n hn).2 ⟨_, _, blkV⟩ (by decide)) (kind_ne (hLV.kind n hn).2 ⟨_, _, v0⟩ (by decide)))⟩)
      have HSz := Lib.hid (fun (w4 : World) (hg4 : V.grownBy w4 (some b)) => show w1.heap.size < w4.heap.size from Nat.lt_of_lt_of_le hsV hg4.size)
      have HBs := Lib.hid (fun (w4 : World) (hg4 : V.grownBy w4 (some b)) => show B ≤ w4.heap.size from Nat.le_trans hBw (Nat.le_trans hVB.size hg4.size))
      go_region_law (first
        | (refine step_append_str rfl _ _ 63 9 rfl B 5 i1 Tryz.underlying63 Tryz.underlying9 hi1 hy0 hy1 hy2 _ 0 [] rfl (World.ownsRow_nil _ _ _ _) S rfl (by rw [Nat.zero_add]; exact hexs) (by rw [Nat.zero_add]; exact hexb) (HBs.out _ (by assumption)) ?_
           intro v5 w5 hown5 hg5
           rw [Nat.zero_add, List.nil_append] at hown5
           obtain ⟨hh5, blk5, out5⟩ := HM4.out _ w5 v5 (by assumption) (by assumption) hg5 hown5
           obtain ⟨A5, c5, rfl, hc5, hc6, hsl5⟩ := own_bytes hown5
           have n2 : w5.cell? ⟨w1.heap.size, 2, none⟩ = some (.slice none 0 0) := by rw [Lib.cell_of_heap hh5]; rfl
           have n3 : w5.frozen? ⟨w1.heap.size, 2, none⟩ = false := Lib.frozen_of_heap hh5 2
           have n4 := heap_lt hh5)
        | (go_simp; go_at_call 51; refine (HBy.out V.drew blkV).mono ?_; rintro e w4 ⟨rfl, blk4, hg4d⟩
           have hg4 : V.grownBy w4 (some b) := gb_trans (gb_drew (gb_refl V _)) hg4d
           have o2 : w4.cell? ⟨w1.heap.size, 2, none⟩ = some (.slice none 0 0) := (World.cell?_of_block (a := ⟨w1.heap.size, 2, none⟩) (hg4.block _ hsV (fun e => hbn (Option.some.inj e)))).trans m2))
      all_goals
        generalize hV6 : w5.setCell ⟨w1.heap.size, 2, none⟩ (.slice A5 S.size c5) = V6
        have p0 : V6.heap[w1.heap.size]? = some (.cells #[.string x, .bool X, .slice A5 S.size c5] 65 (0, 0)) := by rw [← hV6]; exact heap_setCell_same w5 w1.heap.size 2 _ _ _ hh5
        have blk6 : V6.heap[b]? = some (QB T p' bad') := by rw [← hV6]; exact set_other blk5 (Ne.symm hbn) _
        have out6 : V6.heap[o]? = some (RO c t vF vL d) := by rw [← hV6]; exact set_other out5 (Ne.symm hon) _
        have hRR := HF5.out w4 w5 (.slice A5 S.size c5) hg4 hg5
        have hB6 := HB4.out w4 w5 (.slice A5 S.size c5) hg4 hg5
        rw [hV6] at hRR hB6
        obtain ⟨hF6, hL6⟩ := hRR
        have hk6 : ∀ n, Kind 5 w5 n → V6.heap[n]? = w5.heap[n]? := fun n hn => by rw [← hV6]; exact heap_setCell_other w5 ⟨w1.heap.size, 2, none⟩ n _ (kind_ne hn ⟨_, _, hh5⟩ (by decide))
        have hsl6 : Sl V6 (Kind 5 V6) A5 S.size S.data.toList := (hsl5.keep hk6).more (Kind.of_keep hk6)
        clear hV6 hk6 hsl5 hh5 blk5 out5 n2 n3 n4 o2 hg4 hg5 hown5 blk4 hg4d
        have m0 : V6.cell? ⟨w1.heap.size, 0, none⟩ = some (.string x) := by rw [Lib.cell_of_heap p0]; rfl
        have m1 : V6.cell? ⟨w1.heap.size, 1, none⟩ = some (.bool X) := by rw [Lib.cell_of_heap p0]; rfl
        have m3 : V6.cell? ⟨w1.heap.size, 2, none⟩ = some (.slice A5 S.size c5) := by rw [Lib.cell_of_heap p0]; rfl
        have hs6 := heap_lt p0
        obtain ⟨⟨_, _, o2, _, _⟩, ⟨_, _, f2, _, _⟩, hol⟩ := ro_cells out6
        obtain ⟨rows6, hrows6, hown6, hrep6⟩ := id hF6
        have H9 := Lib.hid (fun ob => show ((V6.alloc ob).drew).ownsRow B 65 3 vF st.files.length rows6.flatten from hown6.alloc ob)
        have H63 := Lib.hid (show st.files.length + 1 ≤ maxLen by unfold maxLen; omega)
        have H48 := Lib.hid (show (st.files.length + 1) * 48 ≤ 140737488355328 by omega)
        have HW9 := Lib.hid (fun ob => show Below V6.heap.size V6 (V6.alloc ob).drew from (fr_alloc (fr_refl V6) ob).drew)
        have HB9 := Lib.hid (fun ob => show B ≤ (V6.alloc ob).drew.heap.size from Nat.le_trans hBw (Nat.le_trans hB6.size (HW9.out ob).size))
        have HBk := Lib.hid (fun n e => (hF6.kind n e).1)
        have HJ := Lib.hid (fun ob w9 v' (hg : (V6.alloc ob).drew.grownBy w9 vF.ownBlock) hown' => file_joinedR (x := ⟨x, X, S.data.toList⟩) (HW9.out ob) blk6 out6 hF6 hL6 low.2.2 hrows6 hown6 hrep6 hxs hsl6 hc5 hc6 (w1 := w9) (v' := v') hg hown')
        have HBe := Lib.hid (fun ob w9 v' (hg : (V6.alloc ob).drew.grownBy w9 vF.ownBlock) => show Below B w (w9.setCell ⟨o, 2, none⟩ v') from ((hB6.trans ((HW9.out ob).mono (Nat.le_trans hBw hB6.size))).grown hg (HB9.out ob) HBk.out).setCell (p := ⟨o, 2, none⟩) low.2.1 v')
        have HO9 := Lib.hid (fun ob w9 (hg : (V6.alloc ob).drew.grownBy w9 vF.ownBlock) => show w9.heap[o]? = some (RO c t vF vL d) from (hg.block o (Nat.lt_of_lt_of_le hol (HW9.out ob).size) (fun e => kind_ne (hF6.kind o e.symm).2 ⟨_, _, out6⟩ (by decide) rfl)).trans (below_other (HW9.out ob) out6))
        clear hF6 hL6 hown6 hrep6 hsl6 hB6 p0 HF5 HB4 HKeep HM4 HSz HBs HBy
        go_wp2
        go_region_law (first
          | (refine step_append_lies _ rfl _ _ 22 rfl B 65 i0 _ 3 48 Tryz.underlying22 hi0 hz0 hz1 hz2 rfl (by decide) _ st.files.length _ rfl (H9.out _) ⟨V6.heap.size, 0, none⟩ 1 1 [.string x, .bool X, .slice A5 S.size c5] rfl rfl (new_cellsD V6 #[_, _, _] _) (file_one _ _ _ _ _) (by decide) H63.out H48.out (HB9.out _) _ rfl ?_
             intro g9 cap w9 hown9 hgrow hat hlt9
             obtain ⟨⟨_, _, oo2, _, _⟩, ⟨_, _, ff2, _, _⟩, hol9⟩ := ro_cells (HO9.out _ w9 hgrow)))
      all_goals
        obtain ⟨blk9, out9, hF9, hL9⟩ := HJ.out _ _ _ hgrow hown9
        have hB9 := HBe.out _ _ (.slice (some ⟨g9, 0, none⟩) (st.files.length + 1) cap) hgrow
        generalize hV9 : w9.setCell ⟨o, 2, none⟩ (.slice (some ⟨g9, 0, none⟩) (st.files.length + 1) cap) = V9 at blk9 out9 hF9 hL9 hB9 ⊢
        clear hV9 hgrow hown9 oo2 ff2 hol9 HJ HBe HO9 H9 HW9 HB9 HBk m0 m1 m3 o2 f2 hat hlt9
        obtain ⟨⟨b0, b1, b2⟩, ⟨bf1, bf2⟩, hbl9⟩ := qb_cells blk9
        go_wp2
        rcases HCS.out with ⟨hlt, hS, hp', hbad'⟩ | ⟨hlt, hS, hp', hbad'⟩
        · subst hp'; subst hbad'
          have HV := Lib.hid (show R = .error T.size by rw [HR.out, if_pos hlt])
          have hd0 : decide ((T.size : Int) < 0) = false := decide_eq_false (by omega)
          have g1 := IntWalk.i64_in ((p' : Int) + 1) ⟨by omega, by omega⟩
          go_quiet (fail)
          go_wp2
          go_end0
          exact ⟨rfl, StepR.bad HV.out rfl ((below_drewN hB9 _).setCell (p := ⟨b, 1, none⟩) low.1 _) (qb_at (w := V9.drewN _) blk9 (p' + 1) (by omega))⟩
        · subst hp'; subst hbad'
          have hd0 : decide ((-1 : Int) < 0) = true := rfl
          have g1 := IntWalk.i64_in ((p' : Int) + 1) ⟨by omega, by omega⟩
          by_cases heq : p' = T.size
          · have HV := Lib.hid (show R = .error T.size by
              rw [HR.out, if_neg hlt, if_neg, heq]
              have e0 : T.data.toList.length = T.size := by simp
              rw [List.getElem?_eq_none (by omega)]
              simp)
            have HQ := Lib.hid heq
            rw [heq] at blk9 b1
            have he : ((T.size : Int) == (T.size : Int)) = true := by rw [beq_iff_eq]
            have g2 := IntWalk.i64_in ((T.size : Int) + 1) ⟨by omega, by omega⟩
            clear heq g1 hlt hS
            go_quiet (fail)
            go_wp2_with fail
            refine (ref5_stop T b T.size (-1) T.size _ (show (V9.drewN nq).heap[b]? = some (QB T T.size (-1)) from blk9)).mono ?_
            rintro e w11 ⟨rfl, hg11, blk11⟩
            rw [stop_new (by decide)] at blk11
            obtain ⟨⟨d0, d1, d2⟩, ⟨df1, df2⟩, hbl11⟩ := qb_cells blk11
            go_wp2
            go_end0
            exact ⟨rfl, StepR.bad HV.out rfl ((gb_base hBw (below_drewN hB9 _) hg11 low.1).setCell (p := ⟨b, 1, none⟩) low.1 _) (qb_at blk11 (T.size + 1) (by omega))⟩
          · have hmT : p' < T.size := by omega
            have hb10 := byte_at T p' hmT
            have he : ((p' : Int) == (T.size : Int)) = false := by rw [beq_eq_false_iff_ne]; omega
            have hmI : (p' : Int) < (T.size : Int) := by omega
            cases h10 : ((T[p'].toNat : Int) == 10)
            · have h10b : ((T[p'].toNat : Int) != 10) = true := by rw [bne, h10]; rfl
              have HV := Lib.hid (show R = .error p' by
                rw [HR.out, if_neg hlt, if_neg]
                rw [hb10]
                intro e
                rw [Option.some.inj e] at h10
                revert h10; decide)
              clear hb10
              go_quiet (fail)
              go_wp2_with fail
              refine (ref5_stop T b p' (-1) p' _ (show (V9.drewN nq).heap[b]? = _ from blk9)).mono ?_
              rintro e w11 ⟨rfl, hg11, blk11⟩
              rw [stop_new (by decide)] at blk11
              obtain ⟨⟨d0, d1, d2⟩, ⟨df1, df2⟩, hbl11⟩ := qb_cells blk11
              go_wp2
              go_end0
              exact ⟨rfl, StepR.bad HV.out rfl ((gb_base hBw (below_drewN hB9 _) hg11 low.1).setCell (p := ⟨b, 1, none⟩) low.1 _) (qb_at blk11 (p' + 1) (by omega))⟩
            · have h10b : ((T[p'].toNat : Int) != 10) = false := by rw [bne, h10]; rfl
              have HV := Lib.hid (show R = .ok ⟨p' + 1, st.files ++ [⟨x, X, S.data.toList⟩], st.looks⟩ by
                have hx2 : S.data.toList = (T.data.toList.drop q).take (numS z) := by
                  rw [hS, Lib.extract_data, show p' - q = numS z by have := HM.out; omega]
                have h10e : T.data.toList[p']? = some 10 := by
                  rw [hb10]
                  congr 1
                  apply UInt8.toNat_inj.1
                  rw [beq_iff_eq] at h10
                  have : (10 : UInt8).toNat = 10 := rfl
                  omega
                rw [HR.out, if_neg hlt, if_pos h10e, hX, hx2, HXt.out])
              have hqp : q ≤ p' := by have := HM.out; omega
              clear hb10
              go_quiet (fail)
              go_wp2
              go_end0
              have hdr : ∀ n, (V9.drewN n).heap = V9.heap := fun _ => rfl
              exact ⟨rfl, StepR.good HV.out ((below_drewN hB9 _).setCell (p := ⟨b, 1, none⟩) low.1 _) ⟨qb_at (w := V9.drewN _) blk9 (p' + 1) (by omega), set_other (w := V9.drewN _) out9 low.2.2 _,
                RowOwn.set (w := V9.drewN _) (t := 51) (p := ⟨b, 1, none⟩) (hF9.keep (fun _ _ => rfl) (fun _ _ => rfl)) ⟨_, _, blk9⟩ (by decide) (by decide) _,
                RowOwn.set (w := V9.drewN _) (t := 51) (p := ⟨b, 1, none⟩) (hL9.keep (fun _ _ => rfl) (fun _ _ => rfl)) ⟨_, _, blk9⟩ (by decide) (by decide) _,
                low, by simp only [List.length_append, List.length_singleton]; exact ⟨by omega, by omega, by omega⟩⟩⟩
  · have hR2 : R = fileBody T st x y (numS z) q := by rw [← hR, isRunS, hX, hn]; rfl
    rw [hX] at e120
    have n120 : (y.toList != [120]) = false := by rw [bne, e120]; rfl
    clear hR
    obtain ⟨m, hm⟩ : ∃ m, m = q + numS z := ⟨_, rfl⟩
    rw [fileBody, ← hm] at hR2
    have hn9 := num9 hn
    have hByt := Lib.hid (fun (w' : World) (bl : w'.heap[b]? = some (QB T q (-1))) => ref5_bytes T b q (numS z) m w' bl hT hqT hn9 hm (by decide))
    obtain ⟨X, hXt⟩ : ∃ X : Bool, X = isX y := ⟨_, rfl⟩
    rw [hX] at hXt
    have hcs : ∃ (S : ByteArray) (p' : Nat) (bad' : Int), ((T.size < m ∧ S = ⟨#[]⟩ ∧ p' = q ∧ bad' = (T.size : Nat)) ∨ (¬ T.size < m ∧ S = T.extract q m ∧ p' = m ∧ bad' = -1)) ∧
        (∀ (w' : World) (bl : w'.heap[b]? = some (QB T q (-1))), Calls Tryz.prog 51 #[.pointer (some ⟨b, 0, none⟩), .int .i64 (numS z : Nat)] w' fun e w'' => e = .returned (.string S) ∧ w''.heap[b]? = some (QB T p' bad') ∧ w'.grownBy w'' (some b)) := by
      by_cases hlt : T.size < m
      · exact ⟨_, _, _, .inl ⟨hlt, rfl, rfl, rfl⟩, fun w' bl => (hByt.out w' bl).mono fun e w'' h => ⟨(h.1 hlt).1, (h.1 hlt).2, h.2.2⟩⟩
      · exact ⟨_, _, _, .inr ⟨hlt, rfl, rfl, rfl⟩, fun w' bl => (hByt.out w' bl).mono fun e w'' h => ⟨(h.2.1 hlt).1, (h.2.1 hlt).2, h.2.2⟩⟩
    obtain ⟨S, p', bad', hcs, hBy⟩ := hcs
    have HBy := Lib.hid hBy
    have hexs : S.size ≤ maxLen := by
      rcases hcs with ⟨_, rfl, _⟩ | ⟨_, rfl, _⟩
      · decide
      · rw [ByteArray.size_extract]; unfold maxLen; omega
    have hexb : S.size ≤ 140737488355328 := by
      rcases hcs with ⟨_, rfl, _⟩ | ⟨_, rfl, _⟩
      · decide
      · rw [ByteArray.size_extract]; omega
    have HCS := Lib.hid hcs
    have HR := Lib.hid hR2
    have HM := Lib.hid hm
    have HXt := Lib.hid hXt
    clear hBy hByt hcs hR2 hm hXt
    go_enter Tryz.func20, Tryz.ntmps20
    go_wp2_with fail
    refine ((Lib.hid (ref5_numbered z 9 _ hzs (by decide))).out).mono ?_
    rw [hn]
    rintro e w1 ⟨rfl, hb1⟩
    have blk1 := qb_call blk hb1
    have out1 := below_other hb1 out
    have hF1 := hF.call hb1
    have hL1 := hL.call hb1
    have hg1 := Nat.lt_of_lt_of_le hgs hb1.size
    have u1 := (hb1.cell (p := ⟨g, k + 1, none⟩) hgs).trans y1
    have u2 := (hb1.cell (p := ⟨g, k + 2, none⟩) hgs).trans y2
    go_wp2
    have HK := Lib.hid (show ∀ w' : World, w'.heap[g]? = w1.heap[g]? → (w'.heap[g]? = w1.heap[g]? ∧ w'.cell? ⟨g, k + 1, none⟩ = some (.string x) ∧ w'.cell? ⟨g, k + 2, none⟩ = some (.string y)) from fun w' hw =>
      ⟨hw, (World.cell?_of_block (a := ⟨g, k + 1, none⟩) hw).trans u1, (World.cell?_of_block (a := ⟨g, k + 2, none⟩) hw).trans u2⟩)
    have HA := Lib.hid (fun o => show (w1.drew.alloc o).heap[g]? = w1.heap[g]? from (fr_alloc (fr_refl w1.drew) o).block g hg1)
    have hgn : g ≠ w1.heap.size := by omega
    go_region_held3 (fun w' => w'.heap[g]? = w1.heap[g]? ∧ w'.cell? ⟨g, k + 1, none⟩ = some (.string x) ∧ w'.cell? ⟨g, k + 2, none⟩ = some (.string y))
      (first | assumption | exact HK.out _ rfl | exact HK.out _ (HA.out _) | exact HK.out _ ((heap_setCell_other _ _ g _ hgn).trans (And.left (by assumption))))
      (fail)
    clear hgn HA HK u1 u2 y1 y2
    go_wp2
    generalize hV : (w1.alloc (.cells #[.string x, .bool true, .slice none 0 0] 65)).drew = V
    have v0 : V.heap[w1.heap.size]? = some (.cells #[.string x, .bool X, .slice none 0 0] 65 (0, 0)) := by rw [← hV, HXt.out]; exact heap_alloc_new w1 _
    have v1 : Below w1.heap.size w1 V := by rw [← hV]; exact (fr_alloc (fr_refl w1) _).drew
    clear hV
    have blkV := qb_call blk1 v1
    have outV := below_other v1 out1
    have hFV := hF1.call v1
    have hLV := hL1.call v1
    have hsV := heap_lt v0
    have m2 : V.cell? ⟨w1.heap.size, 2, none⟩ = some (.slice none 0 0) := by rw [Lib.cell_of_heap v0]; rfl
    have hVB : Below B w V := (hb1.trans (v1.mono hb1.size)).mono hBw
    have hbn : w1.heap.size ≠ b := by have := heap_lt blk1; omega
    have hon : w1.heap.size ≠ o := by have := heap_lt out1; omega
    have hFn : ∀ k, vF.ownBlock = some k → k < w1.heap.size := fun k e => (hF1.kind k e).2.lt
    obtain ⟨rows, hrows, hownV, hrepV⟩ := id hFV
    -- behind region 4: the world w5, the bytes in v5
    have HM4 := Lib.hid (fun (w4 w5 : World) (v5 : Value) (hg4 : V.grownBy w4 (some b)) (blk4 : w4.heap[b]? = some (QB T p' bad')) (hg5 : w4.grownBy w5 none) (hown5 : w5.ownsRow B 5 1 v5 S.size (Lib.strCells S)) =>
      show (w5.heap[w1.heap.size]? = some (.cells #[.string x, .bool X, .slice none 0 0] 65 (0, 0)) ∧ w5.heap[b]? = some (QB T p' bad') ∧ w5.heap[o]? = some (RO c t vF vL d)) from
        ⟨(hg5.block _ (Nat.lt_of_lt_of_le hsV hg4.size) (by simp)).trans ((hg4.block _ hsV (fun e => hbn (Option.some.inj e))).trans v0), (hg5.block b (heap_lt blk4) (by simp)).trans blk4,
          (hg5.block o (Nat.lt_of_lt_of_le (heap_lt outV) hg4.size) (by simp)).trans (gb_other hg4 outV low.2.2)⟩)
    have HKeep := Lib.hid (fun (w4 w5 : World) (v5 : Value) (hg4 : V.grownBy w4 (some b)) (hg5 : w4.grownBy w5 none) (n : Nat) (hn : n < V.heap.size) (hnb : n ≠ b) (hnh : n ≠ w1.heap.size) =>
      show (w5.setCell ⟨w1.heap.size, 2, none⟩ v5).heap[n]? = V.heap[n]? from (heap_setCell_other w5 ⟨w1.heap.size, 2, none⟩ n v5 hnh).trans ((hg5.block n (Nat.lt_of_lt_of_le hn hg4.size) (by simp)).trans (hg4.block n hn (fun e => hnb (Option.some.inj e)))))
    have HB4 := Lib.hid (fun (w4 w5 : World) (v5 : Value) (hg4 : V.grownBy w4 (some b)) (hg5 : w4.grownBy w5 none) =>
      show Below B w (w5.setCell ⟨w1.heap.size, 2, none⟩ v5) from ((gb_base hBw hVB hg4 low.1).grown hg5 (Nat.le_trans hBw (Nat.le_trans hVB.size hg4.size)) (fun _ e => by cases e)).setCell (p := ⟨w1.heap.size, 2, none⟩) (Nat.le_trans hBw hb1.size) v5)
    have HF5 := Lib.hid (fun (w4 w5 : World) (v5 : Value) (hg4 : V.grownBy w4 (some b)) (hg5 : w4.grownBy w5 none) => show RowOwn (w5.setCell ⟨w1.heap.size, 2, none⟩ v5) B 65 5 vF st.files ∧ RowOwn (w5.setCell ⟨w1.heap.size, 2, none⟩ v5) B 57 5 vL st.looks from
      ⟨hFV.keep (fun n hn => HKeep.out w4 w5 v5 hg4 hg5 n hn.lt (kind_ne hn ⟨_, _, blkV⟩ (by decide)) (kind_ne hn ⟨_, _, v0⟩ (by decide))) (fun n hn => HKeep.out w4 w5 v5 hg4 hg5 n (hFV.kind n hn).2.lt (kind_ne (hFV.kind n hn).2 ⟨_, _, blkV⟩ (by decide)) (by have := hFn n hn; omega)),
       hLV.keep (fun n hn => HKeep.out w4 w5 v5 hg4 hg5 n hn.lt (kind_ne hn ⟨_, _, blkV⟩ (by decide)) (kind_ne hn ⟨_, _, v0⟩ (by decide))) (fun n hn => HKeep.out w4 w5 v5 hg4 hg5 n (hLV.kind n hn).2.lt (kind_ne (hLV.kind n hn).2 ⟨_, _, blkV⟩ (by decide)) (kind_ne (hLV.kind n hn).2 ⟨_, _, v0⟩ (by decide)))⟩)
    have HSz := Lib.hid (fun (w4 : World) (hg4 : V.grownBy w4 (some b)) => show w1.heap.size < w4.heap.size from Nat.lt_of_lt_of_le hsV hg4.size)
    have HBs := Lib.hid (fun (w4 : World) (hg4 : V.grownBy w4 (some b)) => show B ≤ w4.heap.size from Nat.le_trans hBw (Nat.le_trans hVB.size hg4.size))
    go_region_law (first
      | (refine step_append_str rfl _ _ 63 9 rfl B 5 i1 Tryz.underlying63 Tryz.underlying9 hi1 hy0 hy1 hy2 _ 0 [] rfl (World.ownsRow_nil _ _ _ _) S rfl (by rw [Nat.zero_add]; exact hexs) (by rw [Nat.zero_add]; exact hexb) (HBs.out _ (by assumption)) ?_
         intro v5 w5 hown5 hg5
         rw [Nat.zero_add, List.nil_append] at hown5
         obtain ⟨hh5, blk5, out5⟩ := HM4.out _ w5 v5 (by assumption) (by assumption) hg5 hown5
         obtain ⟨A5, c5, rfl, hc5, hc6, hsl5⟩ := own_bytes hown5
         have n2 : w5.cell? ⟨w1.heap.size, 2, none⟩ = some (.slice none 0 0) := by rw [Lib.cell_of_heap hh5]; rfl
         have n3 : w5.frozen? ⟨w1.heap.size, 2, none⟩ = false := Lib.frozen_of_heap hh5 2
         have n4 := heap_lt hh5)
      | (go_simp; go_at_call 51; refine (HBy.out V.drew blkV).mono ?_; rintro e w4 ⟨rfl, blk4, hg4d⟩
         have hg4 : V.grownBy w4 (some b) := gb_trans (gb_drew (gb_refl V _)) hg4d
         have o2 : w4.cell? ⟨w1.heap.size, 2, none⟩ = some (.slice none 0 0) := (World.cell?_of_block (a := ⟨w1.heap.size, 2, none⟩) (hg4.block _ hsV (fun e => hbn (Option.some.inj e)))).trans m2))
    all_goals
      generalize hV6 : w5.setCell ⟨w1.heap.size, 2, none⟩ (.slice A5 S.size c5) = V6
      have p0 : V6.heap[w1.heap.size]? = some (.cells #[.string x, .bool X, .slice A5 S.size c5] 65 (0, 0)) := by rw [← hV6]; exact heap_setCell_same w5 w1.heap.size 2 _ _ _ hh5
      have blk6 : V6.heap[b]? = some (QB T p' bad') := by rw [← hV6]; exact set_other blk5 (Ne.symm hbn) _
      have out6 : V6.heap[o]? = some (RO c t vF vL d) := by rw [← hV6]; exact set_other out5 (Ne.symm hon) _
      have hRR := HF5.out w4 w5 (.slice A5 S.size c5) hg4 hg5
      have hB6 := HB4.out w4 w5 (.slice A5 S.size c5) hg4 hg5
      rw [hV6] at hRR hB6
      obtain ⟨hF6, hL6⟩ := hRR
      have hk6 : ∀ n, Kind 5 w5 n → V6.heap[n]? = w5.heap[n]? := fun n hn => by rw [← hV6]; exact heap_setCell_other w5 ⟨w1.heap.size, 2, none⟩ n _ (kind_ne hn ⟨_, _, hh5⟩ (by decide))
      have hsl6 : Sl V6 (Kind 5 V6) A5 S.size S.data.toList := (hsl5.keep hk6).more (Kind.of_keep hk6)
      clear hV6 hk6 hsl5 hh5 blk5 out5 n2 n3 n4 o2 hg4 hg5 hown5 blk4 hg4d
      have m0 : V6.cell? ⟨w1.heap.size, 0, none⟩ = some (.string x) := by rw [Lib.cell_of_heap p0]; rfl
      have m1 : V6.cell? ⟨w1.heap.size, 1, none⟩ = some (.bool X) := by rw [Lib.cell_of_heap p0]; rfl
      have m3 : V6.cell? ⟨w1.heap.size, 2, none⟩ = some (.slice A5 S.size c5) := by rw [Lib.cell_of_heap p0]; rfl
      have hs6 := heap_lt p0
      obtain ⟨⟨_, _, o2, _, _⟩, ⟨_, _, f2, _, _⟩, hol⟩ := ro_cells out6
      obtain ⟨rows6, hrows6, hown6, hrep6⟩ := id hF6
      have H9 := Lib.hid (fun ob => show ((V6.alloc ob).drew).ownsRow B 65 3 vF st.files.length rows6.flatten from hown6.alloc ob)
      have H63 := Lib.hid (show st.files.length + 1 ≤ maxLen by unfold maxLen; omega)
      have H48 := Lib.hid (show (st.files.length + 1) * 48 ≤ 140737488355328 by omega)
      have HW9 := Lib.hid (fun ob => show Below V6.heap.size V6 (V6.alloc ob).drew from (fr_alloc (fr_refl V6) ob).drew)
      have HB9 := Lib.hid (fun ob => show B ≤ (V6.alloc ob).drew.heap.size from Nat.le_trans hBw (Nat.le_trans hB6.size (HW9.out ob).size))
      have HBk := Lib.hid (fun n e => (hF6.kind n e).1)
      have HJ := Lib.hid (fun ob w9 v' (hg : (V6.alloc ob).drew.grownBy w9 vF.ownBlock) hown' => file_joinedR (x := ⟨x, X, S.data.toList⟩) (HW9.out ob) blk6 out6 hF6 hL6 low.2.2 hrows6 hown6 hrep6 hxs hsl6 hc5 hc6 (w1 := w9) (v' := v') hg hown')
      have HBe := Lib.hid (fun ob w9 v' (hg : (V6.alloc ob).drew.grownBy w9 vF.ownBlock) => show Below B w (w9.setCell ⟨o, 2, none⟩ v') from ((hB6.trans ((HW9.out ob).mono (Nat.le_trans hBw hB6.size))).grown hg (HB9.out ob) HBk.out).setCell (p := ⟨o, 2, none⟩) low.2.1 v')
      have HO9 := Lib.hid (fun ob w9 (hg : (V6.alloc ob).drew.grownBy w9 vF.ownBlock) => show w9.heap[o]? = some (RO c t vF vL d) from (hg.block o (Nat.lt_of_lt_of_le hol (HW9.out ob).size) (fun e => kind_ne (hF6.kind o e.symm).2 ⟨_, _, out6⟩ (by decide) rfl)).trans (below_other (HW9.out ob) out6))
      clear hF6 hL6 hown6 hrep6 hsl6 hB6 p0 HF5 HB4 HKeep HM4 HSz HBs HBy
      go_wp2
      go_region_law (first
        | (refine step_append_lies _ rfl _ _ 22 rfl B 65 i0 _ 3 48 Tryz.underlying22 hi0 hz0 hz1 hz2 rfl (by decide) _ st.files.length _ rfl (H9.out _) ⟨V6.heap.size, 0, none⟩ 1 1 [.string x, .bool X, .slice A5 S.size c5] rfl rfl (new_cellsD V6 #[_, _, _] _) (file_one _ _ _ _ _) (by decide) H63.out H48.out (HB9.out _) _ rfl ?_
           intro g9 cap w9 hown9 hgrow hat hlt9
           obtain ⟨⟨_, _, oo2, _, _⟩, ⟨_, _, ff2, _, _⟩, hol9⟩ := ro_cells (HO9.out _ w9 hgrow)))
    all_goals
      obtain ⟨blk9, out9, hF9, hL9⟩ := HJ.out _ _ _ hgrow hown9
      have hB9 := HBe.out _ _ (.slice (some ⟨g9, 0, none⟩) (st.files.length + 1) cap) hgrow
      generalize hV9 : w9.setCell ⟨o, 2, none⟩ (.slice (some ⟨g9, 0, none⟩) (st.files.length + 1) cap) = V9 at blk9 out9 hF9 hL9 hB9 ⊢
      clear hV9 hgrow hown9 oo2 ff2 hol9 HJ HBe HO9 H9 HW9 HB9 HBk m0 m1 m3 o2 f2 hat hlt9
      obtain ⟨⟨b0, b1, b2⟩, ⟨bf1, bf2⟩, hbl9⟩ := qb_cells blk9
      go_wp2
      rcases HCS.out with ⟨hlt, hS, hp', hbad'⟩ | ⟨hlt, hS, hp', hbad'⟩
      · subst hp'; subst hbad'
        have HV := Lib.hid (show R = .error T.size by rw [HR.out, if_pos hlt])
        have hd0 : decide ((T.size : Int) < 0) = false := decide_eq_false (by omega)
        have g1 := IntWalk.i64_in ((p' : Int) + 1) ⟨by omega, by omega⟩
        go_quiet (fail)
        go_wp2
        go_end0
        exact ⟨rfl, StepR.bad HV.out rfl ((below_drewN hB9 _).setCell (p := ⟨b, 1, none⟩) low.1 _) (qb_at (w := V9.drewN _) blk9 (p' + 1) (by omega))⟩
      · subst hp'; subst hbad'
        have hd0 : decide ((-1 : Int) < 0) = true := rfl
        have g1 := IntWalk.i64_in ((p' : Int) + 1) ⟨by omega, by omega⟩
        by_cases heq : p' = T.size
        · have HV := Lib.hid (show R = .error T.size by
            rw [HR.out, if_neg hlt, if_neg, heq]
            have e0 : T.data.toList.length = T.size := by simp
            rw [List.getElem?_eq_none (by omega)]
            simp)
          have HQ := Lib.hid heq
          rw [heq] at blk9 b1
          have he : ((T.size : Int) == (T.size : Int)) = true := by rw [beq_iff_eq]
          have g2 := IntWalk.i64_in ((T.size : Int) + 1) ⟨by omega, by omega⟩
          clear heq g1 hlt hS
          go_quiet (fail)
          go_wp2_with fail
          refine (ref5_stop T b T.size (-1) T.size _ (show (V9.drewN nq).heap[b]? = some (QB T T.size (-1)) from blk9)).mono ?_
          rintro e w11 ⟨rfl, hg11, blk11⟩
          rw [stop_new (by decide)] at blk11
          obtain ⟨⟨d0, d1, d2⟩, ⟨df1, df2⟩, hbl11⟩ := qb_cells blk11
          go_wp2
          go_end0
          exact ⟨rfl, StepR.bad HV.out rfl ((gb_base hBw (below_drewN hB9 _) hg11 low.1).setCell (p := ⟨b, 1, none⟩) low.1 _) (qb_at blk11 (T.size + 1) (by omega))⟩
        · have hmT : p' < T.size := by omega
          have hb10 := byte_at T p' hmT
          have he : ((p' : Int) == (T.size : Int)) = false := by rw [beq_eq_false_iff_ne]; omega
          have hmI : (p' : Int) < (T.size : Int) := by omega
          cases h10 : ((T[p'].toNat : Int) == 10)
          · have h10b : ((T[p'].toNat : Int) != 10) = true := by rw [bne, h10]; rfl
            have HV := Lib.hid (show R = .error p' by
              rw [HR.out, if_neg hlt, if_neg]
              rw [hb10]
              intro e
              rw [Option.some.inj e] at h10
              revert h10; decide)
            clear hb10
            go_quiet (fail)
            go_wp2_with fail
            refine (ref5_stop T b p' (-1) p' _ (show (V9.drewN nq).heap[b]? = _ from blk9)).mono ?_
            rintro e w11 ⟨rfl, hg11, blk11⟩
            rw [stop_new (by decide)] at blk11
            obtain ⟨⟨d0, d1, d2⟩, ⟨df1, df2⟩, hbl11⟩ := qb_cells blk11
            go_wp2
            go_end0
            exact ⟨rfl, StepR.bad HV.out rfl ((gb_base hBw (below_drewN hB9 _) hg11 low.1).setCell (p := ⟨b, 1, none⟩) low.1 _) (qb_at blk11 (p' + 1) (by omega))⟩
          · have h10b : ((T[p'].toNat : Int) != 10) = false := by rw [bne, h10]; rfl
            have HV := Lib.hid (show R = .ok ⟨p' + 1, st.files ++ [⟨x, X, S.data.toList⟩], st.looks⟩ by
              have hx2 : S.data.toList = (T.data.toList.drop q).take (numS z) := by
                rw [hS, Lib.extract_data, show p' - q = numS z by have := HM.out; omega]
              have h10e : T.data.toList[p']? = some 10 := by
                rw [hb10]
                congr 1
                apply UInt8.toNat_inj.1
                rw [beq_iff_eq] at h10
                have : (10 : UInt8).toNat = 10 := rfl
                omega
              rw [HR.out, if_neg hlt, if_pos h10e, hX, hx2, HXt.out])
            have hqp : q ≤ p' := by have := HM.out; omega
            clear hb10
            go_quiet (fail)
            go_wp2
            go_end0
            have hdr : ∀ n, (V9.drewN n).heap = V9.heap := fun _ => rfl
            exact ⟨rfl, StepR.good HV.out ((below_drewN hB9 _).setCell (p := ⟨b, 1, none⟩) low.1 _) ⟨qb_at (w := V9.drewN _) blk9 (p' + 1) (by omega), set_other (w := V9.drewN _) out9 low.2.2 _,
              RowOwn.set (w := V9.drewN _) (t := 51) (p := ⟨b, 1, none⟩) (hF9.keep (fun _ _ => rfl) (fun _ _ => rfl)) ⟨_, _, blk9⟩ (by decide) (by decide) _,
              RowOwn.set (w := V9.drewN _) (t := 51) (p := ⟨b, 1, none⟩) (hL9.keep (fun _ _ => rfl) (fun _ _ => rfl)) ⟨_, _, blk9⟩ (by decide) (by decide) _,
              low, by simp only [List.length_append, List.length_singleton]; exact ⟨by omega, by omega, by omega⟩⟩⟩
end Go.Proofs.Sm
