/- Walks: the reference's ReadResult, walked. -/
import Derived.Test.YtnhcaelapadhaaaGreatDoorW58J
import Derived.Test.YtnhcaelapadhaaaGreatDoorW59J
import Derived.Test.YtnhcaelapadhaaaGreatDoorW22
import Derived.Deep.RegionHeld3
import Derived.Deep.Cut
namespace Go.Proofs.Sm
open Go.RowKit

set_option maxHeartbeats 0 in
set_option maxRecDepth 100000 in
theorem ref5_ReadResult (T : ByteArray) (w : World) (hE : Env w) (hs : T.size ≤ maxLen) :
    Calls Tryz.prog 8 #[.string T] w fun e w' => ReadAns T w e w' := by
  have hm : T.size ≤ 9223372036854775807 := hs
  obtain ⟨i0, hi0, hz0, hz1, hz2⟩ := info_parts look_info
  by_cases hl : (4000000 : Int) < T.size
  · have HV := Lib.hid (readRes_large hl)
    go_enter Tryz.func8, Tryz.ntmps8
    go_wp2
    (try simp only [Exit.inBlock, Exit.then])
    refine bodyPost_ret (v := .tuple #[.agg #[.int .i64 0, .string ⟨#[]⟩, .slice none 0 0, .slice none 0 0, .int .i64 0], .int .i64 0, .int .i64 2]) (by simp [results, Tryz.results8, go_sem]) rfl ?_
    exact ReadAns.zero HV.out (by repeat (first | exact fr_refl _ | refine fr_call ?_ (by assumption) | refine fr_alloc ?_ _ | refine fr_set ?_ (by simp) _ | refine Below.drew ?_ | refine below_drewN ?_ _))
  · have hT : T.size ≤ 4000000 := by omega
    go_enter Tryz.func8, Tryz.ntmps8
    go_wp2_with fail
    generalize hW0 : (((w.alloc (.cells #[.int .i64 0, .string ⟨#[]⟩, .slice none 0 0, .slice none 0 0, .int .i64 0] 25)).alloc (.cells #[.int .i64 0, .string ⟨#[]⟩, .slice none 0 0, .slice none 0 0, .int .i64 0] 25)).alloc (.cells #[.string T, .int .i64 0, .int .i64 (-1)] 51)).alloc (.cells #[.int .i64 0, .string ⟨#[]⟩, .slice none 0 0, .slice none 0 0, .int .i64 0] 25) = W
    have hb0 : Below w.heap.size w W := by rw [← hW0]; exact fr_alloc (fr_alloc (fr_alloc (fr_alloc (fr_refl w) _) _) _) _
    have hsz : W.heap.size = w.heap.size + 4 := by rw [← hW0]; simp
    have hres : W.heap[w.heap.size]? = some RZ := by
      rw [← hW0]
      exact (Below.block (fr_alloc (fr_alloc (fr_alloc (fr_refl (w.alloc _)) _) _) _) w.heap.size (by simp)).trans (heap_alloc_new w _)
    have hnon : W.heap[w.heap.size + 1]? = some RZ := by
      rw [← hW0]
      have := heap_alloc_new (w.alloc (.cells #[.int .i64 0, .string ⟨#[]⟩, .slice none 0 0, .slice none 0 0, .int .i64 0] 25)) RZ
      rw [World.size_alloc] at this
      exact (Below.block (fr_alloc (fr_alloc (fr_refl ((w.alloc _).alloc _)) _) _) (w.heap.size + 1) (by simp)).trans this
    have hblk : W.heap[w.heap.size + 2]? = some (QB T 0 (-1)) := by
      rw [← hW0]
      have := heap_alloc_new ((w.alloc (.cells #[.int .i64 0, .string ⟨#[]⟩, .slice none 0 0, .slice none 0 0, .int .i64 0] 25)).alloc (.cells #[.int .i64 0, .string ⟨#[]⟩, .slice none 0 0, .slice none 0 0, .int .i64 0] 25)) (QB T 0 (-1))
      rw [World.size_alloc, World.size_alloc] at this
      exact (Below.block (fr_alloc (fr_refl (((w.alloc _).alloc _).alloc _)) _) (w.heap.size + 2) (by simp)).trans this
    have hout : W.heap[w.heap.size + 3]? = some (RO 0 ⟨#[]⟩ (.slice none 0 0) (.slice none 0 0) 0) := by
      rw [← hW0]
      have := heap_alloc_new (((w.alloc (.cells #[.int .i64 0, .string ⟨#[]⟩, .slice none 0 0, .slice none 0 0, .int .i64 0] 25)).alloc (.cells #[.int .i64 0, .string ⟨#[]⟩, .slice none 0 0, .slice none 0 0, .int .i64 0] 25)).alloc (.cells #[.string T, .int .i64 0, .int .i64 (-1)] 51)) (RO 0 ⟨#[]⟩ (.slice none 0 0) (.slice none 0 0) 0)
      rw [World.size_alloc, World.size_alloc, World.size_alloc] at this
      exact this
    clear hW0
    have hE0 := hE.then_ hb0
    obtain ⟨B, hBe⟩ : ∃ B, B = w.heap.size + 2 := ⟨_, rfl⟩
    obtain ⟨b, hbe⟩ : ∃ b, b = w.heap.size + 2 := ⟨_, rfl⟩
    obtain ⟨o, hoe⟩ : ∃ o, o = w.heap.size + 3 := ⟨_, rfl⟩
    have hnB : 8 ≤ B := by have := hE.size; omega
    have hBW : B ≤ W.heap.size := by omega
    have hob : o ≠ b := by omega
    have hlow : B ≤ b ∧ B ≤ o ∧ o ≠ b := ⟨by omega, by omega, hob⟩
    have hresB : w.heap.size < B := by omega
    have hnonB : w.heap.size + 1 < B := by omega
    rw [← hoe] at hout ⊢
    rw [← hbe] at hblk ⊢
    have HB := Lib.hid hBe
    clear hBe hsz
    refine (ref5_head T B b o W hE0 hnB hBW hlow.1 hlow.2.1 hob hblk hout hT).mono ?_
    intro e w1 hh
    obtain ⟨rfl, c, t, d, R, hloop, hR1, hR2⟩ := loop_start hh (Below.refl B W) hlow
    have HR1 := Lib.hid hR1
    have HR2 := Lib.hid hR2
    clear hR1 hR2 hblk hout hh hbe hoe
    go_wp2
    go_loopw [] (fun wr => LoopR B b o T c t d R W wr) (fun wr => measR wr b T.size)
    case atStart => exact hloop
    case round =>
      clear hloop
      obtain ⟨hbel, hrel⟩ := hrel
      have hres1 := (hbel.block _ hresB).trans hres
      have hnon1 := (hbel.block _ hnonB).trans hnon
      obtain ⟨⟨z0, z1, z2, z3, z4⟩, ⟨yy0, yy1, yy2, yy3, yy4⟩, hzl⟩ := rz_cells hres1
      obtain ⟨⟨n0, n1, n2, n3, n4⟩, _, hnl⟩ := rz_cells hnon1
      have hbw := hb0.trans (hbel.mono (by omega : w.heap.size ≤ B))
      rcases hrel with ⟨st, vF, vL, hrd, hrun⟩ | ⟨p, q, blk, hRe⟩
      · have HRun := Lib.hid hrun; clear hrun
        have hroom := hrd.room
        obtain ⟨⟨b0, b1, b2⟩, _, hbl⟩ := qb_cells hrd.blk
        have hd0 : decide ((-1 : Int) < 0) = true := rfl
        obtain ⟨AL, cL, hvL⟩ := hrd.looks.form
        subst hvL
        obtain ⟨AF, cF, hvF⟩ := hrd.files.form
        subst hvF
        by_cases hlt : st.pos < T.size
        · have hdI : (st.pos : Int) < (T.size : Int) := by omega
          have hdd : decide ((st.pos : Int) < (T.size : Int)) = true := decide_eq_true hdI
          cases hrow : rowS T st.pos with
          | none =>
            have HS := Lib.hid (show R = .error st.pos by rw [← HRun.out, run_stop hlt (step_none hrow)])
            go_wp2_with fail
            refine (ref5_line T b st.pos (-1) _ (hE0.below hbel hnB) hrd.blk hrd.room.2.2 hT).mono ?_
            rintro e w2 hans
            rw [hrow] at hans
            obtain ⟨hg2, rfl, q, hq, blk2⟩ := hans
            go_wp2_with fail
            refine (ref5_stop T b _ (-1) st.pos _ blk2).mono ?_
            rintro e w3 ⟨rfl, hg3, blk3⟩
            rw [stop_new (by decide)] at blk3
            go_wp2
            go_roundw
            case rel => exact LoopR.bad blk3 rfl HS.out (gb_base hBW hbel (gb_trans hg2 hg3) hrd.low.1)
            case measure => rw [measR_ok hrd.blk, measR_bad blk3]; omega
          | some r =>
            obtain ⟨l, q⟩ := r
            have hstep := step_row hrow
            obtain ⟨hpq, hqT⟩ := row_place hrow
            obtain ⟨w0, ws, rfl⟩ := row_words hrow
            by_cases h4 : ws.length = 3
            · obtain ⟨x, y, z, rfl⟩ := list_three (show ws.length + 1 = 4 by omega)
              clear h4
              have hstep : stepS T st = (if (w0.data.toList == fileW && st.looks.isEmpty) = true then fileR T st x y z q
                else if (w0.data.toList == lookW && isRunS z) = true then .ok ⟨q, st.files, st.looks ++ [⟨x, undash y, isX z⟩]⟩ else .error st.pos) := hstep
              rw [← Lib.toList_data] at hstep
              cases hf : (w0.toList == [102, 105, 108, 101])
              · have hf' : (w0.toList == fileW) = false := hf
                rw [hf', Bool.false_and, if_neg (by decide)] at hstep
                cases hk : (w0.toList == [108, 111, 111, 107])
                · have hk' : (w0.toList == lookW) = false := hk
                  rw [hk', Bool.false_and, if_neg (by decide)] at hstep
                  have HS := Lib.hid (show R = .error st.pos by rw [← HRun.out, run_stop hlt hstep])
                  clear hstep hf' hk'
                  go_wp2_with fail
                  refine (ref5_line T b st.pos (-1) _ (hE0.below hbel hnB) hrd.blk hrd.room.2.2 hT).mono ?_
                  rintro e w2 hans
                  rw [hrow] at hans
                  obtain ⟨hg2, A, rfl, hln, hsl, blk2⟩ := hans
                  have hsl : Sl w2 (From _ w2) A 4 [w0, x, y, z] := hsl
                  obtain ⟨g, k, rfl, ⟨hgl, hgs⟩, ⟨_, hxs, hys, hzs⟩, y0, y1, y2, y3⟩ := sl_four hsl
                  have out2 := gb_other hg2 hrd.out hob
                  have hkr : ∀ n, some b = some n → Kind 51 _ n := fun n e => by cases e; exact ⟨_, _, hrd.blk⟩
                  have hF2 := hrd.files.other hg2 hkr (by decide) (by decide)
                  have hL2 := hrd.looks.other hg2 hkr (by decide) (by decide)
                  have hbel2 := gb_base hBW hbel hg2 hrd.low.1
                  obtain ⟨⟨_, _, _, o3, _⟩, ⟨_, _, _, f3, _⟩, hol⟩ := ro_cells out2
                  clear hkr hln
                  go_wp2_with fail
                  refine (ref5_stop T b _ (-1) st.pos _ blk2).mono ?_
                  rintro e w3 ⟨rfl, hg3, blk3⟩
                  rw [stop_new (by decide)] at blk3
                  go_wp2
                  go_roundw
                  case rel => exact LoopR.bad blk3 rfl HS.out (gb_base hBW hbel (gb_trans hg2 hg3) hrd.low.1)
                  case measure => rw [measR_ok hrd.blk, measR_bad blk3]; omega
                · have hk' : (w0.toList == lookW) = true := hk
                  rw [hk', Bool.true_and] at hstep
                  have e120 : (z.toList == [120]) = isX z := by rw [isX, Lib.toList_data]
                  cases hX : isX z
                  · rw [hX] at e120
                    cases h45 : (z.toList == [45])
                    · rw [isRunS, hX, ← Lib.toList_data, h45, if_neg (by decide)] at hstep
                      have HS := Lib.hid (show R = .error st.pos by rw [← HRun.out, run_stop hlt hstep])
                      clear hstep hf' hk' hX
                      go_wp2_with fail
                      refine (ref5_line T b st.pos (-1) _ (hE0.below hbel hnB) hrd.blk hrd.room.2.2 hT).mono ?_
                      rintro e w2 hans
                      rw [hrow] at hans
                      obtain ⟨hg2, A, rfl, hln, hsl, blk2⟩ := hans
                      have hsl : Sl w2 (From _ w2) A 4 [w0, x, y, z] := hsl
                      obtain ⟨g, k, rfl, ⟨hgl, hgs⟩, ⟨_, hxs, hys, hzs⟩, y0, y1, y2, y3⟩ := sl_four hsl
                      have out2 := gb_other hg2 hrd.out hob
                      have hkr : ∀ n, some b = some n → Kind 51 _ n := fun n e => by cases e; exact ⟨_, _, hrd.blk⟩
                      have hF2 := hrd.files.other hg2 hkr (by decide) (by decide)
                      have hL2 := hrd.looks.other hg2 hkr (by decide) (by decide)
                      have hbel2 := gb_base hBW hbel hg2 hrd.low.1
                      obtain ⟨⟨_, _, _, o3, _⟩, ⟨_, _, _, f3, _⟩, hol⟩ := ro_cells out2
                      clear hkr hln
                      go_wp2_with fail
                      refine (ref5_stop T b _ (-1) st.pos _ blk2).mono ?_
                      rintro e w3 ⟨rfl, hg3, blk3⟩
                      rw [stop_new (by decide)] at blk3
                      go_wp2
                      go_roundw
                      case rel => exact LoopR.bad blk3 rfl HS.out (gb_base hBW hbel (gb_trans hg2 hg3) hrd.low.1)
                      case measure => rw [measR_ok hrd.blk, measR_bad blk3]; omega
                    · rw [isRunS, hX, ← Lib.toList_data, h45, if_pos (by decide)] at hstep
                      rw [← hX] at hstep
                      have HS := Lib.hid hstep
                      have HX := Lib.hid hX
                      clear hstep hf' hk' hX
                      cases hd : (y.toList == [45])
                      · have HU := Lib.hid (show undash y = y by rw [undash, ← Lib.toList_data, hd]; rfl)
                        go_wp2_with fail
                        refine (ref5_line T b st.pos (-1) _ (hE0.below hbel hnB) hrd.blk hrd.room.2.2 hT).mono ?_
                        rintro e w2 hans
                        rw [hrow] at hans
                        obtain ⟨hg2, A, rfl, hln, hsl, blk2⟩ := hans
                        have hsl : Sl w2 (From _ w2) A 4 [w0, x, y, z] := hsl
                        obtain ⟨g, k, rfl, ⟨hgl, hgs⟩, ⟨_, hxs, hys, hzs⟩, y0, y1, y2, y3⟩ := sl_four hsl
                        have out2 := gb_other hg2 hrd.out hob
                        have hkr : ∀ n, some b = some n → Kind 51 _ n := fun n e => by cases e; exact ⟨_, _, hrd.blk⟩
                        have hF2 := hrd.files.other hg2 hkr (by decide) (by decide)
                        have hL2 := hrd.looks.other hg2 hkr (by decide) (by decide)
                        have hbel2 := gb_base hBW hbel hg2 hrd.low.1
                        obtain ⟨⟨_, _, _, o3, _⟩, ⟨_, _, _, f3, _⟩, hol⟩ := ro_cells out2
                        clear hkr hln
                        go_wp2
                        have HK := Lib.hid (show ∀ w' : World, w'.heap[g]? = w2.heap[g]? → (w'.heap[g]? = w2.heap[g]? ∧ w'.cell? ⟨g, k + 1, none⟩ = some (.string x) ∧ w'.cell? ⟨g, k + 2, none⟩ = some (.string y) ∧ w'.cell? ⟨g, k + 3, none⟩ = some (.string z)) from fun w' hw =>
                          ⟨hw, (World.cell?_of_block (a := ⟨g, k + 1, none⟩) hw).trans y1, (World.cell?_of_block (a := ⟨g, k + 2, none⟩) hw).trans y2, (World.cell?_of_block (a := ⟨g, k + 3, none⟩) hw).trans y3⟩)
                        have HA := Lib.hid (fun o => show (w2.drew.alloc o).heap[g]? = w2.heap[g]? from (fr_alloc (fr_refl w2.drew) o).block g hgs)
                        have hgn : g ≠ w2.heap.size := by omega
                        go_region_held3 (fun w' => w'.heap[g]? = w2.heap[g]? ∧ w'.cell? ⟨g, k + 1, none⟩ = some (.string x) ∧ w'.cell? ⟨g, k + 2, none⟩ = some (.string y) ∧ w'.cell? ⟨g, k + 3, none⟩ = some (.string z))
                          (first | assumption | exact HK.out _ rfl | exact HK.out _ (HA.out _) | exact HK.out _ ((heap_setCell_other _ _ g _ hgn).trans (And.left (by assumption))))
                          (fail)
                        clear hgn HA HK y0 y1 y2 y3
                        go_upto_region 17 with fail
                        generalize hV : (w2.alloc (.cells #[.string x, .string y, .bool false] 57)).drew = V
                        have q1 : ∃ u : ByteArray, u = undash y ∧ u.size ≤ maxLen ∧ V.heap[w2.heap.size]? = some (.cells #[.string x, .string u, .bool (isX z)] 57 (0, 0)) := ⟨y, HU.out.symm, hys, by rw [← hV, HX.out]; exact heap_alloc_new w2 _⟩
                        have q2 : Below w2.heap.size w2 V := by rw [← hV]; exact (fr_alloc (fr_refl w2) _).drew
                        clear hV
                        obtain ⟨u, hu, hus, q1⟩ := q1
                        have m0 : V.cell? ⟨w2.heap.size, 0, none⟩ = some (.string x) := by rw [Lib.cell_of_heap q1]; rfl
                        have m1 : V.cell? ⟨w2.heap.size, 1, none⟩ = some (.string u) := by rw [Lib.cell_of_heap q1]; rfl
                        have m2 : V.cell? ⟨w2.heap.size, 2, none⟩ = some (.bool (isX z)) := by rw [Lib.cell_of_heap q1]; rfl
                        have hsV := heap_lt q1
                        have blkV := qb_call blk2 q2
                        have outV := below_other q2 out2
                        have hFV := hF2.call q2
                        have hLV := hL2.call q2
                        obtain ⟨⟨_, _, _, o3, _⟩, ⟨_, _, _, f3, _⟩, hol⟩ := ro_cells outV
                        obtain ⟨rows, hrows, hownV, hrepV⟩ := id hLV
                        have hVB : Below B W V := (hbel2.trans (q2.mono (Nat.le_trans hBW hbel2.size)))
                        have hown9 := hownV.alloc (.cells #[.string x, .string u, .bool (isX z)] 57)
                        have HN := Lib.hid (show stepS T st = .ok ⟨q, st.files, st.looks ++ [⟨x, u, isX z⟩]⟩ by rw [hu]; exact HS.out)
                        clear hu HS
                        go_wp2_with (at_builtin; refine wpList_append_own _ rfl _ _ 23 rfl B 57 i0 _ 3 40 Tryz.underlying23 hi0 hz0 hz1 hz2 rfl (by decide) _ st.looks.length _ rfl hown9 ⟨V.heap.size, 0, none⟩ 1 1 [.string x, .string u, .bool (isX z)] rfl rfl ?c1 ?c2 ?c3 ?c4 ?c5 ?_)
                        case c1 => exact new_cells V #[_, _, _] _
                        case c2 => exact look_one _ _ _
                        case c3 => unfold maxLen; omega
                        case c4 => omega
                        case c5 => exact Nat.le_trans hBW (Nat.le_trans hVB.size (fr_alloc (fr_refl V) _).size)
                        intro v' w4 hown' hgrow hnil
                        have HW9 : Below V.heap.size V (V.alloc (.cells #[.string x, .string u, .bool (isX z)] 57)) := fr_alloc (fr_refl V) _
                        obtain ⟨b9, o9, F9, L9⟩ := look_joinedR (x := ⟨x, u, isX z⟩) HW9 blkV outV hFV hLV hob hrows hownV hrepV hxs hus hgrow hown'
                        have out9 : w4.heap[o]? = some (RO c t (.slice AF st.files.length cF) (.slice AL st.looks.length cL) d) := (hgrow.block o (Nat.lt_of_lt_of_le hol HW9.size) (fun e => kind_ne (hLV.kind o e.symm).2 ⟨_, _, outV⟩ (by decide) rfl)).trans (below_other HW9 outV)
                        obtain ⟨⟨_, _, _, oo3, _⟩, ⟨_, _, _, ff3, _⟩, hol4⟩ := ro_cells out9
                        have hB9 : Below B W (w4.setCell ⟨o, 3, none⟩ v') := ((hVB.trans (HW9.mono (Nat.le_trans hBW hVB.size))).grown hgrow (Nat.le_trans hBW (Nat.le_trans hVB.size HW9.size)) (fun n e => (hLV.kind n e).1)).setCell (p := ⟨o, 3, none⟩) hrd.low.2.1 v'
                        have hrd9 : ARr (w4.setCell ⟨o, 3, none⟩ v') B b o T c t d ⟨q, st.files, st.looks ++ [⟨x, u, isX z⟩]⟩ (.slice AF st.files.length cF) v' := ⟨b9, o9, F9, L9, hrd.low, by simp only [List.length_append, List.length_singleton]; exact ⟨by omega, by omega, by omega⟩⟩
                        have hBlk := hrd.blk
                        obtain ⟨A', c', hv'⟩ := L9.form
                        rw [List.length_append, List.length_singleton] at hv'
                        clear hown9 hown' hgrow hnil b9 o9 F9 L9 hFV hLV hownV hrepV
                        subst hv'
                        go_wp2
                        go_roundw
                        case rel => exact LoopR.ok hrd9 (by rw [← HRun.out, run_round hlt HN.out]) hB9
                        case measure => rw [measR_ok hBlk, measR_ok hrd9.blk]; show _ < _; simp only; omega
                      · have HU := Lib.hid (show undash y = ⟨#[]⟩ by rw [undash, ← Lib.toList_data, hd]; rfl)
                        go_wp2_with fail
                        refine (ref5_line T b st.pos (-1) _ (hE0.below hbel hnB) hrd.blk hrd.room.2.2 hT).mono ?_
                        rintro e w2 hans
                        rw [hrow] at hans
                        obtain ⟨hg2, A, rfl, hln, hsl, blk2⟩ := hans
                        have hsl : Sl w2 (From _ w2) A 4 [w0, x, y, z] := hsl
                        obtain ⟨g, k, rfl, ⟨hgl, hgs⟩, ⟨_, hxs, hys, hzs⟩, y0, y1, y2, y3⟩ := sl_four hsl
                        have out2 := gb_other hg2 hrd.out hob
                        have hkr : ∀ n, some b = some n → Kind 51 _ n := fun n e => by cases e; exact ⟨_, _, hrd.blk⟩
                        have hF2 := hrd.files.other hg2 hkr (by decide) (by decide)
                        have hL2 := hrd.looks.other hg2 hkr (by decide) (by decide)
                        have hbel2 := gb_base hBW hbel hg2 hrd.low.1
                        obtain ⟨⟨_, _, _, o3, _⟩, ⟨_, _, _, f3, _⟩, hol⟩ := ro_cells out2
                        clear hkr hln
                        go_wp2
                        have HK := Lib.hid (show ∀ w' : World, w'.heap[g]? = w2.heap[g]? → (w'.heap[g]? = w2.heap[g]? ∧ w'.cell? ⟨g, k + 1, none⟩ = some (.string x) ∧ w'.cell? ⟨g, k + 2, none⟩ = some (.string y) ∧ w'.cell? ⟨g, k + 3, none⟩ = some (.string z)) from fun w' hw =>
                          ⟨hw, (World.cell?_of_block (a := ⟨g, k + 1, none⟩) hw).trans y1, (World.cell?_of_block (a := ⟨g, k + 2, none⟩) hw).trans y2, (World.cell?_of_block (a := ⟨g, k + 3, none⟩) hw).trans y3⟩)
                        have HA := Lib.hid (fun o => show (w2.drew.alloc o).heap[g]? = w2.heap[g]? from (fr_alloc (fr_refl w2.drew) o).block g hgs)
                        have hgn : g ≠ w2.heap.size := by omega
                        go_region_held3 (fun w' => w'.heap[g]? = w2.heap[g]? ∧ w'.cell? ⟨g, k + 1, none⟩ = some (.string x) ∧ w'.cell? ⟨g, k + 2, none⟩ = some (.string y) ∧ w'.cell? ⟨g, k + 3, none⟩ = some (.string z))
                          (first | assumption | exact HK.out _ rfl | exact HK.out _ (HA.out _) | exact HK.out _ ((heap_setCell_other _ _ g _ hgn).trans (And.left (by assumption))))
                          (fail)
                        clear hgn HA HK y0 y1 y2 y3
                        go_upto_region 17 with fail
                        generalize hV : (w2.alloc (.cells #[.string x, .string ⟨#[]⟩, .bool false] 57)).drew = V
                        have q1 : ∃ u : ByteArray, u = undash y ∧ u.size ≤ maxLen ∧ V.heap[w2.heap.size]? = some (.cells #[.string x, .string u, .bool (isX z)] 57 (0, 0)) := ⟨⟨#[]⟩, HU.out.symm, by decide, by rw [← hV, HX.out]; exact heap_alloc_new w2 _⟩
                        have q2 : Below w2.heap.size w2 V := by rw [← hV]; exact (fr_alloc (fr_refl w2) _).drew
                        clear hV
                        obtain ⟨u, hu, hus, q1⟩ := q1
                        have m0 : V.cell? ⟨w2.heap.size, 0, none⟩ = some (.string x) := by rw [Lib.cell_of_heap q1]; rfl
                        have m1 : V.cell? ⟨w2.heap.size, 1, none⟩ = some (.string u) := by rw [Lib.cell_of_heap q1]; rfl
                        have m2 : V.cell? ⟨w2.heap.size, 2, none⟩ = some (.bool (isX z)) := by rw [Lib.cell_of_heap q1]; rfl
                        have hsV := heap_lt q1
                        have blkV := qb_call blk2 q2
                        have outV := below_other q2 out2
                        have hFV := hF2.call q2
                        have hLV := hL2.call q2
                        obtain ⟨⟨_, _, _, o3, _⟩, ⟨_, _, _, f3, _⟩, hol⟩ := ro_cells outV
                        obtain ⟨rows, hrows, hownV, hrepV⟩ := id hLV
                        have hVB : Below B W V := (hbel2.trans (q2.mono (Nat.le_trans hBW hbel2.size)))
                        have hown9 := hownV.alloc (.cells #[.string x, .string u, .bool (isX z)] 57)
                        have HN := Lib.hid (show stepS T st = .ok ⟨q, st.files, st.looks ++ [⟨x, u, isX z⟩]⟩ by rw [hu]; exact HS.out)
                        clear hu HS
                        go_wp2_with (at_builtin; refine wpList_append_own _ rfl _ _ 23 rfl B 57 i0 _ 3 40 Tryz.underlying23 hi0 hz0 hz1 hz2 rfl (by decide) _ st.looks.length _ rfl hown9 ⟨V.heap.size, 0, none⟩ 1 1 [.string x, .string u, .bool (isX z)] rfl rfl ?c1 ?c2 ?c3 ?c4 ?c5 ?_)
                        case c1 => exact new_cells V #[_, _, _] _
                        case c2 => exact look_one _ _ _
                        case c3 => unfold maxLen; omega
                        case c4 => omega
                        case c5 => exact Nat.le_trans hBW (Nat.le_trans hVB.size (fr_alloc (fr_refl V) _).size)
                        intro v' w4 hown' hgrow hnil
                        have HW9 : Below V.heap.size V (V.alloc (.cells #[.string x, .string u, .bool (isX z)] 57)) := fr_alloc (fr_refl V) _
                        obtain ⟨b9, o9, F9, L9⟩ := look_joinedR (x := ⟨x, u, isX z⟩) HW9 blkV outV hFV hLV hob hrows hownV hrepV hxs hus hgrow hown'
                        have out9 : w4.heap[o]? = some (RO c t (.slice AF st.files.length cF) (.slice AL st.looks.length cL) d) := (hgrow.block o (Nat.lt_of_lt_of_le hol HW9.size) (fun e => kind_ne (hLV.kind o e.symm).2 ⟨_, _, outV⟩ (by decide) rfl)).trans (below_other HW9 outV)
                        obtain ⟨⟨_, _, _, oo3, _⟩, ⟨_, _, _, ff3, _⟩, hol4⟩ := ro_cells out9
                        have hB9 : Below B W (w4.setCell ⟨o, 3, none⟩ v') := ((hVB.trans (HW9.mono (Nat.le_trans hBW hVB.size))).grown hgrow (Nat.le_trans hBW (Nat.le_trans hVB.size HW9.size)) (fun n e => (hLV.kind n e).1)).setCell (p := ⟨o, 3, none⟩) hrd.low.2.1 v'
                        have hrd9 : ARr (w4.setCell ⟨o, 3, none⟩ v') B b o T c t d ⟨q, st.files, st.looks ++ [⟨x, u, isX z⟩]⟩ (.slice AF st.files.length cF) v' := ⟨b9, o9, F9, L9, hrd.low, by simp only [List.length_append, List.length_singleton]; exact ⟨by omega, by omega, by omega⟩⟩
                        have hBlk := hrd.blk
                        obtain ⟨A', c', hv'⟩ := L9.form
                        rw [List.length_append, List.length_singleton] at hv'
                        clear hown9 hown' hgrow hnil b9 o9 F9 L9 hFV hLV hownV hrepV
                        subst hv'
                        go_wp2
                        go_roundw
                        case rel => exact LoopR.ok hrd9 (by rw [← HRun.out, run_round hlt HN.out]) hB9
                        case measure => rw [measR_ok hBlk, measR_ok hrd9.blk]; show _ < _; simp only; omega
                  · rw [hX] at e120
                    rw [isRunS, hX, Bool.true_or, if_pos rfl] at hstep
                    rw [← hX] at hstep
                    have HS := Lib.hid hstep
                    have HX := Lib.hid hX
                    clear hstep hf' hk' hX
                    cases hd : (y.toList == [45])
                    · have HU := Lib.hid (show undash y = y by rw [undash, ← Lib.toList_data, hd]; rfl)
                      go_wp2_with fail
                      refine (ref5_line T b st.pos (-1) _ (hE0.below hbel hnB) hrd.blk hrd.room.2.2 hT).mono ?_
                      rintro e w2 hans
                      rw [hrow] at hans
                      obtain ⟨hg2, A, rfl, hln, hsl, blk2⟩ := hans
                      have hsl : Sl w2 (From _ w2) A 4 [w0, x, y, z] := hsl
                      obtain ⟨g, k, rfl, ⟨hgl, hgs⟩, ⟨_, hxs, hys, hzs⟩, y0, y1, y2, y3⟩ := sl_four hsl
                      have out2 := gb_other hg2 hrd.out hob
                      have hkr : ∀ n, some b = some n → Kind 51 _ n := fun n e => by cases e; exact ⟨_, _, hrd.blk⟩
                      have hF2 := hrd.files.other hg2 hkr (by decide) (by decide)
                      have hL2 := hrd.looks.other hg2 hkr (by decide) (by decide)
                      have hbel2 := gb_base hBW hbel hg2 hrd.low.1
                      obtain ⟨⟨_, _, _, o3, _⟩, ⟨_, _, _, f3, _⟩, hol⟩ := ro_cells out2
                      clear hkr hln
                      go_wp2
                      have HK := Lib.hid (show ∀ w' : World, w'.heap[g]? = w2.heap[g]? → (w'.heap[g]? = w2.heap[g]? ∧ w'.cell? ⟨g, k + 1, none⟩ = some (.string x) ∧ w'.cell? ⟨g, k + 2, none⟩ = some (.string y) ∧ w'.cell? ⟨g, k + 3, none⟩ = some (.string z)) from fun w' hw =>
                        ⟨hw, (World.cell?_of_block (a := ⟨g, k + 1, none⟩) hw).trans y1, (World.cell?_of_block (a := ⟨g, k + 2, none⟩) hw).trans y2, (World.cell?_of_block (a := ⟨g, k + 3, none⟩) hw).trans y3⟩)
                      have HA := Lib.hid (fun o => show (w2.drew.alloc o).heap[g]? = w2.heap[g]? from (fr_alloc (fr_refl w2.drew) o).block g hgs)
                      have hgn : g ≠ w2.heap.size := by omega
                      go_region_held3 (fun w' => w'.heap[g]? = w2.heap[g]? ∧ w'.cell? ⟨g, k + 1, none⟩ = some (.string x) ∧ w'.cell? ⟨g, k + 2, none⟩ = some (.string y) ∧ w'.cell? ⟨g, k + 3, none⟩ = some (.string z))
                        (first | assumption | exact HK.out _ rfl | exact HK.out _ (HA.out _) | exact HK.out _ ((heap_setCell_other _ _ g _ hgn).trans (And.left (by assumption))))
                        (fail)
                      clear hgn HA HK y0 y1 y2 y3
                      go_upto_region 17 with fail
                      generalize hV : (w2.alloc (.cells #[.string x, .string y, .bool true] 57)).drew = V
                      have q1 : ∃ u : ByteArray, u = undash y ∧ u.size ≤ maxLen ∧ V.heap[w2.heap.size]? = some (.cells #[.string x, .string u, .bool (isX z)] 57 (0, 0)) := ⟨y, HU.out.symm, hys, by rw [← hV, HX.out]; exact heap_alloc_new w2 _⟩
                      have q2 : Below w2.heap.size w2 V := by rw [← hV]; exact (fr_alloc (fr_refl w2) _).drew
                      clear hV
                      obtain ⟨u, hu, hus, q1⟩ := q1
                      have m0 : V.cell? ⟨w2.heap.size, 0, none⟩ = some (.string x) := by rw [Lib.cell_of_heap q1]; rfl
                      have m1 : V.cell? ⟨w2.heap.size, 1, none⟩ = some (.string u) := by rw [Lib.cell_of_heap q1]; rfl
                      have m2 : V.cell? ⟨w2.heap.size, 2, none⟩ = some (.bool (isX z)) := by rw [Lib.cell_of_heap q1]; rfl
                      have hsV := heap_lt q1
                      have blkV := qb_call blk2 q2
                      have outV := below_other q2 out2
                      have hFV := hF2.call q2
                      have hLV := hL2.call q2
                      obtain ⟨⟨_, _, _, o3, _⟩, ⟨_, _, _, f3, _⟩, hol⟩ := ro_cells outV
                      obtain ⟨rows, hrows, hownV, hrepV⟩ := id hLV
                      have hVB : Below B W V := (hbel2.trans (q2.mono (Nat.le_trans hBW hbel2.size)))
                      have hown9 := hownV.alloc (.cells #[.string x, .string u, .bool (isX z)] 57)
                      have HN := Lib.hid (show stepS T st = .ok ⟨q, st.files, st.looks ++ [⟨x, u, isX z⟩]⟩ by rw [hu]; exact HS.out)
                      clear hu HS
                      go_wp2_with (at_builtin; refine wpList_append_own _ rfl _ _ 23 rfl B 57 i0 _ 3 40 Tryz.underlying23 hi0 hz0 hz1 hz2 rfl (by decide) _ st.looks.length _ rfl hown9 ⟨V.heap.size, 0, none⟩ 1 1 [.string x, .string u, .bool (isX z)] rfl rfl ?c1 ?c2 ?c3 ?c4 ?c5 ?_)
                      case c1 => exact new_cells V #[_, _, _] _
                      case c2 => exact look_one _ _ _
                      case c3 => unfold maxLen; omega
                      case c4 => omega
                      case c5 => exact Nat.le_trans hBW (Nat.le_trans hVB.size (fr_alloc (fr_refl V) _).size)
                      intro v' w4 hown' hgrow hnil
                      have HW9 : Below V.heap.size V (V.alloc (.cells #[.string x, .string u, .bool (isX z)] 57)) := fr_alloc (fr_refl V) _
                      obtain ⟨b9, o9, F9, L9⟩ := look_joinedR (x := ⟨x, u, isX z⟩) HW9 blkV outV hFV hLV hob hrows hownV hrepV hxs hus hgrow hown'
                      have out9 : w4.heap[o]? = some (RO c t (.slice AF st.files.length cF) (.slice AL st.looks.length cL) d) := (hgrow.block o (Nat.lt_of_lt_of_le hol HW9.size) (fun e => kind_ne (hLV.kind o e.symm).2 ⟨_, _, outV⟩ (by decide) rfl)).trans (below_other HW9 outV)
                      obtain ⟨⟨_, _, _, oo3, _⟩, ⟨_, _, _, ff3, _⟩, hol4⟩ := ro_cells out9
                      have hB9 : Below B W (w4.setCell ⟨o, 3, none⟩ v') := ((hVB.trans (HW9.mono (Nat.le_trans hBW hVB.size))).grown hgrow (Nat.le_trans hBW (Nat.le_trans hVB.size HW9.size)) (fun n e => (hLV.kind n e).1)).setCell (p := ⟨o, 3, none⟩) hrd.low.2.1 v'
                      have hrd9 : ARr (w4.setCell ⟨o, 3, none⟩ v') B b o T c t d ⟨q, st.files, st.looks ++ [⟨x, u, isX z⟩]⟩ (.slice AF st.files.length cF) v' := ⟨b9, o9, F9, L9, hrd.low, by simp only [List.length_append, List.length_singleton]; exact ⟨by omega, by omega, by omega⟩⟩
                      have hBlk := hrd.blk
                      obtain ⟨A', c', hv'⟩ := L9.form
                      rw [List.length_append, List.length_singleton] at hv'
                      clear hown9 hown' hgrow hnil b9 o9 F9 L9 hFV hLV hownV hrepV
                      subst hv'
                      go_wp2
                      go_roundw
                      case rel => exact LoopR.ok hrd9 (by rw [← HRun.out, run_round hlt HN.out]) hB9
                      case measure => rw [measR_ok hBlk, measR_ok hrd9.blk]; show _ < _; simp only; omega
                    · have HU := Lib.hid (show undash y = ⟨#[]⟩ by rw [undash, ← Lib.toList_data, hd]; rfl)
                      go_wp2_with fail
                      refine (ref5_line T b st.pos (-1) _ (hE0.below hbel hnB) hrd.blk hrd.room.2.2 hT).mono ?_
                      rintro e w2 hans
                      rw [hrow] at hans
                      obtain ⟨hg2, A, rfl, hln, hsl, blk2⟩ := hans
                      have hsl : Sl w2 (From _ w2) A 4 [w0, x, y, z] := hsl
                      obtain ⟨g, k, rfl, ⟨hgl, hgs⟩, ⟨_, hxs, hys, hzs⟩, y0, y1, y2, y3⟩ := sl_four hsl
                      have out2 := gb_other hg2 hrd.out hob
                      have hkr : ∀ n, some b = some n → Kind 51 _ n := fun n e => by cases e; exact ⟨_, _, hrd.blk⟩
                      have hF2 := hrd.files.other hg2 hkr (by decide) (by decide)
                      have hL2 := hrd.looks.other hg2 hkr (by decide) (by decide)
                      have hbel2 := gb_base hBW hbel hg2 hrd.low.1
                      obtain ⟨⟨_, _, _, o3, _⟩, ⟨_, _, _, f3, _⟩, hol⟩ := ro_cells out2
                      clear hkr hln
                      go_wp2
                      have HK := Lib.hid (show ∀ w' : World, w'.heap[g]? = w2.heap[g]? → (w'.heap[g]? = w2.heap[g]? ∧ w'.cell? ⟨g, k + 1, none⟩ = some (.string x) ∧ w'.cell? ⟨g, k + 2, none⟩ = some (.string y) ∧ w'.cell? ⟨g, k + 3, none⟩ = some (.string z)) from fun w' hw =>
                        ⟨hw, (World.cell?_of_block (a := ⟨g, k + 1, none⟩) hw).trans y1, (World.cell?_of_block (a := ⟨g, k + 2, none⟩) hw).trans y2, (World.cell?_of_block (a := ⟨g, k + 3, none⟩) hw).trans y3⟩)
                      have HA := Lib.hid (fun o => show (w2.drew.alloc o).heap[g]? = w2.heap[g]? from (fr_alloc (fr_refl w2.drew) o).block g hgs)
                      have hgn : g ≠ w2.heap.size := by omega
                      go_region_held3 (fun w' => w'.heap[g]? = w2.heap[g]? ∧ w'.cell? ⟨g, k + 1, none⟩ = some (.string x) ∧ w'.cell? ⟨g, k + 2, none⟩ = some (.string y) ∧ w'.cell? ⟨g, k + 3, none⟩ = some (.string z))
                        (first | assumption | exact HK.out _ rfl | exact HK.out _ (HA.out _) | exact HK.out _ ((heap_setCell_other _ _ g _ hgn).trans (And.left (by assumption))))
                        (fail)
                      clear hgn HA HK y0 y1 y2 y3
                      go_upto_region 17 with fail
                      generalize hV : (w2.alloc (.cells #[.string x, .string ⟨#[]⟩, .bool true] 57)).drew = V
                      have q1 : ∃ u : ByteArray, u = undash y ∧ u.size ≤ maxLen ∧ V.heap[w2.heap.size]? = some (.cells #[.string x, .string u, .bool (isX z)] 57 (0, 0)) := ⟨⟨#[]⟩, HU.out.symm, by decide, by rw [← hV, HX.out]; exact heap_alloc_new w2 _⟩
                      have q2 : Below w2.heap.size w2 V := by rw [← hV]; exact (fr_alloc (fr_refl w2) _).drew
                      clear hV
                      obtain ⟨u, hu, hus, q1⟩ := q1
                      have m0 : V.cell? ⟨w2.heap.size, 0, none⟩ = some (.string x) := by rw [Lib.cell_of_heap q1]; rfl
                      have m1 : V.cell? ⟨w2.heap.size, 1, none⟩ = some (.string u) := by rw [Lib.cell_of_heap q1]; rfl
                      have m2 : V.cell? ⟨w2.heap.size, 2, none⟩ = some (.bool (isX z)) := by rw [Lib.cell_of_heap q1]; rfl
                      have hsV := heap_lt q1
                      have blkV := qb_call blk2 q2
                      have outV := below_other q2 out2
                      have hFV := hF2.call q2
                      have hLV := hL2.call q2
                      obtain ⟨⟨_, _, _, o3, _⟩, ⟨_, _, _, f3, _⟩, hol⟩ := ro_cells outV
                      obtain ⟨rows, hrows, hownV, hrepV⟩ := id hLV
                      have hVB : Below B W V := (hbel2.trans (q2.mono (Nat.le_trans hBW hbel2.size)))
                      have hown9 := hownV.alloc (.cells #[.string x, .string u, .bool (isX z)] 57)
                      have HN := Lib.hid (show stepS T st = .ok ⟨q, st.files, st.looks ++ [⟨x, u, isX z⟩]⟩ by rw [hu]; exact HS.out)
                      clear hu HS
                      go_wp2_with (at_builtin; refine wpList_append_own _ rfl _ _ 23 rfl B 57 i0 _ 3 40 Tryz.underlying23 hi0 hz0 hz1 hz2 rfl (by decide) _ st.looks.length _ rfl hown9 ⟨V.heap.size, 0, none⟩ 1 1 [.string x, .string u, .bool (isX z)] rfl rfl ?c1 ?c2 ?c3 ?c4 ?c5 ?_)
                      case c1 => exact new_cells V #[_, _, _] _
                      case c2 => exact look_one _ _ _
                      case c3 => unfold maxLen; omega
                      case c4 => omega
                      case c5 => exact Nat.le_trans hBW (Nat.le_trans hVB.size (fr_alloc (fr_refl V) _).size)
                      intro v' w4 hown' hgrow hnil
                      have HW9 : Below V.heap.size V (V.alloc (.cells #[.string x, .string u, .bool (isX z)] 57)) := fr_alloc (fr_refl V) _
                      obtain ⟨b9, o9, F9, L9⟩ := look_joinedR (x := ⟨x, u, isX z⟩) HW9 blkV outV hFV hLV hob hrows hownV hrepV hxs hus hgrow hown'
                      have out9 : w4.heap[o]? = some (RO c t (.slice AF st.files.length cF) (.slice AL st.looks.length cL) d) := (hgrow.block o (Nat.lt_of_lt_of_le hol HW9.size) (fun e => kind_ne (hLV.kind o e.symm).2 ⟨_, _, outV⟩ (by decide) rfl)).trans (below_other HW9 outV)
                      obtain ⟨⟨_, _, _, oo3, _⟩, ⟨_, _, _, ff3, _⟩, hol4⟩ := ro_cells out9
                      have hB9 : Below B W (w4.setCell ⟨o, 3, none⟩ v') := ((hVB.trans (HW9.mono (Nat.le_trans hBW hVB.size))).grown hgrow (Nat.le_trans hBW (Nat.le_trans hVB.size HW9.size)) (fun n e => (hLV.kind n e).1)).setCell (p := ⟨o, 3, none⟩) hrd.low.2.1 v'
                      have hrd9 : ARr (w4.setCell ⟨o, 3, none⟩ v') B b o T c t d ⟨q, st.files, st.looks ++ [⟨x, u, isX z⟩]⟩ (.slice AF st.files.length cF) v' := ⟨b9, o9, F9, L9, hrd.low, by simp only [List.length_append, List.length_singleton]; exact ⟨by omega, by omega, by omega⟩⟩
                      have hBlk := hrd.blk
                      obtain ⟨A', c', hv'⟩ := L9.form
                      rw [List.length_append, List.length_singleton] at hv'
                      clear hown9 hown' hgrow hnil b9 o9 F9 L9 hFV hLV hownV hrepV
                      subst hv'
                      go_wp2
                      go_roundw
                      case rel => exact LoopR.ok hrd9 (by rw [← HRun.out, run_round hlt HN.out]) hB9
                      case measure => rw [measR_ok hBlk, measR_ok hrd9.blk]; show _ < _; simp only; omega
              · have hf' : (w0.toList == fileW) = true := hf
                have hk : (w0.toList == [108, 111, 111, 107]) = false := by
                  rw [beq_iff_eq] at hf
                  rw [hf]; decide
                cases hke : st.looks.isEmpty
                · have hk' : (w0.toList == lookW) = false := hk
                  rw [hf', hke, Bool.true_and, if_neg (by decide), hk', Bool.false_and, if_neg (by decide)] at hstep
                  have HS := Lib.hid (show R = .error st.pos by rw [← HRun.out, run_stop hlt hstep])
                  have hL0 : ¬ ((st.looks.length : Int) = 0) := by
                    intro e
                    have : st.looks = [] := List.eq_nil_of_length_eq_zero (by omega)
                    rw [this] at hke
                    cases hke
                  clear hstep hf' hk' hke
                  go_wp2_with fail
                  refine (ref5_line T b st.pos (-1) _ (hE0.below hbel hnB) hrd.blk hrd.room.2.2 hT).mono ?_
                  rintro e w2 hans
                  rw [hrow] at hans
                  obtain ⟨hg2, A, rfl, hln, hsl, blk2⟩ := hans
                  have hsl : Sl w2 (From _ w2) A 4 [w0, x, y, z] := hsl
                  obtain ⟨g, k, rfl, ⟨hgl, hgs⟩, ⟨_, hxs, hys, hzs⟩, y0, y1, y2, y3⟩ := sl_four hsl
                  have out2 := gb_other hg2 hrd.out hob
                  have hkr : ∀ n, some b = some n → Kind 51 _ n := fun n e => by cases e; exact ⟨_, _, hrd.blk⟩
                  have hF2 := hrd.files.other hg2 hkr (by decide) (by decide)
                  have hL2 := hrd.looks.other hg2 hkr (by decide) (by decide)
                  have hbel2 := gb_base hBW hbel hg2 hrd.low.1
                  obtain ⟨⟨_, _, _, o3, _⟩, ⟨_, _, _, f3, _⟩, hol⟩ := ro_cells out2
                  clear hkr hln
                  go_wp2_with fail
                  refine (ref5_stop T b _ (-1) st.pos _ blk2).mono ?_
                  rintro e w3 ⟨rfl, hg3, blk3⟩
                  rw [stop_new (by decide)] at blk3
                  go_wp2
                  go_roundw
                  case rel => exact LoopR.bad blk3 rfl HS.out (gb_base hBW hbel (gb_trans hg2 hg3) hrd.low.1)
                  case measure => rw [measR_ok hrd.blk, measR_bad blk3]; omega
                · rw [hf', hke, Bool.true_and, if_pos rfl] at hstep
                  have hL0 : (st.looks.length : Int) = 0 := by
                    rw [List.isEmpty_iff] at hke
                    rw [hke]; rfl
                  have HS := Lib.hid hstep
                  clear hstep hf' hke
                  go_wp2_with fail
                  refine (ref5_line T b st.pos (-1) _ (hE0.below hbel hnB) hrd.blk hrd.room.2.2 hT).mono ?_
                  rintro e w2 hans
                  rw [hrow] at hans
                  obtain ⟨hg2, A, rfl, hln, hsl, blk2⟩ := hans
                  have hsl : Sl w2 (From _ w2) A 4 [w0, x, y, z] := hsl
                  obtain ⟨g, k, rfl, ⟨hgl, hgs⟩, ⟨_, hxs, hys, hzs⟩, y0, y1, y2, y3⟩ := sl_four hsl
                  have out2 := gb_other hg2 hrd.out hob
                  have hkr : ∀ n, some b = some n → Kind 51 _ n := fun n e => by cases e; exact ⟨_, _, hrd.blk⟩
                  have hF2 := hrd.files.other hg2 hkr (by decide) (by decide)
                  have hL2 := hrd.looks.other hg2 hkr (by decide) (by decide)
                  have hbel2 := gb_base hBW hbel hg2 hrd.low.1
                  obtain ⟨⟨_, _, _, o3, _⟩, ⟨_, _, _, f3, _⟩, hol⟩ := ro_cells out2
                  clear hkr hln
                  have hlen0 := hrd.blk
                  go_wp2_with fail
                  refine (ref5_file T B b o g k w0 x y z w2 (st := st) (q := q) (Nat.le_trans hBW hbel2.size) blk2 out2 hF2 hL2 hrd.low ⟨hroom.1, hroom.2.1⟩ hpq hqT hT hsl hgs).mono ?_
                  rintro e w3 ⟨rfl, hb3, ha⟩
                  cases hfr : fileR T st x y z q with
                  | error p =>
                    rw [hfr] at ha
                    obtain ⟨q3, blk3⟩ := ha
                    have HE := Lib.hid (show R = .error p by rw [← HRun.out, run_stop hlt (by rw [HS.out, hfr])])
                    clear hfr
                    go_wp2
                    go_roundw
                    case rel => exact LoopR.bad blk3 rfl HE.out (hbel2.trans hb3)
                    case measure => rw [measR_ok hlen0, measR_bad blk3]; omega
                  | ok st' =>
                    rw [hfr] at ha
                    obtain ⟨vF', vL', hrd3⟩ := ha
                    have HN := Lib.hid (show stepS T st = .ok st' by rw [HS.out, hfr])
                    clear hfr
                    go_wp2
                    go_roundw
                    case rel => exact LoopR.ok hrd3 (by rw [← HRun.out, run_round hlt HN.out]) (hbel2.trans hb3)
                    case measure =>
                      have := step_place HN.out
                      rw [measR_ok hlen0, measR_ok hrd3.blk]; omega
            · have HS := Lib.hid (show R = .error st.pos by
                rw [← HRun.out, run_stop hlt (show stepS T st = .error st.pos from ?_)]
                rw [hstep]
                unfold rowStep
                split
                · rename_i he
                  simp only [List.cons.injEq] at he
                  rw [he.2] at h4
                  exact absurd rfl h4
                · rfl)
              have h4I : ¬ ((ws.length : Int) + 1 = 4) := by omega
              clear hstep
              go_wp2_with fail
              refine (ref5_line T b st.pos (-1) _ (hE0.below hbel hnB) hrd.blk hrd.room.2.2 hT).mono ?_
              rintro e w2 hans
              rw [hrow] at hans
              obtain ⟨hg2, A, rfl, hln, hsl, blk2⟩ := hans
              go_wp2_with fail
              refine (ref5_stop T b _ (-1) st.pos _ blk2).mono ?_
              rintro e w3 ⟨rfl, hg3, blk3⟩
              rw [stop_new (by decide)] at blk3
              go_wp2
              go_roundw
              case rel => exact LoopR.bad blk3 rfl HS.out (gb_base hBW hbel (gb_trans hg2 hg3) hrd.low.1)
              case measure => rw [measR_ok hrd.blk, measR_bad blk3]; omega
        · have hdI : ¬ ((st.pos : Int) < (T.size : Int)) := by omega
          have hdd : decide ((st.pos : Int) < (T.size : Int)) = false := decide_eq_false hdI
          have hrr : readB T = .ok ⟨c, t, st.files, st.looks, d⟩ := HR2.out st (by rw [← HRun.out, run_end (by omega)])
          obtain ⟨A1, n1', e1, f1, f2, f3⟩ := hrd.files.sl
          obtain ⟨B1, m1', e2, l1, l2, l3⟩ := hrd.looks.sl
          cases e1; cases e2
          obtain ⟨g1, g2, g3⟩ := read_facts hrr hT
          obtain ⟨⟨k0, k1, k2, k3, k4⟩, _, hol⟩ := ro_cells hrd.out
          have HC := Lib.hid (ref5_CheckResult ⟨c, t, st.files, st.looks, d⟩ AF st.files.length cF AL st.looks.length cL _ (hE.then_ hbw) ⟨g1, g3, f3, l3, g2⟩)
          unfold resVal at HC
          simp only at HC
          have HG := Lib.hid (show InInt c ∧ InInt d ∧ t.size ≤ maxLen from ⟨g1, g2, g3⟩)
          clear g1 g2 g3 f3 l3
          cases hc : (checkResultS ⟨c, t, st.files, st.looks, d⟩ == 0)
          · have hne : checkResultS ⟨c, t, st.files, st.looks, d⟩ ≠ 0 := by simpa using hc
            have hbn : (checkResultS ⟨c, t, st.files, st.looks, d⟩ != 0) = true := by simpa using hc
            have HV := Lib.hid (readRes_wrong (by omega) hrr hne)
            clear hne
            go_wp2_with fail
            refine HC.out.mono ?_
            rintro e w2 ⟨rfl, hb2⟩
            have hbel2 := fr_call hbw hb2
            obtain ⟨⟨n0, n1, n2, n3, n4⟩, _, hnl⟩ := rz_cells ((hb2.block _ hnl).trans hnon1)
            obtain ⟨⟨z0, z1, z2, z3, z4⟩, ⟨yy0, yy1, yy2, yy3, yy4⟩, hzl⟩ := rz_cells ((hb2.block _ hzl).trans hres1)
            generalize checkResultS ⟨c, t, st.files, st.looks, d⟩ = F at hbn HV
            go_wp2
            (try simp only [Exit.inBlock, Exit.then])
            refine bodyPost_ret (v := .tuple #[.agg #[.int .i64 0, .string ⟨#[]⟩, .slice none 0 0, .slice none 0 0, .int .i64 0], .int .i64 0, .int .i64 F]) (by simp [results, Tryz.results8, go_sem, z0, z1, z2, z3, z4]) rfl ?_
            exact ReadAns.zero HV.out (by repeat (first | exact hbel2 | refine fr_set ?_ (Nat.le_refl _) _ | refine Below.drew ?_))
          · have hz : checkResultS ⟨c, t, st.files, st.looks, d⟩ = 0 := by simpa using hc
            have hbn : (checkResultS ⟨c, t, st.files, st.looks, d⟩ != 0) = false := by simpa using hc
            have HV := Lib.hid (readRes_right (by omega) hrr hz)
            clear hz
            go_wp2_with fail
            refine HC.out.mono ?_
            rintro e w2 ⟨rfl, hb2⟩
            have hbel2 := fr_call hbw hb2
            have hzl0 := hzl
            obtain ⟨⟨z0, z1, z2, z3, z4⟩, ⟨yy0, yy1, yy2, yy3, yy4⟩, hzl⟩ := rz_cells ((hb2.block _ hzl).trans hres1)
            obtain ⟨⟨k0, k1, k2, k3, k4⟩, _, hol⟩ := ro_cells (below_other hb2 hrd.out)
            go_wp2
            (try simp only [Exit.inBlock, Exit.then])
            refine bodyPost_ret (v := .tuple #[.agg #[.int .i64 c, .string t, .slice AF st.files.length cF, .slice AL st.looks.length cL, .int .i64 d], .int .i64 0, .int .i64 0]) (by simp [results, Tryz.results8, go_sem, z0, z1, z2, z3, z4]) rfl ?_
            refine read_full (r := ⟨c, t, st.files, st.looks, d⟩) HV.out (hrd.call hb2).files (hrd.call hb2).looks (g := w.heap.size) ⟨_, _, (hb2.block _ hzl0).trans hres1⟩ (fun k hk => ?_) HG.out (by repeat (first | exact hbel2 | refine fr_set ?_ (Nat.le_refl _) _ | refine Below.drew ?_))
            repeat (refine (heap_setCell_other _ ⟨w.heap.size, _, none⟩ k _ hk).trans ?_)
            rfl
      · have HV := Lib.hid (readRes_bad (by omega) (HR1.out p hRe))
        obtain ⟨⟨b0, b1, b2⟩, _, hbl⟩ := qb_cells blk
        have hd0 : decide (((p : Nat) : Int) < 0) = false := decide_eq_false (by omega)
        go_wp2
        go_region
        go_wp2
        (try simp only [Exit.inBlock, Exit.then])
        refine bodyPost_ret (v := .tuple #[.agg #[.int .i64 0, .string ⟨#[]⟩, .slice none 0 0, .slice none 0 0, .int .i64 0], .int .i64 (p : Nat), .int .i64 10]) (by simp [results, Tryz.results8, go_sem, z0, z1, z2, z3, z4]) rfl ?_
        exact ReadAns.zero HV.out (by repeat (first | exact hbw | refine fr_set ?_ (Nat.le_refl _) _ | refine Below.drew ?_))
end Go.Proofs.Sm
