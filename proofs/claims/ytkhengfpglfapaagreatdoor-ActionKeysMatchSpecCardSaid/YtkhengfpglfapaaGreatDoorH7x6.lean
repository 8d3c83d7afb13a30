/- Walks: keys with looks; the law of keys. -/
import Derived.Test.YtkhengfpglfapaaGreatDoorH7x5
import Derived.Test.YtkhengfpglfapaaGreatDoorH7x2
import Derived.Lib.ConvBytes
namespace Go.Proofs.Sm
open Go.RowKit

/-- a new row of strings -/
theorem row_new (w : World) (t : TypeId) (l : List ByteArray) (hl : l.length ≤ maxLen) (hs : ∀ x ∈ l, x.size ≤ maxLen) :
    Sl (w.alloc (.cells (l.map Value.string).toArray t)) (Lt (w.alloc (.cells (l.map Value.string).toArray t)).heap.size) (some ⟨w.heap.size, 0, none⟩) l.length l :=
  (Sl.new_strs hl hs).more (lt_mono (by simp))
theorem line_two (x y : ByteArray) : lineW [x, y] = x.data.toList ++ [32] ++ y.data.toList ++ [10] := by rw [lineW, joinS_two]
theorem line_three (x y z : ByteArray) : lineW [x, y, z] = x.data.toList ++ [32] ++ y.data.toList ++ [32] ++ z.data.toList ++ [10] := by rw [lineW, joinS_three]

theorem line_call2 (g : Nat) (L : List UInt8) (x y : ByteArray) (W : World) (hB : Bld W g L) (hx : x.size ≤ 20000) (hy : y.size ≤ 20000) (hlen : L.length ≤ 2000000) :
    Calls Tryz.prog 66 #[.slice (some ⟨W.heap.size, 0, none⟩) 2 2, .pointer (some ⟨g, 0, none⟩)] (W.alloc (.cells #[.string x, .string y] 9)) fun e w' => e = .returned (.tuple #[]) ∧ Bld w' g (L ++ (x.data.toList ++ [32] ++ y.data.toList ++ [10])) ∧ Wrote g W w' := by
  have hxs : x.data.toList.length = x.size := by simp
  have hys : y.data.toList.length = y.size := by simp
  have hl : (joinS [x, y]).length ≤ 50000 := by rw [joinS_two]; simp only [List.length_append, List.length_cons, List.length_nil, hxs, hys]; omega
  refine (act_text1 g L _ 2 2 [x, y] _ (hB.alloc _) (row_new W 9 [x, y] (by show 2 ≤ maxLen; decide) (by intro z hz; simp at hz; unfold maxLen; rcases hz with rfl | rfl <;> omega)) (Nat.le_refl _) (by decide) (by omega)).mono ?_
  rintro e w1 ⟨rfl, hB1, hw⟩
  rw [line_two] at hB1
  exact ⟨rfl, hB1, (Wrote.of_below ((Below.refl _ _).alloc (Nat.le_refl _) _) (Nat.le_of_lt hB.lt)).trans hw⟩
theorem line_call3 (g : Nat) (L : List UInt8) (x y z : ByteArray) (W : World) (hB : Bld W g L) (hx : x.size ≤ 20000) (hy : y.size ≤ 20000) (hz : z.size ≤ 20000) (hlen : L.length ≤ 2000000) :
    Calls Tryz.prog 66 #[.slice (some ⟨W.heap.size, 0, none⟩) 3 3, .pointer (some ⟨g, 0, none⟩)] (W.alloc (.cells #[.string x, .string y, .string z] 9)) fun e w' => e = .returned (.tuple #[]) ∧ Bld w' g (L ++ (x.data.toList ++ [32] ++ y.data.toList ++ [32] ++ z.data.toList ++ [10])) ∧ Wrote g W w' := by
  have hxs : x.data.toList.length = x.size := by simp
  have hys : y.data.toList.length = y.size := by simp
  have hzs : z.data.toList.length = z.size := by simp
  have hl : (joinS [x, y, z]).length ≤ 100000 := by rw [joinS_three]; simp only [List.length_append, List.length_cons, List.length_nil, hxs, hys, hzs]; omega
  refine (act_text1 g L _ 3 3 [x, y, z] _ (hB.alloc _) (row_new W 9 [x, y, z] (by show 3 ≤ maxLen; decide) (by intro u hu; simp at hu; unfold maxLen; rcases hu with rfl | rfl | rfl <;> omega)) (Nat.le_refl _) (by decide) (by omega)).mono ?_
  rintro e w1 ⟨rfl, hB1, hw⟩
  rw [line_three] at hB1
  exact ⟨rfl, hB1, (Wrote.of_below ((Below.refl _ _).alloc (Nat.le_refl _) _) (Nat.le_of_lt hB.lt)).trans hw⟩
theorem len_cons {l : List UInt8} {m : Nat} (h : l.length ≤ m) {l' : List UInt8} {m' : Nat} (h' : l'.length ≤ m') : (l ++ l').length ≤ m + m' := by rw [List.length_append]; omega

theorem ret_strL {l l' : List UInt8} (h : l = l') : Ending.returned (.string ⟨l.toArray⟩) = Ending.returned (.string ⟨l'.toArray⟩) := by rw [h]
set_option maxHeartbeats 4000000 in
set_option maxRecDepth 100000 in
theorem act_text (a : ActionV) (A : Option Addr) (n n' : Nat) (B : Option Addr) (m m' : Nat) (C : Option Addr) (p p' : Nat) (D : Option Addr) (q q' : Nat) (w : World) (hE : Env2 w) (ha : ActIs w a A n B m C p D q) (ok : ActOk a) :
    Calls Tryz.prog 32 #[actVal a A n n' B m m' C p p' D q q'] w fun e w' => e = .returned (.string ⟨(actTextL a).toArray⟩) ∧ Below w.heap.size w w' := by
  unfold actVal
  have hm1 : n ≤ 9223372036854775807 := ha.commands.2.1
  have hm2 : m ≤ 9223372036854775807 := ha.vars.2.1
  have hm3 : p ≤ 9223372036854775807 := ha.outputs.2.1
  have hm4 : q ≤ 9223372036854775807 := ha.needs.2.1
  have htl := ha.tool
  go_enter Tryz.func32, Tryz.ntmps32
  go_wp2_with fail
  have hB : Bld ((w.alloc (.cells #[.string a.tool, .slice A n n', .slice B m m', .slice C p p', .slice D q q', .int .i64 a.time] 26)).alloc (.cells #[.pointer none, .slice none 0 0] 101)) (w.heap.size + 1) [] := by
    have h := Bld.new (w.alloc (.cells #[.string a.tool, .slice A n n', .slice B m m', .slice C p p', .slice D q q', .int .i64 a.time] 26))
    rwa [show (w.alloc (.cells #[.string a.tool, .slice A n n', .slice B m m', .slice C p p', .slice D q q', .int .i64 a.time] 26)).heap.size = w.heap.size + 1 by simp] at h
  have hX : ((w.alloc (.cells #[.string a.tool, .slice A n n', .slice B m m', .slice C p p', .slice D q q', .int .i64 a.time] 26)).alloc (.cells #[.pointer none, .slice none 0 0] 101)).heap[w.heap.size]? = some (.cells #[.string a.tool, .slice A n n', .slice B m m', .slice C p p', .slice D q q', .int .i64 a.time] 26 (0, 0)) :=
    (Lib.alloc_old (w.alloc (.cells #[.string a.tool, .slice A n n', .slice B m m', .slice C p p', .slice D q q', .int .i64 a.time] 26)) _ _ (by simp)).trans (heap_alloc_new w _)
  have hbel2 : Below w.heap.size w ((w.alloc (.cells #[.string a.tool, .slice A n n', .slice B m m', .slice C p p', .slice D q q', .int .i64 a.time] 26)).alloc (.cells #[.pointer none, .slice none 0 0] 101)) := fr_alloc (fr_alloc (fr_refl w) _) _
  have hWg : ((w.alloc (.cells #[.string a.tool, .slice A n n', .slice B m m', .slice C p p', .slice D q q', .int .i64 a.time] 26)).alloc (.cells #[.pointer none, .slice none 0 0] 101)).heap.size = w.heap.size + 1 + 1 := by simp
  have hEn := (hE.alloc (.cells #[.string a.tool, .slice A n n', .slice B m m', .slice C p p', .slice D q q', .int .i64 a.time] 26)).alloc (.cells #[.pointer none, .slice none 0 0] 101)
  have hfc : Sl ((w.alloc (.cells #[.string a.tool, .slice A n n', .slice B m m', .slice C p p', .slice D q q', .int .i64 a.time] 26)).alloc (.cells #[.pointer none, .slice none 0 0] 101)) (Lt (w.heap.size + 1)) A n a.commands := (ha.commands.keep (keep_lt hbel2)).more (lt_mono (by omega))
  have hfv : Sl ((w.alloc (.cells #[.string a.tool, .slice A n n', .slice B m m', .slice C p p', .slice D q q', .int .i64 a.time] 26)).alloc (.cells #[.pointer none, .slice none 0 0] 101)) (Lt (w.heap.size + 1)) B m a.vars := (ha.vars.keep (keep_lt hbel2)).more (lt_mono (by omega))
  have hfo : Sl ((w.alloc (.cells #[.string a.tool, .slice A n n', .slice B m m', .slice C p p', .slice D q q', .int .i64 a.time] 26)).alloc (.cells #[.pointer none, .slice none 0 0] 101)) (Lt (w.heap.size + 1)) C p a.outputs := (ha.outputs.keep (keep_lt hbel2)).more (lt_mono (by omega))
  have hfn : Sl ((w.alloc (.cells #[.string a.tool, .slice A n n', .slice B m m', .slice C p p', .slice D q q', .int .i64 a.time] 26)).alloc (.cells #[.pointer none, .slice none 0 0] 101)) (Lt (w.heap.size + 1)) D q a.needs := (ha.needs.keep (keep_lt hbel2)).more (lt_mono (by omega))
  have hgw : w.heap.size ≤ w.heap.size + 1 := Nat.le_succ _
  have hz1 : w.heap.size < w.heap.size + 1 := Nat.lt_succ_self _
  rw [← hWg]
  generalize hg : w.heap.size + 1 = g at *
  have HG := Lib.hid hg; clear hg
  have hgl := hE.size
  generalize ((w.alloc (.cells #[.string a.tool, .slice A n n', .slice B m m', .slice C p p', .slice D q q', .int .i64 a.time] 26)).alloc (.cells #[.pointer none, .slice none 0 0] 101)) = W at *
  have HEn := Lib.hid (show ∀ w', Below g W w' → Env2 w' from fun w' h => hEn.of_heap h.size fun k hk => h.block k (Nat.lt_of_lt_of_le hk (Nat.le_trans hgl hgw)))
  have HX := Lib.hid hX; clear hX
  have htm := ok.time
  have htn : InInt a.time := ha.time
  refine (line_call2 g [] ⟨#[116, 111, 111, 108]⟩ a.tool W hB (by decide) (by have := ok.tool; omega) (by simp)).mono ?_
  rintro e w1 ⟨rfl, hB1, hw1⟩
  have hB2 : Bld w1 g (toolL a) := by
    have e : toolL a = [] ++ ([116, 111, 111, 108] ++ [32] ++ a.tool.data.toList ++ [10]) := by simp [toolL]
    rw [e]; exact hB1
  clear hB1 hB
  have hbr1 : Below g W w1 := hw1.1
  have hX1 : w1.cell? ⟨w.heap.size, 1, none⟩ = some (.slice A n n') := by rw [World.cell?, (hbr1.block _ hz1).trans HX.out]; rfl
  go_wp2
  go_loopw [6, 22] (fun _ i wr => ∃ k : Nat, k ≤ n ∧ i = .int .i64 k ∧ Bld wr g (toolL a ++ (a.commands.take k).flatMap cmdL) ∧ Below g W wr) (fun _ i _ => n - (intOf i).toNat)
  case atStart => exact ⟨0, Nat.zero_le _, rfl, by simpa using hB2, hbr1⟩
  case round =>
    clear hB2 hbr1 hX1 hw1
    obtain ⟨k, hk, rfl, hBr, hbr⟩ := hrel
    have hgr : g < wr.heap.size := hBr.lt
    have hlen : (toolL a ++ (a.commands.take k).flatMap cmdL).length ≤ 1000000 := by have := len_cons (toolL_length ok) (cmds_length ok k); omega
    by_cases hlt : k < n
    · obtain ⟨b, o, x, A', l', c', rfl, hb, hx, hlc, hcm, hsl', c0⟩ := (hfc.keep (keep_lt hbr)).row hlt
      have hbg : b < g := hb
      have hbw : b < wr.heap.size := by omega
      have hok := ok.words x (List.mem_of_getElem? hx)
      have hjl := cmdL_length hok
      have HX2 := Lib.hid hx; clear hx
      have hl1 := hsl'.1
      go_wp2_with fail
      refine (join_any _ _ _ x _ (hsl'.more (lt_mono (Nat.le_of_lt hgr))) hlc (by omega) (by omega)).mono ?_
      rintro e w2 ⟨rfl, hb2⟩
      have hBx := hBr.call hb2
      have hbx := below_call (show g ≤ W.heap.size by omega) hbr hb2
      go_wp2_with fail
      refine (line_call2 g _ ⟨#[100, 111]⟩ ⟨(joinS x).toArray⟩ w2 hBx (by decide) (by show (joinS x).toArray.size ≤ _; simp; omega) (by omega)).mono ?_
      rintro e w3 ⟨rfl, hB3, hw3⟩
      clear hl1 hjl hok
      go_wp2
      go_round
      case rel =>
        refine ⟨k + 1, by omega, by go_num, ?_, below_wrote hbx hw3⟩
        rw [flatMap_succ HX2.out, ← List.append_assoc, cmdL]
        exact hB3
      case measure => simp [intOf]; omega
    · have HF := Lib.hid (show a.commands.take k = a.commands from List.take_of_length_le (by rw [hfc.1]; omega))
      have hlen2 : (toolL a ++ a.commands.flatMap cmdL).length ≤ 1000000 := by rw [HF.out] at hlen; exact hlen
      rw [HF.out] at hBr
      have HLL := Lib.hid (show toolL a ++ a.commands.flatMap cmdL ++ a.vars.flatMap varL ++ a.outputs.flatMap outL ++ a.needs.flatMap needL ++ timeL a = actTextL a from rfl)
      generalize toolL a ++ a.commands.flatMap cmdL = L1 at *
      clear hlen
      have hX1 : wr.cell? ⟨w.heap.size, 2, none⟩ = some (.slice B m m') := by rw [World.cell?, (hbr.block _ hz1).trans HX.out]; rfl
      go_wp2
      go_loopw [8, 35] (fun _ i wr => ∃ k : Nat, k ≤ m ∧ i = .int .i64 k ∧ Bld wr g (L1 ++ (a.vars.take k).flatMap varL) ∧ Below g W wr) (fun _ i _ => m - (intOf i).toNat)
      case atStart => exact ⟨0, Nat.zero_le _, rfl, by simpa using hBr, hbr⟩
      case round =>
        clear hBr hbr hX1 hgr
        obtain ⟨k, hk, rfl, hBr, hbr⟩ := hrel
        have hgr : g < wr.heap.size := hBr.lt
        have hlen : (L1 ++ (a.vars.take k).flatMap varL).length ≤ 1100000 := by have := len_cons hlen2 (vars_length ok k); omega
        by_cases hlt : k < m
        · obtain ⟨b, o, x, rfl, hb, hx, hs1, hs2, c0, c1⟩ := (hfv.keep (keep_lt hbr)).var hlt
          have hbg : b < g := hb
          have hbw : b < wr.heap.size := by omega
          have hok := ok.var x (List.mem_of_getElem? hx)
          have HX2 := Lib.hid hx; clear hx
          go_wp2_with fail
          rw [show wr.heap.size + 1 = (wr.alloc (.cells #[.string x.name, .string x.value] 109)).heap.size by simp]
          refine (line_call3 g _ ⟨#[118, 97, 114]⟩ x.name x.value (wr.alloc (.cells #[.string x.name, .string x.value] 109)) (hBr.alloc _) (by decide) (by omega) (by omega) (by omega)).mono ?_
          rintro e w3 ⟨rfl, hB3, hw3⟩
          clear hok
          go_wp2
          go_round
          case rel =>
            refine ⟨k + 1, by omega, by go_num, ?_, below_wrote (hbr.alloc (Nat.le_of_lt hgr) _) hw3⟩
            rw [flatMap_succ HX2.out, ← List.append_assoc, varL]
            exact hB3
          case measure => simp [intOf]; omega
        · have HF := Lib.hid (show a.vars.take k = a.vars from List.take_of_length_le (by rw [hfv.1]; omega))
          have hlen3 : (L1 ++ a.vars.flatMap varL).length ≤ 1100000 := by rw [HF.out] at hlen; exact hlen
          clear hlen2
          have hlen2 := hlen3
          clear hlen3
          rw [HF.out] at hBr
          generalize L1 ++ a.vars.flatMap varL = L2 at *
          clear hlen
          have hX1 : wr.cell? ⟨w.heap.size, 3, none⟩ = some (.slice C p p') := by rw [World.cell?, (hbr.block _ hz1).trans HX.out]; rfl
          go_wp2
          go_loopw [10, 50] (fun _ i wr => ∃ k : Nat, k ≤ p ∧ i = .int .i64 k ∧ Bld wr g (L2 ++ (a.outputs.take k).flatMap outL) ∧ Below g W wr) (fun _ i _ => p - (intOf i).toNat)
          case atStart => exact ⟨0, Nat.zero_le _, rfl, by simpa using hBr, hbr⟩
          case round =>
            clear hBr hbr hX1 hgr
            obtain ⟨k, hk, rfl, hBr, hbr⟩ := hrel
            have hgr : g < wr.heap.size := hBr.lt
            have hlen : (L2 ++ (a.outputs.take k).flatMap outL).length ≤ 1200000 := by have := len_cons hlen2 (outs_length ok k); omega
            by_cases hlt : k < p
            · obtain ⟨b, o, x, rfl, hb, hx, hxs, c0⟩ := (hfo.keep (keep_lt hbr)).str hlt
              have hbg : b < g := hb
              have hbw : b < wr.heap.size := by omega
              have hok := ok.output x (List.mem_of_getElem? hx)
              have HX2 := Lib.hid hx; clear hx
              go_wp2_with fail
              refine (line_call2 g _ ⟨#[111, 117, 116]⟩ x wr hBr (by decide) (by omega) (by omega)).mono ?_
              rintro e w3 ⟨rfl, hB3, hw3⟩
              clear hok
              go_wp2
              go_round
              case rel =>
                refine ⟨k + 1, by omega, by go_num, ?_, below_wrote hbr hw3⟩
                rw [flatMap_succ HX2.out, ← List.append_assoc, outL]
                exact hB3
              case measure => simp [intOf]; omega
            · have HF := Lib.hid (show a.outputs.take k = a.outputs from List.take_of_length_le (by rw [hfo.1]; omega))
              have hlen3 : (L2 ++ a.outputs.flatMap outL).length ≤ 1200000 := by rw [HF.out] at hlen; exact hlen
              clear hlen2
              have hlen2 := hlen3
              clear hlen3
              rw [HF.out] at hBr
              generalize L2 ++ a.outputs.flatMap outL = L3 at *
              clear hlen
              have hX1 : wr.cell? ⟨w.heap.size, 4, none⟩ = some (.slice D q q') := by rw [World.cell?, (hbr.block _ hz1).trans HX.out]; rfl
              go_wp2
              go_loopw [12, 62] (fun _ i wr => ∃ k : Nat, k ≤ q ∧ i = .int .i64 k ∧ Bld wr g (L3 ++ (a.needs.take k).flatMap needL) ∧ Below g W wr) (fun _ i _ => q - (intOf i).toNat)
              case atStart => exact ⟨0, Nat.zero_le _, rfl, by simpa using hBr, hbr⟩
              case round =>
                clear hBr hbr hX1 hgr
                obtain ⟨k, hk, rfl, hBr, hbr⟩ := hrel
                have hgr : g < wr.heap.size := hBr.lt
                have hlen : (L3 ++ (a.needs.take k).flatMap needL).length ≤ 1300000 := by have := len_cons hlen2 (needs_length ok k); omega
                by_cases hlt : k < q
                · obtain ⟨b, o, x, rfl, hb, hx, hs1, hs2, c0, c1⟩ := (hfn.keep (keep_lt hbr)).var hlt
                  have hbg : b < g := hb
                  have hbw : b < wr.heap.size := by omega
                  have hok := ok.need x (List.mem_of_getElem? hx)
                  have HX2 := Lib.hid hx; clear hx
                  go_wp2_with fail
                  rw [show wr.heap.size + 1 = (wr.alloc (.cells #[.string x.name, .string x.value] 109)).heap.size by simp]
                  refine (line_call3 g _ ⟨#[110, 101, 101, 100]⟩ x.name x.value (wr.alloc (.cells #[.string x.name, .string x.value] 109)) (hBr.alloc _) (by decide) (by omega) (by omega) (by omega)).mono ?_
                  rintro e w3 ⟨rfl, hB3, hw3⟩
                  clear hok
                  go_wp2
                  go_round
                  case rel =>
                    refine ⟨k + 1, by omega, by go_num, ?_, below_wrote (hbr.alloc (Nat.le_of_lt hgr) _) hw3⟩
                    rw [flatMap_succ HX2.out, ← List.append_assoc, needL]
                    exact hB3
                  case measure => simp [intOf]; omega
                · have HF := Lib.hid (show a.needs.take k = a.needs from List.take_of_length_le (by rw [hfn.1]; omega))
                  have hlen3 : (L3 ++ a.needs.flatMap needL).length ≤ 1300000 := by rw [HF.out] at hlen; exact hlen
                  clear hlen2
                  have hlen2 := hlen3
                  clear hlen3
                  rw [HF.out] at hBr
                  generalize L3 ++ a.needs.flatMap needL = L4 at *
                  clear hlen
                  have hX1 : wr.cell? ⟨w.heap.size, 5, none⟩ = some (.int .i64 a.time) := by rw [World.cell?, (hbr.block _ hz1).trans HX.out]; rfl
                  obtain ⟨s1, k1, E1, C1⟩ := itoa_op a.time htn
                  have HEr := HEn.out _ hbr
                  go_wp2_with fail
                  refine (C1.out _ HEr).mono ?_
                  rintro e w2 ⟨rfl, hb2⟩
                  have hBx := hBr.call hb2
                  have hbx := below_call (show g ≤ W.heap.size by omega) hbr hb2
                  go_wp2_with fail
                  refine (line_call2 g _ ⟨#[116, 105, 109, 101]⟩ s1 w2 hBx (by decide) (by omega) (by omega)).mono ?_
                  rintro e w3 ⟨rfl, hB3, hw3⟩
                  go_wp2_with fail
                  refine (bld_String g _ _ hB3).mono ?_
                  rintro e w4 ⟨rfl, hB4, hw4⟩
                  go_wp2
                  go_ret
                  exact ⟨ret_strL (by rw [← HLL.out, timeL, ← E1.out]; rfl), hbel2.trans (((below_wrote hbx hw3).trans hw4.1).mono hgw)⟩
end Go.Proofs.Sm

namespace Go.Proofs.Sm
open Go.RowKit

set_option maxHeartbeats 4000000 in
set_option maxRecDepth 100000 in
theorem ref5_TextOf (a : ActionV) (A : Option Addr) (n n' : Nat) (B : Option Addr) (m m' : Nat) (C : Option Addr) (p p' : Nat) (D : Option Addr) (q q' : Nat) (w : World) (hE : Env2 w) (ha : ActIs w a A n B m C p D q) (ok : ActOk a) :
    Calls Tryz.prog 33 #[actVal a A n n' B m m' C p p' D q q'] w fun e w' => e = .returned (.string ⟨(actTextL a).toArray⟩) ∧ Below w.heap.size w w' := by
  unfold actVal
  have hm1 : n ≤ 9223372036854775807 := ha.commands.2.1
  have hm2 : m ≤ 9223372036854775807 := ha.vars.2.1
  have hm3 : p ≤ 9223372036854775807 := ha.outputs.2.1
  have hm4 : q ≤ 9223372036854775807 := ha.needs.2.1
  have q1 : (⟨#[116, 111, 111, 108, 32]⟩ : ByteArray).size = 5 := rfl
  have q4 : (⟨#[10]⟩ : ByteArray).size = 1 := rfl
  have q5 := ok.tool
  obtain ⟨p1, z1, P1, a1⟩ := cat_op ⟨#[116, 111, 111, 108, 32]⟩ a.tool (by omega)
  obtain ⟨p2, z2, P2, a2⟩ := cat_op p1 ⟨#[10]⟩ (by omega)
  have HT := Lib.hid (show p2.data.toList = toolL a by rw [P2.out, P1.out, toolL])
  clear q1 q4 z1 z2 P1 P2
  go_enter Tryz.func33, Tryz.ntmps33
  go_wp2
  clear a1 a2
  have hX := heap_alloc_new w (.cells #[.string a.tool, .slice A n n', .slice B m m', .slice C p p', .slice D q q', .int .i64 a.time] 26)
  have hEn := hE.alloc (.cells #[.string a.tool, .slice A n n', .slice B m m', .slice C p p', .slice D q q', .int .i64 a.time] 26)
  have hrn := ha.then_ (fr_alloc (fr_refl w) (.cells #[.string a.tool, .slice A n n', .slice B m m', .slice C p p', .slice D q q', .int .i64 a.time] 26))
  have hbel := fr_alloc (fr_refl w) (.cells #[.string a.tool, .slice A n n', .slice B m m', .slice C p p', .slice D q q', .int .i64 a.time] 26)
  have hz : w.heap.size < (w.alloc (.cells #[.string a.tool, .slice A n n', .slice B m m', .slice C p p', .slice D q q', .int .i64 a.time] 26)).heap.size := by simp
  generalize (w.alloc (.cells #[.string a.tool, .slice A n n', .slice B m m', .slice C p p', .slice D q q', .int .i64 a.time] 26)) = W at *
  have HX := Lib.hid hX; clear hX
  have HEn := Lib.hid (show ∀ w', Below W.heap.size W w' → Env2 w' from fun w' h => hEn.then_ h)
  have htm := ok.time
  have htn : InInt a.time := ha.time
  have hlen2 := toolL_length ok
  go_loopw [3, 4] (fun s i wr => ∃ (k : Nat) (t : ByteArray), k ≤ n ∧ i = .int .i64 k ∧ s = .string t ∧ t.data.toList = toolL a ++ (a.commands.take k).flatMap cmdL ∧ Below W.heap.size W wr) (fun _ i _ => n - (intOf i).toNat)
  case atStart => exact ⟨0, p2, Nat.zero_le _, rfl, rfl, by rw [HT.out]; simp, Below.refl _ _⟩
  case round =>
    skip
    obtain ⟨k, t, hk, rfl, rfl, ht, hbr⟩ := hrel
    have Ht := Lib.hid ht; clear ht
    have hcell : wr.cell? ⟨w.heap.size, 1, none⟩ = some (.slice A n n') := by rw [World.cell?, (hbr.block _ hz).trans HX.out]; rfl
    have hlen : (toolL a ++ (a.commands.take k).flatMap cmdL).length ≤ 1000000 := by have := len_cons hlen2 (cmds_length ok k); omega
    have hts : t.size ≤ 1000000 := by
      have h1 : t.data.toList.length = t.size := by simp
      rw [← h1, Ht.out]; exact hlen
    clear hlen
    have q4 : (⟨#[10]⟩ : ByteArray).size = 1 := rfl
    have q2 : (⟨#[32]⟩ : ByteArray).size = 1 := rfl
    by_cases hlt : k < n
    · obtain ⟨b, o, x, A', l', c', rfl, hb, hx, hlc, hcm, hsl', c0⟩ := (hrn.commands.keep (keep_lt hbr)).row hlt
      have hok := ok.words x (List.mem_of_getElem? hx)
      have hjl := cmdL_length hok
      have HX2 := Lib.hid hx; clear hx
      have hl1 := hsl'.1
      obtain ⟨j, hj⟩ : ∃ j : ByteArray, j = ⟨(joinS x).toArray⟩ := ⟨_, rfl⟩
      have hjs : j.size = (joinS x).length := by rw [hj]; simp [ByteArray.size]
      have HJL := Lib.hid (show j.data.toList = joinS x by rw [hj])
      have HJ := Lib.hid (hj ▸ join_any A' l' c' x wr (hsl'.more (lt_mono hbr.size)) hlc (by omega) (by omega) : Calls Tryz.prog 68 #[.slice A' l' c', .string ⟨#[32]⟩] wr fun e w' => e = .returned (.string j) ∧ Below wr.heap.size wr w')
      clear hj
      have q1 : (⟨#[100, 111, 32]⟩ : ByteArray).size = 3 := rfl
      obtain ⟨p1, z1, P1, a1⟩ := cat_op ⟨#[100, 111, 32]⟩ j (by omega)
      obtain ⟨p2, z2, P2, a2⟩ := cat_op p1 ⟨#[10]⟩ (by omega)
      obtain ⟨p3, z3, P3, a3⟩ := cat_op t p2 (by omega)
      have HP := Lib.hid (show p3.data.toList = toolL a ++ (a.commands.take (k + 1)).flatMap cmdL by
        rw [P3.out, P2.out, P1.out, HJL.out, Ht.out, flatMap_succ HX2.out]; simp [cmdL])
      clear q1 q2 q4 z1 z2 z3 P1 P2 P3 hl1 hjl hok
      go_wp2_with fail
      refine HJ.out.mono ?_
      rintro e w2 ⟨rfl, hb2⟩
      go_wp2
      go_round
      case rel => exact ⟨k + 1, p3, by omega, by go_num, rfl, HP.out, fr_call hbr hb2⟩
      case measure => simp [intOf]; omega
    · have HF := Lib.hid (show a.commands.take k = a.commands from List.take_of_length_le (by rw [hrn.commands.1]; omega))
      have Ht2 := Lib.hid (show t.data.toList = toolL a ++ a.commands.flatMap cmdL by rw [Ht.out, HF.out])
      clear Ht
      have hg1 : toolL a ++ a.commands.flatMap cmdL = toolL a ++ a.commands.flatMap cmdL := rfl
      generalize hG1 : toolL a ++ a.commands.flatMap cmdL = L1 at Ht2
      have HG1 := Lib.hid hG1; clear hG1 hg1
      have hlen3 : L1.length ≤ 1000000 := by
        have h1 : t.data.toList.length = t.size := by simp
        rw [← Ht2.out, h1]; exact hts
      clear hlen2
      have hlen2 := hlen3
      clear hlen3 q2 q4
      have HLL := Lib.hid (show L1 ++ a.vars.flatMap varL ++ a.outputs.flatMap outL ++ a.needs.flatMap needL ++ timeL a = actTextL a by rw [← HG1.out]; rfl)
      go_wp2
      clear hcell
      go_loopw [3, 5] (fun s i wr => ∃ (k : Nat) (t : ByteArray), k ≤ m ∧ i = .int .i64 k ∧ s = .string t ∧ t.data.toList = L1 ++ (a.vars.take k).flatMap varL ∧ Below W.heap.size W wr) (fun _ i _ => m - (intOf i).toNat)
      case atStart => exact ⟨0, t, Nat.zero_le _, rfl, rfl, by rw [Ht2.out]; simp, hbr⟩
      case round =>
        clear hbr
        obtain ⟨k, t, hk, rfl, rfl, ht, hbr⟩ := hrel
        have Ht := Lib.hid ht; clear ht
        have hcell : wr.cell? ⟨w.heap.size, 2, none⟩ = some (.slice B m m') := by rw [World.cell?, (hbr.block _ hz).trans HX.out]; rfl
        have hlen : (L1 ++ (a.vars.take k).flatMap varL).length ≤ 1100000 := by have := len_cons hlen2 (vars_length ok k); omega
        have hts : t.size ≤ 1100000 := by
          have h1 : t.data.toList.length = t.size := by simp
          rw [← h1, Ht.out]; exact hlen
        clear hlen
        have q4 : (⟨#[10]⟩ : ByteArray).size = 1 := rfl
        have q2 : (⟨#[32]⟩ : ByteArray).size = 1 := rfl
        by_cases hlt : k < m
        · obtain ⟨b, o, x, rfl, hb, hx, hs1, hs2, c0, c1⟩ := (hrn.vars.keep (keep_lt hbr)).var hlt
          have hok := ok.var x (List.mem_of_getElem? hx)
          have HX2 := Lib.hid hx; clear hx
          have q1 : (⟨#[118, 97, 114, 32]⟩ : ByteArray).size = 4 := rfl
          obtain ⟨p1, z1, P1, a1⟩ := cat_op ⟨#[118, 97, 114, 32]⟩ x.name (by omega)
          obtain ⟨p2, z2, P2, a2⟩ := cat_op p1 ⟨#[32]⟩ (by omega)
          obtain ⟨p3, z3, P3, a3⟩ := cat_op p2 x.value (by omega)
          obtain ⟨p4, z4, P4, a4⟩ := cat_op p3 ⟨#[10]⟩ (by omega)
          obtain ⟨p5, z5, P5, a5⟩ := cat_op t p4 (by omega)
          have HP := Lib.hid (show p5.data.toList = L1 ++ (a.vars.take (k + 1)).flatMap varL by
            rw [P5.out, P4.out, P3.out, P2.out, P1.out, Ht.out, flatMap_succ HX2.out]; simp [varL])
          clear q1 q2 q4 z1 z2 z3 z4 z5 P1 P2 P3 P4 P5 hok
          go_wp2
          go_quiet (fail)
          go_wp2
          go_round
          case rel => exact ⟨k + 1, p5, by omega, by go_num, rfl, HP.out, below_drewN hbr _⟩
          case measure => simp [intOf]; omega
        · have HF := Lib.hid (show a.vars.take k = a.vars from List.take_of_length_le (by rw [hrn.vars.1]; omega))
          have Ht2 := Lib.hid (show t.data.toList = L1 ++ a.vars.flatMap varL by rw [Ht.out, HF.out])
          clear Ht
          generalize L1 ++ a.vars.flatMap varL = L2 at *
          have hlen3 : L2.length ≤ 1100000 := by
            have h1 : t.data.toList.length = t.size := by simp
            rw [← Ht2.out, h1]; exact hts
          clear hlen2
          have hlen2 := hlen3
          clear hlen3 q2 q4
          go_wp2
          clear hcell
          go_loopw [3, 6] (fun s i wr => ∃ (k : Nat) (t : ByteArray), k ≤ p ∧ i = .int .i64 k ∧ s = .string t ∧ t.data.toList = L2 ++ (a.outputs.take k).flatMap outL ∧ Below W.heap.size W wr) (fun _ i _ => p - (intOf i).toNat)
          case atStart => exact ⟨0, t, Nat.zero_le _, rfl, rfl, by rw [Ht2.out]; simp, hbr⟩
          case round =>
            clear hbr
            obtain ⟨k, t, hk, rfl, rfl, ht, hbr⟩ := hrel
            have Ht := Lib.hid ht; clear ht
            have hcell : wr.cell? ⟨w.heap.size, 3, none⟩ = some (.slice C p p') := by rw [World.cell?, (hbr.block _ hz).trans HX.out]; rfl
            have hlen : (L2 ++ (a.outputs.take k).flatMap outL).length ≤ 1200000 := by have := len_cons hlen2 (outs_length ok k); omega
            have hts : t.size ≤ 1200000 := by
              have h1 : t.data.toList.length = t.size := by simp
              rw [← h1, Ht.out]; exact hlen
            clear hlen
            have q4 : (⟨#[10]⟩ : ByteArray).size = 1 := rfl
            have q2 : (⟨#[32]⟩ : ByteArray).size = 1 := rfl
            by_cases hlt : k < p
            · obtain ⟨b, o, x, rfl, hb, hx, hxs, c0⟩ := (hrn.outputs.keep (keep_lt hbr)).str hlt
              have hok := ok.output x (List.mem_of_getElem? hx)
              have HX2 := Lib.hid hx; clear hx
              have q1 : (⟨#[111, 117, 116, 32]⟩ : ByteArray).size = 4 := rfl
              obtain ⟨p1, z1, P1, a1⟩ := cat_op ⟨#[111, 117, 116, 32]⟩ x (by omega)
              obtain ⟨p2, z2, P2, a2⟩ := cat_op p1 ⟨#[10]⟩ (by omega)
              obtain ⟨p3, z3, P3, a3⟩ := cat_op t p2 (by omega)
              have HP := Lib.hid (show p3.data.toList = L2 ++ (a.outputs.take (k + 1)).flatMap outL by
                rw [P3.out, P2.out, P1.out, Ht.out, flatMap_succ HX2.out]; simp [outL])
              clear q1 q2 q4 z1 z2 z3 P1 P2 P3 hok
              go_wp2
              go_round
              case rel => exact ⟨k + 1, p3, by omega, by go_num, rfl, HP.out, hbr⟩
              case measure => simp [intOf]; omega
            · have HF := Lib.hid (show a.outputs.take k = a.outputs from List.take_of_length_le (by rw [hrn.outputs.1]; omega))
              have Ht2 := Lib.hid (show t.data.toList = L2 ++ a.outputs.flatMap outL by rw [Ht.out, HF.out])
              clear Ht
              generalize L2 ++ a.outputs.flatMap outL = L3 at *
              have hlen3 : L3.length ≤ 1200000 := by
                have h1 : t.data.toList.length = t.size := by simp
                rw [← Ht2.out, h1]; exact hts
              clear hlen2
              have hlen2 := hlen3
              clear hlen3 q2 q4
              go_wp2
              clear hcell
              go_loopw [3, 7] (fun s i wr => ∃ (k : Nat) (t : ByteArray), k ≤ q ∧ i = .int .i64 k ∧ s = .string t ∧ t.data.toList = L3 ++ (a.needs.take k).flatMap needL ∧ Below W.heap.size W wr) (fun _ i _ => q - (intOf i).toNat)
              case atStart => exact ⟨0, t, Nat.zero_le _, rfl, rfl, by rw [Ht2.out]; simp, hbr⟩
              case round =>
                clear hbr
                obtain ⟨k, t, hk, rfl, rfl, ht, hbr⟩ := hrel
                have Ht := Lib.hid ht; clear ht
                have hcell : wr.cell? ⟨w.heap.size, 4, none⟩ = some (.slice D q q') := by rw [World.cell?, (hbr.block _ hz).trans HX.out]; rfl
                have hlen : (L3 ++ (a.needs.take k).flatMap needL).length ≤ 1300000 := by have := len_cons hlen2 (needs_length ok k); omega
                have hts : t.size ≤ 1300000 := by
                  have h1 : t.data.toList.length = t.size := by simp
                  rw [← h1, Ht.out]; exact hlen
                clear hlen
                have q4 : (⟨#[10]⟩ : ByteArray).size = 1 := rfl
                have q2 : (⟨#[32]⟩ : ByteArray).size = 1 := rfl
                by_cases hlt : k < q
                · obtain ⟨b, o, x, rfl, hb, hx, hs1, hs2, c0, c1⟩ := (hrn.needs.keep (keep_lt hbr)).var hlt
                  have hok := ok.need x (List.mem_of_getElem? hx)
                  have HX2 := Lib.hid hx; clear hx
                  have q1 : (⟨#[110, 101, 101, 100, 32]⟩ : ByteArray).size = 5 := rfl
                  obtain ⟨p1, z1, P1, a1⟩ := cat_op ⟨#[110, 101, 101, 100, 32]⟩ x.name (by omega)
                  obtain ⟨p2, z2, P2, a2⟩ := cat_op p1 ⟨#[32]⟩ (by omega)
                  obtain ⟨p3, z3, P3, a3⟩ := cat_op p2 x.value (by omega)
                  obtain ⟨p4, z4, P4, a4⟩ := cat_op p3 ⟨#[10]⟩ (by omega)
                  obtain ⟨p5, z5, P5, a5⟩ := cat_op t p4 (by omega)
                  have HP := Lib.hid (show p5.data.toList = L3 ++ (a.needs.take (k + 1)).flatMap needL by
                    rw [P5.out, P4.out, P3.out, P2.out, P1.out, Ht.out, flatMap_succ HX2.out]; simp [needL])
                  clear q1 q2 q4 z1 z2 z3 z4 z5 P1 P2 P3 P4 P5 hok
                  go_wp2
                  go_quiet (fail)
                  go_wp2
                  go_round
                  case rel => exact ⟨k + 1, p5, by omega, by go_num, rfl, HP.out, below_drewN hbr _⟩
                  case measure => simp [intOf]; omega
                · have HF := Lib.hid (show a.needs.take k = a.needs from List.take_of_length_le (by rw [hrn.needs.1]; omega))
                  have Ht2 := Lib.hid (show t.data.toList = L3 ++ a.needs.flatMap needL by rw [Ht.out, HF.out])
                  clear Ht
                  generalize L3 ++ a.needs.flatMap needL = L4 at *
                  have hlen3 : L4.length ≤ 1300000 := by
                    have h1 : t.data.toList.length = t.size := by simp
                    rw [← Ht2.out, h1]; exact hts
                  clear hlen2
                  have hlen2 := hlen3
                  clear hlen3 q2 q4
                  have hcell5 : wr.cell? ⟨w.heap.size, 5, none⟩ = some (.int .i64 a.time) := by rw [World.cell?, (hbr.block _ hz).trans HX.out]; rfl
                  obtain ⟨s1, k1, E1, C1⟩ := itoa_op a.time htn
                  have HEr := HEn.out _ hbr
                  have q1 : (⟨#[116, 105, 109, 101, 32]⟩ : ByteArray).size = 5 := rfl
                  have q4 : (⟨#[10]⟩ : ByteArray).size = 1 := rfl
                  obtain ⟨p1, z1, P1, a1⟩ := cat_op t ⟨#[116, 105, 109, 101, 32]⟩ (by omega)
                  obtain ⟨p2, z2, P2, a2⟩ := cat_op p1 s1 (by omega)
                  obtain ⟨p3, z3, P3, a3⟩ := cat_op p2 ⟨#[10]⟩ (by omega)
                  have HP := Lib.hid (show p3.data.toList = actTextL a by
                    rw [P3.out, P2.out, P1.out, E1.out, Ht2.out, ← HLL.out]; simp [timeL])
                  clear q1 q4 z1 z2 z3 P1 P2 P3
                  go_wp2_with fail
                  refine (C1.out _ HEr).mono ?_
                  rintro e w2 ⟨rfl, hb2⟩
                  go_wp2
                  go_ret
                  exact ⟨ret_str HP.out, hbel.trans ((fr_call hbr hb2).mono (Nat.le_of_lt hz))⟩
end Go.Proofs.Sm

namespace Go.Proofs.Sm
open Go.RowKit

def aLook : Look := ⟨⟨#[97]⟩, ⟨#[]⟩, false⟩
def aFile : FileV := ⟨⟨#[97]⟩, false, []⟩
def bLook : Look := ⟨⟨#[97]⟩, ⟨#[99, 98, 102, 50, 57, 99, 101, 52, 56, 52, 50, 50, 50, 51, 50, 53]⟩, false⟩
theorem a_err : looksOfErr [aLook] [aFile] = 0 := by decide +kernel
theorem a_looks : looksOfS [aLook] [aFile] = [bLook] := sameLooksS_iff.1 (by decide +kernel)
theorem at_box3 {w : World} {g : Nat} {a b c : Value} (h : Box3 w g a b c) : At w g 0 [a, b, c] := by
  intro j v hv
  match j, hv with
  | 0, hv => cases hv; exact h.1.1
  | 1, hv => cases hv; exact h.1.2.1
  | 2, hv => cases hv; exact h.1.2.2
theorem one_look {w : World} {g : Nat} {x : Look} (h : Box3 w g (.string x.path) (.string x.digest) (.bool x.run)) (h1 : x.path.size ≤ maxLen) (h2 : x.digest.size ≤ maxLen) : Sl w (Lt w.heap.size) (some ⟨g, 0, none⟩) 1 [x] :=
  ⟨rfl, by unfold maxLen; decide, fun _ => ⟨g, 0, rfl, h.2.2, fun i y hy => by
    cases i with
    | zero => cases hy; exact ⟨_, ⟨rfl, h1, h2⟩, at_box3 h⟩
    | succ i => simp at hy⟩⟩
theorem one_file {w : World} {g : Nat} {x : FileV} (h : Box3 w g (.string x.path) (.bool x.run) (.slice none 0 0)) (h1 : x.path.size ≤ maxLen) (hb : x.bytes = []) : Sl w (Lt w.heap.size) (some ⟨g, 0, none⟩) 1 [x] :=
  ⟨rfl, by unfold maxLen; decide, fun _ => ⟨g, 0, rfl, h.2.2, fun i y hy => by
    cases i with
    | zero => cases hy; exact ⟨_, ⟨h1, none, 0, 0, rfl, Nat.le_refl _, Nat.zero_le _, by rw [hb]; exact Sl.nil⟩, at_box3 h⟩
    | succ i => simp at hy⟩⟩

set_option maxRecDepth 100000 in
theorem law5_awake (w : World) (hE : Env w) : Calls Tryz.prog 14 #[] w fun e w' => e = .returned (.bool true) ∧ Below w.heap.size w w' := by
  go_enter Tryz.func14, Tryz.ntmps14
  go_wp2_with fail
  have hb1 := box3_new w (.string ⟨#[97]⟩) (.string ⟨#[]⟩) (.bool false) 44
  have hb2 := hb1.call (fr_alloc (fr_refl _) (.cells #[.string ⟨#[97]⟩, .bool false, .slice none 0 0] 56))
  have hb3 := box3_new (w.alloc (.cells #[.string ⟨#[97]⟩, .string ⟨#[]⟩, .bool false] 44)) (.string ⟨#[97]⟩) (.bool false) (.slice none 0 0) 56
  have c := act_LooksOf (some ⟨w.heap.size, 0, none⟩) (some ⟨(w.alloc (.cells #[.string ⟨#[97]⟩, .string ⟨#[]⟩, .bool false] 44)).heap.size, 0, none⟩) 1 1 1 1 [aLook] [aFile] _ ((hE.alloc _).alloc _) (one_look (x := aLook) hb2 (by unfold maxLen; decide) (by unfold maxLen; decide)) (one_file (x := aFile) hb3 (by unfold maxLen; decide) rfl)
  rw [a_err, a_looks] at c
  have hs : (w.alloc (.cells #[.string ⟨#[97]⟩, .string ⟨#[]⟩, .bool false] 44)).heap.size = w.heap.size + 1 := by simp
  rw [hs] at c
  refine c.mono ?_
  rintro e w1 ⟨A', n', c', rfl, q1, q2, q3, hbel⟩
  obtain rfl : n' = 1 := q3.1.symm
  obtain ⟨b, o, x, rfl, hb, hx, hs1, hs2, c0, c1, c2⟩ := q3.look (k := 0) (by omega)
  obtain rfl : bLook = x := by simpa using hx
  have d1 : w1.cell? ⟨b, o + 1, none⟩ = some (.string ⟨#[99, 98, 102, 50, 57, 99, 101, 52, 56, 52, 50, 50, 50, 51, 50, 53]⟩) := by
    have h : some (Value.string bLook.digest) = some (.string ⟨#[99, 98, 102, 50, 57, 99, 101, 52, 56, 52, 50, 50, 50, 51, 50, 53]⟩) := rfl
    rw [← h]
    simpa using c1
  clear c0 c1 c2 hx
  go_wp2
  go_ret
  exact ⟨rfl, fr_call (fr_alloc (fr_alloc (fr_refl _) _) _) hbel⟩

end Go.Proofs.Sm

namespace Go.Proofs.Sm
open Go.RowKit

/-- the text of an action; none when it is wrong -/
def actTextS (a : ActionV) : ByteArray := if checkActionS a = 0 then ⟨(actTextL a).toArray⟩ else ⟨#[]⟩
theorem actText_length {a : ActionV} (ok : ActOk a) : (actTextL a).length ≤ 2000000 := by
  have h1 := toolL_length ok
  have h2 := cmds_length ok a.commands.length
  have h3 := vars_length ok a.vars.length
  have h4 := outs_length ok a.outputs.length
  have h5 := needs_length ok a.needs.length
  rw [List.take_length] at h2 h3 h4 h5
  have h6 := Lib.itoa_length_le a.time (by have := ok.time; omega) (by have := ok.time; omega)
  simp only [actTextL, timeL, List.length_append, List.length_cons, List.length_nil] at h1 h2 h3 h4 h5 ⊢
  omega
set_option maxHeartbeats 1000000 in
set_option maxRecDepth 100000 in
theorem act_Text (a : ActionV) (A : Option Addr) (n n' : Nat) (B : Option Addr) (m m' : Nat) (C : Option Addr) (p p' : Nat) (D : Option Addr) (q q' : Nat) (w : World) (hE : Env2 w) (ha : ActIs w a A n B m C p D q) :
    Calls Tryz.prog 10 #[actVal a A n n' B m m' C p p' D q q'] w fun e w' => e = .returned (.tuple #[.string (actTextS a), .int .i64 (checkActionS a)]) ∧ Below w.heap.size w w' := by
  have hv : actVal a A n n' B m m' C p p' D q q' = .agg #[.string a.tool, .slice A n n', .slice B m m', .slice C p p', .slice D q q', .int .i64 a.time] := rfl
  have C1 := Lib.hid (fun w' (hb : Below w.heap.size w w') => act_CheckAction a A n n' B m m' C p p' D q q' w' (hE.then_ hb).toEnv (ha.then_ hb))
  have C2 := Lib.hid (fun w' (hb : Below w.heap.size w w') ok => act_text a A n n' B m m' C p p' D q q' w' (hE.then_ hb) (ha.then_ hb) ok)
  rw [hv] at C1 C2 ⊢
  clear hv
  go_enter Tryz.func10, Tryz.ntmps10
  go_wp2_with fail
  refine (C1.out _ (fr_alloc (fr_refl w) _)).mono ?_
  rintro e w1 ⟨rfl, hb1⟩
  have hz1 := grew hb1
  obtain ⟨hc1, hf1⟩ := bcell hb1
  have hbel1 := fr_box (fr_refl w) hb1
  clear hb1
  cases h0 : (checkActionS a == 0)
  · have hne : checkActionS a ≠ 0 := by simpa using h0
    have hbn : (checkActionS a != 0) = true := by simpa using h0
    have HN := Lib.hid hne; clear hne
    go_wp2
    go_ret2
    exact ⟨ret_pair (by rw [actTextS, if_neg HN.out]; rfl) rfl, hbel1⟩
  · have hz : checkActionS a = 0 := by simpa using h0
    have hbn : (checkActionS a != 0) = false := by simpa using h0
    have ok := checkAction_ok hz
    have HZ := Lib.hid hz; clear hz
    go_wp2_with fail
    refine (C2.out _ hbel1 ok).mono ?_
    rintro e w2 ⟨rfl, hb2⟩
    go_wp2
    go_ret2
    exact ⟨ret_pair (by rw [actTextS, if_pos HZ.out]; rfl) (congrArg (Value.int .i64) HZ.out.symm), fr_call hbel1 hb2⟩
set_option maxHeartbeats 1000000 in
set_option maxRecDepth 100000 in
theorem ref5_Text (a : ActionV) (A : Option Addr) (n n' : Nat) (B : Option Addr) (m m' : Nat) (C : Option Addr) (p p' : Nat) (D : Option Addr) (q q' : Nat) (w : World) (hE : Env2 w) (ha : ActIs w a A n B m C p D q) :
    Calls Tryz.prog 11 #[actVal a A n n' B m m' C p p' D q q'] w fun e w' => e = .returned (.tuple #[.string (actTextS a), .int .i64 (checkActionS a)]) ∧ Below w.heap.size w w' := by
  have hv : actVal a A n n' B m m' C p p' D q q' = .agg #[.string a.tool, .slice A n n', .slice B m m', .slice C p p', .slice D q q', .int .i64 a.time] := rfl
  have C1 := Lib.hid (fun w' (hb : Below w.heap.size w w') => ref5_CheckAction a A n n' B m m' C p p' D q q' w' (hE.then_ hb).toEnv (ha.then_ hb))
  have C2 := Lib.hid (fun w' (hb : Below w.heap.size w w') ok => ref5_TextOf a A n n' B m m' C p p' D q q' w' (hE.then_ hb) (ha.then_ hb) ok)
  rw [hv] at C1 C2 ⊢
  clear hv
  go_enter Tryz.func11, Tryz.ntmps11
  go_wp2_with fail
  refine (C1.out _ (fr_alloc (fr_refl w) _)).mono ?_
  rintro e w1 ⟨rfl, hb1⟩
  have hz1 := grew hb1
  obtain ⟨hc1, hf1⟩ := bcell hb1
  have hbel1 := fr_box (fr_refl w) hb1
  clear hb1
  cases h0 : (checkActionS a == 0)
  · have hne : checkActionS a ≠ 0 := by simpa using h0
    have hbn : (checkActionS a != 0) = true := by simpa using h0
    have HN := Lib.hid hne; clear hne
    go_wp2
    go_ret2
    exact ⟨ret_pair (by rw [actTextS, if_neg HN.out]; rfl) rfl, hbel1⟩
  · have hz : checkActionS a = 0 := by simpa using h0
    have hbn : (checkActionS a != 0) = false := by simpa using h0
    have ok := checkAction_ok hz
    have HZ := Lib.hid hz; clear hz
    go_wp2_with fail
    refine (C2.out _ hbel1 ok).mono ?_
    rintro e w2 ⟨rfl, hb2⟩
    go_wp2
    go_ret2
    exact ⟨ret_pair (by rw [actTextS, if_pos HZ.out]; rfl) (congrArg (Value.int .i64) HZ.out.symm), fr_call hbel1 hb2⟩
set_option maxHeartbeats 1000000 in
set_option maxRecDepth 100000 in
theorem law_checks (a : ActionV) (A : Option Addr) (n n' : Nat) (B : Option Addr) (m m' : Nat) (C : Option Addr) (p p' : Nat) (D : Option Addr) (q q' : Nat) (w : World) (hE : Env2 w) (ha : ActIs w a A n B m C p D q) :
    Calls Tryz.prog 3 #[actVal a A n n' B m m' C p p' D q q'] w fun e w' => e = .returned (.bool true) ∧ Below w.heap.size w w' := by
  have hv : actVal a A n n' B m m' C p p' D q q' = .agg #[.string a.tool, .slice A n n', .slice B m m', .slice C p p', .slice D q q', .int .i64 a.time] := rfl
  have C1 := Lib.hid (fun w' (hb : Below w.heap.size w w') => act_Text a A n n' B m m' C p p' D q q' w' (hE.then_ hb) (ha.then_ hb))
  have C2 := Lib.hid (fun w' (hb : Below w.heap.size w w') => ref5_Text a A n n' B m m' C p p' D q q' w' (hE.then_ hb) (ha.then_ hb))
  have C3 := Lib.hid (fun w' (hb : Below w.heap.size w w') => act_CheckAction a A n n' B m m' C p p' D q q' w' (hE.then_ hb).toEnv (ha.then_ hb))
  have C4 := Lib.hid (fun w' (hb : Below w.heap.size w w') => ref5_CheckAction a A n n' B m m' C p p' D q q' w' (hE.then_ hb).toEnv (ha.then_ hb))
  rw [hv] at C1 C2 C3 C4 ⊢
  clear hv
  go_enter Tryz.func3, Tryz.ntmps3
  go_wp2_with fail
  have b0 := fr_alloc (fr_refl w) (.cells #[.string a.tool, .slice A n n', .slice B m m', .slice C p p', .slice D q q', .int .i64 a.time] 26)
  refine (C1.out _ b0).mono ?_
  rintro e w1 ⟨rfl, hb1⟩
  have hz1 := grew hb1
  obtain ⟨hc1, hf1⟩ := bcell hb1
  have b1 := fr_call b0 hb1
  have hX1 := Lib.hid ((hb1.block _ (by simp)).trans (heap_alloc_new w (.cells #[.string a.tool, .slice A n n', .slice B m m', .slice C p p', .slice D q q', .int .i64 a.time] 26)))
  clear hb1 b0
  go_wp2_with fail
  refine (C2.out _ b1).mono ?_
  rintro e w2 ⟨rfl, hb2⟩
  have hX : w2.heap[w.heap.size]? = some (.cells #[.string a.tool, .slice A n n', .slice B m m', .slice C p p', .slice D q q', .int .i64 a.time] 26 (0, 0)) :=
    (hb2.block _ hz1).trans hX1.out
  have b2 := fr_call b1 hb2
  have hz2 : w.heap.size < w2.heap.size := Nat.lt_of_lt_of_le hz1 hb2.size
  clear hb2 b1 hc1 hf1
  have HK := Lib.hid (show ∀ w', Below w2.heap.size w2 w' → (Below w2.heap.size w2 w' ∧ w'.cell? ⟨w.heap.size, 0, none⟩ = some (.string a.tool) ∧ w'.cell? ⟨w.heap.size, 1, none⟩ = some (.slice A n n') ∧ w'.cell? ⟨w.heap.size, 2, none⟩ = some (.slice B m m') ∧ w'.cell? ⟨w.heap.size, 3, none⟩ = some (.slice C p p') ∧ w'.cell? ⟨w.heap.size, 4, none⟩ = some (.slice D q q') ∧ w'.cell? ⟨w.heap.size, 5, none⟩ = some (.int .i64 a.time)) from fun w' h => by
    have h1 : w'.heap[w.heap.size]? = _ := (h.block _ hz2).trans hX
    refine ⟨h, ?_, ?_, ?_, ?_, ?_, ?_⟩ <;> (rw [World.cell?, h1]; rfl))
  clear hX
  go_wp2_with fail
  go_region_held3 (fun w' => Below w2.heap.size w2 w' ∧ w'.cell? ⟨w.heap.size, 0, none⟩ = some (.string a.tool) ∧ w'.cell? ⟨w.heap.size, 1, none⟩ = some (.slice A n n') ∧ w'.cell? ⟨w.heap.size, 2, none⟩ = some (.slice B m m') ∧ w'.cell? ⟨w.heap.size, 3, none⟩ = some (.slice C p p') ∧ w'.cell? ⟨w.heap.size, 4, none⟩ = some (.slice D q q') ∧ w'.cell? ⟨w.heap.size, 5, none⟩ = some (.int .i64 a.time))
    (first | assumption | exact HK.out _ (Below.refl _ _).drew | exact HK.out _ (fr_call (And.left (by assumption)) hbc))
    (first
      | (go_at_call 12; refine (C3.out _ (fr_call b2 (And.left (by assumption)))).mono ?_; rintro e wc ⟨rfl, hbc⟩)
      | (go_at_call 13; refine (C4.out _ (fr_call b2 (And.left (by assumption)))).mono ?_; rintro e wc ⟨rfl, hbc⟩)
      | (go_at_call 14; refine (law5_awake _ (hE.toEnv.then_ (fr_call b2 (And.left (by assumption))))).mono ?_; rintro e wc ⟨rfl, hbc⟩))
  have b3 : Below w2.heap.size w2 wc := And.left (by assumption)
  go_wp2
  go_ret
  exact ⟨rfl, fr_call b2 b3⟩
end Go.Proofs.Sm

namespace Go.Proofs.Sm
open Go.RowKit

/-- bytes of a string, in a row of their own -/
theorem to_bytes (s : ByteArray) (hs : s.size ≤ maxLen) (w : World) : ∃ w2 c, (convert 9 54 (.string s)).run Tryz.prog w = .ok (.slice (some ⟨w.heap.size, 0, none⟩) s.size c) w2 ∧ Below w.heap.size w w2 ∧ Sl w2 (Lt w2.heap.size) (some ⟨w.heap.size, 0, none⟩) s.size s.data.toList := by
  refine ⟨Lib.bytesWorld w 5 s, _, Lib.run_convert_string_bytes (P := Tryz.prog) w 9 54 5 s Tryz.underlying9 Tryz.underlying54 Tryz.underlying5, ⟨rfl, rfl, rfl, by rw [Lib.bytesWorld_size]; omega, fun k hk => Lib.bytesWorld_at_old w _ s k hk⟩, by simp, hs, fun _ => ⟨_, _, rfl, by show _ < _; rw [Lib.bytesWorld_size]; omega, fun i x hx => ⟨[.int .u8 x.toNat], rfl, fun j v hv => ?_⟩⟩⟩
  have hj : j = 0 ∧ v = .int .u8 x.toNat := by
    cases j with
    | zero => simp at hv; exact ⟨rfl, hv.symm⟩
    | succ j => simp at hv
  obtain ⟨rfl, rfl⟩ := hj
  have hi : i < s.data.toList.length := (List.getElem?_eq_some_iff.1 hx).1
  have h := Lib.bytesWorld_cell w 5 s i (by simpa using hi)
  simp only [Rep.sz, Nat.mul_one, Nat.add_zero, Nat.zero_add]
  rw [h, List.getD_eq_getElem?_getD, hx]; rfl
def keyErr (a : ActionV) (r : ByteArray) : Int := if checkActionS a ≠ 0 then checkActionS a else if isDigestS r = false then 3 else 0
def keyS (a : ActionV) (r : ByteArray) : ByteArray := if keyErr a r = 0 then digestS (actTextL a ++ [114, 111, 111, 116, 32] ++ r.data.toList ++ [10]) else ⟨#[]⟩
def keyOfErr (a : ActionV) (l : List Look) : Int := if checkActionS a ≠ 0 then checkActionS a else checkLooksS l
def keyOfS (a : ActionV) (l : List Look) : ByteArray := if keyOfErr a l = 0 then digestS (actTextL a ++ l.flatMap lookLineS) else ⟨#[]⟩
theorem looks_len {l : List Look} (h : checkLooksS l = 0) (k : Nat) : ((l.take k).flatMap lookLineS).length ≤ 920000 := by
  have h1 : l.length ≤ 4000 := by
    unfold checkLooksS at h
    split at h <;> omega
  have h2 := flatMap_take (f := lookLineS) (m := 230) h1 (fun x hx => by
    have := looks_sizes h x hx
    exact lookLine_length x this.1 this.2) k
  omega
set_option maxHeartbeats 1000000 in
set_option maxRecDepth 100000 in
theorem act_Key (a : ActionV) (A : Option Addr) (n n' : Nat) (B : Option Addr) (m m' : Nat) (C : Option Addr) (p p' : Nat) (D : Option Addr) (q q' : Nat) (r : ByteArray) (w : World) (hr : r.size ≤ maxLen) (hE : Env2 w) (ha : ActIs w a A n B m C p D q) :
    Calls Tryz.prog 15 #[actVal a A n n' B m m' C p p' D q q', .string r] w fun e w' => e = .returned (.tuple #[.string (keyS a r), .int .i64 (keyErr a r)]) ∧ Below w.heap.size w w' := by
  have hv : actVal a A n n' B m m' C p p' D q q' = .agg #[.string a.tool, .slice A n n', .slice B m m', .slice C p p', .slice D q q', .int .i64 a.time] := rfl
  have C1 := Lib.hid (fun w' (hb : Below w.heap.size w w') => act_CheckAction a A n n' B m m' C p p' D q q' w' (hE.then_ hb).toEnv (ha.then_ hb))
  have C2 := Lib.hid (fun w' (hb : Below w.heap.size w w') ok => act_text a A n n' B m m' C p p' D q q' w' (hE.then_ hb) (ha.then_ hb) ok)
  rw [hv] at C1 C2 ⊢
  clear hv
  go_enter Tryz.func15, Tryz.ntmps15
  go_wp2_with fail
  refine (C1.out _ (fr_alloc (fr_refl w) _)).mono ?_
  rintro e w1 ⟨rfl, hb1⟩
  have hz1 := grew hb1
  obtain ⟨hc1, hf1⟩ := bcell hb1
  have hbel1 := fr_box (fr_refl w) hb1
  clear hb1
  cases h0 : (checkActionS a == 0)
  · have hne : checkActionS a ≠ 0 := by simpa using h0
    have hbn : (checkActionS a != 0) = true := by simpa using h0
    have HE := Lib.hid (show keyErr a r = checkActionS a by rw [keyErr, if_pos hne])
    have HN := Lib.hid hne; clear hne
    go_wp2
    go_ret2
    exact ⟨ret_pair (by rw [keyS, if_neg (by rw [HE.out]; exact HN.out)]; rfl) (congrArg (Value.int .i64) HE.out.symm), hbel1⟩
  have hz : checkActionS a = 0 := by simpa using h0
  have hbn : (checkActionS a != 0) = false := by simpa using h0
  have ok := checkAction_ok hz
  have HE := Lib.hid (show keyErr a r = if isDigestS r = false then 3 else 0 by rw [keyErr, if_neg (by rw [hz]; decide)])
  clear hz
  cases hd : isDigestS r
  · have HF := Lib.hid (show keyErr a r = 3 by rw [HE.out, if_pos hd])
    go_wp2_with (go_at_call 34; refine (blob_IsDigest _ _ hr).mono ?_; rintro e w2 ⟨rfl, hb2⟩)
    go_ret2
    exact ⟨ret_pair (by rw [keyS, if_neg (by rw [HF.out]; decide)]; rfl) (congrArg (Value.int .i64) HF.out.symm), fr_call hbel1 hb2⟩
  · have HF := Lib.hid (show keyErr a r = 0 by rw [HE.out, if_neg (by rw [hd]; decide)])
    have hrs := digest_size (.inr hd)
    have htl := actText_length ok
    go_wp2_with fail
    refine (blob_IsDigest _ _ hr).mono ?_
    rintro e w2 ⟨rfl, hb2⟩
    obtain ⟨hc2, hf2⟩ := bcell hb2
    have hbel2 := fr_call hbel1 hb2
    go_wp2_with fail
    refine (C2.out _ hbel2 ok).mono ?_
    rintro e w3 ⟨rfl, hb3⟩
    have hbel3 := fr_call hbel2 hb3
    obtain ⟨t, ht⟩ : ∃ t : ByteArray, t = ⟨(actTextL a).toArray⟩ := ⟨_, rfl⟩
    have htz : t.size = (actTextL a).length := by rw [ht]; simp [ByteArray.size]
    have HTL := Lib.hid (show t.data.toList = actTextL a by rw [ht])
    rw [← ht]
    clear ht
    have q1 : (⟨#[114, 111, 111, 116, 32]⟩ : ByteArray).size = 5 := rfl
    have q4 : (⟨#[10]⟩ : ByteArray).size = 1 := rfl
    obtain ⟨p1, z1, P1, a1⟩ := cat_op t ⟨#[114, 111, 111, 116, 32]⟩ (by omega)
    obtain ⟨p2, z2, P2, a2⟩ := cat_op p1 r (by omega)
    obtain ⟨p3, z3, P3, a3⟩ := cat_op p2 ⟨#[10]⟩ (by omega)
    have HP := Lib.hid (show p3.data.toList = actTextL a ++ [114, 111, 111, 116, 32] ++ r.data.toList ++ [10] by rw [P3.out, P2.out, P1.out, HTL.out])
    obtain ⟨w3', c3, hcv, hb3', hsl3⟩ := to_bytes p3 (by unfold maxLen; omega) w3
    clear q1 q4 z1 z2 z3 P1 P2 P3 htl
    go_wp2_with fail
    refine (blob_Digest _ _ _ _ _ hsl3).mono ?_
    rintro e w4 ⟨rfl, hb4⟩
    go_wp2
    go_ret2
    exact ⟨ret_pair (by rw [keyS, if_pos HF.out, HP.out]; rfl) (congrArg (Value.int .i64) HF.out.symm), fr_call (fr_call hbel3 hb3') hb4⟩
set_option maxHeartbeats 1000000 in
set_option maxRecDepth 100000 in
theorem ref5_Key (a : ActionV) (A : Option Addr) (n n' : Nat) (B : Option Addr) (m m' : Nat) (C : Option Addr) (p p' : Nat) (D : Option Addr) (q q' : Nat) (r : ByteArray) (w : World) (hr : r.size ≤ maxLen) (hE : Env2 w) (ha : ActIs w a A n B m C p D q) :
    Calls Tryz.prog 16 #[actVal a A n n' B m m' C p p' D q q', .string r] w fun e w' => e = .returned (.tuple #[.string (keyS a r), .int .i64 (keyErr a r)]) ∧ Below w.heap.size w w' := by
  have hv : actVal a A n n' B m m' C p p' D q q' = .agg #[.string a.tool, .slice A n n', .slice B m m', .slice C p p', .slice D q q', .int .i64 a.time] := rfl
  have C1 := Lib.hid (fun w' (hb : Below w.heap.size w w') => ref5_CheckAction a A n n' B m m' C p p' D q q' w' (hE.then_ hb).toEnv (ha.then_ hb))
  have C2 := Lib.hid (fun w' (hb : Below w.heap.size w w') ok => ref5_TextOf a A n n' B m m' C p p' D q q' w' (hE.then_ hb) (ha.then_ hb) ok)
  rw [hv] at C1 C2 ⊢
  clear hv
  go_enter Tryz.func16, Tryz.ntmps16
  go_wp2_with fail
  refine (C1.out _ (fr_alloc (fr_refl w) _)).mono ?_
  rintro e w1 ⟨rfl, hb1⟩
  have hz1 := grew hb1
  obtain ⟨hc1, hf1⟩ := bcell hb1
  have hbel1 := fr_box (fr_refl w) hb1
  clear hb1
  cases h0 : (checkActionS a == 0)
  · have hne : checkActionS a ≠ 0 := by simpa using h0
    have hbn : (checkActionS a != 0) = true := by simpa using h0
    have HE := Lib.hid (show keyErr a r = checkActionS a by rw [keyErr, if_pos hne])
    have HN := Lib.hid hne; clear hne
    go_wp2
    go_ret2
    exact ⟨ret_pair (by rw [keyS, if_neg (by rw [HE.out]; exact HN.out)]; rfl) (congrArg (Value.int .i64) HE.out.symm), hbel1⟩
  have hz : checkActionS a = 0 := by simpa using h0
  have hbn : (checkActionS a != 0) = false := by simpa using h0
  have ok := checkAction_ok hz
  have HE := Lib.hid (show keyErr a r = if isDigestS r = false then 3 else 0 by rw [keyErr, if_neg (by rw [hz]; decide)])
  clear hz
  cases hd : isDigestS r
  · have HF := Lib.hid (show keyErr a r = 3 by rw [HE.out, if_pos hd])
    go_wp2_with (go_at_call 38; refine (ref1_IsDigest' _ _ hr).mono ?_; rintro e w2 ⟨rfl, hb2⟩)
    go_ret2
    exact ⟨ret_pair (by rw [keyS, if_neg (by rw [HF.out]; decide)]; rfl) (congrArg (Value.int .i64) HF.out.symm), fr_call hbel1 hb2⟩
  · have HF := Lib.hid (show keyErr a r = 0 by rw [HE.out, if_neg (by rw [hd]; decide)])
    have hrs := digest_size (.inr hd)
    have htl := actText_length ok
    go_wp2_with fail
    refine (ref1_IsDigest' _ _ hr).mono ?_
    rintro e w2 ⟨rfl, hb2⟩
    obtain ⟨hc2, hf2⟩ := bcell hb2
    have hbel2 := fr_call hbel1 hb2
    go_wp2_with fail
    refine (C2.out _ hbel2 ok).mono ?_
    rintro e w3 ⟨rfl, hb3⟩
    have hbel3 := fr_call hbel2 hb3
    obtain ⟨t, ht⟩ : ∃ t : ByteArray, t = ⟨(actTextL a).toArray⟩ := ⟨_, rfl⟩
    have htz : t.size = (actTextL a).length := by rw [ht]; simp [ByteArray.size]
    have HTL := Lib.hid (show t.data.toList = actTextL a by rw [ht])
    rw [← ht]
    clear ht
    have q1 : (⟨#[114, 111, 111, 116, 32]⟩ : ByteArray).size = 5 := rfl
    have q4 : (⟨#[10]⟩ : ByteArray).size = 1 := rfl
    obtain ⟨p1, z1, P1, a1⟩ := cat_op t ⟨#[114, 111, 111, 116, 32]⟩ (by omega)
    obtain ⟨p2, z2, P2, a2⟩ := cat_op p1 r (by omega)
    obtain ⟨p3, z3, P3, a3⟩ := cat_op p2 ⟨#[10]⟩ (by omega)
    have HP := Lib.hid (show p3.data.toList = actTextL a ++ [114, 111, 111, 116, 32] ++ r.data.toList ++ [10] by rw [P3.out, P2.out, P1.out, HTL.out])
    obtain ⟨w3', c3, hcv, hb3', hsl3⟩ := to_bytes p3 (by unfold maxLen; omega) w3
    clear q1 q4 z1 z2 z3 P1 P2 P3 htl
    go_wp2_with fail
    refine (ref1_Digest _ _ _ _ _ hsl3).mono ?_
    rintro e w4 ⟨rfl, hw4⟩
    have hb4 : Below w3'.heap.size w3' w4 := below_eq hw4
    clear hw4
    go_wp2
    go_ret2
    exact ⟨ret_pair (by rw [keyS, if_pos HF.out, HP.out]; rfl) (congrArg (Value.int .i64) HF.out.symm), fr_call (fr_call hbel3 hb3') hb4⟩
end Go.Proofs.Sm

namespace Go.Proofs.Sm
open Go.RowKit

set_option maxHeartbeats 1000000 in
set_option maxRecDepth 100000 in
theorem act_KeyOf (a : ActionV) (A : Option Addr) (n n' : Nat) (B : Option Addr) (m m' : Nat) (C : Option Addr) (p p' : Nat) (D : Option Addr) (q q' : Nat) (E : Option Addr) (z z' : Nat) (l : List Look) (w : World) (hE : Env2 w) (ha : ActIs w a A n B m C p D q) (hl : Sl w (Lt w.heap.size) E z l) :
    Calls Tryz.prog 17 #[actVal a A n n' B m m' C p p' D q q', .slice E z z'] w fun e w' => e = .returned (.tuple #[.string (keyOfS a l), .int .i64 (keyOfErr a l)]) ∧ Below w.heap.size w w' := by
  have hm : z ≤ 9223372036854775807 := hl.2.1
  have hv : actVal a A n n' B m m' C p p' D q q' = .agg #[.string a.tool, .slice A n n', .slice B m m', .slice C p p', .slice D q q', .int .i64 a.time] := rfl
  have C1 := Lib.hid (fun w' (hb : Below w.heap.size w w') => act_CheckAction a A n n' B m m' C p p' D q q' w' (hE.then_ hb).toEnv (ha.then_ hb))
  have C2 := Lib.hid (fun w' (hb : Below w.heap.size w w') ok => act_text a A n n' B m m' C p p' D q q' w' (hE.then_ hb) (ha.then_ hb) ok)
  have C3 := Lib.hid (fun w' (hb : Below w.heap.size w w') => act_CheckLooks E z z' l w' (hE.then_ hb).toEnv (sl_call hl hb (Nat.le_refl _)))
  rw [hv] at C1 C2 ⊢
  clear hv
  go_enter Tryz.func17, Tryz.ntmps17
  go_wp2_with fail
  refine (C1.out _ (fr_alloc (fr_refl w) _)).mono ?_
  rintro e w1 ⟨rfl, hb1⟩
  have hz1 := grew hb1
  obtain ⟨hc1, hf1⟩ := bcell hb1
  have hbel1 := fr_box (fr_refl w) hb1
  clear hb1
  cases h0 : (checkActionS a == 0)
  · have hne : checkActionS a ≠ 0 := by simpa using h0
    have hbn : (checkActionS a != 0) = true := by simpa using h0
    have HE := Lib.hid (show keyOfErr a l = checkActionS a by rw [keyOfErr, if_pos hne])
    have HN := Lib.hid hne; clear hne
    go_wp2
    go_ret2
    exact ⟨ret_pair (by rw [keyOfS, if_neg (by rw [HE.out]; exact HN.out)]; rfl) (congrArg (Value.int .i64) HE.out.symm), hbel1⟩
  have hz : checkActionS a = 0 := by simpa using h0
  have hbn : (checkActionS a != 0) = false := by simpa using h0
  have ok := checkAction_ok hz
  have HE := Lib.hid (show keyOfErr a l = checkLooksS l by rw [keyOfErr, if_neg (by rw [hz]; decide)])
  clear hz
  go_wp2_with fail
  refine (C3.out _ hbel1).mono ?_
  rintro e w2 ⟨rfl, hb2⟩
  obtain ⟨hc2, hf2⟩ := bcell hb2
  have hbel2 := fr_call hbel1 hb2
  have hz2 : w.heap.size < w2.heap.size := Nat.lt_of_lt_of_le hz1 hb2.size
  cases h1 : (checkLooksS l == 0)
  · have hne : checkLooksS l ≠ 0 := by simpa using h1
    have hbn1 : (checkLooksS l != 0) = true := by simpa using h1
    have HN := Lib.hid hne; clear hne
    go_wp2
    go_ret2
    exact ⟨ret_pair (by rw [keyOfS, if_neg (by rw [HE.out]; exact HN.out)]; rfl) (congrArg (Value.int .i64) HE.out.symm), hbel2⟩
  have hz' : checkLooksS l = 0 := by simpa using h1
  have hbn1 : (checkLooksS l != 0) = false := by simpa using h1
  have HZ := Lib.hid hz'
  have HR := Lib.hid (show keyOfErr a l = 0 by rw [HE.out, hz'])
  clear hz'
  go_wp2_with fail
  refine (C2.out _ hbel2 ok).mono ?_
  rintro e w3 ⟨rfl, hb3⟩
  have hbel3 := fr_call hbel2 hb3
  obtain ⟨t0, ht⟩ : ∃ t : ByteArray, t = ⟨(actTextL a).toArray⟩ := ⟨_, rfl⟩
  have HTL := Lib.hid (show t0.data.toList = actTextL a by rw [ht])
  rw [← ht]
  clear ht
  have htl := actText_length ok
  go_wp2
  go_loopw [8, 10, 25] (fun s _ i wr => ∃ (k : Nat) (t : ByteArray), k ≤ z ∧ i = .int .i64 k ∧ s = .string t ∧ t.data.toList = actTextL a ++ (l.take k).flatMap lookLineS ∧ Below w3.heap.size w3 wr) (fun _ _ i _ => z - (intOf i).toNat)
  case atStart => exact ⟨0, t0, Nat.zero_le _, rfl, rfl, by rw [HTL.out]; simp, Below.refl _ _⟩
  case round =>
    obtain ⟨k, t, hk, rfl, rfl, ht, hbr⟩ := hrel
    have Ht := Lib.hid ht; clear ht
    have hbelr := fr_call hbel3 hbr
    have hlr := sl_call hl hbelr (Nat.le_refl _)
    have hll := looks_len HZ.out k
    have hts : t.size ≤ 3000000 := by
      have h1 : t.data.toList.length = t.size := by simp
      rw [← h1, Ht.out, List.length_append]; omega
    by_cases hlt : k < z
    · obtain ⟨b, o, x, rfl, hb, hx, hs1, hs2, c0, c1, c2⟩ := hlr.look hlt
      have hsz := looks_sizes HZ.out x (List.mem_of_getElem? hx)
      have hl1 := lookLine_length x hsz.1 hsz.2
      have hl2 : (⟨(lookLineS x).toArray⟩ : ByteArray).size = (lookLineS x).length := by simp [ByteArray.size]
      obtain ⟨p, zz, P, ap⟩ := cat_op t ⟨(lookLineS x).toArray⟩ (by omega)
      have HP := Lib.hid (show p.data.toList = actTextL a ++ (l.take (k + 1)).flatMap lookLineS by
        rw [P.out, Ht.out, flatMap_succ hx]; simp)
      clear hx P hl1 hl2 zz hll
      go_wp2_with fail
      refine (act_lookText x _ (by omega) (by omega)).mono ?_
      rintro e w4 ⟨rfl, hb4⟩
      go_wp2
      go_round
      case rel => exact ⟨k + 1, p, by omega, by go_num, rfl, HP.out, fr_call (fr_alloc hbr _) hb4⟩
      case measure => simp [intOf]; omega
    · have HF := Lib.hid (show t.data.toList = actTextL a ++ l.flatMap lookLineS by rw [Ht.out, List.take_of_length_le (by rw [hl.1]; omega)])
      obtain ⟨w3', c3, hcv, hb3', hsl3⟩ := to_bytes t (by unfold maxLen; omega) wr
      clear hll
      go_wp2_with fail
      refine (blob_Digest _ _ _ _ _ hsl3).mono ?_
      rintro e w4 ⟨rfl, hb4⟩
      go_wp2
      go_ret2
      exact ⟨ret_pair (by rw [keyOfS, if_pos (show keyOfErr a l = 0 from HR.out), HF.out]; rfl) (congrArg (Value.int .i64) HR.out.symm), fr_call (fr_call hbelr hb3') hb4⟩
set_option maxHeartbeats 1000000 in
set_option maxRecDepth 100000 in
theorem ref5_KeyFor (a : ActionV) (A : Option Addr) (n n' : Nat) (B : Option Addr) (m m' : Nat) (C : Option Addr) (p p' : Nat) (D : Option Addr) (q q' : Nat) (E : Option Addr) (z z' : Nat) (l : List Look) (w : World) (hE : Env2 w) (ha : ActIs w a A n B m C p D q) (hl : Sl w (Lt w.heap.size) E z l) (ok : ActOk a ∧ checkLooksS l = 0) :
    Calls Tryz.prog 48 #[actVal a A n n' B m m' C p p' D q q', .slice E z z'] w fun e w' => e = .returned (.string (digestS (actTextL a ++ l.flatMap lookLineS))) ∧ Below w.heap.size w w' := by
  have hm : z ≤ 9223372036854775807 := hl.2.1
  have HZ := Lib.hid ok.2
  have ok := ok.1
  have hv : actVal a A n n' B m m' C p p' D q q' = .agg #[.string a.tool, .slice A n n', .slice B m m', .slice C p p', .slice D q q', .int .i64 a.time] := rfl
  have C2 := Lib.hid (fun w' (hb : Below w.heap.size w w') => ref5_TextOf a A n n' B m m' C p p' D q q' w' (hE.then_ hb) (ha.then_ hb) ok)
  rw [hv] at C2 ⊢
  clear hv
  go_enter Tryz.func48, Tryz.ntmps48
  go_wp2_with fail
  refine (C2.out _ (fr_alloc (fr_refl w) _)).mono ?_
  rintro e w3 ⟨rfl, hb3⟩
  have hbel3 := fr_box (fr_refl w) hb3
  clear hb3
  obtain ⟨t0, ht⟩ : ∃ t : ByteArray, t = ⟨(actTextL a).toArray⟩ := ⟨_, rfl⟩
  have HTL := Lib.hid (show t0.data.toList = actTextL a by rw [ht])
  rw [← ht]
  clear ht
  have htl := actText_length ok
  go_wp2
  go_loopw [5, 6] (fun s i wr => ∃ (k : Nat) (t : ByteArray), k ≤ z ∧ i = .int .i64 k ∧ s = .string t ∧ t.data.toList = actTextL a ++ (l.take k).flatMap lookLineS ∧ Below w3.heap.size w3 wr) (fun _ i _ => z - (intOf i).toNat)
  case atStart => exact ⟨0, t0, Nat.zero_le _, rfl, rfl, by rw [HTL.out]; simp, Below.refl _ _⟩
  case round =>
    obtain ⟨k, t, hk, rfl, rfl, ht, hbr⟩ := hrel
    have Ht := Lib.hid ht; clear ht
    have hbelr := fr_call hbel3 hbr
    have hlr := sl_call hl hbelr (Nat.le_refl _)
    have hll := looks_len HZ.out k
    have hts : t.size ≤ 3000000 := by
      have h1 : t.data.toList.length = t.size := by simp
      rw [← h1, Ht.out, List.length_append]; omega
    by_cases hlt : k < z
    · obtain ⟨b, o, x, rfl, hb, hx, hs1, hs2, c0, c1, c2⟩ := hlr.look hlt
      have hsz := looks_sizes HZ.out x (List.mem_of_getElem? hx)
      have hl1 := lookLine_length x hsz.1 hsz.2
      have hl2 : (⟨(lookLineS x).toArray⟩ : ByteArray).size = (lookLineS x).length := by simp [ByteArray.size]
      obtain ⟨p, zz, P, ap⟩ := cat_op t ⟨(lookLineS x).toArray⟩ (by omega)
      have HP := Lib.hid (show p.data.toList = actTextL a ++ (l.take (k + 1)).flatMap lookLineS by
        rw [P.out, Ht.out, flatMap_succ hx]; simp)
      clear hx P hl1 hl2 zz hll
      go_wp2_with fail
      refine (ref5_lookLine x _ (by omega) (by omega)).mono ?_
      rintro e w4 ⟨rfl, hb4⟩
      go_wp2
      go_round
      case rel => exact ⟨k + 1, p, by omega, by go_num, rfl, HP.out, fr_call hbr hb4⟩
      case measure => simp [intOf]; omega
    · have HF := Lib.hid (show t.data.toList = actTextL a ++ l.flatMap lookLineS by rw [Ht.out, List.take_of_length_le (by rw [hl.1]; omega)])
      obtain ⟨w3', c3, hcv, hb3', hsl3⟩ := to_bytes t (by unfold maxLen; omega) wr
      clear hll
      go_wp2_with fail
      refine (ref1_Digest _ _ _ _ _ hsl3).mono ?_
      rintro e w4 ⟨rfl, hw4⟩
      have hb4 : Below w3'.heap.size w3' w4 := below_eq hw4
      clear hw4
      go_wp2
      go_ret
      exact ⟨by rw [HF.out]; rfl, fr_call (fr_call hbelr hb3') hb4⟩
set_option maxHeartbeats 1000000 in
set_option maxRecDepth 100000 in
theorem ref5_KeyOf (a : ActionV) (A : Option Addr) (n n' : Nat) (B : Option Addr) (m m' : Nat) (C : Option Addr) (p p' : Nat) (D : Option Addr) (q q' : Nat) (E : Option Addr) (z z' : Nat) (l : List Look) (w : World) (hE : Env2 w) (ha : ActIs w a A n B m C p D q) (hl : Sl w (Lt w.heap.size) E z l) :
    Calls Tryz.prog 18 #[actVal a A n n' B m m' C p p' D q q', .slice E z z'] w fun e w' => e = .returned (.tuple #[.string (keyOfS a l), .int .i64 (keyOfErr a l)]) ∧ Below w.heap.size w w' := by
  have hm : z ≤ 9223372036854775807 := hl.2.1
  have hv : actVal a A n n' B m m' C p p' D q q' = .agg #[.string a.tool, .slice A n n', .slice B m m', .slice C p p', .slice D q q', .int .i64 a.time] := rfl
  have C1 := Lib.hid (fun w' (hb : Below w.heap.size w w') => ref5_CheckAction a A n n' B m m' C p p' D q q' w' (hE.then_ hb).toEnv (ha.then_ hb))
  have C2 := Lib.hid (fun w' (hb : Below w.heap.size w w') ok => ref5_KeyFor a A n n' B m m' C p p' D q q' E z z' l w' (hE.then_ hb) (ha.then_ hb) (sl_call hl hb (Nat.le_refl _)) ok)
  have C3 := Lib.hid (fun w' (hb : Below w.heap.size w w') => ref5_CheckLooks E z z' l w' (hE.then_ hb).toEnv (sl_call hl hb (Nat.le_refl _)))
  rw [hv] at C1 C2 ⊢
  clear hv
  go_enter Tryz.func18, Tryz.ntmps18
  go_wp2_with fail
  refine (C1.out _ (fr_alloc (fr_refl w) _)).mono ?_
  rintro e w1 ⟨rfl, hb1⟩
  have hz1 := grew hb1
  obtain ⟨hc1, hf1⟩ := bcell hb1
  have hbel1 := fr_box (fr_refl w) hb1
  clear hb1
  cases h0 : (checkActionS a == 0)
  · have hne : checkActionS a ≠ 0 := by simpa using h0
    have hbn : (checkActionS a != 0) = true := by simpa using h0
    have HE := Lib.hid (show keyOfErr a l = checkActionS a by rw [keyOfErr, if_pos hne])
    have HN := Lib.hid hne; clear hne
    go_wp2
    go_ret2
    exact ⟨ret_pair (by rw [keyOfS, if_neg (by rw [HE.out]; exact HN.out)]; rfl) (congrArg (Value.int .i64) HE.out.symm), hbel1⟩
  have hz : checkActionS a = 0 := by simpa using h0
  have hbn : (checkActionS a != 0) = false := by simpa using h0
  have ok := checkAction_ok hz
  have HE := Lib.hid (show keyOfErr a l = checkLooksS l by rw [keyOfErr, if_neg (by rw [hz]; decide)])
  clear hz
  go_wp2_with fail
  refine (C3.out _ hbel1).mono ?_
  rintro e w2 ⟨rfl, hb2⟩
  obtain ⟨hc2, hf2⟩ := bcell hb2
  have hbel2 := fr_call hbel1 hb2
  have hz2 : w.heap.size < w2.heap.size := Nat.lt_of_lt_of_le hz1 hb2.size
  cases h1 : (checkLooksS l == 0)
  · have hne : checkLooksS l ≠ 0 := by simpa using h1
    have hbn1 : (checkLooksS l != 0) = true := by simpa using h1
    have HN := Lib.hid hne; clear hne
    go_wp2
    go_ret2
    exact ⟨ret_pair (by rw [keyOfS, if_neg (by rw [HE.out]; exact HN.out)]; rfl) (congrArg (Value.int .i64) HE.out.symm), hbel2⟩
  have hz' : checkLooksS l = 0 := by simpa using h1
  have hbn1 : (checkLooksS l != 0) = false := by simpa using h1
  have HZ := Lib.hid hz'
  have HF := Lib.hid (show keyOfErr a l = 0 by rw [HE.out, hz'])
  clear hz'
  go_wp2_with fail
  refine (C2.out _ hbel2 ⟨ok, HZ.out⟩).mono ?_
  rintro e w3 ⟨rfl, hb3⟩
  go_wp2
  go_ret2
  exact ⟨ret_pair (by rw [keyOfS, if_pos HF.out]; rfl) (congrArg (Value.int .i64) HF.out.symm), fr_call hbel2 hb3⟩
set_option maxHeartbeats 1000000 in
set_option maxRecDepth 100000 in
theorem law_keys (a : ActionV) (A : Option Addr) (n n' : Nat) (B : Option Addr) (m m' : Nat) (C : Option Addr) (p p' : Nat) (D : Option Addr) (q q' : Nat) (r : ByteArray) (E : Option Addr) (z z' : Nat) (l : List Look) (w : World) (hr : r.size ≤ maxLen) (hE : Env2 w) (ha : ActIs w a A n B m C p D q) (hl : Sl w (Lt w.heap.size) E z l) :
    Calls Tryz.prog 4 #[actVal a A n n' B m m' C p p' D q q', .string r, .slice E z z'] w fun e w' => e = .returned (.bool true) ∧ Below w.heap.size w w' := by
  have hv : actVal a A n n' B m m' C p p' D q q' = .agg #[.string a.tool, .slice A n n', .slice B m m', .slice C p p', .slice D q q', .int .i64 a.time] := rfl
  have C1 := Lib.hid (fun w' (hb : Below w.heap.size w w') => act_Key a A n n' B m m' C p p' D q q' r w' hr (hE.then_ hb) (ha.then_ hb))
  have C2 := Lib.hid (fun w' (hb : Below w.heap.size w w') => ref5_Key a A n n' B m m' C p p' D q q' r w' hr (hE.then_ hb) (ha.then_ hb))
  have C3 := Lib.hid (fun w' (hb : Below w.heap.size w w') => act_KeyOf a A n n' B m m' C p p' D q q' E z z' l w' (hE.then_ hb) (ha.then_ hb) (sl_call hl hb (Nat.le_refl _)))
  have C4 := Lib.hid (fun w' (hb : Below w.heap.size w w') => ref5_KeyOf a A n n' B m m' C p p' D q q' E z z' l w' (hE.then_ hb) (ha.then_ hb) (sl_call hl hb (Nat.le_refl _)))
  rw [hv] at C1 C2 C3 C4 ⊢
  clear hv
  go_enter Tryz.func4, Tryz.ntmps4
  go_wp2_with fail
  have b0 := fr_alloc (fr_refl w) (.cells #[.string a.tool, .slice A n n', .slice B m m', .slice C p p', .slice D q q', .int .i64 a.time] 26)
  refine (C1.out _ b0).mono ?_
  rintro e w1 ⟨rfl, hb1⟩
  have hz1 := grew hb1
  obtain ⟨hc1, hf1⟩ := bcell hb1
  have b1 := fr_call b0 hb1
  clear hb1 b0
  go_wp2_with fail
  refine (C2.out _ b1).mono ?_
  rintro e w2 ⟨rfl, hb2⟩
  obtain ⟨hc2, hf2⟩ := bcell hb2
  have b2 := fr_call b1 hb2
  have hz2 : w.heap.size < w2.heap.size := Nat.lt_of_lt_of_le hz1 hb2.size
  clear hb2 b1
  go_wp2_with fail
  refine (C3.out _ b2).mono ?_
  rintro e w3 ⟨rfl, hb3⟩
  obtain ⟨hc3, hf3⟩ := bcell hb3
  have b3 := fr_call b2 hb3
  have hz3 : w.heap.size < w3.heap.size := Nat.lt_of_lt_of_le hz2 hb3.size
  clear hb3 b2
  go_wp2_with fail
  refine (C4.out _ b3).mono ?_
  rintro e w4 ⟨rfl, hb4⟩
  have b4 := fr_call b3 hb4
  clear hb4 b3
  go_wp2_with (go_at_call 14; refine (law5_awake _ (hE.toEnv.then_ b4)).mono ?_; rintro e w5 ⟨rfl, hb5⟩)
  go_ret
  exact ⟨rfl, fr_call b4 hb5⟩
end Go.Proofs.Sm
