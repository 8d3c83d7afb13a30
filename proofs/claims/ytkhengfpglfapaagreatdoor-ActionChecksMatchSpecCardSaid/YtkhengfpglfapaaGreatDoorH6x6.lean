/- CheckAction and Text are as specified, with all errors: the given statement, for all arguments; no condition. -/
import Derived.Test.YtkhengfpglfapaaGreatDoorH7x5
import Derived.Test.YtkhengfpglfapaaGreatDoorH7x2
import Derived.Test.YtkhengfpglfapaaGreatDoorCards
import Derived.Test.YtkhengfpglfapaaGreatDoorTie
import Derived.OpenShut
import Derived.ShutString
import Derived.ChangeOld
import Derived.Deep.DeepHandedRow
import Derived.Deep.DeepWitnessRowRef
import Derived.Lib.LaidU8
import Derived.Lib.LaidTab
import Derived.Test.YtkhengfpglfapaaGreatDoorH7x3
import Derived.Lib.LaidIn
import Derived.Test.YtkhengfpglfapaaGreatDoorCardZRC6
namespace Go.Proofs.Sm
open Go.RowKit

/-- a new row of strings -/
theorem row_new (w : World) (t : TypeId) (l : List ByteArray) (hl : l.length ≤ maxLen) (hs : ∀ x ∈ l, x.size ≤ maxLen) :
    Sl (w.alloc (.cells (l.map Value.string).toArray t)) (Lt (w.alloc (.cells (l.map Value.string).toArray t)).heap.size) (some ⟨w.heap.size, 0, none⟩) l.length l :=
  (Sl.new_strs hl hs).more (lt_mono (by simp))
theorem line_two (x y : ByteArray) : lineW [x, y] = x.data.toList ++ [32] ++ y.data.toList ++ [10] := by rw [lineW, joinS_two]
theorem line_three (x y z : ByteArray) : lineW [x, y, z] = x.data.toList ++ [32] ++ y.data.toList ++ [32] ++ z.data.toList ++ [10] := by rw [lineW, joinS_three]

theorem line_call2 (g : Nat) (L : List UInt8) (x y : ByteArray) (W : World) (hB : Bld W g L) (hx : x.size ≤ 20000) (hy : y.size ≤ 20000) (hlen : L.length ≤ 2000000) :
    Calls Tryz.prog 66 #[.slice (some ⟨W.heap.size, 0, none⟩) 2 2, .pointer (some ⟨g, 0, none⟩)] (W.alloc (.cells #[.string x, .string y] 9)) fun e w' => e = .returned (.tuple #[]) ∧ Bld w' g (L ++ (x.data.toList ++ [32] ++ y.data.toList ++ [10])) ∧ Wrote g W w' := by
  have hxs : x.data.toList.length = x.size := by simp
  have hys : y.data.toList.length = y.size := by simp
  have hl : (joinS [x, y]).length ≤ 50000 := by rw [joinS_two]; simp only [List.length_append, List.length_cons, List.length_nil, hxs, hys]; omega
  refine (act_text1 g L _ 2 2 [x, y] _ (hB.alloc _) (row_new W 9 [x, y] (by show 2 ≤ maxLen; decide) (by intro z hz; simp at hz; unfold maxLen; rcases hz with rfl | rfl <;> omega)) (Nat.le_refl _) (by decide) (by omega)).mono ?_
  rintro e w1 ⟨rfl, hB1, hw⟩
  rw [line_two] at hB1
  exact ⟨rfl, hB1, (Wrote.of_below ((Below.refl _ _).alloc (Nat.le_refl _) _) (Nat.le_of_lt hB.lt)).trans hw⟩
theorem line_call3 (g : Nat) (L : List UInt8) (x y z : ByteArray) (W : World) (hB : Bld W g L) (hx : x.size ≤ 20000) (hy : y.size ≤ 20000) (hz : z.size ≤ 20000) (hlen : L.length ≤ 2000000) :
    Calls Tryz.prog 66 #[.slice (some ⟨W.heap.size, 0, none⟩) 3 3, .pointer (some ⟨g, 0, none⟩)] (W.alloc (.cells #[.string x, .string y, .string z] 9)) fun e w' => e = .returned (.tuple #[]) ∧ Bld w' g (L ++ (x.data.toList ++ [32] ++ y.data.toList ++ [32] ++ z.data.toList ++ [10])) ∧ Wrote g W w' := by
  have hxs : x.data.toList.length = x.size := by simp
  have hys : y.data.toList.length = y.size := by simp
  have hzs : z.data.toList.length = z.size := by simp
  have hl : (joinS [x, y, z]).length ≤ 100000 := by rw [joinS_three]; simp only [List.length_append, List.length_cons, List.length_nil, hxs, hys, hzs]; omega
  refine (act_text1 g L _ 3 3 [x, y, z] _ (hB.alloc _) (row_new W 9 [x, y, z] (by show 3 ≤ maxLen; decide) (by intro u hu; simp at hu; unfold maxLen; rcases hu with rfl | rfl | rfl <;> omega)) (Nat.le_refl _) (by decide) (by omega)).mono ?_
  rintro e w1 ⟨rfl, hB1, hw⟩
  rw [line_three] at hB1
  exact ⟨rfl, hB1, (Wrote.of_below ((Below.refl _ _).alloc (Nat.le_refl _) _) (Nat.le_of_lt hB.lt)).trans hw⟩
theorem len_cons {l : List UInt8} {m : Nat} (h : l.length ≤ m) {l' : List UInt8} {m' : Nat} (h' : l'.length ≤ m') : (l ++ l').length ≤ m + m' := by rw [List.length_append]; omega

theorem ret_strL {l l' : List UInt8} (h : l = l') : Ending.returned (.string ⟨l.toArray⟩) = Ending.returned (.string ⟨l'.toArray⟩) := by rw [h]
set_option maxHeartbeats 4000000 in
set_option maxRecDepth 100000 in
theorem act_text (a : ActionV) (A : Option Addr) (n n' : Nat) (B : Option Addr) (m m' : Nat) (C : Option Addr) (p p' : Nat) (D : Option Addr) (q q' : Nat) (w : World) (hE : Env2 w) (ha : ActIs w a A n B m C p D q) (ok : ActOk a) :
    Calls Tryz.prog 32 #[actVal a A n n' B m m' C p p' D q q'] w fun e w' => e = .returned (.string ⟨(actTextL a).toArray⟩) ∧ Below w.heap.size w w' := by
  unfold actVal
  have hm1 : n ≤ 9223372036854775807 := ha.commands.2.1
  have hm2 : m ≤ 9223372036854775807 := ha.vars.2.1
  have hm3 : p ≤ 9223372036854775807 := ha.outputs.2.1
  have hm4 : q ≤ 9223372036854775807 := ha.needs.2.1
  have htl := ha.tool
  go_enter Tryz.func32, Tryz.ntmps32
  go_wp2_with fail
  have hB : Bld ((w.alloc (.cells #[.string a.tool, .slice A n n', .slice B m m', .slice C p p', .slice D q q', .int .i64 a.time] 26)).alloc (.cells #[.pointer none, .slice none 0 0] 101)) (w.heap.size + 1) [] := by
    have h := Bld.new (w.alloc (.cells #[.string a.tool, .slice A n n', .slice B m m', .slice C p p', .slice D q q', .int .i64 a.time] 26))
    rwa [show (w.alloc (.cells #[.string a.tool, .slice A n n', .slice B m m', .slice C p p', .slice D q q', .int .i64 a.time] 26)).heap.size = w.heap.size + 1 by simp] at h
  have hX : ((w.alloc (.cells #[.string a.tool, .slice A n n', .slice B m m', .slice C p p', .slice D q q', .int .i64 a.time] 26)).alloc (.cells #[.pointer none, .slice none 0 0] 101)).heap[w.heap.size]? = some (.cells #[.string a.tool, .slice A n n', .slice B m m', .slice C p p', .slice D q q', .int .i64 a.time] 26 (0, 0)) :=
    (Lib.alloc_old (w.alloc (.cells #[.string a.tool, .slice A n n', .slice B m m', .slice C p p', .slice D q q', .int .i64 a.time] 26)) _ _ (by simp)).trans (heap_alloc_new w _)
  have hbel2 : Below w.heap.size w ((w.alloc (.cells #[.string a.tool, .slice A n n', .slice B m m', .slice C p p', .slice D q q', .int .i64 a.time] 26)).alloc (.cells #[.pointer none, .slice none 0 0] 101)) := fr_alloc (fr_alloc (fr_refl w) _) _
  have hWg : ((w.alloc (.cells #[.string a.tool, .slice A n n', .slice B m m', .slice C p p', .slice D q q', .int .i64 a.time] 26)).alloc (.cells #[.pointer none, .slice none 0 0] 101)).heap.size = w.heap.size + 1 + 1 := by simp
  have hEn := (hE.alloc (.cells #[.string a.tool, .slice A n n', .slice B m m', .slice C p p', .slice D q q', .int .i64 a.time] 26)).alloc (.cells #[.pointer none, .slice none 0 0] 101)
  have hfc : Sl ((w.alloc (.cells #[.string a.tool, .slice A n n', .slice B m m', .slice C p p', .slice D q q', .int .i64 a.time] 26)).alloc (.cells #[.pointer none, .slice none 0 0] 101)) (Lt (w.heap.size + 1)) A n a.commands := (ha.commands.keep (keep_lt hbel2)).more (lt_mono (by omega))
  have hfv : Sl ((w.alloc (.cells #[.string a.tool, .slice A n n', .slice B m m', .slice C p p', .slice D q q', .int .i64 a.time] 26)).alloc (.cells #[.pointer none, .slice none 0 0] 101)) (Lt (w.heap.size + 1)) B m a.vars := (ha.vars.keep (keep_lt hbel2)).more (lt_mono (by omega))
  have hfo : Sl ((w.alloc (.cells #[.string a.tool, .slice A n n', .slice B m m', .slice C p p', .slice D q q', .int .i64 a.time] 26)).alloc (.cells #[.pointer none, .slice none 0 0] 101)) (Lt (w.heap.size + 1)) C p a.outputs := (ha.outputs.keep (keep_lt hbel2)).more (lt_mono (by omega))
  have hfn : Sl ((w.alloc (.cells #[.string a.tool, .slice A n n', .slice B m m', .slice C p p', .slice D q q', .int .i64 a.time] 26)).alloc (.cells #[.pointer none, .slice none 0 0] 101)) (Lt (w.heap.size + 1)) D q a.needs := (ha.needs.keep (keep_lt hbel2)).more (lt_mono (by omega))
  have hgw : w.heap.size ≤ w.heap.size + 1 := Nat.le_succ _
  have hz1 : w.heap.size < w.heap.size + 1 := Nat.lt_succ_self _
  rw [← hWg]
  generalize hg : w.heap.size + 1 = g at *
  have HG := Lib.hid hg; clear hg
  have hgl := hE.size
  generalize ((w.alloc (.cells #[.string a.tool, .slice A n n', .slice B m m', .slice C p p', .slice D q q', .int .i64 a.time] 26)).alloc (.cells #[.pointer none, .slice none 0 0] 101)) = W at *
  have HEn := Lib.hid (show ∀ w', Below g W w' → Env2 w' from fun w' h => hEn.of_heap h.size fun k hk => h.block k (Nat.lt_of_lt_of_le hk (Nat.le_trans hgl hgw)))
  have HX := Lib.hid hX; clear hX
  have htm := ok.time
  have htn : InInt a.time := ha.time
  refine (line_call2 g [] ⟨#[116, 111, 111, 108]⟩ a.tool W hB (by decide) (by have := ok.tool; omega) (by simp)).mono ?_
  rintro e w1 ⟨rfl, hB1, hw1⟩
  have hB2 : Bld w1 g (toolL a) := by
    have e : toolL a = [] ++ ([116, 111, 111, 108] ++ [32] ++ a.tool.data.toList ++ [10]) := by simp [toolL]
    rw [e]; exact hB1
  clear hB1 hB
  have hbr1 : Below g W w1 := hw1.1
  have hX1 : w1.cell? ⟨w.heap.size, 1, none⟩ = some (.slice A n n') := by rw [World.cell?, (hbr1.block _ hz1).trans HX.out]; rfl
  go_wp2
  go_loopw [6, 22] (fun _ i wr => ∃ k : Nat, k ≤ n ∧ i = .int .i64 k ∧ Bld wr g (toolL a ++ (a.commands.take k).flatMap cmdL) ∧ Below g W wr) (fun _ i _ => n - (intOf i).toNat)
  case atStart => exact ⟨0, Nat.zero_le _, rfl, by simpa using hB2, hbr1⟩
  case round =>
    clear hB2 hbr1 hX1 hw1
    obtain ⟨k, hk, rfl, hBr, hbr⟩ := hrel
    have hgr : g < wr.heap.size := hBr.lt
    have hlen : (toolL a ++ (a.commands.take k).flatMap cmdL).length ≤ 1000000 := by have := len_cons (toolL_length ok) (cmds_length ok k); omega
    by_cases hlt : k < n
    · obtain ⟨b, o, x, A', l', c', rfl, hb, hx, hlc, hcm, hsl', c0⟩ := (hfc.keep (keep_lt hbr)).row hlt
      have hbg : b < g := hb
      have hbw : b < wr.heap.size := by omega
      have hok := ok.words x (List.mem_of_getElem? hx)
      have hjl := cmdL_length hok
      have HX2 := Lib.hid hx; clear hx
      have hl1 := hsl'.1
      go_wp2_with fail
      refine (join_any _ _ _ x _ (hsl'.more (lt_mono (Nat.le_of_lt hgr))) hlc (by omega) (by omega)).mono ?_
      rintro e w2 ⟨rfl, hb2⟩
      have hBx := hBr.call hb2
      have hbx := below_call (show g ≤ W.heap.size by omega) hbr hb2
      go_wp2_with fail
      refine (line_call2 g _ ⟨#[100, 111]⟩ ⟨(joinS x).toArray⟩ w2 hBx (by decide) (by show (joinS x).toArray.size ≤ _; simp; omega) (by omega)).mono ?_
      rintro e w3 ⟨rfl, hB3, hw3⟩
      clear hl1 hjl hok
      go_wp2
      go_round
      case rel =>
        refine ⟨k + 1, by omega, by go_num, ?_, below_wrote hbx hw3⟩
        rw [flatMap_succ HX2.out, ← List.append_assoc, cmdL]
        exact hB3
      case measure => simp [intOf]; omega
    · have HF := Lib.hid (show a.commands.take k = a.commands from List.take_of_length_le (by rw [hfc.1]; omega))
      have hlen2 : (toolL a ++ a.commands.flatMap cmdL).length ≤ 1000000 := by rw [HF.out] at hlen; exact hlen
      rw [HF.out] at hBr
      have HLL := Lib.hid (show toolL a ++ a.commands.flatMap cmdL ++ a.vars.flatMap varL ++ a.outputs.flatMap outL ++ a.needs.flatMap needL ++ timeL a = actTextL a from rfl)
      generalize toolL a ++ a.commands.flatMap cmdL = L1 at *
      clear hlen
      have hX1 : wr.cell? ⟨w.heap.size, 2, none⟩ = some (.slice B m m') := by rw [World.cell?, (hbr.block _ hz1).trans HX.out]; rfl
      go_wp2
      go_loopw [8, 35] (fun _ i wr => ∃ k : Nat, k ≤ m ∧ i = .int .i64 k ∧ Bld wr g (L1 ++ (a.vars.take k).flatMap varL) ∧ Below g W wr) (fun _ i _ => m - (intOf i).toNat)
      case atStart => exact ⟨0, Nat.zero_le _, rfl, by simpa using hBr, hbr⟩
      case round =>
        clear hBr hbr hX1 hgr
        obtain ⟨k, hk, rfl, hBr, hbr⟩ := hrel
        have hgr : g < wr.heap.size := hBr.lt
        have hlen : (L1 ++ (a.vars.take k).flatMap varL).length ≤ 1100000 := by have := len_cons hlen2 (vars_length ok k); omega
        by_cases hlt : k < m
        · obtain ⟨b, o, x, rfl, hb, hx, hs1, hs2, c0, c1⟩ := (hfv.keep (keep_lt hbr)).var hlt
          have hbg : b < g := hb
          have hbw : b < wr.heap.size := by omega
          have hok := ok.var x (List.mem_of_getElem? hx)
          have HX2 := Lib.hid hx; clear hx
          go_wp2_with fail
          rw [show wr.heap.size + 1 = (wr.alloc (.cells #[.string x.name, .string x.value] 109)).heap.size by simp]
          refine (line_call3 g _ ⟨#[118, 97, 114]⟩ x.name x.value (wr.alloc (.cells #[.string x.name, .string x.value] 109)) (hBr.alloc _) (by decide) (by omega) (by omega) (by omega)).mono ?_
          rintro e w3 ⟨rfl, hB3, hw3⟩
          clear hok
          go_wp2
          go_round
          case rel =>
            refine ⟨k + 1, by omega, by go_num, ?_, below_wrote (hbr.alloc (Nat.le_of_lt hgr) _) hw3⟩
            rw [flatMap_succ HX2.out, ← List.append_assoc, varL]
            exact hB3
          case measure => simp [intOf]; omega
        · have HF := Lib.hid (show a.vars.take k = a.vars from List.take_of_length_le (by rw [hfv.1]; omega))
          have hlen3 : (L1 ++ a.vars.flatMap varL).length ≤ 1100000 := by rw [HF.out] at hlen; exact hlen
          clear hlen2
          have hlen2 := hlen3
          clear hlen3
          rw [HF.out] at hBr
          generalize L1 ++ a.vars.flatMap varL = L2 at *
          clear hlen
          have hX1 : wr.cell? ⟨w.heap.size, 3, none⟩ = some (.slice C p p') := by rw [World.cell?, (hbr.block _ hz1).trans HX.out]; rfl
          go_wp2
          go_loopw [10, 50] (fun _ i wr => ∃ k : Nat, k ≤ p ∧ i = .int .i64 k ∧ Bld wr g (L2 ++ (a.outputs.take k).flatMap outL) ∧ Below g W wr) (fun _ i _ => p - (intOf i).toNat)
          case atStart => exact ⟨0, Nat.zero_le _, rfl, by simpa using hBr, hbr⟩
          case round =>
            clear hBr hbr hX1 hgr
            obtain ⟨k, hk, rfl, hBr, hbr⟩ := hrel
            have hgr : g < wr.heap.size := hBr.lt
            have hlen : (L2 ++ (a.outputs.take k).flatMap outL).length ≤ 1200000 := by have := len_cons hlen2 (outs_length ok k); omega
            by_cases hlt : k < p
            · obtain ⟨b, o, x, rfl, hb, hx, hxs, c0⟩ := (hfo.keep (keep_lt hbr)).str hlt
              have hbg : b < g := hb
              have hbw : b < wr.heap.size := by omega
              have hok := ok.output x (List.mem_of_getElem? hx)
              have HX2 := Lib.hid hx; clear hx
              go_wp2_with fail
              refine (line_call2 g _ ⟨#[111, 117, 116]⟩ x wr hBr (by decide) (by omega) (by omega)).mono ?_
              rintro e w3 ⟨rfl, hB3, hw3⟩
              clear hok
              go_wp2
              go_round
              case rel =>
                refine ⟨k + 1, by omega, by go_num, ?_, below_wrote hbr hw3⟩
                rw [flatMap_succ HX2.out, ← List.append_assoc, outL]
                exact hB3
              case measure => simp [intOf]; omega
            · have HF := Lib.hid (show a.outputs.take k = a.outputs from List.take_of_length_le (by rw [hfo.1]; omega))
              have hlen3 : (L2 ++ a.outputs.flatMap outL).length ≤ 1200000 := by rw [HF.out] at hlen; exact hlen
              clear hlen2
              have hlen2 := hlen3
              clear hlen3
              rw [HF.out] at hBr
              generalize L2 ++ a.outputs.flatMap outL = L3 at *
              clear hlen
              have hX1 : wr.cell? ⟨w.heap.size, 4, none⟩ = some (.slice D q q') := by rw [World.cell?, (hbr.block _ hz1).trans HX.out]; rfl
              go_wp2
              go_loopw [12, 62] (fun _ i wr => ∃ k : Nat, k ≤ q ∧ i = .int .i64 k ∧ Bld wr g (L3 ++ (a.needs.take k).flatMap needL) ∧ Below g W wr) (fun _ i _ => q - (intOf i).toNat)
              case atStart => exact ⟨0, Nat.zero_le _, rfl, by simpa using hBr, hbr⟩
              case round =>
                clear hBr hbr hX1 hgr
                obtain ⟨k, hk, rfl, hBr, hbr⟩ := hrel
                have hgr : g < wr.heap.size := hBr.lt
                have hlen : (L3 ++ (a.needs.take k).flatMap needL).length ≤ 1300000 := by have := len_cons hlen2 (needs_length ok k); omega
                by_cases hlt : k < q
                · obtain ⟨b, o, x, rfl, hb, hx, hs1, hs2, c0, c1⟩ := (hfn.keep (keep_lt hbr)).var hlt
                  have hbg : b < g := hb
                  have hbw : b < wr.heap.size := by omega
                  have hok := ok.need x (List.mem_of_getElem? hx)
                  have HX2 := Lib.hid hx; clear hx
                  go_wp2_with fail
                  rw [show wr.heap.size + 1 = (wr.alloc (.cells #[.string x.name, .string x.value] 109)).heap.size by simp]
                  refine (line_call3 g _ ⟨#[110, 101, 101, 100]⟩ x.name x.value (wr.alloc (.cells #[.string x.name, .string x.value] 109)) (hBr.alloc _) (by decide) (by omega) (by omega) (by omega)).mono ?_
                  rintro e w3 ⟨rfl, hB3, hw3⟩
                  clear hok
                  go_wp2
                  go_round
                  case rel =>
                    refine ⟨k + 1, by omega, by go_num, ?_, below_wrote (hbr.alloc (Nat.le_of_lt hgr) _) hw3⟩
                    rw [flatMap_succ HX2.out, ← List.append_assoc, needL]
                    exact hB3
                  case measure => simp [intOf]; omega
                · have HF := Lib.hid (show a.needs.take k = a.needs from List.take_of_length_le (by rw [hfn.1]; omega))
                  have hlen3 : (L3 ++ a.needs.flatMap needL).length ≤ 1300000 := by rw [HF.out] at hlen; exact hlen
                  clear hlen2
                  have hlen2 := hlen3
                  clear hlen3
                  rw [HF.out] at hBr
                  generalize L3 ++ a.needs.flatMap needL = L4 at *
                  clear hlen
                  have hX1 : wr.cell? ⟨w.heap.size, 5, none⟩ = some (.int .i64 a.time) := by rw [World.cell?, (hbr.block _ hz1).trans HX.out]; rfl
                  obtain ⟨s1, k1, E1, C1⟩ := itoa_op a.time htn
                  have HEr := HEn.out _ hbr
                  go_wp2_with fail
                  refine (C1.out _ HEr).mono ?_
                  rintro e w2 ⟨rfl, hb2⟩
                  have hBx := hBr.call hb2
                  have hbx := below_call (show g ≤ W.heap.size by omega) hbr hb2
                  go_wp2_with fail
                  refine (line_call2 g _ ⟨#[116, 105, 109, 101]⟩ s1 w2 hBx (by decide) (by omega) (by omega)).mono ?_
                  rintro e w3 ⟨rfl, hB3, hw3⟩
                  go_wp2_with fail
                  refine (bld_String g _ _ hB3).mono ?_
                  rintro e w4 ⟨rfl, hB4, hw4⟩
                  go_wp2
                  go_ret
                  exact ⟨ret_strL (by rw [← HLL.out, timeL, ← E1.out]; rfl), hbel2.trans (((below_wrote hbx hw3).trans hw4.1).mono hgw)⟩
end Go.Proofs.Sm

namespace Go.Proofs.Sm
open Go.RowKit

set_option maxHeartbeats 4000000 in
set_option maxRecDepth 100000 in
theorem ref5_TextOf (a : ActionV) (A : Option Addr) (n n' : Nat) (B : Option Addr) (m m' : Nat) (C : Option Addr) (p p' : Nat) (D : Option Addr) (q q' : Nat) (w : World) (hE : Env2 w) (ha : ActIs w a A n B m C p D q) (ok : ActOk a) :
    Calls Tryz.prog 33 #[actVal a A n n' B m m' C p p' D q q'] w fun e w' => e = .returned (.string ⟨(actTextL a).toArray⟩) ∧ Below w.heap.size w w' := by
  unfold actVal
  have hm1 : n ≤ 9223372036854775807 := ha.commands.2.1
  have hm2 : m ≤ 9223372036854775807 := ha.vars.2.1
  have hm3 : p ≤ 9223372036854775807 := ha.outputs.2.1
  have hm4 : q ≤ 9223372036854775807 := ha.needs.2.1
  have q1 : (⟨#[116, 111, 111, 108, 32]⟩ : ByteArray).size = 5 := rfl
  have q4 : (⟨#[10]⟩ : ByteArray).size = 1 := rfl
  have q5 := ok.tool
  obtain ⟨p1, z1, P1, a1⟩ := cat_op ⟨#[116, 111, 111, 108, 32]⟩ a.tool (by omega)
  obtain ⟨p2, z2, P2, a2⟩ := cat_op p1 ⟨#[10]⟩ (by omega)
  have HT := Lib.hid (show p2.data.toList = toolL a by rw [P2.out, P1.out, toolL])
  clear q1 q4 z1 z2 P1 P2
  go_enter Tryz.func33, Tryz.ntmps33
  go_wp2
  clear a1 a2
  have hX := heap_alloc_new w (.cells #[.string a.tool, .slice A n n', .slice B m m', .slice C p p', .slice D q q', .int .i64 a.time] 26)
  have hEn := hE.alloc (.cells #[.string a.tool, .slice A n n', .slice B m m', .slice C p p', .slice D q q', .int .i64 a.time] 26)
  have hrn := ha.then_ (fr_alloc (fr_refl w) (.cells #[.string a.tool, .slice A n n', .slice B m m', .slice C p p', .slice D q q', .int .i64 a.time] 26))
  have hbel := fr_alloc (fr_refl w) (.cells #[.string a.tool, .slice A n n', .slice B m m', .slice C p p', .slice D q q', .int .i64 a.time] 26)
  have hz : w.heap.size < (w.alloc (.cells #[.string a.tool, .slice A n n', .slice B m m', .slice C p p', .slice D q q', .int .i64 a.time] 26)).heap.size := by simp
  generalize (w.alloc (.cells #[.string a.tool, .slice A n n', .slice B m m', .slice C p p', .slice D q q', .int .i64 a.time] 26)) = W at *
  have HX := Lib.hid hX; clear hX
  have HEn := Lib.hid (show ∀ w', Below W.heap.size W w' → Env2 w' from fun w' h => hEn.then_ h)
  have htm := ok.time
  have htn : InInt a.time := ha.time
  have hlen2 := toolL_length ok
  go_loopw [3, 4] (fun s i wr => ∃ (k : Nat) (t : ByteArray), k ≤ n ∧ i = .int .i64 k ∧ s = .string t ∧ t.data.toList = toolL a ++ (a.commands.take k).flatMap cmdL ∧ Below W.heap.size W wr) (fun _ i _ => n - (intOf i).toNat)
  case atStart => exact ⟨0, p2, Nat.zero_le _, rfl, rfl, by rw [HT.out]; simp, Below.refl _ _⟩
  case round =>
    skip
    obtain ⟨k, t, hk, rfl, rfl, ht, hbr⟩ := hrel
    have Ht := Lib.hid ht; clear ht
    have hcell : wr.cell? ⟨w.heap.size, 1, none⟩ = some (.slice A n n') := by rw [World.cell?, (hbr.block _ hz).trans HX.out]; rfl
    have hlen : (toolL a ++ (a.commands.take k).flatMap cmdL).length ≤ 1000000 := by have := len_cons hlen2 (cmds_length ok k); omega
    have hts : t.size ≤ 1000000 := by
      have h1 : t.data.toList.length = t.size := by simp
      rw [← h1, Ht.out]; exact hlen
    clear hlen
    have q4 : (⟨#[10]⟩ : ByteArray).size = 1 := rfl
    have q2 : (⟨#[32]⟩ : ByteArray).size = 1 := rfl
    by_cases hlt : k < n
    · obtain ⟨b, o, x, A', l', c', rfl, hb, hx, hlc, hcm, hsl', c0⟩ := (hrn.commands.keep (keep_lt hbr)).row hlt
      have hok := ok.words x (List.mem_of_getElem? hx)
      have hjl := cmdL_length hok
      have HX2 := Lib.hid hx; clear hx
      have hl1 := hsl'.1
      obtain ⟨j, hj⟩ : ∃ j : ByteArray, j = ⟨(joinS x).toArray⟩ := ⟨_, rfl⟩
      have hjs : j.size = (joinS x).length := by rw [hj]; simp [ByteArray.size]
      have HJL := Lib.hid (show j.data.toList = joinS x by rw [hj])
      have HJ := Lib.hid (hj ▸ join_any A' l' c' x wr (hsl'.more (lt_mono hbr.size)) hlc (by omega) (by omega) : Calls Tryz.prog 68 #[.slice A' l' c', .string ⟨#[32]⟩] wr fun e w' => e = .returned (.string j) ∧ Below wr.heap.size wr w')
      clear hj
      have q1 : (⟨#[100, 111, 32]⟩ : ByteArray).size = 3 := rfl
      obtain ⟨p1, z1, P1, a1⟩ := cat_op ⟨#[100, 111, 32]⟩ j (by omega)
      obtain ⟨p2, z2, P2, a2⟩ := cat_op p1 ⟨#[10]⟩ (by omega)
      obtain ⟨p3, z3, P3, a3⟩ := cat_op t p2 (by omega)
      have HP := Lib.hid (show p3.data.toList = toolL a ++ (a.commands.take (k + 1)).flatMap cmdL by
        rw [P3.out, P2.out, P1.out, HJL.out, Ht.out, flatMap_succ HX2.out]; simp [cmdL])
      clear q1 q2 q4 z1 z2 z3 P1 P2 P3 hl1 hjl hok
      go_wp2_with fail
      refine HJ.out.mono ?_
      rintro e w2 ⟨rfl, hb2⟩
      go_wp2
      go_round
      case rel => exact ⟨k + 1, p3, by omega, by go_num, rfl, HP.out, fr_call hbr hb2⟩
      case measure => simp [intOf]; omega
    · have HF := Lib.hid (show a.commands.take k = a.commands from List.take_of_length_le (by rw [hrn.commands.1]; omega))
      have Ht2 := Lib.hid (show t.data.toList = toolL a ++ a.commands.flatMap cmdL by rw [Ht.out, HF.out])
      clear Ht
      have hg1 : toolL a ++ a.commands.flatMap cmdL = toolL a ++ a.commands.flatMap cmdL := rfl
      generalize hG1 : toolL a ++ a.commands.flatMap cmdL = L1 at Ht2
      have HG1 := Lib.hid hG1; clear hG1 hg1
      have hlen3 : L1.length ≤ 1000000 := by
        have h1 : t.data.toList.length = t.size := by simp
        rw [← Ht2.out, h1]; exact hts
      clear hlen2
      have hlen2 := hlen3
      clear hlen3 q2 q4
      have HLL := Lib.hid (show L1 ++ a.vars.flatMap varL ++ a.outputs.flatMap outL ++ a.needs.flatMap needL ++ timeL a = actTextL a by rw [← HG1.out]; rfl)
      go_wp2
      clear hcell
      go_loopw [3, 5] (fun s i wr => ∃ (k : Nat) (t : ByteArray), k ≤ m ∧ i = .int .i64 k ∧ s = .string t ∧ t.data.toList = L1 ++ (a.vars.take k).flatMap varL ∧ Below W.heap.size W wr) (fun _ i _ => m - (intOf i).toNat)
      case atStart => exact ⟨0, t, Nat.zero_le _, rfl, rfl, by rw [Ht2.out]; simp, hbr⟩
      case round =>
        clear hbr
        obtain ⟨k, t, hk, rfl, rfl, ht, hbr⟩ := hrel
        have Ht := Lib.hid ht; clear ht
        have hcell : wr.cell? ⟨w.heap.size, 2, none⟩ = some (.slice B m m') := by rw [World.cell?, (hbr.block _ hz).trans HX.out]; rfl
        have hlen : (L1 ++ (a.vars.take k).flatMap varL).length ≤ 1100000 := by have := len_cons hlen2 (vars_length ok k); omega
        have hts : t.size ≤ 1100000 := by
          have h1 : t.data.toList.length = t.size := by simp
          rw [← h1, Ht.out]; exact hlen
        clear hlen
        have q4 : (⟨#[10]⟩ : ByteArray).size = 1 := rfl
        have q2 : (⟨#[32]⟩ : ByteArray).size = 1 := rfl
        by_cases hlt : k < m
        · obtain ⟨b, o, x, rfl, hb, hx, hs1, hs2, c0, c1⟩ := (hrn.vars.keep (keep_lt hbr)).var hlt
          have hok := ok.var x (List.mem_of_getElem? hx)
          have HX2 := Lib.hid hx; clear hx
          have q1 : (⟨#[118, 97, 114, 32]⟩ : ByteArray).size = 4 := rfl
          obtain ⟨p1, z1, P1, a1⟩ := cat_op ⟨#[118, 97, 114, 32]⟩ x.name (by omega)
          obtain ⟨p2, z2, P2, a2⟩ := cat_op p1 ⟨#[32]⟩ (by omega)
          obtain ⟨p3, z3, P3, a3⟩ := cat_op p2 x.value (by omega)
          obtain ⟨p4, z4, P4, a4⟩ := cat_op p3 ⟨#[10]⟩ (by omega)
          obtain ⟨p5, z5, P5, a5⟩ := cat_op t p4 (by omega)
          have HP := Lib.hid (show p5.data.toList = L1 ++ (a.vars.take (k + 1)).flatMap varL by
            rw [P5.out, P4.out, P3.out, P2.out, P1.out, Ht.out, flatMap_succ HX2.out]; simp [varL])
          clear q1 q2 q4 z1 z2 z3 z4 z5 P1 P2 P3 P4 P5 hok
          go_wp2
          go_quiet (fail)
          go_wp2
          go_round
          case rel => exact ⟨k + 1, p5, by omega, by go_num, rfl, HP.out, below_drewN hbr _⟩
          case measure => simp [intOf]; omega
        · have HF := Lib.hid (show a.vars.take k = a.vars from List.take_of_length_le (by rw [hrn.vars.1]; omega))
          have Ht2 := Lib.hid (show t.data.toList = L1 ++ a.vars.flatMap varL by rw [Ht.out, HF.out])
          clear Ht
          generalize L1 ++ a.vars.flatMap varL = L2 at *
          have hlen3 : L2.length ≤ 1100000 := by
            have h1 : t.data.toList.length = t.size := by simp
            rw [← Ht2.out, h1]; exact hts
          clear hlen2
          have hlen2 := hlen3
          clear hlen3 q2 q4
          go_wp2
          clear hcell
          go_loopw [3, 6] (fun s i wr => ∃ (k : Nat) (t : ByteArray), k ≤ p ∧ i = .int .i64 k ∧ s = .string t ∧ t.data.toList = L2 ++ (a.outputs.take k).flatMap outL ∧ Below W.heap.size W wr) (fun _ i _ => p - (intOf i).toNat)
          case atStart => exact ⟨0, t, Nat.zero_le _, rfl, rfl, by rw [Ht2.out]; simp, hbr⟩
          case round =>
            clear hbr
            obtain ⟨k, t, hk, rfl, rfl, ht, hbr⟩ := hrel
            have Ht := Lib.hid ht; clear ht
            have hcell : wr.cell? ⟨w.heap.size, 3, none⟩ = some (.slice C p p') := by rw [World.cell?, (hbr.block _ hz).trans HX.out]; rfl
            have hlen : (L2 ++ (a.outputs.take k).flatMap outL).length ≤ 1200000 := by have := len_cons hlen2 (outs_length ok k); omega
            have hts : t.size ≤ 1200000 := by
              have h1 : t.data.toList.length = t.size := by simp
              rw [← h1, Ht.out]; exact hlen
            clear hlen
            have q4 : (⟨#[10]⟩ : ByteArray).size = 1 := rfl
            have q2 : (⟨#[32]⟩ : ByteArray).size = 1 := rfl
            by_cases hlt : k < p
            · obtain ⟨b, o, x, rfl, hb, hx, hxs, c0⟩ := (hrn.outputs.keep (keep_lt hbr)).str hlt
              have hok := ok.output x (List.mem_of_getElem? hx)
              have HX2 := Lib.hid hx; clear hx
              have q1 : (⟨#[111, 117, 116, 32]⟩ : ByteArray).size = 4 := rfl
              obtain ⟨p1, z1, P1, a1⟩ := cat_op ⟨#[111, 117, 116, 32]⟩ x (by omega)
              obtain ⟨p2, z2, P2, a2⟩ := cat_op p1 ⟨#[10]⟩ (by omega)
              obtain ⟨p3, z3, P3, a3⟩ := cat_op t p2 (by omega)
              have HP := Lib.hid (show p3.data.toList = L2 ++ (a.outputs.take (k + 1)).flatMap outL by
                rw [P3.out, P2.out, P1.out, Ht.out, flatMap_succ HX2.out]; simp [outL])
              clear q1 q2 q4 z1 z2 z3 P1 P2 P3 hok
              go_wp2
              go_round
              case rel => exact ⟨k + 1, p3, by omega, by go_num, rfl, HP.out, hbr⟩
              case measure => simp [intOf]; omega
            · have HF := Lib.hid (show a.outputs.take k = a.outputs from List.take_of_length_le (by rw [hrn.outputs.1]; omega))
              have Ht2 := Lib.hid (show t.data.toList = L2 ++ a.outputs.flatMap outL by rw [Ht.out, HF.out])
              clear Ht
              generalize L2 ++ a.outputs.flatMap outL = L3 at *
              have hlen3 : L3.length ≤ 1200000 := by
                have h1 : t.data.toList.length = t.size := by simp
                rw [← Ht2.out, h1]; exact hts
              clear hlen2
              have hlen2 := hlen3
              clear hlen3 q2 q4
              go_wp2
              clear hcell
              go_loopw [3, 7] (fun s i wr => ∃ (k : Nat) (t : ByteArray), k ≤ q ∧ i = .int .i64 k ∧ s = .string t ∧ t.data.toList = L3 ++ (a.needs.take k).flatMap needL ∧ Below W.heap.size W wr) (fun _ i _ => q - (intOf i).toNat)
              case atStart => exact ⟨0, t, Nat.zero_le _, rfl, rfl, by rw [Ht2.out]; simp, hbr⟩
              case round =>
                clear hbr
                obtain ⟨k, t, hk, rfl, rfl, ht, hbr⟩ := hrel
                have Ht := Lib.hid ht; clear ht
                have hcell : wr.cell? ⟨w.heap.size, 4, none⟩ = some (.slice D q q') := by rw [World.cell?, (hbr.block _ hz).trans HX.out]; rfl
                have hlen : (L3 ++ (a.needs.take k).flatMap needL).length ≤ 1300000 := by have := len_cons hlen2 (needs_length ok k); omega
                have hts : t.size ≤ 1300000 := by
                  have h1 : t.data.toList.length = t.size := by simp
                  rw [← h1, Ht.out]; exact hlen
                clear hlen
                have q4 : (⟨#[10]⟩ : ByteArray).size = 1 := rfl
                have q2 : (⟨#[32]⟩ : ByteArray).size = 1 := rfl
                by_cases hlt : k < q
                · obtain ⟨b, o, x, rfl, hb, hx, hs1, hs2, c0, c1⟩ := (hrn.needs.keep (keep_lt hbr)).var hlt
                  have hok := ok.need x (List.mem_of_getElem? hx)
                  have HX2 := Lib.hid hx; clear hx
                  have q1 : (⟨#[110, 101, 101, 100, 32]⟩ : ByteArray).size = 5 := rfl
                  obtain ⟨p1, z1, P1, a1⟩ := cat_op ⟨#[110, 101, 101, 100, 32]⟩ x.name (by omega)
                  obtain ⟨p2, z2, P2, a2⟩ := cat_op p1 ⟨#[32]⟩ (by omega)
                  obtain ⟨p3, z3, P3, a3⟩ := cat_op p2 x.value (by omega)
                  obtain ⟨p4, z4, P4, a4⟩ := cat_op p3 ⟨#[10]⟩ (by omega)
                  obtain ⟨p5, z5, P5, a5⟩ := cat_op t p4 (by omega)
                  have HP := Lib.hid (show p5.data.toList = L3 ++ (a.needs.take (k + 1)).flatMap needL by
                    rw [P5.out, P4.out, P3.out, P2.out, P1.out, Ht.out, flatMap_succ HX2.out]; simp [needL])
                  clear q1 q2 q4 z1 z2 z3 z4 z5 P1 P2 P3 P4 P5 hok
                  go_wp2
                  go_quiet (fail)
                  go_wp2
                  go_round
                  case rel => exact ⟨k + 1, p5, by omega, by go_num, rfl, HP.out, below_drewN hbr _⟩
                  case measure => simp [intOf]; omega
                · have HF := Lib.hid (show a.needs.take k = a.needs from List.take_of_length_le (by rw [hrn.needs.1]; omega))
                  have Ht2 := Lib.hid (show t.data.toList = L3 ++ a.needs.flatMap needL by rw [Ht.out, HF.out])
                  clear Ht
                  generalize L3 ++ a.needs.flatMap needL = L4 at *
                  have hlen3 : L4.length ≤ 1300000 := by
                    have h1 : t.data.toList.length = t.size := by simp
                    rw [← Ht2.out, h1]; exact hts
                  clear hlen2
                  have hlen2 := hlen3
                  clear hlen3 q2 q4
                  have hcell5 : wr.cell? ⟨w.heap.size, 5, none⟩ = some (.int .i64 a.time) := by rw [World.cell?, (hbr.block _ hz).trans HX.out]; rfl
                  obtain ⟨s1, k1, E1, C1⟩ := itoa_op a.time htn
                  have HEr := HEn.out _ hbr
                  have q1 : (⟨#[116, 105, 109, 101, 32]⟩ : ByteArray).size = 5 := rfl
                  have q4 : (⟨#[10]⟩ : ByteArray).size = 1 := rfl
                  obtain ⟨p1, z1, P1, a1⟩ := cat_op t ⟨#[116, 105, 109, 101, 32]⟩ (by omega)
                  obtain ⟨p2, z2, P2, a2⟩ := cat_op p1 s1 (by omega)
                  obtain ⟨p3, z3, P3, a3⟩ := cat_op p2 ⟨#[10]⟩ (by omega)
                  have HP := Lib.hid (show p3.data.toList = actTextL a by
                    rw [P3.out, P2.out, P1.out, E1.out, Ht2.out, ← HLL.out]; simp [timeL])
                  clear q1 q4 z1 z2 z3 P1 P2 P3
                  go_wp2_with fail
                  refine (C1.out _ HEr).mono ?_
                  rintro e w2 ⟨rfl, hb2⟩
                  go_wp2
                  go_ret
                  exact ⟨ret_str HP.out, hbel.trans ((fr_call hbr hb2).mono (Nat.le_of_lt hz))⟩
end Go.Proofs.Sm

namespace Go.Proofs.Sm
open Go.RowKit

def aLook : Look := ⟨⟨#[97]⟩, ⟨#[]⟩, false⟩
def aFile : FileV := ⟨⟨#[97]⟩, false, []⟩
def bLook : Look := ⟨⟨#[97]⟩, ⟨#[99, 98, 102, 50, 57, 99, 101, 52, 56, 52, 50, 50, 50, 51, 50, 53]⟩, false⟩
theorem a_err : looksOfErr [aLook] [aFile] = 0 := by decide +kernel
theorem a_looks : looksOfS [aLook] [aFile] = [bLook] := sameLooksS_iff.1 (by decide +kernel)
theorem at_box3 {w : World} {g : Nat} {a b c : Value} (h : Box3 w g a b c) : At w g 0 [a, b, c] := by
  intro j v hv
  match j, hv with
  | 0, hv => cases hv; exact h.1.1
  | 1, hv => cases hv; exact h.1.2.1
  | 2, hv => cases hv; exact h.1.2.2
theorem one_look {w : World} {g : Nat} {x : Look} (h : Box3 w g (.string x.path) (.string x.digest) (.bool x.run)) (h1 : x.path.size ≤ maxLen) (h2 : x.digest.size ≤ maxLen) : Sl w (Lt w.heap.size) (some ⟨g, 0, none⟩) 1 [x] :=
  ⟨rfl, by unfold maxLen; decide, fun _ => ⟨g, 0, rfl, h.2.2, fun i y hy => by
    cases i with
    | zero => cases hy; exact ⟨_, ⟨rfl, h1, h2⟩, at_box3 h⟩
    | succ i => simp at hy⟩⟩
theorem one_file {w : World} {g : Nat} {x : FileV} (h : Box3 w g (.string x.path) (.bool x.run) (.slice none 0 0)) (h1 : x.path.size ≤ maxLen) (hb : x.bytes = []) : Sl w (Lt w.heap.size) (some ⟨g, 0, none⟩) 1 [x] :=
  ⟨rfl, by unfold maxLen; decide, fun _ => ⟨g, 0, rfl, h.2.2, fun i y hy => by
    cases i with
    | zero => cases hy; exact ⟨_, ⟨h1, none, 0, 0, rfl, Nat.le_refl _, Nat.zero_le _, by rw [hb]; exact Sl.nil⟩, at_box3 h⟩
    | succ i => simp at hy⟩⟩

set_option maxRecDepth 100000 in
theorem law5_awake (w : World) (hE : Env w) : Calls Tryz.prog 14 #[] w fun e w' => e = .returned (.bool true) ∧ Below w.heap.size w w' := by
  go_enter Tryz.func14, Tryz.ntmps14
  go_wp2_with fail
  have hb1 := box3_new w (.string ⟨#[97]⟩) (.string ⟨#[]⟩) (.bool false) 44
  have hb2 := hb1.call (fr_alloc (fr_refl _) (.cells #[.string ⟨#[97]⟩, .bool false, .slice none 0 0] 56))
  have hb3 := box3_new (w.alloc (.cells #[.string ⟨#[97]⟩, .string ⟨#[]⟩, .bool false] 44)) (.string ⟨#[97]⟩) (.bool false) (.slice none 0 0) 56
  have c := act_LooksOf (some ⟨w.heap.size, 0, none⟩) (some ⟨(w.alloc (.cells #[.string ⟨#[97]⟩, .string ⟨#[]⟩, .bool false] 44)).heap.size, 0, none⟩) 1 1 1 1 [aLook] [aFile] _ ((hE.alloc _).alloc _) (one_look (x := aLook) hb2 (by unfold maxLen; decide) (by unfold maxLen; decide)) (one_file (x := aFile) hb3 (by unfold maxLen; decide) rfl)
  rw [a_err, a_looks] at c
  have hs : (w.alloc (.cells #[.string ⟨#[97]⟩, .string ⟨#[]⟩, .bool false] 44)).heap.size = w.heap.size + 1 := by simp
  rw [hs] at c
  refine c.mono ?_
  rintro e w1 ⟨A', n', c', rfl, q1, q2, q3, hbel⟩
  obtain rfl : n' = 1 := q3.1.symm
  obtain ⟨b, o, x, rfl, hb, hx, hs1, hs2, c0, c1, c2⟩ := q3.look (k := 0) (by omega)
  obtain rfl : bLook = x := by simpa using hx
  have d1 : w1.cell? ⟨b, o + 1, none⟩ = some (.string ⟨#[99, 98, 102, 50, 57, 99, 101, 52, 56, 52, 50, 50, 50, 51, 50, 53]⟩) := by
    have h : some (Value.string bLook.digest) = some (.string ⟨#[99, 98, 102, 50, 57, 99, 101, 52, 56, 52, 50, 50, 50, 51, 50, 53]⟩) := rfl
    rw [← h]
    simpa using c1
  clear c0 c1 c2 hx
  go_wp2
  go_ret
  exact ⟨rfl, fr_call (fr_alloc (fr_alloc (fr_refl _) _) _) hbel⟩

end Go.Proofs.Sm

namespace Go.Proofs.Sm
open Go.RowKit

/-- the text of an action; none when it is wrong -/
def actTextS (a : ActionV) : ByteArray := if checkActionS a = 0 then ⟨(actTextL a).toArray⟩ else ⟨#[]⟩
theorem actText_length {a : ActionV} (ok : ActOk a) : (actTextL a).length ≤ 2000000 := by
  have h1 := toolL_length ok
  have h2 := cmds_length ok a.commands.length
  have h3 := vars_length ok a.vars.length
  have h4 := outs_length ok a.outputs.length
  have h5 := needs_length ok a.needs.length
  rw [List.take_length] at h2 h3 h4 h5
  have h6 := Lib.itoa_length_le a.time (by have := ok.time; omega) (by have := ok.time; omega)
  simp only [actTextL, timeL, List.length_append, List.length_cons, List.length_nil] at h1 h2 h3 h4 h5 ⊢
  omega
set_option maxHeartbeats 1000000 in
set_option maxRecDepth 100000 in
theorem act_Text (a : ActionV) (A : Option Addr) (n n' : Nat) (B : Option Addr) (m m' : Nat) (C : Option Addr) (p p' : Nat) (D : Option Addr) (q q' : Nat) (w : World) (hE : Env2 w) (ha : ActIs w a A n B m C p D q) :
    Calls Tryz.prog 10 #[actVal a A n n' B m m' C p p' D q q'] w fun e w' => e = .returned (.tuple #[.string (actTextS a), .int .i64 (checkActionS a)]) ∧ Below w.heap.size w w' := by
  have hv : actVal a A n n' B m m' C p p' D q q' = .agg #[.string a.tool, .slice A n n', .slice B m m', .slice C p p', .slice D q q', .int .i64 a.time] := rfl
  have C1 := Lib.hid (fun w' (hb : Below w.heap.size w w') => act_CheckAction a A n n' B m m' C p p' D q q' w' (hE.then_ hb).toEnv (ha.then_ hb))
  have C2 := Lib.hid (fun w' (hb : Below w.heap.size w w') ok => act_text a A n n' B m m' C p p' D q q' w' (hE.then_ hb) (ha.then_ hb) ok)
  rw [hv] at C1 C2 ⊢
  clear hv
  go_enter Tryz.func10, Tryz.ntmps10
  go_wp2_with fail
  refine (C1.out _ (fr_alloc (fr_refl w) _)).mono ?_
  rintro e w1 ⟨rfl, hb1⟩
  have hz1 := grew hb1
  obtain ⟨hc1, hf1⟩ := bcell hb1
  have hbel1 := fr_box (fr_refl w) hb1
  clear hb1
  cases h0 : (checkActionS a == 0)
  · have hne : checkActionS a ≠ 0 := by simpa using h0
    have hbn : (checkActionS a != 0) = true := by simpa using h0
    have HN := Lib.hid hne; clear hne
    go_wp2
    go_ret2
    exact ⟨ret_pair (by rw [actTextS, if_neg HN.out]; rfl) rfl, hbel1⟩
  · have hz : checkActionS a = 0 := by simpa using h0
    have hbn : (checkActionS a != 0) = false := by simpa using h0
    have ok := checkAction_ok hz
    have HZ := Lib.hid hz; clear hz
    go_wp2_with fail
    refine (C2.out _ hbel1 ok).mono ?_
    rintro e w2 ⟨rfl, hb2⟩
    go_wp2
    go_ret2
    exact ⟨ret_pair (by rw [actTextS, if_pos HZ.out]; rfl) (congrArg (Value.int .i64) HZ.out.symm), fr_call hbel1 hb2⟩
set_option maxHeartbeats 1000000 in
set_option maxRecDepth 100000 in
theorem ref5_Text (a : ActionV) (A : Option Addr) (n n' : Nat) (B : Option Addr) (m m' : Nat) (C : Option Addr) (p p' : Nat) (D : Option Addr) (q q' : Nat) (w : World) (hE : Env2 w) (ha : ActIs w a A n B m C p D q) :
    Calls Tryz.prog 11 #[actVal a A n n' B m m' C p p' D q q'] w fun e w' => e = .returned (.tuple #[.string (actTextS a), .int .i64 (checkActionS a)]) ∧ Below w.heap.size w w' := by
  have hv : actVal a A n n' B m m' C p p' D q q' = .agg #[.string a.tool, .slice A n n', .slice B m m', .slice C p p', .slice D q q', .int .i64 a.time] := rfl
  have C1 := Lib.hid (fun w' (hb : Below w.heap.size w w') => ref5_CheckAction a A n n' B m m' C p p' D q q' w' (hE.then_ hb).toEnv (ha.then_ hb))
  have C2 := Lib.hid (fun w' (hb : Below w.heap.size w w') ok => ref5_TextOf a A n n' B m m' C p p' D q q' w' (hE.then_ hb) (ha.then_ hb) ok)
  rw [hv] at C1 C2 ⊢
  clear hv
  go_enter Tryz.func11, Tryz.ntmps11
  go_wp2_with fail
  refine (C1.out _ (fr_alloc (fr_refl w) _)).mono ?_
  rintro e w1 ⟨rfl, hb1⟩
  have hz1 := grew hb1
  obtain ⟨hc1, hf1⟩ := bcell hb1
  have hbel1 := fr_box (fr_refl w) hb1
  clear hb1
  cases h0 : (checkActionS a == 0)
  · have hne : checkActionS a ≠ 0 := by simpa using h0
    have hbn : (checkActionS a != 0) = true := by simpa using h0
    have HN := Lib.hid hne; clear hne
    go_wp2
    go_ret2
    exact ⟨ret_pair (by rw [actTextS, if_neg HN.out]; rfl) rfl, hbel1⟩
  · have hz : checkActionS a = 0 := by simpa using h0
    have hbn : (checkActionS a != 0) = false := by simpa using h0
    have ok := checkAction_ok hz
    have HZ := Lib.hid hz; clear hz
    go_wp2_with fail
    refine (C2.out _ hbel1 ok).mono ?_
    rintro e w2 ⟨rfl, hb2⟩
    go_wp2
    go_ret2
    exact ⟨ret_pair (by rw [actTextS, if_pos HZ.out]; rfl) (congrArg (Value.int .i64) HZ.out.symm), fr_call hbel1 hb2⟩
set_option maxHeartbeats 1000000 in
set_option maxRecDepth 100000 in
theorem law_checks (a : ActionV) (A : Option Addr) (n n' : Nat) (B : Option Addr) (m m' : Nat) (C : Option Addr) (p p' : Nat) (D : Option Addr) (q q' : Nat) (w : World) (hE : Env2 w) (ha : ActIs w a A n B m C p D q) :
    Calls Tryz.prog 3 #[actVal a A n n' B m m' C p p' D q q'] w fun e w' => e = .returned (.bool true) ∧ Below w.heap.size w w' := by
  have hv : actVal a A n n' B m m' C p p' D q q' = .agg #[.string a.tool, .slice A n n', .slice B m m', .slice C p p', .slice D q q', .int .i64 a.time] := rfl
  have C1 := Lib.hid (fun w' (hb : Below w.heap.size w w') => act_Text a A n n' B m m' C p p' D q q' w' (hE.then_ hb) (ha.then_ hb))
  have C2 := Lib.hid (fun w' (hb : Below w.heap.size w w') => ref5_Text a A n n' B m m' C p p' D q q' w' (hE.then_ hb) (ha.then_ hb))
  have C3 := Lib.hid (fun w' (hb : Below w.heap.size w w') => act_CheckAction a A n n' B m m' C p p' D q q' w' (hE.then_ hb).toEnv (ha.then_ hb))
  have C4 := Lib.hid (fun w' (hb : Below w.heap.size w w') => ref5_CheckAction a A n n' B m m' C p p' D q q' w' (hE.then_ hb).toEnv (ha.then_ hb))
  rw [hv] at C1 C2 C3 C4 ⊢
  clear hv
  go_enter Tryz.func3, Tryz.ntmps3
  go_wp2_with fail
  have b0 := fr_alloc (fr_refl w) (.cells #[.string a.tool, .slice A n n', .slice B m m', .slice C p p', .slice D q q', .int .i64 a.time] 26)
  refine (C1.out _ b0).mono ?_
  rintro e w1 ⟨rfl, hb1⟩
  have hz1 := grew hb1
  obtain ⟨hc1, hf1⟩ := bcell hb1
  have b1 := fr_call b0 hb1
  have hX1 := Lib.hid ((hb1.block _ (by simp)).trans (heap_alloc_new w (.cells #[.string a.tool, .slice A n n', .slice B m m', .slice C p p', .slice D q q', .int .i64 a.time] 26)))
  clear hb1 b0
  go_wp2_with fail
  refine (C2.out _ b1).mono ?_
  rintro e w2 ⟨rfl, hb2⟩
  have hX : w2.heap[w.heap.size]? = some (.cells #[.string a.tool, .slice A n n', .slice B m m', .slice C p p', .slice D q q', .int .i64 a.time] 26 (0, 0)) :=
    (hb2.block _ hz1).trans hX1.out
  have b2 := fr_call b1 hb2
  have hz2 : w.heap.size < w2.heap.size := Nat.lt_of_lt_of_le hz1 hb2.size
  clear hb2 b1 hc1 hf1
  have HK := Lib.hid (show ∀ w', Below w2.heap.size w2 w' → (Below w2.heap.size w2 w' ∧ w'.cell? ⟨w.heap.size, 0, none⟩ = some (.string a.tool) ∧ w'.cell? ⟨w.heap.size, 1, none⟩ = some (.slice A n n') ∧ w'.cell? ⟨w.heap.size, 2, none⟩ = some (.slice B m m') ∧ w'.cell? ⟨w.heap.size, 3, none⟩ = some (.slice C p p') ∧ w'.cell? ⟨w.heap.size, 4, none⟩ = some (.slice D q q') ∧ w'.cell? ⟨w.heap.size, 5, none⟩ = some (.int .i64 a.time)) from fun w' h => by
    have h1 : w'.heap[w.heap.size]? = _ := (h.block _ hz2).trans hX
    refine ⟨h, ?_, ?_, ?_, ?_, ?_, ?_⟩ <;> (rw [World.cell?, h1]; rfl))
  clear hX
  go_wp2_with fail
  go_region_held3 (fun w' => Below w2.heap.size w2 w' ∧ w'.cell? ⟨w.heap.size, 0, none⟩ = some (.string a.tool) ∧ w'.cell? ⟨w.heap.size, 1, none⟩ = some (.slice A n n') ∧ w'.cell? ⟨w.heap.size, 2, none⟩ = some (.slice B m m') ∧ w'.cell? ⟨w.heap.size, 3, none⟩ = some (.slice C p p') ∧ w'.cell? ⟨w.heap.size, 4, none⟩ = some (.slice D q q') ∧ w'.cell? ⟨w.heap.size, 5, none⟩ = some (.int .i64 a.time))
    (first | assumption | exact HK.out _ (Below.refl _ _).drew | exact HK.out _ (fr_call (And.left (by assumption)) hbc))
    (first
      | (go_at_call 12; refine (C3.out _ (fr_call b2 (And.left (by assumption)))).mono ?_; rintro e wc ⟨rfl, hbc⟩)
      | (go_at_call 13; refine (C4.out _ (fr_call b2 (And.left (by assumption)))).mono ?_; rintro e wc ⟨rfl, hbc⟩)
      | (go_at_call 14; refine (law5_awake _ (hE.toEnv.then_ (fr_call b2 (And.left (by assumption))))).mono ?_; rintro e wc ⟨rfl, hbc⟩))
  have b3 : Below w2.heap.size w2 wc := And.left (by assumption)
  go_wp2
  go_ret
  exact ⟨rfl, fr_call b2 b3⟩
end Go.Proofs.Sm

namespace Go.Proofs.Sm
open Go.RowKit Go.ChangeShapes Go.WideShapes Go.ChangeAt

theorem own : ownKnob Tryz.prog.godebug = none := by kernel_rfl
theorem laidOut : laidOutB Tryz.prog = true := by kernel_rfl

section
variable {H : Type} {enc : TypeId × Value → H} {w : World} {base : Nat} {spare : Nat → Bool} {held : Bool}
theorem at_some {α : Type} {xs : List α} {n i : Nat} (h : xs.length = n) (hi : i < n) : ∃ y, xs[i]? = some y := ⟨xs[i]'(by omega), List.getElem?_eq_getElem _⟩
theorem three_of {α : Type} {l : List α} (h : l.length = 3) : ∃ a b c, l = [a, b, c] := by
  rcases l with _ | ⟨a, _ | ⟨b, _ | ⟨c, _ | ⟨e, r⟩⟩⟩⟩
  · simp at h
  · simp at h
  · simp at h
  · exact ⟨a, b, c, rfl⟩
  · simp at h
theorem dec_look : Dec enc Tryz.prog w base spare held 44 Look := fun fuel cs d h => by
  obtain ⟨xs, n, _, _, hlen, hxl, hf⟩ := DataW.trod_struct Tryz.underlying44 h
  have hc : Tryz.prog.cellsOf 44 = 3 := by kernel_rfl
  have cS : Tryz.prog.cellsOf 9 = 1 := by kernel_rfl
  have cB : Tryz.prog.cellsOf 4 = 1 := by kernel_rfl
  rw [hc] at hlen
  have hxl' : xs.length = 3 := hxl
  obtain ⟨a, b, c, rfl⟩ := three_of hlen
  · -- the three cells
    obtain ⟨y0, e0⟩ := at_some hxl' (show 0 < 3 by decide)
    obtain ⟨y1, e1⟩ := at_some hxl' (show 1 < 3 by decide)
    obtain ⟨y2, e2⟩ := at_some hxl' (show 2 < 3 by decide)
    have f0 : DataW.trod enc Tryz.prog w base spare held n 9 [a] = some y0 := by
      have h := (hf 0 _ rfl).trans e0
      change DataW.trod enc _ w base spare held n 9 (List.take (Tryz.prog.cellsOf 9) (List.drop 0 [a, b, c])) = some y0 at h
      rw [cS] at h
      exact h
    have f1 : DataW.trod enc Tryz.prog w base spare held n 9 [b] = some y1 := by
      have h := (hf 1 _ rfl).trans e1
      change DataW.trod enc _ w base spare held n 9 (List.take (Tryz.prog.cellsOf 9) (List.drop 1 [a, b, c])) = some y1 at h
      rw [cS] at h
      exact h
    have f2 : DataW.trod enc Tryz.prog w base spare held n 4 [c] = some y2 := by
      have h := (hf 2 _ rfl).trans e2
      change DataW.trod enc _ w base spare held n 4 (List.take (Tryz.prog.cellsOf 4) (List.drop 2 [a, b, c])) = some y2 at h
      rw [cB] at h
      exact h
    obtain ⟨s0, h0, _, z0⟩ := DataW.trod_string Tryz.underlying9 f0
    obtain ⟨s1, h1, _, z1⟩ := DataW.trod_string Tryz.underlying9 f1
    obtain ⟨r, h2, _⟩ := DataW.trod_bool Tryz.underlying4 f2
    cases h0; cases h1; cases h2
    exact ⟨⟨s0, s1, r⟩, rfl, z0, z1⟩
theorem dec_bytes : Dec enc Tryz.prog w base spare held 54 (List UInt8) := dec_slice Tryz.underlying54 (by kernel_rfl) (by decide) (dec_u8 Tryz.underlying5)
theorem dec_file : Dec enc Tryz.prog w base spare held 56 FileV := fun fuel cs d h => by
  obtain ⟨xs, n, _, _, hlen, hxl, hf⟩ := DataW.trod_struct Tryz.underlying56 h
  have hc : Tryz.prog.cellsOf 56 = 3 := by kernel_rfl
  have cS : Tryz.prog.cellsOf 9 = 1 := by kernel_rfl
  have cB : Tryz.prog.cellsOf 4 = 1 := by kernel_rfl
  have cL : Tryz.prog.cellsOf 54 = 1 := by kernel_rfl
  rw [hc] at hlen
  have hxl' : xs.length = 3 := hxl
  obtain ⟨a, b, c, rfl⟩ := three_of hlen
  · -- the three cells
    obtain ⟨y0, e0⟩ := at_some hxl' (show 0 < 3 by decide)
    obtain ⟨y1, e1⟩ := at_some hxl' (show 1 < 3 by decide)
    obtain ⟨y2, e2⟩ := at_some hxl' (show 2 < 3 by decide)
    have f0 : DataW.trod enc Tryz.prog w base spare held n 9 [a] = some y0 := by
      have h := (hf 0 _ rfl).trans e0
      change DataW.trod enc _ w base spare held n 9 (List.take (Tryz.prog.cellsOf 9) (List.drop 0 [a, b, c])) = some y0 at h
      rw [cS] at h
      exact h
    have f1 : DataW.trod enc Tryz.prog w base spare held n 4 [b] = some y1 := by
      have h := (hf 1 _ rfl).trans e1
      change DataW.trod enc _ w base spare held n 4 (List.take (Tryz.prog.cellsOf 4) (List.drop 1 [a, b, c])) = some y1 at h
      rw [cB] at h
      exact h
    have f2 : DataW.trod enc Tryz.prog w base spare held n 54 [c] = some y2 := by
      have h := (hf 2 _ rfl).trans e2
      change DataW.trod enc _ w base spare held n 54 (List.take (Tryz.prog.cellsOf 54) (List.drop 2 [a, b, c])) = some y2 at h
      rw [cL] at h
      exact h
    obtain ⟨s0, h0, _, z0⟩ := DataW.trod_string Tryz.underlying9 f0
    obtain ⟨r, h1, _⟩ := DataW.trod_bool Tryz.underlying4 f1
    obtain ⟨bs, A, k, m, h2, q1, q2, q3⟩ := dec_bytes _ _ _ f2
    cases h0; cases h1; cases h2
    exact ⟨⟨s0, r, bs⟩, z0, A, k, m, rfl, q1, q2, q3⟩
theorem dec_looks : Dec enc Tryz.prog w base spare held 33 (List Look) := dec_slice Tryz.underlying33 (by kernel_rfl) (by decide) dec_look
theorem dec_files : Dec enc Tryz.prog w base spare held 37 (List FileV) := dec_slice Tryz.underlying37 (by kernel_rfl) (by decide) dec_file
/-- a slice argument, as a value -/
theorem arg_slice {α : Type} [Rep α] {t : TypeId} {v : Value} {d : DataW H} {p : List MemPlace} (hd : Dec enc Tryz.prog w base spare held t (List α)) (hv : ∃ a n c, v = .slice a n c) (h : DataW.Trod enc Tryz.prog w base spare held t v d p) :
    ∃ (A : Option Addr) (n c : Nat) (l : List α), v = .slice A n c ∧ Sl w (Lt w.heap.size) A n l := by
  obtain ⟨a, n, c, rfl⟩ := hv
  obtain ⟨fuel, hf⟩ := h
  obtain ⟨l, A, n', c', e, _, _, hs⟩ := hd _ _ _ hf
  simp [Value.cells] at e
  obtain ⟨rfl, rfl, rfl⟩ := e
  exact ⟨_, _, _, l, rfl, hs⟩
end
theorem first_pinned : Go.Pinned.utf8First = Lib.firstData := by kernel_rfl
theorem accept_laid : YtkhengfpglfapaaGreatDoor.Rows.laid_unicode_utf8_acceptRanges = Lib.acceptData := by kernel_rfl
/-- The tables of utf8, and the length that bytealg takes. -/
theorem env_of {laid : List (String × DataW Unit)} {W : World} (hL : laidMet Tryz.prog laid W) (hS : W.ShapedOpen Tryz.prog) (h3 : ("unicode/utf8.first", Go.Pinned.utf8First) ∈ laid) (h4 : ("unicode/utf8.acceptRanges", YtkhengfpglfapaaGreatDoor.Rows.laid_unicode_utf8_acceptRanges) ∈ laid) : Env W where
  size := by
    have hsome : (((begin Tryz.prog (fun _ _ => 0) default).world.heap[7]?).bind Obj.row?).isSome = true := by kernel_rfl
    have hlt : 7 < Tryz.prog.globals.size := of_decide_eq_true (by kernel_rfl)
    obtain ⟨⟨zero, t⟩, hz⟩ := Option.isSome_iff_exists.1 hsome
    obtain ⟨cs, hh, _⟩ := hS.1 _ zero t hlt hz
    exact (Array.getElem?_eq_some_iff.1 hh).1
  most := Tryz.laysM143.s1_3 W hS
  utf8 := utf8Tabs_of_reads { Tryz.lays260 with } ⟨by kernel_rfl, by kernel_rfl, by kernel_rfl, by kernel_rfl, by kernel_rfl, by kernel_rfl, by kernel_rfl⟩
    (by have := Lib.laidMet.reads hL h3; rwa [first_pinned] at this) (by have := Lib.laidMet.reads hL h4; rwa [accept_laid] at this)
end Go.Proofs.Sm

namespace Go.Proofs.Sm
open Go.RowKit Go.ChangeShapes Go.WideShapes Go.ChangeAt

section
variable {H : Type} {enc : TypeId × Value → H} {w : World} {base : Nat} {spare : Nat → Bool} {held : Bool}
theorem five_of {α : Type} {l : List α} (h : l.length = 5) : ∃ a b c d e, l = [a, b, c, d, e] := by
  rcases l with _ | ⟨a, _ | ⟨b, _ | ⟨c, _ | ⟨d, _ | ⟨e, _ | ⟨f, r⟩⟩⟩⟩⟩⟩
  all_goals (try (simp at h; done))
  exact ⟨a, b, c, d, e, rfl⟩
theorem result_of {cs : List Value} {fuel : Nat} {d : DataW H × List MemPlace} (h : DataW.trod enc Tryz.prog w base spare held fuel 39 cs = some d) :
    ∃ r A n c B m e, ResIs w r A n B m ∧ cs = [.int .i64 r.code, .string r.text, .slice A n c, .slice B m e, .int .i64 r.command] := by
  obtain ⟨xs, n, _, _, hlen, hxl, hf⟩ := DataW.trod_struct Tryz.underlying39 h
  have hc : Tryz.prog.cellsOf 39 = 5 := by kernel_rfl
  have cI : Tryz.prog.cellsOf 3 = 1 := by kernel_rfl
  have cS : Tryz.prog.cellsOf 9 = 1 := by kernel_rfl
  have cF : Tryz.prog.cellsOf 37 = 1 := by kernel_rfl
  have cL : Tryz.prog.cellsOf 33 = 1 := by kernel_rfl
  rw [hc] at hlen
  have hxl' : xs.length = 5 := hxl
  obtain ⟨a0, a1, a2, a3, a4, rfl⟩ := five_of hlen
  obtain ⟨y0, e0⟩ := at_some hxl' (show 0 < 5 by decide)
  obtain ⟨y1, e1⟩ := at_some hxl' (show 1 < 5 by decide)
  obtain ⟨y2, e2⟩ := at_some hxl' (show 2 < 5 by decide)
  obtain ⟨y3, e3⟩ := at_some hxl' (show 3 < 5 by decide)
  obtain ⟨y4, e4⟩ := at_some hxl' (show 4 < 5 by decide)
  have f0 : DataW.trod enc Tryz.prog w base spare held n 3 [a0] = some y0 := by
    have h := (hf 0 _ rfl).trans e0
    change DataW.trod enc _ w base spare held n 3 (List.take (Tryz.prog.cellsOf 3) (List.drop 0 [a0, a1, a2, a3, a4])) = some y0 at h
    rw [cI] at h
    exact h
  have f1 : DataW.trod enc Tryz.prog w base spare held n 9 [a1] = some y1 := by
    have h := (hf 1 _ rfl).trans e1
    change DataW.trod enc _ w base spare held n 9 (List.take (Tryz.prog.cellsOf 9) (List.drop 1 [a0, a1, a2, a3, a4])) = some y1 at h
    rw [cS] at h
    exact h
  have f2 : DataW.trod enc Tryz.prog w base spare held n 37 [a2] = some y2 := by
    have h := (hf 2 _ rfl).trans e2
    change DataW.trod enc _ w base spare held n 37 (List.take (Tryz.prog.cellsOf 37) (List.drop 2 [a0, a1, a2, a3, a4])) = some y2 at h
    rw [cF] at h
    exact h
  have f3 : DataW.trod enc Tryz.prog w base spare held n 33 [a3] = some y3 := by
    have h := (hf 3 _ rfl).trans e3
    change DataW.trod enc _ w base spare held n 33 (List.take (Tryz.prog.cellsOf 33) (List.drop 3 [a0, a1, a2, a3, a4])) = some y3 at h
    rw [cL] at h
    exact h
  have f4 : DataW.trod enc Tryz.prog w base spare held n 3 [a4] = some y4 := by
    have h := (hf 4 _ rfl).trans e4
    change DataW.trod enc _ w base spare held n 3 (List.take (Tryz.prog.cellsOf 3) (List.drop 4 [a0, a1, a2, a3, a4])) = some y4 at h
    rw [cI] at h
    exact h
  obtain ⟨n0, r0, z0⟩ := dec_int Tryz.underlying3 _ _ _ f0
  obtain ⟨s1, r1, z1⟩ := dec_string Tryz.underlying9 _ _ _ f1
  obtain ⟨l2, A, k2, c2, r2, _, _, z2⟩ := dec_files _ _ _ f2
  obtain ⟨l3, B, k3, c3, r3, _, _, z3⟩ := dec_looks _ _ _ f3
  obtain ⟨n4, r4, z4⟩ := dec_int Tryz.underlying3 _ _ _ f4
  cases r0; cases r1; cases r2; cases r3; cases r4
  exact ⟨⟨n0, s1, l2, l3, n4⟩, A, k2, c2, B, k3, c3, ⟨z0, z1, z2, z3, z4⟩, rfl⟩
end
theorem tab_of_reads {W : World} {name : String} {k : IntKind} {zs : List Int} {g : Nat} {t e : TypeId} {n : Nat} (hg : Tryz.prog.globalNamed name = some g) (hty : (Tryz.prog.globals[g]?).map (·.type) = some t)
    (ht : Tryz.prog.underlying t = some (.array n e)) (he : Tryz.prog.underlying e = some (.int k)) (hce : Tryz.prog.cellsOf e = 1) (hct : Tryz.prog.cellsOf t = n) (h : Lib.VarReads Tryz.prog W name (Lib.tabData k zs)) : Lib.TabIs Tryz.prog W name k zs := by
  obtain ⟨g', t', cs, fuel, p, hg', ht', hvar, hd⟩ := h
  obtain rfl := Option.some.inj (hg.symm.trans hg')
  obtain rfl := Option.some.inj (hty.symm.trans ht')
  unfold Lib.TabIs
  rw [hvar, ← Lib.cells_of_tab ht he hce hct hd]
theorem pow_laid : YtkhengfpglfapaaGreatDoor.Rows.laid_internal_strconv_uint64pow10 = Lib.tabData (H := Unit) .u64 Lib.pow10Tab := by kernel_rfl
theorem env2_of {laid : List (String × DataW Unit)} {W : World} (hL : laidMet Tryz.prog laid W) (hS : W.ShapedOpen Tryz.prog) (h3 : ("unicode/utf8.first", Go.Pinned.utf8First) ∈ laid) (h4 : ("unicode/utf8.acceptRanges", YtkhengfpglfapaaGreatDoor.Rows.laid_unicode_utf8_acceptRanges) ∈ laid)
    (h5 : ("internal/strconv.uint64pow10", YtkhengfpglfapaaGreatDoor.Rows.laid_internal_strconv_uint64pow10) ∈ laid) : Env2 W where
  toEnv := env_of hL hS h3 h4
  pow := tab_of_reads (g := 1) (t := 213) (e := 119) (n := 20) (by kernel_rfl) (by kernel_rfl) Tryz.underlying213 Tryz.underlying119 (by kernel_rfl) (by kernel_rfl) (by have := Lib.laidMet.reads hL h5; rwa [pow_laid] at this)
/-- the cells of plain data -/
def flatD : Nat → DataW Unit → List Value
  | 0, _ => []
  | _ + 1, .lit (.int k n) => [.int k n]
  | f + 1, .agg l => l.flatMap (flatD f)
  | _, _ => []
/-- THE WITNESS's WORLD: the settled one, with plain tables laid. -/
noncomputable def tableWorld (os : Os) (tabs : List (Nat × DataW Unit)) : World :=
  let w0 := World.holding Tryz.prog os ⟨#[], #[], []⟩
  { w0 with heap := tabs.foldl (fun h t => h.modify t.1 fun
    | .cells _ ty frozen => .cells (flatD 4 t.2).toArray ty frozen
    | o => o) w0.heap }
end Go.Proofs.Sm

namespace Go.Proofs.Sm
open Go.RowKit Go.ChangeShapes Go.WideShapes Go.ChangeAt

section
variable {H : Type} {enc : TypeId × Value → H} {w : World} {base : Nat} {spare : Nat → Bool} {held : Bool}
theorem two_of {α : Type} {l : List α} (h : l.length = 2) : ∃ a b, l = [a, b] := by
  rcases l with _ | ⟨a, _ | ⟨b, _ | ⟨c, r⟩⟩⟩
  all_goals (try (simp at h; done))
  exact ⟨a, b, rfl⟩
theorem six_of {α : Type} {l : List α} (h : l.length = 6) : ∃ a b c d e f, l = [a, b, c, d, e, f] := by
  rcases l with _ | ⟨a, _ | ⟨b, _ | ⟨c, _ | ⟨d, _ | ⟨e, _ | ⟨f, _ | ⟨g, r⟩⟩⟩⟩⟩⟩⟩
  all_goals (try (simp at h; done))
  exact ⟨a, b, c, d, e, f, rfl⟩
theorem dec_var : Dec enc Tryz.prog w base spare held 109 VarV := fun fuel cs d h => by
  obtain ⟨xs, n, _, _, hlen, hxl, hf⟩ := DataW.trod_struct Tryz.underlying109 h
  have hc : Tryz.prog.cellsOf 109 = 2 := by kernel_rfl
  have cS : Tryz.prog.cellsOf 9 = 1 := by kernel_rfl
  rw [hc] at hlen
  have hxl' : xs.length = 2 := hxl
  obtain ⟨a, b, rfl⟩ := two_of hlen
  · -- the two cells
    obtain ⟨y0, e0⟩ := at_some hxl' (show 0 < 2 by decide)
    obtain ⟨y1, e1⟩ := at_some hxl' (show 1 < 2 by decide)
    have f0 : DataW.trod enc Tryz.prog w base spare held n 9 [a] = some y0 := by
      have h := (hf 0 _ rfl).trans e0
      change DataW.trod enc _ w base spare held n 9 (List.take (Tryz.prog.cellsOf 9) (List.drop 0 [a, b])) = some y0 at h
      rw [cS] at h
      exact h
    have f1 : DataW.trod enc Tryz.prog w base spare held n 9 [b] = some y1 := by
      have h := (hf 1 _ rfl).trans e1
      change DataW.trod enc _ w base spare held n 9 (List.take (Tryz.prog.cellsOf 9) (List.drop 1 [a, b])) = some y1 at h
      rw [cS] at h
      exact h
    obtain ⟨s0, h0, _, z0⟩ := DataW.trod_string Tryz.underlying9 f0
    obtain ⟨s1, h1, _, z1⟩ := DataW.trod_string Tryz.underlying9 f1
    cases h0; cases h1
    exact ⟨⟨s0, s1⟩, rfl, z0, z1⟩
theorem dec_strs : Dec enc Tryz.prog w base spare held 24 (List ByteArray) := dec_slice Tryz.underlying24 (by kernel_rfl) (by decide) (dec_string Tryz.underlying9)
theorem dec_rows : Dec enc Tryz.prog w base spare held 22 (List (List ByteArray)) := dec_slice Tryz.underlying22 (by kernel_rfl) (by decide) dec_strs
theorem dec_vars : Dec enc Tryz.prog w base spare held 23 (List VarV) := dec_slice Tryz.underlying23 (by kernel_rfl) (by decide) dec_var
theorem action_of {cs : List Value} {fuel : Nat} {d : DataW H × List MemPlace} (h : DataW.trod enc Tryz.prog w base spare held fuel 26 cs = some d) :
    ∃ a A n n' B m m' C p p' D q q', ActIs w a A n B m C p D q ∧ cs = [.string a.tool, .slice A n n', .slice B m m', .slice C p p', .slice D q q', .int .i64 a.time] := by
  obtain ⟨xs, n, _, _, hlen, hxl, hf⟩ := DataW.trod_struct Tryz.underlying26 h
  have hc : Tryz.prog.cellsOf 26 = 6 := by kernel_rfl
  have cI : Tryz.prog.cellsOf 3 = 1 := by kernel_rfl
  have cS : Tryz.prog.cellsOf 9 = 1 := by kernel_rfl
  have cR : Tryz.prog.cellsOf 22 = 1 := by kernel_rfl
  have cV : Tryz.prog.cellsOf 23 = 1 := by kernel_rfl
  have cL : Tryz.prog.cellsOf 24 = 1 := by kernel_rfl
  rw [hc] at hlen
  have hxl' : xs.length = 6 := hxl
  obtain ⟨a0, a1, a2, a3, a4, a5, rfl⟩ := six_of hlen
  obtain ⟨y0, e0⟩ := at_some hxl' (show 0 < 6 by decide)
  obtain ⟨y1, e1⟩ := at_some hxl' (show 1 < 6 by decide)
  obtain ⟨y2, e2⟩ := at_some hxl' (show 2 < 6 by decide)
  obtain ⟨y3, e3⟩ := at_some hxl' (show 3 < 6 by decide)
  obtain ⟨y4, e4⟩ := at_some hxl' (show 4 < 6 by decide)
  obtain ⟨y5, e5⟩ := at_some hxl' (show 5 < 6 by decide)
  have f0 : DataW.trod enc Tryz.prog w base spare held n 9 [a0] = some y0 := by
    have h := (hf 0 _ rfl).trans e0
    change DataW.trod enc _ w base spare held n 9 (List.take (Tryz.prog.cellsOf 9) (List.drop 0 [a0, a1, a2, a3, a4, a5])) = some y0 at h
    rw [cS] at h
    exact h
  have f1 : DataW.trod enc Tryz.prog w base spare held n 22 [a1] = some y1 := by
    have h := (hf 1 _ rfl).trans e1
    change DataW.trod enc _ w base spare held n 22 (List.take (Tryz.prog.cellsOf 22) (List.drop 1 [a0, a1, a2, a3, a4, a5])) = some y1 at h
    rw [cR] at h
    exact h
  have f2 : DataW.trod enc Tryz.prog w base spare held n 23 [a2] = some y2 := by
    have h := (hf 2 _ rfl).trans e2
    change DataW.trod enc _ w base spare held n 23 (List.take (Tryz.prog.cellsOf 23) (List.drop 2 [a0, a1, a2, a3, a4, a5])) = some y2 at h
    rw [cV] at h
    exact h
  have f3 : DataW.trod enc Tryz.prog w base spare held n 24 [a3] = some y3 := by
    have h := (hf 3 _ rfl).trans e3
    change DataW.trod enc _ w base spare held n 24 (List.take (Tryz.prog.cellsOf 24) (List.drop 3 [a0, a1, a2, a3, a4, a5])) = some y3 at h
    rw [cL] at h
    exact h
  have f4 : DataW.trod enc Tryz.prog w base spare held n 23 [a4] = some y4 := by
    have h := (hf 4 _ rfl).trans e4
    change DataW.trod enc _ w base spare held n 23 (List.take (Tryz.prog.cellsOf 23) (List.drop 4 [a0, a1, a2, a3, a4, a5])) = some y4 at h
    rw [cV] at h
    exact h
  have f5 : DataW.trod enc Tryz.prog w base spare held n 3 [a5] = some y5 := by
    have h := (hf 5 _ rfl).trans e5
    change DataW.trod enc _ w base spare held n 3 (List.take (Tryz.prog.cellsOf 3) (List.drop 5 [a0, a1, a2, a3, a4, a5])) = some y5 at h
    rw [cI] at h
    exact h
  obtain ⟨s0, r0, z0⟩ := dec_string Tryz.underlying9 _ _ _ f0
  obtain ⟨l1, A, k1, c1, r1, _, _, z1⟩ := dec_rows _ _ _ f1
  obtain ⟨l2, B, k2, c2, r2, _, _, z2⟩ := dec_vars _ _ _ f2
  obtain ⟨l3, C, k3, c3, r3, _, _, z3⟩ := dec_strs _ _ _ f3
  obtain ⟨l4, D, k4, c4, r4, _, _, z4⟩ := dec_vars _ _ _ f4
  obtain ⟨n5, r5, z5⟩ := dec_int Tryz.underlying3 _ _ _ f5
  cases r0; cases r1; cases r2; cases r3; cases r4; cases r5
  exact ⟨⟨s0, l1, l2, l3, l4, n5⟩, A, k1, c1, B, k2, c2, C, k3, c3, D, k4, c4, ⟨z0, z1, z2, z3, z4, z5⟩, rfl⟩
end
/-- a world that lays errors of package errors, each in a block of its own -/
noncomputable def errWorld (w0 : World) (tp ts : TypeId) (errs : List (Nat × List UInt8)) : World :=
  { w0 with heap := errs.foldl (fun h e => (h.push (.cells #[.string ⟨e.2.toArray⟩] ts (0, 0))).modify e.1 fun
    | .cells _ ty frozen => .cells #[.iface tp (.pointer (some ⟨h.size, 0, none⟩))] ty frozen
    | o => o) w0.heap }
end Go.Proofs.Sm

namespace Go.Proofs.YtkhengfpglfapaaGreatDoor.checks
open Go.ChangeShapes Go.WideShapes Go.ChangeAt Go.RowKit Go.Proofs.Sm

noncomputable def laidWorld (os : Os) : World := errWorld (tableWorld os [(2, Rows.laid_unicode_utf8_first), (3, Rows.laid_unicode_utf8_acceptRanges), (1, Rows.laid_internal_strconv_uint64pow10), (6, Rows.laid_math_bits_deBruijn32tab), (7, Rows.laid_math_bits_deBruijn64tab)])
  231 233 [(5, [118, 97, 108, 117, 101, 32, 111, 117, 116, 32, 111, 102, 32, 114, 97, 110, 103, 101]), (4, [105, 110, 118, 97, 108, 105, 100, 32, 115, 121, 110, 116, 97, 120])]
theorem laid_met (os : Os) (args : Array Value) : laidMet Tryz.prog Rows.actionChecksMatchSpecRow.laid ((laidWorld os).forCall (fun _ _ => 0) ⟨#[], args, []⟩).memory :=
  (LaidIn.of_run (l := Rows.actionChecksMatchSpecRow.laid) (List.range 30) 8 (by kernel_rfl) (by kernel_rfl) (by kernel_rfl) (by kernel_rfl)).met
theorem reads (os : Os) {H : Type} (enc : TypeId × Value → H) : ∃ ds places, DataW.whole enc Tryz.prog ((laidWorld os).forCall (fun _ _ => 0) ⟨#[], #[.agg #[.string ⟨#[]⟩, .slice none 0 0, .slice none 0 0, .slice none 0 0, .slice none 0 0, .int .i64 0]], []⟩).memory Tryz.f3.params.toList Rows.actionChecksMatchSpecSpec.vars false #[Value.agg #[.string ⟨#[]⟩, .slice none 0 0, .slice none 0 0, .slice none 0 0, .slice none 0 0, .int .i64 0]].toList 8 = some (ds, [], places) :=
  ⟨[.agg [.lit (.string []), .nil, .nil, .nil, .nil, .lit (.int .i64 0)]], [], by kernel_rfl⟩

set_option maxRecDepth 100000 in
theorem contract (H : Type) (enc : TypeId × Value → H) (W : World) (base : Nat) (args : Array Value) (ds gs : List (DataW H)) (before : List MemPlace)
    (hval : ∀ (j : Nat) t v, Tryz.f3.params[j]? = some t → args[j]? = some v → Value.okWide Tryz.prog W .any base t v)
    (hW : DataW.Whole enc Tryz.prog Tryz.f3.params.toList Rows.actionChecksMatchSpecSpec.vars false W args.toList ds gs before) (hE : Env2 W) :
    Calls Tryz.prog 3 args W fun e W' => ∃ v, e = .returned v ∧ Rows.actionChecksMatchSpecSpec.post enc Tryz.prog Tryz.f3 false true false false W args v W' := by
  have hW' := hW
  obtain ⟨p, q, hA0, hV, rfl, hfz, hnd⟩ := hW
  have hA : DataW.TrodAll enc Tryz.prog W 0 (fun _ => true) true Tryz.f3.params.toList args.toList ds p := hA0
  rw [Tryz.params3] at hA hval
  obtain ⟨v0, vs0, d0, ds0, p0, q0, hargs, rfl, rfl, h0, r0⟩ := trodAll_cons hA
  obtain ⟨rfl, rfl, rfl⟩ := trodAll_nil r0
  obtain rfl : args = #[v0] := by cases args; simp_all
  obtain ⟨rfl, rfl⟩ := trodVars_none hV
  have k0 := h0
  have lt0 : ∀ x ∈ p0, x.block < W.heap.size := by obtain ⟨m, hm⟩ := k0; exact DataW.trod_lt m _ _ _ hm
  obtain ⟨cs0, rfl, hsz0⟩ := okWide_struct Tryz.underlying26 (hval 0 26 v0 rfl rfl)
  obtain ⟨fuel0, hf0⟩ := h0
  obtain ⟨a, A, n, n', B, m, m', C, k, k', D, r, r', hr, hcs⟩ := action_of hf0
  obtain ⟨l⟩ := cs0
  obtain rfl : l = _ := hcs
  clear hsz0
  clear hA0
  refine (law_checks a A n n' B m m' C k k' D r r' W hE hr).mono fun e W' ⟨he, bel⟩ => ?_
  subst he
  exact ⟨_, rfl, _, _, _, [], _, [], hW', trodAll_mk1 (shut_bool Tryz.underlying4 _), (trodAll_cons_mk (Below.trod laidOut (by kernel_rfl) (of_decide_eq_true (by kernel_rfl)) k0 bel lt0) trodAll_mk0), rfl, bel.frame _, fun h => by cases h⟩

set_option maxRecDepth 100000 in
theorem lifted (os : Os) (started : os.Started) (H : Type) (enc : TypeId × Value → H) (F : Stop.Interp) :
    ReturnsInHanded {} Tryz.checked os 3 .any ((OpenSpec.ofChange Rows.actionChecksMatchSpecSpec).preRow enc Tryz.prog Tryz.f3 Rows.actionChecksMatchSpecRow.domain false Rows.actionChecksMatchSpecRow.laid) (((OpenSpec.ofChange Rows.actionChecksMatchSpecSpec).at F).post enc Tryz.prog Tryz.f3 false true false false) := by
  obtain ⟨d, places, hx⟩ := reads os enc
  refine returnsInHanded_of_row (C := Tryz.checked) (s := OpenSpec.ofChange Rows.actionChecksMatchSpecSpec) own started (by kernel_rfl) Tryz.func3
    (witness_row_atRef (enc := enc) (C := Tryz.checked) false (laidWorld os) #[.agg #[.string ⟨#[]⟩, .slice none 0 0, .slice none 0 0, .slice none 0 0, .slice none 0 0, .int .i64 0]] rfl (by kernel_rfl) (by kernel_rfl) (by kernel_rfl)
      (OpenSpec.preRow_of_cond 8 hx (by kernel_rfl) (fun k hk => by cases hk) (by kernel_rfl) (laid_met os _))) ?_
  intro W base args ds gs before hval hW _ _ _ hL hS _
  exact contract H enc W base args ds gs before hval hW (env2_of hL hS (by simp [Rows.actionChecksMatchSpecRow, Rows.laid_unicode_utf8_first]) (by simp [Rows.actionChecksMatchSpecRow]) (by simp [Rows.actionChecksMatchSpecRow]))

theorem said : Rows.ActionChecksMatchSpecSaid :=
  OpenClaim.holds_of_cond 3 Tryz.f3 rfl rfl rfl rfl rfl rfl rfl ⟨rfl, rfl, rfl, rfl, rfl⟩ rfl rfl rfl rfl rfl (by kernel_rfl) Tryz.func3 closed
    (of_decide_eq_true (by as_aux_lemma => kernel_rfl)) (by unfold Func.isWrapper; first | (rw [if_pos (by decide +kernel)]; kernel_rfl) | (rw [if_neg (by decide +kernel)]; exact ⟨rfl, rfl⟩))
    (fun os started H enc _ F => by rw [OpenClaim.pre_eq_preRow]; exact lifted os started H enc F)

theorem plain (f : FuncId) (fn : Func) (hf : Tryz.pinned.checked.prog.funcNamed Rows.actionChecksMatchSpecRow.func = some f) (hfn : Tryz.pinned.checked.prog.funcs[f]? = some fn) :
    true = Tryz.pinned.checked.prog.looks [] ∧ ∀ (j : Nat) t, fn.params[j]? = some t → Tryz.pinned.checked.prog.wantsStandIn t = false := by
  obtain rfl : f = 3 := Option.some.inj ((show Tryz.prog.funcNamed Rows.actionChecksMatchSpecRow.func = some 3 by kernel_rfl).symm.trans hf) |>.symm
  obtain rfl : fn = Tryz.f3 := (Option.some.inj (Tryz.func3.symm.trans hfn)).symm
  refine ⟨by kernel_rfl, fun j t ht => ?_⟩
  rw [Tryz.params3] at ht
  have hm : t = 26 := by simpa using Array.mem_of_getElem? ht
  subst hm
  exact (show Tryz.prog.wantsStandIn 26 = false by kernel_rfl)

/-- The card. -/
theorem card : Rows.ActionChecksMatchSpecCardSaid :=
  Claim7.holds_tied_plain_at .later [] _ _ _ _ said (fun _ h => by cases h) (by as_aux_lemma => kernel_rfl) (fun _ h => by cases h) actionChecksMatchSpec_row_tie rfl ⟨rfl, rfl⟩ (by as_aux_lemma => kernel_rfl) rfl plain (by as_aux_lemma => kernel_rfl)
end Go.Proofs.YtkhengfpglfapaaGreatDoor.checks
