/- Walks: the program writes an action. -/
import Derived.Test.YtadokhhgljddkaaGreatDoorH19x13
import Derived.Test.YtadokhhgljddkaaGreatDoorH19x1
import Derived.Test.YtadokhhgljddkaaGreatDoorH19x5
import Derived.Lib.OthersKept
import Derived.Lib.Builder
import Derived.Lib.FrozenHead
import Derived.Lib.AppendStr
import Derived.Test.YtadokhhgljddkaaGreatDoorH19x3
import Derived.Test.YtadokhhgljddkaaGreatDoorH19x4
import Derived.Deep.RegionHeld3
import Derived.Test.YtadokhhgljddkaaGreatDoorH19x7
namespace Go.Proofs.Sm
open Go.RowKit

def memVal (x : MemoryV) (A1 : Option Addr) (n1 c1 : Nat) (A2 : Option Addr) (n2 c2 : Nat) (A3 : Option Addr) (n3 c3 : Nat) : Value :=
  .agg #[.string x.name, .string x.action, .slice A1 n1 c1, .int .i64 x.result.code, .string x.result.text, .slice A2 n2 c2, .slice A3 n3 c3, .int .i64 x.result.command]
theorem mem_one {w : World} {S : Nat → Prop} {x : MemoryV} {r : List Value} (h : Rep.rep w S x r) : ∀ u ∈ r, u.oneCell' = true := by
  obtain ⟨A1, n1, c1, A2, n2, c2, A3, n3, c3, rfl, _⟩ := h
  exact mem_cells_one x A1 n1 c1 A2 n2 c2 A3 n3 c3
theorem mem_ones {w : World} {S : Nat → Prop} {rows : List (List Value)} (h : ∀ r ∈ rows, ∃ x : MemoryV, Rep.rep w S x r) : ∀ u ∈ rows.flatten, u.oneCell' = true := fun u hu => by
  obtain ⟨r, hr, hur⟩ := List.mem_flatten.1 hu
  obtain ⟨x, hx⟩ := h r hr
  exact mem_one hx u hur
theorem cut_slices {A : Option Addr} {n c k : Nat} (hk : k ≤ n) (hn : n ≤ c) (hm : c ≤ 9223372036854775807) (hA : (A = none ∧ n = 0 ∧ c = 0) ∨ ∃ g, A = some ⟨g, 0, none⟩) :
    (∀ W, (Instr.slice 30 (.slice A n c) none (some (.int .i64 (k : Int))) none).run Tryz.prog W = .ok (.slice A k c) W) ∧
      ∃ A2 c2, (∀ W, (Instr.slice 30 (.slice A n c) (some (.int .i64 (k : Int))) none none).run Tryz.prog W = .ok (.slice A2 (n - k) c2) W) ∧ (0 < n - k → ∃ g, A = some ⟨g, 0, none⟩ ∧ A2 = some ⟨g, k * 8, none⟩) := by
  rcases hA with ⟨rfl, rfl, rfl⟩ | ⟨g, rfl⟩
  · obtain rfl : k = 0 := by omega
    exact ⟨fun W => by simp [go_sem, Tryz.underlying30], none, 0, fun W => by simp [go_sem, Tryz.underlying30], fun h => absurd h (by omega)⟩
  · have hkc : (k : Int) ≤ (c : Int) := by omega
    have hkl : (k : Int) ≤ (n : Int) := by omega
    refine ⟨fun W => by simp [go_sem, Tryz.underlying30, hkc], ?_⟩
    by_cases hc : c = k
    · subst hc
      have hkl2 : n = c := by omega
      exact ⟨some ⟨g, 0, none⟩, 0, fun W => by simp [go_sem, Tryz.underlying30, hkl2], fun h => absurd h (by omega)⟩
    · have hck : ¬ k = c := fun e => hc e.symm
      exact ⟨some ⟨g, k * 8, none⟩, c - k, fun W => by simp [go_sem, Tryz.underlying30, hkl, hc], fun _ => ⟨g, rfl, rfl⟩⟩
def RemPost (l : List MemoryV) (x : MemoryV) (B : Nat) (K : Nat → Prop) (w : World) (e : Ending) (w' : World) : Prop :=
  ∃ v' k, e = .returned v' ∧ PutAt l x k ∧ RowK w' B 68 K v' (l.take k ++ [x] ++ l.drop k) ∧ Below w.heap.size w w'
set_option maxHeartbeats 4000000 in
set_option maxRecDepth 100000 in
theorem ref6_remembered (v : Value) (l : List MemoryV) (x : MemoryV) (A1 : Option Addr) (n1 c1 : Nat) (A2 : Option Addr) (n2 c2 : Nat) (A3 : Option Addr) (n3 c3 : Nat) (B : Nat) (K : Nat → Prop) (w : World)
    (h : RowK w B 68 K v l) (hB : B ≤ w.heap.size) (hK : ∀ k, K k → k < w.heap.size) (hn : l.length ≤ 900000) (hx : Rep.rep w K x (memCells x A1 n1 c1 A2 n2 c2 A3 n3 c3)) :
    Calls Tryz.prog 34 #[v, memVal x A1 n1 c1 A2 n2 c2 A3 n3 c3] w (RemPost l x B K w) := by
  obtain ⟨i0, hi0, hz0, hz1, hz2⟩ := info_parts cl_memory_info
  have hl1 := h.sl
  obtain ⟨A, c, rfl, hc1, hc2, hsl⟩ := hl1
  have hmn : l.length ≤ 9223372036854775807 := by omega
  unfold memVal
  go_enter Tryz.func34, Tryz.ntmps34
  go_wp2_with fail
  generalize hW0 : w.alloc (.cells #[.string x.name, .string x.action, .slice A1 n1 c1, .int .i64 x.result.code, .string x.result.text, .slice A2 n2 c2, .slice A3 n3 c3, .int .i64 x.result.command] 68) = W
  have hA0 : Arr W w.heap.size 68 (memCells x A1 n1 c1 A2 n2 c2 A3 n3 c3) := by rw [← hW0]; exact mem_box ..
  have hbW : Below w.heap.size w W := by rw [← hW0]; exact fr_alloc (fr_refl w) _
  clear hW0
  obtain ⟨g, hg⟩ : ∃ g, g = w.heap.size := ⟨_, rfl⟩
  rw [← hg] at hA0 ⊢
  clear hg
  have hzW := hbW.size
  have hKW : ∀ k, K k → k < W.heap.size := fun k hh => by have := hK k hh; omega
  have HRow := Lib.hid (h.call hbW)
  have HArr := Lib.hid hA0
  have HX0 := Lib.hid (show Rep.rep W K x (memCells x A1 n1 c1 A2 n2 c2 A3 n3 c3) from Rep.keep (fun k hh => hbW.block k (hK k hh)) hx)
  have HW0 := Lib.hid hbW
  have hsl0 := sl_call hsl hbW (Nat.le_refl _)
  clear h hx hsl hbW
  go_loopw [5] (fun t wx => ∃ k : Nat, k ≤ l.length ∧ t = .int .i64 k ∧ (∀ (i : Nat) (y : MemoryV), k ≤ i → l[i]? = some y → ltS x.name y.name = true) ∧ Below W.heap.size W wx) (fun t _ => (intOf t).toNat)
  case atStart => exact ⟨l.length, Nat.le_refl _, rfl, fun i y hi hy => (by have := (List.getElem?_eq_some_iff.1 hy).1; omega), Below.refl _ _⟩
  case round =>
    clear hA0
    obtain ⟨k, hk, rfl, hhi, hbel⟩ := hrel
    have HHi := Lib.hid hhi; clear hhi
    have hAr := HArr.out.call hbel
    have ci := hAr.cell (i := 0) rfl
    clear hAr
    rcases Nat.eq_zero_or_pos k with h0 | h0
    · have hg0 : decide ((0 : Int) < (k : Int)) = false := by simp; omega
      have hg1 : decide (0 < k) = false := by simp; omega
      have hg2 : ¬ 0 < k := by omega
      have HLo := Lib.hid (show ∀ y : MemoryV, 0 < k → l[k - 1]? = some y → ltS x.name y.name = false from fun y h => absurd h (by omega))
      have hb : True := trivial
      clear h0
      go_wp2
      go_quiet (fail)
      generalize hW1 : wr.drewN _ = W1
      have hb1 : Below W.heap.size W W1 := by rw [← hW1]; exact below_drewN hbel _
      clear hW1
      have hz1W := hb1.size
      have hK1 : ∀ k, K k → k < W1.heap.size := fun k hh => by have := hKW k hh; omega
      have hrow1 := HRow.out.call hb1
      have hA1 := HArr.out.call hb1
      have hxx : Rep.rep W1 K x (memCells x A1 n1 c1 A2 n2 c2 A3 n3 c3) := Rep.keep (fun k hh => hb1.block k (hKW k hh)) HX0.out
      obtain ⟨A', c', rows1, rows2, e', hc1', hc2', hA', ⟨y1, y2, y3, y4, y5⟩, ⟨t1, t2, t3, t4, t5⟩⟩ := hrow1.cut hk
      obtain ⟨r1, A2', c2', r2, hA2⟩ := cut_slices hk hc1' hc2' (hA'.imp id fun ⟨g, e, _⟩ => ⟨g, e⟩)
      have hgl : ∀ g, A' = some ⟨g, 0, none⟩ → g < W1.heap.size := fun g e => by
        rcases hA' with ⟨h1, _⟩ | ⟨g', h1, _, h3⟩
        · rw [h1] at e; cases e
        · rw [h1] at e; cases e; exact h3
      have Y4 := Lib.hid (show 0 < k → ∃ ad, A' = some ad ∧ ∀ j u, rows1.flatten[j]? = some u → W1.cell? (ad.add j) = some u from fun h0 => by
        rcases hA' with ⟨_, h2, _⟩ | ⟨g', h1, _, h3⟩
        · omega
        · exact ⟨_, h1, fun j u hu => by rw [addr_add, Nat.zero_add]; exact y5 g' h1 j u hu⟩)
      cases e'
      have Y1 := Lib.hid y1
      have Y2 := Lib.hid y2
      have Y3 := Lib.hid (show rows1.flatten.length = k * 8 from y3)
      have Y5 := Lib.hid (mem_ones y4)
      have T1 := Lib.hid t1
      have T2 := Lib.hid t2
      have T3 := Lib.hid (show rows2.flatten.length = (l.length - k) * 8 from t3)
      have T4 := Lib.hid (mem_ones t4)
      have T5 := Lib.hid t5
      have HGl := Lib.hid hgl
      have HA2 := Lib.hid hA2
      have HA1 := Lib.hid hA1
      clear y1 y2 y3 y4 y5 t1 t2 t3 t4 t5 hgl hA2 hA' hA1 hrow1 ci hb
      go_wp2_with (at_builtin; refine wpList_append_src rfl _ _ 30 rfl W1.heap.size 68 i0 _ 8 136 Tryz.underlying30 hi0 hz0 hz1 hz2 rfl (by decide) _ 0 _ rfl (World.ownsRow_nil _ _ _ _) _ k _ rows1.flatten rfl Y3.out Y4.out Y5.out (by unfold maxLen; omega) (by omega) (Nat.le_refl _) ?_)
      intro v1 w1 hown1 hg1
      have hlk : (l.take k).length = k := by rw [List.length_take]; omega
      have row1 := RowK.appendAll (l := ([] : List MemoryV)) (rows := []) (l2 := l.take k) (K := K) (rows2 := rows1) (w := W1) (v := .slice none 0 0) hK1 rfl (fun i x r hx => by simp at hx) (by rw [Y1.out, hlk]) Y2.out (fun g hg => by cases hg) hg1 (by rw [hlk]; simp only [List.length_nil, Nat.zero_add, List.flatten_nil, List.nil_append]; exact hown1)
      rw [List.nil_append] at row1
      have hb2 : Below W1.heap.size W1 w1 := (Below.refl _ W1).grown hg1 (Nat.le_refl _) fun b hb => by cases hb
      have hAr2 := HA1.out.call hb2
      have q0 := hAr2.cell (i := 0) rfl
      have q1 := hAr2.cell (i := 1) rfl
      have q2 := hAr2.cell (i := 2) rfl
      have q3 := hAr2.cell (i := 3) rfl
      have q4 := hAr2.cell (i := 4) rfl
      have q5 := hAr2.cell (i := 5) rfl
      have q6 := hAr2.cell (i := 6) rfl
      have q7 := hAr2.cell (i := 7) rfl
      have hW9 : Below w1.heap.size w1 (w1.alloc (.cells #[.string x.name, .string x.action, .slice A1 n1 c1, .int .i64 x.result.code, .string x.result.text, .slice A2 n2 c2, .slice A3 n3 c3, .int .i64 x.result.command] 68)) := fr_alloc (fr_refl w1) _
      obtain ⟨hK9, rows, hrows, hown9, hrep⟩ := row1.call hW9
      rw [hlk] at hown9 hrows
      have hoth1 : ∀ b, Value.ownBlock v1 = some b → W1.heap.size ≤ b := fun b hb => (row1.kind b hb).1
      have hb9 := fr_call hb2 hW9
      have hx9 : Rep.rep (w1.alloc (.cells #[.string x.name, .string x.action, .slice A1 n1 c1, .int .i64 x.result.code, .string x.result.text, .slice A2 n2 c2, .slice A3 n3 c3, .int .i64 x.result.command] 68)) K x (memCells x A1 n1 c1 A2 n2 c2 A3 n3 c3) := Rep.keep (fun k hh => hb9.block k (hK1 k hh)) hxx
      have HNew := Lib.hid (new_cells w1 #[.string x.name, .string x.action, .slice A1 n1 c1, .int .i64 x.result.code, .string x.result.text, .slice A2 n2 c2, .slice A3 n3 c3, .int .i64 x.result.command] 68)
      have H9 := Lib.hid hown9
      have HRp := Lib.hid hrep
      have HX9 := Lib.hid hx9
      have hzw := hb2.size
      clear hown1 hg1 row1 hown9 hrep Y1 Y2 Y3 Y4 Y5 hx9 hAr2 hxx r1
      go_wp2_with (at_builtin; refine wpList_append_lies _ rfl _ _ 30 rfl W1.heap.size 68 i0 _ 8 136 Tryz.underlying30 hi0 hz0 hz1 hz2 rfl (by decide) _ k _ rfl H9.out ⟨w1.heap.size, 0, none⟩ 1 1 (memCells x A1 n1 c1 A2 n2 c2 A3 n3 c3) rfl rfl HNew.out (mem_cells_one x A1 n1 c1 A2 n2 c2 A3 n3 c3) (by decide) (by unfold maxLen; omega) (by omega) (by rw [World.size_alloc]; omega) _ rfl ?_)
      intro g' cap w2 hown2 hg2 hat2 hlt2
      have row2 := RowK.append (x := x) (r := memCells x A1 n1 c1 A2 n2 c2 A3 n3 c3) (l := l.take k) hK9 (by rw [hrows, hlk]) HRp.out HX9.out (fun g hg hh => by have h1 := hK1 g hh; have h2 := hoth1 g hg; omega) hg2 (by rw [hlk]; exact hown2)
      have hb3 := hb9.grown hg2 (by rw [World.size_alloc]; omega) fun b hb => hoth1 b hb
      have T6 := Lib.hid (show 0 < l.length - k → ∃ ad, A2' = some ad ∧ ∀ j u, rows2.flatten[j]? = some u → w2.cell? (ad.add j) = some u from fun h0 => by
        obtain ⟨g, e1, e2⟩ := HA2.out h0
        exact ⟨_, e2, fun j u hu => by rw [addr_add]; exact (hb3.cell (p := ⟨g, k * 8 + j, none⟩) (HGl.out g e1)).trans (T5.out g e1 j u hu)⟩)
      have T7 := Lib.hid (show ∀ (i : Nat) (y : MemoryV) (r : List Value), (l.drop k)[i]? = some y → rows2[i]? = some r → Rep.rep w2 K y r from fun i y r hy hr => Rep.keep (fun k hh => hb3.block k (hK1 k hh)) (T2.out i y r hy hr))
      obtain ⟨hKB, rowsB, hrowsB, hownB, hrepB⟩ := id row2
      have hlk2 : (l.take k ++ [x]).length = k + 1 := by rw [List.length_append, hlk]; rfl
      rw [hlk2] at hownB hrowsB
      have HB9 := Lib.hid hownB
      have HBp := Lib.hid hrepB
      have hoth2 : ∀ b, (Value.slice (some ⟨g', 0, none⟩) (k + 1) cap).ownBlock = some b → W1.heap.size ≤ b := fun b hb => (row2.kind b hb).1
      have hz2w := hb3.size
      clear hown2 hg2 hat2 row2 hownB hrepB H9 HRp hW9 hb9 hb2 HNew HX9 q0 q1 q2 q3 q4 q5 q6 q7
      go_wp2_with (at_builtin; refine wpList_append_src rfl _ _ 30 rfl W1.heap.size 68 i0 _ 8 136 Tryz.underlying30 hi0 hz0 hz1 hz2 rfl (by decide) _ (k + 1) _ rfl HB9.out A2' (l.length - k) c2' rows2.flatten rfl T3.out T6.out T4.out (by unfold maxLen; omega) (by omega) hz2w ?_)
      intro v3 w3 hown3 hg3
      have row3 := RowK.appendAll (l := l.take k ++ [x]) (rows := rowsB) (l2 := l.drop k) (K := K) (rows2 := rows2) (w := w2) (v := .slice (some ⟨g', 0, none⟩) (k + 1) cap) hKB (by rw [hrowsB, hlk2]) HBp.out (by rw [T1.out, List.length_drop]) T7.out (fun g hg hh => by have h1 := hK1 g hh; have h2 := hoth2 g hg; omega) hg3 (by rw [hlk2, List.length_drop]; exact hown3)
      have hb4 := hb3.grown hg3 hb3.size fun b hb => hoth2 b hb
      have HE := Lib.hid (show RemPost l x B K w (.returned v3) w3 from ⟨v3, k, rfl, ⟨hk, HHi.out, HLo.out⟩, row3.weaken (by omega), fr_call (fr_call HW0.out hb1) hb4⟩)
      clear row3 hown3 hg3 HB9 HBp T1 T2 T3 T4 T5 T6 T7 hb3 hb4
      go_wp2
      go_ret
      exact HE.out
    · obtain ⟨b, o, y, rfl, hbl, hy, _, _, _, _, _, _, _, _, _, _, _, _, d0, _⟩ := hsl0.memory (k := k - 1) (by omega)
      have HY := Lib.hid hy; clear hy
      have d1 := (hbel.cell (p := ⟨b, o + (k - 1) * 8, none⟩) hbl).trans d0
      have hg0 : decide ((0 : Int) < (k : Int)) = true := by simpa using h0
      cases hb : Op.bytesLess x.name.toList y.name.toList
      · have HLo := Lib.hid (show ∀ z : MemoryV, 0 < k → l[k - 1]? = some z → ltS x.name z.name = false from fun z _ hz => by
          rw [HY.out] at hz
          obtain rfl := Option.some.inj hz
          exact hb)
        cases he : (y.name.toList == x.name.toList)
        · have hb1' : Op.bytesLess y.name.toList x.name.toList = true := bl_total hb fun e => by rw [e] at he; simp at he
          go_wp2
          have g1 := IntWalk.i64_in ((k : Int) - 1) ⟨by omega, by omega⟩; have g2 : ((k : Int) - 1).toNat = k - 1 := (by omega); have g3 : (0 : Int) ≤ (k : Int) - 1 := (by omega); have g4 : (k : Int) - 1 < (l.length : Int) := (by omega)
          go_quiet (fail)
          clear g1 g2 g3 g4 d0 d1 hbl
          generalize hW1 : wr.drewN _ = W1
          have hb1 : Below W.heap.size W W1 := by rw [← hW1]; exact below_drewN hbel _
          clear hW1
          have hz1W := hb1.size
          have hK1 : ∀ k, K k → k < W1.heap.size := fun k hh => by have := hKW k hh; omega
          have hrow1 := HRow.out.call hb1
          have hA1 := HArr.out.call hb1
          have hxx : Rep.rep W1 K x (memCells x A1 n1 c1 A2 n2 c2 A3 n3 c3) := Rep.keep (fun k hh => hb1.block k (hKW k hh)) HX0.out
          obtain ⟨A', c', rows1, rows2, e', hc1', hc2', hA', ⟨y1, y2, y3, y4, y5⟩, ⟨t1, t2, t3, t4, t5⟩⟩ := hrow1.cut hk
          obtain ⟨r1, A2', c2', r2, hA2⟩ := cut_slices hk hc1' hc2' (hA'.imp id fun ⟨g, e, _⟩ => ⟨g, e⟩)
          have hgl : ∀ g, A' = some ⟨g, 0, none⟩ → g < W1.heap.size := fun g e => by
            rcases hA' with ⟨h1, _⟩ | ⟨g', h1, _, h3⟩
            · rw [h1] at e; cases e
            · rw [h1] at e; cases e; exact h3
          have Y4 := Lib.hid (show 0 < k → ∃ ad, A' = some ad ∧ ∀ j u, rows1.flatten[j]? = some u → W1.cell? (ad.add j) = some u from fun h0 => by
            rcases hA' with ⟨_, h2, _⟩ | ⟨g', h1, _, h3⟩
            · omega
            · exact ⟨_, h1, fun j u hu => by rw [addr_add, Nat.zero_add]; exact y5 g' h1 j u hu⟩)
          cases e'
          have Y1 := Lib.hid y1
          have Y2 := Lib.hid y2
          have Y3 := Lib.hid (show rows1.flatten.length = k * 8 from y3)
          have Y5 := Lib.hid (mem_ones y4)
          have T1 := Lib.hid t1
          have T2 := Lib.hid t2
          have T3 := Lib.hid (show rows2.flatten.length = (l.length - k) * 8 from t3)
          have T4 := Lib.hid (mem_ones t4)
          have T5 := Lib.hid t5
          have HGl := Lib.hid hgl
          have HA2 := Lib.hid hA2
          have HA1 := Lib.hid hA1
          clear y1 y2 y3 y4 y5 t1 t2 t3 t4 t5 hgl hA2 hA' hA1 hrow1 ci hb
          go_wp2_with (at_builtin; refine wpList_append_src rfl _ _ 30 rfl W1.heap.size 68 i0 _ 8 136 Tryz.underlying30 hi0 hz0 hz1 hz2 rfl (by decide) _ 0 _ rfl (World.ownsRow_nil _ _ _ _) _ k _ rows1.flatten rfl Y3.out Y4.out Y5.out (by unfold maxLen; omega) (by omega) (Nat.le_refl _) ?_)
          intro v1 w1 hown1 hg1
          have hlk : (l.take k).length = k := by rw [List.length_take]; omega
          have row1 := RowK.appendAll (l := ([] : List MemoryV)) (rows := []) (l2 := l.take k) (K := K) (rows2 := rows1) (w := W1) (v := .slice none 0 0) hK1 rfl (fun i x r hx => by simp at hx) (by rw [Y1.out, hlk]) Y2.out (fun g hg => by cases hg) hg1 (by rw [hlk]; simp only [List.length_nil, Nat.zero_add, List.flatten_nil, List.nil_append]; exact hown1)
          rw [List.nil_append] at row1
          have hb2 : Below W1.heap.size W1 w1 := (Below.refl _ W1).grown hg1 (Nat.le_refl _) fun b hb => by cases hb
          have hAr2 := HA1.out.call hb2
          have q0 := hAr2.cell (i := 0) rfl
          have q1 := hAr2.cell (i := 1) rfl
          have q2 := hAr2.cell (i := 2) rfl
          have q3 := hAr2.cell (i := 3) rfl
          have q4 := hAr2.cell (i := 4) rfl
          have q5 := hAr2.cell (i := 5) rfl
          have q6 := hAr2.cell (i := 6) rfl
          have q7 := hAr2.cell (i := 7) rfl
          have hW9 : Below w1.heap.size w1 (w1.alloc (.cells #[.string x.name, .string x.action, .slice A1 n1 c1, .int .i64 x.result.code, .string x.result.text, .slice A2 n2 c2, .slice A3 n3 c3, .int .i64 x.result.command] 68)) := fr_alloc (fr_refl w1) _
          obtain ⟨hK9, rows, hrows, hown9, hrep⟩ := row1.call hW9
          rw [hlk] at hown9 hrows
          have hoth1 : ∀ b, Value.ownBlock v1 = some b → W1.heap.size ≤ b := fun b hb => (row1.kind b hb).1
          have hb9 := fr_call hb2 hW9
          have hx9 : Rep.rep (w1.alloc (.cells #[.string x.name, .string x.action, .slice A1 n1 c1, .int .i64 x.result.code, .string x.result.text, .slice A2 n2 c2, .slice A3 n3 c3, .int .i64 x.result.command] 68)) K x (memCells x A1 n1 c1 A2 n2 c2 A3 n3 c3) := Rep.keep (fun k hh => hb9.block k (hK1 k hh)) hxx
          have HNew := Lib.hid (new_cells w1 #[.string x.name, .string x.action, .slice A1 n1 c1, .int .i64 x.result.code, .string x.result.text, .slice A2 n2 c2, .slice A3 n3 c3, .int .i64 x.result.command] 68)
          have H9 := Lib.hid hown9
          have HRp := Lib.hid hrep
          have HX9 := Lib.hid hx9
          have hzw := hb2.size
          clear hown1 hg1 row1 hown9 hrep Y1 Y2 Y3 Y4 Y5 hx9 hAr2 hxx r1
          go_wp2_with (at_builtin; refine wpList_append_lies _ rfl _ _ 30 rfl W1.heap.size 68 i0 _ 8 136 Tryz.underlying30 hi0 hz0 hz1 hz2 rfl (by decide) _ k _ rfl H9.out ⟨w1.heap.size, 0, none⟩ 1 1 (memCells x A1 n1 c1 A2 n2 c2 A3 n3 c3) rfl rfl HNew.out (mem_cells_one x A1 n1 c1 A2 n2 c2 A3 n3 c3) (by decide) (by unfold maxLen; omega) (by omega) (by rw [World.size_alloc]; omega) _ rfl ?_)
          intro g' cap w2 hown2 hg2 hat2 hlt2
          have row2 := RowK.append (x := x) (r := memCells x A1 n1 c1 A2 n2 c2 A3 n3 c3) (l := l.take k) hK9 (by rw [hrows, hlk]) HRp.out HX9.out (fun g hg hh => by have h1 := hK1 g hh; have h2 := hoth1 g hg; omega) hg2 (by rw [hlk]; exact hown2)
          have hb3 := hb9.grown hg2 (by rw [World.size_alloc]; omega) fun b hb => hoth1 b hb
          have T6 := Lib.hid (show 0 < l.length - k → ∃ ad, A2' = some ad ∧ ∀ j u, rows2.flatten[j]? = some u → w2.cell? (ad.add j) = some u from fun h0 => by
            obtain ⟨g, e1, e2⟩ := HA2.out h0
            exact ⟨_, e2, fun j u hu => by rw [addr_add]; exact (hb3.cell (p := ⟨g, k * 8 + j, none⟩) (HGl.out g e1)).trans (T5.out g e1 j u hu)⟩)
          have T7 := Lib.hid (show ∀ (i : Nat) (y : MemoryV) (r : List Value), (l.drop k)[i]? = some y → rows2[i]? = some r → Rep.rep w2 K y r from fun i y r hy hr => Rep.keep (fun k hh => hb3.block k (hK1 k hh)) (T2.out i y r hy hr))
          obtain ⟨hKB, rowsB, hrowsB, hownB, hrepB⟩ := id row2
          have hlk2 : (l.take k ++ [x]).length = k + 1 := by rw [List.length_append, hlk]; rfl
          rw [hlk2] at hownB hrowsB
          have HB9 := Lib.hid hownB
          have HBp := Lib.hid hrepB
          have hoth2 : ∀ b, (Value.slice (some ⟨g', 0, none⟩) (k + 1) cap).ownBlock = some b → W1.heap.size ≤ b := fun b hb => (row2.kind b hb).1
          have hz2w := hb3.size
          clear hown2 hg2 hat2 row2 hownB hrepB H9 HRp hW9 hb9 hb2 HNew HX9 q0 q1 q2 q3 q4 q5 q6 q7
          go_wp2_with (at_builtin; refine wpList_append_src rfl _ _ 30 rfl W1.heap.size 68 i0 _ 8 136 Tryz.underlying30 hi0 hz0 hz1 hz2 rfl (by decide) _ (k + 1) _ rfl HB9.out A2' (l.length - k) c2' rows2.flatten rfl T3.out T6.out T4.out (by unfold maxLen; omega) (by omega) hz2w ?_)
          intro v3 w3 hown3 hg3
          have row3 := RowK.appendAll (l := l.take k ++ [x]) (rows := rowsB) (l2 := l.drop k) (K := K) (rows2 := rows2) (w := w2) (v := .slice (some ⟨g', 0, none⟩) (k + 1) cap) hKB (by rw [hrowsB, hlk2]) HBp.out (by rw [T1.out, List.length_drop]) T7.out (fun g hg hh => by have h1 := hK1 g hh; have h2 := hoth2 g hg; omega) hg3 (by rw [hlk2, List.length_drop]; exact hown3)
          have hb4 := hb3.grown hg3 hb3.size fun b hb => hoth2 b hb
          have HE := Lib.hid (show RemPost l x B K w (.returned v3) w3 from ⟨v3, k, rfl, ⟨hk, HHi.out, HLo.out⟩, row3.weaken (by omega), fr_call (fr_call HW0.out hb1) hb4⟩)
          clear row3 hown3 hg3 HB9 HBp T1 T2 T3 T4 T5 T6 T7 hb3 hb4
          go_wp2
          go_ret
          exact HE.out
        · have hb1' : Op.bytesLess y.name.toList x.name.toList = false := by
            have e : y.name.toList = x.name.toList := by simpa using he
            rw [e]; exact bl_irrefl _
          go_wp2
          have g1 := IntWalk.i64_in ((k : Int) - 1) ⟨by omega, by omega⟩; have g2 : ((k : Int) - 1).toNat = k - 1 := (by omega); have g3 : (0 : Int) ≤ (k : Int) - 1 := (by omega); have g4 : (k : Int) - 1 < (l.length : Int) := (by omega)
          go_quiet (fail)
          clear g1 g2 g3 g4 d0 d1 hbl
          generalize hW1 : wr.drewN _ = W1
          have hb1 : Below W.heap.size W W1 := by rw [← hW1]; exact below_drewN hbel _
          clear hW1
          have hz1W := hb1.size
          have hK1 : ∀ k, K k → k < W1.heap.size := fun k hh => by have := hKW k hh; omega
          have hrow1 := HRow.out.call hb1
          have hA1 := HArr.out.call hb1
          have hxx : Rep.rep W1 K x (memCells x A1 n1 c1 A2 n2 c2 A3 n3 c3) := Rep.keep (fun k hh => hb1.block k (hKW k hh)) HX0.out
          obtain ⟨A', c', rows1, rows2, e', hc1', hc2', hA', ⟨y1, y2, y3, y4, y5⟩, ⟨t1, t2, t3, t4, t5⟩⟩ := hrow1.cut hk
          obtain ⟨r1, A2', c2', r2, hA2⟩ := cut_slices hk hc1' hc2' (hA'.imp id fun ⟨g, e, _⟩ => ⟨g, e⟩)
          have hgl : ∀ g, A' = some ⟨g, 0, none⟩ → g < W1.heap.size := fun g e => by
            rcases hA' with ⟨h1, _⟩ | ⟨g', h1, _, h3⟩
            · rw [h1] at e; cases e
            · rw [h1] at e; cases e; exact h3
          have Y4 := Lib.hid (show 0 < k → ∃ ad, A' = some ad ∧ ∀ j u, rows1.flatten[j]? = some u → W1.cell? (ad.add j) = some u from fun h0 => by
            rcases hA' with ⟨_, h2, _⟩ | ⟨g', h1, _, h3⟩
            · omega
            · exact ⟨_, h1, fun j u hu => by rw [addr_add, Nat.zero_add]; exact y5 g' h1 j u hu⟩)
          cases e'
          have Y1 := Lib.hid y1
          have Y2 := Lib.hid y2
          have Y3 := Lib.hid (show rows1.flatten.length = k * 8 from y3)
          have Y5 := Lib.hid (mem_ones y4)
          have T1 := Lib.hid t1
          have T2 := Lib.hid t2
          have T3 := Lib.hid (show rows2.flatten.length = (l.length - k) * 8 from t3)
          have T4 := Lib.hid (mem_ones t4)
          have T5 := Lib.hid t5
          have HGl := Lib.hid hgl
          have HA2 := Lib.hid hA2
          have HA1 := Lib.hid hA1
          clear y1 y2 y3 y4 y5 t1 t2 t3 t4 t5 hgl hA2 hA' hA1 hrow1 ci hb
          go_wp2_with (at_builtin; refine wpList_append_src rfl _ _ 30 rfl W1.heap.size 68 i0 _ 8 136 Tryz.underlying30 hi0 hz0 hz1 hz2 rfl (by decide) _ 0 _ rfl (World.ownsRow_nil _ _ _ _) _ k _ rows1.flatten rfl Y3.out Y4.out Y5.out (by unfold maxLen; omega) (by omega) (Nat.le_refl _) ?_)
          intro v1 w1 hown1 hg1
          have hlk : (l.take k).length = k := by rw [List.length_take]; omega
          have row1 := RowK.appendAll (l := ([] : List MemoryV)) (rows := []) (l2 := l.take k) (K := K) (rows2 := rows1) (w := W1) (v := .slice none 0 0) hK1 rfl (fun i x r hx => by simp at hx) (by rw [Y1.out, hlk]) Y2.out (fun g hg => by cases hg) hg1 (by rw [hlk]; simp only [List.length_nil, Nat.zero_add, List.flatten_nil, List.nil_append]; exact hown1)
          rw [List.nil_append] at row1
          have hb2 : Below W1.heap.size W1 w1 := (Below.refl _ W1).grown hg1 (Nat.le_refl _) fun b hb => by cases hb
          have hAr2 := HA1.out.call hb2
          have q0 := hAr2.cell (i := 0) rfl
          have q1 := hAr2.cell (i := 1) rfl
          have q2 := hAr2.cell (i := 2) rfl
          have q3 := hAr2.cell (i := 3) rfl
          have q4 := hAr2.cell (i := 4) rfl
          have q5 := hAr2.cell (i := 5) rfl
          have q6 := hAr2.cell (i := 6) rfl
          have q7 := hAr2.cell (i := 7) rfl
          have hW9 : Below w1.heap.size w1 (w1.alloc (.cells #[.string x.name, .string x.action, .slice A1 n1 c1, .int .i64 x.result.code, .string x.result.text, .slice A2 n2 c2, .slice A3 n3 c3, .int .i64 x.result.command] 68)) := fr_alloc (fr_refl w1) _
          obtain ⟨hK9, rows, hrows, hown9, hrep⟩ := row1.call hW9
          rw [hlk] at hown9 hrows
          have hoth1 : ∀ b, Value.ownBlock v1 = some b → W1.heap.size ≤ b := fun b hb => (row1.kind b hb).1
          have hb9 := fr_call hb2 hW9
          have hx9 : Rep.rep (w1.alloc (.cells #[.string x.name, .string x.action, .slice A1 n1 c1, .int .i64 x.result.code, .string x.result.text, .slice A2 n2 c2, .slice A3 n3 c3, .int .i64 x.result.command] 68)) K x (memCells x A1 n1 c1 A2 n2 c2 A3 n3 c3) := Rep.keep (fun k hh => hb9.block k (hK1 k hh)) hxx
          have HNew := Lib.hid (new_cells w1 #[.string x.name, .string x.action, .slice A1 n1 c1, .int .i64 x.result.code, .string x.result.text, .slice A2 n2 c2, .slice A3 n3 c3, .int .i64 x.result.command] 68)
          have H9 := Lib.hid hown9
          have HRp := Lib.hid hrep
          have HX9 := Lib.hid hx9
          have hzw := hb2.size
          clear hown1 hg1 row1 hown9 hrep Y1 Y2 Y3 Y4 Y5 hx9 hAr2 hxx r1
          go_wp2_with (at_builtin; refine wpList_append_lies _ rfl _ _ 30 rfl W1.heap.size 68 i0 _ 8 136 Tryz.underlying30 hi0 hz0 hz1 hz2 rfl (by decide) _ k _ rfl H9.out ⟨w1.heap.size, 0, none⟩ 1 1 (memCells x A1 n1 c1 A2 n2 c2 A3 n3 c3) rfl rfl HNew.out (mem_cells_one x A1 n1 c1 A2 n2 c2 A3 n3 c3) (by decide) (by unfold maxLen; omega) (by omega) (by rw [World.size_alloc]; omega) _ rfl ?_)
          intro g' cap w2 hown2 hg2 hat2 hlt2
          have row2 := RowK.append (x := x) (r := memCells x A1 n1 c1 A2 n2 c2 A3 n3 c3) (l := l.take k) hK9 (by rw [hrows, hlk]) HRp.out HX9.out (fun g hg hh => by have h1 := hK1 g hh; have h2 := hoth1 g hg; omega) hg2 (by rw [hlk]; exact hown2)
          have hb3 := hb9.grown hg2 (by rw [World.size_alloc]; omega) fun b hb => hoth1 b hb
          have T6 := Lib.hid (show 0 < l.length - k → ∃ ad, A2' = some ad ∧ ∀ j u, rows2.flatten[j]? = some u → w2.cell? (ad.add j) = some u from fun h0 => by
            obtain ⟨g, e1, e2⟩ := HA2.out h0
            exact ⟨_, e2, fun j u hu => by rw [addr_add]; exact (hb3.cell (p := ⟨g, k * 8 + j, none⟩) (HGl.out g e1)).trans (T5.out g e1 j u hu)⟩)
          have T7 := Lib.hid (show ∀ (i : Nat) (y : MemoryV) (r : List Value), (l.drop k)[i]? = some y → rows2[i]? = some r → Rep.rep w2 K y r from fun i y r hy hr => Rep.keep (fun k hh => hb3.block k (hK1 k hh)) (T2.out i y r hy hr))
          obtain ⟨hKB, rowsB, hrowsB, hownB, hrepB⟩ := id row2
          have hlk2 : (l.take k ++ [x]).length = k + 1 := by rw [List.length_append, hlk]; rfl
          rw [hlk2] at hownB hrowsB
          have HB9 := Lib.hid hownB
          have HBp := Lib.hid hrepB
          have hoth2 : ∀ b, (Value.slice (some ⟨g', 0, none⟩) (k + 1) cap).ownBlock = some b → W1.heap.size ≤ b := fun b hb => (row2.kind b hb).1
          have hz2w := hb3.size
          clear hown2 hg2 hat2 row2 hownB hrepB H9 HRp hW9 hb9 hb2 HNew HX9 q0 q1 q2 q3 q4 q5 q6 q7
          go_wp2_with (at_builtin; refine wpList_append_src rfl _ _ 30 rfl W1.heap.size 68 i0 _ 8 136 Tryz.underlying30 hi0 hz0 hz1 hz2 rfl (by decide) _ (k + 1) _ rfl HB9.out A2' (l.length - k) c2' rows2.flatten rfl T3.out T6.out T4.out (by unfold maxLen; omega) (by omega) hz2w ?_)
          intro v3 w3 hown3 hg3
          have row3 := RowK.appendAll (l := l.take k ++ [x]) (rows := rowsB) (l2 := l.drop k) (K := K) (rows2 := rows2) (w := w2) (v := .slice (some ⟨g', 0, none⟩) (k + 1) cap) hKB (by rw [hrowsB, hlk2]) HBp.out (by rw [T1.out, List.length_drop]) T7.out (fun g hg hh => by have h1 := hK1 g hh; have h2 := hoth2 g hg; omega) hg3 (by rw [hlk2, List.length_drop]; exact hown3)
          have hb4 := hb3.grown hg3 hb3.size fun b hb => hoth2 b hb
          have HE := Lib.hid (show RemPost l x B K w (.returned v3) w3 from ⟨v3, k, rfl, ⟨hk, HHi.out, HLo.out⟩, row3.weaken (by omega), fr_call (fr_call HW0.out hb1) hb4⟩)
          clear row3 hown3 hg3 HB9 HBp T1 T2 T3 T4 T5 T6 T7 hb3 hb4
          go_wp2
          go_ret
          exact HE.out
      · have HH := Lib.hid (show ∀ (i : Nat) (z : MemoryV), k - 1 ≤ i → l[i]? = some z → ltS x.name z.name = true from fun i z hi hz => by
          by_cases h1 : i = k - 1
          · subst h1
            rw [HY.out] at hz
            obtain rfl := Option.some.inj hz
            exact hb
          · exact HHi.out i z (by omega) hz)
        have GC := Lib.hid (show ((k : Int) - 1) = ((k - 1 : Nat) : Int) by omega)
        have he : (y.name.toList == x.name.toList) = false := by
          cases he : (y.name.toList == x.name.toList)
          · rfl
          · have e : y.name.toList = x.name.toList := by simpa using he
            rw [e, bl_irrefl] at hb; cases hb
        have hb1' : Op.bytesLess y.name.toList x.name.toList = false := by
          cases h1 : Op.bytesLess y.name.toList x.name.toList
          · rfl
          · have := bl_trans hb h1
            rw [bl_irrefl] at this; cases this
        go_wp2
        have g1 := IntWalk.i64_in ((k : Int) - 1) ⟨by omega, by omega⟩; have g2 : ((k : Int) - 1).toNat = k - 1 := (by omega); have g3 : (0 : Int) ≤ (k : Int) - 1 := (by omega); have g4 : (k : Int) - 1 < (l.length : Int) := (by omega)
        go_quiet (fail)
        clear g1 g2 g3 g4
        have gx : (1 : Int) ≤ (k : Int) := by omega
        go_wp2
        go_roundw
        case rel => exact ⟨k - 1, by omega, by rw [GC.out], HH.out, below_drewN hbel _⟩
        case measure => simp [intOf]; omega
end Go.Proofs.Sm

namespace Go.Proofs.Sm
open Go.RowKit

set_option maxHeartbeats 4000000 in
set_option maxRecDepth 100000 in
theorem ref6_Joined (A B : Option Addr) (n c m d : Nat) (la lb : List MemoryV) (w : World) (hE : Env w) (hsl : Sl w (Lt w.heap.size) A n la) (hsl2 : Sl w (Lt w.heap.size) B m lb) :
    Calls Tryz.prog 10 #[.slice A n c, .slice B m d] w (JoinedPost la lb w) := by
  have hm : n ≤ 9223372036854775807 := hsl.2.1
  have hm2 : m ≤ 9223372036854775807 := hsl2.2.1
  have HL := Lib.hid hsl.1
  have HL2 := Lib.hid hsl2.1
  obtain ⟨i0, hi0, hz0, hz1, hz2⟩ := info_parts cl_memory_info
  go_enter Tryz.func10, Tryz.ntmps10
  go_wp2_with fail
  refine (ref6_CheckMemory A n c la w hE hsl).mono ?_
  rintro e w1 ⟨rfl, hb1⟩
  cases h0 : (checkMemoryS la == 0)
  · have hne : checkMemoryS la ≠ 0 := by simpa using h0
    have hbn : (checkMemoryS la != 0) = true := by simpa using h0
    have HV := Lib.hid (joined_a (lb := lb) hne)
    have HN := Lib.hid hne
    clear hne
    go_wp2
    go_ret2
    exact JoinedPost.bad HV.out HN.out hb1
  have hza : checkMemoryS la = 0 := by simpa using h0
  have hbn : (checkMemoryS la != 0) = false := by simpa using h0
  have HZ := Lib.hid hza
  rw [hza] at hbn ⊢
  clear hza h0 hbn
  go_wp2_with fail
  refine (ref6_CheckMemory B m d lb w1 (hE.then_ hb1) (sl_call hsl2 hb1 (Nat.le_refl _))).mono ?_
  rintro e w2 ⟨rfl, hb2⟩
  have hb02 := fr_call hb1 hb2
  clear hb1 hb2
  cases h0 : (checkMemoryS lb == 0)
  · have hne : checkMemoryS lb ≠ 0 := by simpa using h0
    have hbn : (checkMemoryS lb != 0) = true := by simpa using h0
    have HV := Lib.hid (joined_b HZ.out hne)
    have HN := Lib.hid hne
    clear hne
    go_wp2
    go_ret2
    exact JoinedPost.bad HV.out HN.out hb02
  have hzb : checkMemoryS lb = 0 := by simpa using h0
  have HZ2 := Lib.hid hzb
  rw [hzb]
  clear hzb h0
  have HJ := Lib.hid (joined_rest HZ.out HZ2.out)
  have hn5 : n ≤ 500 := by have := (memory_parts HZ.out).1; have := HL.out; omega
  have hm5 : m ≤ 500 := by have := (memory_parts HZ2.out).1; have := HL2.out; omega
  have hzw2 := hb02.size
  have hsl02 := hsl.keep (keep_lt hb02)
  obtain ⟨rows1, y1, y2, y3, y4, y5⟩ := sl_cells hsl02 (by decide)
  have Y1 := Lib.hid y1
  have Y2 := Lib.hid y2
  have Y3 := Lib.hid (show rows1.flatten.length = n * 8 from y3)
  have Y4 := Lib.hid y4
  have Y5 := Lib.hid (mem_ones (w := w2) (S := Lt w.heap.size) (rows := rows1) fun r hr => by obtain ⟨x, _, h⟩ := y5 r hr; exact ⟨x, h⟩)
  clear y1 y2 y3 y4 y5 hsl02
  go_wp2_with (at_builtin; refine wpList_append_src rfl _ _ 30 rfl w2.heap.size 68 i0 _ 8 136 Tryz.underlying30 hi0 hz0 hz1 hz2 rfl (by decide) _ 0 _ rfl (World.ownsRow_nil _ _ _ _) _ n _ rows1.flatten rfl Y3.out Y4.out Y5.out (by unfold maxLen; omega) (by omega) (Nat.le_refl _) ?_)
  intro v1 w3 hown1 hg1
  have row1 := RowK.appendAll (l := ([] : List MemoryV)) (rows := []) (l2 := la) (K := Lt w.heap.size) (rows2 := rows1) (w := w2) (v := .slice none 0 0) (fun k hk => Nat.lt_of_lt_of_le hk hzw2) rfl (fun i x r hx => by simp at hx) (by rw [Y1.out, HL.out]) Y2.out (fun g hg => by cases hg) hg1 (by rw [HL.out]; simp only [List.length_nil, Nat.zero_add, List.flatten_nil, List.nil_append]; exact hown1)
  rw [List.nil_append] at row1
  have hb3 : Below w.heap.size w w3 := hb02.grown hg1 hzw2 fun b hb => by cases hb
  have hrow0 : RowK w3 w.heap.size 68 (Lt w.heap.size) v1 la := row1.weaken hzw2
  have HS0 := Lib.hid (mems_sorted HZ.out)
  clear hown1 hg1 row1 Y1 Y2 Y3 Y4 Y5 hb02
  go_wp2
  go_loopw [8, 9] (fun v iv wx => ∃ (k : Nat) (L : List MemoryV), k ≤ m ∧ iv = .int .i64 k ∧ RowK wx w.heap.size 68 (Lt w.heap.size) v L ∧ L.Perm (la ++ (lb.take k).filter (newTo la)) ∧ SortM L ∧ Below w.heap.size w wx) (fun _ iv _ => m - (intOf iv).toNat)
  case atStart => exact ⟨0, la, Nat.zero_le _, rfl, hrow0, by simp, HS0.out, hb3⟩
  case round =>
    clear hrow0 hb3 HS0
    obtain ⟨k, L, hk, rfl, hrow, hperm, hsort, hbel⟩ := hrel
    have HP := Lib.hid hperm; clear hperm
    have HS := Lib.hid hsort; clear hsort
    have hzr := hbel.size
    have hlen : L.length ≤ 1000 := by
      have h1 := List.length_filter_le (newTo la) (lb.take k)
      have h2 := List.length_take_le k lb
      have h3 := HL.out
      rw [HP.out.length_eq, List.length_append]; omega
    by_cases hlt : k < m
    · have hkI : (k : Int) < (m : Int) := by omega
      obtain ⟨b, o, x, rfl, hbb, hx, A1, n1, c1, A2, n2, c2, A3, n3, c3, z, hcs, ss, q0, q1, q2, q3, q4, q5, q6, q7⟩ := (hsl2.keep (keep_lt hbel)).memory hlt
      have HX := Lib.hid hx; clear hx
      have hxr : Rep.rep wr (Lt w.heap.size) x (memCells x A1 n1 c1 A2 n2 c2 A3 n3 c3) := ⟨A1, n1, c1, A2, n2, c2, A3, n3, c3, rfl, z, hcs, ss⟩
      have HC := Lib.hid (ref6_remembered u8 L x A1 n1 c1 A2 n2 c2 A3 n3 c3 w.heap.size (Lt w.heap.size) wr hrow hzr (fun k hk => Nat.lt_of_lt_of_le hk hzr) (by omega) hxr)
      unfold memVal at HC
      have HKp := Lib.hid (ref6_kept A n c la x.name wr _ (hsl.keep (keep_lt hbel)))
      have HF := Lib.hid (filter_take (p := newTo la) HX.out)
      clear hxr ss z hcs
      cases hd : decide (x.name.data.toList ∈ namesOf la)
      · rw [hd] at HKp
        have HN := Lib.hid (show newTo la x = true by rw [newTo, hd]; rfl)
        clear hd
        go_wp2_with fail
        refine HKp.out.mono ?_
        rintro e w4 ⟨r, rfl, hr, rfl⟩
        have hr0 : r < 0 := by simpa using hr
        clear hr HKp
        go_wp2_with fail
        refine HC.out.mono ?_
        rintro e w4 ⟨v', k', rfl, hput, hrow4, hb4⟩
        have HP4 := Lib.hid (show (L.take k' ++ [x] ++ L.drop k').Perm (la ++ (lb.take (k + 1)).filter (newTo la)) by
          rw [HF.out, HN.out, if_pos rfl, ← List.append_assoc]
          exact (put_perm L x k').trans (HP.out.append_right [x]))
        have HS4 := Lib.hid (hput.sorted HS.out)
        have HR4 := Lib.hid hrow4
        have hb04 := fr_call hbel hb4
        clear hput hrow4 hrow HC q0 q1 q2 q3 q4 q5 q6 q7
        go_wp2
        go_roundw
        case rel => exact ⟨k + 1, _, by omega, by go_num, HR4.out, HP4.out, HS4.out, hb04⟩
        case measure => simp [intOf]; omega
      · rw [hd] at HKp
        have HN := Lib.hid (show newTo la x = false by rw [newTo, hd]; rfl)
        clear hd
        go_wp2_with fail
        refine HKp.out.mono ?_
        rintro e w4 ⟨r, rfl, hr, rfl⟩
        have hr0 : ¬ r < 0 := by simpa using hr
        have HP4 := Lib.hid (show L.Perm (la ++ (lb.take (k + 1)).filter (newTo la)) by
          rw [HF.out, HN.out]
          simpa using HP.out)
        have HR4 := Lib.hid hrow
        clear hr HKp hrow HC q0 q1 q2 q3 q4 q5 q6 q7
        go_wp2
        go_roundw
        case rel => exact ⟨k + 1, L, by omega, by go_num, HR4.out, HP4.out, HS.out, hbel⟩
        case measure => simp [intOf]; omega
    · have HPB := Lib.hid (show L.Perm (bothS la lb) by
        have := HP.out
        rwa [List.take_of_length_le (by rw [HL2.out]; omega)] at this)
      have HLn := Lib.hid HPB.out.length_eq
      obtain ⟨A7, c7, rfl, h71, h72, hs7⟩ := hrow.sl
      have HI := Lib.hid (show JoinedIs la lb L from ⟨HPB.out, sortM_iff.1 HS.out⟩)
      have hlm : L.length ≤ 9223372036854775807 := by omega
      by_cases hbig : (500 : Int) < (L.length : Int)
      · have HV := Lib.hid (show joinedErr la lb = 2 by rw [HJ.out, ← HLn.out, if_pos hbig])
        clear hrow hs7
        go_wp2
        go_ret2
        exact JoinedPost.bad HV.out (by decide) hbel
      · have HV := Lib.hid (show joinedErr la lb = 0 by rw [HJ.out, ← HLn.out, if_neg hbig])
        have HE := Lib.hid (JoinedPost.good (A := A7) (n := L.length) (c := c7) HV.out h71 h72 HI.out hs7 hbel)
        clear hrow hs7
        go_wp2
        go_ret2
        exact HE.out
end Go.Proofs.Sm

namespace Go.Proofs.Sm
open Go.RowKit

theorem bld_size : (Tryz.prog.info? 138).map (·.size) = some 2 := by kernel_rfl
theorem bld_lies : liesAt Tryz.prog Tryz.prog.depth 138 (2 / Tryz.prog.cellsOf 138) 0 138 1 = true := by kernel_rfl
theorem byte_info : (Tryz.prog.info? 5).map (fun i => (i.zero, i.size, i.bytes)) = some (some (.int .u8 0), 1, 1) := by kernel_rfl

/-- A builder in block b that holds these bytes. -/
def Bld (w : World) (b : Nat) (l : List UInt8) : Prop := Lib.IsBuilderF 138 5 b b (Lib.byteCells l) w
/-- What a builder's method does to memory. -/
def Wrote (b : Nat) (w w' : World) : Prop := Below b w w' ∧ Lib.OthersKept 5 (some b) w w'
theorem Wrote.trans {b : Nat} {w w1 w2 : World} (h : Wrote b w w1) (k : Wrote b w1 w2) : Wrote b w w2 := ⟨h.1.trans k.1, h.2.trans k.2⟩
theorem Bld.lt {w : World} {b : Nat} {l : List UInt8} (h : Bld w b l) : b < w.heap.size := by
  rcases h with h | h
  · exact h.lt
  · exact h.lt
theorem Bld.new (w : World) : Bld (w.alloc (.cells #[.pointer none, .slice none 0 0] 138)) w.heap.size [] := by
  refine .inl ⟨Nat.le_refl _, .slice none 0 0, heap_alloc_new w _, ?_, by simp [Value.ownBlock]⟩
  exact World.ownsRowF_of (World.ownsRow_nil _ _ _ _)
theorem Bld.alloc {w : World} {b : Nat} {l : List UInt8} (h : Bld w b l) (o : Obj) : Bld (w.alloc o) b l := by
  rcases h with h | h
  · exact .inl (h.alloc o)
  · exact .inr (h.alloc o)
theorem ownsRowF_call {w w' : World} {base : Nat} {e : TypeId} {size : Nat} {v : Value} {n : Nat} {xs : List Value} (h : w.ownsRowF base e size v n xs) (hb : Below w.heap.size w w') : w'.ownsRowF base e size v n xs :=
  h.kept (row := none) ⟨hb.os, hb.tape, hb.output, hb.size, fun i hi _ => hb.block i hi⟩ (by
    cases v.ownBlock with
    | none => exact .inl rfl
    | some k => exact .inr (by simp))
theorem Bld.drew {w : World} {b : Nat} {l : List UInt8} (h : Bld w b l) : Bld w.drew b l := h
theorem Bld.call {w w' : World} {b : Nat} {l : List UInt8} (h : Bld w b l) (hb : Below w.heap.size w w') : Bld w' b l := by
  have hlt := h.lt
  rcases h with ⟨hB, v, hbk, hown, hne⟩ | ⟨hB, v, hbk, hown, hne⟩
  · exact .inl ⟨hB, v, (hb.block b hlt).trans hbk, ownsRowF_call hown hb, hne⟩
  · exact .inr ⟨hB, v, (hb.block b hlt).trans hbk, ownsRowF_call hown hb, hne⟩
theorem Wrote.of_below {b : Nat} {w w' : World} (hb : Below w.heap.size w w') (hlt : b ≤ w.heap.size) : Wrote b w w' :=
  ⟨hb.mono hlt, fun k _ hk _ _ => (hb.block k (Array.getElem?_eq_some_iff.1 hk).1).trans hk⟩
theorem Wrote.refl (b : Nat) (w : World) : Wrote b w w := ⟨Below.refl _ _, Lib.OthersKept.refl _ _ _⟩
theorem Wrote.drew {b : Nat} {w w' : World} (h : Wrote b w w') : Wrote b w w'.drew := ⟨h.1.drew, h.2⟩
theorem Wrote.call {b : Nat} {w w' w1 : World} (hb : b ≤ w.heap.size) (h : Wrote b w w') (hc : Below w'.heap.size w' w1) : Wrote b w w1 := h.trans (Wrote.of_below hc (Nat.le_trans hb h.1.size))
/-- a box that is no row of bytes stays -/
theorem Wrote.box {b : Nat} {w w' : World} (h : Wrote b w w') {g : Nat} {cs : Array Value} {t : TypeId} {fz : Nat × Nat} (hg : w.heap[g]? = some (.cells cs t fz)) (hne : g ≠ b) (ht : t ≠ 5) : w'.heap[g]? = some (.cells cs t fz) :=
  h.2 g _ hg (by simpa using hne) (fun c fz' e => by cases e; exact ht rfl)

set_option maxHeartbeats 1000000 in
set_option maxRecDepth 100000 in
theorem bld_check_used (b : Nat) (w : World) (h0 : w.cell? ⟨b, 0, none⟩ = some (.pointer (some ⟨b, 0, none⟩))) :
    Calls Tryz.prog 147 #[.pointer (some ⟨b, 0, none⟩)] w fun e w' => e = .returned (.tuple #[]) ∧ w' = w := by
  obtain ⟨j, hj, _⟩ := Option.map_eq_some_iff.1 bld_size
  go_enter Tryz.func147, Tryz.ntmps147
  go_wp2
  rw [Lib.run_neq_ptr_same w _ Tryz.underlying136 hj]
  go_wp2
  go_end0
  exact ⟨rfl, rfl⟩
set_option maxHeartbeats 1000000 in
set_option maxRecDepth 100000 in
theorem bld_check_fresh (b : Nat) (w : World) (h0 : w.cell? ⟨b, 0, none⟩ = some (.pointer none)) (hsh : w.shape? b = some (138, 2)) (hfz : w.frozen? ⟨b, 0, none⟩ = false) :
    Calls Tryz.prog 147 #[.pointer (some ⟨b, 0, none⟩)] w fun e w' => e = .returned (.tuple #[]) ∧ w' = w.setCell ⟨b, 0, none⟩ (.pointer (some ⟨b, 0, none⟩)) := by
  obtain ⟨j, hj, hjs⟩ := Option.map_eq_some_iff.1 bld_size
  go_enter Tryz.func147, Tryz.ntmps147
  go_wp2
  rw [Lib.run_to_unsafe w ⟨b, 0, none⟩ Tryz.underlying136 Tryz.underlying196 hj (by rw [hjs]; decide) hsh (Nat.zero_lt_succ 1)]
  simp only [Result.andThen]
  rw [Oper.upon_value]
  go_wp2
  rw [run_callFunc_extern Tryz.func184 (by kernel_rfl) (by kernel_rfl) (by kernel_rfl) (e := Extern.AbiNoEscape.same) (by kernel_rfl)]
  rw [Lib.run_noEscape]
  simp only [Result.andThen]
  rw [Oper.upon_value]
  go_wp2
  rw [Lib.run_from_unsafe w ⟨b, 0, none⟩ Tryz.underlying196 Tryz.underlying136 hj hsh bld_lies]
  simp only [Result.andThen]
  rw [Oper.upon_value]
  go_wp2
  go_end0
  exact ⟨rfl, rfl⟩
theorem bld_check (b : Nat) (bs : List Value) (w : World) (h : Lib.IsBuilderF 138 5 b b bs w) :
    Calls Tryz.prog 147 #[.pointer (some ⟨b, 0, none⟩)] w fun e w' => e = .returned (.tuple #[]) ∧ Lib.BuilderAtF 138 5 b b (.pointer (some ⟨b, 0, none⟩)) bs w' ∧ Below b w w' ∧ Lib.OthersKept 5 (some b) w w' := by
  rcases h with h | h
  · refine (bld_check_fresh b w h.cell0 h.shape h.frozen0).mono ?_
    rintro e w' ⟨rfl, rfl⟩
    exact ⟨rfl, h.used _, (Below.refl b w).setCell (p := ⟨b, 0, none⟩) h.1 _, (Lib.OthersKept.refl _ _ w).setCell ⟨b, 0, none⟩ rfl _⟩
  · refine (bld_check_used b w h.cell0).mono ?_
    rintro e w' ⟨rfl, rfl⟩
    exact ⟨rfl, h, Below.refl b _, Lib.OthersKept.refl _ _ _⟩

set_option maxHeartbeats 2000000 in
set_option maxRecDepth 100000 in
theorem bld_WriteString (b : Nat) (l : List UInt8) (s : ByteArray) (w : World) (h : Bld w b l) (hlen : l.length + s.size ≤ 140737488355328) :
    Calls Tryz.prog 111 #[.pointer (some ⟨b, 0, none⟩), .string s] w fun e w' => e = .returned (.tuple #[.int .i64 s.size, .nilIface]) ∧ Bld w' b (l ++ s.data.toList) ∧ Wrote b w w' := by
  obtain ⟨i0, hi, hz0, hz1, hz2⟩ := info_parts byte_info
  have hbl := h.lt
  have hbl' := Lib.byteCells_length l
  go_enter Tryz.func111, Tryz.ntmps111
  go_wp2_with (go_at_call 147; refine (bld_check b _ _ h).mono ?_)
  rintro e w1 ⟨rfl, h1, hb1, hk1⟩
  obtain ⟨hB, v, hbk, hown, hne⟩ := h1
  have c0 : w1.cell? ⟨b, 0, none⟩ = some (.pointer (some ⟨b, 0, none⟩)) := by rw [Lib.cell_of_heap hbk]; rfl
  have c1 : w1.cell? ⟨b, 1, none⟩ = some v := by rw [Lib.cell_of_heap hbk]; rfl
  have HL := Lib.hid hbl'; clear hbl'
  go_wp2_with (at_builtin; refine Lib.wpList_append_own_stringF _ rfl _ _ 112 9 rfl b 5 i0 Tryz.underlying112 Tryz.underlying9 hi hz0 hz1 hz2 _ _ _ rfl hown s rfl ?c3 ?c4 ?c5 ?_)
  case c3 => unfold maxLen; rw [HL.out]; omega
  case c4 => rw [HL.out]; omega
  case c5 => have := hb1.size; omega
  intro v' w2 hown' hgrow _
  have hlt : b < w1.heap.size := by
    rcases Nat.lt_or_ge b w1.heap.size with h' | h'
    · exact h'
    · simp [Array.getElem?_eq_none h'] at hbk
  have hb2 : w2.heap[b]? = some (.cells #[.pointer (some ⟨b, 0, none⟩), v] 138 (0, 0)) := by
    rw [hgrow.block b hlt (fun e => hne e.symm)]
    exact hbk
  have d0 : w2.cell? ⟨b, 0, none⟩ = some (.pointer (some ⟨b, 0, none⟩)) := by rw [Lib.cell_of_heap hb2]; rfl
  have d1 : w2.cell? ⟨b, 1, none⟩ = some v := by rw [Lib.cell_of_heap hb2]; rfl
  have f1 : w2.frozen? ⟨b, 1, none⟩ = false := Lib.frozen_of_heap hb2 1
  obtain ⟨ao, n', cap, rfl⟩ : ∃ ao n' cap, v' = .slice ao n' cap := by
    rcases hown'.2 with ⟨hv, _⟩ | ⟨g, cap, cur, fz, hv, _⟩
    · exact ⟨_, _, _, hv⟩
    · exact ⟨_, _, _, hv⟩
  go_wp2
  go_ret2
  refine ⟨rfl, ?_, ?_, (hk1.grown hgrow (Lib.ownsRowF_kind hown)).setCell ⟨b, 1, none⟩ rfl _⟩
  · rw [Bld, Lib.byteCells_append, ← Lib.strCells_eq]
    exact .inr (Lib.BuilderAtF.put (T := 138) (e := 5) hB hb2 (bs' := Lib.byteCells l ++ Lib.strCells s) (by simpa [Lib.strCells_length] using hown') (by decide))
  · exact (hb1.grown hgrow (by have := hb1.size; omega) (fun k hk => (hown.lt k hk).1)).setCell (p := ⟨b, 1, none⟩) hB _
theorem bld_String (b : Nat) (l : List UInt8) (w : World) (h : Bld w b l) :
    Calls Tryz.prog 114 #[.pointer (some ⟨b, 0, none⟩)] w fun e w' => e = .returned (.string ⟨l.toArray⟩) ∧ Bld w' b l ∧ Wrote b w w' :=
  (Tryz.Builder_String_any_k b b _ w h (Nat.le_of_lt h.lt)).mono fun _ _ h => ⟨h.1, h.2.1, h.2.2.1, h.2.2.2⟩
end Go.Proofs.Sm

namespace Go.Proofs.Sm
open Go.RowKit

theorem fr_wrote {a w w1 : World} {b : Nat} (h : Below a.heap.size a w) (hw : Wrote b w w1) (hb : a.heap.size ≤ b) : Below a.heap.size a w1 := h.trans (hw.1.mono hb)
theorem below_wrote {b : Nat} {a w w1 : World} (h : Below b a w) (hw : Wrote b w w1) : Below b a w1 := h.trans hw.1
theorem below_call {b : Nat} {a w w1 : World} (hlt : b ≤ a.heap.size) (h : Below b a w) (hb : Below w.heap.size w w1) : Below b a w1 := h.trans (hb.mono (Nat.le_trans hlt h.size))

end Go.Proofs.Sm

namespace Go.Proofs.Sm
open Go.RowKit

theorem join_any (A : Option Addr) (n c : Nat) (ws : List ByteArray) (w : World) (hsl : Sl w (Lt w.heap.size) A n ws) (hnc : n ≤ c) (hn : n ≤ 140737488355328) (hlen : (joinS ws).length ≤ 140737488355328) :
    Calls Tryz.prog 112 #[.slice A n c, .string ⟨#[32]⟩] w fun e w' => e = .returned (.string ⟨(joinS ws).toArray⟩) ∧ Below w.heap.size w w' := by
  have h1 := hsl.1
  by_cases h0 : n = 0
  · subst h0
    cases ws with
    | cons a l => simp at h1
    | nil => exact (Tryz.strings_Join_none A c ⟨#[32]⟩ w).mono fun _ _ h => ⟨h.1, below_eq h.2.symm⟩
  · obtain ⟨b, o, x, rfl, hb, _⟩ := hsl.str (k := 0) (by omega)
    subst h1
    exact (Tryz.strings_Join b o c ws ⟨#[32]⟩ w (fun j x hx => by
      have hj : j < ws.length := by
        rcases Nat.lt_or_ge j ws.length with h | h
        · exact h
        · rw [List.getElem?_eq_none h] at hx; cases hx
      obtain ⟨b', o', y, e, _, hy, _, c0⟩ := hsl.str hj
      cases e
      rw [hx] at hy; cases hy
      exact c0) hb hn hnc hlen).mono fun _ _ h => h
set_option maxHeartbeats 1000000 in
set_option maxRecDepth 100000 in
theorem act_text1 (g : Nat) (L : List UInt8) (A : Option Addr) (n c : Nat) (ws : List ByteArray) (w : World) (hB : Bld w g L) (hsl : Sl w (Lt w.heap.size) A n ws) (hnc : n ≤ c) (hn : n ≤ 140737488355328) (hlen : L.length + (joinS ws).length ≤ 10000000) :
    Calls Tryz.prog 110 #[.slice A n c, .pointer (some ⟨g, 0, none⟩)] w fun e w' => e = .returned (.tuple #[]) ∧ Bld w' g (L ++ lineW ws) ∧ Wrote g w w' := by
  have hgl := hB.lt
  obtain ⟨j, hj⟩ : ∃ j : ByteArray, j = ⟨(joinS ws).toArray⟩ := ⟨_, rfl⟩
  have hjs : j.size = (joinS ws).length := by rw [hj]; simp [ByteArray.size]
  have hjl : j.data.toList = joinS ws := by rw [hj]
  have HJ := Lib.hid (hj ▸ join_any A n c ws w hsl hnc hn (by omega) : Calls Tryz.prog 112 #[.slice A n c, .string ⟨#[32]⟩] w fun e w' => e = .returned (.string j) ∧ Below w.heap.size w w')
  clear hj
  have HL := Lib.hid hjl; clear hjl
  have q4 : (⟨#[10]⟩ : ByteArray).size = 1 := rfl
  obtain ⟨p, z, P, a⟩ := cat_op j ⟨#[10]⟩ (by omega)
  go_enter Tryz.func110, Tryz.ntmps110
  go_wp2_with fail
  refine HJ.out.mono ?_
  rintro e w1 ⟨rfl, hb1⟩
  have hB1 := hB.call hb1
  go_wp2_with (go_at_call 111; refine (bld_WriteString g L p _ hB1 (by omega)).mono ?_; rintro e w2 ⟨rfl, hB2, hw2⟩)
  first | go_end0 | refine bodyPost_ret (results_none rfl _ _ _) rfl ?_
  exact ⟨rfl, by rw [lineW, ← HL.out, ← show p.data.toList = j.data.toList ++ [10] from P.out]; exact hB2, (Wrote.of_below hb1 (Nat.le_of_lt hgl)).trans hw2⟩
end Go.Proofs.Sm

namespace Go.Proofs.Sm
open Go.RowKit

/-- a new row of strings -/
theorem row_new (w : World) (t : TypeId) (l : List ByteArray) (hl : l.length ≤ maxLen) (hs : ∀ x ∈ l, x.size ≤ maxLen) :
    Sl (w.alloc (.cells (l.map Value.string).toArray t)) (Lt (w.alloc (.cells (l.map Value.string).toArray t)).heap.size) (some ⟨w.heap.size, 0, none⟩) l.length l :=
  (Sl.new_strs hl hs).more (lt_mono (by simp))
theorem line_two (x y : ByteArray) : lineW [x, y] = x.data.toList ++ [32] ++ y.data.toList ++ [10] := by rw [lineW, joinS_two]
theorem line_three (x y z : ByteArray) : lineW [x, y, z] = x.data.toList ++ [32] ++ y.data.toList ++ [32] ++ z.data.toList ++ [10] := by rw [lineW, joinS_three]

theorem line_call2 (g : Nat) (L : List UInt8) (x y : ByteArray) (W : World) (hB : Bld W g L) (hx : x.size ≤ 20000) (hy : y.size ≤ 20000) (hlen : L.length ≤ 2000000) :
    Calls Tryz.prog 110 #[.slice (some ⟨W.heap.size, 0, none⟩) 2 2, .pointer (some ⟨g, 0, none⟩)] (W.alloc (.cells #[.string x, .string y] 9)) fun e w' => e = .returned (.tuple #[]) ∧ Bld w' g (L ++ (x.data.toList ++ [32] ++ y.data.toList ++ [10])) ∧ Wrote g W w' := by
  have hxs : x.data.toList.length = x.size := by simp
  have hys : y.data.toList.length = y.size := by simp
  have hl : (joinS [x, y]).length ≤ 50000 := by rw [joinS_two]; simp only [List.length_append, List.length_cons, List.length_nil, hxs, hys]; omega
  refine (act_text1 g L _ 2 2 [x, y] _ (hB.alloc _) (row_new W 9 [x, y] (by show 2 ≤ maxLen; decide) (by intro z hz; simp at hz; unfold maxLen; rcases hz with rfl | rfl <;> omega)) (Nat.le_refl _) (by decide) (by omega)).mono ?_
  rintro e w1 ⟨rfl, hB1, hw⟩
  rw [line_two] at hB1
  exact ⟨rfl, hB1, (Wrote.of_below ((Below.refl _ _).alloc (Nat.le_refl _) _) (Nat.le_of_lt hB.lt)).trans hw⟩
theorem line_call3 (g : Nat) (L : List UInt8) (x y z : ByteArray) (W : World) (hB : Bld W g L) (hx : x.size ≤ 20000) (hy : y.size ≤ 20000) (hz : z.size ≤ 20000) (hlen : L.length ≤ 2000000) :
    Calls Tryz.prog 110 #[.slice (some ⟨W.heap.size, 0, none⟩) 3 3, .pointer (some ⟨g, 0, none⟩)] (W.alloc (.cells #[.string x, .string y, .string z] 9)) fun e w' => e = .returned (.tuple #[]) ∧ Bld w' g (L ++ (x.data.toList ++ [32] ++ y.data.toList ++ [32] ++ z.data.toList ++ [10])) ∧ Wrote g W w' := by
  have hxs : x.data.toList.length = x.size := by simp
  have hys : y.data.toList.length = y.size := by simp
  have hzs : z.data.toList.length = z.size := by simp
  have hl : (joinS [x, y, z]).length ≤ 100000 := by rw [joinS_three]; simp only [List.length_append, List.length_cons, List.length_nil, hxs, hys, hzs]; omega
  refine (act_text1 g L _ 3 3 [x, y, z] _ (hB.alloc _) (row_new W 9 [x, y, z] (by show 3 ≤ maxLen; decide) (by intro u hu; simp at hu; unfold maxLen; rcases hu with rfl | rfl | rfl <;> omega)) (Nat.le_refl _) (by decide) (by omega)).mono ?_
  rintro e w1 ⟨rfl, hB1, hw⟩
  rw [line_three] at hB1
  exact ⟨rfl, hB1, (Wrote.of_below ((Below.refl _ _).alloc (Nat.le_refl _) _) (Nat.le_of_lt hB.lt)).trans hw⟩
theorem len_cons {l : List UInt8} {m : Nat} (h : l.length ≤ m) {l' : List UInt8} {m' : Nat} (h' : l'.length ≤ m') : (l ++ l').length ≤ m + m' := by rw [List.length_append]; omega

theorem ret_strL {l l' : List UInt8} (h : l = l') : Ending.returned (.string ⟨l.toArray⟩) = Ending.returned (.string ⟨l'.toArray⟩) := by rw [h]
set_option maxHeartbeats 4000000 in
set_option maxRecDepth 100000 in
theorem act_text (a : ActionV) (A : Option Addr) (n n' : Nat) (B : Option Addr) (m m' : Nat) (C : Option Addr) (p p' : Nat) (D : Option Addr) (q q' : Nat) (w : World) (hE : Env2 w) (ha : ActIs w a A n B m C p D q) (ok : ActOk a) :
    Calls Tryz.prog 74 #[actVal a A n n' B m m' C p p' D q q'] w fun e w' => e = .returned (.string ⟨(actTextL a).toArray⟩) ∧ Below w.heap.size w w' := by
  unfold actVal
  have hm1 : n ≤ 9223372036854775807 := ha.commands.2.1
  have hm2 : m ≤ 9223372036854775807 := ha.vars.2.1
  have hm3 : p ≤ 9223372036854775807 := ha.outputs.2.1
  have hm4 : q ≤ 9223372036854775807 := ha.needs.2.1
  have htl := ha.tool
  go_enter Tryz.func74, Tryz.ntmps74
  go_wp2_with fail
  have hB : Bld ((w.alloc (.cells #[.string a.tool, .slice A n n', .slice B m m', .slice C p p', .slice D q q', .int .i64 a.time] 49)).alloc (.cells #[.pointer none, .slice none 0 0] 138)) (w.heap.size + 1) [] := by
    have h := Bld.new (w.alloc (.cells #[.string a.tool, .slice A n n', .slice B m m', .slice C p p', .slice D q q', .int .i64 a.time] 49))
    rwa [show (w.alloc (.cells #[.string a.tool, .slice A n n', .slice B m m', .slice C p p', .slice D q q', .int .i64 a.time] 49)).heap.size = w.heap.size + 1 by simp] at h
  have hX : ((w.alloc (.cells #[.string a.tool, .slice A n n', .slice B m m', .slice C p p', .slice D q q', .int .i64 a.time] 49)).alloc (.cells #[.pointer none, .slice none 0 0] 138)).heap[w.heap.size]? = some (.cells #[.string a.tool, .slice A n n', .slice B m m', .slice C p p', .slice D q q', .int .i64 a.time] 49 (0, 0)) :=
    (Lib.alloc_old (w.alloc (.cells #[.string a.tool, .slice A n n', .slice B m m', .slice C p p', .slice D q q', .int .i64 a.time] 49)) _ _ (by simp)).trans (heap_alloc_new w _)
  have hbel2 : Below w.heap.size w ((w.alloc (.cells #[.string a.tool, .slice A n n', .slice B m m', .slice C p p', .slice D q q', .int .i64 a.time] 49)).alloc (.cells #[.pointer none, .slice none 0 0] 138)) := fr_alloc (fr_alloc (fr_refl w) _) _
  have hWg : ((w.alloc (.cells #[.string a.tool, .slice A n n', .slice B m m', .slice C p p', .slice D q q', .int .i64 a.time] 49)).alloc (.cells #[.pointer none, .slice none 0 0] 138)).heap.size = w.heap.size + 1 + 1 := by simp
  have hEn := (hE.alloc (.cells #[.string a.tool, .slice A n n', .slice B m m', .slice C p p', .slice D q q', .int .i64 a.time] 49)).alloc (.cells #[.pointer none, .slice none 0 0] 138)
  have hfc : Sl ((w.alloc (.cells #[.string a.tool, .slice A n n', .slice B m m', .slice C p p', .slice D q q', .int .i64 a.time] 49)).alloc (.cells #[.pointer none, .slice none 0 0] 138)) (Lt (w.heap.size + 1)) A n a.commands := (ha.commands.keep (keep_lt hbel2)).more (lt_mono (by omega))
  have hfv : Sl ((w.alloc (.cells #[.string a.tool, .slice A n n', .slice B m m', .slice C p p', .slice D q q', .int .i64 a.time] 49)).alloc (.cells #[.pointer none, .slice none 0 0] 138)) (Lt (w.heap.size + 1)) B m a.vars := (ha.vars.keep (keep_lt hbel2)).more (lt_mono (by omega))
  have hfo : Sl ((w.alloc (.cells #[.string a.tool, .slice A n n', .slice B m m', .slice C p p', .slice D q q', .int .i64 a.time] 49)).alloc (.cells #[.pointer none, .slice none 0 0] 138)) (Lt (w.heap.size + 1)) C p a.outputs := (ha.outputs.keep (keep_lt hbel2)).more (lt_mono (by omega))
  have hfn : Sl ((w.alloc (.cells #[.string a.tool, .slice A n n', .slice B m m', .slice C p p', .slice D q q', .int .i64 a.time] 49)).alloc (.cells #[.pointer none, .slice none 0 0] 138)) (Lt (w.heap.size + 1)) D q a.needs := (ha.needs.keep (keep_lt hbel2)).more (lt_mono (by omega))
  have hgw : w.heap.size ≤ w.heap.size + 1 := Nat.le_succ _
  have hz1 : w.heap.size < w.heap.size + 1 := Nat.lt_succ_self _
  rw [← hWg]
  generalize hg : w.heap.size + 1 = g at *
  have HG := Lib.hid hg; clear hg
  have hgl := hE.size
  generalize ((w.alloc (.cells #[.string a.tool, .slice A n n', .slice B m m', .slice C p p', .slice D q q', .int .i64 a.time] 49)).alloc (.cells #[.pointer none, .slice none 0 0] 138)) = W at *
  have HEn := Lib.hid (show ∀ w', Below g W w' → Env2 w' from fun w' h => hEn.of_heap h.size fun k hk => h.block k (Nat.lt_of_lt_of_le hk (Nat.le_trans hgl hgw)))
  have HX := Lib.hid hX; clear hX
  have htm := ok.time
  have htn : InInt a.time := ha.time
  refine (line_call2 g [] ⟨#[116, 111, 111, 108]⟩ a.tool W hB (by decide) (by have := ok.tool; omega) (by simp)).mono ?_
  rintro e w1 ⟨rfl, hB1, hw1⟩
  have hB2 : Bld w1 g (toolL a) := by
    have e : toolL a = [] ++ ([116, 111, 111, 108] ++ [32] ++ a.tool.data.toList ++ [10]) := by simp [toolL]
    rw [e]; exact hB1
  clear hB1 hB
  have hbr1 : Below g W w1 := hw1.1
  have hX1 : w1.cell? ⟨w.heap.size, 1, none⟩ = some (.slice A n n') := by rw [World.cell?, (hbr1.block _ hz1).trans HX.out]; rfl
  go_wp2
  go_loopw [6, 22] (fun _ i wr => ∃ k : Nat, k ≤ n ∧ i = .int .i64 k ∧ Bld wr g (toolL a ++ (a.commands.take k).flatMap cmdL) ∧ Below g W wr) (fun _ i _ => n - (intOf i).toNat)
  case atStart => exact ⟨0, Nat.zero_le _, rfl, by simpa using hB2, hbr1⟩
  case round =>
    clear hB2 hbr1 hX1 hw1
    obtain ⟨k, hk, rfl, hBr, hbr⟩ := hrel
    have hgr : g < wr.heap.size := hBr.lt
    have hlen : (toolL a ++ (a.commands.take k).flatMap cmdL).length ≤ 1000000 := by have := len_cons (toolL_length ok) (cmds_length ok k); omega
    by_cases hlt : k < n
    · obtain ⟨b, o, x, A', l', c', rfl, hb, hx, hlc, hcm, hsl', c0⟩ := (hfc.keep (keep_lt hbr)).row hlt
      have hbg : b < g := hb
      have hbw : b < wr.heap.size := by omega
      have hok := ok.words x (List.mem_of_getElem? hx)
      have hjl := cmdL_length hok
      have HX2 := Lib.hid hx; clear hx
      have hl1 := hsl'.1
      go_wp2_with fail
      refine (join_any _ _ _ x _ (hsl'.more (lt_mono (Nat.le_of_lt hgr))) hlc (by omega) (by omega)).mono ?_
      rintro e w2 ⟨rfl, hb2⟩
      have hBx := hBr.call hb2
      have hbx := below_call (show g ≤ W.heap.size by omega) hbr hb2
      go_wp2_with fail
      refine (line_call2 g _ ⟨#[100, 111]⟩ ⟨(joinS x).toArray⟩ w2 hBx (by decide) (by show (joinS x).toArray.size ≤ _; simp; omega) (by omega)).mono ?_
      rintro e w3 ⟨rfl, hB3, hw3⟩
      clear hl1 hjl hok
      go_wp2
      go_round
      case rel =>
        refine ⟨k + 1, by omega, by go_num, ?_, below_wrote hbx hw3⟩
        rw [flatMap_succ HX2.out, ← List.append_assoc, cmdL]
        exact hB3
      case measure => simp [intOf]; omega
    · have HF := Lib.hid (show a.commands.take k = a.commands from List.take_of_length_le (by rw [hfc.1]; omega))
      have hlen2 : (toolL a ++ a.commands.flatMap cmdL).length ≤ 1000000 := by rw [HF.out] at hlen; exact hlen
      rw [HF.out] at hBr
      have HLL := Lib.hid (show toolL a ++ a.commands.flatMap cmdL ++ a.vars.flatMap varL ++ a.outputs.flatMap outL ++ a.needs.flatMap needL ++ timeL a = actTextL a from rfl)
      generalize toolL a ++ a.commands.flatMap cmdL = L1 at *
      clear hlen
      have hX1 : wr.cell? ⟨w.heap.size, 2, none⟩ = some (.slice B m m') := by rw [World.cell?, (hbr.block _ hz1).trans HX.out]; rfl
      go_wp2
      go_loopw [8, 35] (fun _ i wr => ∃ k : Nat, k ≤ m ∧ i = .int .i64 k ∧ Bld wr g (L1 ++ (a.vars.take k).flatMap varL) ∧ Below g W wr) (fun _ i _ => m - (intOf i).toNat)
      case atStart => exact ⟨0, Nat.zero_le _, rfl, by simpa using hBr, hbr⟩
      case round =>
        clear hBr hbr hX1 hgr
        obtain ⟨k, hk, rfl, hBr, hbr⟩ := hrel
        have hgr : g < wr.heap.size := hBr.lt
        have hlen : (L1 ++ (a.vars.take k).flatMap varL).length ≤ 1100000 := by have := len_cons hlen2 (vars_length ok k); omega
        by_cases hlt : k < m
        · obtain ⟨b, o, x, rfl, hb, hx, hs1, hs2, c0, c1⟩ := (hfv.keep (keep_lt hbr)).var hlt
          have hbg : b < g := hb
          have hbw : b < wr.heap.size := by omega
          have hok := ok.var x (List.mem_of_getElem? hx)
          have HX2 := Lib.hid hx; clear hx
          go_wp2_with fail
          rw [show wr.heap.size + 1 = (wr.alloc (.cells #[.string x.name, .string x.value] 146)).heap.size by simp]
          refine (line_call3 g _ ⟨#[118, 97, 114]⟩ x.name x.value (wr.alloc (.cells #[.string x.name, .string x.value] 146)) (hBr.alloc _) (by decide) (by omega) (by omega) (by omega)).mono ?_
          rintro e w3 ⟨rfl, hB3, hw3⟩
          clear hok
          go_wp2
          go_round
          case rel =>
            refine ⟨k + 1, by omega, by go_num, ?_, below_wrote (hbr.alloc (Nat.le_of_lt hgr) _) hw3⟩
            rw [flatMap_succ HX2.out, ← List.append_assoc, varL]
            exact hB3
          case measure => simp [intOf]; omega
        · have HF := Lib.hid (show a.vars.take k = a.vars from List.take_of_length_le (by rw [hfv.1]; omega))
          have hlen3 : (L1 ++ a.vars.flatMap varL).length ≤ 1100000 := by rw [HF.out] at hlen; exact hlen
          clear hlen2
          have hlen2 := hlen3
          clear hlen3
          rw [HF.out] at hBr
          generalize L1 ++ a.vars.flatMap varL = L2 at *
          clear hlen
          have hX1 : wr.cell? ⟨w.heap.size, 3, none⟩ = some (.slice C p p') := by rw [World.cell?, (hbr.block _ hz1).trans HX.out]; rfl
          go_wp2
          go_loopw [10, 50] (fun _ i wr => ∃ k : Nat, k ≤ p ∧ i = .int .i64 k ∧ Bld wr g (L2 ++ (a.outputs.take k).flatMap outL) ∧ Below g W wr) (fun _ i _ => p - (intOf i).toNat)
          case atStart => exact ⟨0, Nat.zero_le _, rfl, by simpa using hBr, hbr⟩
          case round =>
            clear hBr hbr hX1 hgr
            obtain ⟨k, hk, rfl, hBr, hbr⟩ := hrel
            have hgr : g < wr.heap.size := hBr.lt
            have hlen : (L2 ++ (a.outputs.take k).flatMap outL).length ≤ 1200000 := by have := len_cons hlen2 (outs_length ok k); omega
            by_cases hlt : k < p
            · obtain ⟨b, o, x, rfl, hb, hx, hxs, c0⟩ := (hfo.keep (keep_lt hbr)).str hlt
              have hbg : b < g := hb
              have hbw : b < wr.heap.size := by omega
              have hok := ok.output x (List.mem_of_getElem? hx)
              have HX2 := Lib.hid hx; clear hx
              go_wp2_with fail
              refine (line_call2 g _ ⟨#[111, 117, 116]⟩ x wr hBr (by decide) (by omega) (by omega)).mono ?_
              rintro e w3 ⟨rfl, hB3, hw3⟩
              clear hok
              go_wp2
              go_round
              case rel =>
                refine ⟨k + 1, by omega, by go_num, ?_, below_wrote hbr hw3⟩
                rw [flatMap_succ HX2.out, ← List.append_assoc, outL]
                exact hB3
              case measure => simp [intOf]; omega
            · have HF := Lib.hid (show a.outputs.take k = a.outputs from List.take_of_length_le (by rw [hfo.1]; omega))
              have hlen3 : (L2 ++ a.outputs.flatMap outL).length ≤ 1200000 := by rw [HF.out] at hlen; exact hlen
              clear hlen2
              have hlen2 := hlen3
              clear hlen3
              rw [HF.out] at hBr
              generalize L2 ++ a.outputs.flatMap outL = L3 at *
              clear hlen
              have hX1 : wr.cell? ⟨w.heap.size, 4, none⟩ = some (.slice D q q') := by rw [World.cell?, (hbr.block _ hz1).trans HX.out]; rfl
              go_wp2
              go_loopw [12, 62] (fun _ i wr => ∃ k : Nat, k ≤ q ∧ i = .int .i64 k ∧ Bld wr g (L3 ++ (a.needs.take k).flatMap needL) ∧ Below g W wr) (fun _ i _ => q - (intOf i).toNat)
              case atStart => exact ⟨0, Nat.zero_le _, rfl, by simpa using hBr, hbr⟩
              case round =>
                clear hBr hbr hX1 hgr
                obtain ⟨k, hk, rfl, hBr, hbr⟩ := hrel
                have hgr : g < wr.heap.size := hBr.lt
                have hlen : (L3 ++ (a.needs.take k).flatMap needL).length ≤ 1300000 := by have := len_cons hlen2 (needs_length ok k); omega
                by_cases hlt : k < q
                · obtain ⟨b, o, x, rfl, hb, hx, hs1, hs2, c0, c1⟩ := (hfn.keep (keep_lt hbr)).var hlt
                  have hbg : b < g := hb
                  have hbw : b < wr.heap.size := by omega
                  have hok := ok.need x (List.mem_of_getElem? hx)
                  have HX2 := Lib.hid hx; clear hx
                  go_wp2_with fail
                  rw [show wr.heap.size + 1 = (wr.alloc (.cells #[.string x.name, .string x.value] 146)).heap.size by simp]
                  refine (line_call3 g _ ⟨#[110, 101, 101, 100]⟩ x.name x.value (wr.alloc (.cells #[.string x.name, .string x.value] 146)) (hBr.alloc _) (by decide) (by omega) (by omega) (by omega)).mono ?_
                  rintro e w3 ⟨rfl, hB3, hw3⟩
                  clear hok
                  go_wp2
                  go_round
                  case rel =>
                    refine ⟨k + 1, by omega, by go_num, ?_, below_wrote (hbr.alloc (Nat.le_of_lt hgr) _) hw3⟩
                    rw [flatMap_succ HX2.out, ← List.append_assoc, needL]
                    exact hB3
                  case measure => simp [intOf]; omega
                · have HF := Lib.hid (show a.needs.take k = a.needs from List.take_of_length_le (by rw [hfn.1]; omega))
                  have hlen3 : (L3 ++ a.needs.flatMap needL).length ≤ 1300000 := by rw [HF.out] at hlen; exact hlen
                  clear hlen2
                  have hlen2 := hlen3
                  clear hlen3
                  rw [HF.out] at hBr
                  generalize L3 ++ a.needs.flatMap needL = L4 at *
                  clear hlen
                  have hX1 : wr.cell? ⟨w.heap.size, 5, none⟩ = some (.int .i64 a.time) := by rw [World.cell?, (hbr.block _ hz1).trans HX.out]; rfl
                  obtain ⟨s1, k1, E1, C1⟩ := itoa_op a.time htn
                  have HEr := HEn.out _ hbr
                  go_wp2_with fail
                  refine (C1.out _ HEr).mono ?_
                  rintro e w2 ⟨rfl, hb2⟩
                  have hBx := hBr.call hb2
                  have hbx := below_call (show g ≤ W.heap.size by omega) hbr hb2
                  go_wp2_with fail
                  refine (line_call2 g _ ⟨#[116, 105, 109, 101]⟩ s1 w2 hBx (by decide) (by omega) (by omega)).mono ?_
                  rintro e w3 ⟨rfl, hB3, hw3⟩
                  go_wp2_with fail
                  refine (bld_String g _ _ hB3).mono ?_
                  rintro e w4 ⟨rfl, hB4, hw4⟩
                  go_wp2
                  go_ret
                  exact ⟨ret_strL (by rw [← HLL.out, timeL, ← E1.out]; rfl), hbel2.trans (((below_wrote hbx hw3).trans hw4.1).mono hgw)⟩
end Go.Proofs.Sm
