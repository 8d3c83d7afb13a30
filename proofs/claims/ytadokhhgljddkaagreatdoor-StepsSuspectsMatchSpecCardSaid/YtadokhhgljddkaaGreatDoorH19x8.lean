/- Walks: the pairs of rules, by the reference. -/
import Derived.Test.YtadokhhgljddkaaGreatDoorH19x7
import Derived.Test.YtadokhhgljddkaaGreatDoorH19x5
import Derived.Test.YtadokhhgljddkaaGreatDoorH19x3
import Derived.StillTailTactics
import Derived.Deep.RegionHeld3
import Derived.WalkSpells
import Derived.StillTactics
import Derived.Laws.Pointers
namespace Go.Proofs.Sm
open Go.RowKit

theorem tg_start (w : World) : Tg ((((((w.alloc (.cells #[.map none, .map none, .map none, .map none] 85)).alloc (.map #[] 0)).alloc (.map #[] 0)).alloc (.map #[] 0)).alloc (.map #[] 0)).alloc (.cells #[.map (some (w.heap.size + 1)), .map (some (w.heap.size + 1 + 1)), .map (some (w.heap.size + 1 + 1 + 1)), .map (some (w.heap.size + 1 + 1 + 1 + 1))] 85))
    ⟨w.heap.size, w.heap.size + 1, w.heap.size + 1 + 1, w.heap.size + 1 + 1 + 1, w.heap.size + 1 + 1 + 1 + 1, w.heap.size + 1 + 1 + 1 + 1 + 1⟩ 0 [] [] [] [] := by
  generalize h0 : w.alloc (.cells #[.map none, .map none, .map none, .map none] 85) = W0
  have z0 : W0.heap.size = w.heap.size + 1 := by rw [← h0]; simp
  have r0 : Arr W0 w.heap.size 85 [.map none, .map none, .map none, .map none] := by rw [← h0]; exact heap_alloc_new w _
  clear h0
  have m0 : MapIs Tryz.prog 9 (W0.alloc (.map #[] 0)) (w.heap.size + 1) 0 (setOf []) := by
    have := (MapIs.made (P := Tryz.prog) (k := 9) W0).congr (g := setOf []) fun key => by simp [setOf]
    rwa [z0] at this
  have r1 := r0.call (fr_alloc (fr_refl W0) (.map #[] 0))
  generalize h1 : W0.alloc (.map #[] 0) = W1 at m0 r1 ⊢
  have z1 : W1.heap.size = w.heap.size + 1 + 1 := by rw [← h1, World.size_alloc, z0]
  clear h1 r0
  have m1 : MapIs Tryz.prog 9 (W1.alloc (.map #[] 0)) (w.heap.size + 1 + 1) 0 (setOf []) := by
    have := (MapIs.made (P := Tryz.prog) (k := 9) W1).congr (g := setOf []) fun key => by simp [setOf]
    rwa [z1] at this
  have r2 := r1.call (fr_alloc (fr_refl W1) (.map #[] 0))
  have m0' := m0.alloc (.map #[] 0)
  generalize h2 : W1.alloc (.map #[] 0) = W2 at m1 m0' r2 ⊢
  have z2 : W2.heap.size = w.heap.size + 1 + 1 + 1 := by rw [← h2, World.size_alloc, z1]
  clear h2 r1 m0
  have m2 : MapIs Tryz.prog 9 (W2.alloc (.map #[] 0)) (w.heap.size + 1 + 1 + 1) 0 (setOf []) := by
    have := (MapIs.made (P := Tryz.prog) (k := 9) W2).congr (g := setOf []) fun key => by simp [setOf]
    rwa [z2] at this
  have r3 := r2.call (fr_alloc (fr_refl W2) (.map #[] 0))
  have m0'' := m0'.alloc (.map #[] 0)
  have m1' := m1.alloc (.map #[] 0)
  generalize h3 : W2.alloc (.map #[] 0) = W3 at m2 m0'' m1' r3 ⊢
  have z3 : W3.heap.size = w.heap.size + 1 + 1 + 1 + 1 := by rw [← h3, World.size_alloc, z2]
  clear h3 r2 m0' m1
  have m3 : MapIs Tryz.prog 9 (W3.alloc (.map #[] 0)) (w.heap.size + 1 + 1 + 1 + 1) 0 (setOf []) := by
    have := (MapIs.made (P := Tryz.prog) (k := 9) W3).congr (g := setOf []) fun key => by simp [setOf]
    rwa [z3] at this
  have r4 := r3.call (fr_alloc (fr_refl W3) (.map #[] 0))
  have m0 := m0''.alloc (.map #[] 0)
  have m1 := m1'.alloc (.map #[] 0)
  have m2' := m2.alloc (.map #[] 0)
  generalize h4 : W3.alloc (.map #[] 0) = W4 at m3 m0 m1 m2' r4 ⊢
  have z4 : W4.heap.size = w.heap.size + 1 + 1 + 1 + 1 + 1 := by rw [← h4, World.size_alloc, z3]
  clear h4
  refine ⟨by simp only; omega, ?_, r4.call (fr_alloc (fr_refl W4) _), m0.alloc _, m1.alloc _, m2'.alloc _, m3.alloc _⟩
  have := heap_alloc_new W4 (.cells #[.map (some (w.heap.size + 1)), .map (some (w.heap.size + 1 + 1)), .map (some (w.heap.size + 1 + 1 + 1)), .map (some (w.heap.size + 1 + 1 + 1 + 1))] 85)
  rw [z4] at this
  exact this
theorem bnd_all {n nn : Nat} (h : nn ≤ n * 2000000) (hn : n ≤ 500) : nn ≤ 1000000000 := Nat.le_trans h (Nat.mul_le_mul_right 2000000 hn)
theorem bnd_next {b t u mm k : Nat} (h : mm ≤ b + t * 1000 + 1 + u) (hu : u ≤ k) (hk : k ≤ 200) : mm ≤ b + (t + 1) * 1000 := by
  rw [Nat.succ_mul]; omega
theorem bnd_zero {b nn : Nat} (h : nn ≤ b) : nn ≤ b + 0 * 1000 := by rw [Nat.zero_mul]; exact h
theorem bnd_half {b t n nn : Nat} (h : nn ≤ b + t * 1000) (ht : t ≤ n) (hn : n ≤ 200) : nn ≤ b + 200000 + 0 * 1000 := by
  rw [Nat.zero_mul]; omega
set_option maxHeartbeats 0 in
set_option maxRecDepth 100000 in
theorem steps_tangleOf (A : Option Addr) (n c : Nat) (l : List RuleV) (w : World) (hsl : Sl w (Lt w.heap.size) A n l) (hok : RulesOk l) :
    Calls Tryz.prog 44 #[.slice A n c] w fun e w' => ∃ (T : TgB) (nn : Nat), w.heap.size ≤ T.q ∧ T.q < T.m0 ∧ T.m0 < T.m1 ∧ T.m1 < T.m3 ∧ e = .returned (.agg #[.map (some T.m0), .map (some T.m1), .map (some T.m2), .map (some T.m3)]) ∧ nn ≤ 1000000000 ∧
      MapIs Tryz.prog 9 w' T.m0 nn (setOf (outK l n)) ∧ MapIs Tryz.prog 9 w' T.m1 nn (setOf (inK l n)) ∧ MapIs Tryz.prog 9 w' T.m3 nn (setOf (inOK l n)) ∧ Below w.heap.size w w' := by
  have hm : n ≤ 9223372036854775807 := hsl.2.1
  have hng : l.length = n := hsl.1
  have hn5 := hok.many
  have hmm := @run_makeMap Tryz.prog
  obtain ⟨T, hTe⟩ : ∃ T : TgB, T = ⟨w.heap.size, w.heap.size + 1, w.heap.size + 1 + 1, w.heap.size + 1 + 1 + 1, w.heap.size + 1 + 1 + 1 + 1, w.heap.size + 1 + 1 + 1 + 1 + 1⟩ := ⟨_, rfl⟩
  have HT0 := Lib.hid (tg_start w)
  rw [← hTe] at HT0
  have E5 := Lib.hid (show w.heap.size + 1 + 1 + 1 + 1 + 1 = T.gt by rw [hTe])
  have E4 := Lib.hid (show w.heap.size + 1 + 1 + 1 + 1 = T.m3 by rw [hTe])
  have E3 := Lib.hid (show w.heap.size + 1 + 1 + 1 = T.m2 by rw [hTe])
  have E2 := Lib.hid (show w.heap.size + 1 + 1 = T.m1 by rw [hTe])
  have E1 := Lib.hid (show w.heap.size + 1 = T.m0 by rw [hTe])
  have E0 := Lib.hid (show w.heap.size = T.q by rw [hTe])
  clear hTe
  have HB0 := Lib.hid (show Below w.heap.size w _ from fr_alloc (fr_alloc (fr_alloc (fr_alloc (fr_alloc (fr_alloc (fr_refl w) (.cells #[.map none, .map none, .map none, .map none] 85)) (.map #[] 0)) (.map #[] 0)) (.map #[] 0)) (.map #[] 0)) (.cells #[.map (some (w.heap.size + 1)), .map (some (w.heap.size + 1 + 1)), .map (some (w.heap.size + 1 + 1 + 1)), .map (some (w.heap.size + 1 + 1 + 1 + 1))] 85))
  rw [E0.out] at hsl ⊢
  go_enter Tryz.func44, Tryz.ntmps44
  go_wp2_with fail
  have hT := HT0.out
  have hB := HB0.out
  clear HT0 HB0
  generalize ((((((w.alloc (.cells #[.map none, .map none, .map none, .map none] 85)).alloc (.map #[] 0)).alloc (.map #[] 0)).alloc (.map #[] 0)).alloc (.map #[] 0)).alloc (.cells #[.map (some (w.heap.size + 1)), .map (some (w.heap.size + 1 + 1)), .map (some (w.heap.size + 1 + 1 + 1)), .map (some (w.heap.size + 1 + 1 + 1 + 1))] 85)) = W at hT hB ⊢
  rw [E5.out, E4.out, E3.out, E2.out, E1.out, E0.out]
  rw [E0.out] at hB
  clear E0 E1 E2 E3 E4 E5
  obtain ⟨q, hq⟩ : ∃ q, q = T.q := ⟨_, rfl⟩
  have hqT : q ≤ T.q := by omega
  rw [← hq] at hsl hB
  go_loopw [21] (fun iv wx => ∃ i nn : Nat, i ≤ n ∧ iv = .int .i64 i ∧ nn ≤ i * 2000000 ∧ Tg wx T nn (outK l i) (inK l i) (outOK l i) (inOK l i) ∧ Below q w wx) (fun iv _ => n - (intOf iv).toNat)
  case atStart => exact ⟨0, 0, Nat.zero_le _, rfl, Nat.zero_le _, hT, hB⟩
  case round =>
    clear hT hB
    obtain ⟨i, nn, hi, rfl, hnn, hT, hbel⟩ := hrel
    have hltq := hT.lts
    have hgl := hT.t.lt
    by_cases hlt : i < n
    · have hiI : (i : Int) < (n : Int) := by omega
      obtain ⟨b, o, x, rfl, hbq, hx, A1, n1, c1, A2, n2, c2, A3, n3, c3, A4, n4, c4, A5, n5, c5, _, _, ⟨_, _, s3, _, s5⟩, q0, q1, q2, q3, q4, q5, q6, q7⟩ := hsl.rule hlt
      rw [← outsAt_some hx] at s3
      rw [← insAt_some hx] at s5
      have hn3 : (outsAt l i).length = n3 := s3.1
      have hn5' : (insAt l i).length = n5 := s5.1
      have hm3 : n3 ≤ 9223372036854775807 := s3.2.1
      have hm5 : n5 ≤ 9223372036854775807 := s5.2.1
      have ho1 := (hok.outs i).1
      have ho2 := (hok.ins i).1
      have cell : ∀ {j v}, w.cell? ⟨b, o + i * 8 + j, none⟩ = some v → wr.cell? ⟨b, o + i * 8 + j, none⟩ = some v := fun h => (hbel.cell (p := ⟨b, _, none⟩) hbq).trans h
      have p0 := cell (j := 0) q0
      have p1 := cell q1
      have p2 := cell q2
      have p3 := cell q3
      have p4 := cell q4
      have p5 := cell q5
      have p6 := cell q6
      have p7 := cell q7
      clear q0 q1 q2 q3 q4 q5 q6 q7 hx cell
      rw [Nat.add_zero] at p0
      obtain ⟨g5, hg5⟩ : ∃ g, g = wr.heap.size := ⟨_, rfl⟩
      have hbx : Below wr.heap.size wr (wr.alloc (.cells #[.string x.name, .string x.action.tool, .slice A1 n1 c1, .slice A2 n2 c2, .slice A3 n3 c3, .slice A4 n4 c4, .int .i64 x.action.time, .slice A5 n5 c5] 51)) := fr_alloc (fr_refl wr) _
      obtain ⟨R, hR⟩ : ∃ R, R = ruleCells x A1 n1 c1 A2 n2 c2 A3 n3 c3 A4 n4 c4 A5 n5 c5 := ⟨_, rfl⟩
      have hX : Arr (wr.alloc (.cells #[.string x.name, .string x.action.tool, .slice A1 n1 c1, .slice A2 n2 c2, .slice A3 n3 c3, .slice A4 n4 c4, .int .i64 x.action.time, .slice A5 n5 c5] 51)) wr.heap.size 51 R := by rw [hR]; exact heap_alloc_new wr _
      have hT1 := hT.call hbx
      have hb1 := hbel.trans (hbx.mono (by omega : q ≤ _))
      rw [← hg5] at hX
      have hg5T : T.gt < g5 := by omega
      have HT := Lib.hid hT1
      have HB5 := Lib.hid hX
      have q4 := hX.cell (i := 4) (by rw [hR]; rfl)
      clear hT hT1 hX hbel hbx
      have hbel := hb1
      clear hb1
      go_wp2_with fail
      rw [← hg5]
      clear hg5 p0 p1 p2 p3 p4 p5 p6 p7
      go_loopw [29] (fun iv wx => ∃ t nn : Nat, t ≤ (outsAt l i).length ∧ iv = .int .i64 t ∧ nn ≤ i * 2000000 + t * 1000 ∧ Tg wx T nn (outK l i ++ dataOf ((outsAt l i).take t)) (inK l i) (outOK l i ++ (overOf ((outsAt l i).take t))) (inOK l i) ∧ Arr wx g5 51 R ∧ Below q w wx) (fun iv _ => (outsAt l i).length - (intOf iv).toNat)
      case atStart => exact ⟨0, nn, Nat.zero_le _, rfl, bnd_zero hnn, by simpa [dataOf, overOf] using HT.out, HB5.out, hbel⟩
      case round =>
        clear hbel HT HB5
        obtain ⟨t, nn, ht, rfl, hnn, hT, hB5, hbel⟩ := hrel
        have hgl := hT.t.lt
        have hgl5 := hB5.lt
        have hltq := hT.lts
        by_cases htn : t < n3
        · obtain ⟨b1, o1, p, rfl, _, hp, hps, cp⟩ := ((s3).keep (keep_lt hbel)).str htn
          have HP := Lib.hid hp
          have hpz := hok.outSize (List.mem_of_getElem? hp)
          clear hp
          have htI : (t : Int) < (n3 : Int) := by omega
          have ct : wr.cell? ⟨T.gt, 0, none⟩ = some (.map (some T.m0)) := hT.t.cell rfl
          go_wp2_with (at_mapUpdate; refine wpList_mapUpdate_is _ rfl _ _ _ 39 rfl Tryz.underlying9 Tryz.underlying39 rfl hT.m0 (by unfold maxLen; omega) p hps (.bool true) rfl rfl ?_; intro w2 hmap2 hg2)
          have hT2 := hT.put0 hmap2 hg2
          have hB2 := hB5.grown hg2 (by rw [ne_eq, Option.some.injEq]; omega)
          have hb2 := hbel.grown hg2 (by omega) fun k hk => by cases hk; omega
          rw [List.append_assoc, ← dataOf_more HP.out] at hT2
          clear hmap2 hg2 hT hB5 hbel
          go_wp2_with fail
          refine (steps_above p w2 (by omega)).mono ?_
          rintro e w3 ⟨A6, c6, rfl, h61, h62, hab, hb3⟩
          have hT3 := hT2.call hb3
          have hB3 := hB2.call hb3
          have hgl3 := hB2.lt
          have hgt3 := hT2.t.lt
          have hb4 := hb2.trans (hb3.mono (by omega : q ≤ _))
          have hal := aboveS_le p
          have HT3 := Lib.hid hT3
          have HB3 := Lib.hid hB3
          have hz3 := hb3.size
          clear hT2 hB2 hT3 hB3 hb3 hb2
          go_wp2
          go_loopw [39] (fun jv wy => ∃ u mm : Nat, u ≤ (aboveS p).length ∧ jv = .int .i64 u ∧ mm ≤ i * 2000000 + t * 1000 + 1 + u ∧ Tg wy T mm (outK l i ++ dataOf ((outsAt l i).take (t + 1))) (inK l i) (outOK l i ++ (overOf ((outsAt l i).take t) ++ dataOf ((aboveS p).take u))) (inOK l i) ∧ Arr wy g5 51 R ∧ (∀ k, w2.heap.size ≤ k → k < w3.heap.size → wy.heap[k]? = w3.heap[k]?) ∧ w3.heap.size ≤ wy.heap.size ∧ Below q w wy) (fun jv _ => (aboveS p).length - (intOf jv).toNat)
          case atStart => exact ⟨0, nn + 1, Nat.zero_le _, rfl, by omega, by simpa [dataOf] using HT3.out, HB3.out, fun _ _ _ => rfl, Nat.le_refl _, hb4⟩
          case round =>
            clear hb4 HT3 HB3 ct cp
            obtain ⟨u, mm, hu, rfl, hmm, hT, hB5, hkp, hsz, hbel⟩ := hrel
            have HK := Lib.hid hkp; clear hkp
            by_cases hun : u < (aboveS p).length
            · obtain ⟨b2, o2, z, rfl, _, hz0, hzs, cz⟩ := (hab.keep (w' := wr) fun k hk => HK.out k hk.1 hk.2).str hun
              have HZ := Lib.hid hz0; clear hz0
              have huI : (u : Int) < ((aboveS p).length : Int) := by omega
              have ct : wr.cell? ⟨T.gt, 2, none⟩ = some (.map (some T.m2)) := hT.t.cell rfl
              have hgl := hT.t.lt
              go_wp2_with (at_mapUpdate; refine wpList_mapUpdate_is _ rfl _ _ _ 39 rfl Tryz.underlying9 Tryz.underlying39 rfl hT.m2 (by unfold maxLen; omega) z hzs (.bool true) rfl rfl ?_; intro w7 hmap7 hg7)
              have hT7 := hT.put2 hmap7 hg7
              have hB7 := hB5.grown hg7 (by rw [ne_eq, Option.some.injEq]; omega)
              have hb7 := hbel.grown hg7 (by omega) fun k hk => by cases hk; omega
              have HK7 := Lib.hid (show ∀ k, w2.heap.size ≤ k → k < w3.heap.size → w7.heap[k]? = w3.heap[k]? from fun k h1 h2 => (hg7.block k (by omega) fun e => by cases e; omega).trans (HK.out k h1 h2))
              have hs7 : w3.heap.size ≤ w7.heap.size := Nat.le_trans hsz hg7.size
              rw [List.append_assoc, List.append_assoc, ← dataOf_more HZ.out] at hT7
              have HT7 := Lib.hid hT7
              clear hmap7 hg7 hT hB5 hbel hT7
              go_wp2
              go_roundw
              case rel => exact ⟨u + 1, mm + 1, by omega, by go_num, by omega, by simpa only [List.append_assoc] using HT7.out, hB7, HK7.out, hs7, hb7⟩
              case measure => simp [intOf]; omega
            · rw [List.take_of_length_le (by omega : (aboveS p).length ≤ u), ← overOf_more HP.out] at hT
              have HT4 := Lib.hid hT; clear hT
              go_wp2
              go_roundw
              case rel => exact ⟨t + 1, mm, by omega, by go_num, bnd_next hmm hu (Nat.le_trans hal hpz), HT4.out, hB5, hbel⟩
              case measure => simp [intOf]; omega
        · rw [List.take_of_length_le (by omega : (outsAt l i).length ≤ t)] at hT
          have hT9 : Tg wr T nn (outK l (i + 1)) (inK l i) (outOK l (i + 1)) (inOK l i) := by
            rw [show outK l (i + 1) = outK l i ++ dataOf (outsAt l i) from range_flat _ i, show outOK l (i + 1) = outOK l i ++ overOf (outsAt l i) from range_flat _ i]
            exact hT
          have HT := Lib.hid hT9
          have q7 := hB5.cell (i := 7) (by rw [hR]; rfl)
          have HB5 := Lib.hid hB5
          clear hT hT9 hB5
          go_wp2
          go_loopw [51] (fun iv wx => ∃ t nn : Nat, t ≤ (insAt l i).length ∧ iv = .int .i64 t ∧ nn ≤ i * 2000000 + 200000 + t * 1000 ∧ Tg wx T nn (outK l (i + 1)) (inK l i ++ dataOf ((insAt l i).take t)) (outOK l (i + 1)) (inOK l i ++ (overOf ((insAt l i).take t))) ∧ Arr wx g5 51 R ∧ Below q w wx) (fun iv _ => (insAt l i).length - (intOf iv).toNat)
          case atStart => exact ⟨0, nn, Nat.zero_le _, rfl, bnd_half hnn ht (Nat.le_trans ho1 (by decide)), by simpa [dataOf, overOf] using HT.out, HB5.out, hbel⟩
          case round =>
            clear hbel HT HB5
            obtain ⟨t, nn, ht, rfl, hnn, hT, hB5, hbel⟩ := hrel
            have hgl := hT.t.lt
            have hgl5 := hB5.lt
            have hltq := hT.lts
            by_cases htn : t < n5
            · obtain ⟨b1, o1, p, rfl, _, hp, hps, cp⟩ := ((s5).keep (keep_lt hbel)).str htn
              have HP := Lib.hid hp
              have hpz := hok.inSize (List.mem_of_getElem? hp)
              clear hp
              have htI : (t : Int) < (n5 : Int) := by omega
              have ct : wr.cell? ⟨T.gt, 1, none⟩ = some (.map (some T.m1)) := hT.t.cell rfl
              go_wp2_with (at_mapUpdate; refine wpList_mapUpdate_is _ rfl _ _ _ 39 rfl Tryz.underlying9 Tryz.underlying39 rfl hT.m1 (by unfold maxLen; omega) p hps (.bool true) rfl rfl ?_; intro w2 hmap2 hg2)
              have hT2 := hT.put1 hmap2 hg2
              have hB2 := hB5.grown hg2 (by rw [ne_eq, Option.some.injEq]; omega)
              have hb2 := hbel.grown hg2 (by omega) fun k hk => by cases hk; omega
              rw [List.append_assoc, ← dataOf_more HP.out] at hT2
              clear hmap2 hg2 hT hB5 hbel
              go_wp2_with fail
              refine (steps_above p w2 (by omega)).mono ?_
              rintro e w3 ⟨A6, c6, rfl, h61, h62, hab, hb3⟩
              have hT3 := hT2.call hb3
              have hB3 := hB2.call hb3
              have hgl3 := hB2.lt
              have hgt3 := hT2.t.lt
              have hb4 := hb2.trans (hb3.mono (by omega : q ≤ _))
              have hal := aboveS_le p
              have HT3 := Lib.hid hT3
              have HB3 := Lib.hid hB3
              have hz3 := hb3.size
              clear hT2 hB2 hT3 hB3 hb3 hb2
              go_wp2
              go_loopw [61] (fun jv wy => ∃ u mm : Nat, u ≤ (aboveS p).length ∧ jv = .int .i64 u ∧ mm ≤ i * 2000000 + 200000 + t * 1000 + 1 + u ∧ Tg wy T mm (outK l (i + 1)) (inK l i ++ dataOf ((insAt l i).take (t + 1))) (outOK l (i + 1)) (inOK l i ++ (overOf ((insAt l i).take t) ++ dataOf ((aboveS p).take u))) ∧ Arr wy g5 51 R ∧ (∀ k, w2.heap.size ≤ k → k < w3.heap.size → wy.heap[k]? = w3.heap[k]?) ∧ w3.heap.size ≤ wy.heap.size ∧ Below q w wy) (fun jv _ => (aboveS p).length - (intOf jv).toNat)
              case atStart => exact ⟨0, nn + 1, Nat.zero_le _, rfl, by omega, by simpa [dataOf] using HT3.out, HB3.out, fun _ _ _ => rfl, Nat.le_refl _, hb4⟩
              case round =>
                clear hb4 HT3 HB3 ct cp
                obtain ⟨u, mm, hu, rfl, hmm, hT, hB5, hkp, hsz, hbel⟩ := hrel
                have HK := Lib.hid hkp; clear hkp
                by_cases hun : u < (aboveS p).length
                · obtain ⟨b2, o2, z, rfl, _, hz0, hzs, cz⟩ := (hab.keep (w' := wr) fun k hk => HK.out k hk.1 hk.2).str hun
                  have HZ := Lib.hid hz0; clear hz0
                  have huI : (u : Int) < ((aboveS p).length : Int) := by omega
                  have ct : wr.cell? ⟨T.gt, 3, none⟩ = some (.map (some T.m3)) := hT.t.cell rfl
                  have hgl := hT.t.lt
                  go_wp2_with (at_mapUpdate; refine wpList_mapUpdate_is _ rfl _ _ _ 39 rfl Tryz.underlying9 Tryz.underlying39 rfl hT.m3 (by unfold maxLen; omega) z hzs (.bool true) rfl rfl ?_; intro w7 hmap7 hg7)
                  have hT7 := hT.put3 hmap7 hg7
                  have hB7 := hB5.grown hg7 (by rw [ne_eq, Option.some.injEq]; omega)
                  have hb7 := hbel.grown hg7 (by omega) fun k hk => by cases hk; omega
                  have HK7 := Lib.hid (show ∀ k, w2.heap.size ≤ k → k < w3.heap.size → w7.heap[k]? = w3.heap[k]? from fun k h1 h2 => (hg7.block k (by omega) fun e => by cases e; omega).trans (HK.out k h1 h2))
                  have hs7 : w3.heap.size ≤ w7.heap.size := Nat.le_trans hsz hg7.size
                  rw [List.append_assoc, List.append_assoc, ← dataOf_more HZ.out] at hT7
                  have HT7 := Lib.hid hT7
                  clear hmap7 hg7 hT hB5 hbel hT7
                  go_wp2
                  go_roundw
                  case rel => exact ⟨u + 1, mm + 1, by omega, by go_num, by omega, by simpa only [List.append_assoc] using HT7.out, hB7, HK7.out, hs7, hb7⟩
                  case measure => simp [intOf]; omega
                · rw [List.take_of_length_le (by omega : (aboveS p).length ≤ u), ← overOf_more HP.out] at hT
                  have HT4 := Lib.hid hT; clear hT
                  go_wp2
                  go_roundw
                  case rel => exact ⟨t + 1, mm, by omega, by go_num, bnd_next hmm hu (Nat.le_trans hal hpz), HT4.out, hB5, hbel⟩
                  case measure => simp [intOf]; omega
            · rw [List.take_of_length_le (by omega : (insAt l i).length ≤ t)] at hT
              have hT9 : Tg wr T nn (outK l (i + 1)) (inK l (i + 1)) (outOK l (i + 1)) (inOK l (i + 1)) := by
                rw [show inK l (i + 1) = inK l i ++ dataOf (insAt l i) from range_flat _ i, show inOK l (i + 1) = inOK l i ++ overOf (insAt l i) from range_flat _ i]
                exact hT
              have HT9 := Lib.hid hT9
              clear hT hT9
              go_wp2
              go_roundw
              case rel => exact ⟨i + 1, nn, by omega, by go_num, by omega, HT9.out, hbel⟩
              case measure => simp [intOf]; omega
    · have hin : i = n := by omega
      rw [hin] at hT hnn
      have t0 := hT.t.cell (i := 0) rfl
      have t1 := hT.t.cell (i := 1) rfl
      have t2 := hT.t.cell (i := 2) rfl
      have t3 := hT.t.cell (i := 3) rfl
      have R0 := hT.r
      have R1 := R0.set 0 (.map (some T.m0))
      have R2 := R1.set 1 (.map (some T.m1))
      have R3 := R2.set 2 (.map (some T.m2))
      have R4 := R3.set 3 (.map (some T.m3))
      have a0 := R0.cell (i := 0) rfl
      have a1 := R1.cell (i := 1) rfl
      have a2 := R2.cell (i := 2) rfl
      have a3 := R3.cell (i := 3) rfl
      have g0 := R0.frozen 0
      have g1 := R1.frozen 1
      have g2 := R2.frozen 2
      have g3 := R3.frozen 3
      have b0 := R4.cell (i := 0) rfl
      have b1 := R4.cell (i := 1) rfl
      have b2 := R4.cell (i := 2) rfl
      have b3 := R4.cell (i := 3) rfl
      have HT := Lib.hid hT
      have HBT := Lib.hid (show Below T.q w wr by rw [← hq]; exact hbel)
      clear hT R0 R1 R2 R3 R4 hbel
      go_wp2_with fail
      refine bodyPost_ret (v := .agg #[.map (some T.m0), .map (some T.m1), .map (some T.m2), .map (some T.m3)]) (by simp [results, Tryz.results44, go_sem, b0, b1, b2, b3]) rfl ?_
      have hT := HT.out
      exact ⟨T, nn, Nat.le_refl _, hltq.1, hltq.2.1, Nat.lt_trans hltq.2.2.1 hltq.2.2.2.1, rfl, bnd_all hnn (hng ▸ hn5),
        (((hT.m0.setCell (by simp only; omega) _).setCell (by simp only; omega) _).setCell (by simp only; omega) _).setCell (by simp only; omega) _,
        (((hT.m1.setCell (by simp only; omega) _).setCell (by simp only; omega) _).setCell (by simp only; omega) _).setCell (by simp only; omega) _,
        (((hT.m3.setCell (by simp only; omega) _).setCell (by simp only; omega) _).setCell (by simp only; omega) _).setCell (by simp only; omega) _,
        (((HBT.out.setCell (by simp) _).setCell (by simp) _).setCell (by simp) _).setCell (by simp) _⟩
end Go.Proofs.Sm

namespace Go.Proofs.Sm
open Go.RowKit

theorem clashes_is (l : List RuleV) (p : ByteArray) : meetsS l p = (decide (p.data.toList ∈ inOK l l.length) || (aboveS p).any fun z => decide (z.data.toList ∈ outK l l.length) || decide (z.data.toList ∈ inK l l.length)) := by
  rw [Bool.eq_iff_iff]
  simp only [meetsS, List.any_eq_true, Bool.or_eq_true, decide_eq_true_eq, List.mem_range, lies_above, inOK, outK, inK, overOf, dataOf, List.mem_flatMap, List.mem_map]
  constructor
  · rintro ⟨k, hk, ⟨q, hq, y, hy, he⟩ | ⟨q, hq, y, hy, he⟩ | ⟨q, hq, y, hy, he⟩⟩
    · exact .inl ⟨k, hk, q, hq, y, hy, he⟩
    · exact .inr ⟨y, hy, .inl ⟨k, hk, q, hq, he.symm⟩⟩
    · exact .inr ⟨y, hy, .inr ⟨k, hk, q, hq, he.symm⟩⟩
  · rintro (⟨k, hk, q, hq, y, hy, he⟩ | ⟨y, hy, ⟨k, hk, q, hq, he⟩ | ⟨k, hk, q, hq, he⟩⟩)
    · exact ⟨k, hk, .inl ⟨q, hq, y, hy, he⟩⟩
    · exact ⟨k, hk, .inr (.inl ⟨q, hq, y, hy, he.symm⟩)⟩
    · exact ⟨k, hk, .inr (.inr ⟨q, hq, y, hy, he.symm⟩)⟩
theorem set_bool (S : List (List UInt8)) (x : List UInt8) : (setOf S x).getD (.bool false) = .bool (decide (x ∈ S)) := by
  unfold setOf; split <;> simp [*]
theorem set_look {S : List (List UInt8)} {w : World} {m n : Nat} (h : MapIs Tryz.prog 9 w m n (setOf S)) {z : ByteArray} (hz : z.size ≤ maxLen) :
    (Instr.lookup 39 (.map (some m)) (.string z) false).run Tryz.prog w = .ok (.bool (decide (z.data.toList ∈ S))) w := by
  have h0 : (zeroValue 4).run Tryz.prog w = .ok (.bool false) w := by kernel_rfl
  have hl := h.look (t := 39) (by kernel_rfl) (by kernel_rfl) h0 hz
  rw [set_bool] at hl
  exact hl
theorem clashes1 (S0 S1 : List (List UInt8)) (m0 m1 n g : Nat) (z : ByteArray) (w : World) (c0 : w.cell? ⟨g, 0, none⟩ = some (.map (some m0))) (c1 : w.cell? ⟨g, 1, none⟩ = some (.map (some m1)))
    (h0 : MapIs Tryz.prog 9 w m0 n (setOf S0)) (h1 : MapIs Tryz.prog 9 w m1 n (setOf S1)) (hz : z.size ≤ maxLen) :
    Calls Tryz.prog 80 #[.string z, .pointer (some ⟨g, 0, none⟩)] w fun e w' => e = .returned (.bool (decide (z.data.toList ∈ S0) || decide (z.data.toList ∈ S1))) ∧ Below w.heap.size w w' := by
  have l0 := set_look h0 hz
  have l1 := set_look h1 hz
  by_cases hs : z.data.toList ∈ S0
  · rw [decide_eq_true hs] at l0 ⊢
    go_enter Tryz.func80, Tryz.ntmps80
    go_wp2
    go_ret
    exact ⟨rfl, Below.refl _ _⟩
  · rw [decide_eq_false hs] at l0 ⊢
    rw [Bool.false_or]
    go_enter Tryz.func80, Tryz.ntmps80
    go_wp2
    go_ret
    exact ⟨rfl, Below.refl _ _⟩
end Go.Proofs.Sm

namespace Go.Proofs.Sm
open Go.RowKit

set_option maxHeartbeats 1000000 in
set_option maxRecDepth 100000 in
theorem steps_clashes (m0 m1 m2 m3 n : Nat) (l : List RuleV) (p : ByteArray) (w : World) (hp : p.size ≤ 1000000)
    (h0 : MapIs Tryz.prog 9 w m0 n (setOf (outK l l.length))) (h1 : MapIs Tryz.prog 9 w m1 n (setOf (inK l l.length))) (h3 : MapIs Tryz.prog 9 w m3 n (setOf (inOK l l.length))) :
    Calls Tryz.prog 45 #[.agg #[.map (some m0), .map (some m1), .map (some m2), .map (some m3)], .string p] w fun e w' => e = .returned (.bool (meetsS l p)) ∧ Below w.heap.size w w' := by
  have hpm : p.size ≤ maxLen := by unfold maxLen; omega
  have l3 := set_look (h3.alloc (.cells #[.map (some m0), .map (some m1), .map (some m2), .map (some m3)] 85)) hpm
  have h0' := h0.alloc (.cells #[.map (some m0), .map (some m1), .map (some m2), .map (some m3)] 85)
  have h1' := h1.alloc (.cells #[.map (some m0), .map (some m1), .map (some m2), .map (some m3)] 85)
  have hX : Arr (w.alloc (.cells #[.map (some m0), .map (some m1), .map (some m2), .map (some m3)] 85)) w.heap.size 85 [.map (some m0), .map (some m1), .map (some m2), .map (some m3)] := heap_alloc_new w _
  have hB : Below w.heap.size w (w.alloc (.cells #[.map (some m0), .map (some m1), .map (some m2), .map (some m3)] 85)) := fr_alloc (fr_refl w) _
  have H0 := Lib.hid h0'
  have H1 := Lib.hid h1'
  have HX := Lib.hid hX
  have HB := Lib.hid hB
  clear h0 h1 h3 h0' h1' hX hB
  rw [clashes_is]
  by_cases hs : p.data.toList ∈ inOK l l.length
  · rw [decide_eq_true hs] at l3 ⊢
    go_enter Tryz.func45, Tryz.ntmps45
    go_wp2
    go_ret
    exact ⟨rfl, HB.out⟩
  · rw [decide_eq_false hs] at l3 ⊢
    rw [Bool.false_or]
    go_enter Tryz.func45, Tryz.ntmps45
    go_wp2_with fail
    refine (steps_above p _ hp).mono ?_
    rintro e w3 ⟨A, c, rfl, _, _, hab, hb3⟩
    have HC := Lib.hid (slices_ContainsFunc1 80 (enters_of Tryz.func80 (by kernel_rfl) rfl) (.pointer (some ⟨w.heap.size, 0, none⟩)) (fun z => decide (z.data.toList ∈ outK l l.length) || decide (z.data.toList ∈ inK l l.length)) A (aboveS p).length c (aboveS p)
      w3 (Sl.more (fun _ hk => hk.2) hab) fun W z hW hz _ => clashes1 (outK l l.length) (inK l l.length) m0 m1 n w.heap.size z W
        (((HX.out.call hb3).call hW).cell (i := 0) rfl) (((HX.out.call hb3).call hW).cell (i := 1) rfl) ((H0.out.call hb3).call hW) ((H1.out.call hb3).call hW) hz)
    have HB3 := Lib.hid (fr_call HB.out hb3)
    clear hb3 hab
    go_wp2_with fail
    refine HC.out.mono ?_
    rintro e w4 ⟨rfl, hb4⟩
    have HB4 := Lib.hid (fr_call HB3.out hb4)
    clear hb4
    go_wp2
    go_ret
    exact ⟨rfl, HB4.out⟩
end Go.Proofs.Sm

namespace Go.Proofs.Sm
open Go.RowKit

/-- the first rule with this output -/
def idxOut (l : List RuleV) (p : ByteArray) : Option Nat := (List.range l.length).find? fun k => hasB (outsAt l k) p
theorem idxo_step {l : List RuleV} {p : ByteArray} {k : Nat} (h : ∀ j, j < k → hasB (outsAt l j) p = false) (hq : hasB (outsAt l k) p = false) : ∀ j, j < k + 1 → hasB (outsAt l j) p = false := by
  intro j hj
  by_cases e : j = k
  · subst e; exact hq
  · exact h j (by omega)
theorem idxo_yes {l : List RuleV} {p : ByteArray} {k : Nat} (hk : k < l.length) (h : ∀ j, j < k → hasB (outsAt l j) p = false) (hq : hasB (outsAt l k) p = true) : idxOut l p = some k := by
  rw [idxOut, List.find?_range_eq_some]
  exact ⟨hq, List.mem_range.2 hk, fun j hj => by rw [h j hj]; rfl⟩
theorem idxo_end {l : List RuleV} {p : ByteArray} {k : Nat} (hk : l.length ≤ k) (h : ∀ j, j < k → hasB (outsAt l j) p = false) : idxOut l p = none := by
  rw [idxOut, List.find?_eq_none]
  intro j hj
  rw [h j (by simp at hj; omega)]
  decide
end Go.Proofs.Sm

namespace Go.Proofs.Sm
open Go.RowKit

/-- the rules' names, as the paths of files -/
def asFiles (l : List RuleV) : List FileV := l.map fun r => ⟨r.name, false, []⟩
theorem asFiles_at {l : List RuleV} {k : Nat} {x : RuleV} (h : l[k]? = some x) : (asFiles l)[k]? = some ⟨x.name, false, []⟩ := by simp [asFiles, h]
theorem asFiles_len (l : List RuleV) : (asFiles l).length = l.length := by simp [asFiles]
theorem asFiles_back {l : List RuleV} {k : Nat} {y : FileV} (h : (asFiles l)[k]? = some y) : ∃ x, l[k]? = some x ∧ y = ⟨x.name, false, []⟩ := by
  rw [asFiles, List.getElem?_map] at h
  cases hx : l[k]? with
  | none => rw [hx] at h; cases h
  | some x => rw [hx] at h; cases h; exact ⟨x, rfl, rfl⟩
theorem asFiles_none {l : List RuleV} {p : ByteArray} (h : (asFiles l).find? (eqp p) = none) : idxName l p = none := by
  rw [idxName, List.find?_eq_none]
  rw [List.find?_eq_none] at h
  intro j hj hb
  rw [Option.any_eq_true] at hb
  obtain ⟨x, hx, he⟩ := hb
  exact h _ (List.mem_of_getElem? (asFiles_at hx)) he
theorem asFiles_idx {l : List RuleV} {p : ByteArray} {k : Nat} {x : RuleV} (hso : Sorted (asFiles l)) (hx : l[k]? = some x) (he : (x.name.toList == p.toList) = true) : idxName l p = some k := by
  refine idx_yes hx (fun j hj => ?_) he
  cases hy : l[j]? with
  | none => rfl
  | some y =>
    have hlt := hso j k _ _ hj (asFiles_at hy) (asFiles_at hx)
    cases hq : (y.name.toList == p.toList)
    · simpa using hq
    · rw [beq_iff_eq] at he hq
      have := hlt
      unfold ltS at this
      simp only [hq, he] at this
      have h2 := (cmp_lt _ _).2 this
      rw [(cmp_eq _ _).2 rfl] at h2
      omega
theorem sorted_rules {l : List RuleV} (h : listErr ruleErr RuleV.name none l = 0) : Sorted (asFiles l) := by
  have step : ∀ i x y, l[i]? = some x → l[i + 1]? = some y → ltS x.name y.name = true := by
    intro i x y hx hy
    have h1 := listErr_at h (i + 1) y hy
    rw [ahead_succ hx, ruleErr] at h1
    split at h1
    · rename_i h2; exact absurd h1 h2
    · split at h1
      · cases h1
      · rename_i h3
        rw [notAfter, Bool.not_eq_true] at h3
        exact leS_lt h3
  have key : ∀ d i x y, l[i]? = some x → l[i + d + 1]? = some y → ltS x.name y.name = true := by
    intro d
    induction d with
    | zero => intro i x y hx hy; exact step i x y hx hy
    | succ d ih =>
      intro i x y hx hy
      obtain ⟨z, hz⟩ : ∃ z, l[i + d + 1]? = some z := by
        have := (List.getElem?_eq_some_iff.1 hy).1
        exact ⟨l[i + d + 1]'(by omega), List.getElem?_eq_getElem _⟩
      exact bl_trans (ih i x z hx hz) (step (i + d + 1) z y hz hy)
  intro i j x y hij hx hy
  obtain ⟨x', hx', rfl⟩ := asFiles_back hx
  obtain ⟨y', hy', rfl⟩ := asFiles_back hy
  refine key (j - i - 1) i x' y' hx' ?_
  rw [show i + (j - i - 1) + 1 = j by omega]
  exact hy'
set_option maxRecDepth 100000 in
/-- the closure that find hands over -/
theorem steps_find1 (x : RuleV) (tl : ByteArray) (tm : Int) (A1 A2 A3 A4 A5 : Option Addr) (n1 c1 n2 c2 n3 c3 n4 c4 n5 c5 : Nat) (p : ByteArray) (w : World) :
    Calls Tryz.prog 72 #[.agg #[.string x.name, .string tl, .slice A1 n1 c1, .slice A2 n2 c2, .slice A3 n3 c3, .slice A4 n4 c4, .int .i64 tm, .slice A5 n5 c5], .string p] w fun e w' => e = .returned (.int .i64 (Lib.compareBytes x.name.data.toList p.data.toList)) ∧ Below w.heap.size w w' := by
  go_enter Tryz.func72, Tryz.ntmps72
  go_wp2_with (go_at_call 31; refine (Tryz.strings_Compare _ _ _).mono ?_; rintro e w1 ⟨rfl, rfl⟩)
  go_ret
  exact ⟨rfl, fr_alloc (fr_refl w) _⟩
set_option maxRecDepth 100000 in
theorem bsearch_rule (A : Option Addr) (n c : Nat) (l : List RuleV) (p : ByteArray) (w : World) (hsl : Sl w (Lt w.heap.size) A n l) (hso : Sorted (asFiles l)) (hn : n ≤ 500) :
    Calls Tryz.prog 71 #[.slice A n c, .string p, .func (.func 72) #[] #[]] w fun e w' =>
      ∃ (k : Nat) (b : Bool), e = .returned (.tuple #[.int .i64 k, .bool b]) ∧ ((b = false ∧ idxName l p = none) ∨ (b = true ∧ idxName l p = some k)) ∧ Below w.heap.size w w' := by
  go_enter Tryz.func71, Tryz.ntmps71
  go_wp2
  go_loopw [9, 10, 11] (fun i j _ wr => ∃ lo hi : Nat, i = .int .i64 lo ∧ j = .int .i64 hi ∧ lo ≤ hi ∧ hi ≤ n ∧ Halves (asFiles l) p lo hi ∧ Below w.heap.size w wr) (fun i j _ _ => (intOf j - intOf i).toNat)
  case atStart => exact ⟨0, n, rfl, rfl, Nat.zero_le _, Nat.le_refl _, by have := Halves.start (asFiles l) p; rwa [asFiles_len, hsl.1] at this, Below.refl _ _⟩
  case round =>
    obtain ⟨lo, hi, rfl, rfl, h1, h2, hh, hbel⟩ := hrel
    have hsr := (hsl.keep (keep_lt hbel)).more (lt_mono hbel.size)
    by_cases hlt : lo < hi
    · obtain ⟨m, hm⟩ : ∃ m : Nat, (lo + hi) / 2 = m := ⟨_, rfl⟩
      have hm1 : lo ≤ m := by omega
      have hm2 : m < hi := by omega
      have hq : ((lo : Int) + (hi : Int)) / 2 = (m : Int) := by omega
      have Hm := Lib.hid hm; clear hm
      obtain ⟨b, o, x, rfl, hb, hx, A1, n1, c1, A2, n2, c2, A3, n3, c3, A4, n4, c4, A5, n5, c5, _, _, _, q0, q1, q2, q3, q4, q5, q6, q7⟩ := hsr.rule (k := m) (by omega)
      have HX := Lib.hid hx; clear hx
      have hcl := cmp_lt x.name.data.toList p.data.toList
      have HC := Lib.hid (fun W => steps_find1 x x.action.tool x.action.time A1 A2 A3 A4 A5 n1 c1 n2 c2 n3 c3 n4 c4 n5 c5 p W)
      generalize Lib.compareBytes x.name.data.toList p.data.toList = cb at hcl HC
      rw [← Lib.toList_data, ← Lib.toList_data] at hcl
      cases hle : ltS x.name p
      · have HH := Lib.hid (hh.down hso hm1 hm2 (asFiles_at HX.out) hle)
        have hcb : 0 ≤ cb := by
          have : ¬ cb < 0 := fun h => by have := hcl.1 h; rw [show Op.bytesLess x.name.toList p.toList = false from hle] at this; cases this
          omega
        clear hcl
        go_wp2_with (go_at_call 72; refine (HC.out _).mono ?_; rintro e w1 ⟨rfl, hb1⟩)
        go_round
        case rel => exact ⟨lo, m, rfl, rfl, hm1, by omega, HH.out, fr_call hbel hb1⟩
        case measure => simp [intOf]; omega
      · have HH := Lib.hid (hh.up hso hm1 hm2 (asFiles_at HX.out) hle)
        have hcb : cb < 0 := hcl.2 hle
        clear hcl
        go_wp2_with (go_at_call 72; refine (HC.out _).mono ?_; rintro e w1 ⟨rfl, hb1⟩)
        go_round
        case rel => exact ⟨m + 1, hi, by go_num, rfl, by omega, h2, HH.out, fr_call hbel hb1⟩
        case measure => simp [intOf]; omega
    · obtain rfl : lo = hi := by omega
      by_cases hend : lo < n
      · obtain ⟨b, o, x, rfl, hb, hx, A1, n1, c1, A2, n2, c2, A3, n3, c3, A4, n4, c4, A5, n5, c5, _, _, _, q0, q1, q2, q3, q4, q5, q6, q7⟩ := hsr.rule (k := lo) hend
        have HX := Lib.hid hx; clear hx
        have hce := cmp_eq x.name.data.toList p.data.toList
        have HC := Lib.hid (fun W => steps_find1 x x.action.tool x.action.time A1 A2 A3 A4 A5 n1 c1 n2 c2 n3 c3 n4 c4 n5 c5 p W)
        generalize Lib.compareBytes x.name.data.toList p.data.toList = cb at hce HC
        rw [← Lib.toList_data, ← Lib.toList_data] at hce
        have hg : decide ((lo : Int) < (n : Int)) = true := by simp; omega
        cases heq : (x.name.toList == p.toList)
        · have HM := Lib.hid (asFiles_none (hh.none hso (fun y hy => by rw [asFiles_at HX.out] at hy; cases hy; exact heq)))
          have hcb : (cb == 0) = false := by
            rw [beq_eq_false_iff_ne] at heq ⊢
            exact fun h => heq (hce.1 h)
          clear hce
          go_wp2_with (go_at_call 72; refine (HC.out _).mono ?_; rintro e w1 ⟨rfl, hb1⟩)
          go_ret2
          exact ⟨lo, false, rfl, .inl ⟨rfl, HM.out⟩, fr_call hbel hb1⟩
        · have HM := Lib.hid (asFiles_idx hso HX.out heq)
          have hcb : (cb == 0) = true := by
            rw [beq_iff_eq] at heq ⊢
            exact hce.2 heq
          clear hce
          go_wp2_with (go_at_call 72; refine (HC.out _).mono ?_; rintro e w1 ⟨rfl, hb1⟩)
          go_ret2
          exact ⟨lo, true, rfl, .inr ⟨rfl, HM.out⟩, fr_call hbel hb1⟩
      · have HM := Lib.hid (asFiles_none (hh.none hso (fun y hy => by have := (List.getElem?_eq_some_iff.1 hy).1; rw [asFiles_len, hsl.1] at this; omega)))
        have hg : decide ((lo : Int) < (n : Int)) = false := by simp; omega
        go_wp2
        go_ret2
        exact ⟨lo, false, rfl, .inl ⟨rfl, HM.out⟩, hbel⟩
set_option maxRecDepth 100000 in
theorem steps_find (g : Nat) (A : Option Addr) (n c : Nat) (l : List RuleV) (p : ByteArray) (w : World) (hc : w.cell? ⟨g, 0, none⟩ = some (.slice A n c)) (hsl : Sl w (Lt w.heap.size) A n l) (hso : Sorted (asFiles l)) (hn : n ≤ 500) :
    Calls Tryz.prog 37 #[.pointer (some ⟨g, 0, none⟩), .string p] w fun e w' => e = .returned (.int .i64 (numOr6 (idxName l p))) ∧ Below w.heap.size w w' := by
  go_enter Tryz.func37, Tryz.ntmps37
  go_wp2_with fail
  refine (bsearch_rule A n c l p _ hsl hso hn).mono ?_
  rintro e w1 ⟨k, b, rfl, hr, hb1⟩
  rcases hr with ⟨rfl, hi⟩ | ⟨rfl, hi⟩
  · have HI := Lib.hid hi
    clear hi
    go_wp2
    go_ret
    exact ⟨by rw [HI.out]; rfl, hb1⟩
  · have HI := Lib.hid hi
    clear hi
    go_wp2
    go_ret
    exact ⟨by rw [HI.out]; rfl, hb1⟩
end Go.Proofs.Sm

namespace Go.Proofs.Sm
open Go.RowKit

section
variable {l : List RuleV}
theorem cr_large (h : (500 : Int) < (l.length : Int)) : checkRulesS l = 2 := by rw [checkRulesS, if_pos h]
theorem cr_rule (h : l.length ≤ 500) (h1 : listErr ruleErr RuleV.name none l ≠ 0) : checkRulesS l = listErr ruleErr RuleV.name none l := by rw [checkRulesS, if_neg (by omega), if_pos h1]
theorem cr_out (h : l.length ≤ 500) (h1 : listErr ruleErr RuleV.name none l = 0) (h2 : allOutputsErr l ≠ 0) : checkRulesS l = allOutputsErr l := by rw [checkRulesS, if_neg (by omega), if_neg (by rw [h1]; decide), if_pos h2]
theorem cr_rest (h : l.length ≤ 500) (h1 : listErr ruleErr RuleV.name none l = 0) (h2 : allOutputsErr l = 0) : checkRulesS l = if (orderS (needsS l) fun _ => true).2 = false then 17 else 0 := by
  rw [checkRulesS, if_neg (by omega), if_neg (by rw [h1]; decide), if_neg (by rw [h2]; decide)]
theorem ruleErr_bad {prev : Option ByteArray} {x : RuleV} (h : checkRuleS x ≠ 0) : ruleErr prev x = checkRuleS x := by rw [ruleErr, if_pos h]
theorem ruleErr_rest {prev : Option ByteArray} {x : RuleV} (h : checkRuleS x = 0) : ruleErr prev x = if notAfter prev x.name then 8 else 0 := by rw [ruleErr, if_neg (by rw [h]; decide)]
theorem isOf_all {n i : Nat} (h : i < n) : isOf (List.replicate n true) i = true := by simp [isOf, h]
end
/-- the whole: 'all' of them -/
theorem orderS_congr {g : Graph} {p q : Nat → Bool} (h : ∀ i, i < g.length → p i = q i) : orderS g p = orderS g q := by
  have hf : ∀ out i, i < g.length → freeS g p out i = freeS g q out i := fun out i hi => by rw [freeS, freeS, h i hi]
  have hn : ∀ out, nextS g p out = nextS g q out := fun out => by
    cases h1 : nextS g q out with
    | none => exact next_none.2 fun j hj => by rw [hf out j hj]; exact next_none.1 h1 j hj
    | some k =>
      obtain ⟨h2, h3, h4⟩ := next_some h1
      exact next_is h2 (by rw [hf out k h2]; exact h3) fun j hj => by rw [hf out j (by omega)]; exact h4 j hj
  have hu : ∀ out, undoneS g p out = undoneS g q out := fun out => by
    rw [undoneS, undoneS, Bool.eq_iff_iff, List.any_eq_true, List.any_eq_true]
    constructor
    · rintro ⟨i, hi, h1⟩; exact ⟨i, hi, by rw [← h i (by simpa using hi)]; exact h1⟩
    · rintro ⟨i, hi, h1⟩; exact ⟨i, hi, by rw [h i (by simpa using hi)]; exact h1⟩
  have hr : ∀ f out, runO g p f out = runO g q f out := by
    intro f
    induction f with
    | zero => intro out; rw [runO, runO, hu]
    | succ f ih =>
      intro out
      rw [runO, runO, hn, hu]
      cases nextS g q out with
      | none => rfl
      | some k => exact ih _
  exact hr _ _
theorem orderS_all (g : Graph) : orderS g (isOf (List.replicate g.length true)) = orderS g fun _ => true := orderS_congr fun _ hi => isOf_all hi
theorem all_sl {w : World} {q n : Nat} (h : Arr w q 4 (List.replicate n (.bool true))) (hn : n ≤ maxLen) : Sl w (Lt w.heap.size) (some ⟨q, 0, none⟩) n (List.replicate n true) := by
  have := h.sl (α := Bool) (l := List.replicate n true) rfl (by simp) (by simpa using hn) fun _ x v hx hv => by
    rw [List.getElem?_replicate] at hx hv
    split at hx
    · rename_i hi
      rw [if_pos hi] at hv
      cases hx; cases hv; rfl
    · cases hx
  simpa using this
theorem range_at {n i : Nat} (h : i < n) : (List.range n)[i]? = some i := List.getElem?_range h
set_option maxHeartbeats 4000000 in
set_option maxRecDepth 100000 in
theorem ref6_CheckRules (A : Option Addr) (n c : Nat) (l : List RuleV) (w : World) (hE : Env w) (hsl : Sl w (Lt w.heap.size) A n l) :
    Calls Tryz.prog 21 #[.slice A n c] w fun e w' => e = .returned (.int .i64 (checkRulesS l)) ∧ Below w.heap.size w w' := by
  have hm : n ≤ 9223372036854775807 := hsl.2.1
  have HL := Lib.hid hsl.1
  by_cases hbig : (500 : Int) < (n : Int)
  · have HV := Lib.hid (cr_large (l := l) (by rw [HL.out]; exact hbig))
    go_enter Tryz.func21, Tryz.ntmps21
    go_wp2
    go_ret
    exact ⟨ret_int HV.out.symm, Below.refl _ _⟩
  have HB := Lib.hid (show l.length ≤ 500 by rw [HL.out]; omega)
  go_enter Tryz.func21, Tryz.ntmps21
  go_wp2
  go_loopw [3] (fun i wr => ∃ k : Nat, k ≤ n ∧ i = .int .i64 k ∧ listErr ruleErr RuleV.name none l = listErr ruleErr RuleV.name (ahead RuleV.name l k) (l.drop k) ∧ Below w.heap.size w wr) (fun i _ => n - (intOf i).toNat)
  case atStart => exact ⟨0, Nat.zero_le _, rfl, rfl, Below.refl _ _⟩
  case round =>
    obtain ⟨k, hk, rfl, hd, hbel⟩ := hrel
    have Hr := Lib.hid hd; clear hd
    have hEr := hE.then_ hbel
    have hslr := sl_call hsl hbel (Nat.le_refl _)
    by_cases hlt : k < n
    · have hkI : (k : Int) < (n : Int) := by omega
      obtain ⟨b, o, x, rfl, hx, A1, n1, c1, A2, n2, c2, A3, n3, c3, A4, n4, c4, A5, n5, c5, hri, q0, q1, q2, q3, q4, q5, q6, q7⟩ := hslr.ruleAll hlt
      have HX := Lib.hid hx; clear hx
      cases h0 : (checkRuleS x == 0)
      · have hne : checkRuleS x ≠ 0 := by simpa using h0
        have hbn : (checkRuleS x != 0) = true := by simpa using h0
        have HV := Lib.hid (list_stop (key := RuleV.name) HX.out (ruleErr_bad (prev := ahead RuleV.name l k) hne) hne)
        have HN := Lib.hid hne; clear hne
        go_wp2_with fail
        refine (ref6_checkRule x A1 A2 A3 A4 A5 n1 n2 n3 n4 n5 c1 c2 c3 c4 c5 wr hEr hri).mono ?_
        rintro e w1 ⟨rfl, hb1⟩
        have hbw := fr_call hbel hb1
        go_wp2
        go_ret
        exact ⟨ret_int (by rw [cr_rule HB.out (by rw [Hr.out, HV.out]; exact HN.out), Hr.out, HV.out]), hbw⟩
      have hz : checkRuleS x = 0 := by simpa using h0
      have hbn : (checkRuleS x != 0) = false := by simpa using h0
      have HO := Lib.hid (ruleErr_rest (prev := ahead RuleV.name l k) hz); clear hz
      by_cases hk0 : 0 < k
      · have hg0 : decide ((0 : Int) < (k : Int)) = true := by simpa using hk0
        obtain ⟨_, _, z, e0, hbz, hy, _, d0⟩ := hslr.ruleName (k := k - 1) (by omega)
        cases e0
        have HA := Lib.hid (ahead_pos (f := RuleV.name) hk0 hy); clear hy
        have hbw0 : b < wr.heap.size := hbz
        cases hle : leS x.name z.name
        · have HV := Lib.hid (show ruleErr (ahead RuleV.name l k) x = 0 by rw [HO.out, HA.out]; simp [notAfter, hle])
          have hle' := leS_false hle
          go_wp2_with fail
          refine (ref6_checkRule x A1 A2 A3 A4 A5 n1 n2 n3 n4 n5 c1 c2 c3 c4 c5 wr hEr hri).mono ?_
          rintro e w1 ⟨rfl, hb1⟩
          have hbw := fr_call hbel hb1
          have d1 : w1.cell? ⟨b, o + (k - 1) * 8, none⟩ = some (.string z.name) := by rw [hb1.cell (by exact hbw0)]; exact d0
          have d2 : w1.cell? ⟨b, o + k * 8, none⟩ = some (.string x.name) := by rw [hb1.cell (by exact hbw0)]; exact q0
          go_wp2
          have g1 := IntWalk.i64_in ((k : Int) - 1) ⟨by omega, by omega⟩; have g2 : ((k : Int) - 1).toNat = k - 1 := (by omega); have g3 : (0 : Int) ≤ (k : Int) - 1 := (by omega); have g4 : (k : Int) - 1 < (n : Int) := (by omega)
          go_quiet (fail)
          clear g1 g2 g3 g4
          go_wp2
          go_roundw
          case rel => exact ⟨k + 1, by omega, by go_num, by rw [Hr.out]; exact list_round HX.out HV.out, below_drewN hbw _⟩
          case measure => simp [intOf]; omega
        · have HV := Lib.hid (list_stop (key := RuleV.name) HX.out (show ruleErr (ahead RuleV.name l k) x = 8 by rw [HO.out, HA.out]; simp [notAfter, hle]) (by decide))
          have hle' := leS_true hle
          go_wp2_with fail
          refine (ref6_checkRule x A1 A2 A3 A4 A5 n1 n2 n3 n4 n5 c1 c2 c3 c4 c5 wr hEr hri).mono ?_
          rintro e w1 ⟨rfl, hb1⟩
          have hbw := fr_call hbel hb1
          have d1 : w1.cell? ⟨b, o + (k - 1) * 8, none⟩ = some (.string z.name) := by rw [hb1.cell (by exact hbw0)]; exact d0
          have d2 : w1.cell? ⟨b, o + k * 8, none⟩ = some (.string x.name) := by rw [hb1.cell (by exact hbw0)]; exact q0
          go_wp2
          have g1 := IntWalk.i64_in ((k : Int) - 1) ⟨by omega, by omega⟩; have g2 : ((k : Int) - 1).toNat = k - 1 := (by omega); have g3 : (0 : Int) ≤ (k : Int) - 1 := (by omega); have g4 : (k : Int) - 1 < (n : Int) := (by omega)
          go_quiet (fail)
          clear g1 g2 g3 g4
          go_wp2
          go_ret
          exact ⟨ret_int (by rw [cr_rule HB.out (by rw [Hr.out, HV.out]; decide), Hr.out, HV.out]), below_drewN hbw _⟩
      · have hg0 : decide ((0 : Int) < (k : Int)) = false := by simpa using hk0
        have HV := Lib.hid (show ruleErr (ahead RuleV.name l k) x = 0 by rw [HO.out, show ahead RuleV.name l k = none by simp [ahead]; omega]; rfl)
        go_wp2_with fail
        refine (ref6_checkRule x A1 A2 A3 A4 A5 n1 n2 n3 n4 n5 c1 c2 c3 c4 c5 wr hEr hri).mono ?_
        rintro e w1 ⟨rfl, hb1⟩
        have hbw := fr_call hbel hb1
        go_wp2
        go_quiet (fail)
        go_wp2
        go_roundw
        case rel => exact ⟨k + 1, by omega, by go_num, by rw [Hr.out]; exact list_round HX.out HV.out, below_drewN hbw _⟩
        case measure => simp [intOf]; omega
    · have hz := show listErr ruleErr RuleV.name none l = 0 by rw [Hr.out, list_end (by rw [HL.out]; omega)]
      have HZ := Lib.hid hz; clear hz
      have hok := rulesOk_of (by have := HB.out; omega) HZ.out
      have HOK := Lib.hid hok; clear hok
      go_wp2
      go_loop [5] (fun t => ∃ i : Nat, i ≤ n ∧ t = .int .i64 i ∧ allOutputsErr l = firstErr (outputsErr l) ((List.range n).drop i)) (fun t => n - (intOf t).toNat)
      case atStart => exact ⟨0, Nat.zero_le _, rfl, by rw [allOutputsErr, HL.out]; rfl⟩
      case round =>
        obtain ⟨i, hi, rfl, hd⟩ := hrel
        have Hd := Lib.hid hd; clear hd
        by_cases hli : i < n
        · have hiI : (i : Int) < (n : Int) := by omega
          obtain ⟨b, o, A3, n3, c3, rfl, q4, s3⟩ := hslr.ruleOuts hli
          have hn3 : (outsAt l i).length = n3 := s3.1
          have hm3 : n3 ≤ 9223372036854775807 := s3.2.1
          go_wp2
          go_loop [6] (fun t => ∃ m : Nat, m ≤ n3 ∧ t = .int .i64 m ∧ outputsErr l i = firstErr (outputErr l i) ((outsAt l i).drop m)) (fun t => n3 - (intOf t).toNat)
          case atStart => exact ⟨0, Nat.zero_le _, rfl, rfl⟩
          case round =>
            obtain ⟨m, hmm, rfl, hd2⟩ := hrel
            have Hd2 := Lib.hid hd2; clear hd2
            by_cases hmn : m < n3
            · have hmI : (m : Int) < (n3 : Int) := by omega
              obtain ⟨b3, o3, p, rfl, _, hp, hps, c0⟩ := s3.str hmn
              have HP := Lib.hid hp; clear hp
              go_wp2_with fail
              refine (ref6_checkOutput _ n c i l p wr hslr HOK.out hli (HOK.out.outSize (List.mem_of_getElem? HP.out))).mono ?_
              rintro e w1 ⟨rfl, rfl⟩
              cases h0 : (outputErr l i p == 0)
              · have hne : outputErr l i p ≠ 0 := by simpa using h0
                have hbn : (outputErr l i p != 0) = true := by simpa using h0
                have HV := Lib.hid (show outputsErr l i = outputErr l i p from Hd2.out.trans (firstErr_stop HP.out hne))
                have HV2 := Lib.hid (show allOutputsErr l = outputErr l i p from by rw [Hd.out, firstErr_stop (range_at hli) (by rw [HV.out]; exact hne), HV.out])
                have HN := Lib.hid hne; clear hne
                go_wp2
                go_ret
                exact ⟨ret_int (by rw [cr_out HB.out HZ.out (by rw [HV2.out]; exact HN.out), HV2.out]), hbel⟩
              · have hz : outputErr l i p = 0 := by simpa using h0
                have hbn : (outputErr l i p != 0) = false := by simpa using h0
                have HV := Lib.hid (Hd2.out.trans (firstErr_round HP.out hz)); clear hz
                go_wp2
                go_round
                case rel => exact ⟨m + 1, by omega, by go_num, HV.out⟩
                case measure => simp [intOf]; omega
            · have HV := Lib.hid (show outputsErr l i = 0 from Hd2.out.trans (firstErr_end (by omega)))
              have HV2 := Lib.hid (Hd.out.trans (firstErr_round (range_at hli) HV.out))
              go_wp2
              go_round
              case rel => exact ⟨i + 1, by omega, by go_num, HV2.out⟩
              case measure => simp [intOf]; omega
        · have HO := Lib.hid (show allOutputsErr l = 0 from Hd.out.trans (firstErr_end (by simp; omega)))
          have HR := Lib.hid (cr_rest HB.out HZ.out HO.out)
          have hn5 : n ≤ 1000000 := by omega
          have hng : l.length = n := HL.out
          go_wp2_with fail
          refine (ref6_needs _ n c l wr hslr hn5).mono ?_
          rintro e w2 ⟨rfl, hs2, hb2⟩
          have hbel2 := fr_call hbel hb2
          go_wp2_with fail
          refine (ref6_all n w2 hn5).mono ?_
          rintro e w3 ⟨rfl, ha3, hb3⟩
          have hbel3 := fr_call hbel2 hb3
          have hs3 := sl_call hs2 hb3 (Nat.le_refl _)
          have hal := all_sl ha3 (by unfold maxLen; omega)
          clear hs2 ha3
          go_wp2_with fail
          refine (ref6_ordered _ _ n n n (needsS l) (List.replicate n true) w3 hs3 hal (needs_within l) hn5).mono ?_
          rintro e w4 ⟨v, rfl, _, hb4⟩
          have hbel4 := fr_call hbel3 hb4
          have HE := Lib.hid (show orderS (needsS l) (isOf (List.replicate n true)) = orderS (needsS l) fun _ => true by rw [← orderS_all, needsS_length, hng])
          rw [HE.out]
          cases hv : (orderS (needsS l) fun _ => true).2
          · rw [hv] at HR
            go_wp2
            go_ret
            exact ⟨ret_int (by rw [HR.out]; rfl), hbel4⟩
          · rw [hv] at HR
            go_wp2
            go_ret
            exact ⟨ret_int (by rw [HR.out]; rfl), hbel4⟩
end Go.Proofs.Sm

namespace Go.Proofs.Sm
open Go.RowKit

/-- how much of what j needs is not done -/
def leftN (g : Graph) (out : List Nat) (j : Nat) : Nat := ((needAt g j).filter fun k => !out.contains k).length
theorem left_zero {g : Graph} {out : List Nat} {j : Nat} : leftN g out j = 0 ↔ readyS g out j = true := by
  rw [leftN, List.length_eq_zero_iff, List.filter_eq_nil_iff, readyS, List.all_eq_true]
  simp
theorem left_nil (g : Graph) (j : Nat) : leftN g [] j = (needAt g j).length := by
  rw [leftN]
  congr 1
  rw [List.filter_eq_self]
  simp
theorem left_more {g : Graph} {out : List Nat} {k j : Nat} (hn : (needAt g j).Nodup) (hk : k ∉ out) : leftN g (out ++ [k]) j + (if (needAt g j).contains k then 1 else 0) = leftN g out j := by
  unfold leftN
  generalize needAt g j = l at hn
  induction l with
  | nil => simp
  | cons x l ih =>
    rw [List.nodup_cons] at hn
    have ih := ih hn.2
    by_cases hx : x = k
    · subst hx
      have hl : l.contains x = false := by simpa using hn.1
      rw [hl] at ih
      simp only [List.contains_cons, BEq.rfl, Bool.true_or, if_true]
      have e1 : ((x :: l).filter fun y => !(out ++ [x]).contains y) = l.filter fun y => !(out ++ [x]).contains y := by rw [List.filter_cons]; simp
      have e2 : ((x :: l).filter fun y => !out.contains y) = x :: l.filter fun y => !out.contains y := by rw [List.filter_cons]; simp [hk]
      rw [e1, e2, List.length_cons]
      simp at ih ⊢
      omega
    · have hc : (x :: l).contains k = l.contains k := by
        have hx2 : ¬ k = x := fun e => hx e.symm
        simp [hx2]
      rw [hc]
      have e3 : (out ++ [k]).contains x = out.contains x := by simp [hx]
      by_cases hox : out.contains x = true
      · have e1 : ((x :: l).filter fun y => !(out ++ [k]).contains y) = l.filter fun y => !(out ++ [k]).contains y := by rw [List.filter_cons, e3, hox]; rfl
        have e2 : ((x :: l).filter fun y => !out.contains y) = l.filter fun y => !out.contains y := by rw [List.filter_cons, hox]; rfl
        rw [e1, e2]; exact ih
      · have hox : out.contains x = false := by simpa using hox
        have e1 : ((x :: l).filter fun y => !(out ++ [k]).contains y) = x :: l.filter fun y => !(out ++ [k]).contains y := by rw [List.filter_cons, e3, hox]; rfl
        have e2 : ((x :: l).filter fun y => !out.contains y) = x :: l.filter fun y => !out.contains y := by rw [List.filter_cons, hox]; rfl
        rw [e1, e2, List.length_cons, List.length_cons]; omega
/-- those among the first i that need k; and i itself, if k is among the first t that it needs -/
def usersAt (g : Graph) (inn : Nat → Bool) (i t : Nat) : List (List Nat) := (List.range g.length).map fun k => ((List.range i).filter fun j => inn j && (needAt g j).contains k) ++ (if ((needAt g i).take t).contains k then [i] else [])
theorem users_length (g : Graph) (inn : Nat → Bool) (i t : Nat) : (usersAt g inn i t).length = g.length := by simp [usersAt]
theorem users_start (g : Graph) (inn : Nat → Bool) : usersAt g inn 0 0 = List.replicate g.length [] := by
  apply List.ext_getElem
  · simp [usersAt]
  · intro i h1 h2
    simp [usersAt]
theorem users_skip {g : Graph} {inn : Nat → Bool} {i : Nat} (h : inn i = false) : usersAt g inn (i + 1) 0 = usersAt g inn i 0 := by
  apply List.ext_getElem
  · simp [usersAt]
  · intro k h1 h2
    simp [usersAt, List.range_succ, h]
theorem users_next {g : Graph} {inn : Nat → Bool} {i t : Nat} (h : inn i = true) (ht : (needAt g i).length ≤ t) : usersAt g inn i t = usersAt g inn (i + 1) 0 := by
  apply List.ext_getElem
  · simp [usersAt]
  · intro k h1 h2
    simp only [usersAt, List.getElem_map, List.getElem_range, List.range_succ, List.filter_append, List.take_of_length_le ht, List.take_zero]
    have e : ([i].filter fun j => inn j && (needAt g j).contains k) = if (needAt g i).contains k = true then [i] else [] := by
      rw [List.filter_cons, h, Bool.true_and]
      rfl
    rw [e]
    simp
theorem users_row {g : Graph} {inn : Nat → Bool} {i t k : Nat} (hk : k < g.length) (hn : k ∉ (needAt g i).take t) : (usersAt g inn i t)[k]? = some ((List.range i).filter fun j => inn j && (needAt g j).contains k) := by
  rw [usersAt, List.getElem?_map, List.getElem?_range hk]
  simp [hn]
theorem users_end {g : Graph} {inn : Nat → Bool} {i k : Nat} (hk : k < g.length) : (usersAt g inn i 0)[k]? = some ((List.range i).filter fun j => inn j && (needAt g j).contains k) := users_row hk (by simp)
theorem take_not {l : List Nat} {t k : Nat} (hn : l.Nodup) (hk : l[t]? = some k) : k ∉ l.take t := by
  intro hm
  obtain ⟨i, hi⟩ := List.getElem?_of_mem hm
  rw [List.getElem?_take] at hi
  split at hi
  · have hi1 := (List.getElem?_eq_some_iff.1 hi).1
    have ht1 := (List.getElem?_eq_some_iff.1 hk).1
    have := (List.getElem_inj hn (h₀ := hi1) (h₁ := ht1)).1 (by rw [(List.getElem?_eq_some_iff.1 hi).2, (List.getElem?_eq_some_iff.1 hk).2])
    omega
  · cases hi
theorem users_set {g : Graph} {inn : Nat → Bool} {i t k : Nat} (hn : (needAt g i).Nodup) (hk : (needAt g i)[t]? = some k) : (usersAt g inn i t).set k (((List.range i).filter fun j => inn j && (needAt g j).contains k) ++ [i]) = usersAt g inn i (t + 1) := by
  have hnot := take_not hn hk
  apply List.ext_getElem
  · simp [usersAt]
  · intro a h1 h2
    rw [List.getElem_set]
    simp only [usersAt, List.getElem_map, List.getElem_range, List.take_add_one, hk, Option.toList_some]
    split
    · rename_i e
      subst e
      simp
    · rename_i e
      have : ¬ a = k := fun h => e h.symm
      simp [this]
end Go.Proofs.Sm

namespace Go.Proofs.Sm
open Go.RowKit

def nameAt (l : List RuleV) (k : Nat) : ByteArray := ((l[k]?).map RuleV.name).getD ⟨#[]⟩
theorem nameAt_some {l : List RuleV} {k : Nat} {x : RuleV} (h : l[k]? = some x) : nameAt l k = x.name := by simp [nameAt, h]
/-- the pairs of one rule: its name, and the name of what it needs -/
def edgesAt (l : List RuleV) (i : Nat) : List VarV := (needAt (needsS l) i).map fun k => ⟨nameAt l i, nameAt l k⟩
def edgesTo (l : List RuleV) (i : Nat) : List VarV := (List.range i).flatMap (edgesAt l)
def edgesS (l : List RuleV) : List VarV := edgesTo l l.length
theorem edgesTo_succ (l : List RuleV) (i : Nat) : edgesTo l (i + 1) = edgesTo l i ++ edgesAt l i := by
  rw [edgesTo, List.range_succ, List.flatMap_append]; simp [edgesTo]
theorem edgesAt_length (l : List RuleV) (i : Nat) : (edgesAt l i).length = (needAt (needsS l) i).length := by simp [edgesAt]
theorem edgesAt_more {l : List RuleV} {i t k : Nat} {x y : RuleV} (h : (needAt (needsS l) i)[t]? = some k) (hx : l[i]? = some x) (hy : l[k]? = some y) :
    (edgesAt l i).take (t + 1) = (edgesAt l i).take t ++ [⟨x.name, y.name⟩] := by
  rw [List.take_add_one, edgesAt, List.getElem?_map, h, ← nameAt_some hx, ← nameAt_some hy]; rfl
theorem edgesAt_full {l : List RuleV} {i t : Nat} (h : (needAt (needsS l) i).length ≤ t) : (edgesAt l i).take t = edgesAt l i := List.take_of_length_le (by rw [edgesAt_length]; exact h)
end Go.Proofs.Sm

namespace Go.Proofs.Sm
open Go.RowKit

def edgeCells (x : VarV) : List Value := [.string x.name, .string x.value]
theorem oneCell_edge (x : VarV) : ∀ u ∈ edgeCells x, u.oneCell' = true := by
  intro u hu
  simp only [edgeCells, List.mem_cons, List.not_mem_nil, or_false] at hu
  rcases hu with rfl | rfl <;> rfl
theorem needAt_len (l : List RuleV) (i : Nat) : (needAt (needsS l) i).length ≤ l.length := by
  by_cases hi : i < l.length
  · rw [needs_at hi]
    exact Nat.le_trans (List.length_filter_le _ _) (by simp)
  · rw [needAt, List.getElem?_eq_none (by rw [needsS_length]; omega)]; simp
theorem edgesTo_len {l : List RuleV} (hl : l.length ≤ 500) : ∀ i, (edgesTo l i).length ≤ i * 500
  | 0 => by simp [edgesTo]
  | i + 1 => by
    have h1 := edgesTo_len hl i
    have h2 := needAt_len l i
    rw [edgesTo_succ, List.length_append, edgesAt_length, Nat.succ_mul]
    omega
end Go.Proofs.Sm
