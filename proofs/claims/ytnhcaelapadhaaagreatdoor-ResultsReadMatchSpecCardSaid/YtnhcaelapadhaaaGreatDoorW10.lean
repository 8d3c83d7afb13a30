/- Walks: a list of files is validated. -/
import Derived.Test.YtnhcaelapadhaaaGreatDoorW9
namespace Go.Proofs.Sm
open Go.RowKit

theorem hasOf_succ {l : List FileV} {k : Nat} {x : FileV} (hx : l[k]? = some x) : (fun key => if key = x.path.data.toList then some (Value.bool true) else hasOf (l.take k) key) = hasOf (l.take (k + 1)) := by
  funext key
  unfold hasOf
  rw [hasPath_succ hx]
  by_cases h : key = x.path.data.toList
  · subst h
    simp
  · have h' : (x.path.data.toList == key) = false := by simpa using fun e => h e.symm
    rw [if_neg h, h', Bool.or_false]

set_option maxRecDepth 100000 in
theorem blob_CheckFiles (A : Option Addr) (n c : Nat) (l : List FileV) (w : World) (hE : Env w) (hsl : Sl w (Lt w.heap.size) A n l) : Calls Tryz.prog 48 #[.slice A n c] w fun e w' => e = .returned (.int .i64 (checkFilesS l)) ∧ Below w.heap.size w w' := by
  have hm : n ≤ 9223372036854775807 := hsl.2.1
  have hmm := @run_makeMap Tryz.prog
  have HL := Lib.hid hsl.1
  by_cases hbig : (1000 : Int) < n
  · go_enter Tryz.func48, Tryz.ntmps48
    go_wp2
    go_ret; exact ⟨ret_int (by rw [checkFilesS, HL.out, if_pos hbig]), Below.refl _ _⟩
  have Hd := Lib.hid (show checkFilesS l = if filesErr none l ≠ 0 then filesErr none l else if l.any (fun x => clashS l x.path) then 12 else if 2000000 < (totalS l : Int) then 2 else 0 by rw [checkFilesS, HL.out, if_neg hbig])
  go_enter Tryz.func48, Tryz.ntmps48
  go_wp2
  go_loopw [3, 5, 15] (fun t _ i wr => ∃ k : Nat, k ≤ n ∧ i = .int .i64 k ∧ t = .int .i64 (totalS (l.take k) : Nat) ∧ totalS (l.take k) ≤ 100000 * k ∧ filesErr none l = filesErr (ahead FileV.path l k) (l.drop k) ∧ MapIs Tryz.prog 9 wr w.heap.size k (hasOf (l.take k)) ∧ Below w.heap.size w wr) (fun _ _ i _ => n - (intOf i).toNat)
  case atStart => exact ⟨0, Nat.zero_le _, rfl, rfl, by simp [totalS], rfl, MapIs.made w, (Below.refl _ _).alloc (Nat.le_refl _) _⟩
  case round =>
    obtain ⟨k, hk, rfl, rfl, htl, hd, hmap, hbel⟩ := hrel
    have Hr := Lib.hid hd; clear hd
    have hbs := hbel.size
    by_cases hlt : k < n
    · obtain ⟨b, o, x, A', n', c', rfl, hb, hx, hs1, hnc, hcm, hsl', c0, c1, c2⟩ := (hsl.keep (keep_lt hbel)).file hlt
      have hbw : b < wr.heap.size := Nat.lt_of_lt_of_le hb hbs
      have HX := Lib.hid hx; clear hx
      have hEr := hE.then_ hbel
      have HLen := Lib.hid hsl'.1
      have hn'm : n' ≤ 9223372036854775807 := hsl'.2.1
      cases hp : isPathS x.path
      · have HV := Lib.hid (fileErr_path (prev := ahead FileV.path l k) hp)
        go_wp2_with (go_at_call 83; refine (blob_IsPath _ _ (hEr.alloc _)).mono ?_; rintro e w1 ⟨rfl, hb1⟩; obtain ⟨hc1, hf1⟩ := bcell hb1; have hz1 := grew hb1)
        go_ret
        exact ⟨ret_int (by rw [Hd.out, Hr.out, files_stop HX.out HV.out (by decide)]; rfl), fr_box hbel hb1⟩
      by_cases hlg : (100000 : Int) < n'
      · have HV := Lib.hid (fileErr_large (prev := ahead FileV.path l k) hp (by rw [HLen.out]; exact hlg))
        go_wp2_with (go_at_call 83; refine (blob_IsPath _ _ (hEr.alloc _)).mono ?_; rintro e w1 ⟨rfl, hb1⟩; obtain ⟨hc1, hf1⟩ := bcell hb1; have hz1 := grew hb1)
        go_ret
        exact ⟨ret_int (by rw [Hd.out, Hr.out, files_stop HX.out HV.out (by decide)]; rfl), fr_box hbel hb1⟩
      have HO := Lib.hid (fileErr_rest (prev := ahead FileV.path l k) hp (by rw [HLen.out]; exact hlg))
      by_cases hk0 : 0 < k
      · have hg : decide ((0 : Int) < (k : Int)) = true := by simpa using hk0
        obtain ⟨_, _, y, _, _, _, e0, _, hy, _, _, _, _, d0, _, _⟩ := (hsl.keep (keep_lt hbel)).file (k := k - 1) (by omega)
        cases e0
        have HA := Lib.hid (ahead_pos (f := FileV.path) hk0 hy); clear hy
        cases hle : leS x.path y.path
        · have HV := Lib.hid (show fileErr (ahead FileV.path l k) x = 0 by rw [HO.out, HA.out]; simp [notAfter, hle])
          have hle' := leS_false hle
          go_wp2_with (go_at_call 83; refine (blob_IsPath _ _ (hEr.alloc _)).mono ?_; rintro e w1 ⟨rfl, hb1⟩; obtain ⟨hc1, hf1⟩ := bcell hb1; have hz1 := grew hb1)
          have d1 : w1.cell? ⟨b, o + (k - 1) * 3, none⟩ = some (.string y.path) := by rw [hb1.cell (by show b < _; simp; omega), World.cell?_alloc_lt _ _ _ (by exact hbw)]; exact d0
          have g1 := IntWalk.i64_in ((k : Int) - 1) ⟨by omega, by omega⟩; have g2 : ((k : Int) - 1).toNat = k - 1 := (by omega); have g3 : (0 : Int) ≤ (k : Int) - 1 := (by omega); have g4 : (k : Int) - 1 < n := (by omega)
          go_quiet (fail)
          clear g1 g2 g3 g4
          go_wp2_with (at_mapUpdate; refine wpList_mapUpdate_is _ rfl _ _ _ 118 rfl Tryz.underlying9 Tryz.underlying118 rfl (((hmap.alloc _).call hb1).drewN _) (by unfold maxLen; omega) x.path hs1 (.bool true) rfl rfl ?_; intro w2 hmap2 hg2)
          have hm3 := hasOf_succ HX.out
          rw [hm3] at hmap2
          clear hm3
          have hbel2 := (below_drewN (fr_box hbel hb1) nq).grown hg2 (Nat.le_trans hbs (Nat.le_of_lt hz1)) (fun j hj => by cases hj; exact Nat.le_refl _)
          go_wp2
          (go_round; (case rel => exact ⟨k + 1, by omega, by go_num, by rw [total_succ HX.out]; exact congrArg (Value.int .i64) (by rw [HLen.out]; push_cast; rfl), by rw [total_succ HX.out]; have := HLen.out; omega, by rw [Hr.out]; exact files_round HX.out HV.out, hmap2, hbel2⟩); (case measure => simp [intOf]; omega))
        · have HV := Lib.hid (show fileErr (ahead FileV.path l k) x = 8 by rw [HO.out, HA.out]; simp [notAfter, hle])
          have hle' := leS_true hle
          go_wp2_with (go_at_call 83; refine (blob_IsPath _ _ (hEr.alloc _)).mono ?_; rintro e w1 ⟨rfl, hb1⟩; obtain ⟨hc1, hf1⟩ := bcell hb1; have hz1 := grew hb1)
          have d1 : w1.cell? ⟨b, o + (k - 1) * 3, none⟩ = some (.string y.path) := by rw [hb1.cell (by show b < _; simp; omega), World.cell?_alloc_lt _ _ _ (by exact hbw)]; exact d0
          have g1 := IntWalk.i64_in ((k : Int) - 1) ⟨by omega, by omega⟩; have g2 : ((k : Int) - 1).toNat = k - 1 := (by omega); have g3 : (0 : Int) ≤ (k : Int) - 1 := (by omega); have g4 : (k : Int) - 1 < n := (by omega)
          go_quiet (fail)
          clear g1 g2 g3 g4
          go_wp2
          go_ret
          exact ⟨ret_int (by rw [Hd.out, Hr.out, files_stop HX.out HV.out (by decide)]; rfl), below_drewN (fr_box hbel hb1) _⟩
      · have hg : decide ((0 : Int) < (k : Int)) = false := by simpa using hk0
        have HV := Lib.hid (show fileErr (ahead FileV.path l k) x = 0 by rw [HO.out, show ahead FileV.path l k = none by simp [ahead]; omega]; rfl)
        go_wp2_with (go_at_call 83; refine (blob_IsPath _ _ (hEr.alloc _)).mono ?_; rintro e w1 ⟨rfl, hb1⟩; obtain ⟨hc1, hf1⟩ := bcell hb1; have hz1 := grew hb1)
        go_quiet (fail)
        go_wp2_with (at_mapUpdate; refine wpList_mapUpdate_is _ rfl _ _ _ 118 rfl Tryz.underlying9 Tryz.underlying118 rfl (((hmap.alloc _).call hb1).drewN _) (by unfold maxLen; omega) x.path hs1 (.bool true) rfl rfl ?_; intro w2 hmap2 hg2)
        have hm3 := hasOf_succ HX.out
        rw [hm3] at hmap2
        clear hm3
        have hbel2 := (below_drewN (fr_box hbel hb1) nq).grown hg2 (Nat.le_trans hbs (Nat.le_of_lt hz1)) (fun j hj => by cases hj; exact Nat.le_refl _)
        go_wp2
        (go_round; (case rel => exact ⟨k + 1, by omega, by go_num, by rw [total_succ HX.out]; exact congrArg (Value.int .i64) (by rw [HLen.out]; push_cast; rfl), by rw [total_succ HX.out]; have := HLen.out; omega, by rw [Hr.out]; exact files_round HX.out HV.out, hmap2, hbel2⟩); (case measure => simp [intOf]; omega))
    · have Hk := Lib.hid (show l.take k = l from List.take_of_length_le (by rw [hsl.1]; omega))
      have Hz := Lib.hid (show filesErr none l = 0 by rw [Hr.out, List.drop_eq_nil_of_le (by rw [hsl.1]; omega)]; rfl)
      rw [Hk.out] at hmap htl
      have Hd2 := Lib.hid (show checkFilesS l = if l.any (fun x => clashS l x.path) then 12 else if 2000000 < (totalS l : Int) then 2 else 0 by rw [Hd.out, if_neg (by rw [Hz.out]; simp)])
      have HT := Lib.hid (show totalS (l.take k) = totalS l by rw [Hk.out])
      generalize totalS (l.take k) = tot at *
      go_wp2
      go_loopw [8, 55] (fun _ i wr => ∃ j : Nat, j ≤ n ∧ i = .int .i64 j ∧ (l.take j).any (fun x => clashS l x.path) = false ∧ MapIs Tryz.prog 9 wr w.heap.size k (hasOf l) ∧ Below w.heap.size w wr) (fun _ i _ => n - (intOf i).toNat)
      case atStart => exact ⟨0, Nat.zero_le _, rfl, rfl, hmap, hbel⟩
      case round =>
        clear hmap hbel hbs
        obtain ⟨j, hj, rfl, hno, hmap, hbel⟩ := hrel
        have HN := Lib.hid hno; clear hno
        by_cases hlt' : j < n
        · obtain ⟨b, o, x, A', n', c', rfl, hb, hx, hs1, hnc, hcm, hsl', c0, c1, c2⟩ := (hsl.keep (keep_lt hbel)).file hlt'
          have HX := Lib.hid hx; clear hx
          cases hq : clashS l x.path
          · have HQ := Lib.hid (any_step HX.out HN.out hq)
            go_wp2_with (go_at_call 84; refine (blob_clashes _ _ l _ _ hs1 (hmap.alloc _)).mono ?_; rintro e w1 ⟨rfl, rfl⟩)
            go_round
            case rel => exact ⟨j + 1, by omega, by go_num, HQ.out, hmap.alloc _, fr_alloc hbel _⟩
            case measure => simp [intOf]; omega
          · have HQ := Lib.hid (any_yes (p := fun x => clashS l x.path) HX.out hq)
            go_wp2_with (go_at_call 84; refine (blob_clashes _ _ l _ _ hs1 (hmap.alloc _)).mono ?_; rintro e w1 ⟨rfl, rfl⟩)
            go_ret
            exact ⟨ret_int (by rw [Hd2.out, if_pos HQ.out]), fr_alloc hbel _⟩
        · have HQ := Lib.hid (any_end (by rw [hsl.1]; omega) HN.out)
          by_cases hmany : (2000000 : Int) < tot
          · go_wp2
            go_ret
            exact ⟨ret_int (by rw [Hd2.out, HQ.out, ← HT.out, if_neg (by decide), if_pos hmany]), hbel⟩
          · go_wp2
            go_ret
            exact ⟨ret_int (by rw [Hd2.out, HQ.out, ← HT.out, if_neg (by decide), if_neg (by omega)]), hbel⟩
end Go.Proofs.Sm
