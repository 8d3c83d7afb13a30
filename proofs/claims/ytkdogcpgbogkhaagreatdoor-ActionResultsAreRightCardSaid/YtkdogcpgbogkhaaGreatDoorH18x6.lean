/- Walks: LooksOf and Stands. -/
import Derived.Test.YtkdogcpgbogkhaaGreatDoorH18x5
import Derived.Test.YtkdogcpgbogkhaaGreatDoorH18x2
import Derived.Test.YtkdogcpgbogkhaaGreatDoorH18x1
import Derived.Shelf.Strings.FuncGrows
import Derived.Test.YtkdogcpgbogkhaaGreatDoorH18x4
import Derived.StillTailTactics
import Derived.Deep.RegionHeld3
import Derived.Deep.RegionWith
import Derived.Sort.OwnSorted
namespace Go.Proofs.Sm
open Go.RowKit

theorem stood_look : Tryz.prog.stoodInHeld 38 = false := by kernel_rfl
theorem fields_look : Tryz.prog.fieldsOf 38 = #[{ name := "Path", type := 9, offset := 0, embedded := false, tag := "", pkgPath := "", byteOffset := 0 },
    { name := "Digest", type := 9, offset := 1, embedded := false, tag := "", pkgPath := "", byteOffset := 16 },
    { name := "Run", type := 4, offset := 2, embedded := false, tag := "", pkgPath := "", byteOffset := 32 }] := by simp [Program.fieldsOf, Tryz.underlying38]
/-- '!=' on looks -/
theorem neq_look (x y : Look) (w : World) : (binOp .neq 38 (.agg #[.string x.path, .string x.digest, .bool x.run]) (.agg #[.string y.path, .string y.digest, .bool y.run])).run Tryz.prog w
   = .ok (.bool (!lookEq x y)) w := by
  rw [run_neq_struct, run_equalIn_agg _ _ _ _ _ (by rw [fields_look]; exact Tryz.underlying38) stood_look, fields_look]
  simp [Op.eqFields, go_sem, Tryz.underlying9, Tryz.underlying4, lookEq]
  repeat' split
  all_goals simp_all

set_option maxRecDepth 100000 in
theorem ref5_SameLooks (A A' : Option Addr) (n n' c c' : Nat) (l l' : List Look) (w : World) (hsl : Sl w (Lt w.heap.size) A n l) (hsl' : Sl w (Lt w.heap.size) A' n' l') :
    Calls Tryz.prog 50 #[.slice A n c, .slice A' n' c'] w fun e w' => e = .returned (.bool (sameLooksS l l')) ∧ Below w.heap.size w w' := by
  have hm : n ≤ 9223372036854775807 := hsl.2.1
  have hm' : n' ≤ 9223372036854775807 := hsl'.2.1
  by_cases hnn : n = n'
  · obtain rfl : n' = n := hnn.symm
    go_enter Tryz.func50, Tryz.ntmps50
    go_wp2
    go_loopw [5] (fun i wr => ∃ k : Nat, k ≤ n' ∧ i = .int .i64 k ∧ sameLooksS l l' = sameLooksS (l.drop k) (l'.drop k) ∧ Below w.heap.size w wr) (fun i _ => n' - (intOf i).toNat)
    case atStart => exact ⟨0, Nat.zero_le _, rfl, rfl, Below.refl _ _⟩
    case round =>
      obtain ⟨k, hk, rfl, hd, hbel⟩ := hrel
      have Hr := Lib.hid hd; clear hd
      by_cases hlt : k < n'
      · obtain ⟨b, o, x, rfl, hb, hx, hs1, hs2, c0, c1, c2⟩ := (hsl.keep (keep_lt hbel)).look hlt
        obtain ⟨b', o', x', rfl, hb', hx', hs1', hs2', c0', c1', c2'⟩ := (hsl'.keep (keep_lt hbel)).look hlt
        have HX := Lib.hid hx; clear hx
        have HX' := Lib.hid hx'; clear hx'
        have hne := neq_look x x'
        cases hq : lookEq x x'
        · rw [hq] at hne
          have HQ := Lib.hid hq; clear hq
          go_wp2
          go_quiet (fail)
          go_wp2
          go_ret
          exact ⟨ret_bool (by rw [Hr.out, sameLooks_stop HX.out HX'.out HQ.out]), below_drewN hbel _⟩
        · rw [hq] at hne
          have HQ := Lib.hid hq; clear hq
          go_wp2
          go_quiet (fail)
          go_wp2
          go_round
          case rel => exact ⟨k + 1, by omega, by go_num, by rw [Hr.out, sameLooks_round HX.out HX'.out HQ.out], below_drewN hbel _⟩
          case measure => simp [intOf]; omega
      · have HE := Lib.hid (sameLooks_end (l := l) (r := l') (k := k) (by rw [hsl.1]; omega) (by rw [hsl'.1]; omega))
        go_wp2
        go_ret
        exact ⟨ret_bool (by rw [Hr.out, HE.out]), hbel⟩
  · have hb : ((n : Int) == (n' : Int)) = false := by simp; omega
    have hb' : ((n : Int) != (n' : Int)) = true := by simp; omega
    go_enter Tryz.func50, Tryz.ntmps50
    go_wp2
    go_ret
    exact ⟨ret_bool (by rw [sameLooks_length (by rw [hsl.1, hsl'.1]; exact hnn)]), Below.refl _ _⟩

set_option maxRecDepth 100000 in
theorem slices_EqualLook (A A' : Option Addr) (n n' c c' : Nat) (l l' : List Look) (w : World) (hsl : Sl w (Lt w.heap.size) A n l) (hsl' : Sl w (Lt w.heap.size) A' n' l') :
    Calls Tryz.prog 55 #[.slice A n c, .slice A' n' c'] w fun e w' => e = .returned (.bool (sameLooksS l l')) ∧ Below w.heap.size w w' := by
  have hm : n ≤ 9223372036854775807 := hsl.2.1
  have hm' : n' ≤ 9223372036854775807 := hsl'.2.1
  by_cases hnn : n = n'
  · obtain rfl : n' = n := hnn.symm
    go_enter Tryz.func55, Tryz.ntmps55
    go_wp2
    go_loopw [5, 13] (fun _ i wr => ∃ k : Nat, k ≤ n' ∧ i = .int .i64 k ∧ sameLooksS l l' = sameLooksS (l.drop k) (l'.drop k) ∧ Below w.heap.size w wr) (fun _ i _ => n' - (intOf i).toNat)
    case atStart => exact ⟨0, Nat.zero_le _, rfl, rfl, Below.refl _ _⟩
    case round =>
      obtain ⟨k, hk, rfl, hd, hbel⟩ := hrel
      have Hr := Lib.hid hd; clear hd
      by_cases hlt : k < n'
      · obtain ⟨b, o, x, rfl, hb, hx, hs1, hs2, c0, c1, c2⟩ := (hsl.keep (keep_lt hbel)).look hlt
        obtain ⟨b', o', x', rfl, hb', hx', hs1', hs2', c0', c1', c2'⟩ := (hsl'.keep (keep_lt hbel)).look hlt
        have HX := Lib.hid hx; clear hx
        have HX' := Lib.hid hx'; clear hx'
        have hne := neq_look x x'
        cases hq : lookEq x x'
        · rw [hq] at hne
          have HQ := Lib.hid hq; clear hq
          go_wp2
          go_quiet (fail)
          go_wp2
          go_ret
          exact ⟨ret_bool (by rw [Hr.out, sameLooks_stop HX.out HX'.out HQ.out]), below_drewN hbel _⟩
        · rw [hq] at hne
          have HQ := Lib.hid hq; clear hq
          go_wp2
          go_quiet (fail)
          go_wp2
          go_round
          case rel => exact ⟨k + 1, by omega, by go_num, by rw [Hr.out, sameLooks_round HX.out HX'.out HQ.out], below_drewN hbel _⟩
          case measure => simp [intOf]; omega
      · have HE := Lib.hid (sameLooks_end (l := l) (r := l') (k := k) (by rw [hsl.1]; omega) (by rw [hsl'.1]; omega))
        go_wp2
        go_ret
        exact ⟨ret_bool (by rw [Hr.out, HE.out]), hbel⟩
  · have hb : ((n : Int) == (n' : Int)) = false := by simp; omega
    have hb' : ((n : Int) != (n' : Int)) = true := by simp; omega
    go_enter Tryz.func55, Tryz.ntmps55
    go_wp2
    go_ret
    exact ⟨ret_bool (by rw [sameLooks_length (by rw [hsl.1, hsl'.1]; exact hnn)]), Below.refl _ _⟩
end Go.Proofs.Sm

namespace Go.Proofs.Sm
open Go.RowKit

/-- What 'has' holds. -/
def hasOf (l : List FileV) : List UInt8 → Option Value := fun key => if hasPath l key then some (.bool true) else none

theorem has_look {m nn : Nat} {l : List FileV} {w : World} (hmap : MapIs Tryz.prog 9 w m nn (hasOf l)) {s : ByteArray} (hs : s.size ≤ maxLen) :
    (Instr.lookup 150 (.map (some m)) (.string s) false).run Tryz.prog w = .ok (.bool (hasPath l s.data.toList)) w := by
  have hz : ∀ w, (zeroValue 4).run Tryz.prog w = .ok (.bool false) w := fun w => by kernel_rfl
  rw [hmap.look Tryz.underlying9 Tryz.underlying150 (hz w) hs, hasOf]
  cases hasPath l s.data.toList <;> rfl

set_option maxRecDepth 100000 in
theorem blob_clashes (m nn : Nat) (l : List FileV) (s : ByteArray) (w : World) (hs : s.size ≤ maxLen) (hmap : MapIs Tryz.prog 9 w m nn (hasOf l)) :
    Calls Tryz.prog 90 #[.map (some m), .string s] w fun e w' => e = .returned (.bool (clashS l s)) ∧ w = w' := by
  have hm : s.size ≤ 9223372036854775807 := hs
  go_enter Tryz.func90, Tryz.ntmps90
  go_wp2
  go_loop [5, 8] (fun _ i => ∃ k : Nat, k ≤ s.size ∧ i = .int .i64 k ∧ clashS l s = clashFrom l s (s.size - k) k) (fun _ i => s.size - (intOf i).toNat)
  case atStart => exact ⟨0, Nat.zero_le _, rfl, rfl⟩
  case round =>
    obtain ⟨k, hk, rfl, hd⟩ := hrel
    have Hr := Lib.hid hd; clear hd
    by_cases hlt : k < s.size
    · have hlk := has_look hmap (s := s.extract 0 k) (by rw [ByteArray.size_extract]; omega)
      have e0 : (s.extract 0 k).data.toList = s.data.toList.take k := by simp
      rw [e0] at hlk
      cases h47 : ((s[k].toNat : Int) == 47)
      · have HS := Lib.hid (clash_other (l := l) hlt (by simpa using h47))
        go_wp2
        go_round
        case rel => exact ⟨k + 1, by omega, by go_num, by rw [Hr.out, HS.out]⟩
        case measure => simp [intOf]; omega
      · cases hp : hasPath l (s.data.toList.take k)
        · have HS := Lib.hid (clash_slash (l := l) hlt hp)
          rw [hp] at hlk
          go_wp2
          go_round
          case rel => exact ⟨k + 1, by omega, by go_num, by rw [Hr.out, HS.out]⟩
          case measure => simp [intOf]; omega
        · have HS := Lib.hid (clash_yes (l := l) hlt (by simpa using h47) hp)
          rw [hp] at hlk
          go_wp2
          go_ret
          exact ⟨ret_bool (by rw [Hr.out, HS.out]), rfl⟩
    · go_wp2
      go_ret
      exact ⟨ret_bool (by rw [Hr.out, show s.size - k = 0 by omega]; rfl), rfl⟩
end Go.Proofs.Sm

namespace Go.Proofs.Sm
open Go.RowKit

theorem hasOf_succ {l : List FileV} {k : Nat} {x : FileV} (hx : l[k]? = some x) : (fun key => if key = x.path.data.toList then some (Value.bool true) else hasOf (l.take k) key) = hasOf (l.take (k + 1)) := by
  funext key
  unfold hasOf
  rw [hasPath_succ hx]
  by_cases h : key = x.path.data.toList
  · subst h
    simp
  · have h' : (x.path.data.toList == key) = false := by simpa using fun e => h e.symm
    rw [if_neg h, h', Bool.or_false]

set_option maxRecDepth 100000 in
theorem blob_CheckFiles (A : Option Addr) (n c : Nat) (l : List FileV) (w : World) (hE : Env w) (hsl : Sl w (Lt w.heap.size) A n l) : Calls Tryz.prog 53 #[.slice A n c] w fun e w' => e = .returned (.int .i64 (checkFilesS l)) ∧ Below w.heap.size w w' := by
  have hm : n ≤ 9223372036854775807 := hsl.2.1
  have hmm := @run_makeMap Tryz.prog
  have HL := Lib.hid hsl.1
  by_cases hbig : (1000 : Int) < n
  · go_enter Tryz.func53, Tryz.ntmps53
    go_wp2
    go_ret; exact ⟨ret_int (by rw [checkFilesS, HL.out, if_pos hbig]), Below.refl _ _⟩
  have Hd := Lib.hid (show checkFilesS l = if filesErr none l ≠ 0 then filesErr none l else if l.any (fun x => clashS l x.path) then 12 else if 2000000 < (totalS l : Int) then 2 else 0 by rw [checkFilesS, HL.out, if_neg hbig])
  go_enter Tryz.func53, Tryz.ntmps53
  go_wp2
  go_loopw [3, 5, 15] (fun t _ i wr => ∃ k : Nat, k ≤ n ∧ i = .int .i64 k ∧ t = .int .i64 (totalS (l.take k) : Nat) ∧ totalS (l.take k) ≤ 100000 * k ∧ filesErr none l = filesErr (ahead FileV.path l k) (l.drop k) ∧ MapIs Tryz.prog 9 wr w.heap.size k (hasOf (l.take k)) ∧ Below w.heap.size w wr) (fun _ _ i _ => n - (intOf i).toNat)
  case atStart => exact ⟨0, Nat.zero_le _, rfl, rfl, by simp [totalS], rfl, MapIs.made w, (Below.refl _ _).alloc (Nat.le_refl _) _⟩
  case round =>
    obtain ⟨k, hk, rfl, rfl, htl, hd, hmap, hbel⟩ := hrel
    have Hr := Lib.hid hd; clear hd
    have hbs := hbel.size
    by_cases hlt : k < n
    · obtain ⟨b, o, x, A', n', c', rfl, hb, hx, hs1, hnc, hcm, hsl', c0, c1, c2⟩ := (hsl.keep (keep_lt hbel)).file hlt
      have hbw : b < wr.heap.size := Nat.lt_of_lt_of_le hb hbs
      have HX := Lib.hid hx; clear hx
      have hEr := hE.then_ hbel
      have HLen := Lib.hid hsl'.1
      have hn'm : n' ≤ 9223372036854775807 := hsl'.2.1
      cases hp : isPathS x.path
      · have HV := Lib.hid (fileErr_path (prev := ahead FileV.path l k) hp)
        go_wp2_with (go_at_call 75; refine (blob_IsPath _ _ (hEr.alloc _)).mono ?_; rintro e w1 ⟨rfl, hb1⟩; obtain ⟨hc1, hf1⟩ := bcell hb1; have hz1 := grew hb1)
        go_ret
        exact ⟨ret_int (by rw [Hd.out, Hr.out, files_stop HX.out HV.out (by decide)]; rfl), fr_box hbel hb1⟩
      by_cases hlg : (100000 : Int) < n'
      · have HV := Lib.hid (fileErr_large (prev := ahead FileV.path l k) hp (by rw [HLen.out]; exact hlg))
        go_wp2_with (go_at_call 75; refine (blob_IsPath _ _ (hEr.alloc _)).mono ?_; rintro e w1 ⟨rfl, hb1⟩; obtain ⟨hc1, hf1⟩ := bcell hb1; have hz1 := grew hb1)
        go_ret
        exact ⟨ret_int (by rw [Hd.out, Hr.out, files_stop HX.out HV.out (by decide)]; rfl), fr_box hbel hb1⟩
      have HO := Lib.hid (fileErr_rest (prev := ahead FileV.path l k) hp (by rw [HLen.out]; exact hlg))
      by_cases hk0 : 0 < k
      · have hg : decide ((0 : Int) < (k : Int)) = true := by simpa using hk0
        obtain ⟨_, _, y, _, _, _, e0, _, hy, _, _, _, _, d0, _, _⟩ := (hsl.keep (keep_lt hbel)).file (k := k - 1) (by omega)
        cases e0
        have HA := Lib.hid (ahead_pos (f := FileV.path) hk0 hy); clear hy
        cases hle : leS x.path y.path
        · have HV := Lib.hid (show fileErr (ahead FileV.path l k) x = 0 by rw [HO.out, HA.out]; simp [notAfter, hle])
          have hle' := leS_false hle
          go_wp2_with (go_at_call 75; refine (blob_IsPath _ _ (hEr.alloc _)).mono ?_; rintro e w1 ⟨rfl, hb1⟩; obtain ⟨hc1, hf1⟩ := bcell hb1; have hz1 := grew hb1)
          have d1 : w1.cell? ⟨b, o + (k - 1) * 3, none⟩ = some (.string y.path) := by rw [hb1.cell (by show b < _; simp; omega), World.cell?_alloc_lt _ _ _ (by exact hbw)]; exact d0
          have g1 := IntWalk.i64_in ((k : Int) - 1) ⟨by omega, by omega⟩; have g2 : ((k : Int) - 1).toNat = k - 1 := (by omega); have g3 : (0 : Int) ≤ (k : Int) - 1 := (by omega); have g4 : (k : Int) - 1 < n := (by omega)
          go_quiet (fail)
          clear g1 g2 g3 g4
          go_wp2_with (at_mapUpdate; refine wpList_mapUpdate_is _ rfl _ _ _ 150 rfl Tryz.underlying9 Tryz.underlying150 rfl (((hmap.alloc _).call hb1).drewN _) (by unfold maxLen; omega) x.path hs1 (.bool true) rfl rfl ?_; intro w2 hmap2 hg2)
          have hm3 := hasOf_succ HX.out
          rw [hm3] at hmap2
          clear hm3
          have hbel2 := (below_drewN (fr_box hbel hb1) nq).grown hg2 (Nat.le_trans hbs (Nat.le_of_lt hz1)) (fun j hj => by cases hj; exact Nat.le_refl _)
          go_wp2
          (go_round; (case rel => exact ⟨k + 1, by omega, by go_num, by rw [total_succ HX.out]; exact congrArg (Value.int .i64) (by rw [HLen.out]; push_cast; rfl), by rw [total_succ HX.out]; have := HLen.out; omega, by rw [Hr.out]; exact files_round HX.out HV.out, hmap2, hbel2⟩); (case measure => simp [intOf]; omega))
        · have HV := Lib.hid (show fileErr (ahead FileV.path l k) x = 8 by rw [HO.out, HA.out]; simp [notAfter, hle])
          have hle' := leS_true hle
          go_wp2_with (go_at_call 75; refine (blob_IsPath _ _ (hEr.alloc _)).mono ?_; rintro e w1 ⟨rfl, hb1⟩; obtain ⟨hc1, hf1⟩ := bcell hb1; have hz1 := grew hb1)
          have d1 : w1.cell? ⟨b, o + (k - 1) * 3, none⟩ = some (.string y.path) := by rw [hb1.cell (by show b < _; simp; omega), World.cell?_alloc_lt _ _ _ (by exact hbw)]; exact d0
          have g1 := IntWalk.i64_in ((k : Int) - 1) ⟨by omega, by omega⟩; have g2 : ((k : Int) - 1).toNat = k - 1 := (by omega); have g3 : (0 : Int) ≤ (k : Int) - 1 := (by omega); have g4 : (k : Int) - 1 < n := (by omega)
          go_quiet (fail)
          clear g1 g2 g3 g4
          go_wp2
          go_ret
          exact ⟨ret_int (by rw [Hd.out, Hr.out, files_stop HX.out HV.out (by decide)]; rfl), below_drewN (fr_box hbel hb1) _⟩
      · have hg : decide ((0 : Int) < (k : Int)) = false := by simpa using hk0
        have HV := Lib.hid (show fileErr (ahead FileV.path l k) x = 0 by rw [HO.out, show ahead FileV.path l k = none by simp [ahead]; omega]; rfl)
        go_wp2_with (go_at_call 75; refine (blob_IsPath _ _ (hEr.alloc _)).mono ?_; rintro e w1 ⟨rfl, hb1⟩; obtain ⟨hc1, hf1⟩ := bcell hb1; have hz1 := grew hb1)
        go_quiet (fail)
        go_wp2_with (at_mapUpdate; refine wpList_mapUpdate_is _ rfl _ _ _ 150 rfl Tryz.underlying9 Tryz.underlying150 rfl (((hmap.alloc _).call hb1).drewN _) (by unfold maxLen; omega) x.path hs1 (.bool true) rfl rfl ?_; intro w2 hmap2 hg2)
        have hm3 := hasOf_succ HX.out
        rw [hm3] at hmap2
        clear hm3
        have hbel2 := (below_drewN (fr_box hbel hb1) nq).grown hg2 (Nat.le_trans hbs (Nat.le_of_lt hz1)) (fun j hj => by cases hj; exact Nat.le_refl _)
        go_wp2
        (go_round; (case rel => exact ⟨k + 1, by omega, by go_num, by rw [total_succ HX.out]; exact congrArg (Value.int .i64) (by rw [HLen.out]; push_cast; rfl), by rw [total_succ HX.out]; have := HLen.out; omega, by rw [Hr.out]; exact files_round HX.out HV.out, hmap2, hbel2⟩); (case measure => simp [intOf]; omega))
    · have Hk := Lib.hid (show l.take k = l from List.take_of_length_le (by rw [hsl.1]; omega))
      have Hz := Lib.hid (show filesErr none l = 0 by rw [Hr.out, List.drop_eq_nil_of_le (by rw [hsl.1]; omega)]; rfl)
      rw [Hk.out] at hmap htl
      have Hd2 := Lib.hid (show checkFilesS l = if l.any (fun x => clashS l x.path) then 12 else if 2000000 < (totalS l : Int) then 2 else 0 by rw [Hd.out, if_neg (by rw [Hz.out]; simp)])
      have HT := Lib.hid (show totalS (l.take k) = totalS l by rw [Hk.out])
      generalize totalS (l.take k) = tot at *
      go_wp2
      go_loopw [8, 55] (fun _ i wr => ∃ j : Nat, j ≤ n ∧ i = .int .i64 j ∧ (l.take j).any (fun x => clashS l x.path) = false ∧ MapIs Tryz.prog 9 wr w.heap.size k (hasOf l) ∧ Below w.heap.size w wr) (fun _ i _ => n - (intOf i).toNat)
      case atStart => exact ⟨0, Nat.zero_le _, rfl, rfl, hmap, hbel⟩
      case round =>
        clear hmap hbel hbs
        obtain ⟨j, hj, rfl, hno, hmap, hbel⟩ := hrel
        have HN := Lib.hid hno; clear hno
        by_cases hlt' : j < n
        · obtain ⟨b, o, x, A', n', c', rfl, hb, hx, hs1, hnc, hcm, hsl', c0, c1, c2⟩ := (hsl.keep (keep_lt hbel)).file hlt'
          have HX := Lib.hid hx; clear hx
          cases hq : clashS l x.path
          · have HQ := Lib.hid (any_step HX.out HN.out hq)
            go_wp2_with (go_at_call 90; refine (blob_clashes _ _ l _ _ hs1 (hmap.alloc _)).mono ?_; rintro e w1 ⟨rfl, rfl⟩)
            go_round
            case rel => exact ⟨j + 1, by omega, by go_num, HQ.out, hmap.alloc _, fr_alloc hbel _⟩
            case measure => simp [intOf]; omega
          · have HQ := Lib.hid (any_yes (p := fun x => clashS l x.path) HX.out hq)
            go_wp2_with (go_at_call 90; refine (blob_clashes _ _ l _ _ hs1 (hmap.alloc _)).mono ?_; rintro e w1 ⟨rfl, rfl⟩)
            go_ret
            exact ⟨ret_int (by rw [Hd2.out, if_pos HQ.out]), fr_alloc hbel _⟩
        · have HQ := Lib.hid (any_end (by rw [hsl.1]; omega) HN.out)
          by_cases hmany : (2000000 : Int) < tot
          · go_wp2
            go_ret
            exact ⟨ret_int (by rw [Hd2.out, HQ.out, ← HT.out, if_neg (by decide), if_pos hmany]), hbel⟩
          · go_wp2
            go_ret
            exact ⟨ret_int (by rw [Hd2.out, HQ.out, ← HT.out, if_neg (by decide), if_neg (by omega)]), hbel⟩
end Go.Proofs.Sm

namespace Go.Proofs.Sm
open Go.RowKit

end Go.Proofs.Sm

namespace Go.Proofs.Sm
open Go.RowKit

end Go.Proofs.Sm

namespace Go.Proofs.Sm
open Go.RowKit

/-- the package-level variables, the table of powers of ten among them -/
structure Env2 (w : World) : Prop extends Env w where
  pow : Lib.TabIs Tryz.prog w "internal/strconv.uint64pow10" .u64 Lib.pow10Tab
theorem Env2.of_heap {w w' : World} (h : Env2 w) (hs : w.heap.size ≤ w'.heap.size) (hk : ∀ k, k < 8 → w'.heap[k]? = w.heap[k]?) : Env2 w' where
  toEnv := h.toEnv.of_heap hs hk
  pow := by
    have hg : Tryz.prog.globalNamed "internal/strconv.uint64pow10" = some 5 := by kernel_rfl
    have h1 := h.pow
    unfold Lib.TabIs World.var? at *
    rw [hg] at *
    simp only [Option.bind_some] at *
    rw [hk 5 (by decide)]
    exact h1
theorem Env2.then_ {w w' : World} (h : Env2 w) (hb : Below w.heap.size w w') : Env2 w' := h.of_heap hb.size fun k hk => hb.block k (Nat.lt_of_lt_of_le hk h.size)
theorem Env2.alloc {w : World} (h : Env2 w) (o : Obj) : Env2 (w.alloc o) := h.then_ ((Below.refl _ _).alloc (Nat.le_refl _) o)

theorem untold_pays (w : World) : PredGrows Tryz.prog 57 #[] untold w := by
  intro W x hx _
  show Calls Tryz.prog 57 #[.int .i32 (x : Int)] W _
  go_enter Tryz.func57, Tryz.ntmps57
  go_wp2
  all_goals (go_ret; refine ⟨ret_bool ?_, Below.refl _ _⟩; rw [Bool.eq_iff_iff]; simp [untold, textI] <;> omega)
theorem told_any (s : ByteArray) (w : World) : Calls Tryz.prog 56 #[.string s, .func (.func 57) #[] #[]] w fun e w' => e = .returned (.bool (!(s.data.toList.all textB))) ∧ Below w.heap.size w w' :=
  (Tryz.strings_ContainsFunc_grows 57 #[] (enters_of Tryz.func57 (by kernel_rfl) rfl) untold s w (untold_pays w)).mono fun _ _ h => ⟨by rw [h.1, untold_any], h.2⟩

end Go.Proofs.Sm

namespace Go.Proofs.Sm
open Go.RowKit

/-- how an action's slices lie -/
structure ActP where
  A1 : Option Addr
  n1 : Nat
  c1 : Nat
  A2 : Option Addr
  n2 : Nat
  c2 : Nat
  A3 : Option Addr
  n3 : Nat
  c3 : Nat
  A4 : Option Addr
  n4 : Nat
  c4 : Nat
structure ActS (w : World) (S : Nat → Prop) (a : ActionV) (q : ActP) : Prop where
  tool : a.tool.size ≤ maxLen
  commands : Sl w S q.A1 q.n1 a.commands
  vars : Sl w S q.A2 q.n2 a.vars
  outputs : Sl w S q.A3 q.n3 a.outputs
  needs : Sl w S q.A4 q.n4 a.needs
  time : InInt a.time
theorem ActS.keep {w w' : World} {S : Nat → Prop} {a : ActionV} {q : ActP} (h : ActS w S a q) (hk : ∀ k, S k → w'.heap[k]? = w.heap[k]?) : ActS w' S a q :=
  ⟨h.tool, h.commands.keep hk, h.vars.keep hk, h.outputs.keep hk, h.needs.keep hk, h.time⟩
def wkCells (a : ActionV) (q : ActP) (mi mw ml : Nat) (told : ByteArray) (total : Int) : List Value :=
  [.string a.tool, .slice q.A1 q.n1 q.c1, .slice q.A2 q.n2 q.c2, .slice q.A3 q.n3 q.c3, .slice q.A4 q.n4 q.c4, .int .i64 a.time, .map (some mi), .map (some mw), .map (some ml), .string told, .int .i64 total]
/-- a worker: what it wrote and what it looked at lies in maps of its own; files lie in blocks of S -/
structure Wk (w : World) (S : Nat → Prop) (B g mi mw ml : Nat) (q : ActP) (a : ActionV) (F : List FileV) (M : Nat) (s : ExSt) : Prop where
  env : Env2 w
  envB : 8 ≤ B
  blk : Arr w g 102 (wkCells a q mi mw ml ⟨s.told.toArray⟩ (s.total : Nat))
  act : ActS w (Lt B) a q
  inp : FilesIn Tryz.prog 9 w (Lt B) mi F.length F
  new : FilesIn Tryz.prog 9 w (fun k => B ≤ k ∧ S k) mw s.written.length s.written
  lok : LooksIn Tryz.prog 9 w ml s.looks.length s.looks
  ok : ExOk a F M s
  low : B ≤ g ∧ B ≤ mi ∧ B ≤ mw ∧ B ≤ ml
  dif : mi ≠ mw ∧ mi ≠ ml ∧ mw ≠ ml ∧ g ≠ mi ∧ g ≠ mw ∧ g ≠ ml
  lowS : ∀ k, k < B → S k
  sep : ∀ k, S k → k < w.heap.size ∧ k ≠ g ∧ k ≠ mi ∧ k ≠ mw ∧ k ≠ ml
  many : F.length ≤ 1000
  small : ∀ y ∈ F, y.bytes.length ≤ 100000
section
variable {w w' : World} {S : Nat → Prop} {B g mi mw ml : Nat} {q : ActP} {a : ActionV} {F : List FileV} {M : Nat} {s : ExSt}
theorem Wk.wri (h : Wk w S B g mi mw ml q a F M s) : FilesIn Tryz.prog 9 w S mw s.written.length s.written := h.new.more fun _ hk => hk.2
/-- what touches neither the worker nor the files keeps it -/
theorem Wk.keep {X : Nat → Prop} (h : Wk w S B g mi mw ml q a F M s) (hk : Kp X w w') (hg : ¬ X g) (hi : ¬ X mi) (hw : ¬ X mw) (hl : ¬ X ml) (hS : ∀ k, S k → ¬ X k) : Wk w' S B g mi mw ml q a F M s := by
  have hb : ∀ k, k < w.heap.size → ¬ X k → w'.heap[k]? = w.heap[k]? := hk.block
  have hSk : ∀ k, S k → w'.heap[k]? = w.heap[k]? := fun k hh => hb k (h.sep k hh).1 (hS k hh)
  have hB : ∀ k, Lt B k → w'.heap[k]? = w.heap[k]? := fun k hh => hSk k (h.lowS k hh)
  have hBw : 8 ≤ w.heap.size := h.env.size
  exact ⟨h.env.of_heap hk.size fun k hh => hB k (Nat.lt_of_lt_of_le hh h.envB), h.envB, h.blk.keep (hb g h.blk.lt hg), h.act.keep hB, h.inp.keep (hb mi h.inp.lt hi) hB, h.new.keep (hb mw h.new.lt hw) fun k hk => hSk k hk.2, MapIs.keep h.lok (hb ml (MapIs.lt h.lok) hl),
    h.ok, h.low, h.dif, h.lowS, fun k hh => ⟨Nat.lt_of_lt_of_le (h.sep k hh).1 hk.size, (h.sep k hh).2⟩, h.many, h.small⟩
theorem Wk.call (h : Wk w S B g mi mw ml q a F M s) (hb : Below w.heap.size w w') : Wk w' S B g mi mw ml q a F M s :=
  h.keep (X := fun _ => False) (.of hb) (fun h => h) (fun h => h) (fun h => h) (fun h => h) fun _ _ h => h
theorem Wk.up {M' : Nat} (h : Wk w S B g mi mw ml q a F M s) (hM : M ≤ M') : Wk w S B g mi mw ml q a F M' s := { h with ok := h.ok.more hM }
end
def noFile : Value := .agg #[.string ⟨#[]⟩, .bool false, .slice none 0 0]
/-- what is found -/
def FindPost (S : Nat → Prop) (B g mi mw ml : Nat) (q : ActP) (a : ActionV) (F : List FileV) (M : Nat) (s : ExSt) (p : ByteArray) (w : World) (e : Ending) (w' : World) : Prop :=
  Kp (fun k => k = ml) w w' ∧ Wk w' S B g mi mw ml q a F (M + noneN (findE p F s).1) (findE p F s).2 ∧ match (findE p F s).1 with
    | none => e = .returned (.tuple #[noFile, .bool false])
    | some x => ∃ v, FileVal w' S x v ∧ e = .returned (.tuple #[v, .bool true])
section
variable {w w' : World} {S : Nat → Prop} {B g mi mw ml : Nat} {q : ActP} {a : ActionV} {F : List FileV} {M : Nat} {s : ExSt} {p : ByteArray}
theorem find_old {x : FileV} (h : s.written.find? (eqp p) = some x) : findE p F s = (some x, s) := by unfold findE; rw [h]
theorem find_new (h : s.written.find? (eqp p) = none) : findE p F s = (F.find? (eqp p), { s with looks := noteS s.looks (lookAtS F p) }) := by unfold findE; rw [h]
theorem find_seen (h : s.written.find? (eqp p) = none) (hl : (keyL s.looks p.data.toList).isSome = true) : findE p F s = (F.find? (eqp p), s) := by
  rw [find_new h, note_same (by rw [lookAt_path]; exact hl)]
theorem FindPost.old {x : FileV} {v : Value} (h : Wk w S B g mi mw ml q a F M s) (hx : s.written.find? (eqp p) = some x) (hv : FileVal w S x v) (hb : Below w.heap.size w w') : FindPost S B g mi mw ml q a F M s p w (.returned (.tuple #[v, .bool true])) w' := by
  unfold FindPost
  rw [find_old hx]
  exact ⟨.of hb, h.call hb, v, hv.keep fun k hk => hb.block k (h.sep k hk).1, rfl⟩
theorem FindPost.seen {x : FileV} {v : Value} (h : Wk w S B g mi mw ml q a F M s) (hx : s.written.find? (eqp p) = none) (hl : (keyL s.looks p.data.toList).isSome = true) (hF : F.find? (eqp p) = some x) (hv : FileVal w S x v) (hb : Below w.heap.size w w') : FindPost S B g mi mw ml q a F M s p w (.returned (.tuple #[v, .bool true])) w' := by
  unfold FindPost
  rw [find_seen hx hl, hF]
  exact ⟨.of hb, h.call hb, v, hv.keep fun k hk => hb.block k (h.sep k hk).1, rfl⟩
theorem FindPost.seenNo (h : Wk w S B g mi mw ml q a F M s) (hx : s.written.find? (eqp p) = none) (hl : (keyL s.looks p.data.toList).isSome = true) (hF : F.find? (eqp p) = none) (hb : Below w.heap.size w w') : FindPost S B g mi mw ml q a F M s p w (.returned (.tuple #[noFile, .bool false])) w' := by
  unfold FindPost
  rw [find_seen hx hl, hF]
  exact ⟨.of hb, (h.call hb).up (Nat.le_add_right _ _), rfl⟩
/-- a look is put to the others -/
theorem Wk.note {w1 w2 : World} (h : Wk w S B g mi mw ml q a F M s) (hb : Below w.heap.size w w1) (hx : s.written.find? (eqp p) = none) (hl : keyL s.looks p.data.toList = none)
    (hm : MapIs Tryz.prog 9 w2 ml (s.looks.length + 1) (fun key => if key = p.data.toList then some (lookVal (lookAtS F p)) else (keyL s.looks key).map lookVal)) (hg : w1.grownBy w2 (some ml)) :
    Kp (fun k => k = ml) w w2 ∧ Wk w2 S B g mi mw ml q a F (M + noneN (findE p F s).1) (findE p F s).2 := by
  have hk : Kp (fun k => k = ml) w w2 := (Kp.of hb).grown hg fun k hk => .inl (by cases hk; rfl)
  have hok := h.ok.find p
  rw [find_new hx] at hok ⊢
  refine ⟨hk, ?_⟩
  have h1 : Wk w1 S B g mi mw ml q a F M s := h.call hb
  have hne : ∀ k, k < w1.heap.size → k ≠ ml → w2.heap[k]? = w1.heap[k]? := fun k h1 h2 => hg.block k h1 fun e => h2 (by cases e; rfl)
  have hSk : ∀ k, S k → w2.heap[k]? = w1.heap[k]? := fun k hh => hne k (h1.sep k hh).1 (h1.sep k hh).2.2.2.2
  have hB : ∀ k, Lt B k → w2.heap[k]? = w1.heap[k]? := fun k hh => hSk k (h.lowS k hh)
  have hlk := LooksIn.put (P := Tryz.prog) (k := 9) (x := lookAtS F p) (q := s.looks) (w' := w2) (m := ml) (n := s.looks.length + 1) (by rw [lookAt_path]; exact hl) (by rw [lookAt_path]; exact hm)
  exact ⟨h1.env.of_heap hg.size fun k hh => hB k (Nat.lt_of_lt_of_le hh h.envB), h.envB, h1.blk.keep (hne g h1.blk.lt h.dif.2.2.2.2.2), h1.act.keep hB, h1.inp.keep (hne mi h1.inp.lt h.dif.2.1) hB, h1.new.keep (hne mw h1.new.lt h.dif.2.2.1) fun k hk => hSk k hk.2,
    hlk.tight Tryz.underlying9 hok.looks.sorted, hok, h.low, h.dif, h.lowS, fun k hh => ⟨Nat.lt_of_lt_of_le (h1.sep k hh).1 hg.size, (h.sep k hh).2⟩, h.many, h.small⟩
theorem Kp.low {X : Nat → Prop} {w w2 w' : World} (h : Kp X w w2) (hb : Below w.heap.size w2 w') : Kp X w w' :=
  ⟨hb.os.trans h.os, hb.tape.trans h.tape, hb.output.trans h.output, Nat.le_trans h.size hb.size, fun k hk hx => (hb.block k hk).trans (h.block k hk hx)⟩
theorem Wk.low_ {w2 : World} {s2 : ExSt} (h0 : Wk w S B g mi mw ml q a F M s) {M2 : Nat} (h : Wk w2 S B g mi mw ml q a F M2 s2) (hb : Below w.heap.size w2 w') : Wk w' S B g mi mw ml q a F M2 s2 :=
  h.keep (X := fun k => w.heap.size ≤ k) ⟨hb.os, hb.tape, hb.output, hb.size, fun k _ hx => hb.block k (Nat.lt_of_not_le hx)⟩ (Nat.not_le_of_lt h0.blk.lt) (Nat.not_le_of_lt h0.inp.lt) (Nat.not_le_of_lt h0.wri.lt) (Nat.not_le_of_lt (MapIs.lt h0.lok)) fun k hk => Nat.not_le_of_lt (h0.sep k hk).1
theorem FindPost.new {w1 w2 : World} {x : FileV} {v : Value} (h : Wk w S B g mi mw ml q a F M s) (hx : s.written.find? (eqp p) = none) (hl : keyL s.looks p.data.toList = none) (hF : F.find? (eqp p) = some x) (hv : FileVal w S x v) (hb : Below w.heap.size w w1)
    (hm : MapIs Tryz.prog 9 w2 ml (s.looks.length + 1) (fun key => if key = p.data.toList then some (lookVal ⟨p, digestS x.bytes, x.run⟩) else (keyL s.looks key).map lookVal)) (hg : w1.grownBy w2 (some ml)) (hb2 : Below w.heap.size w2 w') :
    FindPost S B g mi mw ml q a F M s p w (.returned (.tuple #[v, .bool true])) w' := by
  have e : lookAtS F p = ⟨p, digestS x.bytes, x.run⟩ := by rw [lookAtS, hF]
  obtain ⟨h1, h2⟩ := h.note hb hx hl (by rw [e]; exact hm) hg
  unfold FindPost
  refine ⟨h1.low hb2, h.low_ h2 hb2, ?_⟩
  rw [find_new hx, hF]
  exact ⟨v, (hv.keep fun k hk => h1.block k (h.sep k hk).1 (h.sep k hk).2.2.2.2).keep fun k hk => hb2.block k (h.sep k hk).1, rfl⟩
theorem FindPost.newNo {w1 w2 : World} (h : Wk w S B g mi mw ml q a F M s) (hx : s.written.find? (eqp p) = none) (hl : keyL s.looks p.data.toList = none) (hF : F.find? (eqp p) = none) (hb : Below w.heap.size w w1)
    (hm : MapIs Tryz.prog 9 w2 ml (s.looks.length + 1) (fun key => if key = p.data.toList then some (lookVal ⟨p, ⟨#[]⟩, false⟩) else (keyL s.looks key).map lookVal)) (hg : w1.grownBy w2 (some ml)) (hb2 : Below w.heap.size w2 w') :
    FindPost S B g mi mw ml q a F M s p w (.returned (.tuple #[noFile, .bool false])) w' := by
  have e : lookAtS F p = ⟨p, ⟨#[]⟩, false⟩ := by rw [lookAtS, hF]
  obtain ⟨h1, h2⟩ := h.note hb hx hl (by rw [e]; exact hm) hg
  unfold FindPost
  refine ⟨h1.low hb2, h.low_ h2 hb2, ?_⟩
  rw [find_new hx, hF]
end
theorem file_zero : ∀ w, (zeroValue 50).run Tryz.prog w = .ok noFile w := fun w => by kernel_rfl
theorem look_zero : ∀ w, (zeroValue 38).run Tryz.prog w = .ok (.agg #[.string ⟨#[]⟩, .string ⟨#[]⟩, .bool false]) w := fun w => by kernel_rfl
theorem map_file_under : Tryz.prog.underlying 99 = some (.map 9 50) := by kernel_rfl
theorem map_look_under : Tryz.prog.underlying 100 = some (.map 9 38) := by kernel_rfl
/-- a path looked up among files, in whatever world comes next -/
theorem files_look {w : World} {S : Nat → Prop} {m n : Nat} {l : List FileV} {p : ByteArray} (h : FilesIn Tryz.prog 9 w S m n l) (hp : p.size ≤ maxLen) : match l.find? (eqp p) with
    | none => ∀ w', Below w.heap.size w w' → (Instr.lookup 99 (.map (some m)) (.string p) true).run Tryz.prog w' = .ok (.tuple #[.agg #[.string ⟨#[]⟩, .bool false, .slice none 0 0], .bool false]) w'
    | some x => ∃ A n c, (x.path.size ≤ maxLen ∧ n ≤ c ∧ c ≤ maxLen ∧ Sl w S A n x.bytes) ∧ ∀ w', Below w.heap.size w w' → (Instr.lookup 99 (.map (some m)) (.string p) true).run Tryz.prog w' = .ok (.tuple #[.agg #[.string x.path, .bool x.run, .slice A n c], .bool true]) w' := by
  obtain ⟨f, h1, h2⟩ := h
  have h3 := fun (w' : World) (hb : Below w.heap.size w w') => (h1.call hb).look_ok Tryz.underlying9 map_file_under (file_zero w') hp
  have h4 := h2 p.data.toList
  rw [keyF_eqp] at h4
  cases hf : l.find? (eqp p) with
  | none =>
    rw [hf] at h4
    simp only at h4 ⊢
    intro w' hb
    rw [h3 w' hb, h4]; rfl
  | some x =>
    rw [hf] at h4
    obtain ⟨v, h5, h0, A, n, c, rfl, h6⟩ := h4
    exact ⟨A, n, c, ⟨h0, h6⟩, fun w' hb => by rw [h3 w' hb, h5]; rfl⟩
theorem looks_look {w : World} {m n : Nat} {l : List Look} {p : ByteArray} (h : LooksIn Tryz.prog 9 w m n l) (hp : p.size ≤ maxLen) : ∃ y : Look, ∀ w', Below w.heap.size w w' → (Instr.lookup 100 (.map (some m)) (.string p) true).run Tryz.prog w' = .ok (.tuple #[.agg #[.string y.path, .string y.digest, .bool y.run], .bool (keyL l p.data.toList).isSome]) w' := by
  have h3 := fun (w' : World) (hb : Below w.heap.size w w') => (MapIs.call h hb).look_ok Tryz.underlying9 map_look_under (look_zero w') hp
  cases hl : keyL l p.data.toList with
  | none => exact ⟨⟨⟨#[]⟩, ⟨#[]⟩, false⟩, fun w' hb => by rw [h3 w' hb, hl]; rfl⟩
  | some y => exact ⟨y, fun w' hb => by rw [h3 w' hb, hl]; rfl⟩
theorem Box3.keep {w w' : World} {g : Nat} {a b c : Value} (h : Box3 w g a b c) (hk : w'.heap[g]? = w.heap[g]?) : Box3 w' g a b c := by
  obtain ⟨⟨h1, h2, h3⟩, ⟨h4, h5, h6⟩, h7⟩ := h
  have e1 : ∀ o, w'.cell? ⟨g, o, none⟩ = w.cell? ⟨g, o, none⟩ := fun o => World.cell?_of_block (a := ⟨g, o, none⟩) hk
  have e2 : ∀ o, w'.frozen? ⟨g, o, none⟩ = w.frozen? ⟨g, o, none⟩ := fun o => by unfold World.frozen?; rw [hk]
  refine ⟨⟨(e1 _).trans h1, (e1 _).trans h2, (e1 _).trans h3⟩, ⟨(e2 _).trans h4, (e2 _).trans h5, (e2 _).trans h6⟩, ?_⟩
  rcases Nat.lt_or_ge g w'.heap.size with h8 | h8
  · exact h8
  · rw [Array.getElem?_eq_none h8] at hk
    have := (e1 0).trans h1
    simp [World.cell?, Array.getElem?_eq_none h8] at this
set_option maxHeartbeats 2000000 in
set_option maxRecDepth 100000 in
theorem act_find (S : Nat → Prop) (B g mi mw ml : Nat) (q : ActP) (a : ActionV) (F : List FileV) (M : Nat) (s : ExSt) (p : ByteArray) (w : World) (hp : p.size ≤ maxLen) (hM : M ≤ 1000000) (h : Wk w S B g mi mw ml q a F M s) :
    Calls Tryz.prog 166 #[.pointer (some ⟨g, 0, none⟩), .string p] w (FindPost S B g mi mw ml q a F M s p w) := by
  have hgw := h.blk.lt
  have hg1 : g < w.heap.size + 1 := by omega
  have hg2 : g < w.heap.size + 1 + 1 := by omega
  have hg3 : g < w.heap.size + 1 + 1 + 1 := by omega
  have hg4 : g < w.heap.size + 1 + 1 + 1 + 1 := by omega
  have c6 := h.blk.cell (i := 6) rfl
  have c7 := h.blk.cell (i := 7) rfl
  have c8 := h.blk.cell (i := 8) rfl
  have hW := files_look h.wri hp
  have hI := files_look h.inp hp
  obtain ⟨y, hL⟩ := looks_look h.lok hp
  cases hx : s.written.find? (eqp p) with
  | some x =>
    rw [hx] at hW
    obtain ⟨A, n, c, ⟨h0, h1, h2, h3⟩, hlk⟩ := hW
    have l0 := hlk (w.alloc (.cells #[.string ⟨#[]⟩, .bool false, .slice none 0 0] 50)) (fr_alloc (fr_refl w) _)
    have HE := Lib.hid (fun (w' : World) (hb : Below w.heap.size w w') => FindPost.old (F := F) (v := .agg #[.string x.path, .bool x.run, .slice A n c]) h hx ⟨h0, A, n, c, rfl, h1, h2, h3⟩ hb)
    clear h hI hL hlk hx h3 c6 c8
    go_enter Tryz.func166, Tryz.ntmps166
    go_wp2
    exact bodyPost_ret (v := .tuple #[.agg #[.string x.path, .bool x.run, .slice A n c], .bool true]) (by simp [results, Tryz.results166, go_sem, *]) rfl (HE.out _ (by repeat (first | exact fr_refl _ | refine fr_call ?_ (by assumption) | refine fr_alloc ?_ _ | refine fr_set ?_ (by simp) _ | refine Below.drew ?_ | refine below_drewN ?_ _)))
  | none =>
    rw [hx] at hW
    have l0 := hW (w.alloc (.cells #[.string ⟨#[]⟩, .bool false, .slice none 0 0] 50)) (fr_alloc (fr_refl w) _)
    cases hF : F.find? (eqp p) with
    | none =>
      rw [hF] at hI
      have l1 := hI ((w.alloc (.cells #[.string ⟨#[]⟩, .bool false, .slice none 0 0] 50)).alloc (.cells #[.string ⟨#[]⟩, .bool false, .slice none 0 0] 50)) (fr_alloc (fr_alloc (fr_refl w) _) _)
      have l2 := hL (((w.alloc (.cells #[.string ⟨#[]⟩, .bool false, .slice none 0 0] 50)).alloc (.cells #[.string ⟨#[]⟩, .bool false, .slice none 0 0] 50)).alloc (.cells #[.string ⟨#[]⟩, .bool false, .slice none 0 0] 50)) (fr_alloc (fr_alloc (fr_alloc (fr_refl w) _) _) _)
      cases hl : keyL s.looks p.data.toList with
      | some z =>
        rw [hl] at l2
        simp only [Option.isSome_some] at l2
        have HE := Lib.hid (fun (w' : World) (hb : Below w.heap.size w w') => FindPost.seenNo (p := p) h hx (by rw [hl]; rfl) hF hb)
        unfold noFile at HE
        clear h hI hL hW hx hl hF
        go_enter Tryz.func166, Tryz.ntmps166
        go_wp2
        exact bodyPost_ret (v := .tuple #[.agg #[.string ⟨#[]⟩, .bool false, .slice none 0 0], .bool false]) (by simp [results, Tryz.results166, go_sem, *]) rfl (HE.out _ (by repeat (first | exact fr_refl _ | refine fr_call ?_ (by assumption) | refine fr_alloc ?_ _ | refine fr_set ?_ (by simp) _ | refine Below.drew ?_ | refine below_drewN ?_ _)))
      | none =>
        rw [hl] at l2
        simp only [Option.isSome_none] at l2
        have HN := Lib.hid (fun (w1 w2 w' : World) (hb : Below w.heap.size w w1) hm hg (hb2 : Below w.heap.size w2 w') => FindPost.newNo (p := p) h hx hl hF hb hm hg hb2)
        unfold noFile at HN
        have HM := Lib.hid (fun (w1 : World) (hb : Below w.heap.size w w1) => (show MapIs Tryz.prog 9 w1 ml s.looks.length _ from MapIs.call h.lok hb))
        have hml : ml < w.heap.size := MapIs.lt h.lok
        have hlen : s.looks.length ≤ 2000000 := by have := h.ok.many; have := h.many; omega
        clear h hI hL hW hx hl hF
        go_enter Tryz.func166, Tryz.ntmps166
        go_wp2
        generalize hV : (((((w.alloc _).alloc _).alloc _).alloc _).alloc _ : World) = V
        have hbV : Below w.heap.size w V := by rw [← hV]; exact fr_alloc (fr_alloc (fr_alloc (fr_alloc (fr_alloc (fr_refl w) _) _) _) _) _
        have hR : Box3 V w.heap.size (.string ⟨#[]⟩) (.bool false) (.slice none 0 0) := by rw [← hV]; exact (box3_new w _ _ _ _).call (fr_alloc (fr_alloc (fr_alloc (fr_alloc (fr_refl _) _) _) _) _)
        have hX : Box3 V (w.heap.size + 1 + 1) (.string ⟨#[]⟩) (.bool false) (.slice none 0 0) := by
          rw [← hV]
          have := (box3_new ((w.alloc (.cells #[.string ⟨#[]⟩, .bool false, .slice none 0 0] 50)).alloc (.cells #[.string ⟨#[]⟩, .bool false, .slice none 0 0] 50)) (.string ⟨#[]⟩) (.bool false) (.slice none 0 0) 50).call (fr_alloc (fr_alloc (fr_refl _) (.cells #[.string y.path, .string y.digest, .bool y.run] 38)) (.cells #[.string p, .string ⟨#[]⟩, .bool false] 38))
          simpa using this
        have hY : Box3 V (w.heap.size + 1 + 1 + 1 + 1) (.string p) (.string ⟨#[]⟩) (.bool false) := by
          rw [← hV]
          have := box3_new ((((w.alloc (.cells #[.string ⟨#[]⟩, .bool false, .slice none 0 0] 50)).alloc (.cells #[.string ⟨#[]⟩, .bool false, .slice none 0 0] 50)).alloc (.cells #[.string ⟨#[]⟩, .bool false, .slice none 0 0] 50)).alloc (.cells #[.string y.path, .string y.digest, .bool y.run] 38)) (.string p) (.string ⟨#[]⟩) (.bool false) 38
          simpa using this
        have d8 := (hbV.cell (p := ⟨g, 8, none⟩) hgw).trans c8
        have hgV : g < V.heap.size := Nat.lt_of_lt_of_le hgw hbV.size
        obtain ⟨⟨y0, y1, y2⟩, _, hyl⟩ := hY
        clear hV c6 c7 c8 l0 l1 l2
        have hRl := hR.2.2
        have hXl := hX.2.2
        go_still_tail 6, (by kernel_rfl)
        change wpList _ _ _ _ _ V.drew
        go_wp2_with (
          at_mapUpdate
          refine wpList_mapUpdate_is _ rfl _ _ _ 100 rfl Tryz.underlying9 map_look_under rfl ((HM.out V hbV).keep rfl) (by unfold maxLen; omega) p hp (lookVal ⟨p, ⟨#[]⟩, false⟩) rfl rfl ?_
          intro w2 hm2 hg2
          obtain ⟨⟨r0, r1, r2⟩, ⟨r3, r4, r5⟩, r6⟩ := hR.keep (hg2.block _ hRl (fun e => by cases e; omega))
          obtain ⟨⟨x0, x1, x2⟩, _, x6⟩ := hX.keep (hg2.block _ hXl (fun e => by cases e; omega))
          have HE := Lib.hid (fun (w' : World) (hb2 : Below w.heap.size w2 w') => HN.out _ _ w' hbV.drew hm2 hg2 hb2)
          clear hm2 hg2)
        exact bodyPost_ret (v := .tuple #[.agg #[.string ⟨#[]⟩, .bool false, .slice none 0 0], .bool false]) (by simp [results, Tryz.results166, go_sem, *]) rfl (HE.out _ (by repeat (first | exact Below.refl _ _ | refine Below.setCell ?_ (by simp) _)))
    | some x =>
      rw [hF] at hI
      obtain ⟨A, n, c, ⟨h0, h1, h2, h3⟩, hlk⟩ := hI
      have hv : FileVal w S x (.agg #[.string x.path, .bool x.run, .slice A n c]) := ⟨h0, A, n, c, rfl, h1, h2, h3.more h.lowS⟩
      have hs3 := h3.more (S' := Lt w.heap.size) fun k hk => (h.sep k (h.lowS k hk)).1
      have l1 := hlk ((w.alloc (.cells #[.string ⟨#[]⟩, .bool false, .slice none 0 0] 50)).alloc (.cells #[.string ⟨#[]⟩, .bool false, .slice none 0 0] 50)) (fr_alloc (fr_alloc (fr_refl w) _) _)
      have l2 := hL (((w.alloc (.cells #[.string ⟨#[]⟩, .bool false, .slice none 0 0] 50)).alloc (.cells #[.string ⟨#[]⟩, .bool false, .slice none 0 0] 50)).alloc (.cells #[.string x.path, .bool x.run, .slice A n c] 50)) (fr_alloc (fr_alloc (fr_alloc (fr_refl w) _) _) _)
      cases hl : keyL s.looks p.data.toList with
      | some z =>
        rw [hl] at l2
        simp only [Option.isSome_some] at l2
        have HE := Lib.hid (fun (w' : World) (hb : Below w.heap.size w w') => FindPost.seen (p := p) h hx (by rw [hl]; rfl) hF hv hb)
        clear h hlk hL hW hx hl hF hv h3 hs3
        go_enter Tryz.func166, Tryz.ntmps166
        go_wp2
        exact bodyPost_ret (v := .tuple #[.agg #[.string x.path, .bool x.run, .slice A n c], .bool true]) (by simp [results, Tryz.results166, go_sem, *]) rfl (HE.out _ (by repeat (first | exact fr_refl _ | refine fr_call ?_ (by assumption) | refine fr_alloc ?_ _ | refine fr_set ?_ (by simp) _ | refine Below.drew ?_ | refine below_drewN ?_ _)))
      | none =>
        rw [hl] at l2
        simp only [Option.isSome_none] at l2
        have HN := Lib.hid (fun (w1 w2 w' : World) (hb : Below w.heap.size w w1) hm hg (hb2 : Below w.heap.size w2 w') => FindPost.new (p := p) h hx hl hF hv hb hm hg hb2)
        have HM := Lib.hid (fun (w1 : World) (hb : Below w.heap.size w w1) => (show MapIs Tryz.prog 9 w1 ml s.looks.length _ from MapIs.call h.lok hb))
        have hml : ml < w.heap.size := MapIs.lt h.lok
        have hlen : s.looks.length ≤ 2000000 := by have := h.ok.many; have := h.many; omega
        clear h hlk hL hW hx hl hF hv h3
        go_enter Tryz.func166, Tryz.ntmps166
        go_wp2
        generalize hV : (((((w.alloc _).alloc _).alloc _).alloc _).alloc _ : World) = V
        have hbV : Below w.heap.size w V := by rw [← hV]; exact fr_alloc (fr_alloc (fr_alloc (fr_alloc (fr_alloc (fr_refl w) _) _) _) _) _
        have hR : Box3 V w.heap.size (.string ⟨#[]⟩) (.bool false) (.slice none 0 0) := by rw [← hV]; exact (box3_new w _ _ _ _).call (fr_alloc (fr_alloc (fr_alloc (fr_alloc (fr_refl _) _) _) _) _)
        have hX : Box3 V (w.heap.size + 1 + 1) (.string x.path) (.bool x.run) (.slice A n c) := by
          rw [← hV]
          have := (box3_new ((w.alloc (.cells #[.string ⟨#[]⟩, .bool false, .slice none 0 0] 50)).alloc (.cells #[.string ⟨#[]⟩, .bool false, .slice none 0 0] 50)) (.string x.path) (.bool x.run) (.slice A n c) 50).call (fr_alloc (fr_alloc (fr_refl _) (.cells #[.string y.path, .string y.digest, .bool y.run] 38)) (.cells #[.string p, .string ⟨#[]⟩, .bool false] 38))
          simpa using this
        have hY : Arr V (w.heap.size + 1 + 1 + 1 + 1) 38 [.string p, .string ⟨#[]⟩, .bool false] := by
          rw [← hV]
          have : Arr _ _ 38 [.string p, .string ⟨#[]⟩, .bool false] := heap_alloc_new ((((w.alloc (.cells #[.string ⟨#[]⟩, .bool false, .slice none 0 0] 50)).alloc (.cells #[.string ⟨#[]⟩, .bool false, .slice none 0 0] 50)).alloc (.cells #[.string x.path, .bool x.run, .slice A n c] 50)).alloc (.cells #[.string y.path, .string y.digest, .bool y.run] 38)) (.cells #[.string p, .string ⟨#[]⟩, .bool false] 38)
          simpa using this
        have e8 := c8
        have d8 := (hbV.cell (p := ⟨g, 8, none⟩) hgw).trans c8
        have hgV : g < V.heap.size := Nat.lt_of_lt_of_le hgw hbV.size
        have HD := Lib.hid (fun W (hW : W.heap = V.heap) => blob_Digest A n c x.bytes W (by rw [hW]; exact (hs3.keep fun q hq => by rw [hW]; exact hbV.block q hq).more (lt_mono hbV.size)))
        have hyl := hY.lt
        obtain ⟨⟨x0, x1, x2⟩, _, hxl⟩ := id hX
        have HRb := Lib.hid hR
        have HXb := Lib.hid hX
        have HYb := Lib.hid hY
        have E8 := Lib.hid e8
        clear e8
        clear hV c6 c7 c8 l0 l1 l2 hs3 hR hX hY
        go_region_with (go_at_call 94; refine (HD.out _ (by rfl)).mono ?_; rintro e w2 ⟨rfl, hb2⟩; have hb3 := of_drew hb2; have z0 := (HYb.out.call hb3).cell (i := 0) rfl; have z1 := (HYb.out.call hb3).cell (i := 1) rfl; have z2 := (HYb.out.call hb3).cell (i := 2) rfl; have v0 := (HYb.out.call hb3).frozen 0; have v1 := (HYb.out.call hb3).frozen 1; have v2 := (HYb.out.call hb3).frozen 2; have v3 := (HYb.out.call hb3).lt; obtain ⟨⟨r0, r1, r2⟩, _⟩ := HXb.out.call hb3)
        all_goals
          go_wp2
          generalize hU : World.setCell (World.setCell w2 _ _) _ _ = U
          have hYU : Arr U (w.heap.size + 1 + 1 + 1 + 1) 38 [.string p, .string (digestS x.bytes), .bool x.run] := by
            rw [← hU]
            exact ((HYb.out.call hb3).set _ _).set _ _
          have hne : ∀ k, k ≠ w.heap.size + 1 + 1 + 1 + 1 → U.heap[k]? = w2.heap[k]? := fun k hk => by
            rw [← hU]
            exact (heap_setCell_other _ _ _ _ (by simpa using hk)).trans (heap_setCell_other _ _ _ _ (by simpa using hk))
          have hbU : Below w.heap.size w U := by
            rw [← hU]
            exact ((hbV.trans (hb3.mono hbV.size)).setCell (by simp; omega) _).setCell (by simp; omega) _
          have hRU := (HRb.out.call hb3).keep (hne _ (by omega))
          have hXU := (HXb.out.call hb3).keep (hne _ (by omega))
          have d9 := (hbU.cell (p := ⟨g, 8, none⟩) hgw).trans E8.out
          have y0 := hYU.cell (i := 0) rfl
          have y1 := hYU.cell (i := 1) rfl
          have y2 := hYU.cell (i := 2) rfl
          have hRl := hRU.2.2
          have hXl := hXU.2.2
          clear hU hYU hne z0 z1 z2 v0 v1 v2 v3 r0 r1 r2
          go_still_tail 6, (by kernel_rfl)
          change wpList _ _ _ _ _ U.drew
          go_wp2_with (
            at_mapUpdate
            refine wpList_mapUpdate_is _ rfl _ _ _ 100 rfl Tryz.underlying9 map_look_under rfl ((HM.out U hbU).keep rfl) (by unfold maxLen; omega) p hp (lookVal ⟨p, digestS x.bytes, x.run⟩) rfl rfl ?_
            intro w4 hm2 hg4
            obtain ⟨⟨r0, r1, r2⟩, ⟨r3, r4, r5⟩, r6⟩ := hRU.keep (hg4.block _ hRl (fun e => by cases e; omega))
            obtain ⟨⟨x0, x1, x2⟩, _, x6⟩ := hXU.keep (hg4.block _ hXl (fun e => by cases e; omega))
            have HE := Lib.hid (fun (w' : World) (hb2 : Below w.heap.size w4 w') => HN.out _ _ w' hbU.drew hm2 hg4 hb2)
            clear hm2 hg4)
          exact bodyPost_ret (v := .tuple #[.agg #[.string x.path, .bool x.run, .slice A n c], .bool true]) (by simp [results, Tryz.results166, go_sem, *]) rfl (HE.out _ (by repeat (first | exact Below.refl _ _ | refine Below.setCell ?_ (by simp) _)))
end Go.Proofs.Sm

namespace Go.Proofs.Sm
open Go.RowKit

theorem Sl.take {α : Type} [Rep α] {w : World} {S : Nat → Prop} {A : Option Addr} {n k : Nat} {l : List α} (h : Sl w S A n l) (hk : k ≤ n) : Sl w S A k (l.take k) := by
  refine ⟨by rw [List.length_take, h.1]; omega, Nat.le_trans hk h.2.1, fun h0 => ?_⟩
  obtain ⟨b, o, e, hb, hc⟩ := h.2.2 (by omega)
  refine ⟨b, o, e, hb, fun i x hx => hc i x ?_⟩
  rw [List.getElem?_take] at hx
  split at hx
  · exact hx
  · cases hx
theorem Sl.drop1 {α : Type} [Rep α] {w : World} {S : Nat → Prop} {b o n k : Nat} {l : List α} (h1 : Rep.sz α = 1) (h : Sl w S (some ⟨b, o, none⟩) n l) (hk : k ≤ n) : Sl w S (some ⟨b, o + k, none⟩) (n - k) (l.drop k) := by
  refine ⟨by rw [List.length_drop, h.1], Nat.le_trans (Nat.sub_le _ _) h.2.1, fun h0 => ?_⟩
  obtain ⟨b', o', e, hb, hc⟩ := h.2.2 (by omega)
  cases e
  refine ⟨b, o + k, rfl, hb, fun i x hx => ?_⟩
  rw [List.getElem?_drop] at hx
  obtain ⟨vs, h3, h2⟩ := hc (k + i) x hx
  refine ⟨vs, h3, ?_⟩
  rw [h1, Nat.mul_one] at h2 ⊢
  rw [Nat.add_assoc]
  exact h2
end Go.Proofs.Sm

namespace Go.Proofs.Sm
open Go.RowKit

def OwnB (w : World) (B : Nat) (e : TypeId) (v : Value) (o : List UInt8) : Prop := w.ownsRow B e 1 v o.length (Lib.byteCells o)
section
variable {w w' : World} {B : Nat} {e : TypeId} {v : Value} {o : List UInt8}
theorem OwnB.nil (w : World) (B : Nat) (e : TypeId) : OwnB w B e (.slice none 0 0) [] := World.ownsRow_nil _ _ _ _
theorem OwnB.keep (h : OwnB w B e v o) (hk : ∀ g, v.ownBlock = some g → w'.heap[g]? = w.heap[g]?) : OwnB w' B e v o := by
  obtain ⟨h1, h2⟩ := h
  refine ⟨h1, ?_⟩
  rcases h2 with h2 | ⟨g, cap, cur, rfl, hb, hh, hr⟩
  · exact .inl h2
  · exact .inr ⟨g, cap, cur, rfl, hb, (hk g rfl).trans hh, hr⟩
theorem OwnB.lt (h : OwnB w B e v o) : ∀ g, v.ownBlock = some g → B ≤ g ∧ g < w.heap.size := fun g hg => World.ownsRow.lt h g hg
theorem OwnB.call (h : OwnB w B e v o) (hb : Below w.heap.size w w') : OwnB w' B e v o := h.keep fun g hg => hb.block g (h.lt g hg).2
theorem OwnB.kp {X : Nat → Prop} (h : OwnB w B e v o) (hk : Kp X w w') (hX : ∀ g, B ≤ g → ¬ X g) : OwnB w' B e v o := h.keep fun g hg => hk.block g (h.lt g hg).2 (hX g (h.lt g hg).1)
theorem OwnB.sl (h : OwnB w B e v o) : ∃ A c, v = .slice A o.length c ∧ o.length ≤ c ∧ c ≤ maxLen ∧ Sl w (fun k => B ≤ k ∧ k < w.heap.size) A o.length o := by
  have hcells := fun g hg => World.ownsRow.cells h (g := g) hg
  have hlt := h.lt
  rcases h.2 with ⟨rfl, h0⟩ | ⟨g, cap, cur, rfl, hb, hh, hnc, hcm, _, _⟩
  · rw [h0]
    obtain rfl : o = [] := List.eq_nil_of_length_eq_zero h0
    exact ⟨none, 0, rfl, Nat.le_refl _, Nat.zero_le _, Sl.nil⟩
  · refine ⟨some ⟨g, 0, none⟩, cap, rfl, hnc, hcm, rfl, Nat.le_trans hnc hcm, fun hn => ⟨g, 0, rfl, hlt g rfl, fun i x hx => ⟨[.int .u8 x.toNat], rfl, fun j u hu => ?_⟩⟩⟩
    have hj : j = 0 ∧ u = .int .u8 x.toNat := by
      cases j with
      | zero => simp at hu; exact ⟨rfl, hu.symm⟩
      | succ j => simp at hu
    obtain ⟨rfl, rfl⟩ := hj
    have h3 := hcells g rfl i (.int .u8 x.toNat) (by rw [Lib.byteCells, List.getElem?_map, hx]; rfl)
    rw [addr_add] at h3
    simpa [Rep.sz] using h3
theorem byteCells_one {p : List UInt8} : ∀ u ∈ Lib.byteCells p, u.oneCell' = true := by
  intro u hu
  obtain ⟨x, _, rfl⟩ := List.mem_map.1 hu
  rfl
theorem byteCells_append (p o : List UInt8) : Lib.byteCells (p ++ o) = Lib.byteCells p ++ Lib.byteCells o := List.map_append
theorem byteCells_length (p : List UInt8) : (Lib.byteCells p).length = p.length := List.length_map ..
end
end Go.Proofs.Sm

namespace Go.Proofs.Sm
open Go.RowKit Go.Sort

/-- how long a slice is -/
def slLen : Value → Nat
  | .slice _ n _ => n
  | _ => 0
def strOf (l : List UInt8) : ByteArray := ⟨l.toArray⟩
theorem strOf_data (l : List UInt8) : (strOf l).data.toList = l := rfl
theorem strOf_size (l : List UInt8) : (strOf l).size = l.length := by simp [strOf, ByteArray.size]
def OwnS (w : World) (B : Nat) (e : TypeId) (v : Value) (l : List (List UInt8)) : Prop := w.ownsRow B e 1 v l.length (l.map encStr)
section
variable {w w' : World} {B : Nat} {e : TypeId} {v : Value} {l : List (List UInt8)}
theorem OwnS.keep (h : OwnS w B e v l) (hk : ∀ g, v.ownBlock = some g → w'.heap[g]? = w.heap[g]?) : OwnS w' B e v l := by
  obtain ⟨h1, h2⟩ := h
  refine ⟨h1, ?_⟩
  rcases h2 with h2 | ⟨g, cap, cur, rfl, hb, hh, hr⟩
  · exact .inl h2
  · exact .inr ⟨g, cap, cur, rfl, hb, (hk g rfl).trans hh, hr⟩
theorem OwnS.lt (h : OwnS w B e v l) : ∀ g, v.ownBlock = some g → B ≤ g ∧ g < w.heap.size := fun g hg => World.ownsRow.lt h g hg
theorem OwnS.call (h : OwnS w B e v l) (hb : Below w.heap.size w w') : OwnS w' B e v l := h.keep fun g hg => hb.block g (h.lt g hg).2
theorem OwnS.form (h : OwnS w B e v l) : (l = [] ∧ v = .slice none 0 0) ∨ ∃ g cap cur, v = .slice (some ⟨g, 0, none⟩) l.length cap ∧ B ≤ g ∧ w.heap[g]? = some (.cells cur e (0, 0)) ∧ l.length ≤ cap ∧ cap ≤ maxLen ∧ cur.size = cap * 1 ∧ cur.toList.take l.length = l.map encStr := by
  rcases h.2 with ⟨h1, h2⟩ | ⟨g, cap, cur, h1, h2, h3, h4, h5, h6, h7⟩
  · exact .inl ⟨List.eq_nil_of_length_eq_zero h2, h1⟩
  · exact .inr ⟨g, cap, cur, h1, h2, h3, h4, h5, h6, by rwa [Nat.mul_one] at h7⟩
theorem OwnS.cell {g k n cap : Nat} {x : List UInt8} (h : OwnS w B e (.slice (some ⟨g, 0, none⟩) n cap) l) (hk : l[k]? = some x) : w.cell? ⟨g, k, none⟩ = some (.string (strOf x)) := by
  have := World.ownsRow.cells h (g := g) rfl k (.string (strOf x)) (by rw [List.getElem?_map, hk]; rfl)
  rw [addr_add, Nat.zero_add] at this
  exact this
theorem OwnS.frozen {g n cap : Nat} (h : OwnS w B e (.slice (some ⟨g, 0, none⟩) n cap) l) (k : Nat) : w.frozen? ⟨g, k, none⟩ = false := by
  rcases h.form with ⟨_, h1⟩ | ⟨g', cap', cur, h1, _, h3, _⟩
  · cases h1
  · cases h1
    exact Lib.frozen_of_heap h3 _
theorem OwnS.sl (h : OwnS w B e v l) (hx : ∀ x ∈ l, x.length ≤ maxLen) : ∃ A c, v = .slice A l.length c ∧ l.length ≤ c ∧ c ≤ maxLen ∧ Sl w (fun k => B ≤ k ∧ k < w.heap.size) A l.length (l.map strOf) := by
  have hlt := h.lt
  rcases h.form with ⟨rfl, rfl⟩ | ⟨g, cap, cur, rfl, hb, hh, hnc, hcm, _, _⟩
  · exact ⟨none, 0, rfl, Nat.le_refl _, Nat.zero_le _, Sl.nil⟩
  · refine ⟨some ⟨g, 0, none⟩, cap, rfl, hnc, hcm, by simp, Nat.le_trans hnc hcm, fun _ => ⟨g, 0, rfl, hlt g rfl, fun i x hi => ⟨[.string x], ⟨rfl, ?_⟩, fun j u hu => ?_⟩⟩⟩
    · rw [List.getElem?_map] at hi
      cases hq : l[i]? with
      | none => rw [hq] at hi; cases hi
      | some y =>
        rw [hq] at hi
        cases hi
        rw [strOf_size]
        exact hx y (List.mem_of_getElem? hq)
    · rw [List.getElem?_map] at hi
      cases hq : l[i]? with
      | none => rw [hq] at hi; cases hi
      | some y =>
        rw [hq] at hi
        cases hi
        have hj : j = 0 ∧ u = .string (strOf y) := by
          cases j with
          | zero => simp at hu; exact ⟨rfl, hu.symm⟩
          | succ j => simp at hu
        obtain ⟨rfl, rfl⟩ := hj
        have := h.cell hq
        simpa [Rep.sz] using this
theorem OwnS.set {g n cap : Nat} (h : OwnS w B e (.slice (some ⟨g, 0, none⟩) n cap) l) (k : Nat) (x : List UInt8) : OwnS (w.setCell ⟨g, k, none⟩ (.string (strOf x))) B e (.slice (some ⟨g, 0, none⟩) n cap) (l.set k x) := by
  rcases h.form with ⟨_, h1⟩ | ⟨g', cap', cur, h1, h2, h3, h4, h5, h6, h7⟩
  · cases h1
  · cases h1
    refine ⟨by simp, .inr ⟨g, cap, cur.setIfInBounds k (.string (strOf x)), by rw [List.length_set], h2, heap_setCell_same w g k _ _ _ h3, by rw [List.length_set]; exact h4, h5, by rw [Array.size_setIfInBounds]; exact h6, ?_⟩⟩
    rw [Nat.mul_one, List.length_set, Array.toList_setIfInBounds, List.take_set, h7, List.map_set]
    rfl
theorem OwnS.holds {g n cap : Nat} (h : OwnS w B e (.slice (some ⟨g, 0, none⟩) n cap) l) : Holds encStr w g 0 l.toArray := by
  rcases h.form with ⟨_, h1⟩ | ⟨g', cap', cur, h1, h2, h3, h4, h5, h6, h7⟩
  · cases h1
  · cases h1
    exact holds_of_block h3 h7
/-- behind the sort -/
theorem OwnS.sorted {g cap n : Nat} {os : Array Obj} (h : OwnS w B e (.slice (some ⟨g, 0, none⟩) l.length cap) l) (ts : List (List UInt8)) (hl : ts.length = l.length) : OwnS (grow (putRow encStr (Sort.ahead w n) g 0 ts.toArray) os) B e (.slice (some ⟨g, 0, none⟩) l.length cap) ts := by
  rcases h.form with ⟨_, h1⟩ | ⟨g', cap', cur, h1, h2, h3, h4, h5, h6, h7⟩
  · cases h1
  · cases h1
    have := ownsRow_sorted (n := n) (os := os) (ts := ts) hl h2 h3 h4 h5 h6
    unfold OwnS
    rw [hl]
    exact this
/-- the first ones of a row -/
theorem OwnS.front {g cap : Nat} {l2 : List (List UInt8)} (h : OwnS w B e (.slice (some ⟨g, 0, none⟩) (l ++ l2).length cap) (l ++ l2)) : OwnS w B e (.slice (some ⟨g, 0, none⟩) l.length cap) l := by
  rcases h.form with ⟨_, h1⟩ | ⟨g', cap', cur, h1, h2, h3, h4, h5, h6, h7⟩
  · cases h1
  · cases h1
    rw [List.length_append] at h4 h7
    refine ⟨by simp, .inr ⟨g, cap, cur, rfl, h2, h3, by omega, h5, h6, ?_⟩⟩
    have := congrArg (List.take l.length) h7
    rw [List.take_take, Nat.min_eq_left (by omega), List.map_append, List.take_left' (by simp)] at this
    rw [Nat.mul_one]
    exact this
theorem OwnS.of (h : RowK w B e (fun _ => False) v (l.map strOf)) : OwnS w B e v l := by
  obtain ⟨_, rows, hr, hown, hrep⟩ := h
  rw [List.length_map] at hr hown
  have : rows = l.map fun x => [encStr x] := by
    refine List.ext_getElem (by simpa using hr) fun i h1 h2 => ?_
    have h3 : i < l.length := by omega
    have := (hrep i (strOf l[i]) rows[i] (by rw [List.getElem?_map, List.getElem?_eq_getElem h3]; rfl) (List.getElem?_eq_getElem h1)).1
    rw [this, List.getElem_map]
    rfl
  unfold OwnS
  have e1 : ∀ l : List (List UInt8), (l.map fun x => [encStr x]).flatten = l.map encStr := by
    intro l
    induction l with
    | nil => rfl
    | cons x l ih => rw [List.map_cons, List.flatten_cons, ih]; rfl
  rw [this, e1] at hown
  exact hown
end
end Go.Proofs.Sm

namespace Go.Proofs.Sm
open Go.RowKit

end Go.Proofs.Sm

namespace Go.Proofs.Sm
open Go.RowKit

/-- three-way comparison -/
theorem cmp_lt : ∀ a b : List UInt8, (Lib.compareBytes a b < 0) ↔ Op.bytesLess a b = true
  | [], [] => by simp [Lib.compareBytes, Op.bytesLess]
  | [], _ :: _ => by simp [Lib.compareBytes, Op.bytesLess]
  | _ :: _, [] => by simp [Lib.compareBytes, Op.bytesLess]
  | x :: a, y :: b => by
    have ih := cmp_lt a b
    simp only [Lib.compareBytes, Op.bytesLess]
    split
    · simp_all
    · split
      · rename_i h1 h2
        have : ¬ x = y := fun e => by subst e; exact h1 h2
        simp_all
      · rename_i h1 h2
        have : x = y := by
          apply UInt8.toNat_inj.1
          have h1' : ¬ x.toNat < y.toNat := fun h => h1 (UInt8.lt_iff_toNat_lt.2 h)
          have h2' : ¬ y.toNat < x.toNat := fun h => h2 (UInt8.lt_iff_toNat_lt.2 h)
          omega
        subst this
        simp_all
theorem cmp_eq : ∀ a b : List UInt8, (Lib.compareBytes a b = 0) ↔ a = b
  | [], [] => by simp [Lib.compareBytes]
  | [], _ :: _ => by simp [Lib.compareBytes]
  | _ :: _, [] => by simp [Lib.compareBytes]
  | x :: a, y :: b => by
    have ih := cmp_eq a b
    simp only [Lib.compareBytes]
    split
    · rename_i h1
      have : ¬ x = y := fun e => by subst e; exact UInt8.lt_irrefl _ h1
      simp_all
    · split
      · rename_i h1 h2
        have : ¬ x = y := fun e => by subst e; exact h1 h2
        simp_all
      · rename_i h1 h2
        have : x = y := by
          apply UInt8.toNat_inj.1
          have h1' : ¬ x.toNat < y.toNat := fun h => h1 (UInt8.lt_iff_toNat_lt.2 h)
          have h2' : ¬ y.toNat < x.toNat := fun h => h2 (UInt8.lt_iff_toNat_lt.2 h)
          omega
        subst this
        simp_all
/-- the closure that lookAt hands over -/
theorem act_lookAt1 (A' : Option Addr) (n' c' : Nat) (x p : ByteArray) (r : Bool) (w : World) :
    Calls Tryz.prog 92 #[.agg #[.string x, .bool r, .slice A' n' c'], .string p] w fun e w' => e = .returned (.int .i64 (Lib.compareBytes x.data.toList p.data.toList)) ∧ Below w.heap.size w w' := by
  go_enter Tryz.func92, Tryz.ntmps92
  go_wp2_with (go_at_call 93; refine (Tryz.strings_Compare _ _ _).mono ?_; rintro e w1 ⟨rfl, rfl⟩)
  go_ret
  exact ⟨rfl, fr_alloc (fr_refl w) _⟩

set_option maxRecDepth 100000 in
theorem bsearch_file (A : Option Addr) (n c : Nat) (l : List FileV) (p : ByteArray) (w : World) (hsl : Sl w (Lt w.heap.size) A n l) (hso : Sorted l) (hn : n ≤ 1000) :
    Calls Tryz.prog 91 #[.slice A n c, .string p, .func (.func 92) #[] #[]] w fun e w' =>
      ∃ (k : Nat) (b : Bool), e = .returned (.tuple #[.int .i64 k, .bool b]) ∧ ((b = false ∧ l.find? (eqp p) = none) ∨ (b = true ∧ ∃ x, l[k]? = some x ∧ l.find? (eqp p) = some x)) ∧ Below w.heap.size w w' := by
  go_enter Tryz.func91, Tryz.ntmps91
  go_wp2
  go_loopw [9, 10, 11] (fun i j _ wr => ∃ lo hi : Nat, i = .int .i64 lo ∧ j = .int .i64 hi ∧ lo ≤ hi ∧ hi ≤ n ∧ Halves l p lo hi ∧ Below w.heap.size w wr) (fun i j _ _ => (intOf j - intOf i).toNat)
  case atStart => exact ⟨0, n, rfl, rfl, Nat.zero_le _, Nat.le_refl _, by have := Halves.start l p; rwa [hsl.1] at this, Below.refl _ _⟩
  case round =>
    obtain ⟨lo, hi, rfl, rfl, h1, h2, hh, hbel⟩ := hrel
    have hsr := (hsl.keep (keep_lt hbel)).more (lt_mono hbel.size)
    by_cases hlt : lo < hi
    · obtain ⟨m, hm⟩ : ∃ m : Nat, (lo + hi) / 2 = m := ⟨_, rfl⟩
      have hm1 : lo ≤ m := by omega
      have hm2 : m < hi := by omega
      have hq : ((lo : Int) + (hi : Int)) / 2 = (m : Int) := by omega
      have Hm := Lib.hid hm; clear hm
      obtain ⟨b, o, x, A', n', c', rfl, hb, hx, hs1, hnc, hcm, hsl', c0, c1, c2⟩ := hsr.file (k := m) (by omega)
      have HX := Lib.hid hx; clear hx
      have hcl := cmp_lt x.path.data.toList p.data.toList
      have HC := Lib.hid (fun W => act_lookAt1 A' n' c' x.path p x.run W)
      generalize Lib.compareBytes x.path.data.toList p.data.toList = cb at hcl HC
      rw [← Lib.toList_data, ← Lib.toList_data] at hcl
      cases hle : ltS x.path p
      · have HH := Lib.hid (hh.down hso hm1 hm2 HX.out hle)
        have hcb : 0 ≤ cb := by
          have : ¬ cb < 0 := fun h => by have := hcl.1 h; rw [show Op.bytesLess x.path.toList p.toList = false from hle] at this; cases this
          omega
        clear hcl
        go_wp2_with (go_at_call 92; refine (HC.out _).mono ?_; rintro e w1 ⟨rfl, hb1⟩)
        go_round
        case rel => exact ⟨lo, m, rfl, rfl, hm1, by omega, HH.out, fr_call hbel hb1⟩
        case measure => simp [intOf]; omega
      · have HH := Lib.hid (hh.up hso hm1 hm2 HX.out hle)
        have hcb : cb < 0 := hcl.2 hle
        clear hcl
        go_wp2_with (go_at_call 92; refine (HC.out _).mono ?_; rintro e w1 ⟨rfl, hb1⟩)
        go_round
        case rel => exact ⟨m + 1, hi, by go_num, rfl, by omega, h2, HH.out, fr_call hbel hb1⟩
        case measure => simp [intOf]; omega
    · obtain rfl : lo = hi := by omega
      by_cases hend : lo < n
      · obtain ⟨b, o, x, A', n', c', rfl, hb, hx, hs1, hnc, hcm, hsl', c0, c1, c2⟩ := hsr.file (k := lo) hend
        have HX := Lib.hid hx; clear hx
        have hce := cmp_eq x.path.data.toList p.data.toList
        have HC := Lib.hid (fun W => act_lookAt1 A' n' c' x.path p x.run W)
        generalize Lib.compareBytes x.path.data.toList p.data.toList = cb at hce HC
        rw [← Lib.toList_data, ← Lib.toList_data] at hce
        have hg : decide ((lo : Int) < (n : Int)) = true := by simp; omega
        cases heq : (x.path.toList == p.toList)
        · have HM := Lib.hid (hh.none hso (fun y hy => by rw [HX.out] at hy; cases hy; exact heq))
          have hcb : (cb == 0) = false := by
            rw [beq_eq_false_iff_ne] at heq ⊢
            exact fun h => heq (hce.1 h)
          clear hce
          go_wp2_with (go_at_call 92; refine (HC.out _).mono ?_; rintro e w1 ⟨rfl, hb1⟩)
          go_ret2
          exact ⟨lo, false, rfl, .inl ⟨rfl, HM.out⟩, fr_call hbel hb1⟩
        · have HM := Lib.hid (find_sorted hso HX.out heq)
          have hcb : (cb == 0) = true := by
            rw [beq_iff_eq] at heq ⊢
            exact hce.2 heq
          clear hce
          go_wp2_with (go_at_call 92; refine (HC.out _).mono ?_; rintro e w1 ⟨rfl, hb1⟩)
          go_ret2
          exact ⟨lo, true, rfl, .inr ⟨rfl, x, HX.out, HM.out⟩, fr_call hbel hb1⟩
      · have HM := Lib.hid (hh.none hso (fun y hy => by have := (List.getElem?_eq_some_iff.1 hy).1; rw [hsl.1] at this; omega))
        have hg : decide ((lo : Int) < (n : Int)) = false := by simp; omega
        go_wp2
        go_ret2
        exact ⟨lo, false, rfl, .inl ⟨rfl, HM.out⟩, hbel⟩

set_option maxHeartbeats 2000000 in
set_option maxRecDepth 100000 in
theorem act_lookAt (A : Option Addr) (n c : Nat) (l : List FileV) (p : ByteArray) (w : World) (hsl : Sl w (Lt w.heap.size) A n l) (hso : Sorted l) (hn : n ≤ 1000) :
    Calls Tryz.prog 54 #[.slice A n c, .string p] w fun e w' => e = .returned (.agg #[.string (lookAtS l p).path, .string (lookAtS l p).digest, .bool (lookAtS l p).run]) ∧ Below w.heap.size w w' := by
  go_enter Tryz.func54, Tryz.ntmps54
  go_wp2_with fail
  refine (bsearch_file A n c l p _ ((hsl.keep (keep_lt (fr_alloc (fr_refl w) _))).more (lt_mono (by simp))) hso hn).mono ?_
  rintro e w1 ⟨k, found, rfl, hr, hb1⟩
  have hz1 := grew hb1
  obtain ⟨hc1, hf1⟩ := bcell hb1
  have hbel := fr_box (fr_refl w) hb1
  rcases hr with ⟨rfl, hr⟩ | ⟨rfl, x, hx, hr⟩
  · have HR := Lib.hid (lookAt_none hr); clear hr
    go_wp2
    exact bodyPost_ret (v := .agg #[.string p, .string ⟨#[]⟩, .bool false]) (by simp [results, Tryz.results54, go_sem, *]) rfl ⟨by rw [HR.out], (by repeat (first | exact hbel | refine Below.drew ?_ | refine fr_alloc ?_ _ | refine fr_set ?_ (by simp) _))⟩
  · have HR := Lib.hid (lookAt_some hr); clear hr
    have HX := Lib.hid hx; clear hx
    have hlen : k < n := by have := (List.getElem?_eq_some_iff.1 HX.out).1; rw [hsl.1] at this; exact this
    obtain ⟨b, o, y, A', n', c', rfl, hb, hy, hs1, hnc, hcm, hsl', c0, c1, c2⟩ := ((hsl.keep (keep_lt hbel)).more (lt_mono hbel.size)).file hlen
    obtain rfl : y = x := by rw [HX.out] at hy; cases hy; rfl
    clear hy
    have hlen' : (k : Int) < n := by omega
    have HD := Lib.hid (fun W (hW : W.heap = w1.heap) => blob_Digest A' n' c' y.bytes W (by rw [hW]; exact hsl'.keep (fun q _ => by rw [hW])))
    have hbw : b < w1.heap.size := hb
    have HB := Lib.hid ((box3_new w (.string ⟨#[]⟩) (.string ⟨#[]⟩) (.bool false) 38).call hb1)
    clear hc1 hf1
    obtain ⟨⟨x0, x1, x2⟩, ⟨y0, y1, y2⟩, _⟩ := HB.out
    go_wp2
    go_region_with (go_at_call 94; refine (HD.out _ (by rfl)).mono ?_; rintro e w2 ⟨rfl, hb2⟩; have hb3 := of_drew hb2; have r1 := (hb3.cell (p := ⟨b, o + k * 3 + 1, none⟩) hbw).trans c1; obtain ⟨⟨z0, z1, z2⟩, ⟨v0, v1, v2⟩, _⟩ := HB.out.call hb3)
    all_goals
      go_wp2
      exact bodyPost_ret (v := .agg #[.string p, .string (digestS y.bytes), .bool y.run]) (by simp [results, Tryz.results54, go_sem, *]) rfl ⟨by rw [HR.out], (by repeat (first | exact hbel | exact fr_refl _ | refine fr_call (w := w1) ?_ (of_drew hb2) | refine Below.drew ?_ | refine fr_alloc ?_ _ | refine fr_set ?_ (by simp) _))⟩
end Go.Proofs.Sm

namespace Go.Proofs.Sm
open Go.RowKit

def lookCells (x : Look) : List Value := [.string x.path, .string x.digest, .bool x.run]
def looksAtS (l : List Look) (files : List FileV) : List Look := l.map fun x => lookAtS files x.path
theorem digestS_size (l : List UInt8) : (digestS l).size = 16 := by simp [digestS, ByteArray.size]
theorem lookAtS_path (files : List FileV) (p : ByteArray) : (lookAtS files p).path = p := by unfold lookAtS; split <;> rfl
theorem lookAtS_size (files : List FileV) (p : ByteArray) : (lookAtS files p).digest.size ≤ 16 := by
  unfold lookAtS
  split
  · exact Nat.zero_le _
  · rw [digestS_size]; exact Nat.le_refl _
theorem look_info : (Tryz.prog.info? 38).map (fun i => (i.zero, i.size, i.bytes)) = some (some (.agg #[.string ⟨#[]⟩, .string ⟨#[]⟩, .bool false]), 3, 40) := by kernel_rfl

theorem new_cells (w : World) (cs : Array Value) (t : TypeId) : ∀ (j : Nat) u, cs.toList[j]? = some u → (w.alloc (.cells cs t)).cell? ((⟨w.heap.size, 0, none⟩ : Addr).add j) = some u := by
  intro j u hu
  have h0 : (w.alloc (.cells cs t)).heap[w.heap.size]? = some (.cells cs t (0, 0)) := heap_alloc_new w _
  have e : (⟨w.heap.size, 0, none⟩ : Addr).add j = ⟨w.heap.size, j, none⟩ := by
    unfold Addr.add
    split
    · simp [*]
    · simp
  rw [e, World.cell?, h0]
  simpa using hu
theorem oneCell_look (x : Look) : ∀ u ∈ lookCells x, u.oneCell' = true := by
  intro u hu
  simp only [lookCells, List.mem_cons, List.mem_nil_iff, or_false] at hu
  rcases hu with rfl | rfl | rfl <;> rfl
theorem looksAt_own {w : World} {base : Nat} {v : Value} {l : List Look} {files : List FileV} (hl : ∀ x ∈ l, x.path.size ≤ maxLen) (h : w.ownsRow base 38 3 v l.length ((looksAtS l files).flatMap lookCells)) :
    ∃ A c, v = .slice A l.length c ∧ l.length ≤ c ∧ c ≤ maxLen ∧ Sl w (Lt w.heap.size) A l.length (looksAtS l files) := by
  have hlen : (looksAtS l files).length = l.length := by simp [looksAtS]
  rw [← hlen] at h ⊢
  refine Sl.of_own (α := Look) (cells := lookCells) (fun _ => rfl) (fun x hx => ?_) h
  obtain ⟨y, hy, rfl⟩ := List.mem_map.1 hx
  refine ⟨rfl, ?_, ?_⟩
  · rw [lookAtS_path]; exact hl y hy
  · exact Nat.le_trans (lookAtS_size _ _) (by unfold maxLen; decide)
theorem Sl.look_sizes {w : World} {S : Nat → Prop} {A : Option Addr} {n : Nat} {l : List Look} (h : Sl w S A n l) : ∀ x ∈ l, x.path.size ≤ maxLen := by
  intro x hx
  obtain ⟨k, hk⟩ := List.getElem?_of_mem hx
  have hkn : k < n := by
    have := (List.getElem?_eq_some_iff.1 hk).1
    rw [h.1] at this
    exact this
  obtain ⟨_, _, y, _, _, hy, hs, _⟩ := h.look hkn
  rw [hk] at hy
  cases hy
  exact hs

end Go.Proofs.Sm

namespace Go.Proofs.Sm
open Go.RowKit

theorem ret_pair {a b c d : Value} (h1 : a = c) (h2 : b = d) : Ending.returned (.tuple #[a, b]) = .returned (.tuple #[c, d]) := by rw [h1, h2]
def looksOfErr (l : List Look) (files : List FileV) : Int := if checkLooksS l ≠ 0 then checkLooksS l else checkFilesS files
def looksOfS (l : List Look) (files : List FileV) : List Look := if looksOfErr l files = 0 then looksAtS l files else []
theorem checkLooks_len {l : List Look} (h : checkLooksS l = 0) : l.length ≤ 4000 := by
  unfold checkLooksS at h
  split at h
  · omega
  · omega
theorem checkFiles_len {l : List FileV} (h : checkFilesS l = 0) : l.length ≤ 1000 := by
  unfold checkFilesS at h
  split at h
  · omega
  · omega
theorem checkFiles_sorted {l : List FileV} (h : checkFilesS l = 0) : Sorted l := by
  unfold checkFilesS at h
  split at h
  · omega
  · split at h
    · rename_i h1
      exact absurd h h1
    · rename_i h1
      exact sorted_of (by simpa using h1)

end Go.Proofs.Sm
