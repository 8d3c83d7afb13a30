/- Walks: the reference's look at looks. -/
import Derived.Test.YtnhcaelapadhaaaGreatDoorW6
namespace Go.Proofs.Sm
open Go.RowKit

theorem ref1_IsDigest' (s : ByteArray) (w : World) (hs : s.size ≤ maxLen) : Calls Tryz.prog 71 #[.string s] w fun e w' => e = .returned (.bool (isDigestS s)) ∧ Below w.heap.size w w' := (ref1_IsDigest s w hs).mono fun _ _ h => ⟨h.1, below_eq h.2⟩

set_option maxRecDepth 100000 in
theorem ref5_CheckLooks (A : Option Addr) (n c : Nat) (l : List Look) (w : World) (hE : Env w) (hsl : Sl w (Lt w.heap.size) A n l) : Calls Tryz.prog 56 #[.slice A n c] w fun e w' => e = .returned (.int .i64 (checkLooksS l)) ∧ Below w.heap.size w w' := by
  have hm : n ≤ 9223372036854775807 := hsl.2.1
  have HL := Lib.hid hsl.1
  by_cases hbig : (4000 : Int) < n
  · go_enter Tryz.func56, Tryz.ntmps56
    go_wp2
    go_ret; exact ⟨ret_int (by rw [checkLooksS, HL.out, if_pos hbig]), Below.refl _ _⟩
  have Hd := Lib.hid (show checkLooksS l = looksErr (ahead Look.path l 0) (l.drop 0) by rw [checkLooksS, HL.out, if_neg hbig]; rfl)
  go_enter Tryz.func56, Tryz.ntmps56
  go_wp2
  go_loopw [3] (fun i wr => ∃ k : Nat, k ≤ n ∧ i = .int .i64 k ∧ checkLooksS l = looksErr (ahead Look.path l k) (l.drop k) ∧ Below w.heap.size w wr) (fun i _ => n - (intOf i).toNat)
  case atStart => exact ⟨0, Nat.zero_le _, rfl, Hd.out, Below.refl _ _⟩
  case round =>
    obtain ⟨k, hk, rfl, hd, hbel⟩ := hrel
    have Hr := Lib.hid hd; clear hd
    by_cases hlt : k < n
    · obtain ⟨b, o, x, rfl, hb, hx, hs1, hs2, c0, c1, c2⟩ := (hsl.keep (keep_lt hbel)).look hlt
      have hbw : b < wr.heap.size := Nat.lt_of_lt_of_le hb hbel.size
      have HX := Lib.hid hx; clear hx
      have hEr := hE.then_ hbel
      cases hp : isPathS x.path
      · have HV := Lib.hid (lookErr_path (prev := ahead Look.path l k) hp)
        go_wp2_with (first
        | (go_at_call 86; refine (ref1_IsPath _ _ (hEr.alloc _)).mono ?_; rintro e w1 ⟨rfl, hb1⟩; obtain ⟨hc1, hf1⟩ := bcell hb1; have hz1 := grew hb1)
        | (go_at_call 71; refine (ref1_IsDigest' _ _ hs2).mono ?_; rintro e w2 ⟨rfl, hb2⟩; obtain ⟨hc2, hf2⟩ := bcell hb2))
        go_ret
        exact ⟨ret_int (by rw [Hr.out]; exact (looks_stop HX.out HV.out (by decide)).symm), fr_box hbel hb1⟩
      cases he : x.digest.toList.isEmpty
      · have he' : x.digest.toList ≠ [] := by simpa using he
        cases hdg : isDigestS x.digest
        · have HV := Lib.hid (lookErr_digest (prev := ahead Look.path l k) hp he hdg)
          go_wp2_with (first
          | (go_at_call 86; refine (ref1_IsPath _ _ (hEr.alloc _)).mono ?_; rintro e w1 ⟨rfl, hb1⟩; obtain ⟨hc1, hf1⟩ := bcell hb1; have hz1 := grew hb1)
          | (go_at_call 71; refine (ref1_IsDigest' _ _ hs2).mono ?_; rintro e w2 ⟨rfl, hb2⟩; obtain ⟨hc2, hf2⟩ := bcell hb2))
          go_ret
          exact ⟨ret_int (by rw [Hr.out]; exact (looks_stop HX.out HV.out (by decide)).symm), fr_call (fr_box hbel hb1) hb2⟩
        · have HO := Lib.hid (lookErr_rest (prev := ahead Look.path l k) hp (.inl ⟨he, hdg⟩))
          by_cases hk0 : 0 < k
          · have hg : decide ((0 : Int) < (k : Int)) = true := by simpa using hk0
            obtain ⟨_, _, y, e0, _, hy, _, _, d0, _, _⟩ := (hsl.keep (keep_lt hbel)).look (k := k - 1) (by omega)
            cases e0
            have HA := Lib.hid (ahead_pos (f := Look.path) hk0 hy); clear hy
            cases hle : leS x.path y.path
            · have HV := Lib.hid (show lookErr (ahead Look.path l k) x = 0 by rw [HO.out, HA.out]; simp [notAfter, hle])
              have hle' := leS_false hle
              go_wp2_with (first
              | (go_at_call 86; refine (ref1_IsPath _ _ (hEr.alloc _)).mono ?_; rintro e w1 ⟨rfl, hb1⟩; obtain ⟨hc1, hf1⟩ := bcell hb1; have hz1 := grew hb1)
              | (go_at_call 71; refine (ref1_IsDigest' _ _ hs2).mono ?_; rintro e w2 ⟨rfl, hb2⟩; obtain ⟨hc2, hf2⟩ := bcell hb2))
              have d1 : w2.cell? ⟨b, o + (k - 1) * 3, none⟩ = some (.string y.path) := by rw [hb2.cell (by show b < _; omega), hb1.cell (by show b < _; simp; omega), World.cell?_alloc_lt _ _ _ (by exact hbw)]; exact d0
              have g1 := IntWalk.i64_in ((k : Int) - 1) ⟨by omega, by omega⟩; have g2 : ((k : Int) - 1).toNat = k - 1 := (by omega); have g3 : (0 : Int) ≤ (k : Int) - 1 := (by omega); have g4 : (k : Int) - 1 < n := (by omega)
              go_quiet (fail)
              clear g1 g2 g3 g4
              go_wp2
              (go_round; (case rel => exact ⟨k + 1, by omega, by go_num, by rw [Hr.out]; exact looks_round HX.out HV.out, below_drewN (by first | exact fr_box hbel hb1 | exact fr_call (fr_box hbel hb1) hb2) _⟩); (case measure => simp [intOf]; omega))
            · have HV := Lib.hid (show lookErr (ahead Look.path l k) x = 8 by rw [HO.out, HA.out]; simp [notAfter, hle])
              have hle' := leS_true hle
              go_wp2_with (first
              | (go_at_call 86; refine (ref1_IsPath _ _ (hEr.alloc _)).mono ?_; rintro e w1 ⟨rfl, hb1⟩; obtain ⟨hc1, hf1⟩ := bcell hb1; have hz1 := grew hb1)
              | (go_at_call 71; refine (ref1_IsDigest' _ _ hs2).mono ?_; rintro e w2 ⟨rfl, hb2⟩; obtain ⟨hc2, hf2⟩ := bcell hb2))
              have d1 : w2.cell? ⟨b, o + (k - 1) * 3, none⟩ = some (.string y.path) := by rw [hb2.cell (by show b < _; omega), hb1.cell (by show b < _; simp; omega), World.cell?_alloc_lt _ _ _ (by exact hbw)]; exact d0
              have g1 := IntWalk.i64_in ((k : Int) - 1) ⟨by omega, by omega⟩; have g2 : ((k : Int) - 1).toNat = k - 1 := (by omega); have g3 : (0 : Int) ≤ (k : Int) - 1 := (by omega); have g4 : (k : Int) - 1 < n := (by omega)
              go_quiet (fail)
              clear g1 g2 g3 g4
              go_wp2
              go_ret
              exact ⟨ret_int (by rw [Hr.out]; exact (looks_stop HX.out HV.out (by decide)).symm), below_drewN (fr_call (fr_box hbel hb1) hb2) _⟩
          · have hg : decide ((0 : Int) < (k : Int)) = false := by simpa using hk0
            have HV := Lib.hid (show lookErr (ahead Look.path l k) x = 0 by rw [HO.out, show ahead Look.path l k = none by simp [ahead]; omega]; rfl)
            go_wp2_with (first
            | (go_at_call 86; refine (ref1_IsPath _ _ (hEr.alloc _)).mono ?_; rintro e w1 ⟨rfl, hb1⟩; obtain ⟨hc1, hf1⟩ := bcell hb1; have hz1 := grew hb1)
            | (go_at_call 71; refine (ref1_IsDigest' _ _ hs2).mono ?_; rintro e w2 ⟨rfl, hb2⟩; obtain ⟨hc2, hf2⟩ := bcell hb2))
            go_quiet (fail)
            go_wp2
            (go_round; (case rel => exact ⟨k + 1, by omega, by go_num, by rw [Hr.out]; exact looks_round HX.out HV.out, below_drewN (by first | exact fr_box hbel hb1 | exact fr_call (fr_box hbel hb1) hb2) _⟩); (case measure => simp [intOf]; omega))
      · have he' : x.digest.toList = [] := by simpa using he
        cases hrn : x.run
        · have HO := Lib.hid (lookErr_rest (prev := ahead Look.path l k) hp (.inr ⟨he, hrn⟩))
          by_cases hk0 : 0 < k
          · have hg : decide ((0 : Int) < (k : Int)) = true := by simpa using hk0
            obtain ⟨_, _, y, e0, _, hy, _, _, d0, _, _⟩ := (hsl.keep (keep_lt hbel)).look (k := k - 1) (by omega)
            cases e0
            have HA := Lib.hid (ahead_pos (f := Look.path) hk0 hy); clear hy
            cases hle : leS x.path y.path
            · have HV := Lib.hid (show lookErr (ahead Look.path l k) x = 0 by rw [HO.out, HA.out]; simp [notAfter, hle])
              have hle' := leS_false hle
              go_wp2_with (first
              | (go_at_call 86; refine (ref1_IsPath _ _ (hEr.alloc _)).mono ?_; rintro e w1 ⟨rfl, hb1⟩; obtain ⟨hc1, hf1⟩ := bcell hb1; have hz1 := grew hb1)
              | (go_at_call 71; refine (ref1_IsDigest' _ _ hs2).mono ?_; rintro e w2 ⟨rfl, hb2⟩; obtain ⟨hc2, hf2⟩ := bcell hb2))
              have d1 : w1.cell? ⟨b, o + (k - 1) * 3, none⟩ = some (.string y.path) := by rw [hb1.cell (by show b < _; simp; omega), World.cell?_alloc_lt _ _ _ (by exact hbw)]; exact d0
              have g1 := IntWalk.i64_in ((k : Int) - 1) ⟨by omega, by omega⟩; have g2 : ((k : Int) - 1).toNat = k - 1 := (by omega); have g3 : (0 : Int) ≤ (k : Int) - 1 := (by omega); have g4 : (k : Int) - 1 < n := (by omega)
              go_quiet (fail)
              clear g1 g2 g3 g4
              go_wp2
              (go_round; (case rel => exact ⟨k + 1, by omega, by go_num, by rw [Hr.out]; exact looks_round HX.out HV.out, below_drewN (by first | exact fr_box hbel hb1 | exact fr_call (fr_box hbel hb1) hb2) _⟩); (case measure => simp [intOf]; omega))
            · have HV := Lib.hid (show lookErr (ahead Look.path l k) x = 8 by rw [HO.out, HA.out]; simp [notAfter, hle])
              have hle' := leS_true hle
              go_wp2_with (first
              | (go_at_call 86; refine (ref1_IsPath _ _ (hEr.alloc _)).mono ?_; rintro e w1 ⟨rfl, hb1⟩; obtain ⟨hc1, hf1⟩ := bcell hb1; have hz1 := grew hb1)
              | (go_at_call 71; refine (ref1_IsDigest' _ _ hs2).mono ?_; rintro e w2 ⟨rfl, hb2⟩; obtain ⟨hc2, hf2⟩ := bcell hb2))
              have d1 : w1.cell? ⟨b, o + (k - 1) * 3, none⟩ = some (.string y.path) := by rw [hb1.cell (by show b < _; simp; omega), World.cell?_alloc_lt _ _ _ (by exact hbw)]; exact d0
              have g1 := IntWalk.i64_in ((k : Int) - 1) ⟨by omega, by omega⟩; have g2 : ((k : Int) - 1).toNat = k - 1 := (by omega); have g3 : (0 : Int) ≤ (k : Int) - 1 := (by omega); have g4 : (k : Int) - 1 < n := (by omega)
              go_quiet (fail)
              clear g1 g2 g3 g4
              go_wp2
              go_ret
              exact ⟨ret_int (by rw [Hr.out]; exact (looks_stop HX.out HV.out (by decide)).symm), below_drewN (fr_box hbel hb1) _⟩
          · have hg : decide ((0 : Int) < (k : Int)) = false := by simpa using hk0
            have HV := Lib.hid (show lookErr (ahead Look.path l k) x = 0 by rw [HO.out, show ahead Look.path l k = none by simp [ahead]; omega]; rfl)
            go_wp2_with (first
            | (go_at_call 86; refine (ref1_IsPath _ _ (hEr.alloc _)).mono ?_; rintro e w1 ⟨rfl, hb1⟩; obtain ⟨hc1, hf1⟩ := bcell hb1; have hz1 := grew hb1)
            | (go_at_call 71; refine (ref1_IsDigest' _ _ hs2).mono ?_; rintro e w2 ⟨rfl, hb2⟩; obtain ⟨hc2, hf2⟩ := bcell hb2))
            go_quiet (fail)
            go_wp2
            (go_round; (case rel => exact ⟨k + 1, by omega, by go_num, by rw [Hr.out]; exact looks_round HX.out HV.out, below_drewN (by first | exact fr_box hbel hb1 | exact fr_call (fr_box hbel hb1) hb2) _⟩); (case measure => simp [intOf]; omega))
        · have HV := Lib.hid (lookErr_run (prev := ahead Look.path l k) hp he hrn)
          go_wp2_with (first
          | (go_at_call 86; refine (ref1_IsPath _ _ (hEr.alloc _)).mono ?_; rintro e w1 ⟨rfl, hb1⟩; obtain ⟨hc1, hf1⟩ := bcell hb1; have hz1 := grew hb1)
          | (go_at_call 71; refine (ref1_IsDigest' _ _ hs2).mono ?_; rintro e w2 ⟨rfl, hb2⟩; obtain ⟨hc2, hf2⟩ := bcell hb2))
          go_ret
          exact ⟨ret_int (by rw [Hr.out]; exact (looks_stop HX.out HV.out (by decide)).symm), fr_box hbel hb1⟩
    · go_wp2
      go_ret
      exact ⟨ret_int (by rw [Hr.out, List.drop_eq_nil_of_le (by rw [hsl.1]; omega)]; rfl), hbel⟩
end Go.Proofs.Sm
