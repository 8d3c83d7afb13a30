/- Walks: a line of an action's text. -/
import Derived.Test.YtkhengfpglfapaaGreatDoorH7x4
import Derived.Test.YtkhengfpglfapaaGreatDoorH7x3
import Derived.Test.YtkhengfpglfapaaGreatDoorH7x2
import Derived.Lib.FrozenHead2
import Derived.Lib.UnsafeStr
import Derived.Lib.BufferWrite
import Derived.Test.YtkhengfpglfapaaGreatDoorH7x1
import Derived.Lib.OthersKept
import Derived.Lib.Builder
import Derived.Lib.FrozenHead
import Derived.Lib.AppendStr
import Derived.Deep.RegionHeld3
import Derived.Lib.Join
namespace Go.Proofs.Sm
open Go.RowKit

theorem slash_cat (q : ByteArray) (h : q.size ≤ 100000) : q.size + (⟨#[47]⟩ : ByteArray).size ≤ 9223372036854775807 := by
  have : (⟨#[47]⟩ : ByteArray).size = 1 := rfl
  omega
theorem blob_Within (p q : ByteArray) (w : World) (h : q.size ≤ 100000) : Calls Tryz.prog 81 #[.string p, .string q] w fun e w' => e = .returned (.bool (liesS p q)) ∧ w = w' := by
  have HV := Lib.hid (show liesS p q = Lib.hasPrefix p.data.toList (q ++ (⟨#[47]⟩ : ByteArray)).data.toList by rw [liesS]; congr 1)
  have HP := Lib.hid (fun s w => Tryz.strings_HasPrefix p s w)
  go_enter Tryz.func81, Tryz.ntmps81
  go_wp2_with (go_at_call 123; refine (HP.out _ _).mono ?_; rintro e w1 ⟨rfl, rfl⟩)
  go_ret
  exact ⟨ret_bool HV.out.symm, rfl⟩
theorem ref1_Lies (p q : ByteArray) (w : World) (h : q.size ≤ 100000) : Calls Tryz.prog 87 #[.string p, .string q] w fun e w' => e = .returned (.bool (liesS p q)) ∧ w = w' := by
  have HV := Lib.hid (show liesS p q = Lib.hasPrefix p.data.toList (q ++ (⟨#[47]⟩ : ByteArray)).data.toList by rw [liesS]; congr 1)
  have HP := Lib.hid (fun s w => Tryz.strings_HasPrefix p s w)
  go_enter Tryz.func87, Tryz.ntmps87
  go_wp2_with (go_at_call 123; refine (HP.out _ _).mono ?_; rintro e w1 ⟨rfl, rfl⟩)
  go_ret
  exact ⟨ret_bool HV.out.symm, rfl⟩
theorem checkOutputs1 (p q : ByteArray) (g : Nat) (w : World) (hc : w.cell? ⟨g, 0, none⟩ = some (.string p)) (h : q.size ≤ 100000) : Calls Tryz.prog 80 #[.string q, .pointer (some ⟨g, 0, none⟩)] w fun e w' => e = .returned (.bool (liesS p q)) ∧ Below w.heap.size w w' := by
  go_enter Tryz.func80, Tryz.ntmps80
  go_wp2_with (go_at_call 81; refine (blob_Within _ _ _ h).mono ?_; rintro e w1 ⟨rfl, rfl⟩)
  go_ret
  exact ⟨rfl, Below.refl _ _⟩
theorem outErr_path {prev : Option ByteArray} {p : ByteArray} (h : isPathS p = false) : outErr prev p = 3 := by rw [outErr, if_pos h]
theorem outErr_rest {prev : Option ByteArray} {p : ByteArray} (h : isPathS p = true) : outErr prev p = if notAfter prev p then 8 else 0 := by rw [outErr, if_neg (by rw [h]; decide)]
theorem listErr_all {α : Type} {err : Option ByteArray → α → Int} {key : α → ByteArray} {l : List α} : ∀ prev, listErr err key prev l = 0 → ∀ x ∈ l, ∃ q, err q x = 0 := by
  induction l with
  | nil => intro _ _ x hx; simp at hx
  | cons a l ih =>
    intro prev h x hx
    rw [listErr] at h
    split at h
    · rename_i h0
      rcases List.mem_cons.1 hx with rfl | hx
      · exact ⟨_, h0⟩
      · exact ih _ h x hx
    · exact absurd h ‹_›
theorem outs_paths {l : List ByteArray} (h : listErr outErr id none l = 0) : ∀ x ∈ l, isPathS x = true := by
  intro x hx
  obtain ⟨q, hq⟩ := listErr_all _ h x hx
  cases hp : isPathS x
  · rw [outErr_path hp] at hq; omega
  · rfl
theorem outs_none {l : List ByteArray} (h : l.length = 0) : checkOutputsS l = 9 := by rw [checkOutputsS, if_pos h]
theorem outs_large {l : List ByteArray} (h0 : l.length ≠ 0) (h : (100 : Int) < l.length) : checkOutputsS l = 2 := by rw [checkOutputsS, if_neg h0, if_pos h]
theorem outs_err {l : List ByteArray} (h0 : l.length ≠ 0) (h : ¬ (100 : Int) < l.length) (h1 : listErr outErr id none l ≠ 0) : checkOutputsS l = listErr outErr id none l := by rw [checkOutputsS, if_neg h0, if_neg h, if_pos h1]
theorem outs_rest {l : List ByteArray} (h0 : l.length ≠ 0) (h : ¬ (100 : Int) < l.length) (h1 : listErr outErr id none l = 0) : checkOutputsS l = if l.any (fun p => l.any fun q => liesS p q) then 12 else 0 := by
  rw [checkOutputsS, if_neg h0, if_neg h, if_neg (by rw [h1]; decide)]

set_option maxHeartbeats 1000000 in
set_option maxRecDepth 100000 in
theorem act_checkOutputs (A : Option Addr) (n c : Nat) (l : List ByteArray) (w : World) (hE : Env w) (hsl : Sl w (Lt w.heap.size) A n l) : Calls Tryz.prog 37 #[.slice A n c] w fun e w' => e = .returned (.int .i64 (checkOutputsS l)) ∧ Below w.heap.size w w' := by
  have hm : n ≤ 9223372036854775807 := hsl.2.1
  have HL := Lib.hid hsl.1
  by_cases hn0 : n = 0
  · subst hn0
    have HV := Lib.hid (outs_none (l := l) HL.out)
    go_enter Tryz.func37, Tryz.ntmps37
    go_wp2
    go_ret; exact ⟨ret_int HV.out.symm, Below.refl _ _⟩
  have h0 : ((n : Int) == 0) = false := by rw [beq_eq_false_iff_ne]; omega
  by_cases hbig : (100 : Int) < n
  · have HV := Lib.hid (outs_large (l := l) (by rw [HL.out]; exact hn0) (by rw [HL.out]; exact hbig))
    go_enter Tryz.func37, Tryz.ntmps37
    go_wp2
    go_ret; exact ⟨ret_int HV.out.symm, Below.refl _ _⟩
  have HE1 := Lib.hid (fun h => outs_err (l := l) (by rw [HL.out]; exact hn0) (by rw [HL.out]; exact hbig) h)
  have HE2 := Lib.hid (fun h => outs_rest (l := l) (by rw [HL.out]; exact hn0) (by rw [HL.out]; exact hbig) h)
  go_enter Tryz.func37, Tryz.ntmps37
  go_wp2
  go_loopw [3, 4, 15] (fun _ _ i wr => ∃ k : Nat, k ≤ n ∧ i = .int .i64 k ∧ listErr outErr id none l = listErr outErr id (ahead id l k) (l.drop k) ∧ Below w.heap.size w wr) (fun _ _ i _ => n - (intOf i).toNat)
  case atStart => exact ⟨0, Nat.zero_le _, rfl, rfl, Below.refl _ _⟩
  case round =>
    obtain ⟨k, hk, rfl, hd, hbel⟩ := hrel
    have Hr := Lib.hid hd; clear hd
    by_cases hlt : k < n
    · obtain ⟨b, o, x, rfl, hb, hx, hxs, c0⟩ := (hsl.keep (keep_lt hbel)).str hlt
      have hbw : b < wr.heap.size := Nat.lt_of_lt_of_le hb hbel.size
      have HX := Lib.hid hx; clear hx
      have hEr := hE.then_ hbel
      cases hp : isPathS x
      · have HV := Lib.hid (list_stop (key := id) HX.out (outErr_path (prev := ahead id l k) hp) (by decide))
        go_wp2_with (go_at_call 79; refine (blob_IsPath _ _ hEr).mono ?_; rintro e w1 ⟨rfl, hb1⟩; obtain ⟨hc1, hf1⟩ := bcell hb1)
        go_ret
        exact ⟨ret_int (by rw [HE1.out (by rw [Hr.out, HV.out]; decide), Hr.out, HV.out]), fr_call hbel hb1⟩
      have HO := Lib.hid (outErr_rest (prev := ahead id l k) hp)
      by_cases hk0 : 0 < k
      · have hg : decide ((0 : Int) < (k : Int)) = true := by simpa using hk0
        obtain ⟨_, _, y, e0, _, hy, hys, d0⟩ := (hsl.keep (keep_lt hbel)).str (k := k - 1) (by omega)
        cases e0
        have HA := Lib.hid (ahead_pos (f := id) hk0 hy); clear hy
        cases hle : leS x y
        · have HV := Lib.hid (show outErr (ahead id l k) x = 0 by rw [HO.out, HA.out]; simp [notAfter, hle])
          have hle' := leS_false hle
          have g1 := IntWalk.i64_in ((k : Int) - 1) ⟨by omega, by omega⟩; have g2 : ((k : Int) - 1).toNat = k - 1 := (by omega); have g3 : (0 : Int) ≤ (k : Int) - 1 := (by omega); have g4 : (k : Int) - 1 < n := (by omega)
          go_wp2_with (go_at_call 79; refine (blob_IsPath _ _ hEr).mono ?_; rintro e w1 ⟨rfl, hb1⟩; obtain ⟨hc1, hf1⟩ := bcell hb1)
          clear g1 g2 g3 g4
          go_round
          case rel => exact ⟨k + 1, by omega, by go_num, by rw [Hr.out]; exact list_round HX.out HV.out, fr_call hbel hb1⟩
          case measure => simp [intOf]; omega
        · have HV := Lib.hid (list_stop (key := id) HX.out (show outErr (ahead id l k) x = 8 by rw [HO.out, HA.out]; simp [notAfter, hle]) (by decide))
          have hle' := leS_true hle
          have g1 := IntWalk.i64_in ((k : Int) - 1) ⟨by omega, by omega⟩; have g2 : ((k : Int) - 1).toNat = k - 1 := (by omega); have g3 : (0 : Int) ≤ (k : Int) - 1 := (by omega); have g4 : (k : Int) - 1 < n := (by omega)
          go_wp2_with (go_at_call 79; refine (blob_IsPath _ _ hEr).mono ?_; rintro e w1 ⟨rfl, hb1⟩; obtain ⟨hc1, hf1⟩ := bcell hb1)
          clear g1 g2 g3 g4
          go_ret
          exact ⟨ret_int (by rw [HE1.out (by rw [Hr.out, HV.out]; decide), Hr.out, HV.out]), fr_call hbel hb1⟩
      · have hg : decide ((0 : Int) < (k : Int)) = false := by simpa using hk0
        have HV := Lib.hid (show outErr (ahead id l k) x = 0 by rw [HO.out, show ahead id l k = none by simp [ahead]; omega]; rfl)
        go_wp2_with (go_at_call 79; refine (blob_IsPath _ _ hEr).mono ?_; rintro e w1 ⟨rfl, hb1⟩; obtain ⟨hc1, hf1⟩ := bcell hb1)
        go_round
        case rel => exact ⟨k + 1, by omega, by go_num, by rw [Hr.out]; exact list_round HX.out HV.out, fr_call hbel hb1⟩
        case measure => simp [intOf]; omega
    · have HZ := Lib.hid (show listErr outErr id none l = 0 by rw [Hr.out, list_end (by rw [hsl.1]; omega)])
      have HP := Lib.hid (outs_paths HZ.out)
      have HR := Lib.hid (HE2.out HZ.out)
      go_wp2
      go_loopw [6, 37] (fun _ i wr => ∃ q : Nat, q ≤ n ∧ i = .int .i64 q ∧ (l.take q).any (fun p => l.any fun q => liesS p q) = false ∧ Below w.heap.size w wr) (fun _ i _ => n - (intOf i).toNat)
      case atStart => exact ⟨0, Nat.zero_le _, rfl, rfl, hbel⟩
      case round =>
        clear hbel
        obtain ⟨q, hq, rfl, hno, hbel⟩ := hrel
        have HN := Lib.hid hno; clear hno
        by_cases hlt2 : q < n
        · obtain ⟨b, o, x, rfl, hb, hx, hxs, c0⟩ := (hsl.keep (keep_lt hbel)).str hlt2
          have HX := Lib.hid hx; clear hx
          have hbel2 := fr_alloc hbel (.cells #[.string x] 9)
          have HC := Lib.hid (slices_ContainsFunc1 80 (enters_of Tryz.func80 (by kernel_rfl) rfl) (.pointer (some ⟨wr.heap.size, 0, none⟩)) (fun q => liesS x q) (some ⟨b, o, none⟩) n c l
            (wr.alloc (.cells #[.string x] 9)) (sl_call hsl hbel2 (Nat.le_refl _)) (fun W y hW _ hy => checkOutputs1 x y wr.heap.size W
              ((hW.cell (p := ⟨wr.heap.size, 0, none⟩) (by simp)).trans (by rw [World.cell?, heap_alloc_new wr (.cells #[.string x] 9)]; rfl)) (by have := path_size (HP.out y hy); omega)))
          cases hv : l.any (fun q => liesS x q)
          · have HQ := Lib.hid (any_step (p := fun p => l.any fun q => liesS p q) HX.out HN.out hv)
            rw [hv] at HC
            go_wp2_with fail
            refine HC.out.mono ?_
            rintro e w3 ⟨rfl, hb3⟩
            go_wp2
            go_round
            case rel => exact ⟨q + 1, by omega, by go_num, HQ.out, fr_call hbel2 hb3⟩
            case measure => simp [intOf]; omega
          · have HQ := Lib.hid (any_yes (p := fun p => l.any fun q => liesS p q) HX.out hv)
            rw [hv] at HC
            go_wp2_with fail
            refine HC.out.mono ?_
            rintro e w3 ⟨rfl, hb3⟩
            go_wp2
            go_ret
            exact ⟨ret_int (by rw [HR.out, if_pos HQ.out]), fr_call hbel2 hb3⟩
        · have HQ := Lib.hid (any_end (by rw [hsl.1]; omega) HN.out)
          go_wp2
          go_ret
          exact ⟨ret_int (by rw [HR.out, HQ.out]; rfl), hbel⟩
set_option maxHeartbeats 1000000 in
set_option maxRecDepth 100000 in
theorem ref5_checkOutputs (A : Option Addr) (n c : Nat) (l : List ByteArray) (w : World) (hE : Env w) (hsl : Sl w (Lt w.heap.size) A n l) : Calls Tryz.prog 41 #[.slice A n c] w fun e w' => e = .returned (.int .i64 (checkOutputsS l)) ∧ Below w.heap.size w w' := by
  have hm : n ≤ 9223372036854775807 := hsl.2.1
  have HL := Lib.hid hsl.1
  by_cases hn0 : n = 0
  · subst hn0
    have HV := Lib.hid (outs_none (l := l) HL.out)
    go_enter Tryz.func41, Tryz.ntmps41
    go_wp2
    go_ret; exact ⟨ret_int HV.out.symm, Below.refl _ _⟩
  have h0 : ((n : Int) == 0) = false := by rw [beq_eq_false_iff_ne]; omega
  by_cases hbig : (100 : Int) < n
  · have HV := Lib.hid (outs_large (l := l) (by rw [HL.out]; exact hn0) (by rw [HL.out]; exact hbig))
    go_enter Tryz.func41, Tryz.ntmps41
    go_wp2
    go_ret; exact ⟨ret_int HV.out.symm, Below.refl _ _⟩
  have HE1 := Lib.hid (fun h => outs_err (l := l) (by rw [HL.out]; exact hn0) (by rw [HL.out]; exact hbig) h)
  have HE2 := Lib.hid (fun h => outs_rest (l := l) (by rw [HL.out]; exact hn0) (by rw [HL.out]; exact hbig) h)
  go_enter Tryz.func41, Tryz.ntmps41
  go_wp2
  go_loopw [3] (fun i wr => ∃ k : Nat, k ≤ n ∧ i = .int .i64 k ∧ listErr outErr id none l = listErr outErr id (ahead id l k) (l.drop k) ∧ Below w.heap.size w wr) (fun i _ => n - (intOf i).toNat)
  case atStart => exact ⟨0, Nat.zero_le _, rfl, rfl, Below.refl _ _⟩
  case round =>
    obtain ⟨k, hk, rfl, hd, hbel⟩ := hrel
    have Hr := Lib.hid hd; clear hd
    by_cases hlt : k < n
    · obtain ⟨b, o, x, rfl, hb, hx, hxs, c0⟩ := (hsl.keep (keep_lt hbel)).str hlt
      have hbw : b < wr.heap.size := Nat.lt_of_lt_of_le hb hbel.size
      have HX := Lib.hid hx; clear hx
      have hEr := hE.then_ hbel
      cases hp : isPathS x
      · have HV := Lib.hid (list_stop (key := id) HX.out (outErr_path (prev := ahead id l k) hp) (by decide))
        go_wp2_with (go_at_call 86; refine (ref1_IsPath _ _ hEr).mono ?_; rintro e w1 ⟨rfl, hb1⟩; obtain ⟨hc1, hf1⟩ := bcell hb1)
        go_ret
        exact ⟨ret_int (by rw [HE1.out (by rw [Hr.out, HV.out]; decide), Hr.out, HV.out]), fr_call hbel hb1⟩
      have HO := Lib.hid (outErr_rest (prev := ahead id l k) hp)
      by_cases hk0 : 0 < k
      · have hg : decide ((0 : Int) < (k : Int)) = true := by simpa using hk0
        obtain ⟨_, _, y, e0, _, hy, hys, d0⟩ := (hsl.keep (keep_lt hbel)).str (k := k - 1) (by omega)
        cases e0
        have HA := Lib.hid (ahead_pos (f := id) hk0 hy); clear hy
        cases hle : leS x y
        · have HV := Lib.hid (show outErr (ahead id l k) x = 0 by rw [HO.out, HA.out]; simp [notAfter, hle])
          have hle' := leS_false hle
          go_wp2_with (go_at_call 86; refine (ref1_IsPath _ _ hEr).mono ?_; rintro e w1 ⟨rfl, hb1⟩; obtain ⟨hc1, hf1⟩ := bcell hb1)
          have d1 : w1.cell? ⟨b, o + (k - 1), none⟩ = some (.string y) := by rw [hb1.cell (by exact hbw)]; exact d0
          have d2 : w1.cell? ⟨b, o + k, none⟩ = some (.string x) := by rw [hb1.cell (by exact hbw)]; exact c0
          have g1 := IntWalk.i64_in ((k : Int) - 1) ⟨by omega, by omega⟩; have g2 : ((k : Int) - 1).toNat = k - 1 := (by omega); have g3 : (0 : Int) ≤ (k : Int) - 1 := (by omega); have g4 : (k : Int) - 1 < n := (by omega)
          go_quiet (fail)
          clear g1 g2 g3 g4
          go_wp2
          go_round
          case rel => exact ⟨k + 1, by omega, by go_num, by rw [Hr.out]; exact list_round HX.out HV.out, below_drewN (fr_call hbel hb1) _⟩
          case measure => simp [intOf]; omega
        · have HV := Lib.hid (list_stop (key := id) HX.out (show outErr (ahead id l k) x = 8 by rw [HO.out, HA.out]; simp [notAfter, hle]) (by decide))
          have hle' := leS_true hle
          go_wp2_with (go_at_call 86; refine (ref1_IsPath _ _ hEr).mono ?_; rintro e w1 ⟨rfl, hb1⟩; obtain ⟨hc1, hf1⟩ := bcell hb1)
          have d1 : w1.cell? ⟨b, o + (k - 1), none⟩ = some (.string y) := by rw [hb1.cell (by exact hbw)]; exact d0
          have d2 : w1.cell? ⟨b, o + k, none⟩ = some (.string x) := by rw [hb1.cell (by exact hbw)]; exact c0
          have g1 := IntWalk.i64_in ((k : Int) - 1) ⟨by omega, by omega⟩; have g2 : ((k : Int) - 1).toNat = k - 1 := (by omega); have g3 : (0 : Int) ≤ (k : Int) - 1 := (by omega); have g4 : (k : Int) - 1 < n := (by omega)
          go_quiet (fail)
          clear g1 g2 g3 g4
          go_wp2
          go_ret
          exact ⟨ret_int (by rw [HE1.out (by rw [Hr.out, HV.out]; decide), Hr.out, HV.out]), below_drewN (fr_call hbel hb1) _⟩
      · have hg : decide ((0 : Int) < (k : Int)) = false := by simpa using hk0
        have HV := Lib.hid (show outErr (ahead id l k) x = 0 by rw [HO.out, show ahead id l k = none by simp [ahead]; omega]; rfl)
        go_wp2_with (go_at_call 86; refine (ref1_IsPath _ _ hEr).mono ?_; rintro e w1 ⟨rfl, hb1⟩; obtain ⟨hc1, hf1⟩ := bcell hb1)
        go_quiet (fail)
        go_wp2
        go_round
        case rel => exact ⟨k + 1, by omega, by go_num, by rw [Hr.out]; exact list_round HX.out HV.out, below_drewN (fr_call hbel hb1) _⟩
        case measure => simp [intOf]; omega
    · have HZ := Lib.hid (show listErr outErr id none l = 0 by rw [Hr.out, list_end (by rw [hsl.1]; omega)])
      have HP := Lib.hid (outs_paths HZ.out)
      have HR := Lib.hid (HE2.out HZ.out)
      go_wp2
      go_loopw [4, 5] (fun i _ wr => ∃ q : Nat, q ≤ n ∧ i = .int .i64 q ∧ (l.take q).any (fun p => l.any fun q => liesS p q) = false ∧ Below w.heap.size w wr) (fun i _ _ => n - (intOf i).toNat)
      case atStart => exact ⟨0, Nat.zero_le _, rfl, rfl, hbel⟩
      case round =>
        clear hbel
        obtain ⟨q, hq, rfl, hno, hbel⟩ := hrel
        have HN := Lib.hid hno; clear hno
        by_cases hlt2 : q < n
        · obtain ⟨b, o, x, rfl, hb, hx, hxs, c0⟩ := (hsl.keep (keep_lt hbel)).str hlt2
          have HX := Lib.hid hx; clear hx c0
          go_wp2
          go_loopw [5] (fun i wr => ∃ p : Nat, p ≤ n ∧ i = .int .i64 p ∧ (l.take p).any (fun y => liesS x y) = false ∧ Below w.heap.size w wr) (fun i _ => n - (intOf i).toNat)
          case atStart => exact ⟨0, Nat.zero_le _, rfl, rfl, hbel⟩
          case round =>
            clear hbel
            obtain ⟨p, hp, rfl, hno2, hbel⟩ := hrel
            have HM := Lib.hid hno2; clear hno2
            by_cases hlt3 : p < n
            · obtain ⟨b2, o2, y, e2, hb2, hy, hys, c1⟩ := (hsl.keep (keep_lt hbel)).str hlt3
              cases e2
              obtain ⟨b3, o3, x', e3, hb3, hx', hxs', c0⟩ := (hsl.keep (keep_lt hbel)).str hlt2
              cases e3
              obtain rfl : x = x' := by rw [HX.out] at hx'; cases hx'; rfl
              have HY := Lib.hid hy; clear hy hx'
              have hyl : y.size ≤ 100000 := by have := path_size (HP.out y (List.mem_of_getElem? HY.out)); omega
              have hqI : (q : Int) < n := by omega
              have hpI : (p : Int) < n := by omega
              cases hv : liesS x y
              · have HQ := Lib.hid (any_step (p := fun y => liesS x y) HY.out HM.out hv)
                have HC := Lib.hid (fun W => (ref1_Lies x y W hyl).mono fun e w' h => (show e = Ending.returned (.bool (liesS x y)) ∧ w' = W from ⟨h.1, h.2.symm⟩))
                rw [hv] at HC
                go_wp2
                go_quiet ((go_at_call 87; exact Calls.quiet_of_same (HC.out _)))
                go_wp2
                go_round
                case rel => exact ⟨p + 1, by omega, by go_num, HQ.out, below_drewN hbel _⟩
                case measure => simp [intOf]; omega
              · have HQ := Lib.hid (any_yes (p := fun p => l.any fun q => liesS p q) HX.out (any_yes (p := fun y => liesS x y) HY.out hv))
                have HC := Lib.hid (fun W => (ref1_Lies x y W hyl).mono fun e w' h => (show e = Ending.returned (.bool (liesS x y)) ∧ w' = W from ⟨h.1, h.2.symm⟩))
                rw [hv] at HC
                go_wp2
                go_quiet ((go_at_call 87; exact Calls.quiet_of_same (HC.out _)))
                go_wp2
                go_ret
                exact ⟨ret_int (by rw [HR.out, if_pos HQ.out]), below_drewN hbel _⟩
            · have HQ := Lib.hid (any_step (p := fun p => l.any fun q => liesS p q) HX.out HN.out (any_end (by rw [hsl.1]; omega) HM.out))
              go_wp2
              go_round
              case rel => exact ⟨q + 1, by omega, by go_num, HQ.out, hbel⟩
              case measure => simp [intOf]; omega
        · have HQ := Lib.hid (any_end (by rw [hsl.1]; omega) HN.out)
          go_wp2
          go_ret
          exact ⟨ret_int (by rw [HR.out, HQ.out]; rfl), hbel⟩
end Go.Proofs.Sm

namespace Go.Proofs.Sm
open Go.RowKit

/-- the fields of an action -/
def actVal (a : ActionV) (A : Option Addr) (n n' : Nat) (B : Option Addr) (m m' : Nat) (C : Option Addr) (p p' : Nat) (D : Option Addr) (q q' : Nat) : Value :=
  .agg #[.string a.tool, .slice A n n', .slice B m m', .slice C p p', .slice D q q', .int .i64 a.time]
structure ActIs (w : World) (a : ActionV) (A : Option Addr) (n : Nat) (B : Option Addr) (m : Nat) (C : Option Addr) (p : Nat) (D : Option Addr) (q : Nat) : Prop where
  tool : a.tool.size ≤ maxLen
  commands : Sl w (Lt w.heap.size) A n a.commands
  vars : Sl w (Lt w.heap.size) B m a.vars
  outputs : Sl w (Lt w.heap.size) C p a.outputs
  needs : Sl w (Lt w.heap.size) D q a.needs
  time : InInt a.time
theorem ActIs.then_ {w w' : World} {a : ActionV} {A : Option Addr} {n : Nat} {B : Option Addr} {m : Nat} {C : Option Addr} {p : Nat} {D : Option Addr} {q : Nat} (h : ActIs w a A n B m C p D q) (hb : Below w.heap.size w w') : ActIs w' a A n B m C p D q :=
  ⟨h.tool, sl_call h.commands hb (Nat.le_refl _), sl_call h.vars hb (Nat.le_refl _), sl_call h.outputs hb (Nat.le_refl _), sl_call h.needs hb (Nat.le_refl _), h.time⟩
theorem action_tool {a : ActionV} (h : isDigestS a.tool = false) : checkActionS a = 3 := by rw [checkActionS, if_pos h]
theorem action_none {a : ActionV} (h : isDigestS a.tool = true) (h0 : a.commands.length = 0) : checkActionS a = 9 := by rw [checkActionS, if_neg (by rw [h]; decide), if_pos h0]
theorem action_large {a : ActionV} (h : isDigestS a.tool = true) (h0 : a.commands.length ≠ 0) (h1 : (50 : Int) < a.commands.length) : checkActionS a = 2 := by
  rw [checkActionS, if_neg (by rw [h]; decide), if_neg h0, if_pos h1]
/-- what is left when the tool and the number of commands are well -/
def actRest (a : ActionV) : Int :=
  if commandsErr a.commands ≠ 0 then commandsErr a.commands
  else if checkVarsS a.vars ≠ 0 then checkVarsS a.vars
  else if checkOutputsS a.outputs ≠ 0 then checkOutputsS a.outputs
  else if checkVarsS a.needs ≠ 0 then checkVarsS a.needs
  else if withinB a.time 1 100000 = false then 1
  else 0
theorem action_rest {a : ActionV} (h : isDigestS a.tool = true) (h0 : a.commands.length ≠ 0) (h1 : ¬ (50 : Int) < a.commands.length) : checkActionS a = actRest a := by
  rw [checkActionS, if_neg (by rw [h]; decide), if_neg h0, if_neg h1, actRest]
theorem rest_cmd {a : ActionV} {e : Int} (h : commandsErr a.commands = e) (he : e ≠ 0) : actRest a = e := by rw [actRest, if_pos (by rw [h]; exact he), h]
theorem rest_vars {a : ActionV} (h : commandsErr a.commands = 0) (h1 : checkVarsS a.vars ≠ 0) : actRest a = checkVarsS a.vars := by
  rw [actRest, if_neg (by rw [h]; decide), if_pos h1]
theorem rest_outs {a : ActionV} (h : commandsErr a.commands = 0) (h1 : checkVarsS a.vars = 0) (h2 : checkOutputsS a.outputs ≠ 0) : actRest a = checkOutputsS a.outputs := by
  rw [actRest, if_neg (by rw [h]; decide), if_neg (by rw [h1]; decide), if_pos h2]
theorem rest_needs {a : ActionV} (h : commandsErr a.commands = 0) (h1 : checkVarsS a.vars = 0) (h2 : checkOutputsS a.outputs = 0) (h3 : checkVarsS a.needs ≠ 0) : actRest a = checkVarsS a.needs := by
  rw [actRest, if_neg (by rw [h]; decide), if_neg (by rw [h1]; decide), if_neg (by rw [h2]; decide), if_pos h3]
theorem rest_time {a : ActionV} (h : commandsErr a.commands = 0) (h1 : checkVarsS a.vars = 0) (h2 : checkOutputsS a.outputs = 0) (h3 : checkVarsS a.needs = 0) : actRest a = if withinB a.time 1 100000 = false then 1 else 0 := by
  rw [actRest, if_neg (by rw [h]; decide), if_neg (by rw [h1]; decide), if_neg (by rw [h2]; decide), if_neg (by rw [h3]; decide)]
theorem commands_round {l : List (List ByteArray)} {k : Nat} {x : List ByteArray} (hx : l[k]? = some x) (h : checkCommandS x = 0) : commandsErr (l.drop k) = commandsErr (l.drop (k + 1)) := by
  rw [drop_at hx, commandsErr, if_pos h]
theorem commands_stop {l : List (List ByteArray)} {k : Nat} {x : List ByteArray} (hx : l[k]? = some x) (h : checkCommandS x ≠ 0) : commandsErr (l.drop k) = checkCommandS x := by
  rw [drop_at hx, commandsErr, if_neg h]

set_option maxHeartbeats 2000000 in
set_option maxRecDepth 100000 in
theorem act_CheckAction (a : ActionV) (A : Option Addr) (n n' : Nat) (B : Option Addr) (m m' : Nat) (C : Option Addr) (p p' : Nat) (D : Option Addr) (q q' : Nat) (w : World) (hE : Env w) (ha : ActIs w a A n B m C p D q) :
    Calls Tryz.prog 12 #[actVal a A n n' B m m' C p p' D q q'] w fun e w' => e = .returned (.int .i64 (checkActionS a)) ∧ Below w.heap.size w w' := by
  unfold actVal
  have hm : n ≤ 9223372036854775807 := ha.commands.2.1
  have HL := Lib.hid ha.commands.1
  have htl := ha.tool
  have hE1 := hE.then_ (fr_alloc (fr_refl w) (.cells #[.string a.tool, .slice A n n', .slice B m m', .slice C p p', .slice D q q', .int .i64 a.time] 26))
  cases h0 : isDigestS a.tool
  · have HV := Lib.hid (action_tool h0)
    go_enter Tryz.func12, Tryz.ntmps12
    go_wp2_with fail
    refine (blob_IsDigest _ _ htl).mono ?_
    rintro e w1 ⟨rfl, hb1⟩
    go_wp2
    go_ret; exact ⟨ret_int HV.out.symm, (by repeat (first | exact fr_refl _ | refine fr_call ?_ (by assumption) | refine fr_alloc ?_ _ | refine fr_set ?_ (by simp) _ | refine Below.drew ?_ | refine below_drewN ?_ _))⟩
  have H0 := Lib.hid h0
  by_cases hn0 : n = 0
  · subst hn0
    have HV := Lib.hid (action_none H0.out HL.out)
    go_enter Tryz.func12, Tryz.ntmps12
    go_wp2_with fail
    refine (blob_IsDigest _ _ htl).mono ?_
    rintro e w1 ⟨rfl, hb1⟩
    obtain ⟨hc1, hf1⟩ := bcell hb1
    go_wp2
    go_ret; exact ⟨ret_int HV.out.symm, (by repeat (first | exact fr_refl _ | refine fr_call ?_ (by assumption) | refine fr_alloc ?_ _ | refine fr_set ?_ (by simp) _ | refine Below.drew ?_ | refine below_drewN ?_ _))⟩
  have hne : ((n : Int) == 0) = false := by rw [beq_eq_false_iff_ne]; omega
  by_cases hbig : (50 : Int) < n
  · have HV := Lib.hid (action_large H0.out (by rw [HL.out]; exact hn0) (by rw [HL.out]; exact hbig))
    go_enter Tryz.func12, Tryz.ntmps12
    go_wp2_with fail
    refine (blob_IsDigest _ _ htl).mono ?_
    rintro e w1 ⟨rfl, hb1⟩
    obtain ⟨hc1, hf1⟩ := bcell hb1
    go_wp2
    go_ret; exact ⟨ret_int HV.out.symm, (by repeat (first | exact fr_refl _ | refine fr_call ?_ (by assumption) | refine fr_alloc ?_ _ | refine fr_set ?_ (by simp) _ | refine Below.drew ?_ | refine below_drewN ?_ _))⟩
  have HR := Lib.hid (action_rest H0.out (by rw [HL.out]; exact hn0) (by rw [HL.out]; exact hbig))
  go_enter Tryz.func12, Tryz.ntmps12
  go_wp2_with fail
  refine (blob_IsDigest _ _ htl).mono ?_
  rintro e w1 ⟨rfl, hb1⟩
  obtain ⟨hc1, hf1⟩ := bcell hb1
  have hz1 := grew hb1
  have hbel1 : Below w.heap.size w w1 := (by repeat (first | exact fr_refl _ | refine fr_call ?_ (by assumption) | refine fr_alloc ?_ _ | refine fr_set ?_ (by simp) _ | refine Below.drew ?_ | refine below_drewN ?_ _))
  go_wp2
  go_loopw [4, 5, 24] (fun _ _ i wr => ∃ k : Nat, k ≤ n ∧ i = .int .i64 k ∧ commandsErr a.commands = commandsErr (a.commands.drop k) ∧ Below w1.heap.size w1 wr) (fun _ _ i _ => n - (intOf i).toNat)
  case atStart => exact ⟨0, Nat.zero_le _, rfl, rfl, Below.refl _ _⟩
  case round =>
    obtain ⟨k, hk, rfl, hd, hbr⟩ := hrel
    have Hr := Lib.hid hd; clear hd
    have hbel := fr_call hbel1 hbr
    have hEr := hE.then_ hbel
    have har := ha.then_ hbel
    by_cases hlt : k < n
    · obtain ⟨b, o, x, A', l', c', rfl, hb, hx, hlc, hcm, hsl', c0⟩ := har.commands.row hlt
      have HX := Lib.hid hx; clear hx
      cases hv : (checkCommandS x == 0)
      · have hne : checkCommandS x ≠ 0 := by simpa using hv
        have hbn : (checkCommandS x != 0) = true := by simpa using hv
        have HV := Lib.hid (rest_cmd (Hr.out.trans (commands_stop HX.out hne)) hne)
        clear hne
        go_wp2_with fail
        refine (act_checkCommand _ _ _ _ _ hEr hsl' hlc).mono ?_
        rintro e w2 ⟨rfl, hb2⟩
        go_wp2
        go_ret
        exact ⟨ret_int (by rw [HR.out, HV.out]), fr_call hbel hb2⟩
      · have hz : checkCommandS x = 0 := by simpa using hv
        have hbn : (checkCommandS x != 0) = false := by simpa using hv
        have HV := Lib.hid (Hr.out.trans (commands_round HX.out hz))
        clear hz
        go_wp2_with fail
        refine (act_checkCommand _ _ _ _ _ hEr hsl' hlc).mono ?_
        rintro e w2 ⟨rfl, hb2⟩
        go_wp2
        go_round
        case rel => exact ⟨k + 1, by omega, by go_num, HV.out, hbr.trans (hb2.mono hbr.size)⟩
        case measure => simp [intOf]; omega
    · have HZ := Lib.hid (show commandsErr a.commands = 0 by rw [Hr.out, List.drop_eq_nil_of_le (by rw [ha.commands.1]; omega)]; rfl)
      obtain ⟨hcr, hfr⟩ := bcell hbr
      have hzr : w.heap.size < wr.heap.size := Nat.lt_of_lt_of_le hz1 hbr.size
      go_wp2_with fail
      refine (act_checkVars _ _ _ _ _ har.vars).mono ?_
      rintro e w3 ⟨rfl, hb3⟩
      have hbel3 := fr_call hbel hb3
      obtain ⟨hc3, hf3⟩ := bcell hb3
      have hz3 : w.heap.size < w3.heap.size := Nat.lt_of_lt_of_le hzr hb3.size
      cases hv : (checkVarsS a.vars == 0)
      · have hne : checkVarsS a.vars ≠ 0 := by simpa using hv
        have hbn : (checkVarsS a.vars != 0) = true := by simpa using hv
        have HV := Lib.hid (rest_vars HZ.out hne)
        clear hne
        go_wp2
        go_ret
        exact ⟨ret_int (by rw [HR.out, HV.out]), hbel3⟩
      have hzv : checkVarsS a.vars = 0 := by simpa using hv
      have hbnv : (checkVarsS a.vars != 0) = false := by simpa using hv
      have HZ1 := Lib.hid hzv; clear hzv hv
      go_wp2_with fail
      refine (act_checkOutputs _ _ _ _ _ (hE.then_ hbel3) (ha.then_ hbel3).outputs).mono ?_
      rintro e w4 ⟨rfl, hb4⟩
      have hbel4 := fr_call hbel3 hb4
      obtain ⟨hc4, hf4⟩ := bcell hb4
      have hz4 : w.heap.size < w4.heap.size := Nat.lt_of_lt_of_le hz3 hb4.size
      cases hv : (checkOutputsS a.outputs == 0)
      · have hne : checkOutputsS a.outputs ≠ 0 := by simpa using hv
        have hbn : (checkOutputsS a.outputs != 0) = true := by simpa using hv
        have HV := Lib.hid (rest_outs HZ.out HZ1.out hne)
        clear hne
        go_wp2
        go_ret
        exact ⟨ret_int (by rw [HR.out, HV.out]), hbel4⟩
      have hzv : checkOutputsS a.outputs = 0 := by simpa using hv
      have hbnv2 : (checkOutputsS a.outputs != 0) = false := by simpa using hv
      have HZ2 := Lib.hid hzv; clear hzv hv
      go_wp2_with fail
      refine (act_checkVars _ _ _ _ _ (ha.then_ hbel4).needs).mono ?_
      rintro e w5 ⟨rfl, hb5⟩
      have hbel5 := fr_call hbel4 hb5
      obtain ⟨hc5, hf5⟩ := bcell hb5
      have hz5 : w.heap.size < w5.heap.size := Nat.lt_of_lt_of_le hz4 hb5.size
      cases hv : (checkVarsS a.needs == 0)
      · have hne : checkVarsS a.needs ≠ 0 := by simpa using hv
        have hbn : (checkVarsS a.needs != 0) = true := by simpa using hv
        have HV := Lib.hid (rest_needs HZ.out HZ1.out HZ2.out hne)
        clear hne
        go_wp2
        go_ret
        exact ⟨ret_int (by rw [HR.out, HV.out]), hbel5⟩
      have hzv : checkVarsS a.needs = 0 := by simpa using hv
      have hbnv3 : (checkVarsS a.needs != 0) = false := by simpa using hv
      have HZ3 := Lib.hid hzv; clear hzv hv
      have HT := Lib.hid (rest_time HZ.out HZ1.out HZ2.out HZ3.out)
      by_cases ht1 : a.time < 1
      · have HW := Lib.hid (show withinB a.time 1 100000 = false by simp [withinB]; omega)
        go_wp2
        go_ret
        exact ⟨ret_int (by rw [HR.out, HT.out, if_pos HW.out]), hbel5⟩
      by_cases ht2 : 100000 < a.time
      · have HW := Lib.hid (show withinB a.time 1 100000 = false by simp [withinB]; omega)
        go_wp2
        go_ret
        exact ⟨ret_int (by rw [HR.out, HT.out, if_pos HW.out]), hbel5⟩
      have HW := Lib.hid (show withinB a.time 1 100000 = true by simp [withinB]; omega)
      go_wp2
      go_ret
      exact ⟨ret_int (by rw [HR.out, HT.out, if_neg (by rw [HW.out]; decide)]), hbel5⟩
set_option maxHeartbeats 2000000 in
set_option maxRecDepth 100000 in
theorem ref5_CheckAction (a : ActionV) (A : Option Addr) (n n' : Nat) (B : Option Addr) (m m' : Nat) (C : Option Addr) (p p' : Nat) (D : Option Addr) (q q' : Nat) (w : World) (hE : Env w) (ha : ActIs w a A n B m C p D q) :
    Calls Tryz.prog 13 #[actVal a A n n' B m m' C p p' D q q'] w fun e w' => e = .returned (.int .i64 (checkActionS a)) ∧ Below w.heap.size w w' := by
  unfold actVal
  have hm : n ≤ 9223372036854775807 := ha.commands.2.1
  have HL := Lib.hid ha.commands.1
  have htl := ha.tool
  have hE1 := hE.then_ (fr_alloc (fr_refl w) (.cells #[.string a.tool, .slice A n n', .slice B m m', .slice C p p', .slice D q q', .int .i64 a.time] 26))
  cases h0 : isDigestS a.tool
  · have HV := Lib.hid (action_tool h0)
    go_enter Tryz.func13, Tryz.ntmps13
    go_wp2_with fail
    refine (ref1_IsDigest' _ _ htl).mono ?_
    rintro e w1 ⟨rfl, hb1⟩
    go_wp2
    go_ret; exact ⟨ret_int HV.out.symm, (by repeat (first | exact fr_refl _ | refine fr_call ?_ (by assumption) | refine fr_alloc ?_ _ | refine fr_set ?_ (by simp) _ | refine Below.drew ?_ | refine below_drewN ?_ _))⟩
  have H0 := Lib.hid h0
  by_cases hn0 : n = 0
  · subst hn0
    have HV := Lib.hid (action_none H0.out HL.out)
    go_enter Tryz.func13, Tryz.ntmps13
    go_wp2_with fail
    refine (ref1_IsDigest' _ _ htl).mono ?_
    rintro e w1 ⟨rfl, hb1⟩
    obtain ⟨hc1, hf1⟩ := bcell hb1
    go_wp2
    go_ret; exact ⟨ret_int HV.out.symm, (by repeat (first | exact fr_refl _ | refine fr_call ?_ (by assumption) | refine fr_alloc ?_ _ | refine fr_set ?_ (by simp) _ | refine Below.drew ?_ | refine below_drewN ?_ _))⟩
  have hne : ((n : Int) == 0) = false := by rw [beq_eq_false_iff_ne]; omega
  by_cases hbig : (50 : Int) < n
  · have HV := Lib.hid (action_large H0.out (by rw [HL.out]; exact hn0) (by rw [HL.out]; exact hbig))
    go_enter Tryz.func13, Tryz.ntmps13
    go_wp2_with fail
    refine (ref1_IsDigest' _ _ htl).mono ?_
    rintro e w1 ⟨rfl, hb1⟩
    obtain ⟨hc1, hf1⟩ := bcell hb1
    go_wp2
    go_ret; exact ⟨ret_int HV.out.symm, (by repeat (first | exact fr_refl _ | refine fr_call ?_ (by assumption) | refine fr_alloc ?_ _ | refine fr_set ?_ (by simp) _ | refine Below.drew ?_ | refine below_drewN ?_ _))⟩
  have HR := Lib.hid (action_rest H0.out (by rw [HL.out]; exact hn0) (by rw [HL.out]; exact hbig))
  go_enter Tryz.func13, Tryz.ntmps13
  go_wp2_with fail
  refine (ref1_IsDigest' _ _ htl).mono ?_
  rintro e w1 ⟨rfl, hb1⟩
  obtain ⟨hc1, hf1⟩ := bcell hb1
  have hz1 := grew hb1
  have hbel1 : Below w.heap.size w w1 := (by repeat (first | exact fr_refl _ | refine fr_call ?_ (by assumption) | refine fr_alloc ?_ _ | refine fr_set ?_ (by simp) _ | refine Below.drew ?_ | refine below_drewN ?_ _))
  go_wp2
  go_loopw [3, 4] (fun i _ wr => ∃ k : Nat, k ≤ n ∧ i = .int .i64 k ∧ commandsErr a.commands = commandsErr (a.commands.drop k) ∧ Below w1.heap.size w1 wr) (fun i _ _ => n - (intOf i).toNat)
  case atStart => exact ⟨0, Nat.zero_le _, rfl, rfl, Below.refl _ _⟩
  case round =>
    obtain ⟨k, hk, rfl, hd, hbr⟩ := hrel
    have Hr := Lib.hid hd; clear hd
    have hbel := fr_call hbel1 hbr
    have hEr := hE.then_ hbel
    have har := ha.then_ hbel
    obtain ⟨hcr, hfr⟩ := bcell hbr
    have hzr : w.heap.size < wr.heap.size := Nat.lt_of_lt_of_le hz1 hbr.size
    by_cases hlt : k < n
    · obtain ⟨b, o, x, A', l', c', rfl, hb, hx, hlc, hcm, hsl', c0⟩ := har.commands.row hlt
      have HX := Lib.hid hx; clear hx
      cases hv : (checkCommandS x == 0)
      · have hne : checkCommandS x ≠ 0 := by simpa using hv
        have hbn : (checkCommandS x != 0) = true := by simpa using hv
        have HV := Lib.hid (rest_cmd (Hr.out.trans (commands_stop HX.out hne)) hne)
        clear hne
        go_wp2_with fail
        refine (ref5_checkCommand _ _ _ _ _ hEr hsl' hlc).mono ?_
        rintro e w2 ⟨rfl, hb2⟩
        go_wp2
        go_ret
        exact ⟨ret_int (by rw [HR.out, HV.out]), fr_call hbel hb2⟩
      · have hz : checkCommandS x = 0 := by simpa using hv
        have hbn : (checkCommandS x != 0) = false := by simpa using hv
        have HV := Lib.hid (Hr.out.trans (commands_round HX.out hz))
        clear hz
        go_wp2_with fail
        refine (ref5_checkCommand _ _ _ _ _ hEr hsl' hlc).mono ?_
        rintro e w2 ⟨rfl, hb2⟩
        go_wp2
        go_round
        case rel => exact ⟨k + 1, by omega, by go_num, HV.out, hbr.trans (hb2.mono hbr.size)⟩
        case measure => simp [intOf]; omega
    · have HZ := Lib.hid (show commandsErr a.commands = 0 by rw [Hr.out, List.drop_eq_nil_of_le (by rw [ha.commands.1]; omega)]; rfl)
      go_wp2_with fail
      refine (ref5_checkVars _ _ _ _ _ har.vars).mono ?_
      rintro e w3 ⟨rfl, hb3⟩
      have hbel3 := fr_call hbel hb3
      obtain ⟨hc3, hf3⟩ := bcell hb3
      have hz3 : w.heap.size < w3.heap.size := Nat.lt_of_lt_of_le hzr hb3.size
      cases hv : (checkVarsS a.vars == 0)
      · have hne : checkVarsS a.vars ≠ 0 := by simpa using hv
        have hbn : (checkVarsS a.vars != 0) = true := by simpa using hv
        have HV := Lib.hid (rest_vars HZ.out hne)
        clear hne
        go_wp2
        go_ret
        exact ⟨ret_int (by rw [HR.out, HV.out]), hbel3⟩
      have hzv : checkVarsS a.vars = 0 := by simpa using hv
      have hbnv : (checkVarsS a.vars != 0) = false := by simpa using hv
      have HZ1 := Lib.hid hzv; clear hzv hv
      go_wp2_with fail
      refine (ref5_checkOutputs _ _ _ _ _ (hE.then_ hbel3) (ha.then_ hbel3).outputs).mono ?_
      rintro e w4 ⟨rfl, hb4⟩
      have hbel4 := fr_call hbel3 hb4
      obtain ⟨hc4, hf4⟩ := bcell hb4
      have hz4 : w.heap.size < w4.heap.size := Nat.lt_of_lt_of_le hz3 hb4.size
      cases hv : (checkOutputsS a.outputs == 0)
      · have hne : checkOutputsS a.outputs ≠ 0 := by simpa using hv
        have hbn : (checkOutputsS a.outputs != 0) = true := by simpa using hv
        have HV := Lib.hid (rest_outs HZ.out HZ1.out hne)
        clear hne
        go_wp2
        go_ret
        exact ⟨ret_int (by rw [HR.out, HV.out]), hbel4⟩
      have hzv : checkOutputsS a.outputs = 0 := by simpa using hv
      have hbnv2 : (checkOutputsS a.outputs != 0) = false := by simpa using hv
      have HZ2 := Lib.hid hzv; clear hzv hv
      go_wp2_with fail
      refine (ref5_checkVars _ _ _ _ _ (ha.then_ hbel4).needs).mono ?_
      rintro e w5 ⟨rfl, hb5⟩
      have hbel5 := fr_call hbel4 hb5
      obtain ⟨hc5, hf5⟩ := bcell hb5
      have hz5 : w.heap.size < w5.heap.size := Nat.lt_of_lt_of_le hz4 hb5.size
      cases hv : (checkVarsS a.needs == 0)
      · have hne : checkVarsS a.needs ≠ 0 := by simpa using hv
        have hbn : (checkVarsS a.needs != 0) = true := by simpa using hv
        have HV := Lib.hid (rest_needs HZ.out HZ1.out HZ2.out hne)
        clear hne
        go_wp2
        go_ret
        exact ⟨ret_int (by rw [HR.out, HV.out]), hbel5⟩
      have hzv : checkVarsS a.needs = 0 := by simpa using hv
      have hbnv3 : (checkVarsS a.needs != 0) = false := by simpa using hv
      have HZ3 := Lib.hid hzv; clear hzv hv
      have HT := Lib.hid (rest_time HZ.out HZ1.out HZ2.out HZ3.out)
      cases ht : withinB a.time 1 100000
      · go_wp2_with (go_at_call 42; refine (ref5_within _ _ _ _).mono ?_; rintro e w6 ⟨rfl, rfl⟩)
        go_ret
        exact ⟨ret_int (by rw [HR.out, HT.out, if_pos ht]), hbel5⟩
      · go_wp2_with (go_at_call 42; refine (ref5_within _ _ _ _).mono ?_; rintro e w6 ⟨rfl, rfl⟩)
        go_ret
        exact ⟨ret_int (by rw [HR.out, HT.out, if_neg (by rw [ht]; decide)]), hbel5⟩
end Go.Proofs.Sm

namespace Go.Proofs.Sm
open Go.RowKit

theorem addr_add (b o j : Nat) : (⟨b, o, none⟩ : Addr).add j = ⟨b, o + j, none⟩ := by
  unfold Addr.add
  split
  · simp [*]
  · simp
section
variable {P : Program} {w : World}
theorem run_append_nilF (base : Nat) (t ty e : TypeId) (i : TypeInfo) (size c : Nat) (ht : P.underlying t = some (.slice e)) (hi : P.info? e = some i)
    (v : Value) (n : Nat) (xs : List Value) (hown : w.ownsRowF base e size v n xs) : (Builtin.append_ #[t, t] ty #[v, .slice none 0 c]).run P w = .ok v w := by
  rcases hown.2 with ⟨rfl, rfl⟩ | ⟨g, cap, cur, fz, rfl, _, _, _, hnc, _⟩
  · simp [Builtin.append_, run_underlying ht, sizeOf, typeInfo, hi, Builtin.lenOf, Builtin.firstCells]
  · simp [Builtin.append_, run_underlying ht, sizeOf, typeInfo, hi, Builtin.lenOf, Builtin.firstCells, hnc, storeCells]
theorem run_append_nilO (base : Nat) (t ty e : TypeId) (i : TypeInfo) (size c : Nat) (ht : P.underlying t = some (.slice e)) (hi : P.info? e = some i)
    (v : Value) (n : Nat) (xs : List Value) (hown : w.ownsRow base e size v n xs) : (Builtin.append_ #[t, t] ty #[v, .slice none 0 c]).run P w = .ok v w :=
  run_append_nilF base t ty e i size c ht hi v n xs (World.ownsRowF_of hown)
variable {ops : Array Oper} {rest : List Oper} {o : Oper} {a : Act} {Q : Exit → Act → World → Prop}
theorem wpList_append_srcF (hgd : o.guard = none) (s x : Operand) (t : TypeId)
    (ho : o.op = .call { callee := .builtin .append, args := #[s, x], argTypes := #[t, t] })
    (base : Nat) (e : TypeId) (i : TypeInfo) (z : Value) (size bytes : Nat) (ht : P.underlying t = some (.slice e)) (hi : P.info? e = some i) (hz : i.zero = some z)
    (hsize : i.size = size) (hby : i.bytes = bytes) (hzs : z.cells.size = size) (hsz : 0 < size)
    (v : Value) (n : Nat) (xs : List Value) (hs : a.eval s = v) (hown : w.ownsRowF base e size v n xs)
    (A : Option Addr) (m c : Nat) (news : List Value) (hx : a.eval x = .slice A m c) (hl : news.length = m * size) (hnews : 0 < m → ∃ ad, A = some ad ∧ ∀ j u, news[j]? = some u → w.cell? (ad.add j) = some u)
    (h1 : ∀ u ∈ news, u.oneCell' = true) (h63 : n + m ≤ maxLen) (hbytes : (n + m) * bytes ≤ 140737488355328) (hbase : base ≤ w.heap.size)
    (h : ∀ v' w', w'.ownsRowF base e size v' (n + m) (xs ++ news) → w.grownBy w' v.ownBlock → wpList P ops Q rest (a.put o.dst v') w') : wpList P ops Q (o :: rest) a w := by
  rcases A with _ | ad
  · obtain rfl : m = 0 := by
      rcases Nat.eq_zero_or_pos m with h0 | h0
      · exact h0
      · obtain ⟨_, h2, _⟩ := hnews h0
        cases h2
    obtain rfl : news = [] := List.eq_nil_of_length_eq_zero (by simpa using hl)
    refine wpList_plain hgd fun K hK => ?_
    have hrun := run_append_nilF (P := P) (w := w) base t o.type e i size c ht hi v n xs hown
    unfold Oper.wp
    simp [execOp, ho, resolve, invoke, builtin, hs, hx, hrun, Result.andThen]
    exact hK _ _ (h v w (by simpa using hown) (World.grownBy.refl w _))
  · refine wpList_append_ownF w hgd s x t ho base e i z size bytes ht hi hz hsize hby hzs hsz v n xs hs hown ad m c news hx hl ?_ h1 h63 hbytes hbase (fun v' w' h2 h3 _ => h v' w' h2 h3)
    intro j u hu
    have hm : 0 < m := by
      rcases Nat.eq_zero_or_pos m with h0 | h0
      · subst h0
        obtain rfl : news = [] := List.eq_nil_of_length_eq_zero (by simpa using hl)
        simp at hu
      · exact h0
    obtain ⟨_, h2, h3⟩ := hnews hm
    cases h2
    exact h3 j u hu
theorem wpList_append_src (hgd : o.guard = none) (s x : Operand) (t : TypeId)
    (ho : o.op = .call { callee := .builtin .append, args := #[s, x], argTypes := #[t, t] })
    (base : Nat) (e : TypeId) (i : TypeInfo) (z : Value) (size bytes : Nat) (ht : P.underlying t = some (.slice e)) (hi : P.info? e = some i) (hz : i.zero = some z)
    (hsize : i.size = size) (hby : i.bytes = bytes) (hzs : z.cells.size = size) (hsz : 0 < size)
    (v : Value) (n : Nat) (xs : List Value) (hs : a.eval s = v) (hown : w.ownsRow base e size v n xs)
    (A : Option Addr) (m c : Nat) (news : List Value) (hx : a.eval x = .slice A m c) (hl : news.length = m * size) (hnews : 0 < m → ∃ ad, A = some ad ∧ ∀ j u, news[j]? = some u → w.cell? (ad.add j) = some u)
    (h1 : ∀ u ∈ news, u.oneCell' = true) (h63 : n + m ≤ maxLen) (hbytes : (n + m) * bytes ≤ 140737488355328) (hbase : base ≤ w.heap.size)
    (h : ∀ v' w', w'.ownsRow base e size v' (n + m) (xs ++ news) → w.grownBy w' v.ownBlock → wpList P ops Q rest (a.put o.dst v') w') : wpList P ops Q (o :: rest) a w := by
  rcases A with _ | ad
  · obtain rfl : m = 0 := by
      rcases Nat.eq_zero_or_pos m with h0 | h0
      · exact h0
      · obtain ⟨_, h2, _⟩ := hnews h0
        cases h2
    obtain rfl : news = [] := List.eq_nil_of_length_eq_zero (by simpa using hl)
    refine wpList_plain hgd fun K hK => ?_
    have hrun := run_append_nilO (P := P) (w := w) base t o.type e i size c ht hi v n xs hown
    unfold Oper.wp
    simp [execOp, ho, resolve, invoke, builtin, hs, hx, hrun, Result.andThen]
    exact hK _ _ (h v w (by simpa using hown) (World.grownBy.refl w _))
  · refine wpList_append_own w hgd s x t ho base e i z size bytes ht hi hz hsize hby hzs hsz v n xs hs hown ad m c news hx hl ?_ h1 h63 hbytes hbase (fun v' w' h2 h3 _ => h v' w' h2 h3)
    intro j u hu
    have hm : 0 < m := by
      rcases Nat.eq_zero_or_pos m with h0 | h0
      · subst h0
        obtain rfl : news = [] := List.eq_nil_of_length_eq_zero (by simpa using hl)
        simp at hu
      · exact h0
    obtain ⟨_, h2, h3⟩ := hnews hm
    cases h2
    exact h3 j u hu
end
/-- the cells of a slice of bytes -/
theorem sl_byteCells {w : World} {S : Nat → Prop} {A : Option Addr} {n : Nat} {p : List UInt8} (h : Sl w S A n p) (hn : 0 < n) :
    ∃ ad, A = some ad ∧ ∀ j u, (Lib.byteCells p)[j]? = some u → w.cell? (ad.add j) = some u := by
  obtain ⟨q, o, rfl, _, hc⟩ := h.2.2 hn
  refine ⟨_, rfl, fun j u hu => ?_⟩
  simp only [Lib.byteCells, List.getElem?_map, Option.map_eq_some_iff] at hu
  obtain ⟨x, hx, rfl⟩ := hu
  obtain ⟨vs, rfl, ha⟩ := hc j x hx
  have h0 := ha 0 _ rfl
  simp only [Rep.sz, Nat.mul_one, Nat.add_zero] at h0
  rw [addr_add]; exact h0
end Go.Proofs.Sm

namespace Go.Proofs.Sm
open Go.RowKit

theorem bld_size : (Tryz.prog.info? 101).map (·.size) = some 2 := by kernel_rfl
theorem bld_lies : liesAt Tryz.prog Tryz.prog.depth 101 (2 / Tryz.prog.cellsOf 101) 0 101 1 = true := by kernel_rfl
theorem byte_info : (Tryz.prog.info? 5).map (fun i => (i.zero, i.size, i.bytes)) = some (some (.int .u8 0), 1, 1) := by kernel_rfl

/-- A builder in block b that holds these bytes. -/
def Bld (w : World) (b : Nat) (l : List UInt8) : Prop := Lib.IsBuilderF 101 5 b b (Lib.byteCells l) w
/-- What a builder's method does to memory. -/
def Wrote (b : Nat) (w w' : World) : Prop := Below b w w' ∧ Lib.OthersKept 5 (some b) w w'
theorem Wrote.trans {b : Nat} {w w1 w2 : World} (h : Wrote b w w1) (k : Wrote b w1 w2) : Wrote b w w2 := ⟨h.1.trans k.1, h.2.trans k.2⟩
theorem Bld.lt {w : World} {b : Nat} {l : List UInt8} (h : Bld w b l) : b < w.heap.size := by
  rcases h with h | h
  · exact h.lt
  · exact h.lt
theorem Bld.new (w : World) : Bld (w.alloc (.cells #[.pointer none, .slice none 0 0] 101)) w.heap.size [] := by
  refine .inl ⟨Nat.le_refl _, .slice none 0 0, heap_alloc_new w _, ?_, by simp [Value.ownBlock]⟩
  exact World.ownsRowF_of (World.ownsRow_nil _ _ _ _)
theorem Bld.alloc {w : World} {b : Nat} {l : List UInt8} (h : Bld w b l) (o : Obj) : Bld (w.alloc o) b l := by
  rcases h with h | h
  · exact .inl (h.alloc o)
  · exact .inr (h.alloc o)
theorem ownsRowF_call {w w' : World} {base : Nat} {e : TypeId} {size : Nat} {v : Value} {n : Nat} {xs : List Value} (h : w.ownsRowF base e size v n xs) (hb : Below w.heap.size w w') : w'.ownsRowF base e size v n xs :=
  h.kept (row := none) ⟨hb.os, hb.tape, hb.output, hb.size, fun i hi _ => hb.block i hi⟩ (by
    cases v.ownBlock with
    | none => exact .inl rfl
    | some k => exact .inr (by simp))
theorem Bld.drew {w : World} {b : Nat} {l : List UInt8} (h : Bld w b l) : Bld w.drew b l := h
theorem Bld.call {w w' : World} {b : Nat} {l : List UInt8} (h : Bld w b l) (hb : Below w.heap.size w w') : Bld w' b l := by
  have hlt := h.lt
  rcases h with ⟨hB, v, hbk, hown, hne⟩ | ⟨hB, v, hbk, hown, hne⟩
  · exact .inl ⟨hB, v, (hb.block b hlt).trans hbk, ownsRowF_call hown hb, hne⟩
  · exact .inr ⟨hB, v, (hb.block b hlt).trans hbk, ownsRowF_call hown hb, hne⟩
theorem Wrote.of_below {b : Nat} {w w' : World} (hb : Below w.heap.size w w') (hlt : b ≤ w.heap.size) : Wrote b w w' :=
  ⟨hb.mono hlt, fun k _ hk _ _ => (hb.block k (Array.getElem?_eq_some_iff.1 hk).1).trans hk⟩
theorem Wrote.refl (b : Nat) (w : World) : Wrote b w w := ⟨Below.refl _ _, Lib.OthersKept.refl _ _ _⟩
theorem Wrote.drew {b : Nat} {w w' : World} (h : Wrote b w w') : Wrote b w w'.drew := ⟨h.1.drew, h.2⟩
theorem Wrote.call {b : Nat} {w w' w1 : World} (hb : b ≤ w.heap.size) (h : Wrote b w w') (hc : Below w'.heap.size w' w1) : Wrote b w w1 := h.trans (Wrote.of_below hc (Nat.le_trans hb h.1.size))
/-- a box that is no row of bytes stays -/
theorem Wrote.box {b : Nat} {w w' : World} (h : Wrote b w w') {g : Nat} {cs : Array Value} {t : TypeId} {fz : Nat × Nat} (hg : w.heap[g]? = some (.cells cs t fz)) (hne : g ≠ b) (ht : t ≠ 5) : w'.heap[g]? = some (.cells cs t fz) :=
  h.2 g _ hg (by simpa using hne) (fun c fz' e => by cases e; exact ht rfl)

set_option maxHeartbeats 1000000 in
set_option maxRecDepth 100000 in
theorem bld_check_used (b : Nat) (w : World) (h0 : w.cell? ⟨b, 0, none⟩ = some (.pointer (some ⟨b, 0, none⟩))) :
    Calls Tryz.prog 105 #[.pointer (some ⟨b, 0, none⟩)] w fun e w' => e = .returned (.tuple #[]) ∧ w' = w := by
  obtain ⟨j, hj, _⟩ := Option.map_eq_some_iff.1 bld_size
  go_enter Tryz.func105, Tryz.ntmps105
  go_wp2
  rw [Lib.run_neq_ptr_same w _ Tryz.underlying99 hj]
  go_wp2
  go_end0
  exact ⟨rfl, rfl⟩
set_option maxHeartbeats 1000000 in
set_option maxRecDepth 100000 in
theorem bld_check_fresh (b : Nat) (w : World) (h0 : w.cell? ⟨b, 0, none⟩ = some (.pointer none)) (hsh : w.shape? b = some (101, 2)) (hfz : w.frozen? ⟨b, 0, none⟩ = false) :
    Calls Tryz.prog 105 #[.pointer (some ⟨b, 0, none⟩)] w fun e w' => e = .returned (.tuple #[]) ∧ w' = w.setCell ⟨b, 0, none⟩ (.pointer (some ⟨b, 0, none⟩)) := by
  obtain ⟨j, hj, hjs⟩ := Option.map_eq_some_iff.1 bld_size
  go_enter Tryz.func105, Tryz.ntmps105
  go_wp2
  rw [Lib.run_to_unsafe w ⟨b, 0, none⟩ Tryz.underlying99 Tryz.underlying158 hj (by rw [hjs]; decide) hsh (Nat.zero_lt_succ 1)]
  simp only [Result.andThen]
  rw [Oper.upon_value]
  go_wp2
  rw [run_callFunc_extern Tryz.func142 (by kernel_rfl) (by kernel_rfl) (by kernel_rfl) (e := Extern.AbiNoEscape.same) (by kernel_rfl)]
  rw [Lib.run_noEscape]
  simp only [Result.andThen]
  rw [Oper.upon_value]
  go_wp2
  rw [Lib.run_from_unsafe w ⟨b, 0, none⟩ Tryz.underlying158 Tryz.underlying99 hj hsh bld_lies]
  simp only [Result.andThen]
  rw [Oper.upon_value]
  go_wp2
  go_end0
  exact ⟨rfl, rfl⟩
theorem bld_check (b : Nat) (bs : List Value) (w : World) (h : Lib.IsBuilderF 101 5 b b bs w) :
    Calls Tryz.prog 105 #[.pointer (some ⟨b, 0, none⟩)] w fun e w' => e = .returned (.tuple #[]) ∧ Lib.BuilderAtF 101 5 b b (.pointer (some ⟨b, 0, none⟩)) bs w' ∧ Below b w w' ∧ Lib.OthersKept 5 (some b) w w' := by
  rcases h with h | h
  · refine (bld_check_fresh b w h.cell0 h.shape h.frozen0).mono ?_
    rintro e w' ⟨rfl, rfl⟩
    exact ⟨rfl, h.used _, (Below.refl b w).setCell (p := ⟨b, 0, none⟩) h.1 _, (Lib.OthersKept.refl _ _ w).setCell ⟨b, 0, none⟩ rfl _⟩
  · refine (bld_check_used b w h.cell0).mono ?_
    rintro e w' ⟨rfl, rfl⟩
    exact ⟨rfl, h, Below.refl b _, Lib.OthersKept.refl _ _ _⟩

set_option maxHeartbeats 2000000 in
set_option maxRecDepth 100000 in
theorem bld_WriteString (b : Nat) (l : List UInt8) (s : ByteArray) (w : World) (h : Bld w b l) (hlen : l.length + s.size ≤ 140737488355328) :
    Calls Tryz.prog 67 #[.pointer (some ⟨b, 0, none⟩), .string s] w fun e w' => e = .returned (.tuple #[.int .i64 s.size, .nilIface]) ∧ Bld w' b (l ++ s.data.toList) ∧ Wrote b w w' := by
  obtain ⟨i0, hi, hz0, hz1, hz2⟩ := info_parts byte_info
  have hbl := h.lt
  have hbl' := Lib.byteCells_length l
  go_enter Tryz.func67, Tryz.ntmps67
  go_wp2_with (go_at_call 105; refine (bld_check b _ _ h).mono ?_)
  rintro e w1 ⟨rfl, h1, hb1, hk1⟩
  obtain ⟨hB, v, hbk, hown, hne⟩ := h1
  have c0 : w1.cell? ⟨b, 0, none⟩ = some (.pointer (some ⟨b, 0, none⟩)) := by rw [Lib.cell_of_heap hbk]; rfl
  have c1 : w1.cell? ⟨b, 1, none⟩ = some v := by rw [Lib.cell_of_heap hbk]; rfl
  have HL := Lib.hid hbl'; clear hbl'
  go_wp2_with (at_builtin; refine Lib.wpList_append_own_stringF _ rfl _ _ 54 9 rfl b 5 i0 Tryz.underlying54 Tryz.underlying9 hi hz0 hz1 hz2 _ _ _ rfl hown s rfl ?c3 ?c4 ?c5 ?_)
  case c3 => unfold maxLen; rw [HL.out]; omega
  case c4 => rw [HL.out]; omega
  case c5 => have := hb1.size; omega
  intro v' w2 hown' hgrow _
  have hlt : b < w1.heap.size := by
    rcases Nat.lt_or_ge b w1.heap.size with h' | h'
    · exact h'
    · simp [Array.getElem?_eq_none h'] at hbk
  have hb2 : w2.heap[b]? = some (.cells #[.pointer (some ⟨b, 0, none⟩), v] 101 (0, 0)) := by
    rw [hgrow.block b hlt (fun e => hne e.symm)]
    exact hbk
  have d0 : w2.cell? ⟨b, 0, none⟩ = some (.pointer (some ⟨b, 0, none⟩)) := by rw [Lib.cell_of_heap hb2]; rfl
  have d1 : w2.cell? ⟨b, 1, none⟩ = some v := by rw [Lib.cell_of_heap hb2]; rfl
  have f1 : w2.frozen? ⟨b, 1, none⟩ = false := Lib.frozen_of_heap hb2 1
  obtain ⟨ao, n', cap, rfl⟩ : ∃ ao n' cap, v' = .slice ao n' cap := by
    rcases hown'.2 with ⟨hv, _⟩ | ⟨g, cap, cur, fz, hv, _⟩
    · exact ⟨_, _, _, hv⟩
    · exact ⟨_, _, _, hv⟩
  go_wp2
  go_ret2
  refine ⟨rfl, ?_, ?_, (hk1.grown hgrow (Lib.ownsRowF_kind hown)).setCell ⟨b, 1, none⟩ rfl _⟩
  · rw [Bld, Lib.byteCells_append, ← Lib.strCells_eq]
    exact .inr (Lib.BuilderAtF.put (T := 101) (e := 5) hB hb2 (bs' := Lib.byteCells l ++ Lib.strCells s) (by simpa [Lib.strCells_length] using hown') (by decide))
  · exact (hb1.grown hgrow (by have := hb1.size; omega) (fun k hk => (hown.lt k hk).1)).setCell (p := ⟨b, 1, none⟩) hB _
theorem bld_String (b : Nat) (l : List UInt8) (w : World) (h : Bld w b l) :
    Calls Tryz.prog 70 #[.pointer (some ⟨b, 0, none⟩)] w fun e w' => e = .returned (.string ⟨l.toArray⟩) ∧ Bld w' b l ∧ Wrote b w w' :=
  (Tryz.Builder_String_any_k b b _ w h (Nat.le_of_lt h.lt)).mono fun _ _ h => ⟨h.1, h.2.1, h.2.2.1, h.2.2.2⟩
end Go.Proofs.Sm

namespace Go.Proofs.Sm
open Go.RowKit

theorem fr_wrote {a w w1 : World} {b : Nat} (h : Below a.heap.size a w) (hw : Wrote b w w1) (hb : a.heap.size ≤ b) : Below a.heap.size a w1 := h.trans (hw.1.mono hb)
theorem below_wrote {b : Nat} {a w w1 : World} (h : Below b a w) (hw : Wrote b w w1) : Below b a w1 := h.trans hw.1
theorem below_call {b : Nat} {a w w1 : World} (hlt : b ≤ a.heap.size) (h : Below b a w) (hb : Below w.heap.size w w1) : Below b a w1 := h.trans (hb.mono (Nat.le_trans hlt h.size))

end Go.Proofs.Sm

namespace Go.Proofs.Sm
open Go.RowKit

def joinS (ws : List ByteArray) : List UInt8 := Lib.join (ws.map (·.data.toList)) [32]
def lineW (ws : List ByteArray) : List UInt8 := joinS ws ++ [10]
def cmdL (c : List ByteArray) : List UInt8 := [100, 111, 32] ++ joinS c ++ [10]
def varL (v : VarV) : List UInt8 := [118, 97, 114, 32] ++ v.name.data.toList ++ [32] ++ v.value.data.toList ++ [10]
def needL (v : VarV) : List UInt8 := [110, 101, 101, 100, 32] ++ v.name.data.toList ++ [32] ++ v.value.data.toList ++ [10]
def outL (p : ByteArray) : List UInt8 := [111, 117, 116, 32] ++ p.data.toList ++ [10]
def toolL (a : ActionV) : List UInt8 := [116, 111, 111, 108, 32] ++ a.tool.data.toList ++ [10]
def timeL (a : ActionV) : List UInt8 := [116, 105, 109, 101, 32] ++ Lib.itoa a.time ++ [10]
def actTextL (a : ActionV) : List UInt8 := toolL a ++ a.commands.flatMap cmdL ++ a.vars.flatMap varL ++ a.outputs.flatMap outL ++ a.needs.flatMap needL ++ timeL a
theorem joinS_two (x y : ByteArray) : joinS [x, y] = x.data.toList ++ [32] ++ y.data.toList := by simp [joinS, Lib.join_cons, Lib.joinTail]
theorem joinS_three (x y z : ByteArray) : joinS [x, y, z] = x.data.toList ++ [32] ++ y.data.toList ++ [32] ++ z.data.toList := by simp [joinS, Lib.join_cons, Lib.joinTail]
theorem joinS_length (m : Nat) (ws : List ByteArray) (h : ∀ x ∈ ws, x.size ≤ m) : (joinS ws).length ≤ (m + 1) * ws.length := by
  cases ws with
  | nil => simp [joinS, Lib.join]
  | cons a l =>
    have h1 := flatMap_length (f := fun x : ByteArray => [32] ++ x.data.toList) (m := m + 1) (l := l) (fun x hx => by
      have h2 := h x (by simp [hx])
      have h3 : x.data.toList.length = x.size := by simp
      simp only [List.length_append, List.length_cons, List.length_nil, h3]; omega)
    have h2 := h a (by simp)
    have h3 : a.data.toList.length = a.size := by simp
    have h4 : Lib.joinTail [32] (l.map (·.data.toList)) = l.flatMap fun x : ByteArray => [32] ++ x.data.toList := by
      simp [Lib.joinTail, List.flatMap, Function.comp_def]
    rw [joinS, List.map_cons, Lib.join_cons, List.length_append, h3, h4, List.length_cons, Nat.mul_succ]
    omega
theorem listErr_all' {α : Type} {err : Option ByteArray → α → Int} {key : α → ByteArray} {l : List α} : ∀ prev, listErr err key prev l = 0 → ∀ x ∈ l, ∃ q, err q x = 0 := by
  induction l with
  | nil => intro _ _ x hx; simp at hx
  | cons a l ih =>
    intro prev h x hx
    rw [listErr] at h
    split at h
    · rename_i h0
      rcases List.mem_cons.1 hx with rfl | hx
      · exact ⟨_, h0⟩
      · exact ih _ h x hx
    · exact absurd h ‹_›
structure ActOk (a : ActionV) : Prop where
  tool : a.tool.size ≤ 16
  commands : a.commands.length ≤ 50
  words : ∀ c ∈ a.commands, c.length ≤ 50 ∧ ∀ s ∈ c, s.size ≤ 300
  vars : a.vars.length ≤ 30
  var : ∀ v ∈ a.vars, v.name.size ≤ 40 ∧ v.value.size ≤ 300
  outputs : a.outputs.length ≤ 100
  output : ∀ p ∈ a.outputs, p.size ≤ 200
  needs : a.needs.length ≤ 30
  need : ∀ v ∈ a.needs, v.name.size ≤ 40 ∧ v.value.size ≤ 300
  time : 1 ≤ a.time ∧ a.time ≤ 100000
theorem commandsErr_all {l : List (List ByteArray)} (h : commandsErr l = 0) : ∀ c ∈ l, checkCommandS c = 0 := by
  induction l with
  | nil => intro x hx; simp at hx
  | cons a l ih =>
    rw [commandsErr] at h
    split at h
    · rename_i h0
      intro x hx
      rcases List.mem_cons.1 hx with rfl | hx
      · exact h0
      · exact ih h x hx
    · exact absurd h ‹_›
theorem command_ok {c : List ByteArray} (h : checkCommandS c = 0) : c.length ≤ 50 ∧ ∀ s ∈ c, s.size ≤ 300 := by
  unfold checkCommandS at h
  split at h
  · omega
  · rename_i h1
    refine ⟨by omega, ?_⟩
    cases c with
    | nil => intro s hs; simp at hs
    | cons c0 words =>
      simp only at h
      split at h
      · omega
      · rename_i h2
        simp only [Bool.not_eq_false, List.all_eq_true] at h2
        intro s hs
        have := withinB_true (Bool.and_eq_true_iff.1 (h2 s hs)).2
        omega
theorem vars_ok {l : List VarV} (h : checkVarsS l = 0) : l.length ≤ 30 ∧ ∀ v ∈ l, v.name.size ≤ 40 ∧ v.value.size ≤ 300 := by
  unfold checkVarsS at h
  split at h
  · omega
  · refine ⟨by omega, fun v hv => ?_⟩
    obtain ⟨q, hq⟩ := listErr_all' _ h v hv
    unfold varErr at hq
    split at hq
    · omega
    · split at hq
      · omega
      · rename_i h1 h2
        simp only [Bool.not_eq_false, isNameS, Bool.and_eq_true] at h1
        have := withinB_true h1.1.1.1
        simp only [Bool.or_eq_true, decide_eq_true_eq, not_or] at h2
        omega
theorem outputs_ok {l : List ByteArray} (h : checkOutputsS l = 0) : l.length ≤ 100 ∧ ∀ v ∈ l, v.size ≤ 200 := by
  unfold checkOutputsS at h
  split at h
  · omega
  · split at h
    · omega
    · split at h
      · rename_i h1; exact absurd h h1
      · rename_i h0 h1 h2
        refine ⟨by omega, fun v hv => ?_⟩
        obtain ⟨q, hq⟩ := listErr_all' _ (Classical.not_not.1 h2) v hv
        unfold outErr at hq
        split at hq
        · omega
        · rename_i h3; exact path_size (by simpa using h3)
theorem checkAction_ok {a : ActionV} (h : checkActionS a = 0) : ActOk a := by
  unfold checkActionS at h
  split at h
  · omega
  · split at h
    · omega
    · split at h
      · omega
      · split at h
        · rename_i h1; exact absurd h h1
        · split at h
          · rename_i h1; exact absurd h h1
          · split at h
            · rename_i h1; exact absurd h h1
            · split at h
              · rename_i h1; exact absurd h h1
              · split at h
                · omega
                · rename_i h1 h2 h3 h4 h5 h6 h7 h8
                  have g4 := Classical.not_not.1 h4
                  have g5 := vars_ok (Classical.not_not.1 h5)
                  have g6 := outputs_ok (Classical.not_not.1 h6)
                  have g7 := vars_ok (Classical.not_not.1 h7)
                  refine ⟨digest_size (.inr (by simpa using h1)), by omega, fun c hc => command_ok (commandsErr_all g4 c hc), g5.1, g5.2, g6.1, g6.2, g7.1, g7.2, withinB_true (by simpa using h8)⟩
theorem cmdL_length {c : List ByteArray} (h : c.length ≤ 50 ∧ ∀ s ∈ c, s.size ≤ 300) : (joinS c).length ≤ 15050 := by
  have h1 := joinS_length 300 c h.2
  have : 301 * c.length ≤ 301 * 50 := Nat.mul_le_mul_left _ h.1
  omega
theorem flatMap_take {α : Type} {f : α → List UInt8} {m q : Nat} {l : List α} (hq : l.length ≤ q) (h : ∀ x ∈ l, (f x).length ≤ m) (k : Nat) : ((l.take k).flatMap f).length ≤ m * q := by
  have h2 := flatMap_length (f := f) (m := m) (l := l.take k) (fun x hx => h x (List.mem_of_mem_take hx))
  have h3 : (l.take k).length ≤ q := by rw [List.length_take]; omega
  have : m * (l.take k).length ≤ m * q := Nat.mul_le_mul_left _ h3
  omega
theorem toolL_length {a : ActionV} (ok : ActOk a) : (toolL a).length ≤ 30 := by
  have h5 : a.tool.data.toList.length = a.tool.size := by simp
  have := ok.tool
  simp only [toolL, List.length_append, List.length_cons, List.length_nil, h5]; omega
theorem cmds_length {a : ActionV} (ok : ActOk a) (k : Nat) : ((a.commands.take k).flatMap cmdL).length ≤ 800000 := by
  have := flatMap_take (f := cmdL) (m := 15100) ok.commands (fun x hx => by
    have := cmdL_length (ok.words x hx)
    simp only [cmdL, List.length_append, List.length_cons, List.length_nil]; omega) k
  omega
theorem vars_length {a : ActionV} (ok : ActOk a) (k : Nat) : ((a.vars.take k).flatMap varL).length ≤ 12000 := by
  have := flatMap_take (f := varL) (m := 360) ok.vars (fun x hx => by
    have := ok.var x hx
    have h5 : x.name.data.toList.length = x.name.size := by simp
    have h6 : x.value.data.toList.length = x.value.size := by simp
    simp only [varL, List.length_append, List.length_cons, List.length_nil, h5, h6]; omega) k
  omega
theorem outs_length {a : ActionV} (ok : ActOk a) (k : Nat) : ((a.outputs.take k).flatMap outL).length ≤ 30000 := by
  have := flatMap_take (f := outL) (m := 220) ok.outputs (fun x hx => by
    have := ok.output x hx
    have h5 : x.data.toList.length = x.size := by simp
    simp only [outL, List.length_append, List.length_cons, List.length_nil, h5]; omega) k
  omega
theorem needs_length {a : ActionV} (ok : ActOk a) (k : Nat) : ((a.needs.take k).flatMap needL).length ≤ 12000 := by
  have := flatMap_take (f := needL) (m := 360) ok.needs (fun x hx => by
    have := ok.need x hx
    have h5 : x.name.data.toList.length = x.name.size := by simp
    have h6 : x.value.data.toList.length = x.value.size := by simp
    simp only [needL, List.length_append, List.length_cons, List.length_nil, h5, h6]; omega) k
  omega
end Go.Proofs.Sm

namespace Go.Proofs.Sm
open Go.RowKit

theorem join_any (A : Option Addr) (n c : Nat) (ws : List ByteArray) (w : World) (hsl : Sl w (Lt w.heap.size) A n ws) (hnc : n ≤ c) (hn : n ≤ 140737488355328) (hlen : (joinS ws).length ≤ 140737488355328) :
    Calls Tryz.prog 68 #[.slice A n c, .string ⟨#[32]⟩] w fun e w' => e = .returned (.string ⟨(joinS ws).toArray⟩) ∧ Below w.heap.size w w' := by
  have h1 := hsl.1
  by_cases h0 : n = 0
  · subst h0
    cases ws with
    | cons a l => simp at h1
    | nil => exact (Tryz.strings_Join_none A c ⟨#[32]⟩ w).mono fun _ _ h => ⟨h.1, below_eq h.2.symm⟩
  · obtain ⟨b, o, x, rfl, hb, _⟩ := hsl.str (k := 0) (by omega)
    subst h1
    exact (Tryz.strings_Join b o c ws ⟨#[32]⟩ w (fun j x hx => by
      have hj : j < ws.length := by
        rcases Nat.lt_or_ge j ws.length with h | h
        · exact h
        · rw [List.getElem?_eq_none h] at hx; cases hx
      obtain ⟨b', o', y, e, _, hy, _, c0⟩ := hsl.str hj
      cases e
      rw [hx] at hy; cases hy
      exact c0) hb hn hnc hlen).mono fun _ _ h => h
set_option maxHeartbeats 1000000 in
set_option maxRecDepth 100000 in
theorem act_text1 (g : Nat) (L : List UInt8) (A : Option Addr) (n c : Nat) (ws : List ByteArray) (w : World) (hB : Bld w g L) (hsl : Sl w (Lt w.heap.size) A n ws) (hnc : n ≤ c) (hn : n ≤ 140737488355328) (hlen : L.length + (joinS ws).length ≤ 10000000) :
    Calls Tryz.prog 66 #[.slice A n c, .pointer (some ⟨g, 0, none⟩)] w fun e w' => e = .returned (.tuple #[]) ∧ Bld w' g (L ++ lineW ws) ∧ Wrote g w w' := by
  have hgl := hB.lt
  obtain ⟨j, hj⟩ : ∃ j : ByteArray, j = ⟨(joinS ws).toArray⟩ := ⟨_, rfl⟩
  have hjs : j.size = (joinS ws).length := by rw [hj]; simp [ByteArray.size]
  have hjl : j.data.toList = joinS ws := by rw [hj]
  have HJ := Lib.hid (hj ▸ join_any A n c ws w hsl hnc hn (by omega) : Calls Tryz.prog 68 #[.slice A n c, .string ⟨#[32]⟩] w fun e w' => e = .returned (.string j) ∧ Below w.heap.size w w')
  clear hj
  have HL := Lib.hid hjl; clear hjl
  have q4 : (⟨#[10]⟩ : ByteArray).size = 1 := rfl
  obtain ⟨p, z, P, a⟩ := cat_op j ⟨#[10]⟩ (by omega)
  go_enter Tryz.func66, Tryz.ntmps66
  go_wp2_with fail
  refine HJ.out.mono ?_
  rintro e w1 ⟨rfl, hb1⟩
  have hB1 := hB.call hb1
  go_wp2_with (go_at_call 67; refine (bld_WriteString g L p _ hB1 (by omega)).mono ?_; rintro e w2 ⟨rfl, hB2, hw2⟩)
  first | go_end0 | refine bodyPost_ret (results_none rfl _ _ _) rfl ?_
  exact ⟨rfl, by rw [lineW, ← HL.out, ← show p.data.toList = j.data.toList ++ [10] from P.out]; exact hB2, (Wrote.of_below hb1 (Nat.le_of_lt hgl)).trans hw2⟩
end Go.Proofs.Sm
