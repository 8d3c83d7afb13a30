/- Walks: the program's LooksOf and Stands. -/
import Derived.Test.YtnhcaelapadhaaaGreatDoorW16
namespace Go.Proofs.Sm
open Go.RowKit

theorem sl_call {α : Type} [Rep α] {w w' : World} {A : Option Addr} {n : Nat} {l : List α} {B : Nat} (h : Sl w (Lt B) A n l) (hb : Below B w w') (hB : B ≤ w.heap.size) : Sl w' (Lt w'.heap.size) A n l :=
  (h.keep (keep_lt hb)).more (lt_mono (Nat.le_trans hB hb.size))

set_option maxHeartbeats 1000000 in
set_option maxRecDepth 100000 in
theorem act_LooksOf (A B : Option Addr) (n c m d : Nat) (l : List Look) (files : List FileV) (w : World) (hE : Env w) (hsl : Sl w (Lt w.heap.size) A n l) (hfs : Sl w (Lt w.heap.size) B m files) :
    Calls Tryz.prog 25 #[.slice A n c, .slice B m d] w fun e w' => ∃ A' n' c', e = .returned (.tuple #[.slice A' n' c', .int .i64 (looksOfErr l files)]) ∧ n' ≤ c' ∧ c' ≤ maxLen ∧ Sl w' (Lt w'.heap.size) A' n' (looksOfS l files) ∧ Below w.heap.size w w' := by
  obtain ⟨i0, hi0, hz0, hz1, hz2⟩ := info_parts look_info
  go_enter Tryz.func25, Tryz.ntmps25
  go_wp2_with fail
  refine (act_CheckLooks A n c l w hE hsl).mono ?_
  rintro e w1 ⟨rfl, hb1⟩
  have hE1 := hE.then_ hb1
  have hfs1 := (hfs.keep (keep_lt hb1)).more (lt_mono hb1.size)
  have hsl1 := (hsl.keep (keep_lt hb1)).more (lt_mono hb1.size)
  cases h0 : (checkLooksS l == 0)
  · have hne : checkLooksS l ≠ 0 := by simpa using h0
    have hbn : (checkLooksS l != 0) = true := by simpa using h0
    have HE := Lib.hid (show looksOfErr l files = checkLooksS l by rw [looksOfErr, if_pos hne])
    have HN := Lib.hid hne; clear hne
    go_wp2
    go_ret2
    exact ⟨none, 0, 0, ret_pair rfl (congrArg (Value.int .i64) HE.out.symm), Nat.le_refl _, Nat.zero_le _, by rw [looksOfS, if_neg (by rw [HE.out]; exact HN.out)]; exact Sl.nil, hb1⟩
  · have hz : checkLooksS l = 0 := by simpa using h0
    have hbn : (checkLooksS l != 0) = false := by simpa using h0
    have hlen := checkLooks_len hz
    have HE := Lib.hid (show looksOfErr l files = checkFilesS files by rw [looksOfErr, if_neg (by rw [hz]; simp)])
    have HZ := Lib.hid hz; clear hz
    rw [hsl.1] at hlen
    go_wp2_with fail
    refine (blob_CheckFiles B m d files w1 hE1 hfs1).mono ?_
    rintro e w2 ⟨rfl, hb2⟩
    have hfs2 := (hfs1.keep (keep_lt hb2)).more (lt_mono hb2.size)
    have hsl2 := (hsl1.keep (keep_lt hb2)).more (lt_mono hb2.size)
    cases h1 : (checkFilesS files == 0)
    · have hne : checkFilesS files ≠ 0 := by simpa using h1
      have hbn1 : (checkFilesS files != 0) = true := by simpa using h1
      have HN := Lib.hid hne; clear hne
      go_wp2
      go_ret2
      exact ⟨none, 0, 0, ret_pair rfl (congrArg (Value.int .i64) HE.out.symm), Nat.le_refl _, Nat.zero_le _, by rw [looksOfS, if_neg (by rw [HE.out]; exact HN.out)]; exact Sl.nil, fr_call hb1 hb2⟩
    · have hbn1 : (checkFilesS files != 0) = false := by simpa using h1
      have HF := Lib.hid (show checkFilesS files = 0 by simpa using h1)
      have hmlen := checkFiles_len HF.out
      have hso := Lib.hid (checkFiles_sorted HF.out)
      rw [hfs.1] at hmlen
      have hbel0 := fr_call hb1 hb2
      go_wp2
      go_loopw [8, 23] (fun v i wr => ∃ k : Nat, k ≤ n ∧ i = .int .i64 k ∧ wr.ownsRow w.heap.size 57 3 v k ((looksAtS (l.take k) files).flatMap lookCells) ∧ Below w.heap.size w wr) (fun _ i _ => n - (intOf i).toNat)
      case atStart => exact ⟨0, Nat.zero_le _, rfl, World.ownsRow_nil _ _ _ _, hbel0⟩
      case round =>
        clear hb1 hb2 hE1 hfs1 hsl1 hfs2 hsl2 hbel0
        obtain ⟨k, hk, rfl, hown, hbel⟩ := hrel
        have hbs := hbel.size
        by_cases hlt : k < n
        · obtain ⟨b, o, x, rfl, hb, hx, hs1, hs2, c0, c1, c2⟩ := (hsl.keep (keep_lt hbel)).look hlt
          have hfr := sl_call hfs (fr_alloc hbel (.cells #[.string x.path, .string x.digest, .bool x.run] 57)) (Nat.le_refl _)
          have hstep := Lib.hid (show (looksAtS (l.take k) files).flatMap lookCells ++ lookCells (lookAtS files x.path) = (looksAtS (l.take (k + 1)) files).flatMap lookCells by
            unfold looksAtS; rw [List.take_add_one, hx]; simp)
          clear hx
          go_wp2_with fail
          refine (act_lookAt B m d files x.path _ hfr hso.out hmlen).mono ?_
          rintro e w3 ⟨rfl, hb3⟩
          have hown1 := (ownsRow_call (hown.alloc _) hb3).alloc (.cells #[.string (lookAtS files x.path).path, .string (lookAtS files x.path).digest, .bool (lookAtS files x.path).run] 57)
          have hbel1 := fr_box hbel hb3
          go_wp2_with (at_builtin; refine wpList_append_own _ rfl _ _ 23 rfl w.heap.size 57 i0 _ 3 40 Tryz.underlying23 hi0 hz0 hz1 hz2 rfl (by decide) _ k _ rfl hown1 ⟨w3.heap.size, 0, none⟩ 1 1 (lookCells (lookAtS files x.path)) rfl rfl ?c1 ?c2 ?c3 ?c4 ?c5 ?_)
          case c1 => exact new_cells w3 #[_, _, _] _
          case c2 => exact oneCell_look _
          case c3 => unfold maxLen; omega
          case c4 => omega
          case c5 => exact (fr_alloc hbel1 _).size
          intro v' w4 hown' hgrow hnil
          rw [hstep.out] at hown'
          have hbel2 := (fr_alloc hbel1 _).grown hgrow (fr_alloc hbel1 _).size (fun j hj => (hown.lt j hj).1)
          clear hnil hown1
          go_wp2
          go_round
          case rel => exact ⟨k + 1, by omega, by go_num, hown', hbel2⟩
          case measure => simp [intOf]; omega
        · obtain rfl : k = n := by omega
          have hkl := hsl.1
          have hown2 := Lib.hid (looksAt_own (files := files) hsl.look_sizes (by rw [hkl]; rw [List.take_of_length_le (by omega)] at hown; exact hown))
          have HK := Lib.hid hkl; clear hkl hown
          go_wp2
          go_ret2
          obtain ⟨A', c', rfl, q1, q2, q3⟩ := hown2.out
          rw [HK.out] at q1 q3 ⊢
          exact ⟨A', _, c', ret_pair rfl (congrArg (Value.int .i64) (HE.out.trans HF.out).symm), q1, q2, by rw [looksOfS, if_pos (by rw [HE.out]; exact HF.out)]; exact q3, hbel⟩

end Go.Proofs.Sm
