/- Walks: paths. -/
import Derived.Test.YtnhcaelapadhaaaGreatDoorW2
import Derived.Test.YtnhcaelapadhaaaGreatDoorPlain3
import Derived.Shelf.Strings.SlTrimAscii
namespace Go.Proofs.Sm
open Go.RowKit

theorem parts_le {s x : ByteArray} (h : x ∈ partsS s) : x.size ≤ s.size := splitB_size h
theorem parts_many (s : ByteArray) : (partsS s).length ≤ s.size + 1 := by
  have := Lib.countB_le ⟨#[47]⟩ (by decide) _ s (Nat.le_refl _)
  rw [partsS_length]; omega
theorem split_parts (s : ByteArray) (w : World) (hE : Env w) (hs : s.size < 4294967281) :
    Calls Tryz.prog 63 #[.string s, .string ⟨#[47]⟩] w fun e w' =>
      ∃ A n, e = .returned (.slice A n n) ∧ Sl w' (Lt w'.heap.size) A n (partsS s) ∧ Below w.heap.size w w' := by
  refine (split_any s ⟨#[47]⟩ w hE hs (by decide)).mono ?_
  rintro e w' ⟨rfl, rfl⟩
  refine ⟨_, _, rfl, ?_, (Below.refl _ _).alloc (Nat.le_refl _) _⟩
  have hl := parts_many s
  have h := Sl.new_strs (w := w) (t := 9) (l := partsS s) (by unfold maxLen; omega) (fun x hx => by have := parts_le hx; unfold maxLen; omega)
  rw [partsS_length] at h
  have e : partsS s = Lib.splitB ⟨#[47]⟩ 0 (Lib.countB s ⟨#[47]⟩) s := rfl
  rw [← e]
  simpa using h

theorem ref1_IsPath (s : ByteArray) (w : World) (hE : Env w) : Calls Tryz.prog 86 #[.string s] w fun e w' => e = .returned (.bool (isPathS s)) ∧ Below w.heap.size w w' := by
  have Hd := Lib.hid (isPathS_eq s)
  cases hw : withinB s.size 1 200
  · go_enter Tryz.func86, Tryz.ntmps86
    go_wp2_with (first | (go_at_call 116; refine (ref1_within _ _ _ _).mono ?_; rintro e w1 ⟨rfl, rfl⟩))
    go_ret; exact ⟨ret_bool (by rw [Hd.out, hw]; rfl), Below.refl _ _⟩
  · have hw2 := (withinB_true hw).2
    have hl := parts_many s
    have Hsp := Lib.hid (split_parts s w hE (by omega))
    generalize isPathS s = res at *
    generalize partsS s = ps at *
    go_enter Tryz.func86, Tryz.ntmps86
    go_wp2_with (first | (go_at_call 116; refine (ref1_within _ _ _ _).mono ?_; rintro e w1 ⟨rfl, rfl⟩) | (go_at_call 63; refine Hsp.out.mono ?_; rintro e w1 ⟨A, n, rfl, hsl, hbel⟩))
    have hn' : n ≤ 201 := by have := hsl.1; omega
    go_loop [4] (fun i => ∃ k : Nat, k ≤ n ∧ i = .int .i64 k ∧ (ps.take k).all isPartS = true) (fun i => n - (intOf i).toNat)
    case atStart => exact ⟨0, Nat.zero_le _, rfl, rfl⟩
    case round =>
      obtain ⟨k, hk, rfl, hall⟩ := hrel
      have H := Lib.hid hall; clear hall
      by_cases hlt : k < n
      · obtain ⟨b, o, x, rfl, hb, hx, hxs, c0⟩ := hsl.str hlt
        have Hx := Lib.hid hx; clear hx
        go_wp2_with (go_at_call 117; refine (ref1_isPart _ _ hxs).mono ?_; rintro e w1 ⟨rfl, rfl⟩)
        all_goals first
          | (go_round
             case rel => exact ⟨k + 1, by omega, by go_num, lall_step Hx.out H.out (of_not' (by assumption))⟩
             case measure => simp [intOf]; omega)
          | (go_ret; exact ⟨ret_bool (by rw [Hd.out, hw, lall_no (p := isPartS) Hx.out (of_not (by assumption))]; rfl), hbel⟩)
      · have He := Lib.hid (lall_end (by rw [hsl.1]; omega) H.out)
        go_wp2
        go_ret; exact ⟨ret_bool (by rw [Hd.out, He.out, hw]; rfl), hbel⟩

theorem blob_IsPath (s : ByteArray) (w : World) (hE : Env w) : Calls Tryz.prog 83 #[.string s] w fun e w' => e = .returned (.bool (isPathS s)) ∧ Below w.heap.size w w' := by
  have Hd := Lib.hid (isPathS_eq s)
  by_cases h1 : (s.size : Int) < 1
  · go_enter Tryz.func83, Tryz.ntmps83
    go_wp2
    go_ret; exact ⟨ret_bool (by rw [Hd.out]; simp [withinB]; omega), Below.refl _ _⟩
  by_cases h2 : (200 : Int) < s.size
  · go_enter Tryz.func83, Tryz.ntmps83
    go_wp2
    go_ret; exact ⟨ret_bool (by rw [Hd.out]; simp [withinB]; omega), Below.refl _ _⟩
  have hw : withinB s.size 1 200 = true := by simp [withinB]; omega
  have hl := parts_many s
  have Hsp := Lib.hid (split_parts s w hE (by omega))
  have Hw := Lib.hid hw; clear hw
  generalize isPathS s = res at *
  generalize partsS s = ps at *
  go_enter Tryz.func83, Tryz.ntmps83
  go_wp2_with (go_at_call 63; refine Hsp.out.mono ?_; rintro e w1 ⟨A, n, rfl, hsl, hbel⟩)
  have hn' : n ≤ 201 := by have := hsl.1; omega
  go_loop [4, 16] (fun _ i => ∃ k : Nat, k ≤ n ∧ i = .int .i64 k ∧ (ps.take k).all isPartS = true) (fun _ i => n - (intOf i).toNat)
  case atStart => exact ⟨0, Nat.zero_le _, rfl, rfl⟩
  case round =>
    obtain ⟨k, hk, rfl, hall⟩ := hrel
    have H := Lib.hid hall; clear hall
    by_cases hlt : k < n
    · obtain ⟨b, o, x, rfl, hb, hx, hxs, c0⟩ := hsl.str hlt
      have Hx := Lib.hid hx; clear hx
      go_wp2_with (go_at_call 115; refine (blob_isPart _ _ hxs).mono ?_; rintro e w1 ⟨rfl, rfl⟩)
      all_goals first
        | (go_round
           case rel => exact ⟨k + 1, by omega, by go_num, lall_step Hx.out H.out (of_not' (by assumption))⟩
           case measure => simp [intOf]; omega)
        | (go_ret; exact ⟨ret_bool (by rw [Hd.out, Hw.out, lall_no (p := isPartS) Hx.out (of_not (by assumption))]; rfl), hbel⟩)
    · have He := Lib.hid (lall_end (by rw [hsl.1]; omega) H.out)
      go_wp2
      go_ret; exact ⟨ret_bool (by rw [Hd.out, He.out, Hw.out]; rfl), hbel⟩

theorem ascii_of_all {l : List UInt8} (h : l.all (fun b => b.toNat < 128) = true) : ∀ (j : Nat) b, l[j]? = some b → b.toNat < 128 := by
  intro j b hb
  have := (List.all_eq_true.1 h) b (List.mem_of_getElem? hb)
  simpa using this

/-- strings.Trim at the sixteen digits. -/
theorem trim_hex_any (s : ByteArray) (w : World) (hs : s.size ≤ maxLen) : Calls Tryz.prog 99 #[.string s, .string ⟨#[48, 49, 50, 51, 52, 53, 54, 55, 56, 57, 97, 98, 99, 100, 101, 102]⟩] w fun e w' =>
    ∃ r : ByteArray, e = .returned (.string r) ∧ r.toList.isEmpty = s.data.toList.all hexB ∧ Below w.heap.size w w' := by
  refine (Any.strings_Trim_laid Tryz.lays160 (by kernel_rfl) s ⟨#[48, 49, 50, 51, 52, 53, 54, 55, 56, 57, 97, 98, 99, 100, 101, 102]⟩ w hs (by decide) (ascii_of_all (by decide))).mono ?_
  rintro e w' ⟨rfl, hb⟩
  refine ⟨_, rfl, ?_, hb⟩
  rw [Lib.toList_data, Bool.eq_iff_iff, List.isEmpty_iff]
  exact trim_hex _

theorem blob_IsDigest (s : ByteArray) (w : World) (hs : s.size ≤ maxLen) : Calls Tryz.prog 67 #[.string s] w fun e w' => e = .returned (.bool (isDigestS s)) ∧ Below w.heap.size w w' := by
  cases h16 : ((s.size : Int) == 16)
  · go_enter Tryz.func67, Tryz.ntmps67
    go_wp2
    go_ret; exact ⟨ret_bool (by rw [isDigestS, h16]; simp), Below.refl _ _⟩
  · have Hd : Hid (isDigestS s = s.data.toList.all hexB) := by show _ = _; rw [isDigestS, h16]; simp
    go_enter Tryz.func67, Tryz.ntmps67
    go_wp2_with (go_at_call 99; refine (trim_hex_any s w hs).mono ?_; rintro e w1 ⟨r, rfl, hr, hb⟩; have Hr := Lib.hid hr; clear hr)
    go_ret; exact ⟨ret_bool (by rw [Hd.out, ← Hr.out]), hb⟩
end Go.Proofs.Sm
