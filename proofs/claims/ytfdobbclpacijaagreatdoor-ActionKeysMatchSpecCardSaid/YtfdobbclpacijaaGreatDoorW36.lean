/- Walks: commands are validated. -/
import Derived.Test.YtfdobbclpacijaaGreatDoorW35
import Derived.Deep.RegionHeld3
namespace Go.Proofs.Sm
open Go.RowKit

def cmdTail (c0 : ByteArray) (words : List ByteArray) : Bool := !(c0.data.toList == [102, 97, 105, 108] && (words.head?.map fun s => s.data.toList) == some [48])
theorem Sl.nil' {α : Type} [Rep α] {w : World} {S : Nat → Prop} {A : Option Addr} : Sl w S A 0 ([] : List α) := ⟨rfl, Nat.zero_le _, fun h => absurd h (by omega)⟩
theorem data_ne {s : ByteArray} {l : List UInt8} (h : ¬ s.toList = l) : (s.data.toList == l) = false := by
  rw [← Lib.toList_data, beq_eq_false_iff_ne]; exact h
theorem data_eq {s : ByteArray} {l : List UInt8} (h : s.toList = l) : (s.data.toList == l) = true := by
  rw [← Lib.toList_data, beq_iff_eq]; exact h

set_option maxHeartbeats 2000000 in
set_option maxRecDepth 100000 in
theorem ref5_formed (b o n c : Nat) (c0 : ByteArray) (l : List ByteArray) (k : List UInt8) (more : Bool) (w : World) (hE : Env w) (hsl : Sl w (Lt w.heap.size) (some ⟨b, o, none⟩) n (c0 :: l)) (hnc : n ≤ c) (hk : formS c0.data.toList = some (k, more)) (hn : n ≤ 1000) :
    Calls Tryz.prog 133 #[.slice (some ⟨b, o, none⟩) n c] w fun e w' => e = .returned (.bool (hasFormS l k more && cmdTail c0 l)) ∧ Below w.heap.size w w' := by
  have hf := form_is hk
  have h1n : 1 ≤ n := by have := hsl.1; simp at this; omega
  have hl1 : l.length = n - 1 := by have := hsl.1; simp at this; omega
  obtain ⟨b', o', x0, e0, hb, hx0, hxs0, d0⟩ := hsl.str (k := 0) (by omega)
  cases e0
  obtain rfl : c0 = x0 := by simpa using hx0
  clear hx0
  rw [Nat.add_zero] at d0
  obtain ⟨kb, hkb⟩ : ∃ kb : ByteArray, kb.data.toList = k := ⟨⟨k.toArray⟩, by simp⟩
  have C1 := Lib.hid (fun w => (ref5_form c0 w).mono fun e w' h => (show e = Ending.returned (.tuple #[.string ⟨(k ++ plusL more).toArray⟩, .bool true]) ∧ w = w' from ⟨by rw [h.1, form_some hk, hk]; rfl, h.2⟩))
  have C2 := Lib.hid (fun w => cutPlus hf ⟨(k ++ plusL more).toArray⟩ (by simp) kb hkb w)
  have hks : kb.size = k.length := by rw [← hkb]; simp
  have hk1 : 1 ≤ kb.size := by rw [hks]; exact hf.2.2.1
  have hk4 : kb.size ≤ 4 := by rw [hks]; exact hf.2.2.2
  have HB := Lib.hid hkb; clear hkb
  have HKS := Lib.hid hks; clear hks
  have HK0 := Lib.hid hk; clear hk
  have HFI := Lib.hid hf; clear hf
  generalize (⟨(k ++ plusL more).toArray⟩ : ByteArray) = fs at *
  have HL := Lib.hid hl1; clear hl1
  have hnI : (0 : Int) < n := by omega
  by_cases hn1 : n = 1
  · subst hn1
    have hl0 : l = [] := List.eq_nil_of_length_eq_zero HL.out
    have HV := Lib.hid (show (hasFormS l k more && cmdTail c0 l) = false by rw [hasForm_lens (.inl (by rw [HL.out, ← HKS.out]; omega))]; rfl)
    clear hl0
    have t1 : decide (0 < kb.size) = true := decide_eq_true (by omega)
    have t0 : 0 < kb.size := by omega
    by_cases hc1 : c = 1
    · subst hc1
      go_enter Tryz.func133, Tryz.ntmps133
      go_wp2_with (first | (go_at_call 132; refine (C1.out _).mono ?_; rintro e w1 ⟨rfl, rfl⟩) | (go_at_call 173; refine (C2.out _).mono ?_; rintro e w1 ⟨rfl, rfl⟩))
      go_ret; exact ⟨ret_bool HV.out.symm, Below.refl _ _⟩
    · go_enter Tryz.func133, Tryz.ntmps133
      go_wp2_with (first | (go_at_call 132; refine (C1.out _).mono ?_; rintro e w1 ⟨rfl, rfl⟩) | (go_at_call 173; refine (C2.out _).mono ?_; rintro e w1 ⟨rfl, rfl⟩))
      go_ret; exact ⟨ret_bool HV.out.symm, Below.refl _ _⟩
  · have hc1 : ¬ c = 1 := by omega
    have hst := sl_tail hsl
    by_cases hlen : n - 1 < kb.size ∨ (kb.size < n - 1 ∧ more = false)
    · have HV := Lib.hid (show (hasFormS l k more && cmdTail c0 l) = false by rw [hasForm_lens (by rw [HL.out, ← HKS.out]; exact hlen)]; rfl)
      rcases hlen with h1 | ⟨h1, rfl⟩
      · have h2 : (n : Int) - 1 < kb.size := by omega
        go_enter Tryz.func133, Tryz.ntmps133
        go_wp2_with (first | (go_at_call 132; refine (C1.out _).mono ?_; rintro e w1 ⟨rfl, rfl⟩) | (go_at_call 173; refine (C2.out _).mono ?_; rintro e w1 ⟨rfl, rfl⟩))
        go_ret; exact ⟨ret_bool HV.out.symm, Below.refl _ _⟩
      · have h2 : (kb.size : Int) < (n : Int) - 1 := by omega
        go_enter Tryz.func133, Tryz.ntmps133
        go_wp2_with (first | (go_at_call 132; refine (C1.out _).mono ?_; rintro e w1 ⟨rfl, rfl⟩) | (go_at_call 173; refine (C2.out _).mono ?_; rintro e w1 ⟨rfl, rfl⟩))
        go_ret; exact ⟨ret_bool HV.out.symm, Below.refl _ _⟩
    · have h1 : kb.size ≤ n - 1 := by omega
      have t1 : decide (n - 1 < kb.size) = false := decide_eq_false (by omega)
      have t2 : (n - 1 ≤ kb.size ∧ decide (kb.size < n - 1) = false) ∨ (more = true ∧ decide (kb.size < n - 1) = true) := by
        by_cases h : n - 1 ≤ kb.size
        · exact .inl ⟨h, decide_eq_false (by omega)⟩
        · right
          cases more
          · exact absurd (.inr ⟨by omega, rfl⟩) hlen
          · exact ⟨rfl, decide_eq_true (by omega)⟩
      have HV := Lib.hid (show hasFormS l k more = wordsFit k 0 l from hasForm_fits (by
        rw [HL.out, ← HKS.out]
        refine ⟨h1, ?_⟩
        rcases t2 with ⟨h, _⟩ | ⟨h, _⟩
        · exact .inl h
        · exact .inr h))
      clear hlen
      have hm : n - 1 ≤ 9223372036854775807 := by omega
      generalize hR : (hasFormS l k more && cmdTail c0 l) = R
      have HR := Lib.hid hR; clear hR
      rcases t2 with ⟨h3, t2⟩ | ⟨rfl, t2⟩
      all_goals
        go_enter Tryz.func133, Tryz.ntmps133
        go_wp2_with (first | (go_at_call 132; refine (C1.out _).mono ?_; rintro e w1 ⟨rfl, rfl⟩) | (go_at_call 173; refine (C2.out _).mono ?_; rintro e w1 ⟨rfl, rfl⟩))
        go_loopw [7] (fun i wr => ∃ q : Nat, q ≤ n - 1 ∧ i = .int .i64 q ∧ wordsFit k 0 l = wordsFit k q (l.drop q) ∧ Below w.heap.size w wr) (fun i _ => n - 1 - (intOf i).toNat)
        case atStart => exact ⟨0, Nat.zero_le _, rfl, rfl, Below.refl _ _⟩
        case round =>
          obtain ⟨q, hq, rfl, hd, hbel⟩ := hrel
          have Hr := Lib.hid hd; clear hd
          by_cases hlt : q < n - 1
          · obtain ⟨b2, o2, x, e2, hb2, hx, hxs, c0'⟩ := (hst.keep (keep_lt hbel)).str hlt
            cases e2
            have Hx := Lib.hid hx; clear hx
            have hEr := hE.then_ hbel
            obtain ⟨j, hj1, hj2⟩ : ∃ j : Nat, min (q : Int) ((kb.size : Int) - 1) = (j : Int) ∧ j = min q (kb.size - 1) := ⟨_, by omega, rfl⟩
            have hj3 : j < kb.size := by omega
            have HJ := Lib.hid hj2; clear hj2
            have HF := Lib.hid (show fitsS (k.getD (min q (k.length - 1)) 0) x = fitsS kb[j] x by
              rw [← HKS.out, ← HJ.out, List.getD, ← HB.out, byte_at kb j hj3]; rfl)
            have hqI : (q : Int) < (n : Int) - 1 := by omega
            have HK := Lib.hid (show ∀ w', Below wr.heap.size wr w' → (Below wr.heap.size wr w' ∧ w'.cell? ⟨b, o + 1 + q, none⟩ = some (.string x)) from fun w' h => ⟨h, (h.cell (p := ⟨b, o + 1 + q, none⟩) (Nat.lt_of_lt_of_le hb hbel.size)).trans c0'⟩)
            have hjI : (j : Int) < (kb.size : Int) := by omega
            have hqI2 : (q : Int) < ((n - 1 : Nat) : Int) := by omega
            have hj0 : (0 : Int) ≤ (j : Int) := by omega
            have HCF := Lib.hid (fun w' (h : Below wr.heap.size wr w') => ref5_fits kb[j] x w' (hEr.then_ h) hxs)
            cases gv : fitsS kb[j] x
            · have HT := Lib.hid (wordsFit_no (k := k) Hx.out (by rw [HF.out, gv]))
              rw [gv] at HCF
              go_wp2
              have g1 := IntWalk.i64_in ((kb.size : Int) - 1) ⟨by omega, by omega⟩
              go_region_held3 (fun w' => Below wr.heap.size wr w' ∧ w'.cell? ⟨b, o + 1 + q, none⟩ = some (.string x))
                (first | assumption | exact HK.out _ (Below.refl _ _).drew | exact HK.out _ (fr_call (And.left (by assumption)) hbc))
                (first | (go_at_call 178; refine (HCF.out _ (And.left (by assumption))).mono ?_; rintro e wc ⟨rfl, hbc⟩))
              have hb9 : Below wr.heap.size wr wc := And.left (by assumption)
              clear g1
              go_wp2
              go_ret
              exact ⟨ret_bool (by rw [← HR.out, HV.out, Hr.out, HT.out]; rfl), fr_call hbel hb9⟩
            · have HT := Lib.hid (wordsFit_step (k := k) Hx.out (by rw [HF.out, gv]))
              rw [gv] at HCF
              go_wp2
              have g1 := IntWalk.i64_in ((kb.size : Int) - 1) ⟨by omega, by omega⟩
              go_region_held3 (fun w' => Below wr.heap.size wr w' ∧ w'.cell? ⟨b, o + 1 + q, none⟩ = some (.string x))
                (first | assumption | exact HK.out _ (Below.refl _ _).drew | exact HK.out _ (fr_call (And.left (by assumption)) hbc))
                (first | (go_at_call 178; refine (HCF.out _ (And.left (by assumption))).mono ?_; rintro e wc ⟨rfl, hbc⟩))
              have hb9 : Below wr.heap.size wr wc := And.left (by assumption)
              clear g1
              go_wp2
              go_round
              case rel => exact ⟨q + 1, by omega, by go_num, by rw [Hr.out, HT.out], fr_call hbel hb9⟩
              case measure => simp [intOf]; omega
          · have HT := Lib.hid (wordsFit_end (k := k) (l := l) (i := q) (by rw [HL.out]; omega))
            have hd0 : wr.cell? ⟨b, o, none⟩ = some (.string c0) := (hbel.cell (p := ⟨b, o, none⟩) hb).trans d0
            by_cases hfa : c0.toList = [102, 97, 105, 108]
            · obtain ⟨b2, o2, x1, e2, hb2, hx1, hxs1, c1'⟩ := (hst.keep (keep_lt hbel)).str (k := 0) (by omega)
              cases e2
              rw [Nat.add_zero] at c1'
              have hd := data_eq hfa
              have hn0 : (0 : Int) < ((n - 1 : Nat) : Int) := by omega
              by_cases hx0 : x1.toList = [48]
              · have HW := Lib.hid (show R = false by
                  rw [← HR.out, cmdTail, hd, List.head?_eq_getElem?, hx1]
                  have : (some (x1.data.toList) == some [48]) = true := by rw [← Lib.toList_data, hx0]; rfl
                  simp [this])
                clear hx1 hd
                go_wp2
                go_ret
                exact ⟨ret_bool (by rw [HW.out] <;> simp [hx0]), hbel⟩
              · have HW := Lib.hid (show R = true by
                  rw [← HR.out, HV.out, Hr.out, HT.out, cmdTail, hd, List.head?_eq_getElem?, hx1]
                  have : (some (x1.data.toList) == some [48]) = false := by rw [← Lib.toList_data, beq_eq_false_iff_ne]; simpa using hx0
                  simp [this])
                clear hx1 hd
                go_wp2
                go_ret
                exact ⟨ret_bool (by rw [HW.out] <;> simp [hx0]), hbel⟩
            · have HW := Lib.hid (show R = true by
                rw [← HR.out, HV.out, Hr.out, HT.out, cmdTail, data_ne hfa]; rfl)
              go_wp2
              go_ret
              exact ⟨ret_bool (by rw [HW.out]), hbel⟩
end Go.Proofs.Sm
