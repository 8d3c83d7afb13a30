/- Plain words: how long the text of a right result can be. -/
import Derived.Test.YtkhengfpglfapaaGreatDoorH7x3
import Derived.Deep.RegionHeld3
namespace Go.Proofs.Sm
open Go.RowKit

theorem cutPlus {k : List UInt8} {more : Bool} (hf : FormIs k more) (f : ByteArray) (h : f.data.toList = k ++ plusL more) (kb : ByteArray) (hk : kb.data.toList = k) (w : World) :
    Calls Tryz.prog 116 #[.string f, .string ⟨#[43]⟩] w fun e w' => e = .returned (.tuple #[.string kb, .bool more]) ∧ w = w' := by
  have hfs : f.size ≤ 9223372036854775807 := by
    have e : f.data.toList.length = f.size := by simp
    rw [← e, h, List.length_append]
    have := hf.2.2.2
    have : (plusL more).length ≤ 1 := by cases more <;> decide
    omega
  refine (Tryz.strings_CutSuffix f ⟨#[43]⟩ w hfs).mono fun e w' ⟨h1, h2⟩ => ⟨?_, h2.symm⟩
  rw [h1, h]
  have e43 : (⟨#[43]⟩ : ByteArray).data.toList = [43] := rfl
  rw [e43, hf.1, hf.2.1]
  exact ret_pair (congrArg Value.string (bytes_ext (by rw [hk]))) rfl
theorem sl_tail {w : World} {S : Nat → Prop} {b o n : Nat} {x : ByteArray} {l : List ByteArray} (h : Sl w S (some ⟨b, o, none⟩) n (x :: l)) : Sl w S (some ⟨b, o + 1, none⟩) (n - 1) l := by
  have h1 := h.1
  simp at h1
  refine ⟨by omega, by have := h.2.1; omega, fun hn => ?_⟩
  obtain ⟨b', o', e, hb, hc⟩ := h.2.2 (by omega)
  cases e
  refine ⟨b, o + 1, rfl, hb, fun i y hy => ?_⟩
  obtain ⟨vs, hr, ha⟩ := hc (i + 1) y (by simpa using hy)
  refine ⟨vs, hr, ?_⟩
  have e2 : o + 1 + i * Rep.sz ByteArray = o + (i + 1) * Rep.sz ByteArray := by simp [Rep.sz]; omega
  rw [e2]; exact ha
theorem hasForm_lens {k : List UInt8} {l : List ByteArray} {more : Bool} (h : l.length < k.length ∨ (k.length < l.length ∧ more = false)) : hasFormS l k more = false := by
  refine hasForm_len ?_
  rcases h with h | ⟨h, h2⟩
  · rw [decide_eq_false (by omega)]; rfl
  · rw [h2, decide_eq_false (by omega : ¬ l.length ≤ k.length)]; simp
theorem hasForm_fits {k : List UInt8} {l : List ByteArray} {more : Bool} (h : k.length ≤ l.length ∧ (l.length ≤ k.length ∨ more = true)) : hasFormS l k more = wordsFit k 0 l := by
  refine hasForm_fit ?_
  rw [decide_eq_true h.1]
  rcases h.2 with h | h
  · rw [decide_eq_true h]; rfl
  · rw [h]; simp

set_option maxHeartbeats 1000000 in
set_option maxRecDepth 100000 in
theorem act_hasForm (A : Option Addr) (n c : Nat) (l : List ByteArray) (k : List UInt8) (more : Bool) (f : ByteArray) (w : World) (hE : Env w) (hsl : Sl w (Lt w.heap.size) A n l) (hf : FormIs k more) (hfl : f.data.toList = k ++ plusL more) (hn : n ≤ 1000) :
    Calls Tryz.prog 76 #[.slice A n c, .string f] w fun e w' => e = .returned (.bool (hasFormS l k more)) ∧ Below w.heap.size w w' := by
  obtain ⟨kb, hkb⟩ : ∃ kb : ByteArray, kb.data.toList = k := ⟨⟨k.toArray⟩, by simp⟩
  have HC := Lib.hid (fun w => cutPlus hf f hfl kb hkb w)
  have hks : kb.size = k.length := by rw [← hkb]; simp
  have hk1 : 1 ≤ kb.size := by rw [hks]; exact hf.2.2.1
  have hk4 : kb.size ≤ 4 := by rw [hks]; exact hf.2.2.2
  have HB := Lib.hid hkb; clear hkb hfl hf
  have HKS := Lib.hid hks; clear hks
  have hln := hsl.1
  by_cases hlen : n < kb.size ∨ (kb.size < n ∧ more = false)
  · have HV := Lib.hid (show hasFormS l k more = false from hasForm_lens (by rw [hln, ← HKS.out]; exact hlen))
    clear hln
    rcases hlen with h1 | ⟨h1, rfl⟩
    · go_enter Tryz.func76, Tryz.ntmps76
      go_wp2_with (go_at_call 116; refine (HC.out _).mono ?_; rintro e w1 ⟨rfl, rfl⟩)
      go_ret; exact ⟨ret_bool HV.out.symm, Below.refl _ _⟩
    · go_enter Tryz.func76, Tryz.ntmps76
      go_wp2_with (go_at_call 116; refine (HC.out _).mono ?_; rintro e w1 ⟨rfl, rfl⟩)
      go_ret; exact ⟨ret_bool HV.out.symm, Below.refl _ _⟩
  · have h1 : kb.size ≤ n := by omega
    have h2 : n ≤ kb.size ∨ more = true := by
      by_cases h : n ≤ kb.size
      · exact .inl h
      · right
        cases more
        · exact absurd (.inr ⟨by omega, rfl⟩) hlen
        · rfl
    have HV := Lib.hid (show hasFormS l k more = wordsFit k 0 l from hasForm_fits (by rw [hln, ← HKS.out]; exact ⟨h1, h2⟩))
    have HL := Lib.hid hln; clear hln hlen
    have h3 : n ≤ kb.size ∨ (kb.size < n ∧ more = true) := by
      by_cases h : n ≤ kb.size
      · exact .inl h
      · exact .inr ⟨by omega, h2.resolve_left h⟩
    clear h2
    have hm : n ≤ 9223372036854775807 := hsl.2.1
    have t1 : decide (n < kb.size) = false := decide_eq_false (by omega)
    have t2 : (n ≤ kb.size ∧ decide (kb.size < n) = false) ∨ (more = true ∧ decide (kb.size < n) = true) := by
      rcases h3 with h3 | ⟨h3, h4⟩
      · exact .inl ⟨h3, decide_eq_false (by omega)⟩
      · exact .inr ⟨h4, decide_eq_true h3⟩
    clear h3
    rcases t2 with ⟨h3, t2⟩ | ⟨rfl, t2⟩
    all_goals
      go_enter Tryz.func76, Tryz.ntmps76
      go_wp2_with (go_at_call 116; refine (HC.out _).mono ?_; rintro e w1 ⟨rfl, rfl⟩)
      go_loopw [6, 7, 31] (fun _ _ i wr => ∃ q : Nat, q ≤ n ∧ i = .int .i64 q ∧ wordsFit k 0 l = wordsFit k q (l.drop q) ∧ Below w.heap.size w wr) (fun _ _ i _ => n - (intOf i).toNat)
      case atStart => exact ⟨0, Nat.zero_le _, rfl, rfl, Below.refl _ _⟩
      case round =>
        obtain ⟨q, hq, rfl, hd, hbel⟩ := hrel
        have Hr := Lib.hid hd; clear hd
        by_cases hlt : q < n
        · obtain ⟨b, o, x, rfl, hb, hx, hxs, c0⟩ := (hsl.keep (keep_lt hbel)).str hlt
          have Hx := Lib.hid hx; clear hx
          have hEr := hE.then_ hbel
          obtain ⟨j, hj1, hj2⟩ : ∃ j : Nat, min (q : Int) ((kb.size : Int) - 1) = (j : Int) ∧ j = min q (kb.size - 1) := ⟨_, by omega, rfl⟩
          have hj3 : j < kb.size := by omega
          have HJ := Lib.hid hj2; clear hj2
          have HF := Lib.hid (show fitsS (k.getD (min q (k.length - 1)) 0) x = fitsS kb[j] x by
            rw [← HKS.out, ← HJ.out, List.getD, ← HB.out, byte_at kb j hj3]; rfl)
          cases g1 : ((kb[j].toNat : Int) == 112)
          · cases g2 : ((kb[j].toNat : Int) == 110)
            · have HT := Lib.hid (wordsFit_step (k := k) Hx.out (by
                rw [HF.out, fitsS, if_neg, if_neg]
                · intro e; rw [e] at g2; revert g2; decide
                · intro e; rw [e] at g1; revert g1; decide))
              go_wp2
              go_round
              case rel => exact ⟨q + 1, by omega, by go_num, by rw [Hr.out, HT.out], hbel⟩
              case measure => simp [intOf]; omega
            · have e110 : kb[j] = 110 := by
                apply UInt8.toNat_inj.1
                have : (110 : UInt8).toNat = 110 := rfl
                rw [beq_iff_eq] at g2
                omega
              have HG := Lib.hid (show fitsS kb[j] x = isNumberS x 6 by rw [e110]; rfl)
              clear e110
              cases gv : isNumberS x 6
              · have HT := Lib.hid (wordsFit_no (k := k) Hx.out (by rw [HF.out, HG.out, gv]))
                go_wp2_with (go_at_call 117; refine (act_isNumber _ _ _ hxs).mono ?_; rintro e w1 ⟨rfl, hb1⟩)
                go_ret
                exact ⟨ret_bool (by rw [HV.out, Hr.out, HT.out]), fr_call hbel hb1⟩
              · have HT := Lib.hid (wordsFit_step (k := k) Hx.out (by rw [HF.out, HG.out, gv]))
                go_wp2_with (go_at_call 117; refine (act_isNumber _ _ _ hxs).mono ?_; rintro e w1 ⟨rfl, hb1⟩)
                go_round
                case rel => exact ⟨q + 1, by omega, by go_num, by rw [Hr.out, HT.out], fr_call hbel hb1⟩
                case measure => simp [intOf]; omega
          · have e112 : kb[j] = 112 := by
              apply UInt8.toNat_inj.1
              have : (112 : UInt8).toNat = 112 := rfl
              rw [beq_iff_eq] at g1
              omega
            have HG := Lib.hid (show fitsS kb[j] x = isPathS x by rw [e112]; rfl)
            clear e112
            cases gv : isPathS x
            · have HT := Lib.hid (wordsFit_no (k := k) Hx.out (by rw [HF.out, HG.out, gv]))
              go_wp2_with (go_at_call 79; refine (blob_IsPath _ _ hEr).mono ?_; rintro e w1 ⟨rfl, hb1⟩)
              go_ret
              exact ⟨ret_bool (by rw [HV.out, Hr.out, HT.out]), fr_call hbel hb1⟩
            · have HT := Lib.hid (wordsFit_step (k := k) Hx.out (by rw [HF.out, HG.out, gv]))
              go_wp2_with (go_at_call 79; refine (blob_IsPath _ _ hEr).mono ?_; rintro e w1 ⟨rfl, hb1⟩)
              go_round
              case rel => exact ⟨q + 1, by omega, by go_num, by rw [Hr.out, HT.out], fr_call hbel hb1⟩
              case measure => simp [intOf]; omega
        · have HT := Lib.hid (wordsFit_end (k := k) (l := l) (i := q) (by rw [hsl.1]; omega))
          go_wp2
          go_ret
          exact ⟨ret_bool (by rw [HV.out, Hr.out, HT.out]), hbel⟩
end Go.Proofs.Sm

namespace Go.Proofs.Sm
open Go.RowKit

def cmdTail (c0 : ByteArray) (words : List ByteArray) : Bool := !(c0.data.toList == [102, 97, 105, 108] && (words.head?.map fun s => s.data.toList) == some [48])
theorem Sl.nil' {α : Type} [Rep α] {w : World} {S : Nat → Prop} {A : Option Addr} : Sl w S A 0 ([] : List α) := ⟨rfl, Nat.zero_le _, fun h => absurd h (by omega)⟩
theorem data_ne {s : ByteArray} {l : List UInt8} (h : ¬ s.toList = l) : (s.data.toList == l) = false := by
  rw [← Lib.toList_data, beq_eq_false_iff_ne]; exact h
theorem data_eq {s : ByteArray} {l : List UInt8} (h : s.toList = l) : (s.data.toList == l) = true := by
  rw [← Lib.toList_data, beq_iff_eq]; exact h

set_option maxHeartbeats 2000000 in
set_option maxRecDepth 100000 in
theorem ref5_formed (b o n c : Nat) (c0 : ByteArray) (l : List ByteArray) (k : List UInt8) (more : Bool) (w : World) (hE : Env w) (hsl : Sl w (Lt w.heap.size) (some ⟨b, o, none⟩) n (c0 :: l)) (hnc : n ≤ c) (hk : formS c0.data.toList = some (k, more)) (hn : n ≤ 1000) :
    Calls Tryz.prog 84 #[.slice (some ⟨b, o, none⟩) n c] w fun e w' => e = .returned (.bool (hasFormS l k more && cmdTail c0 l)) ∧ Below w.heap.size w w' := by
  have hf := form_is hk
  have h1n : 1 ≤ n := by have := hsl.1; simp at this; omega
  have hl1 : l.length = n - 1 := by have := hsl.1; simp at this; omega
  obtain ⟨b', o', x0, e0, hb, hx0, hxs0, d0⟩ := hsl.str (k := 0) (by omega)
  cases e0
  obtain rfl : c0 = x0 := by simpa using hx0
  clear hx0
  rw [Nat.add_zero] at d0
  obtain ⟨kb, hkb⟩ : ∃ kb : ByteArray, kb.data.toList = k := ⟨⟨k.toArray⟩, by simp⟩
  have C1 := Lib.hid (fun w => (ref5_form c0 w).mono fun e w' h => (show e = Ending.returned (.tuple #[.string ⟨(k ++ plusL more).toArray⟩, .bool true]) ∧ w = w' from ⟨by rw [h.1, form_some hk, hk]; rfl, h.2⟩))
  have C2 := Lib.hid (fun w => cutPlus hf ⟨(k ++ plusL more).toArray⟩ (by simp) kb hkb w)
  have hks : kb.size = k.length := by rw [← hkb]; simp
  have hk1 : 1 ≤ kb.size := by rw [hks]; exact hf.2.2.1
  have hk4 : kb.size ≤ 4 := by rw [hks]; exact hf.2.2.2
  have HB := Lib.hid hkb; clear hkb
  have HKS := Lib.hid hks; clear hks
  have HK0 := Lib.hid hk; clear hk
  have HFI := Lib.hid hf; clear hf
  generalize (⟨(k ++ plusL more).toArray⟩ : ByteArray) = fs at *
  have HL := Lib.hid hl1; clear hl1
  have hnI : (0 : Int) < n := by omega
  by_cases hn1 : n = 1
  · subst hn1
    have hl0 : l = [] := List.eq_nil_of_length_eq_zero HL.out
    have HV := Lib.hid (show (hasFormS l k more && cmdTail c0 l) = false by rw [hasForm_lens (.inl (by rw [HL.out, ← HKS.out]; omega))]; rfl)
    clear hl0
    have t1 : decide (0 < kb.size) = true := decide_eq_true (by omega)
    have t0 : 0 < kb.size := by omega
    by_cases hc1 : c = 1
    · subst hc1
      go_enter Tryz.func84, Tryz.ntmps84
      go_wp2_with (first | (go_at_call 83; refine (C1.out _).mono ?_; rintro e w1 ⟨rfl, rfl⟩) | (go_at_call 116; refine (C2.out _).mono ?_; rintro e w1 ⟨rfl, rfl⟩))
      go_ret; exact ⟨ret_bool HV.out.symm, Below.refl _ _⟩
    · go_enter Tryz.func84, Tryz.ntmps84
      go_wp2_with (first | (go_at_call 83; refine (C1.out _).mono ?_; rintro e w1 ⟨rfl, rfl⟩) | (go_at_call 116; refine (C2.out _).mono ?_; rintro e w1 ⟨rfl, rfl⟩))
      go_ret; exact ⟨ret_bool HV.out.symm, Below.refl _ _⟩
  · have hc1 : ¬ c = 1 := by omega
    have hst := sl_tail hsl
    by_cases hlen : n - 1 < kb.size ∨ (kb.size < n - 1 ∧ more = false)
    · have HV := Lib.hid (show (hasFormS l k more && cmdTail c0 l) = false by rw [hasForm_lens (by rw [HL.out, ← HKS.out]; exact hlen)]; rfl)
      rcases hlen with h1 | ⟨h1, rfl⟩
      · have h2 : (n : Int) - 1 < kb.size := by omega
        go_enter Tryz.func84, Tryz.ntmps84
        go_wp2_with (first | (go_at_call 83; refine (C1.out _).mono ?_; rintro e w1 ⟨rfl, rfl⟩) | (go_at_call 116; refine (C2.out _).mono ?_; rintro e w1 ⟨rfl, rfl⟩))
        go_ret; exact ⟨ret_bool HV.out.symm, Below.refl _ _⟩
      · have h2 : (kb.size : Int) < (n : Int) - 1 := by omega
        go_enter Tryz.func84, Tryz.ntmps84
        go_wp2_with (first | (go_at_call 83; refine (C1.out _).mono ?_; rintro e w1 ⟨rfl, rfl⟩) | (go_at_call 116; refine (C2.out _).mono ?_; rintro e w1 ⟨rfl, rfl⟩))
        go_ret; exact ⟨ret_bool HV.out.symm, Below.refl _ _⟩
    · have h1 : kb.size ≤ n - 1 := by omega
      have t1 : decide (n - 1 < kb.size) = false := decide_eq_false (by omega)
      have t2 : (n - 1 ≤ kb.size ∧ decide (kb.size < n - 1) = false) ∨ (more = true ∧ decide (kb.size < n - 1) = true) := by
        by_cases h : n - 1 ≤ kb.size
        · exact .inl ⟨h, decide_eq_false (by omega)⟩
        · right
          cases more
          · exact absurd (.inr ⟨by omega, rfl⟩) hlen
          · exact ⟨rfl, decide_eq_true (by omega)⟩
      have HV := Lib.hid (show hasFormS l k more = wordsFit k 0 l from hasForm_fits (by
        rw [HL.out, ← HKS.out]
        refine ⟨h1, ?_⟩
        rcases t2 with ⟨h, _⟩ | ⟨h, _⟩
        · exact .inl h
        · exact .inr h))
      clear hlen
      have hm : n - 1 ≤ 9223372036854775807 := by omega
      generalize hR : (hasFormS l k more && cmdTail c0 l) = R
      have HR := Lib.hid hR; clear hR
      rcases t2 with ⟨h3, t2⟩ | ⟨rfl, t2⟩
      all_goals
        go_enter Tryz.func84, Tryz.ntmps84
        go_wp2_with (first | (go_at_call 83; refine (C1.out _).mono ?_; rintro e w1 ⟨rfl, rfl⟩) | (go_at_call 116; refine (C2.out _).mono ?_; rintro e w1 ⟨rfl, rfl⟩))
        go_loopw [7] (fun i wr => ∃ q : Nat, q ≤ n - 1 ∧ i = .int .i64 q ∧ wordsFit k 0 l = wordsFit k q (l.drop q) ∧ Below w.heap.size w wr) (fun i _ => n - 1 - (intOf i).toNat)
        case atStart => exact ⟨0, Nat.zero_le _, rfl, rfl, Below.refl _ _⟩
        case round =>
          obtain ⟨q, hq, rfl, hd, hbel⟩ := hrel
          have Hr := Lib.hid hd; clear hd
          by_cases hlt : q < n - 1
          · obtain ⟨b2, o2, x, e2, hb2, hx, hxs, c0'⟩ := (hst.keep (keep_lt hbel)).str hlt
            cases e2
            have Hx := Lib.hid hx; clear hx
            have hEr := hE.then_ hbel
            obtain ⟨j, hj1, hj2⟩ : ∃ j : Nat, min (q : Int) ((kb.size : Int) - 1) = (j : Int) ∧ j = min q (kb.size - 1) := ⟨_, by omega, rfl⟩
            have hj3 : j < kb.size := by omega
            have HJ := Lib.hid hj2; clear hj2
            have HF := Lib.hid (show fitsS (k.getD (min q (k.length - 1)) 0) x = fitsS kb[j] x by
              rw [← HKS.out, ← HJ.out, List.getD, ← HB.out, byte_at kb j hj3]; rfl)
            have hqI : (q : Int) < (n : Int) - 1 := by omega
            have HK := Lib.hid (show ∀ w', Below wr.heap.size wr w' → (Below wr.heap.size wr w' ∧ w'.cell? ⟨b, o + 1 + q, none⟩ = some (.string x)) from fun w' h => ⟨h, (h.cell (p := ⟨b, o + 1 + q, none⟩) (Nat.lt_of_lt_of_le hb hbel.size)).trans c0'⟩)
            have hjI : (j : Int) < (kb.size : Int) := by omega
            have hqI2 : (q : Int) < ((n - 1 : Nat) : Int) := by omega
            have hj0 : (0 : Int) ≤ (j : Int) := by omega
            have HCF := Lib.hid (fun w' (h : Below wr.heap.size wr w') => ref5_fits kb[j] x w' (hEr.then_ h) hxs)
            cases gv : fitsS kb[j] x
            · have HT := Lib.hid (wordsFit_no (k := k) Hx.out (by rw [HF.out, gv]))
              rw [gv] at HCF
              go_wp2
              have g1 := IntWalk.i64_in ((kb.size : Int) - 1) ⟨by omega, by omega⟩
              go_region_held3 (fun w' => Below wr.heap.size wr w' ∧ w'.cell? ⟨b, o + 1 + q, none⟩ = some (.string x))
                (first | assumption | exact HK.out _ (Below.refl _ _).drew | exact HK.out _ (fr_call (And.left (by assumption)) hbc))
                (first | (go_at_call 124; refine (HCF.out _ (And.left (by assumption))).mono ?_; rintro e wc ⟨rfl, hbc⟩))
              have hb9 : Below wr.heap.size wr wc := And.left (by assumption)
              clear g1
              go_wp2
              go_ret
              exact ⟨ret_bool (by rw [← HR.out, HV.out, Hr.out, HT.out]; rfl), fr_call hbel hb9⟩
            · have HT := Lib.hid (wordsFit_step (k := k) Hx.out (by rw [HF.out, gv]))
              rw [gv] at HCF
              go_wp2
              have g1 := IntWalk.i64_in ((kb.size : Int) - 1) ⟨by omega, by omega⟩
              go_region_held3 (fun w' => Below wr.heap.size wr w' ∧ w'.cell? ⟨b, o + 1 + q, none⟩ = some (.string x))
                (first | assumption | exact HK.out _ (Below.refl _ _).drew | exact HK.out _ (fr_call (And.left (by assumption)) hbc))
                (first | (go_at_call 124; refine (HCF.out _ (And.left (by assumption))).mono ?_; rintro e wc ⟨rfl, hbc⟩))
              have hb9 : Below wr.heap.size wr wc := And.left (by assumption)
              clear g1
              go_wp2
              go_round
              case rel => exact ⟨q + 1, by omega, by go_num, by rw [Hr.out, HT.out], fr_call hbel hb9⟩
              case measure => simp [intOf]; omega
          · have HT := Lib.hid (wordsFit_end (k := k) (l := l) (i := q) (by rw [HL.out]; omega))
            have hd0 : wr.cell? ⟨b, o, none⟩ = some (.string c0) := (hbel.cell (p := ⟨b, o, none⟩) hb).trans d0
            by_cases hfa : c0.toList = [102, 97, 105, 108]
            · obtain ⟨b2, o2, x1, e2, hb2, hx1, hxs1, c1'⟩ := (hst.keep (keep_lt hbel)).str (k := 0) (by omega)
              cases e2
              rw [Nat.add_zero] at c1'
              have hd := data_eq hfa
              have hn0 : (0 : Int) < ((n - 1 : Nat) : Int) := by omega
              by_cases hx0 : x1.toList = [48]
              · have HW := Lib.hid (show R = false by
                  rw [← HR.out, cmdTail, hd, List.head?_eq_getElem?, hx1]
                  have : (some (x1.data.toList) == some [48]) = true := by rw [← Lib.toList_data, hx0]; rfl
                  simp [this])
                clear hx1 hd
                go_wp2
                go_ret
                exact ⟨ret_bool (by rw [HW.out] <;> simp [hx0]), hbel⟩
              · have HW := Lib.hid (show R = true by
                  rw [← HR.out, HV.out, Hr.out, HT.out, cmdTail, hd, List.head?_eq_getElem?, hx1]
                  have : (some (x1.data.toList) == some [48]) = false := by rw [← Lib.toList_data, beq_eq_false_iff_ne]; simpa using hx0
                  simp [this])
                clear hx1 hd
                go_wp2
                go_ret
                exact ⟨ret_bool (by rw [HW.out] <;> simp [hx0]), hbel⟩
            · have HW := Lib.hid (show R = true by
                rw [← HR.out, HV.out, Hr.out, HT.out, cmdTail, data_ne hfa]; rfl)
              go_wp2
              go_ret
              exact ⟨ret_bool (by rw [HW.out]), hbel⟩
end Go.Proofs.Sm

namespace Go.Proofs.Sm
open Go.RowKit

section
variable {c0 : ByteArray} {l : List ByteArray} {k : List UInt8} {more : Bool}
theorem cc_large {l : List ByteArray} (h : (50 : Int) < l.length) : checkCommandS l = 2 := by unfold checkCommandS; rw [if_pos h]
theorem cc_some (h : ¬ (50 : Int) < (c0 :: l).length) (hw : (c0 :: l).all isWordS = true) (hk : formS c0.data.toList = some (k, more)) : checkCommandS (c0 :: l) = if (hasFormS l k more && cmdTail c0 l) = true then 0 else 3 := by
  rw [checkCommandS, if_neg h]
  simp only [hw, hk, Bool.true_eq_false, if_false]
  cases h1 : hasFormS l k more
  · simp
  · rw [cmdTail]
    cases h2 : (c0.data.toList == [102, 97, 105, 108] && (l.head?.map fun s => s.data.toList) == some [48]) <;> simp
theorem cc_word (h : ¬ (50 : Int) < (c0 :: l).length) (hw : (c0 :: l).all isWordS = false) : checkCommandS (c0 :: l) = 3 := by
  rw [checkCommandS, if_neg h]
  simp only [hw, if_true]
theorem cc_kind (h : ¬ (50 : Int) < (c0 :: l).length) (hw : (c0 :: l).all isWordS = true) (hk : formS c0.data.toList = none) : checkCommandS (c0 :: l) = 4 := by
  rw [checkCommandS, if_neg h]
  simp only [hw, hk, Bool.true_eq_false, if_false]
end
theorem isWord_eq (x : ByteArray) : isWordS x = (withinB x.size 1 300 && x.data.toList.all (bytesInB 33 126)) := by rw [isWordS, Bool.and_comm]
theorem noWord_pays (W : World) (x : ByteArray) (hx : x.size ≤ maxLen) : Calls Tryz.prog 73 #[.string x] W fun e w' => e = .returned (.bool (!(isWordS x))) ∧ Below W.heap.size W w' := by
  go_enter Tryz.func73, Tryz.ntmps73
  go_wp2_with (go_at_call 74; refine (act_isWord _ _ hx).mono ?_; rintro e w1 ⟨rfl, rfl⟩)
  go_ret
  exact ⟨rfl, Below.refl _ _⟩
theorem words_any' (A : Option Addr) (n c : Nat) (l : List ByteArray) (w : World) (hsl : Sl w (Lt w.heap.size) A n l) :
    Calls Tryz.prog 72 #[.slice A n c, .func (.func 73) #[] #[]] w fun e w' => e = .returned (.bool (!(l.all isWordS))) ∧ Below w.heap.size w w' :=
  (slices_ContainsFunc0 73 (enters_of Tryz.func73 (by kernel_rfl) rfl) (fun x => !(isWordS x)) A n c l w hsl (fun W x _ hx _ => noWord_pays W x hx)).mono fun _ _ h => ⟨by rw [h.1, List.not_all_eq_any_not], h.2⟩
theorem formL_empty {s : ByteArray} (h : formS s.data.toList = none) : (⟨(formL s.data.toList).toArray⟩ : ByteArray).toList = [] := by
  rw [Lib.toList_data, form_none h]
theorem formL_some {s : ByteArray} {k : List UInt8} {more : Bool} (h : formS s.data.toList = some (k, more)) : (⟨(formL s.data.toList).toArray⟩ : ByteArray).toList.isEmpty = false := by
  rw [Lib.toList_data]
  have h1 := (form_is h).2.2.1
  rw [form_some h]
  cases k with
  | nil => simp at h1
  | cons a k => rfl

/-- c[1:] -/
theorem tail_run {w : World} {S : Nat → Prop} {b o n c : Nat} {x : ByteArray} {l : List ByteArray} (h : Sl w S (some ⟨b, o, none⟩) n (x :: l)) (hnc : n ≤ c) (hm : n ≤ 9223372036854775807) :
    ∃ A2 n2 c2, Sl w S A2 n2 l ∧ n2 ≤ c2 ∧ n2 ≤ n ∧ ∀ W, (Instr.slice 24 (.slice (some ⟨b, o, none⟩) n c) (some (.int .i64 1)) none none).run Tryz.prog W = .ok (.slice A2 n2 c2) W := by
  have h1 : 1 ≤ n := by have := h.1; simp at this; omega
  have ht := sl_tail h
  by_cases hc : c = 1
  · subst hc
    obtain rfl : n = 1 := by omega
    have hl : l = [] := List.eq_nil_of_length_eq_zero (by have := h.1; simpa using this)
    subst hl
    refine ⟨some ⟨b, o, none⟩, 0, 0, Sl.nil', Nat.le_refl _, by omega, fun W => ?_⟩
    simp [go_sem, Tryz.underlying24]
  · refine ⟨some ⟨b, o + 1, none⟩, n - 1, c - 1, ht, by omega, by omega, fun W => ?_⟩
    have h2 : (1 : Int) ≤ n := by omega
    simp [go_sem, Tryz.underlying24, hc, h2]
set_option maxHeartbeats 2000000 in
set_option maxRecDepth 100000 in
theorem act_checkCommand (A : Option Addr) (n c : Nat) (l : List ByteArray) (w : World) (hE : Env w) (hsl : Sl w (Lt w.heap.size) A n l) (hnc : n ≤ c) :
    Calls Tryz.prog 35 #[.slice A n c] w fun e w' => e = .returned (.int .i64 (checkCommandS l)) ∧ Below w.heap.size w w' := by
  have hm : n ≤ 9223372036854775807 := hsl.2.1
  cases l with
  | nil =>
    obtain rfl : n = 0 := by have := hsl.1; simpa using this.symm
    go_enter Tryz.func35, Tryz.ntmps35
    go_wp2
    go_ret; exact ⟨rfl, Below.refl _ _⟩
  | cons c0 l =>
    have hln : l.length + 1 = n := by have := hsl.1; simpa using this
    have h0 : ((n : Int) == 0) = false := by rw [beq_eq_false_iff_ne]; omega
    by_cases hbig : (50 : Int) < n
    · have HV := Lib.hid (cc_large (l := c0 :: l) (by rw [hsl.1]; exact hbig))
      clear hln
      go_enter Tryz.func35, Tryz.ntmps35
      go_wp2
      go_ret; exact ⟨ret_int HV.out.symm, Below.refl _ _⟩
    have hbig' : ¬ (50 : Int) < (c0 :: l).length := by rw [hsl.1]; exact hbig
    obtain ⟨b, o, x0, rfl, hb, hx0, hxs0, d0⟩ := hsl.str (k := 0) (by omega)
    obtain rfl : c0 = x0 := by simpa using hx0
    clear hx0
    rw [Nat.add_zero] at d0
    have hbw : b < w.heap.size := hb
    have hnI : (0 : Int) < n := by omega
    have HL := Lib.hid hln; clear hln
    have HF := Lib.hid (fun w => act_formOf c0 w)
    cases hw : (c0 :: l).all isWordS
    · have HV := Lib.hid (cc_word hbig' hw)
      go_enter Tryz.func35, Tryz.ntmps35
      go_wp2_with (first
      | (go_at_call 72; refine (words_any' _ _ _ _ _ hsl).mono ?_; rintro e w1 ⟨rfl, hb1⟩; obtain ⟨hc1, hf1⟩ := bcell hb1)
      | (go_at_call 75; refine (HF.out _).mono ?_; rintro e w1' ⟨rfl, rfl⟩))
      go_ret; exact ⟨ret_int HV.out.symm, (by repeat (first | exact fr_refl _ | refine fr_call ?_ (by assumption) | refine fr_alloc ?_ _ | refine fr_set ?_ (by simp) _ | refine Below.drew ?_ | refine below_drewN ?_ _))⟩
    · rcases hk : formS c0.data.toList with _ | ⟨k, more⟩
      · have HV := Lib.hid (cc_kind hbig' hw hk)
        have he := formL_empty hk
        clear hk
        generalize (⟨(formL c0.data.toList).toArray⟩ : ByteArray) = fs at *
        go_enter Tryz.func35, Tryz.ntmps35
        go_wp2_with (first
        | (go_at_call 72; refine (words_any' _ _ _ _ _ hsl).mono ?_; rintro e w1 ⟨rfl, hb1⟩; obtain ⟨hc1, hf1⟩ := bcell hb1)
        | (go_at_call 75; refine (HF.out _).mono ?_; rintro e w1' ⟨rfl, rfl⟩))
        go_ret; exact ⟨ret_int HV.out.symm, (by repeat (first | exact fr_refl _ | refine fr_call ?_ (by assumption) | refine fr_alloc ?_ _ | refine fr_set ?_ (by simp) _ | refine Below.drew ?_ | refine below_drewN ?_ _))⟩
      · have HV := Lib.hid (cc_some hbig' hw hk)
        have he := formL_some hk
        have HFI := Lib.hid (form_is hk)
        have HFL := Lib.hid (show (⟨(formL c0.data.toList).toArray⟩ : ByteArray).data.toList = k ++ plusL more by rw [form_some hk])
        have HK := Lib.hid hk; clear hk
        generalize (⟨(formL c0.data.toList).toArray⟩ : ByteArray) = fs at *
        obtain ⟨A2, n2, c2, hs2, hnc2, hn2, hv2⟩ := tail_run hsl hnc hm
        have HH := Lib.hid (fun W (hb : Below w.heap.size w W) => act_hasForm A2 n2 c2 l k more fs W (hE.then_ hb) (sl_call hs2 hb (Nat.le_refl _)) HFI.out HFL.out (by omega))
        clear hnc2
        cases hh : hasFormS l k more
        · have HW := Lib.hid (show checkCommandS (c0 :: l) = 3 by rw [HV.out, hh]; rfl)
          rw [hh] at HH
          clear hn2 hs2
          go_enter Tryz.func35, Tryz.ntmps35
          go_wp2_with (first
          | (go_at_call 72; refine (words_any' _ _ _ _ _ hsl).mono ?_; rintro e w1 ⟨rfl, hb1⟩; obtain ⟨hc1, hf1⟩ := bcell hb1)
          | (go_at_call 75; refine (HF.out _).mono ?_; rintro e w1' ⟨rfl, rfl⟩))
          refine (HH.out _ (by repeat (first | exact fr_refl _ | refine fr_call ?_ (by assumption) | refine fr_alloc ?_ _ | refine fr_set ?_ (by simp) _ | refine Below.drew ?_ | refine below_drewN ?_ _))).mono ?_
          rintro e w2 ⟨rfl, hb2⟩
          go_wp2
          go_ret; exact ⟨ret_int HW.out.symm, (by repeat (first | exact fr_refl _ | refine fr_call ?_ (by assumption) | refine fr_alloc ?_ _ | refine fr_set ?_ (by simp) _ | refine Below.drew ?_ | refine below_drewN ?_ _))⟩
        · rw [hh] at HH
          have hct := HV.out
          rw [hh, Bool.true_and] at hct
          by_cases hfa : c0.toList = [102, 97, 105, 108]
          · have hkk := HK.out
            rw [form_fail (by rw [← Lib.toList_data]; exact hfa)] at hkk
            cases hkk
            have hl1 : 1 ≤ l.length := by
              cases l with
              | nil => revert hh; decide
              | cons a l => simp
            obtain ⟨b2, o2, x1, e2, hb2, hx1, hxs1, c1'⟩ := hsl.str (k := 1) (by have := HL.out; omega)
            cases e2
            have hx1' : l[0]? = some x1 := by simpa using hx1
            have hn1 : (1 : Int) < n := by have := HL.out; omega
            have hd := data_eq hfa
            by_cases hx0 : x1.toList = [48]
            · have HW := Lib.hid (show checkCommandS (c0 :: l) = 3 by
                rw [hct, cmdTail, hd, List.head?_eq_getElem?, hx1']
                have : (some (x1.data.toList) == some [48]) = true := by rw [← Lib.toList_data, hx0]; rfl
                simp [this])
              clear hx1 hx1' hd hct hh hs2
              go_enter Tryz.func35, Tryz.ntmps35
              go_wp2_with (first
              | (go_at_call 72; refine (words_any' _ _ _ _ _ hsl).mono ?_; rintro e w1 ⟨rfl, hb1⟩; obtain ⟨hc1, hf1⟩ := bcell hb1)
              | (go_at_call 75; refine (HF.out _).mono ?_; rintro e w1' ⟨rfl, rfl⟩))
              refine (HH.out _ (by repeat (first | exact fr_refl _ | refine fr_call ?_ (by assumption) | refine fr_alloc ?_ _ | refine fr_set ?_ (by simp) _ | refine Below.drew ?_ | refine below_drewN ?_ _))).mono ?_
              rintro e w2 ⟨rfl, hb2⟩
              have d2 : w2.cell? ⟨b, o, none⟩ = some (.string c0) := by rw [hb2.cell (by show b < _; have := hb1.size; omega), hb1.cell (by exact hbw)]; exact d0
              have d3 : w2.cell? ⟨b, o + 1, none⟩ = some (.string x1) := by rw [hb2.cell (by show b < _; have := hb1.size; omega), hb1.cell (by exact hbw)]; exact c1'
              clear hc1 hf1
              go_wp2
              go_ret; exact ⟨ret_int HW.out.symm, (by repeat (first | exact fr_refl _ | refine fr_call ?_ (by assumption) | refine fr_alloc ?_ _ | refine fr_set ?_ (by simp) _ | refine Below.drew ?_ | refine below_drewN ?_ _))⟩
            · have hx0b : (x1.toList == [48]) = false := by rw [beq_eq_false_iff_ne]; exact hx0
              have HW := Lib.hid (show checkCommandS (c0 :: l) = 0 by
                rw [hct, cmdTail, hd, List.head?_eq_getElem?, hx1']
                have : (some (x1.data.toList) == some [48]) = false := by rw [← Lib.toList_data, beq_eq_false_iff_ne]; simpa using hx0
                simp [this])
              clear hx1 hx1' hd hct hh hs2
              go_enter Tryz.func35, Tryz.ntmps35
              go_wp2_with (first
              | (go_at_call 72; refine (words_any' _ _ _ _ _ hsl).mono ?_; rintro e w1 ⟨rfl, hb1⟩; obtain ⟨hc1, hf1⟩ := bcell hb1)
              | (go_at_call 75; refine (HF.out _).mono ?_; rintro e w1' ⟨rfl, rfl⟩))
              refine (HH.out _ (by repeat (first | exact fr_refl _ | refine fr_call ?_ (by assumption) | refine fr_alloc ?_ _ | refine fr_set ?_ (by simp) _ | refine Below.drew ?_ | refine below_drewN ?_ _))).mono ?_
              rintro e w2 ⟨rfl, hb2⟩
              have d2 : w2.cell? ⟨b, o, none⟩ = some (.string c0) := by rw [hb2.cell (by show b < _; have := hb1.size; omega), hb1.cell (by exact hbw)]; exact d0
              have d3 : w2.cell? ⟨b, o + 1, none⟩ = some (.string x1) := by rw [hb2.cell (by show b < _; have := hb1.size; omega), hb1.cell (by exact hbw)]; exact c1'
              clear hc1 hf1
              go_wp2
              go_ret; exact ⟨ret_int HW.out.symm, (by repeat (first | exact fr_refl _ | refine fr_call ?_ (by assumption) | refine fr_alloc ?_ _ | refine fr_set ?_ (by simp) _ | refine Below.drew ?_ | refine below_drewN ?_ _))⟩
          · have HW := Lib.hid (show checkCommandS (c0 :: l) = 0 by rw [hct, cmdTail, data_ne hfa]; rfl)
            clear hct hh hs2
            go_enter Tryz.func35, Tryz.ntmps35
            go_wp2_with (first
            | (go_at_call 72; refine (words_any' _ _ _ _ _ hsl).mono ?_; rintro e w1 ⟨rfl, hb1⟩; obtain ⟨hc1, hf1⟩ := bcell hb1)
            | (go_at_call 75; refine (HF.out _).mono ?_; rintro e w1' ⟨rfl, rfl⟩))
            refine (HH.out _ (by repeat (first | exact fr_refl _ | refine fr_call ?_ (by assumption) | refine fr_alloc ?_ _ | refine fr_set ?_ (by simp) _ | refine Below.drew ?_ | refine below_drewN ?_ _))).mono ?_
            rintro e w2 ⟨rfl, hb2⟩
            have d2 : w2.cell? ⟨b, o, none⟩ = some (.string c0) := by rw [hb2.cell (by show b < _; have := hb1.size; omega), hb1.cell (by exact hbw)]; exact d0
            clear hc1 hf1
            go_wp2
            go_ret; exact ⟨ret_int HW.out.symm, (by repeat (first | exact fr_refl _ | refine fr_call ?_ (by assumption) | refine fr_alloc ?_ _ | refine fr_set ?_ (by simp) _ | refine Below.drew ?_ | refine below_drewN ?_ _))⟩

set_option maxHeartbeats 2000000 in
set_option maxRecDepth 100000 in
theorem ref5_checkCommand (A : Option Addr) (n c : Nat) (l : List ByteArray) (w : World) (hE : Env w) (hsl : Sl w (Lt w.heap.size) A n l) (hnc : n ≤ c) :
    Calls Tryz.prog 39 #[.slice A n c] w fun e w' => e = .returned (.int .i64 (checkCommandS l)) ∧ Below w.heap.size w w' := by
  have hm : n ≤ 9223372036854775807 := hsl.2.1
  cases l with
  | nil =>
    obtain rfl : n = 0 := by have := hsl.1; simpa using this.symm
    go_enter Tryz.func39, Tryz.ntmps39
    go_wp2
    go_ret; exact ⟨rfl, Below.refl _ _⟩
  | cons c0 l =>
    have hln : l.length + 1 = n := by have := hsl.1; simpa using this
    have h0 : ((n : Int) == 0) = false := by rw [beq_eq_false_iff_ne]; omega
    by_cases hbig : (50 : Int) < n
    · have HV := Lib.hid (cc_large (l := c0 :: l) (by rw [hsl.1]; exact hbig))
      clear hln
      go_enter Tryz.func39, Tryz.ntmps39
      go_wp2
      go_ret; exact ⟨ret_int HV.out.symm, Below.refl _ _⟩
    have HBG := Lib.hid (show ¬ (50 : Int) < (c0 :: l).length by rw [hsl.1]; exact hbig)
    obtain ⟨b, o, x0, rfl, hb, hx0, hxs0, d0⟩ := hsl.str (k := 0) (by omega)
    obtain rfl : c0 = x0 := by simpa using hx0
    clear hx0
    rw [Nat.add_zero] at d0
    have hnI : (0 : Int) < n := by omega
    have HL := Lib.hid hln; clear hln
    have HF := Lib.hid (fun w => ref5_form c0 w)
    have HFM := Lib.hid (fun k more (hk : formS c0.data.toList = some (k, more)) => ref5_formed b o n c c0 l k more w hE hsl hnc hk (by omega))
    go_enter Tryz.func39, Tryz.ntmps39
    go_wp2
    go_loop [3] (fun i => ∃ q : Nat, q ≤ n ∧ i = .int .i64 q ∧ ((c0 :: l).take q).all isWordS = true) (fun i => n - (intOf i).toNat)
    case atStart => exact ⟨0, Nat.zero_le _, rfl, rfl⟩
    case round =>
      obtain ⟨q, hq, rfl, hall⟩ := hrel
      have H := Lib.hid hall; clear hall
      by_cases hlt : q < n
      · obtain ⟨b2, o2, x, e2, hb2, hx, hxs, c0'⟩ := hsl.str hlt
        cases e2
        have Hx := Lib.hid hx; clear hx
        have HW := Lib.hid (isWord_eq x)
        cases g1 : withinB x.size 1 300
        · have HN := Lib.hid (show (c0 :: l).all isWordS = false from lall_no Hx.out (by rw [HW.out, g1]; rfl))
          go_wp2_with (first | (go_at_call 42; refine (ref5_within _ _ _ _).mono ?_; rintro e w1 ⟨rfl, rfl⟩))
          go_ret; exact ⟨ret_int (cc_word (Int.not_lt.2 HBG.out) HN.out).symm, Below.refl _ _⟩
        · cases g2 : x.data.toList.all (bytesInB 33 126)
          · have HN := Lib.hid (show (c0 :: l).all isWordS = false from lall_no Hx.out (by rw [HW.out, g2, Bool.and_false]))
            have HB := Lib.hid (ref5_bytesIn x 33 126 w hxs)
            rw [g2] at HB
            clear g2
            go_wp2_with (first | (go_at_call 42; refine (ref5_within _ _ _ _).mono ?_; rintro e w1 ⟨rfl, rfl⟩) | (go_at_call 82; refine HB.out.mono ?_; rintro e w1 ⟨rfl, rfl⟩))
            go_ret; exact ⟨ret_int (cc_word (Int.not_lt.2 HBG.out) HN.out).symm, Below.refl _ _⟩
          · have HN := Lib.hid (show ((c0 :: l).take (q + 1)).all isWordS = true from lall_step Hx.out H.out (by rw [HW.out, g1, g2]; rfl))
            have HB := Lib.hid (ref5_bytesIn x 33 126 w hxs)
            rw [g2] at HB
            clear g2
            go_wp2_with (first | (go_at_call 42; refine (ref5_within _ _ _ _).mono ?_; rintro e w1 ⟨rfl, rfl⟩) | (go_at_call 82; refine HB.out.mono ?_; rintro e w1 ⟨rfl, rfl⟩))
            go_round
            case rel => exact ⟨q + 1, by omega, by go_num, HN.out⟩
            case measure => simp [intOf]; omega
      · have HA := Lib.hid (show (c0 :: l).all isWordS = true from lall_end (by rw [hsl.1]; omega) H.out)
        rcases hk : formS c0.data.toList with _ | ⟨k, more⟩
        · have HV := Lib.hid (cc_kind (Int.not_lt.2 HBG.out) HA.out hk)
          rw [hk] at HF
          have HK := Lib.hid hk; clear hk
          go_wp2_with (first | (go_at_call 83; refine (HF.out _).mono ?_; rintro e w1 ⟨rfl, rfl⟩))
          go_ret; exact ⟨ret_int HV.out.symm, Below.refl _ _⟩
        · have HV := Lib.hid (cc_some (Int.not_lt.2 HBG.out) HA.out hk)
          have HM := Lib.hid (HFM.out k more hk)
          rw [hk] at HF
          have HK := Lib.hid hk; clear hk
          cases hh : (hasFormS l k more && cmdTail c0 l)
          all_goals
            rw [hh] at HM
            have HW := HV.out
            rw [hh] at HW
            have HX := Lib.hid HW; clear HW hh
            go_wp2_with (first | (go_at_call 83; refine (HF.out _).mono ?_; rintro e w1 ⟨rfl, rfl⟩) | (go_at_call 84; refine HM.out.mono ?_; rintro e w1 ⟨rfl, hb1⟩))
            go_ret; exact ⟨ret_int HX.out.symm, hb1⟩
end Go.Proofs.Sm

namespace Go.Proofs.Sm
open Go.RowKit

def unprinted (x : Nat) : Bool := !(decide (32 ≤ (x : Int)) && decide ((x : Int) ≤ 126))
theorem unprinted_big (x : Nat) (h : 127 ≤ x) : unprinted x = true := by
  simp only [unprinted, Bool.not_eq_true', Bool.and_eq_false_iff, decide_eq_false_iff_not]
  omega
theorem unprinted_pays (w : World) : PredGrows Tryz.prog 78 #[] unprinted w := by
  intro W x hx _
  show Calls Tryz.prog 78 #[.int .i32 (x : Int)] W _
  go_enter Tryz.func78, Tryz.ntmps78
  go_wp2
  all_goals (go_ret; refine ⟨ret_bool ?_, Below.refl _ _⟩; rw [Bool.eq_iff_iff]; simp [unprinted] <;> omega)
theorem printed_any (s : ByteArray) (w : World) : Calls Tryz.prog 62 #[.string s, .func (.func 78) #[] #[]] w fun e w' => e = .returned (.bool (!(s.data.toList.all (bytesInB 32 126)))) ∧ Below w.heap.size w w' :=
  (Tryz.strings_ContainsFunc_grows 78 #[] (enters_of Tryz.func78 (by kernel_rfl) rfl) unprinted s w (unprinted_pays w)).mono fun _ _ h => ⟨by
    rw [h.1, idxFunc_bytes unprinted unprinted_big, List.not_all_eq_any_not]; rfl, h.2⟩
section
variable {prev : Option ByteArray} {v : VarV}
theorem varErr_name (h : isNameS v.name = false) : varErr prev v = 5 := by rw [varErr, if_pos h]
theorem varErr_value (h : isNameS v.name = true) (h1 : (300 : Int) < v.value.size ∨ v.value.data.toList.all (bytesInB 32 126) = false) : varErr prev v = 3 := by
  rw [varErr, if_neg (by rw [h]; decide), if_pos]
  rcases h1 with h1 | h1
  · rw [decide_eq_true h1]; rfl
  · rw [h1]; simp
theorem varErr_rest (h : isNameS v.name = true) (h1 : ¬ (300 : Int) < v.value.size) (h2 : v.value.data.toList.all (bytesInB 32 126) = true) : varErr prev v = if notAfter prev v.name then 8 else 0 := by
  rw [varErr, if_neg (by rw [h]; decide), if_neg]
  rw [h2, decide_eq_false h1]; decide
end
theorem checkVars_large {l : List VarV} (h : (30 : Int) < l.length) : checkVarsS l = 2 := by rw [checkVarsS, if_pos h]
theorem checkVars_list {l : List VarV} (h : ¬ (30 : Int) < l.length) : checkVarsS l = listErr varErr VarV.name (ahead VarV.name l 0) (l.drop 0) := by rw [checkVarsS, if_neg h]; rfl

set_option maxHeartbeats 1000000 in
set_option maxRecDepth 100000 in
theorem act_checkVars (A : Option Addr) (n c : Nat) (l : List VarV) (w : World) (hsl : Sl w (Lt w.heap.size) A n l) : Calls Tryz.prog 36 #[.slice A n c] w fun e w' => e = .returned (.int .i64 (checkVarsS l)) ∧ Below w.heap.size w w' := by
  have hm : n ≤ 9223372036854775807 := hsl.2.1
  have HL := Lib.hid hsl.1
  by_cases hbig : (30 : Int) < n
  · have HV := Lib.hid (checkVars_large (l := l) (by rw [HL.out]; exact hbig))
    go_enter Tryz.func36, Tryz.ntmps36
    go_wp2
    go_ret; exact ⟨ret_int HV.out.symm, Below.refl _ _⟩
  have Hd := Lib.hid (checkVars_list (l := l) (by rw [HL.out]; exact hbig))
  go_enter Tryz.func36, Tryz.ntmps36
  go_wp2
  go_loopw [10] (fun i wr => ∃ k : Nat, k ≤ n ∧ i = .int .i64 k ∧ checkVarsS l = listErr varErr VarV.name (ahead VarV.name l k) (l.drop k) ∧ Below w.heap.size w wr) (fun i _ => n - (intOf i).toNat)
  case atStart => exact ⟨0, Nat.zero_le _, rfl, Hd.out, Below.refl _ _⟩
  case round =>
    obtain ⟨k, hk, rfl, hd, hbel⟩ := hrel
    have Hr := Lib.hid hd; clear hd
    by_cases hlt : k < n
    · obtain ⟨b, o, x, rfl, hb, hx, hs1, hs2, c0, c1⟩ := (hsl.keep (keep_lt hbel)).var hlt
      have hbw : b < wr.heap.size := Nat.lt_of_lt_of_le hb hbel.size
      have HX := Lib.hid hx; clear hx
      have HB := Lib.hid (fun w => printed_any x.value w)
      cases hp : isNameS x.name
      · have HV := Lib.hid (varErr_name (prev := ahead VarV.name l k) hp)
        go_wp2_with (first
        | (go_at_call 77; refine (script_IsName _ _ hs1).mono ?_; rintro e w1 ⟨rfl, hb1⟩; obtain ⟨hc1, hf1⟩ := bcell hb1; have hz1 := grew hb1)
        | (go_at_call 62; refine (HB.out _).mono ?_; rintro e w2 ⟨rfl, hb2⟩; obtain ⟨hc2, hf2⟩ := bcell hb2; have hz2 := hb2.size))
        go_ret
        exact ⟨ret_int (by rw [Hr.out]; exact (list_stop HX.out HV.out (by decide)).symm), (by repeat (first | exact fr_refl _ | refine fr_call ?_ (by assumption) | refine fr_alloc ?_ _ | refine fr_set ?_ (by simp) _ | refine Below.drew ?_ | refine below_drewN ?_ _))⟩
      by_cases hlg : (300 : Int) < x.value.size
      · have HV := Lib.hid (varErr_value (prev := ahead VarV.name l k) hp (.inl hlg))
        go_wp2_with (first
        | (go_at_call 77; refine (script_IsName _ _ hs1).mono ?_; rintro e w1 ⟨rfl, hb1⟩; obtain ⟨hc1, hf1⟩ := bcell hb1; have hz1 := grew hb1)
        | (go_at_call 62; refine (HB.out _).mono ?_; rintro e w2 ⟨rfl, hb2⟩; obtain ⟨hc2, hf2⟩ := bcell hb2; have hz2 := hb2.size))
        go_ret
        exact ⟨ret_int (by rw [Hr.out]; exact (list_stop HX.out HV.out (by decide)).symm), (by repeat (first | exact fr_refl _ | refine fr_call ?_ (by assumption) | refine fr_alloc ?_ _ | refine fr_set ?_ (by simp) _ | refine Below.drew ?_ | refine below_drewN ?_ _))⟩
      cases hv : x.value.data.toList.all (bytesInB 32 126)
      · have HV := Lib.hid (varErr_value (prev := ahead VarV.name l k) hp (.inr hv))
        rw [hv] at HB
        clear hv
        go_wp2_with (first
        | (go_at_call 77; refine (script_IsName _ _ hs1).mono ?_; rintro e w1 ⟨rfl, hb1⟩; obtain ⟨hc1, hf1⟩ := bcell hb1; have hz1 := grew hb1)
        | (go_at_call 62; refine (HB.out _).mono ?_; rintro e w2 ⟨rfl, hb2⟩; obtain ⟨hc2, hf2⟩ := bcell hb2; have hz2 := hb2.size))
        go_ret
        exact ⟨ret_int (by rw [Hr.out]; exact (list_stop HX.out HV.out (by decide)).symm), (by repeat (first | exact fr_refl _ | refine fr_call ?_ (by assumption) | refine fr_alloc ?_ _ | refine fr_set ?_ (by simp) _ | refine Below.drew ?_ | refine below_drewN ?_ _))⟩
      have HO := Lib.hid (varErr_rest (prev := ahead VarV.name l k) hp hlg hv)
      rw [hv] at HB
      clear hv
      by_cases hk0 : 0 < k
      · have hg : decide ((0 : Int) < (k : Int)) = true := by simpa using hk0
        obtain ⟨_, _, y, e0, _, hy, _, _, d0, _⟩ := (hsl.keep (keep_lt hbel)).var (k := k - 1) (by omega)
        cases e0
        have HA := Lib.hid (ahead_pos (f := VarV.name) hk0 hy); clear hy
        cases hle : leS x.name y.name
        · have HV := Lib.hid (show varErr (ahead VarV.name l k) x = 0 by rw [HO.out, HA.out]; simp [notAfter, hle])
          have hle' := leS_false hle
          go_wp2_with (first
          | (go_at_call 77; refine (script_IsName _ _ hs1).mono ?_; rintro e w1 ⟨rfl, hb1⟩; obtain ⟨hc1, hf1⟩ := bcell hb1; have hz1 := grew hb1)
          | (go_at_call 62; refine (HB.out _).mono ?_; rintro e w2 ⟨rfl, hb2⟩; obtain ⟨hc2, hf2⟩ := bcell hb2; have hz2 := hb2.size))
          have d1 : w2.cell? ⟨b, o + (k - 1) * 2, none⟩ = some (.string y.name) := by rw [hb2.cell (by show b < _; omega), hb1.cell (by show b < _; simp; omega), World.cell?_alloc_lt _ _ _ (by exact hbw)]; exact d0
          have g1 := IntWalk.i64_in ((k : Int) - 1) ⟨by omega, by omega⟩; have g2 : ((k : Int) - 1).toNat = k - 1 := (by omega); have g3 : (0 : Int) ≤ (k : Int) - 1 := (by omega); have g4 : (k : Int) - 1 < n := (by omega)
          go_quiet (fail)
          clear g1 g2 g3 g4
          go_wp2
          go_round
          case rel => exact ⟨k + 1, by omega, by go_num, by rw [Hr.out]; exact list_round HX.out HV.out, (by repeat (first | exact fr_refl _ | refine fr_call ?_ (by assumption) | refine fr_alloc ?_ _ | refine fr_set ?_ (by simp) _ | refine Below.drew ?_ | refine below_drewN ?_ _))⟩
          case measure => simp [intOf]; omega
        · have HV := Lib.hid (show varErr (ahead VarV.name l k) x = 8 by rw [HO.out, HA.out]; simp [notAfter, hle])
          have hle' := leS_true hle
          go_wp2_with (first
          | (go_at_call 77; refine (script_IsName _ _ hs1).mono ?_; rintro e w1 ⟨rfl, hb1⟩; obtain ⟨hc1, hf1⟩ := bcell hb1; have hz1 := grew hb1)
          | (go_at_call 62; refine (HB.out _).mono ?_; rintro e w2 ⟨rfl, hb2⟩; obtain ⟨hc2, hf2⟩ := bcell hb2; have hz2 := hb2.size))
          have d1 : w2.cell? ⟨b, o + (k - 1) * 2, none⟩ = some (.string y.name) := by rw [hb2.cell (by show b < _; omega), hb1.cell (by show b < _; simp; omega), World.cell?_alloc_lt _ _ _ (by exact hbw)]; exact d0
          have g1 := IntWalk.i64_in ((k : Int) - 1) ⟨by omega, by omega⟩; have g2 : ((k : Int) - 1).toNat = k - 1 := (by omega); have g3 : (0 : Int) ≤ (k : Int) - 1 := (by omega); have g4 : (k : Int) - 1 < n := (by omega)
          go_quiet (fail)
          clear g1 g2 g3 g4
          go_wp2
          go_ret
          exact ⟨ret_int (by rw [Hr.out]; exact (list_stop HX.out HV.out (by decide)).symm), (by repeat (first | exact fr_refl _ | refine fr_call ?_ (by assumption) | refine fr_alloc ?_ _ | refine fr_set ?_ (by simp) _ | refine Below.drew ?_ | refine below_drewN ?_ _))⟩
      · have hg : decide ((0 : Int) < (k : Int)) = false := by simpa using hk0
        have HV := Lib.hid (show varErr (ahead VarV.name l k) x = 0 by rw [HO.out, show ahead VarV.name l k = none by simp [ahead]; omega]; rfl)
        go_wp2_with (first
        | (go_at_call 77; refine (script_IsName _ _ hs1).mono ?_; rintro e w1 ⟨rfl, hb1⟩; obtain ⟨hc1, hf1⟩ := bcell hb1; have hz1 := grew hb1)
        | (go_at_call 62; refine (HB.out _).mono ?_; rintro e w2 ⟨rfl, hb2⟩; obtain ⟨hc2, hf2⟩ := bcell hb2; have hz2 := hb2.size))
        go_quiet (fail)
        go_wp2
        go_round
        case rel => exact ⟨k + 1, by omega, by go_num, by rw [Hr.out]; exact list_round HX.out HV.out, (by repeat (first | exact fr_refl _ | refine fr_call ?_ (by assumption) | refine fr_alloc ?_ _ | refine fr_set ?_ (by simp) _ | refine Below.drew ?_ | refine below_drewN ?_ _))⟩
        case measure => simp [intOf]; omega
    · go_wp2
      go_ret
      exact ⟨ret_int (by rw [Hr.out, list_end (by rw [hsl.1]; omega)]), hbel⟩
set_option maxHeartbeats 1000000 in
set_option maxRecDepth 100000 in
theorem ref5_checkVars (A : Option Addr) (n c : Nat) (l : List VarV) (w : World) (hsl : Sl w (Lt w.heap.size) A n l) : Calls Tryz.prog 40 #[.slice A n c] w fun e w' => e = .returned (.int .i64 (checkVarsS l)) ∧ Below w.heap.size w w' := by
  have hm : n ≤ 9223372036854775807 := hsl.2.1
  have HL := Lib.hid hsl.1
  by_cases hbig : (30 : Int) < n
  · have HV := Lib.hid (checkVars_large (l := l) (by rw [HL.out]; exact hbig))
    go_enter Tryz.func40, Tryz.ntmps40
    go_wp2
    go_ret; exact ⟨ret_int HV.out.symm, Below.refl _ _⟩
  have Hd := Lib.hid (checkVars_list (l := l) (by rw [HL.out]; exact hbig))
  go_enter Tryz.func40, Tryz.ntmps40
  go_wp2
  go_loopw [3] (fun i wr => ∃ k : Nat, k ≤ n ∧ i = .int .i64 k ∧ checkVarsS l = listErr varErr VarV.name (ahead VarV.name l k) (l.drop k) ∧ Below w.heap.size w wr) (fun i _ => n - (intOf i).toNat)
  case atStart => exact ⟨0, Nat.zero_le _, rfl, Hd.out, Below.refl _ _⟩
  case round =>
    obtain ⟨k, hk, rfl, hd, hbel⟩ := hrel
    have Hr := Lib.hid hd; clear hd
    by_cases hlt : k < n
    · obtain ⟨b, o, x, rfl, hb, hx, hs1, hs2, c0, c1⟩ := (hsl.keep (keep_lt hbel)).var hlt
      have hbw : b < wr.heap.size := Nat.lt_of_lt_of_le hb hbel.size
      have HX := Lib.hid hx; clear hx
      have HB := Lib.hid (fun w => ref5_bytesIn x.value 32 126 w hs2)
      cases hp : isNameS x.name
      · have HV := Lib.hid (varErr_name (prev := ahead VarV.name l k) hp)
        go_wp2_with (first
        | (go_at_call 85; refine (ref4_IsName _ _ hs1).mono ?_; rintro e w1 ⟨rfl, rfl⟩)
        | (go_at_call 82; refine (HB.out _).mono ?_; rintro e w2 ⟨rfl, rfl⟩))
        go_ret
        exact ⟨ret_int (by rw [Hr.out]; exact (list_stop HX.out HV.out (by decide)).symm), (by repeat (first | exact fr_refl _ | refine fr_call ?_ (by assumption) | refine fr_alloc ?_ _ | refine fr_set ?_ (by simp) _ | refine Below.drew ?_ | refine below_drewN ?_ _))⟩
      by_cases hlg : (300 : Int) < x.value.size
      · have HV := Lib.hid (varErr_value (prev := ahead VarV.name l k) hp (.inl hlg))
        go_wp2_with (first
        | (go_at_call 85; refine (ref4_IsName _ _ hs1).mono ?_; rintro e w1 ⟨rfl, rfl⟩)
        | (go_at_call 82; refine (HB.out _).mono ?_; rintro e w2 ⟨rfl, rfl⟩))
        go_ret
        exact ⟨ret_int (by rw [Hr.out]; exact (list_stop HX.out HV.out (by decide)).symm), hbel⟩
      cases hv : x.value.data.toList.all (bytesInB 32 126)
      · have HV := Lib.hid (varErr_value (prev := ahead VarV.name l k) hp (.inr hv))
        rw [hv] at HB
        clear hv
        go_wp2_with (first
        | (go_at_call 85; refine (ref4_IsName _ _ hs1).mono ?_; rintro e w1 ⟨rfl, rfl⟩)
        | (go_at_call 82; refine (HB.out _).mono ?_; rintro e w2 ⟨rfl, rfl⟩))
        go_ret
        exact ⟨ret_int (by rw [Hr.out]; exact (list_stop HX.out HV.out (by decide)).symm), hbel⟩
      have HO := Lib.hid (varErr_rest (prev := ahead VarV.name l k) hp hlg hv)
      rw [hv] at HB
      clear hv
      by_cases hk0 : 0 < k
      · have hg : decide ((0 : Int) < (k : Int)) = true := by simpa using hk0
        obtain ⟨_, _, y, e0, _, hy, _, _, d0, _⟩ := (hsl.keep (keep_lt hbel)).var (k := k - 1) (by omega)
        cases e0
        have HA := Lib.hid (ahead_pos (f := VarV.name) hk0 hy); clear hy
        cases hle : leS x.name y.name
        · have HV := Lib.hid (show varErr (ahead VarV.name l k) x = 0 by rw [HO.out, HA.out]; simp [notAfter, hle])
          have hle' := leS_false hle
          go_wp2_with (first
          | (go_at_call 85; refine (ref4_IsName _ _ hs1).mono ?_; rintro e w1 ⟨rfl, rfl⟩)
          | (go_at_call 82; refine (HB.out _).mono ?_; rintro e w2 ⟨rfl, rfl⟩))
          have g1 := IntWalk.i64_in ((k : Int) - 1) ⟨by omega, by omega⟩; have g2 : ((k : Int) - 1).toNat = k - 1 := (by omega); have g3 : (0 : Int) ≤ (k : Int) - 1 := (by omega); have g4 : (k : Int) - 1 < n := (by omega)
          go_quiet (fail)
          clear g1 g2 g3 g4
          go_wp2
          go_round
          case rel => exact ⟨k + 1, by omega, by go_num, by rw [Hr.out]; exact list_round HX.out HV.out, below_drewN hbel _⟩
          case measure => simp [intOf]; omega
        · have HV := Lib.hid (show varErr (ahead VarV.name l k) x = 8 by rw [HO.out, HA.out]; simp [notAfter, hle])
          have hle' := leS_true hle
          go_wp2_with (first
          | (go_at_call 85; refine (ref4_IsName _ _ hs1).mono ?_; rintro e w1 ⟨rfl, rfl⟩)
          | (go_at_call 82; refine (HB.out _).mono ?_; rintro e w2 ⟨rfl, rfl⟩))
          have g1 := IntWalk.i64_in ((k : Int) - 1) ⟨by omega, by omega⟩; have g2 : ((k : Int) - 1).toNat = k - 1 := (by omega); have g3 : (0 : Int) ≤ (k : Int) - 1 := (by omega); have g4 : (k : Int) - 1 < n := (by omega)
          go_quiet (fail)
          clear g1 g2 g3 g4
          go_wp2
          go_ret
          exact ⟨ret_int (by rw [Hr.out]; exact (list_stop HX.out HV.out (by decide)).symm), below_drewN hbel _⟩
      · have hg : decide ((0 : Int) < (k : Int)) = false := by simpa using hk0
        have HV := Lib.hid (show varErr (ahead VarV.name l k) x = 0 by rw [HO.out, show ahead VarV.name l k = none by simp [ahead]; omega]; rfl)
        go_wp2_with (first
        | (go_at_call 85; refine (ref4_IsName _ _ hs1).mono ?_; rintro e w1 ⟨rfl, rfl⟩)
        | (go_at_call 82; refine (HB.out _).mono ?_; rintro e w2 ⟨rfl, rfl⟩))
        go_quiet (fail)
        go_wp2
        go_round
        case rel => exact ⟨k + 1, by omega, by go_num, by rw [Hr.out]; exact list_round HX.out HV.out, below_drewN hbel _⟩
        case measure => simp [intOf]; omega
    · go_wp2
      go_ret
      exact ⟨ret_int (by rw [Hr.out, list_end (by rw [hsl.1]; omega)]), hbel⟩
end Go.Proofs.Sm

namespace Go.Proofs.Sm
open Go.RowKit

theorem path_size {s : ByteArray} (h : isPathS s = true) : s.size ≤ 200 := by
  have := (withinB_true ((Bool.and_eq_true_iff.1 h).1)).2
  omega
theorem looksErr_all {l : List Look} : ∀ prev, looksErr prev l = 0 → ∀ x ∈ l, ∃ q, lookErr q x = 0 := by
  induction l with
  | nil => intro _ _ x hx; simp at hx
  | cons a l ih =>
    intro prev h x hx
    rw [looksErr] at h
    split at h
    · rename_i h0
      rcases List.mem_cons.1 hx with rfl | hx
      · exact ⟨_, h0⟩
      · exact ih _ h x hx
    · exact absurd h ‹_›
theorem lookErr_zero {q : Option ByteArray} {x : Look} (h : lookErr q x = 0) : isPathS x.path = true ∧ (x.digest.toList.isEmpty = true ∨ isDigestS x.digest = true) ∧ (x.digest.toList.isEmpty = true → x.run = false) := by
  unfold lookErr at h
  split at h
  · omega
  · split at h
    · omega
    · split at h
      · omega
      · rename_i h1 h2 h3
        refine ⟨by simpa using h1, ?_, fun he => ?_⟩
        · cases he : x.digest.toList.isEmpty
          · right
            cases hd : isDigestS x.digest
            · rw [he, hd] at h2; simp at h2
            · rfl
          · left; rfl
        · cases hr : x.run
          · rfl
          · rw [he, hr] at h3
            simp at h3
theorem looks_all {l : List Look} (h : checkLooksS l = 0) : ∀ x ∈ l, isPathS x.path = true ∧ (x.digest.toList.isEmpty = true ∨ isDigestS x.digest = true) ∧ (x.digest.toList.isEmpty = true → x.run = false) := by
  unfold checkLooksS at h
  split at h
  · omega
  · intro x hx
    obtain ⟨q, hq⟩ := looksErr_all _ h x hx
    exact lookErr_zero hq
theorem digest_size {s : ByteArray} (h : s.toList.isEmpty = true ∨ isDigestS s = true) : s.size ≤ 16 := by
  rcases h with h | h
  · rw [Lib.toList_data, List.isEmpty_iff] at h
    have := congrArg List.length h
    simp at this
    simp [ByteArray.size, this]
  · have := (Bool.and_eq_true_iff.1 h).2
    simp at this
    omega
theorem looks_sizes {l : List Look} (h : checkLooksS l = 0) : ∀ x ∈ l, x.path.size ≤ 200 ∧ x.digest.size ≤ 16 := fun x hx =>
  ⟨path_size (looks_all h x hx).1, digest_size (looks_all h x hx).2.1⟩
theorem checkFiles_err {l : List FileV} (h : checkFilesS l = 0) : l.length ≤ 1000 ∧ filesErr none l = 0 ∧ l.any (fun x => clashS l x.path) = false ∧ totalS l ≤ 2000000 := by
  unfold checkFilesS at h
  split at h
  · omega
  · split at h
    · rename_i h1; exact absurd h h1
    · split at h
      · omega
      · split at h
        · omega
        · rename_i h1 h2 h3 h4
          refine ⟨by omega, by simpa using h2, by simpa using h3, by omega⟩
theorem files_sizes {l : List FileV} (h : checkFilesS l = 0) : ∀ x ∈ l, x.path.size ≤ 200 ∧ x.bytes.length ≤ 100000 := by
  intro x hx
  obtain ⟨i, hi⟩ := List.getElem?_of_mem hx
  have := filesErr_step none (checkFiles_err h).2.1 i x hi
  exact ⟨path_size this.2.1, this.2.2⟩
structure ResOk (r : ResultV) : Prop where
  code : 0 ≤ r.code ∧ r.code ≤ 999999
  command : 0 ≤ r.command ∧ r.command ≤ 50
  text : r.text.size ≤ 100000
  told : isTextS r.text = true
  files : checkFilesS r.files = 0
  none : r.code ≠ 0 → r.files = []
  looks : checkLooksS r.looks = 0
theorem checkResult_ok {r : ResultV} (h : checkResultS r = 0) : ResOk r := by
  unfold checkResultS at h
  split at h
  · omega
  · split at h
    · omega
    · split at h
      · omega
      · split at h
        · rename_i h1; exact absurd h h1
        · split at h
          · omega
          · rename_i h1 h2 h3 h4 h5
            simp only [Bool.not_eq_false, Bool.and_eq_true] at h1
            have h6 := withinB_true h1.1
            have h7 := withinB_true h1.2
            refine ⟨h6, h7, by omega, by simpa using h3, by simpa using h4, fun hc => ?_, h⟩
            cases hf : r.files with
            | nil => rfl
            | cons a l => rw [hf] at h5; simp at h5; exact absurd h5 hc
theorem itoa_short (n : Nat) (h : n ≤ 9223372036854775807) : (Lib.itoa n).length ≤ 21 := Lib.itoa_length_le n (by omega) (by omega)
theorem fileHead_length (x : FileV) (h1 : x.path.size ≤ 200) (h2 : x.bytes.length ≤ 100000) : (fileHeadS x).length ≤ 240 := by
  have h3 := itoa_short x.bytes.length (by omega)
  have h4 : (signB x.run).length = 1 := by cases x.run <;> rfl
  have h5 : x.path.data.toList.length = x.path.size := by simp
  simp only [fileHeadS, List.length_append, List.length_cons, List.length_nil, h4, h5]
  omega
theorem fileText_length (x : FileV) (h1 : x.path.size ≤ 200) (h2 : x.bytes.length ≤ 100000) : (fileTextS x).length ≤ 100300 := by
  have := fileHead_length x h1 h2
  simp only [fileTextS, List.length_append, List.length_cons, List.length_nil]
  omega
theorem lookLine_length (x : Look) (h1 : x.path.size ≤ 200) (h2 : x.digest.size ≤ 16) : (lookLineS x).length ≤ 230 := by
  have h4 : (signB x.run).length = 1 := by cases x.run <;> rfl
  have h5 : x.path.data.toList.length = x.path.size := by simp
  have h6 : (digestOr x.digest).length ≤ 16 := by
    unfold digestOr
    split
    · simp
    · have : x.digest.data.toList.length = x.digest.size := by simp
      omega
  simp only [lookLineS, List.length_append, List.length_cons, List.length_nil, h4, h5]
  omega
theorem flatMap_length {α : Type} {f : α → List UInt8} {m : Nat} : ∀ {l : List α}, (∀ x ∈ l, (f x).length ≤ m) → (l.flatMap f).length ≤ m * l.length
  | [], _ => by simp
  | a :: l, h => by
    have h1 := h a (by simp)
    have h2 := flatMap_length (l := l) (fun x hx => h x (by simp [hx]))
    simp only [List.flatMap_cons, List.length_append, List.length_cons, Nat.mul_succ]
    omega
theorem files_length {r : ResultV} (h : ResOk r) (k : Nat) : ((r.files.take k).flatMap fileTextS).length ≤ 100300000 := by
  have h1 := (checkFiles_err h.files).1
  have h2 := flatMap_length (f := fileTextS) (m := 100300) (l := r.files.take k) (fun x hx => by
    have := files_sizes h.files x (List.mem_of_mem_take hx)
    exact fileText_length x this.1 this.2)
  have h3 : (r.files.take k).length ≤ 1000 := by rw [List.length_take]; omega
  have : 100300 * (r.files.take k).length ≤ 100300 * 1000 := Nat.mul_le_mul_left _ h3
  omega
theorem looks_length {r : ResultV} (h : ResOk r) (k : Nat) : ((r.looks.take k).flatMap lookLineS).length ≤ 920000 := by
  have h1 : r.looks.length ≤ 4000 := by
    have := h.looks
    unfold checkLooksS at this
    split at this
    · omega
    · omega
  have h2 := flatMap_length (f := lookLineS) (m := 230) (l := r.looks.take k) (fun x hx => by
    have := looks_sizes h.looks x (List.mem_of_mem_take hx)
    exact lookLine_length x this.1 this.2)
  have h3 : (r.looks.take k).length ≤ 4000 := by rw [List.length_take]; omega
  have : 230 * (r.looks.take k).length ≤ 230 * 4000 := Nat.mul_le_mul_left _ h3
  omega
theorem head_length {r : ResultV} (h : ResOk r) : (headTextS r).length ≤ 100100 := by
  have h1 := Lib.itoa_length_le r.code (by have := h.code; omega) (by have := h.code; omega)
  have h2 := Lib.itoa_length_le r.command (by have := h.command; omega) (by have := h.command; omega)
  have h3 := itoa_short r.text.size (by have := h.text; omega)
  have h4 : r.text.data.toList.length = r.text.size := by simp
  have h5 := h.text
  simp only [headTextS, List.length_append, List.length_cons, List.length_nil, h4]
  omega
theorem flatMap_succ {α : Type} {f : α → List UInt8} {l : List α} {k : Nat} {x : α} (hx : l[k]? = some x) : (l.take (k + 1)).flatMap f = (l.take k).flatMap f ++ f x := by
  rw [List.take_add_one, hx, List.flatMap_append]
  simp
end Go.Proofs.Sm
