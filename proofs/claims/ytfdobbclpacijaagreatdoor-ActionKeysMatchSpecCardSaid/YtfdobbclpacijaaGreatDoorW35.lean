/- Walks: commands are validated. -/
import Derived.Test.YtfdobbclpacijaaGreatDoorW34
namespace Go.Proofs.Sm
open Go.RowKit

theorem cutPlus {k : List UInt8} {more : Bool} (hf : FormIs k more) (f : ByteArray) (h : f.data.toList = k ++ plusL more) (kb : ByteArray) (hk : kb.data.toList = k) (w : World) :
    Calls Tryz.prog 173 #[.string f, .string ⟨#[43]⟩] w fun e w' => e = .returned (.tuple #[.string kb, .bool more]) ∧ w = w' := by
  have hfs : f.size ≤ 9223372036854775807 := by
    have e : f.data.toList.length = f.size := by simp
    rw [← e, h, List.length_append]
    have := hf.2.2.2
    have : (plusL more).length ≤ 1 := by cases more <;> decide
    omega
  refine (Tryz.strings_CutSuffix f ⟨#[43]⟩ w hfs).mono fun e w' ⟨h1, h2⟩ => ⟨?_, h2.symm⟩
  rw [h1, h]
  have e43 : (⟨#[43]⟩ : ByteArray).data.toList = [43] := rfl
  rw [e43, hf.1, hf.2.1]
  exact ret_pair (congrArg Value.string (bytes_ext (by rw [hk]))) rfl
theorem sl_tail {w : World} {S : Nat → Prop} {b o n : Nat} {x : ByteArray} {l : List ByteArray} (h : Sl w S (some ⟨b, o, none⟩) n (x :: l)) : Sl w S (some ⟨b, o + 1, none⟩) (n - 1) l := by
  have h1 := h.1
  simp at h1
  refine ⟨by omega, by have := h.2.1; omega, fun hn => ?_⟩
  obtain ⟨b', o', e, hb, hc⟩ := h.2.2 (by omega)
  cases e
  refine ⟨b, o + 1, rfl, hb, fun i y hy => ?_⟩
  obtain ⟨vs, hr, ha⟩ := hc (i + 1) y (by simpa using hy)
  refine ⟨vs, hr, ?_⟩
  have e2 : o + 1 + i * Rep.sz ByteArray = o + (i + 1) * Rep.sz ByteArray := by simp [Rep.sz]; omega
  rw [e2]; exact ha
theorem hasForm_lens {k : List UInt8} {l : List ByteArray} {more : Bool} (h : l.length < k.length ∨ (k.length < l.length ∧ more = false)) : hasFormS l k more = false := by
  refine hasForm_len ?_
  rcases h with h | ⟨h, h2⟩
  · rw [decide_eq_false (by omega)]; rfl
  · rw [h2, decide_eq_false (by omega : ¬ l.length ≤ k.length)]; simp
theorem hasForm_fits {k : List UInt8} {l : List ByteArray} {more : Bool} (h : k.length ≤ l.length ∧ (l.length ≤ k.length ∨ more = true)) : hasFormS l k more = wordsFit k 0 l := by
  refine hasForm_fit ?_
  rw [decide_eq_true h.1]
  rcases h.2 with h | h
  · rw [decide_eq_true h]; rfl
  · rw [h]; simp

set_option maxHeartbeats 1000000 in
set_option maxRecDepth 100000 in
theorem act_hasForm (A : Option Addr) (n c : Nat) (l : List ByteArray) (k : List UInt8) (more : Bool) (f : ByteArray) (w : World) (hE : Env w) (hsl : Sl w (Lt w.heap.size) A n l) (hf : FormIs k more) (hfl : f.data.toList = k ++ plusL more) (hn : n ≤ 1000) :
    Calls Tryz.prog 125 #[.slice A n c, .string f] w fun e w' => e = .returned (.bool (hasFormS l k more)) ∧ Below w.heap.size w w' := by
  obtain ⟨kb, hkb⟩ : ∃ kb : ByteArray, kb.data.toList = k := ⟨⟨k.toArray⟩, by simp⟩
  have HC := Lib.hid (fun w => cutPlus hf f hfl kb hkb w)
  have hks : kb.size = k.length := by rw [← hkb]; simp
  have hk1 : 1 ≤ kb.size := by rw [hks]; exact hf.2.2.1
  have hk4 : kb.size ≤ 4 := by rw [hks]; exact hf.2.2.2
  have HB := Lib.hid hkb; clear hkb hfl hf
  have HKS := Lib.hid hks; clear hks
  have hln := hsl.1
  by_cases hlen : n < kb.size ∨ (kb.size < n ∧ more = false)
  · have HV := Lib.hid (show hasFormS l k more = false from hasForm_lens (by rw [hln, ← HKS.out]; exact hlen))
    clear hln
    rcases hlen with h1 | ⟨h1, rfl⟩
    · go_enter Tryz.func125, Tryz.ntmps125
      go_wp2_with (go_at_call 173; refine (HC.out _).mono ?_; rintro e w1 ⟨rfl, rfl⟩)
      go_ret; exact ⟨ret_bool HV.out.symm, Below.refl _ _⟩
    · go_enter Tryz.func125, Tryz.ntmps125
      go_wp2_with (go_at_call 173; refine (HC.out _).mono ?_; rintro e w1 ⟨rfl, rfl⟩)
      go_ret; exact ⟨ret_bool HV.out.symm, Below.refl _ _⟩
  · have h1 : kb.size ≤ n := by omega
    have h2 : n ≤ kb.size ∨ more = true := by
      by_cases h : n ≤ kb.size
      · exact .inl h
      · right
        cases more
        · exact absurd (.inr ⟨by omega, rfl⟩) hlen
        · rfl
    have HV := Lib.hid (show hasFormS l k more = wordsFit k 0 l from hasForm_fits (by rw [hln, ← HKS.out]; exact ⟨h1, h2⟩))
    have HL := Lib.hid hln; clear hln hlen
    have h3 : n ≤ kb.size ∨ (kb.size < n ∧ more = true) := by
      by_cases h : n ≤ kb.size
      · exact .inl h
      · exact .inr ⟨by omega, h2.resolve_left h⟩
    clear h2
    have hm : n ≤ 9223372036854775807 := hsl.2.1
    have t1 : decide (n < kb.size) = false := decide_eq_false (by omega)
    have t2 : (n ≤ kb.size ∧ decide (kb.size < n) = false) ∨ (more = true ∧ decide (kb.size < n) = true) := by
      rcases h3 with h3 | ⟨h3, h4⟩
      · exact .inl ⟨h3, decide_eq_false (by omega)⟩
      · exact .inr ⟨h4, decide_eq_true h3⟩
    clear h3
    rcases t2 with ⟨h3, t2⟩ | ⟨rfl, t2⟩
    all_goals
      go_enter Tryz.func125, Tryz.ntmps125
      go_wp2_with (go_at_call 173; refine (HC.out _).mono ?_; rintro e w1 ⟨rfl, rfl⟩)
      go_loopw [6, 7, 31] (fun _ _ i wr => ∃ q : Nat, q ≤ n ∧ i = .int .i64 q ∧ wordsFit k 0 l = wordsFit k q (l.drop q) ∧ Below w.heap.size w wr) (fun _ _ i _ => n - (intOf i).toNat)
      case atStart => exact ⟨0, Nat.zero_le _, rfl, rfl, Below.refl _ _⟩
      case round =>
        obtain ⟨q, hq, rfl, hd, hbel⟩ := hrel
        have Hr := Lib.hid hd; clear hd
        by_cases hlt : q < n
        · obtain ⟨b, o, x, rfl, hb, hx, hxs, c0⟩ := (hsl.keep (keep_lt hbel)).str hlt
          have Hx := Lib.hid hx; clear hx
          have hEr := hE.then_ hbel
          obtain ⟨j, hj1, hj2⟩ : ∃ j : Nat, min (q : Int) ((kb.size : Int) - 1) = (j : Int) ∧ j = min q (kb.size - 1) := ⟨_, by omega, rfl⟩
          have hj3 : j < kb.size := by omega
          have HJ := Lib.hid hj2; clear hj2
          have HF := Lib.hid (show fitsS (k.getD (min q (k.length - 1)) 0) x = fitsS kb[j] x by
            rw [← HKS.out, ← HJ.out, List.getD, ← HB.out, byte_at kb j hj3]; rfl)
          cases g1 : ((kb[j].toNat : Int) == 112)
          · cases g2 : ((kb[j].toNat : Int) == 110)
            · have HT := Lib.hid (wordsFit_step (k := k) Hx.out (by
                rw [HF.out, fitsS, if_neg, if_neg]
                · intro e; rw [e] at g2; revert g2; decide
                · intro e; rw [e] at g1; revert g1; decide))
              go_wp2
              go_round
              case rel => exact ⟨q + 1, by omega, by go_num, by rw [Hr.out, HT.out], hbel⟩
              case measure => simp [intOf]; omega
            · have e110 : kb[j] = 110 := by
                apply UInt8.toNat_inj.1
                have : (110 : UInt8).toNat = 110 := rfl
                rw [beq_iff_eq] at g2
                omega
              have HG := Lib.hid (show fitsS kb[j] x = isNumberS x 6 by rw [e110]; rfl)
              clear e110
              cases gv : isNumberS x 6
              · have HT := Lib.hid (wordsFit_no (k := k) Hx.out (by rw [HF.out, HG.out, gv]))
                go_wp2_with (go_at_call 117; refine (act_isNumber _ _ _ hxs).mono ?_; rintro e w1 ⟨rfl, hb1⟩)
                go_ret
                exact ⟨ret_bool (by rw [HV.out, Hr.out, HT.out]), fr_call hbel hb1⟩
              · have HT := Lib.hid (wordsFit_step (k := k) Hx.out (by rw [HF.out, HG.out, gv]))
                go_wp2_with (go_at_call 117; refine (act_isNumber _ _ _ hxs).mono ?_; rintro e w1 ⟨rfl, hb1⟩)
                go_round
                case rel => exact ⟨q + 1, by omega, by go_num, by rw [Hr.out, HT.out], fr_call hbel hb1⟩
                case measure => simp [intOf]; omega
          · have e112 : kb[j] = 112 := by
              apply UInt8.toNat_inj.1
              have : (112 : UInt8).toNat = 112 := rfl
              rw [beq_iff_eq] at g1
              omega
            have HG := Lib.hid (show fitsS kb[j] x = isPathS x by rw [e112]; rfl)
            clear e112
            cases gv : isPathS x
            · have HT := Lib.hid (wordsFit_no (k := k) Hx.out (by rw [HF.out, HG.out, gv]))
              go_wp2_with (go_at_call 128; refine (blob_IsPath _ _ hEr).mono ?_; rintro e w1 ⟨rfl, hb1⟩)
              go_ret
              exact ⟨ret_bool (by rw [HV.out, Hr.out, HT.out]), fr_call hbel hb1⟩
            · have HT := Lib.hid (wordsFit_step (k := k) Hx.out (by rw [HF.out, HG.out, gv]))
              go_wp2_with (go_at_call 128; refine (blob_IsPath _ _ hEr).mono ?_; rintro e w1 ⟨rfl, hb1⟩)
              go_round
              case rel => exact ⟨q + 1, by omega, by go_num, by rw [Hr.out, HT.out], fr_call hbel hb1⟩
              case measure => simp [intOf]; omega
        · have HT := Lib.hid (wordsFit_end (k := k) (l := l) (i := q) (by rw [hsl.1]; omega))
          go_wp2
          go_ret
          exact ⟨ret_bool (by rw [HV.out, Hr.out, HT.out]), hbel⟩
end Go.Proofs.Sm
