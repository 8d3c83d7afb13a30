/- Walks: outputs are validated. -/
import Derived.Test.YtogjdgpghpkgmaaGreatDoorH10x3
import Derived.Test.YtogjdgpghpkgmaaGreatDoorH10x2
namespace Go.Proofs.Sm
open Go.RowKit

section
variable {c0 : ByteArray} {l : List ByteArray} {k : List UInt8} {more : Bool}
theorem cc_large {l : List ByteArray} (h : (50 : Int) < l.length) : checkCommandS l = 2 := by unfold checkCommandS; rw [if_pos h]
theorem cc_some (h : ¬ (50 : Int) < (c0 :: l).length) (hw : (c0 :: l).all isWordS = true) (hk : formS c0.data.toList = some (k, more)) : checkCommandS (c0 :: l) = if (hasFormS l k more && cmdTail c0 l) = true then 0 else 3 := by
  rw [checkCommandS, if_neg h]
  simp only [hw, hk, Bool.true_eq_false, if_false]
  cases h1 : hasFormS l k more
  · simp
  · rw [cmdTail]
    cases h2 : (c0.data.toList == [102, 97, 105, 108] && (l.head?.map fun s => s.data.toList) == some [48]) <;> simp
theorem cc_word (h : ¬ (50 : Int) < (c0 :: l).length) (hw : (c0 :: l).all isWordS = false) : checkCommandS (c0 :: l) = 3 := by
  rw [checkCommandS, if_neg h]
  simp only [hw, if_true]
theorem cc_kind (h : ¬ (50 : Int) < (c0 :: l).length) (hw : (c0 :: l).all isWordS = true) (hk : formS c0.data.toList = none) : checkCommandS (c0 :: l) = 4 := by
  rw [checkCommandS, if_neg h]
  simp only [hw, hk, Bool.true_eq_false, if_false]
end
theorem isWord_eq (x : ByteArray) : isWordS x = (withinB x.size 1 300 && x.data.toList.all (bytesInB 33 126)) := by rw [isWordS, Bool.and_comm]
theorem noWord_pays (W : World) (x : ByteArray) (hx : x.size ≤ maxLen) : Calls Tryz.prog 137 #[.string x] W fun e w' => e = .returned (.bool (!(isWordS x))) ∧ Below W.heap.size W w' := by
  go_enter Tryz.func137, Tryz.ntmps137
  go_wp2_with (go_at_call 138; refine (act_isWord _ _ hx).mono ?_; rintro e w1 ⟨rfl, rfl⟩)
  go_ret
  exact ⟨rfl, Below.refl _ _⟩
theorem words_any' (A : Option Addr) (n c : Nat) (l : List ByteArray) (w : World) (hsl : Sl w (Lt w.heap.size) A n l) :
    Calls Tryz.prog 32 #[.slice A n c, .func (.func 137) #[] #[]] w fun e w' => e = .returned (.bool (!(l.all isWordS))) ∧ Below w.heap.size w w' :=
  (slices_ContainsFunc0 137 (enters_of Tryz.func137 (by kernel_rfl) rfl) (fun x => !(isWordS x)) A n c l w hsl (fun W x _ hx _ => noWord_pays W x hx)).mono fun _ _ h => ⟨by rw [h.1, List.not_all_eq_any_not], h.2⟩
theorem formL_empty {s : ByteArray} (h : formS s.data.toList = none) : (⟨(formL s.data.toList).toArray⟩ : ByteArray).toList = [] := by
  rw [Lib.toList_data, form_none h]
theorem formL_some {s : ByteArray} {k : List UInt8} {more : Bool} (h : formS s.data.toList = some (k, more)) : (⟨(formL s.data.toList).toArray⟩ : ByteArray).toList.isEmpty = false := by
  rw [Lib.toList_data]
  have h1 := (form_is h).2.2.1
  rw [form_some h]
  cases k with
  | nil => simp at h1
  | cons a k => rfl

/-- c[1:] -/
theorem tail_run {w : World} {S : Nat → Prop} {b o n c : Nat} {x : ByteArray} {l : List ByteArray} (h : Sl w S (some ⟨b, o, none⟩) n (x :: l)) (hnc : n ≤ c) (hm : n ≤ 9223372036854775807) :
    ∃ A2 n2 c2, Sl w S A2 n2 l ∧ n2 ≤ c2 ∧ n2 ≤ n ∧ ∀ W, (Instr.slice 23 (.slice (some ⟨b, o, none⟩) n c) (some (.int .i64 1)) none none).run Tryz.prog W = .ok (.slice A2 n2 c2) W := by
  have h1 : 1 ≤ n := by have := h.1; simp at this; omega
  have ht := sl_tail h
  by_cases hc : c = 1
  · subst hc
    obtain rfl : n = 1 := by omega
    have hl : l = [] := List.eq_nil_of_length_eq_zero (by have := h.1; simpa using this)
    subst hl
    refine ⟨some ⟨b, o, none⟩, 0, 0, Sl.nil', Nat.le_refl _, by omega, fun W => ?_⟩
    simp [go_sem, Tryz.underlying23]
  · refine ⟨some ⟨b, o + 1, none⟩, n - 1, c - 1, ht, by omega, by omega, fun W => ?_⟩
    have h2 : (1 : Int) ≤ n := by omega
    simp [go_sem, Tryz.underlying23, hc, h2]
set_option maxHeartbeats 2000000 in
set_option maxRecDepth 100000 in
theorem act_checkCommand (A : Option Addr) (n c : Nat) (l : List ByteArray) (w : World) (hE : Env w) (hsl : Sl w (Lt w.heap.size) A n l) (hnc : n ≤ c) :
    Calls Tryz.prog 97 #[.slice A n c] w fun e w' => e = .returned (.int .i64 (checkCommandS l)) ∧ Below w.heap.size w w' := by
  have hm : n ≤ 9223372036854775807 := hsl.2.1
  cases l with
  | nil =>
    obtain rfl : n = 0 := by have := hsl.1; simpa using this.symm
    go_enter Tryz.func97, Tryz.ntmps97
    go_wp2
    go_ret; exact ⟨rfl, Below.refl _ _⟩
  | cons c0 l =>
    have hln : l.length + 1 = n := by have := hsl.1; simpa using this
    have h0 : ((n : Int) == 0) = false := by rw [beq_eq_false_iff_ne]; omega
    by_cases hbig : (50 : Int) < n
    · have HV := Lib.hid (cc_large (l := c0 :: l) (by rw [hsl.1]; exact hbig))
      clear hln
      go_enter Tryz.func97, Tryz.ntmps97
      go_wp2
      go_ret; exact ⟨ret_int HV.out.symm, Below.refl _ _⟩
    have hbig' : ¬ (50 : Int) < (c0 :: l).length := by rw [hsl.1]; exact hbig
    obtain ⟨b, o, x0, rfl, hb, hx0, hxs0, d0⟩ := hsl.str (k := 0) (by omega)
    obtain rfl : c0 = x0 := by simpa using hx0
    clear hx0
    rw [Nat.add_zero] at d0
    have hbw : b < w.heap.size := hb
    have hnI : (0 : Int) < n := by omega
    have HL := Lib.hid hln; clear hln
    have HF := Lib.hid (fun w => act_formOf c0 w)
    cases hw : (c0 :: l).all isWordS
    · have HV := Lib.hid (cc_word hbig' hw)
      go_enter Tryz.func97, Tryz.ntmps97
      go_wp2_with (first
      | (go_at_call 32; refine (words_any' _ _ _ _ _ hsl).mono ?_; rintro e w1 ⟨rfl, hb1⟩; obtain ⟨hc1, hf1⟩ := bcell hb1)
      | (go_at_call 139; refine (HF.out _).mono ?_; rintro e w1' ⟨rfl, rfl⟩))
      go_ret; exact ⟨ret_int HV.out.symm, (by repeat (first | exact fr_refl _ | refine fr_call ?_ (by assumption) | refine fr_alloc ?_ _ | refine fr_set ?_ (by simp) _ | refine Below.drew ?_ | refine below_drewN ?_ _))⟩
    · rcases hk : formS c0.data.toList with _ | ⟨k, more⟩
      · have HV := Lib.hid (cc_kind hbig' hw hk)
        have he := formL_empty hk
        clear hk
        generalize (⟨(formL c0.data.toList).toArray⟩ : ByteArray) = fs at *
        go_enter Tryz.func97, Tryz.ntmps97
        go_wp2_with (first
        | (go_at_call 32; refine (words_any' _ _ _ _ _ hsl).mono ?_; rintro e w1 ⟨rfl, hb1⟩; obtain ⟨hc1, hf1⟩ := bcell hb1)
        | (go_at_call 139; refine (HF.out _).mono ?_; rintro e w1' ⟨rfl, rfl⟩))
        go_ret; exact ⟨ret_int HV.out.symm, (by repeat (first | exact fr_refl _ | refine fr_call ?_ (by assumption) | refine fr_alloc ?_ _ | refine fr_set ?_ (by simp) _ | refine Below.drew ?_ | refine below_drewN ?_ _))⟩
      · have HV := Lib.hid (cc_some hbig' hw hk)
        have he := formL_some hk
        have HFI := Lib.hid (form_is hk)
        have HFL := Lib.hid (show (⟨(formL c0.data.toList).toArray⟩ : ByteArray).data.toList = k ++ plusL more by rw [form_some hk])
        have HK := Lib.hid hk; clear hk
        generalize (⟨(formL c0.data.toList).toArray⟩ : ByteArray) = fs at *
        obtain ⟨A2, n2, c2, hs2, hnc2, hn2, hv2⟩ := tail_run hsl hnc hm
        have HH := Lib.hid (fun W (hb : Below w.heap.size w W) => act_hasForm A2 n2 c2 l k more fs W (hE.then_ hb) (sl_call hs2 hb (Nat.le_refl _)) HFI.out HFL.out (by omega))
        clear hnc2
        cases hh : hasFormS l k more
        · have HW := Lib.hid (show checkCommandS (c0 :: l) = 3 by rw [HV.out, hh]; rfl)
          rw [hh] at HH
          clear hn2 hs2
          go_enter Tryz.func97, Tryz.ntmps97
          go_wp2_with (first
          | (go_at_call 32; refine (words_any' _ _ _ _ _ hsl).mono ?_; rintro e w1 ⟨rfl, hb1⟩; obtain ⟨hc1, hf1⟩ := bcell hb1)
          | (go_at_call 139; refine (HF.out _).mono ?_; rintro e w1' ⟨rfl, rfl⟩))
          refine (HH.out _ (by repeat (first | exact fr_refl _ | refine fr_call ?_ (by assumption) | refine fr_alloc ?_ _ | refine fr_set ?_ (by simp) _ | refine Below.drew ?_ | refine below_drewN ?_ _))).mono ?_
          rintro e w2 ⟨rfl, hb2⟩
          go_wp2
          go_ret; exact ⟨ret_int HW.out.symm, (by repeat (first | exact fr_refl _ | refine fr_call ?_ (by assumption) | refine fr_alloc ?_ _ | refine fr_set ?_ (by simp) _ | refine Below.drew ?_ | refine below_drewN ?_ _))⟩
        · rw [hh] at HH
          have hct := HV.out
          rw [hh, Bool.true_and] at hct
          by_cases hfa : c0.toList = [102, 97, 105, 108]
          · have hkk := HK.out
            rw [form_fail (by rw [← Lib.toList_data]; exact hfa)] at hkk
            cases hkk
            have hl1 : 1 ≤ l.length := by
              cases l with
              | nil => revert hh; decide
              | cons a l => simp
            obtain ⟨b2, o2, x1, e2, hb2, hx1, hxs1, c1'⟩ := hsl.str (k := 1) (by have := HL.out; omega)
            cases e2
            have hx1' : l[0]? = some x1 := by simpa using hx1
            have hn1 : (1 : Int) < n := by have := HL.out; omega
            have hd := data_eq hfa
            by_cases hx0 : x1.toList = [48]
            · have HW := Lib.hid (show checkCommandS (c0 :: l) = 3 by
                rw [hct, cmdTail, hd, List.head?_eq_getElem?, hx1']
                have : (some (x1.data.toList) == some [48]) = true := by rw [← Lib.toList_data, hx0]; rfl
                simp [this])
              clear hx1 hx1' hd hct hh hs2
              go_enter Tryz.func97, Tryz.ntmps97
              go_wp2_with (first
              | (go_at_call 32; refine (words_any' _ _ _ _ _ hsl).mono ?_; rintro e w1 ⟨rfl, hb1⟩; obtain ⟨hc1, hf1⟩ := bcell hb1)
              | (go_at_call 139; refine (HF.out _).mono ?_; rintro e w1' ⟨rfl, rfl⟩))
              refine (HH.out _ (by repeat (first | exact fr_refl _ | refine fr_call ?_ (by assumption) | refine fr_alloc ?_ _ | refine fr_set ?_ (by simp) _ | refine Below.drew ?_ | refine below_drewN ?_ _))).mono ?_
              rintro e w2 ⟨rfl, hb2⟩
              have d2 : w2.cell? ⟨b, o, none⟩ = some (.string c0) := by rw [hb2.cell (by show b < _; have := hb1.size; omega), hb1.cell (by exact hbw)]; exact d0
              have d3 : w2.cell? ⟨b, o + 1, none⟩ = some (.string x1) := by rw [hb2.cell (by show b < _; have := hb1.size; omega), hb1.cell (by exact hbw)]; exact c1'
              clear hc1 hf1
              go_wp2
              go_ret; exact ⟨ret_int HW.out.symm, (by repeat (first | exact fr_refl _ | refine fr_call ?_ (by assumption) | refine fr_alloc ?_ _ | refine fr_set ?_ (by simp) _ | refine Below.drew ?_ | refine below_drewN ?_ _))⟩
            · have hx0b : (x1.toList == [48]) = false := by rw [beq_eq_false_iff_ne]; exact hx0
              have HW := Lib.hid (show checkCommandS (c0 :: l) = 0 by
                rw [hct, cmdTail, hd, List.head?_eq_getElem?, hx1']
                have : (some (x1.data.toList) == some [48]) = false := by rw [← Lib.toList_data, beq_eq_false_iff_ne]; simpa using hx0
                simp [this])
              clear hx1 hx1' hd hct hh hs2
              go_enter Tryz.func97, Tryz.ntmps97
              go_wp2_with (first
              | (go_at_call 32; refine (words_any' _ _ _ _ _ hsl).mono ?_; rintro e w1 ⟨rfl, hb1⟩; obtain ⟨hc1, hf1⟩ := bcell hb1)
              | (go_at_call 139; refine (HF.out _).mono ?_; rintro e w1' ⟨rfl, rfl⟩))
              refine (HH.out _ (by repeat (first | exact fr_refl _ | refine fr_call ?_ (by assumption) | refine fr_alloc ?_ _ | refine fr_set ?_ (by simp) _ | refine Below.drew ?_ | refine below_drewN ?_ _))).mono ?_
              rintro e w2 ⟨rfl, hb2⟩
              have d2 : w2.cell? ⟨b, o, none⟩ = some (.string c0) := by rw [hb2.cell (by show b < _; have := hb1.size; omega), hb1.cell (by exact hbw)]; exact d0
              have d3 : w2.cell? ⟨b, o + 1, none⟩ = some (.string x1) := by rw [hb2.cell (by show b < _; have := hb1.size; omega), hb1.cell (by exact hbw)]; exact c1'
              clear hc1 hf1
              go_wp2
              go_ret; exact ⟨ret_int HW.out.symm, (by repeat (first | exact fr_refl _ | refine fr_call ?_ (by assumption) | refine fr_alloc ?_ _ | refine fr_set ?_ (by simp) _ | refine Below.drew ?_ | refine below_drewN ?_ _))⟩
          · have HW := Lib.hid (show checkCommandS (c0 :: l) = 0 by rw [hct, cmdTail, data_ne hfa]; rfl)
            clear hct hh hs2
            go_enter Tryz.func97, Tryz.ntmps97
            go_wp2_with (first
            | (go_at_call 32; refine (words_any' _ _ _ _ _ hsl).mono ?_; rintro e w1 ⟨rfl, hb1⟩; obtain ⟨hc1, hf1⟩ := bcell hb1)
            | (go_at_call 139; refine (HF.out _).mono ?_; rintro e w1' ⟨rfl, rfl⟩))
            refine (HH.out _ (by repeat (first | exact fr_refl _ | refine fr_call ?_ (by assumption) | refine fr_alloc ?_ _ | refine fr_set ?_ (by simp) _ | refine Below.drew ?_ | refine below_drewN ?_ _))).mono ?_
            rintro e w2 ⟨rfl, hb2⟩
            have d2 : w2.cell? ⟨b, o, none⟩ = some (.string c0) := by rw [hb2.cell (by show b < _; have := hb1.size; omega), hb1.cell (by exact hbw)]; exact d0
            clear hc1 hf1
            go_wp2
            go_ret; exact ⟨ret_int HW.out.symm, (by repeat (first | exact fr_refl _ | refine fr_call ?_ (by assumption) | refine fr_alloc ?_ _ | refine fr_set ?_ (by simp) _ | refine Below.drew ?_ | refine below_drewN ?_ _))⟩

set_option maxHeartbeats 2000000 in
set_option maxRecDepth 100000 in
theorem ref5_checkCommand (A : Option Addr) (n c : Nat) (l : List ByteArray) (w : World) (hE : Env w) (hsl : Sl w (Lt w.heap.size) A n l) (hnc : n ≤ c) :
    Calls Tryz.prog 87 #[.slice A n c] w fun e w' => e = .returned (.int .i64 (checkCommandS l)) ∧ Below w.heap.size w w' := by
  have hm : n ≤ 9223372036854775807 := hsl.2.1
  cases l with
  | nil =>
    obtain rfl : n = 0 := by have := hsl.1; simpa using this.symm
    go_enter Tryz.func87, Tryz.ntmps87
    go_wp2
    go_ret; exact ⟨rfl, Below.refl _ _⟩
  | cons c0 l =>
    have hln : l.length + 1 = n := by have := hsl.1; simpa using this
    have h0 : ((n : Int) == 0) = false := by rw [beq_eq_false_iff_ne]; omega
    by_cases hbig : (50 : Int) < n
    · have HV := Lib.hid (cc_large (l := c0 :: l) (by rw [hsl.1]; exact hbig))
      clear hln
      go_enter Tryz.func87, Tryz.ntmps87
      go_wp2
      go_ret; exact ⟨ret_int HV.out.symm, Below.refl _ _⟩
    have HBG := Lib.hid (show ¬ (50 : Int) < (c0 :: l).length by rw [hsl.1]; exact hbig)
    obtain ⟨b, o, x0, rfl, hb, hx0, hxs0, d0⟩ := hsl.str (k := 0) (by omega)
    obtain rfl : c0 = x0 := by simpa using hx0
    clear hx0
    rw [Nat.add_zero] at d0
    have hnI : (0 : Int) < n := by omega
    have HL := Lib.hid hln; clear hln
    have HF := Lib.hid (fun w => ref5_form c0 w)
    have HFM := Lib.hid (fun k more (hk : formS c0.data.toList = some (k, more)) => ref5_formed b o n c c0 l k more w hE hsl hnc hk (by omega))
    go_enter Tryz.func87, Tryz.ntmps87
    go_wp2
    go_loop [3] (fun i => ∃ q : Nat, q ≤ n ∧ i = .int .i64 q ∧ ((c0 :: l).take q).all isWordS = true) (fun i => n - (intOf i).toNat)
    case atStart => exact ⟨0, Nat.zero_le _, rfl, rfl⟩
    case round =>
      obtain ⟨q, hq, rfl, hall⟩ := hrel
      have H := Lib.hid hall; clear hall
      by_cases hlt : q < n
      · obtain ⟨b2, o2, x, e2, hb2, hx, hxs, c0'⟩ := hsl.str hlt
        cases e2
        have Hx := Lib.hid hx; clear hx
        have HW := Lib.hid (isWord_eq x)
        cases g1 : withinB x.size 1 300
        · have HN := Lib.hid (show (c0 :: l).all isWordS = false from lall_no Hx.out (by rw [HW.out, g1]; rfl))
          go_wp2_with (first | (go_at_call 90; refine (ref5_within _ _ _ _).mono ?_; rintro e w1 ⟨rfl, rfl⟩))
          go_ret; exact ⟨ret_int (cc_word (Int.not_lt.2 HBG.out) HN.out).symm, Below.refl _ _⟩
        · cases g2 : x.data.toList.all (bytesInB 33 126)
          · have HN := Lib.hid (show (c0 :: l).all isWordS = false from lall_no Hx.out (by rw [HW.out, g2, Bool.and_false]))
            have HB := Lib.hid (ref5_bytesIn x 33 126 w hxs)
            rw [g2] at HB
            clear g2
            go_wp2_with (first | (go_at_call 90; refine (ref5_within _ _ _ _).mono ?_; rintro e w1 ⟨rfl, rfl⟩) | (go_at_call 119; refine HB.out.mono ?_; rintro e w1 ⟨rfl, rfl⟩))
            go_ret; exact ⟨ret_int (cc_word (Int.not_lt.2 HBG.out) HN.out).symm, Below.refl _ _⟩
          · have HN := Lib.hid (show ((c0 :: l).take (q + 1)).all isWordS = true from lall_step Hx.out H.out (by rw [HW.out, g1, g2]; rfl))
            have HB := Lib.hid (ref5_bytesIn x 33 126 w hxs)
            rw [g2] at HB
            clear g2
            go_wp2_with (first | (go_at_call 90; refine (ref5_within _ _ _ _).mono ?_; rintro e w1 ⟨rfl, rfl⟩) | (go_at_call 119; refine HB.out.mono ?_; rintro e w1 ⟨rfl, rfl⟩))
            go_round
            case rel => exact ⟨q + 1, by omega, by go_num, HN.out⟩
            case measure => simp [intOf]; omega
      · have HA := Lib.hid (show (c0 :: l).all isWordS = true from lall_end (by rw [hsl.1]; omega) H.out)
        rcases hk : formS c0.data.toList with _ | ⟨k, more⟩
        · have HV := Lib.hid (cc_kind (Int.not_lt.2 HBG.out) HA.out hk)
          rw [hk] at HF
          have HK := Lib.hid hk; clear hk
          go_wp2_with (first | (go_at_call 120; refine (HF.out _).mono ?_; rintro e w1 ⟨rfl, rfl⟩))
          go_ret; exact ⟨ret_int HV.out.symm, Below.refl _ _⟩
        · have HV := Lib.hid (cc_some (Int.not_lt.2 HBG.out) HA.out hk)
          have HM := Lib.hid (HFM.out k more hk)
          rw [hk] at HF
          have HK := Lib.hid hk; clear hk
          cases hh : (hasFormS l k more && cmdTail c0 l)
          all_goals
            rw [hh] at HM
            have HW := HV.out
            rw [hh] at HW
            have HX := Lib.hid HW; clear HW hh
            go_wp2_with (first | (go_at_call 120; refine (HF.out _).mono ?_; rintro e w1 ⟨rfl, rfl⟩) | (go_at_call 121; refine HM.out.mono ?_; rintro e w1 ⟨rfl, hb1⟩))
            go_ret; exact ⟨ret_int HX.out.symm, hb1⟩
end Go.Proofs.Sm

namespace Go.Proofs.Sm
open Go.RowKit

def unprinted (x : Nat) : Bool := !(decide (32 ≤ (x : Int)) && decide ((x : Int) ≤ 126))
theorem unprinted_big (x : Nat) (h : 127 ≤ x) : unprinted x = true := by
  simp only [unprinted, Bool.not_eq_true', Bool.and_eq_false_iff, decide_eq_false_iff_not]
  omega
theorem unprinted_pays (w : World) : PredGrows Tryz.prog 142 #[] unprinted w := by
  intro W x hx _
  show Calls Tryz.prog 142 #[.int .i32 (x : Int)] W _
  go_enter Tryz.func142, Tryz.ntmps142
  go_wp2
  all_goals (go_ret; refine ⟨ret_bool ?_, Below.refl _ _⟩; rw [Bool.eq_iff_iff]; simp [unprinted] <;> omega)
theorem printed_any (s : ByteArray) (w : World) : Calls Tryz.prog 103 #[.string s, .func (.func 142) #[] #[]] w fun e w' => e = .returned (.bool (!(s.data.toList.all (bytesInB 32 126)))) ∧ Below w.heap.size w w' :=
  (Tryz.strings_ContainsFunc_grows 142 #[] (enters_of Tryz.func142 (by kernel_rfl) rfl) unprinted s w (unprinted_pays w)).mono fun _ _ h => ⟨by
    rw [h.1, idxFunc_bytes unprinted unprinted_big, List.not_all_eq_any_not]; rfl, h.2⟩
section
variable {prev : Option ByteArray} {v : VarV}
theorem varErr_name (h : isNameS v.name = false) : varErr prev v = 5 := by rw [varErr, if_pos h]
theorem varErr_value (h : isNameS v.name = true) (h1 : (300 : Int) < v.value.size ∨ v.value.data.toList.all (bytesInB 32 126) = false) : varErr prev v = 3 := by
  rw [varErr, if_neg (by rw [h]; decide), if_pos]
  rcases h1 with h1 | h1
  · rw [decide_eq_true h1]; rfl
  · rw [h1]; simp
theorem varErr_rest (h : isNameS v.name = true) (h1 : ¬ (300 : Int) < v.value.size) (h2 : v.value.data.toList.all (bytesInB 32 126) = true) : varErr prev v = if notAfter prev v.name then 8 else 0 := by
  rw [varErr, if_neg (by rw [h]; decide), if_neg]
  rw [h2, decide_eq_false h1]; decide
end
theorem checkVars_large {l : List VarV} (h : (30 : Int) < l.length) : checkVarsS l = 2 := by rw [checkVarsS, if_pos h]
theorem checkVars_list {l : List VarV} (h : ¬ (30 : Int) < l.length) : checkVarsS l = listErr varErr VarV.name (ahead VarV.name l 0) (l.drop 0) := by rw [checkVarsS, if_neg h]; rfl

set_option maxHeartbeats 1000000 in
set_option maxRecDepth 100000 in
theorem act_checkVars (A : Option Addr) (n c : Nat) (l : List VarV) (w : World) (hsl : Sl w (Lt w.heap.size) A n l) : Calls Tryz.prog 98 #[.slice A n c] w fun e w' => e = .returned (.int .i64 (checkVarsS l)) ∧ Below w.heap.size w w' := by
  have hm : n ≤ 9223372036854775807 := hsl.2.1
  have HL := Lib.hid hsl.1
  by_cases hbig : (30 : Int) < n
  · have HV := Lib.hid (checkVars_large (l := l) (by rw [HL.out]; exact hbig))
    go_enter Tryz.func98, Tryz.ntmps98
    go_wp2
    go_ret; exact ⟨ret_int HV.out.symm, Below.refl _ _⟩
  have Hd := Lib.hid (checkVars_list (l := l) (by rw [HL.out]; exact hbig))
  go_enter Tryz.func98, Tryz.ntmps98
  go_wp2
  go_loopw [10] (fun i wr => ∃ k : Nat, k ≤ n ∧ i = .int .i64 k ∧ checkVarsS l = listErr varErr VarV.name (ahead VarV.name l k) (l.drop k) ∧ Below w.heap.size w wr) (fun i _ => n - (intOf i).toNat)
  case atStart => exact ⟨0, Nat.zero_le _, rfl, Hd.out, Below.refl _ _⟩
  case round =>
    obtain ⟨k, hk, rfl, hd, hbel⟩ := hrel
    have Hr := Lib.hid hd; clear hd
    by_cases hlt : k < n
    · obtain ⟨b, o, x, rfl, hb, hx, hs1, hs2, c0, c1⟩ := (hsl.keep (keep_lt hbel)).var hlt
      have hbw : b < wr.heap.size := Nat.lt_of_lt_of_le hb hbel.size
      have HX := Lib.hid hx; clear hx
      have HB := Lib.hid (fun w => printed_any x.value w)
      cases hp : isNameS x.name
      · have HV := Lib.hid (varErr_name (prev := ahead VarV.name l k) hp)
        go_wp2_with (first
        | (go_at_call 141; refine (script_IsName _ _ hs1).mono ?_; rintro e w1 ⟨rfl, hb1⟩; obtain ⟨hc1, hf1⟩ := bcell hb1; have hz1 := grew hb1)
        | (go_at_call 103; refine (HB.out _).mono ?_; rintro e w2 ⟨rfl, hb2⟩; obtain ⟨hc2, hf2⟩ := bcell hb2; have hz2 := hb2.size))
        go_ret
        exact ⟨ret_int (by rw [Hr.out]; exact (list_stop HX.out HV.out (by decide)).symm), (by repeat (first | exact fr_refl _ | refine fr_call ?_ (by assumption) | refine fr_alloc ?_ _ | refine fr_set ?_ (by simp) _ | refine Below.drew ?_ | refine below_drewN ?_ _))⟩
      by_cases hlg : (300 : Int) < x.value.size
      · have HV := Lib.hid (varErr_value (prev := ahead VarV.name l k) hp (.inl hlg))
        go_wp2_with (first
        | (go_at_call 141; refine (script_IsName _ _ hs1).mono ?_; rintro e w1 ⟨rfl, hb1⟩; obtain ⟨hc1, hf1⟩ := bcell hb1; have hz1 := grew hb1)
        | (go_at_call 103; refine (HB.out _).mono ?_; rintro e w2 ⟨rfl, hb2⟩; obtain ⟨hc2, hf2⟩ := bcell hb2; have hz2 := hb2.size))
        go_ret
        exact ⟨ret_int (by rw [Hr.out]; exact (list_stop HX.out HV.out (by decide)).symm), (by repeat (first | exact fr_refl _ | refine fr_call ?_ (by assumption) | refine fr_alloc ?_ _ | refine fr_set ?_ (by simp) _ | refine Below.drew ?_ | refine below_drewN ?_ _))⟩
      cases hv : x.value.data.toList.all (bytesInB 32 126)
      · have HV := Lib.hid (varErr_value (prev := ahead VarV.name l k) hp (.inr hv))
        rw [hv] at HB
        clear hv
        go_wp2_with (first
        | (go_at_call 141; refine (script_IsName _ _ hs1).mono ?_; rintro e w1 ⟨rfl, hb1⟩; obtain ⟨hc1, hf1⟩ := bcell hb1; have hz1 := grew hb1)
        | (go_at_call 103; refine (HB.out _).mono ?_; rintro e w2 ⟨rfl, hb2⟩; obtain ⟨hc2, hf2⟩ := bcell hb2; have hz2 := hb2.size))
        go_ret
        exact ⟨ret_int (by rw [Hr.out]; exact (list_stop HX.out HV.out (by decide)).symm), (by repeat (first | exact fr_refl _ | refine fr_call ?_ (by assumption) | refine fr_alloc ?_ _ | refine fr_set ?_ (by simp) _ | refine Below.drew ?_ | refine below_drewN ?_ _))⟩
      have HO := Lib.hid (varErr_rest (prev := ahead VarV.name l k) hp hlg hv)
      rw [hv] at HB
      clear hv
      by_cases hk0 : 0 < k
      · have hg : decide ((0 : Int) < (k : Int)) = true := by simpa using hk0
        obtain ⟨_, _, y, e0, _, hy, _, _, d0, _⟩ := (hsl.keep (keep_lt hbel)).var (k := k - 1) (by omega)
        cases e0
        have HA := Lib.hid (ahead_pos (f := VarV.name) hk0 hy); clear hy
        cases hle : leS x.name y.name
        · have HV := Lib.hid (show varErr (ahead VarV.name l k) x = 0 by rw [HO.out, HA.out]; simp [notAfter, hle])
          have hle' := leS_false hle
          go_wp2_with (first
          | (go_at_call 141; refine (script_IsName _ _ hs1).mono ?_; rintro e w1 ⟨rfl, hb1⟩; obtain ⟨hc1, hf1⟩ := bcell hb1; have hz1 := grew hb1)
          | (go_at_call 103; refine (HB.out _).mono ?_; rintro e w2 ⟨rfl, hb2⟩; obtain ⟨hc2, hf2⟩ := bcell hb2; have hz2 := hb2.size))
          have d1 : w2.cell? ⟨b, o + (k - 1) * 2, none⟩ = some (.string y.name) := by rw [hb2.cell (by show b < _; omega), hb1.cell (by show b < _; simp; omega), World.cell?_alloc_lt _ _ _ (by exact hbw)]; exact d0
          have g1 := IntWalk.i64_in ((k : Int) - 1) ⟨by omega, by omega⟩; have g2 : ((k : Int) - 1).toNat = k - 1 := (by omega); have g3 : (0 : Int) ≤ (k : Int) - 1 := (by omega); have g4 : (k : Int) - 1 < n := (by omega)
          go_quiet (fail)
          clear g1 g2 g3 g4
          go_wp2
          go_round
          case rel => exact ⟨k + 1, by omega, by go_num, by rw [Hr.out]; exact list_round HX.out HV.out, (by repeat (first | exact fr_refl _ | refine fr_call ?_ (by assumption) | refine fr_alloc ?_ _ | refine fr_set ?_ (by simp) _ | refine Below.drew ?_ | refine below_drewN ?_ _))⟩
          case measure => simp [intOf]; omega
        · have HV := Lib.hid (show varErr (ahead VarV.name l k) x = 8 by rw [HO.out, HA.out]; simp [notAfter, hle])
          have hle' := leS_true hle
          go_wp2_with (first
          | (go_at_call 141; refine (script_IsName _ _ hs1).mono ?_; rintro e w1 ⟨rfl, hb1⟩; obtain ⟨hc1, hf1⟩ := bcell hb1; have hz1 := grew hb1)
          | (go_at_call 103; refine (HB.out _).mono ?_; rintro e w2 ⟨rfl, hb2⟩; obtain ⟨hc2, hf2⟩ := bcell hb2; have hz2 := hb2.size))
          have d1 : w2.cell? ⟨b, o + (k - 1) * 2, none⟩ = some (.string y.name) := by rw [hb2.cell (by show b < _; omega), hb1.cell (by show b < _; simp; omega), World.cell?_alloc_lt _ _ _ (by exact hbw)]; exact d0
          have g1 := IntWalk.i64_in ((k : Int) - 1) ⟨by omega, by omega⟩; have g2 : ((k : Int) - 1).toNat = k - 1 := (by omega); have g3 : (0 : Int) ≤ (k : Int) - 1 := (by omega); have g4 : (k : Int) - 1 < n := (by omega)
          go_quiet (fail)
          clear g1 g2 g3 g4
          go_wp2
          go_ret
          exact ⟨ret_int (by rw [Hr.out]; exact (list_stop HX.out HV.out (by decide)).symm), (by repeat (first | exact fr_refl _ | refine fr_call ?_ (by assumption) | refine fr_alloc ?_ _ | refine fr_set ?_ (by simp) _ | refine Below.drew ?_ | refine below_drewN ?_ _))⟩
      · have hg : decide ((0 : Int) < (k : Int)) = false := by simpa using hk0
        have HV := Lib.hid (show varErr (ahead VarV.name l k) x = 0 by rw [HO.out, show ahead VarV.name l k = none by simp [ahead]; omega]; rfl)
        go_wp2_with (first
        | (go_at_call 141; refine (script_IsName _ _ hs1).mono ?_; rintro e w1 ⟨rfl, hb1⟩; obtain ⟨hc1, hf1⟩ := bcell hb1; have hz1 := grew hb1)
        | (go_at_call 103; refine (HB.out _).mono ?_; rintro e w2 ⟨rfl, hb2⟩; obtain ⟨hc2, hf2⟩ := bcell hb2; have hz2 := hb2.size))
        go_quiet (fail)
        go_wp2
        go_round
        case rel => exact ⟨k + 1, by omega, by go_num, by rw [Hr.out]; exact list_round HX.out HV.out, (by repeat (first | exact fr_refl _ | refine fr_call ?_ (by assumption) | refine fr_alloc ?_ _ | refine fr_set ?_ (by simp) _ | refine Below.drew ?_ | refine below_drewN ?_ _))⟩
        case measure => simp [intOf]; omega
    · go_wp2
      go_ret
      exact ⟨ret_int (by rw [Hr.out, list_end (by rw [hsl.1]; omega)]), hbel⟩
set_option maxHeartbeats 1000000 in
set_option maxRecDepth 100000 in
theorem ref5_checkVars (A : Option Addr) (n c : Nat) (l : List VarV) (w : World) (hsl : Sl w (Lt w.heap.size) A n l) : Calls Tryz.prog 88 #[.slice A n c] w fun e w' => e = .returned (.int .i64 (checkVarsS l)) ∧ Below w.heap.size w w' := by
  have hm : n ≤ 9223372036854775807 := hsl.2.1
  have HL := Lib.hid hsl.1
  by_cases hbig : (30 : Int) < n
  · have HV := Lib.hid (checkVars_large (l := l) (by rw [HL.out]; exact hbig))
    go_enter Tryz.func88, Tryz.ntmps88
    go_wp2
    go_ret; exact ⟨ret_int HV.out.symm, Below.refl _ _⟩
  have Hd := Lib.hid (checkVars_list (l := l) (by rw [HL.out]; exact hbig))
  go_enter Tryz.func88, Tryz.ntmps88
  go_wp2
  go_loopw [3] (fun i wr => ∃ k : Nat, k ≤ n ∧ i = .int .i64 k ∧ checkVarsS l = listErr varErr VarV.name (ahead VarV.name l k) (l.drop k) ∧ Below w.heap.size w wr) (fun i _ => n - (intOf i).toNat)
  case atStart => exact ⟨0, Nat.zero_le _, rfl, Hd.out, Below.refl _ _⟩
  case round =>
    obtain ⟨k, hk, rfl, hd, hbel⟩ := hrel
    have Hr := Lib.hid hd; clear hd
    by_cases hlt : k < n
    · obtain ⟨b, o, x, rfl, hb, hx, hs1, hs2, c0, c1⟩ := (hsl.keep (keep_lt hbel)).var hlt
      have hbw : b < wr.heap.size := Nat.lt_of_lt_of_le hb hbel.size
      have HX := Lib.hid hx; clear hx
      have HB := Lib.hid (fun w => ref5_bytesIn x.value 32 126 w hs2)
      cases hp : isNameS x.name
      · have HV := Lib.hid (varErr_name (prev := ahead VarV.name l k) hp)
        go_wp2_with (first
        | (go_at_call 122; refine (ref4_IsName _ _ hs1).mono ?_; rintro e w1 ⟨rfl, rfl⟩)
        | (go_at_call 119; refine (HB.out _).mono ?_; rintro e w2 ⟨rfl, rfl⟩))
        go_ret
        exact ⟨ret_int (by rw [Hr.out]; exact (list_stop HX.out HV.out (by decide)).symm), (by repeat (first | exact fr_refl _ | refine fr_call ?_ (by assumption) | refine fr_alloc ?_ _ | refine fr_set ?_ (by simp) _ | refine Below.drew ?_ | refine below_drewN ?_ _))⟩
      by_cases hlg : (300 : Int) < x.value.size
      · have HV := Lib.hid (varErr_value (prev := ahead VarV.name l k) hp (.inl hlg))
        go_wp2_with (first
        | (go_at_call 122; refine (ref4_IsName _ _ hs1).mono ?_; rintro e w1 ⟨rfl, rfl⟩)
        | (go_at_call 119; refine (HB.out _).mono ?_; rintro e w2 ⟨rfl, rfl⟩))
        go_ret
        exact ⟨ret_int (by rw [Hr.out]; exact (list_stop HX.out HV.out (by decide)).symm), hbel⟩
      cases hv : x.value.data.toList.all (bytesInB 32 126)
      · have HV := Lib.hid (varErr_value (prev := ahead VarV.name l k) hp (.inr hv))
        rw [hv] at HB
        clear hv
        go_wp2_with (first
        | (go_at_call 122; refine (ref4_IsName _ _ hs1).mono ?_; rintro e w1 ⟨rfl, rfl⟩)
        | (go_at_call 119; refine (HB.out _).mono ?_; rintro e w2 ⟨rfl, rfl⟩))
        go_ret
        exact ⟨ret_int (by rw [Hr.out]; exact (list_stop HX.out HV.out (by decide)).symm), hbel⟩
      have HO := Lib.hid (varErr_rest (prev := ahead VarV.name l k) hp hlg hv)
      rw [hv] at HB
      clear hv
      by_cases hk0 : 0 < k
      · have hg : decide ((0 : Int) < (k : Int)) = true := by simpa using hk0
        obtain ⟨_, _, y, e0, _, hy, _, _, d0, _⟩ := (hsl.keep (keep_lt hbel)).var (k := k - 1) (by omega)
        cases e0
        have HA := Lib.hid (ahead_pos (f := VarV.name) hk0 hy); clear hy
        cases hle : leS x.name y.name
        · have HV := Lib.hid (show varErr (ahead VarV.name l k) x = 0 by rw [HO.out, HA.out]; simp [notAfter, hle])
          have hle' := leS_false hle
          go_wp2_with (first
          | (go_at_call 122; refine (ref4_IsName _ _ hs1).mono ?_; rintro e w1 ⟨rfl, rfl⟩)
          | (go_at_call 119; refine (HB.out _).mono ?_; rintro e w2 ⟨rfl, rfl⟩))
          have g1 := IntWalk.i64_in ((k : Int) - 1) ⟨by omega, by omega⟩; have g2 : ((k : Int) - 1).toNat = k - 1 := (by omega); have g3 : (0 : Int) ≤ (k : Int) - 1 := (by omega); have g4 : (k : Int) - 1 < n := (by omega)
          go_quiet (fail)
          clear g1 g2 g3 g4
          go_wp2
          go_round
          case rel => exact ⟨k + 1, by omega, by go_num, by rw [Hr.out]; exact list_round HX.out HV.out, below_drewN hbel _⟩
          case measure => simp [intOf]; omega
        · have HV := Lib.hid (show varErr (ahead VarV.name l k) x = 8 by rw [HO.out, HA.out]; simp [notAfter, hle])
          have hle' := leS_true hle
          go_wp2_with (first
          | (go_at_call 122; refine (ref4_IsName _ _ hs1).mono ?_; rintro e w1 ⟨rfl, rfl⟩)
          | (go_at_call 119; refine (HB.out _).mono ?_; rintro e w2 ⟨rfl, rfl⟩))
          have g1 := IntWalk.i64_in ((k : Int) - 1) ⟨by omega, by omega⟩; have g2 : ((k : Int) - 1).toNat = k - 1 := (by omega); have g3 : (0 : Int) ≤ (k : Int) - 1 := (by omega); have g4 : (k : Int) - 1 < n := (by omega)
          go_quiet (fail)
          clear g1 g2 g3 g4
          go_wp2
          go_ret
          exact ⟨ret_int (by rw [Hr.out]; exact (list_stop HX.out HV.out (by decide)).symm), below_drewN hbel _⟩
      · have hg : decide ((0 : Int) < (k : Int)) = false := by simpa using hk0
        have HV := Lib.hid (show varErr (ahead VarV.name l k) x = 0 by rw [HO.out, show ahead VarV.name l k = none by simp [ahead]; omega]; rfl)
        go_wp2_with (first
        | (go_at_call 122; refine (ref4_IsName _ _ hs1).mono ?_; rintro e w1 ⟨rfl, rfl⟩)
        | (go_at_call 119; refine (HB.out _).mono ?_; rintro e w2 ⟨rfl, rfl⟩))
        go_quiet (fail)
        go_wp2
        go_round
        case rel => exact ⟨k + 1, by omega, by go_num, by rw [Hr.out]; exact list_round HX.out HV.out, below_drewN hbel _⟩
        case measure => simp [intOf]; omega
    · go_wp2
      go_ret
      exact ⟨ret_int (by rw [Hr.out, list_end (by rw [hsl.1]; omega)]), hbel⟩
end Go.Proofs.Sm

namespace Go.Proofs.Sm
open Go.RowKit

theorem path_size {s : ByteArray} (h : isPathS s = true) : s.size ≤ 200 := by
  have := (withinB_true ((Bool.and_eq_true_iff.1 h).1)).2
  omega
theorem looksErr_all {l : List Look} : ∀ prev, looksErr prev l = 0 → ∀ x ∈ l, ∃ q, lookErr q x = 0 := by
  induction l with
  | nil => intro _ _ x hx; simp at hx
  | cons a l ih =>
    intro prev h x hx
    rw [looksErr] at h
    split at h
    · rename_i h0
      rcases List.mem_cons.1 hx with rfl | hx
      · exact ⟨_, h0⟩
      · exact ih _ h x hx
    · exact absurd h ‹_›
theorem lookErr_zero {q : Option ByteArray} {x : Look} (h : lookErr q x = 0) : isPathS x.path = true ∧ (x.digest.toList.isEmpty = true ∨ isDigestS x.digest = true) ∧ (x.digest.toList.isEmpty = true → x.run = false) := by
  unfold lookErr at h
  split at h
  · omega
  · split at h
    · omega
    · split at h
      · omega
      · rename_i h1 h2 h3
        refine ⟨by simpa using h1, ?_, fun he => ?_⟩
        · cases he : x.digest.toList.isEmpty
          · right
            cases hd : isDigestS x.digest
            · rw [he, hd] at h2; simp at h2
            · rfl
          · left; rfl
        · cases hr : x.run
          · rfl
          · rw [he, hr] at h3
            simp at h3
theorem looks_all {l : List Look} (h : checkLooksS l = 0) : ∀ x ∈ l, isPathS x.path = true ∧ (x.digest.toList.isEmpty = true ∨ isDigestS x.digest = true) ∧ (x.digest.toList.isEmpty = true → x.run = false) := by
  unfold checkLooksS at h
  split at h
  · omega
  · intro x hx
    obtain ⟨q, hq⟩ := looksErr_all _ h x hx
    exact lookErr_zero hq
theorem digest_size {s : ByteArray} (h : s.toList.isEmpty = true ∨ isDigestS s = true) : s.size ≤ 16 := by
  rcases h with h | h
  · rw [Lib.toList_data, List.isEmpty_iff] at h
    have := congrArg List.length h
    simp at this
    simp [ByteArray.size, this]
  · have := (Bool.and_eq_true_iff.1 h).2
    simp at this
    omega
theorem looks_sizes {l : List Look} (h : checkLooksS l = 0) : ∀ x ∈ l, x.path.size ≤ 200 ∧ x.digest.size ≤ 16 := fun x hx =>
  ⟨path_size (looks_all h x hx).1, digest_size (looks_all h x hx).2.1⟩
theorem checkFiles_err {l : List FileV} (h : checkFilesS l = 0) : l.length ≤ 1000 ∧ filesErr none l = 0 ∧ l.any (fun x => clashS l x.path) = false ∧ totalS l ≤ 2000000 := by
  unfold checkFilesS at h
  split at h
  · omega
  · split at h
    · rename_i h1; exact absurd h h1
    · split at h
      · omega
      · split at h
        · omega
        · rename_i h1 h2 h3 h4
          refine ⟨by omega, by simpa using h2, by simpa using h3, by omega⟩
theorem files_sizes {l : List FileV} (h : checkFilesS l = 0) : ∀ x ∈ l, x.path.size ≤ 200 ∧ x.bytes.length ≤ 100000 := by
  intro x hx
  obtain ⟨i, hi⟩ := List.getElem?_of_mem hx
  have := filesErr_step none (checkFiles_err h).2.1 i x hi
  exact ⟨path_size this.2.1, this.2.2⟩
structure ResOk (r : ResultV) : Prop where
  code : 0 ≤ r.code ∧ r.code ≤ 999999
  command : 0 ≤ r.command ∧ r.command ≤ 50
  text : r.text.size ≤ 100000
  told : isTextS r.text = true
  files : checkFilesS r.files = 0
  none : r.code ≠ 0 → r.files = []
  looks : checkLooksS r.looks = 0
theorem checkResult_ok {r : ResultV} (h : checkResultS r = 0) : ResOk r := by
  unfold checkResultS at h
  split at h
  · omega
  · split at h
    · omega
    · split at h
      · omega
      · split at h
        · rename_i h1; exact absurd h h1
        · split at h
          · omega
          · rename_i h1 h2 h3 h4 h5
            simp only [Bool.not_eq_false, Bool.and_eq_true] at h1
            have h6 := withinB_true h1.1
            have h7 := withinB_true h1.2
            refine ⟨h6, h7, by omega, by simpa using h3, by simpa using h4, fun hc => ?_, h⟩
            cases hf : r.files with
            | nil => rfl
            | cons a l => rw [hf] at h5; simp at h5; exact absurd h5 hc
theorem itoa_short (n : Nat) (h : n ≤ 9223372036854775807) : (Lib.itoa n).length ≤ 21 := Lib.itoa_length_le n (by omega) (by omega)
theorem fileHead_length (x : FileV) (h1 : x.path.size ≤ 200) (h2 : x.bytes.length ≤ 100000) : (fileHeadS x).length ≤ 240 := by
  have h3 := itoa_short x.bytes.length (by omega)
  have h4 : (signB x.run).length = 1 := by cases x.run <;> rfl
  have h5 : x.path.data.toList.length = x.path.size := by simp
  simp only [fileHeadS, List.length_append, List.length_cons, List.length_nil, h4, h5]
  omega
theorem fileText_length (x : FileV) (h1 : x.path.size ≤ 200) (h2 : x.bytes.length ≤ 100000) : (fileTextS x).length ≤ 100300 := by
  have := fileHead_length x h1 h2
  simp only [fileTextS, List.length_append, List.length_cons, List.length_nil]
  omega
theorem lookLine_length (x : Look) (h1 : x.path.size ≤ 200) (h2 : x.digest.size ≤ 16) : (lookLineS x).length ≤ 230 := by
  have h4 : (signB x.run).length = 1 := by cases x.run <;> rfl
  have h5 : x.path.data.toList.length = x.path.size := by simp
  have h6 : (digestOr x.digest).length ≤ 16 := by
    unfold digestOr
    split
    · simp
    · have : x.digest.data.toList.length = x.digest.size := by simp
      omega
  simp only [lookLineS, List.length_append, List.length_cons, List.length_nil, h4, h5]
  omega
theorem flatMap_length {α : Type} {f : α → List UInt8} {m : Nat} : ∀ {l : List α}, (∀ x ∈ l, (f x).length ≤ m) → (l.flatMap f).length ≤ m * l.length
  | [], _ => by simp
  | a :: l, h => by
    have h1 := h a (by simp)
    have h2 := flatMap_length (l := l) (fun x hx => h x (by simp [hx]))
    simp only [List.flatMap_cons, List.length_append, List.length_cons, Nat.mul_succ]
    omega
theorem files_length {r : ResultV} (h : ResOk r) (k : Nat) : ((r.files.take k).flatMap fileTextS).length ≤ 100300000 := by
  have h1 := (checkFiles_err h.files).1
  have h2 := flatMap_length (f := fileTextS) (m := 100300) (l := r.files.take k) (fun x hx => by
    have := files_sizes h.files x (List.mem_of_mem_take hx)
    exact fileText_length x this.1 this.2)
  have h3 : (r.files.take k).length ≤ 1000 := by rw [List.length_take]; omega
  have : 100300 * (r.files.take k).length ≤ 100300 * 1000 := Nat.mul_le_mul_left _ h3
  omega
theorem looks_length {r : ResultV} (h : ResOk r) (k : Nat) : ((r.looks.take k).flatMap lookLineS).length ≤ 920000 := by
  have h1 : r.looks.length ≤ 4000 := by
    have := h.looks
    unfold checkLooksS at this
    split at this
    · omega
    · omega
  have h2 := flatMap_length (f := lookLineS) (m := 230) (l := r.looks.take k) (fun x hx => by
    have := looks_sizes h.looks x (List.mem_of_mem_take hx)
    exact lookLine_length x this.1 this.2)
  have h3 : (r.looks.take k).length ≤ 4000 := by rw [List.length_take]; omega
  have : 230 * (r.looks.take k).length ≤ 230 * 4000 := Nat.mul_le_mul_left _ h3
  omega
theorem head_length {r : ResultV} (h : ResOk r) : (headTextS r).length ≤ 100100 := by
  have h1 := Lib.itoa_length_le r.code (by have := h.code; omega) (by have := h.code; omega)
  have h2 := Lib.itoa_length_le r.command (by have := h.command; omega) (by have := h.command; omega)
  have h3 := itoa_short r.text.size (by have := h.text; omega)
  have h4 : r.text.data.toList.length = r.text.size := by simp
  have h5 := h.text
  simp only [headTextS, List.length_append, List.length_cons, List.length_nil, h4]
  omega
theorem flatMap_succ {α : Type} {f : α → List UInt8} {l : List α} {k : Nat} {x : α} (hx : l[k]? = some x) : (l.take (k + 1)).flatMap f = (l.take k).flatMap f ++ f x := by
  rw [List.take_add_one, hx, List.flatMap_append]
  simp
end Go.Proofs.Sm

namespace Go.Proofs.Sm
open Go.RowKit

theorem slash_cat (q : ByteArray) (h : q.size ≤ 100000) : q.size + (⟨#[47]⟩ : ByteArray).size ≤ 9223372036854775807 := by
  have : (⟨#[47]⟩ : ByteArray).size = 1 := rfl
  omega
theorem blob_Within (p q : ByteArray) (w : World) (h : q.size ≤ 100000) : Calls Tryz.prog 144 #[.string p, .string q] w fun e w' => e = .returned (.bool (liesS p q)) ∧ w = w' := by
  have HV := Lib.hid (show liesS p q = Lib.hasPrefix p.data.toList (q ++ (⟨#[47]⟩ : ByteArray)).data.toList by rw [liesS]; congr 1)
  have HP := Lib.hid (fun s w => Tryz.strings_HasPrefix p s w)
  go_enter Tryz.func144, Tryz.ntmps144
  go_wp2_with (go_at_call 91; refine (HP.out _ _).mono ?_; rintro e w1 ⟨rfl, rfl⟩)
  go_ret
  exact ⟨ret_bool HV.out.symm, rfl⟩
theorem ref1_Lies (p q : ByteArray) (w : World) (h : q.size ≤ 100000) : Calls Tryz.prog 55 #[.string p, .string q] w fun e w' => e = .returned (.bool (liesS p q)) ∧ w = w' := by
  have HV := Lib.hid (show liesS p q = Lib.hasPrefix p.data.toList (q ++ (⟨#[47]⟩ : ByteArray)).data.toList by rw [liesS]; congr 1)
  have HP := Lib.hid (fun s w => Tryz.strings_HasPrefix p s w)
  go_enter Tryz.func55, Tryz.ntmps55
  go_wp2_with (go_at_call 91; refine (HP.out _ _).mono ?_; rintro e w1 ⟨rfl, rfl⟩)
  go_ret
  exact ⟨ret_bool HV.out.symm, rfl⟩
theorem checkOutputs1 (p q : ByteArray) (g : Nat) (w : World) (hc : w.cell? ⟨g, 0, none⟩ = some (.string p)) (h : q.size ≤ 100000) : Calls Tryz.prog 143 #[.string q, .pointer (some ⟨g, 0, none⟩)] w fun e w' => e = .returned (.bool (liesS p q)) ∧ Below w.heap.size w w' := by
  go_enter Tryz.func143, Tryz.ntmps143
  go_wp2_with (go_at_call 144; refine (blob_Within _ _ _ h).mono ?_; rintro e w1 ⟨rfl, rfl⟩)
  go_ret
  exact ⟨rfl, Below.refl _ _⟩
theorem outErr_path {prev : Option ByteArray} {p : ByteArray} (h : isPathS p = false) : outErr prev p = 3 := by rw [outErr, if_pos h]
theorem outErr_rest {prev : Option ByteArray} {p : ByteArray} (h : isPathS p = true) : outErr prev p = if notAfter prev p then 8 else 0 := by rw [outErr, if_neg (by rw [h]; decide)]
theorem listErr_all {α : Type} {err : Option ByteArray → α → Int} {key : α → ByteArray} {l : List α} : ∀ prev, listErr err key prev l = 0 → ∀ x ∈ l, ∃ q, err q x = 0 := by
  induction l with
  | nil => intro _ _ x hx; simp at hx
  | cons a l ih =>
    intro prev h x hx
    rw [listErr] at h
    split at h
    · rename_i h0
      rcases List.mem_cons.1 hx with rfl | hx
      · exact ⟨_, h0⟩
      · exact ih _ h x hx
    · exact absurd h ‹_›
theorem outs_paths {l : List ByteArray} (h : listErr outErr id none l = 0) : ∀ x ∈ l, isPathS x = true := by
  intro x hx
  obtain ⟨q, hq⟩ := listErr_all _ h x hx
  cases hp : isPathS x
  · rw [outErr_path hp] at hq; omega
  · rfl
theorem outs_none {l : List ByteArray} (h : l.length = 0) : checkOutputsS l = 9 := by rw [checkOutputsS, if_pos h]
theorem outs_large {l : List ByteArray} (h0 : l.length ≠ 0) (h : (100 : Int) < l.length) : checkOutputsS l = 2 := by rw [checkOutputsS, if_neg h0, if_pos h]
theorem outs_err {l : List ByteArray} (h0 : l.length ≠ 0) (h : ¬ (100 : Int) < l.length) (h1 : listErr outErr id none l ≠ 0) : checkOutputsS l = listErr outErr id none l := by rw [checkOutputsS, if_neg h0, if_neg h, if_pos h1]
theorem outs_rest {l : List ByteArray} (h0 : l.length ≠ 0) (h : ¬ (100 : Int) < l.length) (h1 : listErr outErr id none l = 0) : checkOutputsS l = if l.any (fun p => l.any fun q => liesS p q) then 12 else 0 := by
  rw [checkOutputsS, if_neg h0, if_neg h, if_neg (by rw [h1]; decide)]

set_option maxHeartbeats 1000000 in
set_option maxRecDepth 100000 in
theorem act_checkOutputs (A : Option Addr) (n c : Nat) (l : List ByteArray) (w : World) (hE : Env w) (hsl : Sl w (Lt w.heap.size) A n l) : Calls Tryz.prog 99 #[.slice A n c] w fun e w' => e = .returned (.int .i64 (checkOutputsS l)) ∧ Below w.heap.size w w' := by
  have hm : n ≤ 9223372036854775807 := hsl.2.1
  have HL := Lib.hid hsl.1
  by_cases hn0 : n = 0
  · subst hn0
    have HV := Lib.hid (outs_none (l := l) HL.out)
    go_enter Tryz.func99, Tryz.ntmps99
    go_wp2
    go_ret; exact ⟨ret_int HV.out.symm, Below.refl _ _⟩
  have h0 : ((n : Int) == 0) = false := by rw [beq_eq_false_iff_ne]; omega
  by_cases hbig : (100 : Int) < n
  · have HV := Lib.hid (outs_large (l := l) (by rw [HL.out]; exact hn0) (by rw [HL.out]; exact hbig))
    go_enter Tryz.func99, Tryz.ntmps99
    go_wp2
    go_ret; exact ⟨ret_int HV.out.symm, Below.refl _ _⟩
  have HE1 := Lib.hid (fun h => outs_err (l := l) (by rw [HL.out]; exact hn0) (by rw [HL.out]; exact hbig) h)
  have HE2 := Lib.hid (fun h => outs_rest (l := l) (by rw [HL.out]; exact hn0) (by rw [HL.out]; exact hbig) h)
  go_enter Tryz.func99, Tryz.ntmps99
  go_wp2
  go_loopw [3, 4, 15] (fun _ _ i wr => ∃ k : Nat, k ≤ n ∧ i = .int .i64 k ∧ listErr outErr id none l = listErr outErr id (ahead id l k) (l.drop k) ∧ Below w.heap.size w wr) (fun _ _ i _ => n - (intOf i).toNat)
  case atStart => exact ⟨0, Nat.zero_le _, rfl, rfl, Below.refl _ _⟩
  case round =>
    obtain ⟨k, hk, rfl, hd, hbel⟩ := hrel
    have Hr := Lib.hid hd; clear hd
    by_cases hlt : k < n
    · obtain ⟨b, o, x, rfl, hb, hx, hxs, c0⟩ := (hsl.keep (keep_lt hbel)).str hlt
      have hbw : b < wr.heap.size := Nat.lt_of_lt_of_le hb hbel.size
      have HX := Lib.hid hx; clear hx
      have hEr := hE.then_ hbel
      cases hp : isPathS x
      · have HV := Lib.hid (list_stop (key := id) HX.out (outErr_path (prev := ahead id l k) hp) (by decide))
        go_wp2_with (go_at_call 30; refine (blob_IsPath _ _ hEr).mono ?_; rintro e w1 ⟨rfl, hb1⟩; obtain ⟨hc1, hf1⟩ := bcell hb1)
        go_ret
        exact ⟨ret_int (by rw [HE1.out (by rw [Hr.out, HV.out]; decide), Hr.out, HV.out]), fr_call hbel hb1⟩
      have HO := Lib.hid (outErr_rest (prev := ahead id l k) hp)
      by_cases hk0 : 0 < k
      · have hg : decide ((0 : Int) < (k : Int)) = true := by simpa using hk0
        obtain ⟨_, _, y, e0, _, hy, hys, d0⟩ := (hsl.keep (keep_lt hbel)).str (k := k - 1) (by omega)
        cases e0
        have HA := Lib.hid (ahead_pos (f := id) hk0 hy); clear hy
        cases hle : leS x y
        · have HV := Lib.hid (show outErr (ahead id l k) x = 0 by rw [HO.out, HA.out]; simp [notAfter, hle])
          have hle' := leS_false hle
          have g1 := IntWalk.i64_in ((k : Int) - 1) ⟨by omega, by omega⟩; have g2 : ((k : Int) - 1).toNat = k - 1 := (by omega); have g3 : (0 : Int) ≤ (k : Int) - 1 := (by omega); have g4 : (k : Int) - 1 < n := (by omega)
          go_wp2_with (go_at_call 30; refine (blob_IsPath _ _ hEr).mono ?_; rintro e w1 ⟨rfl, hb1⟩; obtain ⟨hc1, hf1⟩ := bcell hb1)
          clear g1 g2 g3 g4
          go_round
          case rel => exact ⟨k + 1, by omega, by go_num, by rw [Hr.out]; exact list_round HX.out HV.out, fr_call hbel hb1⟩
          case measure => simp [intOf]; omega
        · have HV := Lib.hid (list_stop (key := id) HX.out (show outErr (ahead id l k) x = 8 by rw [HO.out, HA.out]; simp [notAfter, hle]) (by decide))
          have hle' := leS_true hle
          have g1 := IntWalk.i64_in ((k : Int) - 1) ⟨by omega, by omega⟩; have g2 : ((k : Int) - 1).toNat = k - 1 := (by omega); have g3 : (0 : Int) ≤ (k : Int) - 1 := (by omega); have g4 : (k : Int) - 1 < n := (by omega)
          go_wp2_with (go_at_call 30; refine (blob_IsPath _ _ hEr).mono ?_; rintro e w1 ⟨rfl, hb1⟩; obtain ⟨hc1, hf1⟩ := bcell hb1)
          clear g1 g2 g3 g4
          go_ret
          exact ⟨ret_int (by rw [HE1.out (by rw [Hr.out, HV.out]; decide), Hr.out, HV.out]), fr_call hbel hb1⟩
      · have hg : decide ((0 : Int) < (k : Int)) = false := by simpa using hk0
        have HV := Lib.hid (show outErr (ahead id l k) x = 0 by rw [HO.out, show ahead id l k = none by simp [ahead]; omega]; rfl)
        go_wp2_with (go_at_call 30; refine (blob_IsPath _ _ hEr).mono ?_; rintro e w1 ⟨rfl, hb1⟩; obtain ⟨hc1, hf1⟩ := bcell hb1)
        go_round
        case rel => exact ⟨k + 1, by omega, by go_num, by rw [Hr.out]; exact list_round HX.out HV.out, fr_call hbel hb1⟩
        case measure => simp [intOf]; omega
    · have HZ := Lib.hid (show listErr outErr id none l = 0 by rw [Hr.out, list_end (by rw [hsl.1]; omega)])
      have HP := Lib.hid (outs_paths HZ.out)
      have HR := Lib.hid (HE2.out HZ.out)
      go_wp2
      go_loopw [6, 37] (fun _ i wr => ∃ q : Nat, q ≤ n ∧ i = .int .i64 q ∧ (l.take q).any (fun p => l.any fun q => liesS p q) = false ∧ Below w.heap.size w wr) (fun _ i _ => n - (intOf i).toNat)
      case atStart => exact ⟨0, Nat.zero_le _, rfl, rfl, hbel⟩
      case round =>
        clear hbel
        obtain ⟨q, hq, rfl, hno, hbel⟩ := hrel
        have HN := Lib.hid hno; clear hno
        by_cases hlt2 : q < n
        · obtain ⟨b, o, x, rfl, hb, hx, hxs, c0⟩ := (hsl.keep (keep_lt hbel)).str hlt2
          have HX := Lib.hid hx; clear hx
          have hbel2 := fr_alloc hbel (.cells #[.string x] 9)
          have HC := Lib.hid (slices_ContainsFunc1 143 (enters_of Tryz.func143 (by kernel_rfl) rfl) (.pointer (some ⟨wr.heap.size, 0, none⟩)) (fun q => liesS x q) (some ⟨b, o, none⟩) n c l
            (wr.alloc (.cells #[.string x] 9)) (sl_call hsl hbel2 (Nat.le_refl _)) (fun W y hW _ hy => checkOutputs1 x y wr.heap.size W
              ((hW.cell (p := ⟨wr.heap.size, 0, none⟩) (by simp)).trans (by rw [World.cell?, heap_alloc_new wr (.cells #[.string x] 9)]; rfl)) (by have := path_size (HP.out y hy); omega)))
          cases hv : l.any (fun q => liesS x q)
          · have HQ := Lib.hid (any_step (p := fun p => l.any fun q => liesS p q) HX.out HN.out hv)
            rw [hv] at HC
            go_wp2_with fail
            refine HC.out.mono ?_
            rintro e w3 ⟨rfl, hb3⟩
            go_wp2
            go_round
            case rel => exact ⟨q + 1, by omega, by go_num, HQ.out, fr_call hbel2 hb3⟩
            case measure => simp [intOf]; omega
          · have HQ := Lib.hid (any_yes (p := fun p => l.any fun q => liesS p q) HX.out hv)
            rw [hv] at HC
            go_wp2_with fail
            refine HC.out.mono ?_
            rintro e w3 ⟨rfl, hb3⟩
            go_wp2
            go_ret
            exact ⟨ret_int (by rw [HR.out, if_pos HQ.out]), fr_call hbel2 hb3⟩
        · have HQ := Lib.hid (any_end (by rw [hsl.1]; omega) HN.out)
          go_wp2
          go_ret
          exact ⟨ret_int (by rw [HR.out, HQ.out]; rfl), hbel⟩
set_option maxHeartbeats 1000000 in
set_option maxRecDepth 100000 in
theorem ref5_checkOutputs (A : Option Addr) (n c : Nat) (l : List ByteArray) (w : World) (hE : Env w) (hsl : Sl w (Lt w.heap.size) A n l) : Calls Tryz.prog 89 #[.slice A n c] w fun e w' => e = .returned (.int .i64 (checkOutputsS l)) ∧ Below w.heap.size w w' := by
  have hm : n ≤ 9223372036854775807 := hsl.2.1
  have HL := Lib.hid hsl.1
  by_cases hn0 : n = 0
  · subst hn0
    have HV := Lib.hid (outs_none (l := l) HL.out)
    go_enter Tryz.func89, Tryz.ntmps89
    go_wp2
    go_ret; exact ⟨ret_int HV.out.symm, Below.refl _ _⟩
  have h0 : ((n : Int) == 0) = false := by rw [beq_eq_false_iff_ne]; omega
  by_cases hbig : (100 : Int) < n
  · have HV := Lib.hid (outs_large (l := l) (by rw [HL.out]; exact hn0) (by rw [HL.out]; exact hbig))
    go_enter Tryz.func89, Tryz.ntmps89
    go_wp2
    go_ret; exact ⟨ret_int HV.out.symm, Below.refl _ _⟩
  have HE1 := Lib.hid (fun h => outs_err (l := l) (by rw [HL.out]; exact hn0) (by rw [HL.out]; exact hbig) h)
  have HE2 := Lib.hid (fun h => outs_rest (l := l) (by rw [HL.out]; exact hn0) (by rw [HL.out]; exact hbig) h)
  go_enter Tryz.func89, Tryz.ntmps89
  go_wp2
  go_loopw [3] (fun i wr => ∃ k : Nat, k ≤ n ∧ i = .int .i64 k ∧ listErr outErr id none l = listErr outErr id (ahead id l k) (l.drop k) ∧ Below w.heap.size w wr) (fun i _ => n - (intOf i).toNat)
  case atStart => exact ⟨0, Nat.zero_le _, rfl, rfl, Below.refl _ _⟩
  case round =>
    obtain ⟨k, hk, rfl, hd, hbel⟩ := hrel
    have Hr := Lib.hid hd; clear hd
    by_cases hlt : k < n
    · obtain ⟨b, o, x, rfl, hb, hx, hxs, c0⟩ := (hsl.keep (keep_lt hbel)).str hlt
      have hbw : b < wr.heap.size := Nat.lt_of_lt_of_le hb hbel.size
      have HX := Lib.hid hx; clear hx
      have hEr := hE.then_ hbel
      cases hp : isPathS x
      · have HV := Lib.hid (list_stop (key := id) HX.out (outErr_path (prev := ahead id l k) hp) (by decide))
        go_wp2_with (go_at_call 36; refine (ref1_IsPath _ _ hEr).mono ?_; rintro e w1 ⟨rfl, hb1⟩; obtain ⟨hc1, hf1⟩ := bcell hb1)
        go_ret
        exact ⟨ret_int (by rw [HE1.out (by rw [Hr.out, HV.out]; decide), Hr.out, HV.out]), fr_call hbel hb1⟩
      have HO := Lib.hid (outErr_rest (prev := ahead id l k) hp)
      by_cases hk0 : 0 < k
      · have hg : decide ((0 : Int) < (k : Int)) = true := by simpa using hk0
        obtain ⟨_, _, y, e0, _, hy, hys, d0⟩ := (hsl.keep (keep_lt hbel)).str (k := k - 1) (by omega)
        cases e0
        have HA := Lib.hid (ahead_pos (f := id) hk0 hy); clear hy
        cases hle : leS x y
        · have HV := Lib.hid (show outErr (ahead id l k) x = 0 by rw [HO.out, HA.out]; simp [notAfter, hle])
          have hle' := leS_false hle
          go_wp2_with (go_at_call 36; refine (ref1_IsPath _ _ hEr).mono ?_; rintro e w1 ⟨rfl, hb1⟩; obtain ⟨hc1, hf1⟩ := bcell hb1)
          have d1 : w1.cell? ⟨b, o + (k - 1), none⟩ = some (.string y) := by rw [hb1.cell (by exact hbw)]; exact d0
          have d2 : w1.cell? ⟨b, o + k, none⟩ = some (.string x) := by rw [hb1.cell (by exact hbw)]; exact c0
          have g1 := IntWalk.i64_in ((k : Int) - 1) ⟨by omega, by omega⟩; have g2 : ((k : Int) - 1).toNat = k - 1 := (by omega); have g3 : (0 : Int) ≤ (k : Int) - 1 := (by omega); have g4 : (k : Int) - 1 < n := (by omega)
          go_quiet (fail)
          clear g1 g2 g3 g4
          go_wp2
          go_round
          case rel => exact ⟨k + 1, by omega, by go_num, by rw [Hr.out]; exact list_round HX.out HV.out, below_drewN (fr_call hbel hb1) _⟩
          case measure => simp [intOf]; omega
        · have HV := Lib.hid (list_stop (key := id) HX.out (show outErr (ahead id l k) x = 8 by rw [HO.out, HA.out]; simp [notAfter, hle]) (by decide))
          have hle' := leS_true hle
          go_wp2_with (go_at_call 36; refine (ref1_IsPath _ _ hEr).mono ?_; rintro e w1 ⟨rfl, hb1⟩; obtain ⟨hc1, hf1⟩ := bcell hb1)
          have d1 : w1.cell? ⟨b, o + (k - 1), none⟩ = some (.string y) := by rw [hb1.cell (by exact hbw)]; exact d0
          have d2 : w1.cell? ⟨b, o + k, none⟩ = some (.string x) := by rw [hb1.cell (by exact hbw)]; exact c0
          have g1 := IntWalk.i64_in ((k : Int) - 1) ⟨by omega, by omega⟩; have g2 : ((k : Int) - 1).toNat = k - 1 := (by omega); have g3 : (0 : Int) ≤ (k : Int) - 1 := (by omega); have g4 : (k : Int) - 1 < n := (by omega)
          go_quiet (fail)
          clear g1 g2 g3 g4
          go_wp2
          go_ret
          exact ⟨ret_int (by rw [HE1.out (by rw [Hr.out, HV.out]; decide), Hr.out, HV.out]), below_drewN (fr_call hbel hb1) _⟩
      · have hg : decide ((0 : Int) < (k : Int)) = false := by simpa using hk0
        have HV := Lib.hid (show outErr (ahead id l k) x = 0 by rw [HO.out, show ahead id l k = none by simp [ahead]; omega]; rfl)
        go_wp2_with (go_at_call 36; refine (ref1_IsPath _ _ hEr).mono ?_; rintro e w1 ⟨rfl, hb1⟩; obtain ⟨hc1, hf1⟩ := bcell hb1)
        go_quiet (fail)
        go_wp2
        go_round
        case rel => exact ⟨k + 1, by omega, by go_num, by rw [Hr.out]; exact list_round HX.out HV.out, below_drewN (fr_call hbel hb1) _⟩
        case measure => simp [intOf]; omega
    · have HZ := Lib.hid (show listErr outErr id none l = 0 by rw [Hr.out, list_end (by rw [hsl.1]; omega)])
      have HP := Lib.hid (outs_paths HZ.out)
      have HR := Lib.hid (HE2.out HZ.out)
      go_wp2
      go_loopw [4, 5] (fun i _ wr => ∃ q : Nat, q ≤ n ∧ i = .int .i64 q ∧ (l.take q).any (fun p => l.any fun q => liesS p q) = false ∧ Below w.heap.size w wr) (fun i _ _ => n - (intOf i).toNat)
      case atStart => exact ⟨0, Nat.zero_le _, rfl, rfl, hbel⟩
      case round =>
        clear hbel
        obtain ⟨q, hq, rfl, hno, hbel⟩ := hrel
        have HN := Lib.hid hno; clear hno
        by_cases hlt2 : q < n
        · obtain ⟨b, o, x, rfl, hb, hx, hxs, c0⟩ := (hsl.keep (keep_lt hbel)).str hlt2
          have HX := Lib.hid hx; clear hx c0
          go_wp2
          go_loopw [5] (fun i wr => ∃ p : Nat, p ≤ n ∧ i = .int .i64 p ∧ (l.take p).any (fun y => liesS x y) = false ∧ Below w.heap.size w wr) (fun i _ => n - (intOf i).toNat)
          case atStart => exact ⟨0, Nat.zero_le _, rfl, rfl, hbel⟩
          case round =>
            clear hbel
            obtain ⟨p, hp, rfl, hno2, hbel⟩ := hrel
            have HM := Lib.hid hno2; clear hno2
            by_cases hlt3 : p < n
            · obtain ⟨b2, o2, y, e2, hb2, hy, hys, c1⟩ := (hsl.keep (keep_lt hbel)).str hlt3
              cases e2
              obtain ⟨b3, o3, x', e3, hb3, hx', hxs', c0⟩ := (hsl.keep (keep_lt hbel)).str hlt2
              cases e3
              obtain rfl : x = x' := by rw [HX.out] at hx'; cases hx'; rfl
              have HY := Lib.hid hy; clear hy hx'
              have hyl : y.size ≤ 100000 := by have := path_size (HP.out y (List.mem_of_getElem? HY.out)); omega
              have hqI : (q : Int) < n := by omega
              have hpI : (p : Int) < n := by omega
              cases hv : liesS x y
              · have HQ := Lib.hid (any_step (p := fun y => liesS x y) HY.out HM.out hv)
                have HC := Lib.hid (fun W => (ref1_Lies x y W hyl).mono fun e w' h => (show e = Ending.returned (.bool (liesS x y)) ∧ w' = W from ⟨h.1, h.2.symm⟩))
                rw [hv] at HC
                go_wp2
                go_quiet ((go_at_call 55; exact Calls.quiet_of_same (HC.out _)))
                go_wp2
                go_round
                case rel => exact ⟨p + 1, by omega, by go_num, HQ.out, below_drewN hbel _⟩
                case measure => simp [intOf]; omega
              · have HQ := Lib.hid (any_yes (p := fun p => l.any fun q => liesS p q) HX.out (any_yes (p := fun y => liesS x y) HY.out hv))
                have HC := Lib.hid (fun W => (ref1_Lies x y W hyl).mono fun e w' h => (show e = Ending.returned (.bool (liesS x y)) ∧ w' = W from ⟨h.1, h.2.symm⟩))
                rw [hv] at HC
                go_wp2
                go_quiet ((go_at_call 55; exact Calls.quiet_of_same (HC.out _)))
                go_wp2
                go_ret
                exact ⟨ret_int (by rw [HR.out, if_pos HQ.out]), below_drewN hbel _⟩
            · have HQ := Lib.hid (any_step (p := fun p => l.any fun q => liesS p q) HX.out HN.out (any_end (by rw [hsl.1]; omega) HM.out))
              go_wp2
              go_round
              case rel => exact ⟨q + 1, by omega, by go_num, HQ.out, hbel⟩
              case measure => simp [intOf]; omega
        · have HQ := Lib.hid (any_end (by rw [hsl.1]; omega) HN.out)
          go_wp2
          go_ret
          exact ⟨ret_int (by rw [HR.out, HQ.out]; rfl), hbel⟩
end Go.Proofs.Sm
