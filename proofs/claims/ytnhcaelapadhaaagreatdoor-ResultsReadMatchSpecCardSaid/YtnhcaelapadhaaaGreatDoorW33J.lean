/- Walks: words and numbers. -/
import Derived.Test.YtnhcaelapadhaaaGreatDoorW17
import Derived.Test.YtnhcaelapadhaaaGreatDoorPlain10
import Derived.Test.YtnhcaelapadhaaaGreatDoorPlain17J
import Derived.Lib.AtoiErrMem
namespace Go.Proofs.Sm
open Go.RowKit

def eqS (s x : ByteArray) : Bool := x.toList == s.toList
set_option maxRecDepth 100000 in
theorem slices_IndexStr (A : Option Addr) (n c : Nat) (l : List ByteArray) (s : ByteArray) (w : World) (hsl : Sl w (Lt w.heap.size) A n l) :
    Calls Tryz.prog 62 #[.slice A n c, .string s] w fun e w' => ∃ r : Int, e = .returned (.int .i64 r) ∧ decide (0 ≤ r) = l.any (eqS s) ∧ w = w' := by
  have hm : n ≤ 9223372036854775807 := hsl.2.1
  go_enter Tryz.func62, Tryz.ntmps62
  go_wp2
  go_loop [5, 8] (fun _ i => ∃ k : Nat, k ≤ n ∧ i = .int .i64 k ∧ (l.take k).any (eqS s) = false) (fun _ i => n - (intOf i).toNat)
  case atStart => exact ⟨0, Nat.zero_le _, rfl, rfl⟩
  case round =>
    obtain ⟨k, hk, rfl, hall⟩ := hrel
    have H := Lib.hid hall; clear hall
    by_cases hlt : k < n
    · obtain ⟨b, o, x, rfl, hb, hx, hxs, c0⟩ := hsl.str hlt
      have Hx := Lib.hid hx; clear hx
      cases hq : (s.toList == x.toList)
      · have hq2 : (x.toList == s.toList) = false := by rw [beq_eq_false_iff_ne] at *; exact fun e => hq e.symm
        have HS := Lib.hid (any_step (p := eqS s) Hx.out H.out hq2)
        go_wp2
        go_round
        case rel => exact ⟨k + 1, by omega, by go_num, HS.out⟩
        case measure => simp [intOf]; omega
      · have hq2 : (x.toList == s.toList) = true := by rw [beq_iff_eq] at *; exact hq.symm
        have HS := Lib.hid (any_yes (p := eqS s) Hx.out hq2)
        go_wp2
        go_ret
        exact ⟨k, rfl, by rw [HS.out]; simp, rfl⟩
    · have HS := Lib.hid (any_end (by rw [hsl.1]; omega) H.out)
      go_wp2
      go_ret
      exact ⟨-1, rfl, by rw [HS.out]; rfl, rfl⟩
theorem slices_ContainsStr (A : Option Addr) (n c : Nat) (l : List ByteArray) (s : ByteArray) (w : World) (hsl : Sl w (Lt w.heap.size) A n l) :
    Calls Tryz.prog 64 #[.slice A n c, .string s] w fun e w' => e = .returned (.bool (l.any (eqS s))) ∧ w = w' := by
  go_enter Tryz.func64, Tryz.ntmps64
  go_wp2_with (go_at_call 62; refine (slices_IndexStr A n c l s _ hsl).mono ?_; rintro e w1 ⟨r, rfl, hr, rfl⟩; have HR := Lib.hid hr; clear hr)
  go_ret
  exact ⟨ret_bool HR.out, rfl⟩

set_option maxRecDepth 100000 in
theorem slices_IndexFunc0 (g : Nat) (eg : ∀ args w, (callFunc g args).run Tryz.prog w = .ok (.enter g args) w) (p : ByteArray → Bool) (A : Option Addr) (n c : Nat) (l : List ByteArray) (w : World) (hsl : Sl w (Lt w.heap.size) A n l)
    (hp : ∀ W x, Below w.heap.size w W → x.size ≤ maxLen → x ∈ l → Calls Tryz.prog g #[.string x] W fun e w' => e = .returned (.bool (p x)) ∧ Below W.heap.size W w') :
    Calls Tryz.prog 143 #[.slice A n c, .func (.func g) #[] #[]] w fun e w' => ∃ r : Int, e = .returned (.int .i64 r) ∧ decide (0 ≤ r) = l.any p ∧ Below w.heap.size w w' := by
  have hm : n ≤ 9223372036854775807 := hsl.2.1
  have HP := Lib.hid hp; clear hp
  go_enter Tryz.func143, Tryz.ntmps143
  go_wp2
  go_loopw [5, 8] (fun _ i wr => ∃ k : Nat, k ≤ n ∧ i = .int .i64 k ∧ (l.take k).any p = false ∧ Below w.heap.size w wr) (fun _ i _ => n - (intOf i).toNat)
  case atStart => exact ⟨0, Nat.zero_le _, rfl, rfl, Below.refl _ _⟩
  case round =>
    obtain ⟨k, hk, rfl, hall, hbel⟩ := hrel
    have H := Lib.hid hall; clear hall
    by_cases hlt : k < n
    · obtain ⟨b, o, x, rfl, hb, hx, hxs, c0⟩ := (hsl.keep (keep_lt hbel)).str hlt
      have Hx := Lib.hid hx; clear hx
      cases hq : p x
      · have HS := Lib.hid (any_step (p := p) Hx.out H.out hq)
        go_wp2_with fail
        refine (HP.out wr x hbel hxs (List.mem_of_getElem? Hx.out)).mono ?_
        rintro e w1 ⟨rfl, hb1⟩
        go_wp2
        go_round
        case rel => exact ⟨k + 1, by omega, by go_num, HS.out, fr_call hbel hb1⟩
        case measure => simp [intOf]; omega
      · have HS := Lib.hid (any_yes (p := p) Hx.out hq)
        go_wp2_with fail
        refine (HP.out wr x hbel hxs (List.mem_of_getElem? Hx.out)).mono ?_
        rintro e w1 ⟨rfl, hb1⟩
        go_wp2
        go_ret
        exact ⟨k, rfl, by rw [HS.out]; simp, fr_call hbel hb1⟩
    · have HS := Lib.hid (any_end (by rw [hsl.1]; omega) H.out)
      go_wp2
      go_ret
      exact ⟨-1, rfl, by rw [HS.out]; rfl, hbel⟩
set_option maxRecDepth 100000 in
theorem slices_IndexFunc1 (g : Nat) (eg : ∀ args w, (callFunc g args).run Tryz.prog w = .ok (.enter g args) w) (v : Value) (p : ByteArray → Bool) (A : Option Addr) (n c : Nat) (l : List ByteArray) (w : World) (hsl : Sl w (Lt w.heap.size) A n l)
    (hp : ∀ W x, Below w.heap.size w W → x.size ≤ maxLen → x ∈ l → Calls Tryz.prog g #[.string x, v] W fun e w' => e = .returned (.bool (p x)) ∧ Below W.heap.size W w') :
    Calls Tryz.prog 143 #[.slice A n c, .func (.func g) #[] #[v]] w fun e w' => ∃ r : Int, e = .returned (.int .i64 r) ∧ decide (0 ≤ r) = l.any p ∧ Below w.heap.size w w' := by
  have hm : n ≤ 9223372036854775807 := hsl.2.1
  have HP := Lib.hid hp; clear hp
  go_enter Tryz.func143, Tryz.ntmps143
  go_wp2
  go_loopw [5, 8] (fun _ i wr => ∃ k : Nat, k ≤ n ∧ i = .int .i64 k ∧ (l.take k).any p = false ∧ Below w.heap.size w wr) (fun _ i _ => n - (intOf i).toNat)
  case atStart => exact ⟨0, Nat.zero_le _, rfl, rfl, Below.refl _ _⟩
  case round =>
    obtain ⟨k, hk, rfl, hall, hbel⟩ := hrel
    have H := Lib.hid hall; clear hall
    by_cases hlt : k < n
    · obtain ⟨b, o, x, rfl, hb, hx, hxs, c0⟩ := (hsl.keep (keep_lt hbel)).str hlt
      have Hx := Lib.hid hx; clear hx
      cases hq : p x
      · have HS := Lib.hid (any_step (p := p) Hx.out H.out hq)
        go_wp2_with fail
        refine (HP.out wr x hbel hxs (List.mem_of_getElem? Hx.out)).mono ?_
        rintro e w1 ⟨rfl, hb1⟩
        go_wp2
        go_round
        case rel => exact ⟨k + 1, by omega, by go_num, HS.out, fr_call hbel hb1⟩
        case measure => simp [intOf]; omega
      · have HS := Lib.hid (any_yes (p := p) Hx.out hq)
        go_wp2_with fail
        refine (HP.out wr x hbel hxs (List.mem_of_getElem? Hx.out)).mono ?_
        rintro e w1 ⟨rfl, hb1⟩
        go_wp2
        go_ret
        exact ⟨k, rfl, by rw [HS.out]; simp, fr_call hbel hb1⟩
    · have HS := Lib.hid (any_end (by rw [hsl.1]; omega) H.out)
      go_wp2
      go_ret
      exact ⟨-1, rfl, by rw [HS.out]; rfl, hbel⟩
theorem slices_ContainsFunc0 (g : Nat) (eg : ∀ args w, (callFunc g args).run Tryz.prog w = .ok (.enter g args) w) (p : ByteArray → Bool) (A : Option Addr) (n c : Nat) (l : List ByteArray) (w : World) (hsl : Sl w (Lt w.heap.size) A n l)
    (hp : ∀ W x, Below w.heap.size w W → x.size ≤ maxLen → x ∈ l → Calls Tryz.prog g #[.string x] W fun e w' => e = .returned (.bool (p x)) ∧ Below W.heap.size W w') :
    Calls Tryz.prog 100 #[.slice A n c, .func (.func g) #[] #[]] w fun e w' => e = .returned (.bool (l.any p)) ∧ Below w.heap.size w w' := by
  have HC := Lib.hid (slices_IndexFunc0 g eg p A n c l w hsl hp)
  clear hp eg
  go_enter Tryz.func100, Tryz.ntmps100
  go_wp2_with (go_at_call 143; refine HC.out.mono ?_; rintro e w1 ⟨r, rfl, hr, hb1⟩; have HR := Lib.hid hr; clear hr)
  go_ret
  exact ⟨ret_bool HR.out, hb1⟩
theorem slices_ContainsFunc1 (g : Nat) (eg : ∀ args w, (callFunc g args).run Tryz.prog w = .ok (.enter g args) w) (v : Value) (p : ByteArray → Bool) (A : Option Addr) (n c : Nat) (l : List ByteArray) (w : World) (hsl : Sl w (Lt w.heap.size) A n l)
    (hp : ∀ W x, Below w.heap.size w W → x.size ≤ maxLen → x ∈ l → Calls Tryz.prog g #[.string x, v] W fun e w' => e = .returned (.bool (p x)) ∧ Below W.heap.size W w') :
    Calls Tryz.prog 100 #[.slice A n c, .func (.func g) #[] #[v]] w fun e w' => e = .returned (.bool (l.any p)) ∧ Below w.heap.size w w' := by
  have HC := Lib.hid (slices_IndexFunc1 g eg v p A n c l w hsl hp)
  clear hp eg
  go_enter Tryz.func100, Tryz.ntmps100
  go_wp2_with (go_at_call 143; refine HC.out.mono ?_; rintro e w1 ⟨r, rfl, hr, hb1⟩; have HR := Lib.hid hr; clear hr)
  go_ret
  exact ⟨ret_bool HR.out, hb1⟩
end Go.Proofs.Sm

namespace Go.Proofs.Sm
open Go.RowKit

set_option maxRecDepth 100000 in
theorem ref5_bytesIn (s : ByteArray) (lo hi : Int) (w : World) (hs : s.size ≤ maxLen) : Calls Tryz.prog 85 #[.string s, .int .u8 lo, .int .u8 hi] w fun e w' => e = .returned (.bool (s.data.toList.all (bytesInB lo hi))) ∧ w = w' := by
  have hm : s.size ≤ 9223372036854775807 := hs
  generalize hR : s.data.toList.all (bytesInB lo hi) = R
  have HR := Lib.hid hR; clear hR
  go_enter Tryz.func85, Tryz.ntmps85
  go_wp2
  go_loop [7] (fun i => ∃ k : Nat, k ≤ s.size ∧ i = .int .i64 k ∧ (s.data.toList.take k).all (bytesInB lo hi) = true) (fun i => s.size - (intOf i).toNat)
  case atStart => exact ⟨0, Nat.zero_le _, rfl, rfl⟩
  case round =>
    obtain ⟨k, hk, rfl, hall⟩ := hrel
    have H := Lib.hid hall; clear hall
    by_cases hlt : k < s.size
    · go_wp2
      all_goals first
        | (go_round; (case rel => exact ⟨k + 1, by omega, by go_num, all_step hlt H.out (by simp [bytesInB]; simp at *; omega)⟩); (case measure => simp [intOf]; omega))
        | (go_ret; exact ⟨ret_bool (by rw [← HR.out, all_no (p := bytesInB lo hi) hlt (by simp [bytesInB]; simp at *; omega)]), rfl⟩)
    · have He := Lib.hid (all_end hlt H.out)
      go_wp2
      go_ret; exact ⟨ret_bool (by rw [← HR.out, He.out]), rfl⟩
set_option maxRecDepth 100000 in
theorem act_isWord (s : ByteArray) (w : World) (hs : s.size ≤ maxLen) : Calls Tryz.prog 102 #[.string s] w fun e w' => e = .returned (.bool (isWordS s)) ∧ w = w' := by
  have hm : s.size ≤ 9223372036854775807 := hs
  go_enter Tryz.func102, Tryz.ntmps102
  go_wp2
  go_loop [3, 6] (fun _ i => ∃ k : Nat, k ≤ s.size ∧ i = .int .i64 k ∧ (s.data.toList.take k).all (bytesInB 33 126) = true) (fun _ i => s.size - (intOf i).toNat)
  case atStart => exact ⟨0, Nat.zero_le _, rfl, rfl⟩
  case round =>
    obtain ⟨k, hk, rfl, hall⟩ := hrel
    have H := Lib.hid hall; clear hall
    by_cases hlt : k < s.size
    · go_wp2
      all_goals first
        | (go_round; (case rel => exact ⟨k + 1, by omega, by go_num, all_step hlt H.out (by simp [bytesInB]; simp at *; omega)⟩); (case measure => simp [intOf]; omega))
        | (go_ret; exact ⟨ret_bool (by rw [isWordS, all_no hlt (by simp [bytesInB]; simp at *; omega)]; rfl), rfl⟩)
    · have He := Lib.hid (all_end hlt H.out)
      go_wp2
      all_goals (go_ret; refine ⟨ret_bool ?_, rfl⟩; rw [isWordS, He.out]; simp [withinB] <;> omega)

/-- strings.Trim at the ten digits. -/
theorem trim_digits_any (s : ByteArray) (w : World) (hs : s.size ≤ maxLen) : Calls Tryz.prog 99 #[.string s, .string ⟨#[48, 49, 50, 51, 52, 53, 54, 55, 56, 57]⟩] w fun e w' =>
    ∃ r : ByteArray, e = .returned (.string r) ∧ r.toList.isEmpty = s.data.toList.all digitB ∧ Below w.heap.size w w' := by
  refine (Any.strings_Trim_laid Tryz.lays160 (by kernel_rfl) s ⟨#[48, 49, 50, 51, 52, 53, 54, 55, 56, 57]⟩ w hs (by decide) (ascii_of_all (by decide))).mono ?_
  rintro e w' ⟨rfl, hb⟩
  refine ⟨_, rfl, ?_, hb⟩
  rw [Lib.toList_data, Bool.eq_iff_iff, List.isEmpty_iff]
  exact trim_digits _

set_option maxRecDepth 100000 in
theorem act_isNumber (s : ByteArray) (m : Int) (w : World) (hs : s.size ≤ maxLen) : Calls Tryz.prog 66 #[.string s, .int .i64 m] w fun e w' => e = .returned (.bool (isNumberS s m)) ∧ Below w.heap.size w w' := by
  have hm : s.size ≤ 9223372036854775807 := hs
  cases hw : withinB s.size 1 m
  · have HV := Lib.hid (show isNumberS s m = false by rw [isNumberS, hw]; rfl)
    have h1 := withinB_false hw
    clear hw
    go_enter Tryz.func66, Tryz.ntmps66
    go_wp2
    all_goals first
      | (exfalso; omega)
      | (go_ret; exact ⟨ret_bool HV.out.symm, Below.refl _ _⟩)
  · have h1 := withinB_true hw
    have HW := Lib.hid hw; clear hw
    cases hd : s.data.toList.all digitB
    · have HV := Lib.hid (show isNumberS s m = false by rw [isNumberS, hd]; simp)
      have HD := Lib.hid hd; clear hd
      go_enter Tryz.func66, Tryz.ntmps66
      go_wp2_with (go_at_call 99; refine (trim_digits_any s w hs).mono ?_; rintro e w1 ⟨r, rfl, hr, hb⟩; rw [HD.out] at hr; have hr2 : ¬ r.toList = [] := by simpa using hr)
      go_ret; exact ⟨ret_bool HV.out.symm, hb⟩
    · have HD := Lib.hid hd; clear hd
      have h0 : 0 < s.size := by omega
      cases hf : ((s[0].toNat : Int) == 48)
      · have hf2 : ((s[0].toNat : Int) != 48) = true := by rw [bne, hf]; rfl
        have HV := Lib.hid (show isNumberS s m = true by
          rw [isNumberS, HW.out, HD.out]
          by_cases h2 : 1 < s.size
          · rw [leadOk_two h2, hf]; rfl
          · rw [leadOk_one (by omega)]; rfl)
        go_enter Tryz.func66, Tryz.ntmps66
        go_wp2_with (go_at_call 99; refine (trim_digits_any s w hs).mono ?_; rintro e w1 ⟨r, rfl, hr, hb⟩; rw [HD.out] at hr; have hr2 : r.toList = [] := by simpa using hr)
        go_ret; exact ⟨ret_bool HV.out.symm, hb⟩
      · have hf2 : ((s[0].toNat : Int) != 48) = false := by rw [bne, hf]; rfl
        by_cases h2 : 1 < s.size
        · have HV := Lib.hid (show isNumberS s m = false by rw [isNumberS, HW.out, HD.out, leadOk_two h2, hf]; rfl)
          have hne : ¬ s.toList = [48] := by
            intro e
            have e1 := congrArg List.length e
            have e2 : s.data.toList.length = s.size := by simp
            rw [Lib.toList_data, e2] at e1
            simp only [List.length_cons, List.length_nil] at e1
            omega
          go_enter Tryz.func66, Tryz.ntmps66
          go_wp2_with (go_at_call 99; refine (trim_digits_any s w hs).mono ?_; rintro e w1 ⟨r, rfl, hr, hb⟩; rw [HD.out] at hr; have hr2 : r.toList = [] := by simpa using hr)
          go_ret; exact ⟨ret_bool (by rw [HV.out] <;> simp [hne]), hb⟩
        · have HV := Lib.hid (show isNumberS s m = true by rw [isNumberS, HW.out, HD.out, leadOk_one (by omega)]; rfl)
          have he : s.toList = [48] := by
            rw [Lib.toList_data]
            have h3 := byte_at s 0 h0
            have h4 : s.data.toList.length = 1 := by have : s.data.toList.length = s.size := by simp
                                                     omega
            cases hl : s.data.toList with
            | nil => rw [hl] at h4; simp at h4
            | cons a l =>
              rw [hl] at h3 h4
              cases h3
              have : l = [] := List.eq_nil_of_length_eq_zero (by simpa using h4)
              subst this
              have hf3 : (s[0].toNat : Int) = 48 := by rw [beq_iff_eq] at hf; exact hf
              congr 1
              apply UInt8.toNat_inj.1
              have : (48 : UInt8).toNat = 48 := rfl
              omega
          go_enter Tryz.func66, Tryz.ntmps66
          go_wp2_with (go_at_call 99; refine (trim_digits_any s w hs).mono ?_; rintro e w1 ⟨r, rfl, hr, hb⟩; rw [HD.out] at hr; have hr2 : r.toList = [] := by simpa using hr)
          go_ret; exact ⟨ret_bool (by rw [HV.out] <;> simp [he]), hb⟩
theorem atoi_any (s : ByteArray) (m : Int) (w : World) (h : isNumberS s m = true) (hm : m ≤ 18) : Calls Tryz.prog 65 #[.string s] w fun e w' => e = .returned (.tuple #[.int .i64 (numS s : Nat), .nilIface]) ∧ Below w.heap.size w w' :=
  (Tryz.strconv_Atoi s _ (by have := (number_some h).2.2.1; omega) (number_atoi h) w).mono fun e w' ⟨h1, t, h2⟩ => ⟨h1, by rw [h2]; exact Lib.bytesWorld_below _ _ _⟩
set_option maxRecDepth 100000 in
theorem ref5_numbered (s : ByteArray) (m : Int) (w : World) (hs : s.size ≤ maxLen) (h18 : m ≤ 18) :
    Calls Tryz.prog 50 #[.string s, .int .i64 m] w fun e w' => e = .returned (.tuple #[.int .i64 (if isNumberS s m then (numS s : Nat) else 0 : Int), .bool (isNumberS s m)]) ∧ Below w.heap.size w w' := by
  have hm : s.size ≤ 9223372036854775807 := hs
  have h48 : (s.data.toList.all (bytesInB 48 57)) = s.data.toList.all digitB := rfl
  cases hn : isNumberS s m
  · have HN := Lib.hid hn; clear hn
    by_cases h0 : s.size = 0
    · have he : s.toList = [] := by rw [Lib.toList_data]; exact List.eq_nil_of_length_eq_zero (by simpa using h0)
      clear h0
      go_enter Tryz.func50, Tryz.ntmps50
      go_wp2
      go_ret2; exact ⟨rfl, Below.refl _ _⟩
    · have he : s.toList.isEmpty = false := by
        rw [Lib.toList_data, List.isEmpty_eq_false_iff]
        exact fun e => h0 (by have := congrArg List.length e; simpa using this)
      by_cases h2 : m < s.size
      · go_enter Tryz.func50, Tryz.ntmps50
        go_wp2
        go_ret2; exact ⟨rfl, Below.refl _ _⟩
      · by_cases h1 : 1 < s.size
        · cases hf : ((s[0].toNat : Int) == 48)
          · have hd : s.data.toList.all (bytesInB 48 57) = false := by
              have := HN.out
              rw [isNumberS, leadOk_two h1, hf, show withinB s.size 1 m = true by simp [withinB]; omega] at this
              rw [h48]; simpa using this
            clear h48
            go_enter Tryz.func50, Tryz.ntmps50
            go_wp2_with (go_at_call 85; refine (ref5_bytesIn _ _ _ _ hs).mono ?_; rintro e w1 ⟨rfl, rfl⟩)
            go_ret2; exact ⟨rfl, Below.refl _ _⟩
          · go_enter Tryz.func50, Tryz.ntmps50
            go_wp2_with (go_at_call 85; refine (ref5_bytesIn _ _ _ _ hs).mono ?_; rintro e w1 ⟨rfl, rfl⟩)
            go_ret2; exact ⟨rfl, Below.refl _ _⟩
        · have hd : s.data.toList.all (bytesInB 48 57) = false := by
            have := HN.out
            rw [isNumberS, leadOk_one (by omega), show withinB s.size 1 m = true by simp [withinB]; omega] at this
            rw [h48]; simpa using this
          clear h48
          go_enter Tryz.func50, Tryz.ntmps50
          go_wp2_with (go_at_call 85; refine (ref5_bytesIn _ _ _ _ hs).mono ?_; rintro e w1 ⟨rfl, rfl⟩)
          go_ret2; exact ⟨rfl, Below.refl _ _⟩
  · have HN := Lib.hid hn
    have hw : withinB s.size 1 m = true ∧ s.data.toList.all (bytesInB 48 57) = true ∧ leadOk s.data.toList = true := by
      simp only [isNumberS, Bool.and_eq_true] at hn
      exact ⟨hn.1.1, by rw [h48]; exact hn.1.2, hn.2⟩
    obtain ⟨hw1, hw2, hw3⟩ := hw
    have h1 := withinB_true hw1
    clear hw1 hn h48
    have h0 : 0 < s.size := by omega
    have he : s.toList.isEmpty = false := by
      rw [Lib.toList_data, List.isEmpty_eq_false_iff]
      intro e
      have e1 := congrArg List.length e
      have e2 : s.data.toList.length = s.size := by simp
      rw [e2] at e1
      simp only [List.length_nil] at e1
      omega
    by_cases h2 : 1 < s.size
    · have hf : ((s[0].toNat : Int) == 48) = false := by rw [leadOk_two h2] at hw3; simpa using hw3
      clear hw3
      go_enter Tryz.func50, Tryz.ntmps50
      go_wp2_with (first | (go_at_call 85; refine (ref5_bytesIn _ _ _ _ hs).mono ?_; rintro e w1 ⟨rfl, rfl⟩) | (go_at_call 65; refine (atoi_any s m _ HN.out h18).mono ?_; rintro e w1 ⟨rfl, hb1⟩))
      go_ret2; exact ⟨rfl, hb1⟩
    · clear hw3
      go_enter Tryz.func50, Tryz.ntmps50
      go_wp2_with (first | (go_at_call 85; refine (ref5_bytesIn _ _ _ _ hs).mono ?_; rintro e w1 ⟨rfl, rfl⟩) | (go_at_call 65; refine (atoi_any s m _ HN.out h18).mono ?_; rintro e w1 ⟨rfl, hb1⟩))
      go_ret2; exact ⟨rfl, hb1⟩
end Go.Proofs.Sm
