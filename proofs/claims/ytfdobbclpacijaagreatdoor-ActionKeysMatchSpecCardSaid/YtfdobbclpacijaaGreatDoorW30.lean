/- Walks: slices of strings are searched. -/
import Derived.Test.YtfdobbclpacijaaGreatDoorW17
import Derived.Test.YtfdobbclpacijaaGreatDoorPlain10
namespace Go.Proofs.Sm
open Go.RowKit

def eqS (s x : ByteArray) : Bool := x.toList == s.toList
set_option maxRecDepth 100000 in
theorem slices_IndexStr (A : Option Addr) (n c : Nat) (l : List ByteArray) (s : ByteArray) (w : World) (hsl : Sl w (Lt w.heap.size) A n l) :
    Calls Tryz.prog 91 #[.slice A n c, .string s] w fun e w' => ∃ r : Int, e = .returned (.int .i64 r) ∧ decide (0 ≤ r) = l.any (eqS s) ∧ w = w' := by
  have hm : n ≤ 9223372036854775807 := hsl.2.1
  go_enter Tryz.func91, Tryz.ntmps91
  go_wp2
  go_loop [5, 8] (fun _ i => ∃ k : Nat, k ≤ n ∧ i = .int .i64 k ∧ (l.take k).any (eqS s) = false) (fun _ i => n - (intOf i).toNat)
  case atStart => exact ⟨0, Nat.zero_le _, rfl, rfl⟩
  case round =>
    obtain ⟨k, hk, rfl, hall⟩ := hrel
    have H := Lib.hid hall; clear hall
    by_cases hlt : k < n
    · obtain ⟨b, o, x, rfl, hb, hx, hxs, c0⟩ := hsl.str hlt
      have Hx := Lib.hid hx; clear hx
      cases hq : (s.toList == x.toList)
      · have hq2 : (x.toList == s.toList) = false := by rw [beq_eq_false_iff_ne] at *; exact fun e => hq e.symm
        have HS := Lib.hid (any_step (p := eqS s) Hx.out H.out hq2)
        go_wp2
        go_round
        case rel => exact ⟨k + 1, by omega, by go_num, HS.out⟩
        case measure => simp [intOf]; omega
      · have hq2 : (x.toList == s.toList) = true := by rw [beq_iff_eq] at *; exact hq.symm
        have HS := Lib.hid (any_yes (p := eqS s) Hx.out hq2)
        go_wp2
        go_ret
        exact ⟨k, rfl, by rw [HS.out]; simp, rfl⟩
    · have HS := Lib.hid (any_end (by rw [hsl.1]; omega) H.out)
      go_wp2
      go_ret
      exact ⟨-1, rfl, by rw [HS.out]; rfl, rfl⟩
theorem slices_ContainsStr (A : Option Addr) (n c : Nat) (l : List ByteArray) (s : ByteArray) (w : World) (hsl : Sl w (Lt w.heap.size) A n l) :
    Calls Tryz.prog 35 #[.slice A n c, .string s] w fun e w' => e = .returned (.bool (l.any (eqS s))) ∧ w = w' := by
  go_enter Tryz.func35, Tryz.ntmps35
  go_wp2_with (go_at_call 91; refine (slices_IndexStr A n c l s _ hsl).mono ?_; rintro e w1 ⟨r, rfl, hr, rfl⟩; have HR := Lib.hid hr; clear hr)
  go_ret
  exact ⟨ret_bool HR.out, rfl⟩

set_option maxRecDepth 100000 in
theorem slices_IndexFunc0 (g : Nat) (eg : ∀ args w, (callFunc g args).run Tryz.prog w = .ok (.enter g args) w) (p : ByteArray → Bool) (A : Option Addr) (n c : Nat) (l : List ByteArray) (w : World) (hsl : Sl w (Lt w.heap.size) A n l)
    (hp : ∀ W x, Below w.heap.size w W → x.size ≤ maxLen → x ∈ l → Calls Tryz.prog g #[.string x] W fun e w' => e = .returned (.bool (p x)) ∧ Below W.heap.size W w') :
    Calls Tryz.prog 172 #[.slice A n c, .func (.func g) #[] #[]] w fun e w' => ∃ r : Int, e = .returned (.int .i64 r) ∧ decide (0 ≤ r) = l.any p ∧ Below w.heap.size w w' := by
  have hm : n ≤ 9223372036854775807 := hsl.2.1
  have HP := Lib.hid hp; clear hp
  go_enter Tryz.func172, Tryz.ntmps172
  go_wp2
  go_loopw [5, 8] (fun _ i wr => ∃ k : Nat, k ≤ n ∧ i = .int .i64 k ∧ (l.take k).any p = false ∧ Below w.heap.size w wr) (fun _ i _ => n - (intOf i).toNat)
  case atStart => exact ⟨0, Nat.zero_le _, rfl, rfl, Below.refl _ _⟩
  case round =>
    obtain ⟨k, hk, rfl, hall, hbel⟩ := hrel
    have H := Lib.hid hall; clear hall
    by_cases hlt : k < n
    · obtain ⟨b, o, x, rfl, hb, hx, hxs, c0⟩ := (hsl.keep (keep_lt hbel)).str hlt
      have Hx := Lib.hid hx; clear hx
      cases hq : p x
      · have HS := Lib.hid (any_step (p := p) Hx.out H.out hq)
        go_wp2_with fail
        refine (HP.out wr x hbel hxs (List.mem_of_getElem? Hx.out)).mono ?_
        rintro e w1 ⟨rfl, hb1⟩
        go_wp2
        go_round
        case rel => exact ⟨k + 1, by omega, by go_num, HS.out, fr_call hbel hb1⟩
        case measure => simp [intOf]; omega
      · have HS := Lib.hid (any_yes (p := p) Hx.out hq)
        go_wp2_with fail
        refine (HP.out wr x hbel hxs (List.mem_of_getElem? Hx.out)).mono ?_
        rintro e w1 ⟨rfl, hb1⟩
        go_wp2
        go_ret
        exact ⟨k, rfl, by rw [HS.out]; simp, fr_call hbel hb1⟩
    · have HS := Lib.hid (any_end (by rw [hsl.1]; omega) H.out)
      go_wp2
      go_ret
      exact ⟨-1, rfl, by rw [HS.out]; rfl, hbel⟩
set_option maxRecDepth 100000 in
theorem slices_IndexFunc1 (g : Nat) (eg : ∀ args w, (callFunc g args).run Tryz.prog w = .ok (.enter g args) w) (v : Value) (p : ByteArray → Bool) (A : Option Addr) (n c : Nat) (l : List ByteArray) (w : World) (hsl : Sl w (Lt w.heap.size) A n l)
    (hp : ∀ W x, Below w.heap.size w W → x.size ≤ maxLen → x ∈ l → Calls Tryz.prog g #[.string x, v] W fun e w' => e = .returned (.bool (p x)) ∧ Below W.heap.size W w') :
    Calls Tryz.prog 172 #[.slice A n c, .func (.func g) #[] #[v]] w fun e w' => ∃ r : Int, e = .returned (.int .i64 r) ∧ decide (0 ≤ r) = l.any p ∧ Below w.heap.size w w' := by
  have hm : n ≤ 9223372036854775807 := hsl.2.1
  have HP := Lib.hid hp; clear hp
  go_enter Tryz.func172, Tryz.ntmps172
  go_wp2
  go_loopw [5, 8] (fun _ i wr => ∃ k : Nat, k ≤ n ∧ i = .int .i64 k ∧ (l.take k).any p = false ∧ Below w.heap.size w wr) (fun _ i _ => n - (intOf i).toNat)
  case atStart => exact ⟨0, Nat.zero_le _, rfl, rfl, Below.refl _ _⟩
  case round =>
    obtain ⟨k, hk, rfl, hall, hbel⟩ := hrel
    have H := Lib.hid hall; clear hall
    by_cases hlt : k < n
    · obtain ⟨b, o, x, rfl, hb, hx, hxs, c0⟩ := (hsl.keep (keep_lt hbel)).str hlt
      have Hx := Lib.hid hx; clear hx
      cases hq : p x
      · have HS := Lib.hid (any_step (p := p) Hx.out H.out hq)
        go_wp2_with fail
        refine (HP.out wr x hbel hxs (List.mem_of_getElem? Hx.out)).mono ?_
        rintro e w1 ⟨rfl, hb1⟩
        go_wp2
        go_round
        case rel => exact ⟨k + 1, by omega, by go_num, HS.out, fr_call hbel hb1⟩
        case measure => simp [intOf]; omega
      · have HS := Lib.hid (any_yes (p := p) Hx.out hq)
        go_wp2_with fail
        refine (HP.out wr x hbel hxs (List.mem_of_getElem? Hx.out)).mono ?_
        rintro e w1 ⟨rfl, hb1⟩
        go_wp2
        go_ret
        exact ⟨k, rfl, by rw [HS.out]; simp, fr_call hbel hb1⟩
    · have HS := Lib.hid (any_end (by rw [hsl.1]; omega) H.out)
      go_wp2
      go_ret
      exact ⟨-1, rfl, by rw [HS.out]; rfl, hbel⟩
theorem slices_ContainsFunc0 (g : Nat) (eg : ∀ args w, (callFunc g args).run Tryz.prog w = .ok (.enter g args) w) (p : ByteArray → Bool) (A : Option Addr) (n c : Nat) (l : List ByteArray) (w : World) (hsl : Sl w (Lt w.heap.size) A n l)
    (hp : ∀ W x, Below w.heap.size w W → x.size ≤ maxLen → x ∈ l → Calls Tryz.prog g #[.string x] W fun e w' => e = .returned (.bool (p x)) ∧ Below W.heap.size W w') :
    Calls Tryz.prog 121 #[.slice A n c, .func (.func g) #[] #[]] w fun e w' => e = .returned (.bool (l.any p)) ∧ Below w.heap.size w w' := by
  have HC := Lib.hid (slices_IndexFunc0 g eg p A n c l w hsl hp)
  clear hp eg
  go_enter Tryz.func121, Tryz.ntmps121
  go_wp2_with (go_at_call 172; refine HC.out.mono ?_; rintro e w1 ⟨r, rfl, hr, hb1⟩; have HR := Lib.hid hr; clear hr)
  go_ret
  exact ⟨ret_bool HR.out, hb1⟩
theorem slices_ContainsFunc1 (g : Nat) (eg : ∀ args w, (callFunc g args).run Tryz.prog w = .ok (.enter g args) w) (v : Value) (p : ByteArray → Bool) (A : Option Addr) (n c : Nat) (l : List ByteArray) (w : World) (hsl : Sl w (Lt w.heap.size) A n l)
    (hp : ∀ W x, Below w.heap.size w W → x.size ≤ maxLen → x ∈ l → Calls Tryz.prog g #[.string x, v] W fun e w' => e = .returned (.bool (p x)) ∧ Below W.heap.size W w') :
    Calls Tryz.prog 121 #[.slice A n c, .func (.func g) #[] #[v]] w fun e w' => e = .returned (.bool (l.any p)) ∧ Below w.heap.size w w' := by
  have HC := Lib.hid (slices_IndexFunc1 g eg v p A n c l w hsl hp)
  clear hp eg
  go_enter Tryz.func121, Tryz.ntmps121
  go_wp2_with (go_at_call 172; refine HC.out.mono ?_; rintro e w1 ⟨r, rfl, hr, hb1⟩; have HR := Lib.hid hr; clear hr)
  go_ret
  exact ⟨ret_bool HR.out, hb1⟩
end Go.Proofs.Sm
