/- Walks: commands are validated. -/
import Derived.Test.YtogjdgpghpkgmaaGreatDoorH10x2
import Derived.Lib.Atoi
import Derived.Lib.AtoiErrMem
import Derived.Deep.RegionHeld3
namespace Go.Proofs.Sm
open Go.RowKit

structure VarV where
  name : ByteArray
  value : ByteArray
structure ActionV where
  tool : ByteArray
  commands : List (List ByteArray)
  vars : List VarV
  outputs : List ByteArray
  needs : List VarV
  time : Int

instance : Rep VarV where
  sz := 2
  rep _ _ x vs := vs = [.string x.name, .string x.value] ∧ x.name.size ≤ maxLen ∧ x.value.size ≤ maxLen
  len h := by rw [h.1]; rfl
  keep _ h := h
  more _ h := h
theorem Sl.var {w : World} {S : Nat → Prop} {A : Option Addr} {n k : Nat} {l : List VarV} (h : Sl w S A n l) (hk : k < n) :
    ∃ b o x, A = some ⟨b, o, none⟩ ∧ S b ∧ l[k]? = some x ∧ x.name.size ≤ maxLen ∧ x.value.size ≤ maxLen ∧
      w.cell? ⟨b, o + k * 2, none⟩ = some (.string x.name) ∧ w.cell? ⟨b, o + k * 2 + 1, none⟩ = some (.string x.value) := by
  have hk' : k < l.length := by rw [h.1]; exact hk
  obtain ⟨b, o, vs, e, hb, ⟨rfl, h1, h2⟩, ha⟩ := h.at hk'
  exact ⟨b, o, _, e, hb, List.getElem?_eq_getElem hk', h1, h2, ha 0 _ rfl, ha 1 _ rfl⟩
/-- a list of lists -/
theorem Sl.row {α : Type} [Rep α] {w : World} {S : Nat → Prop} {A : Option Addr} {n k : Nat} {l : List (List α)} (h : Sl w S A n l) (hk : k < n) :
    ∃ b o x A' n' c', A = some ⟨b, o, none⟩ ∧ S b ∧ l[k]? = some x ∧ n' ≤ c' ∧ c' ≤ maxLen ∧ Sl w S A' n' x ∧ w.cell? ⟨b, o + k, none⟩ = some (.slice A' n' c') := by
  have hk' : k < l.length := by rw [h.1]; exact hk
  obtain ⟨b, o, vs, e, hb, ⟨A', n', c', rfl, h2, h3, h4⟩, ha⟩ := h.at hk'
  have h0 := ha 0 _ rfl
  simp only [Rep.sz, Nat.mul_one, Nat.add_zero] at h0
  exact ⟨b, o, _, A', n', c', e, hb, List.getElem?_eq_getElem hk', h2, h3, h4, h0⟩

/-! ### Lists of things in order -/
def listErr {α : Type} (err : Option ByteArray → α → Int) (key : α → ByteArray) : Option ByteArray → List α → Int
  | _, [] => 0
  | prev, x :: r => if err prev x = 0 then listErr err key (some (key x)) r else err prev x
theorem list_round {α : Type} {err : Option ByteArray → α → Int} {key : α → ByteArray} {l : List α} {k : Nat} {x : α} (hx : l[k]? = some x) (h : err (ahead key l k) x = 0) :
    listErr err key (ahead key l k) (l.drop k) = listErr err key (ahead key l (k + 1)) (l.drop (k + 1)) := by
  rw [drop_at hx, listErr, if_pos h, ahead_succ hx]
theorem list_stop {α : Type} {err : Option ByteArray → α → Int} {key : α → ByteArray} {l : List α} {k : Nat} {x : α} {e : Int} (hx : l[k]? = some x) (h : err (ahead key l k) x = e) (he : e ≠ 0) :
    listErr err key (ahead key l k) (l.drop k) = e := by
  rw [drop_at hx, listErr, if_neg (by rw [h]; exact he), h]
theorem list_end {α : Type} {err : Option ByteArray → α → Int} {key : α → ByteArray} {l : List α} {k : Nat} (hk : l.length ≤ k) : listErr err key (ahead key l k) (l.drop k) = 0 := by
  rw [List.drop_eq_nil_of_le hk]; rfl

/-! ### Words, numbers, names -/
def bytesInB (lo hi : Int) (c : UInt8) : Bool := decide (lo ≤ (c.toNat : Int)) && decide ((c.toNat : Int) ≤ hi)
def isWordS (s : ByteArray) : Bool := s.data.toList.all (bytesInB 33 126) && withinB s.size 1 300
/-- no needless 0 -/
def leadOk (l : List UInt8) : Bool := !(l.head? == some 48) || l == [48]
def isNumberS (s : ByteArray) (most : Int) : Bool := withinB s.size 1 most && s.data.toList.all digitB && leadOk s.data.toList
def smallI (c : Int) : Bool := 97 ≤ c && c ≤ 122
def nameI (c : Int) : Bool := smallI c || digitI c || c == 95
def nameB (c : UInt8) : Bool := nameI (c.toNat : Int)
/-- the words of the language -/
def langWords : List (List UInt8) := [[109, 97, 99, 114, 111], [102, 111, 114], [105, 110], [105, 102], [101, 108, 115, 101], [117, 115, 101], [102, 105, 108, 101, 115], [99, 104, 111, 111, 115, 101]]
def isNameS (s : ByteArray) : Bool := withinB s.size 1 40 && (match s.data.toList with | [] => false | c :: _ => smallI (c.toNat : Int)) && s.data.toList.all nameB && !(langWords.contains s.data.toList)

/-! ### Commands -/
/-- what stands behind the word of a command, and whether more may follow -/
def formS (w : List UInt8) : Option (List UInt8 × Bool) :=
  if w = [106, 111, 105, 110] then some ([112, 112], true)
  else if w = [115, 111, 114, 116] ∨ w = [99, 111, 117, 110, 116] ∨ w = [101, 120, 112, 97, 110, 100] ∨ w = [109, 97, 107, 101] ∨ w = [100, 105, 103, 101, 115, 116] ∨ w = [108, 105, 115, 116] ∨ w = [115, 97, 109, 101] then some ([112, 112], false)
  else if w = [102, 105, 114, 115, 116] then some ([112, 110, 112], false)
  else if w = [99, 104, 97, 110, 103, 101] then some ([112, 119, 119, 112], false)
  else if w = [112, 105, 99, 107] then some ([112, 112, 112], true)
  else if w = [118, 97, 114] then some ([112, 119], false)
  else if w = [116, 101, 108, 108] then some ([119], true)
  else if w = [110, 101, 101, 100] then some ([112], false)
  else if w = [102, 97, 105, 108] then some ([110], false)
  else none
def fitsS (k : UInt8) (s : ByteArray) : Bool := if k = 112 then isPathS s else if k = 110 then isNumberS s 6 else true
/-- words have a form, from word i on -/
def wordsFit (kinds : List UInt8) : Nat → List ByteArray → Bool
  | _, [] => true
  | i, s :: r => fitsS (kinds.getD (min i (kinds.length - 1)) 0) s && wordsFit kinds (i + 1) r
def hasFormS (words : List ByteArray) (kinds : List UInt8) (more : Bool) : Bool :=
  decide (kinds.length ≤ words.length) && (decide (words.length ≤ kinds.length) || more) && wordsFit kinds 0 words
def checkCommandS (c : List ByteArray) : Int :=
  if 50 < (c.length : Int) then 2
  else match c with
  | [] => 9
  | c0 :: words =>
    if c.all isWordS = false then 3
    else match formS c0.data.toList with
      | none => 4
      | some (kinds, more) => if hasFormS words kinds more = false then 3 else if (c0.data.toList == [102, 97, 105, 108] && (words.head?.map fun s => s.data.toList) == some [48]) = true then 3 else 0
def commandsErr : List (List ByteArray) → Int
  | [] => 0
  | c :: r => if checkCommandS c = 0 then commandsErr r else checkCommandS c

/-! ### Variables, outputs -/
def varErr (prev : Option ByteArray) (v : VarV) : Int :=
  if isNameS v.name = false then 5 else if (decide (300 < (v.value.size : Int)) || !(v.value.data.toList.all (bytesInB 32 126))) = true then 3 else if notAfter prev v.name then 8 else 0
def checkVarsS (l : List VarV) : Int := if 30 < (l.length : Int) then 2 else listErr varErr VarV.name none l
def outErr (prev : Option ByteArray) (p : ByteArray) : Int := if isPathS p = false then 3 else if notAfter prev p then 8 else 0
/-- a path lies within another one -/
def liesS (p q : ByteArray) : Bool := Lib.hasPrefix p.data.toList (q.data.toList ++ [47])
def checkOutputsS (l : List ByteArray) : Int :=
  if l.length = 0 then 9 else if 100 < (l.length : Int) then 2 else if listErr outErr id none l ≠ 0 then listErr outErr id none l else if l.any (fun p => l.any fun q => liesS p q) then 12 else 0
def checkActionS (a : ActionV) : Int :=
  if isDigestS a.tool = false then 3
  else if a.commands.length = 0 then 9
  else if 50 < (a.commands.length : Int) then 2
  else if commandsErr a.commands ≠ 0 then commandsErr a.commands
  else if checkVarsS a.vars ≠ 0 then checkVarsS a.vars
  else if checkOutputsS a.outputs ≠ 0 then checkOutputsS a.outputs
  else if checkVarsS a.needs ≠ 0 then checkVarsS a.needs
  else if withinB a.time 1 100000 = false then 1
  else 0
end Go.Proofs.Sm

namespace Go.Proofs.Sm
open Go.RowKit

def eqS (s x : ByteArray) : Bool := x.toList == s.toList
set_option maxRecDepth 100000 in
theorem slices_IndexStr (A : Option Addr) (n c : Nat) (l : List ByteArray) (s : ByteArray) (w : World) (hsl : Sl w (Lt w.heap.size) A n l) :
    Calls Tryz.prog 24 #[.slice A n c, .string s] w fun e w' => ∃ r : Int, e = .returned (.int .i64 r) ∧ decide (0 ≤ r) = l.any (eqS s) ∧ w = w' := by
  have hm : n ≤ 9223372036854775807 := hsl.2.1
  go_enter Tryz.func24, Tryz.ntmps24
  go_wp2
  go_loop [5, 8] (fun _ i => ∃ k : Nat, k ≤ n ∧ i = .int .i64 k ∧ (l.take k).any (eqS s) = false) (fun _ i => n - (intOf i).toNat)
  case atStart => exact ⟨0, Nat.zero_le _, rfl, rfl⟩
  case round =>
    obtain ⟨k, hk, rfl, hall⟩ := hrel
    have H := Lib.hid hall; clear hall
    by_cases hlt : k < n
    · obtain ⟨b, o, x, rfl, hb, hx, hxs, c0⟩ := hsl.str hlt
      have Hx := Lib.hid hx; clear hx
      cases hq : (s.toList == x.toList)
      · have hq2 : (x.toList == s.toList) = false := by rw [beq_eq_false_iff_ne] at *; exact fun e => hq e.symm
        have HS := Lib.hid (any_step (p := eqS s) Hx.out H.out hq2)
        go_wp2
        go_round
        case rel => exact ⟨k + 1, by omega, by go_num, HS.out⟩
        case measure => simp [intOf]; omega
      · have hq2 : (x.toList == s.toList) = true := by rw [beq_iff_eq] at *; exact hq.symm
        have HS := Lib.hid (any_yes (p := eqS s) Hx.out hq2)
        go_wp2
        go_ret
        exact ⟨k, rfl, by rw [HS.out]; simp, rfl⟩
    · have HS := Lib.hid (any_end (by rw [hsl.1]; omega) H.out)
      go_wp2
      go_ret
      exact ⟨-1, rfl, by rw [HS.out]; rfl, rfl⟩
theorem slices_ContainsStr (A : Option Addr) (n c : Nat) (l : List ByteArray) (s : ByteArray) (w : World) (hsl : Sl w (Lt w.heap.size) A n l) :
    Calls Tryz.prog 10 #[.slice A n c, .string s] w fun e w' => e = .returned (.bool (l.any (eqS s))) ∧ w = w' := by
  go_enter Tryz.func10, Tryz.ntmps10
  go_wp2_with (go_at_call 24; refine (slices_IndexStr A n c l s _ hsl).mono ?_; rintro e w1 ⟨r, rfl, hr, rfl⟩; have HR := Lib.hid hr; clear hr)
  go_ret
  exact ⟨ret_bool HR.out, rfl⟩

set_option maxRecDepth 100000 in
theorem slices_IndexFunc0 (g : Nat) (eg : ∀ args w, (callFunc g args).run Tryz.prog w = .ok (.enter g args) w) (p : ByteArray → Bool) (A : Option Addr) (n c : Nat) (l : List ByteArray) (w : World) (hsl : Sl w (Lt w.heap.size) A n l)
    (hp : ∀ W x, Below w.heap.size w W → x.size ≤ maxLen → x ∈ l → Calls Tryz.prog g #[.string x] W fun e w' => e = .returned (.bool (p x)) ∧ Below W.heap.size W w') :
    Calls Tryz.prog 60 #[.slice A n c, .func (.func g) #[] #[]] w fun e w' => ∃ r : Int, e = .returned (.int .i64 r) ∧ decide (0 ≤ r) = l.any p ∧ Below w.heap.size w w' := by
  have hm : n ≤ 9223372036854775807 := hsl.2.1
  have HP := Lib.hid hp; clear hp
  go_enter Tryz.func60, Tryz.ntmps60
  go_wp2
  go_loopw [5, 8] (fun _ i wr => ∃ k : Nat, k ≤ n ∧ i = .int .i64 k ∧ (l.take k).any p = false ∧ Below w.heap.size w wr) (fun _ i _ => n - (intOf i).toNat)
  case atStart => exact ⟨0, Nat.zero_le _, rfl, rfl, Below.refl _ _⟩
  case round =>
    obtain ⟨k, hk, rfl, hall, hbel⟩ := hrel
    have H := Lib.hid hall; clear hall
    by_cases hlt : k < n
    · obtain ⟨b, o, x, rfl, hb, hx, hxs, c0⟩ := (hsl.keep (keep_lt hbel)).str hlt
      have Hx := Lib.hid hx; clear hx
      cases hq : p x
      · have HS := Lib.hid (any_step (p := p) Hx.out H.out hq)
        go_wp2_with fail
        refine (HP.out wr x hbel hxs (List.mem_of_getElem? Hx.out)).mono ?_
        rintro e w1 ⟨rfl, hb1⟩
        go_wp2
        go_round
        case rel => exact ⟨k + 1, by omega, by go_num, HS.out, fr_call hbel hb1⟩
        case measure => simp [intOf]; omega
      · have HS := Lib.hid (any_yes (p := p) Hx.out hq)
        go_wp2_with fail
        refine (HP.out wr x hbel hxs (List.mem_of_getElem? Hx.out)).mono ?_
        rintro e w1 ⟨rfl, hb1⟩
        go_wp2
        go_ret
        exact ⟨k, rfl, by rw [HS.out]; simp, fr_call hbel hb1⟩
    · have HS := Lib.hid (any_end (by rw [hsl.1]; omega) H.out)
      go_wp2
      go_ret
      exact ⟨-1, rfl, by rw [HS.out]; rfl, hbel⟩
set_option maxRecDepth 100000 in
theorem slices_IndexFunc1 (g : Nat) (eg : ∀ args w, (callFunc g args).run Tryz.prog w = .ok (.enter g args) w) (v : Value) (p : ByteArray → Bool) (A : Option Addr) (n c : Nat) (l : List ByteArray) (w : World) (hsl : Sl w (Lt w.heap.size) A n l)
    (hp : ∀ W x, Below w.heap.size w W → x.size ≤ maxLen → x ∈ l → Calls Tryz.prog g #[.string x, v] W fun e w' => e = .returned (.bool (p x)) ∧ Below W.heap.size W w') :
    Calls Tryz.prog 60 #[.slice A n c, .func (.func g) #[] #[v]] w fun e w' => ∃ r : Int, e = .returned (.int .i64 r) ∧ decide (0 ≤ r) = l.any p ∧ Below w.heap.size w w' := by
  have hm : n ≤ 9223372036854775807 := hsl.2.1
  have HP := Lib.hid hp; clear hp
  go_enter Tryz.func60, Tryz.ntmps60
  go_wp2
  go_loopw [5, 8] (fun _ i wr => ∃ k : Nat, k ≤ n ∧ i = .int .i64 k ∧ (l.take k).any p = false ∧ Below w.heap.size w wr) (fun _ i _ => n - (intOf i).toNat)
  case atStart => exact ⟨0, Nat.zero_le _, rfl, rfl, Below.refl _ _⟩
  case round =>
    obtain ⟨k, hk, rfl, hall, hbel⟩ := hrel
    have H := Lib.hid hall; clear hall
    by_cases hlt : k < n
    · obtain ⟨b, o, x, rfl, hb, hx, hxs, c0⟩ := (hsl.keep (keep_lt hbel)).str hlt
      have Hx := Lib.hid hx; clear hx
      cases hq : p x
      · have HS := Lib.hid (any_step (p := p) Hx.out H.out hq)
        go_wp2_with fail
        refine (HP.out wr x hbel hxs (List.mem_of_getElem? Hx.out)).mono ?_
        rintro e w1 ⟨rfl, hb1⟩
        go_wp2
        go_round
        case rel => exact ⟨k + 1, by omega, by go_num, HS.out, fr_call hbel hb1⟩
        case measure => simp [intOf]; omega
      · have HS := Lib.hid (any_yes (p := p) Hx.out hq)
        go_wp2_with fail
        refine (HP.out wr x hbel hxs (List.mem_of_getElem? Hx.out)).mono ?_
        rintro e w1 ⟨rfl, hb1⟩
        go_wp2
        go_ret
        exact ⟨k, rfl, by rw [HS.out]; simp, fr_call hbel hb1⟩
    · have HS := Lib.hid (any_end (by rw [hsl.1]; omega) H.out)
      go_wp2
      go_ret
      exact ⟨-1, rfl, by rw [HS.out]; rfl, hbel⟩
theorem slices_ContainsFunc0 (g : Nat) (eg : ∀ args w, (callFunc g args).run Tryz.prog w = .ok (.enter g args) w) (p : ByteArray → Bool) (A : Option Addr) (n c : Nat) (l : List ByteArray) (w : World) (hsl : Sl w (Lt w.heap.size) A n l)
    (hp : ∀ W x, Below w.heap.size w W → x.size ≤ maxLen → x ∈ l → Calls Tryz.prog g #[.string x] W fun e w' => e = .returned (.bool (p x)) ∧ Below W.heap.size W w') :
    Calls Tryz.prog 32 #[.slice A n c, .func (.func g) #[] #[]] w fun e w' => e = .returned (.bool (l.any p)) ∧ Below w.heap.size w w' := by
  have HC := Lib.hid (slices_IndexFunc0 g eg p A n c l w hsl hp)
  clear hp eg
  go_enter Tryz.func32, Tryz.ntmps32
  go_wp2_with (go_at_call 60; refine HC.out.mono ?_; rintro e w1 ⟨r, rfl, hr, hb1⟩; have HR := Lib.hid hr; clear hr)
  go_ret
  exact ⟨ret_bool HR.out, hb1⟩
theorem slices_ContainsFunc1 (g : Nat) (eg : ∀ args w, (callFunc g args).run Tryz.prog w = .ok (.enter g args) w) (v : Value) (p : ByteArray → Bool) (A : Option Addr) (n c : Nat) (l : List ByteArray) (w : World) (hsl : Sl w (Lt w.heap.size) A n l)
    (hp : ∀ W x, Below w.heap.size w W → x.size ≤ maxLen → x ∈ l → Calls Tryz.prog g #[.string x, v] W fun e w' => e = .returned (.bool (p x)) ∧ Below W.heap.size W w') :
    Calls Tryz.prog 32 #[.slice A n c, .func (.func g) #[] #[v]] w fun e w' => e = .returned (.bool (l.any p)) ∧ Below w.heap.size w w' := by
  have HC := Lib.hid (slices_IndexFunc1 g eg v p A n c l w hsl hp)
  clear hp eg
  go_enter Tryz.func32, Tryz.ntmps32
  go_wp2_with (go_at_call 60; refine HC.out.mono ?_; rintro e w1 ⟨r, rfl, hr, hb1⟩; have HR := Lib.hid hr; clear hr)
  go_ret
  exact ⟨ret_bool HR.out, hb1⟩
end Go.Proofs.Sm

namespace Go.Proofs.Sm
open Go.RowKit

def firstSmall (l : List UInt8) : Bool := match l with | [] => false | c :: _ => smallI (c.toNat : Int)
theorem isNameS_eq (s : ByteArray) : isNameS s = (withinB s.size 1 40 && firstSmall s.data.toList && s.data.toList.all nameB && !(langWords.contains s.data.toList)) := rfl
theorem byte_at (s : ByteArray) (k : Nat) (h : k < s.size) : s.data.toList[k]? = some s[k] := by
  rw [Array.getElem?_toList]
  exact Array.getElem?_eq_getElem h
theorem firstSmall_at (s : ByteArray) (h : 0 < s.size) : firstSmall s.data.toList = smallI (s[0].toNat : Int) := by
  have h1 := byte_at s 0 h
  cases hl : s.data.toList with
  | nil => rw [hl] at h1; cases h1
  | cons a l => rw [hl] at h1; cases h1; rfl
theorem first_of_take {l : List UInt8} {k : Nat} (h : 0 < k) : firstSmall (l.take k) = firstSmall l := by
  cases l with
  | nil => simp
  | cons a l =>
    cases k with
    | zero => omega
    | succ k => rfl
/-- the value of digits -/
def numS (s : ByteArray) : Nat := (Lib.decNat s.data.toList).getD 0
theorem decFrom_some : ∀ (l : List UInt8) (acc : Nat), l.all digitB = true → ∃ n, Lib.decFrom acc l = some n ∧ n < (acc + 1) * 10 ^ l.length
  | [], acc, _ => ⟨acc, rfl, by simp⟩
  | c :: l, acc, h => by
    rw [List.all_cons, Bool.and_eq_true] at h
    have hc : 48 ≤ c.toNat ∧ c.toNat ≤ 57 := by
      have := h.1
      simp [digitB, digitI] at this
      omega
    obtain ⟨n, h1, h2⟩ := decFrom_some l (acc * 10 + (c.toNat - 48)) h.2
    refine ⟨n, ?_, ?_⟩
    · rw [Lib.decFrom, Lib.digitVal, if_pos hc]
      exact h1
    · refine Nat.lt_of_lt_of_le h2 ?_
      rw [List.length_cons, Nat.pow_succ, ← Nat.mul_assoc, Nat.mul_right_comm]
      exact Nat.mul_le_mul_right _ (by omega)
theorem number_some {s : ByteArray} {m : Int} (h : isNumberS s m = true) : Lib.decNat s.data.toList = some (numS s) ∧ numS s < 10 ^ s.size ∧ s.size ≤ m.toNat ∧ 1 ≤ s.size := by
  simp only [isNumberS, Bool.and_eq_true] at h
  have h1 := withinB_true h.1.1
  obtain ⟨n, h2, h3⟩ := decFrom_some s.data.toList 0 h.1.2
  have hne : s.data.toList.isEmpty = false := by
    rw [List.isEmpty_eq_false_iff]
    intro e
    have := congrArg List.length e
    simp at this
    have : s.size = 0 := by simp [ByteArray.size, this]
    omega
  have h4 : Lib.decNat s.data.toList = some n := by rw [Lib.decNat, hne]; exact h2
  have h5 : s.data.toList.length = s.size := by simp
  refine ⟨by rw [numS, h4]; rfl, by rw [numS, h4]; simpa [h5] using h3, by omega, by omega⟩
theorem number_atoi {s : ByteArray} {m : Int} (h : isNumberS s m = true) : Lib.atoi s.data.toList = some ((numS s : Nat) : Int) := by
  have h1 := (number_some h).1
  simp only [isNumberS, Bool.and_eq_true] at h
  cases hl : s.data.toList with
  | nil => rw [hl, Lib.decNat] at h1; cases h1
  | cons b r =>
    have hb : digitB b = true := by
      have := h.1.2
      rw [hl, List.all_cons, Bool.and_eq_true] at this
      exact this.1
    have hb1 : (b == 45) = false := by
      rw [beq_eq_false_iff_ne]
      intro e; subst e; revert hb; decide
    have hb2 : (b == 43) = false := by
      rw [beq_eq_false_iff_ne]
      intro e; subst e; revert hb; decide
    rw [Lib.atoi, hb1, hb2, ← hl, h1]
    rfl
theorem leadOk_two {s : ByteArray} (h : 1 < s.size) : leadOk s.data.toList = !(((s[0]'(by omega)).toNat : Int) == 48) := by
  have h1 := byte_at s 0 (by omega)
  have h2 : s.data.toList.length = s.size := by simp
  cases hl : s.data.toList with
  | nil => rw [hl] at h1; cases h1
  | cons a l =>
    rw [hl] at h1 h2
    cases h1
    have hne : ((s[0]'(by omega)) :: l == [48]) = false := by
      cases l with
      | nil => simp at h2; omega
      | cons c l => simp
    rw [leadOk, hne, Bool.or_false, List.head?_cons, Bool.eq_iff_iff]
    simp only [Bool.not_eq_true', beq_eq_false_iff_ne, ne_eq, Option.some.injEq]
    have e48 : (48 : UInt8).toNat = 48 := rfl
    constructor
    · intro hh e; exact hh (UInt8.toNat_inj.1 (by omega))
    · intro hh e; rw [e] at hh; exact hh rfl
theorem leadOk_one {s : ByteArray} (h : s.size = 1) : leadOk s.data.toList = true := by
  have h2 : s.data.toList.length = s.size := by simp
  cases hl : s.data.toList with
  | nil => rfl
  | cons a l =>
    rw [hl, h] at h2
    have : l = [] := List.eq_nil_of_length_eq_zero (by simpa using h2)
    subst this
    unfold leadOk
    rw [List.head?_cons]
    by_cases ha : a = 48
    · subst ha; rfl
    · have : (some a == some (48 : UInt8)) = false := by simpa using ha
      rw [this]; rfl
end Go.Proofs.Sm

namespace Go.Proofs.Sm
open Go.RowKit

theorem script_isSmall (c : Int) (w : World) : Calls Tryz.prog 184 #[.int .u8 c] w fun e w' => e = .returned (.bool (smallI c)) ∧ w = w' := by
  go_enter Tryz.func184, Tryz.ntmps184
  go_wp2
  all_goals (go_ret; refine ⟨ret_bool ?_, rfl⟩; rw [Bool.eq_iff_iff]; simp [smallI] <;> omega)
theorem script_isDigit (c : Int) (w : World) : Calls Tryz.prog 185 #[.int .u8 c] w fun e w' => e = .returned (.bool (digitI c)) ∧ w = w' := by
  go_enter Tryz.func185, Tryz.ntmps185
  go_wp2
  all_goals (go_ret; refine ⟨ret_bool ?_, rfl⟩; rw [Bool.eq_iff_iff]; simp [digitI] <;> omega)
def wordsL : List ByteArray := langWords.map fun l => ⟨l.toArray⟩
theorem script_words (w : World) : Calls Tryz.prog 186 #[] w fun e w' => ∃ A, e = .returned (.slice A 8 8) ∧ Sl w' (Lt w'.heap.size) A 8 wordsL ∧ Below w.heap.size w w' := by
  go_enter Tryz.func186, Tryz.ntmps186
  go_wp2
  go_ret
  refine ⟨_, rfl, ?_, (by repeat (first | exact fr_refl _ | refine fr_call ?_ (by assumption) | refine fr_alloc ?_ _ | refine fr_set ?_ (by simp) _ | refine Below.drew ?_ | refine below_drewN ?_ _))⟩
  have h := Sl.new_strs (w := w) (t := 9) (l := wordsL) (by unfold maxLen; decide) (fun x hx => by
    have : ∀ y ∈ wordsL, y.size ≤ 40 := by decide
    have := this x hx
    unfold maxLen; omega)
  have hz : ∀ o, (w.alloc o).heap.size = w.heap.size + 1 := fun o => by simp
  rw [hz]
  exact h
theorem words_any (s : ByteArray) : wordsL.any (eqS s) = langWords.contains s.data.toList := by
  rw [Bool.eq_iff_iff, List.any_eq_true, List.contains_iff_mem]
  simp only [wordsL, List.mem_map, eqS, beq_iff_eq]
  constructor
  · rintro ⟨x, ⟨l, hl, rfl⟩, h⟩
    rw [Lib.toList_data, Lib.toList_data] at h
    rw [← h]
    simpa using hl
  · intro h
    exact ⟨_, ⟨_, h, rfl⟩, by rw [Lib.toList_data]⟩
set_option maxRecDepth 100000 in
theorem script_IsName (s : ByteArray) (w : World) (hs : s.size ≤ maxLen) : Calls Tryz.prog 141 #[.string s] w fun e w' => e = .returned (.bool (isNameS s)) ∧ Below w.heap.size w w' := by
  have hm : s.size ≤ 9223372036854775807 := hs
  have Hd := Lib.hid (isNameS_eq s)
  cases hw : withinB s.size 1 40
  · have HV := Lib.hid (show isNameS s = false by rw [Hd.out, hw]; rfl)
    have h1 : (s.size : Int) < 1 ∨ (40 : Int) < s.size := withinB_false hw
    clear hw
    go_enter Tryz.func141, Tryz.ntmps141
    go_wp2
    all_goals first
      | (exfalso; omega)
      | (go_ret; exact ⟨ret_bool HV.out.symm, Below.refl _ _⟩)
  · have h1 := withinB_true hw
    have h0 : 0 < s.size := by omega
    have HF := Lib.hid (firstSmall_at s h0)
    have HW := Lib.hid hw; clear hw
    cases hf : smallI (s[0].toNat : Int)
    · have HV := Lib.hid (show isNameS s = false by rw [Hd.out, HW.out, HF.out, hf]; rfl)
      go_enter Tryz.func141, Tryz.ntmps141
      go_wp2_with (first | (go_at_call 184; refine (script_isSmall _ _).mono ?_; rintro e w1 ⟨rfl, rfl⟩))
      go_ret; exact ⟨ret_bool HV.out.symm, Below.refl _ _⟩
    · have HF2 := Lib.hid (show firstSmall s.data.toList = true by rw [HF.out, hf])
      go_enter Tryz.func141, Tryz.ntmps141
      go_wp2_with (first | (go_at_call 184; refine (script_isSmall _ _).mono ?_; rintro e w1 ⟨rfl, rfl⟩))
      go_loop [3, 20] (fun _ i => ∃ k : Nat, k ≤ s.size ∧ i = .int .i64 k ∧ (s.data.toList.take k).all nameB = true) (fun _ i => s.size - (intOf i).toNat)
      case atStart => exact ⟨0, Nat.zero_le _, rfl, rfl⟩
      case round =>
        clear hf
        obtain ⟨k, hk, rfl, hall⟩ := hrel
        have H := Lib.hid hall; clear hall
        by_cases hlt : k < s.size
        · cases g1 : smallI (s[k].toNat : Int) <;> cases g2 : digitI (s[k].toNat : Int) <;> cases g3 : ((s[k].toNat : Int) == 95)
          all_goals
            have HN : Hid (nameB s[k] = (smallI (s[k].toNat : Int) || digitI (s[k].toNat : Int) || ((s[k].toNat : Int) == 95))) := Lib.hid rfl
            rw [g1, g2, g3] at HN
            have g4 : ((s[k].toNat : Int) != 95) = !((s[k].toNat : Int) == 95) := rfl
            rw [g3] at g4
            go_wp2_with (first | (go_at_call 184; refine (script_isSmall _ _).mono ?_; rintro e w1 ⟨rfl, rfl⟩) | (go_at_call 185; refine (script_isDigit _ _).mono ?_; rintro e w1 ⟨rfl, rfl⟩))
            first
            | (go_round; (case rel => exact ⟨k + 1, by omega, by go_num, all_step hlt H.out (by rw [HN.out]; rfl)⟩); (case measure => simp [intOf]; omega))
            | (go_ret; exact ⟨ret_bool (by rw [Hd.out, all_no (p := nameB) hlt (by rw [HN.out]; rfl)]; simp), Below.refl _ _⟩)
        · have He := Lib.hid (all_end hlt H.out)
          have Hc := Lib.hid (words_any s)
          go_wp2_with fail
          refine (script_words _).mono ?_
          rintro e w1 ⟨A, rfl, hsl, hb1⟩
          go_wp2_with fail
          refine (slices_ContainsStr A 8 8 wordsL s _ hsl).mono ?_
          rintro e w2 ⟨rfl, rfl⟩
          go_wp2
          go_ret
          exact ⟨ret_bool (by rw [Hd.out, HW.out, HF2.out, He.out, Hc.out]; rfl), hb1⟩
end Go.Proofs.Sm

namespace Go.Proofs.Sm
open Go.RowKit

theorem ref4_within (n lo hi : Int) (w : World) : Calls Tryz.prog 173 #[.int .i64 n, .int .i64 lo, .int .i64 hi] w fun e w' => e = .returned (.bool (withinB n lo hi)) ∧ w = w' := by
  go_enter Tryz.func173, Tryz.ntmps173
  go_wp2
  all_goals (go_ret; exact ⟨ret_bool (by simp [withinB]; omega), rfl⟩)
theorem not_word {l : List UInt8} {x : List UInt8} (h : langWords.contains l = false) (hx : x ∈ langWords) : ¬ l = x := by
  intro e
  subst e
  rw [List.contains_eq_mem, decide_eq_false_iff_not] at h
  exact h hx
set_option maxRecDepth 100000 in
theorem ref4_IsName (s : ByteArray) (w : World) (hs : s.size ≤ maxLen) : Calls Tryz.prog 122 #[.string s] w fun e w' => e = .returned (.bool (isNameS s)) ∧ w = w' := by
  have hm : s.size ≤ 9223372036854775807 := hs
  have Hd := Lib.hid (isNameS_eq s)
  go_enter Tryz.func122, Tryz.ntmps122
  go_wp2
  go_loop [3] (fun i => ∃ k : Nat, k ≤ s.size ∧ i = .int .i64 k ∧ (s.data.toList.take k).all nameB = true ∧ (0 < k → firstSmall s.data.toList = true)) (fun i => s.size - (intOf i).toNat)
  case atStart => exact ⟨0, Nat.zero_le _, rfl, rfl, fun h => absurd h (by omega)⟩
  case round =>
    obtain ⟨k, hk, rfl, hall, hfst⟩ := hrel
    have H := Lib.hid hall; clear hall
    have HF := Lib.hid hfst; clear hfst
    by_cases hlt : k < s.size
    · have HN : Hid (nameB s[k] = (smallI (s[k].toNat : Int) || digitI (s[k].toNat : Int) || ((s[k].toNat : Int) == 95))) := Lib.hid rfl
      by_cases hk0 : k = 0
      · subst hk0
        have HF0 := Lib.hid (firstSmall_at s hlt)
        go_wp2
        all_goals first
          | (exfalso; simp at *; done)
          | (exfalso; omega)
          | (go_round; (case rel => exact ⟨0 + 1, by omega, by go_num, all_step hlt H.out (by rw [HN.out]; simp [smallI, digitI]; simp at *; omega), fun _ => by rw [HF0.out]; simp [smallI]; simp at *; omega⟩); (case measure => simp [intOf]; omega))
          | (go_ret; exact ⟨ret_bool (by rw [Hd.out, HF0.out, show smallI (s[0].toNat : Int) = false by simp [smallI]; simp at *; omega]; simp), rfl⟩)
      · have hk1 : ((k : Int) == 0) = false := by simp; omega
        go_wp2
        all_goals first
          | (go_round; (case rel => exact ⟨k + 1, by omega, by go_num, all_step hlt H.out (by rw [HN.out]; simp [smallI, digitI]; simp at *; omega), fun _ => HF.out (by omega)⟩); (case measure => simp [intOf]; omega))
          | (go_ret; exact ⟨ret_bool (by rw [Hd.out, all_no (p := nameB) hlt (by rw [HN.out]; simp [smallI, digitI]; simp at *; omega)]; simp), rfl⟩)
    · have He := Lib.hid (all_end hlt H.out)
      have hks : k = s.size := by omega
      have HV := Lib.hid (show isNameS s = (withinB s.size 1 40 && !(langWords.contains s.data.toList)) by
        rw [Hd.out, He.out, Bool.and_true]
        cases hw : withinB s.size 1 40
        · rfl
        · have := (withinB_true hw).1
          rw [HF.out (by omega)]; rfl)
      clear hks
      cases hc : langWords.contains s.data.toList
      · have HVV := Lib.hid (show isNameS s = withinB s.size 1 40 by rw [HV.out, hc]; simp)
        rw [← Lib.toList_data] at hc
        have n1 := not_word hc (x := [109, 97, 99, 114, 111]) (by decide)
        have n2 := not_word hc (x := [102, 111, 114]) (by decide)
        have n3 := not_word hc (x := [105, 110]) (by decide)
        have n4 := not_word hc (x := [105, 102]) (by decide)
        have n5 := not_word hc (x := [101, 108, 115, 101]) (by decide)
        have n6 := not_word hc (x := [117, 115, 101]) (by decide)
        have n7 := not_word hc (x := [102, 105, 108, 101, 115]) (by decide)
        have n8 := not_word hc (x := [99, 104, 111, 111, 115, 101]) (by decide)
        clear hc
        go_wp2_with (first | (go_at_call 173; refine (ref4_within _ _ _ _).mono ?_; rintro e w1 ⟨rfl, rfl⟩))
        all_goals first
          | (go_ret; exact ⟨ret_bool HVV.out.symm, rfl⟩)
          | (exfalso; simp_all; done)
      · have HVV := Lib.hid (show isNameS s = false by rw [HV.out, hc]; simp)
        rw [← Lib.toList_data] at hc
        have HC := Lib.hid hc; clear hc
        go_wp2_with (first | (go_at_call 173; refine (ref4_within _ _ _ _).mono ?_; rintro e w1 ⟨rfl, rfl⟩))
        all_goals first
          | (go_ret; exact ⟨ret_bool HVV.out.symm, rfl⟩)
          | (exfalso; have := HC.out; simp_all [langWords]; done)
end Go.Proofs.Sm

namespace Go.Proofs.Sm
open Go.RowKit

set_option maxRecDepth 100000 in
theorem ref5_bytesIn (s : ByteArray) (lo hi : Int) (w : World) (hs : s.size ≤ maxLen) : Calls Tryz.prog 119 #[.string s, .int .u8 lo, .int .u8 hi] w fun e w' => e = .returned (.bool (s.data.toList.all (bytesInB lo hi))) ∧ w = w' := by
  have hm : s.size ≤ 9223372036854775807 := hs
  generalize hR : s.data.toList.all (bytesInB lo hi) = R
  have HR := Lib.hid hR; clear hR
  go_enter Tryz.func119, Tryz.ntmps119
  go_wp2
  go_loop [7] (fun i => ∃ k : Nat, k ≤ s.size ∧ i = .int .i64 k ∧ (s.data.toList.take k).all (bytesInB lo hi) = true) (fun i => s.size - (intOf i).toNat)
  case atStart => exact ⟨0, Nat.zero_le _, rfl, rfl⟩
  case round =>
    obtain ⟨k, hk, rfl, hall⟩ := hrel
    have H := Lib.hid hall; clear hall
    by_cases hlt : k < s.size
    · go_wp2
      all_goals first
        | (go_round; (case rel => exact ⟨k + 1, by omega, by go_num, all_step hlt H.out (by simp [bytesInB]; simp at *; omega)⟩); (case measure => simp [intOf]; omega))
        | (go_ret; exact ⟨ret_bool (by rw [← HR.out, all_no (p := bytesInB lo hi) hlt (by simp [bytesInB]; simp at *; omega)]), rfl⟩)
    · have He := Lib.hid (all_end hlt H.out)
      go_wp2
      go_ret; exact ⟨ret_bool (by rw [← HR.out, He.out]), rfl⟩
set_option maxRecDepth 100000 in
theorem act_isWord (s : ByteArray) (w : World) (hs : s.size ≤ maxLen) : Calls Tryz.prog 138 #[.string s] w fun e w' => e = .returned (.bool (isWordS s)) ∧ w = w' := by
  have hm : s.size ≤ 9223372036854775807 := hs
  go_enter Tryz.func138, Tryz.ntmps138
  go_wp2
  go_loop [3, 6] (fun _ i => ∃ k : Nat, k ≤ s.size ∧ i = .int .i64 k ∧ (s.data.toList.take k).all (bytesInB 33 126) = true) (fun _ i => s.size - (intOf i).toNat)
  case atStart => exact ⟨0, Nat.zero_le _, rfl, rfl⟩
  case round =>
    obtain ⟨k, hk, rfl, hall⟩ := hrel
    have H := Lib.hid hall; clear hall
    by_cases hlt : k < s.size
    · go_wp2
      all_goals first
        | (go_round; (case rel => exact ⟨k + 1, by omega, by go_num, all_step hlt H.out (by simp [bytesInB]; simp at *; omega)⟩); (case measure => simp [intOf]; omega))
        | (go_ret; exact ⟨ret_bool (by rw [isWordS, all_no hlt (by simp [bytesInB]; simp at *; omega)]; rfl), rfl⟩)
    · have He := Lib.hid (all_end hlt H.out)
      go_wp2
      all_goals (go_ret; refine ⟨ret_bool ?_, rfl⟩; rw [isWordS, He.out]; simp [withinB] <;> omega)

/-- strings.Trim at the ten digits. -/
theorem trim_digits_any (s : ByteArray) (w : World) (hs : s.size ≤ maxLen) : Calls Tryz.prog 102 #[.string s, .string ⟨#[48, 49, 50, 51, 52, 53, 54, 55, 56, 57]⟩] w fun e w' =>
    ∃ r : ByteArray, e = .returned (.string r) ∧ r.toList.isEmpty = s.data.toList.all digitB ∧ Below w.heap.size w w' := by
  refine (Any.strings_Trim_laid Tryz.lays160 (by kernel_rfl) s ⟨#[48, 49, 50, 51, 52, 53, 54, 55, 56, 57]⟩ w hs (by decide) (ascii_of_all (by decide))).mono ?_
  rintro e w' ⟨rfl, hb⟩
  refine ⟨_, rfl, ?_, hb⟩
  rw [Lib.toList_data, Bool.eq_iff_iff, List.isEmpty_iff]
  exact trim_digits _

set_option maxRecDepth 100000 in
theorem act_isNumber (s : ByteArray) (m : Int) (w : World) (hs : s.size ≤ maxLen) : Calls Tryz.prog 183 #[.string s, .int .i64 m] w fun e w' => e = .returned (.bool (isNumberS s m)) ∧ Below w.heap.size w w' := by
  have hm : s.size ≤ 9223372036854775807 := hs
  cases hw : withinB s.size 1 m
  · have HV := Lib.hid (show isNumberS s m = false by rw [isNumberS, hw]; rfl)
    have h1 := withinB_false hw
    clear hw
    go_enter Tryz.func183, Tryz.ntmps183
    go_wp2
    all_goals first
      | (exfalso; omega)
      | (go_ret; exact ⟨ret_bool HV.out.symm, Below.refl _ _⟩)
  · have h1 := withinB_true hw
    have HW := Lib.hid hw; clear hw
    cases hd : s.data.toList.all digitB
    · have HV := Lib.hid (show isNumberS s m = false by rw [isNumberS, hd]; simp)
      have HD := Lib.hid hd; clear hd
      go_enter Tryz.func183, Tryz.ntmps183
      go_wp2_with (go_at_call 102; refine (trim_digits_any s w hs).mono ?_; rintro e w1 ⟨r, rfl, hr, hb⟩; rw [HD.out] at hr; have hr2 : ¬ r.toList = [] := by simpa using hr)
      go_ret; exact ⟨ret_bool HV.out.symm, hb⟩
    · have HD := Lib.hid hd; clear hd
      have h0 : 0 < s.size := by omega
      cases hf : ((s[0].toNat : Int) == 48)
      · have hf2 : ((s[0].toNat : Int) != 48) = true := by rw [bne, hf]; rfl
        have HV := Lib.hid (show isNumberS s m = true by
          rw [isNumberS, HW.out, HD.out]
          by_cases h2 : 1 < s.size
          · rw [leadOk_two h2, hf]; rfl
          · rw [leadOk_one (by omega)]; rfl)
        go_enter Tryz.func183, Tryz.ntmps183
        go_wp2_with (go_at_call 102; refine (trim_digits_any s w hs).mono ?_; rintro e w1 ⟨r, rfl, hr, hb⟩; rw [HD.out] at hr; have hr2 : r.toList = [] := by simpa using hr)
        go_ret; exact ⟨ret_bool HV.out.symm, hb⟩
      · have hf2 : ((s[0].toNat : Int) != 48) = false := by rw [bne, hf]; rfl
        by_cases h2 : 1 < s.size
        · have HV := Lib.hid (show isNumberS s m = false by rw [isNumberS, HW.out, HD.out, leadOk_two h2, hf]; rfl)
          have hne : ¬ s.toList = [48] := by
            intro e
            have e1 := congrArg List.length e
            have e2 : s.data.toList.length = s.size := by simp
            rw [Lib.toList_data, e2] at e1
            simp only [List.length_cons, List.length_nil] at e1
            omega
          go_enter Tryz.func183, Tryz.ntmps183
          go_wp2_with (go_at_call 102; refine (trim_digits_any s w hs).mono ?_; rintro e w1 ⟨r, rfl, hr, hb⟩; rw [HD.out] at hr; have hr2 : r.toList = [] := by simpa using hr)
          go_ret; exact ⟨ret_bool (by rw [HV.out] <;> simp [hne]), hb⟩
        · have HV := Lib.hid (show isNumberS s m = true by rw [isNumberS, HW.out, HD.out, leadOk_one (by omega)]; rfl)
          have he : s.toList = [48] := by
            rw [Lib.toList_data]
            have h3 := byte_at s 0 h0
            have h4 : s.data.toList.length = 1 := by have : s.data.toList.length = s.size := by simp
                                                     omega
            cases hl : s.data.toList with
            | nil => rw [hl] at h4; simp at h4
            | cons a l =>
              rw [hl] at h3 h4
              cases h3
              have : l = [] := List.eq_nil_of_length_eq_zero (by simpa using h4)
              subst this
              have hf3 : (s[0].toNat : Int) = 48 := by rw [beq_iff_eq] at hf; exact hf
              congr 1
              apply UInt8.toNat_inj.1
              have : (48 : UInt8).toNat = 48 := rfl
              omega
          go_enter Tryz.func183, Tryz.ntmps183
          go_wp2_with (go_at_call 102; refine (trim_digits_any s w hs).mono ?_; rintro e w1 ⟨r, rfl, hr, hb⟩; rw [HD.out] at hr; have hr2 : r.toList = [] := by simpa using hr)
          go_ret; exact ⟨ret_bool (by rw [HV.out] <;> simp [he]), hb⟩
theorem atoi_any (s : ByteArray) (m : Int) (w : World) (h : isNumberS s m = true) (hm : m ≤ 18) : Calls Tryz.prog 207 #[.string s] w fun e w' => e = .returned (.tuple #[.int .i64 (numS s : Nat), .nilIface]) ∧ Below w.heap.size w w' :=
  (Tryz.strconv_Atoi s _ (by have := (number_some h).2.2.1; omega) (number_atoi h) w).mono fun e w' ⟨h1, t, h2⟩ => ⟨h1, by rw [h2]; exact Lib.bytesWorld_below _ _ _⟩
set_option maxRecDepth 100000 in
theorem ref5_numbered (s : ByteArray) (m : Int) (w : World) (hs : s.size ≤ maxLen) (h18 : m ≤ 18) :
    Calls Tryz.prog 197 #[.string s, .int .i64 m] w fun e w' => e = .returned (.tuple #[.int .i64 (if isNumberS s m then (numS s : Nat) else 0 : Int), .bool (isNumberS s m)]) ∧ Below w.heap.size w w' := by
  have hm : s.size ≤ 9223372036854775807 := hs
  have h48 : (s.data.toList.all (bytesInB 48 57)) = s.data.toList.all digitB := rfl
  cases hn : isNumberS s m
  · have HN := Lib.hid hn; clear hn
    by_cases h0 : s.size = 0
    · have he : s.toList = [] := by rw [Lib.toList_data]; exact List.eq_nil_of_length_eq_zero (by simpa using h0)
      clear h0
      go_enter Tryz.func197, Tryz.ntmps197
      go_wp2
      go_ret2; exact ⟨rfl, Below.refl _ _⟩
    · have he : s.toList.isEmpty = false := by
        rw [Lib.toList_data, List.isEmpty_eq_false_iff]
        exact fun e => h0 (by have := congrArg List.length e; simpa using this)
      by_cases h2 : m < s.size
      · go_enter Tryz.func197, Tryz.ntmps197
        go_wp2
        go_ret2; exact ⟨rfl, Below.refl _ _⟩
      · by_cases h1 : 1 < s.size
        · cases hf : ((s[0].toNat : Int) == 48)
          · have hd : s.data.toList.all (bytesInB 48 57) = false := by
              have := HN.out
              rw [isNumberS, leadOk_two h1, hf, show withinB s.size 1 m = true by simp [withinB]; omega] at this
              rw [h48]; simpa using this
            clear h48
            go_enter Tryz.func197, Tryz.ntmps197
            go_wp2_with (go_at_call 119; refine (ref5_bytesIn _ _ _ _ hs).mono ?_; rintro e w1 ⟨rfl, rfl⟩)
            go_ret2; exact ⟨rfl, Below.refl _ _⟩
          · go_enter Tryz.func197, Tryz.ntmps197
            go_wp2_with (go_at_call 119; refine (ref5_bytesIn _ _ _ _ hs).mono ?_; rintro e w1 ⟨rfl, rfl⟩)
            go_ret2; exact ⟨rfl, Below.refl _ _⟩
        · have hd : s.data.toList.all (bytesInB 48 57) = false := by
            have := HN.out
            rw [isNumberS, leadOk_one (by omega), show withinB s.size 1 m = true by simp [withinB]; omega] at this
            rw [h48]; simpa using this
          clear h48
          go_enter Tryz.func197, Tryz.ntmps197
          go_wp2_with (go_at_call 119; refine (ref5_bytesIn _ _ _ _ hs).mono ?_; rintro e w1 ⟨rfl, rfl⟩)
          go_ret2; exact ⟨rfl, Below.refl _ _⟩
  · have HN := Lib.hid hn
    have hw : withinB s.size 1 m = true ∧ s.data.toList.all (bytesInB 48 57) = true ∧ leadOk s.data.toList = true := by
      simp only [isNumberS, Bool.and_eq_true] at hn
      exact ⟨hn.1.1, by rw [h48]; exact hn.1.2, hn.2⟩
    obtain ⟨hw1, hw2, hw3⟩ := hw
    have h1 := withinB_true hw1
    clear hw1 hn h48
    have h0 : 0 < s.size := by omega
    have he : s.toList.isEmpty = false := by
      rw [Lib.toList_data, List.isEmpty_eq_false_iff]
      intro e
      have e1 := congrArg List.length e
      have e2 : s.data.toList.length = s.size := by simp
      rw [e2] at e1
      simp only [List.length_nil] at e1
      omega
    by_cases h2 : 1 < s.size
    · have hf : ((s[0].toNat : Int) == 48) = false := by rw [leadOk_two h2] at hw3; simpa using hw3
      clear hw3
      go_enter Tryz.func197, Tryz.ntmps197
      go_wp2_with (first | (go_at_call 119; refine (ref5_bytesIn _ _ _ _ hs).mono ?_; rintro e w1 ⟨rfl, rfl⟩) | (go_at_call 207; refine (atoi_any s m _ HN.out h18).mono ?_; rintro e w1 ⟨rfl, hb1⟩))
      go_ret2; exact ⟨rfl, hb1⟩
    · clear hw3
      go_enter Tryz.func197, Tryz.ntmps197
      go_wp2_with (first | (go_at_call 119; refine (ref5_bytesIn _ _ _ _ hs).mono ?_; rintro e w1 ⟨rfl, rfl⟩) | (go_at_call 207; refine (atoi_any s m _ HN.out h18).mono ?_; rintro e w1 ⟨rfl, hb1⟩))
      go_ret2; exact ⟨rfl, hb1⟩
end Go.Proofs.Sm

namespace Go.Proofs.Sm
open Go.RowKit

def plusL (more : Bool) : List UInt8 := if more then [43] else []
def formL (w : List UInt8) : List UInt8 := match formS w with
  | none => []
  | some (k, more) => k ++ plusL more
def FormIs (k : List UInt8) (more : Bool) : Prop :=
  Lib.trimSuffix (k ++ plusL more) [43] = k ∧ Lib.hasSuffix (k ++ plusL more) [43] = more ∧ 1 ≤ k.length ∧ k.length ≤ 4
theorem form_is {w k : List UInt8} {more : Bool} (h : formS w = some (k, more)) : FormIs k more := by
  unfold formS at h
  repeat' split at h
  all_goals (first | (simp at h; done) | (simp only [Option.some.injEq, Prod.mk.injEq] at h; obtain ⟨rfl, rfl⟩ := h; unfold FormIs; decide +kernel))
theorem form_fail {w : List UInt8} (h : w = [102, 97, 105, 108]) : formS w = some ([110], false) := by subst h; decide
theorem form_none {w : List UInt8} (h : formS w = none) : formL w = [] := by rw [formL, h]
theorem form_some {w k : List UInt8} {more : Bool} (h : formS w = some (k, more)) : formL w = k ++ plusL more := by rw [formL, h]
theorem wordsFit_step {k : List UInt8} {l : List ByteArray} {i : Nat} {x : ByteArray} (hx : l[i]? = some x) (h : fitsS (k.getD (min i (k.length - 1)) 0) x = true) : wordsFit k i (l.drop i) = wordsFit k (i + 1) (l.drop (i + 1)) := by
  rw [drop_at hx, wordsFit, h, Bool.true_and]
theorem wordsFit_no {k : List UInt8} {l : List ByteArray} {i : Nat} {x : ByteArray} (hx : l[i]? = some x) (h : fitsS (k.getD (min i (k.length - 1)) 0) x = false) : wordsFit k i (l.drop i) = false := by
  rw [drop_at hx, wordsFit, h, Bool.false_and]
theorem wordsFit_end {k : List UInt8} {l : List ByteArray} {i : Nat} (h : l.length ≤ i) : wordsFit k i (l.drop i) = true := by
  rw [List.drop_eq_nil_of_le h, wordsFit]
theorem hasForm_len {k : List UInt8} {l : List ByteArray} {more : Bool} (h : (decide (k.length ≤ l.length) && (decide (l.length ≤ k.length) || more)) = false) : hasFormS l k more = false := by
  rw [hasFormS, h, Bool.false_and]
theorem hasForm_fit {k : List UInt8} {l : List ByteArray} {more : Bool} (h : (decide (k.length ≤ l.length) && (decide (l.length ≤ k.length) || more)) = true) : hasFormS l k more = wordsFit k 0 l := by
  rw [hasFormS, h, Bool.true_and]
end Go.Proofs.Sm

namespace Go.Proofs.Sm
open Go.RowKit

set_option maxHeartbeats 1000000 in
set_option maxRecDepth 100000 in
theorem act_formOf (s : ByteArray) (w : World) : Calls Tryz.prog 139 #[.string s] w fun e w' => e = .returned (.string ⟨(formL s.data.toList).toArray⟩) ∧ w = w' := by
  rw [← Lib.toList_data]
  go_enter Tryz.func139, Tryz.ntmps139
  go_wp2
  all_goals (go_ret; exact ⟨ret_str (by simp_all [formL, formS, plusL]), rfl⟩)
set_option maxHeartbeats 1000000 in
set_option maxRecDepth 100000 in
theorem ref5_form (s : ByteArray) (w : World) : Calls Tryz.prog 120 #[.string s] w fun e w' => e = .returned (.tuple #[.string ⟨(formL s.data.toList).toArray⟩, .bool (formS s.data.toList).isSome]) ∧ w = w' := by
  rw [← Lib.toList_data]
  go_enter Tryz.func120, Tryz.ntmps120
  go_wp2
  all_goals (go_ret2; exact ⟨ret_pair (congrArg Value.string (bytes_ext (by simp_all [formL, formS, plusL]))) (congrArg Value.bool (by simp_all [formS])), rfl⟩)
/-- the number that a string is, or 0 -/
def numOr (s : ByteArray) (m : Int) : Int := if isNumberS s m then (numS s : Nat) else 0
theorem ref5_num (s : ByteArray) (m : Int) (w : World) (hs : s.size ≤ maxLen) (h18 : m ≤ 18) :
    Calls Tryz.prog 197 #[.string s, .int .i64 m] w fun e w' => e = .returned (.tuple #[.int .i64 (numOr s m), .bool (isNumberS s m)]) ∧ Below w.heap.size w w' := ref5_numbered s m w hs h18
set_option maxRecDepth 100000 in
theorem ref5_fits (c : UInt8) (s : ByteArray) (w : World) (hE : Env w) (hs : s.size ≤ maxLen) : Calls Tryz.prog 172 #[.int .u8 c.toNat, .string s] w fun e w' => e = .returned (.bool (fitsS c s)) ∧ Below w.heap.size w w' := by
  by_cases h1 : c = 112
  · subst h1
    have HV := Lib.hid (show fitsS 112 s = isPathS s from rfl)
    have e1 : ((112 : UInt8).toNat : Int) = 112 := rfl
    rw [e1]
    go_enter Tryz.func172, Tryz.ntmps172
    go_wp2_with (go_at_call 36; refine (ref1_IsPath _ _ hE).mono ?_; rintro e w1 ⟨rfl, hb1⟩)
    go_ret; exact ⟨ret_bool HV.out.symm, hb1⟩
  by_cases h2 : c = 110
  · subst h2
    have HV := Lib.hid (show fitsS 110 s = isNumberS s 6 from rfl)
    have e1 : ((110 : UInt8).toNat : Int) = 110 := rfl
    rw [e1]
    go_enter Tryz.func172, Tryz.ntmps172
    go_wp2_with (go_at_call 197; refine (ref5_num s 6 _ hs (by decide)).mono ?_; rintro e w1 ⟨rfl, hb1⟩)
    go_ret; exact ⟨ret_bool HV.out.symm, hb1⟩
  · have HV := Lib.hid (show fitsS c s = true by rw [fitsS, if_neg h1, if_neg h2])
    have g1 : ((c.toNat : Int) == 112) = false := by
      rw [beq_eq_false_iff_ne]; intro e; exact h1 (UInt8.toNat_inj.1 (by have : (112 : UInt8).toNat = 112 := rfl; omega))
    have g2 : ((c.toNat : Int) == 110) = false := by
      rw [beq_eq_false_iff_ne]; intro e; exact h2 (UInt8.toNat_inj.1 (by have : (110 : UInt8).toNat = 110 := rfl; omega))
    go_enter Tryz.func172, Tryz.ntmps172
    go_wp2
    go_ret; exact ⟨ret_bool HV.out.symm, Below.refl _ _⟩
end Go.Proofs.Sm

namespace Go.Proofs.Sm
open Go.RowKit

theorem cutPlus {k : List UInt8} {more : Bool} (hf : FormIs k more) (f : ByteArray) (h : f.data.toList = k ++ plusL more) (kb : ByteArray) (hk : kb.data.toList = k) (w : World) :
    Calls Tryz.prog 171 #[.string f, .string ⟨#[43]⟩] w fun e w' => e = .returned (.tuple #[.string kb, .bool more]) ∧ w = w' := by
  have hfs : f.size ≤ 9223372036854775807 := by
    have e : f.data.toList.length = f.size := by simp
    rw [← e, h, List.length_append]
    have := hf.2.2.2
    have : (plusL more).length ≤ 1 := by cases more <;> decide
    omega
  refine (Tryz.strings_CutSuffix f ⟨#[43]⟩ w hfs).mono fun e w' ⟨h1, h2⟩ => ⟨?_, h2.symm⟩
  rw [h1, h]
  have e43 : (⟨#[43]⟩ : ByteArray).data.toList = [43] := rfl
  rw [e43, hf.1, hf.2.1]
  exact ret_pair (congrArg Value.string (bytes_ext (by rw [hk]))) rfl
theorem sl_tail {w : World} {S : Nat → Prop} {b o n : Nat} {x : ByteArray} {l : List ByteArray} (h : Sl w S (some ⟨b, o, none⟩) n (x :: l)) : Sl w S (some ⟨b, o + 1, none⟩) (n - 1) l := by
  have h1 := h.1
  simp at h1
  refine ⟨by omega, by have := h.2.1; omega, fun hn => ?_⟩
  obtain ⟨b', o', e, hb, hc⟩ := h.2.2 (by omega)
  cases e
  refine ⟨b, o + 1, rfl, hb, fun i y hy => ?_⟩
  obtain ⟨vs, hr, ha⟩ := hc (i + 1) y (by simpa using hy)
  refine ⟨vs, hr, ?_⟩
  have e2 : o + 1 + i * Rep.sz ByteArray = o + (i + 1) * Rep.sz ByteArray := by simp [Rep.sz]; omega
  rw [e2]; exact ha
theorem hasForm_lens {k : List UInt8} {l : List ByteArray} {more : Bool} (h : l.length < k.length ∨ (k.length < l.length ∧ more = false)) : hasFormS l k more = false := by
  refine hasForm_len ?_
  rcases h with h | ⟨h, h2⟩
  · rw [decide_eq_false (by omega)]; rfl
  · rw [h2, decide_eq_false (by omega : ¬ l.length ≤ k.length)]; simp
theorem hasForm_fits {k : List UInt8} {l : List ByteArray} {more : Bool} (h : k.length ≤ l.length ∧ (l.length ≤ k.length ∨ more = true)) : hasFormS l k more = wordsFit k 0 l := by
  refine hasForm_fit ?_
  rw [decide_eq_true h.1]
  rcases h.2 with h | h
  · rw [decide_eq_true h]; rfl
  · rw [h]; simp

set_option maxHeartbeats 1000000 in
set_option maxRecDepth 100000 in
theorem act_hasForm (A : Option Addr) (n c : Nat) (l : List ByteArray) (k : List UInt8) (more : Bool) (f : ByteArray) (w : World) (hE : Env w) (hsl : Sl w (Lt w.heap.size) A n l) (hf : FormIs k more) (hfl : f.data.toList = k ++ plusL more) (hn : n ≤ 1000) :
    Calls Tryz.prog 140 #[.slice A n c, .string f] w fun e w' => e = .returned (.bool (hasFormS l k more)) ∧ Below w.heap.size w w' := by
  obtain ⟨kb, hkb⟩ : ∃ kb : ByteArray, kb.data.toList = k := ⟨⟨k.toArray⟩, by simp⟩
  have HC := Lib.hid (fun w => cutPlus hf f hfl kb hkb w)
  have hks : kb.size = k.length := by rw [← hkb]; simp
  have hk1 : 1 ≤ kb.size := by rw [hks]; exact hf.2.2.1
  have hk4 : kb.size ≤ 4 := by rw [hks]; exact hf.2.2.2
  have HB := Lib.hid hkb; clear hkb hfl hf
  have HKS := Lib.hid hks; clear hks
  have hln := hsl.1
  by_cases hlen : n < kb.size ∨ (kb.size < n ∧ more = false)
  · have HV := Lib.hid (show hasFormS l k more = false from hasForm_lens (by rw [hln, ← HKS.out]; exact hlen))
    clear hln
    rcases hlen with h1 | ⟨h1, rfl⟩
    · go_enter Tryz.func140, Tryz.ntmps140
      go_wp2_with (go_at_call 171; refine (HC.out _).mono ?_; rintro e w1 ⟨rfl, rfl⟩)
      go_ret; exact ⟨ret_bool HV.out.symm, Below.refl _ _⟩
    · go_enter Tryz.func140, Tryz.ntmps140
      go_wp2_with (go_at_call 171; refine (HC.out _).mono ?_; rintro e w1 ⟨rfl, rfl⟩)
      go_ret; exact ⟨ret_bool HV.out.symm, Below.refl _ _⟩
  · have h1 : kb.size ≤ n := by omega
    have h2 : n ≤ kb.size ∨ more = true := by
      by_cases h : n ≤ kb.size
      · exact .inl h
      · right
        cases more
        · exact absurd (.inr ⟨by omega, rfl⟩) hlen
        · rfl
    have HV := Lib.hid (show hasFormS l k more = wordsFit k 0 l from hasForm_fits (by rw [hln, ← HKS.out]; exact ⟨h1, h2⟩))
    have HL := Lib.hid hln; clear hln hlen
    have h3 : n ≤ kb.size ∨ (kb.size < n ∧ more = true) := by
      by_cases h : n ≤ kb.size
      · exact .inl h
      · exact .inr ⟨by omega, h2.resolve_left h⟩
    clear h2
    have hm : n ≤ 9223372036854775807 := hsl.2.1
    have t1 : decide (n < kb.size) = false := decide_eq_false (by omega)
    have t2 : (n ≤ kb.size ∧ decide (kb.size < n) = false) ∨ (more = true ∧ decide (kb.size < n) = true) := by
      rcases h3 with h3 | ⟨h3, h4⟩
      · exact .inl ⟨h3, decide_eq_false (by omega)⟩
      · exact .inr ⟨h4, decide_eq_true h3⟩
    clear h3
    rcases t2 with ⟨h3, t2⟩ | ⟨rfl, t2⟩
    all_goals
      go_enter Tryz.func140, Tryz.ntmps140
      go_wp2_with (go_at_call 171; refine (HC.out _).mono ?_; rintro e w1 ⟨rfl, rfl⟩)
      go_loopw [6, 7, 31] (fun _ _ i wr => ∃ q : Nat, q ≤ n ∧ i = .int .i64 q ∧ wordsFit k 0 l = wordsFit k q (l.drop q) ∧ Below w.heap.size w wr) (fun _ _ i _ => n - (intOf i).toNat)
      case atStart => exact ⟨0, Nat.zero_le _, rfl, rfl, Below.refl _ _⟩
      case round =>
        obtain ⟨q, hq, rfl, hd, hbel⟩ := hrel
        have Hr := Lib.hid hd; clear hd
        by_cases hlt : q < n
        · obtain ⟨b, o, x, rfl, hb, hx, hxs, c0⟩ := (hsl.keep (keep_lt hbel)).str hlt
          have Hx := Lib.hid hx; clear hx
          have hEr := hE.then_ hbel
          obtain ⟨j, hj1, hj2⟩ : ∃ j : Nat, min (q : Int) ((kb.size : Int) - 1) = (j : Int) ∧ j = min q (kb.size - 1) := ⟨_, by omega, rfl⟩
          have hj3 : j < kb.size := by omega
          have HJ := Lib.hid hj2; clear hj2
          have HF := Lib.hid (show fitsS (k.getD (min q (k.length - 1)) 0) x = fitsS kb[j] x by
            rw [← HKS.out, ← HJ.out, List.getD, ← HB.out, byte_at kb j hj3]; rfl)
          cases g1 : ((kb[j].toNat : Int) == 112)
          · cases g2 : ((kb[j].toNat : Int) == 110)
            · have HT := Lib.hid (wordsFit_step (k := k) Hx.out (by
                rw [HF.out, fitsS, if_neg, if_neg]
                · intro e; rw [e] at g2; revert g2; decide
                · intro e; rw [e] at g1; revert g1; decide))
              go_wp2
              go_round
              case rel => exact ⟨q + 1, by omega, by go_num, by rw [Hr.out, HT.out], hbel⟩
              case measure => simp [intOf]; omega
            · have e110 : kb[j] = 110 := by
                apply UInt8.toNat_inj.1
                have : (110 : UInt8).toNat = 110 := rfl
                rw [beq_iff_eq] at g2
                omega
              have HG := Lib.hid (show fitsS kb[j] x = isNumberS x 6 by rw [e110]; rfl)
              clear e110
              cases gv : isNumberS x 6
              · have HT := Lib.hid (wordsFit_no (k := k) Hx.out (by rw [HF.out, HG.out, gv]))
                go_wp2_with (go_at_call 183; refine (act_isNumber _ _ _ hxs).mono ?_; rintro e w1 ⟨rfl, hb1⟩)
                go_ret
                exact ⟨ret_bool (by rw [HV.out, Hr.out, HT.out]), fr_call hbel hb1⟩
              · have HT := Lib.hid (wordsFit_step (k := k) Hx.out (by rw [HF.out, HG.out, gv]))
                go_wp2_with (go_at_call 183; refine (act_isNumber _ _ _ hxs).mono ?_; rintro e w1 ⟨rfl, hb1⟩)
                go_round
                case rel => exact ⟨q + 1, by omega, by go_num, by rw [Hr.out, HT.out], fr_call hbel hb1⟩
                case measure => simp [intOf]; omega
          · have e112 : kb[j] = 112 := by
              apply UInt8.toNat_inj.1
              have : (112 : UInt8).toNat = 112 := rfl
              rw [beq_iff_eq] at g1
              omega
            have HG := Lib.hid (show fitsS kb[j] x = isPathS x by rw [e112]; rfl)
            clear e112
            cases gv : isPathS x
            · have HT := Lib.hid (wordsFit_no (k := k) Hx.out (by rw [HF.out, HG.out, gv]))
              go_wp2_with (go_at_call 30; refine (blob_IsPath _ _ hEr).mono ?_; rintro e w1 ⟨rfl, hb1⟩)
              go_ret
              exact ⟨ret_bool (by rw [HV.out, Hr.out, HT.out]), fr_call hbel hb1⟩
            · have HT := Lib.hid (wordsFit_step (k := k) Hx.out (by rw [HF.out, HG.out, gv]))
              go_wp2_with (go_at_call 30; refine (blob_IsPath _ _ hEr).mono ?_; rintro e w1 ⟨rfl, hb1⟩)
              go_round
              case rel => exact ⟨q + 1, by omega, by go_num, by rw [Hr.out, HT.out], fr_call hbel hb1⟩
              case measure => simp [intOf]; omega
        · have HT := Lib.hid (wordsFit_end (k := k) (l := l) (i := q) (by rw [hsl.1]; omega))
          go_wp2
          go_ret
          exact ⟨ret_bool (by rw [HV.out, Hr.out, HT.out]), hbel⟩
end Go.Proofs.Sm

namespace Go.Proofs.Sm
open Go.RowKit

def cmdTail (c0 : ByteArray) (words : List ByteArray) : Bool := !(c0.data.toList == [102, 97, 105, 108] && (words.head?.map fun s => s.data.toList) == some [48])
theorem Sl.nil' {α : Type} [Rep α] {w : World} {S : Nat → Prop} {A : Option Addr} : Sl w S A 0 ([] : List α) := ⟨rfl, Nat.zero_le _, fun h => absurd h (by omega)⟩
theorem data_ne {s : ByteArray} {l : List UInt8} (h : ¬ s.toList = l) : (s.data.toList == l) = false := by
  rw [← Lib.toList_data, beq_eq_false_iff_ne]; exact h
theorem data_eq {s : ByteArray} {l : List UInt8} (h : s.toList = l) : (s.data.toList == l) = true := by
  rw [← Lib.toList_data, beq_iff_eq]; exact h

set_option maxHeartbeats 2000000 in
set_option maxRecDepth 100000 in
theorem ref5_formed (b o n c : Nat) (c0 : ByteArray) (l : List ByteArray) (k : List UInt8) (more : Bool) (w : World) (hE : Env w) (hsl : Sl w (Lt w.heap.size) (some ⟨b, o, none⟩) n (c0 :: l)) (hnc : n ≤ c) (hk : formS c0.data.toList = some (k, more)) (hn : n ≤ 1000) :
    Calls Tryz.prog 121 #[.slice (some ⟨b, o, none⟩) n c] w fun e w' => e = .returned (.bool (hasFormS l k more && cmdTail c0 l)) ∧ Below w.heap.size w w' := by
  have hf := form_is hk
  have h1n : 1 ≤ n := by have := hsl.1; simp at this; omega
  have hl1 : l.length = n - 1 := by have := hsl.1; simp at this; omega
  obtain ⟨b', o', x0, e0, hb, hx0, hxs0, d0⟩ := hsl.str (k := 0) (by omega)
  cases e0
  obtain rfl : c0 = x0 := by simpa using hx0
  clear hx0
  rw [Nat.add_zero] at d0
  obtain ⟨kb, hkb⟩ : ∃ kb : ByteArray, kb.data.toList = k := ⟨⟨k.toArray⟩, by simp⟩
  have C1 := Lib.hid (fun w => (ref5_form c0 w).mono fun e w' h => (show e = Ending.returned (.tuple #[.string ⟨(k ++ plusL more).toArray⟩, .bool true]) ∧ w = w' from ⟨by rw [h.1, form_some hk, hk]; rfl, h.2⟩))
  have C2 := Lib.hid (fun w => cutPlus hf ⟨(k ++ plusL more).toArray⟩ (by simp) kb hkb w)
  have hks : kb.size = k.length := by rw [← hkb]; simp
  have hk1 : 1 ≤ kb.size := by rw [hks]; exact hf.2.2.1
  have hk4 : kb.size ≤ 4 := by rw [hks]; exact hf.2.2.2
  have HB := Lib.hid hkb; clear hkb
  have HKS := Lib.hid hks; clear hks
  have HK0 := Lib.hid hk; clear hk
  have HFI := Lib.hid hf; clear hf
  generalize (⟨(k ++ plusL more).toArray⟩ : ByteArray) = fs at *
  have HL := Lib.hid hl1; clear hl1
  have hnI : (0 : Int) < n := by omega
  by_cases hn1 : n = 1
  · subst hn1
    have hl0 : l = [] := List.eq_nil_of_length_eq_zero HL.out
    have HV := Lib.hid (show (hasFormS l k more && cmdTail c0 l) = false by rw [hasForm_lens (.inl (by rw [HL.out, ← HKS.out]; omega))]; rfl)
    clear hl0
    have t1 : decide (0 < kb.size) = true := decide_eq_true (by omega)
    have t0 : 0 < kb.size := by omega
    by_cases hc1 : c = 1
    · subst hc1
      go_enter Tryz.func121, Tryz.ntmps121
      go_wp2_with (first | (go_at_call 120; refine (C1.out _).mono ?_; rintro e w1 ⟨rfl, rfl⟩) | (go_at_call 171; refine (C2.out _).mono ?_; rintro e w1 ⟨rfl, rfl⟩))
      go_ret; exact ⟨ret_bool HV.out.symm, Below.refl _ _⟩
    · go_enter Tryz.func121, Tryz.ntmps121
      go_wp2_with (first | (go_at_call 120; refine (C1.out _).mono ?_; rintro e w1 ⟨rfl, rfl⟩) | (go_at_call 171; refine (C2.out _).mono ?_; rintro e w1 ⟨rfl, rfl⟩))
      go_ret; exact ⟨ret_bool HV.out.symm, Below.refl _ _⟩
  · have hc1 : ¬ c = 1 := by omega
    have hst := sl_tail hsl
    by_cases hlen : n - 1 < kb.size ∨ (kb.size < n - 1 ∧ more = false)
    · have HV := Lib.hid (show (hasFormS l k more && cmdTail c0 l) = false by rw [hasForm_lens (by rw [HL.out, ← HKS.out]; exact hlen)]; rfl)
      rcases hlen with h1 | ⟨h1, rfl⟩
      · have h2 : (n : Int) - 1 < kb.size := by omega
        go_enter Tryz.func121, Tryz.ntmps121
        go_wp2_with (first | (go_at_call 120; refine (C1.out _).mono ?_; rintro e w1 ⟨rfl, rfl⟩) | (go_at_call 171; refine (C2.out _).mono ?_; rintro e w1 ⟨rfl, rfl⟩))
        go_ret; exact ⟨ret_bool HV.out.symm, Below.refl _ _⟩
      · have h2 : (kb.size : Int) < (n : Int) - 1 := by omega
        go_enter Tryz.func121, Tryz.ntmps121
        go_wp2_with (first | (go_at_call 120; refine (C1.out _).mono ?_; rintro e w1 ⟨rfl, rfl⟩) | (go_at_call 171; refine (C2.out _).mono ?_; rintro e w1 ⟨rfl, rfl⟩))
        go_ret; exact ⟨ret_bool HV.out.symm, Below.refl _ _⟩
    · have h1 : kb.size ≤ n - 1 := by omega
      have t1 : decide (n - 1 < kb.size) = false := decide_eq_false (by omega)
      have t2 : (n - 1 ≤ kb.size ∧ decide (kb.size < n - 1) = false) ∨ (more = true ∧ decide (kb.size < n - 1) = true) := by
        by_cases h : n - 1 ≤ kb.size
        · exact .inl ⟨h, decide_eq_false (by omega)⟩
        · right
          cases more
          · exact absurd (.inr ⟨by omega, rfl⟩) hlen
          · exact ⟨rfl, decide_eq_true (by omega)⟩
      have HV := Lib.hid (show hasFormS l k more = wordsFit k 0 l from hasForm_fits (by
        rw [HL.out, ← HKS.out]
        refine ⟨h1, ?_⟩
        rcases t2 with ⟨h, _⟩ | ⟨h, _⟩
        · exact .inl h
        · exact .inr h))
      clear hlen
      have hm : n - 1 ≤ 9223372036854775807 := by omega
      generalize hR : (hasFormS l k more && cmdTail c0 l) = R
      have HR := Lib.hid hR; clear hR
      rcases t2 with ⟨h3, t2⟩ | ⟨rfl, t2⟩
      all_goals
        go_enter Tryz.func121, Tryz.ntmps121
        go_wp2_with (first | (go_at_call 120; refine (C1.out _).mono ?_; rintro e w1 ⟨rfl, rfl⟩) | (go_at_call 171; refine (C2.out _).mono ?_; rintro e w1 ⟨rfl, rfl⟩))
        go_loopw [7] (fun i wr => ∃ q : Nat, q ≤ n - 1 ∧ i = .int .i64 q ∧ wordsFit k 0 l = wordsFit k q (l.drop q) ∧ Below w.heap.size w wr) (fun i _ => n - 1 - (intOf i).toNat)
        case atStart => exact ⟨0, Nat.zero_le _, rfl, rfl, Below.refl _ _⟩
        case round =>
          obtain ⟨q, hq, rfl, hd, hbel⟩ := hrel
          have Hr := Lib.hid hd; clear hd
          by_cases hlt : q < n - 1
          · obtain ⟨b2, o2, x, e2, hb2, hx, hxs, c0'⟩ := (hst.keep (keep_lt hbel)).str hlt
            cases e2
            have Hx := Lib.hid hx; clear hx
            have hEr := hE.then_ hbel
            obtain ⟨j, hj1, hj2⟩ : ∃ j : Nat, min (q : Int) ((kb.size : Int) - 1) = (j : Int) ∧ j = min q (kb.size - 1) := ⟨_, by omega, rfl⟩
            have hj3 : j < kb.size := by omega
            have HJ := Lib.hid hj2; clear hj2
            have HF := Lib.hid (show fitsS (k.getD (min q (k.length - 1)) 0) x = fitsS kb[j] x by
              rw [← HKS.out, ← HJ.out, List.getD, ← HB.out, byte_at kb j hj3]; rfl)
            have hqI : (q : Int) < (n : Int) - 1 := by omega
            have HK := Lib.hid (show ∀ w', Below wr.heap.size wr w' → (Below wr.heap.size wr w' ∧ w'.cell? ⟨b, o + 1 + q, none⟩ = some (.string x)) from fun w' h => ⟨h, (h.cell (p := ⟨b, o + 1 + q, none⟩) (Nat.lt_of_lt_of_le hb hbel.size)).trans c0'⟩)
            have hjI : (j : Int) < (kb.size : Int) := by omega
            have hqI2 : (q : Int) < ((n - 1 : Nat) : Int) := by omega
            have hj0 : (0 : Int) ≤ (j : Int) := by omega
            have HCF := Lib.hid (fun w' (h : Below wr.heap.size wr w') => ref5_fits kb[j] x w' (hEr.then_ h) hxs)
            cases gv : fitsS kb[j] x
            · have HT := Lib.hid (wordsFit_no (k := k) Hx.out (by rw [HF.out, gv]))
              rw [gv] at HCF
              go_wp2
              have g1 := IntWalk.i64_in ((kb.size : Int) - 1) ⟨by omega, by omega⟩
              go_region_held3 (fun w' => Below wr.heap.size wr w' ∧ w'.cell? ⟨b, o + 1 + q, none⟩ = some (.string x))
                (first | assumption | exact HK.out _ (Below.refl _ _).drew | exact HK.out _ (fr_call (And.left (by assumption)) hbc))
                (first | (go_at_call 172; refine (HCF.out _ (And.left (by assumption))).mono ?_; rintro e wc ⟨rfl, hbc⟩))
              have hb9 : Below wr.heap.size wr wc := And.left (by assumption)
              clear g1
              go_wp2
              go_ret
              exact ⟨ret_bool (by rw [← HR.out, HV.out, Hr.out, HT.out]; rfl), fr_call hbel hb9⟩
            · have HT := Lib.hid (wordsFit_step (k := k) Hx.out (by rw [HF.out, gv]))
              rw [gv] at HCF
              go_wp2
              have g1 := IntWalk.i64_in ((kb.size : Int) - 1) ⟨by omega, by omega⟩
              go_region_held3 (fun w' => Below wr.heap.size wr w' ∧ w'.cell? ⟨b, o + 1 + q, none⟩ = some (.string x))
                (first | assumption | exact HK.out _ (Below.refl _ _).drew | exact HK.out _ (fr_call (And.left (by assumption)) hbc))
                (first | (go_at_call 172; refine (HCF.out _ (And.left (by assumption))).mono ?_; rintro e wc ⟨rfl, hbc⟩))
              have hb9 : Below wr.heap.size wr wc := And.left (by assumption)
              clear g1
              go_wp2
              go_round
              case rel => exact ⟨q + 1, by omega, by go_num, by rw [Hr.out, HT.out], fr_call hbel hb9⟩
              case measure => simp [intOf]; omega
          · have HT := Lib.hid (wordsFit_end (k := k) (l := l) (i := q) (by rw [HL.out]; omega))
            have hd0 : wr.cell? ⟨b, o, none⟩ = some (.string c0) := (hbel.cell (p := ⟨b, o, none⟩) hb).trans d0
            by_cases hfa : c0.toList = [102, 97, 105, 108]
            · obtain ⟨b2, o2, x1, e2, hb2, hx1, hxs1, c1'⟩ := (hst.keep (keep_lt hbel)).str (k := 0) (by omega)
              cases e2
              rw [Nat.add_zero] at c1'
              have hd := data_eq hfa
              have hn0 : (0 : Int) < ((n - 1 : Nat) : Int) := by omega
              by_cases hx0 : x1.toList = [48]
              · have HW := Lib.hid (show R = false by
                  rw [← HR.out, cmdTail, hd, List.head?_eq_getElem?, hx1]
                  have : (some (x1.data.toList) == some [48]) = true := by rw [← Lib.toList_data, hx0]; rfl
                  simp [this])
                clear hx1 hd
                go_wp2
                go_ret
                exact ⟨ret_bool (by rw [HW.out] <;> simp [hx0]), hbel⟩
              · have HW := Lib.hid (show R = true by
                  rw [← HR.out, HV.out, Hr.out, HT.out, cmdTail, hd, List.head?_eq_getElem?, hx1]
                  have : (some (x1.data.toList) == some [48]) = false := by rw [← Lib.toList_data, beq_eq_false_iff_ne]; simpa using hx0
                  simp [this])
                clear hx1 hd
                go_wp2
                go_ret
                exact ⟨ret_bool (by rw [HW.out] <;> simp [hx0]), hbel⟩
            · have HW := Lib.hid (show R = true by
                rw [← HR.out, HV.out, Hr.out, HT.out, cmdTail, data_ne hfa]; rfl)
              go_wp2
              go_ret
              exact ⟨ret_bool (by rw [HW.out]), hbel⟩
end Go.Proofs.Sm
