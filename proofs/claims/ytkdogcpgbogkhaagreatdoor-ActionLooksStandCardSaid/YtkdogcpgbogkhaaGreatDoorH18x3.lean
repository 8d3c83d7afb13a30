/- Plain words: which rule has an output, and who needs whom, by way of maps. No program is in sight here. -/
import Derived.Test.YtkdogcpgbogkhaaGreatDoorH18x2
import Derived.Lib.Join
import Derived.Lib.Atoi
namespace Go.Proofs.Sm
open Go.RowKit

def joinS (ws : List ByteArray) : List UInt8 := Lib.join (ws.map (·.data.toList)) [32]
def lineW (ws : List ByteArray) : List UInt8 := joinS ws ++ [10]
def cmdL (c : List ByteArray) : List UInt8 := [100, 111, 32] ++ joinS c ++ [10]
def varL (v : VarV) : List UInt8 := [118, 97, 114, 32] ++ v.name.data.toList ++ [32] ++ v.value.data.toList ++ [10]
def needL (v : VarV) : List UInt8 := [110, 101, 101, 100, 32] ++ v.name.data.toList ++ [32] ++ v.value.data.toList ++ [10]
def outL (p : ByteArray) : List UInt8 := [111, 117, 116, 32] ++ p.data.toList ++ [10]
def toolL (a : ActionV) : List UInt8 := [116, 111, 111, 108, 32] ++ a.tool.data.toList ++ [10]
def timeL (a : ActionV) : List UInt8 := [116, 105, 109, 101, 32] ++ Lib.itoa a.time ++ [10]
def actTextL (a : ActionV) : List UInt8 := toolL a ++ a.commands.flatMap cmdL ++ a.vars.flatMap varL ++ a.outputs.flatMap outL ++ a.needs.flatMap needL ++ timeL a
theorem joinS_two (x y : ByteArray) : joinS [x, y] = x.data.toList ++ [32] ++ y.data.toList := by simp [joinS, Lib.join_cons, Lib.joinTail]
theorem joinS_three (x y z : ByteArray) : joinS [x, y, z] = x.data.toList ++ [32] ++ y.data.toList ++ [32] ++ z.data.toList := by simp [joinS, Lib.join_cons, Lib.joinTail]
theorem joinS_length (m : Nat) (ws : List ByteArray) (h : ∀ x ∈ ws, x.size ≤ m) : (joinS ws).length ≤ (m + 1) * ws.length := by
  cases ws with
  | nil => simp [joinS, Lib.join]
  | cons a l =>
    have h1 := flatMap_length (f := fun x : ByteArray => [32] ++ x.data.toList) (m := m + 1) (l := l) (fun x hx => by
      have h2 := h x (by simp [hx])
      have h3 : x.data.toList.length = x.size := by simp
      simp only [List.length_append, List.length_cons, List.length_nil, h3]; omega)
    have h2 := h a (by simp)
    have h3 : a.data.toList.length = a.size := by simp
    have h4 : Lib.joinTail [32] (l.map (·.data.toList)) = l.flatMap fun x : ByteArray => [32] ++ x.data.toList := by
      simp [Lib.joinTail, List.flatMap, Function.comp_def]
    rw [joinS, List.map_cons, Lib.join_cons, List.length_append, h3, h4, List.length_cons, Nat.mul_succ]
    omega
theorem listErr_all' {α : Type} {err : Option ByteArray → α → Int} {key : α → ByteArray} {l : List α} : ∀ prev, listErr err key prev l = 0 → ∀ x ∈ l, ∃ q, err q x = 0 := by
  induction l with
  | nil => intro _ _ x hx; simp at hx
  | cons a l ih =>
    intro prev h x hx
    rw [listErr] at h
    split at h
    · rename_i h0
      rcases List.mem_cons.1 hx with rfl | hx
      · exact ⟨_, h0⟩
      · exact ih _ h x hx
    · exact absurd h ‹_›
structure ActOk (a : ActionV) : Prop where
  tool : a.tool.size ≤ 16
  commands : a.commands.length ≤ 50
  words : ∀ c ∈ a.commands, c.length ≤ 50 ∧ ∀ s ∈ c, s.size ≤ 300
  vars : a.vars.length ≤ 30
  var : ∀ v ∈ a.vars, v.name.size ≤ 40 ∧ v.value.size ≤ 300
  outputs : a.outputs.length ≤ 100
  output : ∀ p ∈ a.outputs, p.size ≤ 200
  needs : a.needs.length ≤ 30
  need : ∀ v ∈ a.needs, v.name.size ≤ 40 ∧ v.value.size ≤ 300
  time : 1 ≤ a.time ∧ a.time ≤ 100000
theorem commandsErr_all {l : List (List ByteArray)} (h : commandsErr l = 0) : ∀ c ∈ l, checkCommandS c = 0 := by
  induction l with
  | nil => intro x hx; simp at hx
  | cons a l ih =>
    rw [commandsErr] at h
    split at h
    · rename_i h0
      intro x hx
      rcases List.mem_cons.1 hx with rfl | hx
      · exact h0
      · exact ih h x hx
    · exact absurd h ‹_›
theorem command_ok {c : List ByteArray} (h : checkCommandS c = 0) : c.length ≤ 50 ∧ ∀ s ∈ c, s.size ≤ 300 := by
  unfold checkCommandS at h
  split at h
  · omega
  · rename_i h1
    refine ⟨by omega, ?_⟩
    cases c with
    | nil => intro s hs; simp at hs
    | cons c0 words =>
      simp only at h
      split at h
      · omega
      · rename_i h2
        simp only [Bool.not_eq_false, List.all_eq_true] at h2
        intro s hs
        have := withinB_true (Bool.and_eq_true_iff.1 (h2 s hs)).2
        omega
theorem vars_ok {l : List VarV} (h : checkVarsS l = 0) : l.length ≤ 30 ∧ ∀ v ∈ l, v.name.size ≤ 40 ∧ v.value.size ≤ 300 := by
  unfold checkVarsS at h
  split at h
  · omega
  · refine ⟨by omega, fun v hv => ?_⟩
    obtain ⟨q, hq⟩ := listErr_all' _ h v hv
    unfold varErr at hq
    split at hq
    · omega
    · split at hq
      · omega
      · rename_i h1 h2
        simp only [Bool.not_eq_false, isNameS, Bool.and_eq_true] at h1
        have := withinB_true h1.1.1.1
        simp only [Bool.or_eq_true, decide_eq_true_eq, not_or] at h2
        omega
theorem outputs_ok {l : List ByteArray} (h : checkOutputsS l = 0) : l.length ≤ 100 ∧ ∀ v ∈ l, v.size ≤ 200 := by
  unfold checkOutputsS at h
  split at h
  · omega
  · split at h
    · omega
    · split at h
      · rename_i h1; exact absurd h h1
      · rename_i h0 h1 h2
        refine ⟨by omega, fun v hv => ?_⟩
        obtain ⟨q, hq⟩ := listErr_all' _ (Classical.not_not.1 h2) v hv
        unfold outErr at hq
        split at hq
        · omega
        · rename_i h3; exact path_size (by simpa using h3)
theorem checkAction_ok {a : ActionV} (h : checkActionS a = 0) : ActOk a := by
  unfold checkActionS at h
  split at h
  · omega
  · split at h
    · omega
    · split at h
      · omega
      · split at h
        · rename_i h1; exact absurd h h1
        · split at h
          · rename_i h1; exact absurd h h1
          · split at h
            · rename_i h1; exact absurd h h1
            · split at h
              · rename_i h1; exact absurd h h1
              · split at h
                · omega
                · rename_i h1 h2 h3 h4 h5 h6 h7 h8
                  have g4 := Classical.not_not.1 h4
                  have g5 := vars_ok (Classical.not_not.1 h5)
                  have g6 := outputs_ok (Classical.not_not.1 h6)
                  have g7 := vars_ok (Classical.not_not.1 h7)
                  refine ⟨digest_size (.inr (by simpa using h1)), by omega, fun c hc => command_ok (commandsErr_all g4 c hc), g5.1, g5.2, g6.1, g6.2, g7.1, g7.2, withinB_true (by simpa using h8)⟩
theorem cmdL_length {c : List ByteArray} (h : c.length ≤ 50 ∧ ∀ s ∈ c, s.size ≤ 300) : (joinS c).length ≤ 15050 := by
  have h1 := joinS_length 300 c h.2
  have : 301 * c.length ≤ 301 * 50 := Nat.mul_le_mul_left _ h.1
  omega
theorem flatMap_take {α : Type} {f : α → List UInt8} {m q : Nat} {l : List α} (hq : l.length ≤ q) (h : ∀ x ∈ l, (f x).length ≤ m) (k : Nat) : ((l.take k).flatMap f).length ≤ m * q := by
  have h2 := flatMap_length (f := f) (m := m) (l := l.take k) (fun x hx => h x (List.mem_of_mem_take hx))
  have h3 : (l.take k).length ≤ q := by rw [List.length_take]; omega
  have : m * (l.take k).length ≤ m * q := Nat.mul_le_mul_left _ h3
  omega
theorem toolL_length {a : ActionV} (ok : ActOk a) : (toolL a).length ≤ 30 := by
  have h5 : a.tool.data.toList.length = a.tool.size := by simp
  have := ok.tool
  simp only [toolL, List.length_append, List.length_cons, List.length_nil, h5]; omega
theorem cmds_length {a : ActionV} (ok : ActOk a) (k : Nat) : ((a.commands.take k).flatMap cmdL).length ≤ 800000 := by
  have := flatMap_take (f := cmdL) (m := 15100) ok.commands (fun x hx => by
    have := cmdL_length (ok.words x hx)
    simp only [cmdL, List.length_append, List.length_cons, List.length_nil]; omega) k
  omega
theorem vars_length {a : ActionV} (ok : ActOk a) (k : Nat) : ((a.vars.take k).flatMap varL).length ≤ 12000 := by
  have := flatMap_take (f := varL) (m := 360) ok.vars (fun x hx => by
    have := ok.var x hx
    have h5 : x.name.data.toList.length = x.name.size := by simp
    have h6 : x.value.data.toList.length = x.value.size := by simp
    simp only [varL, List.length_append, List.length_cons, List.length_nil, h5, h6]; omega) k
  omega
theorem outs_length {a : ActionV} (ok : ActOk a) (k : Nat) : ((a.outputs.take k).flatMap outL).length ≤ 30000 := by
  have := flatMap_take (f := outL) (m := 220) ok.outputs (fun x hx => by
    have := ok.output x hx
    have h5 : x.data.toList.length = x.size := by simp
    simp only [outL, List.length_append, List.length_cons, List.length_nil, h5]; omega) k
  omega
theorem needs_length {a : ActionV} (ok : ActOk a) (k : Nat) : ((a.needs.take k).flatMap needL).length ≤ 12000 := by
  have := flatMap_take (f := needL) (m := 360) ok.needs (fun x hx => by
    have := ok.need x hx
    have h5 : x.name.data.toList.length = x.name.size := by simp
    have h6 : x.value.data.toList.length = x.value.size := by simp
    simp only [needL, List.length_append, List.length_cons, List.length_nil, h5, h6]; omega) k
  omega
end Go.Proofs.Sm

namespace Go.Proofs.Sm
open Go.RowKit

def firstSmall (l : List UInt8) : Bool := match l with | [] => false | c :: _ => smallI (c.toNat : Int)
theorem isNameS_eq (s : ByteArray) : isNameS s = (withinB s.size 1 40 && firstSmall s.data.toList && s.data.toList.all nameB && !(langWords.contains s.data.toList)) := rfl
theorem byte_at (s : ByteArray) (k : Nat) (h : k < s.size) : s.data.toList[k]? = some s[k] := by
  rw [Array.getElem?_toList]
  exact Array.getElem?_eq_getElem h
theorem firstSmall_at (s : ByteArray) (h : 0 < s.size) : firstSmall s.data.toList = smallI (s[0].toNat : Int) := by
  have h1 := byte_at s 0 h
  cases hl : s.data.toList with
  | nil => rw [hl] at h1; cases h1
  | cons a l => rw [hl] at h1; cases h1; rfl
theorem first_of_take {l : List UInt8} {k : Nat} (h : 0 < k) : firstSmall (l.take k) = firstSmall l := by
  cases l with
  | nil => simp
  | cons a l =>
    cases k with
    | zero => omega
    | succ k => rfl
/-- the value of digits -/
def numS (s : ByteArray) : Nat := (Lib.decNat s.data.toList).getD 0
theorem decFrom_some : ∀ (l : List UInt8) (acc : Nat), l.all digitB = true → ∃ n, Lib.decFrom acc l = some n ∧ n < (acc + 1) * 10 ^ l.length
  | [], acc, _ => ⟨acc, rfl, by simp⟩
  | c :: l, acc, h => by
    rw [List.all_cons, Bool.and_eq_true] at h
    have hc : 48 ≤ c.toNat ∧ c.toNat ≤ 57 := by
      have := h.1
      simp [digitB, digitI] at this
      omega
    obtain ⟨n, h1, h2⟩ := decFrom_some l (acc * 10 + (c.toNat - 48)) h.2
    refine ⟨n, ?_, ?_⟩
    · rw [Lib.decFrom, Lib.digitVal, if_pos hc]
      exact h1
    · refine Nat.lt_of_lt_of_le h2 ?_
      rw [List.length_cons, Nat.pow_succ, ← Nat.mul_assoc, Nat.mul_right_comm]
      exact Nat.mul_le_mul_right _ (by omega)
theorem number_some {s : ByteArray} {m : Int} (h : isNumberS s m = true) : Lib.decNat s.data.toList = some (numS s) ∧ numS s < 10 ^ s.size ∧ s.size ≤ m.toNat ∧ 1 ≤ s.size := by
  simp only [isNumberS, Bool.and_eq_true] at h
  have h1 := withinB_true h.1.1
  obtain ⟨n, h2, h3⟩ := decFrom_some s.data.toList 0 h.1.2
  have hne : s.data.toList.isEmpty = false := by
    rw [List.isEmpty_eq_false_iff]
    intro e
    have := congrArg List.length e
    simp at this
    have : s.size = 0 := by simp [ByteArray.size, this]
    omega
  have h4 : Lib.decNat s.data.toList = some n := by rw [Lib.decNat, hne]; exact h2
  have h5 : s.data.toList.length = s.size := by simp
  refine ⟨by rw [numS, h4]; rfl, by rw [numS, h4]; simpa [h5] using h3, by omega, by omega⟩
theorem number_atoi {s : ByteArray} {m : Int} (h : isNumberS s m = true) : Lib.atoi s.data.toList = some ((numS s : Nat) : Int) := by
  have h1 := (number_some h).1
  simp only [isNumberS, Bool.and_eq_true] at h
  cases hl : s.data.toList with
  | nil => rw [hl, Lib.decNat] at h1; cases h1
  | cons b r =>
    have hb : digitB b = true := by
      have := h.1.2
      rw [hl, List.all_cons, Bool.and_eq_true] at this
      exact this.1
    have hb1 : (b == 45) = false := by
      rw [beq_eq_false_iff_ne]
      intro e; subst e; revert hb; decide
    have hb2 : (b == 43) = false := by
      rw [beq_eq_false_iff_ne]
      intro e; subst e; revert hb; decide
    rw [Lib.atoi, hb1, hb2, ← hl, h1]
    rfl
theorem leadOk_two {s : ByteArray} (h : 1 < s.size) : leadOk s.data.toList = !(((s[0]'(by omega)).toNat : Int) == 48) := by
  have h1 := byte_at s 0 (by omega)
  have h2 : s.data.toList.length = s.size := by simp
  cases hl : s.data.toList with
  | nil => rw [hl] at h1; cases h1
  | cons a l =>
    rw [hl] at h1 h2
    cases h1
    have hne : ((s[0]'(by omega)) :: l == [48]) = false := by
      cases l with
      | nil => simp at h2; omega
      | cons c l => simp
    rw [leadOk, hne, Bool.or_false, List.head?_cons, Bool.eq_iff_iff]
    simp only [Bool.not_eq_true', beq_eq_false_iff_ne, ne_eq, Option.some.injEq]
    have e48 : (48 : UInt8).toNat = 48 := rfl
    constructor
    · intro hh e; exact hh (UInt8.toNat_inj.1 (by omega))
    · intro hh e; rw [e] at hh; exact hh rfl
theorem leadOk_one {s : ByteArray} (h : s.size = 1) : leadOk s.data.toList = true := by
  have h2 : s.data.toList.length = s.size := by simp
  cases hl : s.data.toList with
  | nil => rfl
  | cons a l =>
    rw [hl, h] at h2
    have : l = [] := List.eq_nil_of_length_eq_zero (by simpa using h2)
    subst this
    unfold leadOk
    rw [List.head?_cons]
    by_cases ha : a = 48
    · subst ha; rfl
    · have : (some a == some (48 : UInt8)) = false := by simpa using ha
      rw [this]; rfl
end Go.Proofs.Sm

namespace Go.Proofs.Sm
open Go.RowKit

/-- for each number those that it needs -/
abbrev Graph := List (List Nat)
def needAt (g : Graph) (i : Nat) : List Nat := (g[i]?).getD []
def readyS (g : Graph) (done : List Nat) (i : Nat) : Bool := (needAt g i).all fun k => done.contains k
def freeS (g : Graph) (inn : Nat → Bool) (done : List Nat) (i : Nat) : Bool := inn i && !done.contains i && readyS g done i
def nextS (g : Graph) (inn : Nat → Bool) (done : List Nat) : Option Nat := (List.range g.length).find? (freeS g inn done)
def undoneS (g : Graph) (inn : Nat → Bool) (done : List Nat) : Bool := (List.range g.length).any fun i => inn i && !done.contains i
def runO (g : Graph) (inn : Nat → Bool) : Nat → List Nat → List Nat × Bool
  | 0, out => (out, !undoneS g inn out)
  | f + 1, out => match nextS g inn out with
    | none => (out, !undoneS g inn out)
    | some k => runO g inn f (out ++ [k])
/-- the order of those of which 'inn' says so; false: there is a loop -/
def orderS (g : Graph) (inn : Nat → Bool) : List Nat × Bool := runO g inn g.length []

/-- what stands in a list that is put together so -/
structure Done (g : Graph) (inn : Nat → Bool) (out : List Nat) : Prop where
  nodup : out.Nodup
  lt : ∀ i ∈ out, i < g.length
  inn : ∀ i ∈ out, inn i = true
theorem Done.nil {g : Graph} {inn : Nat → Bool} : Done g inn [] := ⟨List.nodup_nil, fun _ h => by simp at h, fun _ h => by simp at h⟩
theorem next_some {g : Graph} {inn : Nat → Bool} {out : List Nat} {k : Nat} (h : nextS g inn out = some k) : k < g.length ∧ freeS g inn out k = true ∧ ∀ j, j < k → freeS g inn out j = false := by
  rw [nextS, List.find?_range_eq_some] at h
  obtain ⟨h1, h2, h3⟩ := h
  exact ⟨by simpa using h2, h1, fun j hj => by simpa using h3 j hj⟩
theorem next_is {g : Graph} {inn : Nat → Bool} {out : List Nat} {k : Nat} (hk : k < g.length) (h1 : freeS g inn out k = true) (h2 : ∀ j, j < k → freeS g inn out j = false) : nextS g inn out = some k := by
  rw [nextS, List.find?_range_eq_some]
  exact ⟨h1, by simpa using hk, fun j hj => by simpa using h2 j hj⟩
theorem next_none {g : Graph} {inn : Nat → Bool} {out : List Nat} : nextS g inn out = none ↔ ∀ j, j < g.length → freeS g inn out j = false := by
  rw [nextS, List.find?_eq_none]
  simp
theorem free_parts {g : Graph} {inn : Nat → Bool} {out : List Nat} {k : Nat} (h : freeS g inn out k = true) : inn k = true ∧ k ∉ out ∧ readyS g out k = true := by
  simp only [freeS, Bool.and_eq_true, Bool.not_eq_true', List.contains_eq_mem, decide_eq_false_iff_not] at h
  exact ⟨h.1.1, h.1.2, h.2⟩
theorem Done.more {g : Graph} {inn : Nat → Bool} {out : List Nat} {k : Nat} (h : Done g inn out) (hk : nextS g inn out = some k) : Done g inn (out ++ [k]) := by
  obtain ⟨h1, h2, _⟩ := next_some hk
  obtain ⟨h3, h4, _⟩ := free_parts h2
  refine ⟨?_, fun i hi => ?_, fun i hi => ?_⟩
  · rw [List.nodup_append]
    exact ⟨h.nodup, by simp, fun a ha b hb e => by simp at hb; subst hb; subst e; exact h4 ha⟩
  · rcases List.mem_append.1 hi with hi | hi
    · exact h.lt i hi
    · simp at hi; subst hi; exact h1
  · rcases List.mem_append.1 hi with hi | hi
    · exact h.inn i hi
    · simp at hi; subst hi; exact h3
/-- how many there are of which 'inn' says so -/
def manyS (g : Graph) (inn : Nat → Bool) : Nat := ((List.range g.length).filter inn).length
theorem nodup_length {a b : List Nat} (h : a.Nodup) (hs : ∀ x ∈ a, x ∈ b) : a.length ≤ b.length := by
  induction a generalizing b with
  | nil => simp
  | cons x a ih =>
    rw [List.nodup_cons] at h
    have hx := hs x (by simp)
    have h2 : a.length ≤ (b.erase x).length := ih h.2 fun y hy => (List.mem_erase_of_ne (by rintro rfl; exact h.1 hy)).2 (hs y (by simp [hy]))
    have h3 := List.length_erase_of_mem hx
    have h4 : 0 < b.length := List.length_pos_of_mem hx
    rw [List.length_cons]; omega
theorem Done.most {g : Graph} {inn : Nat → Bool} {out : List Nat} (h : Done g inn out) : out.length ≤ manyS g inn :=
  nodup_length h.nodup fun x hx => by simp [h.lt x hx, h.inn x hx]
theorem many_le (g : Graph) (inn : Nat → Bool) : manyS g inn ≤ g.length := by
  have := List.length_filter_le inn (List.range g.length)
  simpa [manyS] using this
theorem undone_iff {g : Graph} {inn : Nat → Bool} {out : List Nat} (h : Done g inn out) : undoneS g inn out = true ↔ out.length < manyS g inn := by
  constructor
  · intro hu
    simp only [undoneS, List.any_eq_true, List.mem_range, Bool.and_eq_true, Bool.not_eq_true', List.contains_eq_mem, decide_eq_false_iff_not] at hu
    obtain ⟨i, hi, h1, h2⟩ := hu
    have h3 : (out ++ [i]).length ≤ manyS g inn := by
      refine nodup_length ?_ fun x hx => ?_
      · rw [List.nodup_append]
        exact ⟨h.nodup, by simp, fun a ha b hb e => by simp at hb; subst hb; subst e; exact h2 ha⟩
      · rcases List.mem_append.1 hx with hx | hx
        · simp [h.lt x hx, h.inn x hx]
        · simp at hx; subst hx; simp [hi, h1]
    rw [List.length_append, List.length_singleton] at h3
    omega
  · intro hl
    cases hu : undoneS g inn out with
    | true => rfl
    | false =>
      exfalso
      simp only [undoneS, List.any_eq_false, List.mem_range, Bool.and_eq_true, Bool.not_eq_true', List.contains_eq_mem, decide_eq_false_iff_not, not_and, Decidable.not_not] at hu
      have : manyS g inn ≤ out.length := nodup_length ((List.nodup_range).filter inn) fun x hx => by
        simp only [List.mem_filter, List.mem_range] at hx
        exact hu x hx.1 hx.2
      omega
theorem next_undone {g : Graph} {inn : Nat → Bool} {out : List Nat} {k : Nat} (h : nextS g inn out = some k) : undoneS g inn out = true := by
  obtain ⟨h1, h2, _⟩ := next_some h
  obtain ⟨h3, h4, _⟩ := free_parts h2
  simp only [undoneS, List.any_eq_true, List.mem_range, Bool.and_eq_true, Bool.not_eq_true', List.contains_eq_mem, decide_eq_false_iff_not]
  exact ⟨k, h1, h3, h4⟩
theorem runO_fuel {g : Graph} {inn : Nat → Bool} : ∀ (f f' : Nat) (out : List Nat), Done g inn out → manyS g inn - out.length ≤ f → manyS g inn - out.length ≤ f' → runO g inn f out = runO g inn f' out
  | 0, 0, _, _, _, _ => rfl
  | 0, f' + 1, out, hd, h1, _ => by
    have h2 : ¬ undoneS g inn out = true := fun hu => by have := (undone_iff hd).1 hu; omega
    cases hn : nextS g inn out with
    | none => rw [runO, runO, hn]
    | some k => exact absurd (next_undone hn) h2
  | f + 1, 0, out, hd, _, h1 => by
    have h2 : ¬ undoneS g inn out = true := fun hu => by have := (undone_iff hd).1 hu; omega
    cases hn : nextS g inn out with
    | none => rw [runO, runO, hn]
    | some k => exact absurd (next_undone hn) h2
  | f + 1, f' + 1, out, hd, h1, h2 => by
    cases hn : nextS g inn out with
    | none => rw [runO, runO, hn]
    | some k =>
      have := (undone_iff hd).1 (next_undone hn)
      rw [runO, runO, hn]
      exact runO_fuel f f' _ (hd.more hn) (by rw [List.length_append, List.length_singleton]; omega) (by rw [List.length_append, List.length_singleton]; omega)
/-- the rest of the way from what is put together so far -/
def restO (g : Graph) (inn : Nat → Bool) (out : List Nat) : List Nat × Bool := runO g inn g.length out
theorem orderS_rest (g : Graph) (inn : Nat → Bool) : orderS g inn = restO g inn [] := rfl
theorem restO_next {g : Graph} {inn : Nat → Bool} {out : List Nat} {k : Nat} (hd : Done g inn out) (hn : nextS g inn out = some k) : restO g inn out = restO g inn (out ++ [k]) := by
  have h1 := (undone_iff hd).1 (next_undone hn)
  have h2 := many_le g inn
  rw [restO, restO, show g.length = (g.length - 1) + 1 by omega, runO, hn]
  show runO g inn (g.length - 1) (out ++ [k]) = _
  exact runO_fuel _ _ _ (hd.more hn) (by rw [List.length_append, List.length_singleton]; omega) (by rw [List.length_append, List.length_singleton]; omega)
theorem restO_stop {g : Graph} {inn : Nat → Bool} {out : List Nat} (hn : nextS g inn out = none) : restO g inn out = (out, !undoneS g inn out) := by
  rw [restO]
  cases g.length with
  | zero => rfl
  | succ n => rw [runO, hn]
theorem restO_full {g : Graph} {inn : Nat → Bool} {out : List Nat} (hd : Done g inn out) (h : ¬ out.length < manyS g inn) : restO g inn out = (out, true) := by
  have h1 : undoneS g inn out = false := by
    cases hu : undoneS g inn out with
    | false => rfl
    | true => exact absurd ((undone_iff hd).1 hu) h
  have h2 : nextS g inn out = none := by
    cases hn : nextS g inn out with
    | none => rfl
    | some k => rw [next_undone hn] at h1; cases h1
  rw [restO_stop h2, h1]; rfl
theorem restO_stuck {g : Graph} {inn : Nat → Bool} {out : List Nat} (hd : Done g inn out) (h : out.length < manyS g inn) (hn : nextS g inn out = none) : restO g inn out = (out, false) := by
  rw [restO_stop hn, (undone_iff hd).2 h]; rfl
theorem runO_done {g : Graph} {inn : Nat → Bool} : ∀ (f : Nat) (out : List Nat), Done g inn out → Done g inn (runO g inn f out).1
  | 0, _, hd => hd
  | f + 1, out, hd => by
    rw [runO]
    cases hn : nextS g inn out with
    | none => exact hd
    | some k => exact runO_done f _ (hd.more hn)
theorem orderS_done (g : Graph) (inn : Nat → Bool) : Done g inn (orderS g inn).1 := runO_done _ _ Done.nil
/-- each stands behind all that it needs -/
def Behind (g : Graph) (out : List Nat) : Prop := ∀ (i k : Nat), out[i]? = some k → ∀ m ∈ needAt g k, m ∈ out.take i
theorem Behind.more {g : Graph} {inn : Nat → Bool} {out : List Nat} {k : Nat} (h : Behind g out) (hn : nextS g inn out = some k) : Behind g (out ++ [k]) := by
  intro i x hx m hm
  rcases Nat.lt_or_ge i out.length with hi | hi
  · rw [List.getElem?_append_left hi] at hx
    rw [List.take_append_of_le_length (by omega)]
    exact h i x hx m hm
  · have hi2 := (List.getElem?_eq_some_iff.1 hx).1
    rw [List.length_append, List.length_singleton] at hi2
    obtain rfl : i = out.length := by omega
    rw [List.getElem?_append_right (Nat.le_refl _)] at hx
    simp at hx; subst hx
    rw [List.take_append_of_le_length (Nat.le_refl _), List.take_length]
    have := (free_parts (next_some hn).2.1).2.2
    rw [readyS, List.all_eq_true] at this
    simpa using this m hm
theorem runO_behind {g : Graph} {inn : Nat → Bool} : ∀ (f : Nat) (out : List Nat), Behind g out → Behind g (runO g inn f out).1
  | 0, _, hd => hd
  | f + 1, out, hd => by
    rw [runO]
    cases hn : nextS g inn out with
    | none => exact hd
    | some k => exact runO_behind f _ (hd.more hn)
theorem orderS_behind (g : Graph) (inn : Nat → Bool) : Behind g (orderS g inn).1 := runO_behind _ _ fun i k h => by simp at h
/-- all are in the order where there is no loop -/
theorem runO_all {g : Graph} {inn : Nat → Bool} : ∀ (f : Nat) (out : List Nat), (runO g inn f out).2 = true → undoneS g inn (runO g inn f out).1 = false
  | 0, out, h => by
    rw [runO] at h ⊢
    simpa using h
  | f + 1, out, h => by
    rw [runO] at h ⊢
    cases hn : nextS g inn out with
    | none => rw [hn] at h; simpa using h
    | some k => rw [hn] at h; exact runO_all f _ h
theorem order_has {g : Graph} {inn : Nat → Bool} (h : (orderS g inn).2 = true) {i : Nat} (hi : i < g.length) (hn : inn i = true) : i ∈ (orderS g inn).1 := by
  have := runO_all _ _ h
  simp only [undoneS, List.any_eq_false, List.mem_range, Bool.and_eq_true, Bool.not_eq_true', List.contains_eq_mem, decide_eq_false_iff_not, not_and, Decidable.not_not] at this
  exact this i hi hn
/-- what is not closed in a loop as a whole is not in a part that has all that it needs -/
theorem order_part {g : Graph} {inn : Nat → Bool} (h : (orderS g fun _ => true).2 = true) (hc : ∀ i, i < g.length → inn i = true → ∀ k ∈ needAt g i, k < g.length ∧ inn k = true) : (orderS g inn).2 = true := by
  have hb := orderS_behind g fun _ => true
  have hall : ∀ i, i < g.length → i ∈ (orderS g fun _ => true).1 := fun i hi => order_has h hi rfl
  generalize (orderS g fun _ => true).1 = o at hb hall
  -- the run stops only when all is done
  have key : ∀ (out : List Nat), Done g inn out → nextS g inn out = none → undoneS g inn out = false := by
    intro out hd hn
    cases hu : undoneS g inn out with
    | false => rfl
    | true =>
      exfalso
      simp only [undoneS, List.any_eq_true, List.mem_range, Bool.and_eq_true, Bool.not_eq_true', List.contains_eq_mem, decide_eq_false_iff_not] at hu
      -- the first one in the whole order that is not done
      have hex : ∀ (m : Nat) (i : Nat), o[m]? = some i → i < g.length → inn i = true → i ∉ out → False := by
        intro m
        induction m using Nat.strongRecOn with
        | ind m ih =>
          intro i hm hi h1 h2
          have hf := next_none.1 hn i hi
          have hr : readyS g out i = false := by
            simp only [freeS, h1, List.contains_eq_mem, Bool.true_and] at hf
            simpa [h2] using hf
          rw [readyS, List.all_eq_false] at hr
          obtain ⟨k, hk, hko⟩ := hr
          have hko : k ∉ out := by simpa using hko
          obtain ⟨hkl, hki⟩ := hc i hi h1 k hk
          have hkt := hb m i hm k hk
          obtain ⟨j, hj⟩ := List.getElem?_of_mem hkt
          rw [List.getElem?_take] at hj
          split at hj
          · exact ih j (by assumption) k hj hkl hki hko
          · cases hj
      obtain ⟨i, hi, h1, h2⟩ := hu
      obtain ⟨m, hm⟩ := List.getElem?_of_mem (hall i hi)
      exact hex m i hm hi h1 h2
  have run : ∀ (f : Nat) (out : List Nat), Done g inn out → manyS g inn - out.length ≤ f → (runO g inn f out).2 = true := by
    intro f
    induction f with
    | zero =>
      intro out hd hf
      have : ¬ undoneS g inn out = true := fun hu => by have := (undone_iff hd).1 hu; omega
      rw [runO]; simpa using this
    | succ f ih =>
      intro out hd hf
      rw [runO]
      cases hn : nextS g inn out with
      | none => simp only; rw [key out hd hn]; rfl
      | some k =>
        have := (undone_iff hd).1 (next_undone hn)
        exact ih _ (hd.more hn) (by rw [List.length_append, List.length_singleton]; omega)
  exact run _ _ Done.nil (by have := many_le g inn; simp; omega)

/-! ### What is reached -/
/-- s says of each number whether it is reached from those that are wanted -/
structure Closed (g : Graph) (wanted : List Nat) (s : List Bool) : Prop where
  len : s.length = g.length
  has : ∀ k ∈ wanted, s[k]? = some true
  closed : ∀ i, s[i]? = some true → ∀ k ∈ needAt g i, s[k]? = some true
  least : ∀ (t : Nat → Prop), (∀ k ∈ wanted, t k) → (∀ i, t i → ∀ k ∈ needAt g i, t k) → ∀ i, s[i]? = some true → t i
theorem Closed.unique {g : Graph} {wanted : List Nat} {s s' : List Bool} (h : Closed g wanted s) (h' : Closed g wanted s') : s = s' := by
  apply List.ext_getElem?
  intro i
  have e1 : s[i]? = some true → s'[i]? = some true := h.least (fun i => s'[i]? = some true) h'.has h'.closed i
  have e2 : s'[i]? = some true → s[i]? = some true := h'.least (fun i => s[i]? = some true) h.has h.closed i
  rcases Nat.lt_or_ge i s.length with hi | hi
  · have hi' : i < s'.length := by rw [h'.len, ← h.len]; exact hi
    rw [List.getElem?_eq_getElem hi] at e1 e2 ⊢
    rw [List.getElem?_eq_getElem hi'] at e1 e2 ⊢
    cases h1 : s[i] <;> cases h2 : s'[i] <;> simp_all
  · rw [List.getElem?_eq_none hi, List.getElem?_eq_none (by rw [h'.len, ← h.len]; exact hi)]
end Go.Proofs.Sm

namespace Go.Proofs.Sm
open Go.RowKit

structure RuleV where
  name : ByteArray
  action : ActionV
  inputs : List ByteArray
instance : Rep RuleV where
  sz := 8
  rep w S x vs := ∃ A n c B m d C p e D q f E r h, vs = [.string x.name, .string x.action.tool, .slice A n c, .slice B m d, .slice C p e, .slice D q f, .int .i64 x.action.time, .slice E r h] ∧
    (x.name.size ≤ maxLen ∧ x.action.tool.size ≤ maxLen ∧ InInt x.action.time) ∧ (n ≤ c ∧ c ≤ maxLen ∧ m ≤ d ∧ d ≤ maxLen ∧ p ≤ e ∧ e ≤ maxLen ∧ q ≤ f ∧ f ≤ maxLen ∧ r ≤ h ∧ h ≤ maxLen) ∧
    (Sl w S A n x.action.commands ∧ Sl w S B m x.action.vars ∧ Sl w S C p x.action.outputs ∧ Sl w S D q x.action.needs ∧ Sl w S E r x.inputs)
  len h := by obtain ⟨A, n, c, B, m, d, C, p, e, D, q, f, E, r, h, rfl, _⟩ := h; rfl
  keep hk h := by
    obtain ⟨A, n, c, B, m, d, C, p, e, D, q, f, E, r, h, h0, h1, h2, a1, a2, a3, a4, a5⟩ := h
    exact ⟨A, n, c, B, m, d, C, p, e, D, q, f, E, r, h, h0, h1, h2, a1.keep hk, a2.keep hk, a3.keep hk, a4.keep hk, a5.keep hk⟩
  more hs h := by
    obtain ⟨A, n, c, B, m, d, C, p, e, D, q, f, E, r, h, h0, h1, h2, a1, a2, a3, a4, a5⟩ := h
    exact ⟨A, n, c, B, m, d, C, p, e, D, q, f, E, r, h, h0, h1, h2, a1.more hs, a2.more hs, a3.more hs, a4.more hs, a5.more hs⟩

theorem Sl.rule {w : World} {S : Nat → Prop} {A : Option Addr} {n k : Nat} {l : List RuleV} (h : Sl w S A n l) (hk : k < n) :
    ∃ b o x, A = some ⟨b, o, none⟩ ∧ S b ∧ l[k]? = some x ∧ ∃ A1 n1 c1 A2 n2 c2 A3 n3 c3 A4 n4 c4 A5 n5 c5,
      (x.name.size ≤ maxLen ∧ x.action.tool.size ≤ maxLen ∧ InInt x.action.time) ∧ (n1 ≤ c1 ∧ c1 ≤ maxLen ∧ n2 ≤ c2 ∧ c2 ≤ maxLen ∧ n3 ≤ c3 ∧ c3 ≤ maxLen ∧ n4 ≤ c4 ∧ c4 ≤ maxLen ∧ n5 ≤ c5 ∧ c5 ≤ maxLen) ∧
      (Sl w S A1 n1 x.action.commands ∧ Sl w S A2 n2 x.action.vars ∧ Sl w S A3 n3 x.action.outputs ∧ Sl w S A4 n4 x.action.needs ∧ Sl w S A5 n5 x.inputs) ∧
      (w.cell? ⟨b, o + k * 8, none⟩ = some (.string x.name) ∧ w.cell? ⟨b, o + k * 8 + 1, none⟩ = some (.string x.action.tool) ∧ w.cell? ⟨b, o + k * 8 + 2, none⟩ = some (.slice A1 n1 c1) ∧ w.cell? ⟨b, o + k * 8 + 3, none⟩ = some (.slice A2 n2 c2) ∧
        w.cell? ⟨b, o + k * 8 + 4, none⟩ = some (.slice A3 n3 c3) ∧ w.cell? ⟨b, o + k * 8 + 5, none⟩ = some (.slice A4 n4 c4) ∧ w.cell? ⟨b, o + k * 8 + 6, none⟩ = some (.int .i64 x.action.time) ∧ w.cell? ⟨b, o + k * 8 + 7, none⟩ = some (.slice A5 n5 c5)) := by
  have hk' : k < l.length := by rw [h.1]; exact hk
  obtain ⟨b, o, vs, e, hb, hr, ha⟩ := h.at hk'
  obtain ⟨A1, n1, c1, A2, n2, c2, A3, n3, c3, A4, n4, c4, A5, n5, c5, rfl, h1, h2, h3⟩ := hr
  exact ⟨b, o, _, e, hb, List.getElem?_eq_getElem hk', A1, n1, c1, A2, n2, c2, A3, n3, c3, A4, n4, c4, A5, n5, c5, h1, h2, h3, ha 0 _ rfl, ha 1 _ rfl, ha 2 _ rfl, ha 3 _ rfl, ha 4 _ rfl, ha 5 _ rfl, ha 6 _ rfl, ha 7 _ rfl⟩

/-! ### A rule alone -/
def hasB (l : List ByteArray) (s : ByteArray) : Bool := l.any fun x => x.toList == s.toList
def checkRuleS (r : RuleV) : Int := if isPathS r.name = false then 3 else if checkActionS r.action ≠ 0 then checkActionS r.action else if 1000 < (r.inputs.length : Int) then 2 else listErr outErr id none r.inputs
def ruleErr (prev : Option ByteArray) (r : RuleV) : Int := if checkRuleS r ≠ 0 then checkRuleS r else if notAfter prev r.name then 8 else 0

/-! ### Outputs beside all others -/
def firstErr {α : Type} (f : α → Int) : List α → Int
  | [] => 0
  | x :: r => if f x = 0 then firstErr f r else f x
theorem firstErr_round {α : Type} {f : α → Int} {l : List α} {k : Nat} {x : α} (hx : l[k]? = some x) (h : f x = 0) : firstErr f (l.drop k) = firstErr f (l.drop (k + 1)) := by
  rw [drop_at hx, firstErr, if_pos h]
theorem firstErr_stop {α : Type} {f : α → Int} {l : List α} {k : Nat} {x : α} (hx : l[k]? = some x) (h : f x ≠ 0) : firstErr f (l.drop k) = f x := by
  rw [drop_at hx, firstErr, if_neg h]
theorem firstErr_end {α : Type} {f : α → Int} {l : List α} {k : Nat} (h : l.length ≤ k) : firstErr f (l.drop k) = 0 := by rw [List.drop_eq_nil_of_le h]; rfl
theorem firstErr_zero {α : Type} {f : α → Int} {l : List α} (h : firstErr f l = 0) : ∀ x ∈ l, f x = 0 := by
  induction l with
  | nil => simp
  | cons y l ih =>
    rw [firstErr] at h
    split at h
    · rename_i h1
      intro x hx
      rcases List.mem_cons.1 hx with rfl | hx
      · exact h1
      · exact ih h x hx
    · rename_i h1; exact absurd h h1
theorem firstErr_congr {α : Type} {f g : α → Int} {l : List α} (h : ∀ x ∈ l, f x = g x) : firstErr f l = firstErr g l := by
  induction l with
  | nil => rfl
  | cons y l ih =>
    have h1 := h y (by simp)
    rw [firstErr, firstErr, h1, ih fun x hx => h x (by simp [hx])]
/-- the outputs of rule number i -/
def outsAt (l : List RuleV) (i : Nat) : List ByteArray := (l[i]?).elim [] (·.action.outputs)
def insAt (l : List RuleV) (i : Nat) : List ByteArray := (l[i]?).elim [] (·.inputs)
theorem outsAt_some {l : List RuleV} {i : Nat} {x : RuleV} (h : l[i]? = some x) : outsAt l i = x.action.outputs := by rw [outsAt, h]; rfl
theorem insAt_some {l : List RuleV} {i : Nat} {x : RuleV} (h : l[i]? = some x) : insAt l i = x.inputs := by rw [insAt, h]; rfl
def twiceS (l : List RuleV) (i : Nat) (p : ByteArray) : Bool := (List.range i).any fun k => hasB (outsAt l k) p
def crossAt (l : List RuleV) (i : Nat) (p : ByteArray) (k : Nat) : Bool := (decide (k ≠ i) && (outsAt l k).any (liesS p)) || (insAt l k).any fun q => liesS p q || liesS q p
def crossS (l : List RuleV) (i : Nat) (p : ByteArray) : Bool := (List.range l.length).any (crossAt l i p)
def outputErr (l : List RuleV) (i : Nat) (p : ByteArray) : Int := if twiceS l i p = true then 7 else if crossS l i p = true then 12 else 0
def outputsErr (l : List RuleV) (i : Nat) : Int := firstErr (outputErr l i) (outsAt l i)
def allOutputsErr (l : List RuleV) : Int := firstErr (outputsErr l) (List.range l.length)
/-- as it is tried by way of maps -/
def meetsS (l : List RuleV) (p : ByteArray) : Bool := (List.range l.length).any fun k => (insAt l k).any (fun q => liesS q p) || ((outsAt l k).any (liesS p) || (insAt l k).any (liesS p))
theorem range_any_succ (f : Nat → Bool) (k : Nat) : (List.range (k + 1)).any f = ((List.range k).any f || f k) := by
  rw [List.range_succ, List.any_append]; simp

/-! ### Who needs whom -/
def usesS (l : List RuleV) (i k : Nat) : Bool := (outsAt l k).any fun p => hasB (insAt l i) p
def needsS (l : List RuleV) : Graph := (List.range l.length).map fun i => (List.range l.length).filter (usesS l i)
theorem needsS_length (l : List RuleV) : (needsS l).length = l.length := by simp [needsS]
theorem needs_at {l : List RuleV} {i : Nat} (h : i < l.length) : needAt (needsS l) i = (List.range l.length).filter (usesS l i) := by
  rw [needAt, needsS, List.getElem?_map, List.getElem?_range h]; rfl
theorem needs_lt {l : List RuleV} {i k : Nat} (h : k ∈ needAt (needsS l) i) : k < l.length := by
  rcases Nat.lt_or_ge i l.length with hi | hi
  · rw [needs_at hi, List.mem_filter, List.mem_range] at h; exact h.1
  · rw [needAt, List.getElem?_eq_none (by rw [needsS_length]; exact hi)] at h
    simp at h
theorem needs_nodup (l : List RuleV) (i : Nat) : (needAt (needsS l) i).Nodup := by
  rcases Nat.lt_or_ge i l.length with hi | hi
  · rw [needs_at hi]; exact (List.nodup_range).filter _
  · rw [needAt, List.getElem?_eq_none (by rw [needsS_length]; exact hi)]
    simp
def checkRulesS (l : List RuleV) : Int :=
  if 500 < (l.length : Int) then 2
  else if listErr ruleErr RuleV.name none l ≠ 0 then listErr ruleErr RuleV.name none l
  else if allOutputsErr l ≠ 0 then allOutputsErr l
  else if (orderS (needsS l) fun _ => true).2 = false then 17 else 0

/-! ### Rules of which each alone is right -/
theorem listErr_at {α : Type} {err : Option ByteArray → α → Int} {key : α → ByteArray} {l : List α} (h : listErr err key none l = 0) : ∀ (k : Nat) (x : α), l[k]? = some x → err (ahead key l k) x = 0 := by
  have key1 : ∀ k, k ≤ l.length → listErr err key (ahead key l k) (l.drop k) = 0 := by
    intro k
    induction k with
    | zero => intro _; exact h
    | succ k ih =>
      intro hk
      obtain ⟨x, hx⟩ := at_lt (show k < l.length by omega)
      have h1 := ih (by omega)
      by_cases he : err (ahead key l k) x = 0
      · rw [list_round hx he] at h1; exact h1
      · rw [list_stop hx rfl he] at h1; exact absurd h1 he
  intro k x hx
  have hk := (List.getElem?_eq_some_iff.1 hx).1
  have h1 := key1 k (by omega)
  by_cases he : err (ahead key l k) x = 0
  · exact he
  · rw [list_stop hx rfl he] at h1; exact h1
structure RulesOk (l : List RuleV) : Prop where
  many : l.length ≤ 500
  each : ∀ r ∈ l, checkRuleS r = 0
theorem rulesOk_of {l : List RuleV} (h : ¬ (500 : Int) < (l.length : Int)) (h0 : listErr ruleErr RuleV.name none l = 0) : RulesOk l := by
  refine ⟨by omega, fun r hr => ?_⟩
  obtain ⟨k, hk⟩ := List.getElem?_of_mem hr
  have h1 := listErr_at h0 k r hk
  unfold ruleErr at h1
  split at h1
  · rename_i h2; exact absurd h1 h2
  · rename_i h2; simpa using h2
theorem checkRule_parts {r : RuleV} (h : checkRuleS r = 0) : isPathS r.name = true ∧ checkActionS r.action = 0 ∧ ¬ (1000 : Int) < (r.inputs.length : Int) ∧ listErr outErr id none r.inputs = 0 := by
  unfold checkRuleS at h
  split at h
  · contradiction
  rename_i h1
  split at h
  · rename_i h2; exact absurd h h2
  rename_i h2
  split at h
  · contradiction
  rename_i h3
  exact ⟨by simpa using h1, by simpa using h2, h3, h⟩
theorem action_outputs {a : ActionV} (h : checkActionS a = 0) : checkOutputsS a.outputs = 0 := by
  unfold checkActionS at h
  repeat' split at h
  all_goals first
    | contradiction
    | (simp_all; done)
theorem outputs_parts {l : List ByteArray} (h : checkOutputsS l = 0) : ¬ (100 : Int) < (l.length : Int) ∧ listErr outErr id none l = 0 ∧ (l.any fun p => l.any fun q => liesS p q) = false := by
  unfold checkOutputsS at h
  split at h
  · contradiction
  split at h
  · contradiction
  rename_i h2
  split at h
  · rename_i h3; exact absurd h h3
  rename_i h3
  split at h
  · contradiction
  rename_i h4
  exact ⟨h2, by simpa using h3, by simpa using h4⟩
theorem path_size6 {p : ByteArray} (h : isPathS p = true) : p.size ≤ 200 := by
  rw [isPathS, Bool.and_eq_true] at h
  have := withinB_true h.1
  omega
theorem outErr_path6 {prev : Option ByteArray} {p : ByteArray} (h : outErr prev p = 0) : isPathS p = true := by
  unfold outErr at h
  split at h
  · contradiction
  · rename_i h1; simpa using h1
theorem outErr_after {prev : Option ByteArray} {p : ByteArray} (h : outErr prev p = 0) : notAfter prev p = false := by
  unfold outErr at h
  split at h
  · contradiction
  · split at h
    · contradiction
    · rename_i h1; simpa using h1
theorem paths_of {l : List ByteArray} (h : listErr outErr id none l = 0) : ∀ p ∈ l, isPathS p = true := by
  intro p hp
  obtain ⟨k, hk⟩ := List.getElem?_of_mem hp
  exact outErr_path6 (listErr_at h k p hk)
section
variable {l : List RuleV}
theorem RulesOk.at (h : RulesOk l) {i : Nat} {x : RuleV} (hx : l[i]? = some x) : checkRuleS x = 0 := h.each x (List.mem_of_getElem? hx)
theorem RulesOk.outs (h : RulesOk l) (i : Nat) : (outsAt l i).length ≤ 100 ∧ listErr outErr id none (outsAt l i) = 0 ∧ ((outsAt l i).any fun p => (outsAt l i).any fun q => liesS p q) = false := by
  cases hx : l[i]? with
  | none => rw [outsAt, hx]; exact ⟨by decide, rfl, rfl⟩
  | some x =>
    rw [outsAt_some hx]
    obtain ⟨h1, h2, h3⟩ := outputs_parts (action_outputs (checkRule_parts (h.at hx)).2.1)
    exact ⟨by omega, h2, h3⟩
theorem RulesOk.ins (h : RulesOk l) (i : Nat) : (insAt l i).length ≤ 1000 ∧ listErr outErr id none (insAt l i) = 0 := by
  cases hx : l[i]? with
  | none => rw [insAt, hx]; exact ⟨by decide, rfl⟩
  | some x =>
    rw [insAt_some hx]
    obtain ⟨_, _, h1, h2⟩ := checkRule_parts (h.at hx)
    exact ⟨by omega, h2⟩
/-- what is tried by way of maps is what is tried one by one -/
theorem meets_cross (h : RulesOk l) {i : Nat} {p : ByteArray} (hp : p ∈ outsAt l i) : meetsS l p = crossS l i p := by
  rw [Bool.eq_iff_iff]
  have hown : ∀ q ∈ outsAt l i, liesS p q = false := by
    have h3 := (h.outs i).2.2
    intro q hq
    rw [List.any_eq_false] at h3
    have h4 := h3 p hp
    cases hv : liesS p q with
    | false => rfl
    | true => exact absurd (List.any_eq_true.2 ⟨q, hq, hv⟩) h4
  simp only [meetsS, crossS, crossAt, List.any_eq_true, List.mem_range, Bool.or_eq_true, Bool.and_eq_true, decide_eq_true_eq]
  constructor
  · rintro ⟨k, hk, ⟨q, hq, hl⟩ | ⟨q, hq, hl⟩ | ⟨q, hq, hl⟩⟩
    · exact ⟨k, hk, .inr ⟨q, hq, .inr hl⟩⟩
    · refine ⟨k, hk, .inl ⟨fun e => ?_, q, hq, hl⟩⟩
      subst e
      rw [hown q hq] at hl; cases hl
    · exact ⟨k, hk, .inr ⟨q, hq, .inl hl⟩⟩
  · rintro ⟨k, hk, ⟨_, q, hq, hl⟩ | ⟨q, hq, hl | hl⟩⟩
    · exact ⟨k, hk, .inr (.inl ⟨q, hq, hl⟩)⟩
    · exact ⟨k, hk, .inr (.inr ⟨q, hq, hl⟩)⟩
    · exact ⟨k, hk, .inl ⟨q, hq, hl⟩⟩
end
/-- the number of the last rule below i that has an output -/
def lastOf (l : List RuleV) : Nat → List UInt8 → Option Nat
  | 0, _ => none
  | i + 1, key => if (outsAt l i).any (fun x => x.data.toList == key) then some i else lastOf l i key
theorem hasB_data (l : List ByteArray) (s : ByteArray) : hasB l s = l.any fun x => x.data.toList == s.data.toList := by
  rw [hasB]; congr 1; funext x; rw [Lib.toList_data, Lib.toList_data]
theorem lastOf_none {l : List RuleV} {i : Nat} {p : ByteArray} : lastOf l i p.data.toList = none ↔ twiceS l i p = false := by
  induction i with
  | zero => simp [lastOf, twiceS]
  | succ i ih =>
    rw [lastOf, twiceS, range_any_succ, ← hasB_data]
    cases hasB (outsAt l i) p with
    | true => simp
    | false => simpa [twiceS] using ih
theorem lastOf_lt {l : List RuleV} {i k : Nat} {key : List UInt8} (h : lastOf l i key = some k) : k < i ∧ (outsAt l k).any (fun x => x.data.toList == key) = true := by
  induction i with
  | zero => cases h
  | succ i ih =>
    rw [lastOf] at h
    split at h
    · rename_i h1; cases h; exact ⟨by omega, h1⟩
    · have := ih h; exact ⟨by omega, this.2⟩
/-- no output stands twice -/
theorem outs_once {l : List RuleV} (h : allOutputsErr l = 0) {i k : Nat} {p q : ByteArray} (hp : p ∈ outsAt l i) (hq : q ∈ outsAt l k) (he : p.data.toList = q.data.toList) : i = k := by
  have key : ∀ {i k : Nat} {p q : ByteArray}, p ∈ outsAt l i → q ∈ outsAt l k → p.data.toList = q.data.toList → ¬ k < i := by
    intro i k p q hp hq he hlt
    have hi : i < l.length := by
      rcases Nat.lt_or_ge i l.length with hi | hi
      · exact hi
      · rw [outsAt, List.getElem?_eq_none hi] at hp; simp at hp
    have h1 := firstErr_zero h i (by simpa using hi)
    have h2 := firstErr_zero h1 p hp
    unfold outputErr at h2
    split at h2
    · contradiction
    · rename_i h3
      apply h3
      rw [twiceS, List.any_eq_true]
      refine ⟨k, by simpa using hlt, ?_⟩
      rw [hasB_data, List.any_eq_true]
      exact ⟨q, hq, by rw [he]; simp⟩
  have h1 := key hp hq he
  have h2 := key hq hp he.symm
  omega
theorem lastOf_is {l : List RuleV} (h : allOutputsErr l = 0) {k : Nat} {p q : ByteArray} (hq : q ∈ outsAt l k) (he : p.data.toList = q.data.toList) : lastOf l l.length p.data.toList = some k := by
  have hk : k < l.length := by
    rcases Nat.lt_or_ge k l.length with hi | hi
    · exact hi
    · rw [outsAt, List.getElem?_eq_none hi] at hq; simp at hq
  cases hl : lastOf l l.length p.data.toList with
  | none =>
    have := lastOf_none.1 hl
    rw [twiceS, List.any_eq_false] at this
    exfalso
    apply this k (by simpa using hk)
    rw [hasB_data, List.any_eq_true]
    exact ⟨q, hq, by rw [he]; simp⟩
  | some j =>
    obtain ⟨_, h1⟩ := lastOf_lt hl
    rw [List.any_eq_true] at h1
    obtain ⟨x, hx, hxe⟩ := h1
    have : x.data.toList = p.data.toList := by simpa using hxe
    rw [outs_once h hx hq (this.trans he)]
/-- the needs, by way of the outputs' map -/
theorem uses_iff {l : List RuleV} (h : allOutputsErr l = 0) (i k : Nat) : usesS l i k = true ↔ ∃ p ∈ insAt l i, lastOf l l.length p.data.toList = some k := by
  rw [usesS, List.any_eq_true]
  constructor
  · rintro ⟨q, hq, hh⟩
    rw [hasB_data, List.any_eq_true] at hh
    obtain ⟨p, hp, he⟩ := hh
    exact ⟨p, hp, lastOf_is h hq (by simpa using he)⟩
  · rintro ⟨p, hp, hl⟩
    obtain ⟨_, h1⟩ := lastOf_lt hl
    rw [List.any_eq_true] at h1
    obtain ⟨q, hq, he⟩ := h1
    refine ⟨q, hq, ?_⟩
    rw [hasB_data, List.any_eq_true]
    exact ⟨p, hp, by have : q.data.toList = p.data.toList := by simpa using he
                     rw [this]; simp⟩
end Go.Proofs.Sm

namespace Go.Proofs.Sm
open Go.RowKit

/-! ### Depth first: a pile of what is to be done -/
structure Dfs (g : Graph) (wanted : List Nat) (s : List Bool) (todo : List Nat) : Prop where
  len : s.length = g.length
  has : ∀ k ∈ wanted, s[k]? = some true ∨ k ∈ todo
  closed : ∀ i, s[i]? = some true → ∀ k ∈ needAt g i, s[k]? = some true ∨ k ∈ todo
  least : ∀ (t : Nat → Prop), (∀ k ∈ wanted, t k) → (∀ i, t i → ∀ k ∈ needAt g i, t k) → (∀ i, s[i]? = some true → t i) ∧ ∀ i ∈ todo, t i
  lt : ∀ i ∈ todo, i < g.length
/-- in a graph each needs only what there is -/
def Within (g : Graph) : Prop := ∀ i, ∀ k ∈ needAt g i, k < g.length
theorem replicate_false {n i : Nat} : ¬ (List.replicate n false)[i]? = some true := by
  rw [List.getElem?_replicate]
  split <;> simp
theorem Dfs.start {g : Graph} {wanted : List Nat} (h : ∀ i ∈ wanted, i < g.length) : Dfs g wanted (List.replicate g.length false) wanted :=
  ⟨by simp, fun _ hk => .inr hk, fun i hi => absurd hi replicate_false, fun t h1 _ => ⟨fun i hi => absurd hi replicate_false, h1⟩, h⟩
section
variable {g : Graph} {wanted : List Nat} {s : List Bool} {todo : List Nat} {k : Nat}
theorem Dfs.skip (h : Dfs g wanted s (todo ++ [k])) (hk : s[k]? = some true) : Dfs g wanted s todo := by
  have out : ∀ {i}, s[i]? = some true ∨ i ∈ todo ++ [k] → s[i]? = some true ∨ i ∈ todo := by
    rintro i (hi | hi)
    · exact .inl hi
    · rcases List.mem_append.1 hi with hi | hi
      · exact .inr hi
      · simp at hi; subst hi; exact .inl hk
  exact ⟨h.len, fun i hi => out (h.has i hi), fun i hi m hm => out (h.closed i hi m hm), fun t h1 h2 => ⟨(h.least t h1 h2).1, fun i hi => (h.least t h1 h2).2 i (by simp [hi])⟩, fun i hi => h.lt i (by simp [hi])⟩
theorem set_true {i : Nat} (hk : k < s.length) : (s.set k true)[i]? = some true ↔ s[i]? = some true ∨ i = k := by
  rw [List.getElem?_set]
  constructor
  · intro h
    split at h
    · rename_i e; exact .inr e.symm
    · exact .inl h
  · rintro (h | rfl)
    · split
      · rename_i e; subst e; simp
      · exact h
    · simp [hk]
theorem Dfs.take (h : Dfs g wanted s (todo ++ [k])) (hw : Within g) : Dfs g wanted (s.set k true) (todo ++ needAt g k) := by
  have hk : k < s.length := by rw [h.len]; exact h.lt k (by simp)
  have out : ∀ {i}, s[i]? = some true ∨ i ∈ todo ++ [k] → (s.set k true)[i]? = some true ∨ i ∈ todo ++ needAt g k := by
    rintro i (hi | hi)
    · exact .inl ((set_true hk).2 (.inl hi))
    · rcases List.mem_append.1 hi with hi | hi
      · exact .inr (by simp [hi])
      · simp at hi; exact .inl ((set_true hk).2 (.inr hi))
  refine ⟨by rw [List.length_set, h.len], fun i hi => out (h.has i hi), fun i hi m hm => ?_, fun t h1 h2 => ⟨fun i hi => ?_, fun i hi => ?_⟩, fun i hi => ?_⟩
  · rcases (set_true hk).1 hi with hi | rfl
    · exact out (h.closed i hi m hm)
    · exact .inr (by simp [hm])
  · rcases (set_true hk).1 hi with hi | rfl
    · exact (h.least t h1 h2).1 i hi
    · exact (h.least t h1 h2).2 i (by simp)
  · rcases List.mem_append.1 hi with hi | hi
    · exact (h.least t h1 h2).2 i (by simp [hi])
    · exact h2 k ((h.least t h1 h2).2 k (by simp)) i hi
  · rcases List.mem_append.1 hi with hi | hi
    · exact h.lt i (by simp [hi])
    · exact hw k i hi
theorem Dfs.done (h : Dfs g wanted s []) : Closed g wanted s :=
  ⟨h.len, fun k hk => (h.has k hk).elim id (fun h => by simp at h), fun i hi k hk => (h.closed i hi k hk).elim id (fun h => by simp at h), fun t h1 h2 => (h.least t h1 h2).1⟩
end
/-- what is left to be done at most -/
def dfsM (g : Graph) (s : List Bool) (todo : List Nat) : Nat := ((List.range g.length).map fun i => if s[i]? = some true then 0 else 1 + (needAt g i).length).sum + todo.length
theorem dfsM_skip (g : Graph) (s : List Bool) (todo : List Nat) (k : Nat) : dfsM g s todo < dfsM g s (todo ++ [k]) := by simp [dfsM]
theorem sum_drop {f f' : Nat → Nat} {k : Nat} : ∀ {n : Nat}, k < n → (∀ i, i ≠ k → f' i = f i) → f' k ≤ f k → ((List.range n).map f').sum + (f k - f' k) = ((List.range n).map f).sum
  | 0, h, _, _ => absurd h (by omega)
  | n + 1, h, h1, h2 => by
    rw [List.range_succ, List.map_append, List.map_append, List.sum_append, List.sum_append]
    simp only [List.map_cons, List.map_nil, List.sum_cons, List.sum_nil, Nat.add_zero]
    by_cases hk : k = n
    · subst hk
      have : (List.range k).map f' = (List.range k).map f := List.map_congr_left fun i hi => h1 i (by simp at hi; omega)
      rw [this]; omega
    · have := sum_drop (n := n) (by omega) h1 h2
      rw [h1 n (fun e => hk e.symm)]; omega
theorem dfsM_take {g : Graph} {s : List Bool} {todo : List Nat} {k : Nat} (hl : s.length = g.length) (hk : k < g.length) (h : s[k]? = some false) : dfsM g (s.set k true) (todo ++ needAt g k) < dfsM g s (todo ++ [k]) := by
  have hks : k < s.length := by omega
  have h1 := sum_drop (f := fun i => if s[i]? = some true then 0 else 1 + (needAt g i).length) (f' := fun i => if (s.set k true)[i]? = some true then 0 else 1 + (needAt g i).length) (n := g.length) hk
    (fun i hi => by
      have e : (s.set k true)[i]? = s[i]? := List.getElem?_set_ne (fun e => hi e.symm)
      simp only [e]) (by simp only [(set_true hks).2 (.inr rfl)]; simp)
  simp only [(set_true hks).2 (.inr rfl), h] at h1
  simp only [dfsM, List.length_append, List.length_singleton]
  simp at h1
  omega

/-! ### In a row -/
structure Bfs (g : Graph) (wanted : List Nat) (s : List Bool) (row : List Nat) : Prop where
  len : s.length = g.length
  mem : ∀ i, s[i]? = some true ↔ i ∈ row
  nodup : row.Nodup
  lt : ∀ i ∈ row, i < g.length
  least : ∀ (t : Nat → Prop), (∀ k ∈ wanted, t k) → (∀ i, t i → ∀ k ∈ needAt g i, t k) → ∀ i ∈ row, t i
theorem Bfs.start (g : Graph) (wanted : List Nat) : Bfs g wanted (List.replicate g.length false) [] :=
  ⟨by simp, fun i => ⟨fun h => absurd h replicate_false, fun h => by simp at h⟩, List.nodup_nil, fun _ h => by simp at h, fun _ _ _ _ h => by simp at h⟩
section
variable {g : Graph} {wanted : List Nat} {s : List Bool} {row : List Nat} {k : Nat}
theorem Bfs.add (h : Bfs g wanted s row) (hk : k < g.length) (h0 : s[k]? = some false) (hl : ∀ (t : Nat → Prop), (∀ k ∈ wanted, t k) → (∀ i, t i → ∀ k ∈ needAt g i, t k) → t k) : Bfs g wanted (s.set k true) (row ++ [k]) := by
  have hks : k < s.length := by rw [h.len]; exact hk
  have hn : k ∉ row := fun hm => by rw [(h.mem k).2 hm] at h0; cases h0
  refine ⟨by rw [List.length_set, h.len], fun i => ?_, ?_, fun i hi => ?_, fun t h1 h2 i hi => ?_⟩
  · rw [set_true hks, h.mem]; simp
  · rw [List.nodup_append]
    exact ⟨h.nodup, by simp, fun a ha b hb e => by simp at hb; subst hb; subst e; exact hn ha⟩
  · rcases List.mem_append.1 hi with hi | hi
    · exact h.lt i hi
    · simp at hi; subst hi; exact hk
  · rcases List.mem_append.1 hi with hi | hi
    · exact h.least t h1 h2 i hi
    · simp at hi; subst hi; exact hl t h1 h2
theorem Bfs.most (h : Bfs g wanted s row) : row.length ≤ g.length := by
  have := nodup_length h.nodup (b := List.range g.length) fun x hx => by simpa using h.lt x hx
  simpa using this
theorem Bfs.done (h : Bfs g wanted s row) (h1 : ∀ k ∈ wanted, k ∈ row) (h2 : ∀ i ∈ row, ∀ k ∈ needAt g i, k ∈ row) : Closed g wanted s :=
  ⟨h.len, fun k hk => (h.mem k).2 (h1 k hk), fun i hi k hk => (h.mem k).2 (h2 i ((h.mem i).1 hi) k hk), fun t t1 t2 i hi => h.least t t1 t2 i ((h.mem i).1 hi)⟩
end

/-! ### Rules by name -/
def idxName (l : List RuleV) (s : ByteArray) : Option Nat := (List.range l.length).find? fun k => (l[k]?).any fun r => r.name.toList == s.toList
def idxAll (l : List RuleV) : List ByteArray → Option (List Nat)
  | [] => some []
  | s :: r => match idxName l s with
    | none => none
    | some k => (idxAll l r).map (k :: ·)
theorem idxName_some {l : List RuleV} {s : ByteArray} {k : Nat} (h : idxName l s = some k) : k < l.length ∧ ∃ r, l[k]? = some r ∧ r.name.toList = s.toList := by
  rw [idxName, List.find?_range_eq_some] at h
  obtain ⟨h1, h2, _⟩ := h
  have hk : k < l.length := by simpa using h2
  obtain ⟨r, hr⟩ := at_lt hk
  rw [hr] at h1
  exact ⟨hk, r, hr, by simpa using h1⟩
theorem idxAll_lt {l : List RuleV} : ∀ {ws : List ByteArray} {ks : List Nat}, idxAll l ws = some ks → ∀ k ∈ ks, k < l.length
  | [], ks, h, k, hk => by cases h; simp at hk
  | s :: r, ks, h, k, hk => by
    rw [idxAll] at h
    split at h
    · cases h
    · rename_i j hj
      cases hr : idxAll l r with
      | none => rw [hr] at h; cases h
      | some m =>
        rw [hr] at h; cases h
        rcases List.mem_cons.1 hk with rfl | hk
        · exact (idxName_some hj).1
        · exact idxAll_lt hr k hk
theorem idxAll_length {l : List RuleV} : ∀ {ws : List ByteArray} {ks : List Nat}, idxAll l ws = some ks → ks.length = ws.length
  | [], ks, h => by cases h; rfl
  | s :: r, ks, h => by
    rw [idxAll] at h
    split at h
    · cases h
    · cases hr : idxAll l r with
      | none => rw [hr] at h; cases h
      | some m => rw [hr] at h; cases h; simp [idxAll_length hr]
theorem idxAll_snoc {l : List RuleV} {s : ByteArray} : ∀ {ws : List ByteArray} {ks : List Nat}, idxAll l ws = some ks → idxAll l (ws ++ [s]) = (idxName l s).map fun k => ks ++ [k]
  | [], ks, h => by
    cases h
    rw [List.nil_append, idxAll]
    cases idxName l s <;> rfl
  | x :: r, ks, h => by
    rw [idxAll] at h
    split at h
    · cases h
    · rename_i j hj
      cases hr : idxAll l r with
      | none => rw [hr] at h; cases h
      | some m =>
        rw [hr] at h; cases h
        rw [List.cons_append, idxAll, hj]
        simp only
        rw [idxAll_snoc hr]
        cases idxName l s <;> rfl
theorem idxAll_none {l : List RuleV} {s : ByteArray} (h : idxName l s = none) : ∀ {ws r : List ByteArray}, idxAll l (ws ++ s :: r) = none
  | [], r => by rw [List.nil_append, idxAll, h]
  | x :: ws, r => by
    rw [List.cons_append, idxAll]
    split
    · rfl
    · rw [idxAll_none h]; rfl

/-! ### A plan -/
def isOf (s : List Bool) (i : Nat) : Bool := s[i]? == some true
def planErr (l : List RuleV) (wanted : List ByteArray) : Int := if checkRulesS l ≠ 0 then checkRulesS l else if 500 < (wanted.length : Int) then 2 else if idxAll l wanted = none then 9 else 0
/-- the numbers of what is wanted and of all that it needs, in order -/
def PlanIs (l : List RuleV) (wanted : List ByteArray) (out : List Nat) : Prop := ∃ ks s, idxAll l wanted = some ks ∧ Closed (needsS l) ks s ∧ out = (orderS (needsS l) (isOf s)).1
theorem PlanIs.unique {l : List RuleV} {wanted : List ByteArray} {out out' : List Nat} (h : PlanIs l wanted out) (h' : PlanIs l wanted out') : out = out' := by
  obtain ⟨ks, s, h1, h2, rfl⟩ := h
  obtain ⟨ks', s', h1', h2', rfl⟩ := h'
  rw [h1] at h1'
  obtain rfl := Option.some.inj h1'
  rw [h2.unique h2']
theorem needs_within (l : List RuleV) : Within (needsS l) := fun i k hk => by rw [needsS_length]; exact needs_lt hk
theorem Closed.part {l : List RuleV} {ks : List Nat} {s : List Bool} (h : Closed (needsS l) ks s) (hc : checkRulesS l = 0) : (orderS (needsS l) (isOf s)).2 = true := by
  have h1 : (orderS (needsS l) fun _ => true).2 = true := by
    unfold checkRulesS at hc
    split at hc
    · contradiction
    split at hc
    · rename_i h2; exact absurd hc h2
    split at hc
    · rename_i h2; exact absurd hc h2
    split at hc
    · contradiction
    · rename_i h2; simpa using h2
  refine order_part h1 fun i hi hs k hk => ⟨needs_within l i k hk, ?_⟩
  have hs' : s[i]? = some true := by simpa [isOf] using hs
  have := h.closed i hs' k hk
  simp [isOf, this]
end Go.Proofs.Sm

namespace Go.Proofs.Sm
open Go.RowKit

/-- how much of what j needs is not done -/
def leftN (g : Graph) (out : List Nat) (j : Nat) : Nat := ((needAt g j).filter fun k => !out.contains k).length
theorem left_zero {g : Graph} {out : List Nat} {j : Nat} : leftN g out j = 0 ↔ readyS g out j = true := by
  rw [leftN, List.length_eq_zero_iff, List.filter_eq_nil_iff, readyS, List.all_eq_true]
  simp
theorem left_nil (g : Graph) (j : Nat) : leftN g [] j = (needAt g j).length := by
  rw [leftN]
  congr 1
  rw [List.filter_eq_self]
  simp
theorem left_more {g : Graph} {out : List Nat} {k j : Nat} (hn : (needAt g j).Nodup) (hk : k ∉ out) : leftN g (out ++ [k]) j + (if (needAt g j).contains k then 1 else 0) = leftN g out j := by
  unfold leftN
  generalize needAt g j = l at hn
  induction l with
  | nil => simp
  | cons x l ih =>
    rw [List.nodup_cons] at hn
    have ih := ih hn.2
    by_cases hx : x = k
    · subst hx
      have hl : l.contains x = false := by simpa using hn.1
      rw [hl] at ih
      simp only [List.contains_cons, BEq.rfl, Bool.true_or, if_true]
      have e1 : ((x :: l).filter fun y => !(out ++ [x]).contains y) = l.filter fun y => !(out ++ [x]).contains y := by rw [List.filter_cons]; simp
      have e2 : ((x :: l).filter fun y => !out.contains y) = x :: l.filter fun y => !out.contains y := by rw [List.filter_cons]; simp [hk]
      rw [e1, e2, List.length_cons]
      simp at ih ⊢
      omega
    · have hc : (x :: l).contains k = l.contains k := by
        have hx2 : ¬ k = x := fun e => hx e.symm
        simp [hx2]
      rw [hc]
      have e3 : (out ++ [k]).contains x = out.contains x := by simp [hx]
      by_cases hox : out.contains x = true
      · have e1 : ((x :: l).filter fun y => !(out ++ [k]).contains y) = l.filter fun y => !(out ++ [k]).contains y := by rw [List.filter_cons, e3, hox]; rfl
        have e2 : ((x :: l).filter fun y => !out.contains y) = l.filter fun y => !out.contains y := by rw [List.filter_cons, hox]; rfl
        rw [e1, e2]; exact ih
      · have hox : out.contains x = false := by simpa using hox
        have e1 : ((x :: l).filter fun y => !(out ++ [k]).contains y) = x :: l.filter fun y => !(out ++ [k]).contains y := by rw [List.filter_cons, e3, hox]; rfl
        have e2 : ((x :: l).filter fun y => !out.contains y) = x :: l.filter fun y => !out.contains y := by rw [List.filter_cons, hox]; rfl
        rw [e1, e2, List.length_cons, List.length_cons]; omega
/-- those among the first i that need k; and i itself, if k is among the first t that it needs -/
def usersAt (g : Graph) (inn : Nat → Bool) (i t : Nat) : List (List Nat) := (List.range g.length).map fun k => ((List.range i).filter fun j => inn j && (needAt g j).contains k) ++ (if ((needAt g i).take t).contains k then [i] else [])
theorem users_length (g : Graph) (inn : Nat → Bool) (i t : Nat) : (usersAt g inn i t).length = g.length := by simp [usersAt]
theorem users_start (g : Graph) (inn : Nat → Bool) : usersAt g inn 0 0 = List.replicate g.length [] := by
  apply List.ext_getElem
  · simp [usersAt]
  · intro i h1 h2
    simp [usersAt]
theorem users_skip {g : Graph} {inn : Nat → Bool} {i : Nat} (h : inn i = false) : usersAt g inn (i + 1) 0 = usersAt g inn i 0 := by
  apply List.ext_getElem
  · simp [usersAt]
  · intro k h1 h2
    simp [usersAt, List.range_succ, h]
theorem users_next {g : Graph} {inn : Nat → Bool} {i t : Nat} (h : inn i = true) (ht : (needAt g i).length ≤ t) : usersAt g inn i t = usersAt g inn (i + 1) 0 := by
  apply List.ext_getElem
  · simp [usersAt]
  · intro k h1 h2
    simp only [usersAt, List.getElem_map, List.getElem_range, List.range_succ, List.filter_append, List.take_of_length_le ht, List.take_zero]
    have e : ([i].filter fun j => inn j && (needAt g j).contains k) = if (needAt g i).contains k = true then [i] else [] := by
      rw [List.filter_cons, h, Bool.true_and]
      rfl
    rw [e]
    simp
theorem users_row {g : Graph} {inn : Nat → Bool} {i t k : Nat} (hk : k < g.length) (hn : k ∉ (needAt g i).take t) : (usersAt g inn i t)[k]? = some ((List.range i).filter fun j => inn j && (needAt g j).contains k) := by
  rw [usersAt, List.getElem?_map, List.getElem?_range hk]
  simp [hn]
theorem users_end {g : Graph} {inn : Nat → Bool} {i k : Nat} (hk : k < g.length) : (usersAt g inn i 0)[k]? = some ((List.range i).filter fun j => inn j && (needAt g j).contains k) := users_row hk (by simp)
theorem take_not {l : List Nat} {t k : Nat} (hn : l.Nodup) (hk : l[t]? = some k) : k ∉ l.take t := by
  intro hm
  obtain ⟨i, hi⟩ := List.getElem?_of_mem hm
  rw [List.getElem?_take] at hi
  split at hi
  · have hi1 := (List.getElem?_eq_some_iff.1 hi).1
    have ht1 := (List.getElem?_eq_some_iff.1 hk).1
    have := (List.getElem_inj hn (h₀ := hi1) (h₁ := ht1)).1 (by rw [(List.getElem?_eq_some_iff.1 hi).2, (List.getElem?_eq_some_iff.1 hk).2])
    omega
  · cases hi
theorem users_set {g : Graph} {inn : Nat → Bool} {i t k : Nat} (hn : (needAt g i).Nodup) (hk : (needAt g i)[t]? = some k) : (usersAt g inn i t).set k (((List.range i).filter fun j => inn j && (needAt g j).contains k) ++ [i]) = usersAt g inn i (t + 1) := by
  have hnot := take_not hn hk
  apply List.ext_getElem
  · simp [usersAt]
  · intro a h1 h2
    rw [List.getElem_set]
    simp only [usersAt, List.getElem_map, List.getElem_range, List.take_add_one, hk, Option.toList_some]
    split
    · rename_i e
      subst e
      simp
    · rename_i e
      have : ¬ a = k := fun h => e h.symm
      simp [this]
end Go.Proofs.Sm

namespace Go.Proofs.Sm
open Go.RowKit

def nameAt (l : List RuleV) (k : Nat) : ByteArray := ((l[k]?).map RuleV.name).getD ⟨#[]⟩
theorem nameAt_some {l : List RuleV} {k : Nat} {x : RuleV} (h : l[k]? = some x) : nameAt l k = x.name := by simp [nameAt, h]
/-- the pairs of one rule: its name, and the name of what it needs -/
def edgesAt (l : List RuleV) (i : Nat) : List VarV := (needAt (needsS l) i).map fun k => ⟨nameAt l i, nameAt l k⟩
def edgesTo (l : List RuleV) (i : Nat) : List VarV := (List.range i).flatMap (edgesAt l)
def edgesS (l : List RuleV) : List VarV := edgesTo l l.length
theorem edgesTo_succ (l : List RuleV) (i : Nat) : edgesTo l (i + 1) = edgesTo l i ++ edgesAt l i := by
  rw [edgesTo, List.range_succ, List.flatMap_append]; simp [edgesTo]
theorem edgesAt_length (l : List RuleV) (i : Nat) : (edgesAt l i).length = (needAt (needsS l) i).length := by simp [edgesAt]
theorem edgesAt_more {l : List RuleV} {i t k : Nat} {x y : RuleV} (h : (needAt (needsS l) i)[t]? = some k) (hx : l[i]? = some x) (hy : l[k]? = some y) :
    (edgesAt l i).take (t + 1) = (edgesAt l i).take t ++ [⟨x.name, y.name⟩] := by
  rw [List.take_add_one, edgesAt, List.getElem?_map, h, ← nameAt_some hx, ← nameAt_some hy]; rfl
theorem edgesAt_full {l : List RuleV} {i t : Nat} (h : (needAt (needsS l) i).length ≤ t) : (edgesAt l i).take t = edgesAt l i := List.take_of_length_le (by rw [edgesAt_length]; exact h)
end Go.Proofs.Sm

namespace Go.Proofs.Sm
open Go.RowKit

/-- strings in order, each once -/
theorem outs_before {l : List ByteArray} (h : listErr outErr id none l = 0) : ∀ (i j : Nat) (x y : ByteArray), i < j → l[i]? = some x → l[j]? = some y → ltS x y = true := by
  have step : ∀ i x y, l[i]? = some x → l[i + 1]? = some y → ltS x y = true := by
    intro i x y hx hy
    have h1 := listErr_at h (i + 1) y hy
    rw [ahead_succ hx] at h1
    have h3 := outErr_after h1
    rw [notAfter] at h3
    exact leS_lt h3
  have key : ∀ d i x y, l[i]? = some x → l[i + d + 1]? = some y → ltS x y = true := by
    intro d
    induction d with
    | zero => intro i x y hx hy; exact step i x y hx hy
    | succ d ih =>
      intro i x y hx hy
      obtain ⟨z, hz⟩ : ∃ z, l[i + d + 1]? = some z := by
        have := (List.getElem?_eq_some_iff.1 hy).1
        exact ⟨l[i + d + 1]'(by omega), List.getElem?_eq_getElem _⟩
      exact bl_trans (ih i x z hx hz) (step (i + d + 1) z y hz hy)
  intro i j x y hij hx hy
  refine key (j - i - 1) i x y hx ?_
  rw [show i + (j - i - 1) + 1 = j by omega]
  exact hy
theorem ltS_ne {x y : ByteArray} (h : ltS x y = true) : ¬ x.data.toList = y.data.toList := by
  intro e
  unfold ltS at h
  rw [Lib.toList_data, Lib.toList_data, e, bl_irrefl] at h
  cases h
theorem outs_new {l : List ByteArray} (h : listErr outErr id none l = 0) {t : Nat} {p : ByteArray} (hp : l[t]? = some p) : (l.take t).any (fun x => x.data.toList == p.data.toList) = false := by
  rw [List.any_eq_false]
  intro x hx
  obtain ⟨j, hj⟩ := List.getElem?_of_mem hx
  rw [List.getElem?_take] at hj
  split at hj
  · rename_i hjt
    have := ltS_ne (outs_before h j t x p hjt hj hp)
    simpa using this
  · cases hj
/-- which rule has an output: of those ahead of output t of rule i -/
def ofAt (l : List RuleV) (i t : Nat) : List UInt8 → Option Value := fun key => if ((outsAt l i).take t).any (fun x => x.data.toList == key) then some (.int .i64 (i : Int)) else (lastOf l i key).map fun k : Nat => .int .i64 (k : Int)
section
variable {l : List RuleV} {i t : Nat} {p : ByteArray}
theorem ofAt_start (l : List RuleV) (key : List UInt8) : ofAt l 0 0 key = none := by simp [ofAt, lastOf]
theorem ofAt_more (hp : (outsAt l i)[t]? = some p) (key : List UInt8) : (if key = p.data.toList then some (.int .i64 (i : Int)) else ofAt l i t key) = ofAt l i (t + 1) key := by
  rw [ofAt, ofAt, List.take_add_one, hp, List.any_append]
  by_cases h : key = p.data.toList
  · subst h; simp
  · have : ¬ p.data.toList = key := fun e => h e.symm
    simp [h, this]
theorem ofAt_next (ht : (outsAt l i).length ≤ t) (key : List UInt8) : ofAt l i t key = ofAt l (i + 1) 0 key := by
  rw [ofAt, ofAt, List.take_of_length_le ht, lastOf]
  simp only [List.take_zero, List.any_nil, Bool.false_eq_true, if_false]
  split <;> simp_all
theorem ofAt_zero (l : List RuleV) (i : Nat) (key : List UInt8) : ofAt l i 0 key = (lastOf l i key).map fun k : Nat => .int .i64 (k : Int) := by simp [ofAt]
theorem ofAt_look (hok : RulesOk l) (hp : (outsAt l i)[t]? = some p) : ofAt l i t p.data.toList = (lastOf l i p.data.toList).map fun k : Nat => .int .i64 (k : Int) := by
  rw [ofAt, outs_new (hok.outs i).2.1 hp]; rfl
theorem ofAt_there (hok : RulesOk l) (hp : (outsAt l i)[t]? = some p) : (ofAt l i t p.data.toList).isSome = twiceS l i p := by
  rw [ofAt_look hok hp, Option.isSome_map]
  cases h : lastOf l i p.data.toList with
  | none => rw [lastOf_none.1 h]; rfl
  | some k =>
    cases h2 : twiceS l i p with
    | true => rfl
    | false => rw [lastOf_none.2 h2] at h; cases h
theorem outputErr_twice (h : twiceS l i p = true) : outputErr l i p = 7 := by rw [outputErr, if_pos h]
theorem outputErr_rest (hok : RulesOk l) (hp : p ∈ outsAt l i) (h : twiceS l i p = false) : outputErr l i p = if meetsS l p = true then 12 else 0 := by
  rw [outputErr, if_neg (by rw [h]; decide), meets_cross hok hp]
end
/-- what a rule needs, by its first inputs -/
def needSet (l : List RuleV) (i t : Nat) : Int → Option Value := fun key => if ((insAt l i).take t).any (fun p => (lastOf l l.length p.data.toList).any fun k : Nat => (k : Int) == key) then some (.bool true) else none
section
variable {l : List RuleV} {i t k : Nat} {p : ByteArray}
theorem needSet_start (l : List RuleV) (i : Nat) (key : Int) : needSet l i 0 key = none := by simp [needSet]
theorem needSet_yes (hp : (insAt l i)[t]? = some p) (hk : lastOf l l.length p.data.toList = some k) (key : Int) : (if key = (k : Int) then some (.bool true) else needSet l i t key) = needSet l i (t + 1) key := by
  rw [needSet, needSet, List.take_add_one, hp, List.any_append]
  by_cases h : key = (k : Int)
  · subst h; simp [hk]
  · have : ¬ (k : Int) = key := fun e => h e.symm
    simp [hk, h, this]
theorem needSet_no (hp : (insAt l i)[t]? = some p) (hk : lastOf l l.length p.data.toList = none) (key : Int) : needSet l i t key = needSet l i (t + 1) key := by
  rw [needSet, needSet, List.take_add_one, hp, List.any_append]
  simp [hk]
theorem needSet_end (h : allOutputsErr l = 0) (ht : (insAt l i).length ≤ t) (key : Int) : (needSet l i t key).isSome = true ↔ ∃ k : Nat, k < l.length ∧ usesS l i k = true ∧ key = (k : Int) := by
  rw [needSet, List.take_of_length_le ht]
  have e : ((if ((insAt l i).any fun p => (lastOf l l.length p.data.toList).any fun k : Nat => (k : Int) == key) = true then some (Value.bool true) else none).isSome = true) ↔ ((insAt l i).any fun p => (lastOf l l.length p.data.toList).any fun k : Nat => (k : Int) == key) = true := by
    split <;> simp_all
  rw [e, List.any_eq_true]
  constructor
  · rintro ⟨p, hp, hk⟩
    rw [Option.any_eq_true] at hk
    obtain ⟨k, hk, he⟩ := hk
    have he' : (k : Int) = key := by simpa using he
    exact ⟨k, (lastOf_lt hk).1, (uses_iff h i k).2 ⟨p, hp, hk⟩, he'.symm⟩
  · rintro ⟨k, _, hu, rfl⟩
    obtain ⟨p, hp, hk⟩ := (uses_iff h i k).1 hu
    exact ⟨p, hp, by rw [hk]; simp⟩
theorem needs_row (hi : i < l.length) : (needsS l)[i]? = some ((List.range l.length).filter (usesS l i)) := by
  rw [needsS, List.getElem?_map, List.getElem?_range hi]; rfl
theorem needs_more (hi : i < l.length) : (needsS l).take (i + 1) = (needsS l).take i ++ [(List.range l.length).filter (usesS l i)] := by
  rw [List.take_add_one, needs_row hi]; rfl
end
end Go.Proofs.Sm
