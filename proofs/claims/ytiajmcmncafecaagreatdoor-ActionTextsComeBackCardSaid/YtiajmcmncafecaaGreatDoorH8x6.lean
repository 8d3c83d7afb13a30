/- Walks: the program's reader of an action: its state. -/
import Derived.Test.YtiajmcmncafecaaGreatDoorH8x3
import Derived.Test.YtiajmcmncafecaaGreatDoorH8x5
import Derived.Deep.RegionHeld3
import Derived.Test.YtiajmcmncafecaaGreatDoorH8x4
import Derived.Lib.Join
import Derived.Test.YtiajmcmncafecaaGreatDoorH8x2
import Derived.Stop.LaidErr
import Derived.Stop.ErrReads
namespace Go.Proofs.Sm
open Go.RowKit

theorem cut_line (T : ByteArray) (p : Nat) (w : World) (hE : Env w) (hT : T.size ≤ 4000000) :
    Calls Tryz.prog 10 #[.string (T.extract p T.size), .string ⟨#[10]⟩] w fun e w' => ∃ r, e = .returned (.tuple #[.string (lineB T p), .string r, .bool (hasLine T p)]) ∧ Below w.heap.size w w' := by
  obtain ⟨m, hm⟩ := hE.most
  have hs : (T.extract p T.size).size < 4294967281 := by rw [ByteArray.size_extract]; omega
  exact (Tryz.strings_Cut _ ⟨#[10]⟩ m w hs hm).mono fun _ _ h => ⟨_, h.1, below_drewn h.2⟩
/-- in blocks from a on -/
def From (a : Nat) (w : World) : Nat → Prop := fun k => a ≤ k ∧ k < w.heap.size
theorem split_words (s : ByteArray) (w : World) (hE : Env w) (hs : s.size ≤ 4000000) :
    Calls Tryz.prog 21 #[.string s, .string ⟨#[32]⟩] w fun e w' => e = .returned (.slice (some ⟨w.heap.size, 0, none⟩) (wordsOf s).length (wordsOf s).length) ∧
      Sl w' (From w.heap.size w') (some ⟨w.heap.size, 0, none⟩) (wordsOf s).length (wordsOf s) ∧ Below w.heap.size w w' := by
  refine (split_any s ⟨#[32]⟩ w hE (by omega) (by decide)).mono ?_
  rintro e w' ⟨rfl, rfl⟩
  have hl := wordsOf_length s
  have hn : (wordsOf s).length ≤ maxLen := by
    have := wordsOf_count s
    unfold maxLen; omega
  have hsl := Sl.new_strs (w := w) (t := 9) (l := wordsOf s) hn (fun x hx => Nat.le_trans (wordsOf_size hx) (by unfold maxLen; omega))
  refine ⟨by rw [hl], ?_, fr_alloc (fr_refl w) _⟩
  refine ⟨hsl.1, hsl.2.1, fun h0 => ?_⟩
  obtain ⟨b, o, e, hb, hc⟩ := hsl.2.2 h0
  cases e
  exact ⟨_, _, rfl, ⟨Nat.le_refl _, by simp⟩, fun i x hx => by
    obtain ⟨vs, hv, ha⟩ := hc i x hx
    exact ⟨vs, hv, ha⟩⟩
theorem any_empty (l : List ByteArray) : l.any (eqS ⟨#[]⟩) = !(noneEmpty l) := by
  rw [noneEmpty, Bool.not_not]
  congr 1
  funext x
  have e : (⟨#[]⟩ : ByteArray).toList = [] := by rw [Lib.toList_data]
  rw [eqS, e, Lib.toList_data]
  cases x.data.toList <;> rfl
theorem contains_empty (A : Option Addr) (n c : Nat) (l : List ByteArray) (w : World) (S : Nat → Prop) (hS : ∀ k, S k → k < w.heap.size) (hsl : Sl w S A n l) :
    Calls Tryz.prog 22 #[.slice A n c, .string ⟨#[]⟩] w fun e w' => e = .returned (.bool (!(noneEmpty l))) ∧ w = w' :=
  (slices_ContainsStr A n c l ⟨#[]⟩ w (hsl.more hS)).mono fun _ _ h => ⟨by rw [h.1, any_empty], h.2⟩
theorem nil_any {α : Type} [Rep α] {w : World} {S : Nat → Prop} {A : Option Addr} : Sl w S A 0 ([] : List α) := ⟨rfl, Nat.zero_le _, fun h => absurd h (by omega)⟩
/-- the slice of all words but the first -/
theorem tail_runR {w : World} {S : Nat → Prop} {b n c : Nat} {x : ByteArray} {l : List ByteArray} (h : Sl w S (some ⟨b, 0, none⟩) n (x :: l)) (hnc : n ≤ c) :
    ∃ A2 c2, Sl w S A2 l.length l ∧ l.length ≤ c2 ∧ c2 ≤ c ∧ ∀ W, (Instr.slice 24 (.slice (some ⟨b, 0, none⟩) n c) (some (.int .i64 1)) none none).run Tryz.prog W = .ok (.slice A2 l.length c2) W := by
  have hl := h.1
  rw [List.length_cons] at hl
  have ht := sl_tail h
  have e1 : n - 1 = l.length := by omega
  rw [e1] at ht
  by_cases hc : c = 1
  · subst hc
    obtain rfl : n = 1 := by omega
    have hl2 : l = [] := List.eq_nil_of_length_eq_zero (by omega)
    subst hl2
    refine ⟨some ⟨b, 0, none⟩, 0, nil_any, Nat.le_refl _, by omega, fun W => ?_⟩
    simp [go_sem, Tryz.underlying24]
  · refine ⟨some ⟨b, 0 + 1, none⟩, c - 1, ht, by omega, by omega, fun W => ?_⟩
    have h2 : (1 : Int) ≤ n := by omega
    have e2 : ((n : Int) - 1).toNat = l.length := by omega
    simp [go_sem, Tryz.underlying24, hc, h2, e1]

theorem lineIs_val {T : ByteArray} {p : Nat} {word : List UInt8} {many : Nat} {w0 : ByteArray} {ws : List ByteArray} (h : wordsOf (lineB T p) = w0 :: ws) :
    lineIs T p word many = if (hasLine T p && (ws.length + 1 == many) && (w0.data.toList == word) && noneEmpty (w0 :: ws)) = true then some (ws, p + (lineB T p).size + 1) else none := by
  rw [lineIs, rowS, h]
  cases hasLine T p <;> cases noneEmpty (w0 :: ws) <;> cases h1 : (w0.data.toList == word) <;> cases h2 : (ws.length + 1 == many) <;> simp [h1, h2]
theorem words_cons (s : ByteArray) : ∃ w0 ws, wordsOf s = w0 :: ws := by
  cases h : wordsOf s with
  | nil =>
    have := wordsOf_length s
    rw [h] at this
    simp at this
  | cons a l => exact ⟨a, l, rfl⟩
/-- what the program's reader answers of a line -/
def LineAns (w : World) (r : Option (List ByteArray × Nat)) (e : Ending) (w' : World) : Prop := Below w.heap.size w w' ∧ match r with
  | none => e = .returned (.tuple #[.slice none 0 0, .int .i64 0, .bool false])
  | some (ws, q) => ∃ A c, e = .returned (.tuple #[.slice A ws.length c, .int .i64 (q : Nat), .bool true]) ∧ ws.length ≤ c ∧ c ≤ maxLen ∧ Sl w' (From w.heap.size w') A ws.length ws
theorem LineAns.none_ {w w' : World} {R : Option (List ByteArray × Nat)} (h : R = none) (hb : Below w.heap.size w w') : LineAns w R (.returned (.tuple #[.slice none 0 0, .int .i64 0, .bool false])) w' := by
  subst h; exact ⟨hb, rfl⟩
theorem LineAns.some_ {w w' : World} {R : Option (List ByteArray × Nat)} {A : Option Addr} {ws : List ByteArray} {c q : Nat} {z : Int} (h : R = some (ws, q)) (hb : Below w.heap.size w w') (h1 : ws.length ≤ c) (h2 : c ≤ maxLen) (hz : z = (q : Nat)) (hsl : Sl w' (From w.heap.size w') A ws.length ws) :
    LineAns w R (.returned (.tuple #[.slice A ws.length c, .int .i64 z, .bool true])) w' := by
  subst h; subst hz; exact ⟨hb, A, c, rfl, h1, h2, hsl⟩
theorem from_mono {a b : Nat} {w w' : World} (hab : a ≤ b) (hs : w.heap.size ≤ w'.heap.size) : ∀ k, From b w k → From a w' k := fun _ h => ⟨Nat.le_trans hab h.1, Nat.lt_of_lt_of_le h.2 hs⟩

end Go.Proofs.Sm

namespace Go.Proofs.Sm
open Go.RowKit

def joinS (ws : List ByteArray) : List UInt8 := Lib.join (ws.map (·.data.toList)) [32]
def lineW (ws : List ByteArray) : List UInt8 := joinS ws ++ [10]
def cmdL (c : List ByteArray) : List UInt8 := [100, 111, 32] ++ joinS c ++ [10]
def varL (v : VarV) : List UInt8 := [118, 97, 114, 32] ++ v.name.data.toList ++ [32] ++ v.value.data.toList ++ [10]
def needL (v : VarV) : List UInt8 := [110, 101, 101, 100, 32] ++ v.name.data.toList ++ [32] ++ v.value.data.toList ++ [10]
def outL (p : ByteArray) : List UInt8 := [111, 117, 116, 32] ++ p.data.toList ++ [10]
def toolL (a : ActionV) : List UInt8 := [116, 111, 111, 108, 32] ++ a.tool.data.toList ++ [10]
def timeL (a : ActionV) : List UInt8 := [116, 105, 109, 101, 32] ++ Lib.itoa a.time ++ [10]
def actTextL (a : ActionV) : List UInt8 := toolL a ++ a.commands.flatMap cmdL ++ a.vars.flatMap varL ++ a.outputs.flatMap outL ++ a.needs.flatMap needL ++ timeL a
theorem joinS_two (x y : ByteArray) : joinS [x, y] = x.data.toList ++ [32] ++ y.data.toList := by simp [joinS, Lib.join_cons, Lib.joinTail]
theorem joinS_three (x y z : ByteArray) : joinS [x, y, z] = x.data.toList ++ [32] ++ y.data.toList ++ [32] ++ z.data.toList := by simp [joinS, Lib.join_cons, Lib.joinTail]
theorem joinS_length (m : Nat) (ws : List ByteArray) (h : ∀ x ∈ ws, x.size ≤ m) : (joinS ws).length ≤ (m + 1) * ws.length := by
  cases ws with
  | nil => simp [joinS, Lib.join]
  | cons a l =>
    have h1 := flatMap_length (f := fun x : ByteArray => [32] ++ x.data.toList) (m := m + 1) (l := l) (fun x hx => by
      have h2 := h x (by simp [hx])
      have h3 : x.data.toList.length = x.size := by simp
      simp only [List.length_append, List.length_cons, List.length_nil, h3]; omega)
    have h2 := h a (by simp)
    have h3 : a.data.toList.length = a.size := by simp
    have h4 : Lib.joinTail [32] (l.map (·.data.toList)) = l.flatMap fun x : ByteArray => [32] ++ x.data.toList := by
      simp [Lib.joinTail, List.flatMap, Function.comp_def]
    rw [joinS, List.map_cons, Lib.join_cons, List.length_append, h3, h4, List.length_cons, Nat.mul_succ]
    omega
theorem listErr_all' {α : Type} {err : Option ByteArray → α → Int} {key : α → ByteArray} {l : List α} : ∀ prev, listErr err key prev l = 0 → ∀ x ∈ l, ∃ q, err q x = 0 := by
  induction l with
  | nil => intro _ _ x hx; simp at hx
  | cons a l ih =>
    intro prev h x hx
    rw [listErr] at h
    split at h
    · rename_i h0
      rcases List.mem_cons.1 hx with rfl | hx
      · exact ⟨_, h0⟩
      · exact ih _ h x hx
    · exact absurd h ‹_›
structure ActOk (a : ActionV) : Prop where
  tool : a.tool.size ≤ 16
  commands : a.commands.length ≤ 50
  words : ∀ c ∈ a.commands, c.length ≤ 50 ∧ ∀ s ∈ c, s.size ≤ 300
  vars : a.vars.length ≤ 30
  var : ∀ v ∈ a.vars, v.name.size ≤ 40 ∧ v.value.size ≤ 300
  outputs : a.outputs.length ≤ 100
  output : ∀ p ∈ a.outputs, p.size ≤ 200
  needs : a.needs.length ≤ 30
  need : ∀ v ∈ a.needs, v.name.size ≤ 40 ∧ v.value.size ≤ 300
  time : 1 ≤ a.time ∧ a.time ≤ 100000
theorem commandsErr_all {l : List (List ByteArray)} (h : commandsErr l = 0) : ∀ c ∈ l, checkCommandS c = 0 := by
  induction l with
  | nil => intro x hx; simp at hx
  | cons a l ih =>
    rw [commandsErr] at h
    split at h
    · rename_i h0
      intro x hx
      rcases List.mem_cons.1 hx with rfl | hx
      · exact h0
      · exact ih h x hx
    · exact absurd h ‹_›
theorem command_ok {c : List ByteArray} (h : checkCommandS c = 0) : c.length ≤ 50 ∧ ∀ s ∈ c, s.size ≤ 300 := by
  unfold checkCommandS at h
  split at h
  · omega
  · rename_i h1
    refine ⟨by omega, ?_⟩
    cases c with
    | nil => intro s hs; simp at hs
    | cons c0 words =>
      simp only at h
      split at h
      · omega
      · rename_i h2
        simp only [Bool.not_eq_false, List.all_eq_true] at h2
        intro s hs
        have := withinB_true (Bool.and_eq_true_iff.1 (h2 s hs)).2
        omega
theorem vars_ok {l : List VarV} (h : checkVarsS l = 0) : l.length ≤ 30 ∧ ∀ v ∈ l, v.name.size ≤ 40 ∧ v.value.size ≤ 300 := by
  unfold checkVarsS at h
  split at h
  · omega
  · refine ⟨by omega, fun v hv => ?_⟩
    obtain ⟨q, hq⟩ := listErr_all' _ h v hv
    unfold varErr at hq
    split at hq
    · omega
    · split at hq
      · omega
      · rename_i h1 h2
        simp only [Bool.not_eq_false, isNameS, Bool.and_eq_true] at h1
        have := withinB_true h1.1.1.1
        simp only [Bool.or_eq_true, decide_eq_true_eq, not_or] at h2
        omega
theorem outputs_ok {l : List ByteArray} (h : checkOutputsS l = 0) : l.length ≤ 100 ∧ ∀ v ∈ l, v.size ≤ 200 := by
  unfold checkOutputsS at h
  split at h
  · omega
  · split at h
    · omega
    · split at h
      · rename_i h1; exact absurd h h1
      · rename_i h0 h1 h2
        refine ⟨by omega, fun v hv => ?_⟩
        obtain ⟨q, hq⟩ := listErr_all' _ (Classical.not_not.1 h2) v hv
        unfold outErr at hq
        split at hq
        · omega
        · rename_i h3; exact path_size (by simpa using h3)
theorem checkAction_ok {a : ActionV} (h : checkActionS a = 0) : ActOk a := by
  unfold checkActionS at h
  split at h
  · omega
  · split at h
    · omega
    · split at h
      · omega
      · split at h
        · rename_i h1; exact absurd h h1
        · split at h
          · rename_i h1; exact absurd h h1
          · split at h
            · rename_i h1; exact absurd h h1
            · split at h
              · rename_i h1; exact absurd h h1
              · split at h
                · omega
                · rename_i h1 h2 h3 h4 h5 h6 h7 h8
                  have g4 := Classical.not_not.1 h4
                  have g5 := vars_ok (Classical.not_not.1 h5)
                  have g6 := outputs_ok (Classical.not_not.1 h6)
                  have g7 := vars_ok (Classical.not_not.1 h7)
                  refine ⟨digest_size (.inr (by simpa using h1)), by omega, fun c hc => command_ok (commandsErr_all g4 c hc), g5.1, g5.2, g6.1, g6.2, g7.1, g7.2, withinB_true (by simpa using h8)⟩
theorem cmdL_length {c : List ByteArray} (h : c.length ≤ 50 ∧ ∀ s ∈ c, s.size ≤ 300) : (joinS c).length ≤ 15050 := by
  have h1 := joinS_length 300 c h.2
  have : 301 * c.length ≤ 301 * 50 := Nat.mul_le_mul_left _ h.1
  omega
theorem flatMap_take {α : Type} {f : α → List UInt8} {m q : Nat} {l : List α} (hq : l.length ≤ q) (h : ∀ x ∈ l, (f x).length ≤ m) (k : Nat) : ((l.take k).flatMap f).length ≤ m * q := by
  have h2 := flatMap_length (f := f) (m := m) (l := l.take k) (fun x hx => h x (List.mem_of_mem_take hx))
  have h3 : (l.take k).length ≤ q := by rw [List.length_take]; omega
  have : m * (l.take k).length ≤ m * q := Nat.mul_le_mul_left _ h3
  omega
theorem toolL_length {a : ActionV} (ok : ActOk a) : (toolL a).length ≤ 30 := by
  have h5 : a.tool.data.toList.length = a.tool.size := by simp
  have := ok.tool
  simp only [toolL, List.length_append, List.length_cons, List.length_nil, h5]; omega
theorem cmds_length {a : ActionV} (ok : ActOk a) (k : Nat) : ((a.commands.take k).flatMap cmdL).length ≤ 800000 := by
  have := flatMap_take (f := cmdL) (m := 15100) ok.commands (fun x hx => by
    have := cmdL_length (ok.words x hx)
    simp only [cmdL, List.length_append, List.length_cons, List.length_nil]; omega) k
  omega
theorem vars_length {a : ActionV} (ok : ActOk a) (k : Nat) : ((a.vars.take k).flatMap varL).length ≤ 12000 := by
  have := flatMap_take (f := varL) (m := 360) ok.vars (fun x hx => by
    have := ok.var x hx
    have h5 : x.name.data.toList.length = x.name.size := by simp
    have h6 : x.value.data.toList.length = x.value.size := by simp
    simp only [varL, List.length_append, List.length_cons, List.length_nil, h5, h6]; omega) k
  omega
theorem outs_length {a : ActionV} (ok : ActOk a) (k : Nat) : ((a.outputs.take k).flatMap outL).length ≤ 30000 := by
  have := flatMap_take (f := outL) (m := 220) ok.outputs (fun x hx => by
    have := ok.output x hx
    have h5 : x.data.toList.length = x.size := by simp
    simp only [outL, List.length_append, List.length_cons, List.length_nil, h5]; omega) k
  omega
theorem needs_length {a : ActionV} (ok : ActOk a) (k : Nat) : ((a.needs.take k).flatMap needL).length ≤ 12000 := by
  have := flatMap_take (f := needL) (m := 360) ok.needs (fun x hx => by
    have := ok.need x hx
    have h5 : x.name.data.toList.length = x.name.size := by simp
    have h6 : x.value.data.toList.length = x.value.size := by simp
    simp only [needL, List.length_append, List.length_cons, List.length_nil, h5, h6]; omega) k
  omega
end Go.Proofs.Sm

namespace Go.Proofs.Sm
open Go.RowKit

def toolW : List UInt8 := [116, 111, 111, 108]
def doW : List UInt8 := [100, 111]
def varW : List UInt8 := [118, 97, 114]
def outW : List UInt8 := [111, 117, 116]
def needW : List UInt8 := [110, 101, 101, 100]
def timeW : List UInt8 := [116, 105, 109, 101]
/-- where a word of a line stands -/
def placeS (w : List UInt8) : Nat := if w = toolW then 1 else if w = doW then 2 else if w = varW then 3 else if w = outW then 4 else if w = needW then 5 else if w = timeW then 6 else 0
def cut1 (s : ByteArray) (c : UInt8) : ByteArray := ⟨(Lib.cut s.data.toList [c]).1.toArray⟩
def cut2 (s : ByteArray) (c : UInt8) : ByteArray := ⟨(Lib.cut s.data.toList [c]).2.1.toArray⟩
def cutHas (s : ByteArray) (c : UInt8) : Bool := (Lib.cut s.data.toList [c]).2.2
def oneWord (s : ByteArray) : Bool := !s.data.toList.isEmpty && !(cutHas s 32)
def twoWords (s : ByteArray) : Bool := cutHas s 32 && !(cut1 s 32).data.toList.isEmpty
def noAction : ActionV := ⟨⟨#[]⟩, [], [], [], [], 0⟩
/-- what a line says, put to an action -/
def takeS (a : ActionV) (k : Nat) (s : ByteArray) : Option ActionV :=
  if k = 1 then (if oneWord s = true then some { a with tool := s } else none)
  else if k = 2 then (if noneEmpty (wordsOf s) = true then some { a with commands := a.commands ++ [wordsOf s] } else none)
  else if k = 3 then (if twoWords s = true then some { a with vars := a.vars ++ [⟨cut1 s 32, cut2 s 32⟩] } else none)
  else if k = 4 then (if oneWord s = true then some { a with outputs := a.outputs ++ [s] } else none)
  else if k = 5 then (if twoWords s = true then some { a with needs := a.needs ++ [⟨cut1 s 32, cut2 s 32⟩] } else none)
  else (if isNumberS s 9 = true then some { a with time := (numS s : Nat) } else none)
structure ASt where
  last : Nat
  a : ActionV
/-- a line cannot stand there -/
def misplaced (last k : Nat) : Bool := decide (k = 0) || decide (k < last) || (decide (k = last) && !(decide (2 ≤ k) && decide (k ≤ 5))) || (decide (last = 0) && !(decide (k = 1)))
def lineA (st : ASt) (s : ByteArray) : Option ASt :=
  if (!(cutHas s 32) || misplaced st.last (placeS (cut1 s 32).data.toList)) = true then none
  else (takeS st.a (placeS (cut1 s 32).data.toList) (cut2 s 32)).map fun a => ⟨placeS (cut1 s 32).data.toList, a⟩
def doneA (n : Nat) (st : ASt) : Except Nat ActionV := if st.last = 6 then .ok st.a else .error n
def loopA : Nat → ByteArray → Nat → ASt → Except Nat ActionV
  | 0, _, n, st => doneA n st
  | f + 1, S, n, st => if S.size = 0 then doneA n st else if cutHas S 10 = false then .error n else match lineA st (cut1 S 10) with
    | none => .error n
    | some st' => loopA f (cut2 S 10) (n + 1) st'
def runA (S : ByteArray) (n : Nat) (st : ASt) : Except Nat ActionV := loopA S.size S n st
/-- what Read answers -/
def readActS (T : ByteArray) : ActionV × Int × Int :=
  if 2000000 < (T.size : Int) then (noAction, 0, 2) else match runA T 1 ⟨0, noAction⟩ with
    | .error n => (noAction, (n : Nat), 10)
    | .ok a => if checkActionS a = 0 then (a, 0, 0) else (noAction, 0, checkActionS a)

/-! ### Cuts and the loop -/
theorem cut1_data (s : ByteArray) (c : UInt8) : (cut1 s c).data.toList = (Lib.cut s.data.toList [c]).1 := by simp [cut1]
theorem cut2_data (s : ByteArray) (c : UInt8) : (cut2 s c).data.toList = (Lib.cut s.data.toList [c]).2.1 := by simp [cut2]
theorem cut_whole {s : ByteArray} {c : UInt8} (h : cutHas s c = true) : c ∉ (cut1 s c).data.toList ∧ s.data.toList = (cut1 s c).data.toList ++ c :: (cut2 s c).data.toList := by
  rw [cut1_data, cut2_data]
  exact cut_has h
theorem cut_less {s : ByteArray} {c : UInt8} (h : cutHas s c = true) : (cut1 s c).size + (cut2 s c).size + 1 = s.size := by
  have h1 := congrArg List.length (cut_whole h).2
  have e1 : s.data.toList.length = s.size := by simp
  have e2 : (cut1 s c).data.toList.length = (cut1 s c).size := by simp
  have e3 : (cut2 s c).data.toList.length = (cut2 s c).size := by simp
  rw [List.length_append, List.length_cons, e1, e2, e3] at h1
  omega
theorem cut_parts {s : ByteArray} {c : UInt8} {a t : List UInt8} (h : s.data.toList = a ++ c :: t) (hc : c ∉ a) : cutHas s c = true ∧ (cut1 s c).data.toList = a ∧ (cut2 s c).data.toList = t := by
  rw [cutHas, cut1_data, cut2_data, h, cut_some hc]
  exact ⟨rfl, rfl, rfl⟩
theorem cut_size (s : ByteArray) (c : UInt8) : (cut1 s c).size ≤ s.size ∧ (cut2 s c).size ≤ s.size := by
  cases h : cutHas s c
  · have h1 := cut_hasnt h
    have e2 : (cut1 s c).size = (cut1 s c).data.toList.length := by simp
    have e3 : (cut2 s c).size = (cut2 s c).data.toList.length := by simp
    rw [e2, e3, cut1_data, cut2_data, h1.2.1, h1.2.2]
    simp
  · have := cut_less h; omega
theorem loopA_fuel : ∀ (f g : Nat) (S : ByteArray) (n : Nat) (st : ASt), S.size ≤ f → S.size ≤ g → loopA f S n st = loopA g S n st := by
  intro f
  induction f with
  | zero =>
    intro g S n st h1 h2
    cases g with
    | zero => rfl
    | succ g => rw [loopA, loopA, if_pos (by omega)]
  | succ f ih =>
    intro g S n st h1 h2
    cases g with
    | zero => rw [loopA, loopA, if_pos (by omega)]
    | succ g =>
      rw [loopA, loopA]
      split
      · rfl
      · split
        · rfl
        · rename_i hh
          have hl := cut_less (by simpa using hh)
          split
          · rfl
          · exact ih g _ _ _ (by omega) (by omega)
theorem runA_end {S : ByteArray} {n : Nat} {st : ASt} (h : S.size = 0) : runA S n st = doneA n st := by rw [runA, h, loopA]
theorem runA_cut {S : ByteArray} {n : Nat} {st : ASt} (h : S.size ≠ 0) (hc : cutHas S 10 = false) : runA S n st = .error n := by
  rw [runA, show S.size = (S.size - 1) + 1 by omega, loopA, if_neg h, if_pos hc]
theorem runA_stop {S : ByteArray} {n : Nat} {st : ASt} (hc : cutHas S 10 = true) (hl : lineA st (cut1 S 10) = none) : runA S n st = .error n := by
  have h1 := cut_less hc
  rw [runA, show S.size = (S.size - 1) + 1 by omega, loopA, if_neg (by omega), if_neg (by rw [hc]; decide), hl]
theorem runA_round {S : ByteArray} {n : Nat} {st st' : ASt} (hc : cutHas S 10 = true) (hl : lineA st (cut1 S 10) = some st') : runA S n st = runA (cut2 S 10) (n + 1) st' := by
  have h1 := cut_less hc
  rw [runA, show S.size = (S.size - 1) + 1 by omega, loopA, if_neg (by omega), if_neg (by rw [hc]; decide), hl, runA]
  exact loopA_fuel _ _ _ _ _ (by omega) (Nat.le_refl _)
end Go.Proofs.Sm

namespace Go.Proofs.Sm
open Go.RowKit

/-- A row of e's of the call's own that reads as a list; its elements lead to blocks in K, which are there. -/
def RowK {α : Type} [Rep α] (w : World) (B : Nat) (e : TypeId) (K : Nat → Prop) (v : Value) (l : List α) : Prop :=
  (∀ k, K k → k < w.heap.size) ∧ ∃ rows : List (List Value), rows.length = l.length ∧ w.ownsRow B e (Rep.sz α) v l.length rows.flatten ∧ ∀ (i : Nat) (x : α) (r : List Value), l[i]? = some x → rows[i]? = some r → Rep.rep w K x r
section
variable {α : Type} [Rep α] {w w' : World} {B : Nat} {e : TypeId} {K K' : Nat → Prop} {v : Value} {l : List α}
theorem RowK.nil : RowK w B e (fun _ => False) (.slice none 0 0) ([] : List α) := ⟨fun _ h => h.elim, [], rfl, World.ownsRow_nil _ _ _ _, fun i x r h => by simp at h⟩
theorem RowK.keep (h : RowK w B e K v l) (hs : w.heap.size ≤ w'.heap.size) (h1 : ∀ k, K k → w'.heap[k]? = w.heap[k]?) (h2 : ∀ g, v.ownBlock = some g → w'.heap[g]? = w.heap[g]?) : RowK w' B e K v l := by
  obtain ⟨hk, rows, hr, hown, hrep⟩ := h
  exact ⟨fun k hh => Nat.lt_of_lt_of_le (hk k hh) hs, rows, hr, ownsRow_keep hown h2, fun i x r hx hri => Rep.keep h1 (hrep i x r hx hri)⟩
theorem RowK.more (h : RowK w B e K v l) (hm : ∀ k, K k → K' k) (hk' : ∀ k, K' k → k < w.heap.size) : RowK w B e K' v l := by
  obtain ⟨_, rows, hr, hown, hrep⟩ := h
  exact ⟨hk', rows, hr, hown, fun i x r hx hri => Rep.more hm (hrep i x r hx hri)⟩
theorem RowK.kind (h : RowK w B e K v l) : ∀ g, v.ownBlock = some g → B ≤ g ∧ Kind e w g := by
  obtain ⟨_, rows, _, hown, _⟩ := h
  exact ownsRow_kind hown
theorem RowK.call (h : RowK w B e K v l) (hb : Below w.heap.size w w') : RowK w' B e K v l :=
  h.keep hb.size (fun k hk => hb.block k (h.1 k hk)) (fun g hg => hb.block g (h.kind g hg).2.lt)
/-- some block alone is another one now -/
theorem RowK.far {b : Nat} (h : RowK w B e K v l) (hg : w.grownBy w' (some b)) (h1 : ¬ K b) (h2 : v.ownBlock ≠ some b) : RowK w' B e K v l :=
  h.keep hg.size (fun k hk => hg.block k (h.1 k hk) fun e => h1 (by cases e; exact hk)) (fun g hh => hg.block g (h.kind g hh).2.lt fun e => h2 (by rw [hh, e]))
/-- another row grows -/
theorem RowK.other {row : Option Nat} (h : RowK w B e K v l) (hg : w.grownBy w' row) (h1 : ∀ g, row = some g → ¬ K g ∧ v.ownBlock ≠ some g) : RowK w' B e K v l :=
  h.keep hg.size (fun k hk => hg.block k (h.1 k hk) fun e => (h1 k e.symm).1 hk) (fun g hh => hg.block g (h.kind g hh).2.lt fun e => (h1 g e.symm).2 hh)
theorem RowK.append {rows : List (List Value)} {r : List Value} {x : α} {v' : Value} (hk : ∀ k, K k → k < w.heap.size) (hr : rows.length = l.length)
    (hrep : ∀ (i : Nat) (x : α) (r : List Value), l[i]? = some x → rows[i]? = some r → Rep.rep w K x r) (hx : Rep.rep w K x r) (hne : ∀ g, v.ownBlock = some g → ¬ K g)
    (hg : w.grownBy w' v.ownBlock) (hown' : w'.ownsRow B e (Rep.sz α) v' (l.length + 1) (rows.flatten ++ r)) : RowK w' B e K v' (l ++ [x]) := by
  have h1 : ∀ k, K k → w'.heap[k]? = w.heap[k]? := fun k hh => hg.block k (hk k hh) fun e2 => hne k e2.symm hh
  refine ⟨fun k hh => Nat.lt_of_lt_of_le (hk k hh) hg.size, rows ++ [r], by simp [hr], ?_, ?_⟩
  · rw [List.length_append, List.length_singleton, List.flatten_append]
    simpa using hown'
  · intro i y s hy hs
    refine Rep.keep h1 ?_
    by_cases hi : i < l.length
    · rw [List.getElem?_append_left hi] at hy
      rw [List.getElem?_append_left (by omega)] at hs
      exact hrep i y s hy hs
    · have hi2 := (List.getElem?_eq_some_iff.1 hy).1
      rw [List.length_append, List.length_singleton] at hi2
      obtain rfl : i = l.length := by omega
      rw [List.getElem?_append_right (Nat.le_refl _)] at hy
      rw [List.getElem?_append_right (by omega), hr] at hs
      simp at hy hs
      subst hy; subst hs
      exact hx
theorem RowK.sl (h : RowK w B e K v l) : ∃ A c, v = .slice A l.length c ∧ l.length ≤ c ∧ c ≤ maxLen ∧ Sl w (Lt w.heap.size) A l.length l := by
  obtain ⟨hk, rows, hr, hown, hrep⟩ := h
  have hcells := fun g hg => hown.cells (g := g) hg
  have hlt := hown.lt
  have hlens : ∀ r ∈ rows, r.length = Rep.sz α := by
    intro r hr2
    obtain ⟨i, hi⟩ := List.getElem?_of_mem hr2
    have hi2 := (List.getElem?_eq_some_iff.1 hi).1
    exact Rep.len (hrep i l[i] r (List.getElem?_eq_getElem (by omega)) hi)
  rcases hown.2 with ⟨rfl, h0⟩ | ⟨g, cap, cur, rfl, hb, hh, hnc, hcm, _, _⟩
  · rw [h0]
    have hl : l = [] := List.eq_nil_of_length_eq_zero h0
    subst hl
    exact ⟨none, 0, rfl, Nat.le_refl _, Nat.zero_le _, Sl.nil⟩
  · refine ⟨some ⟨g, 0, none⟩, cap, rfl, hnc, hcm, rfl, Nat.le_trans hnc hcm, fun hn => ⟨g, 0, rfl, (hlt g rfl).2, fun i x hx => ?_⟩⟩
    have hi : i < l.length := (List.getElem?_eq_some_iff.1 hx).1
    have hri : rows[i]? = some (rows[i]'(by omega)) := List.getElem?_eq_getElem (by omega)
    refine ⟨rows[i]'(by omega), Rep.more (fun k hh => hk k hh) (hrep i x _ hx hri), fun j u hu => ?_⟩
    have hj : j < Rep.sz α := by
      have := (List.getElem?_eq_some_iff.1 hu).1
      rw [hlens _ (List.mem_of_getElem? hri)] at this
      exact this
    have h3 := hcells g rfl (i * Rep.sz α + j) u (by rw [flatten_at hlens hri hj]; exact hu)
    rw [addr_add] at h3
    rw [← h3]
    congr 2
    omega
theorem RowK.form (h : RowK w B e K v l) : ∃ A c, v = .slice A l.length c := by
  obtain ⟨A, c, h1, _⟩ := h.sl
  exact ⟨A, c, h1⟩
end
end Go.Proofs.Sm

namespace Go.Proofs.Sm
open Go.RowKit

theorem cut_any (s : ByteArray) (c : UInt8) (w : World) (hE : Env w) (hs : s.size ≤ 4000000) :
    Calls Tryz.prog 10 #[.string s, .string ⟨#[c]⟩] w fun e w' => e = .returned (.tuple #[.string (cut1 s c), .string (cut2 s c), .bool (cutHas s c)]) ∧ Below w.heap.size w w' := by
  obtain ⟨m, hm⟩ := hE.most
  exact (Tryz.strings_Cut s ⟨#[c]⟩ m w (by omega) hm).mono fun _ _ h => ⟨h.1, below_drewn h.2⟩
/-- where the first one stands -/
def IdxIs (l : List ByteArray) (s : ByteArray) (r : Int) : Prop := (r = -1 ∧ l.any (eqS s) = false) ∨ ∃ (k : Nat) (x : ByteArray), r = (k : Int) ∧ l[k]? = some x ∧ eqS s x = true ∧ (l.take k).any (eqS s) = false
set_option maxRecDepth 100000 in
theorem slices_IndexIs (A : Option Addr) (n c : Nat) (l : List ByteArray) (s : ByteArray) (w : World) (hsl : Sl w (Lt w.heap.size) A n l) :
    Calls Tryz.prog 20 #[.slice A n c, .string s] w fun e w' => ∃ r : Int, e = .returned (.int .i64 r) ∧ IdxIs l s r ∧ w = w' := by
  have hm : n ≤ 9223372036854775807 := hsl.2.1
  go_enter Tryz.func20, Tryz.ntmps20
  go_wp2
  go_loop [5, 8] (fun _ i => ∃ k : Nat, k ≤ n ∧ i = .int .i64 k ∧ (l.take k).any (eqS s) = false) (fun _ i => n - (intOf i).toNat)
  case atStart => exact ⟨0, Nat.zero_le _, rfl, rfl⟩
  case round =>
    obtain ⟨k, hk, rfl, hall⟩ := hrel
    have H := Lib.hid hall; clear hall
    by_cases hlt : k < n
    · obtain ⟨b, o, x, rfl, hb, hx, hxs, c0⟩ := hsl.str hlt
      have Hx := Lib.hid hx; clear hx
      cases hq : (s.toList == x.toList)
      · have hq2 : (x.toList == s.toList) = false := by rw [beq_eq_false_iff_ne] at *; exact fun e => hq e.symm
        have HS := Lib.hid (any_step (p := eqS s) Hx.out H.out hq2)
        go_wp2
        go_round
        case rel => exact ⟨k + 1, by omega, by go_num, HS.out⟩
        case measure => simp [intOf]; omega
      · have hq2 : (x.toList == s.toList) = true := by rw [beq_iff_eq] at *; exact hq.symm
        have HQ := Lib.hid (show eqS s x = true from hq2)
        go_wp2
        go_ret
        exact ⟨k, rfl, .inr ⟨k, x, rfl, Hx.out, show eqS s x = true from HQ.out, H.out⟩, rfl⟩
    · have HS := Lib.hid (any_end (by rw [hsl.1]; omega) H.out)
      go_wp2
      go_ret
      exact ⟨-1, rfl, .inl ⟨rfl, HS.out⟩, rfl⟩
def sixWords : List ByteArray := [⟨#[116, 111, 111, 108]⟩, ⟨#[100, 111]⟩, ⟨#[118, 97, 114]⟩, ⟨#[111, 117, 116]⟩, ⟨#[110, 101, 101, 100]⟩, ⟨#[116, 105, 109, 101]⟩]
theorem eqS_data (s x : ByteArray) : eqS s x = (x.data.toList == s.data.toList) := by rw [eqS, Lib.toList_data, Lib.toList_data]
theorem place_index {s : ByteArray} {r : Int} (h : IdxIs sixWords s r) : r = (placeS s.data.toList : Int) - 1 := by
  rcases h with ⟨rfl, h⟩ | ⟨k, x, rfl, hx, he, ht⟩
  · simp only [sixWords, List.any_cons, List.any_nil, Bool.or_false, Bool.or_eq_false_iff, eqS_data, beq_eq_false_iff_ne] at h
    obtain ⟨h1, h2, h3, h4, h5, h6⟩ := h
    rw [placeS, if_neg (fun e => h1 e.symm), if_neg (fun e => h2 e.symm), if_neg (fun e => h3 e.symm), if_neg (fun e => h4 e.symm), if_neg (fun e => h5 e.symm), if_neg (fun e => h6 e.symm)]
    rfl
  · rw [eqS_data, beq_iff_eq] at he
    rw [← he]
    have hk : k < 6 := (List.getElem?_eq_some_iff.1 hx).1
    match k, hk, hx with
    | 0, _, hx => cases hx; rfl
    | 1, _, hx => cases hx; rfl
    | 2, _, hx => cases hx; rfl
    | 3, _, hx => cases hx; rfl
    | 4, _, hx => cases hx; rfl
    | 5, _, hx => cases hx; rfl
/-- the package-level variables, the two sentinels of package strconv among them -/
structure Env3 (w : World) : Prop extends Env w where
  syn : ∃ te pe, w.cell? ⟨1, 0, none⟩ = some (.iface te pe)
  ran : ∃ te pe, w.cell? ⟨2, 0, none⟩ = some (.iface te pe)
theorem Env3.of_heap {w w' : World} (h : Env3 w) (hs : w.heap.size ≤ w'.heap.size) (hk : ∀ k, k < 8 → w'.heap[k]? = w.heap[k]?) : Env3 w' where
  toEnv := h.toEnv.of_heap hs hk
  syn := by
    obtain ⟨te, pe, h1⟩ := h.syn
    exact ⟨te, pe, (World.cell?_of_block (w := w) (hk _ (by decide))).trans h1⟩
  ran := by
    obtain ⟨te, pe, h1⟩ := h.ran
    exact ⟨te, pe, (World.cell?_of_block (w := w) (hk _ (by decide))).trans h1⟩
theorem Env3.below {B : Nat} {w w' : World} (h : Env3 w) (hb : Below B w w') (hB : 8 ≤ B) : Env3 w' := h.of_heap hb.size fun k hk => hb.block k (Nat.lt_of_lt_of_le hk hB)
theorem Env3.then_ {w w' : World} (h : Env3 w) (hb : Below w.heap.size w w') : Env3 w' := h.below hb h.size
theorem atoiAll_in {l : List UInt8} {v : Int} (h : Lib.atoiAll l = .ok v) : InInt v := by
  unfold Lib.atoiAll at h
  split at h
  · cases h
  · simp only at h
    split at h
    · cases h
    · cases h
    · split at h
      · cases h
      · split at h
        · cases h
        · rename_i h1 h2
          cases h
          unfold InInt
          split <;> omega
/-- strconv.Atoi at any string: some number, and nil or an error -/
theorem atoi_total (s : ByteArray) (w : World) (hE : Env3 w) (hs : s.size ≤ 4000000) :
    Calls Tryz.prog 23 #[.string s] w fun e w' => ∃ (n : Int) (v : Value), e = .returned (.tuple #[.int .i64 n, v]) ∧ InInt n ∧ (∀ m, isNumberS s m = true → m ≤ 18 → n = (numS s : Nat)) ∧ Below w.heap.size w w' := by
  by_cases hnum : isNumberS s 18 = true
  · refine (atoi_any s 18 w hnum (by decide)).mono ?_
    rintro e w' ⟨rfl, hb⟩
    have h1 := number_some hnum
    have h2 : numS s < 1000000000000000000 := Nat.lt_of_lt_of_le h1.2.1 (Nat.pow_le_pow_right (by decide : 0 < 10) (show s.size ≤ 18 by omega))
    exact ⟨_, _, rfl, ⟨by omega, by omega⟩, fun _ _ _ => rfl, hb⟩
  · have hno : ∀ m, isNumberS s m = true → m ≤ 18 → False := fun m hm h18 => hnum (by
      simp only [isNumberS, Bool.and_eq_true] at hm ⊢
      have := withinB_true hm.1.1
      exact ⟨⟨by simp [withinB]; omega, hm.1.2⟩, hm.2⟩)
    have hcases : (∃ v, Lib.atoiAll s.data.toList = .ok v) ∨ Lib.atoiAll s.data.toList = .range ∨ ((∀ v, Lib.atoiAll s.data.toList ≠ .ok v) ∧ Lib.atoiAll s.data.toList ≠ .range) := by
      by_cases h1 : ∃ v, Lib.atoiAll s.data.toList = .ok v
      · exact .inl h1
      · by_cases h2 : Lib.atoiAll s.data.toList = .range
        · exact .inr (.inl h2)
        · exact .inr (.inr ⟨fun v e => h1 ⟨v, e⟩, h2⟩)
    rcases hcases with ⟨v, h⟩ | h | ⟨h1, h2⟩
    · refine (Tryz.strconv_Atoi_ok s (by omega) v h w).mono ?_
      rintro e w' ⟨rfl, hw⟩
      refine ⟨v, _, rfl, ?_, fun m hm h18 => (hno m hm h18).elim, ?_⟩
      · exact atoiAll_in h
      · rcases hw with rfl | ⟨t, rfl⟩
        · exact fr_refl _
        · exact Lib.bytesWorld_below _ _ _
    · obtain ⟨te, pe, he⟩ := hE.ran
      refine (Tryz.strconv_Atoi_range s (by omega) h _ w he (.inr ⟨te, pe, rfl⟩)).mono ?_
      rintro e w' ⟨N, rfl, _, _, hb⟩
      refine ⟨_, _, rfl, ?_, fun m hm h18 => (hno m hm h18).elim, hb⟩
      unfold Lib.atoiSat
      split
      · exact ⟨by decide, by decide⟩
      · exact ⟨by decide, by decide⟩
    · obtain ⟨te, pe, he⟩ := hE.syn
      refine (Any.strconv_Atoi_syntax Tryz.laysC172 s (by omega) ?_ (.iface te pe) w he (.inr ⟨te, pe, rfl⟩)).mono ?_
      · generalize Lib.atoiAll s.data.toList = r at h1 h2
        cases r
        · exact absurd rfl (h1 _)
        · first
            | rfl
            | exact absurd rfl h2
        · first
            | rfl
            | exact absurd rfl h2
      · rintro e w' ⟨N, rfl, _, _, hb⟩
        exact ⟨_, _, rfl, ⟨by decide, by decide⟩, fun m hm h18 => (hno m hm h18).elim, hb⟩
end Go.Proofs.Sm

namespace Go.Proofs.Sm
open Go.RowKit Go.ChangeShapes Go.WideShapes Go.ChangeAt

theorem star_err : "*" ++ "errors.errorString" = "*errors.errorString" := by decide
theorem row_err (u : TypeId) (h : Tryz.prog.typeName? 3 u = some "*errors.errorString") : u = 149 :=
  typeName_ptr_named (nm := "errors.errorString") (by rw [star_err]; kernel_rfl) (by kernel_rfl) (by decide) u (by rw [star_err]; exact h)
theorem cell_err {W : World} {n : String} {text : List UInt8} {r : List (String × DataW Unit)} {g : Nat} (h : laidMet Tryz.prog ((n, .iface "*errors.errorString" (.ptr (.agg [.lit (.string text)]))) :: r) W)
    (hg : Tryz.prog.globalNamed n = some g) (ht : (Tryz.prog.globals[g]?).map (·.type) = some 62) : ∃ te pe, W.cell? ⟨g, 0, none⟩ = some (.iface te pe) := by
  obtain ⟨a, s, hv, _⟩ := laid_sentinel h hg ht Tryz.underlying62 row_err Tryz.underlying149 Tryz.underlying151 rfl rfl Tryz.underlying9 (by kernel_rfl) (by kernel_rfl)
  exact ⟨_, _, by simpa using World.var?_cell hg hv 0⟩
theorem env3_of {laid r : List (String × DataW Unit)} {W : World} (hL : laidMet Tryz.prog laid W) (hS : W.ShapedOpen Tryz.prog) (h3 : ("unicode/utf8.first", Go.Pinned.utf8First) ∈ laid) (h4 : ("unicode/utf8.acceptRanges", YtiajmcmncafecaaGreatDoor.Rows.laid_unicode_utf8_acceptRanges) ∈ laid)
    (hr : laidMet Tryz.prog (("strconv.ErrRange", YtiajmcmncafecaaGreatDoor.Rows.laid_strconv_ErrRange) :: ("strconv.ErrSyntax", YtiajmcmncafecaaGreatDoor.Rows.laid_strconv_ErrSyntax) :: r) W) : Env3 W where
  toEnv := env_of hL hS h3 h4
  ran := cell_err hr (by kernel_rfl) (by kernel_rfl)
  syn := cell_err hr.tail (by kernel_rfl) (by kernel_rfl)
end Go.Proofs.Sm

namespace Go.Proofs.Sm
open Go.RowKit

/-! ### A block that holds a struct -/
theorem gb_refl (w : World) (row : Option Nat) : w.grownBy w row := ⟨rfl, rfl, rfl, Nat.le_refl _, fun _ _ _ => rfl⟩
theorem gb_trans {w w1 w2 : World} {row : Option Nat} (h : w.grownBy w1 row) (k : w1.grownBy w2 row) : w.grownBy w2 row :=
  ⟨k.os.trans h.os, k.tape.trans h.tape, k.output.trans h.output, Nat.le_trans h.size k.size, fun i hi hne => (k.block i (Nat.lt_of_lt_of_le hi h.size) hne).trans (h.block i hi hne)⟩
theorem gb_below {w w1 : World} (h : Below w.heap.size w w1) (row : Option Nat) : w.grownBy w1 row := ⟨h.os, h.tape, h.output, h.size, fun i hi _ => h.block i hi⟩
theorem gb_call {w w1 w2 : World} {row : Option Nat} (h : w.grownBy w1 row) (k : Below w1.heap.size w1 w2) : w.grownBy w2 row := gb_trans h (gb_below k row)
theorem gb_set {w w1 : World} {b : Nat} (h : w.grownBy w1 (some b)) (o : Nat) (u : Value) : w.grownBy (w1.setCell ⟨b, o, none⟩ u) (some b) :=
  gb_trans h ⟨rfl, rfl, rfl, by simp, fun i _ hne => heap_setCell_other w1 ⟨b, o, none⟩ i u (fun e => hne (by rw [e]))⟩
theorem gb_drew {w w1 : World} {row : Option Nat} (h : w.grownBy w1 row) : w.grownBy w1.drew row := ⟨h.os, h.tape, h.output, h.size, h.block⟩
theorem gb_alloc {w w1 : World} {row : Option Nat} (h : w.grownBy w1 row) (o : Obj) : w.grownBy (w1.alloc o) row := gb_trans h (World.grownBy_alloc w1 o row)
theorem gb_env {w w1 : World} {b : Nat} (hE : Env w) (h : w.grownBy w1 (some b)) (hb : 8 ≤ b) : Env w1 := by
  have := hE.size
  exact hE.of_heap h.size fun k hk => h.block k (by omega) (fun e => by cases e; omega)
theorem heap_lt {w : World} {b : Nat} {o : Obj} (h : w.heap[b]? = some o) : b < w.heap.size := (Array.getElem?_eq_some_iff.1 h).1

section
variable {w : World} {b p : Nat} {T t : ByteArray} {c d : Int} {vF vL : Value}
end
section
variable {w : World} {S : Nat → Prop} {A : Option Addr} {x y z : ByteArray}
theorem sl_one (h : Sl w S A 1 [x]) : ∃ g o, A = some ⟨g, o, none⟩ ∧ S g ∧ x.size ≤ maxLen ∧ w.cell? ⟨g, o, none⟩ = some (.string x) := by
  obtain ⟨g, o, x', e, hS, hx, hs, c0⟩ := h.str (k := 0) (by omega)
  obtain rfl : x = x' := by simpa using hx
  exact ⟨g, o, e, hS, hs, c0⟩
theorem sl_two (h : Sl w S A 2 [x, y]) : ∃ g o, A = some ⟨g, o, none⟩ ∧ S g ∧ x.size ≤ maxLen ∧ y.size ≤ maxLen ∧ w.cell? ⟨g, o, none⟩ = some (.string x) ∧ w.cell? ⟨g, o + 1, none⟩ = some (.string y) := by
  obtain ⟨g, o, x', e, hS, hx, hs, c0⟩ := h.str (k := 0) (by omega)
  obtain ⟨g2, o2, y', e2, _, hy, hs2, c1⟩ := h.str (k := 1) (by omega)
  rw [e] at e2
  cases e2
  obtain rfl : x = x' := by simpa using hx
  obtain rfl : y = y' := by simpa using hy
  exact ⟨g, o, e, hS, hs, hs2, c0, c1⟩
theorem sl_three (h : Sl w S A 3 [x, y, z]) : ∃ g o, A = some ⟨g, o, none⟩ ∧ S g ∧ (x.size ≤ maxLen ∧ y.size ≤ maxLen ∧ z.size ≤ maxLen) ∧ w.cell? ⟨g, o, none⟩ = some (.string x) ∧ w.cell? ⟨g, o + 1, none⟩ = some (.string y) ∧ w.cell? ⟨g, o + 2, none⟩ = some (.string z) := by
  obtain ⟨g, o, x', e, hS, hx, hs, c0⟩ := h.str (k := 0) (by omega)
  obtain ⟨g2, o2, y', e2, _, hy, hs2, c1⟩ := h.str (k := 1) (by omega)
  obtain ⟨g3, o3, z', e3, _, hz, hs3, c2⟩ := h.str (k := 2) (by omega)
  rw [e] at e2 e3
  cases e2; cases e3
  obtain rfl : x = x' := by simpa using hx
  obtain rfl : y = y' := by simpa using hy
  obtain rfl : z = z' := by simpa using hz
  exact ⟨g, o, e, hS, ⟨hs, hs2, hs3⟩, c0, c1, c2⟩
end
theorem num9 {s : ByteArray} (h : isNumberS s 9 = true) : numS s < 1000000000 := by
  have h1 := number_some h
  exact Nat.lt_of_lt_of_le h1.2.1 (Nat.pow_le_pow_right (by decide : 0 < 10) (show s.size ≤ 9 by omega))

end Go.Proofs.Sm

namespace Go.Proofs.Sm
open Go.RowKit

/-- the program's reader of an action -/
def AB (tool : ByteArray) (vC vV vO vN : Value) (tm at_ : Int) : Obj := .cells #[.string tool, vC, vV, vO, vN, .int .i64 tm, .int .i64 at_] 38 (0, 0)
section
variable {w : World} {b : Nat} {tool : ByteArray} {tm at_ : Int} {vC vV vO vN : Value}
theorem ab_cells (h : w.heap[b]? = some (AB tool vC vV vO vN tm at_)) : (w.cell? ⟨b, 0, none⟩ = some (.string tool) ∧ w.cell? ⟨b, 1, none⟩ = some vC ∧ w.cell? ⟨b, 2, none⟩ = some vV ∧ w.cell? ⟨b, 3, none⟩ = some vO ∧ w.cell? ⟨b, 4, none⟩ = some vN ∧ w.cell? ⟨b, 5, none⟩ = some (.int .i64 tm) ∧ w.cell? ⟨b, 6, none⟩ = some (.int .i64 at_)) ∧
    (w.frozen? ⟨b, 0, none⟩ = false ∧ w.frozen? ⟨b, 1, none⟩ = false ∧ w.frozen? ⟨b, 2, none⟩ = false ∧ w.frozen? ⟨b, 3, none⟩ = false ∧ w.frozen? ⟨b, 4, none⟩ = false ∧ w.frozen? ⟨b, 5, none⟩ = false ∧ w.frozen? ⟨b, 6, none⟩ = false) ∧ b < w.heap.size := by
  refine ⟨⟨?_, ?_, ?_, ?_, ?_, ?_, ?_⟩, ⟨?_, ?_, ?_, ?_, ?_, ?_, ?_⟩, heap_lt h⟩
  all_goals first
    | (rw [Lib.cell_of_heap (show w.heap[b]? = some (.cells _ _ _) from h)]; rfl)
    | exact Lib.frozen_of_heap (show w.heap[b]? = some (.cells _ _ _) from h) _
theorem ab_tool (h : w.heap[b]? = some (AB tool vC vV vO vN tm at_)) (z : ByteArray) : (w.setCell ⟨b, 0, none⟩ (.string z)).heap[b]? = some (AB z vC vV vO vN tm at_) := heap_setCell_same w b 0 _ _ _ h
theorem ab_c (h : w.heap[b]? = some (AB tool vC vV vO vN tm at_)) (z : Value) : (w.setCell ⟨b, 1, none⟩ z).heap[b]? = some (AB tool z vV vO vN tm at_) := heap_setCell_same w b 1 _ _ _ h
theorem ab_v (h : w.heap[b]? = some (AB tool vC vV vO vN tm at_)) (z : Value) : (w.setCell ⟨b, 2, none⟩ z).heap[b]? = some (AB tool vC z vO vN tm at_) := heap_setCell_same w b 2 _ _ _ h
theorem ab_o (h : w.heap[b]? = some (AB tool vC vV vO vN tm at_)) (z : Value) : (w.setCell ⟨b, 3, none⟩ z).heap[b]? = some (AB tool vC vV z vN tm at_) := heap_setCell_same w b 3 _ _ _ h
theorem ab_n (h : w.heap[b]? = some (AB tool vC vV vO vN tm at_)) (z : Value) : (w.setCell ⟨b, 4, none⟩ z).heap[b]? = some (AB tool vC vV vO z tm at_) := heap_setCell_same w b 4 _ _ _ h
theorem ab_time (h : w.heap[b]? = some (AB tool vC vV vO vN tm at_)) (z : Int) : (w.setCell ⟨b, 5, none⟩ (.int .i64 z)).heap[b]? = some (AB tool vC vV vO vN z at_) := heap_setCell_same w b 5 _ _ _ h
theorem ab_at (h : w.heap[b]? = some (AB tool vC vV vO vN tm at_)) (z : Int) : (w.setCell ⟨b, 6, none⟩ (.int .i64 z)).heap[b]? = some (AB tool vC vV vO vN tm z) := heap_setCell_same w b 6 _ _ _ h
theorem ab_call {w' : World} (h : w.heap[b]? = some (AB tool vC vV vO vN tm at_)) (hb : Below w.heap.size w w') : w'.heap[b]? = some (AB tool vC vV vO vN tm at_) := (hb.block b (heap_lt h)).trans h
end
/-- the four rows of an action that is put together, apart from one another and from the blocks of words -/
structure Rows4 (w : World) (B : Nat) (a : ActionV) (K : Nat → Prop) (vC vV vO vN : Value) : Prop where
  c : RowK w B 24 K vC a.commands
  v : RowK w B 47 (fun _ => False) vV a.vars
  o : RowK w B 9 (fun _ => False) vO a.outputs
  n : RowK w B 47 (fun _ => False) vN a.needs
  words : ∀ k, K k → Kind 9 w k ∧ vO.ownBlock ≠ some k
  vn : ∀ g, vV.ownBlock = some g → vN.ownBlock ≠ some g
section
variable {w w' : World} {B b : Nat} {a : ActionV} {K : Nat → Prop} {vC vV vO vN : Value}
theorem Rows4.nil : Rows4 w B noAction (fun _ => False) (.slice none 0 0) (.slice none 0 0) (.slice none 0 0) (.slice none 0 0) :=
  ⟨RowK.nil, RowK.nil, RowK.nil, RowK.nil, fun _ h => h.elim, fun _ h => by cases h⟩
theorem Rows4.keep (h : Rows4 w B a K vC vV vO vN) (hs : w.heap.size ≤ w'.heap.size) (hk : ∀ (k : Nat) (t : TypeId), Kind t w k → (t = 24 ∨ t = 47 ∨ t = 9) → w'.heap[k]? = w.heap[k]?) : Rows4 w' B a K vC vV vO vN := by
  have hwk : ∀ k, K k → w'.heap[k]? = w.heap[k]? := fun k hh => hk k _ (h.words k hh).1 (.inr (.inr rfl))
  refine ⟨h.c.keep hs hwk (fun g hg => hk g _ (h.c.kind g hg).2 (.inl rfl)), h.v.keep hs (fun _ hh => hh.elim) (fun g hg => hk g _ (h.v.kind g hg).2 (.inr (.inl rfl))),
    h.o.keep hs (fun _ hh => hh.elim) (fun g hg => hk g _ (h.o.kind g hg).2 (.inr (.inr rfl))), h.n.keep hs (fun _ hh => hh.elim) (fun g hg => hk g _ (h.n.kind g hg).2 (.inr (.inl rfl))), fun k hh => ?_, h.vn⟩
  obtain ⟨⟨cs, fz, h1⟩, h2⟩ := h.words k hh
  exact ⟨⟨cs, fz, (hwk k hh).trans h1⟩, h2⟩
theorem Rows4.call (h : Rows4 w B a K vC vV vO vN) (hb : Below w.heap.size w w') : Rows4 w' B a K vC vV vO vN := h.keep hb.size fun k _ hk _ => hb.block k hk.lt
theorem Rows4.set {t : TypeId} (h : Rows4 w B a K vC vV vO vN) (hb : Kind t w b) (h1 : t ≠ 24) (h2 : t ≠ 47) (h3 : t ≠ 9) (i : Nat) (u : Value) : Rows4 (w.setCell ⟨b, i, none⟩ u) B a K vC vV vO vN :=
  h.keep (by simp) fun k _ hk hor => heap_setCell_other w ⟨b, i, none⟩ k u (kind_ne hk hb (by rcases hor with rfl | rfl | rfl <;> exact Ne.symm ‹_›))
theorem Rows4.tool (h : Rows4 w B a K vC vV vO vN) (s : ByteArray) : Rows4 w B { a with tool := s } K vC vV vO vN := ⟨h.c, h.v, h.o, h.n, h.words, h.vn⟩
theorem Rows4.time (h : Rows4 w B a K vC vV vO vN) (n : Int) : Rows4 w B { a with time := n } K vC vV vO vN := ⟨h.c, h.v, h.o, h.n, h.words, h.vn⟩
end
/-! ### A row grows -/
section
variable {W w1 : World} {B g n cap kb : Nat} {a : ActionV} {K : Nat → Prop} {vC vV vO vN : Value} {rows : List (List Value)}
theorem Rows4.notC (h : Rows4 W B a K vC vV vO vN) {g : Nat} (e : vC.ownBlock = some g) : ¬ K g ∧ vV.ownBlock ≠ some g ∧ vO.ownBlock ≠ some g ∧ vN.ownBlock ≠ some g :=
  ⟨fun hk => kind_ne (h.words g hk).1 (h.c.kind g e).2 (by decide) rfl, fun e2 => kind_ne (h.v.kind g e2).2 (h.c.kind g e).2 (by decide) rfl, fun e2 => kind_ne (h.o.kind g e2).2 (h.c.kind g e).2 (by decide) rfl, fun e2 => kind_ne (h.n.kind g e2).2 (h.c.kind g e).2 (by decide) rfl⟩
theorem Rows4.notV (h : Rows4 W B a K vC vV vO vN) {g : Nat} (e : vV.ownBlock = some g) : ¬ K g ∧ vC.ownBlock ≠ some g ∧ vO.ownBlock ≠ some g ∧ vN.ownBlock ≠ some g :=
  ⟨fun hk => kind_ne (h.words g hk).1 (h.v.kind g e).2 (by decide) rfl, fun e2 => kind_ne (h.c.kind g e2).2 (h.v.kind g e).2 (by decide) rfl, fun e2 => kind_ne (h.o.kind g e2).2 (h.v.kind g e).2 (by decide) rfl, h.vn g e⟩
theorem Rows4.notO (h : Rows4 W B a K vC vV vO vN) {g : Nat} (e : vO.ownBlock = some g) : ¬ K g ∧ vC.ownBlock ≠ some g ∧ vV.ownBlock ≠ some g ∧ vN.ownBlock ≠ some g :=
  ⟨fun hk => (h.words g hk).2 e, fun e2 => kind_ne (h.c.kind g e2).2 (h.o.kind g e).2 (by decide) rfl, fun e2 => kind_ne (h.v.kind g e2).2 (h.o.kind g e).2 (by decide) rfl, fun e2 => kind_ne (h.n.kind g e2).2 (h.o.kind g e).2 (by decide) rfl⟩
theorem Rows4.notN (h : Rows4 W B a K vC vV vO vN) {g : Nat} (e : vN.ownBlock = some g) : ¬ K g ∧ vC.ownBlock ≠ some g ∧ vV.ownBlock ≠ some g ∧ vO.ownBlock ≠ some g :=
  ⟨fun hk => kind_ne (h.words g hk).1 (h.n.kind g e).2 (by decide) rfl, fun e2 => kind_ne (h.c.kind g e2).2 (h.n.kind g e).2 (by decide) rfl, fun e2 => h.vn g e2 e, fun e2 => kind_ne (h.o.kind g e2).2 (h.n.kind g e).2 (by decide) rfl⟩
theorem Kind.grown {t : TypeId} {row : Option Nat} {k : Nat} (h : Kind t W k) (hg : W.grownBy w1 row) (hne : ∀ g, row = some g → k ≠ g) : Kind t w1 k := by
  obtain ⟨cs, fz, h1⟩ := h
  exact ⟨cs, fz, (hg.block k (heap_lt h1) fun e => hne k e.symm rfl).trans h1⟩
theorem own_slice {A : Addr} {n c : Nat} {g : Nat} (h : (Value.slice (some A) n c).ownBlock = some g) : A.block = g := by simpa [Value.ownBlock] using h
theorem Rows4.moreV {x : VarV} (h : Rows4 W B a K vC vV vO vN) (hr : rows.length = a.vars.length) (hrep : ∀ (i : Nat) (x : VarV) (r : List Value), a.vars[i]? = some x → rows[i]? = some r → Rep.rep W (fun _ => False) x r) (hx : x.name.size ≤ maxLen ∧ x.value.size ≤ maxLen)
    (hg : W.grownBy w1 vV.ownBlock) (hown' : w1.ownsRow B 47 2 (.slice (some ⟨g, 0, none⟩) n cap) (a.vars.length + 1) (rows.flatten ++ [.string x.name, .string x.value])) (hat : vV.ownBlock = some g ∨ g = W.heap.size) :
    Rows4 w1 B { a with vars := a.vars ++ [x] } K vC (.slice (some ⟨g, 0, none⟩) n cap) vO vN := by
  refine ⟨h.c.other hg fun g e => ⟨(h.notV e).1, (h.notV e).2.1⟩, RowK.append (x := x) (fun k hh => hh.elim) hr hrep ⟨rfl, hx⟩ (fun _ _ hh => hh) hg hown', h.o.other hg fun g e => ⟨id, (h.notV e).2.2.1⟩, h.n.other hg fun g e => ⟨id, (h.notV e).2.2.2⟩, fun k hk => ⟨(h.words k hk).1.grown hg fun g e e2 => (h.notV e).1 (e2 ▸ hk), (h.words k hk).2⟩, fun g' e e2 => ?_⟩
  obtain rfl := own_slice e
  rcases hat with h1 | h1
  · exact h.vn _ h1 e2
  · have := (h.n.kind _ e2).2.lt; simp only at h1 this; omega
theorem Rows4.moreN {x : VarV} (h : Rows4 W B a K vC vV vO vN) (hr : rows.length = a.needs.length) (hrep : ∀ (i : Nat) (x : VarV) (r : List Value), a.needs[i]? = some x → rows[i]? = some r → Rep.rep W (fun _ => False) x r) (hx : x.name.size ≤ maxLen ∧ x.value.size ≤ maxLen)
    (hg : W.grownBy w1 vN.ownBlock) (hown' : w1.ownsRow B 47 2 (.slice (some ⟨g, 0, none⟩) n cap) (a.needs.length + 1) (rows.flatten ++ [.string x.name, .string x.value])) (hat : vN.ownBlock = some g ∨ g = W.heap.size) :
    Rows4 w1 B { a with needs := a.needs ++ [x] } K vC vV vO (.slice (some ⟨g, 0, none⟩) n cap) := by
  refine ⟨h.c.other hg fun g e => ⟨(h.notN e).1, (h.notN e).2.1⟩, h.v.other hg fun g e => ⟨id, (h.notN e).2.2.1⟩, h.o.other hg fun g e => ⟨id, (h.notN e).2.2.2⟩, RowK.append (x := x) (fun k hh => hh.elim) hr hrep ⟨rfl, hx⟩ (fun _ _ hh => hh) hg hown', fun k hk => ⟨(h.words k hk).1.grown hg fun g e e2 => (h.notN e).1 (e2 ▸ hk), (h.words k hk).2⟩, fun g' e e2 => ?_⟩
  obtain rfl := own_slice e2
  rcases hat with h1 | h1
  · exact h.vn _ e h1
  · have := (h.v.kind _ e).2.lt; simp only at h1 this; omega
theorem Rows4.moreO {x : ByteArray} (h : Rows4 W B a K vC vV vO vN) (hr : rows.length = a.outputs.length) (hrep : ∀ (i : Nat) (x : ByteArray) (r : List Value), a.outputs[i]? = some x → rows[i]? = some r → Rep.rep W (fun _ => False) x r) (hx : x.size ≤ maxLen)
    (hg : W.grownBy w1 vO.ownBlock) (hown' : w1.ownsRow B 9 1 (.slice (some ⟨g, 0, none⟩) n cap) (a.outputs.length + 1) (rows.flatten ++ [.string x])) (hat : vO.ownBlock = some g ∨ g = W.heap.size) :
    Rows4 w1 B { a with outputs := a.outputs ++ [x] } K vC vV (.slice (some ⟨g, 0, none⟩) n cap) vN := by
  refine ⟨h.c.other hg fun g e => ⟨(h.notO e).1, (h.notO e).2.1⟩, h.v.other hg fun g e => ⟨id, (h.notO e).2.2.1⟩, RowK.append (x := x) (fun k hh => hh.elim) hr hrep ⟨rfl, hx⟩ (fun _ _ hh => hh) hg hown', h.n.other hg fun g e => ⟨id, (h.notO e).2.2.2⟩, fun k hk => ⟨(h.words k hk).1.grown hg fun g e e2 => (h.notO e).1 (e2 ▸ hk), fun e2 => ?_⟩, h.vn⟩
  obtain rfl := own_slice e2
  rcases hat with h1 | h1
  · exact (h.words _ hk).2 h1
  · have := (h.words _ hk).1.lt; simp only at h1 this; omega
theorem Rows4.moreC {x : List ByteArray} {r : Value} (h : Rows4 W B a K vC vV vO vN) (hr : rows.length = a.commands.length) (hrep : ∀ (i : Nat) (x : List ByteArray) (r : List Value), a.commands[i]? = some x → rows[i]? = some r → Rep.rep W K x r) (hkb : Kind 9 W kb ∧ vO.ownBlock ≠ some kb) (hx : Rep.rep W (fun k => k = kb) x [r])
    (hg : W.grownBy w1 vC.ownBlock) (hown' : w1.ownsRow B 24 1 (.slice (some ⟨g, 0, none⟩) n cap) (a.commands.length + 1) (rows.flatten ++ [r])) :
    Rows4 w1 B { a with commands := a.commands ++ [x] } (fun k => K k ∨ k = kb) (.slice (some ⟨g, 0, none⟩) n cap) vV vO vN := by
  have hwd : ∀ k, (K k ∨ k = kb) → Kind 9 W k ∧ vO.ownBlock ≠ some k := by
    rintro k (hk | rfl)
    · exact h.words k hk
    · exact hkb
  have hcne : ∀ g, vC.ownBlock = some g → ¬ (K g ∨ g = kb) := fun g e hk => kind_ne (hwd g hk).1 (h.c.kind g e).2 (by decide) rfl
  exact ⟨RowK.append (x := x) (r := [r]) (fun k hk => (hwd k hk).1.lt) hr (fun i y s hy hs => Rep.more (fun k hk => .inl hk) (hrep i y s hy hs)) (Rep.more (fun k hk => .inr hk) hx) hcne hg hown', h.v.other hg fun g e => ⟨id, (h.notC e).2.1⟩, h.o.other hg fun g e => ⟨id, (h.notC e).2.2.1⟩, h.n.other hg fun g e => ⟨id, (h.notC e).2.2.2⟩, fun k hk => ⟨(hwd k hk).1.grown hg fun g e e2 => hcne g e (e2 ▸ hk), (hwd k hk).2⟩, h.vn⟩
end
/-- where the reader stands behind a line of this place -/
def atOf (last : Nat) : Int := if last = 6 then 6 else (last : Int) - 1
structure AAt (w : World) (B b : Nat) (st : ASt) (at_ : Int) (K : Nat → Prop) (vC vV vO vN : Value) : Prop where
  blk : w.heap[b]? = some (AB st.a.tool vC vV vO vN st.a.time at_)
  rows : Rows4 w B st.a K vC vV vO vN
  low : B ≤ b
  tool : st.a.tool.size ≤ maxLen
  time : InInt st.a.time
end Go.Proofs.Sm
