import Derived.Test.YtfdobbclpacijaaGreatDoorPlain10
import Derived.Lib.Join
import Derived.Test.YtfdobbclpacijaaGreatDoorW37J
import Derived.Test.YtfdobbclpacijaaGreatDoorW22
import Derived.Test.YtfdobbclpacijaaGreatDoorW23
import Derived.Test.YtfdobbclpacijaaGreatDoorW20
import Derived.Test.YtfdobbclpacijaaGreatDoorW18
namespace Go.Proofs.Sm
open Go.RowKit

def joinS (ws : List ByteArray) : List UInt8 := Lib.join (ws.map (·.data.toList)) [32]
def lineW (ws : List ByteArray) : List UInt8 := joinS ws ++ [10]
def cmdL (c : List ByteArray) : List UInt8 := [100, 111, 32] ++ joinS c ++ [10]
def varL (v : VarV) : List UInt8 := [118, 97, 114, 32] ++ v.name.data.toList ++ [32] ++ v.value.data.toList ++ [10]
def needL (v : VarV) : List UInt8 := [110, 101, 101, 100, 32] ++ v.name.data.toList ++ [32] ++ v.value.data.toList ++ [10]
def outL (p : ByteArray) : List UInt8 := [111, 117, 116, 32] ++ p.data.toList ++ [10]
def toolL (a : ActionV) : List UInt8 := [116, 111, 111, 108, 32] ++ a.tool.data.toList ++ [10]
def timeL (a : ActionV) : List UInt8 := [116, 105, 109, 101, 32] ++ Lib.itoa a.time ++ [10]
def actTextL (a : ActionV) : List UInt8 := toolL a ++ a.commands.flatMap cmdL ++ a.vars.flatMap varL ++ a.outputs.flatMap outL ++ a.needs.flatMap needL ++ timeL a
theorem joinS_two (x y : ByteArray) : joinS [x, y] = x.data.toList ++ [32] ++ y.data.toList := by simp [joinS, Lib.join_cons, Lib.joinTail]
theorem joinS_three (x y z : ByteArray) : joinS [x, y, z] = x.data.toList ++ [32] ++ y.data.toList ++ [32] ++ z.data.toList := by simp [joinS, Lib.join_cons, Lib.joinTail]
theorem joinS_length (m : Nat) (ws : List ByteArray) (h : ∀ x ∈ ws, x.size ≤ m) : (joinS ws).length ≤ (m + 1) * ws.length := by
  cases ws with
  | nil => simp [joinS, Lib.join]
  | cons a l =>
    have h1 := flatMap_length (f := fun x : ByteArray => [32] ++ x.data.toList) (m := m + 1) (l := l) (fun x hx => by
      have h2 := h x (by simp [hx])
      have h3 : x.data.toList.length = x.size := by simp
      simp only [List.length_append, List.length_cons, List.length_nil, h3]; omega)
    have h2 := h a (by simp)
    have h3 : a.data.toList.length = a.size := by simp
    have h4 : Lib.joinTail [32] (l.map (·.data.toList)) = l.flatMap fun x : ByteArray => [32] ++ x.data.toList := by
      simp [Lib.joinTail, List.flatMap, Function.comp_def]
    rw [joinS, List.map_cons, Lib.join_cons, List.length_append, h3, h4, List.length_cons, Nat.mul_succ]
    omega
theorem listErr_all' {α : Type} {err : Option ByteArray → α → Int} {key : α → ByteArray} {l : List α} : ∀ prev, listErr err key prev l = 0 → ∀ x ∈ l, ∃ q, err q x = 0 := by
  induction l with
  | nil => intro _ _ x hx; simp at hx
  | cons a l ih =>
    intro prev h x hx
    rw [listErr] at h
    split at h
    · rename_i h0
      rcases List.mem_cons.1 hx with rfl | hx
      · exact ⟨_, h0⟩
      · exact ih _ h x hx
    · exact absurd h ‹_›
structure ActOk (a : ActionV) : Prop where
  tool : a.tool.size ≤ 16
  commands : a.commands.length ≤ 50
  words : ∀ c ∈ a.commands, c.length ≤ 50 ∧ ∀ s ∈ c, s.size ≤ 300
  vars : a.vars.length ≤ 30
  var : ∀ v ∈ a.vars, v.name.size ≤ 40 ∧ v.value.size ≤ 300
  outputs : a.outputs.length ≤ 100
  output : ∀ p ∈ a.outputs, p.size ≤ 200
  needs : a.needs.length ≤ 30
  need : ∀ v ∈ a.needs, v.name.size ≤ 40 ∧ v.value.size ≤ 300
  time : 1 ≤ a.time ∧ a.time ≤ 100000
theorem commandsErr_all {l : List (List ByteArray)} (h : commandsErr l = 0) : ∀ c ∈ l, checkCommandS c = 0 := by
  induction l with
  | nil => intro x hx; simp at hx
  | cons a l ih =>
    rw [commandsErr] at h
    split at h
    · rename_i h0
      intro x hx
      rcases List.mem_cons.1 hx with rfl | hx
      · exact h0
      · exact ih h x hx
    · exact absurd h ‹_›
theorem command_ok {c : List ByteArray} (h : checkCommandS c = 0) : c.length ≤ 50 ∧ ∀ s ∈ c, s.size ≤ 300 := by
  unfold checkCommandS at h
  split at h
  · omega
  · rename_i h1
    refine ⟨by omega, ?_⟩
    cases c with
    | nil => intro s hs; simp at hs
    | cons c0 words =>
      simp only at h
      split at h
      · omega
      · rename_i h2
        simp only [Bool.not_eq_false, List.all_eq_true] at h2
        intro s hs
        have := withinB_true (Bool.and_eq_true_iff.1 (h2 s hs)).2
        omega
theorem vars_ok {l : List VarV} (h : checkVarsS l = 0) : l.length ≤ 30 ∧ ∀ v ∈ l, v.name.size ≤ 40 ∧ v.value.size ≤ 300 := by
  unfold checkVarsS at h
  split at h
  · omega
  · refine ⟨by omega, fun v hv => ?_⟩
    obtain ⟨q, hq⟩ := listErr_all' _ h v hv
    unfold varErr at hq
    split at hq
    · omega
    · split at hq
      · omega
      · rename_i h1 h2
        simp only [Bool.not_eq_false, isNameS, Bool.and_eq_true] at h1
        have := withinB_true h1.1.1.1
        simp only [Bool.or_eq_true, decide_eq_true_eq, not_or] at h2
        omega
theorem outputs_ok {l : List ByteArray} (h : checkOutputsS l = 0) : l.length ≤ 100 ∧ ∀ v ∈ l, v.size ≤ 200 := by
  unfold checkOutputsS at h
  split at h
  · omega
  · split at h
    · omega
    · split at h
      · rename_i h1; exact absurd h h1
      · rename_i h0 h1 h2
        refine ⟨by omega, fun v hv => ?_⟩
        obtain ⟨q, hq⟩ := listErr_all' _ (Classical.not_not.1 h2) v hv
        unfold outErr at hq
        split at hq
        · omega
        · rename_i h3; exact path_size (by simpa using h3)
theorem checkAction_ok {a : ActionV} (h : checkActionS a = 0) : ActOk a := by
  unfold checkActionS at h
  split at h
  · omega
  · split at h
    · omega
    · split at h
      · omega
      · split at h
        · rename_i h1; exact absurd h h1
        · split at h
          · rename_i h1; exact absurd h h1
          · split at h
            · rename_i h1; exact absurd h h1
            · split at h
              · rename_i h1; exact absurd h h1
              · split at h
                · omega
                · rename_i h1 h2 h3 h4 h5 h6 h7 h8
                  have g4 := Classical.not_not.1 h4
                  have g5 := vars_ok (Classical.not_not.1 h5)
                  have g6 := outputs_ok (Classical.not_not.1 h6)
                  have g7 := vars_ok (Classical.not_not.1 h7)
                  refine ⟨digest_size (.inr (by simpa using h1)), by omega, fun c hc => command_ok (commandsErr_all g4 c hc), g5.1, g5.2, g6.1, g6.2, g7.1, g7.2, withinB_true (by simpa using h8)⟩
theorem cmdL_length {c : List ByteArray} (h : c.length ≤ 50 ∧ ∀ s ∈ c, s.size ≤ 300) : (joinS c).length ≤ 15050 := by
  have h1 := joinS_length 300 c h.2
  have : 301 * c.length ≤ 301 * 50 := Nat.mul_le_mul_left _ h.1
  omega
theorem flatMap_take {α : Type} {f : α → List UInt8} {m q : Nat} {l : List α} (hq : l.length ≤ q) (h : ∀ x ∈ l, (f x).length ≤ m) (k : Nat) : ((l.take k).flatMap f).length ≤ m * q := by
  have h2 := flatMap_length (f := f) (m := m) (l := l.take k) (fun x hx => h x (List.mem_of_mem_take hx))
  have h3 : (l.take k).length ≤ q := by rw [List.length_take]; omega
  have : m * (l.take k).length ≤ m * q := Nat.mul_le_mul_left _ h3
  omega
theorem toolL_length {a : ActionV} (ok : ActOk a) : (toolL a).length ≤ 30 := by
  have h5 : a.tool.data.toList.length = a.tool.size := by simp
  have := ok.tool
  simp only [toolL, List.length_append, List.length_cons, List.length_nil, h5]; omega
theorem cmds_length {a : ActionV} (ok : ActOk a) (k : Nat) : ((a.commands.take k).flatMap cmdL).length ≤ 800000 := by
  have := flatMap_take (f := cmdL) (m := 15100) ok.commands (fun x hx => by
    have := cmdL_length (ok.words x hx)
    simp only [cmdL, List.length_append, List.length_cons, List.length_nil]; omega) k
  omega
theorem vars_length {a : ActionV} (ok : ActOk a) (k : Nat) : ((a.vars.take k).flatMap varL).length ≤ 12000 := by
  have := flatMap_take (f := varL) (m := 360) ok.vars (fun x hx => by
    have := ok.var x hx
    have h5 : x.name.data.toList.length = x.name.size := by simp
    have h6 : x.value.data.toList.length = x.value.size := by simp
    simp only [varL, List.length_append, List.length_cons, List.length_nil, h5, h6]; omega) k
  omega
theorem outs_length {a : ActionV} (ok : ActOk a) (k : Nat) : ((a.outputs.take k).flatMap outL).length ≤ 30000 := by
  have := flatMap_take (f := outL) (m := 220) ok.outputs (fun x hx => by
    have := ok.output x hx
    have h5 : x.data.toList.length = x.size := by simp
    simp only [outL, List.length_append, List.length_cons, List.length_nil, h5]; omega) k
  omega
theorem needs_length {a : ActionV} (ok : ActOk a) (k : Nat) : ((a.needs.take k).flatMap needL).length ≤ 12000 := by
  have := flatMap_take (f := needL) (m := 360) ok.needs (fun x hx => by
    have := ok.need x hx
    have h5 : x.name.data.toList.length = x.name.size := by simp
    have h6 : x.value.data.toList.length = x.value.size := by simp
    simp only [needL, List.length_append, List.length_cons, List.length_nil, h5, h6]; omega) k
  omega
end Go.Proofs.Sm

namespace Go.Proofs.Sm
open Go.RowKit

/-- the fields of an action -/
def actVal (a : ActionV) (A : Option Addr) (n n' : Nat) (B : Option Addr) (m m' : Nat) (C : Option Addr) (p p' : Nat) (D : Option Addr) (q q' : Nat) : Value :=
  .agg #[.string a.tool, .slice A n n', .slice B m m', .slice C p p', .slice D q q', .int .i64 a.time]
structure ActIs (w : World) (a : ActionV) (A : Option Addr) (n : Nat) (B : Option Addr) (m : Nat) (C : Option Addr) (p : Nat) (D : Option Addr) (q : Nat) : Prop where
  tool : a.tool.size ≤ maxLen
  commands : Sl w (Lt w.heap.size) A n a.commands
  vars : Sl w (Lt w.heap.size) B m a.vars
  outputs : Sl w (Lt w.heap.size) C p a.outputs
  needs : Sl w (Lt w.heap.size) D q a.needs
  time : InInt a.time
theorem ActIs.then_ {w w' : World} {a : ActionV} {A : Option Addr} {n : Nat} {B : Option Addr} {m : Nat} {C : Option Addr} {p : Nat} {D : Option Addr} {q : Nat} (h : ActIs w a A n B m C p D q) (hb : Below w.heap.size w w') : ActIs w' a A n B m C p D q :=
  ⟨h.tool, sl_call h.commands hb (Nat.le_refl _), sl_call h.vars hb (Nat.le_refl _), sl_call h.outputs hb (Nat.le_refl _), sl_call h.needs hb (Nat.le_refl _), h.time⟩
theorem action_tool {a : ActionV} (h : isDigestS a.tool = false) : checkActionS a = 3 := by rw [checkActionS, if_pos h]
theorem action_none {a : ActionV} (h : isDigestS a.tool = true) (h0 : a.commands.length = 0) : checkActionS a = 9 := by rw [checkActionS, if_neg (by rw [h]; decide), if_pos h0]
theorem action_large {a : ActionV} (h : isDigestS a.tool = true) (h0 : a.commands.length ≠ 0) (h1 : (50 : Int) < a.commands.length) : checkActionS a = 2 := by
  rw [checkActionS, if_neg (by rw [h]; decide), if_neg h0, if_pos h1]
/-- what is left when the tool and the number of commands are well -/
def actRest (a : ActionV) : Int :=
  if commandsErr a.commands ≠ 0 then commandsErr a.commands
  else if checkVarsS a.vars ≠ 0 then checkVarsS a.vars
  else if checkOutputsS a.outputs ≠ 0 then checkOutputsS a.outputs
  else if checkVarsS a.needs ≠ 0 then checkVarsS a.needs
  else if withinB a.time 1 100000 = false then 1
  else 0
theorem action_rest {a : ActionV} (h : isDigestS a.tool = true) (h0 : a.commands.length ≠ 0) (h1 : ¬ (50 : Int) < a.commands.length) : checkActionS a = actRest a := by
  rw [checkActionS, if_neg (by rw [h]; decide), if_neg h0, if_neg h1, actRest]
theorem rest_cmd {a : ActionV} {e : Int} (h : commandsErr a.commands = e) (he : e ≠ 0) : actRest a = e := by rw [actRest, if_pos (by rw [h]; exact he), h]
theorem rest_vars {a : ActionV} (h : commandsErr a.commands = 0) (h1 : checkVarsS a.vars ≠ 0) : actRest a = checkVarsS a.vars := by
  rw [actRest, if_neg (by rw [h]; decide), if_pos h1]
theorem rest_outs {a : ActionV} (h : commandsErr a.commands = 0) (h1 : checkVarsS a.vars = 0) (h2 : checkOutputsS a.outputs ≠ 0) : actRest a = checkOutputsS a.outputs := by
  rw [actRest, if_neg (by rw [h]; decide), if_neg (by rw [h1]; decide), if_pos h2]
theorem rest_needs {a : ActionV} (h : commandsErr a.commands = 0) (h1 : checkVarsS a.vars = 0) (h2 : checkOutputsS a.outputs = 0) (h3 : checkVarsS a.needs ≠ 0) : actRest a = checkVarsS a.needs := by
  rw [actRest, if_neg (by rw [h]; decide), if_neg (by rw [h1]; decide), if_neg (by rw [h2]; decide), if_pos h3]
theorem rest_time {a : ActionV} (h : commandsErr a.commands = 0) (h1 : checkVarsS a.vars = 0) (h2 : checkOutputsS a.outputs = 0) (h3 : checkVarsS a.needs = 0) : actRest a = if withinB a.time 1 100000 = false then 1 else 0 := by
  rw [actRest, if_neg (by rw [h]; decide), if_neg (by rw [h1]; decide), if_neg (by rw [h2]; decide), if_neg (by rw [h3]; decide)]
theorem commands_round {l : List (List ByteArray)} {k : Nat} {x : List ByteArray} (hx : l[k]? = some x) (h : checkCommandS x = 0) : commandsErr (l.drop k) = commandsErr (l.drop (k + 1)) := by
  rw [drop_at hx, commandsErr, if_pos h]
theorem commands_stop {l : List (List ByteArray)} {k : Nat} {x : List ByteArray} (hx : l[k]? = some x) (h : checkCommandS x ≠ 0) : commandsErr (l.drop k) = checkCommandS x := by
  rw [drop_at hx, commandsErr, if_neg h]

set_option maxHeartbeats 2000000 in
set_option maxRecDepth 100000 in
theorem act_CheckAction (a : ActionV) (A : Option Addr) (n n' : Nat) (B : Option Addr) (m m' : Nat) (C : Option Addr) (p p' : Nat) (D : Option Addr) (q q' : Nat) (w : World) (hE : Env w) (ha : ActIs w a A n B m C p D q) :
    Calls Tryz.prog 26 #[actVal a A n n' B m m' C p p' D q q'] w fun e w' => e = .returned (.int .i64 (checkActionS a)) ∧ Below w.heap.size w w' := by
  unfold actVal
  have hm : n ≤ 9223372036854775807 := ha.commands.2.1
  have HL := Lib.hid ha.commands.1
  have htl := ha.tool
  have hE1 := hE.then_ (fr_alloc (fr_refl w) (.cells #[.string a.tool, .slice A n n', .slice B m m', .slice C p p', .slice D q q', .int .i64 a.time] 39))
  cases h0 : isDigestS a.tool
  · have HV := Lib.hid (action_tool h0)
    go_enter Tryz.func26, Tryz.ntmps26
    go_wp2_with fail
    refine (blob_IsDigest _ _ htl).mono ?_
    rintro e w1 ⟨rfl, hb1⟩
    go_wp2
    go_ret; exact ⟨ret_int HV.out.symm, (by repeat (first | exact fr_refl _ | refine fr_call ?_ (by assumption) | refine fr_alloc ?_ _ | refine fr_set ?_ (by simp) _ | refine Below.drew ?_ | refine below_drewN ?_ _))⟩
  have H0 := Lib.hid h0
  by_cases hn0 : n = 0
  · subst hn0
    have HV := Lib.hid (action_none H0.out HL.out)
    go_enter Tryz.func26, Tryz.ntmps26
    go_wp2_with fail
    refine (blob_IsDigest _ _ htl).mono ?_
    rintro e w1 ⟨rfl, hb1⟩
    obtain ⟨hc1, hf1⟩ := bcell hb1
    go_wp2
    go_ret; exact ⟨ret_int HV.out.symm, (by repeat (first | exact fr_refl _ | refine fr_call ?_ (by assumption) | refine fr_alloc ?_ _ | refine fr_set ?_ (by simp) _ | refine Below.drew ?_ | refine below_drewN ?_ _))⟩
  have hne : ((n : Int) == 0) = false := by rw [beq_eq_false_iff_ne]; omega
  by_cases hbig : (50 : Int) < n
  · have HV := Lib.hid (action_large H0.out (by rw [HL.out]; exact hn0) (by rw [HL.out]; exact hbig))
    go_enter Tryz.func26, Tryz.ntmps26
    go_wp2_with fail
    refine (blob_IsDigest _ _ htl).mono ?_
    rintro e w1 ⟨rfl, hb1⟩
    obtain ⟨hc1, hf1⟩ := bcell hb1
    go_wp2
    go_ret; exact ⟨ret_int HV.out.symm, (by repeat (first | exact fr_refl _ | refine fr_call ?_ (by assumption) | refine fr_alloc ?_ _ | refine fr_set ?_ (by simp) _ | refine Below.drew ?_ | refine below_drewN ?_ _))⟩
  have HR := Lib.hid (action_rest H0.out (by rw [HL.out]; exact hn0) (by rw [HL.out]; exact hbig))
  go_enter Tryz.func26, Tryz.ntmps26
  go_wp2_with fail
  refine (blob_IsDigest _ _ htl).mono ?_
  rintro e w1 ⟨rfl, hb1⟩
  obtain ⟨hc1, hf1⟩ := bcell hb1
  have hz1 := grew hb1
  have hbel1 : Below w.heap.size w w1 := (by repeat (first | exact fr_refl _ | refine fr_call ?_ (by assumption) | refine fr_alloc ?_ _ | refine fr_set ?_ (by simp) _ | refine Below.drew ?_ | refine below_drewN ?_ _))
  go_wp2
  go_loopw [4, 5, 24] (fun _ _ i wr => ∃ k : Nat, k ≤ n ∧ i = .int .i64 k ∧ commandsErr a.commands = commandsErr (a.commands.drop k) ∧ Below w1.heap.size w1 wr) (fun _ _ i _ => n - (intOf i).toNat)
  case atStart => exact ⟨0, Nat.zero_le _, rfl, rfl, Below.refl _ _⟩
  case round =>
    obtain ⟨k, hk, rfl, hd, hbr⟩ := hrel
    have Hr := Lib.hid hd; clear hd
    have hbel := fr_call hbel1 hbr
    have hEr := hE.then_ hbel
    have har := ha.then_ hbel
    by_cases hlt : k < n
    · obtain ⟨b, o, x, A', l', c', rfl, hb, hx, hlc, hcm, hsl', c0⟩ := har.commands.row hlt
      have HX := Lib.hid hx; clear hx
      cases hv : (checkCommandS x == 0)
      · have hne : checkCommandS x ≠ 0 := by simpa using hv
        have hbn : (checkCommandS x != 0) = true := by simpa using hv
        have HV := Lib.hid (rest_cmd (Hr.out.trans (commands_stop HX.out hne)) hne)
        clear hne
        go_wp2_with fail
        refine (act_checkCommand _ _ _ _ _ hEr hsl' hlc).mono ?_
        rintro e w2 ⟨rfl, hb2⟩
        go_wp2
        go_ret
        exact ⟨ret_int (by rw [HR.out, HV.out]), fr_call hbel hb2⟩
      · have hz : checkCommandS x = 0 := by simpa using hv
        have hbn : (checkCommandS x != 0) = false := by simpa using hv
        have HV := Lib.hid (Hr.out.trans (commands_round HX.out hz))
        clear hz
        go_wp2_with fail
        refine (act_checkCommand _ _ _ _ _ hEr hsl' hlc).mono ?_
        rintro e w2 ⟨rfl, hb2⟩
        go_wp2
        go_round
        case rel => exact ⟨k + 1, by omega, by go_num, HV.out, hbr.trans (hb2.mono hbr.size)⟩
        case measure => simp [intOf]; omega
    · have HZ := Lib.hid (show commandsErr a.commands = 0 by rw [Hr.out, List.drop_eq_nil_of_le (by rw [ha.commands.1]; omega)]; rfl)
      obtain ⟨hcr, hfr⟩ := bcell hbr
      have hzr : w.heap.size < wr.heap.size := Nat.lt_of_lt_of_le hz1 hbr.size
      go_wp2_with fail
      refine (act_checkVars _ _ _ _ _ har.vars).mono ?_
      rintro e w3 ⟨rfl, hb3⟩
      have hbel3 := fr_call hbel hb3
      obtain ⟨hc3, hf3⟩ := bcell hb3
      have hz3 : w.heap.size < w3.heap.size := Nat.lt_of_lt_of_le hzr hb3.size
      cases hv : (checkVarsS a.vars == 0)
      · have hne : checkVarsS a.vars ≠ 0 := by simpa using hv
        have hbn : (checkVarsS a.vars != 0) = true := by simpa using hv
        have HV := Lib.hid (rest_vars HZ.out hne)
        clear hne
        go_wp2
        go_ret
        exact ⟨ret_int (by rw [HR.out, HV.out]), hbel3⟩
      have hzv : checkVarsS a.vars = 0 := by simpa using hv
      have hbnv : (checkVarsS a.vars != 0) = false := by simpa using hv
      have HZ1 := Lib.hid hzv; clear hzv hv
      go_wp2_with fail
      refine (act_checkOutputs _ _ _ _ _ (hE.then_ hbel3) (ha.then_ hbel3).outputs).mono ?_
      rintro e w4 ⟨rfl, hb4⟩
      have hbel4 := fr_call hbel3 hb4
      obtain ⟨hc4, hf4⟩ := bcell hb4
      have hz4 : w.heap.size < w4.heap.size := Nat.lt_of_lt_of_le hz3 hb4.size
      cases hv : (checkOutputsS a.outputs == 0)
      · have hne : checkOutputsS a.outputs ≠ 0 := by simpa using hv
        have hbn : (checkOutputsS a.outputs != 0) = true := by simpa using hv
        have HV := Lib.hid (rest_outs HZ.out HZ1.out hne)
        clear hne
        go_wp2
        go_ret
        exact ⟨ret_int (by rw [HR.out, HV.out]), hbel4⟩
      have hzv : checkOutputsS a.outputs = 0 := by simpa using hv
      have hbnv2 : (checkOutputsS a.outputs != 0) = false := by simpa using hv
      have HZ2 := Lib.hid hzv; clear hzv hv
      go_wp2_with fail
      refine (act_checkVars _ _ _ _ _ (ha.then_ hbel4).needs).mono ?_
      rintro e w5 ⟨rfl, hb5⟩
      have hbel5 := fr_call hbel4 hb5
      obtain ⟨hc5, hf5⟩ := bcell hb5
      have hz5 : w.heap.size < w5.heap.size := Nat.lt_of_lt_of_le hz4 hb5.size
      cases hv : (checkVarsS a.needs == 0)
      · have hne : checkVarsS a.needs ≠ 0 := by simpa using hv
        have hbn : (checkVarsS a.needs != 0) = true := by simpa using hv
        have HV := Lib.hid (rest_needs HZ.out HZ1.out HZ2.out hne)
        clear hne
        go_wp2
        go_ret
        exact ⟨ret_int (by rw [HR.out, HV.out]), hbel5⟩
      have hzv : checkVarsS a.needs = 0 := by simpa using hv
      have hbnv3 : (checkVarsS a.needs != 0) = false := by simpa using hv
      have HZ3 := Lib.hid hzv; clear hzv hv
      have HT := Lib.hid (rest_time HZ.out HZ1.out HZ2.out HZ3.out)
      by_cases ht1 : a.time < 1
      · have HW := Lib.hid (show withinB a.time 1 100000 = false by simp [withinB]; omega)
        go_wp2
        go_ret
        exact ⟨ret_int (by rw [HR.out, HT.out, if_pos HW.out]), hbel5⟩
      by_cases ht2 : 100000 < a.time
      · have HW := Lib.hid (show withinB a.time 1 100000 = false by simp [withinB]; omega)
        go_wp2
        go_ret
        exact ⟨ret_int (by rw [HR.out, HT.out, if_pos HW.out]), hbel5⟩
      have HW := Lib.hid (show withinB a.time 1 100000 = true by simp [withinB]; omega)
      go_wp2
      go_ret
      exact ⟨ret_int (by rw [HR.out, HT.out, if_neg (by rw [HW.out]; decide)]), hbel5⟩
set_option maxHeartbeats 2000000 in
set_option maxRecDepth 100000 in
theorem ref5_CheckAction (a : ActionV) (A : Option Addr) (n n' : Nat) (B : Option Addr) (m m' : Nat) (C : Option Addr) (p p' : Nat) (D : Option Addr) (q q' : Nat) (w : World) (hE : Env w) (ha : ActIs w a A n B m C p D q) :
    Calls Tryz.prog 27 #[actVal a A n n' B m m' C p p' D q q'] w fun e w' => e = .returned (.int .i64 (checkActionS a)) ∧ Below w.heap.size w w' := by
  unfold actVal
  have hm : n ≤ 9223372036854775807 := ha.commands.2.1
  have HL := Lib.hid ha.commands.1
  have htl := ha.tool
  have hE1 := hE.then_ (fr_alloc (fr_refl w) (.cells #[.string a.tool, .slice A n n', .slice B m m', .slice C p p', .slice D q q', .int .i64 a.time] 39))
  cases h0 : isDigestS a.tool
  · have HV := Lib.hid (action_tool h0)
    go_enter Tryz.func27, Tryz.ntmps27
    go_wp2_with fail
    refine (ref1_IsDigest' _ _ htl).mono ?_
    rintro e w1 ⟨rfl, hb1⟩
    go_wp2
    go_ret; exact ⟨ret_int HV.out.symm, (by repeat (first | exact fr_refl _ | refine fr_call ?_ (by assumption) | refine fr_alloc ?_ _ | refine fr_set ?_ (by simp) _ | refine Below.drew ?_ | refine below_drewN ?_ _))⟩
  have H0 := Lib.hid h0
  by_cases hn0 : n = 0
  · subst hn0
    have HV := Lib.hid (action_none H0.out HL.out)
    go_enter Tryz.func27, Tryz.ntmps27
    go_wp2_with fail
    refine (ref1_IsDigest' _ _ htl).mono ?_
    rintro e w1 ⟨rfl, hb1⟩
    obtain ⟨hc1, hf1⟩ := bcell hb1
    go_wp2
    go_ret; exact ⟨ret_int HV.out.symm, (by repeat (first | exact fr_refl _ | refine fr_call ?_ (by assumption) | refine fr_alloc ?_ _ | refine fr_set ?_ (by simp) _ | refine Below.drew ?_ | refine below_drewN ?_ _))⟩
  have hne : ((n : Int) == 0) = false := by rw [beq_eq_false_iff_ne]; omega
  by_cases hbig : (50 : Int) < n
  · have HV := Lib.hid (action_large H0.out (by rw [HL.out]; exact hn0) (by rw [HL.out]; exact hbig))
    go_enter Tryz.func27, Tryz.ntmps27
    go_wp2_with fail
    refine (ref1_IsDigest' _ _ htl).mono ?_
    rintro e w1 ⟨rfl, hb1⟩
    obtain ⟨hc1, hf1⟩ := bcell hb1
    go_wp2
    go_ret; exact ⟨ret_int HV.out.symm, (by repeat (first | exact fr_refl _ | refine fr_call ?_ (by assumption) | refine fr_alloc ?_ _ | refine fr_set ?_ (by simp) _ | refine Below.drew ?_ | refine below_drewN ?_ _))⟩
  have HR := Lib.hid (action_rest H0.out (by rw [HL.out]; exact hn0) (by rw [HL.out]; exact hbig))
  go_enter Tryz.func27, Tryz.ntmps27
  go_wp2_with fail
  refine (ref1_IsDigest' _ _ htl).mono ?_
  rintro e w1 ⟨rfl, hb1⟩
  obtain ⟨hc1, hf1⟩ := bcell hb1
  have hz1 := grew hb1
  have hbel1 : Below w.heap.size w w1 := (by repeat (first | exact fr_refl _ | refine fr_call ?_ (by assumption) | refine fr_alloc ?_ _ | refine fr_set ?_ (by simp) _ | refine Below.drew ?_ | refine below_drewN ?_ _))
  go_wp2
  go_loopw [3, 4] (fun i _ wr => ∃ k : Nat, k ≤ n ∧ i = .int .i64 k ∧ commandsErr a.commands = commandsErr (a.commands.drop k) ∧ Below w1.heap.size w1 wr) (fun i _ _ => n - (intOf i).toNat)
  case atStart => exact ⟨0, Nat.zero_le _, rfl, rfl, Below.refl _ _⟩
  case round =>
    obtain ⟨k, hk, rfl, hd, hbr⟩ := hrel
    have Hr := Lib.hid hd; clear hd
    have hbel := fr_call hbel1 hbr
    have hEr := hE.then_ hbel
    have har := ha.then_ hbel
    obtain ⟨hcr, hfr⟩ := bcell hbr
    have hzr : w.heap.size < wr.heap.size := Nat.lt_of_lt_of_le hz1 hbr.size
    by_cases hlt : k < n
    · obtain ⟨b, o, x, A', l', c', rfl, hb, hx, hlc, hcm, hsl', c0⟩ := har.commands.row hlt
      have HX := Lib.hid hx; clear hx
      cases hv : (checkCommandS x == 0)
      · have hne : checkCommandS x ≠ 0 := by simpa using hv
        have hbn : (checkCommandS x != 0) = true := by simpa using hv
        have HV := Lib.hid (rest_cmd (Hr.out.trans (commands_stop HX.out hne)) hne)
        clear hne
        go_wp2_with fail
        refine (ref5_checkCommand _ _ _ _ _ hEr hsl' hlc).mono ?_
        rintro e w2 ⟨rfl, hb2⟩
        go_wp2
        go_ret
        exact ⟨ret_int (by rw [HR.out, HV.out]), fr_call hbel hb2⟩
      · have hz : checkCommandS x = 0 := by simpa using hv
        have hbn : (checkCommandS x != 0) = false := by simpa using hv
        have HV := Lib.hid (Hr.out.trans (commands_round HX.out hz))
        clear hz
        go_wp2_with fail
        refine (ref5_checkCommand _ _ _ _ _ hEr hsl' hlc).mono ?_
        rintro e w2 ⟨rfl, hb2⟩
        go_wp2
        go_round
        case rel => exact ⟨k + 1, by omega, by go_num, HV.out, hbr.trans (hb2.mono hbr.size)⟩
        case measure => simp [intOf]; omega
    · have HZ := Lib.hid (show commandsErr a.commands = 0 by rw [Hr.out, List.drop_eq_nil_of_le (by rw [ha.commands.1]; omega)]; rfl)
      go_wp2_with fail
      refine (ref5_checkVars _ _ _ _ _ har.vars).mono ?_
      rintro e w3 ⟨rfl, hb3⟩
      have hbel3 := fr_call hbel hb3
      obtain ⟨hc3, hf3⟩ := bcell hb3
      have hz3 : w.heap.size < w3.heap.size := Nat.lt_of_lt_of_le hzr hb3.size
      cases hv : (checkVarsS a.vars == 0)
      · have hne : checkVarsS a.vars ≠ 0 := by simpa using hv
        have hbn : (checkVarsS a.vars != 0) = true := by simpa using hv
        have HV := Lib.hid (rest_vars HZ.out hne)
        clear hne
        go_wp2
        go_ret
        exact ⟨ret_int (by rw [HR.out, HV.out]), hbel3⟩
      have hzv : checkVarsS a.vars = 0 := by simpa using hv
      have hbnv : (checkVarsS a.vars != 0) = false := by simpa using hv
      have HZ1 := Lib.hid hzv; clear hzv hv
      go_wp2_with fail
      refine (ref5_checkOutputs _ _ _ _ _ (hE.then_ hbel3) (ha.then_ hbel3).outputs).mono ?_
      rintro e w4 ⟨rfl, hb4⟩
      have hbel4 := fr_call hbel3 hb4
      obtain ⟨hc4, hf4⟩ := bcell hb4
      have hz4 : w.heap.size < w4.heap.size := Nat.lt_of_lt_of_le hz3 hb4.size
      cases hv : (checkOutputsS a.outputs == 0)
      · have hne : checkOutputsS a.outputs ≠ 0 := by simpa using hv
        have hbn : (checkOutputsS a.outputs != 0) = true := by simpa using hv
        have HV := Lib.hid (rest_outs HZ.out HZ1.out hne)
        clear hne
        go_wp2
        go_ret
        exact ⟨ret_int (by rw [HR.out, HV.out]), hbel4⟩
      have hzv : checkOutputsS a.outputs = 0 := by simpa using hv
      have hbnv2 : (checkOutputsS a.outputs != 0) = false := by simpa using hv
      have HZ2 := Lib.hid hzv; clear hzv hv
      go_wp2_with fail
      refine (ref5_checkVars _ _ _ _ _ (ha.then_ hbel4).needs).mono ?_
      rintro e w5 ⟨rfl, hb5⟩
      have hbel5 := fr_call hbel4 hb5
      obtain ⟨hc5, hf5⟩ := bcell hb5
      have hz5 : w.heap.size < w5.heap.size := Nat.lt_of_lt_of_le hz4 hb5.size
      cases hv : (checkVarsS a.needs == 0)
      · have hne : checkVarsS a.needs ≠ 0 := by simpa using hv
        have hbn : (checkVarsS a.needs != 0) = true := by simpa using hv
        have HV := Lib.hid (rest_needs HZ.out HZ1.out HZ2.out hne)
        clear hne
        go_wp2
        go_ret
        exact ⟨ret_int (by rw [HR.out, HV.out]), hbel5⟩
      have hzv : checkVarsS a.needs = 0 := by simpa using hv
      have hbnv3 : (checkVarsS a.needs != 0) = false := by simpa using hv
      have HZ3 := Lib.hid hzv; clear hzv hv
      have HT := Lib.hid (rest_time HZ.out HZ1.out HZ2.out HZ3.out)
      cases ht : withinB a.time 1 100000
      · go_wp2_with (go_at_call 78; refine (ref5_within _ _ _ _).mono ?_; rintro e w6 ⟨rfl, rfl⟩)
        go_ret
        exact ⟨ret_int (by rw [HR.out, HT.out, if_pos ht]), hbel5⟩
      · go_wp2_with (go_at_call 78; refine (ref5_within _ _ _ _).mono ?_; rintro e w6 ⟨rfl, rfl⟩)
        go_ret
        exact ⟨ret_int (by rw [HR.out, HT.out, if_neg (by rw [ht]; decide)]), hbel5⟩
end Go.Proofs.Sm

namespace Go.Proofs.Sm
open Go.RowKit
theorem below_wrote {b : Nat} {a w w1 : World} (h : Below b a w) (hw : Wrote b w w1) : Below b a w1 := h.trans hw.1
theorem below_call {b : Nat} {a w w1 : World} (hlt : b ≤ a.heap.size) (h : Below b a w) (hb : Below w.heap.size w w1) : Below b a w1 := h.trans (hb.mono (Nat.le_trans hlt h.size))
end Go.Proofs.Sm

namespace Go.Proofs.Sm
open Go.RowKit

theorem join_any (A : Option Addr) (n c : Nat) (ws : List ByteArray) (w : World) (hsl : Sl w (Lt w.heap.size) A n ws) (hnc : n ≤ c) (hn : n ≤ 140737488355328) (hlen : (joinS ws).length ≤ 140737488355328) :
    Calls Tryz.prog 119 #[.slice A n c, .string ⟨#[32]⟩] w fun e w' => e = .returned (.string ⟨(joinS ws).toArray⟩) ∧ Below w.heap.size w w' := by
  have h1 := hsl.1
  by_cases h0 : n = 0
  · subst h0
    cases ws with
    | cons a l => simp at h1
    | nil => exact (Tryz.strings_Join_none A c ⟨#[32]⟩ w).mono fun _ _ h => ⟨h.1, below_eq h.2.symm⟩
  · obtain ⟨b, o, x, rfl, hb, _⟩ := hsl.str (k := 0) (by omega)
    subst h1
    exact (Tryz.strings_Join b o c ws ⟨#[32]⟩ w (fun j x hx => by
      have hj : j < ws.length := by
        rcases Nat.lt_or_ge j ws.length with h | h
        · exact h
        · rw [List.getElem?_eq_none h] at hx; cases hx
      obtain ⟨b', o', y, e, _, hy, _, c0⟩ := hsl.str hj
      cases e
      rw [hx] at hy; cases hy
      exact c0) hb hn hnc hlen).mono fun _ _ h => h
set_option maxHeartbeats 1000000 in
set_option maxRecDepth 100000 in
theorem act_text1 (g : Nat) (L : List UInt8) (A : Option Addr) (n c : Nat) (ws : List ByteArray) (w : World) (hB : Bld w g L) (hsl : Sl w (Lt w.heap.size) A n ws) (hnc : n ≤ c) (hn : n ≤ 140737488355328) (hlen : L.length + (joinS ws).length ≤ 10000000) :
    Calls Tryz.prog 118 #[.slice A n c, .pointer (some ⟨g, 0, none⟩)] w fun e w' => e = .returned (.tuple #[]) ∧ Bld w' g (L ++ lineW ws) ∧ Wrote g w w' := by
  have hgl := hB.lt
  obtain ⟨j, hj⟩ : ∃ j : ByteArray, j = ⟨(joinS ws).toArray⟩ := ⟨_, rfl⟩
  have hjs : j.size = (joinS ws).length := by rw [hj]; simp [ByteArray.size]
  have hjl : j.data.toList = joinS ws := by rw [hj]
  have HJ := Lib.hid (hj ▸ join_any A n c ws w hsl hnc hn (by omega) : Calls Tryz.prog 119 #[.slice A n c, .string ⟨#[32]⟩] w fun e w' => e = .returned (.string j) ∧ Below w.heap.size w w')
  clear hj
  have HL := Lib.hid hjl; clear hjl
  have q4 : (⟨#[10]⟩ : ByteArray).size = 1 := rfl
  obtain ⟨p, z, P, a⟩ := cat_op j ⟨#[10]⟩ (by omega)
  go_enter Tryz.func118, Tryz.ntmps118
  go_wp2_with fail
  refine HJ.out.mono ?_
  rintro e w1 ⟨rfl, hb1⟩
  have hB1 := hB.call hb1
  go_wp2_with (go_at_call 57; refine (bld_WriteString g L p _ hB1 (by omega)).mono ?_; rintro e w2 ⟨rfl, hB2, hw2⟩)
  first | go_end0 | refine bodyPost_ret (results_none rfl _ _ _) rfl ?_
  exact ⟨rfl, by rw [lineW, ← HL.out, ← show p.data.toList = j.data.toList ++ [10] from P.out]; exact hB2, (Wrote.of_below hb1 (Nat.le_of_lt hgl)).trans hw2⟩
end Go.Proofs.Sm

namespace Go.Proofs.Sm
open Go.RowKit

/-- a new row of strings -/
theorem row_new (w : World) (t : TypeId) (l : List ByteArray) (hl : l.length ≤ maxLen) (hs : ∀ x ∈ l, x.size ≤ maxLen) :
    Sl (w.alloc (.cells (l.map Value.string).toArray t)) (Lt (w.alloc (.cells (l.map Value.string).toArray t)).heap.size) (some ⟨w.heap.size, 0, none⟩) l.length l :=
  (Sl.new_strs hl hs).more (lt_mono (by simp))
theorem line_two (x y : ByteArray) : lineW [x, y] = x.data.toList ++ [32] ++ y.data.toList ++ [10] := by rw [lineW, joinS_two]
theorem line_three (x y z : ByteArray) : lineW [x, y, z] = x.data.toList ++ [32] ++ y.data.toList ++ [32] ++ z.data.toList ++ [10] := by rw [lineW, joinS_three]

theorem line_call2 (g : Nat) (L : List UInt8) (x y : ByteArray) (W : World) (hB : Bld W g L) (hx : x.size ≤ 20000) (hy : y.size ≤ 20000) (hlen : L.length ≤ 2000000) :
    Calls Tryz.prog 118 #[.slice (some ⟨W.heap.size, 0, none⟩) 2 2, .pointer (some ⟨g, 0, none⟩)] (W.alloc (.cells #[.string x, .string y] 9)) fun e w' => e = .returned (.tuple #[]) ∧ Bld w' g (L ++ (x.data.toList ++ [32] ++ y.data.toList ++ [10])) ∧ Wrote g W w' := by
  have hxs : x.data.toList.length = x.size := by simp
  have hys : y.data.toList.length = y.size := by simp
  have hl : (joinS [x, y]).length ≤ 50000 := by rw [joinS_two]; simp only [List.length_append, List.length_cons, List.length_nil, hxs, hys]; omega
  refine (act_text1 g L _ 2 2 [x, y] _ (hB.alloc _) (row_new W 9 [x, y] (by show 2 ≤ maxLen; decide) (by intro z hz; simp at hz; unfold maxLen; rcases hz with rfl | rfl <;> omega)) (Nat.le_refl _) (by decide) (by omega)).mono ?_
  rintro e w1 ⟨rfl, hB1, hw⟩
  rw [line_two] at hB1
  exact ⟨rfl, hB1, (Wrote.of_below ((Below.refl _ _).alloc (Nat.le_refl _) _) (Nat.le_of_lt hB.lt)).trans hw⟩
theorem line_call3 (g : Nat) (L : List UInt8) (x y z : ByteArray) (W : World) (hB : Bld W g L) (hx : x.size ≤ 20000) (hy : y.size ≤ 20000) (hz : z.size ≤ 20000) (hlen : L.length ≤ 2000000) :
    Calls Tryz.prog 118 #[.slice (some ⟨W.heap.size, 0, none⟩) 3 3, .pointer (some ⟨g, 0, none⟩)] (W.alloc (.cells #[.string x, .string y, .string z] 9)) fun e w' => e = .returned (.tuple #[]) ∧ Bld w' g (L ++ (x.data.toList ++ [32] ++ y.data.toList ++ [32] ++ z.data.toList ++ [10])) ∧ Wrote g W w' := by
  have hxs : x.data.toList.length = x.size := by simp
  have hys : y.data.toList.length = y.size := by simp
  have hzs : z.data.toList.length = z.size := by simp
  have hl : (joinS [x, y, z]).length ≤ 100000 := by rw [joinS_three]; simp only [List.length_append, List.length_cons, List.length_nil, hxs, hys, hzs]; omega
  refine (act_text1 g L _ 3 3 [x, y, z] _ (hB.alloc _) (row_new W 9 [x, y, z] (by show 3 ≤ maxLen; decide) (by intro u hu; simp at hu; unfold maxLen; rcases hu with rfl | rfl | rfl <;> omega)) (Nat.le_refl _) (by decide) (by omega)).mono ?_
  rintro e w1 ⟨rfl, hB1, hw⟩
  rw [line_three] at hB1
  exact ⟨rfl, hB1, (Wrote.of_below ((Below.refl _ _).alloc (Nat.le_refl _) _) (Nat.le_of_lt hB.lt)).trans hw⟩
theorem len_cons {l : List UInt8} {m : Nat} (h : l.length ≤ m) {l' : List UInt8} {m' : Nat} (h' : l'.length ≤ m') : (l ++ l').length ≤ m + m' := by rw [List.length_append]; omega

theorem ret_strL {l l' : List UInt8} (h : l = l') : Ending.returned (.string ⟨l.toArray⟩) = Ending.returned (.string ⟨l'.toArray⟩) := by rw [h]
set_option maxHeartbeats 4000000 in
set_option maxRecDepth 100000 in
theorem act_text (a : ActionV) (A : Option Addr) (n n' : Nat) (B : Option Addr) (m m' : Nat) (C : Option Addr) (p p' : Nat) (D : Option Addr) (q q' : Nat) (w : World) (hE : Env2 w) (ha : ActIs w a A n B m C p D q) (ok : ActOk a) :
    Calls Tryz.prog 68 #[actVal a A n n' B m m' C p p' D q q'] w fun e w' => e = .returned (.string ⟨(actTextL a).toArray⟩) ∧ Below w.heap.size w w' := by
  unfold actVal
  have hm1 : n ≤ 9223372036854775807 := ha.commands.2.1
  have hm2 : m ≤ 9223372036854775807 := ha.vars.2.1
  have hm3 : p ≤ 9223372036854775807 := ha.outputs.2.1
  have hm4 : q ≤ 9223372036854775807 := ha.needs.2.1
  have htl := ha.tool
  go_enter Tryz.func68, Tryz.ntmps68
  go_wp2_with fail
  have hB : Bld ((w.alloc (.cells #[.string a.tool, .slice A n n', .slice B m m', .slice C p p', .slice D q q', .int .i64 a.time] 39)).alloc (.cells #[.pointer none, .slice none 0 0] 90)) (w.heap.size + 1) [] := by
    have h := Bld.new (w.alloc (.cells #[.string a.tool, .slice A n n', .slice B m m', .slice C p p', .slice D q q', .int .i64 a.time] 39))
    rwa [show (w.alloc (.cells #[.string a.tool, .slice A n n', .slice B m m', .slice C p p', .slice D q q', .int .i64 a.time] 39)).heap.size = w.heap.size + 1 by simp] at h
  have hX : ((w.alloc (.cells #[.string a.tool, .slice A n n', .slice B m m', .slice C p p', .slice D q q', .int .i64 a.time] 39)).alloc (.cells #[.pointer none, .slice none 0 0] 90)).heap[w.heap.size]? = some (.cells #[.string a.tool, .slice A n n', .slice B m m', .slice C p p', .slice D q q', .int .i64 a.time] 39 (0, 0)) :=
    (Lib.alloc_old (w.alloc (.cells #[.string a.tool, .slice A n n', .slice B m m', .slice C p p', .slice D q q', .int .i64 a.time] 39)) _ _ (by simp)).trans (heap_alloc_new w _)
  have hbel2 : Below w.heap.size w ((w.alloc (.cells #[.string a.tool, .slice A n n', .slice B m m', .slice C p p', .slice D q q', .int .i64 a.time] 39)).alloc (.cells #[.pointer none, .slice none 0 0] 90)) := fr_alloc (fr_alloc (fr_refl w) _) _
  have hWg : ((w.alloc (.cells #[.string a.tool, .slice A n n', .slice B m m', .slice C p p', .slice D q q', .int .i64 a.time] 39)).alloc (.cells #[.pointer none, .slice none 0 0] 90)).heap.size = w.heap.size + 1 + 1 := by simp
  have hEn := (hE.alloc (.cells #[.string a.tool, .slice A n n', .slice B m m', .slice C p p', .slice D q q', .int .i64 a.time] 39)).alloc (.cells #[.pointer none, .slice none 0 0] 90)
  have hfc : Sl ((w.alloc (.cells #[.string a.tool, .slice A n n', .slice B m m', .slice C p p', .slice D q q', .int .i64 a.time] 39)).alloc (.cells #[.pointer none, .slice none 0 0] 90)) (Lt (w.heap.size + 1)) A n a.commands := (ha.commands.keep (keep_lt hbel2)).more (lt_mono (by omega))
  have hfv : Sl ((w.alloc (.cells #[.string a.tool, .slice A n n', .slice B m m', .slice C p p', .slice D q q', .int .i64 a.time] 39)).alloc (.cells #[.pointer none, .slice none 0 0] 90)) (Lt (w.heap.size + 1)) B m a.vars := (ha.vars.keep (keep_lt hbel2)).more (lt_mono (by omega))
  have hfo : Sl ((w.alloc (.cells #[.string a.tool, .slice A n n', .slice B m m', .slice C p p', .slice D q q', .int .i64 a.time] 39)).alloc (.cells #[.pointer none, .slice none 0 0] 90)) (Lt (w.heap.size + 1)) C p a.outputs := (ha.outputs.keep (keep_lt hbel2)).more (lt_mono (by omega))
  have hfn : Sl ((w.alloc (.cells #[.string a.tool, .slice A n n', .slice B m m', .slice C p p', .slice D q q', .int .i64 a.time] 39)).alloc (.cells #[.pointer none, .slice none 0 0] 90)) (Lt (w.heap.size + 1)) D q a.needs := (ha.needs.keep (keep_lt hbel2)).more (lt_mono (by omega))
  have hgw : w.heap.size ≤ w.heap.size + 1 := Nat.le_succ _
  have hz1 : w.heap.size < w.heap.size + 1 := Nat.lt_succ_self _
  rw [← hWg]
  generalize hg : w.heap.size + 1 = g at *
  have HG := Lib.hid hg; clear hg
  have hgl := hE.size
  generalize ((w.alloc (.cells #[.string a.tool, .slice A n n', .slice B m m', .slice C p p', .slice D q q', .int .i64 a.time] 39)).alloc (.cells #[.pointer none, .slice none 0 0] 90)) = W at *
  have HEn := Lib.hid (show ∀ w', Below g W w' → Env2 w' from fun w' h => hEn.of_heap h.size fun k hk => h.block k (Nat.lt_of_lt_of_le hk (Nat.le_trans hgl hgw)))
  have HX := Lib.hid hX; clear hX
  have htm := ok.time
  have htn : InInt a.time := ha.time
  refine (line_call2 g [] ⟨#[116, 111, 111, 108]⟩ a.tool W hB (by decide) (by have := ok.tool; omega) (by simp)).mono ?_
  rintro e w1 ⟨rfl, hB1, hw1⟩
  have hB2 : Bld w1 g (toolL a) := by
    have e : toolL a = [] ++ ([116, 111, 111, 108] ++ [32] ++ a.tool.data.toList ++ [10]) := by simp [toolL]
    rw [e]; exact hB1
  clear hB1 hB
  have hbr1 : Below g W w1 := hw1.1
  have hX1 : w1.cell? ⟨w.heap.size, 1, none⟩ = some (.slice A n n') := by rw [World.cell?, (hbr1.block _ hz1).trans HX.out]; rfl
  go_wp2
  go_loopw [6, 22] (fun _ i wr => ∃ k : Nat, k ≤ n ∧ i = .int .i64 k ∧ Bld wr g (toolL a ++ (a.commands.take k).flatMap cmdL) ∧ Below g W wr) (fun _ i _ => n - (intOf i).toNat)
  case atStart => exact ⟨0, Nat.zero_le _, rfl, by simpa using hB2, hbr1⟩
  case round =>
    clear hB2 hbr1 hX1 hw1
    obtain ⟨k, hk, rfl, hBr, hbr⟩ := hrel
    have hgr : g < wr.heap.size := hBr.lt
    have hlen : (toolL a ++ (a.commands.take k).flatMap cmdL).length ≤ 1000000 := by have := len_cons (toolL_length ok) (cmds_length ok k); omega
    by_cases hlt : k < n
    · obtain ⟨b, o, x, A', l', c', rfl, hb, hx, hlc, hcm, hsl', c0⟩ := (hfc.keep (keep_lt hbr)).row hlt
      have hbg : b < g := hb
      have hbw : b < wr.heap.size := by omega
      have hok := ok.words x (List.mem_of_getElem? hx)
      have hjl := cmdL_length hok
      have HX2 := Lib.hid hx; clear hx
      have hl1 := hsl'.1
      go_wp2_with fail
      refine (join_any _ _ _ x _ (hsl'.more (lt_mono (Nat.le_of_lt hgr))) hlc (by omega) (by omega)).mono ?_
      rintro e w2 ⟨rfl, hb2⟩
      have hBx := hBr.call hb2
      have hbx := below_call (show g ≤ W.heap.size by omega) hbr hb2
      go_wp2_with fail
      refine (line_call2 g _ ⟨#[100, 111]⟩ ⟨(joinS x).toArray⟩ w2 hBx (by decide) (by show (joinS x).toArray.size ≤ _; simp; omega) (by omega)).mono ?_
      rintro e w3 ⟨rfl, hB3, hw3⟩
      clear hl1 hjl hok
      go_wp2
      go_round
      case rel =>
        refine ⟨k + 1, by omega, by go_num, ?_, below_wrote hbx hw3⟩
        rw [flatMap_succ HX2.out, ← List.append_assoc, cmdL]
        exact hB3
      case measure => simp [intOf]; omega
    · have HF := Lib.hid (show a.commands.take k = a.commands from List.take_of_length_le (by rw [hfc.1]; omega))
      have hlen2 : (toolL a ++ a.commands.flatMap cmdL).length ≤ 1000000 := by rw [HF.out] at hlen; exact hlen
      rw [HF.out] at hBr
      have HLL := Lib.hid (show toolL a ++ a.commands.flatMap cmdL ++ a.vars.flatMap varL ++ a.outputs.flatMap outL ++ a.needs.flatMap needL ++ timeL a = actTextL a from rfl)
      generalize toolL a ++ a.commands.flatMap cmdL = L1 at *
      clear hlen
      have hX1 : wr.cell? ⟨w.heap.size, 2, none⟩ = some (.slice B m m') := by rw [World.cell?, (hbr.block _ hz1).trans HX.out]; rfl
      go_wp2
      go_loopw [8, 35] (fun _ i wr => ∃ k : Nat, k ≤ m ∧ i = .int .i64 k ∧ Bld wr g (L1 ++ (a.vars.take k).flatMap varL) ∧ Below g W wr) (fun _ i _ => m - (intOf i).toNat)
      case atStart => exact ⟨0, Nat.zero_le _, rfl, by simpa using hBr, hbr⟩
      case round =>
        clear hBr hbr hX1 hgr
        obtain ⟨k, hk, rfl, hBr, hbr⟩ := hrel
        have hgr : g < wr.heap.size := hBr.lt
        have hlen : (L1 ++ (a.vars.take k).flatMap varL).length ≤ 1100000 := by have := len_cons hlen2 (vars_length ok k); omega
        by_cases hlt : k < m
        · obtain ⟨b, o, x, rfl, hb, hx, hs1, hs2, c0, c1⟩ := (hfv.keep (keep_lt hbr)).var hlt
          have hbg : b < g := hb
          have hbw : b < wr.heap.size := by omega
          have hok := ok.var x (List.mem_of_getElem? hx)
          have HX2 := Lib.hid hx; clear hx
          go_wp2_with fail
          rw [show wr.heap.size + 1 = (wr.alloc (.cells #[.string x.name, .string x.value] 110)).heap.size by simp]
          refine (line_call3 g _ ⟨#[118, 97, 114]⟩ x.name x.value (wr.alloc (.cells #[.string x.name, .string x.value] 110)) (hBr.alloc _) (by decide) (by omega) (by omega) (by omega)).mono ?_
          rintro e w3 ⟨rfl, hB3, hw3⟩
          clear hok
          go_wp2
          go_round
          case rel =>
            refine ⟨k + 1, by omega, by go_num, ?_, below_wrote (hbr.alloc (Nat.le_of_lt hgr) _) hw3⟩
            rw [flatMap_succ HX2.out, ← List.append_assoc, varL]
            exact hB3
          case measure => simp [intOf]; omega
        · have HF := Lib.hid (show a.vars.take k = a.vars from List.take_of_length_le (by rw [hfv.1]; omega))
          have hlen3 : (L1 ++ a.vars.flatMap varL).length ≤ 1100000 := by rw [HF.out] at hlen; exact hlen
          clear hlen2
          have hlen2 := hlen3
          clear hlen3
          rw [HF.out] at hBr
          generalize L1 ++ a.vars.flatMap varL = L2 at *
          clear hlen
          have hX1 : wr.cell? ⟨w.heap.size, 3, none⟩ = some (.slice C p p') := by rw [World.cell?, (hbr.block _ hz1).trans HX.out]; rfl
          go_wp2
          go_loopw [10, 50] (fun _ i wr => ∃ k : Nat, k ≤ p ∧ i = .int .i64 k ∧ Bld wr g (L2 ++ (a.outputs.take k).flatMap outL) ∧ Below g W wr) (fun _ i _ => p - (intOf i).toNat)
          case atStart => exact ⟨0, Nat.zero_le _, rfl, by simpa using hBr, hbr⟩
          case round =>
            clear hBr hbr hX1 hgr
            obtain ⟨k, hk, rfl, hBr, hbr⟩ := hrel
            have hgr : g < wr.heap.size := hBr.lt
            have hlen : (L2 ++ (a.outputs.take k).flatMap outL).length ≤ 1200000 := by have := len_cons hlen2 (outs_length ok k); omega
            by_cases hlt : k < p
            · obtain ⟨b, o, x, rfl, hb, hx, hxs, c0⟩ := (hfo.keep (keep_lt hbr)).str hlt
              have hbg : b < g := hb
              have hbw : b < wr.heap.size := by omega
              have hok := ok.output x (List.mem_of_getElem? hx)
              have HX2 := Lib.hid hx; clear hx
              go_wp2_with fail
              refine (line_call2 g _ ⟨#[111, 117, 116]⟩ x wr hBr (by decide) (by omega) (by omega)).mono ?_
              rintro e w3 ⟨rfl, hB3, hw3⟩
              clear hok
              go_wp2
              go_round
              case rel =>
                refine ⟨k + 1, by omega, by go_num, ?_, below_wrote hbr hw3⟩
                rw [flatMap_succ HX2.out, ← List.append_assoc, outL]
                exact hB3
              case measure => simp [intOf]; omega
            · have HF := Lib.hid (show a.outputs.take k = a.outputs from List.take_of_length_le (by rw [hfo.1]; omega))
              have hlen3 : (L2 ++ a.outputs.flatMap outL).length ≤ 1200000 := by rw [HF.out] at hlen; exact hlen
              clear hlen2
              have hlen2 := hlen3
              clear hlen3
              rw [HF.out] at hBr
              generalize L2 ++ a.outputs.flatMap outL = L3 at *
              clear hlen
              have hX1 : wr.cell? ⟨w.heap.size, 4, none⟩ = some (.slice D q q') := by rw [World.cell?, (hbr.block _ hz1).trans HX.out]; rfl
              go_wp2
              go_loopw [12, 62] (fun _ i wr => ∃ k : Nat, k ≤ q ∧ i = .int .i64 k ∧ Bld wr g (L3 ++ (a.needs.take k).flatMap needL) ∧ Below g W wr) (fun _ i _ => q - (intOf i).toNat)
              case atStart => exact ⟨0, Nat.zero_le _, rfl, by simpa using hBr, hbr⟩
              case round =>
                clear hBr hbr hX1 hgr
                obtain ⟨k, hk, rfl, hBr, hbr⟩ := hrel
                have hgr : g < wr.heap.size := hBr.lt
                have hlen : (L3 ++ (a.needs.take k).flatMap needL).length ≤ 1300000 := by have := len_cons hlen2 (needs_length ok k); omega
                by_cases hlt : k < q
                · obtain ⟨b, o, x, rfl, hb, hx, hs1, hs2, c0, c1⟩ := (hfn.keep (keep_lt hbr)).var hlt
                  have hbg : b < g := hb
                  have hbw : b < wr.heap.size := by omega
                  have hok := ok.need x (List.mem_of_getElem? hx)
                  have HX2 := Lib.hid hx; clear hx
                  go_wp2_with fail
                  rw [show wr.heap.size + 1 = (wr.alloc (.cells #[.string x.name, .string x.value] 110)).heap.size by simp]
                  refine (line_call3 g _ ⟨#[110, 101, 101, 100]⟩ x.name x.value (wr.alloc (.cells #[.string x.name, .string x.value] 110)) (hBr.alloc _) (by decide) (by omega) (by omega) (by omega)).mono ?_
                  rintro e w3 ⟨rfl, hB3, hw3⟩
                  clear hok
                  go_wp2
                  go_round
                  case rel =>
                    refine ⟨k + 1, by omega, by go_num, ?_, below_wrote (hbr.alloc (Nat.le_of_lt hgr) _) hw3⟩
                    rw [flatMap_succ HX2.out, ← List.append_assoc, needL]
                    exact hB3
                  case measure => simp [intOf]; omega
                · have HF := Lib.hid (show a.needs.take k = a.needs from List.take_of_length_le (by rw [hfn.1]; omega))
                  have hlen3 : (L3 ++ a.needs.flatMap needL).length ≤ 1300000 := by rw [HF.out] at hlen; exact hlen
                  clear hlen2
                  have hlen2 := hlen3
                  clear hlen3
                  rw [HF.out] at hBr
                  generalize L3 ++ a.needs.flatMap needL = L4 at *
                  clear hlen
                  have hX1 : wr.cell? ⟨w.heap.size, 5, none⟩ = some (.int .i64 a.time) := by rw [World.cell?, (hbr.block _ hz1).trans HX.out]; rfl
                  obtain ⟨s1, k1, E1, C1⟩ := itoa_op a.time htn
                  have HEr := HEn.out _ hbr
                  go_wp2_with fail
                  refine (C1.out _ HEr).mono ?_
                  rintro e w2 ⟨rfl, hb2⟩
                  have hBx := hBr.call hb2
                  have hbx := below_call (show g ≤ W.heap.size by omega) hbr hb2
                  go_wp2_with fail
                  refine (line_call2 g _ ⟨#[116, 105, 109, 101]⟩ s1 w2 hBx (by decide) (by omega) (by omega)).mono ?_
                  rintro e w3 ⟨rfl, hB3, hw3⟩
                  go_wp2_with fail
                  refine (bld_String g _ _ hB3).mono ?_
                  rintro e w4 ⟨rfl, hB4, hw4⟩
                  go_wp2
                  go_ret
                  exact ⟨ret_strL (by rw [← HLL.out, timeL, ← E1.out]; rfl), hbel2.trans (((below_wrote hbx hw3).trans hw4.1).mono hgw)⟩
end Go.Proofs.Sm

namespace Go.Proofs.Sm
open Go.RowKit

set_option maxHeartbeats 4000000 in
set_option maxRecDepth 100000 in
theorem ref5_TextOf (a : ActionV) (A : Option Addr) (n n' : Nat) (B : Option Addr) (m m' : Nat) (C : Option Addr) (p p' : Nat) (D : Option Addr) (q q' : Nat) (w : World) (hE : Env2 w) (ha : ActIs w a A n B m C p D q) (ok : ActOk a) :
    Calls Tryz.prog 69 #[actVal a A n n' B m m' C p p' D q q'] w fun e w' => e = .returned (.string ⟨(actTextL a).toArray⟩) ∧ Below w.heap.size w w' := by
  unfold actVal
  have hm1 : n ≤ 9223372036854775807 := ha.commands.2.1
  have hm2 : m ≤ 9223372036854775807 := ha.vars.2.1
  have hm3 : p ≤ 9223372036854775807 := ha.outputs.2.1
  have hm4 : q ≤ 9223372036854775807 := ha.needs.2.1
  have q1 : (⟨#[116, 111, 111, 108, 32]⟩ : ByteArray).size = 5 := rfl
  have q4 : (⟨#[10]⟩ : ByteArray).size = 1 := rfl
  have q5 := ok.tool
  obtain ⟨p1, z1, P1, a1⟩ := cat_op ⟨#[116, 111, 111, 108, 32]⟩ a.tool (by omega)
  obtain ⟨p2, z2, P2, a2⟩ := cat_op p1 ⟨#[10]⟩ (by omega)
  have HT := Lib.hid (show p2.data.toList = toolL a by rw [P2.out, P1.out, toolL])
  clear q1 q4 z1 z2 P1 P2
  go_enter Tryz.func69, Tryz.ntmps69
  go_wp2
  clear a1 a2
  have hX := heap_alloc_new w (.cells #[.string a.tool, .slice A n n', .slice B m m', .slice C p p', .slice D q q', .int .i64 a.time] 39)
  have hEn := hE.alloc (.cells #[.string a.tool, .slice A n n', .slice B m m', .slice C p p', .slice D q q', .int .i64 a.time] 39)
  have hrn := ha.then_ (fr_alloc (fr_refl w) (.cells #[.string a.tool, .slice A n n', .slice B m m', .slice C p p', .slice D q q', .int .i64 a.time] 39))
  have hbel := fr_alloc (fr_refl w) (.cells #[.string a.tool, .slice A n n', .slice B m m', .slice C p p', .slice D q q', .int .i64 a.time] 39)
  have hz : w.heap.size < (w.alloc (.cells #[.string a.tool, .slice A n n', .slice B m m', .slice C p p', .slice D q q', .int .i64 a.time] 39)).heap.size := by simp
  generalize (w.alloc (.cells #[.string a.tool, .slice A n n', .slice B m m', .slice C p p', .slice D q q', .int .i64 a.time] 39)) = W at *
  have HX := Lib.hid hX; clear hX
  have HEn := Lib.hid (show ∀ w', Below W.heap.size W w' → Env2 w' from fun w' h => hEn.then_ h)
  have htm := ok.time
  have htn : InInt a.time := ha.time
  have hlen2 := toolL_length ok
  go_loopw [3, 4] (fun s i wr => ∃ (k : Nat) (t : ByteArray), k ≤ n ∧ i = .int .i64 k ∧ s = .string t ∧ t.data.toList = toolL a ++ (a.commands.take k).flatMap cmdL ∧ Below W.heap.size W wr) (fun _ i _ => n - (intOf i).toNat)
  case atStart => exact ⟨0, p2, Nat.zero_le _, rfl, rfl, by rw [HT.out]; simp, Below.refl _ _⟩
  case round =>
    skip
    obtain ⟨k, t, hk, rfl, rfl, ht, hbr⟩ := hrel
    have Ht := Lib.hid ht; clear ht
    have hcell : wr.cell? ⟨w.heap.size, 1, none⟩ = some (.slice A n n') := by rw [World.cell?, (hbr.block _ hz).trans HX.out]; rfl
    have hlen : (toolL a ++ (a.commands.take k).flatMap cmdL).length ≤ 1000000 := by have := len_cons hlen2 (cmds_length ok k); omega
    have hts : t.size ≤ 1000000 := by
      have h1 : t.data.toList.length = t.size := by simp
      rw [← h1, Ht.out]; exact hlen
    clear hlen
    have q4 : (⟨#[10]⟩ : ByteArray).size = 1 := rfl
    have q2 : (⟨#[32]⟩ : ByteArray).size = 1 := rfl
    by_cases hlt : k < n
    · obtain ⟨b, o, x, A', l', c', rfl, hb, hx, hlc, hcm, hsl', c0⟩ := (hrn.commands.keep (keep_lt hbr)).row hlt
      have hok := ok.words x (List.mem_of_getElem? hx)
      have hjl := cmdL_length hok
      have HX2 := Lib.hid hx; clear hx
      have hl1 := hsl'.1
      obtain ⟨j, hj⟩ : ∃ j : ByteArray, j = ⟨(joinS x).toArray⟩ := ⟨_, rfl⟩
      have hjs : j.size = (joinS x).length := by rw [hj]; simp [ByteArray.size]
      have HJL := Lib.hid (show j.data.toList = joinS x by rw [hj])
      have HJ := Lib.hid (hj ▸ join_any A' l' c' x wr (hsl'.more (lt_mono hbr.size)) hlc (by omega) (by omega) : Calls Tryz.prog 119 #[.slice A' l' c', .string ⟨#[32]⟩] wr fun e w' => e = .returned (.string j) ∧ Below wr.heap.size wr w')
      clear hj
      have q1 : (⟨#[100, 111, 32]⟩ : ByteArray).size = 3 := rfl
      obtain ⟨p1, z1, P1, a1⟩ := cat_op ⟨#[100, 111, 32]⟩ j (by omega)
      obtain ⟨p2, z2, P2, a2⟩ := cat_op p1 ⟨#[10]⟩ (by omega)
      obtain ⟨p3, z3, P3, a3⟩ := cat_op t p2 (by omega)
      have HP := Lib.hid (show p3.data.toList = toolL a ++ (a.commands.take (k + 1)).flatMap cmdL by
        rw [P3.out, P2.out, P1.out, HJL.out, Ht.out, flatMap_succ HX2.out]; simp [cmdL])
      clear q1 q2 q4 z1 z2 z3 P1 P2 P3 hl1 hjl hok
      go_wp2_with fail
      refine HJ.out.mono ?_
      rintro e w2 ⟨rfl, hb2⟩
      go_wp2
      go_round
      case rel => exact ⟨k + 1, p3, by omega, by go_num, rfl, HP.out, fr_call hbr hb2⟩
      case measure => simp [intOf]; omega
    · have HF := Lib.hid (show a.commands.take k = a.commands from List.take_of_length_le (by rw [hrn.commands.1]; omega))
      have Ht2 := Lib.hid (show t.data.toList = toolL a ++ a.commands.flatMap cmdL by rw [Ht.out, HF.out])
      clear Ht
      have hg1 : toolL a ++ a.commands.flatMap cmdL = toolL a ++ a.commands.flatMap cmdL := rfl
      generalize hG1 : toolL a ++ a.commands.flatMap cmdL = L1 at Ht2
      have HG1 := Lib.hid hG1; clear hG1 hg1
      have hlen3 : L1.length ≤ 1000000 := by
        have h1 : t.data.toList.length = t.size := by simp
        rw [← Ht2.out, h1]; exact hts
      clear hlen2
      have hlen2 := hlen3
      clear hlen3 q2 q4
      have HLL := Lib.hid (show L1 ++ a.vars.flatMap varL ++ a.outputs.flatMap outL ++ a.needs.flatMap needL ++ timeL a = actTextL a by rw [← HG1.out]; rfl)
      go_wp2
      clear hcell
      go_loopw [3, 5] (fun s i wr => ∃ (k : Nat) (t : ByteArray), k ≤ m ∧ i = .int .i64 k ∧ s = .string t ∧ t.data.toList = L1 ++ (a.vars.take k).flatMap varL ∧ Below W.heap.size W wr) (fun _ i _ => m - (intOf i).toNat)
      case atStart => exact ⟨0, t, Nat.zero_le _, rfl, rfl, by rw [Ht2.out]; simp, hbr⟩
      case round =>
        clear hbr
        obtain ⟨k, t, hk, rfl, rfl, ht, hbr⟩ := hrel
        have Ht := Lib.hid ht; clear ht
        have hcell : wr.cell? ⟨w.heap.size, 2, none⟩ = some (.slice B m m') := by rw [World.cell?, (hbr.block _ hz).trans HX.out]; rfl
        have hlen : (L1 ++ (a.vars.take k).flatMap varL).length ≤ 1100000 := by have := len_cons hlen2 (vars_length ok k); omega
        have hts : t.size ≤ 1100000 := by
          have h1 : t.data.toList.length = t.size := by simp
          rw [← h1, Ht.out]; exact hlen
        clear hlen
        have q4 : (⟨#[10]⟩ : ByteArray).size = 1 := rfl
        have q2 : (⟨#[32]⟩ : ByteArray).size = 1 := rfl
        by_cases hlt : k < m
        · obtain ⟨b, o, x, rfl, hb, hx, hs1, hs2, c0, c1⟩ := (hrn.vars.keep (keep_lt hbr)).var hlt
          have hok := ok.var x (List.mem_of_getElem? hx)
          have HX2 := Lib.hid hx; clear hx
          have q1 : (⟨#[118, 97, 114, 32]⟩ : ByteArray).size = 4 := rfl
          obtain ⟨p1, z1, P1, a1⟩ := cat_op ⟨#[118, 97, 114, 32]⟩ x.name (by omega)
          obtain ⟨p2, z2, P2, a2⟩ := cat_op p1 ⟨#[32]⟩ (by omega)
          obtain ⟨p3, z3, P3, a3⟩ := cat_op p2 x.value (by omega)
          obtain ⟨p4, z4, P4, a4⟩ := cat_op p3 ⟨#[10]⟩ (by omega)
          obtain ⟨p5, z5, P5, a5⟩ := cat_op t p4 (by omega)
          have HP := Lib.hid (show p5.data.toList = L1 ++ (a.vars.take (k + 1)).flatMap varL by
            rw [P5.out, P4.out, P3.out, P2.out, P1.out, Ht.out, flatMap_succ HX2.out]; simp [varL])
          clear q1 q2 q4 z1 z2 z3 z4 z5 P1 P2 P3 P4 P5 hok
          go_wp2
          go_quiet (fail)
          go_wp2
          go_round
          case rel => exact ⟨k + 1, p5, by omega, by go_num, rfl, HP.out, below_drewN hbr _⟩
          case measure => simp [intOf]; omega
        · have HF := Lib.hid (show a.vars.take k = a.vars from List.take_of_length_le (by rw [hrn.vars.1]; omega))
          have Ht2 := Lib.hid (show t.data.toList = L1 ++ a.vars.flatMap varL by rw [Ht.out, HF.out])
          clear Ht
          generalize L1 ++ a.vars.flatMap varL = L2 at *
          have hlen3 : L2.length ≤ 1100000 := by
            have h1 : t.data.toList.length = t.size := by simp
            rw [← Ht2.out, h1]; exact hts
          clear hlen2
          have hlen2 := hlen3
          clear hlen3 q2 q4
          go_wp2
          clear hcell
          go_loopw [3, 6] (fun s i wr => ∃ (k : Nat) (t : ByteArray), k ≤ p ∧ i = .int .i64 k ∧ s = .string t ∧ t.data.toList = L2 ++ (a.outputs.take k).flatMap outL ∧ Below W.heap.size W wr) (fun _ i _ => p - (intOf i).toNat)
          case atStart => exact ⟨0, t, Nat.zero_le _, rfl, rfl, by rw [Ht2.out]; simp, hbr⟩
          case round =>
            clear hbr
            obtain ⟨k, t, hk, rfl, rfl, ht, hbr⟩ := hrel
            have Ht := Lib.hid ht; clear ht
            have hcell : wr.cell? ⟨w.heap.size, 3, none⟩ = some (.slice C p p') := by rw [World.cell?, (hbr.block _ hz).trans HX.out]; rfl
            have hlen : (L2 ++ (a.outputs.take k).flatMap outL).length ≤ 1200000 := by have := len_cons hlen2 (outs_length ok k); omega
            have hts : t.size ≤ 1200000 := by
              have h1 : t.data.toList.length = t.size := by simp
              rw [← h1, Ht.out]; exact hlen
            clear hlen
            have q4 : (⟨#[10]⟩ : ByteArray).size = 1 := rfl
            have q2 : (⟨#[32]⟩ : ByteArray).size = 1 := rfl
            by_cases hlt : k < p
            · obtain ⟨b, o, x, rfl, hb, hx, hxs, c0⟩ := (hrn.outputs.keep (keep_lt hbr)).str hlt
              have hok := ok.output x (List.mem_of_getElem? hx)
              have HX2 := Lib.hid hx; clear hx
              have q1 : (⟨#[111, 117, 116, 32]⟩ : ByteArray).size = 4 := rfl
              obtain ⟨p1, z1, P1, a1⟩ := cat_op ⟨#[111, 117, 116, 32]⟩ x (by omega)
              obtain ⟨p2, z2, P2, a2⟩ := cat_op p1 ⟨#[10]⟩ (by omega)
              obtain ⟨p3, z3, P3, a3⟩ := cat_op t p2 (by omega)
              have HP := Lib.hid (show p3.data.toList = L2 ++ (a.outputs.take (k + 1)).flatMap outL by
                rw [P3.out, P2.out, P1.out, Ht.out, flatMap_succ HX2.out]; simp [outL])
              clear q1 q2 q4 z1 z2 z3 P1 P2 P3 hok
              go_wp2
              go_round
              case rel => exact ⟨k + 1, p3, by omega, by go_num, rfl, HP.out, hbr⟩
              case measure => simp [intOf]; omega
            · have HF := Lib.hid (show a.outputs.take k = a.outputs from List.take_of_length_le (by rw [hrn.outputs.1]; omega))
              have Ht2 := Lib.hid (show t.data.toList = L2 ++ a.outputs.flatMap outL by rw [Ht.out, HF.out])
              clear Ht
              generalize L2 ++ a.outputs.flatMap outL = L3 at *
              have hlen3 : L3.length ≤ 1200000 := by
                have h1 : t.data.toList.length = t.size := by simp
                rw [← Ht2.out, h1]; exact hts
              clear hlen2
              have hlen2 := hlen3
              clear hlen3 q2 q4
              go_wp2
              clear hcell
              go_loopw [3, 7] (fun s i wr => ∃ (k : Nat) (t : ByteArray), k ≤ q ∧ i = .int .i64 k ∧ s = .string t ∧ t.data.toList = L3 ++ (a.needs.take k).flatMap needL ∧ Below W.heap.size W wr) (fun _ i _ => q - (intOf i).toNat)
              case atStart => exact ⟨0, t, Nat.zero_le _, rfl, rfl, by rw [Ht2.out]; simp, hbr⟩
              case round =>
                clear hbr
                obtain ⟨k, t, hk, rfl, rfl, ht, hbr⟩ := hrel
                have Ht := Lib.hid ht; clear ht
                have hcell : wr.cell? ⟨w.heap.size, 4, none⟩ = some (.slice D q q') := by rw [World.cell?, (hbr.block _ hz).trans HX.out]; rfl
                have hlen : (L3 ++ (a.needs.take k).flatMap needL).length ≤ 1300000 := by have := len_cons hlen2 (needs_length ok k); omega
                have hts : t.size ≤ 1300000 := by
                  have h1 : t.data.toList.length = t.size := by simp
                  rw [← h1, Ht.out]; exact hlen
                clear hlen
                have q4 : (⟨#[10]⟩ : ByteArray).size = 1 := rfl
                have q2 : (⟨#[32]⟩ : ByteArray).size = 1 := rfl
                by_cases hlt : k < q
                · obtain ⟨b, o, x, rfl, hb, hx, hs1, hs2, c0, c1⟩ := (hrn.needs.keep (keep_lt hbr)).var hlt
                  have hok := ok.need x (List.mem_of_getElem? hx)
                  have HX2 := Lib.hid hx; clear hx
                  have q1 : (⟨#[110, 101, 101, 100, 32]⟩ : ByteArray).size = 5 := rfl
                  obtain ⟨p1, z1, P1, a1⟩ := cat_op ⟨#[110, 101, 101, 100, 32]⟩ x.name (by omega)
                  obtain ⟨p2, z2, P2, a2⟩ := cat_op p1 ⟨#[32]⟩ (by omega)
                  obtain ⟨p3, z3, P3, a3⟩ := cat_op p2 x.value (by omega)
                  obtain ⟨p4, z4, P4, a4⟩ := cat_op p3 ⟨#[10]⟩ (by omega)
                  obtain ⟨p5, z5, P5, a5⟩ := cat_op t p4 (by omega)
                  have HP := Lib.hid (show p5.data.toList = L3 ++ (a.needs.take (k + 1)).flatMap needL by
                    rw [P5.out, P4.out, P3.out, P2.out, P1.out, Ht.out, flatMap_succ HX2.out]; simp [needL])
                  clear q1 q2 q4 z1 z2 z3 z4 z5 P1 P2 P3 P4 P5 hok
                  go_wp2
                  go_quiet (fail)
                  go_wp2
                  go_round
                  case rel => exact ⟨k + 1, p5, by omega, by go_num, rfl, HP.out, below_drewN hbr _⟩
                  case measure => simp [intOf]; omega
                · have HF := Lib.hid (show a.needs.take k = a.needs from List.take_of_length_le (by rw [hrn.needs.1]; omega))
                  have Ht2 := Lib.hid (show t.data.toList = L3 ++ a.needs.flatMap needL by rw [Ht.out, HF.out])
                  clear Ht
                  generalize L3 ++ a.needs.flatMap needL = L4 at *
                  have hlen3 : L4.length ≤ 1300000 := by
                    have h1 : t.data.toList.length = t.size := by simp
                    rw [← Ht2.out, h1]; exact hts
                  clear hlen2
                  have hlen2 := hlen3
                  clear hlen3 q2 q4
                  have hcell5 : wr.cell? ⟨w.heap.size, 5, none⟩ = some (.int .i64 a.time) := by rw [World.cell?, (hbr.block _ hz).trans HX.out]; rfl
                  obtain ⟨s1, k1, E1, C1⟩ := itoa_op a.time htn
                  have HEr := HEn.out _ hbr
                  have q1 : (⟨#[116, 105, 109, 101, 32]⟩ : ByteArray).size = 5 := rfl
                  have q4 : (⟨#[10]⟩ : ByteArray).size = 1 := rfl
                  obtain ⟨p1, z1, P1, a1⟩ := cat_op t ⟨#[116, 105, 109, 101, 32]⟩ (by omega)
                  obtain ⟨p2, z2, P2, a2⟩ := cat_op p1 s1 (by omega)
                  obtain ⟨p3, z3, P3, a3⟩ := cat_op p2 ⟨#[10]⟩ (by omega)
                  have HP := Lib.hid (show p3.data.toList = actTextL a by
                    rw [P3.out, P2.out, P1.out, E1.out, Ht2.out, ← HLL.out]; simp [timeL])
                  clear q1 q4 z1 z2 z3 P1 P2 P3
                  go_wp2_with fail
                  refine (C1.out _ HEr).mono ?_
                  rintro e w2 ⟨rfl, hb2⟩
                  go_wp2
                  go_ret
                  exact ⟨ret_str HP.out, hbel.trans ((fr_call hbr hb2).mono (Nat.le_of_lt hz))⟩
end Go.Proofs.Sm

namespace Go.Proofs.Sm
open Go.RowKit

/-- the text of an action; none when it is wrong -/
def actTextS (a : ActionV) : ByteArray := if checkActionS a = 0 then ⟨(actTextL a).toArray⟩ else ⟨#[]⟩
theorem actText_length {a : ActionV} (ok : ActOk a) : (actTextL a).length ≤ 2000000 := by
  have h1 := toolL_length ok
  have h2 := cmds_length ok a.commands.length
  have h3 := vars_length ok a.vars.length
  have h4 := outs_length ok a.outputs.length
  have h5 := needs_length ok a.needs.length
  rw [List.take_length] at h2 h3 h4 h5
  have h6 := Lib.itoa_length_le a.time (by have := ok.time; omega) (by have := ok.time; omega)
  simp only [actTextL, timeL, List.length_append, List.length_cons, List.length_nil] at h1 h2 h3 h4 h5 ⊢
  omega
set_option maxHeartbeats 1000000 in
set_option maxRecDepth 100000 in
theorem act_Text (a : ActionV) (A : Option Addr) (n n' : Nat) (B : Option Addr) (m m' : Nat) (C : Option Addr) (p p' : Nat) (D : Option Addr) (q q' : Nat) (w : World) (hE : Env2 w) (ha : ActIs w a A n B m C p D q) :
    Calls Tryz.prog 24 #[actVal a A n n' B m m' C p p' D q q'] w fun e w' => e = .returned (.tuple #[.string (actTextS a), .int .i64 (checkActionS a)]) ∧ Below w.heap.size w w' := by
  have hv : actVal a A n n' B m m' C p p' D q q' = .agg #[.string a.tool, .slice A n n', .slice B m m', .slice C p p', .slice D q q', .int .i64 a.time] := rfl
  have C1 := Lib.hid (fun w' (hb : Below w.heap.size w w') => act_CheckAction a A n n' B m m' C p p' D q q' w' (hE.then_ hb).toEnv (ha.then_ hb))
  have C2 := Lib.hid (fun w' (hb : Below w.heap.size w w') ok => act_text a A n n' B m m' C p p' D q q' w' (hE.then_ hb) (ha.then_ hb) ok)
  rw [hv] at C1 C2 ⊢
  clear hv
  go_enter Tryz.func24, Tryz.ntmps24
  go_wp2_with fail
  refine (C1.out _ (fr_alloc (fr_refl w) _)).mono ?_
  rintro e w1 ⟨rfl, hb1⟩
  have hz1 := grew hb1
  obtain ⟨hc1, hf1⟩ := bcell hb1
  have hbel1 := fr_box (fr_refl w) hb1
  clear hb1
  cases h0 : (checkActionS a == 0)
  · have hne : checkActionS a ≠ 0 := by simpa using h0
    have hbn : (checkActionS a != 0) = true := by simpa using h0
    have HN := Lib.hid hne; clear hne
    go_wp2
    go_ret2
    exact ⟨ret_pair (by rw [actTextS, if_neg HN.out]; rfl) rfl, hbel1⟩
  · have hz : checkActionS a = 0 := by simpa using h0
    have hbn : (checkActionS a != 0) = false := by simpa using h0
    have ok := checkAction_ok hz
    have HZ := Lib.hid hz; clear hz
    go_wp2_with fail
    refine (C2.out _ hbel1 ok).mono ?_
    rintro e w2 ⟨rfl, hb2⟩
    go_wp2
    go_ret2
    exact ⟨ret_pair (by rw [actTextS, if_pos HZ.out]; rfl) (congrArg (Value.int .i64) HZ.out.symm), fr_call hbel1 hb2⟩
set_option maxHeartbeats 1000000 in
set_option maxRecDepth 100000 in
theorem ref5_Text (a : ActionV) (A : Option Addr) (n n' : Nat) (B : Option Addr) (m m' : Nat) (C : Option Addr) (p p' : Nat) (D : Option Addr) (q q' : Nat) (w : World) (hE : Env2 w) (ha : ActIs w a A n B m C p D q) :
    Calls Tryz.prog 25 #[actVal a A n n' B m m' C p p' D q q'] w fun e w' => e = .returned (.tuple #[.string (actTextS a), .int .i64 (checkActionS a)]) ∧ Below w.heap.size w w' := by
  have hv : actVal a A n n' B m m' C p p' D q q' = .agg #[.string a.tool, .slice A n n', .slice B m m', .slice C p p', .slice D q q', .int .i64 a.time] := rfl
  have C1 := Lib.hid (fun w' (hb : Below w.heap.size w w') => ref5_CheckAction a A n n' B m m' C p p' D q q' w' (hE.then_ hb).toEnv (ha.then_ hb))
  have C2 := Lib.hid (fun w' (hb : Below w.heap.size w w') ok => ref5_TextOf a A n n' B m m' C p p' D q q' w' (hE.then_ hb) (ha.then_ hb) ok)
  rw [hv] at C1 C2 ⊢
  clear hv
  go_enter Tryz.func25, Tryz.ntmps25
  go_wp2_with fail
  refine (C1.out _ (fr_alloc (fr_refl w) _)).mono ?_
  rintro e w1 ⟨rfl, hb1⟩
  have hz1 := grew hb1
  obtain ⟨hc1, hf1⟩ := bcell hb1
  have hbel1 := fr_box (fr_refl w) hb1
  clear hb1
  cases h0 : (checkActionS a == 0)
  · have hne : checkActionS a ≠ 0 := by simpa using h0
    have hbn : (checkActionS a != 0) = true := by simpa using h0
    have HN := Lib.hid hne; clear hne
    go_wp2
    go_ret2
    exact ⟨ret_pair (by rw [actTextS, if_neg HN.out]; rfl) rfl, hbel1⟩
  · have hz : checkActionS a = 0 := by simpa using h0
    have hbn : (checkActionS a != 0) = false := by simpa using h0
    have ok := checkAction_ok hz
    have HZ := Lib.hid hz; clear hz
    go_wp2_with fail
    refine (C2.out _ hbel1 ok).mono ?_
    rintro e w2 ⟨rfl, hb2⟩
    go_wp2
    go_ret2
    exact ⟨ret_pair (by rw [actTextS, if_pos HZ.out]; rfl) (congrArg (Value.int .i64) HZ.out.symm), fr_call hbel1 hb2⟩
set_option maxHeartbeats 1000000 in
set_option maxRecDepth 100000 in
theorem law_checks (a : ActionV) (A : Option Addr) (n n' : Nat) (B : Option Addr) (m m' : Nat) (C : Option Addr) (p p' : Nat) (D : Option Addr) (q q' : Nat) (w : World) (hE : Env2 w) (ha : ActIs w a A n B m C p D q) :
    Calls Tryz.prog 6 #[actVal a A n n' B m m' C p p' D q q'] w fun e w' => e = .returned (.bool true) ∧ Below w.heap.size w w' := by
  have hv : actVal a A n n' B m m' C p p' D q q' = .agg #[.string a.tool, .slice A n n', .slice B m m', .slice C p p', .slice D q q', .int .i64 a.time] := rfl
  have C1 := Lib.hid (fun w' (hb : Below w.heap.size w w') => act_Text a A n n' B m m' C p p' D q q' w' (hE.then_ hb) (ha.then_ hb))
  have C2 := Lib.hid (fun w' (hb : Below w.heap.size w w') => ref5_Text a A n n' B m m' C p p' D q q' w' (hE.then_ hb) (ha.then_ hb))
  have C3 := Lib.hid (fun w' (hb : Below w.heap.size w w') => act_CheckAction a A n n' B m m' C p p' D q q' w' (hE.then_ hb).toEnv (ha.then_ hb))
  have C4 := Lib.hid (fun w' (hb : Below w.heap.size w w') => ref5_CheckAction a A n n' B m m' C p p' D q q' w' (hE.then_ hb).toEnv (ha.then_ hb))
  rw [hv] at C1 C2 C3 C4 ⊢
  clear hv
  go_enter Tryz.func6, Tryz.ntmps6
  go_wp2_with fail
  have b0 := fr_alloc (fr_refl w) (.cells #[.string a.tool, .slice A n n', .slice B m m', .slice C p p', .slice D q q', .int .i64 a.time] 39)
  refine (C1.out _ b0).mono ?_
  rintro e w1 ⟨rfl, hb1⟩
  have hz1 := grew hb1
  obtain ⟨hc1, hf1⟩ := bcell hb1
  have b1 := fr_call b0 hb1
  have hX1 := Lib.hid ((hb1.block _ (by simp)).trans (heap_alloc_new w (.cells #[.string a.tool, .slice A n n', .slice B m m', .slice C p p', .slice D q q', .int .i64 a.time] 39)))
  clear hb1 b0
  go_wp2_with fail
  refine (C2.out _ b1).mono ?_
  rintro e w2 ⟨rfl, hb2⟩
  have hX : w2.heap[w.heap.size]? = some (.cells #[.string a.tool, .slice A n n', .slice B m m', .slice C p p', .slice D q q', .int .i64 a.time] 39 (0, 0)) :=
    (hb2.block _ hz1).trans hX1.out
  have b2 := fr_call b1 hb2
  have hz2 : w.heap.size < w2.heap.size := Nat.lt_of_lt_of_le hz1 hb2.size
  clear hb2 b1 hc1 hf1
  have HK := Lib.hid (show ∀ w', Below w2.heap.size w2 w' → (Below w2.heap.size w2 w' ∧ w'.cell? ⟨w.heap.size, 0, none⟩ = some (.string a.tool) ∧ w'.cell? ⟨w.heap.size, 1, none⟩ = some (.slice A n n') ∧ w'.cell? ⟨w.heap.size, 2, none⟩ = some (.slice B m m') ∧ w'.cell? ⟨w.heap.size, 3, none⟩ = some (.slice C p p') ∧ w'.cell? ⟨w.heap.size, 4, none⟩ = some (.slice D q q') ∧ w'.cell? ⟨w.heap.size, 5, none⟩ = some (.int .i64 a.time)) from fun w' h => by
    have h1 : w'.heap[w.heap.size]? = _ := (h.block _ hz2).trans hX
    refine ⟨h, ?_, ?_, ?_, ?_, ?_, ?_⟩ <;> (rw [World.cell?, h1]; rfl))
  clear hX
  go_wp2_with fail
  go_region_held3 (fun w' => Below w2.heap.size w2 w' ∧ w'.cell? ⟨w.heap.size, 0, none⟩ = some (.string a.tool) ∧ w'.cell? ⟨w.heap.size, 1, none⟩ = some (.slice A n n') ∧ w'.cell? ⟨w.heap.size, 2, none⟩ = some (.slice B m m') ∧ w'.cell? ⟨w.heap.size, 3, none⟩ = some (.slice C p p') ∧ w'.cell? ⟨w.heap.size, 4, none⟩ = some (.slice D q q') ∧ w'.cell? ⟨w.heap.size, 5, none⟩ = some (.int .i64 a.time))
    (first | assumption | exact HK.out _ (Below.refl _ _).drew | exact HK.out _ (fr_call (And.left (by assumption)) hbc))
    (first
      | (go_at_call 26; refine (C3.out _ (fr_call b2 (And.left (by assumption)))).mono ?_; rintro e wc ⟨rfl, hbc⟩)
      | (go_at_call 27; refine (C4.out _ (fr_call b2 (And.left (by assumption)))).mono ?_; rintro e wc ⟨rfl, hbc⟩)
      | (go_at_call 19; refine (law5_awake _ (hE.toEnv.then_ (fr_call b2 (And.left (by assumption))))).mono ?_; rintro e wc ⟨rfl, hbc⟩))
  have b3 : Below w2.heap.size w2 wc := And.left (by assumption)
  go_wp2
  go_ret
  exact ⟨rfl, fr_call b2 b3⟩
end Go.Proofs.Sm
