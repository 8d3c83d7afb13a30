/- Rows of the call's own whose elements lead to blocks of one type; blocks that hold a struct. No program is in sight here. -/
import Derived.Test.YtiajmcmncafecaaGreatDoorH8x4
import Derived.Test.YtiajmcmncafecaaGreatDoorH8x3
import Derived.Lib.SplitLaws
import Derived.Lib.ItoaNum
import Derived.Lib.Join
import Derived.Test.YtiajmcmncafecaaGreatDoorH8x2
import Derived.Lib.FrozenHead2
import Derived.Lib.UnsafeStr
import Derived.Lib.BufferWrite
import Derived.Deep.AppendLies
namespace Go.Proofs.Sm
open Go.RowKit

/-- the fields of an action -/
def actVal (a : ActionV) (A : Option Addr) (n n' : Nat) (B : Option Addr) (m m' : Nat) (C : Option Addr) (p p' : Nat) (D : Option Addr) (q q' : Nat) : Value :=
  .agg #[.string a.tool, .slice A n n', .slice B m m', .slice C p p', .slice D q q', .int .i64 a.time]
structure ActIs (w : World) (a : ActionV) (A : Option Addr) (n : Nat) (B : Option Addr) (m : Nat) (C : Option Addr) (p : Nat) (D : Option Addr) (q : Nat) : Prop where
  tool : a.tool.size ≤ maxLen
  commands : Sl w (Lt w.heap.size) A n a.commands
  vars : Sl w (Lt w.heap.size) B m a.vars
  outputs : Sl w (Lt w.heap.size) C p a.outputs
  needs : Sl w (Lt w.heap.size) D q a.needs
  time : InInt a.time
theorem ActIs.then_ {w w' : World} {a : ActionV} {A : Option Addr} {n : Nat} {B : Option Addr} {m : Nat} {C : Option Addr} {p : Nat} {D : Option Addr} {q : Nat} (h : ActIs w a A n B m C p D q) (hb : Below w.heap.size w w') : ActIs w' a A n B m C p D q :=
  ⟨h.tool, sl_call h.commands hb (Nat.le_refl _), sl_call h.vars hb (Nat.le_refl _), sl_call h.outputs hb (Nat.le_refl _), sl_call h.needs hb (Nat.le_refl _), h.time⟩
theorem action_tool {a : ActionV} (h : isDigestS a.tool = false) : checkActionS a = 3 := by rw [checkActionS, if_pos h]
theorem action_none {a : ActionV} (h : isDigestS a.tool = true) (h0 : a.commands.length = 0) : checkActionS a = 9 := by rw [checkActionS, if_neg (by rw [h]; decide), if_pos h0]
theorem action_large {a : ActionV} (h : isDigestS a.tool = true) (h0 : a.commands.length ≠ 0) (h1 : (50 : Int) < a.commands.length) : checkActionS a = 2 := by
  rw [checkActionS, if_neg (by rw [h]; decide), if_neg h0, if_pos h1]
/-- what is left when the tool and the number of commands are well -/
def actRest (a : ActionV) : Int :=
  if commandsErr a.commands ≠ 0 then commandsErr a.commands
  else if checkVarsS a.vars ≠ 0 then checkVarsS a.vars
  else if checkOutputsS a.outputs ≠ 0 then checkOutputsS a.outputs
  else if checkVarsS a.needs ≠ 0 then checkVarsS a.needs
  else if withinB a.time 1 100000 = false then 1
  else 0
theorem action_rest {a : ActionV} (h : isDigestS a.tool = true) (h0 : a.commands.length ≠ 0) (h1 : ¬ (50 : Int) < a.commands.length) : checkActionS a = actRest a := by
  rw [checkActionS, if_neg (by rw [h]; decide), if_neg h0, if_neg h1, actRest]
theorem rest_cmd {a : ActionV} {e : Int} (h : commandsErr a.commands = e) (he : e ≠ 0) : actRest a = e := by rw [actRest, if_pos (by rw [h]; exact he), h]
theorem rest_vars {a : ActionV} (h : commandsErr a.commands = 0) (h1 : checkVarsS a.vars ≠ 0) : actRest a = checkVarsS a.vars := by
  rw [actRest, if_neg (by rw [h]; decide), if_pos h1]
theorem rest_outs {a : ActionV} (h : commandsErr a.commands = 0) (h1 : checkVarsS a.vars = 0) (h2 : checkOutputsS a.outputs ≠ 0) : actRest a = checkOutputsS a.outputs := by
  rw [actRest, if_neg (by rw [h]; decide), if_neg (by rw [h1]; decide), if_pos h2]
theorem rest_needs {a : ActionV} (h : commandsErr a.commands = 0) (h1 : checkVarsS a.vars = 0) (h2 : checkOutputsS a.outputs = 0) (h3 : checkVarsS a.needs ≠ 0) : actRest a = checkVarsS a.needs := by
  rw [actRest, if_neg (by rw [h]; decide), if_neg (by rw [h1]; decide), if_neg (by rw [h2]; decide), if_pos h3]
theorem rest_time {a : ActionV} (h : commandsErr a.commands = 0) (h1 : checkVarsS a.vars = 0) (h2 : checkOutputsS a.outputs = 0) (h3 : checkVarsS a.needs = 0) : actRest a = if withinB a.time 1 100000 = false then 1 else 0 := by
  rw [actRest, if_neg (by rw [h]; decide), if_neg (by rw [h1]; decide), if_neg (by rw [h2]; decide), if_neg (by rw [h3]; decide)]
theorem commands_round {l : List (List ByteArray)} {k : Nat} {x : List ByteArray} (hx : l[k]? = some x) (h : checkCommandS x = 0) : commandsErr (l.drop k) = commandsErr (l.drop (k + 1)) := by
  rw [drop_at hx, commandsErr, if_pos h]
theorem commands_stop {l : List (List ByteArray)} {k : Nat} {x : List ByteArray} (hx : l[k]? = some x) (h : checkCommandS x ≠ 0) : commandsErr (l.drop k) = checkCommandS x := by
  rw [drop_at hx, commandsErr, if_neg h]

set_option maxHeartbeats 2000000 in
set_option maxRecDepth 100000 in
theorem act_CheckAction (a : ActionV) (A : Option Addr) (n n' : Nat) (B : Option Addr) (m m' : Nat) (C : Option Addr) (p p' : Nat) (D : Option Addr) (q q' : Nat) (w : World) (hE : Env w) (ha : ActIs w a A n B m C p D q) :
    Calls Tryz.prog 12 #[actVal a A n n' B m m' C p p' D q q'] w fun e w' => e = .returned (.int .i64 (checkActionS a)) ∧ Below w.heap.size w w' := by
  unfold actVal
  have hm : n ≤ 9223372036854775807 := ha.commands.2.1
  have HL := Lib.hid ha.commands.1
  have htl := ha.tool
  have hE1 := hE.then_ (fr_alloc (fr_refl w) (.cells #[.string a.tool, .slice A n n', .slice B m m', .slice C p p', .slice D q q', .int .i64 a.time] 26))
  cases h0 : isDigestS a.tool
  · have HV := Lib.hid (action_tool h0)
    go_enter Tryz.func12, Tryz.ntmps12
    go_wp2_with fail
    refine (blob_IsDigest _ _ htl).mono ?_
    rintro e w1 ⟨rfl, hb1⟩
    go_wp2
    go_ret; exact ⟨ret_int HV.out.symm, (by repeat (first | exact fr_refl _ | refine fr_call ?_ (by assumption) | refine fr_alloc ?_ _ | refine fr_set ?_ (by simp) _ | refine Below.drew ?_ | refine below_drewN ?_ _))⟩
  have H0 := Lib.hid h0
  by_cases hn0 : n = 0
  · subst hn0
    have HV := Lib.hid (action_none H0.out HL.out)
    go_enter Tryz.func12, Tryz.ntmps12
    go_wp2_with fail
    refine (blob_IsDigest _ _ htl).mono ?_
    rintro e w1 ⟨rfl, hb1⟩
    obtain ⟨hc1, hf1⟩ := bcell hb1
    go_wp2
    go_ret; exact ⟨ret_int HV.out.symm, (by repeat (first | exact fr_refl _ | refine fr_call ?_ (by assumption) | refine fr_alloc ?_ _ | refine fr_set ?_ (by simp) _ | refine Below.drew ?_ | refine below_drewN ?_ _))⟩
  have hne : ((n : Int) == 0) = false := by rw [beq_eq_false_iff_ne]; omega
  by_cases hbig : (50 : Int) < n
  · have HV := Lib.hid (action_large H0.out (by rw [HL.out]; exact hn0) (by rw [HL.out]; exact hbig))
    go_enter Tryz.func12, Tryz.ntmps12
    go_wp2_with fail
    refine (blob_IsDigest _ _ htl).mono ?_
    rintro e w1 ⟨rfl, hb1⟩
    obtain ⟨hc1, hf1⟩ := bcell hb1
    go_wp2
    go_ret; exact ⟨ret_int HV.out.symm, (by repeat (first | exact fr_refl _ | refine fr_call ?_ (by assumption) | refine fr_alloc ?_ _ | refine fr_set ?_ (by simp) _ | refine Below.drew ?_ | refine below_drewN ?_ _))⟩
  have HR := Lib.hid (action_rest H0.out (by rw [HL.out]; exact hn0) (by rw [HL.out]; exact hbig))
  go_enter Tryz.func12, Tryz.ntmps12
  go_wp2_with fail
  refine (blob_IsDigest _ _ htl).mono ?_
  rintro e w1 ⟨rfl, hb1⟩
  obtain ⟨hc1, hf1⟩ := bcell hb1
  have hz1 := grew hb1
  have hbel1 : Below w.heap.size w w1 := (by repeat (first | exact fr_refl _ | refine fr_call ?_ (by assumption) | refine fr_alloc ?_ _ | refine fr_set ?_ (by simp) _ | refine Below.drew ?_ | refine below_drewN ?_ _))
  go_wp2
  go_loopw [4, 5, 24] (fun _ _ i wr => ∃ k : Nat, k ≤ n ∧ i = .int .i64 k ∧ commandsErr a.commands = commandsErr (a.commands.drop k) ∧ Below w1.heap.size w1 wr) (fun _ _ i _ => n - (intOf i).toNat)
  case atStart => exact ⟨0, Nat.zero_le _, rfl, rfl, Below.refl _ _⟩
  case round =>
    obtain ⟨k, hk, rfl, hd, hbr⟩ := hrel
    have Hr := Lib.hid hd; clear hd
    have hbel := fr_call hbel1 hbr
    have hEr := hE.then_ hbel
    have har := ha.then_ hbel
    by_cases hlt : k < n
    · obtain ⟨b, o, x, A', l', c', rfl, hb, hx, hlc, hcm, hsl', c0⟩ := har.commands.row hlt
      have HX := Lib.hid hx; clear hx
      cases hv : (checkCommandS x == 0)
      · have hne : checkCommandS x ≠ 0 := by simpa using hv
        have hbn : (checkCommandS x != 0) = true := by simpa using hv
        have HV := Lib.hid (rest_cmd (Hr.out.trans (commands_stop HX.out hne)) hne)
        clear hne
        go_wp2_with fail
        refine (act_checkCommand _ _ _ _ _ hEr hsl' hlc).mono ?_
        rintro e w2 ⟨rfl, hb2⟩
        go_wp2
        go_ret
        exact ⟨ret_int (by rw [HR.out, HV.out]), fr_call hbel hb2⟩
      · have hz : checkCommandS x = 0 := by simpa using hv
        have hbn : (checkCommandS x != 0) = false := by simpa using hv
        have HV := Lib.hid (Hr.out.trans (commands_round HX.out hz))
        clear hz
        go_wp2_with fail
        refine (act_checkCommand _ _ _ _ _ hEr hsl' hlc).mono ?_
        rintro e w2 ⟨rfl, hb2⟩
        go_wp2
        go_round
        case rel => exact ⟨k + 1, by omega, by go_num, HV.out, hbr.trans (hb2.mono hbr.size)⟩
        case measure => simp [intOf]; omega
    · have HZ := Lib.hid (show commandsErr a.commands = 0 by rw [Hr.out, List.drop_eq_nil_of_le (by rw [ha.commands.1]; omega)]; rfl)
      obtain ⟨hcr, hfr⟩ := bcell hbr
      have hzr : w.heap.size < wr.heap.size := Nat.lt_of_lt_of_le hz1 hbr.size
      go_wp2_with fail
      refine (act_checkVars _ _ _ _ _ har.vars).mono ?_
      rintro e w3 ⟨rfl, hb3⟩
      have hbel3 := fr_call hbel hb3
      obtain ⟨hc3, hf3⟩ := bcell hb3
      have hz3 : w.heap.size < w3.heap.size := Nat.lt_of_lt_of_le hzr hb3.size
      cases hv : (checkVarsS a.vars == 0)
      · have hne : checkVarsS a.vars ≠ 0 := by simpa using hv
        have hbn : (checkVarsS a.vars != 0) = true := by simpa using hv
        have HV := Lib.hid (rest_vars HZ.out hne)
        clear hne
        go_wp2
        go_ret
        exact ⟨ret_int (by rw [HR.out, HV.out]), hbel3⟩
      have hzv : checkVarsS a.vars = 0 := by simpa using hv
      have hbnv : (checkVarsS a.vars != 0) = false := by simpa using hv
      have HZ1 := Lib.hid hzv; clear hzv hv
      go_wp2_with fail
      refine (act_checkOutputs _ _ _ _ _ (hE.then_ hbel3) (ha.then_ hbel3).outputs).mono ?_
      rintro e w4 ⟨rfl, hb4⟩
      have hbel4 := fr_call hbel3 hb4
      obtain ⟨hc4, hf4⟩ := bcell hb4
      have hz4 : w.heap.size < w4.heap.size := Nat.lt_of_lt_of_le hz3 hb4.size
      cases hv : (checkOutputsS a.outputs == 0)
      · have hne : checkOutputsS a.outputs ≠ 0 := by simpa using hv
        have hbn : (checkOutputsS a.outputs != 0) = true := by simpa using hv
        have HV := Lib.hid (rest_outs HZ.out HZ1.out hne)
        clear hne
        go_wp2
        go_ret
        exact ⟨ret_int (by rw [HR.out, HV.out]), hbel4⟩
      have hzv : checkOutputsS a.outputs = 0 := by simpa using hv
      have hbnv2 : (checkOutputsS a.outputs != 0) = false := by simpa using hv
      have HZ2 := Lib.hid hzv; clear hzv hv
      go_wp2_with fail
      refine (act_checkVars _ _ _ _ _ (ha.then_ hbel4).needs).mono ?_
      rintro e w5 ⟨rfl, hb5⟩
      have hbel5 := fr_call hbel4 hb5
      obtain ⟨hc5, hf5⟩ := bcell hb5
      have hz5 : w.heap.size < w5.heap.size := Nat.lt_of_lt_of_le hz4 hb5.size
      cases hv : (checkVarsS a.needs == 0)
      · have hne : checkVarsS a.needs ≠ 0 := by simpa using hv
        have hbn : (checkVarsS a.needs != 0) = true := by simpa using hv
        have HV := Lib.hid (rest_needs HZ.out HZ1.out HZ2.out hne)
        clear hne
        go_wp2
        go_ret
        exact ⟨ret_int (by rw [HR.out, HV.out]), hbel5⟩
      have hzv : checkVarsS a.needs = 0 := by simpa using hv
      have hbnv3 : (checkVarsS a.needs != 0) = false := by simpa using hv
      have HZ3 := Lib.hid hzv; clear hzv hv
      have HT := Lib.hid (rest_time HZ.out HZ1.out HZ2.out HZ3.out)
      by_cases ht1 : a.time < 1
      · have HW := Lib.hid (show withinB a.time 1 100000 = false by simp [withinB]; omega)
        go_wp2
        go_ret
        exact ⟨ret_int (by rw [HR.out, HT.out, if_pos HW.out]), hbel5⟩
      by_cases ht2 : 100000 < a.time
      · have HW := Lib.hid (show withinB a.time 1 100000 = false by simp [withinB]; omega)
        go_wp2
        go_ret
        exact ⟨ret_int (by rw [HR.out, HT.out, if_pos HW.out]), hbel5⟩
      have HW := Lib.hid (show withinB a.time 1 100000 = true by simp [withinB]; omega)
      go_wp2
      go_ret
      exact ⟨ret_int (by rw [HR.out, HT.out, if_neg (by rw [HW.out]; decide)]), hbel5⟩
set_option maxHeartbeats 2000000 in
set_option maxRecDepth 100000 in
theorem ref5_CheckAction (a : ActionV) (A : Option Addr) (n n' : Nat) (B : Option Addr) (m m' : Nat) (C : Option Addr) (p p' : Nat) (D : Option Addr) (q q' : Nat) (w : World) (hE : Env w) (ha : ActIs w a A n B m C p D q) :
    Calls Tryz.prog 15 #[actVal a A n n' B m m' C p p' D q q'] w fun e w' => e = .returned (.int .i64 (checkActionS a)) ∧ Below w.heap.size w w' := by
  unfold actVal
  have hm : n ≤ 9223372036854775807 := ha.commands.2.1
  have HL := Lib.hid ha.commands.1
  have htl := ha.tool
  have hE1 := hE.then_ (fr_alloc (fr_refl w) (.cells #[.string a.tool, .slice A n n', .slice B m m', .slice C p p', .slice D q q', .int .i64 a.time] 26))
  cases h0 : isDigestS a.tool
  · have HV := Lib.hid (action_tool h0)
    go_enter Tryz.func15, Tryz.ntmps15
    go_wp2_with fail
    refine (ref1_IsDigest' _ _ htl).mono ?_
    rintro e w1 ⟨rfl, hb1⟩
    go_wp2
    go_ret; exact ⟨ret_int HV.out.symm, (by repeat (first | exact fr_refl _ | refine fr_call ?_ (by assumption) | refine fr_alloc ?_ _ | refine fr_set ?_ (by simp) _ | refine Below.drew ?_ | refine below_drewN ?_ _))⟩
  have H0 := Lib.hid h0
  by_cases hn0 : n = 0
  · subst hn0
    have HV := Lib.hid (action_none H0.out HL.out)
    go_enter Tryz.func15, Tryz.ntmps15
    go_wp2_with fail
    refine (ref1_IsDigest' _ _ htl).mono ?_
    rintro e w1 ⟨rfl, hb1⟩
    obtain ⟨hc1, hf1⟩ := bcell hb1
    go_wp2
    go_ret; exact ⟨ret_int HV.out.symm, (by repeat (first | exact fr_refl _ | refine fr_call ?_ (by assumption) | refine fr_alloc ?_ _ | refine fr_set ?_ (by simp) _ | refine Below.drew ?_ | refine below_drewN ?_ _))⟩
  have hne : ((n : Int) == 0) = false := by rw [beq_eq_false_iff_ne]; omega
  by_cases hbig : (50 : Int) < n
  · have HV := Lib.hid (action_large H0.out (by rw [HL.out]; exact hn0) (by rw [HL.out]; exact hbig))
    go_enter Tryz.func15, Tryz.ntmps15
    go_wp2_with fail
    refine (ref1_IsDigest' _ _ htl).mono ?_
    rintro e w1 ⟨rfl, hb1⟩
    obtain ⟨hc1, hf1⟩ := bcell hb1
    go_wp2
    go_ret; exact ⟨ret_int HV.out.symm, (by repeat (first | exact fr_refl _ | refine fr_call ?_ (by assumption) | refine fr_alloc ?_ _ | refine fr_set ?_ (by simp) _ | refine Below.drew ?_ | refine below_drewN ?_ _))⟩
  have HR := Lib.hid (action_rest H0.out (by rw [HL.out]; exact hn0) (by rw [HL.out]; exact hbig))
  go_enter Tryz.func15, Tryz.ntmps15
  go_wp2_with fail
  refine (ref1_IsDigest' _ _ htl).mono ?_
  rintro e w1 ⟨rfl, hb1⟩
  obtain ⟨hc1, hf1⟩ := bcell hb1
  have hz1 := grew hb1
  have hbel1 : Below w.heap.size w w1 := (by repeat (first | exact fr_refl _ | refine fr_call ?_ (by assumption) | refine fr_alloc ?_ _ | refine fr_set ?_ (by simp) _ | refine Below.drew ?_ | refine below_drewN ?_ _))
  go_wp2
  go_loopw [3, 4] (fun i _ wr => ∃ k : Nat, k ≤ n ∧ i = .int .i64 k ∧ commandsErr a.commands = commandsErr (a.commands.drop k) ∧ Below w1.heap.size w1 wr) (fun i _ _ => n - (intOf i).toNat)
  case atStart => exact ⟨0, Nat.zero_le _, rfl, rfl, Below.refl _ _⟩
  case round =>
    obtain ⟨k, hk, rfl, hd, hbr⟩ := hrel
    have Hr := Lib.hid hd; clear hd
    have hbel := fr_call hbel1 hbr
    have hEr := hE.then_ hbel
    have har := ha.then_ hbel
    obtain ⟨hcr, hfr⟩ := bcell hbr
    have hzr : w.heap.size < wr.heap.size := Nat.lt_of_lt_of_le hz1 hbr.size
    by_cases hlt : k < n
    · obtain ⟨b, o, x, A', l', c', rfl, hb, hx, hlc, hcm, hsl', c0⟩ := har.commands.row hlt
      have HX := Lib.hid hx; clear hx
      cases hv : (checkCommandS x == 0)
      · have hne : checkCommandS x ≠ 0 := by simpa using hv
        have hbn : (checkCommandS x != 0) = true := by simpa using hv
        have HV := Lib.hid (rest_cmd (Hr.out.trans (commands_stop HX.out hne)) hne)
        clear hne
        go_wp2_with fail
        refine (ref5_checkCommand _ _ _ _ _ hEr hsl' hlc).mono ?_
        rintro e w2 ⟨rfl, hb2⟩
        go_wp2
        go_ret
        exact ⟨ret_int (by rw [HR.out, HV.out]), fr_call hbel hb2⟩
      · have hz : checkCommandS x = 0 := by simpa using hv
        have hbn : (checkCommandS x != 0) = false := by simpa using hv
        have HV := Lib.hid (Hr.out.trans (commands_round HX.out hz))
        clear hz
        go_wp2_with fail
        refine (ref5_checkCommand _ _ _ _ _ hEr hsl' hlc).mono ?_
        rintro e w2 ⟨rfl, hb2⟩
        go_wp2
        go_round
        case rel => exact ⟨k + 1, by omega, by go_num, HV.out, hbr.trans (hb2.mono hbr.size)⟩
        case measure => simp [intOf]; omega
    · have HZ := Lib.hid (show commandsErr a.commands = 0 by rw [Hr.out, List.drop_eq_nil_of_le (by rw [ha.commands.1]; omega)]; rfl)
      go_wp2_with fail
      refine (ref5_checkVars _ _ _ _ _ har.vars).mono ?_
      rintro e w3 ⟨rfl, hb3⟩
      have hbel3 := fr_call hbel hb3
      obtain ⟨hc3, hf3⟩ := bcell hb3
      have hz3 : w.heap.size < w3.heap.size := Nat.lt_of_lt_of_le hzr hb3.size
      cases hv : (checkVarsS a.vars == 0)
      · have hne : checkVarsS a.vars ≠ 0 := by simpa using hv
        have hbn : (checkVarsS a.vars != 0) = true := by simpa using hv
        have HV := Lib.hid (rest_vars HZ.out hne)
        clear hne
        go_wp2
        go_ret
        exact ⟨ret_int (by rw [HR.out, HV.out]), hbel3⟩
      have hzv : checkVarsS a.vars = 0 := by simpa using hv
      have hbnv : (checkVarsS a.vars != 0) = false := by simpa using hv
      have HZ1 := Lib.hid hzv; clear hzv hv
      go_wp2_with fail
      refine (ref5_checkOutputs _ _ _ _ _ (hE.then_ hbel3) (ha.then_ hbel3).outputs).mono ?_
      rintro e w4 ⟨rfl, hb4⟩
      have hbel4 := fr_call hbel3 hb4
      obtain ⟨hc4, hf4⟩ := bcell hb4
      have hz4 : w.heap.size < w4.heap.size := Nat.lt_of_lt_of_le hz3 hb4.size
      cases hv : (checkOutputsS a.outputs == 0)
      · have hne : checkOutputsS a.outputs ≠ 0 := by simpa using hv
        have hbn : (checkOutputsS a.outputs != 0) = true := by simpa using hv
        have HV := Lib.hid (rest_outs HZ.out HZ1.out hne)
        clear hne
        go_wp2
        go_ret
        exact ⟨ret_int (by rw [HR.out, HV.out]), hbel4⟩
      have hzv : checkOutputsS a.outputs = 0 := by simpa using hv
      have hbnv2 : (checkOutputsS a.outputs != 0) = false := by simpa using hv
      have HZ2 := Lib.hid hzv; clear hzv hv
      go_wp2_with fail
      refine (ref5_checkVars _ _ _ _ _ (ha.then_ hbel4).needs).mono ?_
      rintro e w5 ⟨rfl, hb5⟩
      have hbel5 := fr_call hbel4 hb5
      obtain ⟨hc5, hf5⟩ := bcell hb5
      have hz5 : w.heap.size < w5.heap.size := Nat.lt_of_lt_of_le hz4 hb5.size
      cases hv : (checkVarsS a.needs == 0)
      · have hne : checkVarsS a.needs ≠ 0 := by simpa using hv
        have hbn : (checkVarsS a.needs != 0) = true := by simpa using hv
        have HV := Lib.hid (rest_needs HZ.out HZ1.out HZ2.out hne)
        clear hne
        go_wp2
        go_ret
        exact ⟨ret_int (by rw [HR.out, HV.out]), hbel5⟩
      have hzv : checkVarsS a.needs = 0 := by simpa using hv
      have hbnv3 : (checkVarsS a.needs != 0) = false := by simpa using hv
      have HZ3 := Lib.hid hzv; clear hzv hv
      have HT := Lib.hid (rest_time HZ.out HZ1.out HZ2.out HZ3.out)
      cases ht : withinB a.time 1 100000
      · go_wp2_with (go_at_call 35; refine (ref5_within _ _ _ _).mono ?_; rintro e w6 ⟨rfl, rfl⟩)
        go_ret
        exact ⟨ret_int (by rw [HR.out, HT.out, if_pos ht]), hbel5⟩
      · go_wp2_with (go_at_call 35; refine (ref5_within _ _ _ _).mono ?_; rintro e w6 ⟨rfl, rfl⟩)
        go_ret
        exact ⟨ret_int (by rw [HR.out, HT.out, if_neg (by rw [ht]; decide)]), hbel5⟩
end Go.Proofs.Sm

namespace Go.Proofs.Sm
open Go.RowKit Go.ChangeShapes Go.WideShapes Go.ChangeAt

section
variable {H : Type} {enc : TypeId × Value → H} {w : World} {base : Nat} {spare : Nat → Bool} {held : Bool}
theorem two_of {α : Type} {l : List α} (h : l.length = 2) : ∃ a b, l = [a, b] := by
  rcases l with _ | ⟨a, _ | ⟨b, _ | ⟨c, r⟩⟩⟩
  all_goals (try (simp at h; done))
  exact ⟨a, b, rfl⟩
theorem six_of {α : Type} {l : List α} (h : l.length = 6) : ∃ a b c d e f, l = [a, b, c, d, e, f] := by
  rcases l with _ | ⟨a, _ | ⟨b, _ | ⟨c, _ | ⟨d, _ | ⟨e, _ | ⟨f, _ | ⟨g, r⟩⟩⟩⟩⟩⟩⟩
  all_goals (try (simp at h; done))
  exact ⟨a, b, c, d, e, f, rfl⟩
theorem dec_var : Dec enc Tryz.prog w base spare held 47 VarV := fun fuel cs d h => by
  obtain ⟨xs, n, _, _, hlen, hxl, hf⟩ := DataW.trod_struct Tryz.underlying47 h
  have hc : Tryz.prog.cellsOf 47 = 2 := by kernel_rfl
  have cS : Tryz.prog.cellsOf 9 = 1 := by kernel_rfl
  rw [hc] at hlen
  have hxl' : xs.length = 2 := hxl
  obtain ⟨a, b, rfl⟩ := two_of hlen
  · -- the two cells
    obtain ⟨y0, e0⟩ := at_some hxl' (show 0 < 2 by decide)
    obtain ⟨y1, e1⟩ := at_some hxl' (show 1 < 2 by decide)
    have f0 : DataW.trod enc Tryz.prog w base spare held n 9 [a] = some y0 := by
      have h := (hf 0 _ rfl).trans e0
      change DataW.trod enc _ w base spare held n 9 (List.take (Tryz.prog.cellsOf 9) (List.drop 0 [a, b])) = some y0 at h
      rw [cS] at h
      exact h
    have f1 : DataW.trod enc Tryz.prog w base spare held n 9 [b] = some y1 := by
      have h := (hf 1 _ rfl).trans e1
      change DataW.trod enc _ w base spare held n 9 (List.take (Tryz.prog.cellsOf 9) (List.drop 1 [a, b])) = some y1 at h
      rw [cS] at h
      exact h
    obtain ⟨s0, h0, _, z0⟩ := DataW.trod_string Tryz.underlying9 f0
    obtain ⟨s1, h1, _, z1⟩ := DataW.trod_string Tryz.underlying9 f1
    cases h0; cases h1
    exact ⟨⟨s0, s1⟩, rfl, z0, z1⟩
theorem dec_strs : Dec enc Tryz.prog w base spare held 24 (List ByteArray) := dec_slice Tryz.underlying24 (by kernel_rfl) (by decide) (dec_string Tryz.underlying9)
theorem dec_rows : Dec enc Tryz.prog w base spare held 22 (List (List ByteArray)) := dec_slice Tryz.underlying22 (by kernel_rfl) (by decide) dec_strs
theorem dec_vars : Dec enc Tryz.prog w base spare held 23 (List VarV) := dec_slice Tryz.underlying23 (by kernel_rfl) (by decide) dec_var
theorem action_of {cs : List Value} {fuel : Nat} {d : DataW H × List MemPlace} (h : DataW.trod enc Tryz.prog w base spare held fuel 26 cs = some d) :
    ∃ a A n n' B m m' C p p' D q q', ActIs w a A n B m C p D q ∧ cs = [.string a.tool, .slice A n n', .slice B m m', .slice C p p', .slice D q q', .int .i64 a.time] := by
  obtain ⟨xs, n, _, _, hlen, hxl, hf⟩ := DataW.trod_struct Tryz.underlying26 h
  have hc : Tryz.prog.cellsOf 26 = 6 := by kernel_rfl
  have cI : Tryz.prog.cellsOf 3 = 1 := by kernel_rfl
  have cS : Tryz.prog.cellsOf 9 = 1 := by kernel_rfl
  have cR : Tryz.prog.cellsOf 22 = 1 := by kernel_rfl
  have cV : Tryz.prog.cellsOf 23 = 1 := by kernel_rfl
  have cL : Tryz.prog.cellsOf 24 = 1 := by kernel_rfl
  rw [hc] at hlen
  have hxl' : xs.length = 6 := hxl
  obtain ⟨a0, a1, a2, a3, a4, a5, rfl⟩ := six_of hlen
  obtain ⟨y0, e0⟩ := at_some hxl' (show 0 < 6 by decide)
  obtain ⟨y1, e1⟩ := at_some hxl' (show 1 < 6 by decide)
  obtain ⟨y2, e2⟩ := at_some hxl' (show 2 < 6 by decide)
  obtain ⟨y3, e3⟩ := at_some hxl' (show 3 < 6 by decide)
  obtain ⟨y4, e4⟩ := at_some hxl' (show 4 < 6 by decide)
  obtain ⟨y5, e5⟩ := at_some hxl' (show 5 < 6 by decide)
  have f0 : DataW.trod enc Tryz.prog w base spare held n 9 [a0] = some y0 := by
    have h := (hf 0 _ rfl).trans e0
    change DataW.trod enc _ w base spare held n 9 (List.take (Tryz.prog.cellsOf 9) (List.drop 0 [a0, a1, a2, a3, a4, a5])) = some y0 at h
    rw [cS] at h
    exact h
  have f1 : DataW.trod enc Tryz.prog w base spare held n 22 [a1] = some y1 := by
    have h := (hf 1 _ rfl).trans e1
    change DataW.trod enc _ w base spare held n 22 (List.take (Tryz.prog.cellsOf 22) (List.drop 1 [a0, a1, a2, a3, a4, a5])) = some y1 at h
    rw [cR] at h
    exact h
  have f2 : DataW.trod enc Tryz.prog w base spare held n 23 [a2] = some y2 := by
    have h := (hf 2 _ rfl).trans e2
    change DataW.trod enc _ w base spare held n 23 (List.take (Tryz.prog.cellsOf 23) (List.drop 2 [a0, a1, a2, a3, a4, a5])) = some y2 at h
    rw [cV] at h
    exact h
  have f3 : DataW.trod enc Tryz.prog w base spare held n 24 [a3] = some y3 := by
    have h := (hf 3 _ rfl).trans e3
    change DataW.trod enc _ w base spare held n 24 (List.take (Tryz.prog.cellsOf 24) (List.drop 3 [a0, a1, a2, a3, a4, a5])) = some y3 at h
    rw [cL] at h
    exact h
  have f4 : DataW.trod enc Tryz.prog w base spare held n 23 [a4] = some y4 := by
    have h := (hf 4 _ rfl).trans e4
    change DataW.trod enc _ w base spare held n 23 (List.take (Tryz.prog.cellsOf 23) (List.drop 4 [a0, a1, a2, a3, a4, a5])) = some y4 at h
    rw [cV] at h
    exact h
  have f5 : DataW.trod enc Tryz.prog w base spare held n 3 [a5] = some y5 := by
    have h := (hf 5 _ rfl).trans e5
    change DataW.trod enc _ w base spare held n 3 (List.take (Tryz.prog.cellsOf 3) (List.drop 5 [a0, a1, a2, a3, a4, a5])) = some y5 at h
    rw [cI] at h
    exact h
  obtain ⟨s0, r0, z0⟩ := dec_string Tryz.underlying9 _ _ _ f0
  obtain ⟨l1, A, k1, c1, r1, _, _, z1⟩ := dec_rows _ _ _ f1
  obtain ⟨l2, B, k2, c2, r2, _, _, z2⟩ := dec_vars _ _ _ f2
  obtain ⟨l3, C, k3, c3, r3, _, _, z3⟩ := dec_strs _ _ _ f3
  obtain ⟨l4, D, k4, c4, r4, _, _, z4⟩ := dec_vars _ _ _ f4
  obtain ⟨n5, r5, z5⟩ := dec_int Tryz.underlying3 _ _ _ f5
  cases r0; cases r1; cases r2; cases r3; cases r4; cases r5
  exact ⟨⟨s0, l1, l2, l3, l4, n5⟩, A, k1, c1, B, k2, c2, C, k3, c3, D, k4, c4, ⟨z0, z1, z2, z3, z4, z5⟩, rfl⟩
end
/-- a world that lays errors of package errors, each in a block of its own -/
noncomputable def errWorld (w0 : World) (tp ts : TypeId) (errs : List (Nat × List UInt8)) : World :=
  { w0 with heap := errs.foldl (fun h e => (h.push (.cells #[.string ⟨e.2.toArray⟩] ts (0, 0))).modify e.1 fun
    | .cells _ ty frozen => .cells #[.iface tp (.pointer (some ⟨h.size, 0, none⟩))] ty frozen
    | o => o) w0.heap }
end Go.Proofs.Sm

namespace Go.Proofs.Sm
open Go.RowKit

/-! ### Pieces between bytes c -/
def piecesL (c : UInt8) : List UInt8 → List (List UInt8)
  | [] => [[]]
  | b :: l => if b = c then [] :: piecesL c l else match piecesL c l with
    | [] => [[b]]
    | x :: r => (b :: x) :: r
theorem pieces_none {c : UInt8} : ∀ {l : List UInt8}, c ∉ l → piecesL c l = [l]
  | [], _ => rfl
  | b :: l, h => by
    simp only [List.mem_cons, not_or] at h
    rw [piecesL, if_neg (Ne.symm h.1), pieces_none h.2]
theorem pieces_app {c : UInt8} {t : List UInt8} : ∀ {a : List UInt8}, c ∉ a → piecesL c (a ++ c :: t) = a :: piecesL c t
  | [], _ => by rw [List.nil_append, piecesL, if_pos rfl]
  | b :: a, h => by
    simp only [List.mem_cons, not_or] at h
    rw [List.cons_append, piecesL, if_neg (Ne.symm h.1), pieces_app h.2]
theorem index_piece (c : UInt8) : ∀ l : List UInt8, (c ∉ l ∧ Lib.index l [c] = -1) ∨ ∃ a t, l = a ++ c :: t ∧ c ∉ a ∧ Lib.index l [c] = a.length
  | [] => .inl ⟨by simp, by simp [Lib.index]⟩
  | b :: l => by
    by_cases h : b = c
    · subst h
      exact .inr ⟨[], l, rfl, by simp, by rw [Lib.index]; simp [List.isPrefixOf]⟩
    · have hp : ([c] : List UInt8).isPrefixOf (b :: l) = false := by simp [List.isPrefixOf, Ne.symm h]
      have hix : Lib.index (b :: l) [c] = if Lib.index l [c] == -1 then -1 else Lib.index l [c] + 1 := by rw [Lib.index, hp]; simp
      rcases index_piece c l with ⟨h1, h2⟩ | ⟨a, t, rfl, h2, h3⟩
      · refine .inl ⟨?_, by rw [hix, h2]; rfl⟩
        simp only [List.mem_cons, not_or]
        exact ⟨Ne.symm h, h1⟩
      · refine .inr ⟨b :: a, t, rfl, ?_, ?_⟩
        · simp only [List.mem_cons, not_or]
          exact ⟨Ne.symm h, h2⟩
        · rw [hix, h3, if_neg (by rw [beq_iff_eq]; omega), List.length_cons]
          omega
theorem cut_none {c : UInt8} {l : List UInt8} (h : c ∉ l) : Lib.cut l [c] = (l, [], false) := by
  rcases index_piece c l with ⟨_, h2⟩ | ⟨a, t, rfl, _, _⟩
  · rw [Lib.cut, h2, if_neg (by omega)]
  · simp at h
theorem cut_some {c : UInt8} {a t : List UInt8} (h : c ∉ a) : Lib.cut (a ++ c :: t) [c] = (a, t, true) := by
  rcases index_piece c (a ++ c :: t) with ⟨h1, _⟩ | ⟨a', t', e, h2, h3⟩
  · simp at h1
  · have key : ∀ (a a' t t' : List UInt8), c ∉ a → c ∉ a' → a ++ c :: t = a' ++ c :: t' → a = a' := by
      intro a
      induction a with
      | nil =>
        intro a' t t' _ h2 e
        cases a' with
        | nil => rfl
        | cons x r => simp at e h2; exact absurd e.1 h2.1
      | cons b a ih =>
        intro a' t t' h1 h2 e
        cases a' with
        | nil => simp at e h1; exact absurd e.1.symm h1.1
        | cons x r =>
          simp at e h1 h2
          rw [e.1, ih r t t' h1.2 h2.2 e.2]
    have ha := key a a' t t' h h2 e
    subst ha
    have h3' : (Lib.index (a ++ c :: t) [c]).toNat = a.length := by omega
    rw [Lib.cut, if_pos (by omega), h3']
    simp
theorem cut_has {c : UInt8} {l : List UInt8} (h : (Lib.cut l [c]).2.2 = true) : c ∉ (Lib.cut l [c]).1 ∧ l = (Lib.cut l [c]).1 ++ c :: (Lib.cut l [c]).2.1 := by
  rcases index_piece c l with ⟨h1, _⟩ | ⟨a, t, rfl, h2, _⟩
  · rw [cut_none h1] at h; cases h
  · rw [cut_some h2]; exact ⟨h2, rfl⟩
theorem cut_hasnt {c : UInt8} {l : List UInt8} (h : (Lib.cut l [c]).2.2 = false) : c ∉ l ∧ (Lib.cut l [c]).1 = l ∧ (Lib.cut l [c]).2.1 = [] := by
  rcases index_piece c l with ⟨h1, _⟩ | ⟨a, t, rfl, h2, _⟩
  · rw [cut_none h1]; exact ⟨h1, rfl, rfl⟩
  · rw [cut_some h2] at h; cases h
theorem splitK_pieces (c : UInt8) : ∀ (n : Nat) (l : List UInt8), l.length ≤ n → Lib.splitK [c] 0 (Lib.count l [c]) l = piecesL c l := by
  intro n
  induction n with
  | zero =>
    intro l h
    have : l = [] := List.eq_nil_of_length_eq_zero (by omega)
    subst this
    rw [Lib.count_miss (by simp [Lib.index])]
    rfl
  | succ n ih =>
    intro l h
    rcases index_piece c l with ⟨h1, h2⟩ | ⟨a, t, rfl, h2, h3⟩
    · rw [Lib.count_miss h2, pieces_none h1]; rfl
    · rw [Lib.count_hit (by simp) h3, pieces_app h2, Nat.add_comm, Lib.splitK, if_neg (by rw [h3, beq_iff_eq]; omega), h3]
      have e1 : ((a.length : Int).toNat) = a.length := by omega
      have e2 : (a ++ c :: t).drop (a.length + [c].length) = t := by simp
      have e3 : (a ++ c :: t).take (a.length + 0) = a := by simp
      rw [e1, e2, e3, ih t (by simp at h; omega)]
theorem pieces_ne (c : UInt8) (l : List UInt8) : piecesL c l ≠ [] := by
  cases l with
  | nil => simp [piecesL]
  | cons b l =>
    rw [piecesL]
    split
    · simp
    · split <;> simp
theorem pieces_mem {c : UInt8} {l x : List UInt8} (h : x ∈ piecesL c l) : c ∉ x := by
  induction l generalizing x with
  | nil => simp [piecesL] at h; simp [h]
  | cons b l ih =>
    rw [piecesL] at h
    split at h
    · rcases List.mem_cons.1 h with rfl | h
      · simp
      · exact ih h
    · rename_i hb
      split at h
      · rename_i hp; exact absurd hp (pieces_ne c l)
      · rename_i y r hp
        rcases List.mem_cons.1 h with rfl | h
        · simp only [List.mem_cons, not_or]
          exact ⟨Ne.symm hb, ih (by rw [hp]; simp)⟩
        · exact ih (by rw [hp]; simp [h])
theorem pieces_join (c : UInt8) (l : List UInt8) : Lib.join (piecesL c l) [c] = l := by
  induction l with
  | nil => simp [piecesL, Lib.join]
  | cons b l ih =>
    rw [piecesL]
    cases hp : piecesL c l with
    | nil => exact absurd hp (pieces_ne c l)
    | cons x r =>
      rw [hp] at ih
      rw [Lib.join_cons] at ih
      split
      · rename_i hb
        subst hb
        rw [Lib.join_cons]
        rw [← ih]
        simp [Lib.joinTail]
      · rw [Lib.join_cons, ← ih]
        simp
theorem join_pieces {c : UInt8} : ∀ {ws : List (List UInt8)}, ws ≠ [] → (∀ x ∈ ws, c ∉ x) → piecesL c (Lib.join ws [c]) = ws
  | [], h, _ => absurd rfl h
  | [x], _, h => by
    have : Lib.join [x] [c] = x := by simp [Lib.join_cons, Lib.joinTail]
    rw [this, pieces_none (h x (by simp))]
  | x :: y :: r, _, h => by
    have e : Lib.join (x :: y :: r) [c] = x ++ c :: Lib.join (y :: r) [c] := by
      rw [Lib.join_cons, Lib.join_cons]; simp [Lib.joinTail]
    rw [e, pieces_app (h x (by simp)), join_pieces (by simp) (fun z hz => h z (by simp only [List.mem_cons] at hz ⊢; exact .inr hz))]

/-! ### Words of a line -/
def wordsOf (s : ByteArray) : List ByteArray := Lib.splitB ⟨#[32]⟩ 0 (Lib.countB s ⟨#[32]⟩) s
theorem wordsOf_data (s : ByteArray) : (wordsOf s).map (·.data.toList) = piecesL 32 s.data.toList := by
  rw [wordsOf, Lib.splitB_data]
  exact splitK_pieces 32 _ _ (Nat.le_refl _)
theorem wordsOf_length (s : ByteArray) : (wordsOf s).length = Lib.countB s ⟨#[32]⟩ + 1 := Lib.splitB_all _ (by decide) 0 _ _ rfl
theorem wordsOf_size {s x : ByteArray} (h : x ∈ wordsOf s) : x.size ≤ s.size := splitB_size h
theorem wordsOf_count (s : ByteArray) : (wordsOf s).length ≤ s.size + 1 := by
  rw [wordsOf_length]
  have := Lib.countB_le ⟨#[32]⟩ (by decide) s.size s (Nat.le_refl _)
  omega
def noneEmpty (l : List ByteArray) : Bool := !(l.any fun x => x.data.toList.isEmpty)

/-! ### Lines of a text -/
def restB (T : ByteArray) (p : Nat) : ByteArray := T.extract p T.size
theorem restB_data (T : ByteArray) (p : Nat) : (restB T p).data.toList = T.data.toList.drop p := by
  rw [restB, Lib.extract_data]
  exact List.take_of_length_le (by simp)
def lineB (T : ByteArray) (p : Nat) : ByteArray := ⟨(Lib.cut (restB T p).data.toList [10]).1.toArray⟩
def hasLine (T : ByteArray) (p : Nat) : Bool := (Lib.cut (restB T p).data.toList [10]).2.2
/-- the words of the line at a place, and the place behind it; none: the line has no end, or an empty word -/
def rowS (T : ByteArray) (p : Nat) : Option (List ByteArray × Nat) :=
  if (hasLine T p && noneEmpty (wordsOf (lineB T p))) = true then some (wordsOf (lineB T p), p + (lineB T p).size + 1) else none
theorem line_size {T : ByteArray} {p : Nat} (h : hasLine T p = true) : p + (lineB T p).size + 1 ≤ T.size := by
  have h1 := (cut_has h).2
  rw [restB_data] at h1
  have h2 := congrArg List.length h1
  have e : T.data.toList.length = T.size := by simp
  rw [List.length_drop, List.length_append, List.length_cons, e] at h2
  have e3 : (lineB T p).size = (Lib.cut (restB T p).data.toList [10]).1.length := by simp [lineB, ByteArray.size]
  rw [e3, restB_data]
  omega
theorem line_le (T : ByteArray) (p : Nat) : (lineB T p).size ≤ T.size := by
  cases h : hasLine T p
  · have h1 := (cut_hasnt h).2.1
    have e3 : (lineB T p).size = (Lib.cut (restB T p).data.toList [10]).1.length := by simp [lineB, ByteArray.size]
    rw [e3, h1, restB_data]
    simp
  · have := line_size h; omega
theorem row_place {T : ByteArray} {p q : Nat} {l : List ByteArray} (h : rowS T p = some (l, q)) : p < q ∧ q ≤ T.size := by
  rw [rowS] at h
  split at h
  · rename_i hh
    simp only [Option.some.injEq, Prod.mk.injEq] at h
    have := line_size (Bool.and_eq_true_iff.1 hh).1
    omega
  · cases h
/-- the words behind the first one, if this is the word and there are so many -/
def lineIs (T : ByteArray) (p : Nat) (word : List UInt8) (many : Nat) : Option (List ByteArray × Nat) :=
  match rowS T p with
  | some (w :: ws, q) => if (w.data.toList == word && ws.length + 1 == many) = true then some (ws, q) else none
  | _ => none
theorem lineIs_some {T : ByteArray} {p q many : Nat} {word : List UInt8} {ws : List ByteArray} (h : lineIs T p word many = some (ws, q)) :
    ∃ w, rowS T p = some (w :: ws, q) ∧ w.data.toList = word ∧ ws.length + 1 = many := by
  rw [lineIs] at h
  split at h
  · rename_i w l q' hr
    split at h
    · rename_i hc
      simp only [Bool.and_eq_true, beq_iff_eq] at hc
      simp only [Option.some.injEq, Prod.mk.injEq] at h
      obtain ⟨rfl, rfl⟩ := h
      exact ⟨w, hr, hc.1, hc.2⟩
    · cases h
  · cases h
theorem lineIs_of {T : ByteArray} {p q many : Nat} {word : List UInt8} {w : ByteArray} {ws : List ByteArray} (h : rowS T p = some (w :: ws, q)) (h1 : w.data.toList = word) (h2 : ws.length + 1 = many) : lineIs T p word many = some (ws, q) := by
  rw [lineIs, h]
  simp [h1, h2]

/-! ### Numbers read and written -/
theorem decFrom_append (l m : List UInt8) : ∀ acc, Lib.decFrom acc (l ++ m) = (Lib.decFrom acc l).bind fun n => Lib.decFrom n m := by
  induction l with
  | nil => intro acc; rfl
  | cons b l ih =>
    intro acc
    rw [List.cons_append, Lib.decFrom, Lib.decFrom]
    cases Lib.digitVal b with
    | none => rfl
    | some d => exact ih _
theorem digit_val (d : Nat) (h : d < 10) : Lib.digitVal (UInt8.ofNat (48 + d)) = some d := by
  have e : (UInt8.ofNat (48 + d)).toNat = 48 + d := by rw [UInt8.toNat_ofNat']; omega
  rw [Lib.digitVal, e, if_pos (by omega)]
  congr 1; omega
theorem digits_val : ∀ u : Nat, Lib.decFrom 0 (Lib.decDigits u) = some u := by
  intro u
  induction u using Nat.strongRecOn with
  | _ u ih =>
    rw [Lib.decDigits]
    split
    · rename_i h
      rw [Lib.decFrom, digit_val u h]
      simp [Lib.decFrom]
    · rename_i h
      rw [decFrom_append, ih (u / 10) (by omega)]
      rw [Option.bind_some, Lib.decFrom, digit_val _ (Nat.mod_lt _ (by decide))]
      simp only [Lib.decFrom, Option.some.injEq]
      omega
theorem digits_all : ∀ u : Nat, (Lib.decDigits u).all digitB = true := by
  intro u
  have hd : ∀ d, d < 10 → digitB (UInt8.ofNat (48 + d)) = true := by
    intro d hd
    have e : (UInt8.ofNat (48 + d)).toNat = 48 + d := by rw [UInt8.toNat_ofNat']; omega
    rw [digitB, e, digitI]
    simp only [Bool.and_eq_true, decide_eq_true_eq]
    omega
  induction u using Nat.strongRecOn with
  | _ u ih =>
    rw [Lib.decDigits]
    split
    · rename_i h
      rw [List.all_cons, hd u h]; rfl
    · rename_i h
      rw [List.all_append, ih (u / 10) (by omega), List.all_cons, hd _ (Nat.mod_lt u (by decide : 0 < 10))]
      rfl
theorem digits_ne (u : Nat) : Lib.decDigits u ≠ [] := by
  rw [Lib.decDigits]
  split <;> simp
theorem digits_head : ∀ u : Nat, 0 < u → (Lib.decDigits u).head? ≠ some 48 := by
  intro u
  induction u using Nat.strongRecOn with
  | _ u ih =>
    intro h0
    rw [Lib.decDigits]
    split
    · rename_i h
      simp only [List.head?_cons, ne_eq, Option.some.injEq]
      intro e
      have e1 := congrArg UInt8.toNat e
      rw [UInt8.toNat_ofNat'] at e1
      have : (48 : UInt8).toNat = 48 := rfl
      omega
    · rename_i h
      have := ih (u / 10) (by omega) (by omega)
      cases hl : Lib.decDigits (u / 10) with
      | nil => exact absurd hl (digits_ne _)
      | cons a l => rw [hl] at this; simpa using this
theorem digits_lead (u : Nat) : leadOk (Lib.decDigits u) = true := by
  by_cases h : u = 0
  · subst h
    have : Lib.decDigits 0 = [48] := by rw [Lib.decDigits, dif_pos (by decide)]; rfl
    rw [this]; rfl
  · have h1 := digits_head u (by omega)
    rw [leadOk]
    have : ((Lib.decDigits u).head? == some 48) = false := by simpa using h1
    rw [this]; rfl
/-- digits without a zero ahead are the text of their number -/
theorem digits_unique : ∀ (n : Nat) (l : List UInt8), l.length ≤ n → l ≠ [] → l.all digitB = true → leadOk l = true → ∀ u, Lib.decFrom 0 l = some u → Lib.decDigits u = l := by
  intro n
  induction n with
  | zero => intro l h hne; exact absurd (List.eq_nil_of_length_eq_zero (by omega)) hne
  | succ n ih =>
    intro l h hne hd hl u hu
    rcases List.eq_nil_or_concat l with rfl | ⟨m, b, rfl⟩
    · exact absurd rfl hne
    · rw [List.concat_eq_append] at *
      rw [List.all_append, Bool.and_eq_true] at hd
      have hb : 48 ≤ b.toNat ∧ b.toNat ≤ 57 := by
        have := hd.2
        simp [digitB, digitI] at this
        omega
      have hbo : UInt8.ofNat (48 + (b.toNat - 48)) = b := by
        apply UInt8.toNat_inj.1
        rw [UInt8.toNat_ofNat']
        omega
      have hv : Lib.digitVal b = some (b.toNat - 48) := by rw [Lib.digitVal, if_pos hb]
      rw [decFrom_append] at hu
      cases m with
      | nil =>
        rw [Lib.decFrom, Option.bind_some, Lib.decFrom, hv] at hu
        simp only [Lib.decFrom, Option.some.injEq] at hu
        rw [Lib.decDigits, dif_pos (by omega), ← hu]
        simp only [Nat.zero_mul, Nat.zero_add, hbo, List.nil_append]
      | cons a m =>
        obtain ⟨k, hk, _⟩ := decFrom_some (a :: m) 0 hd.1
        rw [hk, Option.bind_some, Lib.decFrom, hv] at hu
        simp only [Lib.decFrom, Option.some.injEq] at hu
        have hlead : leadOk (a :: m) = true ∧ a ≠ 48 := by
          have ha : a ≠ 48 := by
            intro e
            subst e
            rw [leadOk] at hl
            have h1 : ((48 :: m ++ [b]).head? == some (48 : UInt8)) = true := by simp
            have h2 : ((48 :: m ++ [b]) == [48]) = false := by simp
            rw [h1, h2] at hl
            cases hl
          refine ⟨?_, ha⟩
          rw [leadOk]
          have : ((a :: m).head? == some (48 : UInt8)) = false := by simpa using ha
          rw [this]; rfl
        have hdig := ih (a :: m) (by simp at h ⊢; omega) (by simp) hd.1 hlead.1 k hk
        have hk0 : 0 < k := by
          rcases Nat.eq_zero_or_pos k with h0 | h0
          · subst h0
            have e0 : Lib.decDigits 0 = [48] := by rw [Lib.decDigits, dif_pos (by decide)]; rfl
            rw [e0] at hdig
            simp at hdig
            exact absurd hdig.1.symm hlead.2
          · exact h0
        have e1 : u / 10 = k := by omega
        have e2 : u % 10 = b.toNat - 48 := by omega
        rw [Lib.decDigits, dif_neg (by omega), e1, e2, hdig, hbo]
theorem number_text {s : ByteArray} {m : Int} (h : isNumberS s m = true) : Lib.itoa (numS s : Nat) = s.data.toList := by
  have h1 := (number_some h).1
  have h2 := (number_some h).2.2.2
  have hne : s.data.toList ≠ [] := by
    intro e
    have := congrArg List.length e
    simp at this
    have : s.size = 0 := by simp [ByteArray.size, this]
    omega
  rw [Lib.itoa, if_neg (by omega)]
  simp only [isNumberS, Bool.and_eq_true] at h
  have h3 : Lib.decFrom 0 s.data.toList = some (numS s) := by
    rw [Lib.decNat] at h1
    split at h1
    · cases h1
    · exact h1
  have e : ((numS s : Nat) : Int).toNat = numS s := by omega
  rw [e]
  exact digits_unique _ _ (Nat.le_refl _) hne h.1.2 h.2 _ h3
theorem text_number {s : ByteArray} {n k : Nat} (h : s.data.toList = Lib.itoa (n : Int)) (hk : n < 10 ^ k) (h1 : 1 ≤ k) : isNumberS s k = true ∧ numS s = n := by
  have e : ((n : Nat) : Int).toNat = n := by omega
  rw [Lib.itoa, if_neg (by omega), e] at h
  have hs : s.size = Lib.nDigits n := by rw [← Lib.decDigits_length, ← h]; simp
  have hd : Lib.nDigits n ≤ k := by
    rcases Nat.lt_or_ge k (Lib.nDigits n) with hlt | hge
    · exfalso
      have key : ∀ u, 0 < u → 10 ^ (Lib.nDigits u - 1) ≤ u := by
        intro u
        induction u using Nat.strongRecOn with
        | _ u ih =>
          intro h0
          rw [Lib.nDigits]
          split
          · show 1 ≤ u; exact h0
          · have h3 := ih (u / 10) (by omega) (by omega)
            have h4 := Lib.nDigits_pos (u / 10)
            have e5 : Lib.nDigits (u / 10) + 1 - 1 = (Lib.nDigits (u / 10) - 1) + 1 := by omega
            rw [e5, Nat.pow_succ]
            omega
      rcases Nat.eq_zero_or_pos n with h0 | h0
      · subst h0
        rw [Lib.nDigits, dif_pos (by decide)] at hlt
        omega
      · have h3 := key n h0
        have h4 : 10 ^ k ≤ 10 ^ (Lib.nDigits n - 1) := Nat.pow_le_pow_right (by decide) (by omega)
        omega
    · exact hge
  have hp := Lib.nDigits_pos n
  refine ⟨?_, ?_⟩
  · rw [isNumberS, h, digits_all, digits_lead]
    simp [withinB]; omega
  · rw [numS, h, Lib.decNat, if_neg (by simpa using digits_ne n), digits_val]; rfl
end Go.Proofs.Sm

namespace Go.Proofs.Sm
open Go.RowKit

def codeW : List UInt8 := [99, 111, 100, 101]
def textW : List UInt8 := [116, 101, 120, 116]
def fileW : List UInt8 := [102, 105, 108, 101]
def lookW : List UInt8 := [108, 111, 111, 107]
def isX (s : ByteArray) : Bool := s.data.toList == [120]
def isRunS (s : ByteArray) : Bool := isX s || s.data.toList == [45]
def undash (s : ByteArray) : ByteArray := if s.data.toList == [45] then ⟨#[]⟩ else s
structure RSt where
  pos : Nat
  files : List FileV
  looks : List Look
def lookStep (T : ByteArray) (st : RSt) : Except Nat RSt := match lineIs T st.pos lookW 4 with
  | some ([a, b, c], q) => if isRunS c = true then .ok ⟨q, st.files, st.looks ++ [⟨a, undash b, isX c⟩]⟩ else .error st.pos
  | _ => .error st.pos
def fileBody (T : ByteArray) (st : RSt) (a b : ByteArray) (n q : Nat) : Except Nat RSt :=
  if T.size < q + n then .error T.size else if T.data.toList[q + n]? = some 10 then .ok ⟨q + n + 1, st.files ++ [⟨a, isX b, (T.data.toList.drop q).take n⟩], st.looks⟩ else .error (q + n)
def fileStep (T : ByteArray) (st : RSt) : Except Nat RSt := match lineIs T st.pos fileW 4 with
  | some ([a, b, c], q) => if (isRunS b && isNumberS c 9) = true then fileBody T st a b (numS c) q else .error st.pos
  | _ => .error st.pos
def stepS (T : ByteArray) (st : RSt) : Except Nat RSt := if ((lineIs T st.pos fileW 4).isSome && st.looks.isEmpty) = true then fileStep T st else lookStep T st
def loopS (T : ByteArray) : Nat → RSt → Except Nat RSt
  | 0, st => .ok st
  | n + 1, st => if T.size ≤ st.pos then .ok st else match stepS T st with
    | .error p => .error p
    | .ok st' => loopS T n st'
def runS (T : ByteArray) (st : RSt) : Except Nat RSt := loopS T (T.size - st.pos) st
def textS (T : ByteArray) (c d q : Nat) : Except Nat (Nat × Nat × ByteArray × Nat) := match lineIs T q textW 2 with
  | some ([a], q') => if isNumberS a 9 = true then (if T.size < q' + numS a then .error T.size else .ok (c, d, T.extract q' (q' + numS a), q' + numS a)) else .error q
  | _ => .error q
def topS (T : ByteArray) : Except Nat (Nat × Nat × ByteArray × Nat) := match lineIs T 0 codeW 3 with
  | some ([a, b], q) => if (isNumberS a 9 && isNumberS b 9) = true then textS T (numS a) (numS b) q else .error 0
  | _ => .error 0
def readB (T : ByteArray) : Except Nat ResultV := match topS T with
  | .error p => .error p
  | .ok (c, d, t, p) => match runS T ⟨p, [], []⟩ with
    | .error p => .error p
    | .ok st => .ok ⟨(c : Nat), t, st.files, st.looks, (d : Nat)⟩
def noResult : ResultV := ⟨0, ⟨#[]⟩, [], [], 0⟩
/-- what ReadResult answers -/
def readResS (T : ByteArray) : ResultV × Int × Int :=
  if 4000000 < (T.size : Int) then (noResult, 0, 2) else match readB T with
    | .error p => (noResult, (p : Nat), 10)
    | .ok r => if checkResultS r = 0 then (r, 0, 0) else (noResult, 0, checkResultS r)

/-! ### The loop -/
theorem look_place {T : ByteArray} {st st' : RSt} (h : lookStep T st = .ok st') : st.pos < st'.pos ∧ st'.pos ≤ T.size := by
  rw [lookStep] at h
  split at h
  · rename_i a b c q hl
    obtain ⟨w, hr, _⟩ := lineIs_some hl
    have := row_place hr
    split at h
    · cases h; exact this
    · cases h
  · cases h
theorem file_place {T : ByteArray} {st st' : RSt} (h : fileStep T st = .ok st') : st.pos < st'.pos ∧ st'.pos ≤ T.size := by
  rw [fileStep] at h
  split at h
  · rename_i a b c q hl
    obtain ⟨w, hr, _⟩ := lineIs_some hl
    have := row_place hr
    split at h
    · rw [fileBody] at h
      split at h
      · cases h
      · split at h
        · rename_i h1
          have h2 := (List.getElem?_eq_some_iff.1 h1).1
          have e : T.data.toList.length = T.size := by simp
          cases h
          show _ < q + numS c + 1 ∧ q + numS c + 1 ≤ _
          omega
        · cases h
    · cases h
  · cases h
theorem step_place {T : ByteArray} {st st' : RSt} (h : stepS T st = .ok st') : st.pos < st'.pos ∧ st'.pos ≤ T.size := by
  rw [stepS] at h
  split at h
  · exact file_place h
  · exact look_place h
theorem loop_fuel {T : ByteArray} : ∀ (n m : Nat) (st : RSt), T.size - st.pos ≤ n → T.size - st.pos ≤ m → loopS T n st = loopS T m st := by
  intro n
  induction n with
  | zero =>
    intro m st h1 h2
    cases m with
    | zero => rfl
    | succ m => rw [loopS, loopS, if_pos (by omega)]
  | succ n ih =>
    intro m st h1 h2
    cases m with
    | zero => rw [loopS, loopS, if_pos (by omega)]
    | succ m =>
      rw [loopS, loopS]
      split
      · rfl
      · split
        · rfl
        · rename_i st' hs
          have := step_place hs
          exact ih m st' (by omega) (by omega)
theorem run_end {T : ByteArray} {st : RSt} (h : T.size ≤ st.pos) : runS T st = .ok st := by
  rw [runS, show T.size - st.pos = 0 by omega, loopS]
theorem run_round {T : ByteArray} {st st' : RSt} (h : st.pos < T.size) (hs : stepS T st = .ok st') : runS T st = runS T st' := by
  have h1 := step_place hs
  rw [runS, show T.size - st.pos = (T.size - st.pos - 1) + 1 by omega, loopS, if_neg (by omega), hs, runS]
  exact loop_fuel _ _ _ (by omega) (by omega)
theorem run_stop {T : ByteArray} {st : RSt} {p : Nat} (h : st.pos < T.size) (hs : stepS T st = .error p) : runS T st = .error p := by
  rw [runS, show T.size - st.pos = (T.size - st.pos - 1) + 1 by omega, loopS, if_neg (by omega), hs]

/-! ### Two ways to tell the lines of files -/
def fileAt (T : ByteArray) (p : Nat) : Bool := Lib.hasPrefix (restB T p).data.toList [102, 105, 108, 101, 32]
theorem drop_cut {c : UInt8} {l a t : List UInt8} (h : l = a ++ c :: t) : l.drop (a.length + 1) = t := by
  subst h; simp
theorem row_text {T : ByteArray} {p q : Nat} {l : List ByteArray} (h : rowS T p = some (l, q)) :
    T.data.toList.drop p = Lib.join (l.map (·.data.toList)) [32] ++ 10 :: T.data.toList.drop q ∧ q = p + (Lib.join (l.map (·.data.toList)) [32]).length + 1 ∧ (∀ x ∈ l, x.data.toList ≠ []) ∧ l ≠ [] := by
  rw [rowS] at h
  split at h
  · rename_i hh
    obtain ⟨h1, h2⟩ := Bool.and_eq_true_iff.1 hh
    simp only [Option.some.injEq, Prod.mk.injEq] at h
    obtain ⟨rfl, rfl⟩ := h
    have h3 := cut_has h1
    have e1 : (lineB T p).data.toList = (Lib.cut (restB T p).data.toList [10]).1 := by simp [lineB]
    have e2 : (lineB T p).size = (Lib.cut (restB T p).data.toList [10]).1.length := by simp [lineB, ByteArray.size]
    have e3 : Lib.join ((wordsOf (lineB T p)).map (·.data.toList)) [32] = (Lib.cut (restB T p).data.toList [10]).1 := by rw [wordsOf_data, pieces_join, e1]
    rw [e3, ← e2]
    refine ⟨?_, rfl, ?_, ?_⟩
    · have h4 := h3.2
      rw [restB_data] at h4 ⊢
      have h5 : (T.data.toList.drop p).drop ((lineB T p).size + 1) = (Lib.cut (T.data.toList.drop p) [10]).2.1 := by
        rw [e2, restB_data]
        exact drop_cut h4
      rw [List.drop_drop] at h5
      rw [show p + (lineB T p).size + 1 = p + ((lineB T p).size + 1) by omega, h5]
      exact h4
    · intro x hx e
      rw [noneEmpty, Bool.not_eq_true', List.any_eq_false] at h2
      exact h2 x hx (by simp [e])
    · intro e
      have := wordsOf_length (lineB T p)
      rw [e] at this
      simp at this
  · cases h
theorem row_file {T : ByteArray} {p q : Nat} {w : ByteArray} {ws : List ByteArray} (h : rowS T p = some (w :: ws, q)) (hf : fileAt T p = true) : w.data.toList = fileW := by
  obtain ⟨h1, _, _, _⟩ := row_text h
  rw [fileAt, restB_data, Lib.hasPrefix, List.isPrefixOf_iff_prefix] at hf
  obtain ⟨t, ht⟩ := hf
  rw [h1, List.map_cons, Lib.join_cons] at ht
  have hw : 32 ∉ w.data.toList := by
    rw [rowS] at h
    split at h
    · simp only [Option.some.injEq, Prod.mk.injEq] at h
      have : w.data.toList ∈ piecesL 32 (lineB T p).data.toList := by
        rw [← wordsOf_data, h.1]; simp
      exact pieces_mem this
    · cases h
  have hnl : 10 ∉ w.data.toList := by
    rw [rowS] at h
    split at h
    · rename_i hh
      simp only [Option.some.injEq, Prod.mk.injEq] at h
      have h3 := (cut_has (Bool.and_eq_true_iff.1 hh).1).1
      have h4 : Lib.join ((w :: ws).map (·.data.toList)) [32] = (Lib.cut (restB T p).data.toList [10]).1 := by
        rw [← h.1, wordsOf_data, pieces_join]; simp [lineB]
      rw [← h4, List.map_cons, Lib.join_cons] at h3
      intro hm
      exact h3 (by simp [hm])
    · cases h
  have htail : ∃ c r, Lib.joinTail [32] (ws.map (·.data.toList)) ++ 10 :: T.data.toList.drop q = c :: r ∧ (c = 32 ∨ c = 10) := by
    cases ws with
    | nil => exact ⟨10, _, rfl, .inr rfl⟩
    | cons y r => exact ⟨32, y.data.toList ++ (Lib.joinTail [32] (r.map (·.data.toList)) ++ 10 :: T.data.toList.drop q), by simp [Lib.joinTail], .inl rfl⟩
  obtain ⟨c, r, hc, hc2⟩ := htail
  rw [List.append_assoc, hc] at ht
  have key : ∀ (a : List UInt8), 32 ∉ a → 10 ∉ a → [102, 105, 108, 101, 32] ++ t = a ++ c :: r → a = fileW := by
    intro a ha1 ha2 he
    have hlen : ∀ k, k < a.length → ∃ x, ([102, 105, 108, 101, 32] ++ t)[k]? = some x ∧ x ∈ a := by
      intro k hk
      refine ⟨a[k], ?_, List.getElem_mem hk⟩
      rw [he, List.getElem?_append_left hk, List.getElem?_eq_getElem hk]
    have hat : ([102, 105, 108, 101, 32] ++ t)[a.length]? = some c := by rw [he]; simp
    have h5 : a.length ≤ 4 := by
      rcases Nat.lt_or_ge 4 a.length with h4 | h4
      · obtain ⟨x, hx, hm⟩ := hlen 4 h4
        simp at hx
        subst hx
        exact absurd hm ha1
      · exact h4
    have h6 : a.length = 4 := by
      rcases Nat.lt_or_ge a.length 4 with h4 | h4
      · exfalso
        have : a.length = 0 ∨ a.length = 1 ∨ a.length = 2 ∨ a.length = 3 := by omega
        rcases this with h7 | h7 | h7 | h7 <;> rw [h7] at hat <;> simp at hat <;> subst hat <;> rcases hc2 with h8 | h8 <;> revert h8 <;> decide
      · omega
    have h7 := congrArg (List.take 4) he
    rw [List.take_append_of_le_length (by simp), List.take_append_of_le_length (by omega), List.take_of_length_le (by omega : a.length ≤ 4)] at h7
    rw [← h7]; rfl
  exact key _ hw hnl ht
theorem file_line {T : ByteArray} {p q : Nat} {ws : List ByteArray} (h : lineIs T p fileW 4 = some (ws, q)) : fileAt T p = true := by
  obtain ⟨w, hr, hw, hl⟩ := lineIs_some h
  obtain ⟨h1, _, _, _⟩ := row_text hr
  cases ws with
  | nil => simp at hl
  | cons y r =>
    rw [fileAt, restB_data, Lib.hasPrefix, List.isPrefixOf_iff_prefix, h1, List.map_cons, Lib.join_cons, hw]
    exact ⟨_, by simp [Lib.joinTail, fileW]; rfl⟩
/-- the first loop of the program -/
theorem step_file {T : ByteArray} {st : RSt} (h : fileAt T st.pos = true) (hl : st.looks = []) : stepS T st = fileStep T st := by
  rw [stepS]
  split
  · rfl
  · rename_i hn
    rw [hl] at hn
    have h0 : lineIs T st.pos fileW 4 = none := by
      cases he : lineIs T st.pos fileW 4 with
      | none => rfl
      | some x => rw [he] at hn; simp at hn
    have h1 : lineIs T st.pos lookW 4 = none := by
      cases he : lineIs T st.pos lookW 4 with
      | none => rfl
      | some x =>
        obtain ⟨ws, q⟩ := x
        obtain ⟨w, hr, hw, _⟩ := lineIs_some he
        have := row_file hr h
        rw [this] at hw
        exact absurd hw (by decide)
    rw [fileStep, lookStep, h0, h1]
/-- the second loop of the program -/
theorem step_look {T : ByteArray} {st : RSt} (h : fileAt T st.pos = false ∨ st.looks ≠ []) : stepS T st = lookStep T st := by
  rw [stepS, if_neg]
  intro hn
  obtain ⟨h1, h2⟩ := Bool.and_eq_true_iff.1 hn
  rcases h with h | h
  · obtain ⟨⟨ws, q⟩, hx⟩ := Option.isSome_iff_exists.1 h1
    rw [file_line hx] at h; cases h
  · exact h (List.isEmpty_iff.1 h2)
end Go.Proofs.Sm

namespace Go.Proofs.Sm
open Go.RowKit

theorem addr_add (b o j : Nat) : (⟨b, o, none⟩ : Addr).add j = ⟨b, o + j, none⟩ := by
  unfold Addr.add
  split
  · simp [*]
  · simp
section
variable {P : Program} {w : World}
theorem run_append_nilF (base : Nat) (t ty e : TypeId) (i : TypeInfo) (size c : Nat) (ht : P.underlying t = some (.slice e)) (hi : P.info? e = some i)
    (v : Value) (n : Nat) (xs : List Value) (hown : w.ownsRowF base e size v n xs) : (Builtin.append_ #[t, t] ty #[v, .slice none 0 c]).run P w = .ok v w := by
  rcases hown.2 with ⟨rfl, rfl⟩ | ⟨g, cap, cur, fz, rfl, _, _, _, hnc, _⟩
  · simp [Builtin.append_, run_underlying ht, sizeOf, typeInfo, hi, Builtin.lenOf, Builtin.firstCells]
  · simp [Builtin.append_, run_underlying ht, sizeOf, typeInfo, hi, Builtin.lenOf, Builtin.firstCells, hnc, storeCells]
theorem run_append_nilO (base : Nat) (t ty e : TypeId) (i : TypeInfo) (size c : Nat) (ht : P.underlying t = some (.slice e)) (hi : P.info? e = some i)
    (v : Value) (n : Nat) (xs : List Value) (hown : w.ownsRow base e size v n xs) : (Builtin.append_ #[t, t] ty #[v, .slice none 0 c]).run P w = .ok v w :=
  run_append_nilF base t ty e i size c ht hi v n xs (World.ownsRowF_of hown)
variable {ops : Array Oper} {rest : List Oper} {o : Oper} {a : Act} {Q : Exit → Act → World → Prop}
theorem wpList_append_srcF (hgd : o.guard = none) (s x : Operand) (t : TypeId)
    (ho : o.op = .call { callee := .builtin .append, args := #[s, x], argTypes := #[t, t] })
    (base : Nat) (e : TypeId) (i : TypeInfo) (z : Value) (size bytes : Nat) (ht : P.underlying t = some (.slice e)) (hi : P.info? e = some i) (hz : i.zero = some z)
    (hsize : i.size = size) (hby : i.bytes = bytes) (hzs : z.cells.size = size) (hsz : 0 < size)
    (v : Value) (n : Nat) (xs : List Value) (hs : a.eval s = v) (hown : w.ownsRowF base e size v n xs)
    (A : Option Addr) (m c : Nat) (news : List Value) (hx : a.eval x = .slice A m c) (hl : news.length = m * size) (hnews : 0 < m → ∃ ad, A = some ad ∧ ∀ j u, news[j]? = some u → w.cell? (ad.add j) = some u)
    (h1 : ∀ u ∈ news, u.oneCell' = true) (h63 : n + m ≤ maxLen) (hbytes : (n + m) * bytes ≤ 140737488355328) (hbase : base ≤ w.heap.size)
    (h : ∀ v' w', w'.ownsRowF base e size v' (n + m) (xs ++ news) → w.grownBy w' v.ownBlock → wpList P ops Q rest (a.put o.dst v') w') : wpList P ops Q (o :: rest) a w := by
  rcases A with _ | ad
  · obtain rfl : m = 0 := by
      rcases Nat.eq_zero_or_pos m with h0 | h0
      · exact h0
      · obtain ⟨_, h2, _⟩ := hnews h0
        cases h2
    obtain rfl : news = [] := List.eq_nil_of_length_eq_zero (by simpa using hl)
    refine wpList_plain hgd fun K hK => ?_
    have hrun := run_append_nilF (P := P) (w := w) base t o.type e i size c ht hi v n xs hown
    unfold Oper.wp
    simp [execOp, ho, resolve, invoke, builtin, hs, hx, hrun, Result.andThen]
    exact hK _ _ (h v w (by simpa using hown) (World.grownBy.refl w _))
  · refine wpList_append_ownF w hgd s x t ho base e i z size bytes ht hi hz hsize hby hzs hsz v n xs hs hown ad m c news hx hl ?_ h1 h63 hbytes hbase (fun v' w' h2 h3 _ => h v' w' h2 h3)
    intro j u hu
    have hm : 0 < m := by
      rcases Nat.eq_zero_or_pos m with h0 | h0
      · subst h0
        obtain rfl : news = [] := List.eq_nil_of_length_eq_zero (by simpa using hl)
        simp at hu
      · exact h0
    obtain ⟨_, h2, h3⟩ := hnews hm
    cases h2
    exact h3 j u hu
theorem wpList_append_src (hgd : o.guard = none) (s x : Operand) (t : TypeId)
    (ho : o.op = .call { callee := .builtin .append, args := #[s, x], argTypes := #[t, t] })
    (base : Nat) (e : TypeId) (i : TypeInfo) (z : Value) (size bytes : Nat) (ht : P.underlying t = some (.slice e)) (hi : P.info? e = some i) (hz : i.zero = some z)
    (hsize : i.size = size) (hby : i.bytes = bytes) (hzs : z.cells.size = size) (hsz : 0 < size)
    (v : Value) (n : Nat) (xs : List Value) (hs : a.eval s = v) (hown : w.ownsRow base e size v n xs)
    (A : Option Addr) (m c : Nat) (news : List Value) (hx : a.eval x = .slice A m c) (hl : news.length = m * size) (hnews : 0 < m → ∃ ad, A = some ad ∧ ∀ j u, news[j]? = some u → w.cell? (ad.add j) = some u)
    (h1 : ∀ u ∈ news, u.oneCell' = true) (h63 : n + m ≤ maxLen) (hbytes : (n + m) * bytes ≤ 140737488355328) (hbase : base ≤ w.heap.size)
    (h : ∀ v' w', w'.ownsRow base e size v' (n + m) (xs ++ news) → w.grownBy w' v.ownBlock → wpList P ops Q rest (a.put o.dst v') w') : wpList P ops Q (o :: rest) a w := by
  rcases A with _ | ad
  · obtain rfl : m = 0 := by
      rcases Nat.eq_zero_or_pos m with h0 | h0
      · exact h0
      · obtain ⟨_, h2, _⟩ := hnews h0
        cases h2
    obtain rfl : news = [] := List.eq_nil_of_length_eq_zero (by simpa using hl)
    refine wpList_plain hgd fun K hK => ?_
    have hrun := run_append_nilO (P := P) (w := w) base t o.type e i size c ht hi v n xs hown
    unfold Oper.wp
    simp [execOp, ho, resolve, invoke, builtin, hs, hx, hrun, Result.andThen]
    exact hK _ _ (h v w (by simpa using hown) (World.grownBy.refl w _))
  · refine wpList_append_own w hgd s x t ho base e i z size bytes ht hi hz hsize hby hzs hsz v n xs hs hown ad m c news hx hl ?_ h1 h63 hbytes hbase (fun v' w' h2 h3 _ => h v' w' h2 h3)
    intro j u hu
    have hm : 0 < m := by
      rcases Nat.eq_zero_or_pos m with h0 | h0
      · subst h0
        obtain rfl : news = [] := List.eq_nil_of_length_eq_zero (by simpa using hl)
        simp at hu
      · exact h0
    obtain ⟨_, h2, h3⟩ := hnews hm
    cases h2
    exact h3 j u hu
end
/-- the cells of a slice of bytes -/
theorem sl_byteCells {w : World} {S : Nat → Prop} {A : Option Addr} {n : Nat} {p : List UInt8} (h : Sl w S A n p) (hn : 0 < n) :
    ∃ ad, A = some ad ∧ ∀ j u, (Lib.byteCells p)[j]? = some u → w.cell? (ad.add j) = some u := by
  obtain ⟨q, o, rfl, _, hc⟩ := h.2.2 hn
  refine ⟨_, rfl, fun j u hu => ?_⟩
  simp only [Lib.byteCells, List.getElem?_map, Option.map_eq_some_iff] at hu
  obtain ⟨x, hx, rfl⟩ := hu
  obtain ⟨vs, rfl, ha⟩ := hc j x hx
  have h0 := ha 0 _ rfl
  simp only [Rep.sz, Nat.mul_one, Nat.add_zero] at h0
  rw [addr_add]; exact h0
end Go.Proofs.Sm

namespace Go.Proofs.Sm
open Go.RowKit

def Kind (ty : TypeId) (w : World) (k : Nat) : Prop := ∃ cs fz, w.heap[k]? = some (.cells cs ty fz)
theorem Kind.lt {ty : TypeId} {w : World} {k : Nat} (h : Kind ty w k) : k < w.heap.size := by
  obtain ⟨cs, fz, h⟩ := h
  exact (Array.getElem?_eq_some_iff.1 h).1
theorem Kind.of_keep {ty : TypeId} {w w' : World} (hk : ∀ k, Kind ty w k → w'.heap[k]? = w.heap[k]?) : ∀ k, Kind ty w k → Kind ty w' k := by
  intro k h
  obtain ⟨cs, fz, h1⟩ := h
  exact ⟨cs, fz, (hk k ⟨cs, fz, h1⟩).trans h1⟩
/-- A row of e's of the call's own that reads as a list; its elements lead to blocks of type ty. -/
def RowOwn {α : Type} [Rep α] (w : World) (B : Nat) (e ty : TypeId) (v : Value) (l : List α) : Prop :=
  ∃ rows : List (List Value), rows.length = l.length ∧ w.ownsRow B e (Rep.sz α) v l.length rows.flatten ∧ ∀ (i : Nat) (x : α) (r : List Value), l[i]? = some x → rows[i]? = some r → Rep.rep w (Kind ty w) x r
section
variable {α : Type} [Rep α] {w w' : World} {B : Nat} {e ty : TypeId} {v : Value} {l : List α}
theorem RowOwn.nil : RowOwn w B e ty (.slice none 0 0) ([] : List α) := ⟨[], rfl, World.ownsRow_nil _ _ _ _, fun i x r h => by simp at h⟩
theorem ownsRow_keep {size n : Nat} {xs : List Value} (h : w.ownsRow B e size v n xs) (h2 : ∀ g, v.ownBlock = some g → w'.heap[g]? = w.heap[g]?) : w'.ownsRow B e size v n xs := by
  obtain ⟨h1, h3⟩ := h
  refine ⟨h1, ?_⟩
  rcases h3 with h3 | ⟨g, cap, cur, rfl, hb, hh, h4⟩
  · exact .inl h3
  · exact .inr ⟨g, cap, cur, rfl, hb, (h2 g rfl).trans hh, h4⟩
theorem RowOwn.keep (h : RowOwn w B e ty v l) (h1 : ∀ k, Kind ty w k → w'.heap[k]? = w.heap[k]?) (h2 : ∀ g, v.ownBlock = some g → w'.heap[g]? = w.heap[g]?) : RowOwn w' B e ty v l := by
  obtain ⟨rows, hr, hown, hrep⟩ := h
  exact ⟨rows, hr, ownsRow_keep hown h2, fun i x r hx hri => Rep.more (Kind.of_keep h1) (Rep.keep h1 (hrep i x r hx hri))⟩
theorem ownsRow_kind {size n : Nat} {xs : List Value} (h : w.ownsRow B e size v n xs) : ∀ g, v.ownBlock = some g → B ≤ g ∧ Kind e w g := by
  intro g hg
  rcases h.2 with ⟨rfl, _⟩ | ⟨g', cap, cur, rfl, hb, hh, _⟩
  · simp [Value.ownBlock] at hg
  · obtain rfl : g' = g := by simpa [Value.ownBlock] using hg
    exact ⟨hb, cur, _, hh⟩
theorem RowOwn.kind (h : RowOwn w B e ty v l) : ∀ g, v.ownBlock = some g → B ≤ g ∧ Kind e w g := by
  obtain ⟨rows, _, hown, _⟩ := h
  exact ownsRow_kind hown
theorem RowOwn.call (h : RowOwn w B e ty v l) (hb : Below w.heap.size w w') : RowOwn w' B e ty v l :=
  h.keep (fun k hk => hb.block k hk.lt) (fun g hg => hb.block g (h.kind g hg).2.lt)
theorem RowOwn.alloc (h : RowOwn w B e ty v l) (o : Obj) : RowOwn (w.alloc o) B e ty v l := h.call (fr_alloc (fr_refl w) o)
theorem kind_ne {t1 t2 : TypeId} {k1 k2 : Nat} (h1 : Kind t1 w k1) (h2 : Kind t2 w k2) (h : t1 ≠ t2) : k1 ≠ k2 := by
  rintro rfl
  obtain ⟨c1, f1, e1⟩ := h1
  obtain ⟨c2, f2, e2⟩ := h2
  rw [e1] at e2
  cases e2
  exact h rfl
theorem RowOwn.set {t : TypeId} {p : Addr} (h : RowOwn w B e ty v l) (hp : Kind t w p.block) (he : e ≠ t) (hty : ty ≠ t) (u : Value) : RowOwn (w.setCell p u) B e ty v l :=
  h.keep (fun k hk => heap_setCell_other w p k u (kind_ne hk hp hty)) (fun g hg => heap_setCell_other w p g u (kind_ne (h.kind g hg).2 hp he))
/-- another row grows -/
theorem RowOwn.other {t : TypeId} {row : Option Nat} (h : RowOwn w B e ty v l) (hg : w.grownBy w' row) (hr : ∀ g, row = some g → Kind t w g) (he : e ≠ t) (hty : ty ≠ t) : RowOwn w' B e ty v l := by
  refine h.keep (fun k hk => hg.block k hk.lt fun e2 => ?_) (fun g hg2 => hg.block g (h.kind g hg2).2.lt fun e2 => ?_)
  · exact kind_ne hk (hr k e2.symm) hty rfl
  · exact kind_ne (h.kind g hg2).2 (hr g e2.symm) he rfl
theorem RowOwn.append {rows : List (List Value)} {r : List Value} {x : α} {v' : Value} (hr : rows.length = l.length) (hown : w.ownsRow B e (Rep.sz α) v l.length rows.flatten)
    (hrep : ∀ (i : Nat) (x : α) (r : List Value), l[i]? = some x → rows[i]? = some r → Rep.rep w (Kind ty w) x r) (hx : Rep.rep w (Kind ty w) x r) (hne : ty ≠ e)
    (hg : w.grownBy w' v.ownBlock) (hown' : w'.ownsRow B e (Rep.sz α) v' (l.length + 1) (rows.flatten ++ r)) : RowOwn w' B e ty v' (l ++ [x]) := by
  have h1 : ∀ k, Kind ty w k → w'.heap[k]? = w.heap[k]? := fun k hk => hg.block k hk.lt fun e2 => kind_ne hk (ownsRow_kind hown k e2.symm).2 hne rfl
  refine ⟨rows ++ [r], by simp [hr], ?_, ?_⟩
  · rw [List.length_append, List.length_singleton, List.flatten_append]
    simpa using hown'
  · intro i y s hy hs
    refine Rep.more (Kind.of_keep h1) (Rep.keep h1 ?_)
    by_cases hi : i < l.length
    · rw [List.getElem?_append_left hi] at hy
      rw [List.getElem?_append_left (by omega)] at hs
      exact hrep i y s hy hs
    · have hi2 := (List.getElem?_eq_some_iff.1 hy).1
      rw [List.length_append, List.length_singleton] at hi2
      obtain rfl : i = l.length := by omega
      rw [List.getElem?_append_right (Nat.le_refl _)] at hy
      rw [List.getElem?_append_right (by omega), hr] at hs
      simp at hy hs
      subst hy; subst hs
      exact hx
theorem flatten_at {sz : Nat} : ∀ {rows : List (List Value)} {i j : Nat} {r : List Value}, (∀ r ∈ rows, r.length = sz) → rows[i]? = some r → j < sz → rows.flatten[i * sz + j]? = r[j]?
  | [], i, j, r, _, h, _ => by simp at h
  | a :: rows, 0, j, r, hl, h, hj => by
    obtain rfl : a = r := by simpa using h
    rw [List.flatten_cons, Nat.zero_mul, Nat.zero_add, List.getElem?_append_left (by rw [hl a (by simp)]; exact hj)]
  | a :: rows, i + 1, j, r, hl, h, hj => by
    have h' : rows[i]? = some r := by simpa using h
    have ha := hl a (by simp)
    rw [List.flatten_cons, List.getElem?_append_right (by rw [ha, Nat.succ_mul]; omega), ha, ← flatten_at (fun r hr => hl r (by simp [hr])) h' hj]
    congr 1
    rw [Nat.succ_mul]
    omega
theorem RowOwn.sl (h : RowOwn w B e ty v l) : ∃ A c, v = .slice A l.length c ∧ l.length ≤ c ∧ c ≤ maxLen ∧ Sl w (Lt w.heap.size) A l.length l := by
  obtain ⟨rows, hr, hown, hrep⟩ := h
  have hcells := fun g hg => hown.cells (g := g) hg
  have hlt := hown.lt
  have hlens : ∀ r ∈ rows, r.length = Rep.sz α := by
    intro r hr2
    obtain ⟨i, hi⟩ := List.getElem?_of_mem hr2
    have hi2 := (List.getElem?_eq_some_iff.1 hi).1
    exact Rep.len (hrep i l[i] r (List.getElem?_eq_getElem (by omega)) hi)
  rcases hown.2 with ⟨rfl, h0⟩ | ⟨g, cap, cur, rfl, hb, hh, hnc, hcm, _, _⟩
  · rw [h0]
    have hl : l = [] := List.eq_nil_of_length_eq_zero h0
    subst hl
    exact ⟨none, 0, rfl, Nat.le_refl _, Nat.zero_le _, Sl.nil⟩
  · refine ⟨some ⟨g, 0, none⟩, cap, rfl, hnc, hcm, rfl, Nat.le_trans hnc hcm, fun hn => ⟨g, 0, rfl, (hlt g rfl).2, fun i x hx => ?_⟩⟩
    have hi : i < l.length := (List.getElem?_eq_some_iff.1 hx).1
    have hri : rows[i]? = some (rows[i]'(by omega)) := List.getElem?_eq_getElem (by omega)
    refine ⟨rows[i]'(by omega), Rep.more (fun k hk => hk.lt) (hrep i x _ hx hri), fun j u hu => ?_⟩
    have hj : j < Rep.sz α := by
      have := (List.getElem?_eq_some_iff.1 hu).1
      rw [hlens _ (List.mem_of_getElem? hri)] at this
      exact this
    have h3 := hcells g rfl (i * Rep.sz α + j) u (by rw [flatten_at hlens hri hj]; exact hu)
    rw [addr_add] at h3
    rw [← h3]
    congr 2
    omega
theorem RowOwn.form (h : RowOwn w B e ty v l) : ∃ A c, v = .slice A l.length c := by
  obtain ⟨A, c, h1, _⟩ := h.sl
  exact ⟨A, c, h1⟩
theorem RowOwn.le (h : RowOwn w B e ty v l) : l.length ≤ maxLen := by
  obtain ⟨A, c, _, h1, h2, _⟩ := h.sl
  omega
end
end Go.Proofs.Sm
