/- Walks: what stands in bytes is replaced. -/
import Derived.Test.YtkdogcpgbogkhaaGreatDoorH18x8
import Derived.Test.YtkdogcpgbogkhaaGreatDoorH18x7
import Derived.Test.YtkdogcpgbogkhaaGreatDoorH18x1
import Derived.Lib.OthersKept
import Derived.Lib.Builder
import Derived.Lib.FrozenHead
import Derived.Lib.AppendStr
import Derived.Test.YtkdogcpgbogkhaaGreatDoorH18x2
import Derived.Deep.RegionHeld3
import Derived.Test.YtkdogcpgbogkhaaGreatDoorH18x3
import Derived.Test.YtkdogcpgbogkhaaGreatDoorH18x6
import Derived.Lib.ConvBytes
import Derived.Deep.RegionWith
import Derived.Laws.MakeOwn
import Derived.Deep.RegionLaw
import Derived.IntWalk
namespace Go.Proofs.Sm
open Go.RowKit

/-- the fields of an action -/
def actVal (a : ActionV) (A : Option Addr) (n n' : Nat) (B : Option Addr) (m m' : Nat) (C : Option Addr) (p p' : Nat) (D : Option Addr) (q q' : Nat) : Value :=
  .agg #[.string a.tool, .slice A n n', .slice B m m', .slice C p p', .slice D q q', .int .i64 a.time]
structure ActIs (w : World) (a : ActionV) (A : Option Addr) (n : Nat) (B : Option Addr) (m : Nat) (C : Option Addr) (p : Nat) (D : Option Addr) (q : Nat) : Prop where
  tool : a.tool.size ≤ maxLen
  commands : Sl w (Lt w.heap.size) A n a.commands
  vars : Sl w (Lt w.heap.size) B m a.vars
  outputs : Sl w (Lt w.heap.size) C p a.outputs
  needs : Sl w (Lt w.heap.size) D q a.needs
  time : InInt a.time
theorem ActIs.then_ {w w' : World} {a : ActionV} {A : Option Addr} {n : Nat} {B : Option Addr} {m : Nat} {C : Option Addr} {p : Nat} {D : Option Addr} {q : Nat} (h : ActIs w a A n B m C p D q) (hb : Below w.heap.size w w') : ActIs w' a A n B m C p D q :=
  ⟨h.tool, sl_call h.commands hb (Nat.le_refl _), sl_call h.vars hb (Nat.le_refl _), sl_call h.outputs hb (Nat.le_refl _), sl_call h.needs hb (Nat.le_refl _), h.time⟩
theorem action_tool {a : ActionV} (h : isDigestS a.tool = false) : checkActionS a = 3 := by rw [checkActionS, if_pos h]
theorem action_none {a : ActionV} (h : isDigestS a.tool = true) (h0 : a.commands.length = 0) : checkActionS a = 9 := by rw [checkActionS, if_neg (by rw [h]; decide), if_pos h0]
theorem action_large {a : ActionV} (h : isDigestS a.tool = true) (h0 : a.commands.length ≠ 0) (h1 : (50 : Int) < a.commands.length) : checkActionS a = 2 := by
  rw [checkActionS, if_neg (by rw [h]; decide), if_neg h0, if_pos h1]
/-- what is left when the tool and the number of commands are well -/
def actRest (a : ActionV) : Int :=
  if commandsErr a.commands ≠ 0 then commandsErr a.commands
  else if checkVarsS a.vars ≠ 0 then checkVarsS a.vars
  else if checkOutputsS a.outputs ≠ 0 then checkOutputsS a.outputs
  else if checkVarsS a.needs ≠ 0 then checkVarsS a.needs
  else if withinB a.time 1 100000 = false then 1
  else 0
theorem action_rest {a : ActionV} (h : isDigestS a.tool = true) (h0 : a.commands.length ≠ 0) (h1 : ¬ (50 : Int) < a.commands.length) : checkActionS a = actRest a := by
  rw [checkActionS, if_neg (by rw [h]; decide), if_neg h0, if_neg h1, actRest]
theorem rest_cmd {a : ActionV} {e : Int} (h : commandsErr a.commands = e) (he : e ≠ 0) : actRest a = e := by rw [actRest, if_pos (by rw [h]; exact he), h]
theorem rest_vars {a : ActionV} (h : commandsErr a.commands = 0) (h1 : checkVarsS a.vars ≠ 0) : actRest a = checkVarsS a.vars := by
  rw [actRest, if_neg (by rw [h]; decide), if_pos h1]
theorem rest_outs {a : ActionV} (h : commandsErr a.commands = 0) (h1 : checkVarsS a.vars = 0) (h2 : checkOutputsS a.outputs ≠ 0) : actRest a = checkOutputsS a.outputs := by
  rw [actRest, if_neg (by rw [h]; decide), if_neg (by rw [h1]; decide), if_pos h2]
theorem rest_needs {a : ActionV} (h : commandsErr a.commands = 0) (h1 : checkVarsS a.vars = 0) (h2 : checkOutputsS a.outputs = 0) (h3 : checkVarsS a.needs ≠ 0) : actRest a = checkVarsS a.needs := by
  rw [actRest, if_neg (by rw [h]; decide), if_neg (by rw [h1]; decide), if_neg (by rw [h2]; decide), if_pos h3]
theorem rest_time {a : ActionV} (h : commandsErr a.commands = 0) (h1 : checkVarsS a.vars = 0) (h2 : checkOutputsS a.outputs = 0) (h3 : checkVarsS a.needs = 0) : actRest a = if withinB a.time 1 100000 = false then 1 else 0 := by
  rw [actRest, if_neg (by rw [h]; decide), if_neg (by rw [h1]; decide), if_neg (by rw [h2]; decide), if_neg (by rw [h3]; decide)]
theorem commands_round {l : List (List ByteArray)} {k : Nat} {x : List ByteArray} (hx : l[k]? = some x) (h : checkCommandS x = 0) : commandsErr (l.drop k) = commandsErr (l.drop (k + 1)) := by
  rw [drop_at hx, commandsErr, if_pos h]
theorem commands_stop {l : List (List ByteArray)} {k : Nat} {x : List ByteArray} (hx : l[k]? = some x) (h : checkCommandS x ≠ 0) : commandsErr (l.drop k) = checkCommandS x := by
  rw [drop_at hx, commandsErr, if_neg h]

set_option maxHeartbeats 2000000 in
set_option maxRecDepth 100000 in
theorem act_CheckAction (a : ActionV) (A : Option Addr) (n n' : Nat) (B : Option Addr) (m m' : Nat) (C : Option Addr) (p p' : Nat) (D : Option Addr) (q q' : Nat) (w : World) (hE : Env w) (ha : ActIs w a A n B m C p D q) :
    Calls Tryz.prog 81 #[actVal a A n n' B m m' C p p' D q q'] w fun e w' => e = .returned (.int .i64 (checkActionS a)) ∧ Below w.heap.size w w' := by
  unfold actVal
  have hm : n ≤ 9223372036854775807 := ha.commands.2.1
  have HL := Lib.hid ha.commands.1
  have htl := ha.tool
  have hE1 := hE.then_ (fr_alloc (fr_refl w) (.cells #[.string a.tool, .slice A n n', .slice B m m', .slice C p p', .slice D q q', .int .i64 a.time] 26))
  cases h0 : isDigestS a.tool
  · have HV := Lib.hid (action_tool h0)
    go_enter Tryz.func81, Tryz.ntmps81
    go_wp2_with fail
    refine (blob_IsDigest _ _ htl).mono ?_
    rintro e w1 ⟨rfl, hb1⟩
    go_wp2
    go_ret; exact ⟨ret_int HV.out.symm, (by repeat (first | exact fr_refl _ | refine fr_call ?_ (by assumption) | refine fr_alloc ?_ _ | refine fr_set ?_ (by simp) _ | refine Below.drew ?_ | refine below_drewN ?_ _))⟩
  have H0 := Lib.hid h0
  by_cases hn0 : n = 0
  · subst hn0
    have HV := Lib.hid (action_none H0.out HL.out)
    go_enter Tryz.func81, Tryz.ntmps81
    go_wp2_with fail
    refine (blob_IsDigest _ _ htl).mono ?_
    rintro e w1 ⟨rfl, hb1⟩
    obtain ⟨hc1, hf1⟩ := bcell hb1
    go_wp2
    go_ret; exact ⟨ret_int HV.out.symm, (by repeat (first | exact fr_refl _ | refine fr_call ?_ (by assumption) | refine fr_alloc ?_ _ | refine fr_set ?_ (by simp) _ | refine Below.drew ?_ | refine below_drewN ?_ _))⟩
  have hne : ((n : Int) == 0) = false := by rw [beq_eq_false_iff_ne]; omega
  by_cases hbig : (50 : Int) < n
  · have HV := Lib.hid (action_large H0.out (by rw [HL.out]; exact hn0) (by rw [HL.out]; exact hbig))
    go_enter Tryz.func81, Tryz.ntmps81
    go_wp2_with fail
    refine (blob_IsDigest _ _ htl).mono ?_
    rintro e w1 ⟨rfl, hb1⟩
    obtain ⟨hc1, hf1⟩ := bcell hb1
    go_wp2
    go_ret; exact ⟨ret_int HV.out.symm, (by repeat (first | exact fr_refl _ | refine fr_call ?_ (by assumption) | refine fr_alloc ?_ _ | refine fr_set ?_ (by simp) _ | refine Below.drew ?_ | refine below_drewN ?_ _))⟩
  have HR := Lib.hid (action_rest H0.out (by rw [HL.out]; exact hn0) (by rw [HL.out]; exact hbig))
  go_enter Tryz.func81, Tryz.ntmps81
  go_wp2_with fail
  refine (blob_IsDigest _ _ htl).mono ?_
  rintro e w1 ⟨rfl, hb1⟩
  obtain ⟨hc1, hf1⟩ := bcell hb1
  have hz1 := grew hb1
  have hbel1 : Below w.heap.size w w1 := (by repeat (first | exact fr_refl _ | refine fr_call ?_ (by assumption) | refine fr_alloc ?_ _ | refine fr_set ?_ (by simp) _ | refine Below.drew ?_ | refine below_drewN ?_ _))
  go_wp2
  go_loopw [4, 5, 24] (fun _ _ i wr => ∃ k : Nat, k ≤ n ∧ i = .int .i64 k ∧ commandsErr a.commands = commandsErr (a.commands.drop k) ∧ Below w1.heap.size w1 wr) (fun _ _ i _ => n - (intOf i).toNat)
  case atStart => exact ⟨0, Nat.zero_le _, rfl, rfl, Below.refl _ _⟩
  case round =>
    obtain ⟨k, hk, rfl, hd, hbr⟩ := hrel
    have Hr := Lib.hid hd; clear hd
    have hbel := fr_call hbel1 hbr
    have hEr := hE.then_ hbel
    have har := ha.then_ hbel
    by_cases hlt : k < n
    · obtain ⟨b, o, x, A', l', c', rfl, hb, hx, hlc, hcm, hsl', c0⟩ := har.commands.row hlt
      have HX := Lib.hid hx; clear hx
      cases hv : (checkCommandS x == 0)
      · have hne : checkCommandS x ≠ 0 := by simpa using hv
        have hbn : (checkCommandS x != 0) = true := by simpa using hv
        have HV := Lib.hid (rest_cmd (Hr.out.trans (commands_stop HX.out hne)) hne)
        clear hne
        go_wp2_with fail
        refine (act_checkCommand _ _ _ _ _ hEr hsl' hlc).mono ?_
        rintro e w2 ⟨rfl, hb2⟩
        go_wp2
        go_ret
        exact ⟨ret_int (by rw [HR.out, HV.out]), fr_call hbel hb2⟩
      · have hz : checkCommandS x = 0 := by simpa using hv
        have hbn : (checkCommandS x != 0) = false := by simpa using hv
        have HV := Lib.hid (Hr.out.trans (commands_round HX.out hz))
        clear hz
        go_wp2_with fail
        refine (act_checkCommand _ _ _ _ _ hEr hsl' hlc).mono ?_
        rintro e w2 ⟨rfl, hb2⟩
        go_wp2
        go_round
        case rel => exact ⟨k + 1, by omega, by go_num, HV.out, hbr.trans (hb2.mono hbr.size)⟩
        case measure => simp [intOf]; omega
    · have HZ := Lib.hid (show commandsErr a.commands = 0 by rw [Hr.out, List.drop_eq_nil_of_le (by rw [ha.commands.1]; omega)]; rfl)
      obtain ⟨hcr, hfr⟩ := bcell hbr
      have hzr : w.heap.size < wr.heap.size := Nat.lt_of_lt_of_le hz1 hbr.size
      go_wp2_with fail
      refine (act_checkVars _ _ _ _ _ har.vars).mono ?_
      rintro e w3 ⟨rfl, hb3⟩
      have hbel3 := fr_call hbel hb3
      obtain ⟨hc3, hf3⟩ := bcell hb3
      have hz3 : w.heap.size < w3.heap.size := Nat.lt_of_lt_of_le hzr hb3.size
      cases hv : (checkVarsS a.vars == 0)
      · have hne : checkVarsS a.vars ≠ 0 := by simpa using hv
        have hbn : (checkVarsS a.vars != 0) = true := by simpa using hv
        have HV := Lib.hid (rest_vars HZ.out hne)
        clear hne
        go_wp2
        go_ret
        exact ⟨ret_int (by rw [HR.out, HV.out]), hbel3⟩
      have hzv : checkVarsS a.vars = 0 := by simpa using hv
      have hbnv : (checkVarsS a.vars != 0) = false := by simpa using hv
      have HZ1 := Lib.hid hzv; clear hzv hv
      go_wp2_with fail
      refine (act_checkOutputs _ _ _ _ _ (hE.then_ hbel3) (ha.then_ hbel3).outputs).mono ?_
      rintro e w4 ⟨rfl, hb4⟩
      have hbel4 := fr_call hbel3 hb4
      obtain ⟨hc4, hf4⟩ := bcell hb4
      have hz4 : w.heap.size < w4.heap.size := Nat.lt_of_lt_of_le hz3 hb4.size
      cases hv : (checkOutputsS a.outputs == 0)
      · have hne : checkOutputsS a.outputs ≠ 0 := by simpa using hv
        have hbn : (checkOutputsS a.outputs != 0) = true := by simpa using hv
        have HV := Lib.hid (rest_outs HZ.out HZ1.out hne)
        clear hne
        go_wp2
        go_ret
        exact ⟨ret_int (by rw [HR.out, HV.out]), hbel4⟩
      have hzv : checkOutputsS a.outputs = 0 := by simpa using hv
      have hbnv2 : (checkOutputsS a.outputs != 0) = false := by simpa using hv
      have HZ2 := Lib.hid hzv; clear hzv hv
      go_wp2_with fail
      refine (act_checkVars _ _ _ _ _ (ha.then_ hbel4).needs).mono ?_
      rintro e w5 ⟨rfl, hb5⟩
      have hbel5 := fr_call hbel4 hb5
      obtain ⟨hc5, hf5⟩ := bcell hb5
      have hz5 : w.heap.size < w5.heap.size := Nat.lt_of_lt_of_le hz4 hb5.size
      cases hv : (checkVarsS a.needs == 0)
      · have hne : checkVarsS a.needs ≠ 0 := by simpa using hv
        have hbn : (checkVarsS a.needs != 0) = true := by simpa using hv
        have HV := Lib.hid (rest_needs HZ.out HZ1.out HZ2.out hne)
        clear hne
        go_wp2
        go_ret
        exact ⟨ret_int (by rw [HR.out, HV.out]), hbel5⟩
      have hzv : checkVarsS a.needs = 0 := by simpa using hv
      have hbnv3 : (checkVarsS a.needs != 0) = false := by simpa using hv
      have HZ3 := Lib.hid hzv; clear hzv hv
      have HT := Lib.hid (rest_time HZ.out HZ1.out HZ2.out HZ3.out)
      by_cases ht1 : a.time < 1
      · have HW := Lib.hid (show withinB a.time 1 100000 = false by simp [withinB]; omega)
        go_wp2
        go_ret
        exact ⟨ret_int (by rw [HR.out, HT.out, if_pos HW.out]), hbel5⟩
      by_cases ht2 : 100000 < a.time
      · have HW := Lib.hid (show withinB a.time 1 100000 = false by simp [withinB]; omega)
        go_wp2
        go_ret
        exact ⟨ret_int (by rw [HR.out, HT.out, if_pos HW.out]), hbel5⟩
      have HW := Lib.hid (show withinB a.time 1 100000 = true by simp [withinB]; omega)
      go_wp2
      go_ret
      exact ⟨ret_int (by rw [HR.out, HT.out, if_neg (by rw [HW.out]; decide)]), hbel5⟩
end Go.Proofs.Sm

namespace Go.Proofs.Sm
open Go.RowKit

theorem bld_size : (Tryz.prog.info? 219).map (·.size) = some 2 := by kernel_rfl
theorem bld_lies : liesAt Tryz.prog Tryz.prog.depth 219 (2 / Tryz.prog.cellsOf 219) 0 219 1 = true := by kernel_rfl
theorem byte_info : (Tryz.prog.info? 5).map (fun i => (i.zero, i.size, i.bytes)) = some (some (.int .u8 0), 1, 1) := by kernel_rfl

/-- A builder in block b that holds these bytes. -/
def Bld (w : World) (b : Nat) (l : List UInt8) : Prop := Lib.IsBuilderF 219 5 b b (Lib.byteCells l) w
/-- What a builder's method does to memory. -/
def Wrote (b : Nat) (w w' : World) : Prop := Below b w w' ∧ Lib.OthersKept 5 (some b) w w'
theorem Wrote.trans {b : Nat} {w w1 w2 : World} (h : Wrote b w w1) (k : Wrote b w1 w2) : Wrote b w w2 := ⟨h.1.trans k.1, h.2.trans k.2⟩
theorem Bld.lt {w : World} {b : Nat} {l : List UInt8} (h : Bld w b l) : b < w.heap.size := by
  rcases h with h | h
  · exact h.lt
  · exact h.lt
theorem Bld.new (w : World) : Bld (w.alloc (.cells #[.pointer none, .slice none 0 0] 219)) w.heap.size [] := by
  refine .inl ⟨Nat.le_refl _, .slice none 0 0, heap_alloc_new w _, ?_, by simp [Value.ownBlock]⟩
  exact World.ownsRowF_of (World.ownsRow_nil _ _ _ _)
theorem Bld.alloc {w : World} {b : Nat} {l : List UInt8} (h : Bld w b l) (o : Obj) : Bld (w.alloc o) b l := by
  rcases h with h | h
  · exact .inl (h.alloc o)
  · exact .inr (h.alloc o)
theorem ownsRowF_call {w w' : World} {base : Nat} {e : TypeId} {size : Nat} {v : Value} {n : Nat} {xs : List Value} (h : w.ownsRowF base e size v n xs) (hb : Below w.heap.size w w') : w'.ownsRowF base e size v n xs :=
  h.kept (row := none) ⟨hb.os, hb.tape, hb.output, hb.size, fun i hi _ => hb.block i hi⟩ (by
    cases v.ownBlock with
    | none => exact .inl rfl
    | some k => exact .inr (by simp))
theorem Bld.drew {w : World} {b : Nat} {l : List UInt8} (h : Bld w b l) : Bld w.drew b l := h
theorem Bld.call {w w' : World} {b : Nat} {l : List UInt8} (h : Bld w b l) (hb : Below w.heap.size w w') : Bld w' b l := by
  have hlt := h.lt
  rcases h with ⟨hB, v, hbk, hown, hne⟩ | ⟨hB, v, hbk, hown, hne⟩
  · exact .inl ⟨hB, v, (hb.block b hlt).trans hbk, ownsRowF_call hown hb, hne⟩
  · exact .inr ⟨hB, v, (hb.block b hlt).trans hbk, ownsRowF_call hown hb, hne⟩
theorem Wrote.of_below {b : Nat} {w w' : World} (hb : Below w.heap.size w w') (hlt : b ≤ w.heap.size) : Wrote b w w' :=
  ⟨hb.mono hlt, fun k _ hk _ _ => (hb.block k (Array.getElem?_eq_some_iff.1 hk).1).trans hk⟩
theorem Wrote.refl (b : Nat) (w : World) : Wrote b w w := ⟨Below.refl _ _, Lib.OthersKept.refl _ _ _⟩
theorem Wrote.drew {b : Nat} {w w' : World} (h : Wrote b w w') : Wrote b w w'.drew := ⟨h.1.drew, h.2⟩
theorem Wrote.call {b : Nat} {w w' w1 : World} (hb : b ≤ w.heap.size) (h : Wrote b w w') (hc : Below w'.heap.size w' w1) : Wrote b w w1 := h.trans (Wrote.of_below hc (Nat.le_trans hb h.1.size))
/-- a box that is no row of bytes stays -/
theorem Wrote.box {b : Nat} {w w' : World} (h : Wrote b w w') {g : Nat} {cs : Array Value} {t : TypeId} {fz : Nat × Nat} (hg : w.heap[g]? = some (.cells cs t fz)) (hne : g ≠ b) (ht : t ≠ 5) : w'.heap[g]? = some (.cells cs t fz) :=
  h.2 g _ hg (by simpa using hne) (fun c fz' e => by cases e; exact ht rfl)

set_option maxHeartbeats 1000000 in
set_option maxRecDepth 100000 in
theorem bld_check_used (b : Nat) (w : World) (h0 : w.cell? ⟨b, 0, none⟩ = some (.pointer (some ⟨b, 0, none⟩))) :
    Calls Tryz.prog 209 #[.pointer (some ⟨b, 0, none⟩)] w fun e w' => e = .returned (.tuple #[]) ∧ w' = w := by
  obtain ⟨j, hj, _⟩ := Option.map_eq_some_iff.1 bld_size
  go_enter Tryz.func209, Tryz.ntmps209
  go_wp2
  rw [Lib.run_neq_ptr_same w _ Tryz.underlying217 hj]
  go_wp2
  go_end0
  exact ⟨rfl, rfl⟩
set_option maxHeartbeats 1000000 in
set_option maxRecDepth 100000 in
theorem bld_check_fresh (b : Nat) (w : World) (h0 : w.cell? ⟨b, 0, none⟩ = some (.pointer none)) (hsh : w.shape? b = some (219, 2)) (hfz : w.frozen? ⟨b, 0, none⟩ = false) :
    Calls Tryz.prog 209 #[.pointer (some ⟨b, 0, none⟩)] w fun e w' => e = .returned (.tuple #[]) ∧ w' = w.setCell ⟨b, 0, none⟩ (.pointer (some ⟨b, 0, none⟩)) := by
  obtain ⟨j, hj, hjs⟩ := Option.map_eq_some_iff.1 bld_size
  go_enter Tryz.func209, Tryz.ntmps209
  go_wp2
  rw [Lib.run_to_unsafe w ⟨b, 0, none⟩ Tryz.underlying217 Tryz.underlying299 hj (by rw [hjs]; decide) hsh (Nat.zero_lt_succ 1)]
  simp only [Result.andThen]
  rw [Oper.upon_value]
  go_wp2
  rw [run_callFunc_extern Tryz.func257 (by kernel_rfl) (by kernel_rfl) (by kernel_rfl) (e := Extern.AbiNoEscape.same) (by kernel_rfl)]
  rw [Lib.run_noEscape]
  simp only [Result.andThen]
  rw [Oper.upon_value]
  go_wp2
  rw [Lib.run_from_unsafe w ⟨b, 0, none⟩ Tryz.underlying299 Tryz.underlying217 hj hsh bld_lies]
  simp only [Result.andThen]
  rw [Oper.upon_value]
  go_wp2
  go_end0
  exact ⟨rfl, rfl⟩
theorem bld_check (b : Nat) (bs : List Value) (w : World) (h : Lib.IsBuilderF 219 5 b b bs w) :
    Calls Tryz.prog 209 #[.pointer (some ⟨b, 0, none⟩)] w fun e w' => e = .returned (.tuple #[]) ∧ Lib.BuilderAtF 219 5 b b (.pointer (some ⟨b, 0, none⟩)) bs w' ∧ Below b w w' ∧ Lib.OthersKept 5 (some b) w w' := by
  rcases h with h | h
  · refine (bld_check_fresh b w h.cell0 h.shape h.frozen0).mono ?_
    rintro e w' ⟨rfl, rfl⟩
    exact ⟨rfl, h.used _, (Below.refl b w).setCell (p := ⟨b, 0, none⟩) h.1 _, (Lib.OthersKept.refl _ _ w).setCell ⟨b, 0, none⟩ rfl _⟩
  · refine (bld_check_used b w h.cell0).mono ?_
    rintro e w' ⟨rfl, rfl⟩
    exact ⟨rfl, h, Below.refl b _, Lib.OthersKept.refl _ _ _⟩

set_option maxHeartbeats 2000000 in
set_option maxRecDepth 100000 in
theorem bld_WriteString (b : Nat) (l : List UInt8) (s : ByteArray) (w : World) (h : Bld w b l) (hlen : l.length + s.size ≤ 140737488355328) :
    Calls Tryz.prog 152 #[.pointer (some ⟨b, 0, none⟩), .string s] w fun e w' => e = .returned (.tuple #[.int .i64 s.size, .nilIface]) ∧ Bld w' b (l ++ s.data.toList) ∧ Wrote b w w' := by
  obtain ⟨i0, hi, hz0, hz1, hz2⟩ := info_parts byte_info
  have hbl := h.lt
  have hbl' := Lib.byteCells_length l
  go_enter Tryz.func152, Tryz.ntmps152
  go_wp2_with (go_at_call 209; refine (bld_check b _ _ h).mono ?_)
  rintro e w1 ⟨rfl, h1, hb1, hk1⟩
  obtain ⟨hB, v, hbk, hown, hne⟩ := h1
  have c0 : w1.cell? ⟨b, 0, none⟩ = some (.pointer (some ⟨b, 0, none⟩)) := by rw [Lib.cell_of_heap hbk]; rfl
  have c1 : w1.cell? ⟨b, 1, none⟩ = some v := by rw [Lib.cell_of_heap hbk]; rfl
  have HL := Lib.hid hbl'; clear hbl'
  go_wp2_with (at_builtin; refine Lib.wpList_append_own_stringF _ rfl _ _ 48 9 rfl b 5 i0 Tryz.underlying48 Tryz.underlying9 hi hz0 hz1 hz2 _ _ _ rfl hown s rfl ?c3 ?c4 ?c5 ?_)
  case c3 => unfold maxLen; rw [HL.out]; omega
  case c4 => rw [HL.out]; omega
  case c5 => have := hb1.size; omega
  intro v' w2 hown' hgrow _
  have hlt : b < w1.heap.size := by
    rcases Nat.lt_or_ge b w1.heap.size with h' | h'
    · exact h'
    · simp [Array.getElem?_eq_none h'] at hbk
  have hb2 : w2.heap[b]? = some (.cells #[.pointer (some ⟨b, 0, none⟩), v] 219 (0, 0)) := by
    rw [hgrow.block b hlt (fun e => hne e.symm)]
    exact hbk
  have d0 : w2.cell? ⟨b, 0, none⟩ = some (.pointer (some ⟨b, 0, none⟩)) := by rw [Lib.cell_of_heap hb2]; rfl
  have d1 : w2.cell? ⟨b, 1, none⟩ = some v := by rw [Lib.cell_of_heap hb2]; rfl
  have f1 : w2.frozen? ⟨b, 1, none⟩ = false := Lib.frozen_of_heap hb2 1
  obtain ⟨ao, n', cap, rfl⟩ : ∃ ao n' cap, v' = .slice ao n' cap := by
    rcases hown'.2 with ⟨hv, _⟩ | ⟨g, cap, cur, fz, hv, _⟩
    · exact ⟨_, _, _, hv⟩
    · exact ⟨_, _, _, hv⟩
  go_wp2
  go_ret2
  refine ⟨rfl, ?_, ?_, (hk1.grown hgrow (Lib.ownsRowF_kind hown)).setCell ⟨b, 1, none⟩ rfl _⟩
  · rw [Bld, Lib.byteCells_append, ← Lib.strCells_eq]
    exact .inr (Lib.BuilderAtF.put (T := 219) (e := 5) hB hb2 (bs' := Lib.byteCells l ++ Lib.strCells s) (by simpa [Lib.strCells_length] using hown') (by decide))
  · exact (hb1.grown hgrow (by have := hb1.size; omega) (fun k hk => (hown.lt k hk).1)).setCell (p := ⟨b, 1, none⟩) hB _
theorem bld_String (b : Nat) (l : List UInt8) (w : World) (h : Bld w b l) :
    Calls Tryz.prog 155 #[.pointer (some ⟨b, 0, none⟩)] w fun e w' => e = .returned (.string ⟨l.toArray⟩) ∧ Bld w' b l ∧ Wrote b w w' :=
  (Tryz.Builder_String_any_k b b _ w h (Nat.le_of_lt h.lt)).mono fun _ _ h => ⟨h.1, h.2.1, h.2.2.1, h.2.2.2⟩
end Go.Proofs.Sm

namespace Go.Proofs.Sm
open Go.RowKit

theorem fr_wrote {a w w1 : World} {b : Nat} (h : Below a.heap.size a w) (hw : Wrote b w w1) (hb : a.heap.size ≤ b) : Below a.heap.size a w1 := h.trans (hw.1.mono hb)
theorem below_wrote {b : Nat} {a w w1 : World} (h : Below b a w) (hw : Wrote b w w1) : Below b a w1 := h.trans hw.1
theorem below_call {b : Nat} {a w w1 : World} (hlt : b ≤ a.heap.size) (h : Below b a w) (hb : Below w.heap.size w w1) : Below b a w1 := h.trans (hb.mono (Nat.le_trans hlt h.size))

end Go.Proofs.Sm

namespace Go.Proofs.Sm
open Go.RowKit

theorem join_any (A : Option Addr) (n c : Nat) (ws : List ByteArray) (w : World) (hsl : Sl w (Lt w.heap.size) A n ws) (hnc : n ≤ c) (hn : n ≤ 140737488355328) (hlen : (joinS ws).length ≤ 140737488355328) :
    Calls Tryz.prog 153 #[.slice A n c, .string ⟨#[32]⟩] w fun e w' => e = .returned (.string ⟨(joinS ws).toArray⟩) ∧ Below w.heap.size w w' := by
  have h1 := hsl.1
  by_cases h0 : n = 0
  · subst h0
    cases ws with
    | cons a l => simp at h1
    | nil => exact (Tryz.strings_Join_none A c ⟨#[32]⟩ w).mono fun _ _ h => ⟨h.1, below_eq h.2.symm⟩
  · obtain ⟨b, o, x, rfl, hb, _⟩ := hsl.str (k := 0) (by omega)
    subst h1
    exact (Tryz.strings_Join b o c ws ⟨#[32]⟩ w (fun j x hx => by
      have hj : j < ws.length := by
        rcases Nat.lt_or_ge j ws.length with h | h
        · exact h
        · rw [List.getElem?_eq_none h] at hx; cases hx
      obtain ⟨b', o', y, e, _, hy, _, c0⟩ := hsl.str hj
      cases e
      rw [hx] at hy; cases hy
      exact c0) hb hn hnc hlen).mono fun _ _ h => h
set_option maxHeartbeats 1000000 in
set_option maxRecDepth 100000 in
theorem act_text1 (g : Nat) (L : List UInt8) (A : Option Addr) (n c : Nat) (ws : List ByteArray) (w : World) (hB : Bld w g L) (hsl : Sl w (Lt w.heap.size) A n ws) (hnc : n ≤ c) (hn : n ≤ 140737488355328) (hlen : L.length + (joinS ws).length ≤ 10000000) :
    Calls Tryz.prog 151 #[.slice A n c, .pointer (some ⟨g, 0, none⟩)] w fun e w' => e = .returned (.tuple #[]) ∧ Bld w' g (L ++ lineW ws) ∧ Wrote g w w' := by
  have hgl := hB.lt
  obtain ⟨j, hj⟩ : ∃ j : ByteArray, j = ⟨(joinS ws).toArray⟩ := ⟨_, rfl⟩
  have hjs : j.size = (joinS ws).length := by rw [hj]; simp [ByteArray.size]
  have hjl : j.data.toList = joinS ws := by rw [hj]
  have HJ := Lib.hid (hj ▸ join_any A n c ws w hsl hnc hn (by omega) : Calls Tryz.prog 153 #[.slice A n c, .string ⟨#[32]⟩] w fun e w' => e = .returned (.string j) ∧ Below w.heap.size w w')
  clear hj
  have HL := Lib.hid hjl; clear hjl
  have q4 : (⟨#[10]⟩ : ByteArray).size = 1 := rfl
  obtain ⟨p, z, P, a⟩ := cat_op j ⟨#[10]⟩ (by omega)
  go_enter Tryz.func151, Tryz.ntmps151
  go_wp2_with fail
  refine HJ.out.mono ?_
  rintro e w1 ⟨rfl, hb1⟩
  have hB1 := hB.call hb1
  go_wp2_with (go_at_call 152; refine (bld_WriteString g L p _ hB1 (by omega)).mono ?_; rintro e w2 ⟨rfl, hB2, hw2⟩)
  first | go_end0 | refine bodyPost_ret (results_none rfl _ _ _) rfl ?_
  exact ⟨rfl, by rw [lineW, ← HL.out, ← show p.data.toList = j.data.toList ++ [10] from P.out]; exact hB2, (Wrote.of_below hb1 (Nat.le_of_lt hgl)).trans hw2⟩
end Go.Proofs.Sm

namespace Go.Proofs.Sm
open Go.RowKit

section
variable {w w' : World} {S : Nat → Prop} {B g mi mw ml : Nat} {q : ActP} {a : ActionV} {F : List FileV} {M : Nat} {s : ExSt} {p : ByteArray}
theorem read_none (h : (findE p F s).1 = none) : readE p F s = (([], 2), (findE p F s).2) := by unfold readE Ex.bind; rw [h]; rfl
theorem read_some {x : FileV} (h : (findE p F s).1 = some x) : readE p F s = ((x.bytes, 0), (findE p F s).2) := by unfold readE Ex.bind; rw [h]; rfl
/-- what is read -/
def ReadPost (S : Nat → Prop) (B g mi mw ml : Nat) (q : ActP) (a : ActionV) (F : List FileV) (M : Nat) (s : ExSt) (p : ByteArray) (w : World) (e : Ending) (w' : World) : Prop :=
  Kp (fun k => k = ml) w w' ∧ Wk w' S B g mi mw ml q a F (M + codeN (readE p F s).1.2) (readE p F s).2 ∧ ∃ A n c, e = .returned (.tuple #[.slice A n c, .int .i64 (readE p F s).1.2]) ∧ n ≤ c ∧ c ≤ maxLen ∧ Sl w' S A n (readE p F s).1.1
theorem ReadPost.none_ {w1 : World} (hk : Kp (fun k => k = ml) w w1) (hW : Wk w1 S B g mi mw ml q a F (M + noneN (findE p F s).1) (findE p F s).2) (h : (findE p F s).1 = none) (hb : Below w1.heap.size w1 w') : ReadPost S B g mi mw ml q a F M s p w (.returned (.tuple #[.slice none 0 0, .int .i64 2])) w' := by
  unfold ReadPost
  rw [h] at hW
  rw [read_none h]
  exact ⟨hk.call hb, hW.call hb, none, 0, 0, rfl, Nat.le_refl _, Nat.zero_le _, Sl.nil⟩
theorem ReadPost.some_ {w1 : World} {x : FileV} {A : Option Addr} {n c : Nat} (hk : Kp (fun k => k = ml) w w1) (hW : Wk w1 S B g mi mw ml q a F (M + noneN (findE p F s).1) (findE p F s).2) (h : (findE p F s).1 = some x) (h1 : n ≤ c) (h2 : c ≤ maxLen) (h3 : Sl w1 S A n x.bytes) (hb : Below w1.heap.size w1 w') : ReadPost S B g mi mw ml q a F M s p w (.returned (.tuple #[.slice A n c, .int .i64 0])) w' := by
  unfold ReadPost
  rw [h] at hW
  rw [read_some h]
  exact ⟨hk.call hb, hW.call hb, A, n, c, rfl, h1, h2, h3.keep fun k hk => hb.block k (hW.sep k hk).1⟩
end
set_option maxHeartbeats 2000000 in
set_option maxRecDepth 100000 in
theorem act_read (S : Nat → Prop) (B g mi mw ml : Nat) (q : ActP) (a : ActionV) (F : List FileV) (M : Nat) (s : ExSt) (p : ByteArray) (w : World) (hp : p.size ≤ maxLen) (hM : M ≤ 1000000) (h : Wk w S B g mi mw ml q a F M s) :
    Calls Tryz.prog 126 #[.pointer (some ⟨g, 0, none⟩), .string p] w (ReadPost S B g mi mw ml q a F M s p w) := by
  have HF := Lib.hid (act_find S B g mi mw ml q a F M s p w hp hM h)
  clear h
  go_enter Tryz.func126, Tryz.ntmps126
  go_wp2_with fail
  refine HF.out.mono ?_
  rintro e w1 ⟨hk, hW, hr⟩
  cases hf : (findE p F s).1 with
  | none =>
    rw [hf] at hr
    obtain rfl := hr
    have HE := Lib.hid (fun (w' : World) (hb : Below w1.heap.size w1 w') => ReadPost.none_ hk hW hf hb)
    unfold noFile
    clear hk hW hf HF
    go_wp2
    go_ret2
    exact HE.out _ (by repeat (first | exact fr_refl _ | refine fr_call ?_ (by assumption) | refine fr_alloc ?_ _ | refine fr_set ?_ (by simp) _ | refine Below.drew ?_ | refine below_drewN ?_ _))
  | some x =>
    rw [hf] at hr
    obtain ⟨v, ⟨h0, A, n, c, rfl, h1, h2, h3⟩, rfl⟩ := hr
    have HE := Lib.hid (fun (w' : World) (hb : Below w1.heap.size w1 w') => ReadPost.some_ hk hW hf h1 h2 h3 hb)
    clear hk hW hf h3 HF
    go_wp2
    go_ret2
    exact HE.out _ (by repeat (first | exact fr_refl _ | refine fr_call ?_ (by assumption) | refine fr_alloc ?_ _ | refine fr_set ?_ (by simp) _ | refine Below.drew ?_ | refine below_drewN ?_ _))
/-- bytes of a string, in a row of their own -/
theorem to_bytesN (t : ByteArray) (ht : t.size ≤ maxLen) (w : World) : ∃ w2 c, (convert 9 48 (.string t)).run Tryz.prog w = .ok (.slice (some ⟨w.heap.size, 0, none⟩) t.size c) w2 ∧ t.size ≤ c ∧ c ≤ maxLen ∧ Below w.heap.size w w2 ∧
    Sl w2 (fun k => w.heap.size ≤ k ∧ k < w2.heap.size) (some ⟨w.heap.size, 0, none⟩) t.size t.data.toList := by
  refine ⟨Lib.bytesWorld w 5 t, _, Lib.run_convert_string_bytes (P := Tryz.prog) w 9 48 5 t Tryz.underlying9 Tryz.underlying48 Tryz.underlying5, grownCap_ge _ _ _ _, grownCap_le_maxLen _ _ _ _ ht, Lib.bytesWorld_below _ _ _, by simp, ht, fun _ => ⟨_, _, rfl, ⟨Nat.le_refl _, by rw [Lib.bytesWorld_size]; omega⟩, fun i x hx => ⟨[.int .u8 x.toNat], rfl, fun j v hv => ?_⟩⟩⟩
  have hj : j = 0 ∧ v = .int .u8 x.toNat := by
    cases j with
    | zero => simp at hv; exact ⟨rfl, hv.symm⟩
    | succ j => simp at hv
  obtain ⟨rfl, rfl⟩ := hj
  have hi : i < t.data.toList.length := (List.getElem?_eq_some_iff.1 hx).1
  have h := Lib.bytesWorld_cell w 5 t i (by simpa using hi)
  simp only [Rep.sz, Nat.mul_one, Nat.add_zero, Nat.zero_add]
  rw [h, List.getD_eq_getElem?_getD, hx]; rfl
/-- all blocks but the worker's -/
def OffW (g mi mw ml : Nat) (w : World) : Nat → Prop := fun k => k < w.heap.size ∧ k ≠ g ∧ k ≠ mi ∧ k ≠ mw ∧ k ≠ ml
section
variable {w w' : World} {S S' : Nat → Prop} {B g mi mw ml : Nat} {q : ActP} {a : ActionV} {F : List FileV} {M : Nat} {s : ExSt} {p : ByteArray}
theorem Wk.moreS (h : Wk w S B g mi mw ml q a F M s) (hS : ∀ k, S k → S' k) (hsep : ∀ k, S' k → k < w.heap.size ∧ k ≠ g ∧ k ≠ mi ∧ k ≠ mw ∧ k ≠ ml) : Wk w S' B g mi mw ml q a F M s :=
  { h with new := h.new.more fun k hk => ⟨hk.1, hS k hk.2⟩, lowS := fun k hk => hS k (h.lowS k hk), sep := hsep }
theorem Wk.off (h : Wk w S B g mi mw ml q a F M s) : Wk w (OffW g mi mw ml w) B g mi mw ml q a F M s := h.moreS h.sep fun _ h => h
theorem Wk.keepB (h : Wk w S B g mi mw ml q a F M s) (hk : Kp (fun k => k = ml) w w') : ∀ k, Lt B k → w'.heap[k]? = w.heap[k]? := fun k hh => hk.block k (h.sep k (h.lowS k hh)).1 (h.sep k (h.lowS k hh)).2.2.2.2
theorem Wk.ltB (h : Wk w S B g mi mw ml q a F M s) : ∀ k, Lt B k → Lt w.heap.size k := fun k hh => (h.sep k (h.lowS k hh)).1
theorem Wk.bound (h : Wk w S B g mi mw ml q a F M s) : B ≤ w.heap.size := Nat.le_trans h.low.1 (Nat.le_of_lt h.blk.lt)
/-- bytes that a command makes, and a code -/
def MadePost (B g mi mw ml : Nat) (q : ActP) (a : ActionV) (F : List FileV) (M : Nat) (r : (List UInt8 × Int) × ExSt) (w : World) (e : Ending) (w' : World) : Prop :=
  Kp (fun k => k = ml) w w' ∧ Wk w' (OffW g mi mw ml w') B g mi mw ml q a F M r.2 ∧ ∃ A n c, e = .returned (.tuple #[.slice A n c, .int .i64 r.1.2]) ∧ n ≤ c ∧ c ≤ maxLen ∧ (r.1.2 = 0 → n ≤ 1000000000000000) ∧ Sl w' (OffW g mi mw ml w') A n r.1.1
theorem MadePost.mk_ {r : (List UInt8 × Int) × ExSt} {w1 : World} {A : Option Addr} {n c : Nat} {b : List UInt8} {z : Int} {s' : ExSt} (hr : r = ((b, z), s')) (hk : Kp (fun k => k = ml) w w1) (hW : Wk w1 S B g mi mw ml q a F M s') (h1 : n ≤ c) (h2 : c ≤ maxLen) (hn : z = 0 → n ≤ 1000000000000000) (hs : Sl w1 (OffW g mi mw ml w1) A n b) (hb : Below w1.heap.size w1 w') :
    MadePost B g mi mw ml q a F M r w (.returned (.tuple #[.slice A n c, .int .i64 z])) w' := by
  subst hr
  exact ⟨hk.call hb, (hW.call hb).off, A, n, c, rfl, h1, h2, hn, (hs.keep fun k hk => hb.block k hk.1).more fun k hk => ⟨Nat.lt_of_lt_of_le hk.1 hb.size, hk.2⟩⟩
theorem pick_nil (F : List FileV) (s : ExSt) : pickE [] F s = (([], 2), s) := rfl
theorem pick_next {x : ByteArray} {l : List ByteArray} (h : (findE x F s).1 = none) : pickE (x :: l) F s = pickE l F (findE x F s).2 := by rw [pickE, Ex.bind]; simp only [h]
theorem pick_this {x : ByteArray} {l : List ByteArray} {y : FileV} (h : (findE x F s).1 = some y) : pickE (x :: l) F s = ((y.bytes, 0), (findE x F s).2) := by rw [pickE, Ex.bind]; simp only [h]; rfl
end
set_option maxHeartbeats 2000000 in
set_option maxRecDepth 100000 in
theorem act_pick (S : Nat → Prop) (B g mi mw ml : Nat) (q : ActP) (a : ActionV) (F : List FileV) (M : Nat) (s : ExSt) (A : Option Addr) (n c : Nat) (l : List ByteArray) (w : World) (hM : M + n ≤ 1000000) (h : Wk w S B g mi mw ml q a F M s) (hsl : Sl w (Lt B) A n l) :
    Calls Tryz.prog 171 #[.pointer (some ⟨g, 0, none⟩), .slice A n c] w (MadePost B g mi mw ml q a F (M + n) (pickE l F s) w) := by
  have hm : n ≤ 9223372036854775807 := by omega
  have HL := Lib.hid hsl.1
  have HB := Lib.hid (fun w' (hk : Kp (fun k => k = ml) w w') => h.keepB hk)
  go_enter Tryz.func171, Tryz.ntmps171
  go_wp2
  go_loopw [12] (fun i wr => ∃ (k : Nat) (s' : ExSt), k ≤ n ∧ i = .int .i64 k ∧ Kp (fun k => k = ml) w wr ∧ Wk wr S B g mi mw ml q a F (M + k) s' ∧ pickE l F s = pickE (l.drop k) F s') (fun i _ => n - (intOf i).toNat)
  case atStart => exact ⟨0, s, Nat.zero_le _, rfl, Kp.refl _ _, h, rfl⟩
  case round =>
    clear h
    obtain ⟨k, s', hk, rfl, hkp, hW, he⟩ := hrel
    have HE := Lib.hid he
    clear he
    by_cases hlt : k < n
    · obtain ⟨b, o, x, rfl, hb, hx, hxs, c0⟩ := (hsl.keep (HB.out _ hkp)).str hlt
      have hd := drop_at hx
      have HF := Lib.hid (act_find S B g mi mw ml q a F (M + k) s' x wr hxs (by omega) hW)
      have hsm := fun y (hy : (findE x F s').1 = some y) => find_short hW.ok hW.small hy
      clear hx hW
      go_wp2_with fail
      refine HF.out.mono ?_
      rintro e w1 ⟨hk1, hW1, hr⟩
      have hk2 := hkp.trans hk1
      cases hf : (findE x F s').1 with
      | none =>
        rw [hf] at hr hW1
        obtain rfl := hr
        have HE2 := Lib.hid (HE.out.trans (by rw [hd, pick_next hf]))
        unfold noFile
        clear hf hd hkp hk1 HF HE
        go_wp2
        go_roundw
        case rel => exact ⟨k + 1, _, by omega, by go_num, hk2.alloc _, hW1.call (fr_alloc (fr_refl _) _), HE2.out⟩
        case measure => simp [intOf]; omega
      | some y =>
        rw [hf] at hr hW1
        obtain ⟨v, ⟨h0, A, n, c, rfl, h1, h2, h3⟩, rfl⟩ := hr
        have HE2 := Lib.hid (fun (w' : World) (hb : Below w1.heap.size w1 w') => MadePost.mk_ (HE.out.trans (by rw [hd, pick_this hf])) hk2 (hW1.up (M' := M + l.length) (by have := HL.out; simp only [noneN]; omega)) h1 h2 (fun _ => by have := hsm y hf; rw [h3.1] at this; omega) (h3.more hW1.sep) hb)
        rw [HL.out] at HE2
        clear hf hd hkp hk1 HF HE hW1 h3 hk2
        go_wp2
        go_ret2
        exact HE2.out _ (by repeat (first | exact fr_refl _ | refine fr_call ?_ (by assumption) | refine fr_alloc ?_ _ | refine fr_set ?_ (by simp) _ | refine Below.drew ?_ | refine below_drewN ?_ _))
    · have HE2 := Lib.hid (fun (w' : World) (hb : Below wr.heap.size wr w') => MadePost.mk_ (M := M + n) (HE.out.trans (by rw [List.drop_eq_nil_of_le (by have := HL.out; omega)]; exact pick_nil F s')) hkp (hW.up (by omega)) (Nat.le_refl 0) (Nat.zero_le _) (fun _ => Nat.zero_le _) Sl.nil hb)
      clear hW hkp HE
      go_wp2
      go_ret2
      exact HE2.out _ (by repeat (first | exact fr_refl _ | refine fr_call ?_ (by assumption) | refine fr_alloc ?_ _ | refine fr_set ?_ (by simp) _ | refine Below.drew ?_ | refine below_drewN ?_ _))
end Go.Proofs.Sm

namespace Go.Proofs.Sm
open Go.RowKit

section
variable {w w' : World} {S S' : Nat → Prop} {B g mi mw ml : Nat} {q : ActP} {a : ActionV} {F : List FileV} {M : Nat} {s : ExSt} {p : ByteArray}
theorem joined_nil (o : List UInt8) (F : List FileV) (s : ExSt) : joinedE [] o F s = ((o, 0), s) := rfl
theorem joined_next {x : ByteArray} {l : List ByteArray} {o : List UInt8} (h : (readE x F s).1.2 = 0) : joinedE (x :: l) o F s = joinedE l (o ++ (readE x F s).1.1) F (readE x F s).2 := by rw [joinedE, Ex.bind]; simp only [h, if_true]
theorem joined_bad {x : ByteArray} {l : List ByteArray} {o : List UInt8} (h : (readE x F s).1.2 ≠ 0) : joinedE (x :: l) o F s = (([], (readE x F s).1.2), (readE x F s).2) := by rw [joinedE, Ex.bind]; simp only [h, if_false]; rfl
theorem code_zero (h : (readE p F s).1.2 = 0) : codeN (readE p F s).1.2 = 0 := by rw [codeN, if_pos h]
end
set_option maxHeartbeats 2000000 in
set_option maxRecDepth 100000 in
theorem act_joined (S : Nat → Prop) (B g mi mw ml : Nat) (q : ActP) (a : ActionV) (F : List FileV) (M : Nat) (s : ExSt) (A : Option Addr) (n c : Nat) (l : List ByteArray) (w : World) (hM : M + 1 ≤ 1000000) (hn : n ≤ 1000) (h : Wk w S B g mi mw ml q a F M s) (hsl : Sl w (Lt B) A n l) :
    Calls Tryz.prog 169 #[.pointer (some ⟨g, 0, none⟩), .slice A n c] w (MadePost B g mi mw ml q a F (M + 1) (joinedE l [] F s) w) := by
  obtain ⟨i0, hi0, hz0, hz1, hz2⟩ := info_parts cl_byte_info
  have hm : n ≤ 9223372036854775807 := by omega
  have HL := Lib.hid hsl.1
  have HB := Lib.hid (fun w' (hk : Kp (fun k => k = ml) w w') => h.keepB hk)
  have hlow : B ≤ w.heap.size ∧ g < w.heap.size ∧ mi < w.heap.size ∧ mw < w.heap.size ∧ ml < w.heap.size := ⟨h.bound, h.blk.lt, h.inp.lt, h.wri.lt, MapIs.lt h.lok⟩
  have HSl := Lib.hid (fun k (hk : S k) => (h.sep k hk).1)
  have HS := Lib.hid (show ∀ (w' : World) (k : Nat), w.heap.size ≤ k ∧ k < w'.heap.size → OffW g mi mw ml w' k from fun w' k hk => ⟨hk.2, by omega, by omega, by omega, by omega⟩)
  go_enter Tryz.func169, Tryz.ntmps169
  go_wp2
  go_loopw [6, 13] (fun v i wr => ∃ (k : Nat) (s' : ExSt) (o : List UInt8), k ≤ n ∧ i = .int .i64 k ∧ Kp (fun k => k = ml) w wr ∧ Wk wr S B g mi mw ml q a F M s' ∧ OwnB wr w.heap.size 5 v o ∧ o.length ≤ k * 100000 ∧ joinedE l [] F s = joinedE (l.drop k) o F s') (fun _ i _ => n - (intOf i).toNat)
  case atStart => exact ⟨0, s, [], Nat.zero_le _, rfl, Kp.refl _ _, h, OwnB.nil _ _ _, by simp, rfl⟩
  case round =>
    clear h
    obtain ⟨k, s', o, hk, rfl, hkp, hW, hown, hol, he⟩ := hrel
    have HE := Lib.hid he
    clear he
    by_cases hlt : k < n
    · obtain ⟨b, o', x, rfl, hb, hx, hxs, c0⟩ := (hsl.keep (HB.out _ hkp)).str hlt
      have hd := drop_at hx
      have hsm := read_short (p := x) hW.ok hW.small
      have HF := Lib.hid (act_read S B g mi mw ml q a F M s' x wr hxs (by omega) hW)
      clear hx hW
      go_wp2_with fail
      refine HF.out.mono ?_
      rintro e w1 ⟨hk1, hW1, A1, n1, c1, rfl, h11, h12, h13⟩
      have hk2 := hkp.trans hk1
      have hown1 := hown.kp hk1 (fun b hb e => by omega)
      by_cases hz : (readE x F s').1.2 = 0
      · have HE2 := Lib.hid (HE.out.trans (by rw [hd, joined_next hz]))
        rw [code_zero hz, Nat.add_zero] at hW1
        rw [hz]
        have hn1 : n1 ≤ 100000 := by rw [← h13.1]; exact hsm
        have hn1' := h13.1
        generalize (readE x F s').1.1 = bs at hsm h13 HE2 hn1'
        generalize (readE x F s').2 = s2 at hW1 HE2
        obtain ⟨A0, c0', rfl, _, _, _⟩ := hown1.sl
        have hnews := fun h0 => sl_byteCells h13 h0
        have HN := Lib.hid hnews
        have HO := Lib.hid hown1
        have H1 := Lib.hid hn1'
        have hk3 := hk2.size
        have HG := Lib.hid (fun g hg => (hown1.lt g hg).1)
        clear hz hd hkp hk1 HF HE h13 hown hown1 hn1' hnews
        go_wp2_with (
          at_builtin
          refine wpList_append_src rfl _ _ 48 rfl w.heap.size 5 i0 _ 1 1 Tryz.underlying48 hi0 hz0 hz1 hz2 rfl (by decide) _ o.length _ rfl HO.out A1 n1 c1 (Lib.byteCells bs) rfl (by rw [byteCells_length, H1.out, Nat.mul_one]) HN.out byteCells_one (by unfold maxLen; omega) (by omega) hk3 ?_
          intro v' w2 hown2 hg2
          have hk4 := hk2.grown hg2 (fun g hg => .inr (HG.out g hg))
          have hW2 := hW1.keep (X := fun k => w.heap.size ≤ k) (by exact Kp.grown (Kp.refl _ _) hg2 (fun g hg => .inl (HG.out g hg))) (by omega) (by omega) (by omega) (by omega) (fun k hk => by have := HSl.out k hk; omega)
          have hown3 : OwnB w2 w.heap.size 5 v' (o ++ bs) := by unfold OwnB; rw [byteCells_append, List.length_append, H1.out]; exact hown2
          clear hown2 hg2 hW1 HO HN HG)
        go_roundw
        case rel => exact ⟨k + 1, _, _, by omega, by go_num, hk4, hW2, hown3, by rw [List.length_append, H1.out, Nat.succ_mul]; omega, HE2.out⟩
        case measure => simp [intOf]; omega
      · have hne : ((readE x F s').1.2 != 0) = true := by simpa using hz
        have HE2 := Lib.hid (fun (w' : World) (hb : Below w1.heap.size w1 w') => MadePost.mk_ (M := M + 1) (HE.out.trans (by rw [hd, joined_bad hz])) hk2 (hW1.up (by have := codeN_le (readE x F s').1.2; omega)) (Nat.le_refl 0) (Nat.zero_le _) (fun _ => Nat.zero_le _) Sl.nil hb)
        generalize (readE x F s').1.2 = z at hne HE2
        clear hz hd hkp hk1 HF HE h13 hown hown1 hW1 hk2
        go_wp2
        go_ret2
        exact HE2.out _ (by repeat (first | exact fr_refl _ | refine fr_call ?_ (by assumption) | refine fr_alloc ?_ _ | refine fr_set ?_ (by simp) _ | refine Below.drew ?_ | refine below_drewN ?_ _))
    · obtain ⟨A', c', rfl, h1, h2, h3⟩ := hown.sl
      have HE2 := Lib.hid (fun (w' : World) (hb : Below wr.heap.size wr w') => MadePost.mk_ (M := M + 1) (HE.out.trans (by rw [List.drop_eq_nil_of_le (by have := HL.out; omega)]; exact joined_nil o F s')) hkp (hW.up (by omega)) h1 h2 (fun _ => by omega) (h3.more (HS.out _)) hb)
      clear hW hkp HE hown h3
      go_wp2
      go_ret2
      exact HE2.out _ (by repeat (first | exact fr_refl _ | refine fr_call ?_ (by assumption) | refine fr_alloc ?_ _ | refine fr_set ?_ (by simp) _ | refine Below.drew ?_ | refine below_drewN ?_ _))
/-! ### What is told -/
section
variable {w w' : World} {S S' : Nat → Prop} {B g mi mw ml : Nat} {q : ActP} {a : ActionV} {F : List FileV} {M : Nat} {s : ExSt} {p : ByteArray}
/-- a code; what the worker itself holds may have changed -/
def DoPost (B g mi mw ml : Nat) (q : ActP) (a : ActionV) (F : List FileV) (M : Nat) (r : Int × ExSt) (w : World) (e : Ending) (w' : World) : Prop :=
  Kp (fun k => k = g ∨ k = mw ∨ k = ml) w w' ∧ Wk w' (OffW g mi mw ml w') B g mi mw ml q a F M r.2 ∧ e = .returned (.int .i64 r.1)
theorem DoPost.mk_ {r : Int × ExSt} {w1 : World} {z : Int} {s' : ExSt} (hr : r = (z, s')) (hk : Kp (fun k => k = g ∨ k = mw ∨ k = ml) w w1) (hW : Wk w1 S B g mi mw ml q a F M s') (hb : Below w1.heap.size w1 w') :
    DoPost B g mi mw ml q a F M r w (.returned (.int .i64 z)) w' := by
  subst hr
  exact ⟨hk.call hb, (hW.call hb).off, rfl⟩
theorem tell_large {ws : List ByteArray} (h : 100000 < (s.told ++ lineW ws).length) : tellE ws F s = (5, s) := if_pos h
theorem tell_fits {ws : List ByteArray} (h : ¬ 100000 < (s.told ++ lineW ws).length) : tellE ws F s = (0, { s with told := s.told ++ lineW ws }) := if_neg h
/-- what the worker has told, and how much it wrote -/
theorem Wk.setTold (h : Wk w S B g mi mw ml q a F M s) {t : List UInt8} (hok : ExOk a F M { s with told := t }) : Wk (w.setCell ⟨g, 9, none⟩ (.string ⟨t.toArray⟩)) S B g mi mw ml q a F M { s with told := t } := by
  have hk : Kp (fun k => k = g) w (w.setCell ⟨g, 9, none⟩ (.string ⟨t.toArray⟩)) := (Kp.refl (fun k => k = g) w).set (p := ⟨g, 9, none⟩) rfl _
  have hb := hk.block
  have hSk : ∀ k, S k → (w.setCell ⟨g, 9, none⟩ (.string ⟨t.toArray⟩)).heap[k]? = w.heap[k]? := fun k hh => hb k (h.sep k hh).1 (h.sep k hh).2.1
  have hB : ∀ k, Lt B k → (w.setCell ⟨g, 9, none⟩ (.string ⟨t.toArray⟩)).heap[k]? = w.heap[k]? := fun k hh => hSk k (h.lowS k hh)
  exact ⟨h.env.of_heap hk.size fun k hh => hB k (Nat.lt_of_lt_of_le hh h.envB), h.envB, h.blk.set 9 _, h.act.keep hB, h.inp.keep (hb mi h.inp.lt (Ne.symm h.dif.2.2.2.1)) hB, h.new.keep (hb mw h.new.lt (Ne.symm h.dif.2.2.2.2.1)) (fun k hk => hSk k hk.2), MapIs.keep h.lok (hb ml (MapIs.lt h.lok) (Ne.symm h.dif.2.2.2.2.2)),
    hok, h.low, h.dif, h.lowS, fun k hh => ⟨Nat.lt_of_lt_of_le (h.sep k hh).1 hk.size, (h.sep k hh).2⟩, h.many, h.small⟩
theorem ExOk.tell (h : ExOk a F M s) {ws : List ByteArray} (hw : ∀ x ∈ ws, isWordS x = true) : ExOk a F M (tellE ws F s).2 :=
  (h.step (M' := M) (c := 0) (f := fun _ => 0) (asks_tell ws) (miss_tell ws 0) (keepsW_tell a hw) (Nat.le_refl _))
theorem told_bytes (l : List UInt8) (t : ByteArray) (h : t.data.toList = l) : (⟨l.toArray⟩ : ByteArray) = t := by
  subst h
  cases t
  simp
end
set_option maxHeartbeats 2000000 in
set_option maxRecDepth 100000 in
theorem act_tell (S : Nat → Prop) (B g mi mw ml : Nat) (q : ActP) (a : ActionV) (F : List FileV) (M : Nat) (s : ExSt) (A : Option Addr) (n c : Nat) (l : List ByteArray) (w : World) (hn : n ≤ 1000) (hnc : n ≤ c) (h : Wk w S B g mi mw ml q a F M s) (hsl : Sl w (Lt B) A n l) (hw : ∀ x ∈ l, isWordS x = true) (hlen : (joinS l).length ≤ 1000000) :
    Calls Tryz.prog 125 #[.pointer (some ⟨g, 0, none⟩), .slice A n c] w (DoPost B g mi mw ml q a F M (tellE l F s) w) := by
  have hgw := h.blk.lt
  have c9 := h.blk.cell (i := 9) rfl
  have htold : s.told.length ≤ 100000 := h.ok.wrote.told.2.2
  obtain ⟨t0, ht0⟩ : ∃ t0 : ByteArray, (⟨s.told.toArray⟩ : ByteArray) = t0 := ⟨_, rfl⟩
  have ht0l : t0.data.toList = s.told := by rw [← ht0]
  have ht0s : t0.size ≤ 100000 := by have : t0.size = t0.data.toList.length := (Array.length_toList).symm; rw [this, ht0l]; exact htold
  obtain ⟨j0, hj0⟩ : ∃ j0 : ByteArray, (⟨(joinS l).toArray⟩ : ByteArray) = j0 := ⟨_, rfl⟩
  have hj0l : j0.data.toList = joinS l := by rw [← hj0]
  have hj0s : j0.size ≤ 1000000 := by have : j0.size = j0.data.toList.length := (Array.length_toList).symm; rw [this, hj0l]; exact hlen
  obtain ⟨s1, hs1, hs1l, hcat1⟩ := cat_op t0 j0 (by omega)
  obtain ⟨s2, hs2, hs2l, hcat2⟩ := cat_op s1 ⟨#[10]⟩ (by have : (⟨#[10]⟩ : ByteArray).size = 1 := rfl; omega)
  have hs2s : s2.data.toList = s.told ++ lineW l := by rw [hs2l.out, hs1l.out, ht0l, hj0l, lineW, List.append_assoc]
  have hsz : s2.size = (s.told ++ lineW l).length := by rw [← hs2s]; exact (Array.length_toList).symm
  have hs2m : s2.size ≤ 9223372036854775807 := by have : (⟨#[10]⟩ : ByteArray).size = 1 := rfl; omega
  have HJ := Lib.hid (fun W (hb : Below w.heap.size w W) => join_any A n c l W ((hsl.more h.ltB).keep (keep_lt hb) |>.more (lt_mono hb.size)) hnc (by omega) (by omega))
  rw [hj0] at HJ
  rw [ht0] at c9
  have hf9 := fun w' (hb : Below w.heap.size w w') => (h.blk.call hb).frozen 9
  have HF9 := Lib.hid hf9
  have HK := Lib.hid (show ∀ w', Below w.heap.size w w' → (Below w.heap.size w w' ∧ w'.cell? ⟨g, 9, none⟩ = some (.string t0)) from fun w' hb => ⟨hb, (hb.cell (p := ⟨g, 9, none⟩) hgw).trans c9⟩)
  have hbelw := Below.refl w.heap.size w
  clear hf9
  by_cases hbig : 100000 < s2.size
  · have hbI : (100000 : Int) < (s2.size : Int) := by omega
    have HE := Lib.hid (fun (w' : World) (hb : Below w.heap.size w w') => DoPost.mk_ (tell_large (F := F) (s := s) (ws := l) (by rw [← hsz]; exact hbig)) (Kp.refl (fun k => k = g ∨ k = mw ∨ k = ml) w) h hb)
    clear h hsl ht0l hj0l hs1l hs2l hs2s hsz ht0 hj0
    go_enter Tryz.func125, Tryz.ntmps125
    go_wp2
    go_region_held3 (fun w' => Below w.heap.size w w' ∧ w'.cell? ⟨g, 9, none⟩ = some (.string t0))
      (first | assumption | exact HK.out _ (Below.refl _ w).drew | exact HK.out _ (fr_call (And.left (by assumption)) hbc))
      (first | (go_at_call 153; refine (HJ.out _ (And.left (by assumption))).mono ?_; rintro e wc ⟨rfl, hbc⟩))
    have hb9 : Below w.heap.size w wc := And.left (by assumption)
    go_wp2
    go_ret
    exact HE.out _ (by repeat (first | exact fr_refl _ | refine fr_call ?_ (by assumption) | refine fr_alloc ?_ _ | refine fr_set ?_ (by simp) _ | refine Below.drew ?_ | refine below_drewN ?_ _))
  · have hbI : ¬ (100000 : Int) < (s2.size : Int) := by omega
    have ht := tell_fits (F := F) (s := s) (ws := l) (by rw [← hsz]; exact hbig)
    have hok := h.ok.tell (ws := l) hw
    rw [ht] at hok
    have hs2e := told_bytes _ _ hs2s
    have HE := Lib.hid (fun (w' : World) (hb : Below w.heap.size w w') => DoPost.mk_ ht (((Kp.of hb).set (X := fun k => k = g ∨ k = mw ∨ k = ml) (p := ⟨g, 9, none⟩) (.inl rfl) (.string s2))) (by have := (h.call hb).setTold hok; rw [hs2e] at this; exact this) (Below.refl _ _))
    clear h hsl ht0l hj0l hs1l hs2l hs2s hsz ht0 hj0 ht hok hs2e
    go_enter Tryz.func125, Tryz.ntmps125
    go_wp2
    go_region_held3 (fun w' => Below w.heap.size w w' ∧ w'.cell? ⟨g, 9, none⟩ = some (.string t0))
      (first | assumption | exact HK.out _ (Below.refl _ w).drew | exact HK.out _ (fr_call (And.left (by assumption)) hbc))
      (first | (go_at_call 153; refine (HJ.out _ (And.left (by assumption))).mono ?_; rintro e wc ⟨rfl, hbc⟩))
    have hb9 : Below w.heap.size w wc := And.left (by assumption)
    have d9 := (HK.out _ hb9).2
    have f9 := HF9.out _ hb9
    go_wp2
    go_ret
    exact HE.out _ hb9
end Go.Proofs.Sm

namespace Go.Proofs.Sm
open Go.RowKit

theorem cut_from (b o n c k : Nat) (hk : k ≤ n) (hnc : n ≤ c) (hc : c ≤ maxLen) : ∃ A2 c2, (∀ W, (Instr.slice 48 (.slice (some ⟨b, o, none⟩) n c) (some (.int .i64 (k : Int))) none none).run Tryz.prog W = .ok (.slice A2 (n - k) c2) W) ∧ n - k ≤ c2 ∧ c2 ≤ maxLen ∧ (0 < n - k → A2 = some ⟨b, o + k, none⟩) := by
  have hkn : (k : Int) ≤ (n : Int) := by omega
  have hm : c ≤ 9223372036854775807 := hc
  by_cases hck : c = k
  · obtain rfl : n = c := by omega
    subst hck
    refine ⟨some ⟨b, o, none⟩, 0, fun W => ?_, by omega, Nat.zero_le _, fun h => absurd h (by omega)⟩
    simp [go_sem, Tryz.underlying48]
  · refine ⟨some ⟨b, o + k, none⟩, c - k, fun W => ?_, by omega, by omega, fun _ => rfl⟩
    simp [go_sem, Tryz.underlying48, hkn, hck]
theorem cut_mid (b o n c k m : Nat) (hk : k ≤ m) (hm : m ≤ n) (hnc : n ≤ c) (hc : c ≤ maxLen) : ∃ A2 c2, (∀ W, (Instr.slice 48 (.slice (some ⟨b, o, none⟩) n c) (some (.int .i64 (k : Int))) (some (.int .i64 (m : Int))) none).run Tryz.prog W = .ok (.slice A2 (m - k) c2) W) ∧ (0 < m - k → A2 = some ⟨b, o + k, none⟩) := by
  have hkm : (k : Int) ≤ (m : Int) := by omega
  have hmc : (m : Int) ≤ (c : Int) := by omega
  have hmx : c ≤ 9223372036854775807 := hc
  by_cases hck : c = k
  · obtain rfl : m = k := by omega
    subst hck
    refine ⟨some ⟨b, o, none⟩, 0, fun W => ?_, fun h => absurd h (by omega)⟩
    simp [go_sem, Tryz.underlying48]
  · refine ⟨some ⟨b, o + k, none⟩, c - k, fun W => ?_, fun _ => rfl⟩
    simp [go_sem, Tryz.underlying48, hkm, hmc, hck]
theorem make_bytes (L : Nat) (hL : L ≤ 100000000) (W : World) : ∃ cs : List Value, cs.length = L ∧ (Instr.makeSlice 48 (.int .i64 (L : Int)) (.int .i64 (L : Int))).run Tryz.prog W = .ok (.slice (some ⟨W.heap.size, 0, none⟩) L L) (W.alloc (.cells cs.toArray 5)) := by
  obtain ⟨i0, hi0, hz0, hz1, hz2⟩ := info_parts cl_byte_info
  have h := run_make (P := Tryz.prog) W 48 5 i0 _ Tryz.underlying48 hi0 hz0 .i64 .i64 (L : Int) (L : Int) (by omega) (by omega) (by rw [hz2]; omega) (by omega)
  rw [hz1] at h
  refine ⟨(madeCells (Value.cells (.int .u8 0)) (L * 1)).toList, by rw [Array.length_toList, size_madeCells, Nat.mul_one], ?_⟩
  rw [h]
  simp
theorem splice_bytes (o t : List UInt8) (rest : List Value) : splice (Lib.byteCells o ++ rest) o.length (Lib.byteCells t) = Lib.byteCells (o ++ t) ++ rest.drop t.length := by
  unfold splice
  rw [List.take_left' (by simp [Lib.byteCells]), byteCells_length, Lib.byteCells_append]
  rw [List.drop_append, List.drop_eq_nil_of_le (by simp [Lib.byteCells])]
  simp [Lib.byteCells]
/-- the cells of a part of bytes -/
theorem part_cells {w : World} {S : Nat → Prop} {b o n k m : Nat} {l : List UInt8} (h : Sl w S (some ⟨b, o, none⟩) n l) : ∀ j u, (Lib.byteCells ((l.drop k).take m))[j]? = some u → w.cell? ((⟨b, o + k, none⟩ : Addr).add j) = some u := by
  intro j u hu
  simp only [Lib.byteCells, List.getElem?_map, Option.map_eq_some_iff] at hu
  obtain ⟨x, hx, rfl⟩ := hu
  have hx2 : l[k + j]? = some x := by
    rw [List.getElem?_take] at hx
    split at hx
    · rwa [List.getElem?_drop] at hx
    · cases hx
  have hlt := (List.getElem?_eq_some_iff.1 hx2).1
  obtain ⟨b', o', e, hb, hc⟩ := h.2.2 (by have := h.1; omega)
  cases e
  obtain ⟨vs, rfl, ha⟩ := hc _ x hx2
  have h0 := ha 0 _ rfl
  simp only [Rep.sz, Nat.mul_one, Nat.add_zero] at h0
  rw [addr_add, Nat.add_assoc]
  exact h0
theorem rep_next {s old new : List UInt8} {K k st : Nat} {o R : List UInt8} (hne : old ≠ []) (hk : k < K) (hst : st ≤ s.length) (hall : o ++ Lib.replaceK old new (K - k) (s.drop st) = R) (hc : K - k ≤ Lib.count (s.drop st) old) :
    ∃ j : Nat, Lib.index (s.drop st) old = j ∧ st + j + old.length ≤ s.length ∧ (o ++ (s.drop st).take j ++ new) ++ Lib.replaceK old new (K - (k + 1)) (s.drop (st + j + old.length)) = R ∧ K - (k + 1) ≤ Lib.count (s.drop (st + j + old.length)) old := by
  obtain ⟨j, hj⟩ := Lib.index_of_count (s := s.drop st) (old := old) (by omega)
  have hroom := Lib.index_room (s.drop st) old (by omega)
  have hh := Lib.count_hit hne hj
  have e : K - k = (K - (k + 1)) + 1 := by omega
  rw [e, Lib.replaceK_hit old new _ _ j hj, List.drop_drop] at hall
  rw [hj, List.length_drop] at hroom
  rw [List.drop_drop] at hh
  rw [← Nat.add_assoc] at hall hh
  refine ⟨j, hj, by omega, ?_, by omega⟩
  rw [← hall]
  simp [List.append_assoc]
theorem rep_last {s old new : List UInt8} {K k st : Nat} {o R : List UInt8} (hk : ¬ k < K) (hall : o ++ Lib.replaceK old new (K - k) (s.drop st) = R) : o ++ s.drop st = R := by
  rw [show K - k = 0 by omega] at hall
  exact hall
theorem cut_all (b L : Nat) (x : Int) (hx : x = L) (hL : L ≤ maxLen) : ∀ W, (Instr.slice 48 (.slice (some ⟨b, 0, none⟩) L L) (some (.int .i64 0)) (some (.int .i64 x)) none).run Tryz.prog W = .ok (.slice (some ⟨b, 0, none⟩) L L) W := by
  intro W
  subst hx
  have hm : L ≤ 9223372036854775807 := hL
  rcases Nat.eq_zero_or_pos L with h0 | h0
  · subst h0
    simp [go_sem, Tryz.underlying48]
  · have h1 : L ≠ 0 := by omega
    simp [go_sem, Tryz.underlying48, h1]
theorem byte_sz : (Tryz.prog.info? 5).map (·.size) = some 1 := by kernel_rfl
def RepPost (r : List UInt8) (w : World) (e : Ending) (w' : World) : Prop := ∃ A n c, e = .returned (.slice A n c) ∧ n ≤ c ∧ c ≤ maxLen ∧ Sl w' (fun k => w.heap.size ≤ k ∧ k < w'.heap.size) A n r ∧ Below w.heap.size w w'
theorem replaceAll_is (s old new : List UInt8) : Lib.replaceAll s old new = Lib.replaceK old new (Lib.count s old) s := by
  rw [Lib.replaceAll, Lib.replace]
  split
  · rename_i h
    have e : old = new := by simpa using h
    rw [← e, replace_same]
  · rw [Lib.replaceNum, if_pos (.inl (by decide))]
/-- the state of the loop: what was put down, and what is left -/
structure RepAt (w wr : World) (g L K n : Nat) (s old new : List UInt8) (i st : Nat) (o : List UInt8) (rest : List Value) : Prop where
  blk : wr.heap[g]? = some (.cells (Lib.byteCells o ++ rest).toArray 5 (0, 0))
  len : o.length + rest.length = L
  stn : st ≤ n
  iK : i ≤ K
  all : o ++ Lib.replaceK old new (K - i) (s.drop st) = Lib.replaceK old new K s
  cnt : K - i ≤ Lib.count (s.drop st) old
  bel : Below w.heap.size w wr
set_option maxHeartbeats 1000000 in
set_option maxRecDepth 100000 in
theorem bytes_Replace (A A2 A3 : Option Addr) (n c n2 c2 n3 c3 : Nat) (s old new : List UInt8) (w : World) (hE : Env w) (hs : Sl w (Lt w.heap.size) A n s) (hs2 : Sl w (Lt w.heap.size) A2 n2 old) (hs3 : Sl w (Lt w.heap.size) A3 n3 new) (h2 : 0 < n2) (hnc : n ≤ c) (hc : c ≤ maxLen) (hn : n ≤ 100000) (hn2 : n2 ≤ 300) (hn3 : n3 ≤ 300) :
    Calls Tryz.prog 234 #[.slice A n c, .slice A2 n2 c2, .slice A3 n3 c3, .int .i64 (-1)] w (RepPost (Lib.replaceAll s old new) w) := by
  have HRA := Lib.hid (replaceAll_is s old new)
  have HCt := Lib.hid (count_bytes A A2 n c n2 c2 s old w hE hs hs2 h2 hnc (by omega) (by omega))
  have hne : old ≠ [] := fun e => by rw [e] at hs2; have := hs2.1; simp at this; omega
  obtain ⟨K, hK⟩ : ∃ K, Lib.count s old = K := ⟨_, rfl⟩
  have hlen := replace_len (new := new) hne K s (by omega)
  rw [hs.1, hs2.1, hs3.1] at hlen
  rw [hK] at HRA HCt
  have hm : n ≤ 9223372036854775807 := by omega
  rcases Nat.eq_zero_or_pos K with h0 | h0
  · subst h0
    obtain ⟨i0, hi0, hz0, hz1, hz2⟩ := info_parts cl_byte_info
    go_enter Tryz.func234, Tryz.ntmps234
    go_wp2_with fail
    refine HCt.out.mono ?_
    rintro e w1 ⟨rfl, hb1⟩
    have hs1 := hs.keep (keep_lt hb1)
    have HN := Lib.hid (fun h0 => sl_byteCells hs1 h0)
    have HL := Lib.hid hs.1
    have hz := hb1.size
    clear hK hs hs1 hs2 hs3 hlen
    go_wp2_with (
      at_builtin
      refine wpList_append_src rfl _ _ 48 rfl w1.heap.size 5 i0 _ 1 1 Tryz.underlying48 hi0 hz0 hz1 hz2 rfl (by decide) _ 0 _ rfl (World.ownsRow_nil _ _ _ _) A n c (Lib.byteCells s) rfl (by rw [byteCells_length, HL.out, Nat.mul_one]) HN.out byteCells_one (by unfold maxLen; omega) (by omega) (Nat.le_refl _) ?_
      intro v' w2 hown2 hg2
      have hb2 := hb1.grown hg2 hz (fun g hg => by cases hg)
      obtain ⟨A', c', rfl, h1, h2, h3⟩ := OwnB.sl (o := s) (B := w1.heap.size) (w := w2) (v := v') (e := 5) (by unfold OwnB; rw [HL.out]; rw [List.nil_append, Nat.zero_add] at hown2; exact hown2)
      have HE := Lib.hid (show RepPost (Lib.replaceAll s old new) w (.returned (.slice A' s.length c')) w2 from ⟨A', _, c', rfl, h1, h2, by rw [HRA.out]; exact h3.more fun k hk => ⟨Nat.le_trans hz hk.1, hk.2⟩, hb2⟩)
      clear hown2 hg2 h3 HN)
    go_ret
    exact HE.out
  · have hn0 : 0 < n := by
      rcases Nat.eq_zero_or_pos n with h | h
      · exfalso
        subst h
        have : s = [] := List.eq_nil_of_length_eq_zero hs.1
        subst this
        have hc0 : Lib.count [] old = 0 := by
          refine Lib.count_miss (Lib.index_none fun j hj => ?_)
          cases old with
          | nil => exact absurd rfl hne
          | cons y l => simp [Lib.occAt]
        omega
      · exact h
    obtain ⟨R, hR⟩ : ∃ R, Lib.replaceK old new K s = R := ⟨_, rfl⟩
    obtain ⟨L, hL⟩ : ∃ L, R.length = L := ⟨_, rfl⟩
    rw [hR, hL] at hlen
    have hk2 : K * n2 ≤ n := by
      have := replace_len (new := []) hne K s (by omega)
      rw [hs.1, hs2.1] at this
      simp at this
      omega
    have hKn : K ≤ n := Nat.le_trans (Nat.le_mul_of_pos_right K h2) hk2
    have hk3 : K * n3 ≤ 100000 * 300 := Nat.mul_le_mul (by omega) hn3
    have hLs : L ≤ 100000000 := by omega
    have hLI : (n : Int) + (K : Int) * ((n3 : Int) - (n2 : Int)) = (L : Int) := by
      rw [Int.mul_sub]
      have e1 : ((K * n3 : Nat) : Int) = (K : Int) * (n3 : Int) := Int.natCast_mul ..
      have e2 : ((K * n2 : Nat) : Int) = (K : Int) * (n2 : Int) := Int.natCast_mul ..
      omega
    have hw2 : IntKind.i64.wrap ((K : Int) * ((n3 : Int) - (n2 : Int))) = (K : Int) * ((n3 : Int) - (n2 : Int)) := IntWalk.i64_in _ (by omega)
    have hn2I : (n2 : Int) ≤ 300 := by omega
    have hn3I : (n3 : Int) ≤ 300 := by omega
    have hn2p : (0 : Int) < (n2 : Int) := by omega
    have hLp : (L : Int) ≤ 100000000 := by omega
    have hKz : ((K : Int) == 0) = false := by have : ¬ (K : Int) = 0 := by omega
                                              simpa using this
    have HRR := Lib.hid hR
    have HLL := Lib.hid hL
    have HLn := Lib.hid hlen
    clear hR hL hlen
    go_enter Tryz.func234, Tryz.ntmps234
    go_wp2_with fail
    refine HCt.out.mono ?_
    rintro e w1 ⟨rfl, hb1⟩
    obtain ⟨cs, hcs, hmk⟩ := make_bytes L hLs w1
    have HCs := Lib.hid hcs
    have HK := Lib.hid hK
    clear hK
    clear hcs
    go_wp2
    clear hmk
    go_loopw [11, 12, 49] (fun vw vs i wr => ∃ (k st : Nat) (o : List UInt8) (rest : List Value), vw = .int .i64 o.length ∧ vs = .int .i64 st ∧ i = .int .i64 k ∧ RepAt w wr w1.heap.size L K n s old new k st o rest) (fun _ _ i _ => K - (intOf i).toNat)
    case atStart => exact ⟨0, 0, [], cs, rfl, rfl, rfl, ⟨by show (w1.heap.push _)[w1.heap.size]? = _; simp [Lib.byteCells], by simp [HCs.out], Nat.zero_le _, Nat.zero_le _, rfl, by rw [List.drop_zero]; exact Nat.le_of_eq HK.out.symm, fr_alloc hb1 _⟩⟩
    case round =>
      obtain ⟨k, st, o, rest, rfl, rfl, rfl, hR⟩ := hrel
      have HR := Lib.hid hR
      have hst := hR.stn
      have hor := hR.len
      by_cases hlt : k < K
      · have hn := rep_next hne hlt (by rw [hs.1]; exact hst) (hR.all.trans HRR.out) hR.cnt
        clear hR
        obtain ⟨j, hj, hfit, hall, hcnt⟩ := hn
        rw [hs.1, hs2.1] at hfit
        have HO2 := Lib.hid hs2.1
        have hgL := congrArg List.length hall
        rw [HLL.out] at hgL
        have hdl : ((s.drop st).take j).length = j := by rw [List.length_take, List.length_drop, hs.1]; omega
        simp only [List.length_append, hdl, hs3.1] at hgL
        have hb := HR.out.bel
        have hz1 := hb1.size
        have hz := hb.size
        obtain ⟨b, of, rfl, _, _⟩ := hs.2.2 hn0
        have hlt2 : ∀ x, Lt w.heap.size x → Lt wr.heap.size x := fun x hx => Nat.lt_of_lt_of_le hx hz
        have hsr := hs.keep (keep_lt hb)
        obtain ⟨A4, c4, hcut1, hc41, hc42, hA4⟩ := cut_from b of n c st hst hnc hc
        obtain rfl := hA4 (by omega)
        have HIx := Lib.hid (index_bytes (some ⟨b, of + st, none⟩) A2 (n - st) c4 n2 c2 (s.drop st) old wr (hE.then_ hb) ((Sl.drop1 rfl hsr hst).more hlt2) ((hs2.keep (keep_lt hb)).more hlt2) (by omega) h2 hc41 (by omega) (by omega))
        rw [hj] at HIx
        obtain ⟨A5, c5, hcut2, hA5⟩ := cut_from w1.heap.size 0 L L o.length (by omega) (Nat.le_refl _) (by unfold maxLen; omega)
        obtain ⟨A6, c6, hcut3, hA6⟩ := cut_mid b of n c st (st + j) (by omega) (by omega) hnc hc
        rw [Int.natCast_add, Nat.add_sub_cancel_left] at hcut3
        rw [Nat.add_sub_cancel_left] at hA6
        obtain ⟨A7, c7, hcut4, hc71, _, hA7⟩ := cut_from w1.heap.size 0 L L (o.length + j) (by omega) (Nat.le_refl _) (by unfold maxLen; omega)
        rw [Int.natCast_add] at hcut4
        have HP1 := Lib.hid (fun (W : World) (hb5 : Below w.heap.size w W) => part_cells (k := st) (m := j) (hs.keep (keep_lt hb5)))
        have hstI : (st : Int) ≤ 100000 := by omega
        have hjI : (j : Int) ≤ 100000 := by omega
        have hoI : (o.length : Int) ≤ 100000000 := by omega
        have hojI : (o.length : Int) + (j : Int) ≤ 100000000 := by omega
        have hkI : (k : Int) < (K : Int) := by omega
        have HS3 := Lib.hid hs3
        have HD := Lib.hid hdl
        clear hs hs2 hs3 hsr hdl
        go_wp2_with fail
        refine HIx.out.mono ?_
        rintro e w5 ⟨rfl, hb5⟩
        have hb5' := hb.trans (hb5.mono hz)
        have hg5 : w5.heap[w1.heap.size]? = some (.cells (Lib.byteCells o ++ rest).toArray 5 (0, 0)) := (keep_lt hb5 _ (by obtain ⟨h, _⟩ := Array.getElem?_eq_some_iff.1 HR.out.blk; exact h)).trans HR.out.blk
        have HG5 := Lib.hid hg5
        have HB5 := Lib.hid hb5'
        have HBd := Lib.hid (hb5'.drew)
        have HP2 := HP1.out _ hb5'
        have HZ1 := Lib.hid hz1
        clear hg5 hb5'
        have HN1 := Lib.hid (show (Lib.byteCells ((s.drop st).take j)).length = Nat.min j (L - o.length) by rw [byteCells_length, HD.out]; exact (Nat.min_eq_left (by omega)).symm)
        have HL1 := Lib.hid (show (Lib.byteCells ((s.drop st).take j)).length = j by rw [byteCells_length, HD.out])
        have HQ1 := Lib.hid (show 0 < (Lib.byteCells ((s.drop st).take j)).length → A5 = some ⟨w1.heap.size, o.length, none⟩ ∧ ∃ ad, A6 = some ad ∧ ∀ i v, (Lib.byteCells ((s.drop st).take j))[i]? = some v → w5.drew.cell? (ad.add i) = some v from fun h => by
          rw [HL1.out] at h
          exact ⟨by rw [hA5.2.2 (by omega), Nat.zero_add], _, hA6 h, HP2⟩)
        have HF1 := Lib.hid (show o.length + (Lib.byteCells ((s.drop st).take j)).length ≤ (Lib.byteCells o ++ rest).length by rw [HL1.out, List.length_append, byteCells_length]; omega)
        clear hA5 hA6 HP2
        go_wp2
        go_region_law (first
          | (refine step_copy_splice rfl (.tmp 61) (.tmp 65) 48 48 rfl 5 Tryz.underlying48 byte_sz A5 A6 (L - o.length) c5 j c6 (by kernel_rfl) (by kernel_rfl) w1.heap.size o.length (Lib.byteCells o ++ rest) 5 HG5.out (Lib.byteCells ((s.drop st).take j)) HN1.out HQ1.out HF1.out byteCells_one w.heap.size w HBd.out HZ1.out ?_
             intro w6 hg6 hb6
             rw [HL1.out]))
        all_goals
          have h6 : w6.heap[w1.heap.size]? = some (.cells (splice (Lib.byteCells o ++ rest) o.length (Lib.byteCells ((s.drop st).take j))).toArray 5 (0, 0)) := hg6
          have hb6' : Below w.heap.size w w6 := hb6
          rw [splice_bytes, HD.out] at h6
          have HG6 := Lib.hid h6
          have HB6 := Lib.hid hb6'
          have hs3r := HS3.out.keep (keep_lt hb6')
          have HN2 := Lib.hid (show (Lib.byteCells new).length = Nat.min n3 (L - (o.length + j)) by rw [byteCells_length, hs3r.1]; exact (Nat.min_eq_left (by omega)).symm)
          have HL2 := Lib.hid (show (Lib.byteCells new).length = n3 by rw [byteCells_length, hs3r.1])
          have HQ2 := Lib.hid (show 0 < (Lib.byteCells new).length → A7 = some ⟨w1.heap.size, o.length + j, none⟩ ∧ ∃ ad, A3 = some ad ∧ ∀ i v, (Lib.byteCells new)[i]? = some v → w6.cell? (ad.add i) = some v from fun h => by
            rw [HL2.out] at h
            obtain ⟨b3, o3, rfl, _⟩ := hs3r.2.2 h
            have := part_cells (k := 0) (m := n3) hs3r
            rw [List.drop_zero, List.take_of_length_le (by rw [hs3r.1]; exact Nat.le_refl _)] at this
            exact ⟨by rw [hA7 (by omega), Nat.zero_add], _, rfl, this⟩)
          have HF2 := Lib.hid (show (o.length + j) + (Lib.byteCells new).length ≤ (Lib.byteCells (o ++ (s.drop st).take j) ++ rest.drop j).length by rw [HL2.out, List.length_append, byteCells_length, List.length_append, HD.out, List.length_drop]; omega)
          clear hA7 hs3r h6 hb6' hg6 hb6
          go_wp2_with (
            with_reducible refine wpList_copy_splice rfl (.tmp 71) (.tmp 72) 48 48 rfl 5 Tryz.underlying48 byte_sz A7 A3 (L - (o.length + j)) c7 n3 c3 (by kernel_rfl) (by kernel_rfl) w1.heap.size (o.length + j) (Lib.byteCells (o ++ (s.drop st).take j) ++ rest.drop j) 5 HG6.out (Lib.byteCells new) HN2.out HQ2.out HF2.out byteCells_one w.heap.size w HB6.out HZ1.out ?_
            intro w7 hg7 hb7
            rw [HL2.out]
            have h7 : w7.heap[w1.heap.size]? = some (.cells (splice (Lib.byteCells (o ++ (s.drop st).take j) ++ rest.drop j) (o.length + j) (Lib.byteCells new)).toArray 5 (0, 0)) := hg7
            have hb7' : Below w.heap.size w w7 := hb7
            have e7 := splice_bytes (o ++ (s.drop st).take j) new (rest.drop j)
            rw [List.length_append, HD.out, HS3.out.1] at e7
            rw [e7, List.drop_drop] at h7
            have HG7 := Lib.hid h7
            have HB7 := Lib.hid hb7'
            clear h7 hb7' hg7 hb7 e7)
          have HLen := Lib.hid (show (o ++ (s.drop st).take j ++ new).length = o.length + j + n3 by rw [List.length_append, List.length_append, HD.out, HS3.out.1])
          have HAt := Lib.hid (show RepAt w w7 w1.heap.size L K n s old new (k + 1) (st + j + n2) (o ++ (s.drop st).take j ++ new) (rest.drop (j + n3)) from ⟨HG7.out, by rw [HLen.out, List.length_drop]; omega, by omega, by omega, by rw [HRR.out, ← HO2.out]; exact hall, by rw [← HO2.out]; exact hcnt, HB7.out⟩)
          go_roundw
          case rel => exact ⟨k + 1, st + j + n2, _, _, by rw [HLen.out]; go_num, by go_num, by go_num, HAt.out⟩
          case measure => simp [intOf]; omega
      · have he := rep_last hlt (hR.all.trans HRR.out)
        have hb := hR.bel
        clear hR
        have hgL := congrArg List.length he
        rw [HLL.out, List.length_append, List.length_drop, hs.1] at hgL
        have hz1 := hb1.size
        obtain ⟨b, of, rfl, _, _⟩ := hs.2.2 hn0
        obtain ⟨A5, c5, hcut2, hA5⟩ := cut_from w1.heap.size 0 L L o.length (by omega) (Nat.le_refl _) (by unfold maxLen; omega)
        obtain ⟨A6, c6, hcut3, _, _, hA6⟩ := cut_from b of n c st hst hnc hc
        have hcut4 := cut_all w1.heap.size L ((o.length : Int) + ((n - st : Nat) : Int)) (by omega) (by unfold maxLen; omega)
        have hsr := hs.keep (keep_lt hb)
        have hdl : (s.drop st).length = n - st := by rw [List.length_drop, hs.1]
        have HP2 := part_cells (k := st) (m := n - st) hsr
        rw [List.take_of_length_le (Nat.le_of_eq hdl)] at HP2
        have HG5 := Lib.hid HR.out.blk
        have HBd := Lib.hid hb.drew
        have HZ1 := Lib.hid hz1
        have HL1 := Lib.hid (show (Lib.byteCells (s.drop st)).length = n - st by rw [byteCells_length, hdl])
        have HN1 := Lib.hid (show (Lib.byteCells (s.drop st)).length = Nat.min (n - st) (L - o.length) by rw [HL1.out]; exact (Nat.min_eq_left (by omega)).symm)
        have HQ1 := Lib.hid (show 0 < (Lib.byteCells (s.drop st)).length → A5 = some ⟨w1.heap.size, o.length, none⟩ ∧ ∃ ad, A6 = some ad ∧ ∀ i v, (Lib.byteCells (s.drop st))[i]? = some v → wr.drew.cell? (ad.add i) = some v from fun h => by
          rw [HL1.out] at h
          exact ⟨by rw [hA5.2.2 (by omega), Nat.zero_add], _, hA6 h, HP2⟩)
        have HF1 := Lib.hid (show o.length + (Lib.byteCells (s.drop st)).length ≤ (Lib.byteCells o ++ rest).length by rw [HL1.out, List.length_append, byteCells_length]; omega)
        have HD := Lib.hid hdl
        have HEq := Lib.hid he
        have hLsum : (o.length : Int) + ((n - st : Nat) : Int) = (L : Int) := by omega
        clear hA5 hA6 HP2 hs hs2 hs3 hsr hdl he hb
        go_wp2
        go_region_law (first
          | (refine step_copy_splice rfl (.tmp 123) (.tmp 126) 48 48 rfl 5 Tryz.underlying48 byte_sz A5 A6 (L - o.length) c5 (n - st) c6 (by kernel_rfl) (by kernel_rfl) w1.heap.size o.length (Lib.byteCells o ++ rest) 5 HG5.out (Lib.byteCells (s.drop st)) HN1.out HQ1.out HF1.out byteCells_one w.heap.size w HBd.out HZ1.out ?_
             intro w6 hg6 hb6
             rw [HL1.out]))
        all_goals
          have h6 : w6.heap[w1.heap.size]? = some (.cells (splice (Lib.byteCells o ++ rest) o.length (Lib.byteCells (s.drop st))).toArray 5 (0, 0)) := hg6
          have hb6' : Below w.heap.size w w6 := hb6
          rw [splice_bytes, HD.out, HEq.out, List.drop_eq_nil_of_le (by omega), List.append_nil] at h6
          obtain ⟨A9, c9, hv9, h91, h92, h93⟩ := OwnB.sl (w := w6) (B := w.heap.size) (e := 5) (v := .slice (some ⟨w1.heap.size, 0, none⟩) L L) (o := R) ⟨by rw [byteCells_length, Nat.mul_one], .inr ⟨_, L, _, by rw [HLL.out], HZ1.out, h6, by rw [HLL.out]; exact Nat.le_refl _, by unfold maxLen; omega, by rw [List.size_toArray, byteCells_length, HLL.out, Nat.mul_one], by rw [Nat.mul_one, List.take_of_length_le (by rw [byteCells_length]; exact Nat.le_refl _)]⟩⟩
          rw [HLL.out] at hv9 h91 h93
          cases hv9
          have HE := Lib.hid (show RepPost (Lib.replaceAll s old new) w (.returned (.slice (some ⟨w1.heap.size, 0, none⟩) L L)) w6 from ⟨_, _, _, rfl, h91, h92, by rw [HRA.out, HRR.out]; exact h93, hb6'⟩)
          clear h6 hb6' hg6 hb6 h93
          go_wp2
          go_ret
          exact HE.out
theorem bytes_ReplaceAll (A A2 A3 : Option Addr) (n c n2 c2 n3 c3 : Nat) (s old new : List UInt8) (w : World) (hE : Env w) (hs : Sl w (Lt w.heap.size) A n s) (hs2 : Sl w (Lt w.heap.size) A2 n2 old) (hs3 : Sl w (Lt w.heap.size) A3 n3 new) (h2 : 0 < n2) (hnc : n ≤ c) (hc : c ≤ maxLen) (hn : n ≤ 100000) (hn2 : n2 ≤ 300) (hn3 : n3 ≤ 300) :
    Calls Tryz.prog 176 #[.slice A n c, .slice A2 n2 c2, .slice A3 n3 c3] w (RepPost (Lib.replaceAll s old new) w) := by
  have H := Lib.hid (bytes_Replace A A2 A3 n c n2 c2 n3 c3 s old new w hE hs hs2 hs3 h2 hnc hc hn hn2 hn3)
  clear hs hs2 hs3
  go_enter Tryz.func176, Tryz.ntmps176
  go_wp2_with fail
  refine H.out.mono ?_
  rintro e w' ⟨A', n', c', rfl, h⟩
  have HE := Lib.hid (show RepPost (Lib.replaceAll s old new) w (.returned (.slice A' n' c')) w' from ⟨A', n', c', rfl, h⟩)
  clear h
  go_wp2
  go_ret
  exact HE.out
end Go.Proofs.Sm
