/- Words and walks that the claims share, part 9. -/
import Derived.Test.YtaabdbephemboaaGreatDoorBx1
import Derived.Test.YtaabdbephemboaaGreatDoorBx4
import Derived.Test.YtaabdbephemboaaGreatDoorBx5
import Derived.Test.YtaabdbephemboaaGreatDoorBx6
import Derived.Test.YtaabdbephemboaaGreatDoorBx7
import Derived.Test.YtaabdbephemboaaGreatDoorBx8
import Derived.Lib.SlKeysI
import Derived.Sort.KeysCollected
import Derived.WalkArith
namespace Go.Proofs.Sm
open Go.RowKit
def actVal (a:ActionV) (A:Option Addr) (n n':Nat) (B:Option Addr) (m m':Nat) (C:Option Addr) (p p':Nat) (D:Option Addr) (q q':Nat):Value :=
 .agg #[.string a.tool,.slice A n n',.slice B m m',.slice C p p',.slice D q q',.int .i64 a.time]
structure ActIs (w:World) (a:ActionV) (A:Option Addr) (n:Nat) (B:Option Addr) (m:Nat) (C:Option Addr) (p:Nat) (D:Option Addr) (q:Nat):Prop where
 tool:a.tool.size≤maxLen
 commands:Sl w (Lt w.heap.size) A n a.commands
 vars:Sl w (Lt w.heap.size) B m a.vars
 outputs:Sl w (Lt w.heap.size) C p a.outputs
 needs:Sl w (Lt w.heap.size) D q a.needs
 time:InInt a.time
theorem ActIs.then_ {w w':World} {a:ActionV} {A:Option Addr} {n:Nat} {B:Option Addr} {m:Nat} {C:Option Addr} {p:Nat} {D:Option Addr} {q:Nat} (h:ActIs w a A n B m C p D q) (hb:Below w.heap.size w w'):ActIs w' a A n B m C p D q :=
 ⟨h.tool,sl_call h.commands hb (Nat.le_refl _),sl_call h.vars hb (Nat.le_refl _),sl_call h.outputs hb (Nat.le_refl _),sl_call h.needs hb (Nat.le_refl _),h.time⟩
theorem action_tool {a:ActionV} (h:isDigestS a.tool=false):checkActionS a=3:=by rw [checkActionS,if_pos h]
theorem action_none {a:ActionV} (h:isDigestS a.tool=true) (h0:a.commands.length=0):checkActionS a=9:=by rw [checkActionS,if_neg (by rw [h]; decide),if_pos h0]
theorem action_large {a:ActionV} (h:isDigestS a.tool=true) (h0:a.commands.length≠0) (h1:(50:Int) < a.commands.length):checkActionS a=2:=by
 rw [checkActionS,if_neg (by rw [h]; decide),if_neg h0,if_pos h1]
def actRest (a:ActionV):Int :=
 if commandsErr a.commands≠0 then commandsErr a.commands
 else if checkVarsS a.vars≠0 then checkVarsS a.vars
 else if checkOutputsS a.outputs≠0 then checkOutputsS a.outputs
 else if checkVarsS a.needs≠0 then checkVarsS a.needs
 else if withinB a.time 1 100000=false then 1
 else 0
theorem action_rest {a:ActionV} (h:isDigestS a.tool=true) (h0:a.commands.length≠0) (h1:¬ (50:Int) < a.commands.length):checkActionS a=actRest a:=by
 rw [checkActionS,if_neg (by rw [h]; decide),if_neg h0,if_neg h1,actRest]
theorem rest_cmd {a:ActionV} {e:Int} (h:commandsErr a.commands=e) (he:e≠0):actRest a=e:=by rw [actRest,if_pos (by rw [h]; exact he),h]
theorem rest_vars {a:ActionV} (h:commandsErr a.commands=0) (h1:checkVarsS a.vars≠0):actRest a=checkVarsS a.vars:=by
 rw [actRest,if_neg (by rw [h]; decide),if_pos h1]
theorem rest_outs {a:ActionV} (h:commandsErr a.commands=0) (h1:checkVarsS a.vars=0) (h2:checkOutputsS a.outputs≠0):actRest a=checkOutputsS a.outputs:=by
 rw [actRest,if_neg (by rw [h]; decide),if_neg (by rw [h1]; decide),if_pos h2]
theorem rest_needs {a:ActionV} (h:commandsErr a.commands=0) (h1:checkVarsS a.vars=0) (h2:checkOutputsS a.outputs=0) (h3:checkVarsS a.needs≠0):actRest a=checkVarsS a.needs:=by
 rw [actRest,if_neg (by rw [h]; decide),if_neg (by rw [h1]; decide),if_neg (by rw [h2]; decide),if_pos h3]
theorem rest_time {a:ActionV} (h:commandsErr a.commands=0) (h1:checkVarsS a.vars=0) (h2:checkOutputsS a.outputs=0) (h3:checkVarsS a.needs=0):actRest a=if withinB a.time 1 100000=false then 1 else 0:=by
 rw [actRest,if_neg (by rw [h]; decide),if_neg (by rw [h1]; decide),if_neg (by rw [h2]; decide),if_neg (by rw [h3]; decide)]
theorem commands_round {l:List (List ByteArray)} {k:Nat} {x:List ByteArray} (hx:l[k]?=some x) (h:checkCommandS x=0):commandsErr (l.drop k)=commandsErr (l.drop (k + 1)):=by
 rw [drop_at hx,commandsErr,if_pos h]
theorem commands_stop {l:List (List ByteArray)} {k:Nat} {x:List ByteArray} (hx:l[k]?=some x) (h:checkCommandS x≠0):commandsErr (l.drop k)=checkCommandS x:=by
 rw [drop_at hx,commandsErr,if_neg h]
set_option maxHeartbeats 2000000 in
set_option maxRecDepth 100000 in
theorem act_CheckAction (a:ActionV) (A:Option Addr) (n n':Nat) (B:Option Addr) (m m':Nat) (C:Option Addr) (p p':Nat) (D:Option Addr) (q q':Nat) (w:World) (hE:Env w) (ha:ActIs w a A n B m C p D q) :
 Calls Tryz.prog 88 #[actVal a A n n' B m m' C p p' D q q'] w fun e w'=>e=.returned (.int .i64 (checkActionS a))∧Below w.heap.size w w':=by
 unfold actVal
 have hm:n≤9223372036854775807:=ha.commands.2.1
 have HL:=Lib.hid ha.commands.1
 have htl:=ha.tool
 have hE1:=hE.then_ (fr_alloc (fr_refl w) (.cells #[.string a.tool,.slice A n n',.slice B m m',.slice C p p',.slice D q q',.int .i64 a.time] 58))
 cases h0:isDigestS a.tool
 ·have HV:=Lib.hid (action_tool h0)
  go_enter Tryz.func88,Tryz.ntmps88
  go_wp2_with fail
  refine (blob_IsDigest _ _ htl).mono ?_
  rintro e w1 ⟨rfl,hb1⟩
  go_wp2
  go_ret; exact ⟨ret_int HV.out.symm,(by repeat (first | exact fr_refl _ | refine fr_call ?_ (by assumption) | refine fr_alloc ?_ _ | refine fr_set ?_ (by simp) _ | refine Below.drew ?_ | refine below_drewN ?_ _))⟩
 have H0:=Lib.hid h0
 by_cases hn0:n=0
 ·subst hn0
  have HV:=Lib.hid (action_none H0.out HL.out)
  go_enter Tryz.func88,Tryz.ntmps88
  go_wp2_with fail
  refine (blob_IsDigest _ _ htl).mono ?_
  rintro e w1 ⟨rfl,hb1⟩
  obtain ⟨hc1,hf1⟩:=bcell hb1
  go_wp2
  go_ret; exact ⟨ret_int HV.out.symm,(by repeat (first | exact fr_refl _ | refine fr_call ?_ (by assumption) | refine fr_alloc ?_ _ | refine fr_set ?_ (by simp) _ | refine Below.drew ?_ | refine below_drewN ?_ _))⟩
 have hne:((n:Int) == 0)=false:=by rw [beq_eq_false_iff_ne]; omega
 by_cases hbig:(50:Int) < n
 ·have HV:=Lib.hid (action_large H0.out (by rw [HL.out]; exact hn0) (by rw [HL.out]; exact hbig))
  go_enter Tryz.func88,Tryz.ntmps88
  go_wp2_with fail
  refine (blob_IsDigest _ _ htl).mono ?_
  rintro e w1 ⟨rfl,hb1⟩
  obtain ⟨hc1,hf1⟩:=bcell hb1
  go_wp2
  go_ret; exact ⟨ret_int HV.out.symm,(by repeat (first | exact fr_refl _ | refine fr_call ?_ (by assumption) | refine fr_alloc ?_ _ | refine fr_set ?_ (by simp) _ | refine Below.drew ?_ | refine below_drewN ?_ _))⟩
 have HR:=Lib.hid (action_rest H0.out (by rw [HL.out]; exact hn0) (by rw [HL.out]; exact hbig))
 go_enter Tryz.func88,Tryz.ntmps88
 go_wp2_with fail
 refine (blob_IsDigest _ _ htl).mono ?_
 rintro e w1 ⟨rfl,hb1⟩
 obtain ⟨hc1,hf1⟩:=bcell hb1
 have hz1:=grew hb1
 have hbel1:Below w.heap.size w w1:=(by repeat (first | exact fr_refl _ | refine fr_call ?_ (by assumption) | refine fr_alloc ?_ _ | refine fr_set ?_ (by simp) _ | refine Below.drew ?_ | refine below_drewN ?_ _))
 go_wp2
 go_loopw [4,5,24] (fun _ _ i wr=>∃ k:Nat,k≤n∧i=.int .i64 k∧commandsErr a.commands=commandsErr (a.commands.drop k)∧Below w1.heap.size w1 wr) (fun _ _ i _=>n - (intOf i).toNat)
 case atStart=>exact ⟨0,Nat.zero_le _,rfl,rfl,Below.refl _ _⟩
 case round =>
  obtain ⟨k,hk,rfl,hd,hbr⟩:=hrel
  have Hr:=Lib.hid hd; clear hd
  have hbel:=fr_call hbel1 hbr
  have hEr:=hE.then_ hbel
  have har:=ha.then_ hbel
  by_cases hlt:k < n
  ·obtain ⟨b,o,x,A',l',c',rfl,hb,hx,hlc,hcm,hsl',c0⟩:=har.commands.row hlt
   have HX:=Lib.hid hx; clear hx
   cases hv:(checkCommandS x == 0)
   ·have hne:checkCommandS x≠0:=by simpa using hv
    have hbn:(checkCommandS x != 0)=true:=by simpa using hv
    have HV:=Lib.hid (rest_cmd (Hr.out.trans (commands_stop HX.out hne)) hne)
    clear hne
    go_wp2_with fail
    refine (act_checkCommand _ _ _ _ _ hEr hsl' hlc).mono ?_
    rintro e w2 ⟨rfl,hb2⟩
    go_wp2
    go_ret
    exact ⟨ret_int (by rw [HR.out,HV.out]),fr_call hbel hb2⟩
   ·have hz:checkCommandS x=0:=by simpa using hv
    have hbn:(checkCommandS x != 0)=false:=by simpa using hv
    have HV:=Lib.hid (Hr.out.trans (commands_round HX.out hz))
    clear hz
    go_wp2_with fail
    refine (act_checkCommand _ _ _ _ _ hEr hsl' hlc).mono ?_
    rintro e w2 ⟨rfl,hb2⟩
    go_wp2
    go_round
    case rel=>exact ⟨k + 1,by omega,by go_num,HV.out,hbr.trans (hb2.mono hbr.size)⟩
    case measure=>simp [intOf]; omega
  ·have HZ:=Lib.hid (show commandsErr a.commands=0 by rw [Hr.out,List.drop_eq_nil_of_le (by rw [ha.commands.1]; omega)]; rfl)
   obtain ⟨hcr,hfr⟩:=bcell hbr
   have hzr:w.heap.size < wr.heap.size:=Nat.lt_of_lt_of_le hz1 hbr.size
   go_wp2_with fail
   refine (act_checkVars _ _ _ _ _ har.vars).mono ?_
   rintro e w3 ⟨rfl,hb3⟩
   have hbel3:=fr_call hbel hb3
   obtain ⟨hc3,hf3⟩:=bcell hb3
   have hz3:w.heap.size < w3.heap.size:=Nat.lt_of_lt_of_le hzr hb3.size
   cases hv:(checkVarsS a.vars == 0)
   ·have hne:checkVarsS a.vars≠0:=by simpa using hv
    have hbn:(checkVarsS a.vars != 0)=true:=by simpa using hv
    have HV:=Lib.hid (rest_vars HZ.out hne)
    clear hne
    go_wp2
    go_ret
    exact ⟨ret_int (by rw [HR.out,HV.out]),hbel3⟩
   have hzv:checkVarsS a.vars=0:=by simpa using hv
   have hbnv:(checkVarsS a.vars != 0)=false:=by simpa using hv
   have HZ1:=Lib.hid hzv; clear hzv hv
   go_wp2_with fail
   refine (act_checkOutputs _ _ _ _ _ (hE.then_ hbel3) (ha.then_ hbel3).outputs).mono ?_
   rintro e w4 ⟨rfl,hb4⟩
   have hbel4:=fr_call hbel3 hb4
   obtain ⟨hc4,hf4⟩:=bcell hb4
   have hz4:w.heap.size < w4.heap.size:=Nat.lt_of_lt_of_le hz3 hb4.size
   cases hv:(checkOutputsS a.outputs == 0)
   ·have hne:checkOutputsS a.outputs≠0:=by simpa using hv
    have hbn:(checkOutputsS a.outputs != 0)=true:=by simpa using hv
    have HV:=Lib.hid (rest_outs HZ.out HZ1.out hne)
    clear hne
    go_wp2
    go_ret
    exact ⟨ret_int (by rw [HR.out,HV.out]),hbel4⟩
   have hzv:checkOutputsS a.outputs=0:=by simpa using hv
   have hbnv2:(checkOutputsS a.outputs != 0)=false:=by simpa using hv
   have HZ2:=Lib.hid hzv; clear hzv hv
   go_wp2_with fail
   refine (act_checkVars _ _ _ _ _ (ha.then_ hbel4).needs).mono ?_
   rintro e w5 ⟨rfl,hb5⟩
   have hbel5:=fr_call hbel4 hb5
   obtain ⟨hc5,hf5⟩:=bcell hb5
   have hz5:w.heap.size < w5.heap.size:=Nat.lt_of_lt_of_le hz4 hb5.size
   cases hv:(checkVarsS a.needs == 0)
   ·have hne:checkVarsS a.needs≠0:=by simpa using hv
    have hbn:(checkVarsS a.needs != 0)=true:=by simpa using hv
    have HV:=Lib.hid (rest_needs HZ.out HZ1.out HZ2.out hne)
    clear hne
    go_wp2
    go_ret
    exact ⟨ret_int (by rw [HR.out,HV.out]),hbel5⟩
   have hzv:checkVarsS a.needs=0:=by simpa using hv
   have hbnv3:(checkVarsS a.needs != 0)=false:=by simpa using hv
   have HZ3:=Lib.hid hzv; clear hzv hv
   have HT:=Lib.hid (rest_time HZ.out HZ1.out HZ2.out HZ3.out)
   by_cases ht1:a.time < 1
   ·have HW:=Lib.hid (show withinB a.time 1 100000=false by simp [withinB]; omega)
    go_wp2
    go_ret
    exact ⟨ret_int (by rw [HR.out,HT.out,if_pos HW.out]),hbel5⟩
   by_cases ht2:100000 < a.time
   ·have HW:=Lib.hid (show withinB a.time 1 100000=false by simp [withinB]; omega)
    go_wp2
    go_ret
    exact ⟨ret_int (by rw [HR.out,HT.out,if_pos HW.out]),hbel5⟩
   have HW:=Lib.hid (show withinB a.time 1 100000=true by simp [withinB]; omega)
   go_wp2
   go_ret
   exact ⟨ret_int (by rw [HR.out,HT.out,if_neg (by rw [HW.out]; decide)]),hbel5⟩
end Go.Proofs.Sm
namespace Go.Proofs.Sm
open Go.RowKit
def ruleCells (x:RuleV) (A1:Option Addr) (n1 c1:Nat) (A2:Option Addr) (n2 c2:Nat) (A3:Option Addr) (n3 c3:Nat) (A4:Option Addr) (n4 c4:Nat) (A5:Option Addr) (n5 c5:Nat):List Value :=
 [.string x.name,.string x.action.tool,.slice A1 n1 c1,.slice A2 n2 c2,.slice A3 n3 c3,.slice A4 n4 c4,.int .i64 x.action.time,.slice A5 n5 c5]
structure RuleIs (w:World) (x:RuleV) (A1:Option Addr) (n1:Nat) (A2:Option Addr) (n2:Nat) (A3:Option Addr) (n3:Nat) (A4:Option Addr) (n4:Nat) (A5:Option Addr) (n5:Nat):Prop where
 name:x.name.size≤maxLen
 act:ActIs w x.action A1 n1 A2 n2 A3 n3 A4 n4
 ins:Sl w (Lt w.heap.size) A5 n5 x.inputs
theorem RuleIs.then_ {w w':World} {x:RuleV} {A1 A2 A3 A4 A5:Option Addr} {n1 n2 n3 n4 n5:Nat} (h:RuleIs w x A1 n1 A2 n2 A3 n3 A4 n4 A5 n5) (hb:Below w.heap.size w w'):RuleIs w' x A1 n1 A2 n2 A3 n3 A4 n4 A5 n5 :=
 ⟨h.name,h.act.then_ hb,sl_call h.ins hb (Nat.le_refl _)⟩
section
variable {x:RuleV}
theorem rule_path (h:isPathS x.name=false):checkRuleS x=3:=by rw [checkRuleS,if_pos h]
theorem rule_act (h:isPathS x.name=true) (h1:checkActionS x.action≠0):checkRuleS x=checkActionS x.action:=by rw [checkRuleS,if_neg (by rw [h]; decide),if_pos h1]
theorem rule_large (h:isPathS x.name=true) (h1:checkActionS x.action=0) (h2:(1000:Int) < (x.inputs.length:Int)):checkRuleS x=2:=by rw [checkRuleS,if_neg (by rw [h]; decide),if_neg (by rw [h1]; decide),if_pos h2]
theorem rule_rest (h:isPathS x.name=true) (h1:checkActionS x.action=0) (h2:¬ (1000:Int) < (x.inputs.length:Int)):checkRuleS x=listErr outErr id none x.inputs:=by
 rw [checkRuleS,if_neg (by rw [h]; decide),if_neg (by rw [h1]; decide),if_neg h2]
end
theorem outErr_rest6 {prev:Option ByteArray} {p:ByteArray} (hp:isPathS p=true):outErr prev p=if notAfter prev p then 8 else 0:=by rw [outErr,if_neg (by rw [hp]; decide)]
theorem outErr_no {prev:Option ByteArray} {p:ByteArray} (hp:isPathS p=false):outErr prev p=3:=by rw [outErr,if_pos hp]
end Go.Proofs.Sm
namespace Go.Proofs.Sm
open Go.RowKit
section
variable {w:World} {S:Nat→Prop} {A:Option Addr} {n k:Nat} {l:List RuleV}
theorem Sl.ruleName (h:Sl w S A n l) (hk:k < n):∃ b o x,A=some ⟨b,o,none⟩∧S b∧l[k]?=some x∧x.name.size≤maxLen∧w.cell? ⟨b,o + k * 8,none⟩=some (.string x.name):=by
 obtain ⟨b,o,x,e,hb,hx,A1,n1,c1,A2,n2,c2,A3,n3,c3,A4,n4,c4,A5,n5,c5,⟨hs,_⟩,_,_,q0,_⟩:=h.rule hk
 exact ⟨b,o,x,e,hb,hx,hs,q0⟩
theorem Sl.ruleAll (h:Sl w (Lt w.heap.size) A n l) (hk:k < n):∃ b o x,A=some ⟨b,o,none⟩∧l[k]?=some x∧∃ A1 n1 c1 A2 n2 c2 A3 n3 c3 A4 n4 c4 A5 n5 c5,RuleIs w x A1 n1 A2 n2 A3 n3 A4 n4 A5 n5 ∧
 (w.cell? ⟨b,o + k * 8,none⟩=some (.string x.name)∧w.cell? ⟨b,o + k * 8 + 1,none⟩=some (.string x.action.tool)∧w.cell? ⟨b,o + k * 8 + 2,none⟩=some (.slice A1 n1 c1)∧w.cell? ⟨b,o + k * 8 + 3,none⟩=some (.slice A2 n2 c2) ∧
   w.cell? ⟨b,o + k * 8 + 4,none⟩=some (.slice A3 n3 c3)∧w.cell? ⟨b,o + k * 8 + 5,none⟩=some (.slice A4 n4 c4)∧w.cell? ⟨b,o + k * 8 + 6,none⟩=some (.int .i64 x.action.time)∧w.cell? ⟨b,o + k * 8 + 7,none⟩=some (.slice A5 n5 c5)):=by
 obtain ⟨b,o,x,e,hb,hx,A1,n1,c1,A2,n2,c2,A3,n3,c3,A4,n4,c4,A5,n5,c5,⟨h1,h2,h3⟩,_,⟨s1,s2,s3,s4,s5⟩,hc⟩:=h.rule hk
 exact ⟨b,o,x,e,hx,A1,n1,c1,A2,n2,c2,A3,n3,c3,A4,n4,c4,A5,n5,c5,⟨h1,⟨h2,s1,s2,s3,s4,h3⟩,s5⟩,hc⟩
end
theorem RulesOk.outSize {l:List RuleV} (h:RulesOk l) {k:Nat} {p:ByteArray} (hp:p∈outsAt l k):p.size≤200:=path_size6 (paths_of (h.outs k).2.1 p hp)
theorem RulesOk.inSize {l:List RuleV} (h:RulesOk l) {k:Nat} {p:ByteArray} (hp:p∈insAt l k):p.size≤200:=path_size6 (paths_of (h.ins k).2 p hp)
end Go.Proofs.Sm
namespace Go.Proofs.Sm
open Go.RowKit Go.Maps Go.WideMaps
section
variable {P:Program} {k:TypeId} {w w':World} {b n:Nat} {f:List UInt8→Option Value}
theorem MapIs.has (h:MapIs P k w b n f):∃ D:DataW Value,w.ownsMap P k raw b n D∧IsMap D∧(∀ key z,D.atKey (.string key) z=match f key with | some v=>.held v | none=>z)∧∀ key,Maps.has D (.string key)=(f key).isSome:=by
 obtain ⟨D,h1,h2,h3⟩:=h
 refine ⟨D,h1,h2,h3,fun key=>?_⟩
 cases hf:f key with
 | none=>exact has_false_of_atKey fun z=>by rw [h3,hf]
 | some v=>exact has_true_of_atKey (y:=.held v) fun z=>by rw [h3,hf]
theorem MapIs.look_ok {t e:TypeId} (h:MapIs P k w b n f) (hk:P.underlying k=some .string) (ht:P.underlying t=some (.map k e)) {z:Value} (hz:(zeroValue e).run P w=.ok z w)
 {s:ByteArray} (hs:s.size≤maxLen):(Instr.lookup t (.map (some b)) (.string s) true).run P w=.ok (.tuple #[(f s.data.toList).getD z,.bool (f s.data.toList).isSome]) w:=by
 obtain ⟨D,h1,_,h3,h4⟩:=h.has
 obtain ⟨v,ps,hrun,hv⟩:=h1.look_ok (string_keyed hk) ht hz (zd:=.held z) (zp:=[]) rfl (kl:=.string s.data.toList) (keyOf_string_mk hk hs)
 rw [hrun,h4]
 simp only [raw,h3] at hv
 cases hf:f s.data.toList with
 | none=>rw [hf] at hv; simp at hv; simp [hv.1]
 | some u=>rw [hf] at hv; simp at hv; simp [hv.1]
theorem MapIs.grown {row:Option Nat} (h:MapIs P k w b n f) (hg:w.grownBy w' row) (hne:row≠some b):MapIs P k w' b n f:=h.keep (hg.block b h.lt fun e=>hne e.symm)
theorem MapIs.congr {g:List UInt8→Option Value} (h:MapIs P k w b n f) (hf:∀ key,f key=g key):MapIs P k w b n g:=by
 obtain rfl:f=g:=funext hf
 exact h
theorem insert_length {H:Type} (x:Lit × DataW H):∀ l:List (Lit × DataW H),(DataW.insert x l).length=l.length + 1
 | []=>rfl
 | y :: r=>by
   rw [DataW.insert]
   split
   ·simp
   ·simp [insert_length x r]
theorem ownsMap_size {H:Type} {R:Value→Option (DataW H × List MemPlace)} {D:DataW H} (h:w.ownsMap P k R b n D):Maps.size D≤n:=by
 obtain ⟨es,clock,_,_,hs,rfl⟩:=h
 rw [size_eq]
 have key:∀ l:List (Lit × DataW H),(l.foldr DataW.insert []).length=l.length:=by
  intro l
  induction l with
  | nil=>rfl
  | cons x l ih=>rw [List.foldr_cons,insert_length,ih]; rfl
 rw [key,List.length_map,Array.length_toList]
 exact hs
theorem MapIs.keys (h:MapIs P k w b n f) (hk:P.underlying k=some .string):∃ D:DataW Value,w.ownsMap P k raw b n D∧Maps.size D≤n∧(strKeys D).Nodup∧(∀ key,key∈strKeys D↔(f key).isSome=true)∧∀ x∈strKeys D,x.length≤maxLen:=by
 obtain ⟨D,h1,_,_,h4⟩:=h.has
 refine ⟨D,h1,ownsMap_size h1,?_,?_,strKeys_le h1 hk⟩
 all_goals
  obtain ⟨es,hD,hpw,_⟩:=h1.entries (string_keyed hk)
  obtain ⟨es',hD',hko⟩:=h1.keysOf
  obtain rfl:es=es':=by rw [hD] at hD'; simpa using hD'
  subst hD
  have hks:∀ p∈es,∃ x,p.1=.string x:=fun p hp=>by obtain ⟨v,hv⟩:=hko p hp; obtain ⟨x,_,hx,_⟩:=Maps.keyOf_str hk hv; exact ⟨x,hx⟩
 ·show (es.map fun p=>Go.strOf p.1).Nodup
  refine List.pairwise_map.2 (hpw.imp_of_mem fun {p q} hp' hq' hne e=>hne ?_)
  obtain ⟨x,hx⟩:=hks p hp'
  obtain ⟨y,hy⟩:=hks q hq'
  rw [hx,hy] at e ⊢
  exact congrArg _ e
 ·intro key
  rw [←h4,has_eq,List.any_eq_true]
  show key∈(es.map fun p=>Go.strOf p.1)↔_
  rw [List.mem_map]
  constructor
  ·rintro ⟨p,hp',rfl⟩
   obtain ⟨x,hx⟩:=hks p hp'
   exact ⟨p,hp',by rw [hx]; simp [Lit.sameKey,Go.strOf]⟩
  ·rintro ⟨p,hp',hs⟩
   obtain ⟨x,hx⟩:=hks p hp'
   rw [hx] at hs
   exact ⟨p,hp',by rw [hx]; simpa [Lit.sameKey,Go.strOf] using hs⟩
end
structure KeysAre (f:List UInt8→Option Value) (ks:List ByteArray):Prop where
 sorted:ks.Pairwise fun x y=>x.data.toList < y.data.toList
 mem:∀ key,key∈ks.map (·.data.toList)↔(f key).isSome=true
 size:∀ x∈ks,x.size≤maxLen
theorem sorted_strict {l:List (List UInt8)} (h:l.Nodup):(l.mergeSort leB).Pairwise fun x y=>x < y:=by
 have tr:∀ a b c:List UInt8,leB a b=true→leB b c=true→leB a c=true:=fun a b c h1 h2=>by simp only [leB,decide_eq_true_eq] at *; exact List.le_trans h1 h2
 have tt2:∀ a b:List UInt8,(leB a b || leB b a)=true:=fun a b=>by simp only [leB,Bool.or_eq_true,decide_eq_true_eq]; exact List.le_total a b
 have h1:=List.pairwise_mergeSort tr tt2 l
 have h2:(l.mergeSort leB).Nodup:=(List.mergeSort_perm l leB).nodup_iff.2 h
 refine List.Pairwise.imp₂ (R:=fun a b=>leB a b=true) (S:=fun a b=>a≠b) (fun a b ha hb=>?_) h1 h2
 simp only [leB,decide_eq_true_eq] at ha
 exact Classical.byContradiction fun hc=>hb (List.le_antisymm ha (List.not_lt.1 hc))
theorem keysAre_of {f:List UInt8→Option Value} {l ss:List (List UInt8)} (hp:ss.Perm l) (hn:l.Nodup) (hm:∀ key,key∈l↔(f key).isSome=true) (hs:∀ x∈l,x.length≤maxLen) :
 KeysAre f ((ss.mergeSort leB).map fun x=>⟨x.toArray⟩)∧(ss.mergeSort leB).map encStr=((ss.mergeSort leB).map fun x=>(⟨x.toArray⟩:ByteArray)).map Value.string:=by
 have hn':ss.Nodup:=hp.nodup_iff.2 hn
 have hmem:∀ key,key∈ss.mergeSort leB↔key∈l:=fun key=>(List.mergeSort_perm ss leB).mem_iff.trans hp.mem_iff
 refine ⟨⟨?_,fun key=>?_,fun x hx=>?_⟩,by simp [List.map_map,Function.comp_def]⟩
 ·exact List.pairwise_map.2 ((sorted_strict hn').imp fun h=>h)
 ·rw [←hm,←hmem,List.map_map]
  simp [Function.comp_def]
 ·obtain ⟨y,hy,rfl⟩:=List.mem_map.1 hx
  have:=hs y ((hmem y).1 hy)
  simpa [ByteArray.size] using this
theorem KeysAre.unique {f g:List UInt8→Option Value} {ks ls:List ByteArray} (h:KeysAre f ks) (h':KeysAre g ls) (hfg:∀ key,(f key).isSome=(g key).isSome):ks=ls:=by
 have key:∀ {a b:List (List UInt8)},a.Pairwise (· < ·)→b.Pairwise (· < ·)→(∀ x,x∈a↔x∈b)→a=b:=by
  intro a b ha hb hm
  have na:a.Nodup:=ha.imp fun h e=>by subst e; exact List.lt_irrefl _ h
  have nb:b.Nodup:=hb.imp fun h e=>by subst e; exact List.lt_irrefl _ h
  refine List.Perm.eq_of_pairwise (le:=fun x y=>x < y) (fun x y _ _ h1 h2=>absurd (List.lt_trans h1 h2) (List.lt_irrefl _)) ha hb ((List.perm_ext_iff_of_nodup na nb).2 hm)
 have h1:=key (List.pairwise_map.2 h.sorted) (List.pairwise_map.2 h'.sorted) (fun x=>by rw [h.mem,h'.mem,hfg])
 exact (List.map_inj_right (fun x y e=>by
  obtain ⟨⟨x⟩⟩:=x
  obtain ⟨⟨y⟩⟩:=y
  simp at e
  subst e; rfl)).1 h1
def MapZ (P:Program) (k:TypeId) (w:World) (b n:Nat) (f:Int→Option Value):Prop :=
 ∃ D:DataW Value,w.ownsMap P k raw b n D∧IsMap D∧∀ key z,D.atKey (.int .i64 key) z=match f key with | some v=>.held v | none=>z
section
variable {P:Program} {k:TypeId} {w w':World} {b n:Nat} {f:Int→Option Value}
theorem MapZ.made (w:World):MapZ P k (w.alloc (.map #[] 0)) w.heap.size 0 (fun _=>none) :=
 ⟨.map [],World.ownsMap_made _ _ _ _,isMap_empty,fun key z=>by simp [DataW.atKey]⟩
theorem MapZ.keep (h:MapZ P k w b n f) (hk:w'.heap[b]?=w.heap[b]?):MapZ P k w' b n f:=by
 obtain ⟨D,⟨es,clock,hb,F,h1⟩,h2⟩:=h
 exact ⟨D,⟨es,clock,hk.trans hb,F,h1⟩,h2⟩
theorem int_wf {a:Int} (h:InInt a):(Lit.int .i64 a).wf=true:=WalkArith.wf_i64 h
theorem MapZ.store {t e:TypeId} (h:MapZ P k w b n f) (hk:P.underlying k=some (.int .i64)) (ht:P.underlying t=some (.map k e)) (hn:n < maxLen) {a:Int} (ha:InInt a) (v:Value) :
 ∃ w',(Instr.mapUpdate t (.map (some b)) (.int .i64 a) v).run P w=.ok () w'∧MapZ P k w' b (n + 1) (fun key=>if key=a then some v else f key)∧w.grownBy w' (some b):=by
 obtain ⟨D,h1,h2,h3⟩:=h
 obtain ⟨w',hrun,hown,hg⟩:=h1.update (int_keyed hk) ht hn (key:=.int .i64 a) (val:=v) (kl:=.int .i64 a) (d:=.held v) (ps:=[]) (keyOf_int_mk hk (int_wf ha)) rfl
 have hkl:WideAt.IsKeyLit (.int .i64 a):=(int_keyed hk).key (keyOf_int_mk hk (int_wf ha))
 refine ⟨w',hrun,⟨_,hown,h2.put _ _,fun key z=>?_⟩,hg⟩
 by_cases he:key=a
 ·subst he
  rw [atKey_put_same h2 hkl]; simp
 ·rw [atKey_put_other (by simpa using he)]
  simp only [if_neg he]
  exact h3 key z
theorem wpList_mapUpdate_z (w:World) {ops:Array Oper} {rest:List Oper} {o:Oper} {a:Act} {Q:Exit→Act→World→Prop}
 (hg:o.guard=none) (m x v:Operand) (t:TypeId) (hop:o.op=Op.mapUpdate t m x v) (hk:P.underlying k=some (.int .i64)) {e:TypeId} (ht:P.underlying t=some (.map k e))
 (hm:a.eval m=.map (some b)) (hmap:MapZ P k w b n f) (hn:n < maxLen) (y:Int) (hy:InInt y) (val:Value) (hx:a.eval x=.int .i64 y) (hv:a.eval v=val)
 (hK:∀ w',MapZ P k w' b (n + 1) (fun key=>if key=y then some val else f key)→w.grownBy w' (some b)→wpList P ops Q rest (a.put o.dst undef) w') :
 wpList P ops Q (o :: rest) a w:=by
 refine wpList_plain hg fun K' hK'=>?_
 obtain ⟨w',hrun,r1,r2⟩:=hmap.store hk ht hn hy val
 unfold Oper.wp
 simp [execOp,hop,hm,hx,hv,hrun,Result.andThen]
 exact hK' _ _ (hK w' r1 r2)
theorem MapZ.keys (h:MapZ P k w b n f) (hk:P.underlying k=some (.int .i64)):∃ D:DataW Value,w.ownsMap P k raw b n D∧Maps.size D≤n∧(intKeys D).Nodup∧∀ key,key∈intKeys D↔(f key).isSome=true:=by
 obtain ⟨D,h1,_,h3⟩:=h
 have h4:∀ key,Maps.has D (.int .i64 key)=(f key).isSome:=fun key=>by
  cases hf:f key with
  | none=>exact has_false_of_atKey fun z=>by rw [h3,hf]
  | some v=>exact has_true_of_atKey (y:=.held v) fun z=>by rw [h3,hf]
 refine ⟨D,h1,ownsMap_size h1,?_,?_⟩
 all_goals
  obtain ⟨es,hD,hpw,_⟩:=h1.entries (int_keyed hk)
  obtain ⟨es',hD',hko⟩:=h1.keysOf
  obtain rfl:es=es':=by rw [hD] at hD'; simpa using hD'
  subst hD
  have hks:∀ p∈es,∃ x,p.1=.int .i64 x:=fun p hp=>by obtain ⟨v,hv⟩:=hko p hp; obtain ⟨x,_,hx,_⟩:=Maps.keyOf_i64 hk hv; exact ⟨x,hx⟩
 ·show (es.map fun p=>Go.intOf p.1).Nodup
  refine List.pairwise_map.2 (hpw.imp_of_mem fun {p q} hp' hq' hne e=>hne ?_)
  obtain ⟨x,hx⟩:=hks p hp'
  obtain ⟨y,hy⟩:=hks q hq'
  rw [hx,hy] at e ⊢
  exact congrArg _ e
 ·intro key
  rw [←h4,has_eq,List.any_eq_true]
  show key∈(es.map fun p=>Go.intOf p.1)↔_
  rw [List.mem_map]
  constructor
  ·rintro ⟨p,hp',rfl⟩
   obtain ⟨x,hx⟩:=hks p hp'
   exact ⟨p,hp',by rw [hx]; simp [Lit.sameKey,Go.intOf]⟩
  ·rintro ⟨p,hp',hs⟩
   obtain ⟨x,hx⟩:=hks p hp'
   rw [hx] at hs
   exact ⟨p,hp',by rw [hx]; simpa [Lit.sameKey,Go.intOf] using hs⟩
end
theorem sorted_strict_i {l:List Int} (h:l.Nodup):(l.mergeSort leI).Pairwise fun x y=>x < y:=by
 have tr:∀ a b c:Int,leI a b=true→leI b c=true→leI a c=true:=fun a b c h1 h2=>by simp only [leI,decide_eq_true_eq] at *; omega
 have tt2:∀ a b:Int,(leI a b || leI b a)=true:=fun a b=>by simp only [leI,Bool.or_eq_true,decide_eq_true_eq]; omega
 have h1:=List.pairwise_mergeSort tr tt2 l
 have h2:(l.mergeSort leI).Nodup:=(List.mergeSort_perm l leI).nodup_iff.2 h
 refine List.Pairwise.imp₂ (R:=fun a b=>leI a b=true) (S:=fun a b=>a≠b) (fun a b ha hb=>?_) h1 h2
 simp only [leI,decide_eq_true_eq] at ha
 omega
theorem keys_filter {l ss:List Int} {n:Nat} {p:Nat→Bool} (hp:ss.Perm l) (hn:l.Nodup) (hm:∀ key,key∈l↔∃ i:Nat,i < n∧p i=true∧key=(i:Int)):ss.mergeSort leI=((List.range n).filter p).map fun i:Nat=>(i:Int):=by
 have hn':ss.Nodup:=hp.nodup_iff.2 hn
 have h1:=sorted_strict_i hn'
 have h2:(((List.range n).filter p).map fun i:Nat=>(i:Int)).Pairwise fun x y=>x < y:=by
  refine List.pairwise_map.2 ?_
  refine ((List.pairwise_lt_range (n:=n)).filter p).imp fun {a b} h=>?_
  omega
 have na:(ss.mergeSort leI).Nodup:=h1.imp fun h=>Int.ne_of_lt h
 have nb:(((List.range n).filter p).map fun i:Nat=>(i:Int)).Nodup:=h2.imp fun h=>Int.ne_of_lt h
 refine List.Perm.eq_of_pairwise (le:=fun x y=>x < y) (fun x y _ _ a b=>by omega) h1 h2 ((List.perm_ext_iff_of_nodup na nb).2 fun x=>?_)
 rw [(List.mergeSort_perm ss leI).mem_iff,hp.mem_iff,hm,List.mem_map]
 constructor
 ·rintro ⟨i,hi,hpi,rfl⟩
  exact ⟨i,by simp [hi,hpi],rfl⟩
 ·rintro ⟨i,hi,rfl⟩
  simp only [List.mem_filter,List.mem_range] at hi
  exact ⟨i,hi.1,hi.2,rfl⟩
end Go.Proofs.Sm
namespace Go.Proofs.Sm
open Go.RowKit
theorem strs6_info:(Tryz.prog.info? 9).map (fun i=>(i.zero,i.size,i.bytes))=some (some (.string ⟨#[]⟩),1,16):=by kernel_rfl
def slashAt (p:ByteArray) (i:Nat):Bool:=p.data.toList[i]? == some 47
def aboveTo (p:ByteArray) (i:Nat):List ByteArray:=((List.range i).filter (slashAt p)).map fun k=>p.extract 0 k
def aboveS (p:ByteArray):List ByteArray:=aboveTo p p.size
theorem slash_yes {p:ByteArray} {k:Nat} (hk:k < p.size) (h:((p[k].toNat:Int) == 47)=true):slashAt p k=true:=by
 have e1:p.data.toList[k]?=some p[k]:=by
  rw [Array.getElem?_toList]
  exact Array.getElem?_eq_getElem hk
 have h2:(p[k].toNat:Int)=47:=by simpa using h
 have e2:p[k]=47:=by
  apply UInt8.toNat_inj.1
  have:(47:UInt8).toNat=47:=rfl
  omega
 rw [slashAt,e1,e2]; rfl
theorem slash_no {p:ByteArray} {k:Nat} (hk:k < p.size) (h:((p[k].toNat:Int) == 47)=false):slashAt p k=false:=by
 have e1:p.data.toList[k]?=some p[k]:=by
  rw [Array.getElem?_toList]
  exact Array.getElem?_eq_getElem hk
 rw [slashAt,e1]
 cases he:(some p[k] == some 47) with
 | false=>rfl
 | true =>
   have e2:p[k]=47:=by simpa using he
   rw [e2] at h
   exact absurd h (by decide)
theorem above_more {p:ByteArray} {k:Nat} (h:slashAt p k=true):aboveTo p (k + 1)=aboveTo p k ++ [p.extract 0 k]:=by rw [aboveTo,List.range_succ,List.filter_append,List.map_append]; simp [h,aboveTo]
theorem above_same {p:ByteArray} {k:Nat} (h:slashAt p k=false):aboveTo p (k + 1)=aboveTo p k:=by rw [aboveTo,List.range_succ,List.filter_append,List.map_append]; simp [h,aboveTo]
theorem above_len (p:ByteArray) (k:Nat):(aboveTo p k).length≤k:=by
 have:=List.length_filter_le (slashAt p) (List.range k)
 simpa [aboveTo] using this
theorem lies_above {p q:ByteArray}:liesS p q=true↔q.data.toList∈(aboveS p).map (·.data.toList):=by
 have hl:p.data.toList.length=p.size:=by simp
 rw [liesS,Lib.hasPrefix,List.isPrefixOf_iff_prefix]
 constructor
 ·rintro ⟨t,ht⟩
  rw [List.append_assoc] at ht
  have h1:q.data.toList.length < p.size:=by rw [←hl,←ht]; simp
  rw [List.mem_map]
  refine ⟨p.extract 0 q.data.toList.length,List.mem_map.2 ⟨q.data.toList.length,?_,rfl⟩,?_⟩
  ·rw [List.mem_filter]
   refine ⟨by simpa using h1,?_⟩
   rw [slashAt,←ht,List.getElem?_append_right (Nat.le_refl _)]
   simp
  ·rw [Lib.extract_data,←ht]
   simp
 ·intro h
  rw [List.mem_map] at h
  obtain ⟨x,hx,he⟩:=h
  obtain ⟨i,hi,rfl⟩:=List.mem_map.1 hx
  rw [List.mem_filter] at hi
  have hi1:i < p.size:=by simpa using hi.1
  have hi2:p.data.toList[i]?=some 47:=by simpa [slashAt] using hi.2
  rw [Lib.extract_data] at he
  have he2:p.data.toList.take i=q.data.toList:=by simpa using he
  refine ⟨p.data.toList.drop (i + 1),?_⟩
  rw [←he2,List.append_assoc]
  have h3:=drop_at hi2
  rw [List.singleton_append,←h3,List.take_append_drop]
set_option maxHeartbeats 1000000 in
set_option maxRecDepth 100000 in
theorem steps_above (p:ByteArray) (w:World) (hp:p.size≤1000000) :
 Calls Tryz.prog 61 #[.string p] w fun e w'=>∃ A c,e=.returned (.slice A (aboveS p).length c)∧(aboveS p).length≤c∧c≤maxLen∧Sl w' (fun k=>w.heap.size≤k∧k < w'.heap.size) A (aboveS p).length (aboveS p)∧Below w.heap.size w w':=by
 obtain ⟨i0,hi0,hz0,hz1,hz2⟩:=info_parts strs6_info
 have hm:p.size≤9223372036854775807:=by omega
 obtain ⟨q,hq⟩:∃ q,q=w.heap.size:=⟨_,rfl⟩
 rw [←hq]
 have hqw:q≤w.heap.size:=by omega
 clear hq
 go_enter Tryz.func61,Tryz.ntmps61
 go_wp2
 go_loopw [3,7] (fun v iv wr=>∃ k:Nat,k≤p.size∧iv=.int .i64 k∧RowK wr q 9 (fun _=>False) v (aboveTo p k)∧Below q w wr) (fun _ iv _=>p.size - (intOf iv).toNat)
 case atStart=>exact ⟨0,Nat.zero_le _,rfl,RowK.nil,Below.refl _ _⟩
 case round =>
  obtain ⟨k,hk,rfl,hrow,hbel⟩:=hrel
  obtain ⟨O,oc,rfl,ho1,ho2,_⟩:=hrow.sl
  have hqr:q≤wr.heap.size:=Nat.le_trans hqw hbel.size
  by_cases hlt:k < p.size
  ·have hkI:(k:Int) < (p.size:Int):=by omega
   cases h47:((p[k].toNat:Int) == 47)
   ·have HS:=Lib.hid (above_same (slash_no hlt h47))
    have HR:=Lib.hid hrow; clear hrow
    go_wp2
    go_roundw
    case rel=>exact ⟨k + 1,by omega,by go_num,by rw [HS.out]; exact HR.out,hbel⟩
    case measure=>simp [intOf]; omega
   ·have HS:=Lib.hid (above_more (slash_yes hlt h47))
    have hln:=above_len p k
    have hxz:(p.extract 0 k).size≤maxLen:=by rw [ByteArray.size_extract]; unfold maxLen; omega
    generalize aboveTo p k=L at HS hrow ho1 hln ⊢
    have hW9:Below wr.heap.size wr (wr.alloc (.cells #[.string (p.extract 0 k)] 9)):=fr_alloc (fr_refl wr) _
    have row9:=hrow.call hW9
    have hb9:=hbel.trans (hW9.mono (by omega:q≤_))
    obtain ⟨_,rows,hrows,hown9,hrep⟩:=id row9
    clear row9
    go_wp2_with (at_builtin; refine wpList_append_lies _ rfl _ _ 24 rfl q 9 i0 _ 1 16 Tryz.underlying24 hi0 hz0 hz1 hz2 rfl (by decide) _ L.length _ rfl hown9 ⟨wr.heap.size,0,none⟩ 1 1 [.string (p.extract 0 k)] rfl rfl (new_cells wr #[_] _) (fun u hu=>(by simp only [List.mem_cons,List.mem_nil_iff,or_false] at hu; subst hu; rfl)) (by decide) (by unfold maxLen; omega) (by omega) (by rw [World.size_alloc]; omega) _ rfl ?_)
    intro g' cap w5 hown5 hg5 hat5 hlt5
    have row5:=RowK.append (x:=p.extract 0 k) (r:=[.string (p.extract 0 k)]) (fun k hh=>hh.elim) hrows hrep ⟨rfl,hxz⟩ (fun _ _ hh=>hh) hg5 hown5
    have hb5:=hb9.grown hg5 (by rw [World.size_alloc]; omega) fun b hb=>(hrow.kind b hb).1
    have HR:=Lib.hid row5
    clear hown5 hg5 hat5 row5 hown9 hrep hrow
    go_wp2
    go_roundw
    case rel=>exact ⟨k + 1,by omega,by go_num,by rw [HS.out]; exact HR.out,hb5⟩
    case measure=>simp [intOf]; omega
  ·obtain rfl:k=p.size:=by omega
   have hsl:=hrow.slFrom
   obtain ⟨O',oc',e',h1,h2,h3⟩:=hsl
   cases e'
   have HS:=Lib.hid h3
   clear hrow h3
   go_wp2
   go_ret
   exact ⟨_,_,rfl,h1,h2,HS.out,hbel⟩
end Go.Proofs.Sm
namespace Go.Proofs.Sm
open Go.RowKit
def setOf (S:List (List UInt8)):List UInt8→Option Value:=fun key=>if key∈S then some (.bool true) else none
theorem set_more (S:List (List UInt8)) (x key:List UInt8):(if key=x then some (.bool true) else setOf S key)=setOf (S ++ [x]) key:=by
 unfold setOf
 by_cases h:key=x
 ·simp [h]
 ·simp [h]
structure TgB where
 q:Nat
 m0:Nat
 m1:Nat
 m2:Nat
 m3:Nat
 gt:Nat
structure Tg (w:World) (T:TgB) (n:Nat) (S0 S1 S2 S3:List (List UInt8)):Prop where
 lts:T.q < T.m0∧T.m0 < T.m1∧T.m1 < T.m2∧T.m2 < T.m3∧T.m3 < T.gt
 t:Arr w T.gt 126 [.map (some T.m0),.map (some T.m1),.map (some T.m2),.map (some T.m3)]
 r:Arr w T.q 126 [.map none,.map none,.map none,.map none]
 m0:MapIs Tryz.prog 9 w T.m0 n (setOf S0)
 m1:MapIs Tryz.prog 9 w T.m1 n (setOf S1)
 m2:MapIs Tryz.prog 9 w T.m2 n (setOf S2)
 m3:MapIs Tryz.prog 9 w T.m3 n (setOf S3)
section
variable {w w':World} {T:TgB} {n:Nat} {S0 S1 S2 S3:List (List UInt8)} {x:List UInt8}
theorem Tg.call (h:Tg w T n S0 S1 S2 S3) (hb:Below w.heap.size w w'):Tg w' T n S0 S1 S2 S3:=⟨h.lts,h.t.call hb,h.r.call hb,h.m0.call hb,h.m1.call hb,h.m2.call hb,h.m3.call hb⟩
theorem Tg.put0 (h:Tg w T n S0 S1 S2 S3) (hm:MapIs Tryz.prog 9 w' T.m0 (n + 1) (fun key=>if key=x then some (.bool true) else setOf S0 key)) (hg:w.grownBy w' (some T.m0)):Tg w' T (n + 1) (S0 ++ [x]) S1 S2 S3:=by
 have hl:=h.lts
 exact ⟨hl,h.t.grown hg (by rw [ne_eq,Option.some.injEq]; omega),h.r.grown hg (by rw [ne_eq,Option.some.injEq]; omega),hm.congr fun key=>set_more S0 x key,(h.m1.more (Nat.le_succ n)).grown hg (by rw [ne_eq,Option.some.injEq]; omega),(h.m2.more (Nat.le_succ n)).grown hg (by rw [ne_eq,Option.some.injEq]; omega),(h.m3.more (Nat.le_succ n)).grown hg (by rw [ne_eq,Option.some.injEq]; omega)⟩
theorem Tg.put1 (h:Tg w T n S0 S1 S2 S3) (hm:MapIs Tryz.prog 9 w' T.m1 (n + 1) (fun key=>if key=x then some (.bool true) else setOf S1 key)) (hg:w.grownBy w' (some T.m1)):Tg w' T (n + 1) S0 (S1 ++ [x]) S2 S3:=by
 have hl:=h.lts
 exact ⟨hl,h.t.grown hg (by rw [ne_eq,Option.some.injEq]; omega),h.r.grown hg (by rw [ne_eq,Option.some.injEq]; omega),(h.m0.more (Nat.le_succ n)).grown hg (by rw [ne_eq,Option.some.injEq]; omega),hm.congr fun key=>set_more S1 x key,(h.m2.more (Nat.le_succ n)).grown hg (by rw [ne_eq,Option.some.injEq]; omega),(h.m3.more (Nat.le_succ n)).grown hg (by rw [ne_eq,Option.some.injEq]; omega)⟩
theorem Tg.put2 (h:Tg w T n S0 S1 S2 S3) (hm:MapIs Tryz.prog 9 w' T.m2 (n + 1) (fun key=>if key=x then some (.bool true) else setOf S2 key)) (hg:w.grownBy w' (some T.m2)):Tg w' T (n + 1) S0 S1 (S2 ++ [x]) S3:=by
 have hl:=h.lts
 exact ⟨hl,h.t.grown hg (by rw [ne_eq,Option.some.injEq]; omega),h.r.grown hg (by rw [ne_eq,Option.some.injEq]; omega),(h.m0.more (Nat.le_succ n)).grown hg (by rw [ne_eq,Option.some.injEq]; omega),(h.m1.more (Nat.le_succ n)).grown hg (by rw [ne_eq,Option.some.injEq]; omega),hm.congr fun key=>set_more S2 x key,(h.m3.more (Nat.le_succ n)).grown hg (by rw [ne_eq,Option.some.injEq]; omega)⟩
theorem Tg.put3 (h:Tg w T n S0 S1 S2 S3) (hm:MapIs Tryz.prog 9 w' T.m3 (n + 1) (fun key=>if key=x then some (.bool true) else setOf S3 key)) (hg:w.grownBy w' (some T.m3)):Tg w' T (n + 1) S0 S1 S2 (S3 ++ [x]):=by
 have hl:=h.lts
 exact ⟨hl,h.t.grown hg (by rw [ne_eq,Option.some.injEq]; omega),h.r.grown hg (by rw [ne_eq,Option.some.injEq]; omega),(h.m0.more (Nat.le_succ n)).grown hg (by rw [ne_eq,Option.some.injEq]; omega),(h.m1.more (Nat.le_succ n)).grown hg (by rw [ne_eq,Option.some.injEq]; omega),(h.m2.more (Nat.le_succ n)).grown hg (by rw [ne_eq,Option.some.injEq]; omega),hm.congr fun key=>set_more S3 x key⟩
end
def dataOf (l:List ByteArray):List (List UInt8):=l.map (·.data.toList)
def overOf (l:List ByteArray):List (List UInt8):=l.flatMap fun p=>dataOf (aboveS p)
def outK (l:List RuleV) (i:Nat):List (List UInt8):=(List.range i).flatMap fun k=>dataOf (outsAt l k)
def inK (l:List RuleV) (i:Nat):List (List UInt8):=(List.range i).flatMap fun k=>dataOf (insAt l k)
def outOK (l:List RuleV) (i:Nat):List (List UInt8):=(List.range i).flatMap fun k=>overOf (outsAt l k)
def inOK (l:List RuleV) (i:Nat):List (List UInt8):=(List.range i).flatMap fun k=>overOf (insAt l k)
theorem dataOf_more {l:List ByteArray} {k:Nat} {x:ByteArray} (hx:l[k]?=some x):dataOf (l.take (k + 1))=dataOf (l.take k) ++ [x.data.toList]:=by rw [dataOf,List.take_add_one,hx,List.map_append]; rfl
theorem overOf_more {l:List ByteArray} {k:Nat} {x:ByteArray} (hx:l[k]?=some x):overOf (l.take (k + 1))=overOf (l.take k) ++ dataOf (aboveS x):=by rw [overOf,List.take_add_one,hx,List.flatMap_append]; simp [overOf]
theorem range_flat {β:Type} (f:Nat→List β) (i:Nat):(List.range (i + 1)).flatMap f=(List.range i).flatMap f ++ f i:=by rw [List.range_succ,List.flatMap_append]; simp
theorem aboveS_le (p:ByteArray):(aboveS p).length≤p.size:=above_len p p.size
end Go.Proofs.Sm
