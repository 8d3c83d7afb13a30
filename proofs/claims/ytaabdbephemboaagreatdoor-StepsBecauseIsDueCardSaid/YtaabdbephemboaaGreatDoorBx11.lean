/- Words and walks that the claims share, part 11. -/
import Derived.Test.YtaabdbephemboaaGreatDoorBx2
import Derived.Test.YtaabdbephemboaaGreatDoorBx5
import Derived.Test.YtaabdbephemboaaGreatDoorBx6
import Derived.Test.YtaabdbephemboaaGreatDoorBx7
import Derived.Test.YtaabdbephemboaaGreatDoorBx8
import Derived.Test.YtaabdbephemboaaGreatDoorBx9
import Derived.Lib.Join
import Derived.Lib.Replace
import Derived.Lib.SlicesCompact
namespace Go.Proofs.Sm
open Go.RowKit
def joinS (ws:List ByteArray):List UInt8:=Lib.join (ws.map (·.data.toList)) [32]
def lineW (ws:List ByteArray):List UInt8:=joinS ws ++ [10]
def cmdL (c:List ByteArray):List UInt8:=[100,111,32] ++ joinS c ++ [10]
def varL (v:VarV):List UInt8:=[118,97,114,32] ++ v.name.data.toList ++ [32] ++ v.value.data.toList ++ [10]
def needL (v:VarV):List UInt8:=[110,101,101,100,32] ++ v.name.data.toList ++ [32] ++ v.value.data.toList ++ [10]
def outL (p:ByteArray):List UInt8:=[111,117,116,32] ++ p.data.toList ++ [10]
def toolL (a:ActionV):List UInt8:=[116,111,111,108,32] ++ a.tool.data.toList ++ [10]
def timeL (a:ActionV):List UInt8:=[116,105,109,101,32] ++ Lib.itoa a.time ++ [10]
def actTextL (a:ActionV):List UInt8:=toolL a ++ a.commands.flatMap cmdL ++ a.vars.flatMap varL ++ a.outputs.flatMap outL ++ a.needs.flatMap needL ++ timeL a
theorem joinS_two (x y:ByteArray):joinS [x,y]=x.data.toList ++ [32] ++ y.data.toList:=by simp [joinS,Lib.join_cons,Lib.joinTail]
theorem joinS_three (x y z:ByteArray):joinS [x,y,z]=x.data.toList ++ [32] ++ y.data.toList ++ [32] ++ z.data.toList:=by simp [joinS,Lib.join_cons,Lib.joinTail]
theorem joinS_length (m:Nat) (ws:List ByteArray) (h:∀ x∈ws,x.size≤m):(joinS ws).length≤(m + 1) * ws.length:=by
 cases ws with
 | nil=>simp [joinS,Lib.join]
 | cons a l =>
   have h1:=flatMap_length (f:=fun x:ByteArray=>[32] ++ x.data.toList) (m:=m + 1) (l:=l) (fun x hx=>by
    have h2:=h x (by simp [hx])
    have h3:x.data.toList.length=x.size:=by simp
    simp only [List.length_append,List.length_cons,List.length_nil,h3]; omega)
   have h2:=h a (by simp)
   have h3:a.data.toList.length=a.size:=by simp
   have h4:Lib.joinTail [32] (l.map (·.data.toList))=l.flatMap fun x:ByteArray=>[32] ++ x.data.toList:=by
    simp [Lib.joinTail,List.flatMap,Function.comp_def]
   rw [joinS,List.map_cons,Lib.join_cons,List.length_append,h3,h4,List.length_cons,Nat.mul_succ]
   omega
theorem listErr_all' {α:Type} {err:Option ByteArray→α→Int} {key:α→ByteArray} {l:List α}:∀ prev,listErr err key prev l=0→∀ x∈l,∃ q,err q x=0:=by
 induction l with
 | nil=>intro _ _ x hx; simp at hx
 | cons a l ih =>
   intro prev h x hx
   rw [listErr] at h
   split at h
   ·rename_i h0
    rcases List.mem_cons.1 hx with rfl | hx
    ·exact ⟨_,h0⟩
    ·exact ih _ h x hx
   ·exact absurd h ‹_›
structure ActOk (a:ActionV):Prop where
 tool:a.tool.size≤16
 commands:a.commands.length≤50
 words:∀ c∈a.commands,c.length≤50∧∀ s∈c,s.size≤300
 vars:a.vars.length≤30
 var:∀ v∈a.vars,v.name.size≤40∧v.value.size≤300
 outputs:a.outputs.length≤100
 output:∀ p∈a.outputs,p.size≤200
 needs:a.needs.length≤30
 need:∀ v∈a.needs,v.name.size≤40∧v.value.size≤300
 time:1≤a.time∧a.time≤100000
theorem commandsErr_all {l:List (List ByteArray)} (h:commandsErr l=0):∀ c∈l,checkCommandS c=0:=by
 induction l with
 | nil=>intro x hx; simp at hx
 | cons a l ih =>
   rw [commandsErr] at h
   split at h
   ·rename_i h0
    intro x hx
    rcases List.mem_cons.1 hx with rfl | hx
    ·exact h0
    ·exact ih h x hx
   ·exact absurd h ‹_›
theorem command_ok {c:List ByteArray} (h:checkCommandS c=0):c.length≤50∧∀ s∈c,s.size≤300:=by
 unfold checkCommandS at h
 split at h
 ·omega
 ·rename_i h1
  refine ⟨by omega,?_⟩
  cases c with
  | nil=>intro s hs; simp at hs
  | cons c0 words =>
    simp only at h
    split at h
    ·omega
    ·rename_i h2
     simp only [Bool.not_eq_false,List.all_eq_true] at h2
     intro s hs
     have:=withinB_true (Bool.and_eq_true_iff.1 (h2 s hs)).2
     omega
theorem vars_ok {l:List VarV} (h:checkVarsS l=0):l.length≤30∧∀ v∈l,v.name.size≤40∧v.value.size≤300:=by
 unfold checkVarsS at h
 split at h
 ·omega
 ·refine ⟨by omega,fun v hv=>?_⟩
  obtain ⟨q,hq⟩:=listErr_all' _ h v hv
  unfold varErr at hq
  split at hq
  ·omega
  ·split at hq
   ·omega
   ·rename_i h1 h2
    simp only [Bool.not_eq_false,isNameS,Bool.and_eq_true] at h1
    have:=withinB_true h1.1.1.1
    simp only [Bool.or_eq_true,decide_eq_true_eq,not_or] at h2
    omega
theorem outputs_ok {l:List ByteArray} (h:checkOutputsS l=0):l.length≤100∧∀ v∈l,v.size≤200:=by
 unfold checkOutputsS at h
 split at h
 ·omega
 ·split at h
  ·omega
  ·split at h
   ·rename_i h1; exact absurd h h1
   ·rename_i h0 h1 h2
    refine ⟨by omega,fun v hv=>?_⟩
    obtain ⟨q,hq⟩:=listErr_all' _ (Classical.not_not.1 h2) v hv
    unfold outErr at hq
    split at hq
    ·omega
    ·rename_i h3; exact path_size (by simpa using h3)
theorem checkAction_ok {a:ActionV} (h:checkActionS a=0):ActOk a:=by
 unfold checkActionS at h
 split at h
 ·omega
 ·split at h
  ·omega
  ·split at h
   ·omega
   ·split at h
    ·rename_i h1; exact absurd h h1
    ·split at h
     ·rename_i h1; exact absurd h h1
     ·split at h
      ·rename_i h1; exact absurd h h1
      ·split at h
       ·rename_i h1; exact absurd h h1
       ·split at h
        ·omega
        ·rename_i h1 h2 h3 h4 h5 h6 h7 h8
         have g4:=Classical.not_not.1 h4
         have g5:=vars_ok (Classical.not_not.1 h5)
         have g6:=outputs_ok (Classical.not_not.1 h6)
         have g7:=vars_ok (Classical.not_not.1 h7)
         refine ⟨digest_size (.inr (by simpa using h1)),by omega,fun c hc=>command_ok (commandsErr_all g4 c hc),g5.1,g5.2,g6.1,g6.2,g7.1,g7.2,withinB_true (by simpa using h8)⟩
theorem cmdL_length {c:List ByteArray} (h:c.length≤50∧∀ s∈c,s.size≤300):(joinS c).length≤15050:=by
 have h1:=joinS_length 300 c h.2
 have:301 * c.length≤301 * 50:=Nat.mul_le_mul_left _ h.1
 omega
theorem flatMap_take {α:Type} {f:α→List UInt8} {m q:Nat} {l:List α} (hq:l.length≤q) (h:∀ x∈l,(f x).length≤m) (k:Nat):((l.take k).flatMap f).length≤m * q:=by
 have h2:=flatMap_length (f:=f) (m:=m) (l:=l.take k) (fun x hx=>h x (List.mem_of_mem_take hx))
 have h3:(l.take k).length≤q:=by rw [List.length_take]; omega
 have:m * (l.take k).length≤m * q:=Nat.mul_le_mul_left _ h3
 omega
theorem toolL_length {a:ActionV} (ok:ActOk a):(toolL a).length≤30:=by
 have h5:a.tool.data.toList.length=a.tool.size:=by simp
 have:=ok.tool
 simp only [toolL,List.length_append,List.length_cons,List.length_nil,h5]; omega
theorem cmds_length {a:ActionV} (ok:ActOk a) (k:Nat):((a.commands.take k).flatMap cmdL).length≤800000:=by
 have:=flatMap_take (f:=cmdL) (m:=15100) ok.commands (fun x hx=>by
  have:=cmdL_length (ok.words x hx)
  simp only [cmdL,List.length_append,List.length_cons,List.length_nil]; omega) k
 omega
theorem vars_length {a:ActionV} (ok:ActOk a) (k:Nat):((a.vars.take k).flatMap varL).length≤12000:=by
 have:=flatMap_take (f:=varL) (m:=360) ok.vars (fun x hx=>by
  have:=ok.var x hx
  have h5:x.name.data.toList.length=x.name.size:=by simp
  have h6:x.value.data.toList.length=x.value.size:=by simp
  simp only [varL,List.length_append,List.length_cons,List.length_nil,h5,h6]; omega) k
 omega
theorem outs_length {a:ActionV} (ok:ActOk a) (k:Nat):((a.outputs.take k).flatMap outL).length≤30000:=by
 have:=flatMap_take (f:=outL) (m:=220) ok.outputs (fun x hx=>by
  have:=ok.output x hx
  have h5:x.data.toList.length=x.size:=by simp
  simp only [outL,List.length_append,List.length_cons,List.length_nil,h5]; omega) k
 omega
theorem needs_length {a:ActionV} (ok:ActOk a) (k:Nat):((a.needs.take k).flatMap needL).length≤12000:=by
 have:=flatMap_take (f:=needL) (m:=360) ok.needs (fun x hx=>by
  have:=ok.need x hx
  have h5:x.name.data.toList.length=x.name.size:=by simp
  have h6:x.value.data.toList.length=x.value.size:=by simp
  simp only [needL,List.length_append,List.length_cons,List.length_nil,h5,h6]; omega) k
 omega
end Go.Proofs.Sm
namespace Go.Proofs.Sm
open Go.RowKit
def leftN (g:Graph) (out:List Nat) (j:Nat):Nat:=((needAt g j).filter fun k=>!out.contains k).length
theorem left_zero {g:Graph} {out:List Nat} {j:Nat}:leftN g out j=0↔readyS g out j=true:=by
 rw [leftN,List.length_eq_zero_iff,List.filter_eq_nil_iff,readyS,List.all_eq_true]
 simp
theorem left_nil (g:Graph) (j:Nat):leftN g [] j=(needAt g j).length:=by
 rw [leftN]
 congr 1
 rw [List.filter_eq_self]
 simp
theorem left_more {g:Graph} {out:List Nat} {k j:Nat} (hn:(needAt g j).Nodup) (hk:k ∉ out):leftN g (out ++ [k]) j + (if (needAt g j).contains k then 1 else 0)=leftN g out j:=by
 unfold leftN
 generalize needAt g j=l at hn
 induction l with
 | nil=>simp
 | cons x l ih =>
   rw [List.nodup_cons] at hn
   have ih:=ih hn.2
   by_cases hx:x=k
   ·subst hx
    have hl:l.contains x=false:=by simpa using hn.1
    rw [hl] at ih
    simp only [List.contains_cons,BEq.rfl,Bool.true_or,if_true]
    have e1:((x :: l).filter fun y=>!(out ++ [x]).contains y)=l.filter fun y=>!(out ++ [x]).contains y:=by rw [List.filter_cons]; simp
    have e2:((x :: l).filter fun y=>!out.contains y)=x :: l.filter fun y=>!out.contains y:=by rw [List.filter_cons]; simp [hk]
    rw [e1,e2,List.length_cons]
    simp at ih ⊢
    omega
   ·have hc:(x :: l).contains k=l.contains k:=by
     have hx2:¬ k=x:=fun e=>hx e.symm
     simp [hx2]
    rw [hc]
    have e3:(out ++ [k]).contains x=out.contains x:=by simp [hx]
    by_cases hox:out.contains x=true
    ·have e1:((x :: l).filter fun y=>!(out ++ [k]).contains y)=l.filter fun y=>!(out ++ [k]).contains y:=by rw [List.filter_cons,e3,hox]; rfl
     have e2:((x :: l).filter fun y=>!out.contains y)=l.filter fun y=>!out.contains y:=by rw [List.filter_cons,hox]; rfl
     rw [e1,e2]; exact ih
    ·have hox:out.contains x=false:=by simpa using hox
     have e1:((x :: l).filter fun y=>!(out ++ [k]).contains y)=x :: l.filter fun y=>!(out ++ [k]).contains y:=by rw [List.filter_cons,e3,hox]; rfl
     have e2:((x :: l).filter fun y=>!out.contains y)=x :: l.filter fun y=>!out.contains y:=by rw [List.filter_cons,hox]; rfl
     rw [e1,e2,List.length_cons,List.length_cons]; omega
def usersAt (g:Graph) (inn:Nat→Bool) (i t:Nat):List (List Nat):=(List.range g.length).map fun k=>((List.range i).filter fun j=>inn j && (needAt g j).contains k) ++ (if ((needAt g i).take t).contains k then [i] else [])
theorem users_start (g:Graph) (inn:Nat→Bool):usersAt g inn 0 0=List.replicate g.length []:=by
 apply List.ext_getElem
 ·simp [usersAt]
 ·intro i h1 h2
  simp [usersAt]
theorem users_skip {g:Graph} {inn:Nat→Bool} {i:Nat} (h:inn i=false):usersAt g inn (i + 1) 0=usersAt g inn i 0:=by
 apply List.ext_getElem
 ·simp [usersAt]
 ·intro k h1 h2
  simp [usersAt,List.range_succ,h]
theorem users_next {g:Graph} {inn:Nat→Bool} {i t:Nat} (h:inn i=true) (ht:(needAt g i).length≤t):usersAt g inn i t=usersAt g inn (i + 1) 0:=by
 apply List.ext_getElem
 ·simp [usersAt]
 ·intro k h1 h2
  simp only [usersAt,List.getElem_map,List.getElem_range,List.range_succ,List.filter_append,List.take_of_length_le ht,List.take_zero]
  have e:([i].filter fun j=>inn j && (needAt g j).contains k)=if (needAt g i).contains k=true then [i] else []:=by
   rw [List.filter_cons,h,Bool.true_and]
   rfl
  rw [e]
  simp
theorem users_row {g:Graph} {inn:Nat→Bool} {i t k:Nat} (hk:k < g.length) (hn:k ∉ (needAt g i).take t):(usersAt g inn i t)[k]?=some ((List.range i).filter fun j=>inn j && (needAt g j).contains k):=by
 rw [usersAt,List.getElem?_map,List.getElem?_range hk]
 simp [hn]
theorem users_end {g:Graph} {inn:Nat→Bool} {i k:Nat} (hk:k < g.length):(usersAt g inn i 0)[k]?=some ((List.range i).filter fun j=>inn j && (needAt g j).contains k):=users_row hk (by simp)
theorem take_not {l:List Nat} {t k:Nat} (hn:l.Nodup) (hk:l[t]?=some k):k ∉ l.take t:=by
 intro hm
 obtain ⟨i,hi⟩:=List.getElem?_of_mem hm
 rw [List.getElem?_take] at hi
 split at hi
 ·have hi1:=(List.getElem?_eq_some_iff.1 hi).1
  have ht1:=(List.getElem?_eq_some_iff.1 hk).1
  have:=(List.getElem_inj hn (h₀:=hi1) (h₁:=ht1)).1 (by rw [(List.getElem?_eq_some_iff.1 hi).2,(List.getElem?_eq_some_iff.1 hk).2])
  omega
 ·cases hi
theorem users_set {g:Graph} {inn:Nat→Bool} {i t k:Nat} (hn:(needAt g i).Nodup) (hk:(needAt g i)[t]?=some k):(usersAt g inn i t).set k (((List.range i).filter fun j=>inn j && (needAt g j).contains k) ++ [i])=usersAt g inn i (t + 1):=by
 have hnot:=take_not hn hk
 apply List.ext_getElem
 ·simp [usersAt]
 ·intro a h1 h2
  rw [List.getElem_set]
  simp only [usersAt,List.getElem_map,List.getElem_range,List.take_add_one,hk,Option.toList_some]
  split
  ·rename_i e
   subst e
   simp
  ·rename_i e
   have:¬ a=k:=fun h=>e h.symm
   simp [this]
end Go.Proofs.Sm
namespace Go.Proofs.Sm
open Go.RowKit
def nameAt (l:List RuleV) (k:Nat):ByteArray:=((l[k]?).map RuleV.name).getD ⟨#[]⟩
theorem nameAt_some {l:List RuleV} {k:Nat} {x:RuleV} (h:l[k]?=some x):nameAt l k=x.name:=by simp [nameAt,h]
end Go.Proofs.Sm
namespace Go.Proofs.Sm
open Go.RowKit
theorem outs_before {l:List ByteArray} (h:listErr outErr id none l=0):∀ (i j:Nat) (x y:ByteArray),i < j→l[i]?=some x→l[j]?=some y→ltS x y=true:=by
 have step:∀ i x y,l[i]?=some x→l[i + 1]?=some y→ltS x y=true:=by
  intro i x y hx hy
  have h1:=listErr_at h (i + 1) y hy
  rw [ahead_succ hx] at h1
  have h3:=outErr_after h1
  rw [notAfter] at h3
  exact leS_lt h3
 have key:∀ d i x y,l[i]?=some x→l[i + d + 1]?=some y→ltS x y=true:=by
  intro d
  induction d with
  | zero=>intro i x y hx hy; exact step i x y hx hy
  | succ d ih =>
    intro i x y hx hy
    obtain ⟨z,hz⟩:∃ z,l[i + d + 1]?=some z:=by
     have:=(List.getElem?_eq_some_iff.1 hy).1
     exact ⟨l[i + d + 1]'(by omega),List.getElem?_eq_getElem _⟩
    exact bl_trans (ih i x z hx hz) (step (i + d + 1) z y hz hy)
 intro i j x y hij hx hy
 refine key (j - i - 1) i x y hx ?_
 rw [show i + (j - i - 1) + 1=j by omega]
 exact hy
theorem ltS_ne {x y:ByteArray} (h:ltS x y=true):¬ x.data.toList=y.data.toList:=by
 intro e
 unfold ltS at h
 rw [Lib.toList_data,Lib.toList_data,e,bl_irrefl] at h
 cases h
theorem outs_new {l:List ByteArray} (h:listErr outErr id none l=0) {t:Nat} {p:ByteArray} (hp:l[t]?=some p):(l.take t).any (fun x=>x.data.toList == p.data.toList)=false:=by
 rw [List.any_eq_false]
 intro x hx
 obtain ⟨j,hj⟩:=List.getElem?_of_mem hx
 rw [List.getElem?_take] at hj
 split at hj
 ·rename_i hjt
  have:=ltS_ne (outs_before h j t x p hjt hj hp)
  simpa using this
 ·cases hj
def ofAt (l:List RuleV) (i t:Nat):List UInt8→Option Value:=fun key=>if ((outsAt l i).take t).any (fun x=>x.data.toList == key) then some (.int .i64 (i:Int)) else (lastOf l i key).map fun k:Nat=>.int .i64 (k:Int)
section
variable {l:List RuleV} {i t:Nat} {p:ByteArray}
theorem ofAt_start (l:List RuleV) (key:List UInt8):ofAt l 0 0 key=none:=by simp [ofAt,lastOf]
theorem ofAt_more (hp:(outsAt l i)[t]?=some p) (key:List UInt8):(if key=p.data.toList then some (.int .i64 (i:Int)) else ofAt l i t key)=ofAt l i (t + 1) key:=by
 rw [ofAt,ofAt,List.take_add_one,hp,List.any_append]
 by_cases h:key=p.data.toList
 ·subst h; simp
 ·have:¬ p.data.toList=key:=fun e=>h e.symm
  simp [h,this]
theorem ofAt_next (ht:(outsAt l i).length≤t) (key:List UInt8):ofAt l i t key=ofAt l (i + 1) 0 key:=by
 rw [ofAt,ofAt,List.take_of_length_le ht,lastOf]
 simp only [List.take_zero,List.any_nil,Bool.false_eq_true,if_false]
 split <;> simp_all
theorem ofAt_zero (l:List RuleV) (i:Nat) (key:List UInt8):ofAt l i 0 key=(lastOf l i key).map fun k:Nat=>.int .i64 (k:Int):=by simp [ofAt]
theorem ofAt_look (hok:RulesOk l) (hp:(outsAt l i)[t]?=some p):ofAt l i t p.data.toList=(lastOf l i p.data.toList).map fun k:Nat=>.int .i64 (k:Int):=by
 rw [ofAt,outs_new (hok.outs i).2.1 hp]; rfl
theorem ofAt_there (hok:RulesOk l) (hp:(outsAt l i)[t]?=some p):(ofAt l i t p.data.toList).isSome=twiceS l i p:=by
 rw [ofAt_look hok hp,Option.isSome_map]
 cases h:lastOf l i p.data.toList with
 | none=>rw [lastOf_none.1 h]; rfl
 | some k =>
   cases h2:twiceS l i p with
   | true=>rfl
   | false=>rw [lastOf_none.2 h2] at h; cases h
theorem outputErr_twice (h:twiceS l i p=true):outputErr l i p=7:=by rw [outputErr,if_pos h]
theorem outputErr_rest (hok:RulesOk l) (hp:p∈outsAt l i) (h:twiceS l i p=false):outputErr l i p=if meetsS l p=true then 12 else 0:=by
 rw [outputErr,if_neg (by rw [h]; decide),meets_cross hok hp]
end
def needSet (l:List RuleV) (i t:Nat):Int→Option Value:=fun key=>if ((insAt l i).take t).any (fun p=>(lastOf l l.length p.data.toList).any fun k:Nat=>(k:Int) == key) then some (.bool true) else none
section
variable {l:List RuleV} {i t k:Nat} {p:ByteArray}
theorem needSet_start (l:List RuleV) (i:Nat) (key:Int):needSet l i 0 key=none:=by simp [needSet]
theorem needSet_yes (hp:(insAt l i)[t]?=some p) (hk:lastOf l l.length p.data.toList=some k) (key:Int):(if key=(k:Int) then some (.bool true) else needSet l i t key)=needSet l i (t + 1) key:=by
 rw [needSet,needSet,List.take_add_one,hp,List.any_append]
 by_cases h:key=(k:Int)
 ·subst h; simp [hk]
 ·have:¬ (k:Int)=key:=fun e=>h e.symm
  simp [hk,h,this]
theorem needSet_no (hp:(insAt l i)[t]?=some p) (hk:lastOf l l.length p.data.toList=none) (key:Int):needSet l i t key=needSet l i (t + 1) key:=by
 rw [needSet,needSet,List.take_add_one,hp,List.any_append]
 simp [hk]
theorem needSet_end (h:allOutputsErr l=0) (ht:(insAt l i).length≤t) (key:Int):(needSet l i t key).isSome=true↔∃ k:Nat,k < l.length∧usesS l i k=true∧key=(k:Int):=by
 rw [needSet,List.take_of_length_le ht]
 have e:((if ((insAt l i).any fun p=>(lastOf l l.length p.data.toList).any fun k:Nat=>(k:Int) == key)=true then some (Value.bool true) else none).isSome=true)↔((insAt l i).any fun p=>(lastOf l l.length p.data.toList).any fun k:Nat=>(k:Int) == key)=true:=by
  split <;> simp_all
 rw [e,List.any_eq_true]
 constructor
 ·rintro ⟨p,hp,hk⟩
  rw [Option.any_eq_true] at hk
  obtain ⟨k,hk,he⟩:=hk
  have he':(k:Int)=key:=by simpa using he
  exact ⟨k,(lastOf_lt hk).1,(uses_iff h i k).2 ⟨p,hp,hk⟩,he'.symm⟩
 ·rintro ⟨k,_,hu,rfl⟩
  obtain ⟨p,hp,hk⟩:=(uses_iff h i k).1 hu
  exact ⟨p,hp,by rw [hk]; simp⟩
theorem needs_row (hi:i < l.length):(needsS l)[i]?=some ((List.range l.length).filter (usesS l i)):=by
 rw [needsS,List.getElem?_map,List.getElem?_range hi]; rfl
theorem needs_more (hi:i < l.length):(needsS l).take (i + 1)=(needsS l).take i ++ [(List.range l.length).filter (usesS l i)]:=by
 rw [List.take_add_one,needs_row hi]; rfl
end
end Go.Proofs.Sm
namespace Go.Proofs.Sm
open Go.RowKit
theorem bl_lt:∀ {a b:List UInt8},Op.bytesLess a b=true↔a < b
 | [],[]=>by simp [Op.bytesLess]
 | [],_ :: _=>by simp [Op.bytesLess]
 | _ :: _,[]=>by simp [Op.bytesLess]
 | a :: l,b :: m=>by
   rw [List.cons_lt_cons_iff,←bl_lt (a:=l) (b:=m)]
   simp [Op.bytesLess]
theorem lt_bytes {x y:ByteArray}:ltS x y=true↔x.data.toList < y.data.toList:=by
 unfold ltS
 rw [Lib.toList_data,Lib.toList_data,bl_lt]
theorem bytes_eq {x y:ByteArray} (h:x.data.toList=y.data.toList):x=y:=by
 obtain ⟨⟨x⟩⟩:=x
 obtain ⟨⟨y⟩⟩:=y
 simp at h
 subst h; rfl
end Go.Proofs.Sm
namespace Go.Proofs.Sm
open Go.RowKit
structure ExSt where
 written:List FileV
 looks:List Look
 told:List UInt8
 total:Nat
def noteS (l:List Look) (x:Look):List Look :=
 if l.any (fun y=>y.path.toList == x.path.toList) then l else l.filter (fun y=>ltS y.path x.path) ++ [x] ++ l.filter (fun y=>ltS x.path y.path)
def putFileS (l:List FileV) (x:FileV):List FileV:=l.filter (fun y=>ltS y.path x.path) ++ [x] ++ l.filter (fun y=>ltS x.path y.path)
def putStrS (l:List ByteArray) (x:ByteArray):List ByteArray:=l.filter (fun y=>ltS y x) ++ [x] ++ l.filter (fun y=>ltS x y)
abbrev Ex (α:Type):=List FileV→ExSt→α × ExSt
section
variable {α β:Type}
def Ex.ret (a:α):Ex α:=fun _ s=>(a,s)
def Ex.bind (m:Ex α) (f:α→Ex β):Ex β:=fun F s=>f (m F s).1 F (m F s).2
end
def findE (p:ByteArray):Ex (Option FileV):=fun F s=>match s.written.find? (eqp p) with
 | some x=>(some x,s)
 | none=>(F.find? (eqp p),{ s with looks:=noteS s.looks (lookAtS F p) })
def readE (p:ByteArray):Ex (List UInt8 × Int):=(findE p).bind fun x=>match x with
 | none=>.ret ([],2)
 | some x=>.ret (x.bytes,0)
def oldLen (l:List FileV) (p:ByteArray):Nat:=match l.find? (eqp p) with
 | none=>0
 | some x=>x.bytes.length
def writeE (outs:List ByteArray) (p:ByteArray) (b:List UInt8) (run:Bool):Ex Int:=fun _ s =>
 if outs.any (fun o=>o.toList == p.toList)=false then (3,s)
 else if 100000 < b.length∨2000000 < (s.total:Int) - (oldLen s.written p:Int) + (b.length:Int) then (5,s)
 else (0,{ s with total:=s.total - oldLen s.written p + b.length,written:=putFileS s.written ⟨p,run,b⟩ })
def linesS:List UInt8→List (List UInt8)
 | []=>[]
 | c :: r=>if c=10 then [10] :: linesS r else match linesS r with
   | []=>[[c]]
   | x :: xs=>if x=[10] then [c,10] :: xs else (c :: x) :: xs
def cutNl (s:List UInt8):List UInt8:=Lib.trimSuffix s [10]
def endedS (s:List UInt8):List UInt8:=cutNl s ++ [10]
def sortLinesS (b:List UInt8):List UInt8:=(Lib.compact (((linesS b).map cutNl).mergeSort fun x y=>decide (x≤y))).flatMap fun s=>s ++ [10]
def incS (s:List UInt8):Option ByteArray :=
 if Lib.hasPrefix (cutNl s) [105,110,99,108,117,100,101,32] then (if isPathS ⟨((cutNl s).drop 8).toArray⟩ then some ⟨((cutNl s).drop 8).toArray⟩ else none) else none
def eachE (f:ByteArray→List UInt8→Nat→Ex (List UInt8 × Nat × Int)):List (List UInt8)→List UInt8→Nat→Ex (List UInt8 × Nat × Int)
 | [],o,r=>.ret (o,r,0)
 | s :: rest,o,r=>match incS s with
   | some p=>(f p o r).bind fun x=>if x.2.2=0 then eachE f rest x.1 x.2.1 else .ret x
   | none=>if 100000 < (o ++ endedS s).length then .ret (o ++ endedS s,r,5) else eachE f rest (o ++ endedS s) r
def fileE:Nat→List ByteArray→ByteArray→List UInt8→Nat→Ex (List UInt8 × Nat × Int)
 | 0,_,_,o,r=>.ret (o,r,4)
 | fuel + 1,inn,p,o,r =>
   if inn.any (fun q=>q.toList == p.toList)=true∨30 < inn.length then .ret (o,r,4)
   else (readE p).bind fun x=>if x.2=0 then (if 10000 < r + 1 then .ret (o,r + 1,4) else eachE (fileE fuel (inn ++ [p])) (linesS x.1) o (r + 1)) else .ret (o,r,x.2)
def joinedE:List ByteArray→List UInt8→Ex (List UInt8 × Int)
 | [],o=>.ret (o,0)
 | p :: rest,o=>(readE p).bind fun x=>if x.2=0 then joinedE rest (o ++ x.1) else .ret ([],x.2)
def pickE:List ByteArray→Ex (List UInt8 × Int)
 | []=>.ret ([],2)
 | p :: rest=>(findE p).bind fun x=>match x with
   | some y=>.ret (y.bytes,0)
   | none=>pickE rest
def pathsS (F:List FileV) (s:ExSt):List ByteArray:=(F.map (·.path) ++ s.written.map (·.path)).foldl putStrS []
def withinS (p q:ByteArray):Bool:=liesS p q
def listsE (q:ByteArray):List ByteArray→List UInt8→Ex (List UInt8)
 | [],o=>.ret o
 | p :: rest,o=>if withinS p q then (findE p).bind fun _=>listsE q rest (o ++ p.data.toList ++ [10]) else listsE q rest o
def listE (q:ByteArray):Ex (List UInt8):=(findE q).bind fun _=>fun F s=>listsE q (pathsS F s) [] F s
def valueS (vars:List VarV) (n:ByteArray):List UInt8 × Int:=match vars.find? (fun v=>v.name.toList == n.toList) with
 | some v=>(v.value.data.toList ++ [10],0)
 | none=>([],4)
def wordAt (c:List ByteArray) (i:Nat):ByteArray:=(c[i]?).getD ⟨#[]⟩
def ofBytes (c:List ByteArray) (b:List UInt8):List UInt8 :=
 let w:=(wordAt c 0).data.toList
 if w=[115,111,114,116] then sortLinesS b
 else if w=[99,111,117,110,116] then Lib.itoa (linesS b).length ++ [10]
 else if w=[102,105,114,115,116] then ((linesS b).take (numS (wordAt c 2))).flatten
 else if w=[99,104,97,110,103,101] then Lib.replaceAll b (wordAt c 2).data.toList (wordAt c 3).data.toList
 else if w=[100,105,103,101,115,116] then (digestS b).data.toList ++ [10]
 else b
def madeE (vars:List VarV) (c:List ByteArray):Ex (List UInt8 × Int) :=
 let w:=(wordAt c 0).data.toList
 if w=[106,111,105,110] then joinedE (c.drop 2) []
 else if w=[101,120,112,97,110,100] then (fileE 32 [] (wordAt c 2) [] 0).bind fun x=>.ret (x.1,x.2.2)
 else if w=[112,105,99,107] then pickE (c.drop 2)
 else if w=[108,105,115,116] then (listE (wordAt c 2)).bind fun x=>.ret (x,0)
 else if w=[118,97,114] then .ret (valueS vars (wordAt c 2))
 else (readE (wordAt c (c.length - 1))).bind fun x=>if x.2=0 then .ret (ofBytes c x.1,0) else .ret ([],x.2)
def tellE (ws:List ByteArray):Ex Int:=fun _ s =>
 if 100000 < (s.told ++ lineW ws).length then (5,s) else (0,{ s with told:=s.told ++ lineW ws })
def sameE (p q:ByteArray):Ex Int:=(readE p).bind fun x=>if x.2=0 then (readE q).bind fun y=>(if y.2=0 then (if x.1=y.1 then .ret 0 else .ret 4) else .ret y.2) else .ret x.2
def doE (a:ActionV) (c:List ByteArray):Ex Int :=
 let w:=(wordAt c 0).data.toList
 if w=[116,101,108,108] then tellE (c.drop 1)
 else if w=[110,101,101,100] then (readE (wordAt c 1)).bind fun x=>.ret x.2
 else if w=[115,97,109,101] then sameE (wordAt c 1) (wordAt c 2)
 else if w=[102,97,105,108] then .ret (numS (wordAt c 1):Int)
 else (madeE a.vars c).bind fun x=>if x.2=0 then writeE a.outputs (wordAt c 1) x.1 (w == [109,97,107,101]) else .ret x.2
def runE (a:ActionV):List (List ByteArray)→Nat→Ex (Int × Nat)
 | [],_=>fun _ s=>(if s.written.length < a.outputs.length then (1,0) else (0,0),s)
 | c :: rest,i=>(doE a c).bind fun x=>if x=0 then runE a rest (i + 1) else .ret (x,i + 1)
def startS:ExSt:=⟨[],[],[],0⟩
def execS (a:ActionV) (F:List FileV):ResultV :=
 let x:=runE a a.commands 0 F startS
 ⟨x.1.1,⟨x.2.told.toArray⟩,if x.1.1=0 then x.2.written else [],x.2.looks,x.1.2⟩
theorem ltS_total (x y:ByteArray):ltS x y=true∨x.toList=y.toList∨ltS y x=true:=by
 cases h:ltS x y
 ·by_cases e:x.toList=y.toList
  ·exact .inr (.inl e)
  ·exact .inr (.inr (bl_total h e))
 ·exact .inl rfl
theorem lookAt_path (F:List FileV) (p:ByteArray):(lookAtS F p).path=p:=by
 unfold lookAtS
 split <;> rfl
end Go.Proofs.Sm
namespace Go.Proofs.Sm
open Go.RowKit Go.Maps Go.WideMaps
structure Kp (X:Nat→Prop) (w w':World):Prop where
 os:w'.os=w.os
 tape:w'.tape=w.tape
 output:w'.output=w.output
 size:w.heap.size≤w'.heap.size
 block:∀ k,k < w.heap.size→¬ X k→w'.heap[k]?=w.heap[k]?
section
variable {X:Nat→Prop} {a b c w w':World}
theorem Kp.refl (X:Nat→Prop) (w:World):Kp X w w:=⟨rfl,rfl,rfl,Nat.le_refl _,fun _ _ _=>rfl⟩
theorem Kp.trans (h:Kp X a b) (k:Kp X b c):Kp X a c :=
 ⟨k.os.trans h.os,k.tape.trans h.tape,k.output.trans h.output,Nat.le_trans h.size k.size,fun i hi hx=>(k.block i (Nat.lt_of_lt_of_le hi h.size) hx).trans (h.block i hi hx)⟩
theorem Kp.of (h:Below a.heap.size a b):Kp X a b:=⟨h.os,h.tape,h.output,h.size,fun k hk _=>h.block k hk⟩
theorem Kp.call (h:Kp X a b) (k:Below b.heap.size b c):Kp X a c:=h.trans (.of k)
theorem Kp.alloc (h:Kp X a w) (o:Obj):Kp X a (w.alloc o):=h.call (fr_alloc (fr_refl w) o)
theorem Kp.drew (h:Kp X a w):Kp X a w.drew:=h.call (Below.drew (fr_refl w))
theorem Kp.set (h:Kp X a w) {p:Addr} (hp:X p.block) (u:Value):Kp X a (w.setCell p u) :=
 h.trans ⟨rfl,rfl,rfl,by simp [World.setCell],fun k _ hx=>Below.heap_setCell _ _ _ _ fun e=>hx (e ▸ hp)⟩
theorem Kp.grown {row:Option Nat} (h:Kp X a w) (hg:w.grownBy w' row) (hr:∀ k,row=some k→X k∨a.heap.size≤k):Kp X a w' :=
 ⟨hg.os.trans h.os,hg.tape.trans h.tape,hg.output.trans h.output,Nat.le_trans h.size hg.size,fun i hi hx=>(hg.block i (Nat.lt_of_lt_of_le hi h.size) fun e=>by
  rcases hr i e.symm with h1 | h1
  ·exact hx h1
  ·omega).trans (h.block i hi hx)⟩
theorem Kp.below (h:Kp X a b) {B:Nat} (hX:∀ k,k < B→¬ X k) (hB:B≤a.heap.size):Below B a b :=
 ⟨h.os,h.tape,h.output,h.size,fun k hk=>h.block k (Nat.lt_of_lt_of_le hk hB) (hX k hk)⟩
theorem Kp.more {Y:Nat→Prop} (h:Kp X a b) (hXY:∀ k,X k→Y k):Kp Y a b:=⟨h.os,h.tape,h.output,h.size,fun k hk hx=>h.block k hk fun h1=>hx (hXY k h1)⟩
def Off (X:Nat→Prop) (w:World):Nat→Prop:=fun k=>¬ X k∧k < w.heap.size
theorem Kp.off (h:Kp X a b):∀ k,Off X a k→b.heap[k]?=a.heap[k]?:=fun k hk=>h.block k hk.2 hk.1
theorem Kp.offs (h:Kp X a b):∀ k,Off X a k→Off X b k:=fun _ hk=>⟨hk.1,Nat.lt_of_lt_of_le hk.2 h.size⟩
theorem Off.lt:∀ k,Off X a k→Lt a.heap.size k:=fun _ hk=>hk.2
theorem Sl.kp {α:Type} [Rep α] {A:Option Addr} {n:Nat} {l:List α} (h:Kp X a b) (hs:Sl a (Off X a) A n l):Sl b (Off X b) A n l:=(hs.keep h.off).more h.offs
theorem Sl.offLt {α:Type} [Rep α] {A:Option Addr} {n:Nat} {l:List α} (hs:Sl a (Off X a) A n l):Sl a (Lt a.heap.size) A n l:=hs.more Off.lt
end
def FileVal (w:World) (S:Nat→Prop) (x:FileV) (v:Value):Prop :=
 x.path.size≤maxLen∧∃ A n c,v=.agg #[.string x.path,.bool x.run,.slice A n c]∧n≤c∧c≤maxLen∧Sl w S A n x.bytes
def lookVal (x:Look):Value:=.agg #[.string x.path,.string x.digest,.bool x.run]
def keyF (l:List FileV) (key:List UInt8):Option FileV:=l.find? fun y=>y.path.data.toList == key
def keyL (l:List Look) (key:List UInt8):Option Look:=l.find? fun y=>y.path.data.toList == key
theorem keyF_eqp (l:List FileV) (p:ByteArray):keyF l p.data.toList=l.find? (eqp p):=by
 unfold keyF
 congr 1
 funext y
 rw [eqp,ByteArray.toList_eq,ByteArray.toList_eq]
def FilesIn (P:Program) (k:TypeId) (w:World) (S:Nat→Prop) (m n:Nat) (l:List FileV):Prop :=
 ∃ f,MapIs P k w m n f∧∀ key,match keyF l key with
  | none=>f key=none
  | some x=>∃ v,f key=some v∧FileVal w S x v
def LooksIn (P:Program) (k:TypeId) (w:World) (m n:Nat) (l:List Look):Prop:=MapIs P k w m n fun key=>(keyL l key).map lookVal
end Go.Proofs.Sm
namespace Go.Proofs.Sm
open Go.RowKit
theorem ltS_trans {x y z:ByteArray} (h:ltS x y=true) (h':ltS y z=true):ltS x z=true:=bl_trans h h'
theorem ltS_irrefl (x:ByteArray):ltS x x=false:=bl_irrefl _
theorem ltS_eq_l {x y z:ByteArray} (h:x.toList=y.toList):ltS x z=ltS y z:=by rw [ltS,ltS,h]
theorem ltS_eq_r {x y z:ByteArray} (h:x.toList=y.toList):ltS z x=ltS z y:=by rw [ltS,ltS,h]
def ByPath {α:Type} (key:α→ByteArray) (l:List α):Prop:=l.Pairwise fun x y=>ltS (key x) (key y)=true
theorem byPath_put {α:Type} {key:α→ByteArray} {l:List α} (h:ByPath key l) (x:α) :
 ByPath key (l.filter (fun y=>ltS (key y) (key x)) ++ [x] ++ l.filter (fun y=>ltS (key x) (key y))):=by
 unfold ByPath at h ⊢
 rw [List.append_assoc,List.pairwise_append]
 refine ⟨h.filter _,?_,fun a ha b hb=>?_⟩
 ·rw [List.singleton_append,List.pairwise_cons]
  exact ⟨fun b hb=>(List.mem_filter.1 hb).2,h.filter _⟩
 ·have h1:=(List.mem_filter.1 ha).2
  rw [List.singleton_append] at hb
  rcases List.mem_cons.1 hb with rfl | hb
  ·exact h1
  ·exact ltS_trans h1 (List.mem_filter.1 hb).2
theorem byPath_note {l:List Look} (h:ByPath Look.path l) (x:Look):ByPath Look.path (noteS l x):=by
 unfold noteS
 split
 ·exact h
 ·exact byPath_put h x
theorem note_mem {l:List Look} {x y:Look} (h:y∈noteS l x):y∈l∨y=x:=by
 unfold noteS at h
 split at h
 ·exact .inl h
 ·rcases List.mem_append.1 h with h | h
  ·rcases List.mem_append.1 h with h | h
   ·exact .inl (List.mem_filter.1 h).1
   ·exact .inr (by simpa using h)
  ·exact .inl (List.mem_filter.1 h).1
structure LooksFrom (F:List FileV) (P:ByteArray→Prop) (s:ExSt):Prop where
 sorted:ByPath Look.path s.looks
 each:∀ y∈s.looks,y=lookAtS F y.path∧P y.path
def Asks (P:ByteArray→Prop) {α:Type} (F:List FileV) (m:Ex α):Prop:=∀ s,LooksFrom F P s→LooksFrom F P (m F s).2
section
variable {α β:Type} {P:ByteArray→Prop} {F:List FileV}
theorem asks_ret (a:α):Asks P F (Ex.ret a):=fun _ h=>h
theorem Asks.bind {m:Ex α} {f:α→Ex β} (h:Asks P F m) (hf:∀ a,Asks P F (f a)):Asks P F (m.bind f):=fun s hs=>hf _ _ (h s hs)
theorem asks_own {m:Ex α} (h1:∀ s,(m F s).2.looks=s.looks):Asks P F m:=fun s hs=>⟨by rw [h1]; exact hs.sorted,by rw [h1]; exact hs.each⟩
theorem asks_find {p:ByteArray} (hp:P p):Asks P F (findE p):=fun s hs=>by
 unfold findE
 split
 ·exact hs
 ·refine ⟨byPath_note hs.sorted _,fun y hy=>?_⟩
  rcases note_mem hy with h | rfl
  ·exact hs.each y h
  ·rw [lookAt_path]; exact ⟨rfl,hp⟩
theorem asks_read {p:ByteArray} (hp:P p):Asks P F (readE p):=(asks_find hp).bind fun x=>by cases x <;> exact asks_ret _
theorem asks_write (outs:List ByteArray) (p:ByteArray) (b:List UInt8) (run:Bool):Asks P F (writeE outs p b run) :=
 asks_own fun s=>by unfold writeE; split <;> (try split) <;> rfl
theorem asks_tell (ws:List ByteArray):Asks P F (tellE ws):=asks_own fun s=>by unfold tellE; split <;> rfl
theorem asks_each {f:ByteArray→List UInt8→Nat→Ex (List UInt8 × Nat × Int)} (hf:∀ p o r,isPathS p=true→Asks P F (f p o r)):∀ l o r,Asks P F (eachE f l o r)
 | [],o,r=>asks_ret _
 | s :: rest,o,r=>by
   unfold eachE
   split
   ·rename_i p hp
    have hip:isPathS p=true:=by
     unfold incS at hp
     split at hp
     ·split at hp
      ·rename_i h1
       cases hp
       exact h1
      ·cases hp
     ·cases hp
    refine (hf _ o r hip).bind fun x=>?_
    split
    ·exact asks_each hf rest _ _
    ·exact asks_ret _
   ·split
    ·exact asks_ret _
    ·exact asks_each hf rest _ _
theorem asks_file (hP:∀ p,isPathS p=true→P p):∀ fuel inn p o r,P p→Asks P F (fileE fuel inn p o r)
 | 0,_,_,_,_,_=>asks_ret _
 | fuel + 1,inn,p,o,r,hp=>by
   unfold fileE
   split
   ·exact asks_ret _
   ·refine (asks_read hp).bind fun x=>?_
    split
    ·split
     ·exact asks_ret _
     ·exact asks_each (fun p o r hip=>asks_file hP fuel _ p o r (hP p hip)) _ _ _
    ·exact asks_ret _
theorem asks_joined:∀ l o,(∀ p∈l,P p)→Asks P F (joinedE l o)
 | [],_,_=>asks_ret _
 | p :: rest,o,h=>by
   unfold joinedE
   refine (asks_read (h p (by simp))).bind fun x=>?_
   split
   ·exact asks_joined rest _ fun q hq=>h q (by simp [hq])
   ·exact asks_ret _
theorem asks_pick:∀ l,(∀ p∈l,P p)→Asks P F (pickE l)
 | [],_=>asks_ret _
 | p :: rest,h=>by
   unfold pickE
   refine (asks_find (h p (by simp))).bind fun x=>?_
   cases x
   ·exact asks_pick rest fun q hq=>h q (by simp [hq])
   ·exact asks_ret _
end
theorem filter_counts {α:Type} (q:α→Bool):∀ l:List α,(l.filter q).length + (l.filter fun x=>!q x).length=l.length
 | []=>rfl
 | x :: l=>by
   have ih:=filter_counts q l
   rw [List.filter_cons,List.filter_cons]
   cases q x <;> simp <;> omega
end Go.Proofs.Sm
