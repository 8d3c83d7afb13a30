/- With what a build remembers in which nothing failed nothing is due for the same files: the given statement, for all arguments; no condition. -/
import Derived.Test.YtaabdbephemboaaGreatDoorBx1
import Derived.Test.YtaabdbephemboaaGreatDoorBx2
import Derived.Test.YtaabdbephemboaaGreatDoorBx3
import Derived.Test.YtaabdbephemboaaGreatDoorBx4
import Derived.Test.YtaabdbephemboaaGreatDoorBx5
import Derived.Test.YtaabdbephemboaaGreatDoorBx6
import Derived.Test.YtaabdbephemboaaGreatDoorBx7
import Derived.Test.YtaabdbephemboaaGreatDoorBx8
import Derived.Test.YtaabdbephemboaaGreatDoorBx9
import Derived.Test.YtaabdbephemboaaGreatDoorBx10
import Derived.Test.YtaabdbephemboaaGreatDoorBx11
import Derived.Test.YtaabdbephemboaaGreatDoorBx12
import Derived.Test.YtaabdbephemboaaGreatDoorBx13
import Derived.Test.YtaabdbephemboaaGreatDoorBx14
import Derived.Test.YtaabdbephemboaaGreatDoorBx15
import Derived.Test.YtaabdbephemboaaGreatDoorBx16
import Derived.Test.YtaabdbephemboaaGreatDoorBx17
import Derived.Test.YtaabdbephemboaaGreatDoorBx18
import Derived.Test.YtaabdbephemboaaGreatDoorBx19
import Derived.Test.YtaabdbephemboaaGreatDoorBx20
import Derived.Test.YtaabdbephemboaaGreatDoorBx21
import Derived.Test.YtaabdbephemboaaGreatDoorBx22
import Derived.Test.YtaabdbephemboaaGreatDoorBx23
import Derived.Test.YtaabdbephemboaaGreatDoorBx24
import Derived.Test.YtaabdbephemboaaGreatDoorBx25
import Derived.Test.YtaabdbephemboaaGreatDoorBx26
import Derived.Test.YtaabdbephemboaaGreatDoorBx27
import Derived.Test.YtaabdbephemboaaGreatDoorBx28
import Derived.Test.YtaabdbephemboaaGreatDoorBx29
import Derived.Test.YtaabdbephemboaaGreatDoorBx30
import Derived.Test.YtaabdbephemboaaGreatDoorBx31
import Derived.Test.YtaabdbephemboaaGreatDoorBx32
import Derived.Test.YtaabdbephemboaaGreatDoorBx33
import Derived.Test.YtaabdbephemboaaGreatDoorBx34
import Derived.Test.YtaabdbephemboaaGreatDoorBx35
import Derived.Test.YtaabdbephemboaaGreatDoorBx36
import Derived.Test.YtaabdbephemboaaGreatDoorCardZRC24
namespace Go.Proofs.Sm
open Go.RowKit
theorem stands_from {l:List Look} {F:List FileV} (hc:checkLooksS l=0) (hF:checkFilesS F=0) (h:l.map (fun y=>lookAtS F y.path)=l):looksOfErr l F=0∧sameLooksS l (looksOfS l F)=true:=by
 have e:looksOfErr l F=0:=by rw [looksOfErr,if_neg (by rw [hc]; simp),hF]
 refine ⟨e,sameLooksS_iff.2 ?_⟩
 rw [looksOfS,if_pos e,looksAtS,h]
theorem stands_exec {a:ActionV} {F:List FileV} (h:bothErr a F=0):looksOfErr (execS a F).looks F=0∧sameLooksS (execS a F).looks (looksOfS (execS a F).looks F)=true :=
 stands_from (exec_right h).1.right (exec_right h).2.2 (exec_right h).1.stand
end Go.Proofs.Sm
namespace Go.Proofs.Sm
open Go.RowKit
theorem findM_same (l:List MemoryV) (r:RuleV) (x:ResultV):findM (putM l (memOf r x)) r.name=some (memOf r x):=by
 rw [findM_put]; exact if_pos rfl
theorem findM_other {l:List MemoryV} {r:RuleV} {x:ResultV} {n:ByteArray} (h:¬ n.toList=r.name.toList):findM (putM l (memOf r x)) n=findM l n:=by
 rw [findM_put]; exact if_neg h
section
variable {l:List RuleV} {mem:List MemoryV} {k:Nat} {ks:List Nat} {s:BSt} {r:RuleV}
theorem execOut_cases (r:RuleV) (F:List FileV) (m:Option MemoryV):(bothErr r.action F≠0∧execOut r F m=⟨0,false,none,bothErr r.action F⟩)∨(bothErr r.action F=0∧(execS r.action F).code≠0∧execOut r F m=⟨3,false,none,0⟩) ∨
 (bothErr r.action F=0∧(execS r.action F).code=0∧execOut r F m=⟨1,m.any fun y=>sameFsS y.result.files (execS r.action F).files,some (execS r.action F),0⟩):=by
 unfold execOut
 by_cases h:bothErr r.action F=0
 ·rw [if_neg (by simpa using h)]
  by_cases h1:(execS r.action F).code=0
  ·rw [if_neg (by simpa using h1)]; exact .inr (.inr ⟨h,h1,rfl⟩)
  ·rw [if_pos h1]; exact .inr (.inl ⟨h,h1,rfl⟩)
 ·rw [if_pos h]; exact .inl ⟨h,rfl⟩
theorem outS_none {g:Graph} (h:findM mem r.name=none):outS g mem r k s=if (needAt g k).any (isOf s.bad) then ⟨4,false,none,0⟩ else execOut r (inputsS s.have_ r) none:=by
 unfold outS
 rw [h]
theorem outS_some {g:Graph} {m:MemoryV} (h:findM mem r.name=some m):outS g mem r k s=if (needAt g k).any (isOf s.bad) then ⟨4,false,none,0⟩ else if memStands r m (inputsS s.have_ r) then ⟨2,false,some m.result,0⟩ else execOut r (inputsS s.have_ r) (some m):=by
 unfold outS
 rw [h]
theorem mem_stands {F:List FileV} (h:bothErr r.action F=0):memStands r (memOf r (execS r.action F)) F=true:=by
 obtain ⟨h1,h2⟩:=stands_exec h
 unfold memStands memOf
 rw [h1,h2]
 simp
end
def NamesOff (l:List RuleV) (ks:List Nat) (n:ByteArray):Prop:=∀ k∈ks,∀ r,l[k]?=some r→¬ r.name.toList=n.toList
theorem kept_stay {l:List RuleV} {mem:List MemoryV} {n:ByteArray}:∀ {ks:List Nat} {s:BSt},NamesOff l ks n→findM (stepsS l mem ks s).2.kept n=findM s.kept n
 | [],_,_=>rfl
 | k :: ks,s,h=>by
   have h':NamesOff l ks n:=fun j hj=>h j (List.mem_cons_of_mem _ hj)
   cases hr:l[k]? with
   | none=>rw [stepsS,hr]; exact kept_stay h'
   | some r =>
     by_cases hf:(outS (needsS l) mem r k s).fault=0
     ·rw [steps_go hr hf,kept_stay h']
      unfold takeS
      cases (outS (needsS l) mem r k s).res with
      | none=>rfl
      | some x =>
        show findM (putM s.kept (memOf r x)) n=_
        exact findM_other fun e=>h k (List.mem_cons_self ..) r hr e.symm
     ·rw [steps_stop hr hf]
def againStep (t:StepV):StepV:=if t.what=1 then ⟨t.name,2,false⟩ else t
theorem steps_again {l:List RuleV} {mem:List MemoryV}:∀ {ks:List Nat} {s t:BSt},(stepsS l [] ks s).1=0 →
 (∀ k∈ks,∀ r,l[k]?=some r→findM s.kept r.name=none)→(ks.Pairwise fun i j=>∀ r q,l[i]?=some r→l[j]?=some q→¬ r.name.toList=q.name.toList) →
 (∀ k∈ks,∀ r,l[k]?=some r→findM mem r.name=findM (stepsS l [] ks s).2.kept r.name) →
 t.have_=s.have_→t.bad=s.bad→t.kept=s.kept→t.steps=s.steps.map againStep →
 (stepsS l mem ks t).1=0∧(stepsS l mem ks t).2.have_=(stepsS l [] ks s).2.have_∧(stepsS l mem ks t).2.bad=(stepsS l [] ks s).2.bad∧(stepsS l mem ks t).2.kept=(stepsS l [] ks s).2.kept∧(stepsS l mem ks t).2.steps=(stepsS l [] ks s).2.steps.map againStep
 | [],s,t,_,_,_,_,h1,h2,h3,h4=>⟨rfl,h1,h2,h3,h4⟩
 | k :: ks,s,t,h0,hno,hpw,hmem,h1,h2,h3,h4=>by
   have hpc:=List.pairwise_cons.1 hpw
   cases hr:l[k]? with
   | none =>
     have e:∀ mem s,stepsS l mem (k :: ks) s=stepsS l mem ks s:=fun mem s=>by rw [stepsS,hr]
     rw [e,e] at *
     exact steps_again h0 (fun j hj=>hno j (List.mem_cons_of_mem _ hj)) hpc.2 (fun j hj=>hmem j (List.mem_cons_of_mem _ hj)) h1 h2 h3 h4
   | some r =>
     by_cases hf:(outS (needsS l) [] r k s).fault=0
     ·rw [steps_go hr hf] at h0 hmem ⊢
      have hoff:NamesOff l ks r.name:=fun j hj q hq e=>hpc.1 j hj r q hr hq e.symm
      have hm:=hmem k (List.mem_cons_self ..) r hr
      rw [kept_stay hoff] at hm
      have hnone:findM [] r.name=none:=rfl
      have hrk:=hno k (List.mem_cons_self ..) r hr
      have hout:=outS_none (g:=needsS l) (k:=k) (s:=s) hnone
      -- what the second build does at this rule
      have hB:∃ o,outS (needsS l) mem r k t=o∧o.fault=0∧o.res=(outS (needsS l) [] r k s).res∧againStep ⟨r.name,(outS (needsS l) [] r k s).what,(outS (needsS l) [] r k s).early⟩=⟨r.name,o.what,o.early⟩:=by
       by_cases hd:(needAt (needsS l) k).any (isOf s.bad)=true
       ·rw [if_pos hd] at hout
        refine ⟨⟨4,false,none,0⟩,?_,rfl,by rw [hout],by rw [hout]; rfl⟩
        unfold outS
        rw [h2,if_pos hd]
       ·rw [if_neg hd] at hout
        rcases execOut_cases r (inputsS s.have_ r) none with ⟨hb,he⟩ | ⟨hb,hc,he⟩ | ⟨hb,hc,he⟩
        ·rw [hout,he] at hf; exact absurd hf hb
        ·rw [he] at hout
         rw [hout] at hm
         have hm':findM mem r.name=none:=hm.trans hrk
         refine ⟨⟨3,false,none,0⟩,?_,rfl,by rw [hout],by rw [hout]; rfl⟩
         rw [outS_none hm',h2,if_neg hd,h1]
         exact he
        ·rw [he] at hout
         rw [hout] at hm
         have hm':findM mem r.name=some (memOf r (execS r.action (inputsS s.have_ r))):=by
          rw [hm]
          show findM (putM s.kept (memOf r (execS r.action (inputsS s.have_ r)))) r.name=_
          exact findM_same ..
         refine ⟨⟨2,false,some (execS r.action (inputsS s.have_ r)),0⟩,?_,rfl,by rw [hout],by rw [hout]; rfl⟩
         rw [outS_some hm',h2,if_neg hd,h1,if_pos (mem_stands hb)]
         rfl
      obtain ⟨o,ho,hof,hor,host⟩:=hB
      rw [steps_go hr (by rw [ho]; exact hof),ho]
      refine steps_again h0 (fun j hj q hq=>?_) hpc.2 (fun j hj=>hmem j (List.mem_cons_of_mem _ hj)) ?_ ?_ ?_ ?_
      ·have hjn:=hno j (List.mem_cons_of_mem _ hj) q hq
       unfold takeS
       cases (outS (needsS l) [] r k s).res with
       | none=>exact hjn
       | some x =>
         show findM (putM s.kept (memOf r x)) q.name=none
         rw [findM_other fun e=>hoff j hj q hq e]
         exact hjn
      ·show o.res.elim t.have_ _=(outS (needsS l) [] r k s).res.elim s.have_ _
       rw [hor,h1]
      ·show (if o.res.isNone then t.bad.set k true else t.bad)=if (outS (needsS l) [] r k s).res.isNone then s.bad.set k true else s.bad
       rw [hor,h2]
      ·show o.res.elim t.kept _=(outS (needsS l) [] r k s).res.elim s.kept _
       rw [hor,h3]
      ·show t.steps ++ [(⟨r.name,o.what,o.early⟩:StepV)]=(s.steps ++ [(⟨r.name,(outS (needsS l) [] r k s).what,(outS (needsS l) [] r k s).early⟩:StepV)]).map againStep
       rw [List.map_append,h4,List.map_singleton,host]
     ·rw [steps_stop hr hf] at h0
      exact absurd h0 hf
end Go.Proofs.Sm
namespace Go.Proofs.Sm
open Go.RowKit
theorem order_names {l:List RuleV} {order:List Nat} (hb:ByPath RuleV.name l) (h:order.Nodup):order.Pairwise fun i j=>∀ r q,l[i]?=some r→l[j]?=some q→¬ r.name.toList=q.name.toList :=
 List.Pairwise.imp (fun hij _ _ hr hq=>by_differ hb hr hq hij) h
def KeptRight (l:List RuleV) (order:List Nat) (kept:List MemoryV):Prop :=
 ByPath MemoryV.name kept∧∀ y∈kept,∃ k r F,k∈order∧l[k]?=some r∧bothErr r.action F=0∧(execS r.action F).code=0∧y=memOf r (execS r.action F)
theorem steps_kept {l:List RuleV} {O:List Nat}:∀ {ks:List Nat} {s:BSt},(∀ k∈ks,k∈O)→KeptRight l O s.kept→KeptRight l O (stepsS l [] ks s).2.kept
 | [],_,_,h=>h
 | k :: ks,s,hO,h=>by
   cases hr:l[k]? with
   | none=>rw [stepsS,hr]; exact steps_kept (fun j hj=>hO j (List.mem_cons_of_mem _ hj)) h
   | some r =>
     by_cases hf:(outS (needsS l) [] r k s).fault=0
     ·rw [steps_go hr hf]
      refine steps_kept (fun j hj=>hO j (List.mem_cons_of_mem _ hj)) ?_
      have hout:=outS_none (g:=needsS l) (mem:=[]) (r:=r) (k:=k) (s:=s) rfl
      unfold takeS
      by_cases hd:(needAt (needsS l) k).any (isOf s.bad)=true
      ·rw [if_pos hd] at hout
       rw [hout]; exact h
      ·rw [if_neg hd] at hout
       rcases execOut_cases r (inputsS s.have_ r) none with ⟨hb,he⟩ | ⟨hb,hc,he⟩ | ⟨hb,hc,he⟩
       ·rw [hout,he]; exact h
       ·rw [hout,he]; exact h
       ·rw [hout,he]
        refine ⟨byPath_put (key:=MemoryV.name) h.1 _,fun y hy=>?_⟩
        rcases put_mem_by hy with hy | rfl
        ·exact h.2 y hy
        ·exact ⟨k,r,_,hO k (List.mem_cons_self ..),hr,hb,hc,rfl⟩
     ·rw [steps_stop hr hf]; exact h
theorem memOf_right {l:List RuleV} (hl:RulesOk l) {k:Nat} {r:RuleV} {F:List FileV} (hr:l[k]?=some r) (hb:bothErr r.action F=0) (hc:(execS r.action F).code=0):checkMemS (memOf r (execS r.action F))=0:=by
 obtain ⟨h1,h2,_⟩:=exec_right hb
 have hp:=(checkRule_parts (hl.at hr)).1
 have hd:=digest_right (actTextL r.action)
 unfold checkMemS memOf
 simp only
 rw [hp,hd,h1.right,h2.right,hc,sameLooksS_iff.2 rfl]
 rfl
theorem buildErr_ok {l:List RuleV} {files:List FileV} {wanted:List ByteArray} {m:List MemoryV} {order:List Nat} (h1:buildErr0 l files wanted m=0) (h2:(runB l files m order).1=0) (h3:endErr l wanted (runB l files m order).2=0):buildErr l files wanted m order=0:=by
 rw [buildErr,if_neg (by rw [h1]; simp),if_neg (by rw [h2]; simp),h3]
theorem runB_nil (l:List RuleV) (files:List FileV) (order:List Nat):runB l files [] order=stepsS l [] order ⟨files,List.replicate l.length false,[],[]⟩:=rfl
theorem fresh_memory {l:List RuleV} {files:List FileV} {wanted:List ByteArray} {order:List Nat} (h:buildErr l files wanted [] order=0) :
 checkMemoryS (runB l files [] order).2.kept=0∧servesS l (runB l files [] order).2.kept=(runB l files [] order).2.kept∧startB l files (runB l files [] order).2.kept order=⟨files,List.replicate l.length false,[],[]⟩:=by
 obtain ⟨h1,_,h3⟩:=buildErr_parts h
 obtain ⟨hl,hb⟩:=rules_parts_by (planErr_rules (buildErr0_parts h1).1)
 have hk:KeptRight l order (runB l files [] order).2.kept:=by
  rw [runB_nil]
  exact steps_kept (fun k hk=>hk) ⟨List.Pairwise.nil,fun y hy=>absurd hy (List.not_mem_nil)⟩
 refine ⟨memory_fine (endErr_few h3).2 hk.1 fun y hy=>?_,?_,?_⟩
 ·obtain ⟨k,r,F,_,hr,hbo,hc,rfl⟩:=hk.2 y hy
  exact memOf_right hl hr hbo hc
 ·unfold servesS
  rw [List.filter_eq_self]
  intro y hy
  obtain ⟨k,r,F,_,hr,hbo,hc,rfl⟩:=hk.2 y hy
  have hi:idxName l (memOf r (execS r.action F)).name=some k:=idxName_own hb hr rfl
  unfold servesP
  rw [hi]
  simp only [hr,Option.any_some]
  exact decide_eq_true ((exec_right hbo).2.1.good hc)
 ·unfold startB
  congr 1
  rw [List.filter_eq_nil_iff]
  intro y hy
  obtain ⟨k,r,F,hko,hr,hbo,hc,rfl⟩:=hk.2 y hy
  have:(order.any fun k=>(nameAt l k).toList == (memOf r (execS r.action F)).name.toList)=true:=List.any_eq_true.2 ⟨k,hko,by rw [nameAt_of hr]; simp [memOf]⟩
  rw [this]; decide
theorem nothing_due {l:List RuleV} {files:List FileV} {wanted:List ByteArray} {order:List Nat} (hp:PlanIs l wanted order) (h:buildErr l files wanted [] order=0) :
 buildErr l files wanted (runB l files [] order).2.kept order=0∧(runB l files (runB l files [] order).2.kept order).2.steps=(runB l files [] order).2.steps.map againStep:=by
 obtain ⟨h1,h2,h3⟩:=buildErr_parts h
 obtain ⟨g1,g2,g3,g4⟩:=buildErr0_parts h1
 obtain ⟨hl,hb⟩:=rules_parts_by (planErr_rules g1)
 obtain ⟨m1,m2,m3⟩:=fresh_memory h
 have key:=steps_again (l:=l) (mem:=(runB l files [] order).2.kept) (ks:=order) (s:=⟨files,List.replicate l.length false,[],[]⟩) (t:=⟨files,List.replicate l.length false,[],[]⟩) h2 (fun k hk r hr=>rfl) (order_names hb (plan_parts hp).1) (fun k hk r hr=>rfl) rfl rfl rfl rfl
 have e:runB l files (runB l files [] order).2.kept order=stepsS l (runB l files [] order).2.kept order ⟨files,List.replicate l.length false,[],[]⟩:=by
  rw [runB,m2,m3]
 obtain ⟨k1,k2,k3,k4,k5⟩:=key
 refine ⟨buildErr_ok ?_ (by rw [e]; exact k1) ?_,by rw [e]; exact k5⟩
 ·rw [buildErr0,if_neg (by rw [g1]; simp),if_neg (by rw [g2]; simp),if_neg (by rw [m1]; simp),g4]; rfl
 ·rw [e]
  unfold endErr filesB at h3 ⊢
  have e2:takeB l (stepsS l (runB l files [] order).2.kept order ⟨files,List.replicate l.length false,[],[]⟩).2=takeB l (runB l files [] order).2:=by
   funext acc n
   unfold takeB
   rw [k3,k4]
   rfl
  rw [e2,k4]
  exact h3
end Go.Proofs.Sm
namespace Go.Proofs.Sm
open Go.RowKit
def dueS (steps:List StepV):List ByteArray:=(steps.filter fun t=>t.what == 1 || t.what == 3).map StepV.name
end Go.Proofs.Sm
namespace Go.Proofs.Sm
open Go.RowKit
section
variable {l:List RuleV} {F before files:List FileV} {ws other:List ByteArray} {ms:List MemoryV} {f g:Int} {a b x y:BuiltV}
theorem BuildIs.empty (h:BuildIs l F ws ms f b) (h0:f≠0):b=⟨[],[],[]⟩:=h.1 h0
theorem BuildIs.good (h:BuildIs l F ws ms 0 b):∃ order,PlanIs l ws order∧buildErr l F ws ms order=0∧b=builtOf l ws (runB l F ms order).2:=by
 have h0:buildErr0 l F ws ms=0:=Decidable.byContradiction fun e=>e (h.2.1 e).symm
 obtain ⟨order,h1,h2,h3⟩:=h.2.2 h0
 exact ⟨order,h1,h2.symm,h3 rfl⟩
def failsS (steps:List StepV):List StepV:=steps.filter fun t=>t.what == 3
theorem due_again (steps:List StepV):(dueS (steps.map againStep)).length=(failsS steps).length:=by
 unfold dueS failsS
 rw [List.length_map]
 induction steps with
 | nil=>rfl
 | cons t steps ih =>
   rw [List.map_cons,List.filter_cons,List.filter_cons]
   by_cases h1:t.what=1
   ·have e:(againStep t).what=2:=by unfold againStep; rw [if_pos h1]
    rw [e,h1]
    simpa using ih
   ·have e:(againStep t).what=t.what:=by unfold againStep; rw [if_neg h1]
    rw [e]
    by_cases h3:t.what=3
    ·rw [h3]
     simpa using ih
    ·have e1:(t.what == 1)=false:=by simpa using h1
     have e3:(t.what == 3)=false:=by simpa using h3
     rw [e1,e3]
     simpa using ih
theorem built_nothing (h1:BuildIs l F ws [] 0 x) (h2:BuildIs l F ws x.memory g y):g=0∧(dueS y.steps).length=(failsS x.steps).length:=by
 obtain ⟨order,hp,hb,rfl⟩:=h1.good
 obtain ⟨e1,e2⟩:=h2.atPlan hp
 obtain ⟨n1,n2⟩:=nothing_due hp hb
 have e0:g=0:=e1.trans n1
 refine ⟨e0,?_⟩
 rw [e2 e0]
 show (dueS (runB l F (runB l F [] order).2.kept order).2.steps).length=_
 rw [n2]
 exact due_again _
end
end Go.Proofs.Sm
namespace Go.Proofs.Sm
open Go.RowKit Go.Maps
section
variable (A B C D:Option Addr) (n c m d nw cw nd cd:Nat) (l:List RuleV) (F:List FileV) (ws:List ByteArray) (ms:List MemoryV) (w:World)
set_option maxHeartbeats 0 in
set_option maxRecDepth 100000 in
theorem steps_Fresh (hE:Env2 w) (hsl:Sl w (Lt w.heap.size) A n l) (hF:Sl w (Lt w.heap.size) B m F) (hws:Sl w (Lt w.heap.size) C nw ws) :
 Calls Tryz.prog 9 #[.slice A n c,.slice B m d,.slice C nw cw] w (BuildPost l F ws [] w):=by
 have hbx:=fr_alloc (fr_refl w) (.cells #[.slice none 0 0,.slice none 0 0,.slice none 0 0] 28)
 have hR0:Arr (w.alloc (.cells #[.slice none 0 0,.slice none 0 0,.slice none 0 0] 28)) w.heap.size 28 [.slice none 0 0,.slice none 0 0,.slice none 0 0]:=heap_alloc_new w _
 have HB:=Lib.hid (steps_build A B C none n c m d nw cw 0 0 l F ws [] _ (hE.then_ hbx) (sl_call hsl hbx (Nat.le_refl _)) (sl_call hF hbx (Nat.le_refl _)) (sl_call hws hbx (Nat.le_refl _)) Sl.nil)
 go_enter Tryz.func9,Tryz.ntmps9
 go_wp2_with fail
 refine HB.out.mono ?_
 rintro e w1 ⟨A1,n1,c1,A2,n2,c2,A3,n3,c3,f,b,rfl,hi,s1,s2,s3,h1,h2,h3,hb1⟩
 have hR:=hR0.call hb1
 have HX:=Lib.hid (show BuildPost l F ws [] w _ w1 from ⟨A1,n1,c1,A2,n2,c2,A3,n3,c3,f,b,rfl,hi,s1,s2,s3,h1,h2,h3,fr_call hbx hb1⟩)
 clear hi s1 s2 s3 h1 h2 h3 hR0 HB
 have e0:=hR.cell (i:=0) rfl
 have e1:=hR.cell (i:=1) rfl
 have e2:=hR.cell (i:=2) rfl
 have i0:=hR.frozen 0
 have i1:=hR.frozen 1
 have i2:=hR.frozen 2
 have hl4:=hR.lt
 go_wp2
 generalize hWE:World.setCell (World.setCell (World.setCell w1 _ _) _ _) _ _=WE
 have hE5:Arr WE w.heap.size 28 [(.slice A1 n1 c1),(.slice A2 n2 c2),(.slice A3 n3 c3)]:=by
  rw [←hWE]; exact ((hR.set 0 _).set 1 _).set 2 _
 have hkE:Kp (fun j=>j=w.heap.size) w1 WE:=by
  rw [←hWE]
  exact Kp.set (p:=⟨w.heap.size,2,none⟩) (Kp.set (p:=⟨w.heap.size,1,none⟩) (Kp.set (p:=⟨w.heap.size,0,none⟩) (Kp.refl (fun j=>j=w.heap.size) w1) rfl _) rfl _) rfl _
 clear hWE e0 e1 e2 i0 i1 i2
 have y0:=hE5.cell (i:=0) rfl
 have y1:=hE5.cell (i:=1) rfl
 have y2:=hE5.cell (i:=2) rfl
 exact bodyPost_ret (v:=.tuple #[.agg #[(.slice A1 n1 c1),(.slice A2 n2 c2),(.slice A3 n3 c3)],.int .i64 f]) (by simp [results,Tryz.results9,go_sem,y0,y1,y2]) rfl (HX.out.shut hR hkE (Nat.le_refl _))
end
end Go.Proofs.Sm
namespace Go.Proofs.Sm
open Go.RowKit Go.Maps
def DuePost (l:List RuleV) (F:List FileV) (ws:List ByteArray) (ms:List MemoryV) (W:World) (e:Ending) (w':World):Prop :=
 ∃ A n c f b,e=.returned (.tuple #[.slice A n c,.int .i64 f])∧BuildIs l F ws ms f b∧Sl w' (Lt w'.heap.size) A n (dueS b.steps)∧Below W.heap.size W w'
theorem due_more {l:List StepV} {k:Nat} {x:StepV} (hx:l[k]?=some x):dueS (l.take (k + 1))=if x.what == 1 || x.what == 3 then dueS (l.take k) ++ [x.name] else dueS (l.take k):=by
 unfold dueS
 rw [List.take_add_one,hx,List.filter_append,List.map_append]
 by_cases h:(x.what == 1 || x.what == 3)=true
 ·rw [if_pos h]
  simp [h]
 ·rw [if_neg h]
  simp [h]
theorem due_le (l:List StepV):(dueS l).length≤l.length:=by
 unfold dueS
 rw [List.length_map]; exact List.length_filter_le _ _
theorem str_ones7 (s:ByteArray):∀ u∈[Value.string s],u.oneCell'=true:=fun u hu=>by
 simp only [List.mem_cons,List.mem_nil_iff,or_false] at hu
 subst hu; rfl
set_option maxHeartbeats 0 in
set_option maxRecDepth 100000 in
theorem steps_Due (A B C D:Option Addr) (n c m d nw cw nd cd:Nat) (l:List RuleV) (F:List FileV) (ws:List ByteArray) (ms:List MemoryV) (w:World) (hE:Env2 w) (hsl:Sl w (Lt w.heap.size) A n l) (hF:Sl w (Lt w.heap.size) B m F) (hws:Sl w (Lt w.heap.size) C nw ws) (hms:Sl w (Lt w.heap.size) D nd ms) :
 Calls Tryz.prog 17 #[.slice A n c,.slice B m d,.slice C nw cw,.slice D nd cd] w (DuePost l F ws ms w):=by
 have HB:=Lib.hid (steps_build A B C D n c m d nw cw nd cd l F ws ms w hE hsl hF hws hms)
 obtain ⟨i0,hi0,hz0,hz1,hz2⟩:=info_parts str_info
 clear hsl hF hws hms
 go_enter Tryz.func17,Tryz.ntmps17
 go_wp2_with fail
 refine HB.out.mono ?_
 rintro e w1 ⟨A1,n1,c1,A2,n2,c2,A3,n3,c3,f,b,rfl,hbu,hs1,_,_,_,_,hst,hb1⟩
 have HBu:=Lib.hid hbu
 have hbx:=fr_alloc hb1 (.cells #[.slice A1 n1 c1,.slice A2 n2 c2,.slice A3 n3 c3] 28)
 have hs:=sl_call hs1 (fr_alloc (fr_refl w1) (.cells #[.slice A1 n1 c1,.slice A2 n2 c2,.slice A3 n3 c3] 28)) (Nat.le_refl _)
 have hn9:n1≤1000:=by rw [←hs1.1]; exact hst
 have hn9I:n1≤9223372036854775807:=by omega
 have HL:=Lib.hid hs.1
 clear hbu hs1 hst
 go_wp2
 generalize w1.alloc (.cells #[.slice A1 n1 c1,.slice A2 n2 c2,.slice A3 n3 c3] 28)=W at *
 have HBW:=Lib.hid hbx
 go_loopw [12,26] (fun v i wr=>∃ k:Nat,k≤n1∧i=.int .i64 k∧RowK wr W.heap.size 9 (fun _=>False) v (dueS (b.steps.take k))∧Below W.heap.size W wr) (fun _ i _=>n1 - (intOf i).toNat)
 case atStart=>exact ⟨0,Nat.zero_le _,rfl,RowK.nil,Below.refl _ _⟩
 case round =>
  obtain ⟨k,hk,rfl,hrow,hbel⟩:=hrel
  by_cases hlt:k < n1
  ·have hkI:(k:Int) < (n1:Int):=by omega
   obtain ⟨g1,o1,x,rfl,hg1,hx,hxn,_,d0,d1,d2⟩:=(hs.keep (keep_lt hbel)).step hlt
   have HT:=Lib.hid (due_more hx)
   have hlen:(dueS (b.steps.take k)).length≤k:=Nat.le_trans (due_le _) (by rw [List.length_take]; omega)
   have hbx1:=fr_alloc hbel (.cells #[.string x.name,.int .i64 x.what,.bool x.early] 46)
   have HRC:=Lib.hid (hrow.call (fr_alloc (fr_refl wr) (.cells #[.string x.name,.int .i64 x.what,.bool x.early] 46)))
   clear hx hrow
   generalize dueS (b.steps.take k)=OL at *
   cases h1:(x.what == 1)
   ·cases h3:(x.what == 3)
    ·have HS:=Lib.hid (show dueS (b.steps.take (k + 1))=OL by rw [HT.out]; simp [h1,h3])
     clear HT
     go_wp2
     go_roundw
     case rel=>exact ⟨k + 1,by omega,by go_num,by rw [HS.out]; exact HRC.out,hbx1⟩
     case measure=>simp [intOf]; omega
    ·have HS:=Lib.hid (show dueS (b.steps.take (k + 1))=OL ++ [x.name] by rw [HT.out]; simp [h3])
     have hnew:∀ (j:Nat) v,([.string x.name]:List Value)[j]?=some v→((wr.alloc (.cells #[.string x.name,.int .i64 x.what,.bool x.early] 46)).alloc (.cells #[.string x.name] 9)).cell? ((⟨wr.heap.size + 1,0,none⟩:Addr).add j)=some v:=by
      have:=new_cells (wr.alloc (.cells #[.string x.name,.int .i64 x.what,.bool x.early] 46)) #[.string x.name] 9
      rwa [World.size_alloc] at this
     have HNw:=Lib.hid hnew
     have hbxx:=fr_alloc hbx1 (.cells #[.string x.name] 9)
     obtain ⟨_,rows,hrows,hown,hrep⟩:=(HRC.out).call (fr_alloc (fr_refl (wr.alloc (.cells #[.string x.name,.int .i64 x.what,.bool x.early] 46))) (.cells #[.string x.name] 9))
     have HP:=Lib.hid hrep
     have HOw:=Lib.hid hown
     have HKk:=Lib.hid (fun j hj=>(HRC.out.kind j hj).1)
     clear hnew hown hrep HT
     go_wp2_with (at_builtin; refine wpList_append_lies _ rfl _ _ 24 rfl W.heap.size 9 i0 _ 1 16 Tryz.underlying24 hi0 hz0 hz1 hz2 rfl (by decide) _ OL.length _ rfl HOw.out ⟨wr.heap.size + 1,0,none⟩ 1 1 [.string x.name] rfl rfl HNw.out (str_ones7 x.name) (by decide) (by unfold maxLen; omega) (by omega) hbxx.size _ rfl ?_)
     intro g' cap w9 hown' hgrow hat hlt'
     have hr9:=RowK.append (x:=x.name) (r:=[.string x.name]) (l:=OL) (fun k hh=>hh.elim) hrows HP.out ⟨rfl,hxn⟩ (fun _ _ hh=>hh) hgrow hown'
     have hb9:=hbxx.grown hgrow hbxx.size HKk.out
     have HR9:=Lib.hid hr9
     clear hown' hgrow hat hr9
     go_wp2
     go_roundw
     case rel=>exact ⟨k + 1,by omega,by go_num,by rw [HS.out]; exact HR9.out,hb9⟩
     case measure=>simp [intOf]; omega
   ·have HS:=Lib.hid (show dueS (b.steps.take (k + 1))=OL ++ [x.name] by rw [HT.out]; simp [h1])
    have hnew:∀ (j:Nat) v,([.string x.name]:List Value)[j]?=some v→((wr.alloc (.cells #[.string x.name,.int .i64 x.what,.bool x.early] 46)).alloc (.cells #[.string x.name] 9)).cell? ((⟨wr.heap.size + 1,0,none⟩:Addr).add j)=some v:=by
     have:=new_cells (wr.alloc (.cells #[.string x.name,.int .i64 x.what,.bool x.early] 46)) #[.string x.name] 9
     rwa [World.size_alloc] at this
    have HNw:=Lib.hid hnew
    have hbxx:=fr_alloc hbx1 (.cells #[.string x.name] 9)
    obtain ⟨_,rows,hrows,hown,hrep⟩:=(HRC.out).call (fr_alloc (fr_refl (wr.alloc (.cells #[.string x.name,.int .i64 x.what,.bool x.early] 46))) (.cells #[.string x.name] 9))
    have HP:=Lib.hid hrep
    have HOw:=Lib.hid hown
    have HKk:=Lib.hid (fun j hj=>(HRC.out.kind j hj).1)
    clear hnew hown hrep HT
    go_wp2_with (at_builtin; refine wpList_append_lies _ rfl _ _ 24 rfl W.heap.size 9 i0 _ 1 16 Tryz.underlying24 hi0 hz0 hz1 hz2 rfl (by decide) _ OL.length _ rfl HOw.out ⟨wr.heap.size + 1,0,none⟩ 1 1 [.string x.name] rfl rfl HNw.out (str_ones7 x.name) (by decide) (by unfold maxLen; omega) (by omega) hbxx.size _ rfl ?_)
    intro g' cap w9 hown' hgrow hat hlt'
    have hr9:=RowK.append (x:=x.name) (r:=[.string x.name]) (l:=OL) (fun k hh=>hh.elim) hrows HP.out ⟨rfl,hxn⟩ (fun _ _ hh=>hh) hgrow hown'
    have hb9:=hbxx.grown hgrow hbxx.size HKk.out
    have HR9:=Lib.hid hr9
    clear hown' hgrow hat hr9
    go_wp2
    go_roundw
    case rel=>exact ⟨k + 1,by omega,by go_num,by rw [HS.out]; exact HR9.out,hb9⟩
    case measure=>simp [intOf]; omega
  ·obtain rfl:k=n1:=by omega
   rw [List.take_of_length_le (by rw [HL.out]; exact Nat.le_refl _)] at hrow
   obtain ⟨A8,c8,rfl,h81,h82,s8⟩:=hrow.sl
   have H8:=Lib.hid s8
   clear hrow s8
   go_wp2
   go_ret2
   exact ⟨A8,_,c8,f,b,rfl,HBu.out,H8.out,fr_call HBW.out hbel⟩
end Go.Proofs.Sm
namespace Go.Proofs.Sm
open Go.RowKit
theorem fails_more {l:List StepV} {k:Nat} {x:StepV} (hx:l[k]?=some x):(failsS (l.take (k + 1))).length=(failsS (l.take k)).length + if x.what == 3 then 1 else 0:=by
 unfold failsS
 rw [List.take_add_one,hx,List.filter_append,List.length_append]
 cases h:(x.what == 3) <;> simp [h]
set_option maxHeartbeats 0 in
set_option maxRecDepth 100000 in
theorem law_nothing (A B C:Option Addr) (n c m d nw cw:Nat) (l:List RuleV) (F:List FileV) (ws:List ByteArray) (w:World) (hE:Env2 w) (hsl:Sl w (Lt w.heap.size) A n l) (hF:Sl w (Lt w.heap.size) B m F) (hws:Sl w (Lt w.heap.size) C nw ws) :
 Calls Tryz.prog 4 #[.slice A n c,.slice B m d,.slice C nw cw] w fun e w'=>e=.returned (.bool true)∧Below w.heap.size w w':=by
 have HB:=Lib.hid (steps_Fresh A B C n c m d nw cw l F ws w hE hsl hF hws)
 have HD:=Lib.hid (fun (w1:World) (hb:Below w.heap.size w w1) (A3:Option Addr) (n3 c3:Nat) (ms:List MemoryV) (h3:Sl w1 (Lt w1.heap.size) A3 n3 ms)=>steps_Due A B C A3 n c m d nw cw n3 c3 l F ws ms w1 (hE.then_ hb) (sl_call hsl hb (Nat.le_refl _)) (sl_call hF hb (Nat.le_refl _)) (sl_call hws hb (Nat.le_refl _)) h3)
 clear hsl hF hws
 go_enter Tryz.func4,Tryz.ntmps4
 go_wp2_with fail
 refine HB.out.mono ?_
 rintro e w1 ⟨A1,n1,c1,A2,n2,c2,A3,n3,c3,f,b,rfl,hbu,s1,_,s3,_,_,_,hb1⟩
 have hbx:=fr_alloc hb1 (.cells #[.slice A1 n1 c1,.slice A2 n2 c2,.slice A3 n3 c3] 28)
 have hbx1:=fr_alloc (fr_refl w1) (.cells #[.slice A1 n1 c1,.slice A2 n2 c2,.slice A3 n3 c3] 28)
 have hA:Arr (w1.alloc (.cells #[.slice A1 n1 c1,.slice A2 n2 c2,.slice A3 n3 c3] 28)) w1.heap.size 28 [.slice A1 n1 c1,.slice A2 n2 c2,.slice A3 n3 c3]:=heap_alloc_new w1 _
 have HS3:=Lib.hid (sl_call s3 hbx1 (Nat.le_refl _))
 have HBu:=Lib.hid hbu
 have HS1:=Lib.hid (fun w' (hb:Below (w1.alloc (.cells #[.slice A1 n1 c1,.slice A2 n2 c2,.slice A3 n3 c3] 28)).heap.size (w1.alloc (.cells #[.slice A1 n1 c1,.slice A2 n2 c2,.slice A3 n3 c3] 28)) w')=>sl_call s1 (fr_call hbx1 hb) (Nat.le_refl _))
 clear s1 s3
 by_cases hf:f=0
 ·subst hf
  clear hbu
  go_wp2_with fail
  refine (HD.out _ hbx A3 n3 c3 b.memory HS3.out).mono ?_
  rintro e w2 ⟨A4,n4,c4,g,y,rfl,hbu2,s4,hb2⟩
  obtain ⟨rfl,hlen⟩:=built_nothing HBu.out hbu2
  have HN:=Lib.hid (show n4=(failsS b.steps).length from s4.1.symm.trans hlen)
  have hs:=HS1.out w2 hb2
  have hn9:n1≤9223372036854775807:=hs.2.1
  have HL:=Lib.hid hs.1
  have hA2:=hA.call hb2
  have e0:=hA2.cell (i:=0) rfl
  have hgl:=hA2.lt
  have hb02:=fr_call hbx hb2
  have HSx:=Lib.hid hs
  clear hA hA2 hbu2 s4 hlen hs
  go_wp2
  go_loop [10,11] (fun v i=>∃ k:Nat,k≤n1∧i=.int .i64 k∧v=.int .i64 ((failsS (b.steps.take k)).length:Nat)) (fun _ i=>n1 - (intOf i).toNat)
  case atStart=>exact ⟨0,Nat.zero_le _,rfl,rfl⟩
  case round =>
   obtain ⟨k,hk,rfl,rfl⟩:=hrel
   have hle:(failsS (b.steps.take k)).length≤k:=Nat.le_trans (List.length_filter_le _ _) (by rw [List.length_take]; omega)
   by_cases hlt:k < n1
   ·obtain ⟨g1,o1,x,rfl,hg1,hx,_,_,d0,d1,d2⟩:=HSx.out.step hlt
    have hkI:(k:Int) < (n1:Int):=by omega
    have hlI:((failsS (b.steps.take k)).length:Int)≤(k:Int):=by omega
    have HM:=Lib.hid (fails_more hx)
    clear hx
    cases hq:(x.what == 3)
    ·have HT:=Lib.hid (show (failsS (b.steps.take (k + 1))).length=(failsS (b.steps.take k)).length by rw [HM.out,hq]; rfl)
     go_wp2
     go_round
     case rel=>exact ⟨k + 1,by omega,by go_num,by rw [HT.out]⟩
     case measure=>simp [intOf]; omega
    ·have HT:=Lib.hid (show (failsS (b.steps.take (k + 1))).length=(failsS (b.steps.take k)).length + 1 by rw [HM.out,hq]; rfl)
     go_wp2
     go_round
     case rel=>exact ⟨k + 1,by omega,by go_num,by rw [HT.out]; go_num⟩
     case measure=>simp [intOf]; omega
   ·obtain rfl:k=n1:=by omega
    rw [List.take_of_length_le (by rw [HL.out]; exact Nat.le_refl _)]
    have hnn:=HN.out
    generalize (failsS b.steps).length=z at *
    subst hnn
    go_wp2_with fail
    refine (law6_awake _ (hE.then_ hb02).toEnv).mono ?_
    rintro e wz ⟨rfl,hbz⟩
    go_wp2
    go_ret
    exact ⟨rfl,fr_call hb02 hbz⟩
 ·have hfz:(f == 0)=false:=by simpa using hf
  have hem:=(HBu.out).empty hf
  obtain rfl:n3=0:=by have:=HS3.out.1; rw [hem] at this; exact this.symm
  clear hem hf HBu
  go_wp2_with fail
  refine (law6_awake _ (hE.then_ hbx).toEnv).mono ?_
  rintro e wz ⟨rfl,hbz⟩
  go_wp2
  go_ret
  exact ⟨rfl,fr_call hbx hbz⟩
end Go.Proofs.Sm
namespace Go.Proofs.YtaabdbephemboaaGreatDoor.nothing
open Go.ChangeShapes Go.WideShapes Go.ChangeAt Go.RowKit Go.Proofs.Sm
noncomputable def laidWorld (os:Os):World:=errWorld (tableWorld os [(2,Rows.laid_unicode_utf8_first),(3,Rows.laid_unicode_utf8_acceptRanges),(1,Rows.laid_internal_strconv_uint64pow10),(6,Rows.laid_math_bits_deBruijn32tab),(7,Rows.laid_math_bits_deBruijn64tab)])
 322 324 [(5,[118,97,108,117,101,32,111,117,116,32,111,102,32,114,97,110,103,101]),(4,[105,110,118,97,108,105,100,32,115,121,110,116,97,120])]
theorem laid_met (os:Os) (args:Array Value):laidMet Tryz.prog Rows.stepsNothingDueRow.laid ((laidWorld os).forCall (fun _ _=>0) ⟨#[],args,[]⟩).memory :=
 (LaidIn.of_run (l:=Rows.stepsNothingDueRow.laid) (List.range 30) 8 (by kernel_rfl) (by kernel_rfl) (by kernel_rfl) (by kernel_rfl)).met
theorem reads (os:Os) {H:Type} (enc:TypeId × Value→H):∃ ds places,DataW.whole enc Tryz.prog ((laidWorld os).forCall (fun _ _=>0) ⟨#[],#[.slice none 0 0,.slice none 0 0,.slice none 0 0],[]⟩).memory Tryz.f4.params.toList Rows.stepsNothingDueSpec.vars false #[Value.slice none 0 0,Value.slice none 0 0,Value.slice none 0 0].toList 8=some (ds,[],places) :=
 ⟨[.nil,.nil,.nil],[],by kernel_rfl⟩
set_option maxRecDepth 100000 in
theorem contract (H:Type) (enc:TypeId × Value→H) (W:World) (base:Nat) (args:Array Value) (ds gs:List (DataW H)) (before:List MemPlace)
 (hval:∀ (j:Nat) t v,Tryz.f4.params[j]?=some t→args[j]?=some v→Value.okWide Tryz.prog W .any base t v)
 (hW:DataW.Whole enc Tryz.prog Tryz.f4.params.toList Rows.stepsNothingDueSpec.vars false W args.toList ds gs before) (hE:Env2 W) :
 Calls Tryz.prog 4 args W fun e W'=>∃ v,e=.returned v∧Rows.stepsNothingDueSpec.post enc Tryz.prog Tryz.f4 false true false false W args v W':=by
 have hW':=hW
 obtain ⟨p,q,hA0,hV,rfl,hfz,hnd⟩:=hW
 have hA:DataW.TrodAll enc Tryz.prog W 0 (fun _=>true) true Tryz.f4.params.toList args.toList ds p:=hA0
 rw [Tryz.params4] at hA hval
 obtain ⟨v0,vs0,d0,ds0,p0,q0,hargs,rfl,rfl,h0,r0⟩:=trodAll_cons hA
 obtain ⟨v1,vs1,d1,ds1,p1,q1,rfl,rfl,rfl,h1,r1⟩:=trodAll_cons r0
 obtain ⟨v2,vs2,d2,ds2,p2,q2,rfl,rfl,rfl,h2,r2⟩:=trodAll_cons r1
 obtain ⟨rfl,rfl,rfl⟩:=trodAll_nil r2
 obtain rfl:args=#[v0,v1,v2]:=by cases args; simp_all
 obtain ⟨rfl,rfl⟩:=trodVars_none hV
 have k0:=h0
 have lt0:∀ x∈p0,x.block < W.heap.size:=by obtain ⟨m,hm⟩:=k0; exact DataW.trod_lt m _ _ _ hm
 have k1:=h1
 have lt1:∀ x∈p1,x.block < W.heap.size:=by obtain ⟨m,hm⟩:=k1; exact DataW.trod_lt m _ _ _ hm
 have k2:=h2
 have lt2:∀ x∈p2,x.block < W.heap.size:=by obtain ⟨m,hm⟩:=k2; exact DataW.trod_lt m _ _ _ hm
 obtain ⟨A0,n0,c0,l0,rfl,hs0⟩:=arg_slice dec_rules (okWide_slice Tryz.underlying22 (hval 0 22 v0 rfl rfl)) h0
 obtain ⟨A1,n1,c1,l1,rfl,hs1⟩:=arg_slice dec_files (okWide_slice Tryz.underlying23 (hval 1 23 v1 rfl rfl)) h1
 obtain ⟨A2,n2,c2,l2,rfl,hs2⟩:=arg_slice dec_strs (okWide_slice Tryz.underlying24 (hval 2 24 v2 rfl rfl)) h2
 clear hA0
 refine (law_nothing A0 A1 A2 n0 c0 n1 c1 n2 c2 l0 l1 l2 W hE hs0 hs1 hs2).mono fun e W' ⟨he,bel⟩=>?_
 subst he
 exact ⟨_,rfl,_,_,_,[],_,[],hW',trodAll_mk1 (shut_bool Tryz.underlying4 _),(trodAll_cons_mk (Below.trod laidOut (by kernel_rfl) (of_decide_eq_true (by kernel_rfl)) k0 bel lt0) (trodAll_cons_mk (Below.trod laidOut (by kernel_rfl) (of_decide_eq_true (by kernel_rfl)) k1 bel lt1) (trodAll_cons_mk (Below.trod laidOut (by kernel_rfl) (of_decide_eq_true (by kernel_rfl)) k2 bel lt2) trodAll_mk0))),rfl,bel.frame _,fun h=>by cases h⟩
set_option maxRecDepth 100000 in
theorem lifted (os:Os) (started:os.Started) (H:Type) (enc:TypeId × Value→H) (F:Stop.Interp) :
 ReturnsInHanded {} Tryz.checked os 4 .any ((OpenSpec.ofChange Rows.stepsNothingDueSpec).preRow enc Tryz.prog Tryz.f4 Rows.stepsNothingDueRow.domain false Rows.stepsNothingDueRow.laid) (((OpenSpec.ofChange Rows.stepsNothingDueSpec).at F).post enc Tryz.prog Tryz.f4 false true false false):=by
 obtain ⟨d,places,hx⟩:=reads os enc
 refine returnsInHanded_of_row (C:=Tryz.checked) (s:=OpenSpec.ofChange Rows.stepsNothingDueSpec) own started (by kernel_rfl) Tryz.func4
  (witness_row_atRef (enc:=enc) (C:=Tryz.checked) false (laidWorld os) #[.slice none 0 0,.slice none 0 0,.slice none 0 0] rfl (by kernel_rfl) (by kernel_rfl) (by kernel_rfl)
    (OpenSpec.preRow_of_cond 8 hx (by kernel_rfl) (fun k hk=>by cases hk) (by kernel_rfl) (laid_met os _))) ?_
 intro W base args ds gs before hval hW _ _ _ hL hS _
 exact contract H enc W base args ds gs before hval hW (env2_of hL hS (by simp [Rows.stepsNothingDueRow,Rows.laid_unicode_utf8_first]) (by simp [Rows.stepsNothingDueRow]) (by simp [Rows.stepsNothingDueRow]))
theorem said:Rows.StepsNothingDueSaid :=
 OpenClaim.holds_of_cond 4 Tryz.f4 rfl rfl rfl rfl rfl rfl rfl ⟨rfl,rfl,rfl,rfl,rfl⟩ rfl rfl rfl rfl rfl (by kernel_rfl) Tryz.func4 closed
  (of_decide_eq_true (by as_aux_lemma=>kernel_rfl)) (by unfold Func.isWrapper; first | (rw [if_pos (by decide +kernel)]; kernel_rfl) | (rw [if_neg (by decide +kernel)]; exact ⟨rfl,rfl⟩))
  (fun os started H enc _ F=>by rw [OpenClaim.pre_eq_preRow]; exact lifted os started H enc F)
theorem plain (f:FuncId) (fn:Func) (hf:Tryz.pinned.checked.prog.funcNamed Rows.stepsNothingDueRow.func=some f) (hfn:Tryz.pinned.checked.prog.funcs[f]?=some fn) :
 true=Tryz.pinned.checked.prog.looks []∧∀ (j:Nat) t,fn.params[j]?=some t→Tryz.pinned.checked.prog.wantsStandIn t=false:=by
 obtain rfl:f=4:=Option.some.inj ((show Tryz.prog.funcNamed Rows.stepsNothingDueRow.func=some 4 by kernel_rfl).symm.trans hf) |>.symm
 obtain rfl:fn=Tryz.f4:=(Option.some.inj (Tryz.func4.symm.trans hfn)).symm
 refine ⟨by kernel_rfl,fun j t ht=>?_⟩
 rw [Tryz.params4] at ht
 have hm:t=22∨t=23∨t=24:=by simpa using Array.mem_of_getElem? ht
 rcases hm with rfl | rfl | rfl
 ·exact (show Tryz.prog.wantsStandIn 22=false by kernel_rfl)
 ·exact (show Tryz.prog.wantsStandIn 23=false by kernel_rfl)
 ·exact (show Tryz.prog.wantsStandIn 24=false by kernel_rfl)
theorem card:Rows.StepsNothingDueCardSaid :=
 Claim7.holds_tied_plain_at .later [] _ _ _ _ said (fun _ h=>by cases h) (by as_aux_lemma=>kernel_rfl) (fun _ h=>by cases h) stepsNothingDue_row_tie rfl ⟨rfl,rfl⟩ (by as_aux_lemma=>kernel_rfl) rfl plain (by as_aux_lemma=>kernel_rfl)
end Go.Proofs.YtaabdbephemboaaGreatDoor.nothing
