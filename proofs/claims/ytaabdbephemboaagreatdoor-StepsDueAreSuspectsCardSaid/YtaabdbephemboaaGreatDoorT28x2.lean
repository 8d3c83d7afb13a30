/- What is due after a change of files, and was not before it, is among the suspects of the paths that changed: the given statement, for all arguments; no condition. -/
import Derived.Test.YtaabdbephemboaaGreatDoorT28x1
namespace Go.Proofs.Sm
open Go.RowKit
def findF (h:List FileV) (p:ByteArray):Option FileV:=h.find? (eqp p)
theorem findF_by (h:List FileV) (p:ByteArray):findF h p=findBy FileV.path h p.data.toList:=by
 unfold findF findBy
 congr 1
 funext y
 rw [eqp,data_beq]
theorem findF_put (h:List FileV) (x:FileV) (p:ByteArray):findF (putFileS h x) p=if p.toList=x.path.toList then some x else findF h p:=by
 rw [findF_by,findF_by,putFile_by,find_put]
 simp only [ByteArray.toList_eq]
theorem findF_congr {h:List FileV} {p q:ByteArray} (e:p.toList=q.toList):findF h p=findF h q:=by
 unfold findF
 congr 1
 funext y
 unfold eqp
 rw [e]
theorem fold_same {p:ByteArray}:∀ {fs h h':List FileV},(findF h p=findF h' p∨∃ x∈fs,x.path.toList=p.toList)→findF (fs.foldl putFileS h) p=findF (fs.foldl putFileS h') p
 | [],_,_,e=>by
   rcases e with e | ⟨x,hx,_⟩
   ·exact e
   ·exact absurd hx List.not_mem_nil
 | x :: fs,h,h',e=>by
   rw [List.foldl_cons,List.foldl_cons]
   refine fold_same ?_
   rw [findF_put,findF_put]
   by_cases hx:p.toList=x.path.toList
   ·left; rw [if_pos hx,if_pos hx]
   ·rw [if_neg hx,if_neg hx]
    rcases e with e | ⟨y,hy,he⟩
    ·exact .inl e
    ·rcases List.mem_cons.1 hy with rfl | hy
     ·exact absurd he.symm hx
     ·exact .inr ⟨y,hy,he⟩
theorem fold_off {p:ByteArray}:∀ {fs h:List FileV},(∀ x∈fs,¬ x.path.toList=p.toList)→findF (fs.foldl putFileS h) p=findF h p
 | [],_,_=>rfl
 | x :: fs,h,e=>by
   rw [List.foldl_cons,fold_off fun y hy=>e y (List.mem_cons_of_mem _ hy),findF_put,if_neg fun hx=>e x (List.mem_cons_self ..) hx.symm]
theorem inputs_same {h h':List FileV} {r:RuleV} (e:∀ p∈r.inputs,findF h p=findF h' p):inputsS h r=inputsS h' r:=by
 unfold inputsS
 generalize r.inputs=l at e
 induction l with
 | nil=>rfl
 | cons p l ih => 
   have e1:h.find? (eqp p)=h'.find? (eqp p):=e p (List.mem_cons_self ..)
   rw [List.filterMap_cons,List.filterMap_cons,e1,ih fun q hq=>e q (List.mem_cons_of_mem _ hq)]
theorem findF_some {h:List FileV} {p:ByteArray} {x:FileV} (e:findF h p=some x):x∈h∧x.path.toList=p.toList:=by
 unfold findF at e
 exact ⟨List.mem_of_find?_eq_some e,by simpa [eqp] using List.find?_some e⟩
theorem findF_none {h:List FileV} {p:ByteArray} (e:findF h p=none):∀ x∈h,¬ x.path.toList=p.toList:=by
 intro x hx
 unfold findF at e
 simpa [eqp] using List.find?_eq_none.1 e x hx
theorem findF_mem {h:List FileV} (hs:ByPath FileV.path h) {x:FileV} (hx:x∈h) {p:ByteArray} (e:x.path.toList=p.toList):findF h p=some x:=by
 rw [findF_by,←ByteArray.toList_eq,←e,ByteArray.toList_eq]
 exact findBy_mem hs x hx
theorem rules_outs {l:List RuleV} (h:checkRulesS l=0):allOutputsErr l=0:=by
 unfold checkRulesS at h
 split at h
 ·contradiction
 split at h
 ·rename_i h2; exact absurd h h2
 split at h
 ·rename_i h2; exact absurd h h2
 ·rename_i h2; exact Classical.not_not.1 h2
theorem outs_lt {l:List RuleV} {k:Nat} {p:ByteArray} (h:p∈outsAt l k):k < l.length:=by
 rcases Nat.lt_or_ge k l.length with hi | hi
 ·exact hi
 ·rw [outsAt,List.getElem?_eq_none hi] at h; simp at h
theorem outs_same {l:List RuleV} (h:checkRulesS l=0) {i k:Nat} {p q:ByteArray} (hp:p∈outsAt l i) (hq:q∈outsAt l k) (he:p.toList=q.toList):i=k :=
 outs_once (rules_outs h) hp hq (by rw [←ByteArray.toList_eq,←ByteArray.toList_eq,he])
theorem needs_of {l:List RuleV} {k j:Nat} {r:RuleV} (hr:l[k]?=some r) {p q:ByteArray} (hp:p∈r.inputs) (hq:q∈outsAt l j) (e:q.toList=p.toList):j∈needAt (needsS l) k:=by
 rw [needs_at (List.getElem?_eq_some_iff.1 hr).1,List.mem_filter,List.mem_range]
 refine ⟨outs_lt hq,?_⟩
 rw [usesS,List.any_eq_true]
 refine ⟨q,hq,?_⟩
 rw [hasB,List.any_eq_true]
 exact ⟨p,by rw [insAt_some hr]; exact hp,by rw [e]; simp⟩
def NoOut (l:List RuleV) (p:ByteArray):Prop:=∀ k,∀ q∈outsAt l k,¬ q.toList=p.toList
def OutOk (r:RuleV) (o:OutV):Prop:=∀ x,o.res=some x→x.files.map FileV.path=r.action.outputs
def MemGood (l:List RuleV) (mem:List MemoryV):Prop:=∀ (k:Nat) (r:RuleV) (m:MemoryV),l[k]?=some r→findM mem r.name=some m→m.result.files.map FileV.path=r.action.outputs
theorem memGood_nil (l:List RuleV):MemGood l []:=fun _ _ _ _ h=>by cases h
theorem memGood_serves {l:List RuleV} (hb:ByPath RuleV.name l) (m:List MemoryV):MemGood l (servesS l m):=fun k r y hr hy=>by
 obtain ⟨h1,h2⟩:=findM_some hy
 have h3:=(List.mem_filter.1 h1).2
 unfold servesP at h3
 rw [idxName_own hb hr h2.symm] at h3
 simp only [hr,Option.any_some] at h3
 exact of_decide_eq_true h3
theorem execOut_ok (r:RuleV) (F:List FileV) (m:Option MemoryV):OutOk r (execOut r F m):=fun x hx=>by
 rcases execOut_cases r F m with ⟨_,he⟩ | ⟨_,_,he⟩ | ⟨hb,hc,he⟩
 ·rw [he] at hx; cases hx
 ·rw [he] at hx; cases hx
 ·rw [he] at hx; cases hx
  exact (exec_right hb).2.1.good hc
theorem outS_ok {l:List RuleV} {g:Graph} {mem:List MemoryV} {r:RuleV} {k:Nat} {s:BSt} (hm:MemGood l mem) (hr:l[k]?=some r):OutOk r (outS g mem r k s):=by
 intro x hx
 unfold outS at hx
 split at hx
 ·cases hx
 split at hx
 ·rename_i m hf
  split at hx
  ·cases hx
   exact hm k r m hr hf
  ·exact execOut_ok _ _ _ x hx
 ·exact execOut_ok _ _ _ x hx
theorem take_off {r:RuleV} {k:Nat} {o:OutV} {s:BSt} {p:ByteArray} (ho:OutOk r o) (hp:∀ q∈r.action.outputs,¬ q.toList=p.toList):findF (takeS r k o s).have_ p=findF s.have_ p:=by
 show findF (o.res.elim s.have_ fun x=>x.files.foldl putFileS s.have_) p=_
 cases h:o.res with
 | none=>rfl
 | some x=>exact fold_off fun y hy e=>hp y.path (by rw [←ho x h]; exact List.mem_map.2 ⟨y,hy,rfl⟩) e
structure Ok1 (l:List RuleV) (files:List FileV) (done:List Nat) (s:BSt):Prop where
 len:s.bad.length=l.length
 off:∀ k,k ∉ done→isOf s.bad k=false
 src:∀ p,NoOut l p→findF s.have_ p=findF files p
 many:s.steps.length=done.length
theorem isOf_set {b:List Bool} {k j:Nat} (h:j≠k):isOf (b.set k true) j=isOf b j:=by
 unfold isOf
 rw [List.getElem?_set_ne fun e=>h e.symm]
theorem isOf_own {b:List Bool} {k:Nat} (h:k < b.length):isOf (b.set k true) k=true:=by
 unfold isOf
 rw [List.getElem?_set_self h]
 rfl
theorem isOf_replicate (n k:Nat):isOf (List.replicate n false) k=false:=by
 unfold isOf
 rw [List.getElem?_replicate]
 split <;> rfl
theorem Ok1.start (l:List RuleV) (files:List FileV) (K:List MemoryV):Ok1 l files [] ⟨files,List.replicate l.length false,[],K⟩ :=
 ⟨List.length_replicate,fun k _=>isOf_replicate _ k,fun _ _=>rfl,rfl⟩
theorem Ok1.take {l:List RuleV} {files:List FileV} {done:List Nat} {s:BSt} {k:Nat} {r:RuleV} {o:OutV} (h:Ok1 l files done s) (hr:l[k]?=some r) (ho:OutOk r o):Ok1 l files (done ++ [k]) (takeS r k o s):=by
 refine ⟨?_,fun j hj=>?_,fun p hp=>?_,?_⟩
 ·show (if o.res.isNone then s.bad.set k true else s.bad).length=_
  split
  ·rw [List.length_set]; exact h.len
  ·exact h.len
 ·have h1:j ∉ done:=fun e=>hj (by simp [e])
  have h2:j≠k:=fun e=>hj (by simp [e])
  show isOf (if o.res.isNone then s.bad.set k true else s.bad) j=false
  split
  ·rw [isOf_set h2]; exact h.off j h1
  ·exact h.off j h1
 ·rw [take_off ho fun q hq=>hp k q (by rw [outsAt_some hr]; exact hq)]
  exact h.src p hp
 ·show (s.steps ++ [_]).length=_
  rw [List.length_append,List.length_append,h.many]; rfl
structure Agree (l:List RuleV) (s t:BSt) (k:Nat):Prop where
 bad:isOf s.bad k=isOf t.bad k
 have_:isOf s.bad k=false→∀ p∈outsAt l k,findF s.have_ p=findF t.have_ p
section
variable {l:List RuleV} {s t:BSt} {k j:Nat} {r:RuleV} {o o':OutV}
theorem isOf_take (h:j≠k):isOf (takeS r k o s).bad j=isOf s.bad j:=by
 show isOf (if o.res.isNone then s.bad.set k true else s.bad) j=_
 split
 ·exact isOf_set h
 ·rfl
theorem Agree.stay (hc:checkRulesS l=0) (h:Agree l s t j) (hjk:j≠k) (hr:l[k]?=some r) (ho:OutOk r o) (ho':OutOk r o'):Agree l (takeS r k o s) (takeS r k o' t) j:=by
 refine ⟨by rw [isOf_take hjk,isOf_take hjk]; exact h.bad,fun hb p hp=>?_⟩
 rw [isOf_take hjk] at hb
 have hoff:∀ q∈r.action.outputs,¬ q.toList=p.toList:=fun q hq e=>hjk (outs_same hc hp (by rw [outsAt_some hr]; exact hq) e.symm)
 rw [take_off ho hoff,take_off ho' hoff]
 exact h.have_ hb p hp
theorem Agree.made (h1:s.bad.length=l.length) (h2:t.bad.length=l.length) (h3:isOf s.bad k=false) (h4:isOf t.bad k=false) (hr:l[k]?=some r) (ho:OutOk r o) (he:o.res.map ResultV.files=o'.res.map ResultV.files):Agree l (takeS r k o s) (takeS r k o' t) k:=by
 have hk:k < l.length:=(List.getElem?_eq_some_iff.1 hr).1
 unfold takeS
 cases hx:o.res with
 | none =>
   rw [hx] at he
   cases hy:o'.res with
   | some y=>rw [hy] at he; cases he
   | none =>
     have e1:isOf (s.bad.set k true) k=true:=isOf_own (by rw [h1]; exact hk)
     have e2:isOf (t.bad.set k true) k=true:=isOf_own (by rw [h2]; exact hk)
     refine ⟨?_,fun hb=>?_⟩
     ·show isOf (s.bad.set k true) k=isOf (t.bad.set k true) k
      rw [e1,e2]
     ·change isOf (s.bad.set k true) k=false at hb
      rw [e1] at hb; cases hb
 | some x =>
   rw [hx] at he
   cases hy:o'.res with
   | none=>rw [hy] at he; cases he
   | some y =>
     rw [hy] at he
     have hf:x.files=y.files:=by simpa using he
     refine ⟨?_,fun _ p hp=>?_⟩
     ·show isOf s.bad k=isOf t.bad k
      rw [h3,h4]
     ·show findF (x.files.foldl putFileS s.have_) p=findF (y.files.foldl putFileS t.have_) p
      rw [←hf]
      refine fold_same (.inr ?_)
      rw [outsAt_some hr,←ho x hx] at hp
      obtain ⟨z,hz,e⟩:=List.mem_map.1 hp
      exact ⟨z,hz,by rw [e]⟩
theorem inputs_agree (hr:l[k]?=some r) (hd:∀ j∈needAt (needsS l) k,Agree l s t j∧isOf s.bad j=false) (hs:∀ p∈r.inputs,NoOut l p→findF s.have_ p=findF t.have_ p):inputsS s.have_ r=inputsS t.have_ r:=by
 refine inputs_same fun p hp=>?_
 by_cases h:∃ j,∃ q∈outsAt l j,q.toList=p.toList
 ·obtain ⟨j,q,hq,e⟩:=h
  obtain ⟨h1,h2⟩:=hd j (needs_of hr hp hq e)
  rw [←findF_congr e,←findF_congr e]
  exact h1.have_ h2 q hq
 ·exact hs p hp fun j q hq e=>h ⟨j,q,hq,e⟩
end
theorem steps_pre {l:List RuleV} {mem:List MemoryV}:∀ (ks:List Nat) (s:BSt),∃ more,(stepsS l mem ks s).2.steps=s.steps ++ more
 | [],s=>⟨[],(List.append_nil _).symm⟩
 | k :: ks,s=>by
   cases hr:l[k]? with
   | none =>
     obtain ⟨m,hm⟩:=steps_pre (l:=l) (mem:=mem) ks s
     exact ⟨m,by rw [stepsS,hr]; exact hm⟩
   | some r =>
     by_cases hf:(outS (needsS l) mem r k s).fault=0
     ·obtain ⟨m,hm⟩:=steps_pre (l:=l) (mem:=mem) ks (takeS r k (outS (needsS l) mem r k s) s)
      refine ⟨[⟨r.name,(outS (needsS l) mem r k s).what,(outS (needsS l) mem r k s).early⟩] ++ m,?_⟩
      rw [steps_go hr hf,hm,←List.append_assoc]
      rfl
     ·exact ⟨[],by rw [steps_stop hr hf]; exact (List.append_nil _).symm⟩
theorem two_at {l:List RuleV} {mem mem':List MemoryV} {order:List Nat} {S T:BSt} {R:List Nat→BSt→BSt→Prop}
 (hstep:∀ (done:List Nat) (k:Nat) (rest:List Nat) (r:RuleV) (s t:BSt),order=done ++ k :: rest→l[k]?=some r→R done s t→(outS (needsS l) mem r k s).fault=0→(outS (needsS l) mem' r k t).fault=0 →
   (stepsS l mem rest (takeS r k (outS (needsS l) mem r k s) s)).2=S→(stepsS l mem' rest (takeS r k (outS (needsS l) mem' r k t) t)).2=T→R (done ++ [k]) (takeS r k (outS (needsS l) mem r k s) s) (takeS r k (outS (needsS l) mem' r k t) t)) :
 ∀ (ks done:List Nat) (s t:BSt),order=done ++ ks→(∀ k∈ks,k < l.length)→R done s t→s.steps.length=done.length→t.steps.length=done.length→(stepsS l mem ks s).1=0→(stepsS l mem' ks t).1=0→(stepsS l mem ks s).2=S→(stepsS l mem' ks t).2=T →
  R order S T∧S.steps.length=order.length∧T.steps.length=order.length∧∀ (i k:Nat) (r:RuleV),ks[i]?=some k→l[k]?=some r→∃ s' t',R (done ++ ks.take i) s' t'∧S.steps.take (done.length + i)=s'.steps∧T.steps.take (done.length + i)=t'.steps ∧
   S.steps[done.length + i]?=some ⟨r.name,(outS (needsS l) mem r k s').what,(outS (needsS l) mem r k s').early⟩∧T.steps[done.length + i]?=some ⟨r.name,(outS (needsS l) mem' r k t').what,(outS (needsS l) mem' r k t').early⟩ ∧
   (outS (needsS l) mem r k s').fault=0∧(outS (needsS l) mem' r k t').fault=0∧(stepsS l mem (ks.drop (i + 1)) (takeS r k (outS (needsS l) mem r k s') s')).2=S∧(stepsS l mem' (ks.drop (i + 1)) (takeS r k (outS (needsS l) mem' r k t') t')).2=T
 | [],done,s,t,ho,_,hR,hs,ht,_,_,e1,e2=>by
   rw [List.append_nil] at ho
   subst ho e1 e2
   exact ⟨hR,hs,ht,fun i k r hk=>by cases hk⟩
 | k :: ks,done,s,t,ho,hl,hR,hs,ht,h1,h2,e1,e2=>by
   obtain ⟨r,hr⟩:=at_lt (hl k (List.mem_cons_self ..))
   by_cases hf:(outS (needsS l) mem r k s).fault=0
   ·by_cases hf':(outS (needsS l) mem' r k t).fault=0
    ·rw [steps_go hr hf] at h1 e1
     rw [steps_go hr hf'] at h2 e2
     have hR':=hstep done k ks r s t ho hr hR hf hf' e1 e2
     have hs':(takeS r k (outS (needsS l) mem r k s) s).steps.length=(done ++ [k]).length:=by
      show (s.steps ++ [_]).length=_
      rw [List.length_append,List.length_append,hs]; rfl
     have ht':(takeS r k (outS (needsS l) mem' r k t) t).steps.length=(done ++ [k]).length:=by
      show (t.steps ++ [_]).length=_
      rw [List.length_append,List.length_append,ht]; rfl
     obtain ⟨g1,g2,g3,g4⟩:=two_at hstep ks (done ++ [k]) _ _ (by rw [ho]; simp) (fun j hj=>hl j (List.mem_cons_of_mem _ hj)) hR' hs' ht' h1 h2 e1 e2
     refine ⟨g1,g2,g3,fun i j q hj hq=>?_⟩
     cases i with
     | zero =>
       cases hj
       rw [hr] at hq; cases hq
       obtain ⟨m1,p1⟩:=steps_pre (l:=l) (mem:=mem) ks (takeS r k (outS (needsS l) mem r k s) s)
       obtain ⟨m2,p2⟩:=steps_pre (l:=l) (mem:=mem') ks (takeS r k (outS (needsS l) mem' r k t) t)
       rw [e1] at p1
       rw [e2] at p2
       change S.steps=(s.steps ++ [_]) ++ m1 at p1
       change T.steps=(t.steps ++ [_]) ++ m2 at p2
       refine ⟨s,t,by simpa using hR,?_,?_,?_,?_,hf,hf',e1,e2⟩
       ·rw [p1,List.append_assoc,Nat.add_zero,←hs,List.take_left']; rfl
       ·rw [p2,List.append_assoc,Nat.add_zero,←ht,List.take_left']; rfl
       ·rw [p1,List.append_assoc,Nat.add_zero,←hs,List.getElem?_append_right (Nat.le_refl _),Nat.sub_self]; rfl
       ·rw [p2,List.append_assoc,Nat.add_zero,←ht,List.getElem?_append_right (Nat.le_refl _),Nat.sub_self]; rfl
     | succ i =>
       have:=g4 i j q hj hq
       rw [List.length_append,List.length_singleton,Nat.add_assoc,Nat.add_comm 1 i,List.append_assoc] at this
       exact this
    ·rw [steps_stop hr hf'] at h2
     exact absurd h2 hf'
   ·rw [steps_stop hr hf] at h1
    exact absurd h1 hf
theorem first_found {l:List RuleV} {r:RuleV} {k:Nat} {rest:List Nat} {s S:BSt} {o:OutV} (_hr:l[k]?=some r) (hoff:NamesOff l rest r.name) (hno:findM s.kept r.name=none) (he:(stepsS l [] rest (takeS r k o s)).2=S) :
 findM S.kept r.name=o.res.map (memOf r):=by
 rw [←he,kept_stay hoff]
 show findM (o.res.elim s.kept fun x=>putM s.kept (memOf r x)) r.name=_
 cases o.res with
 | none=>exact hno
 | some x=>exact findM_same _ _ _
theorem sameF_eq {x y:FileV} (h:sameF x y=true):x=y:=by
 unfold sameF at h
 rw [Bool.and_eq_true,Bool.and_eq_true,beq_iff_eq,beq_iff_eq,beq_iff_eq] at h
 obtain ⟨h1,h2,h3⟩:=h
 cases x
 cases y
 simp only at h1 h2 h3
 rw [list_eq h1,h2,h3]
end Go.Proofs.Sm
namespace Go.Proofs.Sm
open Go.RowKit
def addA (b:List FileV) (out:List ByteArray) (x:FileV):List ByteArray:=if b.any (sameF x) then out else out ++ [x.path]
def addB (a:List FileV) (out:List ByteArray) (x:FileV):List ByteArray:=if a.any (sameF x) then out else if out.any (eqS x.path) then out else out ++ [x.path]
def changedS (a b:List FileV):List ByteArray:=b.foldl (addB a) (a.foldl (addA b) [])
theorem addA_keeps {b:List FileV} {out:List ByteArray} {x:FileV} {p:ByteArray} (h:p∈out):p∈addA b out x:=by
 unfold addA
 split
 ·exact h
 ·simp [h]
theorem addB_keeps {a:List FileV} {out:List ByteArray} {x:FileV} {p:ByteArray} (h:p∈out):p∈addB a out x:=by
 unfold addB
 split
 ·exact h
 split
 ·exact h
 ·simp [h]
theorem foldA_keeps {b:List FileV} {p:ByteArray}:∀ {a:List FileV} {out:List ByteArray},p∈out→p∈a.foldl (addA b) out
 | [],_,h=>h
 | _ :: _,_,h=>by rw [List.foldl_cons]; exact foldA_keeps (addA_keeps h)
theorem foldB_keeps {a:List FileV} {p:ByteArray}:∀ {b:List FileV} {out:List ByteArray},p∈out→p∈b.foldl (addB a) out
 | [],_,h=>h
 | _ :: _,_,h=>by rw [List.foldl_cons]; exact foldB_keeps (addB_keeps h)
theorem foldA_adds {b:List FileV} {x:FileV} (hx:b.any (sameF x)=false):∀ {a:List FileV} {out:List ByteArray},x∈a→x.path∈a.foldl (addA b) out
 | [],_,h=>absurd h List.not_mem_nil
 | y :: a,out,h=>by
   rw [List.foldl_cons]
   rcases List.mem_cons.1 h with rfl | h
   ·refine foldA_keeps ?_
    unfold addA
    rw [if_neg (by rw [hx]; decide)]
    simp
   ·exact foldA_adds hx h
theorem foldB_adds {a:List FileV} {x:FileV} (hx:a.any (sameF x)=false):∀ {b:List FileV} {out:List ByteArray},x∈b→x.path∈b.foldl (addB a) out
 | [],_,h=>absurd h List.not_mem_nil
 | y :: b,out,h=>by
   rw [List.foldl_cons]
   rcases List.mem_cons.1 h with rfl | h
   ·refine foldB_keeps ?_
    unfold addB
    rw [if_neg (by rw [hx]; decide)]
    split
    ·rename_i h1; exact any_eqS.1 h1
    ·simp
   ·exact foldB_adds hx h
theorem hasB_mem {l:List ByteArray} {p q:ByteArray} (h:q∈l) (e:q.toList=p.toList):hasB l p=true:=by
 rw [hasB,List.any_eq_true]
 exact ⟨q,h,by rw [e]; simp⟩
theorem unchanged {a b:List FileV} (_ha:ByPath FileV.path a) (hb:ByPath FileV.path b) {p:ByteArray} (h:hasB (changedS a b) p=false):findF a p=findF b p:=by
 have no:∀ q∈changedS a b,¬ q.toList=p.toList:=fun q hq e=>by rw [hasB_mem hq e] at h; cases h
 cases h1:findF a p with
 | some x =>
   obtain ⟨hx,ex⟩:=findF_some h1
   cases h2:b.any (sameF x) with
   | true =>
     obtain ⟨y,hy,e⟩:=List.any_eq_true.1 h2
     obtain rfl:=sameF_eq e
     exact (findF_mem hb hy ex).symm
   | false=>exact absurd ex (no _ (foldB_keeps (foldA_adds h2 hx)))
 | none =>
   cases h2:findF b p with
   | none=>rfl
   | some y =>
     obtain ⟨hy,ey⟩:=findF_some h2
     cases h3:a.any (sameF y) with
     | true =>
       obtain ⟨x,hx,e⟩:=List.any_eq_true.1 h3
       obtain rfl:=sameF_eq e
       exact absurd ey (findF_none h1 _ hx)
     | false=>exact absurd ey (no _ (foldB_adds h3 hy))
theorem cut_order {g:Graph} {order done rest:List Nat} {k:Nat} (hn:order.Nodup) (hb:Behind g order) (e:order=done ++ k :: rest):k ∉ done∧k ∉ rest∧∀ j∈needAt g k,j∈done:=by
 subst e
 have h1:=List.nodup_append.1 hn
 refine ⟨fun h=>h1.2.2 k h k (List.mem_cons_self ..) rfl,(List.nodup_cons.1 h1.2.1).1,fun j hj=>?_⟩
 have h2:=hb done.length k (by rw [List.getElem?_append_right (Nat.le_refl _),Nat.sub_self]; rfl) j hj
 rwa [List.take_left' rfl] at h2
theorem plan_behind {l:List RuleV} {wanted:List ByteArray} {order:List Nat} (h:PlanIs l wanted order):Behind (needsS l) order:=by
 obtain ⟨ks,s,_,_,rfl⟩:=h
 exact orderS_behind _ _
theorem names_off {l:List RuleV} (hb:ByPath RuleV.name l) {k:Nat} {rest:List Nat} {r:RuleV} (hr:l[k]?=some r) (h:k ∉ rest):NamesOff l rest r.name:=fun _ hj _ hq=>by_differ hb hq hr fun e=>h (e ▸ hj)
structure Two (l:List RuleV) (before files:List FileV) (done:List Nat) (s t:BSt):Prop where
 one:Ok1 l before done s
 two:Ok1 l files done t
 off:∀ (k:Nat) (r:RuleV),l[k]?=some r→k ∉ done→findM s.kept r.name=none
theorem Two.start (l:List RuleV) (before files:List FileV):Two l before files [] ⟨before,List.replicate l.length false,[],[]⟩ ⟨files,List.replicate l.length false,[],[]⟩ :=
 ⟨Ok1.start ..,Ok1.start ..,fun _ _ _ _=>rfl⟩
theorem Two.take {l:List RuleV} {before files:List FileV} {done:List Nat} {s t:BSt} {k:Nat} {r:RuleV} {o o':OutV} (hb:ByPath RuleV.name l) (h:Two l before files done s t) (hr:l[k]?=some r) (ho:OutOk r o) (ho':OutOk r o'):Two l before files (done ++ [k]) (takeS r k o s) (takeS r k o' t):=by
 refine ⟨h.one.take hr ho,h.two.take hr ho',fun j q hq hj=>?_⟩
 have h1:=h.off j q hq fun e=>hj (by simp [e])
 show findM (o.res.elim s.kept fun x=>putM s.kept (memOf r x)) q.name=none
 cases o.res with
 | none=>exact h1
 | some x =>
   show findM (putM s.kept (memOf r x)) q.name=none
   rw [findM_other (by_differ hb hq hr fun e=>hj (by simp [e]))]
   exact h1
theorem again_out {g:Graph} {mem:List MemoryV} {r:RuleV} {k:Nat} {s t:BSt} (hf:(outS g [] r k s).fault=0) (hm:findM mem r.name=(outS g [] r k s).res.map (memOf r)) (hb:(needAt g k).any (isOf t.bad)=(needAt g k).any (isOf s.bad))
 (hi:(needAt g k).any (isOf s.bad)=false→inputsS t.have_ r=inputsS s.have_ r):(outS g mem r k t).res=(outS g [] r k s).res∧(⟨r.name,(outS g mem r k t).what,(outS g mem r k t).early⟩:StepV)=againStep ⟨r.name,(outS g [] r k s).what,(outS g [] r k s).early⟩:=by
 have hout:=outS_none (g:=g) (mem:=[]) (r:=r) (k:=k) (s:=s) rfl
 by_cases hd:(needAt g k).any (isOf s.bad)=true
 ·rw [if_pos hd] at hout
  have h2:outS g mem r k t=⟨4,false,none,0⟩:=by unfold outS; rw [hb,if_pos hd]
  rw [h2,hout]; exact ⟨rfl,rfl⟩
 ·rw [if_neg hd] at hout
  have hi:=hi (by simpa using hd)
  rcases execOut_cases r (inputsS s.have_ r) none with ⟨hb',he⟩ | ⟨hb',hc,he⟩ | ⟨hb',hc,he⟩
  ·rw [hout,he] at hf; exact absurd hf hb'
  ·rw [he] at hout
   rw [hout] at hm
   have h2:outS g mem r k t=⟨3,false,none,0⟩:=by
    rw [outS_none (show findM mem r.name=none from hm),hb,if_neg hd,hi]; exact he
   rw [h2,hout]; exact ⟨rfl,rfl⟩
  ·rw [he] at hout
   rw [hout] at hm
   have h2:outS g mem r k t=⟨2,false,some (execS r.action (inputsS s.have_ r)),0⟩:=by
    rw [outS_some (show findM mem r.name=some (memOf r (execS r.action (inputsS s.have_ r))) from hm),hb,if_neg hd,hi,if_pos (mem_stands hb')]; rfl
   rw [h2,hout]; exact ⟨rfl,rfl⟩
theorem any_bad {ks:List Nat} {a b:List Bool} (h:∀ j∈ks,isOf a j=isOf b j):ks.any (isOf a)=ks.any (isOf b):=by
 induction ks with
 | nil=>rfl
 | cons k ks ih=>rw [List.any_cons,List.any_cons,h k (List.mem_cons_self ..),ih fun j hj=>h j (List.mem_cons_of_mem _ hj)]
theorem any_none {ks:List Nat} {a:List Bool} (h:ks.any (isOf a)=false):∀ j∈ks,isOf a j=false:=fun j hj=>by
 have:=List.any_eq_false.1 h j hj
 simpa using this
theorem same_out {l:List RuleV} {before files:List FileV} {mem:List MemoryV} {done:List Nat} {s t:BSt} {k:Nat} {r:RuleV} (h:Two l before files done s t) (hr:l[k]?=some r) (hf:(outS (needsS l) [] r k s).fault=0)
 (hm:findM mem r.name=(outS (needsS l) [] r k s).res.map (memOf r)) (hd:∀ j∈needAt (needsS l) k,Agree l s t j) (hi:∀ p∈r.inputs,findF before p=findF files p) :
 (outS (needsS l) mem r k t).res=(outS (needsS l) [] r k s).res∧(⟨r.name,(outS (needsS l) mem r k t).what,(outS (needsS l) mem r k t).early⟩:StepV)=againStep ⟨r.name,(outS (needsS l) [] r k s).what,(outS (needsS l) [] r k s).early⟩:=by
 refine again_out hf hm (any_bad fun j hj=>(hd j hj).bad.symm) fun h0=>?_
 refine (inputs_agree hr (fun j hj=>⟨hd j hj,any_none h0 j hj⟩) fun p hp hno=>?_).symm
 rw [h.one.src p hno,h.two.src p hno,hi p hp]
structure Built2 (l:List RuleV) (before files:List FileV) (wanted:List ByteArray) (order:List Nat) (M:List MemoryV):Prop where
 rules:checkRulesS l=0
 names:ByPath RuleV.name l
 mem:M=(runB l before [] order).2.kept
 first:runB l before [] order=stepsS l [] order ⟨before,List.replicate l.length false,[],[]⟩
 second:runB l files M order=stepsS l M order ⟨files,List.replicate l.length false,[],[]⟩
 ok1:(runB l before [] order).1=0
 ok2:(runB l files M order).1=0
 byB:ByPath FileV.path before
 byF:ByPath FileV.path files
 good:MemGood l M
theorem built2 {l:List RuleV} {before files:List FileV} {wanted:List ByteArray} {order:List Nat} (h1:buildErr l before wanted [] order=0) (h2:buildErr l files wanted (runB l before [] order).2.kept order=0):Built2 l before files wanted order (runB l before [] order).2.kept:=by
 obtain ⟨a1,a2,a3⟩:=buildErr_parts h1
 obtain ⟨b1,b2,b3⟩:=buildErr_parts h2
 obtain ⟨g1,g2,_,_⟩:=buildErr0_parts a1
 obtain ⟨_,f2,_,_⟩:=buildErr0_parts b1
 have hc:=planErr_rules g1
 obtain ⟨_,hb⟩:=rules_parts_by hc
 obtain ⟨_,m2,m3⟩:=fresh_memory h1
 have hg:=memGood_serves hb (runB l before [] order).2.kept
 rw [m2] at hg
 refine ⟨hc,hb,rfl,rfl,?_,a2,b2,files_by g2,files_by f2,hg⟩
 rw [runB,m2]
 congr 1
 have hk:(startB l before (runB l before [] order).2.kept order).kept=[]:=by rw [m3]
 show (⟨files,List.replicate l.length false,[],(startB l before (runB l before [] order).2.kept order).kept⟩:BSt)=_
 rw [hk]
theorem far_same {l:List RuleV} {before files:List FileV} {wanted:List ByteArray} {order:List Nat} {M:List MemoryV} (hB:Built2 l before files wanted order M) (hp:PlanIs l wanted order) {H:Nat→Prop}
 (hH:∀ k,H k→(∀ p∈insAt l k,hasB (changedS before files) p=false)∧∀ j∈needAt (needsS l) k,H j) {i k:Nat} (hk:order[i]?=some k) (hh:H k) :
 ∃ x,(runB l before [] order).2.steps[i]?=some x∧(runB l files M order).2.steps[i]?=some (againStep x):=by
 obtain ⟨hnd,hlt⟩:=plan_parts hp
 have hbe:=plan_behind hp
 have hsame:∀ (done:List Nat) (k:Nat) (rest:List Nat) (r:RuleV) (s t:BSt),order=done ++ k :: rest→l[k]?=some r→Two l before files done s t→(∀ j∈done,H j→Agree l s t j)→(outS (needsS l) [] r k s).fault=0→(stepsS l [] rest (takeS r k (outS (needsS l) [] r k s) s)).2=(runB l before [] order).2→H k →
  (outS (needsS l) M r k t).res=(outS (needsS l) [] r k s).res∧(⟨r.name,(outS (needsS l) M r k t).what,(outS (needsS l) M r k t).early⟩:StepV)=againStep ⟨r.name,(outS (needsS l) [] r k s).what,(outS (needsS l) [] r k s).early⟩:=by
  intro done k rest r s t ho hr h2 ha hf e1 hk
  obtain ⟨c1,c2,c3⟩:=cut_order hnd hbe ho
  refine same_out h2 hr hf ?_ (fun j hj=>ha j (c3 j hj) ((hH k hk).2 j hj)) fun p hp=>unchanged hB.byB hB.byF ((hH k hk).1 p (by rw [insAt_some hr]; exact hp))
  rw [hB.mem]
  exact first_found hr (names_off hB.names hr c2) (h2.off k r hr c1) e1
 have key:=two_at (l:=l) (mem:=[]) (mem':=M) (order:=order) (S:=(runB l before [] order).2) (T:=(runB l files M order).2) (R:=fun done s t=>Two l before files done s t∧∀ j∈done,H j→Agree l s t j)
  (fun done k rest r s t ho hr hR hf hf' e1 e2=>by
    obtain ⟨c1,c2,c3⟩:=cut_order hnd hbe ho
    have o1:=outS_ok (g:=needsS l) (k:=k) (s:=s) (memGood_nil l) hr
    have o2:=outS_ok (g:=needsS l) (k:=k) (s:=t) hB.good hr
    refine ⟨hR.1.take hB.names hr o1 o2,fun j hj hh=>?_⟩
    by_cases hjk:j=k
    ·subst hjk
     have e:=(hsame done j rest r s t ho hr hR.1 hR.2 hf e1 hh).1
     exact Agree.made hR.1.one.len hR.1.two.len (hR.1.one.off j c1) (hR.1.two.off j c1) hr o1 (by rw [e])
    ·have hj':j∈done:=by simpa [hjk] using hj
     exact (hR.2 j hj' hh).stay hB.rules hjk hr o1 o2)
  order [] ⟨before,List.replicate l.length false,[],[]⟩ ⟨files,List.replicate l.length false,[],[]⟩ rfl hlt ⟨Two.start ..,fun j hj=>absurd hj List.not_mem_nil⟩ rfl rfl
  (by rw [←hB.first]; exact hB.ok1) (by rw [←hB.second]; exact hB.ok2) (by rw [←hB.first]) (by rw [←hB.second])
 obtain ⟨r,hr⟩:=at_lt (hlt k (List.mem_of_getElem? hk))
 obtain ⟨s',t',hR,_,_,x1,x2,f1,_,e1,_⟩:=key.2.2.2 i k r hk hr
 rw [List.nil_append] at hR
 have ho:order=order.take i ++ k :: order.drop (i + 1):=by rw [←drop_at hk,List.take_append_drop]
 have e:=hsame (order.take i) k (order.drop (i + 1)) r s' t' ho hr hR.1 hR.2 f1 e1 hh
 rw [e.2] at x2
 rw [List.length_nil,Nat.zero_add] at x1 x2
 exact ⟨_,x1,x2⟩
def dueS (steps:List StepV):List ByteArray:=(steps.filter fun t=>t.what == 1 || t.what == 3).map StepV.name
theorem due_mem {steps:List StepV} {n:ByteArray}:n∈dueS steps↔∃ (i:Nat) (t:StepV),steps[i]?=some t∧(t.what=1∨t.what=3)∧t.name=n:=by
 unfold dueS
 rw [List.mem_map]
 constructor
 ·rintro ⟨t,ht,rfl⟩
  obtain ⟨h1,h2⟩:=List.mem_filter.1 ht
  obtain ⟨i,hi⟩:=List.getElem?_of_mem h1
  exact ⟨i,t,hi,by simpa using h2,rfl⟩
 ·rintro ⟨i,t,hi,hw,rfl⟩
  exact ⟨t,List.mem_filter.2 ⟨List.mem_of_getElem? hi,by simpa using hw⟩,rfl⟩
theorem hits_stay {l:List RuleV} {ws:List ByteArray} {out:List Nat} (hn:out.Nodup) {t i:Nat} (hi:i∈out.take t):(hitsS l ws out)[i]?=(hitsS l ws (out.take t))[i]?:=by
 have e:out.take t ++ out.drop t=out:=List.take_append_drop t out
 have h0:i ∉ out.drop t:=fun hm=>by
  rw [←e] at hn
  exact (List.nodup_append.1 hn).2.2 i hi i hm rfl
 conv=>lhs; rw [←e]
 rw [hitsS,List.foldl_append,foldl_off (hitOne l ws) _ _ h0]
 rfl
theorem hits_no {l:List RuleV} {ws:List ByteArray} (hc:checkRulesS l=0) {k:Nat} (hk:k < l.length) (h:isOf (hitsS l ws (orderS (needsS l) allTrue).1) k=false) :
 (∀ p∈insAt l k,hasB ws p=false)∧∀ j∈needAt (needsS l) k,isOf (hitsS l ws (orderS (needsS l) allTrue).1) j=false:=by
 have hd:=orderS_done (needsS l) allTrue
 have hb:=orderS_behind (needsS l) allTrue
 have hin:k∈(orderS (needsS l) allTrue).1:=order_has (order_full hc) (by rw [needsS_length]; exact hk) rfl
 generalize (orderS (needsS l) allTrue).1=O at *
 obtain ⟨t,ht⟩:=List.getElem?_of_mem hin
 have hkt:k∈O.take (t + 1):=by rw [List.take_add_one,ht]; simp
 have e:=hits_stay (l:=l) (ws:=ws) hd.nodup hkt
 rw [hits_more ht,List.getElem?_set_self (by rw [hits_length]; exact hk)] at e
 have h1:hitOne l ws (hitsS l ws (O.take t)) k=false:=by
  unfold isOf at h
  rw [e] at h
  cases hh:hitOne l ws (hitsS l ws (O.take t)) k with
  | false=>rfl
  | true=>rw [hh] at h; cases h
 unfold hitOne at h1
 rw [Bool.or_eq_false_iff] at h1
 refine ⟨fun p hp=>by simpa using List.any_eq_false.1 h1.1 p hp,fun j hj=>?_⟩
 have h2:isOf (hitsS l ws (O.take t)) j=false:=by simpa using List.any_eq_false.1 h1.2 j hj
 unfold isOf at h2 ⊢
 rw [hits_stay hd.nodup (hb t k ht j hj)]
 exact h2
theorem due_suspects {l:List RuleV} {before files:List FileV} {wanted:List ByteArray} {order:List Nat} (hp:PlanIs l wanted order) (h1:buildErr l before wanted [] order=0) (h2:buildErr l files wanted (runB l before [] order).2.kept order=0) :
 ∀ n∈dueS (runB l files (runB l before [] order).2.kept order).2.steps,n∈dueS (runB l before (runB l before [] order).2.kept order).2.steps∨n∈suspS l (changedS before files):=by
 intro n hn
 have hB:=built2 h1 h2
 obtain ⟨hnd,hlt⟩:=plan_parts hp
 obtain ⟨i,y,hy,hw,hname⟩:=due_mem.1 hn
 have key:=two_at (l:=l) (mem:=[]) (mem':=(runB l before [] order).2.kept) (order:=order) (S:=(runB l before [] order).2) (T:=(runB l files (runB l before [] order).2.kept order).2) (R:=fun _ _ _=>True) (fun _ _ _ _ _ _ _ _ _ _ _ _ _=>trivial)
  order [] ⟨before,List.replicate l.length false,[],[]⟩ ⟨files,List.replicate l.length false,[],[]⟩ rfl hlt trivial rfl rfl
  (by rw [←hB.first]; exact hB.ok1) (by rw [←hB.second]; exact hB.ok2) (by rw [←hB.first]) (by rw [←hB.second])
 have hil:i < order.length:=by rw [←key.2.2.1]; exact (List.getElem?_eq_some_iff.1 hy).1
 obtain ⟨k,hk⟩:=at_lt hil
 have hkl:=hlt k (List.mem_of_getElem? hk)
 cases hh:isOf (hitsS l (changedS before files) (orderS (needsS l) allTrue).1) k with
 | false =>
   obtain ⟨x,hx,hx2⟩:=far_same hB hp (H:=fun k=>k < l.length∧isOf (hitsS l (changedS before files) (orderS (needsS l) allTrue).1) k=false) (fun k h=>by
    obtain ⟨a1,a2⟩:=hits_no hB.rules h.1 h.2
    exact ⟨a1,fun j hj=>⟨needs_lt hj,a2 j hj⟩⟩) hk ⟨hkl,hh⟩
   left
   rw [hy] at hx2
   cases hx2
   obtain ⟨_,e⟩:=nothing_due hp h1
   rw [e,due_mem]
   exact ⟨i,againStep x,by rw [List.getElem?_map,hx]; rfl,hw,hname⟩
 | true =>
   right
   obtain ⟨r,hr⟩:=at_lt hkl
   obtain ⟨_,_,_,_,_,_,x2,_⟩:=key.2.2.2 i k r hk hr
   rw [List.length_nil,Nat.zero_add,hy] at x2
   cases x2
   unfold suspS hitNames namesAt
   rw [List.mem_map]
   refine ⟨k,List.mem_filter.2 ⟨List.mem_range.2 hkl,hh⟩,?_⟩
   rw [nameAt_some hr]
   exact hname
end Go.Proofs.Sm
namespace Go.Proofs.Sm
open Go.RowKit
section
variable {l:List RuleV} {F before files:List FileV} {ws other:List ByteArray} {ms:List MemoryV} {f g:Int} {a b x y:BuiltV}
theorem BuildIs.empty (h:BuildIs l F ws ms f b) (h0:f≠0):b=⟨[],[],[]⟩:=h.1 h0
theorem BuildIs.good (h:BuildIs l F ws ms 0 b):∃ order,PlanIs l ws order∧buildErr l F ws ms order=0∧b=builtOf l ws (runB l F ms order).2:=by
 have h0:buildErr0 l F ws ms=0:=Decidable.byContradiction fun e=>e (h.2.1 e).symm
 obtain ⟨order,h1,h2,h3⟩:=h.2.2 h0
 exact ⟨order,h1,h2.symm,h3 rfl⟩
theorem BuildIs.rules (h:BuildIs l F ws ms 0 b):checkRulesS l=0:=by
 obtain ⟨o,_,h1,_⟩:=h.good
 exact planErr_rules (buildErr0_parts (buildErr_parts h1).1).1
theorem BuildIs.filesOk (h:BuildIs l F ws ms 0 b):checkFilesS F=0:=by
 obtain ⟨o,_,h1,_⟩:=h.good
 exact (buildErr0_parts (buildErr_parts h1).1).2.1
theorem built_suspects (h1:BuildIs l before ws [] 0 a) (h2:BuildIs l files ws a.memory 0 x) (h3:BuildIs l before ws a.memory g y):g=0∧∀ n∈dueS x.steps,n∈dueS y.steps∨n∈suspS l (changedS before files):=by
 obtain ⟨order,hp,hb,rfl⟩:=h1.good
 obtain ⟨e1,e2⟩:=h2.atPlan hp
 obtain ⟨e3,e4⟩:=h3.atPlan hp
 obtain ⟨n1,_⟩:=nothing_due hp hb
 have e0:g=0:=e3.trans n1
 refine ⟨e0,?_⟩
 rw [e2 rfl,e4 e0]
 exact due_suspects hp hb e1.symm
theorem changed_from {a b:List FileV} {p:ByteArray} (h:p∈changedS a b):∃ x,(x∈a∨x∈b)∧x.path=p:=by
 have key:∀ (l:List FileV) (fn:List ByteArray→FileV→List ByteArray) (_:∀ o x,∀ p∈fn o x,p∈o∨p=x.path) (o:List ByteArray),p∈l.foldl fn o→p∈o∨∃ x∈l,x.path=p:=by
  intro l fn hf
  induction l with
  | nil=>intro o h; exact .inl h
  | cons x l ih =>
    intro o h
    rw [List.foldl_cons] at h
    rcases ih _ h with h | ⟨y,hy,e⟩
    ·rcases hf o x p h with h | h
     ·exact .inl h
     ·exact .inr ⟨x,List.mem_cons_self ..,h.symm⟩
    ·exact .inr ⟨y,List.mem_cons_of_mem _ hy,e⟩
 unfold changedS at h
 rcases key b _ (fun o x p hp=>by
  unfold addB at hp
  split at hp
  ·exact .inl hp
  split at hp
  ·exact .inl hp
  ·rw [List.mem_append,List.mem_singleton] at hp; exact hp) _ h with h | ⟨x,hx,e⟩
 ·rcases key a _ (fun o x p hp=>by
   unfold addA at hp
   split at hp
   ·exact .inl hp
   ·rw [List.mem_append,List.mem_singleton] at hp; exact hp) _ h with h | ⟨x,hx,e⟩
  ·cases h
  ·exact ⟨x,.inl hx,e⟩
 ·exact ⟨x,.inr hx,e⟩
theorem files_isPath {F:List FileV} (h:checkFilesS F=0):∀ x∈F,isPathS x.path=true:=by
 intro x hx
 obtain ⟨i,hi⟩:=List.getElem?_of_mem hx
 exact (filesErr_step none (checkFiles_err h).2.1 i x hi).2.1
theorem changed_suspErr (hc:checkRulesS l=0) (ha:checkFilesS before=0) (hb:checkFilesS files=0) (hn:(changedS before files).length≤1000):suspErr l (changedS before files)=0:=by
 unfold suspErr
 rw [if_neg (by rw [hc]; decide),if_neg (by omega),if_neg]
 rw [Bool.not_eq_true,List.any_eq_false]
 intro p hp
 obtain ⟨x,hx,rfl⟩:=changed_from hp
 rcases hx with hx | hx
 ·rw [files_isPath ha x hx]; decide
 ·rw [files_isPath hb x hx]; decide
end
end Go.Proofs.Sm
namespace Go.Proofs.Sm
open Go.RowKit Go.Maps
section
variable (A B C D:Option Addr) (n c m d nw cw nd cd:Nat) (l:List RuleV) (F:List FileV) (ws:List ByteArray) (ms:List MemoryV) (w:World)
set_option maxHeartbeats 0 in
set_option maxRecDepth 100000 in
theorem steps_Fresh (hE:Env2 w) (hsl:Sl w (Lt w.heap.size) A n l) (hF:Sl w (Lt w.heap.size) B m F) (hws:Sl w (Lt w.heap.size) C nw ws) :
 Calls Tryz.prog 9 #[.slice A n c,.slice B m d,.slice C nw cw] w (BuildPost l F ws [] w):=by
 have hbx:=fr_alloc (fr_refl w) (.cells #[.slice none 0 0,.slice none 0 0,.slice none 0 0] 28)
 have hR0:Arr (w.alloc (.cells #[.slice none 0 0,.slice none 0 0,.slice none 0 0] 28)) w.heap.size 28 [.slice none 0 0,.slice none 0 0,.slice none 0 0]:=heap_alloc_new w _
 have HB:=Lib.hid (steps_build A B C none n c m d nw cw 0 0 l F ws [] _ (hE.then_ hbx) (sl_call hsl hbx (Nat.le_refl _)) (sl_call hF hbx (Nat.le_refl _)) (sl_call hws hbx (Nat.le_refl _)) Sl.nil)
 go_enter Tryz.func9,Tryz.ntmps9
 go_wp2_with fail
 refine HB.out.mono ?_
 rintro e w1 ⟨A1,n1,c1,A2,n2,c2,A3,n3,c3,f,b,rfl,hi,s1,s2,s3,h1,h2,h3,hb1⟩
 have hR:=hR0.call hb1
 have HX:=Lib.hid (show BuildPost l F ws [] w _ w1 from ⟨A1,n1,c1,A2,n2,c2,A3,n3,c3,f,b,rfl,hi,s1,s2,s3,h1,h2,h3,fr_call hbx hb1⟩)
 clear hi s1 s2 s3 h1 h2 h3 hR0 HB
 have e0:=hR.cell (i:=0) rfl
 have e1:=hR.cell (i:=1) rfl
 have e2:=hR.cell (i:=2) rfl
 have i0:=hR.frozen 0
 have i1:=hR.frozen 1
 have i2:=hR.frozen 2
 have hl4:=hR.lt
 go_wp2
 generalize hWE:World.setCell (World.setCell (World.setCell w1 _ _) _ _) _ _=WE
 have hE5:Arr WE w.heap.size 28 [(.slice A1 n1 c1),(.slice A2 n2 c2),(.slice A3 n3 c3)]:=by
  rw [←hWE]; exact ((hR.set 0 _).set 1 _).set 2 _
 have hkE:Kp (fun j=>j=w.heap.size) w1 WE:=by
  rw [←hWE]
  exact Kp.set (p:=⟨w.heap.size,2,none⟩) (Kp.set (p:=⟨w.heap.size,1,none⟩) (Kp.set (p:=⟨w.heap.size,0,none⟩) (Kp.refl (fun j=>j=w.heap.size) w1) rfl _) rfl _) rfl _
 clear hWE e0 e1 e2 i0 i1 i2
 have y0:=hE5.cell (i:=0) rfl
 have y1:=hE5.cell (i:=1) rfl
 have y2:=hE5.cell (i:=2) rfl
 exact bodyPost_ret (v:=.tuple #[.agg #[(.slice A1 n1 c1),(.slice A2 n2 c2),(.slice A3 n3 c3)],.int .i64 f]) (by simp [results,Tryz.results9,go_sem,y0,y1,y2]) rfl (HX.out.shut hR hkE (Nat.le_refl _))
end
end Go.Proofs.Sm
namespace Go.Proofs.Sm
open Go.RowKit Go.Maps
def DuePost (l:List RuleV) (F:List FileV) (ws:List ByteArray) (ms:List MemoryV) (W:World) (e:Ending) (w':World):Prop :=
 ∃ A n c f b,e=.returned (.tuple #[.slice A n c,.int .i64 f])∧BuildIs l F ws ms f b∧Sl w' (Lt w'.heap.size) A n (dueS b.steps)∧Below W.heap.size W w'
theorem due_more {l:List StepV} {k:Nat} {x:StepV} (hx:l[k]?=some x):dueS (l.take (k + 1))=if x.what == 1 || x.what == 3 then dueS (l.take k) ++ [x.name] else dueS (l.take k):=by
 unfold dueS
 rw [List.take_add_one,hx,List.filter_append,List.map_append]
 by_cases h:(x.what == 1 || x.what == 3)=true
 ·rw [if_pos h]
  simp [h]
 ·rw [if_neg h]
  simp [h]
theorem due_le (l:List StepV):(dueS l).length≤l.length:=by
 unfold dueS
 rw [List.length_map]; exact List.length_filter_le _ _
theorem str_ones7 (s:ByteArray):∀ u∈[Value.string s],u.oneCell'=true:=fun u hu=>by
 simp only [List.mem_cons,List.mem_nil_iff,or_false] at hu
 subst hu; rfl
set_option maxHeartbeats 0 in
set_option maxRecDepth 100000 in
theorem steps_Due (A B C D:Option Addr) (n c m d nw cw nd cd:Nat) (l:List RuleV) (F:List FileV) (ws:List ByteArray) (ms:List MemoryV) (w:World) (hE:Env2 w) (hsl:Sl w (Lt w.heap.size) A n l) (hF:Sl w (Lt w.heap.size) B m F) (hws:Sl w (Lt w.heap.size) C nw ws) (hms:Sl w (Lt w.heap.size) D nd ms) :
 Calls Tryz.prog 17 #[.slice A n c,.slice B m d,.slice C nw cw,.slice D nd cd] w (DuePost l F ws ms w):=by
 have HB:=Lib.hid (steps_build A B C D n c m d nw cw nd cd l F ws ms w hE hsl hF hws hms)
 obtain ⟨i0,hi0,hz0,hz1,hz2⟩:=info_parts str_info
 clear hsl hF hws hms
 go_enter Tryz.func17,Tryz.ntmps17
 go_wp2_with fail
 refine HB.out.mono ?_
 rintro e w1 ⟨A1,n1,c1,A2,n2,c2,A3,n3,c3,f,b,rfl,hbu,hs1,_,_,_,_,hst,hb1⟩
 have HBu:=Lib.hid hbu
 have hbx:=fr_alloc hb1 (.cells #[.slice A1 n1 c1,.slice A2 n2 c2,.slice A3 n3 c3] 28)
 have hs:=sl_call hs1 (fr_alloc (fr_refl w1) (.cells #[.slice A1 n1 c1,.slice A2 n2 c2,.slice A3 n3 c3] 28)) (Nat.le_refl _)
 have hn9:n1≤1000:=by rw [←hs1.1]; exact hst
 have hn9I:n1≤9223372036854775807:=by omega
 have HL:=Lib.hid hs.1
 clear hbu hs1 hst
 go_wp2
 generalize w1.alloc (.cells #[.slice A1 n1 c1,.slice A2 n2 c2,.slice A3 n3 c3] 28)=W at *
 have HBW:=Lib.hid hbx
 go_loopw [12,26] (fun v i wr=>∃ k:Nat,k≤n1∧i=.int .i64 k∧RowK wr W.heap.size 9 (fun _=>False) v (dueS (b.steps.take k))∧Below W.heap.size W wr) (fun _ i _=>n1 - (intOf i).toNat)
 case atStart=>exact ⟨0,Nat.zero_le _,rfl,RowK.nil,Below.refl _ _⟩
 case round =>
  obtain ⟨k,hk,rfl,hrow,hbel⟩:=hrel
  by_cases hlt:k < n1
  ·have hkI:(k:Int) < (n1:Int):=by omega
   obtain ⟨g1,o1,x,rfl,hg1,hx,hxn,_,d0,d1,d2⟩:=(hs.keep (keep_lt hbel)).step hlt
   have HT:=Lib.hid (due_more hx)
   have hlen:(dueS (b.steps.take k)).length≤k:=Nat.le_trans (due_le _) (by rw [List.length_take]; omega)
   have hbx1:=fr_alloc hbel (.cells #[.string x.name,.int .i64 x.what,.bool x.early] 46)
   have HRC:=Lib.hid (hrow.call (fr_alloc (fr_refl wr) (.cells #[.string x.name,.int .i64 x.what,.bool x.early] 46)))
   clear hx hrow
   generalize dueS (b.steps.take k)=OL at *
   cases h1:(x.what == 1)
   ·cases h3:(x.what == 3)
    ·have HS:=Lib.hid (show dueS (b.steps.take (k + 1))=OL by rw [HT.out]; simp [h1,h3])
     clear HT
     go_wp2
     go_roundw
     case rel=>exact ⟨k + 1,by omega,by go_num,by rw [HS.out]; exact HRC.out,hbx1⟩
     case measure=>simp [intOf]; omega
    ·have HS:=Lib.hid (show dueS (b.steps.take (k + 1))=OL ++ [x.name] by rw [HT.out]; simp [h3])
     have hnew:∀ (j:Nat) v,([.string x.name]:List Value)[j]?=some v→((wr.alloc (.cells #[.string x.name,.int .i64 x.what,.bool x.early] 46)).alloc (.cells #[.string x.name] 9)).cell? ((⟨wr.heap.size + 1,0,none⟩:Addr).add j)=some v:=by
      have:=new_cells (wr.alloc (.cells #[.string x.name,.int .i64 x.what,.bool x.early] 46)) #[.string x.name] 9
      rwa [World.size_alloc] at this
     have HNw:=Lib.hid hnew
     have hbxx:=fr_alloc hbx1 (.cells #[.string x.name] 9)
     obtain ⟨_,rows,hrows,hown,hrep⟩:=(HRC.out).call (fr_alloc (fr_refl (wr.alloc (.cells #[.string x.name,.int .i64 x.what,.bool x.early] 46))) (.cells #[.string x.name] 9))
     have HP:=Lib.hid hrep
     have HOw:=Lib.hid hown
     have HKk:=Lib.hid (fun j hj=>(HRC.out.kind j hj).1)
     clear hnew hown hrep HT
     go_wp2_with (at_builtin; refine wpList_append_lies _ rfl _ _ 24 rfl W.heap.size 9 i0 _ 1 16 Tryz.underlying24 hi0 hz0 hz1 hz2 rfl (by decide) _ OL.length _ rfl HOw.out ⟨wr.heap.size + 1,0,none⟩ 1 1 [.string x.name] rfl rfl HNw.out (str_ones7 x.name) (by decide) (by unfold maxLen; omega) (by omega) hbxx.size _ rfl ?_)
     intro g' cap w9 hown' hgrow hat hlt'
     have hr9:=RowK.append (x:=x.name) (r:=[.string x.name]) (l:=OL) (fun k hh=>hh.elim) hrows HP.out ⟨rfl,hxn⟩ (fun _ _ hh=>hh) hgrow hown'
     have hb9:=hbxx.grown hgrow hbxx.size HKk.out
     have HR9:=Lib.hid hr9
     clear hown' hgrow hat hr9
     go_wp2
     go_roundw
     case rel=>exact ⟨k + 1,by omega,by go_num,by rw [HS.out]; exact HR9.out,hb9⟩
     case measure=>simp [intOf]; omega
   ·have HS:=Lib.hid (show dueS (b.steps.take (k + 1))=OL ++ [x.name] by rw [HT.out]; simp [h1])
    have hnew:∀ (j:Nat) v,([.string x.name]:List Value)[j]?=some v→((wr.alloc (.cells #[.string x.name,.int .i64 x.what,.bool x.early] 46)).alloc (.cells #[.string x.name] 9)).cell? ((⟨wr.heap.size + 1,0,none⟩:Addr).add j)=some v:=by
     have:=new_cells (wr.alloc (.cells #[.string x.name,.int .i64 x.what,.bool x.early] 46)) #[.string x.name] 9
     rwa [World.size_alloc] at this
    have HNw:=Lib.hid hnew
    have hbxx:=fr_alloc hbx1 (.cells #[.string x.name] 9)
    obtain ⟨_,rows,hrows,hown,hrep⟩:=(HRC.out).call (fr_alloc (fr_refl (wr.alloc (.cells #[.string x.name,.int .i64 x.what,.bool x.early] 46))) (.cells #[.string x.name] 9))
    have HP:=Lib.hid hrep
    have HOw:=Lib.hid hown
    have HKk:=Lib.hid (fun j hj=>(HRC.out.kind j hj).1)
    clear hnew hown hrep HT
    go_wp2_with (at_builtin; refine wpList_append_lies _ rfl _ _ 24 rfl W.heap.size 9 i0 _ 1 16 Tryz.underlying24 hi0 hz0 hz1 hz2 rfl (by decide) _ OL.length _ rfl HOw.out ⟨wr.heap.size + 1,0,none⟩ 1 1 [.string x.name] rfl rfl HNw.out (str_ones7 x.name) (by decide) (by unfold maxLen; omega) (by omega) hbxx.size _ rfl ?_)
    intro g' cap w9 hown' hgrow hat hlt'
    have hr9:=RowK.append (x:=x.name) (r:=[.string x.name]) (l:=OL) (fun k hh=>hh.elim) hrows HP.out ⟨rfl,hxn⟩ (fun _ _ hh=>hh) hgrow hown'
    have hb9:=hbxx.grown hgrow hbxx.size HKk.out
    have HR9:=Lib.hid hr9
    clear hown' hgrow hat hr9
    go_wp2
    go_roundw
    case rel=>exact ⟨k + 1,by omega,by go_num,by rw [HS.out]; exact HR9.out,hb9⟩
    case measure=>simp [intOf]; omega
  ·obtain rfl:k=n1:=by omega
   rw [List.take_of_length_le (by rw [HL.out]; exact Nat.le_refl _)] at hrow
   obtain ⟨A8,c8,rfl,h81,h82,s8⟩:=hrow.sl
   have H8:=Lib.hid s8
   clear hrow s8
   go_wp2
   go_ret2
   exact ⟨A8,_,c8,f,b,rfl,HBu.out,H8.out,fr_call HBW.out hbel⟩
end Go.Proofs.Sm
