/- There is a reason just for what is due: the given statement, for all arguments; no condition. -/
import Derived.Test.YtaabdbephemboaaGreatDoorBx1
import Derived.Test.YtaabdbephemboaaGreatDoorBx2
import Derived.Test.YtaabdbephemboaaGreatDoorBx3
import Derived.Test.YtaabdbephemboaaGreatDoorBx4
import Derived.Test.YtaabdbephemboaaGreatDoorBx5
import Derived.Test.YtaabdbephemboaaGreatDoorBx6
import Derived.Test.YtaabdbephemboaaGreatDoorBx7
import Derived.Test.YtaabdbephemboaaGreatDoorBx8
import Derived.Test.YtaabdbephemboaaGreatDoorBx9
import Derived.Test.YtaabdbephemboaaGreatDoorBx10
import Derived.Test.YtaabdbephemboaaGreatDoorBx11
import Derived.Test.YtaabdbephemboaaGreatDoorBx12
import Derived.Test.YtaabdbephemboaaGreatDoorBx13
import Derived.Test.YtaabdbephemboaaGreatDoorBx14
import Derived.Test.YtaabdbephemboaaGreatDoorBx15
import Derived.Test.YtaabdbephemboaaGreatDoorBx16
import Derived.Test.YtaabdbephemboaaGreatDoorBx17
import Derived.Test.YtaabdbephemboaaGreatDoorBx18
import Derived.Test.YtaabdbephemboaaGreatDoorBx19
import Derived.Test.YtaabdbephemboaaGreatDoorBx20
import Derived.Test.YtaabdbephemboaaGreatDoorBx21
import Derived.Test.YtaabdbephemboaaGreatDoorBx22
import Derived.Test.YtaabdbephemboaaGreatDoorBx23
import Derived.Test.YtaabdbephemboaaGreatDoorBx24
import Derived.Test.YtaabdbephemboaaGreatDoorBx25
import Derived.Test.YtaabdbephemboaaGreatDoorBx26
import Derived.Test.YtaabdbephemboaaGreatDoorBx27
import Derived.Test.YtaabdbephemboaaGreatDoorBx28
import Derived.Test.YtaabdbephemboaaGreatDoorBx29
import Derived.Test.YtaabdbephemboaaGreatDoorBx30
import Derived.Test.YtaabdbephemboaaGreatDoorBx31
import Derived.Test.YtaabdbephemboaaGreatDoorBx32
import Derived.Test.YtaabdbephemboaaGreatDoorBx33
import Derived.Test.YtaabdbephemboaaGreatDoorBx34
import Derived.Test.YtaabdbephemboaaGreatDoorBx35
import Derived.Test.YtaabdbephemboaaGreatDoorBx36
namespace Go.Proofs.Sm
open Go.RowKit
def edgesAt (l:List RuleV) (i:Nat):List VarV:=(needAt (needsS l) i).map fun k=>⟨nameAt l i,nameAt l k⟩
def edgesTo (l:List RuleV) (i:Nat):List VarV:=(List.range i).flatMap (edgesAt l)
def edgesS (l:List RuleV):List VarV:=edgesTo l l.length
end Go.Proofs.Sm
namespace Go.Proofs.Sm
open Go.RowKit
section
variable {l:List RuleV} {mem:List MemoryV} {k:Nat} {ks:List Nat} {s:BSt} {r:RuleV}
theorem execOut_cases (r:RuleV) (F:List FileV) (m:Option MemoryV):(bothErr r.action F≠0∧execOut r F m=⟨0,false,none,bothErr r.action F⟩)∨(bothErr r.action F=0∧(execS r.action F).code≠0∧execOut r F m=⟨3,false,none,0⟩) ∨
 (bothErr r.action F=0∧(execS r.action F).code=0∧execOut r F m=⟨1,m.any fun y=>sameFsS y.result.files (execS r.action F).files,some (execS r.action F),0⟩):=by
 unfold execOut
 by_cases h:bothErr r.action F=0
 ·rw [if_neg (by simpa using h)]
  by_cases h1:(execS r.action F).code=0
  ·rw [if_neg (by simpa using h1)]; exact .inr (.inr ⟨h,h1,rfl⟩)
  ·rw [if_pos h1]; exact .inr (.inl ⟨h,h1,rfl⟩)
 ·rw [if_pos h]; exact .inl ⟨h,rfl⟩
end
end Go.Proofs.Sm
namespace Go.Proofs.Sm
open Go.RowKit
def namesAt (l:List RuleV) (out:List Nat):List ByteArray:=out.map (nameAt l)
end Go.Proofs.Sm
namespace Go.Proofs.Sm
open Go.RowKit
theorem list_eq {x y:ByteArray} (h:x.toList=y.toList):x=y:=bytes_eq (by rw [←Lib.toList_data,←Lib.toList_data]; exact h)
theorem idxAll_mem {l:List RuleV}:∀ {ws:List ByteArray} {ks:List Nat},idxAll l ws=some ks→∀ x∈ws,∃ k∈ks,idxName l x=some k
 | [],ks,h,x,hx=>by simp at hx
 | s :: r,ks,h,x,hx=>by
   rw [idxAll] at h
   split at h
   ·cases h
   ·rename_i j hj
    cases hr:idxAll l r with
    | none=>rw [hr] at h; cases h
    | some m =>
      rw [hr] at h; cases h
      rcases List.mem_cons.1 hx with rfl | hx
      ·exact ⟨j,by simp,hj⟩
      ·obtain ⟨k,hk,he⟩:=idxAll_mem hr x hx
       exact ⟨k,by simp [hk],he⟩
theorem idxAll_of {l:List RuleV}:∀ {ws:List ByteArray} {ks:List Nat},idxAll l ws=some ks→∀ k∈ks,∃ x∈ws,idxName l x=some k
 | [],ks,h,k,hk=>by cases h; simp at hk
 | s :: r,ks,h,k,hk=>by
   rw [idxAll] at h
   split at h
   ·cases h
   ·rename_i j hj
    cases hr:idxAll l r with
    | none=>rw [hr] at h; cases h
    | some m =>
      rw [hr] at h; cases h
      rcases List.mem_cons.1 hk with rfl | hk
      ·exact ⟨s,by simp,hj⟩
      ·obtain ⟨x,hx,he⟩:=idxAll_of hr k hk
       exact ⟨x,by simp [hx],he⟩
theorem idxName_at {l:List RuleV} {x:ByteArray} {k:Nat} (h:idxName l x=some k):nameAt l k=x:=by
 obtain ⟨_,r,hr,he⟩:=idxName_some h
 rw [nameAt_some hr]
 exact list_eq he
theorem names_one {l:List RuleV} (h:checkRulesS l=0) {i j:Nat} (hi:i < l.length) (hj:j < l.length) (he:nameAt l i=nameAt l j):i=j:=by
 have hs:=(rules_sorted h).1
 obtain ⟨x,hx⟩:=at_lt hi
 obtain ⟨y,hy⟩:=at_lt hj
 rw [nameAt_some hx,nameAt_some hy] at he
 have no:¬ ltS x.name y.name=true:=fun h=>ltS_ne h (by rw [he])
 have no':¬ ltS y.name x.name=true:=fun h=>ltS_ne h (by rw [he])
 rcases Nat.lt_trichotomy i j with h1 | h1 | h1
 ·exact absurd (hs i j _ _ h1 (asFiles_at hx) (asFiles_at hy)) no
 ·exact h1
 ·exact absurd (hs j i _ _ h1 (asFiles_at hy) (asFiles_at hx)) no'
theorem edges_mem {l:List RuleV} {e:VarV}:e∈edgesS l↔∃ i m,i < l.length∧m∈needAt (needsS l) i∧e=⟨nameAt l i,nameAt l m⟩:=by
 rw [edgesS,edgesTo,List.mem_flatMap]
 constructor
 ·rintro ⟨i,hi,he⟩
  rw [edgesAt,List.mem_map] at he
  obtain ⟨m,hm,rfl⟩:=he
  exact ⟨i,m,by simpa using hi,hm,rfl⟩
 ·rintro ⟨i,m,hi,hm,rfl⟩
  exact ⟨i,by simpa using hi,List.mem_map.2 ⟨m,hm,rfl⟩⟩
theorem namesAt_at {l:List RuleV} {out:List Nat} {k:Nat} {x:ByteArray} (h:(namesAt l out)[k]?=some x):∃ i,out[k]?=some i∧nameAt l i=x:=by
 rw [namesAt,List.getElem?_map] at h
 cases ho:out[k]? with
 | none=>rw [ho] at h; cases h
 | some i=>rw [ho] at h; cases h; exact ⟨i,rfl,rfl⟩
theorem namesAt_take (l:List RuleV) (out:List Nat) (k:Nat):(namesAt l out).take k=namesAt l (out.take k):=by rw [namesAt,namesAt,List.map_take]
theorem namesAt_drop (l:List RuleV) (out:List Nat) (k:Nat):(namesAt l out).drop k=namesAt l (out.drop k):=by rw [namesAt,namesAt,List.map_drop]
theorem nodup_take {out:List Nat} (h:out.Nodup) {k i:Nat} (hi:out[k]?=some i):i ∉ out.take k:=by
 intro hm
 obtain ⟨j,hj⟩:=List.getElem?_of_mem hm
 rw [List.getElem?_take] at hj
 split at hj
 ·rename_i hlt
  obtain ⟨h1,h2⟩:=List.getElem?_eq_some_iff.1 hi
  obtain ⟨h3,h4⟩:=List.getElem?_eq_some_iff.1 hj
  have:=(List.getElem_inj h).1 (h4.trans h2.symm)
  omega
 ·cases hj
structure Stood (l:List RuleV) (ws names:List ByteArray):Prop where
 want:∀ x∈ws,x∈names
 once:∀ (k:Nat) (x:ByteArray),names[k]?=some x→x ∉ names.take k
 behind:∀ (k:Nat) (x:ByteArray),names[k]?=some x→∀ e∈edgesS l,e.name=x→e.value∈names.take k
 used:∀ (k:Nat) (x:ByteArray),names[k]?=some x→x∈ws∨∃ e∈edgesS l,e.value=x∧e.name∈names.drop k
theorem stood {l:List RuleV} {ws:List ByteArray} {out:List Nat} (hc:checkRulesS l=0) (hp:PlanIs l ws out):Stood l ws (namesAt l out):=by
 obtain ⟨ks,s,hks,hcl,rfl⟩:=hp
 have hpart:=hcl.part hc
 have hd:=orderS_done (needsS l) (isOf s)
 have hb:=orderS_behind (needsS l) (isOf s)
 have hin:∀ i,s[i]?=some true→i∈(orderS (needsS l) (isOf s)).1:=fun i hi =>
  order_has hpart (by rw [←hcl.len]; exact (List.getElem?_eq_some_iff.1 hi).1) (by simp [isOf,hi])
 have hso:∀ i∈(orderS (needsS l) (isOf s)).1,s[i]?=some true:=fun i hi=>by simpa [isOf] using hd.inn i hi
 have hlt:∀ i∈(orderS (needsS l) (isOf s)).1,i < l.length:=fun i hi=>by have:=hd.lt i hi; rwa [needsS_length] at this
 generalize (orderS (needsS l) (isOf s)).1=out at hd hb hin hso hlt
 refine ⟨fun x hx=>?_,fun k x hx hm=>?_,fun k x hx e he hn=>?_,fun k x hx=>?_⟩
 ·obtain ⟨k,hk,he⟩:=idxAll_mem hks x hx
  rw [←idxName_at he]
  exact List.mem_map.2 ⟨k,hin k (hcl.has k hk),rfl⟩
 ·obtain ⟨i,hi,rfl⟩:=namesAt_at hx
  rw [namesAt_take,namesAt,List.mem_map] at hm
  obtain ⟨j,hj,he⟩:=hm
  have:=names_one hc (hlt j (List.mem_of_mem_take hj)) (hlt i (List.mem_of_getElem? hi)) he
  subst this
  exact nodup_take hd.nodup hi hj
 ·obtain ⟨i,hi,rfl⟩:=namesAt_at hx
  obtain ⟨i',m,hi',hm,rfl⟩:=edges_mem.1 he
  have:=names_one hc hi' (hlt i (List.mem_of_getElem? hi)) hn
  subst this
  rw [namesAt_take]
  exact List.mem_map.2 ⟨m,hb k i' hi m hm,rfl⟩
 ·obtain ⟨i,hi,rfl⟩:=namesAt_at hx
  have hm:=List.mem_of_getElem? hi
  have:=hcl.least (fun i=>s[i]?=some true∧(i∈ks∨∃ j,s[j]?=some true∧i∈needAt (needsS l) j)) (fun k hk=>⟨hcl.has k hk,.inl hk⟩)
   (fun j hj k hk=>⟨hcl.closed j hj.1 k hk,.inr ⟨j,hj.1,hk⟩⟩) i (hso i hm)
  rcases this.2 with h | ⟨j,hj,hn⟩
  ·obtain ⟨x,hx,he⟩:=idxAll_of hks i h
   rw [idxName_at he]; exact .inl hx
  ·refine .inr ⟨⟨nameAt l j,nameAt l i⟩,edges_mem.2 ⟨j,i,hlt j (hin j hj),hn,rfl⟩,rfl,?_⟩
   rw [namesAt_drop]
   refine List.mem_map.2 ⟨j,?_,rfl⟩
   obtain ⟨p,hp⟩:=List.getElem?_of_mem (hin j hj)
   have h1:=hb p j hp i hn
   have h2:¬ p≤k:=fun hpk=>by
    refine nodup_take hd.nodup hi ?_
    exact List.take_subset_take_left _ hpk h1
   rw [List.mem_iff_getElem?]
   exact ⟨p - k,by rw [List.getElem?_drop,show k + (p - k)=p by omega]; exact hp⟩
end Go.Proofs.Sm
namespace Go.Proofs.Sm
open Go.RowKit
def findF (h:List FileV) (p:ByteArray):Option FileV:=h.find? (eqp p)
theorem findF_by (h:List FileV) (p:ByteArray):findF h p=findBy FileV.path h p.data.toList:=by
 unfold findF findBy
 congr 1
 funext y
 rw [eqp,data_beq]
theorem findF_put (h:List FileV) (x:FileV) (p:ByteArray):findF (putFileS h x) p=if p.toList=x.path.toList then some x else findF h p:=by
 rw [findF_by,findF_by,putFile_by,find_put]
 simp only [ByteArray.toList_eq]
theorem fold_off {p:ByteArray}:∀ {fs h:List FileV},(∀ x∈fs,¬ x.path.toList=p.toList)→findF (fs.foldl putFileS h) p=findF h p
 | [],_,_=>rfl
 | x :: fs,h,e=>by
   rw [List.foldl_cons,fold_off fun y hy=>e y (List.mem_cons_of_mem _ hy),findF_put,if_neg fun hx=>e x (List.mem_cons_self ..) hx.symm]
theorem inputs_same {h h':List FileV} {r:RuleV} (e:∀ p∈r.inputs,findF h p=findF h' p):inputsS h r=inputsS h' r:=by
 unfold inputsS
 generalize r.inputs=l at e
 induction l with
 | nil=>rfl
 | cons p l ih => 
   have e1:h.find? (eqp p)=h'.find? (eqp p):=e p (List.mem_cons_self ..)
   rw [List.filterMap_cons,List.filterMap_cons,e1,ih fun q hq=>e q (List.mem_cons_of_mem _ hq)]
theorem outs_lt {l:List RuleV} {k:Nat} {p:ByteArray} (h:p∈outsAt l k):k < l.length:=by
 rcases Nat.lt_or_ge k l.length with hi | hi
 ·exact hi
 ·rw [outsAt,List.getElem?_eq_none hi] at h; simp at h
theorem needs_of {l:List RuleV} {k j:Nat} {r:RuleV} (hr:l[k]?=some r) {p q:ByteArray} (hp:p∈r.inputs) (hq:q∈outsAt l j) (e:q.toList=p.toList):j∈needAt (needsS l) k:=by
 rw [needs_at (List.getElem?_eq_some_iff.1 hr).1,List.mem_filter,List.mem_range]
 refine ⟨outs_lt hq,?_⟩
 rw [usesS,List.any_eq_true]
 refine ⟨q,hq,?_⟩
 rw [hasB,List.any_eq_true]
 exact ⟨p,by rw [insAt_some hr]; exact hp,by rw [e]; simp⟩
def NoOut (l:List RuleV) (p:ByteArray):Prop:=∀ k,∀ q∈outsAt l k,¬ q.toList=p.toList
def OutOk (r:RuleV) (o:OutV):Prop:=∀ x,o.res=some x→x.files.map FileV.path=r.action.outputs
def MemGood (l:List RuleV) (mem:List MemoryV):Prop:=∀ (k:Nat) (r:RuleV) (m:MemoryV),l[k]?=some r→findM mem r.name=some m→m.result.files.map FileV.path=r.action.outputs
theorem memGood_serves {l:List RuleV} (hb:ByPath RuleV.name l) (m:List MemoryV):MemGood l (servesS l m):=fun k r y hr hy=>by
 obtain ⟨h1,h2⟩:=findM_some hy
 have h3:=(List.mem_filter.1 h1).2
 unfold servesP at h3
 rw [idxName_own hb hr h2.symm] at h3
 simp only [hr,Option.any_some] at h3
 exact of_decide_eq_true h3
theorem execOut_ok (r:RuleV) (F:List FileV) (m:Option MemoryV):OutOk r (execOut r F m):=fun x hx=>by
 rcases execOut_cases r F m with ⟨_,he⟩ | ⟨_,_,he⟩ | ⟨hb,hc,he⟩
 ·rw [he] at hx; cases hx
 ·rw [he] at hx; cases hx
 ·rw [he] at hx; cases hx
  exact (exec_right hb).2.1.good hc
theorem outS_ok {l:List RuleV} {g:Graph} {mem:List MemoryV} {r:RuleV} {k:Nat} {s:BSt} (hm:MemGood l mem) (hr:l[k]?=some r):OutOk r (outS g mem r k s):=by
 intro x hx
 unfold outS at hx
 split at hx
 ·cases hx
 split at hx
 ·rename_i m hf
  split at hx
  ·cases hx
   exact hm k r m hr hf
  ·exact execOut_ok _ _ _ x hx
 ·exact execOut_ok _ _ _ x hx
theorem take_off {r:RuleV} {k:Nat} {o:OutV} {s:BSt} {p:ByteArray} (ho:OutOk r o) (hp:∀ q∈r.action.outputs,¬ q.toList=p.toList):findF (takeS r k o s).have_ p=findF s.have_ p:=by
 show findF (o.res.elim s.have_ fun x=>x.files.foldl putFileS s.have_) p=_
 cases h:o.res with
 | none=>rfl
 | some x=>exact fold_off fun y hy e=>hp y.path (by rw [←ho x h]; exact List.mem_map.2 ⟨y,hy,rfl⟩) e
structure Ok1 (l:List RuleV) (files:List FileV) (done:List Nat) (s:BSt):Prop where
 len:s.bad.length=l.length
 off:∀ k,k ∉ done→isOf s.bad k=false
 src:∀ p,NoOut l p→findF s.have_ p=findF files p
 many:s.steps.length=done.length
theorem isOf_set {b:List Bool} {k j:Nat} (h:j≠k):isOf (b.set k true) j=isOf b j:=by
 unfold isOf
 rw [List.getElem?_set_ne fun e=>h e.symm]
theorem isOf_replicate (n k:Nat):isOf (List.replicate n false) k=false:=by
 unfold isOf
 rw [List.getElem?_replicate]
 split <;> rfl
theorem Ok1.start (l:List RuleV) (files:List FileV) (K:List MemoryV):Ok1 l files [] ⟨files,List.replicate l.length false,[],K⟩ :=
 ⟨List.length_replicate,fun k _=>isOf_replicate _ k,fun _ _=>rfl,rfl⟩
theorem Ok1.take {l:List RuleV} {files:List FileV} {done:List Nat} {s:BSt} {k:Nat} {r:RuleV} {o:OutV} (h:Ok1 l files done s) (hr:l[k]?=some r) (ho:OutOk r o):Ok1 l files (done ++ [k]) (takeS r k o s):=by
 refine ⟨?_,fun j hj=>?_,fun p hp=>?_,?_⟩
 ·show (if o.res.isNone then s.bad.set k true else s.bad).length=_
  split
  ·rw [List.length_set]; exact h.len
  ·exact h.len
 ·have h1:j ∉ done:=fun e=>hj (by simp [e])
  have h2:j≠k:=fun e=>hj (by simp [e])
  show isOf (if o.res.isNone then s.bad.set k true else s.bad) j=false
  split
  ·rw [isOf_set h2]; exact h.off j h1
  ·exact h.off j h1
 ·rw [take_off ho fun q hq=>hp k q (by rw [outsAt_some hr]; exact hq)]
  exact h.src p hp
 ·show (s.steps ++ [_]).length=_
  rw [List.length_append,List.length_append,h.many]; rfl
theorem steps_pre {l:List RuleV} {mem:List MemoryV}:∀ (ks:List Nat) (s:BSt),∃ more,(stepsS l mem ks s).2.steps=s.steps ++ more
 | [],s=>⟨[],(List.append_nil _).symm⟩
 | k :: ks,s=>by
   cases hr:l[k]? with
   | none =>
     obtain ⟨m,hm⟩:=steps_pre (l:=l) (mem:=mem) ks s
     exact ⟨m,by rw [stepsS,hr]; exact hm⟩
   | some r =>
     by_cases hf:(outS (needsS l) mem r k s).fault=0
     ·obtain ⟨m,hm⟩:=steps_pre (l:=l) (mem:=mem) ks (takeS r k (outS (needsS l) mem r k s) s)
      refine ⟨[⟨r.name,(outS (needsS l) mem r k s).what,(outS (needsS l) mem r k s).early⟩] ++ m,?_⟩
      rw [steps_go hr hf,hm,←List.append_assoc]
      rfl
     ·exact ⟨[],by rw [steps_stop hr hf]; exact (List.append_nil _).symm⟩
theorem two_at {l:List RuleV} {mem mem':List MemoryV} {order:List Nat} {S T:BSt} {R:List Nat→BSt→BSt→Prop}
 (hstep:∀ (done:List Nat) (k:Nat) (rest:List Nat) (r:RuleV) (s t:BSt),order=done ++ k :: rest→l[k]?=some r→R done s t→(outS (needsS l) mem r k s).fault=0→(outS (needsS l) mem' r k t).fault=0 →
   (stepsS l mem rest (takeS r k (outS (needsS l) mem r k s) s)).2=S→(stepsS l mem' rest (takeS r k (outS (needsS l) mem' r k t) t)).2=T→R (done ++ [k]) (takeS r k (outS (needsS l) mem r k s) s) (takeS r k (outS (needsS l) mem' r k t) t)) :
 ∀ (ks done:List Nat) (s t:BSt),order=done ++ ks→(∀ k∈ks,k < l.length)→R done s t→s.steps.length=done.length→t.steps.length=done.length→(stepsS l mem ks s).1=0→(stepsS l mem' ks t).1=0→(stepsS l mem ks s).2=S→(stepsS l mem' ks t).2=T →
  R order S T∧S.steps.length=order.length∧T.steps.length=order.length∧∀ (i k:Nat) (r:RuleV),ks[i]?=some k→l[k]?=some r→∃ s' t',R (done ++ ks.take i) s' t'∧S.steps.take (done.length + i)=s'.steps∧T.steps.take (done.length + i)=t'.steps ∧
   S.steps[done.length + i]?=some ⟨r.name,(outS (needsS l) mem r k s').what,(outS (needsS l) mem r k s').early⟩∧T.steps[done.length + i]?=some ⟨r.name,(outS (needsS l) mem' r k t').what,(outS (needsS l) mem' r k t').early⟩ ∧
   (outS (needsS l) mem r k s').fault=0∧(outS (needsS l) mem' r k t').fault=0∧(stepsS l mem (ks.drop (i + 1)) (takeS r k (outS (needsS l) mem r k s') s')).2=S∧(stepsS l mem' (ks.drop (i + 1)) (takeS r k (outS (needsS l) mem' r k t') t')).2=T
 | [],done,s,t,ho,_,hR,hs,ht,_,_,e1,e2=>by
   rw [List.append_nil] at ho
   subst ho e1 e2
   exact ⟨hR,hs,ht,fun i k r hk=>by cases hk⟩
 | k :: ks,done,s,t,ho,hl,hR,hs,ht,h1,h2,e1,e2=>by
   obtain ⟨r,hr⟩:=at_lt (hl k (List.mem_cons_self ..))
   by_cases hf:(outS (needsS l) mem r k s).fault=0
   ·by_cases hf':(outS (needsS l) mem' r k t).fault=0
    ·rw [steps_go hr hf] at h1 e1
     rw [steps_go hr hf'] at h2 e2
     have hR':=hstep done k ks r s t ho hr hR hf hf' e1 e2
     have hs':(takeS r k (outS (needsS l) mem r k s) s).steps.length=(done ++ [k]).length:=by
      show (s.steps ++ [_]).length=_
      rw [List.length_append,List.length_append,hs]; rfl
     have ht':(takeS r k (outS (needsS l) mem' r k t) t).steps.length=(done ++ [k]).length:=by
      show (t.steps ++ [_]).length=_
      rw [List.length_append,List.length_append,ht]; rfl
     obtain ⟨g1,g2,g3,g4⟩:=two_at hstep ks (done ++ [k]) _ _ (by rw [ho]; simp) (fun j hj=>hl j (List.mem_cons_of_mem _ hj)) hR' hs' ht' h1 h2 e1 e2
     refine ⟨g1,g2,g3,fun i j q hj hq=>?_⟩
     cases i with
     | zero =>
       cases hj
       rw [hr] at hq; cases hq
       obtain ⟨m1,p1⟩:=steps_pre (l:=l) (mem:=mem) ks (takeS r k (outS (needsS l) mem r k s) s)
       obtain ⟨m2,p2⟩:=steps_pre (l:=l) (mem:=mem') ks (takeS r k (outS (needsS l) mem' r k t) t)
       rw [e1] at p1
       rw [e2] at p2
       change S.steps=(s.steps ++ [_]) ++ m1 at p1
       change T.steps=(t.steps ++ [_]) ++ m2 at p2
       refine ⟨s,t,by simpa using hR,?_,?_,?_,?_,hf,hf',e1,e2⟩
       ·rw [p1,List.append_assoc,Nat.add_zero,←hs,List.take_left']; rfl
       ·rw [p2,List.append_assoc,Nat.add_zero,←ht,List.take_left']; rfl
       ·rw [p1,List.append_assoc,Nat.add_zero,←hs,List.getElem?_append_right (Nat.le_refl _),Nat.sub_self]; rfl
       ·rw [p2,List.append_assoc,Nat.add_zero,←ht,List.getElem?_append_right (Nat.le_refl _),Nat.sub_self]; rfl
     | succ i =>
       have:=g4 i j q hj hq
       rw [List.length_append,List.length_singleton,Nat.add_assoc,Nat.add_comm 1 i,List.append_assoc] at this
       exact this
    ·rw [steps_stop hr hf'] at h2
     exact absurd h2 hf'
   ·rw [steps_stop hr hf] at h1
    exact absurd h1 hf
end Go.Proofs.Sm
namespace Go.Proofs.Sm
open Go.RowKit
theorem cut_order {g:Graph} {order done rest:List Nat} {k:Nat} (hn:order.Nodup) (hb:Behind g order) (e:order=done ++ k :: rest):k ∉ done∧k ∉ rest∧∀ j∈needAt g k,j∈done:=by
 subst e
 have h1:=List.nodup_append.1 hn
 refine ⟨fun h=>h1.2.2 k h k (List.mem_cons_self ..) rfl,(List.nodup_cons.1 h1.2.1).1,fun j hj=>?_⟩
 have h2:=hb done.length k (by rw [List.getElem?_append_right (Nat.le_refl _),Nat.sub_self]; rfl) j hj
 rwa [List.take_left' rfl] at h2
theorem plan_behind {l:List RuleV} {wanted:List ByteArray} {order:List Nat} (h:PlanIs l wanted order):Behind (needsS l) order:=by
 obtain ⟨ks,s,_,_,rfl⟩:=h
 exact orderS_behind _ _
def dueS (steps:List StepV):List ByteArray:=(steps.filter fun t=>t.what == 1 || t.what == 3).map StepV.name
theorem due_mem {steps:List StepV} {n:ByteArray}:n∈dueS steps↔∃ (i:Nat) (t:StepV),steps[i]?=some t∧(t.what=1∨t.what=3)∧t.name=n:=by
 unfold dueS
 rw [List.mem_map]
 constructor
 ·rintro ⟨t,ht,rfl⟩
  obtain ⟨h1,h2⟩:=List.mem_filter.1 ht
  obtain ⟨i,hi⟩:=List.getElem?_of_mem h1
  exact ⟨i,t,hi,by simpa using h2,rfl⟩
 ·rintro ⟨i,t,hi,hw,rfl⟩
  exact ⟨t,List.mem_filter.2 ⟨List.mem_of_getElem? hi,by simpa using hw⟩,rfl⟩
end Go.Proofs.Sm
namespace Go.Proofs.Sm
open Go.RowKit
theorem plan_last {l:List RuleV} {name:ByteArray} {order:List Nat} (hc:checkRulesS l=0) (hp:PlanIs l [name] order):∃ pre k,order=pre ++ [k]∧idxName l name=some k:=by
 have hs:=stood hc hp
 obtain ⟨hnd,hlt⟩:=plan_parts hp
 obtain ⟨k0,hk0,he0⟩:=plan_wanted hc hp name (by simp)
 rcases List.eq_nil_or_concat order with rfl | ⟨pre,k,rfl⟩
 ·simp at hk0
 ·rw [List.concat_eq_append] at *
  refine ⟨pre,k,rfl,?_⟩
  have hx:(namesAt l (pre ++ [k]))[pre.length]?=some (nameAt l k):=by
   rw [namesAt,List.getElem?_map,List.getElem?_append_right (Nat.le_refl _),Nat.sub_self]; rfl
  have e:nameAt l k=name:=by
   rcases hs.used _ _ hx with h | ⟨e,he,h1,h2⟩
   ·simpa using h
   ·exfalso
    have h3:(namesAt l (pre ++ [k])).drop pre.length=[nameAt l k]:=by
     rw [namesAt_drop,List.drop_left' rfl]; rfl
    rw [h3] at h2
    have h4:=hs.behind _ _ hx e he (by simpa using h2)
    rw [h1] at h4
    exact hs.once _ _ hx h4
  have e0:=idxName_at he0
  have:=names_one hc (hlt k0 hk0) (hlt k (by simp)) (e0.trans e.symm)
  rw [←this]
  exact he0
theorem out_what {g:Graph} {mem:List MemoryV} {r:RuleV} {k:Nat} {s:BSt} (hf:(outS g mem r k s).fault=0):((outS g mem r k s).what=1∨(outS g mem r k s).what=2∨(outS g mem r k s).what=3∨(outS g mem r k s).what=4) ∧
 ((outS g mem r k s).what=1∨(outS g mem r k s).what=3→bothErr r.action (inputsS s.have_ r)=0):=by
 have key:∀ m,(execOut r (inputsS s.have_ r) m).fault=0→((execOut r (inputsS s.have_ r) m).what=1∨(execOut r (inputsS s.have_ r) m).what=2∨(execOut r (inputsS s.have_ r) m).what=3∨(execOut r (inputsS s.have_ r) m).what=4) ∧
  ((execOut r (inputsS s.have_ r) m).what=1∨(execOut r (inputsS s.have_ r) m).what=3→bothErr r.action (inputsS s.have_ r)=0):=by
  intro m hm
  rcases execOut_cases r (inputsS s.have_ r) m with ⟨hb,he⟩ | ⟨hb,hc,he⟩ | ⟨hb,hc,he⟩
  ·rw [he] at hm; exact absurd hm hb
  ·rw [he]; exact ⟨.inr (.inr (.inl rfl)),fun _=>hb⟩
  ·rw [he]; exact ⟨.inl rfl,fun _=>hb⟩
 unfold outS at hf ⊢
 split
 ·exact ⟨.inr (.inr (.inr rfl)),fun h=>by rcases h with h | h <;> cases h⟩
 ·rename_i h0
  rw [if_neg h0] at hf
  split
  ·rename_i m hm
   rw [hm] at hf
   simp only at hf
   split
   ·exact ⟨.inr (.inl rfl),fun h=>by rcases h with h | h <;> cases h⟩
   ·rename_i h1
    rw [if_neg h1] at hf
    exact key _ hf
  ·rename_i hm
   rw [hm] at hf
   exact key _ hf
structure BecauseIs (l:List RuleV) (name:ByteArray) (T:BSt) (k:Nat) (r:RuleV) (pre:List StepV) (x:StepV):Prop where
 idx:idxName l name=some k
 rule:l[k]?=some r
 steps:T.steps=pre ++ [x]
 what:x.what=1∨x.what=2∨x.what=3∨x.what=4
 due:name∈dueS T.steps↔x.what=1∨x.what=3
 files:x.what=1∨x.what=3→checkFilesS (inputsS T.have_ r)=0
theorem because_is {l:List RuleV} {files:List FileV} {name:ByteArray} {m:List MemoryV} {order:List Nat} (hp:PlanIs l [name] order) (h:buildErr l files [name] m order=0):∃ k r pre x,BecauseIs l name (runB l files m order).2 k r pre x:=by
 obtain ⟨h1,h2,h3⟩:=buildErr_parts h
 obtain ⟨g1,g2,g3,g4⟩:=buildErr0_parts h1
 have hc:=planErr_rules g1
 obtain ⟨hl,hb⟩:=rules_parts_by hc
 obtain ⟨hnd,hlt⟩:=plan_parts hp
 have hbe:=plan_behind hp
 obtain ⟨pre,k,ho,hi⟩:=plan_last hc hp
 have hg:=memGood_serves hb m
 have key:=two_at (l:=l) (mem:=servesS l m) (mem':=servesS l m) (order:=order) (S:=(runB l files m order).2) (T:=(runB l files m order).2) (R:=fun done s _=>Ok1 l files done s)
  (fun done k rest r s t _ hr hR _ _ _ _=>hR.take hr (outS_ok hg hr))
  order [] (startB l files m order) (startB l files m order) rfl hlt (Ok1.start ..) rfl rfl h2 h2 rfl rfl
 have hk:order[pre.length]?=some k:=by rw [ho,List.getElem?_append_right (Nat.le_refl _),Nat.sub_self]; rfl
 obtain ⟨r,hr⟩:=at_lt (hlt k (List.mem_of_getElem? hk))
 obtain ⟨s',_,hR,e1,_,x1,_,f1,_,e2,_⟩:=key.2.2.2 pre.length k r hk hr
 have hdrop:order.drop (pre.length + 1)=[]:=List.drop_eq_nil_of_le (by rw [ho]; simp)
 rw [hdrop] at e2
 change takeS r k (outS (needsS l) (servesS l m) r k s') s'=(runB l files m order).2 at e2
 obtain ⟨w1,w2⟩:=out_what f1
 have ho':order=order.take pre.length ++ k :: order.drop (pre.length + 1):=by rw [←drop_at hk,List.take_append_drop]
 obtain ⟨c1,c2,c3⟩:=cut_order hnd hbe ho'
 have hst:(runB l files m order).2.steps=s'.steps ++ [⟨r.name,(outS (needsS l) (servesS l m) r k s').what,(outS (needsS l) (servesS l m) r k s').early⟩]:=by rw [←e2]; rfl
 refine ⟨k,r,s'.steps,_,hi,hr,hst,w1,?_,fun hw=>?_⟩
 ·rw [List.length_nil,Nat.zero_add] at x1
  rw [due_mem]
  constructor
  ·rintro ⟨i,t,hit,hw,hname⟩
   have hil:i < order.length:=by rw [←key.2.1]; exact (List.getElem?_eq_some_iff.1 hit).1
   obtain ⟨j,hj⟩:=at_lt hil
   obtain ⟨q,hq⟩:=at_lt (hlt j (List.mem_of_getElem? hj))
   obtain ⟨_,_,_,_,_,y1,_⟩:=key.2.2.2 i j q hj hq
   rw [List.length_nil,Nat.zero_add,hit] at y1
   cases y1
   have hn:q.name=name:=hname
   have hjk:j=k:=names_one hc (hlt j (List.mem_of_getElem? hj)) (hlt k (List.mem_of_getElem? hk)) (by rw [nameAt_some hq,hn,idxName_at hi])
   subst hjk
   have hi2:i=pre.length:=by
    obtain ⟨u1,u2⟩:=List.getElem?_eq_some_iff.1 hj
    obtain ⟨v1,v2⟩:=List.getElem?_eq_some_iff.1 hk
    exact (List.getElem_inj hnd).1 (u2.trans v2.symm)
   subst hi2
   rw [hit] at x1
   have e:=Option.some.inj x1
   have e3:=congrArg StepV.what e
   simp only at e3 hw
   rw [←e3]
   exact hw
  ·intro hw
   exact ⟨pre.length,_,x1,hw,by rw [←nameAt_some hr]; exact idxName_at hi⟩
 ·have hb0:=w2 hw
  have e3:inputsS (runB l files m order).2.have_ r=inputsS s'.have_ r:=by
   rw [←e2]
   refine inputs_same fun p hp=>take_off (outS_ok hg hr) fun q hq e=>c1 (c3 k (needs_of hr hp (by rw [outsAt_some hr]; exact hq) e))
  rw [e3]
  exact (exec_right hb0).2.2
end Go.Proofs.Sm
namespace Go.Proofs.Sm
open Go.RowKit
section
variable {l:List RuleV} {F before files:List FileV} {ws other:List ByteArray} {ms:List MemoryV} {f g:Int} {a b x y:BuiltV}
theorem BuildIs.good (h:BuildIs l F ws ms 0 b):∃ order,PlanIs l ws order∧buildErr l F ws ms order=0∧b=builtOf l ws (runB l F ms order).2:=by
 have h0:buildErr0 l F ws ms=0:=Decidable.byContradiction fun e=>e (h.2.1 e).symm
 obtain ⟨order,h1,h2,h3⟩:=h.2.2 h0
 exact ⟨order,h1,h2.symm,h3 rfl⟩
theorem BuildIs.same (h:BuildIs l F ws ms 0 a) (h':BuildIs l F ws ms f b):f=0∧b=a:=by
 obtain ⟨o,h1,h2,rfl⟩:=h.good
 obtain ⟨e1,e2⟩:=h'.atPlan h1
 have e0:=e1.trans h2
 exact ⟨e0,e2 e0⟩
end
end Go.Proofs.Sm
