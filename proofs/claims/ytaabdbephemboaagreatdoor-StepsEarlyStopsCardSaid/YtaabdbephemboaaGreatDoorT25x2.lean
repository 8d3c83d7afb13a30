/- After a change a rule need not run if none of its sources changed, and all that it needs is as before, or Early: the given statement, for all arguments; no condition. -/
import Derived.Test.YtaabdbephemboaaGreatDoorBx1
import Derived.Test.YtaabdbephemboaaGreatDoorBx2
import Derived.Test.YtaabdbephemboaaGreatDoorBx3
import Derived.Test.YtaabdbephemboaaGreatDoorBx4
import Derived.Test.YtaabdbephemboaaGreatDoorBx5
import Derived.Test.YtaabdbephemboaaGreatDoorBx6
import Derived.Test.YtaabdbephemboaaGreatDoorBx7
import Derived.Test.YtaabdbephemboaaGreatDoorBx8
import Derived.Test.YtaabdbephemboaaGreatDoorBx9
import Derived.Test.YtaabdbephemboaaGreatDoorBx10
import Derived.Test.YtaabdbephemboaaGreatDoorBx11
import Derived.Test.YtaabdbephemboaaGreatDoorBx12
import Derived.Test.YtaabdbephemboaaGreatDoorBx13
import Derived.Test.YtaabdbephemboaaGreatDoorBx14
import Derived.Test.YtaabdbephemboaaGreatDoorBx15
import Derived.Test.YtaabdbephemboaaGreatDoorBx16
import Derived.Test.YtaabdbephemboaaGreatDoorBx17
import Derived.Test.YtaabdbephemboaaGreatDoorBx18
import Derived.Test.YtaabdbephemboaaGreatDoorBx19
import Derived.Test.YtaabdbephemboaaGreatDoorBx20
import Derived.Test.YtaabdbephemboaaGreatDoorBx21
import Derived.Test.YtaabdbephemboaaGreatDoorBx22
import Derived.Test.YtaabdbephemboaaGreatDoorBx23
import Derived.Test.YtaabdbephemboaaGreatDoorBx24
import Derived.Test.YtaabdbephemboaaGreatDoorBx25
import Derived.Test.YtaabdbephemboaaGreatDoorBx26
import Derived.Test.YtaabdbephemboaaGreatDoorBx27
import Derived.Test.YtaabdbephemboaaGreatDoorBx28
import Derived.Test.YtaabdbephemboaaGreatDoorBx29
import Derived.Test.YtaabdbephemboaaGreatDoorBx30
import Derived.Test.YtaabdbephemboaaGreatDoorBx31
import Derived.Test.YtaabdbephemboaaGreatDoorBx32
import Derived.Test.YtaabdbephemboaaGreatDoorBx33
import Derived.Test.YtaabdbephemboaaGreatDoorBx34
import Derived.Test.YtaabdbephemboaaGreatDoorBx35
import Derived.Test.YtaabdbephemboaaGreatDoorBx36
import Derived.Test.YtaabdbephemboaaGreatDoorT25x1
import Derived.Deep.QuietTactic
import Derived.BigQuiet
namespace Go.Proofs.Sm
open Go.RowKit
def addA (b:List FileV) (out:List ByteArray) (x:FileV):List ByteArray:=if b.any (sameF x) then out else out ++ [x.path]
def addB (a:List FileV) (out:List ByteArray) (x:FileV):List ByteArray:=if a.any (sameF x) then out else if out.any (eqS x.path) then out else out ++ [x.path]
def changedS (a b:List FileV):List ByteArray:=b.foldl (addB a) (a.foldl (addA b) [])
theorem addA_keeps {b:List FileV} {out:List ByteArray} {x:FileV} {p:ByteArray} (h:p∈out):p∈addA b out x:=by
 unfold addA
 split
 ·exact h
 ·simp [h]
theorem addB_keeps {a:List FileV} {out:List ByteArray} {x:FileV} {p:ByteArray} (h:p∈out):p∈addB a out x:=by
 unfold addB
 split
 ·exact h
 split
 ·exact h
 ·simp [h]
theorem foldA_keeps {b:List FileV} {p:ByteArray}:∀ {a:List FileV} {out:List ByteArray},p∈out→p∈a.foldl (addA b) out
 | [],_,h=>h
 | _ :: _,_,h=>by rw [List.foldl_cons]; exact foldA_keeps (addA_keeps h)
theorem foldB_keeps {a:List FileV} {p:ByteArray}:∀ {b:List FileV} {out:List ByteArray},p∈out→p∈b.foldl (addB a) out
 | [],_,h=>h
 | _ :: _,_,h=>by rw [List.foldl_cons]; exact foldB_keeps (addB_keeps h)
theorem foldA_adds {b:List FileV} {x:FileV} (hx:b.any (sameF x)=false):∀ {a:List FileV} {out:List ByteArray},x∈a→x.path∈a.foldl (addA b) out
 | [],_,h=>absurd h List.not_mem_nil
 | y :: a,out,h=>by
   rw [List.foldl_cons]
   rcases List.mem_cons.1 h with rfl | h
   ·refine foldA_keeps ?_
    unfold addA
    rw [if_neg (by rw [hx]; decide)]
    simp
   ·exact foldA_adds hx h
theorem foldB_adds {a:List FileV} {x:FileV} (hx:a.any (sameF x)=false):∀ {b:List FileV} {out:List ByteArray},x∈b→x.path∈b.foldl (addB a) out
 | [],_,h=>absurd h List.not_mem_nil
 | y :: b,out,h=>by
   rw [List.foldl_cons]
   rcases List.mem_cons.1 h with rfl | h
   ·refine foldB_keeps ?_
    unfold addB
    rw [if_neg (by rw [hx]; decide)]
    split
    ·rename_i h1; exact any_eqS.1 h1
    ·simp
   ·exact foldB_adds hx h
theorem hasB_mem {l:List ByteArray} {p q:ByteArray} (h:q∈l) (e:q.toList=p.toList):hasB l p=true:=by
 rw [hasB,List.any_eq_true]
 exact ⟨q,h,by rw [e]; simp⟩
theorem unchanged {a b:List FileV} (_ha:ByPath FileV.path a) (hb:ByPath FileV.path b) {p:ByteArray} (h:hasB (changedS a b) p=false):findF a p=findF b p:=by
 have no:∀ q∈changedS a b,¬ q.toList=p.toList:=fun q hq e=>by rw [hasB_mem hq e] at h; cases h
 cases h1:findF a p with
 | some x =>
   obtain ⟨hx,ex⟩:=findF_some h1
   cases h2:b.any (sameF x) with
   | true =>
     obtain ⟨y,hy,e⟩:=List.any_eq_true.1 h2
     obtain rfl:=sameF_eq e
     exact (findF_mem hb hy ex).symm
   | false=>exact absurd ex (no _ (foldB_keeps (foldA_adds h2 hx)))
 | none =>
   cases h2:findF b p with
   | none=>rfl
   | some y =>
     obtain ⟨hy,ey⟩:=findF_some h2
     cases h3:a.any (sameF y) with
     | true =>
       obtain ⟨x,hx,e⟩:=List.any_eq_true.1 h3
       obtain rfl:=sameF_eq e
       exact absurd ey (findF_none h1 _ hx)
     | false=>exact absurd ey (no _ (foldB_adds h3 hy))
theorem cut_order {g:Graph} {order done rest:List Nat} {k:Nat} (hn:order.Nodup) (hb:Behind g order) (e:order=done ++ k :: rest):k ∉ done∧k ∉ rest∧∀ j∈needAt g k,j∈done:=by
 subst e
 have h1:=List.nodup_append.1 hn
 refine ⟨fun h=>h1.2.2 k h k (List.mem_cons_self ..) rfl,(List.nodup_cons.1 h1.2.1).1,fun j hj=>?_⟩
 have h2:=hb done.length k (by rw [List.getElem?_append_right (Nat.le_refl _),Nat.sub_self]; rfl) j hj
 rwa [List.take_left' rfl] at h2
theorem plan_behind {l:List RuleV} {wanted:List ByteArray} {order:List Nat} (h:PlanIs l wanted order):Behind (needsS l) order:=by
 obtain ⟨ks,s,_,_,rfl⟩:=h
 exact orderS_behind _ _
theorem names_off {l:List RuleV} (hb:ByPath RuleV.name l) {k:Nat} {rest:List Nat} {r:RuleV} (hr:l[k]?=some r) (h:k ∉ rest):NamesOff l rest r.name:=fun _ hj _ hq=>by_differ hb hq hr fun e=>h (e ▸ hj)
structure Two (l:List RuleV) (before files:List FileV) (done:List Nat) (s t:BSt):Prop where
 one:Ok1 l before done s
 two:Ok1 l files done t
 off:∀ (k:Nat) (r:RuleV),l[k]?=some r→k ∉ done→findM s.kept r.name=none
theorem Two.start (l:List RuleV) (before files:List FileV):Two l before files [] ⟨before,List.replicate l.length false,[],[]⟩ ⟨files,List.replicate l.length false,[],[]⟩ :=
 ⟨Ok1.start ..,Ok1.start ..,fun _ _ _ _=>rfl⟩
theorem Two.take {l:List RuleV} {before files:List FileV} {done:List Nat} {s t:BSt} {k:Nat} {r:RuleV} {o o':OutV} (hb:ByPath RuleV.name l) (h:Two l before files done s t) (hr:l[k]?=some r) (ho:OutOk r o) (ho':OutOk r o'):Two l before files (done ++ [k]) (takeS r k o s) (takeS r k o' t):=by
 refine ⟨h.one.take hr ho,h.two.take hr ho',fun j q hq hj=>?_⟩
 have h1:=h.off j q hq fun e=>hj (by simp [e])
 show findM (o.res.elim s.kept fun x=>putM s.kept (memOf r x)) q.name=none
 cases o.res with
 | none=>exact h1
 | some x =>
   show findM (putM s.kept (memOf r x)) q.name=none
   rw [findM_other (by_differ hb hq hr fun e=>hj (by simp [e]))]
   exact h1
theorem again_out {g:Graph} {mem:List MemoryV} {r:RuleV} {k:Nat} {s t:BSt} (hf:(outS g [] r k s).fault=0) (hm:findM mem r.name=(outS g [] r k s).res.map (memOf r)) (hb:(needAt g k).any (isOf t.bad)=(needAt g k).any (isOf s.bad))
 (hi:(needAt g k).any (isOf s.bad)=false→inputsS t.have_ r=inputsS s.have_ r):(outS g mem r k t).res=(outS g [] r k s).res∧(⟨r.name,(outS g mem r k t).what,(outS g mem r k t).early⟩:StepV)=againStep ⟨r.name,(outS g [] r k s).what,(outS g [] r k s).early⟩:=by
 have hout:=outS_none (g:=g) (mem:=[]) (r:=r) (k:=k) (s:=s) rfl
 by_cases hd:(needAt g k).any (isOf s.bad)=true
 ·rw [if_pos hd] at hout
  have h2:outS g mem r k t=⟨4,false,none,0⟩:=by unfold outS; rw [hb,if_pos hd]
  rw [h2,hout]; exact ⟨rfl,rfl⟩
 ·rw [if_neg hd] at hout
  have hi:=hi (by simpa using hd)
  rcases execOut_cases r (inputsS s.have_ r) none with ⟨hb',he⟩ | ⟨hb',hc,he⟩ | ⟨hb',hc,he⟩
  ·rw [hout,he] at hf; exact absurd hf hb'
  ·rw [he] at hout
   rw [hout] at hm
   have h2:outS g mem r k t=⟨3,false,none,0⟩:=by
    rw [outS_none (show findM mem r.name=none from hm),hb,if_neg hd,hi]; exact he
   rw [h2,hout]; exact ⟨rfl,rfl⟩
  ·rw [he] at hout
   rw [hout] at hm
   have h2:outS g mem r k t=⟨2,false,some (execS r.action (inputsS s.have_ r)),0⟩:=by
    rw [outS_some (show findM mem r.name=some (memOf r (execS r.action (inputsS s.have_ r))) from hm),hb,if_neg hd,hi,if_pos (mem_stands hb')]; rfl
   rw [h2,hout]; exact ⟨rfl,rfl⟩
theorem near_out {g:Graph} {mem:List MemoryV} {r:RuleV} {k:Nat} {t:BSt} {o:OutV} (hm:findM mem r.name=o.res.map (memOf r)) (h:(outS g mem r k t).what=2∨(outS g mem r k t).early=true):o.res.map ResultV.files=(outS g mem r k t).res.map ResultV.files:=by
 cases hx:o.res with
 | none =>
   rw [hx] at hm
   rw [outS_none (show findM mem r.name=none from hm)] at h ⊢
   split at h
   ·rcases h with h | h <;> cases h
   ·rcases execOut_cases r (inputsS t.have_ r) none with ⟨_,he⟩ | ⟨_,_,he⟩ | ⟨_,_,he⟩ <;> rw [he] at h <;> rcases h with h | h <;> cases h
 | some x =>
   rw [hx] at hm
   rw [outS_some (show findM mem r.name=some (memOf r x) from hm)] at h ⊢
   split at h
   ·rcases h with h | h <;> cases h
   rename_i h0
   rw [if_neg h0]
   split at h
   ·rename_i h1
    rw [if_pos h1]; rfl
   ·rename_i h1
    rw [if_neg h1]
    rcases execOut_cases r (inputsS t.have_ r) (some (memOf r x)) with ⟨_,he⟩ | ⟨_,_,he⟩ | ⟨_,_,he⟩
    ·rw [he] at h; rcases h with h | h <;> cases h
    ·rw [he] at h; rcases h with h | h <;> cases h
    ·rw [he] at h ⊢
     rcases h with h | h
     ·cases h
     ·have h2:sameFsS x.files (execS r.action (inputsS t.have_ r)).files=true:=h
      simp only [Option.map_some]
      rw [sameFs_eq h2]
theorem any_bad {ks:List Nat} {a b:List Bool} (h:∀ j∈ks,isOf a j=isOf b j):ks.any (isOf a)=ks.any (isOf b):=by
 induction ks with
 | nil=>rfl
 | cons k ks ih=>rw [List.any_cons,List.any_cons,h k (List.mem_cons_self ..),ih fun j hj=>h j (List.mem_cons_of_mem _ hj)]
theorem any_none {ks:List Nat} {a:List Bool} (h:ks.any (isOf a)=false):∀ j∈ks,isOf a j=false:=fun j hj=>by
 have:=List.any_eq_false.1 h j hj
 simpa using this
theorem same_out {l:List RuleV} {before files:List FileV} {mem:List MemoryV} {done:List Nat} {s t:BSt} {k:Nat} {r:RuleV} (h:Two l before files done s t) (hr:l[k]?=some r) (hf:(outS (needsS l) [] r k s).fault=0)
 (hm:findM mem r.name=(outS (needsS l) [] r k s).res.map (memOf r)) (hd:∀ j∈needAt (needsS l) k,Agree l s t j) (hi:∀ p∈r.inputs,findF before p=findF files p) :
 (outS (needsS l) mem r k t).res=(outS (needsS l) [] r k s).res∧(⟨r.name,(outS (needsS l) mem r k t).what,(outS (needsS l) mem r k t).early⟩:StepV)=againStep ⟨r.name,(outS (needsS l) [] r k s).what,(outS (needsS l) [] r k s).early⟩:=by
 refine again_out hf hm (any_bad fun j hj=>(hd j hj).bad.symm) fun h0=>?_
 refine (inputs_agree hr (fun j hj=>⟨hd j hj,any_none h0 j hj⟩) fun p hp hno=>?_).symm
 rw [h.one.src p hno,h.two.src p hno,hi p hp]
structure Built2 (l:List RuleV) (before files:List FileV) (wanted:List ByteArray) (order:List Nat) (M:List MemoryV):Prop where
 rules:checkRulesS l=0
 names:ByPath RuleV.name l
 mem:M=(runB l before [] order).2.kept
 first:runB l before [] order=stepsS l [] order ⟨before,List.replicate l.length false,[],[]⟩
 second:runB l files M order=stepsS l M order ⟨files,List.replicate l.length false,[],[]⟩
 ok1:(runB l before [] order).1=0
 ok2:(runB l files M order).1=0
 byB:ByPath FileV.path before
 byF:ByPath FileV.path files
 good:MemGood l M
theorem built2 {l:List RuleV} {before files:List FileV} {wanted:List ByteArray} {order:List Nat} (h1:buildErr l before wanted [] order=0) (h2:buildErr l files wanted (runB l before [] order).2.kept order=0):Built2 l before files wanted order (runB l before [] order).2.kept:=by
 obtain ⟨a1,a2,a3⟩:=buildErr_parts h1
 obtain ⟨b1,b2,b3⟩:=buildErr_parts h2
 obtain ⟨g1,g2,_,_⟩:=buildErr0_parts a1
 obtain ⟨_,f2,_,_⟩:=buildErr0_parts b1
 have hc:=planErr_rules g1
 obtain ⟨_,hb⟩:=rules_parts_by hc
 obtain ⟨_,m2,m3⟩:=fresh_memory h1
 have hg:=memGood_serves hb (runB l before [] order).2.kept
 rw [m2] at hg
 refine ⟨hc,hb,rfl,rfl,?_,a2,b2,files_by g2,files_by f2,hg⟩
 rw [runB,m2]
 congr 1
 have hk:(startB l before (runB l before [] order).2.kept order).kept=[]:=by rw [m3]
 show (⟨files,List.replicate l.length false,[],(startB l before (runB l before [] order).2.kept order).kept⟩:BSt)=_
 rw [hk]
theorem early_stops {l:List RuleV} {before files:List FileV} {wanted:List ByteArray} {order:List Nat} {M:List MemoryV} (hB:Built2 l before files wanted order M) (hp:PlanIs l wanted order) {i k:Nat} {x y:StepV} (hk:order[i]?=some k)
 (hx:(runB l before [] order).2.steps[i]?=some x) (hy:(runB l files M order).2.steps[i]?=some y) (hran:x.what=1) (hin:∀ p∈insAt l k,hasB (changedS before files) p=false)
 (hne:∀ (j m:Nat) (z:StepV),j < i→order[j]?=some m→m∈needAt (needsS l) k→(runB l files M order).2.steps[j]?=some z→z.what=2∨z.early=true):y.what=2:=by
 obtain ⟨hnd,hlt⟩:=plan_parts hp
 have hbe:=plan_behind hp
 have key:=two_at (l:=l) (mem:=[]) (mem':=M) (order:=order) (S:=(runB l before [] order).2) (T:=(runB l files M order).2)
  (R:=fun done s t=>Two l before files done s t∧∀ (j m:Nat) (z:StepV),done[j]?=some m→(runB l files M order).2.steps[j]?=some z→(z.what=2∨z.early=true)→Agree l s t m)
  (fun done k rest r s t ho hr hR hf hf' e1 e2=>by
    obtain ⟨c1,c2,c3⟩:=cut_order hnd hbe ho
    have o1:=outS_ok (g:=needsS l) (k:=k) (s:=s) (memGood_nil l) hr
    have o2:=outS_ok (g:=needsS l) (k:=k) (s:=t) hB.good hr
    have hm:findM M r.name=(outS (needsS l) [] r k s).res.map (memOf r):=by
     rw [hB.mem]
     exact first_found hr (names_off hB.names hr c2) (hR.1.off k r hr c1) e1
    refine ⟨hR.1.take hB.names hr o1 o2,fun j m z hj hz hn=>?_⟩
    rcases Nat.lt_or_ge j done.length with hjl | hjl
    ·rw [List.getElem?_append_left hjl] at hj
     exact (hR.2 j m z hj hz hn).stay hB.rules (fun e=>c1 (e ▸ List.mem_of_getElem? hj)) hr o1 o2
    ·rw [List.getElem?_append_right hjl] at hj
     have h0:j - done.length=0:=by
      have:=(List.getElem?_eq_some_iff.1 hj).1
      rw [List.length_singleton] at this
      omega
     have hje:j=done.length:=by omega
     rw [h0] at hj
     cases hj
     obtain ⟨more,hmo⟩:=steps_pre (l:=l) (mem:=M) rest (takeS r k (outS (needsS l) M r k t) t)
     rw [e2] at hmo
     change (runB l files M order).2.steps=(t.steps ++ [_]) ++ more at hmo
     rw [hmo,List.append_assoc,hje,←hR.1.two.many,List.getElem?_append_right (Nat.le_refl _),Nat.sub_self] at hz
     cases hz
     exact Agree.made hR.1.one.len hR.1.two.len (hR.1.one.off k c1) (hR.1.two.off k c1) hr o1 (near_out hm hn))
  order [] ⟨before,List.replicate l.length false,[],[]⟩ ⟨files,List.replicate l.length false,[],[]⟩ rfl hlt ⟨Two.start ..,fun j m z hj=>by cases hj⟩ rfl rfl
  (by rw [←hB.first]; exact hB.ok1) (by rw [←hB.second]; exact hB.ok2) (by rw [←hB.first]) (by rw [←hB.second])
 obtain ⟨r,hr⟩:=at_lt (hlt k (List.mem_of_getElem? hk))
 obtain ⟨s',t',hR,_,_,x1,x2,f1,_,e1,_⟩:=key.2.2.2 i k r hk hr
 rw [List.nil_append] at hR
 rw [List.length_nil,Nat.zero_add] at x1 x2
 have ho:order=order.take i ++ k :: order.drop (i + 1):=by rw [←drop_at hk,List.take_append_drop]
 obtain ⟨c1,c2,c3⟩:=cut_order hnd hbe ho
 have hm:findM M r.name=(outS (needsS l) [] r k s').res.map (memOf r):=by
  rw [hB.mem]
  exact first_found hr (names_off hB.names hr c2) (hR.1.off k r hr c1) e1
 have e:=same_out hR.1 hr f1 hm (fun j hj=>by
  obtain ⟨q,hq⟩:=List.getElem?_of_mem (c3 j hj)
  have hqi:q < i:=by
   have h1:=(List.getElem?_eq_some_iff.1 hq).1
   rw [List.length_take] at h1
   omega
  have hq':order[q]?=some j:=by rwa [List.getElem?_take,if_pos hqi] at hq
  obtain ⟨z,hz⟩:=at_lt (l:=(runB l files M order).2.steps) (show q < _ by rw [key.2.2.1]; exact (List.getElem?_eq_some_iff.1 hq').1)
  exact hR.2 q j z hq hz (hne q j z hqi hq' hj hz)) fun p hp=>unchanged hB.byB hB.byF (hin p (by rw [insAt_some hr]; exact hp))
 rw [hx] at x1
 cases x1
 rw [hy,e.2] at x2
 cases x2
 have hw:(outS (needsS l) [] r k s').what=1:=hran
 unfold againStep
 rw [if_pos hw]
end Go.Proofs.Sm
namespace Go.Proofs.Sm
open Go.RowKit
section
variable {l:List RuleV} {F before files:List FileV} {ws other:List ByteArray} {ms:List MemoryV} {f g:Int} {a b x y:BuiltV}
theorem BuildIs.empty (h:BuildIs l F ws ms f b) (h0:f≠0):b=⟨[],[],[]⟩:=h.1 h0
theorem BuildIs.good (h:BuildIs l F ws ms 0 b):∃ order,PlanIs l ws order∧buildErr l F ws ms order=0∧b=builtOf l ws (runB l F ms order).2:=by
 have h0:buildErr0 l F ws ms=0:=Decidable.byContradiction fun e=>e (h.2.1 e).symm
 obtain ⟨order,h1,h2,h3⟩:=h.2.2 h0
 exact ⟨order,h1,h2.symm,h3 rfl⟩
theorem BuildIs.rules (h:BuildIs l F ws ms 0 b):checkRulesS l=0:=by
 obtain ⟨o,_,h1,_⟩:=h.good
 exact planErr_rules (buildErr0_parts (buildErr_parts h1).1).1
theorem BuildIs.filesOk (h:BuildIs l F ws ms 0 b):checkFilesS F=0:=by
 obtain ⟨o,_,h1,_⟩:=h.good
 exact (buildErr0_parts (buildErr_parts h1).1).2.1
theorem built_early (h1:BuildIs l before ws [] 0 a) (h2:BuildIs l files ws a.memory 0 x):x.steps.length=a.steps.length∧∀ (i:Nat) (s t:StepV),a.steps[i]?=some s→x.steps[i]?=some t→s.what=1 →
 (∀ (k:Nat) (r:RuleV),l[k]?=some r→r.name.toList=t.name.toList→∀ p∈r.inputs,hasB (changedS before files) p=false) →
 (∀ (j:Nat) (z:StepV),j < i→x.steps[j]?=some z→(∃ e∈edgesS l,e.name.toList=t.name.toList∧e.value.toList=z.name.toList)→z.what=2∨z.early=true)→t.what=2:=by
 obtain ⟨order,hp,hb,rfl⟩:=h1.good
 obtain ⟨e1,e2⟩:=h2.atPlan hp
 rw [e2 rfl]
 have hB:=built2 hb e1.symm
 obtain ⟨hnd,hlt⟩:=plan_parts hp
 have key:=two_at (l:=l) (mem:=[]) (mem':=(runB l before [] order).2.kept) (order:=order) (S:=(runB l before [] order).2) (T:=(runB l files (runB l before [] order).2.kept order).2) (R:=fun _ _ _=>True) (fun _ _ _ _ _ _ _ _ _ _ _ _ _=>trivial)
  order [] ⟨before,List.replicate l.length false,[],[]⟩ ⟨files,List.replicate l.length false,[],[]⟩ rfl hlt trivial rfl rfl
  (by rw [←hB.first]; exact hB.ok1) (by rw [←hB.second]; exact hB.ok2) (by rw [←hB.first]) (by rw [←hB.second])
 refine ⟨key.2.2.1.trans key.2.1.symm,fun i s t hs ht hran hin hne=>?_⟩
 have hs:(runB l before [] order).2.steps[i]?=some s:=hs
 have ht:(runB l files (runB l before [] order).2.kept order).2.steps[i]?=some t:=ht
 have hil:i < order.length:=by rw [←key.2.2.1]; exact (List.getElem?_eq_some_iff.1 ht).1
 obtain ⟨k,hk⟩:=at_lt hil
 obtain ⟨r,hr⟩:=at_lt (hlt k (List.mem_of_getElem? hk))
 obtain ⟨_,_,_,_,_,_,x2,_⟩:=key.2.2.2 i k r hk hr
 rw [List.length_nil,Nat.zero_add,ht] at x2
 have hname:t.name=r.name:=by cases x2; rfl
 refine early_stops hB hp hk hs ht hran (fun p hp'=>?_) fun j m z hj hm hneed hz=>?_
 ·rw [insAt_some hr] at hp'
  exact hin k r hr (by rw [hname]) p hp'
 ·obtain ⟨q,hq⟩:=at_lt (hlt m (List.mem_of_getElem? hm))
  obtain ⟨_,_,_,_,_,_,y2,_⟩:=key.2.2.2 j m q hm hq
  rw [List.length_nil,Nat.zero_add,hz] at y2
  have hzn:z.name=q.name:=by cases y2; rfl
  refine hne j z hj hz ⟨⟨nameAt l k,nameAt l m⟩,?_,?_,?_⟩
  ·unfold edgesS edgesTo
   exact List.mem_flatMap.2 ⟨k,List.mem_range.2 (hlt k (List.mem_of_getElem? hk)),List.mem_map.2 ⟨m,hneed,rfl⟩⟩
  ·show (nameAt l k).toList=_
   rw [nameAt_some hr,hname]
  ·show (nameAt l m).toList=_
   rw [nameAt_some hq,hzn]
end
end Go.Proofs.Sm
namespace Go.Proofs.Sm
open Go.RowKit Go.Maps
section
variable (A B C D:Option Addr) (n c m d nw cw nd cd:Nat) (l:List RuleV) (F:List FileV) (ws:List ByteArray) (ms:List MemoryV) (w:World)
set_option maxHeartbeats 0 in
set_option maxRecDepth 100000 in
theorem steps_Again (hE:Env2 w) (hsl:Sl w (Lt w.heap.size) A n l) (hF:Sl w (Lt w.heap.size) B m F) (hws:Sl w (Lt w.heap.size) C nw ws) (hms:Sl w (Lt w.heap.size) D nd ms) :
 Calls Tryz.prog 11 #[.slice A n c,.slice B m d,.slice C nw cw,.slice D nd cd] w (BuildPost l F ws ms w):=by
 have hbx:=fr_alloc (fr_refl w) (.cells #[.slice none 0 0,.slice none 0 0,.slice none 0 0] 28)
 have hR0:Arr (w.alloc (.cells #[.slice none 0 0,.slice none 0 0,.slice none 0 0] 28)) w.heap.size 28 [.slice none 0 0,.slice none 0 0,.slice none 0 0]:=heap_alloc_new w _
 have HB:=Lib.hid (steps_build A B C D n c m d nw cw nd cd l F ws ms _ (hE.then_ hbx) (sl_call hsl hbx (Nat.le_refl _)) (sl_call hF hbx (Nat.le_refl _)) (sl_call hws hbx (Nat.le_refl _)) (sl_call hms hbx (Nat.le_refl _)))
 go_enter Tryz.func11,Tryz.ntmps11
 go_wp2_with fail
 refine HB.out.mono ?_
 rintro e w1 ⟨A1,n1,c1,A2,n2,c2,A3,n3,c3,f,b,rfl,hi,s1,s2,s3,h1,h2,h3,hb1⟩
 have hR:=hR0.call hb1
 have HX:=Lib.hid (show BuildPost l F ws ms w _ w1 from ⟨A1,n1,c1,A2,n2,c2,A3,n3,c3,f,b,rfl,hi,s1,s2,s3,h1,h2,h3,fr_call hbx hb1⟩)
 clear hi s1 s2 s3 h1 h2 h3 hR0 HB
 have e0:=hR.cell (i:=0) rfl
 have e1:=hR.cell (i:=1) rfl
 have e2:=hR.cell (i:=2) rfl
 have i0:=hR.frozen 0
 have i1:=hR.frozen 1
 have i2:=hR.frozen 2
 have hl4:=hR.lt
 go_wp2
 generalize hWE:World.setCell (World.setCell (World.setCell w1 _ _) _ _) _ _=WE
 have hE5:Arr WE w.heap.size 28 [(.slice A1 n1 c1),(.slice A2 n2 c2),(.slice A3 n3 c3)]:=by
  rw [←hWE]; exact ((hR.set 0 _).set 1 _).set 2 _
 have hkE:Kp (fun j=>j=w.heap.size) w1 WE:=by
  rw [←hWE]
  exact Kp.set (p:=⟨w.heap.size,2,none⟩) (Kp.set (p:=⟨w.heap.size,1,none⟩) (Kp.set (p:=⟨w.heap.size,0,none⟩) (Kp.refl (fun j=>j=w.heap.size) w1) rfl _) rfl _) rfl _
 clear hWE e0 e1 e2 i0 i1 i2
 have y0:=hE5.cell (i:=0) rfl
 have y1:=hE5.cell (i:=1) rfl
 have y2:=hE5.cell (i:=2) rfl
 exact bodyPost_ret (v:=.tuple #[.agg #[(.slice A1 n1 c1),(.slice A2 n2 c2),(.slice A3 n3 c3)],.int .i64 f]) (by simp [results,Tryz.results11,go_sem,y0,y1,y2]) rfl (HX.out.shut hR hkE (Nat.le_refl _))
set_option maxHeartbeats 0 in
set_option maxRecDepth 100000 in
theorem steps_Fresh (hE:Env2 w) (hsl:Sl w (Lt w.heap.size) A n l) (hF:Sl w (Lt w.heap.size) B m F) (hws:Sl w (Lt w.heap.size) C nw ws) :
 Calls Tryz.prog 9 #[.slice A n c,.slice B m d,.slice C nw cw] w (BuildPost l F ws [] w):=by
 have hbx:=fr_alloc (fr_refl w) (.cells #[.slice none 0 0,.slice none 0 0,.slice none 0 0] 28)
 have hR0:Arr (w.alloc (.cells #[.slice none 0 0,.slice none 0 0,.slice none 0 0] 28)) w.heap.size 28 [.slice none 0 0,.slice none 0 0,.slice none 0 0]:=heap_alloc_new w _
 have HB:=Lib.hid (steps_build A B C none n c m d nw cw 0 0 l F ws [] _ (hE.then_ hbx) (sl_call hsl hbx (Nat.le_refl _)) (sl_call hF hbx (Nat.le_refl _)) (sl_call hws hbx (Nat.le_refl _)) Sl.nil)
 go_enter Tryz.func9,Tryz.ntmps9
 go_wp2_with fail
 refine HB.out.mono ?_
 rintro e w1 ⟨A1,n1,c1,A2,n2,c2,A3,n3,c3,f,b,rfl,hi,s1,s2,s3,h1,h2,h3,hb1⟩
 have hR:=hR0.call hb1
 have HX:=Lib.hid (show BuildPost l F ws [] w _ w1 from ⟨A1,n1,c1,A2,n2,c2,A3,n3,c3,f,b,rfl,hi,s1,s2,s3,h1,h2,h3,fr_call hbx hb1⟩)
 clear hi s1 s2 s3 h1 h2 h3 hR0 HB
 have e0:=hR.cell (i:=0) rfl
 have e1:=hR.cell (i:=1) rfl
 have e2:=hR.cell (i:=2) rfl
 have i0:=hR.frozen 0
 have i1:=hR.frozen 1
 have i2:=hR.frozen 2
 have hl4:=hR.lt
 go_wp2
 generalize hWE:World.setCell (World.setCell (World.setCell w1 _ _) _ _) _ _=WE
 have hE5:Arr WE w.heap.size 28 [(.slice A1 n1 c1),(.slice A2 n2 c2),(.slice A3 n3 c3)]:=by
  rw [←hWE]; exact ((hR.set 0 _).set 1 _).set 2 _
 have hkE:Kp (fun j=>j=w.heap.size) w1 WE:=by
  rw [←hWE]
  exact Kp.set (p:=⟨w.heap.size,2,none⟩) (Kp.set (p:=⟨w.heap.size,1,none⟩) (Kp.set (p:=⟨w.heap.size,0,none⟩) (Kp.refl (fun j=>j=w.heap.size) w1) rfl _) rfl _) rfl _
 clear hWE e0 e1 e2 i0 i1 i2
 have y0:=hE5.cell (i:=0) rfl
 have y1:=hE5.cell (i:=1) rfl
 have y2:=hE5.cell (i:=2) rfl
 exact bodyPost_ret (v:=.tuple #[.agg #[(.slice A1 n1 c1),(.slice A2 n2 c2),(.slice A3 n3 c3)],.int .i64 f]) (by simp [results,Tryz.results9,go_sem,y0,y1,y2]) rfl (HX.out.shut hR hkE (Nat.le_refl _))
end
end Go.Proofs.Sm
namespace Go.Proofs.Sm
open Go.RowKit
set_option maxHeartbeats 1000000 in
set_option maxRecDepth 100000 in
theorem ref1_SameFile2 (x y:FileV) (A:Option Addr) (n c:Nat) (B:Option Addr) (m d:Nat) (w:World) (hx:Sl w (Lt w.heap.size) A n x.bytes) (hy:Sl w (Lt w.heap.size) B m y.bytes) :
 Calls Tryz.prog 29 #[.agg #[.string x.path,.bool x.run,.slice A n c],.agg #[.string y.path,.bool y.run,.slice B m d]] w fun e w'=>e=.returned (.bool (sameF x y))∧Below w.heap.size w w':=by
 have hb:=fr_alloc (fr_alloc (fr_refl w) (.cells #[.string x.path,.bool x.run,.slice A n c] 78)) (.cells #[.string y.path,.bool y.run,.slice B m d] 78)
 have HC:=Lib.hid (bytes_Equal2 A B n m c d x.bytes y.bytes _ (Lt w.heap.size) (Lt w.heap.size) (hx.keep (keep_lt hb)) (hy.keep (keep_lt hb)))
 have HV:=Lib.hid (show sameF x y=(x.path.toList == y.path.toList && (x.run == y.run && decide (x.bytes=y.bytes))) by unfold sameF; congr 2; rw [Bool.eq_iff_iff,beq_iff_eq,decide_eq_true_eq])
 clear hx hy
 generalize decide (x.bytes=y.bytes)=z at *
 cases hp:(x.path.toList == y.path.toList)
 ·go_enter Tryz.func29,Tryz.ntmps29
  go_wp2
  go_ret
  exact ⟨ret_bool (by rw [HV.out,hp]; rfl),hb⟩
 ·cases hr:(x.run == y.run)
  ·go_enter Tryz.func29,Tryz.ntmps29
   go_wp2
   go_ret
   exact ⟨ret_bool (by rw [HV.out,hp,hr]; rfl),hb⟩
  ·go_enter Tryz.func29,Tryz.ntmps29
   go_wp2_with fail
   refine HC.out.mono ?_
   rintro e w1 ⟨rfl,rfl⟩
   go_wp2
   go_ret
   exact ⟨ret_bool (by rw [HV.out,hp,hr,Bool.true_and,Bool.true_and]),hb⟩
set_option maxHeartbeats 1000000 in
set_option maxRecDepth 100000 in
theorem law6_same (x y:FileV) (A:Option Addr) (n c:Nat) (B:Option Addr) (m d:Nat) (w:World) (hx:Sl w (Lt w.heap.size) A n x.bytes) (hy:Sl w (Lt w.heap.size) B m y.bytes) :
 Calls Tryz.prog 32 #[.agg #[.string x.path,.bool x.run,.slice A n c],.agg #[.string y.path,.bool y.run,.slice B m d]] w fun e w'=>e=.returned (.bool (sameF x y))∧Below w.heap.size w w':=by
 have hb:=fr_alloc (fr_alloc (fr_refl w) (.cells #[.string x.path,.bool x.run,.slice A n c] 91)) (.cells #[.string y.path,.bool y.run,.slice B m d] 78)
 have HC:=Lib.hid (ref1_SameFile2 x y A n c B m d _ (sl_call hx hb (Nat.le_refl _)) (sl_call hy hb (Nat.le_refl _)))
 generalize sameF x y=z at *
 clear hx hy
 go_enter Tryz.func32,Tryz.ntmps32
 go_wp2_with fail
 refine HC.out.mono ?_
 rintro e w1 ⟨rfl,hb1⟩
 go_wp2
 go_ret
 exact ⟨rfl,fr_call hb hb1⟩
set_option maxHeartbeats 1000000 in
set_option maxRecDepth 100000 in
theorem indexFunc_file2 (g:Nat) (eg:∀ args w,(callFunc g args).run Tryz.prog w=.ok (.enter g args) w) (v1:Value) (p:FileV→Bool) (A:Option Addr) (n c:Nat) (l:List FileV) (w:World) (hsl:Sl w (Lt w.heap.size) A n l)
 (hp:∀ (W:World) (x:FileV) (A1:Option Addr) (n1 c1:Nat),Below w.heap.size w W→Sl W (Lt W.heap.size) A1 n1 x.bytes→Calls Tryz.prog g #[v1,.agg #[.string x.path,.bool x.run,.slice A1 n1 c1]] W fun e w'=>e=.returned (.bool (p x))∧Below W.heap.size W w') :
 Calls Tryz.prog 58 #[.slice A n c,.func (.func g) #[v1] #[]] w (IdxPost p l w):=by
 have hm:n≤9223372036854775807:=hsl.2.1
 have HP:=Lib.hid hp; clear hp
 have HL:=Lib.hid hsl.1
 go_enter Tryz.func58,Tryz.ntmps58
 go_wp2
 go_loopw [8] (fun i wr=>∃ k:Nat,k≤n∧i=.int .i64 k∧(l.take k).any p=false∧Below w.heap.size w wr) (fun i _=>n - (intOf i).toNat)
 case atStart=>exact ⟨0,Nat.zero_le _,rfl,rfl,Below.refl _ _⟩
 case round =>
  obtain ⟨k,hk,rfl,hall,hbel⟩:=hrel
  have H:=Lib.hid hall; clear hall
  by_cases hlt:k < n
  ·have hkI:(k:Int) < (n:Int):=by omega
   obtain ⟨b,o,x,A1,n1,c1,rfl,hb,hx,hxp,h1,h2,hs,c0,c1',c2⟩:=(hsl.keep (keep_lt hbel)).file hlt
   have HX:=Lib.hid hx
   have HC:=Lib.hid (HP.out wr x A1 n1 c1 hbel (hs.more (lt_mono hbel.size)))
   clear hx hs
   cases hq:p x
   ·have HS:=Lib.hid (any_step (p:=p) HX.out H.out hq)
    go_wp2_with fail
    refine HC.out.mono ?_
    rintro e w1 ⟨rfl,hb1⟩
    rw [hq]
    have hb2:=fr_call hbel hb1
    go_wp2
    go_roundw
    case rel=>exact ⟨k + 1,by omega,by go_num,HS.out,hb2⟩
    case measure=>simp [intOf]; omega
   ·have HQ:=Lib.hid hq
    go_wp2_with fail
    refine HC.out.mono ?_
    rintro e w1 ⟨rfl,hb1⟩
    rw [hq]
    go_wp2
    go_ret
    exact ⟨.inr ⟨k,x,rfl,HX.out,find_first H.out HX.out HQ.out⟩,fr_call hbel hb1⟩
  ·have HS:=Lib.hid (any_end (by rw [HL.out]; omega) H.out)
   go_wp2
   go_ret
   exact ⟨.inl ⟨rfl,find_nowhere HS.out⟩,hbel⟩
set_option maxRecDepth 100000 in
theorem containsFunc_file2 (g:Nat) (eg:∀ args w,(callFunc g args).run Tryz.prog w=.ok (.enter g args) w) (v1:Value) (p:FileV→Bool) (A:Option Addr) (n c:Nat) (l:List FileV) (w:World) (hsl:Sl w (Lt w.heap.size) A n l)
 (hp:∀ (W:World) (x:FileV) (A1:Option Addr) (n1 c1:Nat),Below w.heap.size w W→Sl W (Lt W.heap.size) A1 n1 x.bytes→Calls Tryz.prog g #[v1,.agg #[.string x.path,.bool x.run,.slice A1 n1 c1]] W fun e w'=>e=.returned (.bool (p x))∧Below W.heap.size W w') :
 Calls Tryz.prog 31 #[.slice A n c,.func (.func g) #[v1] #[]] w fun e w'=>e=.returned (.bool (l.any p))∧Below w.heap.size w w':=by
 have HC:=Lib.hid (indexFunc_file2 g eg v1 p A n c l w hsl hp)
 clear hp eg
 go_enter Tryz.func31,Tryz.ntmps31
 go_wp2_with fail
 refine HC.out.mono ?_
 rintro e w1 ⟨h | ⟨k,x,rfl,hx,hf⟩,hb1⟩
 ·obtain ⟨rfl,hf⟩:=h
  have HF:=Lib.hid (show l.any p=false by rw [List.any_eq_false]; exact List.find?_eq_none.1 hf)
  clear hf
  go_wp2
  go_ret
  exact ⟨ret_bool HF.out.symm,hb1⟩
 ·have HF:=Lib.hid (show l.any p=true from List.any_eq_true.2 ⟨x,List.mem_of_getElem? hx,by have:=List.find?_some hf; exact this⟩)
  have hk0:(0:Int)≤(k:Int):=by omega
  clear hf hx
  go_wp2
  go_ret
  exact ⟨ret_bool HF.out.symm,hb1⟩
end Go.Proofs.Sm
namespace Go.Proofs.Sm
open Go.RowKit
theorem str_ones6 (s:ByteArray):∀ u∈[Value.string s],u.oneCell'=true:=fun u hu=>by
 simp only [List.mem_cons,List.mem_nil_iff,or_false] at hu
 subst hu; rfl
def ChangedPost (a b:List FileV) (w:World) (e:Ending) (w':World):Prop:=∃ A n c,e=.returned (.slice A n c)∧Sl w' (Lt w'.heap.size) A n (changedS a b)∧Below w.heap.size w w'
theorem addA_le (b:List FileV) (out:List ByteArray) (x:FileV):(addA b out x).length≤out.length + 1:=by
 unfold addA
 split
 ·omega
 ·rw [List.length_append]; simp
theorem addB_le (a:List FileV) (out:List ByteArray) (x:FileV):(addB a out x).length≤out.length + 1:=by
 unfold addB
 split
 ·omega
 split
 ·omega
 ·rw [List.length_append]; simp
theorem fold_le {α β:Type} {f:List β→α→List β} (hf:∀ o x,(f o x).length≤o.length + 1):∀ (l:List α) (o:List β),(l.foldl f o).length≤o.length + l.length
 | [],o=>by simp
 | x :: l,o=>by
   rw [List.foldl_cons]
   have h1:=fold_le hf l (f o x)
   have h2:=hf o x
   rw [List.length_cons]; omega
theorem fold_more {α β:Type} {f:β→α→β} {l:List α} {o:β} {k:Nat} {x:α} (hx:l[k]?=some x):(l.take (k + 1)).foldl f o=f ((l.take k).foldl f o) x:=by
 rw [List.take_add_one,hx,List.foldl_append]; rfl
theorem addA_yes {b:List FileV} {out:List ByteArray} {x:FileV} (h:b.any (sameF x)=true):addA b out x=out:=if_pos h
theorem addA_no {b:List FileV} {out:List ByteArray} {x:FileV} (h:b.any (sameF x)=false):addA b out x=out ++ [x.path]:=if_neg (by rw [h]; decide)
theorem addB_yes {a:List FileV} {out:List ByteArray} {x:FileV} (h:a.any (sameF x)=true):addB a out x=out:=if_pos h
theorem addB_has {a:List FileV} {out:List ByteArray} {x:FileV} (h:a.any (sameF x)=false) (h2:out.any (eqS x.path)=true):addB a out x=out:=by rw [addB,if_neg (by rw [h]; decide),if_pos h2]
theorem addB_no {a:List FileV} {out:List ByteArray} {x:FileV} (h:a.any (sameF x)=false) (h2:out.any (eqS x.path)=false):addB a out x=out ++ [x.path]:=by rw [addB,if_neg (by rw [h]; decide),if_neg (by rw [h2]; decide)]
set_option maxHeartbeats 4000000 in
set_option maxRecDepth 100000 in
theorem law6_changedIn (A:Option Addr) (n c:Nat) (a:List FileV) (B:Option Addr) (m d:Nat) (b:List FileV) (w:World) (ha:Sl w (Lt w.heap.size) A n a) (hb:Sl w (Lt w.heap.size) B m b) (hn:n≤1000000) (hm:m≤1000000) :
 Calls Tryz.prog 19 #[.slice A n c,.slice B m d] w (ChangedPost a b w):=by
 have HLa:=Lib.hid ha.1
 have HLb:=Lib.hid hb.1
 have hn9:n≤9223372036854775807:=by omega
 have hm9:m≤9223372036854775807:=by omega
 obtain ⟨i0,hi0,hz0,hz1,hz2⟩:=info_parts str_info
 have HCa:=Lib.hid (fun (x:FileV) (A1:Option Addr) (n1 c1:Nat) (wr:World) (hbw:Below w.heap.size w wr) (hx:Sl wr (Lt wr.heap.size) A1 n1 x.bytes)=>containsFunc_file2 32 (enters_of Tryz.func32 (by kernel_rfl) rfl) (.agg #[.string x.path,.bool x.run,.slice A1 n1 c1]) (sameF x) A n c a wr (sl_call ha hbw (Nat.le_refl _))
  fun W y A2 n2 c2 hW hy=>law6_same x y A1 n1 c1 A2 n2 c2 W (sl_call hx hW (Nat.le_refl _)) hy)
 have HCb:=Lib.hid (fun (x:FileV) (A1:Option Addr) (n1 c1:Nat) (wr:World) (hbw:Below w.heap.size w wr) (hx:Sl wr (Lt wr.heap.size) A1 n1 x.bytes)=>containsFunc_file2 32 (enters_of Tryz.func32 (by kernel_rfl) rfl) (.agg #[.string x.path,.bool x.run,.slice A1 n1 c1]) (sameF x) B m d b wr (sl_call hb hbw (Nat.le_refl _))
  fun W y A2 n2 c2 hW hy=>law6_same x y A1 n1 c1 A2 n2 c2 W (sl_call hx hW (Nat.le_refl _)) hy)
 go_enter Tryz.func19,Tryz.ntmps19
 go_wp2
 go_loopw [5,6] (fun v i wr=>∃ k:Nat,k≤n∧i=.int .i64 k∧RowK wr w.heap.size 9 (fun _=>False) v ((a.take k).foldl (addA b) [])∧Below w.heap.size w wr) (fun _ i _=>n - (intOf i).toNat)
 case atStart=>exact ⟨0,Nat.zero_le _,rfl,RowK.nil,Below.refl _ _⟩
 case round =>
  obtain ⟨k,hk,rfl,hrow,hbel⟩:=hrel
  by_cases hlt:k < n
  ·have hkI:(k:Int) < (n:Int):=by omega
   obtain ⟨g1,o1,x,A1,n1,c1,rfl,hb1,hx,hxp,_,_,hs,c0,c1',c2⟩:=(ha.keep (keep_lt hbel)).file hlt
   have HT:=Lib.hid (fold_more (f:=addA b) (o:=[]) hx)
   have hlen:((a.take k).foldl (addA b) []).length≤k:=by
    have:=fold_le (addA_le b) (a.take k) []
    rw [List.length_take,List.length_nil] at this
    omega
   have HC:=Lib.hid (HCb.out x A1 n1 c1 wr hbel (hs.more (lt_mono hbel.size)))
   clear hx hs
   generalize (a.take k).foldl (addA b) []=OL at *
   cases hq:b.any (sameF x)
   ·rw [addA_no hq] at HT
    rw [hq] at HC
    clear hq
    go_wp2_with fail
    refine HC.out.mono ?_
    rintro e w4 ⟨rfl,hb4⟩
    have HRC:=Lib.hid (hrow.call hb4)
    have HBC:=Lib.hid (fr_call hbel hb4)
    have hg1:g1 < wr.heap.size:=Nat.lt_of_lt_of_le hb1 hbel.size
    have e0:=(hb4.cell (p:=⟨g1,o1 + k * 3,none⟩) hg1).trans c0
    have hg4:g1 < w4.heap.size:=Nat.lt_of_lt_of_le hg1 hb4.size
    clear hrow c0 c1' c2 hb4 HC
    have hnew:∀ (j:Nat) v,([.string x.path]:List Value)[j]?=some v→(w4.alloc (.cells #[.string x.path] 9)).cell? ((⟨w4.heap.size,0,none⟩:Addr).add j)=some v:=new_cells w4 #[.string x.path] 9
    have HNw:=Lib.hid hnew
    have hbx:=fr_alloc HBC.out (.cells #[.string x.path] 9)
    obtain ⟨_,rows,hrows,hown,hrep⟩:=(HRC.out).call (fr_alloc (fr_refl w4) (.cells #[.string x.path] 9))
    have HP:=Lib.hid hrep
    have HOw:=Lib.hid hown
    have HKk:=Lib.hid (fun j hj=>(HRC.out.kind j hj).1)
    clear hnew hown hrep
    go_wp2_with (at_builtin; refine wpList_append_lies _ rfl _ _ 24 rfl w.heap.size 9 i0 _ 1 16 Tryz.underlying24 hi0 hz0 hz1 hz2 rfl (by decide) _ OL.length _ rfl HOw.out ⟨w4.heap.size,0,none⟩ 1 1 [.string x.path] rfl rfl HNw.out (str_ones6 x.path) (by decide) (by unfold maxLen; omega) (by omega) hbx.size _ rfl ?_)
    intro g' cap w9 hown' hgrow hat hlt'
    have hr9:=RowK.append (x:=x.path) (r:=[.string x.path]) (l:=OL) (fun k hh=>hh.elim) hrows HP.out ⟨rfl,hxp⟩ (fun _ _ hh=>hh) hgrow hown'
    have hb9:=hbx.grown hgrow hbx.size HKk.out
    have HR9:=Lib.hid hr9
    clear hown' hgrow hat hr9
    go_wp2
    go_roundw
    case rel=>exact ⟨k + 1,by omega,by go_num,by rw [HT.out]; exact HR9.out,hb9⟩
    case measure=>simp [intOf]; omega
   ·rw [addA_yes hq] at HT
    rw [hq] at HC
    clear hq
    go_wp2_with fail
    refine HC.out.mono ?_
    rintro e w4 ⟨rfl,hb4⟩
    have HR4:=Lib.hid (hrow.call hb4)
    have hbE:=fr_call hbel hb4
    clear hrow
    go_wp2
    go_roundw
    case rel=>exact ⟨k + 1,by omega,by go_num,by rw [HT.out]; exact HR4.out,hbE⟩
    case measure=>simp [intOf]; omega
  ·obtain rfl:k=n:=by omega
   rw [List.take_of_length_le (by rw [HLa.out]; exact Nat.le_refl _)] at hrow
   have hlenA:(a.foldl (addA b) []).length≤k:=by
    have:=fold_le (addA_le b) a []
    rw [List.length_nil,HLa.out] at this
    omega
   have HV:=Lib.hid (show changedS a b=b.foldl (addB a) (a.foldl (addA b) []) from rfl)
   generalize a.foldl (addA b) []=O1 at *
   go_wp2
   go_loopw [5,7] (fun v i wx=>∃ t:Nat,t≤m∧i=.int .i64 t∧RowK wx w.heap.size 9 (fun _=>False) v ((b.take t).foldl (addB a) O1)∧Below w.heap.size w wx) (fun _ i _=>m - (intOf i).toNat)
   case atStart=>exact ⟨0,Nat.zero_le _,rfl,hrow,hbel⟩
   case round =>
    clear hrow hbel
    obtain ⟨t,ht,rfl,hrow,hbel⟩:=hrel
    by_cases htl:t < m
    ·have htI:(t:Int) < (m:Int):=by omega
     obtain ⟨g1,o1,x,A1,n1,c1,rfl,hb1,hx,hxp,_,_,hs,c0,c1',c2⟩:=(hb.keep (keep_lt hbel)).file htl
     have HT:=Lib.hid (fold_more (f:=addB a) (o:=O1) hx)
     have hlen:((b.take t).foldl (addB a) O1).length≤k + t:=by
      have:=fold_le (addB_le a) (b.take t) O1
      rw [List.length_take] at this
      omega
     have HC:=Lib.hid (HCa.out x A1 n1 c1 wr hbel (hs.more (lt_mono hbel.size)))
     clear hx hs
     generalize (b.take t).foldl (addB a) O1=OL at *
     cases hq:a.any (sameF x)
     ·rw [hq] at HC
      go_wp2_with fail
      refine HC.out.mono ?_
      rintro e w4 ⟨rfl,hb4⟩
      have hbE:=fr_call hbel hb4
      have hr4:=hrow.call hb4
      have hg1:g1 < wr.heap.size:=Nat.lt_of_lt_of_le hb1 hbel.size
      have e0:=(hb4.cell (p:=⟨g1,o1 + t * 3,none⟩) hg1).trans c0
      have hg4:g1 < w4.heap.size:=Nat.lt_of_lt_of_le hg1 hb4.size
      obtain ⟨A8,c8,rfl,h81,h82,s8⟩:=hr4.sl
      have HD:=Lib.hid (slices_ContainsStr A8 OL.length c8 OL x.path w4 s8)
      have HRC:=Lib.hid hr4
      have HBC:=Lib.hid hbE
      clear hrow c0 c1' c2 hb4 HC hr4 s8
      cases hq2:OL.any (eqS x.path)
      ·rw [addB_no hq hq2] at HT
       rw [hq2] at HD
       clear hq hq2
       go_wp2_with fail
       refine HD.out.mono ?_
       rintro e w5 ⟨rfl,h5⟩
       obtain rfl:w4=w5:=h5
       have hnew:∀ (j:Nat) v,([.string x.path]:List Value)[j]?=some v→(w4.alloc (.cells #[.string x.path] 9)).cell? ((⟨w4.heap.size,0,none⟩:Addr).add j)=some v:=new_cells w4 #[.string x.path] 9
       have HNw:=Lib.hid hnew
       have hbx:=fr_alloc HBC.out (.cells #[.string x.path] 9)
       obtain ⟨_,rows,hrows,hown,hrep⟩:=(HRC.out).call (fr_alloc (fr_refl w4) (.cells #[.string x.path] 9))
       have HP:=Lib.hid hrep
       have HOw:=Lib.hid hown
       have HKk:=Lib.hid (fun j hj=>(HRC.out.kind j hj).1)
       clear hnew hown hrep
       go_wp2_with (at_builtin; refine wpList_append_lies _ rfl _ _ 24 rfl w.heap.size 9 i0 _ 1 16 Tryz.underlying24 hi0 hz0 hz1 hz2 rfl (by decide) _ OL.length _ rfl HOw.out ⟨w4.heap.size,0,none⟩ 1 1 [.string x.path] rfl rfl HNw.out (str_ones6 x.path) (by decide) (by unfold maxLen; omega) (by omega) hbx.size _ rfl ?_)
       intro g' cap w9 hown' hgrow hat hlt'
       have hr9:=RowK.append (x:=x.path) (r:=[.string x.path]) (l:=OL) (fun k hh=>hh.elim) hrows HP.out ⟨rfl,hxp⟩ (fun _ _ hh=>hh) hgrow hown'
       have hb9:=hbx.grown hgrow hbx.size HKk.out
       have HR9:=Lib.hid hr9
       clear hown' hgrow hat hr9
       go_wp2
       go_roundw
       case rel=>exact ⟨t + 1,by omega,by go_num,by rw [HT.out]; exact HR9.out,hb9⟩
       case measure=>simp [intOf]; omega
      ·rw [addB_has hq hq2] at HT
       rw [hq2] at HD
       clear hq hq2
       go_wp2_with fail
       refine HD.out.mono ?_
       rintro e w5 ⟨rfl,h5⟩
       obtain rfl:w4=w5:=h5
       go_wp2
       go_roundw
       case rel=>exact ⟨t + 1,by omega,by go_num,by rw [HT.out]; exact HRC.out,hbE⟩
       case measure=>simp [intOf]; omega
     ·rw [addB_yes hq] at HT
      rw [hq] at HC
      clear hq
      go_wp2_with fail
      refine HC.out.mono ?_
      rintro e w4 ⟨rfl,hb4⟩
      have HR4:=Lib.hid (hrow.call hb4)
      have hbE:=fr_call hbel hb4
      clear hrow
      go_wp2
      go_roundw
      case rel=>exact ⟨t + 1,by omega,by go_num,by rw [HT.out]; exact HR4.out,hbE⟩
      case measure=>simp [intOf]; omega
    ·obtain rfl:t=m:=by omega
     rw [List.take_of_length_le (by rw [HLb.out]; exact Nat.le_refl _),←HV.out] at hrow
     obtain ⟨A8,c8,rfl,h81,h82,s8⟩:=hrow.sl
     have H8:=Lib.hid s8
     clear hrow s8
     go_wp2
     go_ret
     exact ⟨A8,_,c8,rfl,H8.out,hbel⟩
end Go.Proofs.Sm
