/- Words and walks that the claims share, part 8. -/
import Derived.Test.YtaabdbephemboaaGreatDoorBx1
import Derived.Test.YtaabdbephemboaaGreatDoorBx2
import Derived.Test.YtaabdbephemboaaGreatDoorBx6
import Derived.Test.YtaabdbephemboaaGreatDoorBx7
namespace Go.Proofs.Sm
open Go.RowKit
abbrev Graph:=List (List Nat)
def needAt (g:Graph) (i:Nat):List Nat:=(g[i]?).getD []
def readyS (g:Graph) (done:List Nat) (i:Nat):Bool:=(needAt g i).all fun k=>done.contains k
def freeS (g:Graph) (inn:Nat→Bool) (done:List Nat) (i:Nat):Bool:=inn i && !done.contains i && readyS g done i
def nextS (g:Graph) (inn:Nat→Bool) (done:List Nat):Option Nat:=(List.range g.length).find? (freeS g inn done)
def undoneS (g:Graph) (inn:Nat→Bool) (done:List Nat):Bool:=(List.range g.length).any fun i=>inn i && !done.contains i
def runO (g:Graph) (inn:Nat→Bool):Nat→List Nat→List Nat × Bool
 | 0,out=>(out,!undoneS g inn out)
 | f + 1,out=>match nextS g inn out with
   | none=>(out,!undoneS g inn out)
   | some k=>runO g inn f (out ++ [k])
def orderS (g:Graph) (inn:Nat→Bool):List Nat × Bool:=runO g inn g.length []
structure Done (g:Graph) (inn:Nat→Bool) (out:List Nat):Prop where
 nodup:out.Nodup
 lt:∀ i∈out,i < g.length
 inn:∀ i∈out,inn i=true
theorem Done.nil {g:Graph} {inn:Nat→Bool}:Done g inn []:=⟨List.nodup_nil,fun _ h=>by simp at h,fun _ h=>by simp at h⟩
theorem next_some {g:Graph} {inn:Nat→Bool} {out:List Nat} {k:Nat} (h:nextS g inn out=some k):k < g.length∧freeS g inn out k=true∧∀ j,j < k→freeS g inn out j=false:=by
 rw [nextS,List.find?_range_eq_some] at h
 obtain ⟨h1,h2,h3⟩:=h
 exact ⟨by simpa using h2,h1,fun j hj=>by simpa using h3 j hj⟩
theorem next_is {g:Graph} {inn:Nat→Bool} {out:List Nat} {k:Nat} (hk:k < g.length) (h1:freeS g inn out k=true) (h2:∀ j,j < k→freeS g inn out j=false):nextS g inn out=some k:=by
 rw [nextS,List.find?_range_eq_some]
 exact ⟨h1,by simpa using hk,fun j hj=>by simpa using h2 j hj⟩
theorem next_none {g:Graph} {inn:Nat→Bool} {out:List Nat}:nextS g inn out=none↔∀ j,j < g.length→freeS g inn out j=false:=by
 rw [nextS,List.find?_eq_none]
 simp
theorem free_parts {g:Graph} {inn:Nat→Bool} {out:List Nat} {k:Nat} (h:freeS g inn out k=true):inn k=true∧k ∉ out∧readyS g out k=true:=by
 simp only [freeS,Bool.and_eq_true,Bool.not_eq_true',List.contains_eq_mem,decide_eq_false_iff_not] at h
 exact ⟨h.1.1,h.1.2,h.2⟩
theorem Done.more {g:Graph} {inn:Nat→Bool} {out:List Nat} {k:Nat} (h:Done g inn out) (hk:nextS g inn out=some k):Done g inn (out ++ [k]):=by
 obtain ⟨h1,h2,_⟩:=next_some hk
 obtain ⟨h3,h4,_⟩:=free_parts h2
 refine ⟨?_,fun i hi=>?_,fun i hi=>?_⟩
 ·rw [List.nodup_append]
  exact ⟨h.nodup,by simp,fun a ha b hb e=>by simp at hb; subst hb; subst e; exact h4 ha⟩
 ·rcases List.mem_append.1 hi with hi | hi
  ·exact h.lt i hi
  ·simp at hi; subst hi; exact h1
 ·rcases List.mem_append.1 hi with hi | hi
  ·exact h.inn i hi
  ·simp at hi; subst hi; exact h3
def manyS (g:Graph) (inn:Nat→Bool):Nat:=((List.range g.length).filter inn).length
theorem nodup_length {a b:List Nat} (h:a.Nodup) (hs:∀ x∈a,x∈b):a.length≤b.length:=by
 induction a generalizing b with
 | nil=>simp
 | cons x a ih =>
   rw [List.nodup_cons] at h
   have hx:=hs x (by simp)
   have h2:a.length≤(b.erase x).length:=ih h.2 fun y hy=>(List.mem_erase_of_ne (by rintro rfl; exact h.1 hy)).2 (hs y (by simp [hy]))
   have h3:=List.length_erase_of_mem hx
   have h4:0 < b.length:=List.length_pos_of_mem hx
   rw [List.length_cons]; omega
theorem Done.most {g:Graph} {inn:Nat→Bool} {out:List Nat} (h:Done g inn out):out.length≤manyS g inn :=
 nodup_length h.nodup fun x hx=>by simp [h.lt x hx,h.inn x hx]
theorem many_le (g:Graph) (inn:Nat→Bool):manyS g inn≤g.length:=by
 have:=List.length_filter_le inn (List.range g.length)
 simpa [manyS] using this
theorem undone_iff {g:Graph} {inn:Nat→Bool} {out:List Nat} (h:Done g inn out):undoneS g inn out=true↔out.length < manyS g inn:=by
 constructor
 ·intro hu
  simp only [undoneS,List.any_eq_true,List.mem_range,Bool.and_eq_true,Bool.not_eq_true',List.contains_eq_mem,decide_eq_false_iff_not] at hu
  obtain ⟨i,hi,h1,h2⟩:=hu
  have h3:(out ++ [i]).length≤manyS g inn:=by
   refine nodup_length ?_ fun x hx=>?_
   ·rw [List.nodup_append]
    exact ⟨h.nodup,by simp,fun a ha b hb e=>by simp at hb; subst hb; subst e; exact h2 ha⟩
   ·rcases List.mem_append.1 hx with hx | hx
    ·simp [h.lt x hx,h.inn x hx]
    ·simp at hx; subst hx; simp [hi,h1]
  rw [List.length_append,List.length_singleton] at h3
  omega
 ·intro hl
  cases hu:undoneS g inn out with
  | true=>rfl
  | false =>
    exfalso
    simp only [undoneS,List.any_eq_false,List.mem_range,Bool.and_eq_true,Bool.not_eq_true',List.contains_eq_mem,decide_eq_false_iff_not,not_and,Decidable.not_not] at hu
    have:manyS g inn≤out.length:=nodup_length ((List.nodup_range).filter inn) fun x hx=>by
     simp only [List.mem_filter,List.mem_range] at hx
     exact hu x hx.1 hx.2
    omega
theorem next_undone {g:Graph} {inn:Nat→Bool} {out:List Nat} {k:Nat} (h:nextS g inn out=some k):undoneS g inn out=true:=by
 obtain ⟨h1,h2,_⟩:=next_some h
 obtain ⟨h3,h4,_⟩:=free_parts h2
 simp only [undoneS,List.any_eq_true,List.mem_range,Bool.and_eq_true,Bool.not_eq_true',List.contains_eq_mem,decide_eq_false_iff_not]
 exact ⟨k,h1,h3,h4⟩
theorem runO_fuel {g:Graph} {inn:Nat→Bool}:∀ (f f':Nat) (out:List Nat),Done g inn out→manyS g inn - out.length≤f→manyS g inn - out.length≤f'→runO g inn f out=runO g inn f' out
 | 0,0,_,_,_,_=>rfl
 | 0,f' + 1,out,hd,h1,_=>by
   have h2:¬ undoneS g inn out=true:=fun hu=>by have:=(undone_iff hd).1 hu; omega
   cases hn:nextS g inn out with
   | none=>rw [runO,runO,hn]
   | some k=>exact absurd (next_undone hn) h2
 | f + 1,0,out,hd,_,h1=>by
   have h2:¬ undoneS g inn out=true:=fun hu=>by have:=(undone_iff hd).1 hu; omega
   cases hn:nextS g inn out with
   | none=>rw [runO,runO,hn]
   | some k=>exact absurd (next_undone hn) h2
 | f + 1,f' + 1,out,hd,h1,h2=>by
   cases hn:nextS g inn out with
   | none=>rw [runO,runO,hn]
   | some k =>
     have:=(undone_iff hd).1 (next_undone hn)
     rw [runO,runO,hn]
     exact runO_fuel f f' _ (hd.more hn) (by rw [List.length_append,List.length_singleton]; omega) (by rw [List.length_append,List.length_singleton]; omega)
def restO (g:Graph) (inn:Nat→Bool) (out:List Nat):List Nat × Bool:=runO g inn g.length out
theorem restO_next {g:Graph} {inn:Nat→Bool} {out:List Nat} {k:Nat} (hd:Done g inn out) (hn:nextS g inn out=some k):restO g inn out=restO g inn (out ++ [k]):=by
 have h1:=(undone_iff hd).1 (next_undone hn)
 have h2:=many_le g inn
 rw [restO,restO,show g.length=(g.length - 1) + 1 by omega,runO,hn]
 show runO g inn (g.length - 1) (out ++ [k])=_
 exact runO_fuel _ _ _ (hd.more hn) (by rw [List.length_append,List.length_singleton]; omega) (by rw [List.length_append,List.length_singleton]; omega)
theorem restO_stop {g:Graph} {inn:Nat→Bool} {out:List Nat} (hn:nextS g inn out=none):restO g inn out=(out,!undoneS g inn out):=by
 rw [restO]
 cases g.length with
 | zero=>rfl
 | succ n=>rw [runO,hn]
theorem restO_full {g:Graph} {inn:Nat→Bool} {out:List Nat} (hd:Done g inn out) (h:¬ out.length < manyS g inn):restO g inn out=(out,true):=by
 have h1:undoneS g inn out=false:=by
  cases hu:undoneS g inn out with
  | false=>rfl
  | true=>exact absurd ((undone_iff hd).1 hu) h
 have h2:nextS g inn out=none:=by
  cases hn:nextS g inn out with
  | none=>rfl
  | some k=>rw [next_undone hn] at h1; cases h1
 rw [restO_stop h2,h1]; rfl
theorem restO_stuck {g:Graph} {inn:Nat→Bool} {out:List Nat} (hd:Done g inn out) (h:out.length < manyS g inn) (hn:nextS g inn out=none):restO g inn out=(out,false):=by
 rw [restO_stop hn,(undone_iff hd).2 h]; rfl
theorem runO_done {g:Graph} {inn:Nat→Bool}:∀ (f:Nat) (out:List Nat),Done g inn out→Done g inn (runO g inn f out).1
 | 0,_,hd=>hd
 | f + 1,out,hd=>by
   rw [runO]
   cases hn:nextS g inn out with
   | none=>exact hd
   | some k=>exact runO_done f _ (hd.more hn)
theorem orderS_done (g:Graph) (inn:Nat→Bool):Done g inn (orderS g inn).1:=runO_done _ _ Done.nil
def Behind (g:Graph) (out:List Nat):Prop:=∀ (i k:Nat),out[i]?=some k→∀ m∈needAt g k,m∈out.take i
theorem Behind.more {g:Graph} {inn:Nat→Bool} {out:List Nat} {k:Nat} (h:Behind g out) (hn:nextS g inn out=some k):Behind g (out ++ [k]):=by
 intro i x hx m hm
 rcases Nat.lt_or_ge i out.length with hi | hi
 ·rw [List.getElem?_append_left hi] at hx
  rw [List.take_append_of_le_length (by omega)]
  exact h i x hx m hm
 ·have hi2:=(List.getElem?_eq_some_iff.1 hx).1
  rw [List.length_append,List.length_singleton] at hi2
  obtain rfl:i=out.length:=by omega
  rw [List.getElem?_append_right (Nat.le_refl _)] at hx
  simp at hx; subst hx
  rw [List.take_append_of_le_length (Nat.le_refl _),List.take_length]
  have:=(free_parts (next_some hn).2.1).2.2
  rw [readyS,List.all_eq_true] at this
  simpa using this m hm
theorem runO_behind {g:Graph} {inn:Nat→Bool}:∀ (f:Nat) (out:List Nat),Behind g out→Behind g (runO g inn f out).1
 | 0,_,hd=>hd
 | f + 1,out,hd=>by
   rw [runO]
   cases hn:nextS g inn out with
   | none=>exact hd
   | some k=>exact runO_behind f _ (hd.more hn)
theorem orderS_behind (g:Graph) (inn:Nat→Bool):Behind g (orderS g inn).1:=runO_behind _ _ fun i k h=>by simp at h
theorem runO_all {g:Graph} {inn:Nat→Bool}:∀ (f:Nat) (out:List Nat),(runO g inn f out).2=true→undoneS g inn (runO g inn f out).1=false
 | 0,out,h=>by
   rw [runO] at h ⊢
   simpa using h
 | f + 1,out,h=>by
   rw [runO] at h ⊢
   cases hn:nextS g inn out with
   | none=>rw [hn] at h; simpa using h
   | some k=>rw [hn] at h; exact runO_all f _ h
theorem order_has {g:Graph} {inn:Nat→Bool} (h:(orderS g inn).2=true) {i:Nat} (hi:i < g.length) (hn:inn i=true):i∈(orderS g inn).1:=by
 have:=runO_all _ _ h
 simp only [undoneS,List.any_eq_false,List.mem_range,Bool.and_eq_true,Bool.not_eq_true',List.contains_eq_mem,decide_eq_false_iff_not,not_and,Decidable.not_not] at this
 exact this i hi hn
theorem order_part {g:Graph} {inn:Nat→Bool} (h:(orderS g fun _=>true).2=true) (hc:∀ i,i < g.length→inn i=true→∀ k∈needAt g i,k < g.length∧inn k=true):(orderS g inn).2=true:=by
 have hb:=orderS_behind g fun _=>true
 have hall:∀ i,i < g.length→i∈(orderS g fun _=>true).1:=fun i hi=>order_has h hi rfl
 generalize (orderS g fun _=>true).1=o at hb hall
 -- the run stops only when all is done
 have key:∀ (out:List Nat),Done g inn out→nextS g inn out=none→undoneS g inn out=false:=by
  intro out hd hn
  cases hu:undoneS g inn out with
  | false=>rfl
  | true =>
    exfalso
    simp only [undoneS,List.any_eq_true,List.mem_range,Bool.and_eq_true,Bool.not_eq_true',List.contains_eq_mem,decide_eq_false_iff_not] at hu
    -- the first one in the whole order that is not done
    have hex:∀ (m:Nat) (i:Nat),o[m]?=some i→i < g.length→inn i=true→i ∉ out→False:=by
     intro m
     induction m using Nat.strongRecOn with
     | ind m ih =>
       intro i hm hi h1 h2
       have hf:=next_none.1 hn i hi
       have hr:readyS g out i=false:=by
        simp only [freeS,h1,List.contains_eq_mem,Bool.true_and] at hf
        simpa [h2] using hf
       rw [readyS,List.all_eq_false] at hr
       obtain ⟨k,hk,hko⟩:=hr
       have hko:k ∉ out:=by simpa using hko
       obtain ⟨hkl,hki⟩:=hc i hi h1 k hk
       have hkt:=hb m i hm k hk
       obtain ⟨j,hj⟩:=List.getElem?_of_mem hkt
       rw [List.getElem?_take] at hj
       split at hj
       ·exact ih j (by assumption) k hj hkl hki hko
       ·cases hj
    obtain ⟨i,hi,h1,h2⟩:=hu
    obtain ⟨m,hm⟩:=List.getElem?_of_mem (hall i hi)
    exact hex m i hm hi h1 h2
 have run:∀ (f:Nat) (out:List Nat),Done g inn out→manyS g inn - out.length≤f→(runO g inn f out).2=true:=by
  intro f
  induction f with
  | zero =>
    intro out hd hf
    have:¬ undoneS g inn out=true:=fun hu=>by have:=(undone_iff hd).1 hu; omega
    rw [runO]; simpa using this
  | succ f ih =>
    intro out hd hf
    rw [runO]
    cases hn:nextS g inn out with
    | none=>simp only; rw [key out hd hn]; rfl
    | some k =>
      have:=(undone_iff hd).1 (next_undone hn)
      exact ih _ (hd.more hn) (by rw [List.length_append,List.length_singleton]; omega)
 exact run _ _ Done.nil (by have:=many_le g inn; simp; omega)
structure Closed (g:Graph) (wanted:List Nat) (s:List Bool):Prop where
 len:s.length=g.length
 has:∀ k∈wanted,s[k]?=some true
 closed:∀ i,s[i]?=some true→∀ k∈needAt g i,s[k]?=some true
 least:∀ (t:Nat→Prop),(∀ k∈wanted,t k)→(∀ i,t i→∀ k∈needAt g i,t k)→∀ i,s[i]?=some true→t i
theorem Closed.unique {g:Graph} {wanted:List Nat} {s s':List Bool} (h:Closed g wanted s) (h':Closed g wanted s'):s=s':=by
 apply List.ext_getElem?
 intro i
 have e1:s[i]?=some true→s'[i]?=some true:=h.least (fun i=>s'[i]?=some true) h'.has h'.closed i
 have e2:s'[i]?=some true→s[i]?=some true:=h'.least (fun i=>s[i]?=some true) h.has h.closed i
 rcases Nat.lt_or_ge i s.length with hi | hi
 ·have hi':i < s'.length:=by rw [h'.len,←h.len]; exact hi
  rw [List.getElem?_eq_getElem hi] at e1 e2 ⊢
  rw [List.getElem?_eq_getElem hi'] at e1 e2 ⊢
  cases h1:s[i] <;> cases h2:s'[i] <;> simp_all
 ·rw [List.getElem?_eq_none hi,List.getElem?_eq_none (by rw [h'.len,←h.len]; exact hi)]
end Go.Proofs.Sm
namespace Go.Proofs.Sm
open Go.RowKit
structure RuleV where
 name:ByteArray
 action:ActionV
 inputs:List ByteArray
instance:Rep RuleV where
 sz:=8
 rep w S x vs:=∃ A n c B m d C p e D q f E r h,vs=[.string x.name,.string x.action.tool,.slice A n c,.slice B m d,.slice C p e,.slice D q f,.int .i64 x.action.time,.slice E r h] ∧
  (x.name.size≤maxLen∧x.action.tool.size≤maxLen∧InInt x.action.time)∧(n≤c∧c≤maxLen∧m≤d∧d≤maxLen∧p≤e∧e≤maxLen∧q≤f∧f≤maxLen∧r≤h∧h≤maxLen) ∧
  (Sl w S A n x.action.commands∧Sl w S B m x.action.vars∧Sl w S C p x.action.outputs∧Sl w S D q x.action.needs∧Sl w S E r x.inputs)
 len h:=by obtain ⟨A,n,c,B,m,d,C,p,e,D,q,f,E,r,h,rfl,_⟩:=h; rfl
 keep hk h:=by
  obtain ⟨A,n,c,B,m,d,C,p,e,D,q,f,E,r,h,h0,h1,h2,a1,a2,a3,a4,a5⟩:=h
  exact ⟨A,n,c,B,m,d,C,p,e,D,q,f,E,r,h,h0,h1,h2,a1.keep hk,a2.keep hk,a3.keep hk,a4.keep hk,a5.keep hk⟩
 more hs h:=by
  obtain ⟨A,n,c,B,m,d,C,p,e,D,q,f,E,r,h,h0,h1,h2,a1,a2,a3,a4,a5⟩:=h
  exact ⟨A,n,c,B,m,d,C,p,e,D,q,f,E,r,h,h0,h1,h2,a1.more hs,a2.more hs,a3.more hs,a4.more hs,a5.more hs⟩
theorem Sl.rule {w:World} {S:Nat→Prop} {A:Option Addr} {n k:Nat} {l:List RuleV} (h:Sl w S A n l) (hk:k < n) :
 ∃ b o x,A=some ⟨b,o,none⟩∧S b∧l[k]?=some x∧∃ A1 n1 c1 A2 n2 c2 A3 n3 c3 A4 n4 c4 A5 n5 c5,
  (x.name.size≤maxLen∧x.action.tool.size≤maxLen∧InInt x.action.time)∧(n1≤c1∧c1≤maxLen∧n2≤c2∧c2≤maxLen∧n3≤c3∧c3≤maxLen∧n4≤c4∧c4≤maxLen∧n5≤c5∧c5≤maxLen) ∧
  (Sl w S A1 n1 x.action.commands∧Sl w S A2 n2 x.action.vars∧Sl w S A3 n3 x.action.outputs∧Sl w S A4 n4 x.action.needs∧Sl w S A5 n5 x.inputs) ∧
  (w.cell? ⟨b,o + k * 8,none⟩=some (.string x.name)∧w.cell? ⟨b,o + k * 8 + 1,none⟩=some (.string x.action.tool)∧w.cell? ⟨b,o + k * 8 + 2,none⟩=some (.slice A1 n1 c1)∧w.cell? ⟨b,o + k * 8 + 3,none⟩=some (.slice A2 n2 c2) ∧
    w.cell? ⟨b,o + k * 8 + 4,none⟩=some (.slice A3 n3 c3)∧w.cell? ⟨b,o + k * 8 + 5,none⟩=some (.slice A4 n4 c4)∧w.cell? ⟨b,o + k * 8 + 6,none⟩=some (.int .i64 x.action.time)∧w.cell? ⟨b,o + k * 8 + 7,none⟩=some (.slice A5 n5 c5)):=by
 have hk':k < l.length:=by rw [h.1]; exact hk
 obtain ⟨b,o,vs,e,hb,hr,ha⟩:=h.at hk'
 obtain ⟨A1,n1,c1,A2,n2,c2,A3,n3,c3,A4,n4,c4,A5,n5,c5,rfl,h1,h2,h3⟩:=hr
 exact ⟨b,o,_,e,hb,List.getElem?_eq_getElem hk',A1,n1,c1,A2,n2,c2,A3,n3,c3,A4,n4,c4,A5,n5,c5,h1,h2,h3,ha 0 _ rfl,ha 1 _ rfl,ha 2 _ rfl,ha 3 _ rfl,ha 4 _ rfl,ha 5 _ rfl,ha 6 _ rfl,ha 7 _ rfl⟩
def hasB (l:List ByteArray) (s:ByteArray):Bool:=l.any fun x=>x.toList == s.toList
def checkRuleS (r:RuleV):Int:=if isPathS r.name=false then 3 else if checkActionS r.action≠0 then checkActionS r.action else if 1000 < (r.inputs.length:Int) then 2 else listErr outErr id none r.inputs
def ruleErr (prev:Option ByteArray) (r:RuleV):Int:=if checkRuleS r≠0 then checkRuleS r else if notAfter prev r.name then 8 else 0
def firstErr {α:Type} (f:α→Int):List α→Int
 | []=>0
 | x :: r=>if f x=0 then firstErr f r else f x
theorem firstErr_round {α:Type} {f:α→Int} {l:List α} {k:Nat} {x:α} (hx:l[k]?=some x) (h:f x=0):firstErr f (l.drop k)=firstErr f (l.drop (k + 1)):=by
 rw [drop_at hx,firstErr,if_pos h]
theorem firstErr_stop {α:Type} {f:α→Int} {l:List α} {k:Nat} {x:α} (hx:l[k]?=some x) (h:f x≠0):firstErr f (l.drop k)=f x:=by
 rw [drop_at hx,firstErr,if_neg h]
theorem firstErr_end {α:Type} {f:α→Int} {l:List α} {k:Nat} (h:l.length≤k):firstErr f (l.drop k)=0:=by rw [List.drop_eq_nil_of_le h]; rfl
theorem firstErr_zero {α:Type} {f:α→Int} {l:List α} (h:firstErr f l=0):∀ x∈l,f x=0:=by
 induction l with
 | nil=>simp
 | cons y l ih =>
   rw [firstErr] at h
   split at h
   ·rename_i h1
    intro x hx
    rcases List.mem_cons.1 hx with rfl | hx
    ·exact h1
    ·exact ih h x hx
   ·rename_i h1; exact absurd h h1
def outsAt (l:List RuleV) (i:Nat):List ByteArray:=(l[i]?).elim [] (·.action.outputs)
def insAt (l:List RuleV) (i:Nat):List ByteArray:=(l[i]?).elim [] (·.inputs)
theorem outsAt_some {l:List RuleV} {i:Nat} {x:RuleV} (h:l[i]?=some x):outsAt l i=x.action.outputs:=by rw [outsAt,h]; rfl
theorem insAt_some {l:List RuleV} {i:Nat} {x:RuleV} (h:l[i]?=some x):insAt l i=x.inputs:=by rw [insAt,h]; rfl
def twiceS (l:List RuleV) (i:Nat) (p:ByteArray):Bool:=(List.range i).any fun k=>hasB (outsAt l k) p
def crossAt (l:List RuleV) (i:Nat) (p:ByteArray) (k:Nat):Bool:=(decide (k≠i) && (outsAt l k).any (liesS p)) || (insAt l k).any fun q=>liesS p q || liesS q p
def crossS (l:List RuleV) (i:Nat) (p:ByteArray):Bool:=(List.range l.length).any (crossAt l i p)
def outputErr (l:List RuleV) (i:Nat) (p:ByteArray):Int:=if twiceS l i p=true then 7 else if crossS l i p=true then 12 else 0
def outputsErr (l:List RuleV) (i:Nat):Int:=firstErr (outputErr l i) (outsAt l i)
def allOutputsErr (l:List RuleV):Int:=firstErr (outputsErr l) (List.range l.length)
def meetsS (l:List RuleV) (p:ByteArray):Bool:=(List.range l.length).any fun k=>(insAt l k).any (fun q=>liesS q p) || ((outsAt l k).any (liesS p) || (insAt l k).any (liesS p))
theorem range_any_succ (f:Nat→Bool) (k:Nat):(List.range (k + 1)).any f=((List.range k).any f || f k):=by
 rw [List.range_succ,List.any_append]; simp
def usesS (l:List RuleV) (i k:Nat):Bool:=(outsAt l k).any fun p=>hasB (insAt l i) p
def needsS (l:List RuleV):Graph:=(List.range l.length).map fun i=>(List.range l.length).filter (usesS l i)
theorem needsS_length (l:List RuleV):(needsS l).length=l.length:=by simp [needsS]
theorem needs_at {l:List RuleV} {i:Nat} (h:i < l.length):needAt (needsS l) i=(List.range l.length).filter (usesS l i):=by
 rw [needAt,needsS,List.getElem?_map,List.getElem?_range h]; rfl
theorem needs_lt {l:List RuleV} {i k:Nat} (h:k∈needAt (needsS l) i):k < l.length:=by
 rcases Nat.lt_or_ge i l.length with hi | hi
 ·rw [needs_at hi,List.mem_filter,List.mem_range] at h; exact h.1
 ·rw [needAt,List.getElem?_eq_none (by rw [needsS_length]; exact hi)] at h
  simp at h
theorem needs_nodup (l:List RuleV) (i:Nat):(needAt (needsS l) i).Nodup:=by
 rcases Nat.lt_or_ge i l.length with hi | hi
 ·rw [needs_at hi]; exact (List.nodup_range).filter _
 ·rw [needAt,List.getElem?_eq_none (by rw [needsS_length]; exact hi)]
  simp
def checkRulesS (l:List RuleV):Int :=
 if 500 < (l.length:Int) then 2
 else if listErr ruleErr RuleV.name none l≠0 then listErr ruleErr RuleV.name none l
 else if allOutputsErr l≠0 then allOutputsErr l
 else if (orderS (needsS l) fun _=>true).2=false then 17 else 0
theorem listErr_at {α:Type} {err:Option ByteArray→α→Int} {key:α→ByteArray} {l:List α} (h:listErr err key none l=0):∀ (k:Nat) (x:α),l[k]?=some x→err (ahead key l k) x=0:=by
 have key1:∀ k,k≤l.length→listErr err key (ahead key l k) (l.drop k)=0:=by
  intro k
  induction k with
  | zero=>intro _; exact h
  | succ k ih =>
    intro hk
    obtain ⟨x,hx⟩:=at_lt (show k < l.length by omega)
    have h1:=ih (by omega)
    by_cases he:err (ahead key l k) x=0
    ·rw [list_round hx he] at h1; exact h1
    ·rw [list_stop hx rfl he] at h1; exact absurd h1 he
 intro k x hx
 have hk:=(List.getElem?_eq_some_iff.1 hx).1
 have h1:=key1 k (by omega)
 by_cases he:err (ahead key l k) x=0
 ·exact he
 ·rw [list_stop hx rfl he] at h1; exact h1
structure RulesOk (l:List RuleV):Prop where
 many:l.length≤500
 each:∀ r∈l,checkRuleS r=0
theorem rulesOk_of {l:List RuleV} (h:¬ (500:Int) < (l.length:Int)) (h0:listErr ruleErr RuleV.name none l=0):RulesOk l:=by
 refine ⟨by omega,fun r hr=>?_⟩
 obtain ⟨k,hk⟩:=List.getElem?_of_mem hr
 have h1:=listErr_at h0 k r hk
 unfold ruleErr at h1
 split at h1
 ·rename_i h2; exact absurd h1 h2
 ·rename_i h2; simpa using h2
theorem checkRule_parts {r:RuleV} (h:checkRuleS r=0):isPathS r.name=true∧checkActionS r.action=0∧¬ (1000:Int) < (r.inputs.length:Int)∧listErr outErr id none r.inputs=0:=by
 unfold checkRuleS at h
 split at h
 ·contradiction
 rename_i h1
 split at h
 ·rename_i h2; exact absurd h h2
 rename_i h2
 split at h
 ·contradiction
 rename_i h3
 exact ⟨by simpa using h1,by simpa using h2,h3,h⟩
theorem action_outputs {a:ActionV} (h:checkActionS a=0):checkOutputsS a.outputs=0:=by
 unfold checkActionS at h
 repeat' split at h
 all_goals first
  | contradiction
  | (simp_all; done)
theorem outputs_parts {l:List ByteArray} (h:checkOutputsS l=0):¬ (100:Int) < (l.length:Int)∧listErr outErr id none l=0∧(l.any fun p=>l.any fun q=>liesS p q)=false:=by
 unfold checkOutputsS at h
 split at h
 ·contradiction
 split at h
 ·contradiction
 rename_i h2
 split at h
 ·rename_i h3; exact absurd h h3
 rename_i h3
 split at h
 ·contradiction
 rename_i h4
 exact ⟨h2,by simpa using h3,by simpa using h4⟩
theorem path_size6 {p:ByteArray} (h:isPathS p=true):p.size≤200:=by
 rw [isPathS,Bool.and_eq_true] at h
 have:=withinB_true h.1
 omega
theorem outErr_path6 {prev:Option ByteArray} {p:ByteArray} (h:outErr prev p=0):isPathS p=true:=by
 unfold outErr at h
 split at h
 ·contradiction
 ·rename_i h1; simpa using h1
theorem outErr_after {prev:Option ByteArray} {p:ByteArray} (h:outErr prev p=0):notAfter prev p=false:=by
 unfold outErr at h
 split at h
 ·contradiction
 ·split at h
  ·contradiction
  ·rename_i h1; simpa using h1
theorem paths_of {l:List ByteArray} (h:listErr outErr id none l=0):∀ p∈l,isPathS p=true:=by
 intro p hp
 obtain ⟨k,hk⟩:=List.getElem?_of_mem hp
 exact outErr_path6 (listErr_at h k p hk)
section
variable {l:List RuleV}
theorem RulesOk.at (h:RulesOk l) {i:Nat} {x:RuleV} (hx:l[i]?=some x):checkRuleS x=0:=h.each x (List.mem_of_getElem? hx)
theorem RulesOk.outs (h:RulesOk l) (i:Nat):(outsAt l i).length≤100∧listErr outErr id none (outsAt l i)=0∧((outsAt l i).any fun p=>(outsAt l i).any fun q=>liesS p q)=false:=by
 cases hx:l[i]? with
 | none=>rw [outsAt,hx]; exact ⟨by decide,rfl,rfl⟩
 | some x =>
   rw [outsAt_some hx]
   obtain ⟨h1,h2,h3⟩:=outputs_parts (action_outputs (checkRule_parts (h.at hx)).2.1)
   exact ⟨by omega,h2,h3⟩
theorem RulesOk.ins (h:RulesOk l) (i:Nat):(insAt l i).length≤1000∧listErr outErr id none (insAt l i)=0:=by
 cases hx:l[i]? with
 | none=>rw [insAt,hx]; exact ⟨by decide,rfl⟩
 | some x =>
   rw [insAt_some hx]
   obtain ⟨_,_,h1,h2⟩:=checkRule_parts (h.at hx)
   exact ⟨by omega,h2⟩
theorem meets_cross (h:RulesOk l) {i:Nat} {p:ByteArray} (hp:p∈outsAt l i):meetsS l p=crossS l i p:=by
 rw [Bool.eq_iff_iff]
 have hown:∀ q∈outsAt l i,liesS p q=false:=by
  have h3:=(h.outs i).2.2
  intro q hq
  rw [List.any_eq_false] at h3
  have h4:=h3 p hp
  cases hv:liesS p q with
  | false=>rfl
  | true=>exact absurd (List.any_eq_true.2 ⟨q,hq,hv⟩) h4
 simp only [meetsS,crossS,crossAt,List.any_eq_true,List.mem_range,Bool.or_eq_true,Bool.and_eq_true,decide_eq_true_eq]
 constructor
 ·rintro ⟨k,hk,⟨q,hq,hl⟩ | ⟨q,hq,hl⟩ | ⟨q,hq,hl⟩⟩
  ·exact ⟨k,hk,.inr ⟨q,hq,.inr hl⟩⟩
  ·refine ⟨k,hk,.inl ⟨fun e=>?_,q,hq,hl⟩⟩
   subst e
   rw [hown q hq] at hl; cases hl
  ·exact ⟨k,hk,.inr ⟨q,hq,.inl hl⟩⟩
 ·rintro ⟨k,hk,⟨_,q,hq,hl⟩ | ⟨q,hq,hl | hl⟩⟩
  ·exact ⟨k,hk,.inr (.inl ⟨q,hq,hl⟩)⟩
  ·exact ⟨k,hk,.inr (.inr ⟨q,hq,hl⟩)⟩
  ·exact ⟨k,hk,.inl ⟨q,hq,hl⟩⟩
end
def lastOf (l:List RuleV):Nat→List UInt8→Option Nat
 | 0,_=>none
 | i + 1,key=>if (outsAt l i).any (fun x=>x.data.toList == key) then some i else lastOf l i key
theorem hasB_data (l:List ByteArray) (s:ByteArray):hasB l s=l.any fun x=>x.data.toList == s.data.toList:=by
 rw [hasB]; congr 1; funext x; rw [Lib.toList_data,Lib.toList_data]
theorem lastOf_none {l:List RuleV} {i:Nat} {p:ByteArray}:lastOf l i p.data.toList=none↔twiceS l i p=false:=by
 induction i with
 | zero=>simp [lastOf,twiceS]
 | succ i ih =>
   rw [lastOf,twiceS,range_any_succ,←hasB_data]
   cases hasB (outsAt l i) p with
   | true=>simp
   | false=>simpa [twiceS] using ih
theorem lastOf_lt {l:List RuleV} {i k:Nat} {key:List UInt8} (h:lastOf l i key=some k):k < i∧(outsAt l k).any (fun x=>x.data.toList == key)=true:=by
 induction i with
 | zero=>cases h
 | succ i ih =>
   rw [lastOf] at h
   split at h
   ·rename_i h1; cases h; exact ⟨by omega,h1⟩
   ·have:=ih h; exact ⟨by omega,this.2⟩
theorem outs_once {l:List RuleV} (h:allOutputsErr l=0) {i k:Nat} {p q:ByteArray} (hp:p∈outsAt l i) (hq:q∈outsAt l k) (he:p.data.toList=q.data.toList):i=k:=by
 have key:∀ {i k:Nat} {p q:ByteArray},p∈outsAt l i→q∈outsAt l k→p.data.toList=q.data.toList→¬ k < i:=by
  intro i k p q hp hq he hlt
  have hi:i < l.length:=by
   rcases Nat.lt_or_ge i l.length with hi | hi
   ·exact hi
   ·rw [outsAt,List.getElem?_eq_none hi] at hp; simp at hp
  have h1:=firstErr_zero h i (by simpa using hi)
  have h2:=firstErr_zero h1 p hp
  unfold outputErr at h2
  split at h2
  ·contradiction
  ·rename_i h3
   apply h3
   rw [twiceS,List.any_eq_true]
   refine ⟨k,by simpa using hlt,?_⟩
   rw [hasB_data,List.any_eq_true]
   exact ⟨q,hq,by rw [he]; simp⟩
 have h1:=key hp hq he
 have h2:=key hq hp he.symm
 omega
theorem lastOf_is {l:List RuleV} (h:allOutputsErr l=0) {k:Nat} {p q:ByteArray} (hq:q∈outsAt l k) (he:p.data.toList=q.data.toList):lastOf l l.length p.data.toList=some k:=by
 have hk:k < l.length:=by
  rcases Nat.lt_or_ge k l.length with hi | hi
  ·exact hi
  ·rw [outsAt,List.getElem?_eq_none hi] at hq; simp at hq
 cases hl:lastOf l l.length p.data.toList with
 | none =>
   have:=lastOf_none.1 hl
   rw [twiceS,List.any_eq_false] at this
   exfalso
   apply this k (by simpa using hk)
   rw [hasB_data,List.any_eq_true]
   exact ⟨q,hq,by rw [he]; simp⟩
 | some j =>
   obtain ⟨_,h1⟩:=lastOf_lt hl
   rw [List.any_eq_true] at h1
   obtain ⟨x,hx,hxe⟩:=h1
   have:x.data.toList=p.data.toList:=by simpa using hxe
   rw [outs_once h hx hq (this.trans he)]
theorem uses_iff {l:List RuleV} (h:allOutputsErr l=0) (i k:Nat):usesS l i k=true↔∃ p∈insAt l i,lastOf l l.length p.data.toList=some k:=by
 rw [usesS,List.any_eq_true]
 constructor
 ·rintro ⟨q,hq,hh⟩
  rw [hasB_data,List.any_eq_true] at hh
  obtain ⟨p,hp,he⟩:=hh
  exact ⟨p,hp,lastOf_is h hq (by simpa using he)⟩
 ·rintro ⟨p,hp,hl⟩
  obtain ⟨_,h1⟩:=lastOf_lt hl
  rw [List.any_eq_true] at h1
  obtain ⟨q,hq,he⟩:=h1
  refine ⟨q,hq,?_⟩
  rw [hasB_data,List.any_eq_true]
  exact ⟨p,hp,by have:q.data.toList=p.data.toList:=by simpa using he
                 rw [this]; simp⟩
end Go.Proofs.Sm
namespace Go.Proofs.Sm
open Go.RowKit
structure Dfs (g:Graph) (wanted:List Nat) (s:List Bool) (todo:List Nat):Prop where
 len:s.length=g.length
 has:∀ k∈wanted,s[k]?=some true∨k∈todo
 closed:∀ i,s[i]?=some true→∀ k∈needAt g i,s[k]?=some true∨k∈todo
 least:∀ (t:Nat→Prop),(∀ k∈wanted,t k)→(∀ i,t i→∀ k∈needAt g i,t k)→(∀ i,s[i]?=some true→t i)∧∀ i∈todo,t i
 lt:∀ i∈todo,i < g.length
def Within (g:Graph):Prop:=∀ i,∀ k∈needAt g i,k < g.length
theorem replicate_false {n i:Nat}:¬ (List.replicate n false)[i]?=some true:=by
 rw [List.getElem?_replicate]
 split <;> simp
theorem Dfs.start {g:Graph} {wanted:List Nat} (h:∀ i∈wanted,i < g.length):Dfs g wanted (List.replicate g.length false) wanted :=
 ⟨by simp,fun _ hk=>.inr hk,fun i hi=>absurd hi replicate_false,fun t h1 _=>⟨fun i hi=>absurd hi replicate_false,h1⟩,h⟩
section
variable {g:Graph} {wanted:List Nat} {s:List Bool} {todo:List Nat} {k:Nat}
theorem Dfs.skip (h:Dfs g wanted s (todo ++ [k])) (hk:s[k]?=some true):Dfs g wanted s todo:=by
 have out:∀ {i},s[i]?=some true∨i∈todo ++ [k]→s[i]?=some true∨i∈todo:=by
  rintro i (hi | hi)
  ·exact .inl hi
  ·rcases List.mem_append.1 hi with hi | hi
   ·exact .inr hi
   ·simp at hi; subst hi; exact .inl hk
 exact ⟨h.len,fun i hi=>out (h.has i hi),fun i hi m hm=>out (h.closed i hi m hm),fun t h1 h2=>⟨(h.least t h1 h2).1,fun i hi=>(h.least t h1 h2).2 i (by simp [hi])⟩,fun i hi=>h.lt i (by simp [hi])⟩
theorem set_true {i:Nat} (hk:k < s.length):(s.set k true)[i]?=some true↔s[i]?=some true∨i=k:=by
 rw [List.getElem?_set]
 constructor
 ·intro h
  split at h
  ·rename_i e; exact .inr e.symm
  ·exact .inl h
 ·rintro (h | rfl)
  ·split
   ·rename_i e; subst e; simp
   ·exact h
  ·simp [hk]
theorem Dfs.take (h:Dfs g wanted s (todo ++ [k])) (hw:Within g):Dfs g wanted (s.set k true) (todo ++ needAt g k):=by
 have hk:k < s.length:=by rw [h.len]; exact h.lt k (by simp)
 have out:∀ {i},s[i]?=some true∨i∈todo ++ [k]→(s.set k true)[i]?=some true∨i∈todo ++ needAt g k:=by
  rintro i (hi | hi)
  ·exact .inl ((set_true hk).2 (.inl hi))
  ·rcases List.mem_append.1 hi with hi | hi
   ·exact .inr (by simp [hi])
   ·simp at hi; exact .inl ((set_true hk).2 (.inr hi))
 refine ⟨by rw [List.length_set,h.len],fun i hi=>out (h.has i hi),fun i hi m hm=>?_,fun t h1 h2=>⟨fun i hi=>?_,fun i hi=>?_⟩,fun i hi=>?_⟩
 ·rcases (set_true hk).1 hi with hi | rfl
  ·exact out (h.closed i hi m hm)
  ·exact .inr (by simp [hm])
 ·rcases (set_true hk).1 hi with hi | rfl
  ·exact (h.least t h1 h2).1 i hi
  ·exact (h.least t h1 h2).2 i (by simp)
 ·rcases List.mem_append.1 hi with hi | hi
  ·exact (h.least t h1 h2).2 i (by simp [hi])
  ·exact h2 k ((h.least t h1 h2).2 k (by simp)) i hi
 ·rcases List.mem_append.1 hi with hi | hi
  ·exact h.lt i (by simp [hi])
  ·exact hw k i hi
theorem Dfs.done (h:Dfs g wanted s []):Closed g wanted s :=
 ⟨h.len,fun k hk=>(h.has k hk).elim id (fun h=>by simp at h),fun i hi k hk=>(h.closed i hi k hk).elim id (fun h=>by simp at h),fun t h1 h2=>(h.least t h1 h2).1⟩
end
def dfsM (g:Graph) (s:List Bool) (todo:List Nat):Nat:=((List.range g.length).map fun i=>if s[i]?=some true then 0 else 1 + (needAt g i).length).sum + todo.length
theorem dfsM_skip (g:Graph) (s:List Bool) (todo:List Nat) (k:Nat):dfsM g s todo < dfsM g s (todo ++ [k]):=by simp [dfsM]
theorem sum_drop {f f':Nat→Nat} {k:Nat}:∀ {n:Nat},k < n→(∀ i,i≠k→f' i=f i)→f' k≤f k→((List.range n).map f').sum + (f k - f' k)=((List.range n).map f).sum
 | 0,h,_,_=>absurd h (by omega)
 | n + 1,h,h1,h2=>by
   rw [List.range_succ,List.map_append,List.map_append,List.sum_append,List.sum_append]
   simp only [List.map_cons,List.map_nil,List.sum_cons,List.sum_nil,Nat.add_zero]
   by_cases hk:k=n
   ·subst hk
    have:(List.range k).map f'=(List.range k).map f:=List.map_congr_left fun i hi=>h1 i (by simp at hi; omega)
    rw [this]; omega
   ·have:=sum_drop (n:=n) (by omega) h1 h2
    rw [h1 n (fun e=>hk e.symm)]; omega
theorem dfsM_take {g:Graph} {s:List Bool} {todo:List Nat} {k:Nat} (hl:s.length=g.length) (hk:k < g.length) (h:s[k]?=some false):dfsM g (s.set k true) (todo ++ needAt g k) < dfsM g s (todo ++ [k]):=by
 have hks:k < s.length:=by omega
 have h1:=sum_drop (f:=fun i=>if s[i]?=some true then 0 else 1 + (needAt g i).length) (f':=fun i=>if (s.set k true)[i]?=some true then 0 else 1 + (needAt g i).length) (n:=g.length) hk
  (fun i hi=>by
    have e:(s.set k true)[i]?=s[i]?:=List.getElem?_set_ne (fun e=>hi e.symm)
    simp only [e]) (by simp only [(set_true hks).2 (.inr rfl)]; simp)
 simp only [(set_true hks).2 (.inr rfl),h] at h1
 simp only [dfsM,List.length_append,List.length_singleton]
 simp at h1
 omega
def idxName (l:List RuleV) (s:ByteArray):Option Nat:=(List.range l.length).find? fun k=>(l[k]?).any fun r=>r.name.toList == s.toList
def idxAll (l:List RuleV):List ByteArray→Option (List Nat)
 | []=>some []
 | s :: r=>match idxName l s with
   | none=>none
   | some k=>(idxAll l r).map (k :: ·)
theorem idxName_some {l:List RuleV} {s:ByteArray} {k:Nat} (h:idxName l s=some k):k < l.length∧∃ r,l[k]?=some r∧r.name.toList=s.toList:=by
 rw [idxName,List.find?_range_eq_some] at h
 obtain ⟨h1,h2,_⟩:=h
 have hk:k < l.length:=by simpa using h2
 obtain ⟨r,hr⟩:=at_lt hk
 rw [hr] at h1
 exact ⟨hk,r,hr,by simpa using h1⟩
theorem idxAll_lt {l:List RuleV}:∀ {ws:List ByteArray} {ks:List Nat},idxAll l ws=some ks→∀ k∈ks,k < l.length
 | [],ks,h,k,hk=>by cases h; simp at hk
 | s :: r,ks,h,k,hk=>by
   rw [idxAll] at h
   split at h
   ·cases h
   ·rename_i j hj
    cases hr:idxAll l r with
    | none=>rw [hr] at h; cases h
    | some m =>
      rw [hr] at h; cases h
      rcases List.mem_cons.1 hk with rfl | hk
      ·exact (idxName_some hj).1
      ·exact idxAll_lt hr k hk
theorem idxAll_length {l:List RuleV}:∀ {ws:List ByteArray} {ks:List Nat},idxAll l ws=some ks→ks.length=ws.length
 | [],ks,h=>by cases h; rfl
 | s :: r,ks,h=>by
   rw [idxAll] at h
   split at h
   ·cases h
   ·cases hr:idxAll l r with
    | none=>rw [hr] at h; cases h
    | some m=>rw [hr] at h; cases h; simp [idxAll_length hr]
theorem idxAll_snoc {l:List RuleV} {s:ByteArray}:∀ {ws:List ByteArray} {ks:List Nat},idxAll l ws=some ks→idxAll l (ws ++ [s])=(idxName l s).map fun k=>ks ++ [k]
 | [],ks,h=>by
   cases h
   rw [List.nil_append,idxAll]
   cases idxName l s <;> rfl
 | x :: r,ks,h=>by
   rw [idxAll] at h
   split at h
   ·cases h
   ·rename_i j hj
    cases hr:idxAll l r with
    | none=>rw [hr] at h; cases h
    | some m =>
      rw [hr] at h; cases h
      rw [List.cons_append,idxAll,hj]
      simp only
      rw [idxAll_snoc hr]
      cases idxName l s <;> rfl
theorem idxAll_none {l:List RuleV} {s:ByteArray} (h:idxName l s=none):∀ {ws r:List ByteArray},idxAll l (ws ++ s :: r)=none
 | [],r=>by rw [List.nil_append,idxAll,h]
 | x :: ws,r=>by
   rw [List.cons_append,idxAll]
   split
   ·rfl
   ·rw [idxAll_none h]; rfl
def isOf (s:List Bool) (i:Nat):Bool:=s[i]? == some true
def planErr (l:List RuleV) (wanted:List ByteArray):Int:=if checkRulesS l≠0 then checkRulesS l else if 500 < (wanted.length:Int) then 2 else if idxAll l wanted=none then 9 else 0
def PlanIs (l:List RuleV) (wanted:List ByteArray) (out:List Nat):Prop:=∃ ks s,idxAll l wanted=some ks∧Closed (needsS l) ks s∧out=(orderS (needsS l) (isOf s)).1
theorem PlanIs.unique {l:List RuleV} {wanted:List ByteArray} {out out':List Nat} (h:PlanIs l wanted out) (h':PlanIs l wanted out'):out=out':=by
 obtain ⟨ks,s,h1,h2,rfl⟩:=h
 obtain ⟨ks',s',h1',h2',rfl⟩:=h'
 rw [h1] at h1'
 obtain rfl:=Option.some.inj h1'
 rw [h2.unique h2']
theorem needs_within (l:List RuleV):Within (needsS l):=fun i k hk=>by rw [needsS_length]; exact needs_lt hk
theorem Closed.part {l:List RuleV} {ks:List Nat} {s:List Bool} (h:Closed (needsS l) ks s) (hc:checkRulesS l=0):(orderS (needsS l) (isOf s)).2=true:=by
 have h1:(orderS (needsS l) fun _=>true).2=true:=by
  unfold checkRulesS at hc
  split at hc
  ·contradiction
  split at hc
  ·rename_i h2; exact absurd hc h2
  split at hc
  ·rename_i h2; exact absurd hc h2
  split at hc
  ·contradiction
  ·rename_i h2; simpa using h2
 refine order_part h1 fun i hi hs k hk=>⟨needs_within l i k hk,?_⟩
 have hs':s[i]?=some true:=by simpa [isOf] using hs
 have:=h.closed i hs' k hk
 simp [isOf,this]
end Go.Proofs.Sm
namespace Go.Proofs.Sm
open Go.RowKit
theorem Sl.nat {w:World} {S:Nat→Prop} {A:Option Addr} {n k:Nat} {l:List Nat} (h:Sl w S A n l) (hk:k < n):∃ b o x,A=some ⟨b,o,none⟩∧S b∧l[k]?=some x∧x≤maxLen∧w.cell? ⟨b,o + k,none⟩=some (.int .i64 (x:Int)):=by
 have hk':k < l.length:=by rw [h.1]; exact hk
 obtain ⟨b,o,vs,e,hb,⟨rfl,h1⟩,ha⟩:=h.at hk'
 have h0:=ha 0 _ rfl
 simp only [Rep.sz,Nat.mul_one,Nat.add_zero] at h0
 exact ⟨b,o,_,e,hb,List.getElem?_eq_getElem hk',h1,h0⟩
theorem Sl.bool {w:World} {S:Nat→Prop} {A:Option Addr} {n k:Nat} {l:List Bool} (h:Sl w S A n l) (hk:k < n):∃ b o x,A=some ⟨b,o,none⟩∧S b∧l[k]?=some x∧w.cell? ⟨b,o + k,none⟩=some (.bool x):=by
 have hk':k < l.length:=by rw [h.1]; exact hk
 obtain ⟨b,o,vs,e,hb,rfl,ha⟩:=h.at hk'
 have h0:=ha 0 _ rfl
 simp only [Rep.sz,Nat.mul_one,Nat.add_zero] at h0
 exact ⟨b,o,_,e,hb,List.getElem?_eq_getElem hk',h0⟩
def numOr6:Option Nat→Int
 | none=>-1
 | some k=>(k:Int)
theorem idx_yes {l:List RuleV} {s:ByteArray} {k:Nat} {x:RuleV} (hx:l[k]?=some x) (h:∀ j,j < k→((l[j]?).any fun r=>r.name.toList == s.toList)=false) (hq:(x.name.toList == s.toList)=true):idxName l s=some k:=by
 rw [idxName,List.find?_range_eq_some]
 refine ⟨by rw [hx]; exact hq,?_,fun j hj=>by rw [h j hj]; rfl⟩
 simpa using (List.getElem?_eq_some_iff.1 hx).1
theorem bool_info:(Tryz.prog.info? 4).map (fun i=>(i.zero,i.size,i.bytes))=some (some (.bool false),1,1):=by kernel_rfl
theorem int_info:(Tryz.prog.info? 3).map (fun i=>(i.zero,i.size,i.bytes))=some (some (.int .i64 0),1,8):=by kernel_rfl
theorem ints_info:(Tryz.prog.info? 87).map (fun i=>(i.zero,i.size,i.bytes))=some (some (.slice none 0 0),1,24):=by kernel_rfl
theorem made_cells (v:Value) (n:Nat):(madeCells #[v] (n * 1)).toList=List.replicate n v:=by
 rw [Nat.mul_one]
 apply List.ext_getElem
 ·simp [madeCells]
 ·intro i h1 h2
  simp [madeCells,Nat.mod_one]
end Go.Proofs.Sm
namespace Go.Proofs.Sm
open Go.RowKit
def lenOf:Value→Nat
 | .slice _ n _=>n
 | _=>0
def doneV (n:Nat) (out:List Nat):List Value:=(List.range n).map fun i=>.bool (out.contains i)
theorem done_start (n:Nat):doneV n []=List.replicate n (.bool false):=by
 apply List.ext_getElem
 ·simp [doneV]
 ·intro i h1 h2
  simp [doneV]
theorem done_at {n i:Nat} (out:List Nat) (h:i < n):(doneV n out)[i]?=some (.bool (out.contains i)):=by
 rw [doneV,List.getElem?_map,List.getElem?_range h]; rfl
theorem done_set {n k:Nat} (out:List Nat):(doneV n out).set k (.bool true)=doneV n (out ++ [k]):=by
 apply List.ext_getElem
 ·simp [doneV]
 ·intro i h1 h2
  rw [List.getElem_set]
  simp only [doneV,List.getElem_map,List.getElem_range]
  split
  ·rename_i e; subst e; simp
  ·rename_i e
   have:¬ i=k:=fun h=>e h.symm
   simp [this]
theorem need_row {g:Graph} {i:Nat} {r:List Nat} (h:g[i]?=some r):needAt g i=r:=by rw [needAt,h]; rfl
theorem free_no1 {g:Graph} {s:List Bool} {out:List Nat} {k:Nat} (h:s[k]?=some false):freeS g (isOf s) out k=false:=by rw [freeS,isOf,h]; rfl
theorem free_no2 {g:Graph} {s:List Bool} {out:List Nat} {k:Nat} (h:out.contains k=true):freeS g (isOf s) out k=false:=by rw [freeS,h]; simp
theorem free_is {g:Graph} {s:List Bool} {out:List Nat} {k:Nat} (h:s[k]?=some true) (h1:out.contains k=false):freeS g (isOf s) out k=readyS g out k:=by rw [freeS,isOf,h,h1]; simp
theorem upto_step {p:Nat→Bool} {k:Nat} (h:∀ j,j < k→p j=false) (hk:p k=false):∀ j,j < k + 1→p j=false:=fun j hj=>by
 by_cases e:j=k
 ·subst e; exact hk
 ·exact h j (by omega)
end Go.Proofs.Sm
namespace Go.Proofs.Sm
open Go.RowKit
theorem slice_own6 {A:Addr} {n c g:Nat} (h:(Value.slice (some A) n c).ownBlock=some g):A.block=g:=by simpa [Value.ownBlock] using h
end Go.Proofs.Sm
