/- What is due after a change of files, and was not before it, is among the suspects of the paths that changed: the given statement, for all arguments; no condition. -/
import Derived.Test.YtaabdbephemboaaGreatDoorBx1
import Derived.Test.YtaabdbephemboaaGreatDoorBx2
import Derived.Test.YtaabdbephemboaaGreatDoorBx3
import Derived.Test.YtaabdbephemboaaGreatDoorBx4
import Derived.Test.YtaabdbephemboaaGreatDoorBx5
import Derived.Test.YtaabdbephemboaaGreatDoorBx6
import Derived.Test.YtaabdbephemboaaGreatDoorBx7
import Derived.Test.YtaabdbephemboaaGreatDoorBx8
import Derived.Test.YtaabdbephemboaaGreatDoorBx9
import Derived.Test.YtaabdbephemboaaGreatDoorBx10
import Derived.Test.YtaabdbephemboaaGreatDoorBx11
import Derived.Test.YtaabdbephemboaaGreatDoorBx12
import Derived.Test.YtaabdbephemboaaGreatDoorBx13
import Derived.Test.YtaabdbephemboaaGreatDoorBx14
import Derived.Test.YtaabdbephemboaaGreatDoorBx15
import Derived.Test.YtaabdbephemboaaGreatDoorBx16
import Derived.Test.YtaabdbephemboaaGreatDoorBx17
import Derived.Test.YtaabdbephemboaaGreatDoorBx18
import Derived.Test.YtaabdbephemboaaGreatDoorBx19
import Derived.Test.YtaabdbephemboaaGreatDoorBx20
import Derived.Test.YtaabdbephemboaaGreatDoorBx21
import Derived.Test.YtaabdbephemboaaGreatDoorBx22
import Derived.Test.YtaabdbephemboaaGreatDoorBx23
import Derived.Test.YtaabdbephemboaaGreatDoorBx24
import Derived.Test.YtaabdbephemboaaGreatDoorBx25
import Derived.Test.YtaabdbephemboaaGreatDoorBx26
import Derived.Test.YtaabdbephemboaaGreatDoorBx27
import Derived.Test.YtaabdbephemboaaGreatDoorBx28
import Derived.Test.YtaabdbephemboaaGreatDoorBx29
import Derived.Test.YtaabdbephemboaaGreatDoorBx30
import Derived.Test.YtaabdbephemboaaGreatDoorBx31
import Derived.Test.YtaabdbephemboaaGreatDoorBx32
import Derived.Test.YtaabdbephemboaaGreatDoorBx33
import Derived.Test.YtaabdbephemboaaGreatDoorBx34
import Derived.Test.YtaabdbephemboaaGreatDoorBx35
import Derived.Test.YtaabdbephemboaaGreatDoorBx36
import Derived.StillTailTactics
namespace Go.Proofs.Sm
open Go.RowKit
theorem stands_from {l:List Look} {F:List FileV} (hc:checkLooksS l=0) (hF:checkFilesS F=0) (h:l.map (fun y=>lookAtS F y.path)=l):looksOfErr l F=0∧sameLooksS l (looksOfS l F)=true:=by
 have e:looksOfErr l F=0:=by rw [looksOfErr,if_neg (by rw [hc]; simp),hF]
 refine ⟨e,sameLooksS_iff.2 ?_⟩
 rw [looksOfS,if_pos e,looksAtS,h]
theorem stands_exec {a:ActionV} {F:List FileV} (h:bothErr a F=0):looksOfErr (execS a F).looks F=0∧sameLooksS (execS a F).looks (looksOfS (execS a F).looks F)=true :=
 stands_from (exec_right h).1.right (exec_right h).2.2 (exec_right h).1.stand
end Go.Proofs.Sm
namespace Go.Proofs.Sm
open Go.RowKit
theorem findM_same (l:List MemoryV) (r:RuleV) (x:ResultV):findM (putM l (memOf r x)) r.name=some (memOf r x):=by
 rw [findM_put]; exact if_pos rfl
theorem findM_other {l:List MemoryV} {r:RuleV} {x:ResultV} {n:ByteArray} (h:¬ n.toList=r.name.toList):findM (putM l (memOf r x)) n=findM l n:=by
 rw [findM_put]; exact if_neg h
section
variable {l:List RuleV} {mem:List MemoryV} {k:Nat} {ks:List Nat} {s:BSt} {r:RuleV}
theorem execOut_cases (r:RuleV) (F:List FileV) (m:Option MemoryV):(bothErr r.action F≠0∧execOut r F m=⟨0,false,none,bothErr r.action F⟩)∨(bothErr r.action F=0∧(execS r.action F).code≠0∧execOut r F m=⟨3,false,none,0⟩) ∨
 (bothErr r.action F=0∧(execS r.action F).code=0∧execOut r F m=⟨1,m.any fun y=>sameFsS y.result.files (execS r.action F).files,some (execS r.action F),0⟩):=by
 unfold execOut
 by_cases h:bothErr r.action F=0
 ·rw [if_neg (by simpa using h)]
  by_cases h1:(execS r.action F).code=0
  ·rw [if_neg (by simpa using h1)]; exact .inr (.inr ⟨h,h1,rfl⟩)
  ·rw [if_pos h1]; exact .inr (.inl ⟨h,h1,rfl⟩)
 ·rw [if_pos h]; exact .inl ⟨h,rfl⟩
theorem outS_none {g:Graph} (h:findM mem r.name=none):outS g mem r k s=if (needAt g k).any (isOf s.bad) then ⟨4,false,none,0⟩ else execOut r (inputsS s.have_ r) none:=by
 unfold outS
 rw [h]
theorem outS_some {g:Graph} {m:MemoryV} (h:findM mem r.name=some m):outS g mem r k s=if (needAt g k).any (isOf s.bad) then ⟨4,false,none,0⟩ else if memStands r m (inputsS s.have_ r) then ⟨2,false,some m.result,0⟩ else execOut r (inputsS s.have_ r) (some m):=by
 unfold outS
 rw [h]
theorem mem_stands {F:List FileV} (h:bothErr r.action F=0):memStands r (memOf r (execS r.action F)) F=true:=by
 obtain ⟨h1,h2⟩:=stands_exec h
 unfold memStands memOf
 rw [h1,h2]
 simp
end
def NamesOff (l:List RuleV) (ks:List Nat) (n:ByteArray):Prop:=∀ k∈ks,∀ r,l[k]?=some r→¬ r.name.toList=n.toList
theorem kept_stay {l:List RuleV} {mem:List MemoryV} {n:ByteArray}:∀ {ks:List Nat} {s:BSt},NamesOff l ks n→findM (stepsS l mem ks s).2.kept n=findM s.kept n
 | [],_,_=>rfl
 | k :: ks,s,h=>by
   have h':NamesOff l ks n:=fun j hj=>h j (List.mem_cons_of_mem _ hj)
   cases hr:l[k]? with
   | none=>rw [stepsS,hr]; exact kept_stay h'
   | some r =>
     by_cases hf:(outS (needsS l) mem r k s).fault=0
     ·rw [steps_go hr hf,kept_stay h']
      unfold takeS
      cases (outS (needsS l) mem r k s).res with
      | none=>rfl
      | some x =>
        show findM (putM s.kept (memOf r x)) n=_
        exact findM_other fun e=>h k (List.mem_cons_self ..) r hr e.symm
     ·rw [steps_stop hr hf]
def againStep (t:StepV):StepV:=if t.what=1 then ⟨t.name,2,false⟩ else t
theorem steps_again {l:List RuleV} {mem:List MemoryV}:∀ {ks:List Nat} {s t:BSt},(stepsS l [] ks s).1=0 →
 (∀ k∈ks,∀ r,l[k]?=some r→findM s.kept r.name=none)→(ks.Pairwise fun i j=>∀ r q,l[i]?=some r→l[j]?=some q→¬ r.name.toList=q.name.toList) →
 (∀ k∈ks,∀ r,l[k]?=some r→findM mem r.name=findM (stepsS l [] ks s).2.kept r.name) →
 t.have_=s.have_→t.bad=s.bad→t.kept=s.kept→t.steps=s.steps.map againStep →
 (stepsS l mem ks t).1=0∧(stepsS l mem ks t).2.have_=(stepsS l [] ks s).2.have_∧(stepsS l mem ks t).2.bad=(stepsS l [] ks s).2.bad∧(stepsS l mem ks t).2.kept=(stepsS l [] ks s).2.kept∧(stepsS l mem ks t).2.steps=(stepsS l [] ks s).2.steps.map againStep
 | [],s,t,_,_,_,_,h1,h2,h3,h4=>⟨rfl,h1,h2,h3,h4⟩
 | k :: ks,s,t,h0,hno,hpw,hmem,h1,h2,h3,h4=>by
   have hpc:=List.pairwise_cons.1 hpw
   cases hr:l[k]? with
   | none =>
     have e:∀ mem s,stepsS l mem (k :: ks) s=stepsS l mem ks s:=fun mem s=>by rw [stepsS,hr]
     rw [e,e] at *
     exact steps_again h0 (fun j hj=>hno j (List.mem_cons_of_mem _ hj)) hpc.2 (fun j hj=>hmem j (List.mem_cons_of_mem _ hj)) h1 h2 h3 h4
   | some r =>
     by_cases hf:(outS (needsS l) [] r k s).fault=0
     ·rw [steps_go hr hf] at h0 hmem ⊢
      have hoff:NamesOff l ks r.name:=fun j hj q hq e=>hpc.1 j hj r q hr hq e.symm
      have hm:=hmem k (List.mem_cons_self ..) r hr
      rw [kept_stay hoff] at hm
      have hnone:findM [] r.name=none:=rfl
      have hrk:=hno k (List.mem_cons_self ..) r hr
      have hout:=outS_none (g:=needsS l) (k:=k) (s:=s) hnone
      -- what the second build does at this rule
      have hB:∃ o,outS (needsS l) mem r k t=o∧o.fault=0∧o.res=(outS (needsS l) [] r k s).res∧againStep ⟨r.name,(outS (needsS l) [] r k s).what,(outS (needsS l) [] r k s).early⟩=⟨r.name,o.what,o.early⟩:=by
       by_cases hd:(needAt (needsS l) k).any (isOf s.bad)=true
       ·rw [if_pos hd] at hout
        refine ⟨⟨4,false,none,0⟩,?_,rfl,by rw [hout],by rw [hout]; rfl⟩
        unfold outS
        rw [h2,if_pos hd]
       ·rw [if_neg hd] at hout
        rcases execOut_cases r (inputsS s.have_ r) none with ⟨hb,he⟩ | ⟨hb,hc,he⟩ | ⟨hb,hc,he⟩
        ·rw [hout,he] at hf; exact absurd hf hb
        ·rw [he] at hout
         rw [hout] at hm
         have hm':findM mem r.name=none:=hm.trans hrk
         refine ⟨⟨3,false,none,0⟩,?_,rfl,by rw [hout],by rw [hout]; rfl⟩
         rw [outS_none hm',h2,if_neg hd,h1]
         exact he
        ·rw [he] at hout
         rw [hout] at hm
         have hm':findM mem r.name=some (memOf r (execS r.action (inputsS s.have_ r))):=by
          rw [hm]
          show findM (putM s.kept (memOf r (execS r.action (inputsS s.have_ r)))) r.name=_
          exact findM_same ..
         refine ⟨⟨2,false,some (execS r.action (inputsS s.have_ r)),0⟩,?_,rfl,by rw [hout],by rw [hout]; rfl⟩
         rw [outS_some hm',h2,if_neg hd,h1,if_pos (mem_stands hb)]
         rfl
      obtain ⟨o,ho,hof,hor,host⟩:=hB
      rw [steps_go hr (by rw [ho]; exact hof),ho]
      refine steps_again h0 (fun j hj q hq=>?_) hpc.2 (fun j hj=>hmem j (List.mem_cons_of_mem _ hj)) ?_ ?_ ?_ ?_
      ·have hjn:=hno j (List.mem_cons_of_mem _ hj) q hq
       unfold takeS
       cases (outS (needsS l) [] r k s).res with
       | none=>exact hjn
       | some x =>
         show findM (putM s.kept (memOf r x)) q.name=none
         rw [findM_other fun e=>hoff j hj q hq e]
         exact hjn
      ·show o.res.elim t.have_ _=(outS (needsS l) [] r k s).res.elim s.have_ _
       rw [hor,h1]
      ·show (if o.res.isNone then t.bad.set k true else t.bad)=if (outS (needsS l) [] r k s).res.isNone then s.bad.set k true else s.bad
       rw [hor,h2]
      ·show o.res.elim t.kept _=(outS (needsS l) [] r k s).res.elim s.kept _
       rw [hor,h3]
      ·show t.steps ++ [(⟨r.name,o.what,o.early⟩:StepV)]=(s.steps ++ [(⟨r.name,(outS (needsS l) [] r k s).what,(outS (needsS l) [] r k s).early⟩:StepV)]).map againStep
       rw [List.map_append,h4,List.map_singleton,host]
     ·rw [steps_stop hr hf] at h0
      exact absurd h0 hf
end Go.Proofs.Sm
namespace Go.Proofs.Sm
open Go.RowKit
theorem find_first {α:Type} {l:List α} {p:α→Bool} {k:Nat} {x:α} (h:(l.take k).any p=false) (hx:l[k]?=some x) (hp:p x=true):l.find? p=some x:=by
 have e:l=l.take k ++ x :: l.drop (k + 1):=by rw [←drop_at hx,List.take_append_drop]
 have h1:(l.take k).find? p=none:=by
  rw [List.find?_eq_none]
  intro y hy
  exact List.any_eq_false.1 h y hy
 rw [e,List.find?_append,List.find?_cons,hp,h1]
 rfl
theorem find_nowhere {α:Type} {l:List α} {p:α→Bool} (h:l.any p=false):l.find? p=none:=by
 rw [List.find?_eq_none]
 intro y hy
 exact List.any_eq_false.1 h y hy
def IdxPost (p:FileV→Bool) (l:List FileV) (w:World) (e:Ending) (w':World):Prop :=
 (e=.returned (.int .i64 (-1))∧l.find? p=none∨∃ (k:Nat) (x:FileV),e=.returned (.int .i64 (k:Int))∧l[k]?=some x∧l.find? p=some x)∧Below w.heap.size w w'
end Go.Proofs.Sm
namespace Go.Proofs.Sm
open Go.RowKit
def namesAt (l:List RuleV) (out:List Nat):List ByteArray:=out.map (nameAt l)
end Go.Proofs.Sm
namespace Go.Proofs.Sm
open Go.RowKit
theorem list_eq {x y:ByteArray} (h:x.toList=y.toList):x=y:=bytes_eq (by rw [←Lib.toList_data,←Lib.toList_data]; exact h)
theorem any_eqS {l:List ByteArray} {s:ByteArray}:l.any (eqS s)=true↔s∈l:=by
 rw [List.any_eq_true]
 constructor
 ·rintro ⟨x,hx,he⟩
  rw [eqS,beq_iff_eq] at he
  rw [←list_eq he]; exact hx
 ·intro h
  exact ⟨s,h,by rw [eqS,beq_iff_eq]⟩
end Go.Proofs.Sm
namespace Go.Proofs.Sm
open Go.RowKit
def hitOne (l:List RuleV) (ws:List ByteArray) (s:List Bool) (k:Nat):Bool:=((insAt l k).any fun p=>hasB ws p) || (needAt (needsS l) k).any fun j=>isOf s j
def hitsS (l:List RuleV) (ws:List ByteArray) (out:List Nat):List Bool:=out.foldl (fun s k=>s.set k (hitOne l ws s k)) (List.replicate l.length false)
theorem hits_start (l:List RuleV) (ws:List ByteArray):hitsS l ws []=List.replicate l.length false:=rfl
theorem hits_snoc (l:List RuleV) (ws:List ByteArray) (out:List Nat) (k:Nat):hitsS l ws (out ++ [k])=(hitsS l ws out).set k (hitOne l ws (hitsS l ws out) k):=by rw [hitsS,hitsS,List.foldl_append]; rfl
theorem hits_more {l:List RuleV} {ws:List ByteArray} {out:List Nat} {t k:Nat} (h:out[t]?=some k):hitsS l ws (out.take (t + 1))=(hitsS l ws (out.take t)).set k (hitOne l ws (hitsS l ws (out.take t)) k):=by
 rw [List.take_add_one,h]
 exact hits_snoc _ _ _ _
theorem foldl_length (f:List Bool→Nat→Bool):∀ (out:List Nat) (s:List Bool),(out.foldl (fun s k=>s.set k (f s k)) s).length=s.length
 | [],_=>rfl
 | k :: r,s=>by
   rw [List.foldl_cons,foldl_length f r,List.length_set]
theorem hits_length (l:List RuleV) (ws:List ByteArray) (out:List Nat):(hitsS l ws out).length=l.length:=by
 rw [hitsS,foldl_length (hitOne l ws)]; simp
theorem foldl_off (f:List Bool→Nat→Bool) {i:Nat}:∀ (out:List Nat) (s:List Bool),i ∉ out→(out.foldl (fun s k=>s.set k (f s k)) s)[i]?=s[i]?
 | [],_,_=>rfl
 | k :: r,s,h=>by
   rw [List.foldl_cons,foldl_off f r _ fun hm=>h (by simp [hm]),List.getElem?_set_ne fun e=>h (by simp [e])]
def hitNames (l:List RuleV) (s:List Bool) (i:Nat):List ByteArray:=namesAt l ((List.range i).filter (isOf s))
theorem hitNames_yes {l:List RuleV} {s:List Bool} {i:Nat} {x:RuleV} (h:s[i]?=some true) (hx:l[i]?=some x):hitNames l s (i + 1)=hitNames l s i ++ [x.name]:=by
 rw [hitNames,List.range_succ,List.filter_append,namesAt,List.map_append,←nameAt_some hx]
 simp [isOf,h,hitNames,namesAt]
theorem hitNames_no {l:List RuleV} {s:List Bool} {i:Nat} (h:s[i]?=some false):hitNames l s (i + 1)=hitNames l s i:=by
 rw [hitNames,List.range_succ,List.filter_append]
 simp [isOf,h,hitNames]
theorem hitNames_le (l:List RuleV) (s:List Bool) (i:Nat):(hitNames l s i).length≤i:=by
 rw [hitNames,namesAt,List.length_map]
 have:=List.length_filter_le (isOf s) (List.range i)
 simpa using this
def suspErr (l:List RuleV) (ws:List ByteArray):Int:=if checkRulesS l≠0 then checkRulesS l else if 1000 < (ws.length:Int) then 2 else if ws.any (fun p=>!isPathS p) then 3 else 0
def suspS (l:List RuleV) (ws:List ByteArray):List ByteArray:=hitNames l (hitsS l ws (orderS (needsS l) allTrue).1) l.length
theorem susp_bad {l:List RuleV} {ws:List ByteArray} (h:checkRulesS l≠0):suspErr l ws=checkRulesS l:=by rw [suspErr,if_pos h]
theorem susp_large {l:List RuleV} {ws:List ByteArray} (h:checkRulesS l=0) (h1:(1000:Int) < (ws.length:Int)):suspErr l ws=2:=by rw [suspErr,if_neg (by simp [h]),if_pos h1]
theorem susp_form {l:List RuleV} {ws:List ByteArray} {p:ByteArray} (h:checkRulesS l=0) (h1:¬ (1000:Int) < (ws.length:Int)) (hp:p∈ws) (h2:isPathS p=false):suspErr l ws=3:=by
 rw [suspErr,if_neg (by simp [h]),if_neg h1,if_pos (List.any_eq_true.2 ⟨p,hp,by rw [h2]; rfl⟩)]
theorem susp_ok {l:List RuleV} {ws:List ByteArray} (h:checkRulesS l=0) (h1:¬ (1000:Int) < (ws.length:Int)) (h2:ws.any (fun p=>!isPathS p)=false):suspErr l ws=0:=by
 rw [suspErr,if_neg (by simp [h]),if_neg h1,if_neg (by rw [h2]; simp)]
def SuspPost (l:List RuleV) (ws:List ByteArray) (w:World) (e:Ending) (w':World):Prop :=
 ∃ v,e=.returned (.tuple #[v,.int .i64 (suspErr l ws)])∧(suspErr l ws≠0→v=.slice none 0 0)∧(suspErr l ws=0→RowK w' w.heap.size 9 (fun _=>False) v (suspS l ws))∧Below w.heap.size w w'
theorem SuspPost.bad {l:List RuleV} {ws:List ByteArray} {w w':World} {f:Int} (hf:suspErr l ws=f) (h0:f≠0) (hb:Below w.heap.size w w'):SuspPost l ws w (.returned (.tuple #[.slice none 0 0,.int .i64 f])) w' :=
 ⟨_,by rw [hf],fun _=>rfl,fun h=>absurd (hf.symm.trans h) h0,hb⟩
theorem SuspPost.good {l:List RuleV} {ws:List ByteArray} {w w':World} {v:Value} (hf:suspErr l ws=0) (hr:RowK w' w.heap.size 9 (fun _=>False) v (suspS l ws)) (hb:Below w.heap.size w w'):SuspPost l ws w (.returned (.tuple #[v,.int .i64 0])) w' :=
 ⟨_,by rw [hf],fun h=>absurd hf h,fun _=>hr,hb⟩
set_option maxRecDepth 100000 in
theorem indexFuncS (g:Nat) (eg:∀ args w,(callFunc g args).run Tryz.prog w=.ok (.enter g args) w) (v:Value) (p:ByteArray→Bool) (A:Option Addr) (n c:Nat) (l:List ByteArray) (w:World) (hsl:Sl w (Lt w.heap.size) A n l)
 (hp:∀ x,x.size≤maxLen→x∈l→Calls Tryz.prog g #[.string x,v] w fun e w'=>e=.returned (.bool (p x))∧w=w') :
 Calls Tryz.prog 83 #[.slice A n c,.func (.func g) #[] #[v]] w fun e w'=>∃ r:Int,e=.returned (.int .i64 r)∧decide (0≤r)=l.any p∧w=w':=by
 go_enter Tryz.func83,Tryz.ntmps83
 have hm:n≤9223372036854775807:=hsl.2.1
 have HP:=Lib.hid hp; clear hp
 go_wp2
 go_loop [5,8] (fun _ i=>∃ k:Nat,k≤n∧i=.int .i64 k∧(l.take k).any p=false) (fun _ i=>n - (intOf i).toNat)
 case atStart=>exact ⟨0,Nat.zero_le _,rfl,rfl⟩
 case round =>
  obtain ⟨k,hk,rfl,hall⟩:=hrel
  have H:=Lib.hid hall; clear hall
  by_cases hlt:k < n
  ·first | obtain ⟨b,o,x,rfl,hb,hx,hxs,c0⟩:=hsl.str hlt | obtain ⟨b,o,x,rfl,hb,hx,hxs,c0⟩:=hsl.nat hlt
   have Hx:=Lib.hid hx; clear hx
   cases hq:p x
   ·have HS:=Lib.hid (any_step (p:=p) Hx.out H.out hq)
    go_wp2_with fail
    refine (HP.out x hxs (List.mem_of_getElem? Hx.out)).mono ?_
    rintro e w1 ⟨rfl,rfl⟩
    rw [hq]
    go_wp2
    go_round
    case rel=>exact ⟨k + 1,by omega,by go_num,HS.out⟩
    case measure=>simp [intOf]; omega
   ·have HS:=Lib.hid (any_yes (p:=p) Hx.out hq)
    go_wp2_with fail
    refine (HP.out x hxs (List.mem_of_getElem? Hx.out)).mono ?_
    rintro e w1 ⟨rfl,rfl⟩
    rw [hq]
    go_wp2
    go_ret
    exact ⟨k,rfl,by rw [HS.out]; simp,rfl⟩
  ·have HS:=Lib.hid (any_end (by rw [hsl.1]; omega) H.out)
   go_wp2
   go_ret
   exact ⟨-1,rfl,by rw [HS.out]; rfl,rfl⟩
theorem containsFuncS (g:Nat) (eg:∀ args w,(callFunc g args).run Tryz.prog w=.ok (.enter g args) w) (v:Value) (p:ByteArray→Bool) (A:Option Addr) (n c:Nat) (l:List ByteArray) (w:World) (hsl:Sl w (Lt w.heap.size) A n l)
 (hp:∀ x,x.size≤maxLen→x∈l→Calls Tryz.prog g #[.string x,v] w fun e w'=>e=.returned (.bool (p x))∧w=w') :
 Calls Tryz.prog 46 #[.slice A n c,.func (.func g) #[] #[v]] w fun e w'=>e=.returned (.bool (l.any p))∧w'=w:=by
 have HC:=Lib.hid (indexFuncS g eg v p A n c l w hsl hp)
 clear hp eg
 go_enter Tryz.func46,Tryz.ntmps46
 go_wp2_with (go_at_call 83; refine HC.out.mono ?_; rintro e w1 ⟨r,rfl,hr,rfl⟩; have HR:=Lib.hid hr; clear hr)
 go_ret
 exact ⟨ret_bool HR.out,rfl⟩
theorem susp1 (S:List (List UInt8)) (m nn g:Nat) (z:ByteArray) (w:World) (c0:w.cell? ⟨g,0,none⟩=some (.map (some m))) (h0:MapIs Tryz.prog 9 w m nn (setOf S)) (hz:z.size≤maxLen) :
 Calls Tryz.prog 47 #[.string z,.pointer (some ⟨g,0,none⟩)] w fun e w'=>e=.returned (.bool (decide (z.data.toList∈S)))∧w=w':=by
 have l0:=set_look h0 hz
 go_enter Tryz.func47,Tryz.ntmps47
 go_wp2
 go_ret
 exact ⟨rfl,rfl⟩
theorem susp2 (C:Addr) (n c g:Nat) (s:List Bool) (i:Nat) (w:World) (c0:w.cell? ⟨g,0,none⟩=some (.slice (some C) n c)) (hs:Sl w (Lt w.heap.size) (some C) n s) (hi:i < n) :
 Calls Tryz.prog 49 #[.int .i64 (i:Int),.pointer (some ⟨g,0,none⟩)] w fun e w'=>e=.returned (.bool (isOf s i))∧w=w':=by
 have hm:n≤9223372036854775807:=hs.2.1
 obtain ⟨b,o,x,e1,_,hx,cx⟩:=hs.bool hi
 cases e1
 have hI:(i:Int) < (n:Int):=by omega
 have HV:=Lib.hid (show isOf s i=x by rw [isOf,hx]; cases x <;> rfl)
 go_enter Tryz.func49,Tryz.ntmps49
 go_wp2
 go_ret
 exact ⟨by rw [HV.out]; rfl,rfl⟩
end Go.Proofs.Sm
namespace Go.Proofs.Sm
open Go.RowKit
theorem order_names {l:List RuleV} {order:List Nat} (hb:ByPath RuleV.name l) (h:order.Nodup):order.Pairwise fun i j=>∀ r q,l[i]?=some r→l[j]?=some q→¬ r.name.toList=q.name.toList :=
 List.Pairwise.imp (fun hij _ _ hr hq=>by_differ hb hr hq hij) h
def KeptRight (l:List RuleV) (order:List Nat) (kept:List MemoryV):Prop :=
 ByPath MemoryV.name kept∧∀ y∈kept,∃ k r F,k∈order∧l[k]?=some r∧bothErr r.action F=0∧(execS r.action F).code=0∧y=memOf r (execS r.action F)
theorem steps_kept {l:List RuleV} {O:List Nat}:∀ {ks:List Nat} {s:BSt},(∀ k∈ks,k∈O)→KeptRight l O s.kept→KeptRight l O (stepsS l [] ks s).2.kept
 | [],_,_,h=>h
 | k :: ks,s,hO,h=>by
   cases hr:l[k]? with
   | none=>rw [stepsS,hr]; exact steps_kept (fun j hj=>hO j (List.mem_cons_of_mem _ hj)) h
   | some r =>
     by_cases hf:(outS (needsS l) [] r k s).fault=0
     ·rw [steps_go hr hf]
      refine steps_kept (fun j hj=>hO j (List.mem_cons_of_mem _ hj)) ?_
      have hout:=outS_none (g:=needsS l) (mem:=[]) (r:=r) (k:=k) (s:=s) rfl
      unfold takeS
      by_cases hd:(needAt (needsS l) k).any (isOf s.bad)=true
      ·rw [if_pos hd] at hout
       rw [hout]; exact h
      ·rw [if_neg hd] at hout
       rcases execOut_cases r (inputsS s.have_ r) none with ⟨hb,he⟩ | ⟨hb,hc,he⟩ | ⟨hb,hc,he⟩
       ·rw [hout,he]; exact h
       ·rw [hout,he]; exact h
       ·rw [hout,he]
        refine ⟨byPath_put (key:=MemoryV.name) h.1 _,fun y hy=>?_⟩
        rcases put_mem_by hy with hy | rfl
        ·exact h.2 y hy
        ·exact ⟨k,r,_,hO k (List.mem_cons_self ..),hr,hb,hc,rfl⟩
     ·rw [steps_stop hr hf]; exact h
theorem memOf_right {l:List RuleV} (hl:RulesOk l) {k:Nat} {r:RuleV} {F:List FileV} (hr:l[k]?=some r) (hb:bothErr r.action F=0) (hc:(execS r.action F).code=0):checkMemS (memOf r (execS r.action F))=0:=by
 obtain ⟨h1,h2,_⟩:=exec_right hb
 have hp:=(checkRule_parts (hl.at hr)).1
 have hd:=digest_right (actTextL r.action)
 unfold checkMemS memOf
 simp only
 rw [hp,hd,h1.right,h2.right,hc,sameLooksS_iff.2 rfl]
 rfl
theorem buildErr_ok {l:List RuleV} {files:List FileV} {wanted:List ByteArray} {m:List MemoryV} {order:List Nat} (h1:buildErr0 l files wanted m=0) (h2:(runB l files m order).1=0) (h3:endErr l wanted (runB l files m order).2=0):buildErr l files wanted m order=0:=by
 rw [buildErr,if_neg (by rw [h1]; simp),if_neg (by rw [h2]; simp),h3]
theorem runB_nil (l:List RuleV) (files:List FileV) (order:List Nat):runB l files [] order=stepsS l [] order ⟨files,List.replicate l.length false,[],[]⟩:=rfl
theorem fresh_memory {l:List RuleV} {files:List FileV} {wanted:List ByteArray} {order:List Nat} (h:buildErr l files wanted [] order=0) :
 checkMemoryS (runB l files [] order).2.kept=0∧servesS l (runB l files [] order).2.kept=(runB l files [] order).2.kept∧startB l files (runB l files [] order).2.kept order=⟨files,List.replicate l.length false,[],[]⟩:=by
 obtain ⟨h1,_,h3⟩:=buildErr_parts h
 obtain ⟨hl,hb⟩:=rules_parts_by (planErr_rules (buildErr0_parts h1).1)
 have hk:KeptRight l order (runB l files [] order).2.kept:=by
  rw [runB_nil]
  exact steps_kept (fun k hk=>hk) ⟨List.Pairwise.nil,fun y hy=>absurd hy (List.not_mem_nil)⟩
 refine ⟨memory_fine (endErr_few h3).2 hk.1 fun y hy=>?_,?_,?_⟩
 ·obtain ⟨k,r,F,_,hr,hbo,hc,rfl⟩:=hk.2 y hy
  exact memOf_right hl hr hbo hc
 ·unfold servesS
  rw [List.filter_eq_self]
  intro y hy
  obtain ⟨k,r,F,_,hr,hbo,hc,rfl⟩:=hk.2 y hy
  have hi:idxName l (memOf r (execS r.action F)).name=some k:=idxName_own hb hr rfl
  unfold servesP
  rw [hi]
  simp only [hr,Option.any_some]
  exact decide_eq_true ((exec_right hbo).2.1.good hc)
 ·unfold startB
  congr 1
  rw [List.filter_eq_nil_iff]
  intro y hy
  obtain ⟨k,r,F,hko,hr,hbo,hc,rfl⟩:=hk.2 y hy
  have:(order.any fun k=>(nameAt l k).toList == (memOf r (execS r.action F)).name.toList)=true:=List.any_eq_true.2 ⟨k,hko,by rw [nameAt_of hr]; simp [memOf]⟩
  rw [this]; decide
theorem nothing_due {l:List RuleV} {files:List FileV} {wanted:List ByteArray} {order:List Nat} (hp:PlanIs l wanted order) (h:buildErr l files wanted [] order=0) :
 buildErr l files wanted (runB l files [] order).2.kept order=0∧(runB l files (runB l files [] order).2.kept order).2.steps=(runB l files [] order).2.steps.map againStep:=by
 obtain ⟨h1,h2,h3⟩:=buildErr_parts h
 obtain ⟨g1,g2,g3,g4⟩:=buildErr0_parts h1
 obtain ⟨hl,hb⟩:=rules_parts_by (planErr_rules g1)
 obtain ⟨m1,m2,m3⟩:=fresh_memory h
 have key:=steps_again (l:=l) (mem:=(runB l files [] order).2.kept) (ks:=order) (s:=⟨files,List.replicate l.length false,[],[]⟩) (t:=⟨files,List.replicate l.length false,[],[]⟩) h2 (fun k hk r hr=>rfl) (order_names hb (plan_parts hp).1) (fun k hk r hr=>rfl) rfl rfl rfl rfl
 have e:runB l files (runB l files [] order).2.kept order=stepsS l (runB l files [] order).2.kept order ⟨files,List.replicate l.length false,[],[]⟩:=by
  rw [runB,m2,m3]
 obtain ⟨k1,k2,k3,k4,k5⟩:=key
 refine ⟨buildErr_ok ?_ (by rw [e]; exact k1) ?_,by rw [e]; exact k5⟩
 ·rw [buildErr0,if_neg (by rw [g1]; simp),if_neg (by rw [g2]; simp),if_neg (by rw [m1]; simp),g4]; rfl
 ·rw [e]
  unfold endErr filesB at h3 ⊢
  have e2:takeB l (stepsS l (runB l files [] order).2.kept order ⟨files,List.replicate l.length false,[],[]⟩).2=takeB l (runB l files [] order).2:=by
   funext acc n
   unfold takeB
   rw [k3,k4]
   rfl
  rw [e2,k4]
  exact h3
end Go.Proofs.Sm
namespace Go.Proofs.Sm
open Go.RowKit
def keysOf (l:List ByteArray):List (List UInt8):=l.map fun x=>x.data.toList
theorem keys_more {l:List ByteArray} {k:Nat} {x:ByteArray} (h:l[k]?=some x):keysOf (l.take (k + 1))=keysOf (l.take k) ++ [x.data.toList]:=by rw [keysOf,keysOf,List.take_add_one,h,List.map_append]; rfl
theorem order_full {l:List RuleV} (hc:checkRulesS l=0):(orderS (needsS l) allTrue).2=true:=by
 unfold checkRulesS at hc
 split at hc
 ·contradiction
 split at hc
 ·rename_i h2; exact absurd hc h2
 split at hc
 ·rename_i h2; exact absurd hc h2
 split at hc
 ·contradiction
 ·rename_i h2; exact (by simpa using h2:(orderS (needsS l) fun _=>true).2=true)
theorem hits_keys {ws l:List ByteArray}:(l.any fun p=>hasB ws p)=l.any fun p=>decide (p.data.toList∈keysOf ws):=by
 congr 1
 funext p
 rw [hasB_data,Bool.eq_iff_iff,List.any_eq_true,decide_eq_true_eq,keysOf,List.mem_map]
 simp
theorem Sl.keep' {α:Type} [Rep α] {w W:World} {A:Option Addr} {n:Nat} {l:List α} (h:Sl w (Lt w.heap.size) A n l) (hW:W.heap=w.heap):Sl W (Lt W.heap.size) A n l:=by
 have:=h.keep (w':=W) fun k _=>by rw [hW]
 rwa [show W.heap.size=w.heap.size by rw [hW]]
set_option maxHeartbeats 4000000 in
set_option maxRecDepth 100000 in
theorem steps_Suspects (A B:Option Addr) (n c m d:Nat) (l:List RuleV) (ws:List ByteArray) (w:World) (hE:Env w) (hsl:Sl w (Lt w.heap.size) A n l) (hws:Sl w (Lt w.heap.size) B m ws) :
 Calls Tryz.prog 24 #[.slice A n c,.slice B m d] w (SuspPost l ws w):=by
 obtain ⟨b0,hb0,hbz0,hbz1,hbz2⟩:=info_parts bool_info
 obtain ⟨i0,hi0,hz0,hz1,hz2⟩:=info_parts strs6_info
 have HL:=Lib.hid hsl.1
 have HW:=Lib.hid hws.1
 have hm:m≤9223372036854775807:=hws.2.1
 go_enter Tryz.func24,Tryz.ntmps24
 go_wp2_with fail
 refine (steps_open A n c l w hE hsl).mono ?_
 rintro e w0 ⟨vp,rfl,hbad0,hgood0,hbw⟩
 by_cases hr0:checkRulesS l=0
 ·obtain ⟨g,rfl,hpl0⟩:=hgood0 hr0
  have HR0:=Lib.hid hr0
  rw [hr0]
  clear hr0 hbad0 hgood0
  by_cases hbig:(1000:Int) < (m:Int)
  ·have HV:=Lib.hid (susp_large (ws:=ws) HR0.out (by rw [HW.out]; exact hbig))
   go_wp2
   go_ret2
   exact SuspPost.bad HV.out (by decide) hbw
  ·have HB:=Lib.hid (show ¬ (1000:Int) < (ws.length:Int) by rw [HW.out]; exact hbig)
   have hmm:=@run_makeMap Tryz.prog
   go_wp2
   obtain ⟨mb,hmb⟩:∃ mb,mb=w0.heap.size:=⟨_,rfl⟩
   have hM0:MapIs Tryz.prog 9 ((w0.alloc (.map #[] 0)).alloc (.cells #[.map (some w0.heap.size)] 113)) mb 0 (setOf (keysOf (ws.take 0))):=by
    rw [hmb]
    exact ((MapIs.made (P:=Tryz.prog) (k:=9) w0).congr fun key=>by simp [setOf,keysOf]).call (fr_alloc (fr_refl _) _)
   have hb2:Below w0.heap.size w0 ((w0.alloc (.map #[] 0)).alloc (.cells #[.map (some w0.heap.size)] 113)):=fr_call (fr_alloc (fr_refl w0) _) (fr_alloc (fr_refl _) _)
   have hbx0:Arr ((w0.alloc (.map #[] 0)).alloc (.cells #[.map (some w0.heap.size)] 113)) (mb + 1) 113 [.map (some mb)]:=by
    have:=heap_alloc_new (w0.alloc (.map #[] 0)) (.cells #[.map (some w0.heap.size)] 113)
    rw [World.size_alloc] at this
    rw [Arr,hmb]; exact this
   have hzmb:w0.heap.size≤mb:=by omega
   clear hmm
   rw [←hmb] at hM0 hb2 hbx0 ⊢
   have HMB:=Lib.hid hmb
   clear hmb
   generalize (w0.alloc (.map #[] 0)).alloc (.cells #[.map (some mb)] 113)=W2 at hM0 hb2 hbx0 ⊢
   rw [HMB.out] at hb2
   have hE0:=hE.then_ hbw
   have hws0:=sl_call hws hbw (Nat.le_refl _)
   have hsl0:=sl_call hsl hbw (Nat.le_refl _)
   go_loopw [33] (fun iv wx=>∃ (k nn:Nat),k≤m∧iv=.int .i64 k∧nn≤k∧(ws.take k).any (fun p=>!isPathS p)=false∧MapIs Tryz.prog 9 wx mb nn (setOf (keysOf (ws.take k)))∧Arr wx (mb + 1) 113 [.map (some mb)]∧Below w0.heap.size w0 wx) (fun iv _=>m - (intOf iv).toNat)
   case atStart=>exact ⟨0,0,Nat.zero_le _,rfl,Nat.le_refl _,rfl,hM0,hbx0,hb2⟩
   case round =>
    clear hM0 hb2 hbx0
    obtain ⟨k,nn,hk,rfl,hnn,hall,hM,hbx,hbel⟩:=hrel
    have HA:=Lib.hid hall; clear hall
    by_cases hlt:k < m
    ·have hkI:(k:Int) < (m:Int):=by omega
     obtain ⟨b1,o1,x,rfl,_,hx,hxs,cx⟩:=(hws0.keep (keep_lt hbel)).str hlt
     have HX:=Lib.hid hx; clear hx
     go_wp2_with fail
     refine (blob_IsPath x wr (hE0.then_ hbel)).mono ?_
     rintro e w3 ⟨rfl,hb3⟩
     have hbel3:=fr_call hbel hb3
     have hM3:=hM.call hb3
     have hbx3:=hbx.call hb3
     clear hM hbx
     cases hp:isPathS x
     ·have HV:=Lib.hid (susp_form HR0.out (by have:=HB.out; omega) (List.mem_of_getElem? HX.out) hp)
      have hbE:=fr_call hbw hbel3
      go_wp2
      go_ret2
      exact SuspPost.bad HV.out (by decide) hbE
     ·have HA2:=Lib.hid (any_step (p:=fun p=>!isPathS p) HX.out HA.out (by simp [hp]))
      have HS:=Lib.hid (keys_more HX.out)
      have cb:=hbx3.cell (i:=0) rfl
      go_wp2_with (at_mapUpdate; refine wpList_mapUpdate_is _ rfl _ _ _ 113 rfl Tryz.underlying9 Tryz.underlying113 rfl hM3 (by unfold maxLen; omega) x hxs (.bool true) rfl rfl ?_; intro w4 hmap4 hg4)
      have hM4:=hmap4.congr (set_more (keysOf (ws.take k)) x.data.toList)
      rw [←HS.out] at hM4
      have hbx4:=hbx3.grown hg4 (by intro e; injection e; omega)
      have hb4:=hbel3.grown hg4 hbel3.size fun k hk=>by cases hk; omega
      clear hmap4 hg4 hM3 hbx3 cb
      go_wp2
      go_roundw
      case rel=>exact ⟨k + 1,nn + 1,by omega,by go_num,by omega,HA2.out,hM4,hbx4,hb4⟩
      case measure=>simp [intOf]; omega
    ·rw [List.take_of_length_le (by rw [HW.out]; omega)] at HA hM
     have HZ:=Lib.hid (susp_ok HR0.out (by have:=HB.out; omega) HA.out)
     obtain ⟨_,mp,np,D,dd,hP,hof,hd1,hd2,hnd⟩:=hpl0.call hbel
     have c0:=hP.cell (i:=0) rfl
     have c2:=hP.cell (i:=2) rfl
     have hgl:=hP.lt
     have hn5:n≤500:=by have:=(rules_sorted HR0.out).2; have:=HL.out; omega
     go_wp2_with fail
     refine (steps_order_nil g A D n c dd (needsS l) wr hgl c0 c2 hnd (needs_within l) (needs_nodup l) (by omega)).mono ?_
     rintro e w4 ⟨v4,rfl,hrow4,hb4⟩
     rw [order_full HR0.out]
     rw [outOf,if_pos (order_full HR0.out)] at hrow4
     have hM4:=hM.call hb4
     have hbx4:=hbx.call hb4
     have hb04:=fr_call hbel hb4
     have hP4:=hP.call hb4
     have hnd4:=sl_call hnd hb4 (Nat.le_refl _)
     obtain ⟨A7,c7,rfl,h71,h72,hs7⟩:=hrow4.sl
     have HD:=Lib.hid (orderS_done (needsS l) allTrue)
     have HBh:=Lib.hid (orderS_behind (needsS l) allTrue)
     have HSu:=Lib.hid (show suspS l ws=hitNames l (hitsS l ws (orderS (needsS l) allTrue).1) l.length from rfl)
     generalize (orderS (needsS l) allTrue).1=od at HD HBh HSu hs7 h71 h72
     have hdl:od.length≤500:=by
      have h1:=HD.out.most
      have h2:=many_le (needsS l) allTrue
      rw [needsS_length,HL.out] at h2
      omega
     have hdm:od.length≤9223372036854775807:=by omega
     clear hM hbx c0 c2 hof hd1 hd2 hP hnd hrow4
     go_wp2_with (at_make; refine wpList_make_full _ rfl _ _ 99 rfl w4.heap.size 4 b0 (.bool false) 1 Tryz.underlying99 hb0 hbz0 hbz1 .i64 .i64 (n:Nat) (n:Nat) n rfl rfl rfl rfl (by rw [hbz2]; omega) (by unfold maxLen; omega) (Nat.le_refl _) ?_; intro w5 hown hg5)
     rw [show ((.bool false:Value).cells)=#[.bool false] from rfl,made_cells] at hown
     have ha1:=Arr.of_full hown
     have hb5:Below w4.heap.size w4 w5:=(Below.refl _ w4).grown hg5 (Nat.le_refl _) fun k hk=>by cases hk
     have hz5:w4.heap.size + 1≤w5.heap.size:=ha1.lt
     have ha5:Arr w5 w4.heap.size 4 ((hitsS l ws (od.take 0)).map Value.bool):=by rw [List.take_zero,hits_start,HL.out,List.map_replicate]; exact ha1
     obtain ⟨C,hC⟩:∃ C,C=w4.heap.size:=⟨_,rfl⟩
     obtain ⟨bx,hbx5⟩:∃ bx,bx=w5.heap.size:=⟨_,rfl⟩
     have ha6:=ha5.call (w':=w5.alloc (.cells #[.slice (some ⟨w4.heap.size,0,none⟩) n n] 99)) (fr_alloc (fr_refl _) _)
     have hb6:Below w4.heap.size w4 (w5.alloc (.cells #[.slice (some ⟨w4.heap.size,0,none⟩) n n] 99)):=fr_call hb5 (fr_alloc (fr_refl _) _)
     have hx6:Arr (w5.alloc (.cells #[.slice (some ⟨w4.heap.size,0,none⟩) n n] 99)) w5.heap.size 99 [.slice (some ⟨w4.heap.size,0,none⟩) n n]:=heap_alloc_new w5 _
     clear hown hg5 ha1 ha5 hb5
     go_wp2
     rw [←hbx5,←hC]
     rw [←hbx5,←hC] at hx6
     rw [←hC] at ha6 hb6
     have hxC:C < bx:=by omega
     have HC:=Lib.hid hC
     clear hC hbx5 hz5
     generalize w5.alloc (.cells #[.slice (some ⟨C,0,none⟩) n n] 99)=W6 at hx6 ha6 hb6 ⊢
     have hws4:=sl_call hws0 hb04 (Nat.le_refl _)
     have hsl4:=sl_call hsl0 hb04 (Nat.le_refl _)
     go_loopw [53] (fun iv wx=>∃ t:Nat,t≤od.length∧iv=.int .i64 t∧Arr wx C 4 ((hitsS l ws (od.take t)).map Value.bool)∧Arr wx bx 99 [.slice (some ⟨C,0,none⟩) n n]∧Below C w4 wx) (fun iv _=>od.length - (intOf iv).toNat)
     case atStart=>exact ⟨0,Nat.zero_le _,rfl,ha6,hx6,hb6⟩
     case round =>
      clear ha6 hx6 hb6
      obtain ⟨t,ht,rfl,ha,hxb,hbel2⟩:=hrel
      rw [HC.out] at hbel2
      by_cases htl:t < od.length
      ·have htI:(t:Int) < (od.length:Int):=by omega
       obtain ⟨b7,o7,i,rfl,_,hi,him,ci⟩:=(hs7.keep (keep_lt hbel2)).nat htl
       have hin:i < n:=by have:=HD.out.lt i (List.mem_of_getElem? hi); rw [needsS_length,HL.out] at this; exact this
       have hiI:(i:Int) < (n:Int):=by omega
       have HMo:=Lib.hid (hits_more (l:=l) (ws:=ws) hi)
       obtain ⟨b,o,x,rfl,hbq,hx,A1,n1,c1,A2,n2,c2,A3,n3,c3,A4,n4,c4,A5,n5,c5,_,_,⟨_,_,s3,_,s5⟩,q0,q1,q2,q3,q4,q5,q6,q7⟩:=(hsl4.keep (keep_lt hbel2)).rule hin
       rw [←insAt_some hx] at s5
       have hP5:=hP4.call hbel2
       have p2:=hP5.cell (i:=2) rfl
       obtain ⟨b9,o9,r,A9,n9,c9,rfl,_,hr,hn9,hc9,hrow9,cr9⟩:=((sl_call hnd4 hbel2 (Nat.le_refl _))).row hin
       have hneed:needAt (needsS l) i=r:=by rw [needAt,hr]; rfl
       have hbb:=ha.sl (α:=Bool) (l:=hitsS l ws (od.take t)) rfl (by simp) (by rw [hits_length,HL.out]; unfold maxLen; omega) fun _ x v hx hv=>by
        rw [List.getElem?_map,hx] at hv
        cases hv; rfl
       rw [hits_length,HL.out] at hbb
       have hMr:=hM4.call hbel2
       have hbxr:=hbx4.call hbel2
       have cm:=hbxr.cell (i:=0) rfl
       have cx:=hxb.cell (i:=0) rfl
       have HC1:=Lib.hid (fun (W:World) (hW:W.heap=wr.heap)=>containsFuncS 47 (enters_of Tryz.func47 (by kernel_rfl) rfl) (.pointer (some ⟨mb + 1,0,none⟩)) (fun p=>decide (p.data.toList∈keysOf ws)) A5 n5 c5 (insAt l i) W ((s5.more (lt_mono hbel2.size)).keep' hW) (fun p hp _=>susp1 _ mb _ (mb + 1) p W (by rw [World.cell?,hW]; exact cm) (hMr.keep (by rw [hW])) hp))
       have HC2:=Lib.hid (fun (W:World) (hW:W.heap=wr.heap)=>containsFuncN 49 (enters_of Tryz.func49 (by kernel_rfl) rfl) (.pointer (some ⟨bx,0,none⟩)) (isOf (hitsS l ws (od.take t))) A9 n9 c9 r W (hrow9.keep' hW) (fun j _ hj=>susp2 ⟨C,0,none⟩ n n bx (hitsS l ws (od.take t)) j W (by rw [World.cell?,hW]; exact cx) (hbb.keep' hW) (by rw [←hneed] at hj; have:=needs_lt hj; have:=HL.out; omega)))
       obtain ⟨v0,hv0⟩:=at_lt (l:=hitsS l ws (od.take t)) (k:=i) (by rw [hits_length,HL.out]; exact hin)
       have cC:=ha.cell (i:=i) (by rw [List.getElem?_map,hv0]; rfl)
       have HHit:=Lib.hid (show hitOne l ws (hitsS l ws (od.take t)) i=((insAt l i).any (fun p=>decide (p.data.toList∈keysOf ws)) || r.any (isOf (hitsS l ws (od.take t)))) by rw [hitOne,hneed,hits_keys])
       have hfr:=ha.frozen i
       have HFin:=Lib.hid (fun (v:Bool) (hv:hitOne l ws (hitsS l ws (od.take t)) i=v)=>(show Arr (wr.setCell ⟨C,i,none⟩ (.bool v)) C 4 ((hitsS l ws (od.take (t + 1))).map Value.bool)∧Arr (wr.setCell ⟨C,i,none⟩ (.bool v)) bx 99 [.slice (some ⟨C,0,none⟩) n n]∧Below C w4 (wr.setCell ⟨C,i,none⟩ (.bool v)) from
        ⟨by rw [HMo.out,hv,List.map_set]; exact ha.set i _,hxb.other (p:=⟨C,i,none⟩) (by show bx≠C; omega) _,by have:=hbel2.setCell (p:=⟨C,i,none⟩) (by show w4.heap.size≤C; have:=HC.out; omega) (.bool v); rw [HC.out]; rw [HC.out] at this; exact this⟩))
       clear ha hxb hbel2 hMr hbxr cm hbb hrow9 hn9 hc9 hneed hr s3 s5 q0 q1 q2 q3 q4 q5 q6 hx hbq hP5 him hi hv0 HMo hM4 hbx4 hb04 hws4 hsl4 hnd4 hP4 hs7 hsl0 hws0 hE0 hbw hE hsl hws
       cases hq:(insAt l i).any (fun p=>decide (p.data.toList∈keysOf ws))
       ·rw [hq] at HC1 HHit
        rw [Bool.false_or] at HHit
        clear hq
        go_wp2
        go_still_tail 21,(by kernel_rfl)
        still_call (HC1.out wr.drew rfl)
        repeat still_step
        still_call (HC2.out wr.drew rfl)
        repeat still_step
        refine wpStill_nil ?_
        change wpList _ _ _ _ _ wr.drew
        go_wp2
        go_roundw
        case rel=>exact ⟨t + 1,by omega,by go_num,(HFin.out _ HHit.out).1,(HFin.out _ HHit.out).2.1,(HFin.out _ HHit.out).2.2.drew⟩
        case measure=>simp [intOf]; omega
       ·rw [hq] at HC1 HHit
        rw [Bool.true_or] at HHit
        clear hq
        go_wp2
        go_still_tail 21,(by kernel_rfl)
        still_call (HC1.out wr.drew rfl)
        generalize hact:({ tmps:=_,defers:=[] }:Act)=act
        repeat (refine wpStill_step (fun K hK=>?_); subst hact; go_simp; generalize hact:({ tmps:=_,defers:=[] }:Act)=act; refine hK act ?_; clear hK K)
        refine wpStill_nil ?_
        change wpList _ _ _ _ _ wr.drew
        subst hact
        go_wp2
        go_roundw
        case rel=>exact ⟨t + 1,by omega,by go_num,(HFin.out _ HHit.out).1,(HFin.out _ HHit.out).2.1,(HFin.out _ HHit.out).2.2.drew⟩
        case measure=>simp [intOf]; omega
      ·rw [List.take_of_length_le (by omega)] at ha
       obtain ⟨s9,hs9⟩:∃ s9,s9=hitsS l ws od:=⟨_,rfl⟩
       have HL9:=Lib.hid (show s9.length=n by rw [hs9,hits_length]; exact HL.out)
       rw [←hs9] at ha
       have HS9:=Lib.hid (show suspS l ws=hitNames l s9 n by rw [hs9,←HL.out]; exact HSu.out)
       have hbE:=fr_call hbw (fr_call hb04 hbel2)
       have hsl9:=sl_call hsl4 hbel2 (Nat.le_refl _)
       have cx9:=hxb.cell (i:=0) rfl
       clear hs9 hws4 hsl4 hxb hbel2 hs7 hnd4 hP4 hM4 hbx4 hws0 hsl0 hE0
       obtain ⟨w9,rfl⟩:∃ w9,w9=wr:=⟨_,rfl⟩
       have hwz:=hbE.size
       have HWZ:=Lib.hid hwz
       have hn5':n≤500:=hn5
       go_wp2
       go_loopw [16,81] (fun v iv wx=>∃ k:Nat,k≤n∧iv=.int .i64 k∧RowK wx w9.heap.size 9 (fun _=>False) v (hitNames l s9 k)∧Below w9.heap.size w9 wx) (fun _ iv _=>n - (intOf iv).toNat)
       case atStart=>exact ⟨0,Nat.zero_le _,rfl,RowK.nil,Below.refl _ _⟩
       case round =>
        obtain ⟨k,hk,rfl,hrow,hbel⟩:=hrel
        by_cases hlt:k < n
        ·have hkI:(k:Int) < (n:Int):=by omega
         obtain ⟨yv,hyv⟩:=at_lt (l:=s9) (k:=k) (by rw [HL9.out]; exact hlt)
         have cC:=(ha.call hbel).cell (i:=k) (v:=.bool yv) (by rw [List.getElem?_map,hyv]; rfl)
         cases yv
         ·have HN:=Lib.hid (hitNames_no (l:=l) hyv)
          have HR5:=Lib.hid hrow
          clear hyv hrow
          go_wp2
          go_roundw
          case rel=>exact ⟨k + 1,by omega,by go_num,by rw [HN.out]; exact HR5.out,hbel⟩
          case measure=>simp [intOf]; omega
         ·obtain ⟨b4,o4,x,rfl,_,hx,hxs,cx⟩:=(hsl9.keep (keep_lt hbel)).ruleName hlt
          have HN:=Lib.hid (hitNames_yes hyv hx)
          have hlen:=hitNames_le l s9 k
          obtain ⟨L,hL⟩:∃ L,L=hitNames l s9 k:=⟨_,rfl⟩
          rw [←hL] at HN hrow hlen
          clear hyv hx hL
          have hW9:Below wr.heap.size wr (wr.alloc (.cells #[.string x.name] 9)):=fr_alloc (fr_refl wr) _
          obtain ⟨_,rows,hrows,hown9,hrep⟩:=hrow.call hW9
          have hoth:∀ b,Value.ownBlock u16=some b→w9.heap.size≤b:=fun b hb=>(hrow.kind b hb).1
          have H9:=Lib.hid hown9
          have HRp:=Lib.hid hrep
          have hb9:=hbel.trans (hW9.mono hbel.size)
          have hz1r:=hbel.size
          clear hrow hown9 hrep
          go_wp2_with (at_builtin; refine wpList_append_lies _ rfl _ _ 24 rfl w9.heap.size 9 i0 _ 1 16 Tryz.underlying24 hi0 hz0 hz1 hz2 rfl (by decide) _ L.length _ rfl H9.out ⟨wr.heap.size,0,none⟩ 1 1 [.string x.name] rfl rfl (new_cells wr #[_] _) (fun u hu=>(by simp only [List.mem_cons,List.mem_nil_iff,or_false] at hu; subst hu; rfl)) (by decide) (by unfold maxLen; omega) (by omega) (by rw [World.size_alloc]; omega) _ rfl ?_)
          intro g' cap w5 hown5 hg5 hat5 hlt5
          have row5:=RowK.append (x:=x.name) (r:=[.string x.name]) (l:=L) (fun k hh=>hh.elim) hrows HRp.out ⟨rfl,hxs⟩ (fun _ _ hh=>hh) hg5 hown5
          rw [←HN.out] at row5
          have hb5:=hb9.grown hg5 (by rw [World.size_alloc]; omega) fun b hb=>hoth b hb
          have HR5:=Lib.hid row5
          clear row5 hown5 hg5 hat5 H9 HRp hb9 hW9 hlen hrows
          go_wp2
          go_roundw
          case rel=>exact ⟨k + 1,by omega,by go_num,HR5.out,hb5⟩
          case measure=>simp [intOf]; omega
        ·have hkn:k=n:=by omega
         rw [hkn,←HS9.out] at hrow
         have HE:=Lib.hid (SuspPost.good (w:=w) HZ.out (hrow.weaken HWZ.out) (hbE.trans (hbel.mono HWZ.out)))
         clear hrow
         go_wp2
         go_ret2
         exact HE.out
 ·have hne:(checkRulesS l == 0)=false:=by rw [beq_eq_false_iff_ne]; exact hr0
  have HN:=Lib.hid hr0
  have HV:=Lib.hid (susp_bad (ws:=ws) hr0)
  obtain rfl:=hbad0 hr0
  clear hr0 hbad0 hgood0
  go_wp2
  go_ret2
  exact SuspPost.bad HV.out HN.out hbw
end Go.Proofs.Sm
