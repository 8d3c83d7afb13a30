/- What is pruned of what is remembered makes no difference to what must run: the given statement, for all arguments; no condition. -/
import Derived.Test.YtaabdbephemboaaGreatDoorBx1
import Derived.Test.YtaabdbephemboaaGreatDoorBx2
import Derived.Test.YtaabdbephemboaaGreatDoorBx3
import Derived.Test.YtaabdbephemboaaGreatDoorBx4
import Derived.Test.YtaabdbephemboaaGreatDoorBx5
import Derived.Test.YtaabdbephemboaaGreatDoorBx6
import Derived.Test.YtaabdbephemboaaGreatDoorBx7
import Derived.Test.YtaabdbephemboaaGreatDoorBx8
import Derived.Test.YtaabdbephemboaaGreatDoorBx9
import Derived.Test.YtaabdbephemboaaGreatDoorBx10
import Derived.Test.YtaabdbephemboaaGreatDoorBx11
import Derived.Test.YtaabdbephemboaaGreatDoorBx12
import Derived.Test.YtaabdbephemboaaGreatDoorBx13
import Derived.Test.YtaabdbephemboaaGreatDoorBx14
import Derived.Test.YtaabdbephemboaaGreatDoorBx15
import Derived.Test.YtaabdbephemboaaGreatDoorBx16
import Derived.Test.YtaabdbephemboaaGreatDoorBx17
import Derived.Test.YtaabdbephemboaaGreatDoorBx18
import Derived.Test.YtaabdbephemboaaGreatDoorBx19
import Derived.Test.YtaabdbephemboaaGreatDoorBx20
import Derived.Test.YtaabdbephemboaaGreatDoorBx21
import Derived.Test.YtaabdbephemboaaGreatDoorBx22
import Derived.Test.YtaabdbephemboaaGreatDoorBx23
import Derived.Test.YtaabdbephemboaaGreatDoorBx24
import Derived.Test.YtaabdbephemboaaGreatDoorBx25
import Derived.Test.YtaabdbephemboaaGreatDoorBx26
import Derived.Test.YtaabdbephemboaaGreatDoorBx27
import Derived.Test.YtaabdbephemboaaGreatDoorBx28
import Derived.Test.YtaabdbephemboaaGreatDoorBx29
import Derived.Test.YtaabdbephemboaaGreatDoorBx30
import Derived.Test.YtaabdbephemboaaGreatDoorBx31
import Derived.Test.YtaabdbephemboaaGreatDoorBx32
import Derived.Test.YtaabdbephemboaaGreatDoorBx33
import Derived.Test.YtaabdbephemboaaGreatDoorBx34
import Derived.Test.YtaabdbephemboaaGreatDoorBx35
import Derived.Test.YtaabdbephemboaaGreatDoorBx36
import Derived.Laws.IdiomCopy
namespace Go.Proofs.Sm
open Go.RowKit
def keepM (l:List RuleV) (y:MemoryV):Bool:=match idxName l y.name with
 | none=>false
 | some k=>(l[k]?).any fun r=>(digestS (actTextL r.action)).toList == y.action.toList
def prunedS (l:List RuleV) (m:List MemoryV):List MemoryV:=m.filter (keepM l)
def prunedErr (l:List RuleV) (m:List MemoryV):Int:=if checkRulesS l≠0 then checkRulesS l else checkMemoryS m
theorem pruned_a {l:List RuleV} {m:List MemoryV} (h:checkRulesS l≠0):prunedErr l m=checkRulesS l:=by rw [prunedErr,if_pos h]
theorem pruned_rest {l:List RuleV} {m:List MemoryV} (h:checkRulesS l=0):prunedErr l m=checkMemoryS m:=by rw [prunedErr,if_neg (by rw [h]; decide)]
theorem keep_none {l:List RuleV} {y:MemoryV} (h:idxName l y.name=none):keepM l y=false:=by rw [keepM,h]
theorem keep_some {l:List RuleV} {y:MemoryV} {k:Nat} {r:RuleV} (h:idxName l y.name=some k) (hr:l[k]?=some r):keepM l y=((digestS (actTextL r.action)).toList == y.action.toList):=by
 rw [keepM,h]
 simp [hr]
end Go.Proofs.Sm
namespace Go.Proofs.Sm
open Go.RowKit
set_option maxRecDepth 100000 in
theorem equal_strings (A A':Option Addr) (n c c':Nat) (l:List ByteArray) (w:World) (hsl:Sl w (Lt w.heap.size) A n l) (hsl':Sl w (Lt w.heap.size) A' n l) :
 Calls Tryz.prog 23 #[.slice A n c,.slice A' n c'] w fun e w'=>e=.returned (.bool true)∧Below w.heap.size w w':=by
 have hm:n≤9223372036854775807:=hsl.2.1
 go_enter Tryz.func23,Tryz.ntmps23
 go_wp2
 go_loopw [13] (fun i wr=>∃ k:Nat,k≤n∧i=.int .i64 k∧Below w.heap.size w wr) (fun i _=>n - (intOf i).toNat)
 case atStart=>exact ⟨0,Nat.zero_le _,rfl,Below.refl _ _⟩
 case round =>
  obtain ⟨k,hk,rfl,hbel⟩:=hrel
  by_cases hlt:k < n
  ·obtain ⟨b,o,x,rfl,hb,hx,hxs,c0⟩:=(hsl.keep (keep_lt hbel)).str hlt
   obtain ⟨b',o',y,rfl,hb',hy,hys,c0'⟩:=(hsl'.keep (keep_lt hbel)).str hlt
   have e:x=y:=by rw [hx] at hy; exact Option.some.inj hy
   subst e
   clear hx hy
   have hkI:(k:Int) < (n:Int):=by omega
   have hs:(x.toList == x.toList)=true:=by simp
   have hs':(x.toList != x.toList)=false:=by simp
   go_wp2
   go_quiet (fail)
   go_wp2
   go_roundw
   case rel=>exact ⟨k + 1,by omega,by go_num,below_drewN hbel _⟩
   case measure=>simp [intOf]; omega
  ·go_wp2
   go_ret
   exact ⟨rfl,hbel⟩
end Go.Proofs.Sm
namespace Go.Proofs.Sm
open Go.RowKit
theorem rules_ok {l:List RuleV} (h:checkRulesS l=0):RulesOk l∧allOutputsErr l=0:=by
 unfold checkRulesS at h
 split at h
 ·cases h
 rename_i h0
 split at h
 ·rename_i h1; exact absurd h h1
 rename_i h1
 split at h
 ·rename_i h2; exact absurd h h2
 rename_i h2
 exact ⟨rulesOk_of h0 (by simpa using h1),by simpa using h2⟩
end Go.Proofs.Sm
namespace Go.Proofs.Sm
open Go.RowKit
section
variable {α:Type} [Rep α] {w w':World} {B:Nat} {e:TypeId} {K:Nat→Prop} {v:Value} {l:List α}
theorem flatten_len {sz:Nat}:∀ {rows:List (List Value)},(∀ r∈rows,r.length=sz)→rows.flatten.length=rows.length * sz
 | [],_=>by simp
 | r :: rows,h=>by
   rw [List.flatten_cons,List.length_append,flatten_len fun r hr=>h r (by simp [hr]),h r (by simp),List.length_cons,Nat.succ_mul]; omega
theorem RowK.cut {k:Nat} (h:RowK w B e K v l) (hk:k≤l.length) :
 ∃ (A:Option Addr) (c:Nat) (rows1 rows2:List (List Value)),v=.slice A l.length c∧l.length≤c∧c≤maxLen∧((A=none∧l.length=0∧c=0)∨∃ g,A=some ⟨g,0,none⟩∧B≤g∧g < w.heap.size) ∧
  (rows1.length=k∧(∀ (i:Nat) (x:α) (r:List Value),(l.take k)[i]?=some x→rows1[i]?=some r→Rep.rep w K x r)∧rows1.flatten.length=k * Rep.sz α ∧
    (∀ r∈rows1,∃ x:α,Rep.rep w K x r)∧∀ g,A=some ⟨g,0,none⟩→∀ j u,rows1.flatten[j]?=some u→w.cell? ⟨g,j,none⟩=some u) ∧
  (rows2.length=l.length - k∧(∀ (i:Nat) (x:α) (r:List Value),(l.drop k)[i]?=some x→rows2[i]?=some r→Rep.rep w K x r)∧rows2.flatten.length=(l.length - k) * Rep.sz α ∧
    (∀ r∈rows2,∃ x:α,Rep.rep w K x r)∧∀ g,A=some ⟨g,0,none⟩→∀ j u,rows2.flatten[j]?=some u→w.cell? ⟨g,k * Rep.sz α + j,none⟩=some u):=by
 obtain ⟨A,c,rfl,h1,h2,h3⟩:=h.sl
 have hkind:=h.kind
 obtain ⟨hK,rows,hr,hown,hrep⟩:=h
 have hlens:∀ r∈rows,r.length=Rep.sz α:=by
  intro r hr2
  obtain ⟨i,hi⟩:=List.getElem?_of_mem hr2
  have hi2:=(List.getElem?_eq_some_iff.1 hi).1
  exact Rep.len (hrep i l[i] r (List.getElem?_eq_getElem (by omega)) hi)
 have hl1:(rows.take k).flatten.length=k * Rep.sz α:=by
  rw [flatten_len fun r hr=>hlens r (List.mem_of_mem_take hr),List.length_take]
  congr 1; omega
 have hcut:rows.flatten=(rows.take k).flatten ++ (rows.drop k).flatten:=by rw [←List.flatten_append,List.take_append_drop]
 have hmem:∀ r∈rows,∃ x:α,Rep.rep w K x r:=by
  intro r hr2
  obtain ⟨i,hi⟩:=List.getElem?_of_mem hr2
  have hi2:=(List.getElem?_eq_some_iff.1 hi).1
  exact ⟨_,hrep i l[i] r (List.getElem?_eq_getElem (by omega)) hi⟩
 refine ⟨A,c,rows.take k,rows.drop k,rfl,h1,h2,?_,⟨by rw [List.length_take]; omega,?_,hl1,fun r hr=>hmem r (List.mem_of_mem_take hr),?_⟩,⟨by rw [List.length_drop,hr],?_,?_,fun r hr=>hmem r (List.mem_of_mem_drop hr),?_⟩⟩
 ·rcases hown.2 with ⟨h4,h5⟩ | ⟨g,cap,cur,h4,hg,_⟩
  ·rw [Value.slice.injEq] at h4
   obtain ⟨rfl,_,rfl⟩:=h4
   exact .inl ⟨rfl,h5,rfl⟩
  ·cases h4
   exact .inr ⟨g,rfl,hg,(hown.lt g rfl).2⟩
 ·intro i x r hx hri
  rw [List.getElem?_take] at hx hri
  split at hx
  ·rename_i hik
   rw [if_pos hik] at hri
   exact hrep i x r hx hri
  ·cases hx
 ·rintro g rfl j u hu
  have h5:=hown.cells (g:=_) rfl j u (by rw [hcut,List.getElem?_append_left (List.getElem?_eq_some_iff.1 hu).1]; exact hu)
  rw [addr_add,Nat.zero_add] at h5
  exact h5
 ·intro i x r hx hri
  rw [List.getElem?_drop] at hx hri
  exact hrep _ x r hx hri
 ·rw [flatten_len fun r hr=>hlens r (List.mem_of_mem_drop hr),List.length_drop,hr]
 ·rintro g rfl j u hu
  have h5:=hown.cells (g:=_) rfl (k * Rep.sz α + j) u (by rw [hcut,List.getElem?_append_right (by omega),hl1,Nat.add_sub_cancel_left]; exact hu)
  rw [addr_add,Nat.zero_add] at h5
  exact h5
end
end Go.Proofs.Sm
namespace Go.Proofs.Sm
open Go.RowKit
theorem cut_slices {A:Option Addr} {n c k:Nat} (hk:k≤n) (hn:n≤c) (hm:c≤9223372036854775807) (hA:(A=none∧n=0∧c=0)∨∃ g,A=some ⟨g,0,none⟩) :
 (∀ W,(Instr.slice 26 (.slice A n c) none (some (.int .i64 (k:Int))) none).run Tryz.prog W=.ok (.slice A k c) W) ∧
   ∃ A2 c2,(∀ W,(Instr.slice 26 (.slice A n c) (some (.int .i64 (k:Int))) none none).run Tryz.prog W=.ok (.slice A2 (n - k) c2) W)∧(0 < n - k→∃ g,A=some ⟨g,0,none⟩∧A2=some ⟨g,k * 8,none⟩):=by
 rcases hA with ⟨rfl,rfl,rfl⟩ | ⟨g,rfl⟩
 ·obtain rfl:k=0:=by omega
  exact ⟨fun W=>by simp [go_sem,Tryz.underlying26],none,0,fun W=>by simp [go_sem,Tryz.underlying26],fun h=>absurd h (by omega)⟩
 ·have hkc:(k:Int)≤(c:Int):=by omega
  have hkl:(k:Int)≤(n:Int):=by omega
  refine ⟨fun W=>by simp [go_sem,Tryz.underlying26,hkc],?_⟩
  by_cases hc:c=k
  ·subst hc
   have hkl2:n=c:=by omega
   exact ⟨some ⟨g,0,none⟩,0,fun W=>by simp [go_sem,Tryz.underlying26,hkl2],fun h=>absurd h (by omega)⟩
  ·have hck:¬ k=c:=fun e=>hc e.symm
   exact ⟨some ⟨g,k * 8,none⟩,c - k,fun W=>by simp [go_sem,Tryz.underlying26,hkl,hc],fun _=>⟨g,rfl,rfl⟩⟩
end Go.Proofs.Sm
namespace Go.Proofs.Sm
open Go.RowKit
theorem rule_actOk {l:List RuleV} (h:checkRulesS l=0) {k:Nat} {x:RuleV} (hx:l[k]?=some x):ActOk x.action:=checkAction_ok (checkRule_parts ((rules_ok h).1.each x (List.mem_of_getElem? hx))).2.1
def PrunedPost (l:List RuleV) (ms:List MemoryV) (w:World) (e:Ending) (w':World):Prop :=
 ∃ v,e=.returned (.tuple #[v,.int .i64 (prunedErr l ms)])∧(prunedErr l ms≠0→v=.slice none 0 0) ∧
  (prunedErr l ms=0→∃ A n c,v=.slice A n c∧n≤c∧c≤maxLen∧Sl w' (Lt w'.heap.size) A n (prunedS l ms))∧Below w.heap.size w w'
theorem PrunedPost.bad {l:List RuleV} {ms:List MemoryV} {w w':World} {f:Int} (hf:prunedErr l ms=f) (h0:f≠0) (hb:Below w.heap.size w w'):PrunedPost l ms w (.returned (.tuple #[.slice none 0 0,.int .i64 f])) w' :=
 ⟨_,by rw [hf],fun _=>rfl,fun h=>absurd (hf.symm.trans h) h0,hb⟩
theorem PrunedPost.good {l:List RuleV} {ms:List MemoryV} {w w':World} {A:Option Addr} {n c:Nat} (hf:prunedErr l ms=0) (hn:n≤c) (hc:c≤maxLen) (hs:Sl w' (Lt w'.heap.size) A n (prunedS l ms)) (hb:Below w.heap.size w w'):PrunedPost l ms w (.returned (.tuple #[.slice A n c,.int .i64 0])) w' :=
 ⟨_,by rw [hf],fun h=>absurd hf h,fun _=>⟨A,n,c,rfl,hn,hc,hs⟩,hb⟩
end Go.Proofs.Sm
namespace Go.Proofs.Sm
open Go.RowKit
theorem buildErr_ok {l:List RuleV} {files:List FileV} {wanted:List ByteArray} {m:List MemoryV} {order:List Nat} (h1:buildErr0 l files wanted m=0) (h2:(runB l files m order).1=0) (h3:endErr l wanted (runB l files m order).2=0):buildErr l files wanted m order=0:=by
 rw [buildErr,if_neg (by rw [h1]; simp),if_neg (by rw [h2]; simp),h3]
end Go.Proofs.Sm
namespace Go.Proofs.Sm
open Go.RowKit
def AlikeM (r:RuleV) (a b:Option MemoryV):Prop:=a=b∨∃ y,a=some y∧b=none∧¬ y.action.toList=(digestS (actTextL r.action)).toList
theorem memStands_not {r:RuleV} {m:MemoryV} {F:List FileV} (h:¬ m.action.toList=(digestS (actTextL r.action)).toList):memStands r m F=false:=by
 unfold memStands
 have:(m.action.toList == (digestS (actTextL r.action)).toList)=false:=by simpa using h
 rw [this]; rfl
structure LikeO (o o':OutV):Prop where
 what:o.what=o'.what
 res:o.res=o'.res
 fault:o.fault=o'.fault
theorem execOut_like (r:RuleV) (F:List FileV) (m m':Option MemoryV):LikeO (execOut r F m) (execOut r F m'):=by
 unfold execOut
 split
 ·exact ⟨rfl,rfl,rfl⟩
 split <;> exact ⟨rfl,rfl,rfl⟩
theorem outS_like {g:Graph} {mem mem':List MemoryV} {r:RuleV} {k:Nat} {s t:BSt} (hm:AlikeM r (findM mem r.name) (findM mem' r.name)) (h1:t.have_=s.have_) (h2:t.bad=s.bad):LikeO (outS g mem r k s) (outS g mem' r k t):=by
 unfold outS
 rw [h1,h2]
 by_cases hd:(needAt g k).any (isOf s.bad)=true
 ·rw [if_pos hd,if_pos hd]; exact ⟨rfl,rfl,rfl⟩
 rw [if_neg hd,if_neg hd]
 rcases hm with hm | ⟨y,hy,hn,ha⟩
 ·rw [←hm]
  exact ⟨rfl,rfl,rfl⟩
 ·rw [hy,hn]
  simp only
  rw [memStands_not ha]
  exact execOut_like _ _ _ _
def whatS (t:StepV):List UInt8 × Int:=(t.name.toList,t.what)
theorem steps_like {l:List RuleV} {mem mem':List MemoryV} {K:List MemoryV→List MemoryV→Prop} (hK:∀ a b x,K a b→K (putM a x) (putM b x)):∀ {ks:List Nat} {s t:BSt},(∀ k∈ks,∀ r,l[k]?=some r→AlikeM r (findM mem r.name) (findM mem' r.name)) →
 t.have_=s.have_→t.bad=s.bad→t.steps.map whatS=s.steps.map whatS→K s.kept t.kept →
 (stepsS l mem' ks t).1=(stepsS l mem ks s).1∧(stepsS l mem' ks t).2.bad=(stepsS l mem ks s).2.bad∧(stepsS l mem' ks t).2.steps.map whatS=(stepsS l mem ks s).2.steps.map whatS∧K (stepsS l mem ks s).2.kept (stepsS l mem' ks t).2.kept
 | [],_,_,_,_,h2,h3,h4=>⟨rfl,h2,h3,h4⟩
 | k :: ks,s,t,hm,h1,h2,h3,h4=>by
   have hm':∀ j∈ks,∀ r,l[j]?=some r→AlikeM r (findM mem r.name) (findM mem' r.name):=fun j hj=>hm j (List.mem_cons_of_mem _ hj)
   cases hr:l[k]? with
   | none =>
     have e:∀ mem s,stepsS l mem (k :: ks) s=stepsS l mem ks s:=fun mem s=>by rw [stepsS,hr]
     rw [e,e]
     exact steps_like hK hm' h1 h2 h3 h4
   | some r =>
     have ho:=outS_like (g:=needsS l) (k:=k) (hm k (List.mem_cons_self ..) r hr) h1 h2
     by_cases hf:(outS (needsS l) mem r k s).fault=0
     ·rw [steps_go hr hf,steps_go hr (ho.fault ▸ hf)]
      refine steps_like hK hm' ?_ ?_ ?_ ?_
      ·show (outS (needsS l) mem' r k t).res.elim t.have_ _=(outS (needsS l) mem r k s).res.elim s.have_ _
       rw [←ho.res,h1]
      ·show (if (outS (needsS l) mem' r k t).res.isNone then t.bad.set k true else t.bad)=if (outS (needsS l) mem r k s).res.isNone then s.bad.set k true else s.bad
       rw [←ho.res,h2]
      ·show (t.steps ++ [(⟨r.name,(outS (needsS l) mem' r k t).what,(outS (needsS l) mem' r k t).early⟩:StepV)]).map whatS=(s.steps ++ [(⟨r.name,(outS (needsS l) mem r k s).what,(outS (needsS l) mem r k s).early⟩:StepV)]).map whatS
       rw [List.map_append,List.map_append,h3]
       simp only [List.map_cons,List.map_nil,whatS,ho.what]
      ·show K ((outS (needsS l) mem r k s).res.elim s.kept _) ((outS (needsS l) mem' r k t).res.elim t.kept _)
       rw [←ho.res]
       cases (outS (needsS l) mem r k s).res with
       | none=>exact h4
       | some x=>exact hK _ _ _ h4
     ·rw [steps_stop hr hf,steps_stop hr (fun e=>hf (ho.fault.trans e))]
      exact ⟨ho.fault.symm,h2,h3,h4⟩
theorem findM_mem {l:List MemoryV} (h:ByPath MemoryV.name l) {y:MemoryV} (hy:y∈l) {n:ByteArray} (hn:y.name.toList=n.toList):findM l n=some y:=by
 rw [findM_by]
 have e:n.data.toList=y.name.data.toList:=by rw [←ByteArray.toList_eq,←ByteArray.toList_eq,hn]
 rw [e]
 exact findBy_mem h y hy
theorem findM_none {l:List MemoryV} {n:ByteArray} (h:findM l n=none):∀ y∈l,¬ y.name.toList=n.toList:=by
 intro y hy
 unfold findM at h
 have:=List.find?_eq_none.1 h y hy
 simpa using this
theorem byPath_filter {α:Type} {key:α→ByteArray} {l:List α} (h:ByPath key l) (p:α→Bool):ByPath key (l.filter p):=List.Pairwise.filter _ h
theorem findM_filter {l:List MemoryV} (h:ByPath MemoryV.name l) (p:MemoryV→Bool) (n:ByteArray):findM (l.filter p) n=(findM l n).bind fun y=>if p y then some y else none:=by
 cases hf:findM l n with
 | none =>
   cases hg:findM (l.filter p) n with
   | none=>rfl
   | some y =>
     obtain ⟨h1,h2⟩:=findM_some hg
     exact absurd h2 (findM_none hf y (List.mem_filter.1 h1).1)
 | some y =>
   obtain ⟨h1,h2⟩:=findM_some hf
   simp only [Option.bind_some]
   cases hp:p y
   ·rw [if_neg (by decide)]
    cases hg:findM (l.filter p) n with
    | none=>rfl
    | some z =>
      obtain ⟨h3,h4⟩:=findM_some hg
      have h5:=(List.mem_filter.1 h3)
      have h6:=findM_mem h h5.1 h4
      rw [hf] at h6
      cases h6
      rw [hp] at h5; cases h5.2
   ·rw [if_pos rfl]
    exact findM_mem (byPath_filter h p) (List.mem_filter.2 ⟨h1,hp⟩) h2
theorem keepM_iff {l:List RuleV} (hb:ByPath RuleV.name l) {k:Nat} {r:RuleV} {y:MemoryV} (hr:l[k]?=some r) (hn:r.name.toList=y.name.toList):keepM l y=((digestS (actTextL r.action)).toList == y.action.toList):=by
 unfold keepM
 rw [idxName_own hb hr hn]
 simp only [hr,Option.any_some]
theorem serves_alike {l:List RuleV} {m:List MemoryV} (hb:ByPath RuleV.name l) (hm:ByPath MemoryV.name m) {k:Nat} {r:RuleV} (hr:l[k]?=some r):AlikeM r (findM (servesS l m) r.name) (findM (servesS l (prunedS l m)) r.name):=by
 unfold servesS prunedS
 rw [findM_filter hm,findM_filter (byPath_filter hm _),findM_filter hm]
 cases hf:findM m r.name with
 | none=>exact .inl rfl
 | some y =>
   obtain ⟨_,h2⟩:=findM_some hf
   have hk:=keepM_iff hb (y:=y) hr h2.symm
   simp only [Option.bind_some]
   cases hd:keepM l y
   ·simp only [Bool.false_eq_true,if_false,Option.bind_none]
    rw [hd] at hk
    have hne:¬ y.action.toList=(digestS (actTextL r.action)).toList:=fun e=>by
     have h3:=hk.symm
     rw [e] at h3
     simp at h3
    cases hs:servesP l y
    ·exact .inl rfl
    ·exact .inr ⟨y,rfl,rfl,hne⟩
   ·simp only [if_true,Option.bind_some]
    exact .inl rfl
structure LessK (l:List RuleV) (order:List Nat) (a b:List MemoryV):Prop where
 same:∀ k∈order,∀ n:ByteArray,n.toList=(nameAt l k).toList→findM b n=findM a n
 less:∀ n,(findM b n).isSome=true→(findM a n).isSome=true
 left:ByPath MemoryV.name a
 right:ByPath MemoryV.name b
theorem LessK.put {l:List RuleV} {order:List Nat} {a b:List MemoryV} (h:LessK l order a b) (x:MemoryV):LessK l order (putM a x) (putM b x):=by
 refine ⟨fun k hk n hn=>?_,fun n=>?_,byPath_put (key:=MemoryV.name) h.left x,byPath_put (key:=MemoryV.name) h.right x⟩
 ·rw [findM_put,findM_put,h.same k hk n hn]
 ·rw [findM_put,findM_put]
  split
  ·exact fun _=>rfl
  ·exact h.less n
theorem LessK.length {l:List RuleV} {order:List Nat} {a b:List MemoryV} (h:LessK l order a b):b.length≤a.length:=by
 have:=many_paths (b.map MemoryV.name) (a.map MemoryV.name) (by
  rw [List.pairwise_map]
  refine List.Pairwise.imp (fun {x y} hxy e=>?_) h.right
  rw [ltS_eq_l e,ltS_irrefl] at hxy; cases hxy) fun p hp=>by
   obtain ⟨y,hy,rfl⟩:=List.mem_map.1 hp
   have h1:=h.less y.name (by rw [findM_mem h.right hy rfl]; rfl)
   cases hf:findM a y.name with
   | none=>rw [hf] at h1; cases h1
   | some z =>
     obtain ⟨h2,h3⟩:=findM_some hf
     exact ⟨z.name,List.mem_map.2 ⟨z,h2,rfl⟩,h3⟩
 simpa using this
theorem filesB_same {l:List RuleV} {order:List Nat}:∀ {wanted:List ByteArray} {s t:BSt},(∀ n∈wanted,∃ k∈order,idxName l n=some k)→t.bad=s.bad→(∀ k∈order,∀ n:ByteArray,n.toList=(nameAt l k).toList→findM t.kept n=findM s.kept n)→filesB l wanted t=filesB l wanted s:=by
 intro wanted s t hw hb hk
 unfold filesB
 have key:∀ (ws:List ByteArray) (acc:List FileV),(∀ n∈ws,∃ k∈order,idxName l n=some k)→ws.foldl (takeB l t) acc=ws.foldl (takeB l s) acc:=by
  intro ws
  induction ws with
  | nil=>intro acc _; rfl
  | cons n ws ih =>
    intro acc hws
    obtain ⟨k,hko,he⟩:=hws n (List.mem_cons_self ..)
    have e:=hk k hko n (by
     obtain ⟨_,r,hr,hn⟩:=idxName_some he
     rw [nameAt_of hr]; exact hn.symm)
    have e2:takeB l t acc n=takeB l s acc n:=by
     unfold takeB
     rw [he]
     simp only [hb,e]
    rw [List.foldl_cons,List.foldl_cons,e2]
    exact ih _ fun n hn=>hws n (List.mem_cons_of_mem _ hn)
 exact key wanted [] hw
theorem pruned_enough {l:List RuleV} {files:List FileV} {wanted:List ByteArray} {m:List MemoryV} {order:List Nat} (hc:checkRulesS l=0) (hm:checkMemoryS m=0) (hp:planErr l wanted=0→PlanIs l wanted order) :
 (buildErr l files wanted m order≠0→buildErr l files wanted (prunedS l m) order=buildErr l files wanted m order∨buildErr l files wanted m order=2) ∧
 (buildErr l files wanted m order=0→buildErr l files wanted (prunedS l m) order=0∧(runB l files (prunedS l m) order).2.steps.map whatS=(runB l files m order).2.steps.map whatS):=by
 obtain ⟨_,hb⟩:=rules_parts_by hc
 obtain ⟨hm1,hm2,hm3⟩:=memory_parts_by hm
 have hmp:checkMemoryS (prunedS l m)=0:=memory_fine (Nat.le_trans (List.length_filter_le _ _) hm1) (byPath_filter hm2 _) fun y hy=>hm3 y (List.mem_filter.1 hy).1
 have e0:buildErr0 l files wanted (prunedS l m)=buildErr0 l files wanted m:=by unfold buildErr0; rw [hm,hmp]
 by_cases h0:buildErr0 l files wanted m=0
 ·have hpl:=hp (buildErr0_parts h0).1
  have hstart:LessK l order (startB l files m order).kept (startB l files (prunedS l m) order).kept:=by
   unfold startB prunedS
   simp only
   refine ⟨fun k hk n hn=>?_,fun n=>?_,byPath_filter hm2 _,byPath_filter (byPath_filter hm2 _) _⟩
   ·have hnone:∀ M:List MemoryV,findM (M.filter fun y=>!order.any fun k=>(nameAt l k).toList == y.name.toList) n=none:=fun M=>by
     cases hf:findM (M.filter fun y=>!order.any fun k=>(nameAt l k).toList == y.name.toList) n with
     | none=>rfl
     | some y =>
       obtain ⟨h1,h2⟩:=findM_some hf
       have h3:=(List.mem_filter.1 h1).2
       have h4:(order.any fun k=>(nameAt l k).toList == y.name.toList)=true:=List.any_eq_true.2 ⟨k,hk,by rw [h2,hn]; simp⟩
       rw [h4] at h3; cases h3
    rw [hnone,hnone]
   ·rw [findM_filter (byPath_filter hm2 _),findM_filter hm2,findM_filter hm2]
    cases findM m n with
    | none=>simp
    | some y =>
      simp only [Option.bind_some]
      intro h
      split
      ·rfl
      ·rename_i h1
       exfalso
       cases hk:keepM l y
       ·rw [hk] at h; simp at h
       ·rw [hk] at h
        simp only [if_true,Option.bind_some] at h
        rw [if_neg h1] at h; cases h
  obtain ⟨k1,k2,k3,k4⟩:=steps_like (l:=l) (mem:=servesS l m) (mem':=servesS l (prunedS l m)) (K:=LessK l order) (fun a b x h=>h.put x) (ks:=order) (s:=startB l files m order) (t:=startB l files (prunedS l m) order) (fun k _ r hr=>serves_alike hb hm2 hr) rfl rfl rfl hstart
  change (runB l files (prunedS l m) order).1=(runB l files m order).1 at k1
  change (runB l files (prunedS l m) order).2.bad=(runB l files m order).2.bad at k2
  change (runB l files (prunedS l m) order).2.steps.map whatS=(runB l files m order).2.steps.map whatS at k3
  change LessK l order (runB l files m order).2.kept (runB l files (prunedS l m) order).2.kept at k4
  have hfb:=filesB_same (plan_wanted hc hpl) k2 k4.same
  have hlen:=k4.length
  refine ⟨fun hne=>?_,fun he=>?_⟩
  ·unfold buildErr at hne ⊢
   rw [e0,h0,k1] at *
   simp only [ne_eq,not_true,if_false] at hne ⊢
   split
   ·exact .inl rfl
   ·rename_i h1
    rw [if_neg h1] at hne
    right
    unfold endErr at hne ⊢
    split
    ·rfl
    ·rename_i h2
     rw [if_neg h2] at hne
     exact absurd rfl hne
  ·obtain ⟨_,g2,g3⟩:=buildErr_parts he
   refine ⟨buildErr_ok (by rw [e0]; exact h0) (by rw [k1]; exact g2) ?_,k3⟩
   obtain ⟨g4,g5⟩:=endErr_few g3
   unfold endErr
   rw [hfb]
   rw [if_neg]
   rintro (h | h)
   ·exact h g4
   ·omega
 ·have e1:∀ M,buildErr0 l files wanted M≠0→buildErr l files wanted M order=buildErr0 l files wanted M:=fun M h=>by unfold buildErr; rw [if_pos h]
  rw [e1 m h0,e1 (prunedS l m) (by rw [e0]; exact h0),e0]
  exact ⟨fun _=>.inl rfl,fun h=>absurd h h0⟩
end Go.Proofs.Sm
namespace Go.Proofs.Sm
open Go.RowKit
def dueS (steps:List StepV):List ByteArray:=(steps.filter fun t=>t.what == 1 || t.what == 3).map StepV.name
end Go.Proofs.Sm
namespace Go.Proofs.Sm
open Go.RowKit
section
variable {l:List RuleV} {F before files:List FileV} {ws other:List ByteArray} {ms:List MemoryV} {f g:Int} {a b x y:BuiltV}
theorem due_whats:∀ {a b:List StepV},a.map whatS=b.map whatS→dueS a=dueS b
 | [],[],_=>rfl
 | [],_ :: _,h=>by cases h
 | _ :: _,[],h=>by cases h
 | x :: a,y :: b,h=>by
   rw [List.map_cons,List.map_cons] at h
   injection h with h1 h2
   have h3:x.name=y.name:=bytes_eq (by rw [←Lib.toList_data,←Lib.toList_data]; exact congrArg Prod.fst h1)
   have h4:x.what=y.what:=congrArg Prod.snd h1
   have ih:=due_whats h2
   unfold dueS at ih ⊢
   rw [List.filter_cons,List.filter_cons,h4]
   split
   ·rw [List.map_cons,List.map_cons,ih,h3]
   ·exact ih
theorem built_pruned (hc:checkRulesS l=0) (hm:checkMemoryS ms=0) (h1:BuildIs l F ws ms f x) (h2:BuildIs l F ws (prunedS l ms) g y):(f≠0→f=g∨f=2)∧(f=0→g=0∧dueS x.steps=dueS y.steps):=by
 by_cases h0:buildErr0 l F ws ms=0
 ·obtain ⟨order,hp,e1,e2⟩:=h1.2.2 h0
  obtain ⟨e3,e4⟩:=h2.atPlan hp
  obtain ⟨p1,p2⟩:=pruned_enough (files:=F) hc hm (fun _=>hp)
  rw [←e1,←e3] at p1 p2
  refine ⟨fun hf=>(p1 hf).imp Eq.symm id,fun hf=>?_⟩
  obtain ⟨q1,q2⟩:=p2 hf
  refine ⟨q1,?_⟩
  rw [e2 hf,e4 q1]
  exact (due_whats q2).symm
 ·have hmp:checkMemoryS (prunedS l ms)=0:=by
   obtain ⟨hm1,hm2,hm3⟩:=memory_parts_by hm
   exact memory_fine (Nat.le_trans (List.length_filter_le _ _) hm1) (byPath_filter hm2 _) fun y hy=>hm3 y (List.mem_filter.1 hy).1
  have e0:buildErr0 l F ws (prunedS l ms)=buildErr0 l F ws ms:=by unfold buildErr0; rw [hm,hmp]
  have e1:=h1.2.1 h0
  have e2:=h2.2.1 (by rw [e0]; exact h0)
  rw [e0] at e2
  exact ⟨fun _=>.inl (e1.trans e2.symm),fun hf=>absurd (e1.symm.trans hf) h0⟩
end
end Go.Proofs.Sm
namespace Go.Proofs.Sm
open Go.RowKit Go.Maps
def DuePost (l:List RuleV) (F:List FileV) (ws:List ByteArray) (ms:List MemoryV) (W:World) (e:Ending) (w':World):Prop :=
 ∃ A n c f b,e=.returned (.tuple #[.slice A n c,.int .i64 f])∧BuildIs l F ws ms f b∧Sl w' (Lt w'.heap.size) A n (dueS b.steps)∧Below W.heap.size W w'
theorem due_more {l:List StepV} {k:Nat} {x:StepV} (hx:l[k]?=some x):dueS (l.take (k + 1))=if x.what == 1 || x.what == 3 then dueS (l.take k) ++ [x.name] else dueS (l.take k):=by
 unfold dueS
 rw [List.take_add_one,hx,List.filter_append,List.map_append]
 by_cases h:(x.what == 1 || x.what == 3)=true
 ·rw [if_pos h]
  simp [h]
 ·rw [if_neg h]
  simp [h]
theorem due_le (l:List StepV):(dueS l).length≤l.length:=by
 unfold dueS
 rw [List.length_map]; exact List.length_filter_le _ _
theorem str_ones7 (s:ByteArray):∀ u∈[Value.string s],u.oneCell'=true:=fun u hu=>by
 simp only [List.mem_cons,List.mem_nil_iff,or_false] at hu
 subst hu; rfl
set_option maxHeartbeats 0 in
set_option maxRecDepth 100000 in
theorem steps_Due (A B C D:Option Addr) (n c m d nw cw nd cd:Nat) (l:List RuleV) (F:List FileV) (ws:List ByteArray) (ms:List MemoryV) (w:World) (hE:Env2 w) (hsl:Sl w (Lt w.heap.size) A n l) (hF:Sl w (Lt w.heap.size) B m F) (hws:Sl w (Lt w.heap.size) C nw ws) (hms:Sl w (Lt w.heap.size) D nd ms) :
 Calls Tryz.prog 17 #[.slice A n c,.slice B m d,.slice C nw cw,.slice D nd cd] w (DuePost l F ws ms w):=by
 have HB:=Lib.hid (steps_build A B C D n c m d nw cw nd cd l F ws ms w hE hsl hF hws hms)
 obtain ⟨i0,hi0,hz0,hz1,hz2⟩:=info_parts str_info
 clear hsl hF hws hms
 go_enter Tryz.func17,Tryz.ntmps17
 go_wp2_with fail
 refine HB.out.mono ?_
 rintro e w1 ⟨A1,n1,c1,A2,n2,c2,A3,n3,c3,f,b,rfl,hbu,hs1,_,_,_,_,hst,hb1⟩
 have HBu:=Lib.hid hbu
 have hbx:=fr_alloc hb1 (.cells #[.slice A1 n1 c1,.slice A2 n2 c2,.slice A3 n3 c3] 28)
 have hs:=sl_call hs1 (fr_alloc (fr_refl w1) (.cells #[.slice A1 n1 c1,.slice A2 n2 c2,.slice A3 n3 c3] 28)) (Nat.le_refl _)
 have hn9:n1≤1000:=by rw [←hs1.1]; exact hst
 have hn9I:n1≤9223372036854775807:=by omega
 have HL:=Lib.hid hs.1
 clear hbu hs1 hst
 go_wp2
 generalize w1.alloc (.cells #[.slice A1 n1 c1,.slice A2 n2 c2,.slice A3 n3 c3] 28)=W at *
 have HBW:=Lib.hid hbx
 go_loopw [12,26] (fun v i wr=>∃ k:Nat,k≤n1∧i=.int .i64 k∧RowK wr W.heap.size 9 (fun _=>False) v (dueS (b.steps.take k))∧Below W.heap.size W wr) (fun _ i _=>n1 - (intOf i).toNat)
 case atStart=>exact ⟨0,Nat.zero_le _,rfl,RowK.nil,Below.refl _ _⟩
 case round =>
  obtain ⟨k,hk,rfl,hrow,hbel⟩:=hrel
  by_cases hlt:k < n1
  ·have hkI:(k:Int) < (n1:Int):=by omega
   obtain ⟨g1,o1,x,rfl,hg1,hx,hxn,_,d0,d1,d2⟩:=(hs.keep (keep_lt hbel)).step hlt
   have HT:=Lib.hid (due_more hx)
   have hlen:(dueS (b.steps.take k)).length≤k:=Nat.le_trans (due_le _) (by rw [List.length_take]; omega)
   have hbx1:=fr_alloc hbel (.cells #[.string x.name,.int .i64 x.what,.bool x.early] 46)
   have HRC:=Lib.hid (hrow.call (fr_alloc (fr_refl wr) (.cells #[.string x.name,.int .i64 x.what,.bool x.early] 46)))
   clear hx hrow
   generalize dueS (b.steps.take k)=OL at *
   cases h1:(x.what == 1)
   ·cases h3:(x.what == 3)
    ·have HS:=Lib.hid (show dueS (b.steps.take (k + 1))=OL by rw [HT.out]; simp [h1,h3])
     clear HT
     go_wp2
     go_roundw
     case rel=>exact ⟨k + 1,by omega,by go_num,by rw [HS.out]; exact HRC.out,hbx1⟩
     case measure=>simp [intOf]; omega
    ·have HS:=Lib.hid (show dueS (b.steps.take (k + 1))=OL ++ [x.name] by rw [HT.out]; simp [h3])
     have hnew:∀ (j:Nat) v,([.string x.name]:List Value)[j]?=some v→((wr.alloc (.cells #[.string x.name,.int .i64 x.what,.bool x.early] 46)).alloc (.cells #[.string x.name] 9)).cell? ((⟨wr.heap.size + 1,0,none⟩:Addr).add j)=some v:=by
      have:=new_cells (wr.alloc (.cells #[.string x.name,.int .i64 x.what,.bool x.early] 46)) #[.string x.name] 9
      rwa [World.size_alloc] at this
     have HNw:=Lib.hid hnew
     have hbxx:=fr_alloc hbx1 (.cells #[.string x.name] 9)
     obtain ⟨_,rows,hrows,hown,hrep⟩:=(HRC.out).call (fr_alloc (fr_refl (wr.alloc (.cells #[.string x.name,.int .i64 x.what,.bool x.early] 46))) (.cells #[.string x.name] 9))
     have HP:=Lib.hid hrep
     have HOw:=Lib.hid hown
     have HKk:=Lib.hid (fun j hj=>(HRC.out.kind j hj).1)
     clear hnew hown hrep HT
     go_wp2_with (at_builtin; refine wpList_append_lies _ rfl _ _ 24 rfl W.heap.size 9 i0 _ 1 16 Tryz.underlying24 hi0 hz0 hz1 hz2 rfl (by decide) _ OL.length _ rfl HOw.out ⟨wr.heap.size + 1,0,none⟩ 1 1 [.string x.name] rfl rfl HNw.out (str_ones7 x.name) (by decide) (by unfold maxLen; omega) (by omega) hbxx.size _ rfl ?_)
     intro g' cap w9 hown' hgrow hat hlt'
     have hr9:=RowK.append (x:=x.name) (r:=[.string x.name]) (l:=OL) (fun k hh=>hh.elim) hrows HP.out ⟨rfl,hxn⟩ (fun _ _ hh=>hh) hgrow hown'
     have hb9:=hbxx.grown hgrow hbxx.size HKk.out
     have HR9:=Lib.hid hr9
     clear hown' hgrow hat hr9
     go_wp2
     go_roundw
     case rel=>exact ⟨k + 1,by omega,by go_num,by rw [HS.out]; exact HR9.out,hb9⟩
     case measure=>simp [intOf]; omega
   ·have HS:=Lib.hid (show dueS (b.steps.take (k + 1))=OL ++ [x.name] by rw [HT.out]; simp [h1])
    have hnew:∀ (j:Nat) v,([.string x.name]:List Value)[j]?=some v→((wr.alloc (.cells #[.string x.name,.int .i64 x.what,.bool x.early] 46)).alloc (.cells #[.string x.name] 9)).cell? ((⟨wr.heap.size + 1,0,none⟩:Addr).add j)=some v:=by
     have:=new_cells (wr.alloc (.cells #[.string x.name,.int .i64 x.what,.bool x.early] 46)) #[.string x.name] 9
     rwa [World.size_alloc] at this
    have HNw:=Lib.hid hnew
    have hbxx:=fr_alloc hbx1 (.cells #[.string x.name] 9)
    obtain ⟨_,rows,hrows,hown,hrep⟩:=(HRC.out).call (fr_alloc (fr_refl (wr.alloc (.cells #[.string x.name,.int .i64 x.what,.bool x.early] 46))) (.cells #[.string x.name] 9))
    have HP:=Lib.hid hrep
    have HOw:=Lib.hid hown
    have HKk:=Lib.hid (fun j hj=>(HRC.out.kind j hj).1)
    clear hnew hown hrep HT
    go_wp2_with (at_builtin; refine wpList_append_lies _ rfl _ _ 24 rfl W.heap.size 9 i0 _ 1 16 Tryz.underlying24 hi0 hz0 hz1 hz2 rfl (by decide) _ OL.length _ rfl HOw.out ⟨wr.heap.size + 1,0,none⟩ 1 1 [.string x.name] rfl rfl HNw.out (str_ones7 x.name) (by decide) (by unfold maxLen; omega) (by omega) hbxx.size _ rfl ?_)
    intro g' cap w9 hown' hgrow hat hlt'
    have hr9:=RowK.append (x:=x.name) (r:=[.string x.name]) (l:=OL) (fun k hh=>hh.elim) hrows HP.out ⟨rfl,hxn⟩ (fun _ _ hh=>hh) hgrow hown'
    have hb9:=hbxx.grown hgrow hbxx.size HKk.out
    have HR9:=Lib.hid hr9
    clear hown' hgrow hat hr9
    go_wp2
    go_roundw
    case rel=>exact ⟨k + 1,by omega,by go_num,by rw [HS.out]; exact HR9.out,hb9⟩
    case measure=>simp [intOf]; omega
  ·obtain rfl:k=n1:=by omega
   rw [List.take_of_length_le (by rw [HL.out]; exact Nat.le_refl _)] at hrow
   obtain ⟨A8,c8,rfl,h81,h82,s8⟩:=hrow.sl
   have H8:=Lib.hid s8
   clear hrow s8
   go_wp2
   go_ret2
   exact ⟨A8,_,c8,f,b,rfl,HBu.out,H8.out,fr_call HBW.out hbel⟩
end Go.Proofs.Sm
namespace Go.Proofs.Sm
open Go.RowKit
theorem sc_size (g:Nat):∀ (us:List Value) (o:Nat) (w:World),(w.setCells g o us).heap.size=w.heap.size
 | [],_,_=>rfl
 | u :: us,o,w=>by rw [World.setCells,sc_size g us]; simp
theorem sc_other (g:Nat) {b:Nat} (hb:b≠g):∀ (us:List Value) (o:Nat) (w:World),(w.setCells g o us).heap[b]?=w.heap[b]?
 | [],_,_=>rfl
 | u :: us,o,w=>by rw [World.setCells,sc_other g hb us,heap_setCell_other w ⟨g,o,none⟩ b u hb]
theorem sc_below {n g:Nat} (hg:n≤g):∀ (us:List Value) (o:Nat) {w w':World},Below n w w'→Below n w (w'.setCells g o us)
 | [],_,_,_,h=>h
 | u :: us,o,_,_,h=>by rw [World.setCells]; exact sc_below hg us (o + 1) (h.setCell (p:=⟨g,o,none⟩) hg u)
theorem splice_step {α:Type} (xs:List α) (o:Nat) (u:α) (us:List α) (h:o < xs.length) :
 (xs.set o u).take (o + 1) ++ us ++ (xs.set o u).drop (o + 1 + us.length)=xs.take o ++ (u :: us) ++ xs.drop (o + (u :: us).length):=by
 have h1:(xs.set o u).take (o + 1)=xs.take o ++ [u]:=by
  rw [List.take_add_one,List.getElem?_set_self h,List.take_set_of_le (Nat.le_refl o)]
  rfl
 have h2:(xs.set o u).drop (o + 1 + us.length)=xs.drop (o + 1 + us.length):=by
  rw [List.drop_set_of_lt (by omega)]
 rw [h1,h2,List.length_cons,show o + (us.length + 1)=o + 1 + us.length by omega]
 simp
theorem set_run {B:Nat} {e:TypeId} {sz g n cap:Nat}:∀ (us:List Value) (o:Nat) {w:World} {xs:List Value},w.ownsRow B e sz (.slice (some ⟨g,0,none⟩) n cap) n xs→o + us.length≤xs.length →
 (w.setCells g o us).ownsRow B e sz (.slice (some ⟨g,0,none⟩) n cap) n (xs.take o ++ us ++ xs.drop (o + us.length))
 | [],o,w,xs,h,_=>by simpa [World.setCells,List.take_append_drop] using h
 | u :: us,o,w,xs,h,hl=>by
   have hl':o + (us.length + 1)≤xs.length:=hl
   have h1:=(h.stored o u).1
   have h2:=set_run us (o + 1) h1 (by rw [List.length_set]; omega)
   rw [World.setCells,←splice_step xs o u us (by omega)]
   exact h2
theorem flatten_setRow {sz:Nat} {us:List Value} (hu:us.length=sz):∀ {rows:List (List Value)} {i:Nat},(∀ r∈rows,r.length=sz)→i < rows.length→(rows.set i us).flatten=rows.flatten.take (i * sz) ++ us ++ rows.flatten.drop (i * sz + us.length)
 | [],i,_,h=>absurd h (by simp)
 | a :: rows,0,hl,_=>by
   have ha:=hl a (by simp)
   rw [List.set_cons_zero,List.flatten_cons,List.flatten_cons,Nat.zero_mul,Nat.zero_add,List.take_zero,List.nil_append,List.drop_left' (by rw [ha,hu])]
 | a :: rows,i + 1,hl,h=>by
   have ha:=hl a (by simp)
   have ih:=flatten_setRow hu (rows:=rows) (i:=i) (fun r hr=>hl r (by simp [hr])) (by simpa using h)
   rw [List.set_cons_succ,List.flatten_cons,List.flatten_cons,ih,Nat.succ_mul,show i * sz + sz=a.length + i * sz by rw [ha]; omega,Nat.add_assoc,List.take_length_add_append,List.drop_length_add_append]
   simp [List.append_assoc]
section
variable {α:Type} [Rep α] {w w':World} {B:Nat} {e:TypeId} {K:Nat→Prop} {v:Value} {l:List α}
theorem RowK.lens {rows:List (List Value)} (hr:rows.length=l.length) (hrep:∀ (i:Nat) (x:α) (r:List Value),l[i]?=some x→rows[i]?=some r→Rep.rep w K x r):∀ r∈rows,r.length=Rep.sz α:=by
 intro r hr2
 obtain ⟨i,hi⟩:=List.getElem?_of_mem hr2
 have hi2:=(List.getElem?_eq_some_iff.1 hi).1
 exact Rep.len (hrep i l[i] r (List.getElem?_eq_getElem (by omega)) hi)
theorem RowK.setRow {g n cap i:Nat} {x:α} {us:List Value} (h:RowK w B e K (.slice (some ⟨g,0,none⟩) n cap) l) (hg:¬ K g) (hi:i < l.length) (hx:Rep.rep w K x us) :
 RowK (w.setCells g (i * Rep.sz α) us) B e K (.slice (some ⟨g,0,none⟩) n cap) (l.set i x):=by
 obtain ⟨_,_,hv⟩:=h.form
 cases hv
 obtain ⟨hk,rows,hr,hown,hrep⟩:=h
 have hlens:=RowK.lens hr hrep
 have hu:us.length=Rep.sz α:=Rep.len hx
 have hkeep:∀ k,K k→(w.setCells g (i * Rep.sz α) us).heap[k]?=w.heap[k]?:=fun k hh=>sc_other g (by rintro rfl; exact hg hh) us _ w
 have hfl:rows.flatten.length=rows.length * Rep.sz α:=flatten_len hlens
 have hin:i * Rep.sz α + us.length≤rows.flatten.length:=by
  rw [hfl,hu,←Nat.succ_mul]
  exact Nat.mul_le_mul_right _ (by omega)
 refine ⟨fun k hh=>by rw [sc_size]; exact hk k hh,rows.set i us,by simp [hr],?_,fun i' x' r' hx' hr'=>Rep.keep hkeep ?_⟩
 ·rw [List.length_set,flatten_setRow hu hlens (by omega)]
  exact set_run us _ hown hin
 ·by_cases e1:i=i'
  ·subst e1
   rw [List.getElem?_set_self (by omega)] at hr'
   rw [List.getElem?_set_self hi] at hx'
   cases hr'
   cases hx'
   exact hx
  ·rw [List.getElem?_set_ne e1] at hr' hx'
   exact hrep i' x' r' hx' hr'
theorem RowK.shut {g n cap k:Nat} {zs:List Value} (h:RowK w B e K (.slice (some ⟨g,0,none⟩) n cap) l) (hg:¬ K g) (hk:k≤n) (hz:zs.length=(n - k) * Rep.sz α) :
 RowK (w.setCells g (k * Rep.sz α) zs) B e K (.slice (some ⟨g,0,none⟩) k cap) (l.take k):=by
 obtain ⟨_,_,hv⟩:=h.form
 cases hv
 obtain ⟨hkk,rows,hr,hown,hrep⟩:=h
 have hlens:=RowK.lens hr hrep
 have hkeep:∀ b,K b→(w.setCells g (k * Rep.sz α) zs).heap[b]?=w.heap[b]?:=fun b hh=>sc_other g (by rintro rfl; exact hg hh) zs _ w
 have hfl:rows.flatten.length=rows.length * Rep.sz α:=flatten_len hlens
 have hsum:k * Rep.sz α + zs.length=rows.flatten.length:=by
  rw [hfl,hz,hr,←Nat.add_mul]
  congr 1; omega
 have h1:=set_run zs (k * Rep.sz α) hown (by omega)
 have htn:(rows.take k).length=k:=by rw [List.length_take]; omega
 have htl:∀ r∈rows.take k,r.length=Rep.sz α:=fun r hr=>hlens r (List.mem_of_mem_take hr)
 have hft:(rows.take k).flatten=rows.flatten.take (k * Rep.sz α):=by
  have h1:rows.flatten=(rows.take k).flatten ++ (rows.drop k).flatten:=by rw [←List.flatten_append,List.take_append_drop]
  rw [h1,List.take_left' (by rw [flatten_len htl,htn])]
 have hlk:(l.take k).length=k:=by rw [List.length_take]; omega
 refine ⟨fun b hh=>by rw [sc_size]; exact hkk b hh,rows.take k,by rw [htn,hlk],?_,fun i y r hy hri=>Rep.keep hkeep ?_⟩
 ·rw [hlk]
  refine ⟨by rw [flatten_len htl,htn],.inr ?_⟩
  rcases h1.2 with ⟨h0,_⟩ | ⟨g',cap',cur,hv,hgb,hb,h2,h3,h4,h5⟩
  ·cases h0
  ·cases hv
   refine ⟨g,cap,cur,rfl,hgb,hb,by omega,h3,h4,?_⟩
   have h6:cur.toList.take (k * Rep.sz α)=(cur.toList.take (l.length * Rep.sz α)).take (k * Rep.sz α):=by
    rw [List.take_take,Nat.min_eq_left (Nat.mul_le_mul_right _ hk)]
   rw [h6,h5,hft,List.append_assoc,List.take_left' (by rw [List.length_take]; omega)]
 ·rw [List.getElem?_take] at hy hri
  split at hy
  ·rename_i hik
   rw [if_pos hik] at hri
   exact hrep i y r hy hri
  ·cases hy
end
end Go.Proofs.Sm
namespace Go.Proofs.Sm
open Go.RowKit
section
variable {α:Type} [Rep α] {w:World} {B:Nat} {e:TypeId} {K:Nat→Prop} {l:List α}
theorem RowK.base {A:Option Addr} {n c:Nat} (h:RowK w B e K (.slice A n c) l) (h0:0 < n):∃ g,A=some ⟨g,0,none⟩∧B≤g∧g < w.heap.size:=by
 obtain ⟨A',c',_,_,e',_,_,hA',_,_⟩:=h.cut (Nat.zero_le _)
 cases e'
 rcases hA' with ⟨_,h1,_⟩ | h1
 ·omega
 ·exact h1
theorem RowK.cellSome {g n cap j:Nat} (h:RowK w B e K (.slice (some ⟨g,0,none⟩) n cap) l) (hj:j < n * Rep.sz α):(w.cell? ⟨g,j,none⟩).isSome=true:=by
 obtain ⟨_,_,hv⟩:=h.form
 cases hv
 obtain ⟨_,rows,hr,hown,hrep⟩:=h
 have hfl:rows.flatten.length=rows.length * Rep.sz α:=flatten_len (RowK.lens hr hrep)
 have hx:rows.flatten[j]?=some (rows.flatten[j]'(by rw [hfl,hr]; exact hj)):=List.getElem?_eq_getElem _
 have h3:=hown.cells rfl j _ hx
 rw [addr_add,Nat.zero_add] at h3
 rw [h3]; rfl
end
theorem zero_ones {cs:Array Value} (h0:0 < cs.size) (h:∀ u∈cs.toList,u.oneCell'=true) (n:Nat):(Builtin.zeroCells cs n).toList.length=n * cs.size∧∀ v∈(Builtin.zeroCells cs n).toList,v.oneCell'=true:=by
 refine ⟨by simp [Builtin.zeroCells],fun v hv=>?_⟩
 simp only [Builtin.zeroCells,Array.toList_map,List.mem_map] at hv
 obtain ⟨i,_,rfl⟩:=hv
 have hi:i % cs.size < cs.size:=Nat.mod_lt _ h0
 rw [getElem!_pos cs _ hi]
 exact h _ (by simp)
theorem run_clear_mem {w:World} {g i n c:Nat} (ty:TypeId) (hn:i < n) (hc:∀ j,j < (n - i) * 8→(w.cell? ⟨g,i * 8 + j,none⟩).isSome=true) (hf:∀ j,w.frozen? ⟨g,j,none⟩=false) :
 ∃ zs,zs.length=(n - i) * 8∧(Builtin.clear_ #[26] ty #[.slice (some ⟨g,i * 8,none⟩) (n - i) c]).run Tryz.prog w=.ok (.tuple #[]) (w.setCells g (i * 8) zs):=by
 obtain ⟨z,hz⟩:∃ z:Value,z=.agg #[.string ⟨#[]⟩,.string ⟨#[]⟩,.slice none 0 0,.int .i64 0,.string ⟨#[]⟩,.slice none 0 0,.slice none 0 0,.int .i64 0]:=⟨_,rfl⟩
 have hv:∀ w,(zeroValue 43).run Tryz.prog w=.ok z w:=fun w=>by rw [hz]; kernel_rfl
 have hcs:z.cells=#[.string ⟨#[]⟩,.string ⟨#[]⟩,.slice none 0 0,.int .i64 0,.string ⟨#[]⟩,.slice none 0 0,.slice none 0 0,.int .i64 0]:=by rw [hz]; rfl
 obtain ⟨h1,h2⟩:=zero_ones (cs:=z.cells) (by rw [hcs]; decide) (by
  rw [hcs]
  intro u hu
  simp only [List.mem_cons,List.not_mem_nil,or_false] at hu
  rcases hu with rfl | rfl | rfl | rfl | rfl | rfl | rfl | rfl <;> rfl) (n - i)
 have hs8:z.cells.size=8:=by rw [hcs]; rfl
 rw [hs8] at h1
 have hst:=run_storeCells_cells (P:=Tryz.prog) g (i * 8) (Builtin.zeroCells z.cells (n - i)).toList 0 w (by rw [h1]; intro j hj; rw [Nat.add_zero]; exact hc j hj) (fun j _=>hf _) h2
 simp only [Nat.add_zero] at hst
 refine ⟨_,h1,?_⟩
 obtain ⟨m,hm⟩:∃ m,n - i=m + 1:=⟨n - i - 1,by omega⟩
 rw [hm] at hst ⊢
 simp [Builtin.clear_,run_underlying (P:=Tryz.prog) Tryz.underlying26,hv,hst]
set_option maxHeartbeats 1000000 in
set_option maxRecDepth 100000 in
theorem indexFunc_mem (g:Nat) (eg:∀ args w,(callFunc g args).run Tryz.prog w=.ok (.enter g args) w) (v1 v2:Value) (p:MemoryV→Bool) (A:Option Addr) (n c:Nat) (l:List MemoryV) (B:Nat) (K:Nat→Prop) (w:World) (hrow:RowK w B 43 K (.slice A n c) l) (hln:l.length=n) (hn:n≤1000)
 (hp:∀ (W:World) (x:MemoryV) (A1:Option Addr) (n1 c1:Nat) (A2:Option Addr) (n2 c2:Nat) (A3:Option Addr) (n3 c3:Nat),Below w.heap.size w W→x∈l →
   Calls Tryz.prog g #[memVal x A1 n1 c1 A2 n2 c2 A3 n3 c3,v1,v2] W fun e w'=>e=.returned (.bool (p x))∧Below W.heap.size W w') :
 Calls Tryz.prog 80 #[.slice A n c,.func (.func g) #[] #[v1,v2]] w fun e w' =>
  (e=.returned (.int .i64 (-1))∧l.any p=false∨∃ (k:Nat) (x:MemoryV),e=.returned (.int .i64 (k:Int))∧l[k]?=some x∧p x=true∧(l.take k).any p=false)∧Below w.heap.size w w':=by
 have hm:n≤9223372036854775807:=by omega
 have HL:=Lib.hid hln; clear hln
 have HP:=Lib.hid hp; clear hp
 unfold memVal at HP
 go_enter Tryz.func80,Tryz.ntmps80
 go_wp2
 go_loopw [8] (fun i wx=>∃ k:Nat,k≤n∧i=.int .i64 k∧(l.take k).any p=false∧Below w.heap.size w wx) (fun i _=>n - (intOf i).toNat)
 case atStart=>exact ⟨0,Nat.zero_le _,rfl,rfl,Below.refl _ _⟩
 case round =>
  obtain ⟨k,hk,rfl,hall,hbel⟩:=hrel
  have H:=Lib.hid hall; clear hall
  by_cases hlt:k < n
  ·have hkI:(k:Int) < (n:Int):=by omega
   obtain ⟨gg,rfl,_,_⟩:=hrow.base (by omega)
   obtain ⟨x,hx⟩:=at_lt (l:=l) (k:=k) (by rw [HL.out]; exact hlt)
   obtain ⟨r,hr,hc⟩:=(hrow.call hbel).elem hx
   obtain ⟨A1,n1,c1,A2,n2,c2,A3,n3,c3,rfl,hr'⟩:=hr
   have q0:wr.cell? ⟨gg,k * 8,none⟩=some (.string x.name):=hc 0 _ rfl
   have q1:wr.cell? ⟨gg,k * 8 + 1,none⟩=some (.string x.action):=hc 1 _ rfl
   have q2:wr.cell? ⟨gg,k * 8 + 2,none⟩=some (.slice A1 n1 c1):=hc 2 _ rfl
   have q3:wr.cell? ⟨gg,k * 8 + 3,none⟩=some (.int .i64 x.result.code):=hc 3 _ rfl
   have q4:wr.cell? ⟨gg,k * 8 + 4,none⟩=some (.string x.result.text):=hc 4 _ rfl
   have q5:wr.cell? ⟨gg,k * 8 + 5,none⟩=some (.slice A2 n2 c2):=hc 5 _ rfl
   have q6:wr.cell? ⟨gg,k * 8 + 6,none⟩=some (.slice A3 n3 c3):=hc 6 _ rfl
   have q7:wr.cell? ⟨gg,k * 8 + 7,none⟩=some (.int .i64 x.result.command):=hc 7 _ rfl
   have HX:=Lib.hid hx
   have HC:=Lib.hid (HP.out wr x A1 n1 c1 A2 n2 c2 A3 n3 c3 hbel (List.mem_of_getElem? hx))
   clear hx hc hr'
   cases hq:p x
   ·have HS:=Lib.hid (any_step (p:=p) HX.out H.out hq)
    go_wp2_with fail
    refine HC.out.mono ?_
    rintro e w1 ⟨rfl,hb1⟩
    rw [hq]
    have hb2:=fr_call hbel hb1
    go_wp2
    go_roundw
    case rel=>exact ⟨k + 1,by omega,by go_num,HS.out,hb2⟩
    case measure=>simp [intOf]; omega
   ·have HQ:=Lib.hid hq
    go_wp2_with fail
    refine HC.out.mono ?_
    rintro e w1 ⟨rfl,hb1⟩
    rw [hq]
    go_wp2
    go_ret
    exact ⟨.inr ⟨k,x,rfl,HX.out,HQ.out,H.out⟩,fr_call hbel hb1⟩
  ·have HS:=Lib.hid (any_end (by rw [HL.out]; omega) H.out)
   go_wp2
   go_ret
   exact ⟨.inl ⟨rfl,HS.out⟩,hbel⟩
theorem filter_all {l:List MemoryV} {p:MemoryV→Bool} (h:l.any p=false):(l.filter fun x=>!p x)=l:=by
 rw [List.filter_eq_self]
 intro x hx
 have:=List.any_eq_false.1 h x hx
 simpa using this
theorem drop_atM {l L:List MemoryV} {j:Nat} {x:MemoryV} (h:L.drop j=l.drop j) (hx:l[j]?=some x):L[j]?=some x:=by
 have h1:(L.drop j)[0]?=(l.drop j)[0]?:=by rw [h]
 rw [List.getElem?_drop,List.getElem?_drop,Nat.add_zero] at h1
 rw [h1,hx]
theorem drop_next {l L:List MemoryV} {j:Nat} (h:L.drop j=l.drop j):L.drop (j + 1)=l.drop (j + 1):=by
 rw [←List.drop_drop,←List.drop_drop,h]
theorem strike_keep {l L:List MemoryV} {p:MemoryV→Bool} {i j:Nat} {x:MemoryV} (hij:i < j) (hl:i < L.length) (h1:L.take i=(l.take j).filter fun x=>!p x) (h2:L.drop j=l.drop j) (hx:l[j]?=some x) (hp:p x=false) :
 (L.set i x).take (i + 1)=(l.take (j + 1)).filter (fun x=>!p x)∧(L.set i x).drop (j + 1)=l.drop (j + 1):=by
 refine ⟨?_,?_⟩
 ·rw [List.take_add_one,List.getElem?_set_self hl,List.take_set_of_le (Nat.le_refl i),h1,filter_take (p:=fun x=>!p x) hx,hp]
  rfl
 ·rw [List.drop_set_of_lt (by omega)]
  exact drop_next h2
theorem strike_skip {l L:List MemoryV} {p:MemoryV→Bool} {i j:Nat} {x:MemoryV} (h1:L.take i=(l.take j).filter fun x=>!p x) (hx:l[j]?=some x) (hp:p x=true):L.take i=(l.take (j + 1)).filter fun x=>!p x:=by
 rw [filter_take (p:=fun x=>!p x) hx,hp,h1]
 simp
theorem strike_start {l:List MemoryV} {p:MemoryV→Bool} {k:Nat} {x:MemoryV} (h:(l.take k).any p=false) (hx:l[k]?=some x) (hp:p x=true):l.take k=(l.take (k + 1)).filter fun x=>!p x :=
 strike_skip (filter_all h).symm hx hp
end Go.Proofs.Sm
