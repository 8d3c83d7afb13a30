/- After a change a rule need not run if none of its sources changed, and all that it needs is as before, or Early: the given statement, for all arguments; no condition. -/
import Derived.Test.YtaabdbephemboaaGreatDoorBx1
import Derived.Test.YtaabdbephemboaaGreatDoorBx2
import Derived.Test.YtaabdbephemboaaGreatDoorBx3
import Derived.Test.YtaabdbephemboaaGreatDoorBx4
import Derived.Test.YtaabdbephemboaaGreatDoorBx5
import Derived.Test.YtaabdbephemboaaGreatDoorBx6
import Derived.Test.YtaabdbephemboaaGreatDoorBx7
import Derived.Test.YtaabdbephemboaaGreatDoorBx8
import Derived.Test.YtaabdbephemboaaGreatDoorBx9
import Derived.Test.YtaabdbephemboaaGreatDoorBx10
import Derived.Test.YtaabdbephemboaaGreatDoorBx11
import Derived.Test.YtaabdbephemboaaGreatDoorBx12
import Derived.Test.YtaabdbephemboaaGreatDoorBx13
import Derived.Test.YtaabdbephemboaaGreatDoorBx14
import Derived.Test.YtaabdbephemboaaGreatDoorBx15
import Derived.Test.YtaabdbephemboaaGreatDoorBx16
import Derived.Test.YtaabdbephemboaaGreatDoorBx17
import Derived.Test.YtaabdbephemboaaGreatDoorBx18
import Derived.Test.YtaabdbephemboaaGreatDoorBx19
import Derived.Test.YtaabdbephemboaaGreatDoorBx20
import Derived.Test.YtaabdbephemboaaGreatDoorBx21
import Derived.Test.YtaabdbephemboaaGreatDoorBx22
import Derived.Test.YtaabdbephemboaaGreatDoorBx23
import Derived.Test.YtaabdbephemboaaGreatDoorBx24
import Derived.Test.YtaabdbephemboaaGreatDoorBx25
import Derived.Test.YtaabdbephemboaaGreatDoorBx26
import Derived.Test.YtaabdbephemboaaGreatDoorBx27
import Derived.Test.YtaabdbephemboaaGreatDoorBx28
import Derived.Test.YtaabdbephemboaaGreatDoorBx29
import Derived.Test.YtaabdbephemboaaGreatDoorBx30
import Derived.Test.YtaabdbephemboaaGreatDoorBx31
import Derived.Test.YtaabdbephemboaaGreatDoorBx32
import Derived.Test.YtaabdbephemboaaGreatDoorBx33
import Derived.Test.YtaabdbephemboaaGreatDoorBx34
import Derived.Test.YtaabdbephemboaaGreatDoorBx35
import Derived.Test.YtaabdbephemboaaGreatDoorBx36
import Derived.StillTailTactics
import Derived.Deep.RegionHeld3
import Derived.WalkSpells
import Derived.StillTactics
import Derived.Laws.Pointers
namespace Go.Proofs.Sm
open Go.RowKit
def edgesAt (l:List RuleV) (i:Nat):List VarV:=(needAt (needsS l) i).map fun k=>⟨nameAt l i,nameAt l k⟩
def edgesTo (l:List RuleV) (i:Nat):List VarV:=(List.range i).flatMap (edgesAt l)
def edgesS (l:List RuleV):List VarV:=edgesTo l l.length
theorem edgesTo_succ (l:List RuleV) (i:Nat):edgesTo l (i + 1)=edgesTo l i ++ edgesAt l i:=by
 rw [edgesTo,List.range_succ,List.flatMap_append]; simp [edgesTo]
theorem edgesAt_length (l:List RuleV) (i:Nat):(edgesAt l i).length=(needAt (needsS l) i).length:=by simp [edgesAt]
theorem edgesAt_more {l:List RuleV} {i t k:Nat} {x y:RuleV} (h:(needAt (needsS l) i)[t]?=some k) (hx:l[i]?=some x) (hy:l[k]?=some y) :
 (edgesAt l i).take (t + 1)=(edgesAt l i).take t ++ [⟨x.name,y.name⟩]:=by
 rw [List.take_add_one,edgesAt,List.getElem?_map,h,←nameAt_some hx,←nameAt_some hy]; rfl
theorem edgesAt_full {l:List RuleV} {i t:Nat} (h:(needAt (needsS l) i).length≤t):(edgesAt l i).take t=edgesAt l i:=List.take_of_length_le (by rw [edgesAt_length]; exact h)
end Go.Proofs.Sm
namespace Go.Proofs.Sm
open Go.RowKit
theorem stands_from {l:List Look} {F:List FileV} (hc:checkLooksS l=0) (hF:checkFilesS F=0) (h:l.map (fun y=>lookAtS F y.path)=l):looksOfErr l F=0∧sameLooksS l (looksOfS l F)=true:=by
 have e:looksOfErr l F=0:=by rw [looksOfErr,if_neg (by rw [hc]; simp),hF]
 refine ⟨e,sameLooksS_iff.2 ?_⟩
 rw [looksOfS,if_pos e,looksAtS,h]
theorem stands_exec {a:ActionV} {F:List FileV} (h:bothErr a F=0):looksOfErr (execS a F).looks F=0∧sameLooksS (execS a F).looks (looksOfS (execS a F).looks F)=true :=
 stands_from (exec_right h).1.right (exec_right h).2.2 (exec_right h).1.stand
end Go.Proofs.Sm
namespace Go.Proofs.Sm
open Go.RowKit
theorem findM_same (l:List MemoryV) (r:RuleV) (x:ResultV):findM (putM l (memOf r x)) r.name=some (memOf r x):=by
 rw [findM_put]; exact if_pos rfl
theorem findM_other {l:List MemoryV} {r:RuleV} {x:ResultV} {n:ByteArray} (h:¬ n.toList=r.name.toList):findM (putM l (memOf r x)) n=findM l n:=by
 rw [findM_put]; exact if_neg h
section
variable {l:List RuleV} {mem:List MemoryV} {k:Nat} {ks:List Nat} {s:BSt} {r:RuleV}
theorem execOut_cases (r:RuleV) (F:List FileV) (m:Option MemoryV):(bothErr r.action F≠0∧execOut r F m=⟨0,false,none,bothErr r.action F⟩)∨(bothErr r.action F=0∧(execS r.action F).code≠0∧execOut r F m=⟨3,false,none,0⟩) ∨
 (bothErr r.action F=0∧(execS r.action F).code=0∧execOut r F m=⟨1,m.any fun y=>sameFsS y.result.files (execS r.action F).files,some (execS r.action F),0⟩):=by
 unfold execOut
 by_cases h:bothErr r.action F=0
 ·rw [if_neg (by simpa using h)]
  by_cases h1:(execS r.action F).code=0
  ·rw [if_neg (by simpa using h1)]; exact .inr (.inr ⟨h,h1,rfl⟩)
  ·rw [if_pos h1]; exact .inr (.inl ⟨h,h1,rfl⟩)
 ·rw [if_pos h]; exact .inl ⟨h,rfl⟩
theorem outS_none {g:Graph} (h:findM mem r.name=none):outS g mem r k s=if (needAt g k).any (isOf s.bad) then ⟨4,false,none,0⟩ else execOut r (inputsS s.have_ r) none:=by
 unfold outS
 rw [h]
theorem outS_some {g:Graph} {m:MemoryV} (h:findM mem r.name=some m):outS g mem r k s=if (needAt g k).any (isOf s.bad) then ⟨4,false,none,0⟩ else if memStands r m (inputsS s.have_ r) then ⟨2,false,some m.result,0⟩ else execOut r (inputsS s.have_ r) (some m):=by
 unfold outS
 rw [h]
theorem mem_stands {F:List FileV} (h:bothErr r.action F=0):memStands r (memOf r (execS r.action F)) F=true:=by
 obtain ⟨h1,h2⟩:=stands_exec h
 unfold memStands memOf
 rw [h1,h2]
 simp
end
def NamesOff (l:List RuleV) (ks:List Nat) (n:ByteArray):Prop:=∀ k∈ks,∀ r,l[k]?=some r→¬ r.name.toList=n.toList
theorem kept_stay {l:List RuleV} {mem:List MemoryV} {n:ByteArray}:∀ {ks:List Nat} {s:BSt},NamesOff l ks n→findM (stepsS l mem ks s).2.kept n=findM s.kept n
 | [],_,_=>rfl
 | k :: ks,s,h=>by
   have h':NamesOff l ks n:=fun j hj=>h j (List.mem_cons_of_mem _ hj)
   cases hr:l[k]? with
   | none=>rw [stepsS,hr]; exact kept_stay h'
   | some r =>
     by_cases hf:(outS (needsS l) mem r k s).fault=0
     ·rw [steps_go hr hf,kept_stay h']
      unfold takeS
      cases (outS (needsS l) mem r k s).res with
      | none=>rfl
      | some x =>
        show findM (putM s.kept (memOf r x)) n=_
        exact findM_other fun e=>h k (List.mem_cons_self ..) r hr e.symm
     ·rw [steps_stop hr hf]
def againStep (t:StepV):StepV:=if t.what=1 then ⟨t.name,2,false⟩ else t
end Go.Proofs.Sm
namespace Go.Proofs.Sm
open Go.RowKit
theorem find_first {α:Type} {l:List α} {p:α→Bool} {k:Nat} {x:α} (h:(l.take k).any p=false) (hx:l[k]?=some x) (hp:p x=true):l.find? p=some x:=by
 have e:l=l.take k ++ x :: l.drop (k + 1):=by rw [←drop_at hx,List.take_append_drop]
 have h1:(l.take k).find? p=none:=by
  rw [List.find?_eq_none]
  intro y hy
  exact List.any_eq_false.1 h y hy
 rw [e,List.find?_append,List.find?_cons,hp,h1]
 rfl
theorem find_nowhere {α:Type} {l:List α} {p:α→Bool} (h:l.any p=false):l.find? p=none:=by
 rw [List.find?_eq_none]
 intro y hy
 exact List.any_eq_false.1 h y hy
def IdxPost (p:FileV→Bool) (l:List FileV) (w:World) (e:Ending) (w':World):Prop :=
 (e=.returned (.int .i64 (-1))∧l.find? p=none∨∃ (k:Nat) (x:FileV),e=.returned (.int .i64 (k:Int))∧l[k]?=some x∧l.find? p=some x)∧Below w.heap.size w w'
end Go.Proofs.Sm
namespace Go.Proofs.Sm
open Go.RowKit
theorem edge_info:(Tryz.prog.info? 63).map (fun i=>(i.zero,i.size,i.bytes))=some (some (.agg #[.string ⟨#[]⟩,.string ⟨#[]⟩]),2,32):=by kernel_rfl
def edgeCells (x:VarV):List Value:=[.string x.name,.string x.value]
theorem oneCell_edge (x:VarV):∀ u∈edgeCells x,u.oneCell'=true:=by
 intro u hu
 simp only [edgeCells,List.mem_cons,List.not_mem_nil,or_false] at hu
 rcases hu with rfl | rfl <;> rfl
theorem edgesTo_len {l:List RuleV} (hl:l.length≤500):∀ i,(edgesTo l i).length≤i * 500
 | 0=>by simp [edgesTo]
 | i + 1=>by
   have h1:=edgesTo_len hl i
   have h2:=needAt_len l i
   rw [edgesTo_succ,List.length_append,edgesAt_length,Nat.succ_mul]
   omega
end Go.Proofs.Sm
namespace Go.Proofs.Sm
open Go.RowKit
set_option maxHeartbeats 2000000 in
set_option maxRecDepth 100000 in
theorem steps_Edges (A:Option Addr) (n c:Nat) (l:List RuleV) (w:World) (hE:Env w) (hsl:Sl w (Lt w.heap.size) A n l) :
 Calls Tryz.prog 18 #[.slice A n c] w fun e w'=>∃ v,e=.returned (.tuple #[v,.int .i64 (checkRulesS l)])∧(checkRulesS l≠0→v=.slice none 0 0) ∧
  (checkRulesS l=0→∃ q,w.heap.size≤q∧w'.ownsRow q 63 2 v (edgesS l).length ((edgesS l).flatMap edgeCells))∧Below w.heap.size w w':=by
 obtain ⟨i0,hi0,hz0,hz1,hz2⟩:=info_parts edge_info
 have hm:n≤9223372036854775807:=hsl.2.1
 have hng:l.length=n:=hsl.1
 go_enter Tryz.func18,Tryz.ntmps18
 go_wp2_with fail
 refine (steps_open A n c l w hE hsl).mono ?_
 rintro e w2 ⟨vp,rfl,hbad,hgood,hb3⟩
 by_cases h0:checkRulesS l=0
 ·have hn5:n≤500:=by
   have h0:=h0
   unfold checkRulesS at h0
   split at h0
   ·cases h0
   ·omega
  obtain ⟨g,rfl,hpl⟩:=hgood h0
  clear hbad
  have H0:=Lib.hid h0
  rw [h0]
  clear h0 hgood
  have hs2:=sl_call hsl hb3 (Nat.le_refl _)
  obtain ⟨_,m,nn,D,d,hP,_,hd1,hd2,hnd⟩:=hpl
  have p2:=hP.cell (i:=2) rfl
  go_wp2
  go_loopw [6,24] (fun v i wr=>∃ a:Nat,a≤n∧i=.int .i64 a∧wr.ownsRow w2.heap.size 63 2 v (edgesTo l a).length ((edgesTo l a).flatMap edgeCells)∧Below w2.heap.size w2 wr) (fun _ i _=>n - (intOf i).toNat)
  case atStart=>exact ⟨0,Nat.zero_le _,rfl,World.ownsRow_nil _ _ _ _,Below.refl _ _⟩
  case round =>
   clear p2
   obtain ⟨a,ha,rfl,hown,hbel⟩:=hrel
   by_cases hla:a < n
   ·have haI:(a:Int) < (n:Int):=by omega
    obtain ⟨b,o,r,A',n',c',rfl,hbl,hr,hn',hc',hrow,cr⟩:=(hnd.keep (keep_lt hbel)).row hla
    have hR:=Lib.hid (need_row hr)
    have HRL:=Lib.hid (show n'=(needAt (needsS l) a).length by rw [hR.out]; exact hrow.1.symm)
    have hnlt:n'≤l.length:=by rw [HRL.out]; exact needAt_len l a
    have hm':n'≤9223372036854775807:=hrow.2.1
    have hel:=edgesTo_len (l:=l) (by omega) a
    have hrow2:=Lib.hid (fun (W:World) (hW:Below w2.heap.size w2 W)=>hrow.keep (w':=W) (fun k (hk:k < w2.heap.size)=>(hW.block k hk).trans (hbel.block k hk).symm))
    clear hr
    go_wp2
    go_loopw [6,31] (fun v i wx=>∃ t:Nat,t≤n'∧i=.int .i64 t∧wx.ownsRow w2.heap.size 63 2 v ((edgesTo l a).length + t) ((edgesTo l a ++ (edgesAt l a).take t).flatMap edgeCells)∧Below w2.heap.size w2 wx) (fun _ i _=>n' - (intOf i).toNat)
    case atStart=>exact ⟨0,Nat.zero_le _,rfl,by simpa using hown,hbel⟩
    case round =>
     clear hown hbel cr hrow
     obtain ⟨t,ht,rfl,hown,hbel⟩:=hrel
     by_cases hlt:t < n'
     ·obtain ⟨b3,o3,k,rfl,hb3',hk,hkm,ck⟩:=(hrow2.out _ hbel).nat (k:=t) hlt
      rw [←hR.out] at hk
      have hkn:k < n:=by have:=needs_within l a k (List.mem_of_getElem? hk); rwa [needsS_length,hng] at this
      obtain ⟨b4,o4,x,e4,hb4,hx,hxs,cx⟩:=(hs2.keep (keep_lt hbel)).ruleName hla
      have hbx:b4 < w2.heap.size:=hb4
      obtain ⟨b5,o5,y,e5,_,hy,hys,cy⟩:=(hs2.keep (keep_lt hbel)).ruleName hkn
      cases e4
      cases e5
      have HS:=Lib.hid (show (edgesTo l a ++ (edgesAt l a).take t).flatMap edgeCells ++ edgeCells ⟨x.name,y.name⟩=(edgesTo l a ++ (edgesAt l a).take (t + 1)).flatMap edgeCells by rw [edgesAt_more hk hx hy]; simp)
      have htI:(t:Int) < (n':Int):=by omega
      have hkI:(k:Int) < (n:Int):=by omega
      have lg:=World.block_lt_of_cell? wr _ cx
      have g0a:(0:Int)≤(a:Int):=Int.natCast_nonneg _
      have g0k:(0:Int)≤(k:Int):=Int.natCast_nonneg _
      obtain ⟨ov,hov⟩:∃ ov,ov=u6:=⟨_,rfl⟩
      rw [←hov] at hown ⊢
      have ag:ov.ownBlock≠some b4:=fun e=>by have:=(hown.lt b4 e).1; omega
      have hz:=hbel.size
      have hmx:(edgesTo l a).length + t + 1≤maxLen:=by unfold maxLen; omega
      have hby:((edgesTo l a).length + t + 1) * 32≤140737488355328:=by omega
      have HB:=Lib.hid hbel
      clear hbel hk hx hy hov
      go_wp2_with fail
      go_region_held3 (fun w'=>w'.cell? ⟨b4,o4 + a * 8,none⟩=some (.string x.name)∧w'.cell? ⟨b4,o4 + k * 8,none⟩=some (.string y.name))
       (first
         | go_keep
         | (go_split_ands
            refine ⟨?_,?_⟩
            ·(rw [hgrow.cell_far _ (by simp; omega) (Ne.symm ag)]; assumption)
            ·(rw [hgrow.cell_far _ (by simp; omega) (Ne.symm ag)]; assumption)))
       ((refine step_append_lies _ (by rfl) _ _ _ (by rfl) w2.heap.size 63 i0 _ 2 32 Tryz.underlying51 hi0 hz0 hz1 hz2 rfl (by omega) ov ((edgesTo l a).length + t) _ (by rfl) ((hown.alloc _).drew)
          ⟨wr.heap.size,0,none⟩ 1 1 (edgeCells ⟨x.name,y.name⟩) (by rfl) (by rfl) (World.news_of_block (cs:=#[.string x.name,.string y.name]) (t:=63) (fr:=(0,0)) (heap_alloc_new wr _)) (oneCell_edge _)
          (by omega) hmx hby (by simp; omega) (wr.heap.size + 1) (by simp) ?_; intro gg cap w5 hown5 hgrow hat hlt))
      all_goals
       rw [HS.out] at hown5
       have hbel5:=((fr_alloc HB.out _).drew).grown hgrow (by simp; omega) (fun j hj=>(hown.lt j hj).1)
       go_wp2
       go_roundw
       case rel=>exact ⟨t + 1,by omega,by go_num,hown5,hbel5⟩
       case measure=>simp [intOf]; omega
     ·have he:(edgesTo l a).length + t=(edgesTo l (a + 1)).length:=by rw [edgesTo_succ,List.length_append,edgesAt_length,←HRL.out]; omega
      rw [edgesAt_full (by rw [←HRL.out]; omega),←edgesTo_succ,he] at hown
      have HO:=Lib.hid hown
      clear hown he
      go_wp2
      go_roundw
      case rel=>exact ⟨a + 1,by omega,by go_num,HO.out,hbel⟩
      case measure=>simp [intOf]; omega
   ·have:a=n:=by omega
    subst this
    have HV:=Lib.hid hown
    go_wp2
    go_ret2
    refine ⟨_,by rw [H0.out]; rfl,fun h=>absurd H0.out h,fun _=>⟨w2.heap.size,hb3.size,?_⟩,hb3.trans (hbel.mono hb3.size)⟩
    rw [edgesS,hng]
    exact HV.out
 ·have hne:(checkRulesS l == 0)=false:=by rw [beq_eq_false_iff_ne]; exact h0
  have H0:=Lib.hid h0
  obtain rfl:=hbad h0
  clear h0 hbad hgood
  go_wp2
  go_ret2
  exact ⟨_,rfl,fun _=>rfl,fun h=>absurd h H0.out,hb3⟩
end Go.Proofs.Sm
namespace Go.Proofs.Sm
open Go.RowKit
theorem names_le {w:World} {S:Nat→Prop} {A:Option Addr} {n:Nat} {l:List RuleV} (h:Sl w S A n l) (k:Nat):(nameAt l k).size≤maxLen:=by
 unfold nameAt
 cases hx:l[k]? with
 | none=>simp; unfold maxLen; decide
 | some x =>
   obtain ⟨_,_,y,_,_,hy,hs,_⟩:=h.ruleName (k:=k) (by rw [←h.1]; exact (List.getElem?_eq_some_iff.1 hx).1)
   rw [hx] at hy
   obtain rfl:=Option.some.inj hy
   exact hs
theorem edges_sizes {l:List RuleV} (h:∀ k,(nameAt l k).size≤maxLen):∀ x∈edgesS l,x.name.size≤maxLen∧x.value.size≤maxLen:=by
 intro x hx
 rw [edgesS,edgesTo,List.mem_flatMap] at hx
 obtain ⟨i,_,hx⟩:=hx
 rw [edgesAt,List.mem_map] at hx
 obtain ⟨k,_,rfl⟩:=hx
 exact ⟨h i,h k⟩
theorem edges_sl {w:World} {q:Nat} {v:Value} {l:List VarV} (hs:∀ x∈l,x.name.size≤maxLen∧x.value.size≤maxLen) (h:w.ownsRow q 63 2 v l.length (l.flatMap edgeCells)):∃ A c,v=.slice A l.length c∧Sl w (Lt w.heap.size) A l.length l:=by
 obtain ⟨A,c,h1,_,_,h2⟩:=Sl.of_own (α:=VarV) (cells:=edgeCells) (fun _=>rfl) (fun x hx=>⟨rfl,(hs x hx).1,(hs x hx).2⟩) h
 exact ⟨A,c,h1,h2⟩
end Go.Proofs.Sm
namespace Go.Proofs.Sm
open Go.RowKit
theorem list_eq {x y:ByteArray} (h:x.toList=y.toList):x=y:=bytes_eq (by rw [←Lib.toList_data,←Lib.toList_data]; exact h)
theorem any_eqS {l:List ByteArray} {s:ByteArray}:l.any (eqS s)=true↔s∈l:=by
 rw [List.any_eq_true]
 constructor
 ·rintro ⟨x,hx,he⟩
  rw [eqS,beq_iff_eq] at he
  rw [←list_eq he]; exact hx
 ·intro h
  exact ⟨s,h,by rw [eqS,beq_iff_eq]⟩
end Go.Proofs.Sm
namespace Go.Proofs.Sm
open Go.RowKit
def KeptRight (l:List RuleV) (order:List Nat) (kept:List MemoryV):Prop :=
 ByPath MemoryV.name kept∧∀ y∈kept,∃ k r F,k∈order∧l[k]?=some r∧bothErr r.action F=0∧(execS r.action F).code=0∧y=memOf r (execS r.action F)
theorem steps_kept {l:List RuleV} {O:List Nat}:∀ {ks:List Nat} {s:BSt},(∀ k∈ks,k∈O)→KeptRight l O s.kept→KeptRight l O (stepsS l [] ks s).2.kept
 | [],_,_,h=>h
 | k :: ks,s,hO,h=>by
   cases hr:l[k]? with
   | none=>rw [stepsS,hr]; exact steps_kept (fun j hj=>hO j (List.mem_cons_of_mem _ hj)) h
   | some r =>
     by_cases hf:(outS (needsS l) [] r k s).fault=0
     ·rw [steps_go hr hf]
      refine steps_kept (fun j hj=>hO j (List.mem_cons_of_mem _ hj)) ?_
      have hout:=outS_none (g:=needsS l) (mem:=[]) (r:=r) (k:=k) (s:=s) rfl
      unfold takeS
      by_cases hd:(needAt (needsS l) k).any (isOf s.bad)=true
      ·rw [if_pos hd] at hout
       rw [hout]; exact h
      ·rw [if_neg hd] at hout
       rcases execOut_cases r (inputsS s.have_ r) none with ⟨hb,he⟩ | ⟨hb,hc,he⟩ | ⟨hb,hc,he⟩
       ·rw [hout,he]; exact h
       ·rw [hout,he]; exact h
       ·rw [hout,he]
        refine ⟨byPath_put (key:=MemoryV.name) h.1 _,fun y hy=>?_⟩
        rcases put_mem_by hy with hy | rfl
        ·exact h.2 y hy
        ·exact ⟨k,r,_,hO k (List.mem_cons_self ..),hr,hb,hc,rfl⟩
     ·rw [steps_stop hr hf]; exact h
theorem memOf_right {l:List RuleV} (hl:RulesOk l) {k:Nat} {r:RuleV} {F:List FileV} (hr:l[k]?=some r) (hb:bothErr r.action F=0) (hc:(execS r.action F).code=0):checkMemS (memOf r (execS r.action F))=0:=by
 obtain ⟨h1,h2,_⟩:=exec_right hb
 have hp:=(checkRule_parts (hl.at hr)).1
 have hd:=digest_right (actTextL r.action)
 unfold checkMemS memOf
 simp only
 rw [hp,hd,h1.right,h2.right,hc,sameLooksS_iff.2 rfl]
 rfl
theorem runB_nil (l:List RuleV) (files:List FileV) (order:List Nat):runB l files [] order=stepsS l [] order ⟨files,List.replicate l.length false,[],[]⟩:=rfl
theorem fresh_memory {l:List RuleV} {files:List FileV} {wanted:List ByteArray} {order:List Nat} (h:buildErr l files wanted [] order=0) :
 checkMemoryS (runB l files [] order).2.kept=0∧servesS l (runB l files [] order).2.kept=(runB l files [] order).2.kept∧startB l files (runB l files [] order).2.kept order=⟨files,List.replicate l.length false,[],[]⟩:=by
 obtain ⟨h1,_,h3⟩:=buildErr_parts h
 obtain ⟨hl,hb⟩:=rules_parts_by (planErr_rules (buildErr0_parts h1).1)
 have hk:KeptRight l order (runB l files [] order).2.kept:=by
  rw [runB_nil]
  exact steps_kept (fun k hk=>hk) ⟨List.Pairwise.nil,fun y hy=>absurd hy (List.not_mem_nil)⟩
 refine ⟨memory_fine (endErr_few h3).2 hk.1 fun y hy=>?_,?_,?_⟩
 ·obtain ⟨k,r,F,_,hr,hbo,hc,rfl⟩:=hk.2 y hy
  exact memOf_right hl hr hbo hc
 ·unfold servesS
  rw [List.filter_eq_self]
  intro y hy
  obtain ⟨k,r,F,_,hr,hbo,hc,rfl⟩:=hk.2 y hy
  have hi:idxName l (memOf r (execS r.action F)).name=some k:=idxName_own hb hr rfl
  unfold servesP
  rw [hi]
  simp only [hr,Option.any_some]
  exact decide_eq_true ((exec_right hbo).2.1.good hc)
 ·unfold startB
  congr 1
  rw [List.filter_eq_nil_iff]
  intro y hy
  obtain ⟨k,r,F,hko,hr,hbo,hc,rfl⟩:=hk.2 y hy
  have:(order.any fun k=>(nameAt l k).toList == (memOf r (execS r.action F)).name.toList)=true:=List.any_eq_true.2 ⟨k,hko,by rw [nameAt_of hr]; simp [memOf]⟩
  rw [this]; decide
end Go.Proofs.Sm
namespace Go.Proofs.Sm
open Go.RowKit
def findF (h:List FileV) (p:ByteArray):Option FileV:=h.find? (eqp p)
theorem findF_by (h:List FileV) (p:ByteArray):findF h p=findBy FileV.path h p.data.toList:=by
 unfold findF findBy
 congr 1
 funext y
 rw [eqp,data_beq]
theorem findF_put (h:List FileV) (x:FileV) (p:ByteArray):findF (putFileS h x) p=if p.toList=x.path.toList then some x else findF h p:=by
 rw [findF_by,findF_by,putFile_by,find_put]
 simp only [ByteArray.toList_eq]
theorem findF_congr {h:List FileV} {p q:ByteArray} (e:p.toList=q.toList):findF h p=findF h q:=by
 unfold findF
 congr 1
 funext y
 unfold eqp
 rw [e]
theorem fold_same {p:ByteArray}:∀ {fs h h':List FileV},(findF h p=findF h' p∨∃ x∈fs,x.path.toList=p.toList)→findF (fs.foldl putFileS h) p=findF (fs.foldl putFileS h') p
 | [],_,_,e=>by
   rcases e with e | ⟨x,hx,_⟩
   ·exact e
   ·exact absurd hx List.not_mem_nil
 | x :: fs,h,h',e=>by
   rw [List.foldl_cons,List.foldl_cons]
   refine fold_same ?_
   rw [findF_put,findF_put]
   by_cases hx:p.toList=x.path.toList
   ·left; rw [if_pos hx,if_pos hx]
   ·rw [if_neg hx,if_neg hx]
    rcases e with e | ⟨y,hy,he⟩
    ·exact .inl e
    ·rcases List.mem_cons.1 hy with rfl | hy
     ·exact absurd he.symm hx
     ·exact .inr ⟨y,hy,he⟩
theorem fold_off {p:ByteArray}:∀ {fs h:List FileV},(∀ x∈fs,¬ x.path.toList=p.toList)→findF (fs.foldl putFileS h) p=findF h p
 | [],_,_=>rfl
 | x :: fs,h,e=>by
   rw [List.foldl_cons,fold_off fun y hy=>e y (List.mem_cons_of_mem _ hy),findF_put,if_neg fun hx=>e x (List.mem_cons_self ..) hx.symm]
theorem inputs_same {h h':List FileV} {r:RuleV} (e:∀ p∈r.inputs,findF h p=findF h' p):inputsS h r=inputsS h' r:=by
 unfold inputsS
 generalize r.inputs=l at e
 induction l with
 | nil=>rfl
 | cons p l ih => 
   have e1:h.find? (eqp p)=h'.find? (eqp p):=e p (List.mem_cons_self ..)
   rw [List.filterMap_cons,List.filterMap_cons,e1,ih fun q hq=>e q (List.mem_cons_of_mem _ hq)]
theorem findF_some {h:List FileV} {p:ByteArray} {x:FileV} (e:findF h p=some x):x∈h∧x.path.toList=p.toList:=by
 unfold findF at e
 exact ⟨List.mem_of_find?_eq_some e,by simpa [eqp] using List.find?_some e⟩
theorem findF_none {h:List FileV} {p:ByteArray} (e:findF h p=none):∀ x∈h,¬ x.path.toList=p.toList:=by
 intro x hx
 unfold findF at e
 simpa [eqp] using List.find?_eq_none.1 e x hx
theorem findF_mem {h:List FileV} (hs:ByPath FileV.path h) {x:FileV} (hx:x∈h) {p:ByteArray} (e:x.path.toList=p.toList):findF h p=some x:=by
 rw [findF_by,←ByteArray.toList_eq,←e,ByteArray.toList_eq]
 exact findBy_mem hs x hx
theorem rules_outs {l:List RuleV} (h:checkRulesS l=0):allOutputsErr l=0:=by
 unfold checkRulesS at h
 split at h
 ·contradiction
 split at h
 ·rename_i h2; exact absurd h h2
 split at h
 ·rename_i h2; exact absurd h h2
 ·rename_i h2; exact Classical.not_not.1 h2
theorem outs_lt {l:List RuleV} {k:Nat} {p:ByteArray} (h:p∈outsAt l k):k < l.length:=by
 rcases Nat.lt_or_ge k l.length with hi | hi
 ·exact hi
 ·rw [outsAt,List.getElem?_eq_none hi] at h; simp at h
theorem outs_same {l:List RuleV} (h:checkRulesS l=0) {i k:Nat} {p q:ByteArray} (hp:p∈outsAt l i) (hq:q∈outsAt l k) (he:p.toList=q.toList):i=k :=
 outs_once (rules_outs h) hp hq (by rw [←ByteArray.toList_eq,←ByteArray.toList_eq,he])
theorem needs_of {l:List RuleV} {k j:Nat} {r:RuleV} (hr:l[k]?=some r) {p q:ByteArray} (hp:p∈r.inputs) (hq:q∈outsAt l j) (e:q.toList=p.toList):j∈needAt (needsS l) k:=by
 rw [needs_at (List.getElem?_eq_some_iff.1 hr).1,List.mem_filter,List.mem_range]
 refine ⟨outs_lt hq,?_⟩
 rw [usesS,List.any_eq_true]
 refine ⟨q,hq,?_⟩
 rw [hasB,List.any_eq_true]
 exact ⟨p,by rw [insAt_some hr]; exact hp,by rw [e]; simp⟩
def NoOut (l:List RuleV) (p:ByteArray):Prop:=∀ k,∀ q∈outsAt l k,¬ q.toList=p.toList
def OutOk (r:RuleV) (o:OutV):Prop:=∀ x,o.res=some x→x.files.map FileV.path=r.action.outputs
def MemGood (l:List RuleV) (mem:List MemoryV):Prop:=∀ (k:Nat) (r:RuleV) (m:MemoryV),l[k]?=some r→findM mem r.name=some m→m.result.files.map FileV.path=r.action.outputs
theorem memGood_nil (l:List RuleV):MemGood l []:=fun _ _ _ _ h=>by cases h
theorem memGood_serves {l:List RuleV} (hb:ByPath RuleV.name l) (m:List MemoryV):MemGood l (servesS l m):=fun k r y hr hy=>by
 obtain ⟨h1,h2⟩:=findM_some hy
 have h3:=(List.mem_filter.1 h1).2
 unfold servesP at h3
 rw [idxName_own hb hr h2.symm] at h3
 simp only [hr,Option.any_some] at h3
 exact of_decide_eq_true h3
theorem execOut_ok (r:RuleV) (F:List FileV) (m:Option MemoryV):OutOk r (execOut r F m):=fun x hx=>by
 rcases execOut_cases r F m with ⟨_,he⟩ | ⟨_,_,he⟩ | ⟨hb,hc,he⟩
 ·rw [he] at hx; cases hx
 ·rw [he] at hx; cases hx
 ·rw [he] at hx; cases hx
  exact (exec_right hb).2.1.good hc
theorem outS_ok {l:List RuleV} {g:Graph} {mem:List MemoryV} {r:RuleV} {k:Nat} {s:BSt} (hm:MemGood l mem) (hr:l[k]?=some r):OutOk r (outS g mem r k s):=by
 intro x hx
 unfold outS at hx
 split at hx
 ·cases hx
 split at hx
 ·rename_i m hf
  split at hx
  ·cases hx
   exact hm k r m hr hf
  ·exact execOut_ok _ _ _ x hx
 ·exact execOut_ok _ _ _ x hx
theorem take_off {r:RuleV} {k:Nat} {o:OutV} {s:BSt} {p:ByteArray} (ho:OutOk r o) (hp:∀ q∈r.action.outputs,¬ q.toList=p.toList):findF (takeS r k o s).have_ p=findF s.have_ p:=by
 show findF (o.res.elim s.have_ fun x=>x.files.foldl putFileS s.have_) p=_
 cases h:o.res with
 | none=>rfl
 | some x=>exact fold_off fun y hy e=>hp y.path (by rw [←ho x h]; exact List.mem_map.2 ⟨y,hy,rfl⟩) e
structure Ok1 (l:List RuleV) (files:List FileV) (done:List Nat) (s:BSt):Prop where
 len:s.bad.length=l.length
 off:∀ k,k ∉ done→isOf s.bad k=false
 src:∀ p,NoOut l p→findF s.have_ p=findF files p
 many:s.steps.length=done.length
theorem isOf_set {b:List Bool} {k j:Nat} (h:j≠k):isOf (b.set k true) j=isOf b j:=by
 unfold isOf
 rw [List.getElem?_set_ne fun e=>h e.symm]
theorem isOf_own {b:List Bool} {k:Nat} (h:k < b.length):isOf (b.set k true) k=true:=by
 unfold isOf
 rw [List.getElem?_set_self h]
 rfl
theorem isOf_replicate (n k:Nat):isOf (List.replicate n false) k=false:=by
 unfold isOf
 rw [List.getElem?_replicate]
 split <;> rfl
theorem Ok1.start (l:List RuleV) (files:List FileV) (K:List MemoryV):Ok1 l files [] ⟨files,List.replicate l.length false,[],K⟩ :=
 ⟨List.length_replicate,fun k _=>isOf_replicate _ k,fun _ _=>rfl,rfl⟩
theorem Ok1.take {l:List RuleV} {files:List FileV} {done:List Nat} {s:BSt} {k:Nat} {r:RuleV} {o:OutV} (h:Ok1 l files done s) (hr:l[k]?=some r) (ho:OutOk r o):Ok1 l files (done ++ [k]) (takeS r k o s):=by
 refine ⟨?_,fun j hj=>?_,fun p hp=>?_,?_⟩
 ·show (if o.res.isNone then s.bad.set k true else s.bad).length=_
  split
  ·rw [List.length_set]; exact h.len
  ·exact h.len
 ·have h1:j ∉ done:=fun e=>hj (by simp [e])
  have h2:j≠k:=fun e=>hj (by simp [e])
  show isOf (if o.res.isNone then s.bad.set k true else s.bad) j=false
  split
  ·rw [isOf_set h2]; exact h.off j h1
  ·exact h.off j h1
 ·rw [take_off ho fun q hq=>hp k q (by rw [outsAt_some hr]; exact hq)]
  exact h.src p hp
 ·show (s.steps ++ [_]).length=_
  rw [List.length_append,List.length_append,h.many]; rfl
structure Agree (l:List RuleV) (s t:BSt) (k:Nat):Prop where
 bad:isOf s.bad k=isOf t.bad k
 have_:isOf s.bad k=false→∀ p∈outsAt l k,findF s.have_ p=findF t.have_ p
section
variable {l:List RuleV} {s t:BSt} {k j:Nat} {r:RuleV} {o o':OutV}
theorem isOf_take (h:j≠k):isOf (takeS r k o s).bad j=isOf s.bad j:=by
 show isOf (if o.res.isNone then s.bad.set k true else s.bad) j=_
 split
 ·exact isOf_set h
 ·rfl
theorem Agree.stay (hc:checkRulesS l=0) (h:Agree l s t j) (hjk:j≠k) (hr:l[k]?=some r) (ho:OutOk r o) (ho':OutOk r o'):Agree l (takeS r k o s) (takeS r k o' t) j:=by
 refine ⟨by rw [isOf_take hjk,isOf_take hjk]; exact h.bad,fun hb p hp=>?_⟩
 rw [isOf_take hjk] at hb
 have hoff:∀ q∈r.action.outputs,¬ q.toList=p.toList:=fun q hq e=>hjk (outs_same hc hp (by rw [outsAt_some hr]; exact hq) e.symm)
 rw [take_off ho hoff,take_off ho' hoff]
 exact h.have_ hb p hp
theorem Agree.made (h1:s.bad.length=l.length) (h2:t.bad.length=l.length) (h3:isOf s.bad k=false) (h4:isOf t.bad k=false) (hr:l[k]?=some r) (ho:OutOk r o) (he:o.res.map ResultV.files=o'.res.map ResultV.files):Agree l (takeS r k o s) (takeS r k o' t) k:=by
 have hk:k < l.length:=(List.getElem?_eq_some_iff.1 hr).1
 unfold takeS
 cases hx:o.res with
 | none =>
   rw [hx] at he
   cases hy:o'.res with
   | some y=>rw [hy] at he; cases he
   | none =>
     have e1:isOf (s.bad.set k true) k=true:=isOf_own (by rw [h1]; exact hk)
     have e2:isOf (t.bad.set k true) k=true:=isOf_own (by rw [h2]; exact hk)
     refine ⟨?_,fun hb=>?_⟩
     ·show isOf (s.bad.set k true) k=isOf (t.bad.set k true) k
      rw [e1,e2]
     ·change isOf (s.bad.set k true) k=false at hb
      rw [e1] at hb; cases hb
 | some x =>
   rw [hx] at he
   cases hy:o'.res with
   | none=>rw [hy] at he; cases he
   | some y =>
     rw [hy] at he
     have hf:x.files=y.files:=by simpa using he
     refine ⟨?_,fun _ p hp=>?_⟩
     ·show isOf s.bad k=isOf t.bad k
      rw [h3,h4]
     ·show findF (x.files.foldl putFileS s.have_) p=findF (y.files.foldl putFileS t.have_) p
      rw [←hf]
      refine fold_same (.inr ?_)
      rw [outsAt_some hr,←ho x hx] at hp
      obtain ⟨z,hz,e⟩:=List.mem_map.1 hp
      exact ⟨z,hz,by rw [e]⟩
theorem inputs_agree (hr:l[k]?=some r) (hd:∀ j∈needAt (needsS l) k,Agree l s t j∧isOf s.bad j=false) (hs:∀ p∈r.inputs,NoOut l p→findF s.have_ p=findF t.have_ p):inputsS s.have_ r=inputsS t.have_ r:=by
 refine inputs_same fun p hp=>?_
 by_cases h:∃ j,∃ q∈outsAt l j,q.toList=p.toList
 ·obtain ⟨j,q,hq,e⟩:=h
  obtain ⟨h1,h2⟩:=hd j (needs_of hr hp hq e)
  rw [←findF_congr e,←findF_congr e]
  exact h1.have_ h2 q hq
 ·exact hs p hp fun j q hq e=>h ⟨j,q,hq,e⟩
end
theorem steps_pre {l:List RuleV} {mem:List MemoryV}:∀ (ks:List Nat) (s:BSt),∃ more,(stepsS l mem ks s).2.steps=s.steps ++ more
 | [],s=>⟨[],(List.append_nil _).symm⟩
 | k :: ks,s=>by
   cases hr:l[k]? with
   | none =>
     obtain ⟨m,hm⟩:=steps_pre (l:=l) (mem:=mem) ks s
     exact ⟨m,by rw [stepsS,hr]; exact hm⟩
   | some r =>
     by_cases hf:(outS (needsS l) mem r k s).fault=0
     ·obtain ⟨m,hm⟩:=steps_pre (l:=l) (mem:=mem) ks (takeS r k (outS (needsS l) mem r k s) s)
      refine ⟨[⟨r.name,(outS (needsS l) mem r k s).what,(outS (needsS l) mem r k s).early⟩] ++ m,?_⟩
      rw [steps_go hr hf,hm,←List.append_assoc]
      rfl
     ·exact ⟨[],by rw [steps_stop hr hf]; exact (List.append_nil _).symm⟩
theorem two_at {l:List RuleV} {mem mem':List MemoryV} {order:List Nat} {S T:BSt} {R:List Nat→BSt→BSt→Prop}
 (hstep:∀ (done:List Nat) (k:Nat) (rest:List Nat) (r:RuleV) (s t:BSt),order=done ++ k :: rest→l[k]?=some r→R done s t→(outS (needsS l) mem r k s).fault=0→(outS (needsS l) mem' r k t).fault=0 →
   (stepsS l mem rest (takeS r k (outS (needsS l) mem r k s) s)).2=S→(stepsS l mem' rest (takeS r k (outS (needsS l) mem' r k t) t)).2=T→R (done ++ [k]) (takeS r k (outS (needsS l) mem r k s) s) (takeS r k (outS (needsS l) mem' r k t) t)) :
 ∀ (ks done:List Nat) (s t:BSt),order=done ++ ks→(∀ k∈ks,k < l.length)→R done s t→s.steps.length=done.length→t.steps.length=done.length→(stepsS l mem ks s).1=0→(stepsS l mem' ks t).1=0→(stepsS l mem ks s).2=S→(stepsS l mem' ks t).2=T →
  R order S T∧S.steps.length=order.length∧T.steps.length=order.length∧∀ (i k:Nat) (r:RuleV),ks[i]?=some k→l[k]?=some r→∃ s' t',R (done ++ ks.take i) s' t'∧S.steps.take (done.length + i)=s'.steps∧T.steps.take (done.length + i)=t'.steps ∧
   S.steps[done.length + i]?=some ⟨r.name,(outS (needsS l) mem r k s').what,(outS (needsS l) mem r k s').early⟩∧T.steps[done.length + i]?=some ⟨r.name,(outS (needsS l) mem' r k t').what,(outS (needsS l) mem' r k t').early⟩ ∧
   (outS (needsS l) mem r k s').fault=0∧(outS (needsS l) mem' r k t').fault=0∧(stepsS l mem (ks.drop (i + 1)) (takeS r k (outS (needsS l) mem r k s') s')).2=S∧(stepsS l mem' (ks.drop (i + 1)) (takeS r k (outS (needsS l) mem' r k t') t')).2=T
 | [],done,s,t,ho,_,hR,hs,ht,_,_,e1,e2=>by
   rw [List.append_nil] at ho
   subst ho e1 e2
   exact ⟨hR,hs,ht,fun i k r hk=>by cases hk⟩
 | k :: ks,done,s,t,ho,hl,hR,hs,ht,h1,h2,e1,e2=>by
   obtain ⟨r,hr⟩:=at_lt (hl k (List.mem_cons_self ..))
   by_cases hf:(outS (needsS l) mem r k s).fault=0
   ·by_cases hf':(outS (needsS l) mem' r k t).fault=0
    ·rw [steps_go hr hf] at h1 e1
     rw [steps_go hr hf'] at h2 e2
     have hR':=hstep done k ks r s t ho hr hR hf hf' e1 e2
     have hs':(takeS r k (outS (needsS l) mem r k s) s).steps.length=(done ++ [k]).length:=by
      show (s.steps ++ [_]).length=_
      rw [List.length_append,List.length_append,hs]; rfl
     have ht':(takeS r k (outS (needsS l) mem' r k t) t).steps.length=(done ++ [k]).length:=by
      show (t.steps ++ [_]).length=_
      rw [List.length_append,List.length_append,ht]; rfl
     obtain ⟨g1,g2,g3,g4⟩:=two_at hstep ks (done ++ [k]) _ _ (by rw [ho]; simp) (fun j hj=>hl j (List.mem_cons_of_mem _ hj)) hR' hs' ht' h1 h2 e1 e2
     refine ⟨g1,g2,g3,fun i j q hj hq=>?_⟩
     cases i with
     | zero =>
       cases hj
       rw [hr] at hq; cases hq
       obtain ⟨m1,p1⟩:=steps_pre (l:=l) (mem:=mem) ks (takeS r k (outS (needsS l) mem r k s) s)
       obtain ⟨m2,p2⟩:=steps_pre (l:=l) (mem:=mem') ks (takeS r k (outS (needsS l) mem' r k t) t)
       rw [e1] at p1
       rw [e2] at p2
       change S.steps=(s.steps ++ [_]) ++ m1 at p1
       change T.steps=(t.steps ++ [_]) ++ m2 at p2
       refine ⟨s,t,by simpa using hR,?_,?_,?_,?_,hf,hf',e1,e2⟩
       ·rw [p1,List.append_assoc,Nat.add_zero,←hs,List.take_left']; rfl
       ·rw [p2,List.append_assoc,Nat.add_zero,←ht,List.take_left']; rfl
       ·rw [p1,List.append_assoc,Nat.add_zero,←hs,List.getElem?_append_right (Nat.le_refl _),Nat.sub_self]; rfl
       ·rw [p2,List.append_assoc,Nat.add_zero,←ht,List.getElem?_append_right (Nat.le_refl _),Nat.sub_self]; rfl
     | succ i =>
       have:=g4 i j q hj hq
       rw [List.length_append,List.length_singleton,Nat.add_assoc,Nat.add_comm 1 i,List.append_assoc] at this
       exact this
    ·rw [steps_stop hr hf'] at h2
     exact absurd h2 hf'
   ·rw [steps_stop hr hf] at h1
    exact absurd h1 hf
theorem first_found {l:List RuleV} {r:RuleV} {k:Nat} {rest:List Nat} {s S:BSt} {o:OutV} (_hr:l[k]?=some r) (hoff:NamesOff l rest r.name) (hno:findM s.kept r.name=none) (he:(stepsS l [] rest (takeS r k o s)).2=S) :
 findM S.kept r.name=o.res.map (memOf r):=by
 rw [←he,kept_stay hoff]
 show findM (o.res.elim s.kept fun x=>putM s.kept (memOf r x)) r.name=_
 cases o.res with
 | none=>exact hno
 | some x=>exact findM_same _ _ _
theorem sameF_eq {x y:FileV} (h:sameF x y=true):x=y:=by
 unfold sameF at h
 rw [Bool.and_eq_true,Bool.and_eq_true,beq_iff_eq,beq_iff_eq,beq_iff_eq] at h
 obtain ⟨h1,h2,h3⟩:=h
 cases x
 cases y
 simp only at h1 h2 h3
 rw [list_eq h1,h2,h3]
theorem sameFs_eq:∀ {a b:List FileV},sameFsS a b=true→a=b
 | [],[],_=>rfl
 | [],_ :: _,h=>by cases h
 | _ :: _,[],h=>by cases h
 | x :: a,y :: b,h=>by
   rw [sameFsS,Bool.and_eq_true] at h
   rw [sameF_eq h.1,sameFs_eq h.2]
end Go.Proofs.Sm
