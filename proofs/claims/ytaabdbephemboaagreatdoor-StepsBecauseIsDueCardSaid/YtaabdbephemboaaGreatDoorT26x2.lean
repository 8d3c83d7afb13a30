/- There is a reason just for what is due: the given statement, for all arguments; no condition. -/
import Derived.Test.YtaabdbephemboaaGreatDoorBx1
import Derived.Test.YtaabdbephemboaaGreatDoorBx2
import Derived.Test.YtaabdbephemboaaGreatDoorBx3
import Derived.Test.YtaabdbephemboaaGreatDoorBx4
import Derived.Test.YtaabdbephemboaaGreatDoorBx5
import Derived.Test.YtaabdbephemboaaGreatDoorBx6
import Derived.Test.YtaabdbephemboaaGreatDoorBx7
import Derived.Test.YtaabdbephemboaaGreatDoorBx8
import Derived.Test.YtaabdbephemboaaGreatDoorBx9
import Derived.Test.YtaabdbephemboaaGreatDoorBx10
import Derived.Test.YtaabdbephemboaaGreatDoorBx11
import Derived.Test.YtaabdbephemboaaGreatDoorBx12
import Derived.Test.YtaabdbephemboaaGreatDoorBx13
import Derived.Test.YtaabdbephemboaaGreatDoorBx14
import Derived.Test.YtaabdbephemboaaGreatDoorBx15
import Derived.Test.YtaabdbephemboaaGreatDoorBx16
import Derived.Test.YtaabdbephemboaaGreatDoorBx17
import Derived.Test.YtaabdbephemboaaGreatDoorBx18
import Derived.Test.YtaabdbephemboaaGreatDoorBx19
import Derived.Test.YtaabdbephemboaaGreatDoorBx20
import Derived.Test.YtaabdbephemboaaGreatDoorBx21
import Derived.Test.YtaabdbephemboaaGreatDoorBx22
import Derived.Test.YtaabdbephemboaaGreatDoorBx23
import Derived.Test.YtaabdbephemboaaGreatDoorBx24
import Derived.Test.YtaabdbephemboaaGreatDoorBx25
import Derived.Test.YtaabdbephemboaaGreatDoorBx26
import Derived.Test.YtaabdbephemboaaGreatDoorBx27
import Derived.Test.YtaabdbephemboaaGreatDoorBx28
import Derived.Test.YtaabdbephemboaaGreatDoorBx29
import Derived.Test.YtaabdbephemboaaGreatDoorBx30
import Derived.Test.YtaabdbephemboaaGreatDoorBx31
import Derived.Test.YtaabdbephemboaaGreatDoorBx32
import Derived.Test.YtaabdbephemboaaGreatDoorBx33
import Derived.Test.YtaabdbephemboaaGreatDoorBx34
import Derived.Test.YtaabdbephemboaaGreatDoorBx35
import Derived.Test.YtaabdbephemboaaGreatDoorBx36
import Derived.Test.YtaabdbephemboaaGreatDoorT26x1
import Derived.Deep.CutBlock
import Derived.Deep.DeepCutAuto
import Derived.Deep.RegionLaw
import Derived.Deep.RegionHeld3
import Derived.Deep.QuietTactic
import Derived.BigRegion
import Derived.Test.YtaabdbephemboaaGreatDoorCards
import Derived.Test.YtaabdbephemboaaGreatDoorTie
import Derived.OpenShut
import Derived.ShutString
import Derived.ChangeOld
import Derived.Deep.DeepHandedRow
import Derived.Deep.DeepWitnessRowRef
import Derived.Lib.LaidU8
import Derived.Lib.LaidTab
import Derived.Lib.LaidIn
namespace Go.Proofs.Sm
open Go.RowKit Go.Maps
def BecPost (l:List RuleV) (F:List FileV) (name:ByteArray) (ms:List MemoryV) (W:World) (e:Ending) (w':World):Prop :=
 ∃ A n c,∃ is:Bool,∃ f:Int,e=.returned (.tuple #[.slice A n c,.bool is,.int .i64 f])∧(f≠0→n=0∧is=false)∧(f=0→∃ b,BuildIs l F [name] ms 0 b∧(is=true↔name∈dueS b.steps)∧(is=false→n=0))∧Below W.heap.size W w'
theorem BecPost.bad {l:List RuleV} {F:List FileV} {name:ByteArray} {ms:List MemoryV} {W w':World} {f:Int} (h:f≠0) (hb:Below W.heap.size W w'):BecPost l F name ms W (.returned (.tuple #[.slice none 0 0,.bool false,.int .i64 f])) w' :=
 ⟨none,0,0,false,f,rfl,fun _=>⟨rfl,rfl⟩,fun e=>absurd e h,hb⟩
theorem str_ones8 (s:ByteArray):∀ u∈[Value.string s],u.oneCell'=true:=fun u hu=>by
 simp only [List.mem_cons,List.mem_nil_iff,or_false] at hu
 subst hu; rfl
theorem sl_new1 (w:World) (s:ByteArray) (hs:s.size≤maxLen):Sl (w.alloc (.cells #[.string s] 9)) (Lt (w.alloc (.cells #[.string s] 9)).heap.size) (some ⟨w.heap.size,0,none⟩) 1 [s] :=
 ⟨rfl,by unfold maxLen; decide,fun _=>⟨w.heap.size,0,rfl,by show _ < _; rw [World.size_alloc]; omega,fun i x hx=>by
  cases i with
  | zero =>
    cases hx
    exact ⟨[.string s],⟨rfl,hs⟩,fun j v hv=>by
     have:=new_cells w #[.string s] 9 j v hv
     rw [addr_add] at this
     simpa using this⟩
  | succ i=>simp at hx⟩⟩
set_option maxHeartbeats 0 in
set_option maxRecDepth 100000 in
theorem steps_Because (A B D:Option Addr) (n c m d nd cd:Nat) (l:List RuleV) (F:List FileV) (name:ByteArray) (ms:List MemoryV) (w:World) (hE:Env2 w) (hsl:Sl w (Lt w.heap.size) A n l) (hF:Sl w (Lt w.heap.size) B m F) (hn:name.size≤maxLen) (hms:Sl w (Lt w.heap.size) D nd ms) :
 Calls Tryz.prog 21 #[.slice A n c,.slice B m d,.string name,.slice D nd cd] w (BecPost l F name ms w):=by
 have hb0:=fr_alloc (fr_refl w) (.cells #[.string name] 9)
 have HB:=Lib.hid (steps_builtWith A B (some ⟨w.heap.size,0,none⟩) D n c m d 1 1 nd cd l F [name] ms _ (hE.then_ hb0) (sl_call hsl hb0 (Nat.le_refl _)) (sl_call hF hb0 (Nat.le_refl _)) (sl_new1 w name hn) (sl_call hms hb0 (Nat.le_refl _)))
 go_enter Tryz.func21,Tryz.ntmps21
 go_wp2_with fail
 refine HB.out.mono ?_
 rintro e w1 ⟨hb1,hbad,hgood⟩
 have hb01:=fr_call hb0 hb1
 by_cases h0:buildErr0 l F [name] ms=0
 ·obtain ⟨order,hp,h1,h2⟩:=hgood h0
  by_cases hr:(runB l F ms order).1=0
  ·obtain ⟨W0,P0,p,u,hb0W,hpl,rfl,hbd,hu⟩:=h2 hr
   have hpe:=(buildErr0_parts h0).1
   have hc0:=planErr_rules hpe
   have hM:order.length≤1000:=by have:=plan_len hp; have:=(rules_sorted hc0).2; omega
   have hw0:∀ x∈[name],∃ k,idxName l x=some k:=fun x hx=>by
    obtain ⟨k,_,hk⟩:=plan_wanted hc0 hp x hx
    exact ⟨k,hk⟩
   have hb00:=hb0.trans (hb0W.mono hb0.size)
   have HBu:=Lib.hid (steps_built P0 W0 p A n c l (servesS l ms) u order.length _ (some ⟨w1.heap.size,0,none⟩) 1 1 [name] _ (hE.then_ hb00) hpl (sl_call hsl hb00 (Nat.le_refl _)) hc0 (sl_new1 w1 name hn) (by decide) hw0 hM hu (hbd.call (fr_alloc (fr_refl w1) _)))
   clear hbad hgood h1 h2
   go_wp2_with fail
   refine HBu.out.mono ?_
   rintro e w2 ⟨A1,n1,c1,A2,n2,c2,A3,n3,c3,rfl,hgood,_,hlow⟩
   have hb02:=hb00.trans (hlow.mono hb00.size)
   have hbx:=fr_alloc hb02 (.cells #[.slice A1 n1 c1,.slice A2 n2 c2,.slice A3 n3 c3] 28)
   by_cases he:endErr l [name] (runB l F ms order).2=0
   ·obtain ⟨_,_,_,uf,um,hbd2⟩:=hgood he
    obtain ⟨p2,hp2⟩:∃ q:BdP,q={ p with uf:=uf,um:=um }:=⟨_,rfl⟩
    rw [←hp2] at hbd2
    have hg2:p.g=p2.g:=by rw [hp2]
    have hgp2:p.gp=p2.gp:=by rw [hp2]
    have hbd3:=hbd2.call (fr_alloc (fr_refl w2) (.cells #[.slice A1 n1 c1,.slice A2 n2 c2,.slice A3 n3 c3] 28))
    have hberr:buildErr l F [name] ms order=0:=(buildErr_end h0 hr).trans he
    obtain ⟨k,r,pre,xs,hbec⟩:=because_is hp hberr
    have HBI:=Lib.hid (show BuildIs l F [name] ms 0 (builtOf l [name] (runB l F ms order).2) from ⟨fun h=>absurd rfl h,fun h=>absurd h0 h,fun _=>⟨order,hp,hberr.symm,fun _=>rfl⟩⟩)
    have HBec:=Lib.hid hbec
    have HMs:=Lib.hid (buildErr0_parts h0).2.2.1
    have HE0:=Lib.hid (hE.then_ hb00)
    have HSl0:=Lib.hid (sl_call hsl hb00 (Nat.le_refl _))
    rw [he]
    rw [hgp2] at hpl
    have HPl:=Lib.hid hpl
    have HC0:=Lib.hid hc0
    generalize hs:(runB l F ms order).2=s at *
    rw [hg2]
    obtain ⟨A7,c7,hu7,h71,h72,hst⟩:=hbd3.steps.sl
    clear hp2 hg2 hgp2 hbd hbd2 hgood hberr hbec hp h0 hr hs hw0 hM hpe hu hpl hc0 hE he hlow hb1 hb0W hb0 HBu HB hb01
    have hlen:s.steps.length=pre.length + 1:=by rw [HBec.out.steps]; simp
    rw [hlen] at hst hu7
    obtain ⟨g1,o1,x,rfl,hg1,hx,hxn,hxi,d0,d1,d2⟩:=hst.step (k:=pre.length) (by omega)
    have hxe:x=xs:=by
     rw [HBec.out.steps,List.getElem?_append_right (Nat.le_refl _),Nat.sub_self] at hx
     exact (Option.some.inj hx).symm
    subst hu7
    subst hxe
    have hpl9:pre.length + 1≤9223372036854775807:=hst.2.1
    have gA:=IntWalk.i64_in (((pre.length + 1:Nat):Int) - 1) ⟨by omega,by omega⟩
    have gB:(((pre.length + 1:Nat):Int) - 1).toNat=pre.length:=by omega
    have gC:(0:Int)≤((pre.length + 1:Nat):Int) - 1:=by omega
    have gD:((pre.length + 1:Nat):Int) - 1 < ((pre.length + 1:Nat):Int):=by omega
    have v4:=hbd3.blk.cell (i:=4) rfl
    have lb:=hbd3.blk.lt
    have hg1':g1 < (w2.alloc (.cells #[.slice A1 n1 c1,.slice A2 n2 c2,.slice A3 n3 c3] 28)).heap.size:=hg1
    clear hx hst
    go_wp2
    generalize w2.alloc (.cells #[.slice A1 n1 c1,.slice A2 n2 c2,.slice A3 n3 c3] 28)=W2 at *
    go_region
    all_goals
     generalize hW3:World.drew _=W3
     have hb23:Below W2.heap.size W2 W3:=by rw [←hW3]; exact (fr_alloc (fr_refl W2) _).drew
     have hS3:Arr W3 W2.heap.size 46 [.string x.name,.int .i64 x.what,.bool x.early]:=by
      rw [←hW3]
      exact (show Arr (W2.alloc (.cells #[.string x.name,.int .i64 x.what,.bool x.early] 46)) W2.heap.size 46 [.string x.name,.int .i64 x.what,.bool x.early] from heap_alloc_new W2 _).call (Below.drew (fr_refl _))
     clear hW3
     have hbd4:=hbd3.call hb23
     have hb03:=fr_call hbx hb23
     have s1:=hS3.cell (i:=1) rfl
     have sl3:=hS3.lt
     clear hbd3 d0 d1 d2 v4 lb gA gB gC gD hg1 hg1'
     by_cases hd:x.what=1∨x.what=3
     ·have HDu:=Lib.hid (HBec.out.due.2 hd)
      have HXT:=Lib.hid (fun A n c w' (hb:Below w.heap.size w w')=>(show BecPost l F name ms w (.returned (.tuple #[.slice A n c,.bool true,.int .i64 0])) w' from ⟨A,n,c,true,0,rfl,fun h=>absurd rfl h,fun _=>⟨_,HBI.out,⟨fun _=>HDu.out,fun _=>rfl⟩,fun h=>(by cases h)⟩,hb⟩))
      have hw2:(x.what == 2)=false:=by rcases hd with h | h <;> rw [h] <;> rfl
      have hw4:(x.what == 4)=false:=by rcases hd with h | h <;> rw [h] <;> rfl
      have HFl:=Lib.hid (HBec.out.files hd)
      have HLn:=Lib.hid HSl0.out.1
      have hkn:k < n:=by rw [←HLn.out]; exact (List.getElem?_eq_some_iff.1 HBec.out.rule).1
      have hkI:(k:Int) < (n:Int):=by omega
      have hk0:(0:Int)≤(k:Int):=by omega
      have hn5':n≤500:=by have:=(rules_sorted HC0.out).2; have:=HLn.out; omega
      obtain ⟨_,m0,nn,D0,dd,hP,_,_,_,_⟩:=HPl.out.call hbd4.low
      have pc:=hP.cell (i:=0) rfl
      have v0:=hbd4.blk.cell (i:=0) rfl
      have lb:=hbd4.blk.lt
      have HFi:=Lib.hid (steps_find p2.gp A n c l name W3 pc (sl_call HSl0.out hbd4.low (Nat.le_refl _)) (rules_sorted HC0.out).1 hn5')
      clear hP hd
      go_wp2_with fail
      refine HFi.out.mono ?_
      rintro e W4 ⟨rfl,hb34⟩
      rw [HBec.out.idx,numOr_some]
      have hbd5:=hbd4.call hb34
      have hb04:=fr_call hb03 hb34
      obtain ⟨b,o,r',e9,hbl,hr',X1,k1,y1,X2,k2,y2,X3,k3,y3,X4,k4,y4,X5,k5,y5,⟨z1,z2,z3⟩,_,⟨t1,t2,t3,t4,t5⟩,q0,q1,q2,q3,q4,q5,q6,q7⟩:=HSl0.out.rule hkn
      subst e9
      obtain rfl:r'=r:=by rw [HBec.out.rule] at hr'; exact (Option.some.inj hr').symm
      clear hr'
      have hq:RuS W0 (Lt W0.heap.size) r' ⟨X1,k1,y1,X2,k2,y2,X3,k3,y3,X4,k4,y4,X5,k5,y5⟩:=⟨z1,z2,z3,t1,t2,t3,t4,t5⟩
      have hrok:=(rules_parts_by HC0.out).1.at HBec.out.rule
      have HAo:=Lib.hid (checkAction_ok (checkRule_parts hrok).2.1)
      have hin:k5≤1000000:=by have:=(checkRule_parts hrok).2.2.1; rw [t5.1] at this; omega
      have lw:∀ b o,b < W0.heap.size→W4.cell? ⟨b,o,none⟩=W0.cell? ⟨b,o,none⟩:=fun b o hb=>hbd5.low.cell (p:=⟨b,o,none⟩) hb
      have c0:=(lw _ _ hbl).trans q0
      have c1:=(lw _ _ hbl).trans q1
      have c2:=(lw _ _ hbl).trans q2
      have c3:=(lw _ _ hbl).trans q3
      have c4:=(lw _ _ hbl).trans q4
      have c5:=(lw _ _ hbl).trans q5
      have c6:=(lw _ _ hbl).trans q6
      have c7:=(lw _ _ hbl).trans q7
      have hbl4:b < W4.heap.size:=Nat.lt_of_lt_of_le hbl hbd5.low.size
      obtain ⟨nm,hnm,hmem⟩:=hbd5.mem
      obtain ⟨kn,y,B1,m1,u1,B2,m2,u2,B3,m3,u3,hma⟩:=mem_at hmem hn
      have hmlt:p2.mm < W4.heap.size:=hmem.lt
      have v2:=hbd5.blk.cell (i:=2) rfl
      have lb5:=hbd5.blk.lt
      have HMa:=Lib.hid hma
      have hlk:=hma.look (W4.alloc (.cells #[.string r'.name,.string r'.action.tool,.slice X1 k1 y1,.slice X2 k2 y2,.slice X3 k3 y3,.slice X4 k4 y4,.int .i64 r'.action.time,.slice X5 k5 y5] 60)) ((fr_alloc (fr_refl W4) (.cells #[.string r'.name,.string r'.action.tool,.slice X1 k1 y1,.slice X2 k2 y2,.slice X3 k3 y3,.slice X4 k4 y4,.int .i64 r'.action.time,.slice X5 k5 y5] 60)).block p2.mm hmlt)
      unfold memVal at hlk
      clear q0 q1 q2 q3 q4 q5 q6 q7 lw hmem hma hrok t1 t2 t3 t4 t5 pc v0 lb
      go_wp2
      have hb46:Below W4.heap.size W4 ((W4.alloc (.cells #[.string r'.name,.string r'.action.tool,.slice X1 k1 y1,.slice X2 k2 y2,.slice X3 k3 y3,.slice X4 k4 y4,.int .i64 r'.action.time,.slice X5 k5 y5] 60)).alloc (.cells #[.string y.name,.string y.action,.slice B1 m1 u1,.int .i64 y.result.code,.string y.result.text,.slice B2 m2 u2,.slice B3 m3 u3,.int .i64 y.result.command] 43)):=fr_alloc (fr_alloc (fr_refl W4) _) _
      have aR:=(rule_box W4 r' X1 k1 y1 X2 k2 y2 X3 k3 y3 X4 k4 y4 X5 k5 y5).call (fr_alloc (fr_refl (W4.alloc (.cells #[.string r'.name,.string r'.action.tool,.slice X1 k1 y1,.slice X2 k2 y2,.slice X3 k3 y3,.slice X4 k4 y4,.int .i64 r'.action.time,.slice X5 k5 y5] 60))) (.cells #[.string y.name,.string y.action,.slice B1 m1 u1,.int .i64 y.result.code,.string y.result.text,.slice B2 m2 u2,.slice B3 m3 u3,.int .i64 y.result.command] 43))
      have aM:=mem_box (W4.alloc (.cells #[.string r'.name,.string r'.action.tool,.slice X1 k1 y1,.slice X2 k2 y2,.slice X3 k3 y3,.slice X4 k4 y4,.int .i64 r'.action.time,.slice X5 k5 y5] 60)) y B1 m1 u1 B2 m2 u2 B3 m3 u3
      rw [World.size_alloc] at aM
      generalize (W4.alloc (.cells #[.string r'.name,.string r'.action.tool,.slice X1 k1 y1,.slice X2 k2 y2,.slice X3 k3 y3,.slice X4 k4 y4,.int .i64 r'.action.time,.slice X5 k5 y5] 60)).alloc (.cells #[.string y.name,.string y.action,.slice B1 m1 u1,.int .i64 y.result.code,.string y.result.text,.slice B2 m2 u2,.slice B3 m3 u3,.int .i64 y.result.command] 43)=W6 at *
      have hbd6:=hbd5.call hb46
      have hb06:=fr_call hb04 hb46
      clear c0 c1 c2 c3 c4 c5 c6 c7 hlk v2 lb5
      cases kn
      ·go_quiet (fail)
       go_wp2
       go_ret3
       exact HXT.out _ _ _ _ (below_drewN hb06 _)
      ·have hfy:=HMa.out.known rfl
       obtain ⟨hym,hyn⟩:=findM_some hfy
       have HYc:=Lib.hid ((memory_parts_by HMs.out).2.2 y (List.mem_filter.1 hym).1)
       have HK12:=Lib.hid (show ∀ w',Below W6.heap.size W6 w'→(Below W6.heap.size W6 w'∧w'.cell? ⟨W4.heap.size + 1,1,none⟩=some (.string y.action)∧w'.cell? ⟨W4.heap.size,1,none⟩=some (.string r'.action.tool)∧w'.cell? ⟨W4.heap.size,2,none⟩=some (.slice X1 k1 y1)∧w'.cell? ⟨W4.heap.size,3,none⟩=some (.slice X2 k2 y2)∧w'.cell? ⟨W4.heap.size,4,none⟩=some (.slice X3 k3 y3)∧w'.cell? ⟨W4.heap.size,5,none⟩=some (.slice X4 k4 y4)∧w'.cell? ⟨W4.heap.size,6,none⟩=some (.int .i64 r'.action.time)) from fun w' hw=>⟨hw,(aM.call hw).cell (i:=1) rfl,(aR.call hw).cell (i:=1) rfl,(aR.call hw).cell (i:=2) rfl,(aR.call hw).cell (i:=3) rfl,(aR.call hw).cell (i:=4) rfl,(aR.call hw).cell (i:=5) rfl,(aR.call hw).cell (i:=6) rfl⟩)
       have HTd:=Lib.hid (fun w' (hb:Below W6.heap.size W6 w')=>act_TextDigest r'.action X1 k1 y1 X2 k2 y2 X3 k3 y3 X4 k4 y4 w' (HE0.out.then_ (hbd6.call hb).low) (hq.actAt (hbd6.call hb).low) HAo.out)
       unfold actVal at HTd
       obtain ⟨dg,hdg⟩:∃ dg,dg=digestS (actTextL r'.action):=⟨_,rfl⟩
       rw [←hdg] at HTd
       have hl6:=aR.lt
       have hl6':=aM.lt
       have HaR:=Lib.hid aR
       have HaM:=Lib.hid aM
       clear hfy hym hyn hdg aR aM
       cases hde:(y.action.toList == dg.toList)
       ·go_region_held3 (fun w'=>(Below W6.heap.size W6 w'∧w'.cell? ⟨W4.heap.size + 1,1,none⟩=some (.string y.action)∧w'.cell? ⟨W4.heap.size,1,none⟩=some (.string r'.action.tool)∧w'.cell? ⟨W4.heap.size,2,none⟩=some (.slice X1 k1 y1)∧w'.cell? ⟨W4.heap.size,3,none⟩=some (.slice X2 k2 y2)∧w'.cell? ⟨W4.heap.size,4,none⟩=some (.slice X3 k3 y3)∧w'.cell? ⟨W4.heap.size,5,none⟩=some (.slice X4 k4 y4)∧w'.cell? ⟨W4.heap.size,6,none⟩=some (.int .i64 r'.action.time)))
         (first | assumption | with_reducible exact HK12.out _ hb67 | exact HK12.out _ (Below.drew (fr_refl W6)))
         (first | (go_at_call 37; refine (HTd.out _ (And.left (by assumption))).mono ?_; rintro e W7 ⟨rfl,hbc⟩; have hb67:Below W6.heap.size W6 W7:=fr_call (And.left (by assumption)) hbc))
        go_wp2
        go_ret3
        exact HXT.out _ _ _ _ (fr_call hb06 hb67)
       ·go_region_held3 (fun w'=>(Below W6.heap.size W6 w'∧w'.cell? ⟨W4.heap.size + 1,1,none⟩=some (.string y.action)∧w'.cell? ⟨W4.heap.size,1,none⟩=some (.string r'.action.tool)∧w'.cell? ⟨W4.heap.size,2,none⟩=some (.slice X1 k1 y1)∧w'.cell? ⟨W4.heap.size,3,none⟩=some (.slice X2 k2 y2)∧w'.cell? ⟨W4.heap.size,4,none⟩=some (.slice X3 k3 y3)∧w'.cell? ⟨W4.heap.size,5,none⟩=some (.slice X4 k4 y4)∧w'.cell? ⟨W4.heap.size,6,none⟩=some (.int .i64 r'.action.time)))
         (first | assumption | with_reducible exact HK12.out _ hb67 | exact HK12.out _ (Below.drew (fr_refl W6)))
         (first | (go_at_call 37; refine (HTd.out _ (And.left (by assumption))).mono ?_; rintro e W7 ⟨rfl,hbc⟩; have hb67:Below W6.heap.size W6 W7:=fr_call (And.left (by assumption)) hbc))
        have hbd7:=hbd6.call hb67
        have hb07:=fr_call hb06 hb67
        have aR:=HaR.out.call hb67
        have aM:=HaM.out.call hb67
        have hL7:=(HMa.out.looks.keep fun j hj=>(fr_call hb46 hb67).block j hj.2).more (S':=Lt W7.heap.size) fun j hj=>Nat.lt_of_lt_of_le hj.2 (fr_call hb46 hb67).size
        have HK14:=Lib.hid (show ∀ w',Below W7.heap.size W7 w'→(Below W7.heap.size W7 w'∧w'.cell? ⟨W4.heap.size + 1,2,none⟩=some (.slice B1 m1 u1)∧w'.cell? ⟨W4.heap.size,0,none⟩=some (.string r'.name)∧w'.cell? ⟨W4.heap.size,1,none⟩=some (.string r'.action.tool)∧w'.cell? ⟨W4.heap.size,2,none⟩=some (.slice X1 k1 y1)∧w'.cell? ⟨W4.heap.size,3,none⟩=some (.slice X2 k2 y2)∧w'.cell? ⟨W4.heap.size,4,none⟩=some (.slice X3 k3 y3)∧w'.cell? ⟨W4.heap.size,5,none⟩=some (.slice X4 k4 y4)∧w'.cell? ⟨W4.heap.size,6,none⟩=some (.int .i64 r'.action.time)∧w'.cell? ⟨W4.heap.size,7,none⟩=some (.slice X5 k5 y5)) from fun w' hw=>⟨hw,(aM.call hw).cell (i:=2) rfl,(aR.call hw).cell (i:=0) rfl,(aR.call hw).cell (i:=1) rfl,(aR.call hw).cell (i:=2) rfl,(aR.call hw).cell (i:=3) rfl,(aR.call hw).cell (i:=4) rfl,(aR.call hw).cell (i:=5) rfl,(aR.call hw).cell (i:=6) rfl,(aR.call hw).cell (i:=7) rfl⟩)
        have HIn:=Lib.hid (fun w' (hb:Below W7.heap.size W7 w')=>steps_inputs W0 p2 n (servesS l ms) _ order.length s r' ⟨X1,k1,y1,X2,k2,y2,X3,k3,y3,X4,k4,y4,X5,k5,y5⟩ w' (hbd7.call hb) hq hin)
        simp only at HIn
        unfold InPost at HIn
        have HLo:=Lib.hid (fun w' (hb:Below W7.heap.size W7 w') A9 n9 c9 (hs:Sl w' (Lt w'.heap.size) A9 n9 (inputsS s.have_ r'))=>act_LooksOf B1 A9 m1 u1 n9 c9 y.looks (inputsS s.have_ r') w' (HE0.out.then_ (hbd7.call hb).low).toEnv (sl_call hL7 hb (Nat.le_refl _)) hs)
        have HLe:=Lib.hid (show looksOfErr y.looks (inputsS s.have_ r')=0 by
         rw [looksOfErr,if_neg (by rw [(mem_parts HYc.out).2.2.1]; decide)]; exact HFl.out)
        have hl7:=aR.lt
        have hl7':=aM.lt
        obtain ⟨F2,hF2⟩:∃ F2,F2=inputsS s.have_ r':=⟨_,rfl⟩
        rw [←hF2] at HIn HLo HLe
        rw [HLe.out] at HLo
        have HLk:=Lib.hid (show (looksOfS y.looks F2).length=y.looks.length by
         rw [looksOfS,if_pos HLe.out]; simp [looksAtS])
        have HL7:=Lib.hid hL7
        have HaM7:=Lib.hid aM
        clear hF2 aR aM hL7
        go_wp2
        go_region_held3 (fun w'=>(Below W7.heap.size W7 w'∧w'.cell? ⟨W4.heap.size + 1,2,none⟩=some (.slice B1 m1 u1)∧w'.cell? ⟨W4.heap.size,0,none⟩=some (.string r'.name)∧w'.cell? ⟨W4.heap.size,1,none⟩=some (.string r'.action.tool)∧w'.cell? ⟨W4.heap.size,2,none⟩=some (.slice X1 k1 y1)∧w'.cell? ⟨W4.heap.size,3,none⟩=some (.slice X2 k2 y2)∧w'.cell? ⟨W4.heap.size,4,none⟩=some (.slice X3 k3 y3)∧w'.cell? ⟨W4.heap.size,5,none⟩=some (.slice X4 k4 y4)∧w'.cell? ⟨W4.heap.size,6,none⟩=some (.int .i64 r'.action.time)∧w'.cell? ⟨W4.heap.size,7,none⟩=some (.slice X5 k5 y5)))
         (first | assumption | with_reducible exact HK14.out _ hb79 | with_reducible exact HK14.out _ hb78 | exact HK14.out _ (Below.drew (fr_refl W7)))
         (first
           | (guard_hyp hs8; go_at_call 38; with_reducible refine (HLo.out W8 hb78 A8 n8 c8 hs8).mono ?_; rintro e W9 ⟨A9,n9,c9,rfl,_,_,hs9,hb89⟩; have hb79:=fr_call hb78 hb89)
           | (go_at_call 39; refine (HIn.out _ (And.left (by assumption))).mono ?_; rintro e W8 ⟨A8,n8,c8,rfl,_,_,hs8',hbc⟩; have hb78:Below W7.heap.size W7 W8:=fr_call (And.left (by assumption)) hbc; have hs8:=hs8'.more (S':=Lt W8.heap.size) fun j hj=>hj.2))
        have hb09:=fr_call hb07 hb79
        have hn9:n9=m1:=by rw [←hs9.1,HLk.out]; exact HL7.out.1
        subst hn9
        have aM9:=HaM7.out.call hb79
        have e2:=aM9.cell (i:=2) rfl
        have el:=aM9.lt
        have hL9:=sl_call HL7.out hb79 (Nat.le_refl _)
        have hn99:n9≤9223372036854775807:=hL9.2.1
        have hn9k:n9≤1000000:=by have:=(mem_ok HYc.out).1; rw [hL9.1] at this; exact this
        obtain ⟨i0,hi0,hq0,hq1,hq2⟩:=info_parts str_info
        clear hs8 hb78 hb89 hb79
        go_wp2
        go_loopw [21,108] (fun v i wr=>∃ (k:Nat) (OL:List ByteArray),k≤n9∧i=.int .i64 k∧RowK wr W9.heap.size 9 (fun _=>False) v OL∧OL.length≤k∧Below W9.heap.size W9 wr) (fun _ i _=>n9 - (intOf i).toNat)
        case atStart=>exact ⟨0,[],Nat.zero_le _,rfl,RowK.nil,Nat.le_refl _,Below.refl _ _⟩
        case round =>
         obtain ⟨k,OL,hk,rfl,hrow,hlen,hbel⟩:=hrel
         by_cases hlt:k < n9
         ·have hkI:(k:Int) < (n9:Int):=by omega
          obtain ⟨ga,oa,la,rfl,hga,hla,hlp,_,d0,d1,d2⟩:=(sl_call hL9 hbel (Nat.le_refl _)).look hlt
          obtain ⟨gb,ob,lb,e9,hgb,_,_,_,f0,f1,f2⟩:=(sl_call hs9 hbel (Nat.le_refl _)).look hlt
          subst e9
          have hga':ga < wr.heap.size:=hga
          have hgb':gb < wr.heap.size:=hgb
          clear hla
          have hne:=neq_look lb la
          generalize lookEq lb la=eq at hne
          have hbx1:=fr_alloc hbel (.cells #[.string la.path,.string la.digest,.bool la.run] 109)
          have HRC:=Lib.hid (hrow.call (fr_alloc (fr_refl wr) (.cells #[.string la.path,.string la.digest,.bool la.run] 109)))
          clear hrow
          cases eq
          ·go_wp2
           go_quiet (fail)
           generalize hWC:World.drewN _ _=WC
           have hbC:Below wr.heap.size wr WC:=by rw [←hWC]; exact below_drewN (fr_alloc (fr_refl wr) (.cells #[.string la.path,.string la.digest,.bool la.run] 109)) _
           have hBx:Arr WC wr.heap.size 109 [.string la.path,.string la.digest,.bool la.run]:=by
            rw [←hWC]
            exact (show Arr (wr.alloc (.cells #[.string la.path,.string la.digest,.bool la.run] 109)) wr.heap.size 109 [.string la.path,.string la.digest,.bool la.run] from heap_alloc_new wr _).call (below_drewN (fr_refl _) _)
           have hRC2:=HRC.out.call (w':=WC) (by rw [←hWC]; exact below_drewN (fr_refl _) _)
           clear hWC hbx1 HRC
           have x0:=hBx.cell (i:=0) rfl
           have xl:=hBx.lt
           have hbC9:=fr_call hbel hbC
           have hnew:∀ (j:Nat) v,([.string la.path]:List Value)[j]?=some v→(WC.alloc (.cells #[.string la.path] 9)).cell? ((⟨WC.heap.size,0,none⟩:Addr).add j)=some v:=new_cells WC #[.string la.path] 9
           have HNw:=Lib.hid hnew
           have hbxx:=fr_alloc hbC9 (.cells #[.string la.path] 9)
           obtain ⟨_,rows,hrows,hown,hrep⟩:=hRC2.call (fr_alloc (fr_refl WC) (.cells #[.string la.path] 9))
           have HP:=Lib.hid hrep
           have HOw:=Lib.hid hown
           have HKk:=Lib.hid (fun j hj=>(hRC2.kind j hj).1)
           clear hnew hown hrep hRC2 hne hBx
           go_wp2_with (at_builtin; refine wpList_append_lies _ rfl _ _ 24 rfl W9.heap.size 9 i0 _ 1 16 Tryz.underlying24 hi0 hq0 hq1 hq2 rfl (by decide) _ OL.length _ rfl HOw.out ⟨WC.heap.size,0,none⟩ 1 1 [.string la.path] rfl rfl HNw.out (str_ones8 la.path) (by decide) (by unfold maxLen; omega) (by omega) hbxx.size _ rfl ?_)
           intro g' cap wN hown' hgrow hat hlt'
           have hr9:=RowK.append (x:=la.path) (r:=[.string la.path]) (l:=OL) (fun k hh=>hh.elim) hrows HP.out ⟨rfl,hlp⟩ (fun _ _ hh=>hh) hgrow hown'
           have hb9:=hbxx.grown hgrow hbxx.size HKk.out
           have HR9:=Lib.hid hr9
           clear hown' hgrow hat hr9
           go_wp2
           go_roundw
           case rel=>exact ⟨k + 1,OL ++ [la.path],by omega,by go_num,HR9.out,by rw [List.length_append,List.length_singleton]; omega,hb9⟩
           case measure=>simp [intOf]; omega
          ·go_wp2
           go_quiet (fail)
           go_wp2
           go_roundw
           case rel=>exact ⟨k + 1,OL,by omega,by go_num,HRC.out.call (below_drewN (fr_refl _) _),by omega,below_drewN hbx1 _⟩
           case measure=>simp [intOf]; omega
         ·obtain ⟨A5,c5,rfl,_,_,_⟩:=hrow.sl
          go_wp2
          go_ret3
          exact HXT.out _ _ _ _ (fr_call hb09 hbel)
     ·have HX:=Lib.hid (show BecPost l F name ms w (.returned (.tuple #[.slice none 0 0,.bool false,.int .i64 0])) W3 from ⟨none,0,0,false,0,rfl,fun h=>absurd rfl h,fun _=>⟨_,HBI.out,⟨fun h=>(by cases h),fun h=>absurd (HBec.out.due.1 h) hd⟩,fun _=>rfl⟩,hb03⟩)
      rcases HBec.out.what with h | h | h | h
      ·exact absurd (.inl h) hd
      ·clear hd
       go_wp2
       go_ret3
       exact HX.out
      ·exact absurd (.inr h) hd
      ·clear hd
       go_wp2
       go_ret3
       exact HX.out
   ·have HX:=Lib.hid (BecPost.bad (l:=l) (F:=F) (name:=name) (ms:=ms) he hbx)
    have hz:(endErr l [name] (runB l F ms order).2 == 0)=false:=by simpa using he
    clear hgood he
    generalize endErr l [name] (runB l F ms order).2=z at *
    go_wp2
    go_ret3
    exact HX.out
  ·obtain rfl:=h1 hr
   have HX:=Lib.hid (BecPost.bad (l:=l) (F:=F) (name:=name) (ms:=ms) hr hb01)
   have hz:((runB l F ms order).1 == 0)=false:=by simpa using hr
   clear hbad hgood h1 h2 hr
   generalize (runB l F ms order).1=z at *
   go_wp2
   go_ret3
   exact HX.out
 ·obtain rfl:=hbad h0
  have HX:=Lib.hid (BecPost.bad (l:=l) (F:=F) (name:=name) (ms:=ms) h0 hb01)
  have hz:(buildErr0 l F [name] ms == 0)=false:=by simpa using h0
  clear hbad hgood h0
  generalize buildErr0 l F [name] ms=z at *
  go_wp2
  go_ret3
  exact HX.out
end Go.Proofs.Sm
namespace Go.Proofs.Sm
open Go.RowKit Go.Maps
def DuePost (l:List RuleV) (F:List FileV) (ws:List ByteArray) (ms:List MemoryV) (W:World) (e:Ending) (w':World):Prop :=
 ∃ A n c f b,e=.returned (.tuple #[.slice A n c,.int .i64 f])∧BuildIs l F ws ms f b∧Sl w' (Lt w'.heap.size) A n (dueS b.steps)∧Below W.heap.size W w'
theorem due_more {l:List StepV} {k:Nat} {x:StepV} (hx:l[k]?=some x):dueS (l.take (k + 1))=if x.what == 1 || x.what == 3 then dueS (l.take k) ++ [x.name] else dueS (l.take k):=by
 unfold dueS
 rw [List.take_add_one,hx,List.filter_append,List.map_append]
 by_cases h:(x.what == 1 || x.what == 3)=true
 ·rw [if_pos h]
  simp [h]
 ·rw [if_neg h]
  simp [h]
theorem due_le (l:List StepV):(dueS l).length≤l.length:=by
 unfold dueS
 rw [List.length_map]; exact List.length_filter_le _ _
theorem str_ones7 (s:ByteArray):∀ u∈[Value.string s],u.oneCell'=true:=fun u hu=>by
 simp only [List.mem_cons,List.mem_nil_iff,or_false] at hu
 subst hu; rfl
set_option maxHeartbeats 0 in
set_option maxRecDepth 100000 in
theorem steps_Due (A B C D:Option Addr) (n c m d nw cw nd cd:Nat) (l:List RuleV) (F:List FileV) (ws:List ByteArray) (ms:List MemoryV) (w:World) (hE:Env2 w) (hsl:Sl w (Lt w.heap.size) A n l) (hF:Sl w (Lt w.heap.size) B m F) (hws:Sl w (Lt w.heap.size) C nw ws) (hms:Sl w (Lt w.heap.size) D nd ms) :
 Calls Tryz.prog 17 #[.slice A n c,.slice B m d,.slice C nw cw,.slice D nd cd] w (DuePost l F ws ms w):=by
 have HB:=Lib.hid (steps_build A B C D n c m d nw cw nd cd l F ws ms w hE hsl hF hws hms)
 obtain ⟨i0,hi0,hz0,hz1,hz2⟩:=info_parts str_info
 clear hsl hF hws hms
 go_enter Tryz.func17,Tryz.ntmps17
 go_wp2_with fail
 refine HB.out.mono ?_
 rintro e w1 ⟨A1,n1,c1,A2,n2,c2,A3,n3,c3,f,b,rfl,hbu,hs1,_,_,_,_,hst,hb1⟩
 have HBu:=Lib.hid hbu
 have hbx:=fr_alloc hb1 (.cells #[.slice A1 n1 c1,.slice A2 n2 c2,.slice A3 n3 c3] 28)
 have hs:=sl_call hs1 (fr_alloc (fr_refl w1) (.cells #[.slice A1 n1 c1,.slice A2 n2 c2,.slice A3 n3 c3] 28)) (Nat.le_refl _)
 have hn9:n1≤1000:=by rw [←hs1.1]; exact hst
 have hn9I:n1≤9223372036854775807:=by omega
 have HL:=Lib.hid hs.1
 clear hbu hs1 hst
 go_wp2
 generalize w1.alloc (.cells #[.slice A1 n1 c1,.slice A2 n2 c2,.slice A3 n3 c3] 28)=W at *
 have HBW:=Lib.hid hbx
 go_loopw [12,26] (fun v i wr=>∃ k:Nat,k≤n1∧i=.int .i64 k∧RowK wr W.heap.size 9 (fun _=>False) v (dueS (b.steps.take k))∧Below W.heap.size W wr) (fun _ i _=>n1 - (intOf i).toNat)
 case atStart=>exact ⟨0,Nat.zero_le _,rfl,RowK.nil,Below.refl _ _⟩
 case round =>
  obtain ⟨k,hk,rfl,hrow,hbel⟩:=hrel
  by_cases hlt:k < n1
  ·have hkI:(k:Int) < (n1:Int):=by omega
   obtain ⟨g1,o1,x,rfl,hg1,hx,hxn,_,d0,d1,d2⟩:=(hs.keep (keep_lt hbel)).step hlt
   have HT:=Lib.hid (due_more hx)
   have hlen:(dueS (b.steps.take k)).length≤k:=Nat.le_trans (due_le _) (by rw [List.length_take]; omega)
   have hbx1:=fr_alloc hbel (.cells #[.string x.name,.int .i64 x.what,.bool x.early] 46)
   have HRC:=Lib.hid (hrow.call (fr_alloc (fr_refl wr) (.cells #[.string x.name,.int .i64 x.what,.bool x.early] 46)))
   clear hx hrow
   generalize dueS (b.steps.take k)=OL at *
   cases h1:(x.what == 1)
   ·cases h3:(x.what == 3)
    ·have HS:=Lib.hid (show dueS (b.steps.take (k + 1))=OL by rw [HT.out]; simp [h1,h3])
     clear HT
     go_wp2
     go_roundw
     case rel=>exact ⟨k + 1,by omega,by go_num,by rw [HS.out]; exact HRC.out,hbx1⟩
     case measure=>simp [intOf]; omega
    ·have HS:=Lib.hid (show dueS (b.steps.take (k + 1))=OL ++ [x.name] by rw [HT.out]; simp [h3])
     have hnew:∀ (j:Nat) v,([.string x.name]:List Value)[j]?=some v→((wr.alloc (.cells #[.string x.name,.int .i64 x.what,.bool x.early] 46)).alloc (.cells #[.string x.name] 9)).cell? ((⟨wr.heap.size + 1,0,none⟩:Addr).add j)=some v:=by
      have:=new_cells (wr.alloc (.cells #[.string x.name,.int .i64 x.what,.bool x.early] 46)) #[.string x.name] 9
      rwa [World.size_alloc] at this
     have HNw:=Lib.hid hnew
     have hbxx:=fr_alloc hbx1 (.cells #[.string x.name] 9)
     obtain ⟨_,rows,hrows,hown,hrep⟩:=(HRC.out).call (fr_alloc (fr_refl (wr.alloc (.cells #[.string x.name,.int .i64 x.what,.bool x.early] 46))) (.cells #[.string x.name] 9))
     have HP:=Lib.hid hrep
     have HOw:=Lib.hid hown
     have HKk:=Lib.hid (fun j hj=>(HRC.out.kind j hj).1)
     clear hnew hown hrep HT
     go_wp2_with (at_builtin; refine wpList_append_lies _ rfl _ _ 24 rfl W.heap.size 9 i0 _ 1 16 Tryz.underlying24 hi0 hz0 hz1 hz2 rfl (by decide) _ OL.length _ rfl HOw.out ⟨wr.heap.size + 1,0,none⟩ 1 1 [.string x.name] rfl rfl HNw.out (str_ones7 x.name) (by decide) (by unfold maxLen; omega) (by omega) hbxx.size _ rfl ?_)
     intro g' cap w9 hown' hgrow hat hlt'
     have hr9:=RowK.append (x:=x.name) (r:=[.string x.name]) (l:=OL) (fun k hh=>hh.elim) hrows HP.out ⟨rfl,hxn⟩ (fun _ _ hh=>hh) hgrow hown'
     have hb9:=hbxx.grown hgrow hbxx.size HKk.out
     have HR9:=Lib.hid hr9
     clear hown' hgrow hat hr9
     go_wp2
     go_roundw
     case rel=>exact ⟨k + 1,by omega,by go_num,by rw [HS.out]; exact HR9.out,hb9⟩
     case measure=>simp [intOf]; omega
   ·have HS:=Lib.hid (show dueS (b.steps.take (k + 1))=OL ++ [x.name] by rw [HT.out]; simp [h1])
    have hnew:∀ (j:Nat) v,([.string x.name]:List Value)[j]?=some v→((wr.alloc (.cells #[.string x.name,.int .i64 x.what,.bool x.early] 46)).alloc (.cells #[.string x.name] 9)).cell? ((⟨wr.heap.size + 1,0,none⟩:Addr).add j)=some v:=by
     have:=new_cells (wr.alloc (.cells #[.string x.name,.int .i64 x.what,.bool x.early] 46)) #[.string x.name] 9
     rwa [World.size_alloc] at this
    have HNw:=Lib.hid hnew
    have hbxx:=fr_alloc hbx1 (.cells #[.string x.name] 9)
    obtain ⟨_,rows,hrows,hown,hrep⟩:=(HRC.out).call (fr_alloc (fr_refl (wr.alloc (.cells #[.string x.name,.int .i64 x.what,.bool x.early] 46))) (.cells #[.string x.name] 9))
    have HP:=Lib.hid hrep
    have HOw:=Lib.hid hown
    have HKk:=Lib.hid (fun j hj=>(HRC.out.kind j hj).1)
    clear hnew hown hrep HT
    go_wp2_with (at_builtin; refine wpList_append_lies _ rfl _ _ 24 rfl W.heap.size 9 i0 _ 1 16 Tryz.underlying24 hi0 hz0 hz1 hz2 rfl (by decide) _ OL.length _ rfl HOw.out ⟨wr.heap.size + 1,0,none⟩ 1 1 [.string x.name] rfl rfl HNw.out (str_ones7 x.name) (by decide) (by unfold maxLen; omega) (by omega) hbxx.size _ rfl ?_)
    intro g' cap w9 hown' hgrow hat hlt'
    have hr9:=RowK.append (x:=x.name) (r:=[.string x.name]) (l:=OL) (fun k hh=>hh.elim) hrows HP.out ⟨rfl,hxn⟩ (fun _ _ hh=>hh) hgrow hown'
    have hb9:=hbxx.grown hgrow hbxx.size HKk.out
    have HR9:=Lib.hid hr9
    clear hown' hgrow hat hr9
    go_wp2
    go_roundw
    case rel=>exact ⟨k + 1,by omega,by go_num,by rw [HS.out]; exact HR9.out,hb9⟩
    case measure=>simp [intOf]; omega
  ·obtain rfl:k=n1:=by omega
   rw [List.take_of_length_le (by rw [HL.out]; exact Nat.le_refl _)] at hrow
   obtain ⟨A8,c8,rfl,h81,h82,s8⟩:=hrow.sl
   have H8:=Lib.hid s8
   clear hrow s8
   go_wp2
   go_ret2
   exact ⟨A8,_,c8,f,b,rfl,HBu.out,H8.out,fr_call HBW.out hbel⟩
end Go.Proofs.Sm
namespace Go.Proofs.Sm
open Go.RowKit
theorem any_due {l:List ByteArray} {x:ByteArray} {b:Bool} (h:b=true↔x∈l):l.any (eqS x)=b:=by
 rw [Bool.eq_iff_iff,h,List.any_eq_true]
 exact ⟨fun ⟨y,hy,e⟩=>by rw [eqS,beq_iff_eq] at e; have e2:y=x:=bytes_eq (by rw [←Lib.toList_data,←Lib.toList_data]; exact e); rw [←e2]; exact hy,fun h=>⟨x,h,by simp [eqS]⟩⟩
set_option maxHeartbeats 2000000 in
set_option maxRecDepth 100000 in
theorem law_because (A B D:Option Addr) (n c m d nd cd:Nat) (l:List RuleV) (F:List FileV) (name:ByteArray) (ms:List MemoryV) (w:World) (hE:Env2 w) (hsl:Sl w (Lt w.heap.size) A n l) (hF:Sl w (Lt w.heap.size) B m F) (hn:name.size≤maxLen) (hms:Sl w (Lt w.heap.size) D nd ms) :
 Calls Tryz.prog 6 #[.slice A n c,.slice B m d,.string name,.slice D nd cd] w fun e w'=>e=.returned (.bool true)∧Below w.heap.size w w':=by
 have HB:=Lib.hid (steps_Because A B D n c m d nd cd l F name ms w hE hsl hF hn hms)
 have HD:=Lib.hid (fun (w1:World) (hb:Below w.heap.size w w1)=>steps_Due A B (some ⟨w1.heap.size,0,none⟩) D n c m d 1 1 nd cd l F [name] ms (w1.alloc (.cells #[.string name] 9)) (hE.then_ (fr_alloc hb _)) (sl_call hsl (fr_alloc hb _) (Nat.le_refl _)) (sl_call hF (fr_alloc hb _) (Nat.le_refl _)) (sl_new1 w1 name hn) (sl_call hms (fr_alloc hb _) (Nat.le_refl _)))
 clear hsl hF hms
 go_enter Tryz.func6,Tryz.ntmps6
 go_wp2_with fail
 refine HB.out.mono ?_
 rintro e w1 ⟨A1,n1,c1,is,f,rfl,hbad,hgood,hb1⟩
 by_cases hf:f=0
 ·subst hf
  obtain ⟨b,hbu,hdue,hemp⟩:=hgood rfl
  have hbx:=fr_alloc hb1 (.cells #[.string name] 9)
  clear hbad hgood
  go_wp2_with fail
  refine (HD.out _ hb1).mono ?_
  rintro e w2 ⟨A4,n4,c4,g,y,rfl,hy,s4,hb2⟩
  have hb02:=fr_call hbx hb2
  obtain ⟨rfl,rfl⟩:=hbu.same hy
  have HA:=Lib.hid (any_due hdue)
  have HC:=Lib.hid (slices_ContainsStr A4 n4 c4 (dueS y.steps) name w2 s4)
  clear hbu hy hdue s4
  go_wp2_with fail
  refine HC.out.mono ?_
  rintro e w3 ⟨rfl,rfl⟩
  rw [HA.out]
  cases is
  ·obtain rfl:=hemp rfl
   clear hemp
   go_wp2_with fail
   refine (law6_awake _ (hE.then_ hb02).toEnv).mono ?_
   rintro e wz ⟨rfl,hbz⟩
   go_wp2
   go_ret
   exact ⟨rfl,fr_call hb02 hbz⟩
  ·clear hemp
   go_wp2_with fail
   refine (law6_awake _ (hE.then_ hb02).toEnv).mono ?_
   rintro e wz ⟨rfl,hbz⟩
   go_wp2
   go_ret
   exact ⟨rfl,fr_call hb02 hbz⟩
 ·have hfz:(f == 0)=false:=by simpa using hf
  obtain ⟨rfl,rfl⟩:=hbad hf
  clear hbad hgood hf
  go_wp2_with fail
  refine (law6_awake _ (hE.then_ hb1).toEnv).mono ?_
  rintro e wz ⟨rfl,hbz⟩
  go_wp2
  go_ret
  exact ⟨rfl,fr_call hb1 hbz⟩
end Go.Proofs.Sm
namespace Go.Proofs.Sm
open Go.RowKit Go.ChangeShapes Go.WideShapes Go.ChangeAt
section
variable {H:Type} {enc:TypeId × Value→H} {w:World} {base:Nat} {spare:Nat→Bool} {held:Bool}
theorem dec_look:Dec enc Tryz.prog w base spare held 109 Look:=fun fuel cs d h=>by
 obtain ⟨xs,n,_,_,hlen,hxl,hf⟩:=DataW.trod_struct Tryz.underlying109 h
 have hc:Tryz.prog.cellsOf 109=3:=by kernel_rfl
 have cS:Tryz.prog.cellsOf 9=1:=by kernel_rfl
 have cB:Tryz.prog.cellsOf 4=1:=by kernel_rfl
 rw [hc] at hlen
 have hxl':xs.length=3:=hxl
 obtain ⟨a,b,c,rfl⟩:=three_of hlen
 ·-- the three cells
  obtain ⟨y0,e0⟩:=at_some hxl' (show 0 < 3 by decide)
  obtain ⟨y1,e1⟩:=at_some hxl' (show 1 < 3 by decide)
  obtain ⟨y2,e2⟩:=at_some hxl' (show 2 < 3 by decide)
  have f0:DataW.trod enc Tryz.prog w base spare held n 9 [a]=some y0:=by
   have h:=(hf 0 _ rfl).trans e0
   change DataW.trod enc _ w base spare held n 9 (List.take (Tryz.prog.cellsOf 9) (List.drop 0 [a,b,c]))=some y0 at h
   rw [cS] at h
   exact h
  have f1:DataW.trod enc Tryz.prog w base spare held n 9 [b]=some y1:=by
   have h:=(hf 1 _ rfl).trans e1
   change DataW.trod enc _ w base spare held n 9 (List.take (Tryz.prog.cellsOf 9) (List.drop 1 [a,b,c]))=some y1 at h
   rw [cS] at h
   exact h
  have f2:DataW.trod enc Tryz.prog w base spare held n 4 [c]=some y2:=by
   have h:=(hf 2 _ rfl).trans e2
   change DataW.trod enc _ w base spare held n 4 (List.take (Tryz.prog.cellsOf 4) (List.drop 2 [a,b,c]))=some y2 at h
   rw [cB] at h
   exact h
  obtain ⟨s0,h0,_,z0⟩:=DataW.trod_string Tryz.underlying9 f0
  obtain ⟨s1,h1,_,z1⟩:=DataW.trod_string Tryz.underlying9 f1
  obtain ⟨r,h2,_⟩:=DataW.trod_bool Tryz.underlying4 f2
  cases h0; cases h1; cases h2
  exact ⟨⟨s0,s1,r⟩,rfl,z0,z1⟩
theorem dec_looks:Dec enc Tryz.prog w base spare held 39 (List Look):=dec_slice Tryz.underlying39 (by kernel_rfl) (by decide) dec_look
end
end Go.Proofs.Sm
namespace Go.Proofs.Sm
open Go.RowKit Go.ChangeShapes Go.WideShapes Go.ChangeAt
section
variable {H:Type} {enc:TypeId × Value→H} {w:World} {base:Nat} {spare:Nat→Bool} {held:Bool}
theorem five_of {α:Type} {l:List α} (h:l.length=5):∃ a b c d e,l=[a,b,c,d,e]:=by
 rcases l with _ | ⟨a,_ | ⟨b,_ | ⟨c,_ | ⟨d,_ | ⟨e,_ | ⟨f,r⟩⟩⟩⟩⟩⟩
 all_goals (try (simp at h; done))
 exact ⟨a,b,c,d,e,rfl⟩
end
end Go.Proofs.Sm
namespace Go.Proofs.Sm
open Go.RowKit Go.ChangeShapes Go.WideShapes Go.ChangeAt
section
variable {H:Type} {enc:TypeId × Value→H} {w:World} {base:Nat} {spare:Nat→Bool} {held:Bool}
theorem result_caps {cs:List Value} {fuel:Nat} {d:DataW H × List MemPlace} (h:DataW.trod enc Tryz.prog w base spare held fuel 41 cs=some d) :
 ∃ r A n c B m e,ResIs w r A n B m∧(n≤c∧c≤maxLen∧m≤e∧e≤maxLen)∧cs=[.int .i64 r.code,.string r.text,.slice A n c,.slice B m e,.int .i64 r.command]:=by
 obtain ⟨xs,n,_,_,hlen,hxl,hf⟩:=DataW.trod_struct Tryz.underlying41 h
 have hc:Tryz.prog.cellsOf 41=5:=by kernel_rfl
 have cI:Tryz.prog.cellsOf 3=1:=by kernel_rfl
 have cS:Tryz.prog.cellsOf 9=1:=by kernel_rfl
 have cF:Tryz.prog.cellsOf 23=1:=by kernel_rfl
 have cL:Tryz.prog.cellsOf 39=1:=by kernel_rfl
 rw [hc] at hlen
 have hxl':xs.length=5:=hxl
 obtain ⟨a0,a1,a2,a3,a4,rfl⟩:=five_of hlen
 obtain ⟨y0,e0⟩:=at_some hxl' (show 0 < 5 by decide)
 obtain ⟨y1,e1⟩:=at_some hxl' (show 1 < 5 by decide)
 obtain ⟨y2,e2⟩:=at_some hxl' (show 2 < 5 by decide)
 obtain ⟨y3,e3⟩:=at_some hxl' (show 3 < 5 by decide)
 obtain ⟨y4,e4⟩:=at_some hxl' (show 4 < 5 by decide)
 have f0:DataW.trod enc Tryz.prog w base spare held n 3 [a0]=some y0:=by
  have h:=(hf 0 _ rfl).trans e0
  change DataW.trod enc _ w base spare held n 3 (List.take (Tryz.prog.cellsOf 3) (List.drop 0 [a0,a1,a2,a3,a4]))=some y0 at h
  rw [cI] at h
  exact h
 have f1:DataW.trod enc Tryz.prog w base spare held n 9 [a1]=some y1:=by
  have h:=(hf 1 _ rfl).trans e1
  change DataW.trod enc _ w base spare held n 9 (List.take (Tryz.prog.cellsOf 9) (List.drop 1 [a0,a1,a2,a3,a4]))=some y1 at h
  rw [cS] at h
  exact h
 have f2:DataW.trod enc Tryz.prog w base spare held n 23 [a2]=some y2:=by
  have h:=(hf 2 _ rfl).trans e2
  change DataW.trod enc _ w base spare held n 23 (List.take (Tryz.prog.cellsOf 23) (List.drop 2 [a0,a1,a2,a3,a4]))=some y2 at h
  rw [cF] at h
  exact h
 have f3:DataW.trod enc Tryz.prog w base spare held n 39 [a3]=some y3:=by
  have h:=(hf 3 _ rfl).trans e3
  change DataW.trod enc _ w base spare held n 39 (List.take (Tryz.prog.cellsOf 39) (List.drop 3 [a0,a1,a2,a3,a4]))=some y3 at h
  rw [cL] at h
  exact h
 have f4:DataW.trod enc Tryz.prog w base spare held n 3 [a4]=some y4:=by
  have h:=(hf 4 _ rfl).trans e4
  change DataW.trod enc _ w base spare held n 3 (List.take (Tryz.prog.cellsOf 3) (List.drop 4 [a0,a1,a2,a3,a4]))=some y4 at h
  rw [cI] at h
  exact h
 obtain ⟨n0,r0,z0⟩:=dec_int Tryz.underlying3 _ _ _ f0
 obtain ⟨s1,r1,z1⟩:=dec_string Tryz.underlying9 _ _ _ f1
 obtain ⟨l2,A,k2,c2,r2,u2,v2,z2⟩:=dec_files _ _ _ f2
 obtain ⟨l3,B,k3,c3,r3,u3,v3,z3⟩:=dec_looks _ _ _ f3
 obtain ⟨n4,r4,z4⟩:=dec_int Tryz.underlying3 _ _ _ f4
 cases r0; cases r1; cases r2; cases r3; cases r4
 exact ⟨⟨n0,s1,l2,l3,n4⟩,A,k2,c2,B,k3,c3,⟨z0,z1,z2,z3,z4⟩,⟨u2,v2,u3,v3⟩,rfl⟩
theorem dec_memory:Dec enc Tryz.prog w base spare held 43 MemoryV:=fun fuel cs d h=>by
 obtain ⟨xs,n,_,_,hlen,hxl,hf⟩:=DataW.trod_struct Tryz.underlying43 h
 have hc:Tryz.prog.cellsOf 43=8:=by kernel_rfl
 have cS:Tryz.prog.cellsOf 9=1:=by kernel_rfl
 have cR:Tryz.prog.cellsOf 41=5:=by kernel_rfl
 have cL:Tryz.prog.cellsOf 39=1:=by kernel_rfl
 rw [hc] at hlen
 have hxl':xs.length=4:=hxl
 obtain ⟨a0,a1,a2,a3,a4,a5,a6,a7,rfl⟩:=eight_of hlen
 obtain ⟨y0,e0⟩:=at_some hxl' (show 0 < 4 by decide)
 obtain ⟨y1,e1⟩:=at_some hxl' (show 1 < 4 by decide)
 obtain ⟨y2,e2⟩:=at_some hxl' (show 2 < 4 by decide)
 obtain ⟨y3,e3⟩:=at_some hxl' (show 3 < 4 by decide)
 have f0:DataW.trod enc Tryz.prog w base spare held n 9 [a0]=some y0:=by
  have h:=(hf 0 _ rfl).trans e0
  change DataW.trod enc _ w base spare held n 9 (List.take (Tryz.prog.cellsOf 9) (List.drop 0 [a0,a1,a2,a3,a4,a5,a6,a7]))=some y0 at h
  rw [cS] at h
  exact h
 have f1:DataW.trod enc Tryz.prog w base spare held n 9 [a1]=some y1:=by
  have h:=(hf 1 _ rfl).trans e1
  change DataW.trod enc _ w base spare held n 9 (List.take (Tryz.prog.cellsOf 9) (List.drop 1 [a0,a1,a2,a3,a4,a5,a6,a7]))=some y1 at h
  rw [cS] at h
  exact h
 have f2:DataW.trod enc Tryz.prog w base spare held n 39 [a2]=some y2:=by
  have h:=(hf 2 _ rfl).trans e2
  change DataW.trod enc _ w base spare held n 39 (List.take (Tryz.prog.cellsOf 39) (List.drop 2 [a0,a1,a2,a3,a4,a5,a6,a7]))=some y2 at h
  rw [cL] at h
  exact h
 have f3:DataW.trod enc Tryz.prog w base spare held n 41 [a3,a4,a5,a6,a7]=some y3:=by
  have h:=(hf 3 _ rfl).trans e3
  change DataW.trod enc _ w base spare held n 41 (List.take (Tryz.prog.cellsOf 41) (List.drop 3 [a0,a1,a2,a3,a4,a5,a6,a7]))=some y3 at h
  rw [cR] at h
  exact h
 obtain ⟨s0,h0,_,z0⟩:=DataW.trod_string Tryz.underlying9 f0
 obtain ⟨s1,h1,_,z1⟩:=DataW.trod_string Tryz.underlying9 f1
 obtain ⟨l2,A,n2,c2,h2,u2,v2,z2⟩:=dec_looks _ _ _ f2
 obtain ⟨r,B,m,d',C,p,q,hR,hcap,hcs⟩:=result_caps f3
 cases h0; cases h1; cases h2; cases hcs
 obtain ⟨g1,g2,g3,g4,g5⟩:=hR
 obtain ⟨k1,k2,k3,k4⟩:=hcap
 exact ⟨⟨s0,s1,l2,r⟩,A,n2,c2,B,m,d',C,p,q,rfl,⟨z0,z1,g2,g1,g5⟩,⟨u2,v2,k1,k2,k3,k4⟩,z2,g3,g4⟩
theorem dec_mems:Dec enc Tryz.prog w base spare held 26 (List MemoryV):=dec_slice Tryz.underlying26 (by kernel_rfl) (by decide) dec_memory
end
end Go.Proofs.Sm
