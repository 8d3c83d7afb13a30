/- After a change a rule need not run if none of its sources changed, and all that it needs is as before, or Early: the given statement, for all arguments; no condition. -/
import Derived.Test.YtaabdbephemboaaGreatDoorBx1
import Derived.Test.YtaabdbephemboaaGreatDoorBx2
import Derived.Test.YtaabdbephemboaaGreatDoorBx3
import Derived.Test.YtaabdbephemboaaGreatDoorBx4
import Derived.Test.YtaabdbephemboaaGreatDoorBx5
import Derived.Test.YtaabdbephemboaaGreatDoorBx6
import Derived.Test.YtaabdbephemboaaGreatDoorBx7
import Derived.Test.YtaabdbephemboaaGreatDoorBx8
import Derived.Test.YtaabdbephemboaaGreatDoorBx9
import Derived.Test.YtaabdbephemboaaGreatDoorBx10
import Derived.Test.YtaabdbephemboaaGreatDoorBx11
import Derived.Test.YtaabdbephemboaaGreatDoorBx12
import Derived.Test.YtaabdbephemboaaGreatDoorBx13
import Derived.Test.YtaabdbephemboaaGreatDoorBx14
import Derived.Test.YtaabdbephemboaaGreatDoorBx15
import Derived.Test.YtaabdbephemboaaGreatDoorBx16
import Derived.Test.YtaabdbephemboaaGreatDoorBx17
import Derived.Test.YtaabdbephemboaaGreatDoorBx18
import Derived.Test.YtaabdbephemboaaGreatDoorBx19
import Derived.Test.YtaabdbephemboaaGreatDoorBx20
import Derived.Test.YtaabdbephemboaaGreatDoorBx21
import Derived.Test.YtaabdbephemboaaGreatDoorBx22
import Derived.Test.YtaabdbephemboaaGreatDoorBx23
import Derived.Test.YtaabdbephemboaaGreatDoorBx24
import Derived.Test.YtaabdbephemboaaGreatDoorBx25
import Derived.Test.YtaabdbephemboaaGreatDoorBx26
import Derived.Test.YtaabdbephemboaaGreatDoorBx27
import Derived.Test.YtaabdbephemboaaGreatDoorBx28
import Derived.Test.YtaabdbephemboaaGreatDoorBx29
import Derived.Test.YtaabdbephemboaaGreatDoorBx30
import Derived.Test.YtaabdbephemboaaGreatDoorBx31
import Derived.Test.YtaabdbephemboaaGreatDoorBx32
import Derived.Test.YtaabdbephemboaaGreatDoorBx33
import Derived.Test.YtaabdbephemboaaGreatDoorBx34
import Derived.Test.YtaabdbephemboaaGreatDoorBx35
import Derived.Test.YtaabdbephemboaaGreatDoorBx36
import Derived.Test.YtaabdbephemboaaGreatDoorT25x2
import Derived.Deep.QuietTactic
import Derived.Test.YtaabdbephemboaaGreatDoorCardZRC25
namespace Go.Proofs.Sm
open Go.RowKit
def SrcOk (l:List RuleV) (CH:List ByteArray) (y:StepV) (t:Nat):Prop:=∀ k r,k < t→l[k]?=some r→r.name.toList=y.name.toList→∀ p∈r.inputs,hasB CH p=false
def SrcAt (CH:List ByteArray) (r:RuleV) (y:StepV) (j:Nat):Prop:=r.name.toList=y.name.toList→∀ p∈r.inputs.take j,hasB CH p=false
def NeedOk (E:List VarV) (X:List StepV) (i:Nat) (y:StepV) (t:Nat):Prop:=∀ k e,k < t→E[k]?=some e→e.name.toList=y.name.toList→∀ (j:Nat) (z:StepV),j < i→X[j]?=some z→e.value.toList=z.name.toList→z.what=2∨z.early=true
def NeedTo (e:VarV) (X:List StepV) (y:StepV) (i:Nat):Prop:=e.name.toList=y.name.toList→∀ (j:Nat) (z:StepV),j < i→X[j]?=some z→e.value.toList=z.name.toList→z.what=2∨z.early=true
section
variable {l:List RuleV} {CH:List ByteArray} {y z:StepV} {t i j:Nat} {r:RuleV} {p:ByteArray} {E:List VarV} {e:VarV} {X:List StepV} {b:Bool} {Q:Prop}
theorem src_zero:SrcOk l CH y 0:=fun _ _ h=>absurd h (Nat.not_lt_zero _)
theorem srcAt_zero:SrcAt CH r y 0:=fun _ p hp=>by cases hp
theorem srcAt_more (h:SrcAt CH r y j) (hp:r.inputs[j]?=some p) (hc:CH.any (eqS p)=false):SrcAt CH r y (j + 1):=fun hn q hq=>by
 rw [List.take_add_one,hp,List.mem_append] at hq
 rcases hq with hq | hq
 ·exact h hn q hq
 ·obtain rfl:q=p:=by simpa using hq
  exact hc
theorem src_more (h:SrcOk l CH y t) (hr:l[t]?=some r) (ha:SrcAt CH r y j) (hj:r.inputs.length≤j):SrcOk l CH y (t + 1):=fun k q hk hq hn p hp=>by
 rcases Nat.lt_succ_iff_lt_or_eq.1 hk with h1 | h1
 ·exact h k q h1 hq hn p hp
 ·subst h1
  rw [hr] at hq; cases hq
  exact ha hn p (by rw [List.take_of_length_le hj]; exact hp)
theorem src_other (h:SrcOk l CH y t) (hr:l[t]?=some r) (hne:(r.name.toList == y.name.toList)=false):SrcOk l CH y (t + 1):=fun k q hk hq hn p hp=>by
 rcases Nat.lt_succ_iff_lt_or_eq.1 hk with h1 | h1
 ·exact h k q h1 hq hn p hp
 ·subst h1
  rw [hr] at hq; cases hq
  rw [hn] at hne; simp at hne
theorem need_zero:NeedOk E X i y 0:=fun _ _ h=>absurd h (Nat.not_lt_zero _)
theorem needTo_zero:NeedTo e X y 0:=fun _ _ _ h=>absurd h (Nat.not_lt_zero _)
theorem needTo_more (h:NeedTo e X y j) (hz:X[j]?=some z) (hc:e.value.toList=z.name.toList→z.what=2∨z.early=true):NeedTo e X y (j + 1):=fun hn k q hk hq hv=>by
 rcases Nat.lt_succ_iff_lt_or_eq.1 hk with h1 | h1
 ·exact h hn k q h1 hq hv
 ·subst h1
  rw [hz] at hq; cases hq
  exact hc hv
theorem need_more (h:NeedOk E X i y t) (he:E[t]?=some e) (ha:NeedTo e X y i):NeedOk E X i y (t + 1):=fun k q hk hq hn=>by
 rcases Nat.lt_succ_iff_lt_or_eq.1 hk with h1 | h1
 ·exact h k q h1 hq hn
 ·subst h1
  rw [he] at hq; cases hq
  exact ha hn
theorem need_other (h:NeedOk E X i y t) (he:E[t]?=some e) (hne:(e.name.toList == y.name.toList)=false):NeedOk E X i y (t + 1):=fun k q hk hq hn=>by
 rcases Nat.lt_succ_iff_lt_or_eq.1 hk with h1 | h1
 ·exact h k q h1 hq hn
 ·subst h1
  rw [he] at hq; cases hq
  rw [hn] at hne; simp at hne
end
set_option maxHeartbeats 0 in
set_option maxRecDepth 100000 in
theorem law_early (A B D C:Option Addr) (n c m d nd cd nw cw:Nat) (l:List RuleV) (F G:List FileV) (ws:List ByteArray) (w:World) (hE:Env2 w) (hsl:Sl w (Lt w.heap.size) A n l) (hF:Sl w (Lt w.heap.size) B m F) (hG:Sl w (Lt w.heap.size) D nd G) (hws:Sl w (Lt w.heap.size) C nw ws) :
 Calls Tryz.prog 5 #[.slice A n c,.slice B m d,.slice D nd cd,.slice C nw cw] w fun e w'=>e=.returned (.bool true)∧Below w.heap.size w w':=by
 have HB:=Lib.hid (steps_Fresh A B C n c m d nw cw l F ws w hE hsl hF hws)
 have HD1:=Lib.hid (fun (w1:World) (hb:Below w.heap.size w w1) (A3:Option Addr) (n3 c3:Nat) (ms:List MemoryV) (h3:Sl w1 (Lt w1.heap.size) A3 n3 ms)=>steps_Again A D C A3 n c nd cd nw cw n3 c3 l G ws ms w1 (hE.then_ hb) (sl_call hsl hb (Nat.le_refl _)) (sl_call hG hb (Nat.le_refl _)) (sl_call hws hb (Nat.le_refl _)) h3)
 have HEd:=Lib.hid (fun (w1:World) (hb:Below w.heap.size w w1)=>steps_Edges A n c l w1 (hE.then_ hb).toEnv (sl_call hsl hb (Nat.le_refl _)))
 have HC:=Lib.hid (fun (w1:World) (hb:Below w.heap.size w w1) (h1:F.length≤1000) (h2:G.length≤1000)=>law6_changedIn B m d F D nd cd G w1 (sl_call hF hb (Nat.le_refl _)) (sl_call hG hb (Nat.le_refl _)) (by have:=hF.1; omega) (by have:=hG.1; omega))
 have HSz:=Lib.hid (edges_sizes (names_le hsl))
 have hn9:n≤9223372036854775807:=hsl.2.1
 have HLn:=Lib.hid hsl.1
 have HSl:=Lib.hid (fun (w1:World) (hb:Below w.heap.size w w1)=>sl_call hsl hb (Nat.le_refl _))
 clear hsl hF hws hG
 go_enter Tryz.func5,Tryz.ntmps5
 go_wp2_with fail
 refine HB.out.mono ?_
 rintro e w1 ⟨A1,n1,c1,A2,n2,c2,A3,n3,c3,f,a,rfl,hbu,s1,_,s3,_,_,_,hb1⟩
 have hbx:=fr_alloc hb1 (.cells #[.slice A1 n1 c1,.slice A2 n2 c2,.slice A3 n3 c3] 28)
 have hbx1:=fr_alloc (fr_refl w1) (.cells #[.slice A1 n1 c1,.slice A2 n2 c2,.slice A3 n3 c3] 28)
 have hA:Arr (w1.alloc (.cells #[.slice A1 n1 c1,.slice A2 n2 c2,.slice A3 n3 c3] 28)) w1.heap.size 28 [.slice A1 n1 c1,.slice A2 n2 c2,.slice A3 n3 c3]:=heap_alloc_new w1 _
 have HS3:=Lib.hid (sl_call s3 hbx1 (Nat.le_refl _))
 have s1:=sl_call s1 hbx1 (Nat.le_refl _)
 have HBu:=Lib.hid hbu
 clear s3 hbu hbx1
 by_cases hf:f=0
 ·subst hf
  go_wp2_with fail
  refine (HD1.out _ hbx A3 n3 c3 a.memory HS3.out).mono ?_
  rintro e w2 ⟨A4,n4,c4,A5,n5,c5,A6,n6,c6,g,x,rfl,hx,s4,_,_,_,_,_,hb2⟩
  have hb02:=fr_alloc (fr_call hbx hb2) (.cells #[.slice A4 n4 c4,.slice A5 n5 c5,.slice A6 n6 c6] 28)
  have hbx2:=fr_alloc hb2 (.cells #[.slice A4 n4 c4,.slice A5 n5 c5,.slice A6 n6 c6] 28)
  have hbx3:=fr_alloc (fr_refl w2) (.cells #[.slice A4 n4 c4,.slice A5 n5 c5,.slice A6 n6 c6] 28)
  have hA2:=hA.call hbx2
  have hB2:Arr (w2.alloc (.cells #[.slice A4 n4 c4,.slice A5 n5 c5,.slice A6 n6 c6] 28)) w2.heap.size 28 [.slice A4 n4 c4,.slice A5 n5 c5,.slice A6 n6 c6]:=heap_alloc_new w2 _
  have s1:=sl_call s1 hbx2 (Nat.le_refl _)
  have s4:=sl_call s4 hbx3 (Nat.le_refl _)
  have HX:=Lib.hid hx
  clear hx hA hbx2 hbx3
  by_cases hg:g=0
  ·subst hg
   obtain ⟨hlen,hstill⟩:=built_early HBu.out HX.out
   have hc0:=HBu.out.rules
   obtain rfl:n4=n1:=by rw [←s4.1,←s1.1]; exact hlen
   go_wp2_with fail
   refine (HEd.out _ hb02).mono ?_
   rintro e w3 ⟨v3,rfl,_,hgood3,hb3⟩
   obtain ⟨q,hq,hown⟩:=hgood3 hc0
   rw [hc0]
   obtain ⟨A7,c7,rfl,hel⟩:=edges_sl HSz.out hown
   have hb03:=fr_call hb02 hb3
   have hA3:=hA2.call hb3
   have hB3:=hB2.call hb3
   have s1:=sl_call s1 hb3 (Nat.le_refl _)
   have s4:=sl_call s4 hb3 (Nat.le_refl _)
   have ea:=hA3.cell (i:=0) rfl
   have eb:=hB3.cell (i:=0) rfl
   have la:=hA3.lt
   have lb:=hB3.lt
   clear hgood3 hq hown hc0 hA2 hB2 hlen hb2
   go_wp2_with fail
   refine (HC.out _ hb03 (checkFiles_err HBu.out.filesOk).1 (checkFiles_err HX.out.filesOk).1).mono ?_
   rintro e w4 ⟨A8,n8,c8,rfl,s8,hb4⟩
   have hb04:=fr_call hb03 hb4
   have hA4:=hA3.call hb4
   have hB4:=hB3.call hb4
   have s1:=sl_call s1 hb4 (Nat.le_refl _)
   have s4:=sl_call s4 hb4 (Nat.le_refl _)
   have hel:=sl_call hel hb4 (Nat.le_refl _)
   have hEI:(edgesS l).length≤9223372036854775807:=hel.2.1
   have hn49:n4≤9223372036854775807:=s4.2.1
   have HSt:=Lib.hid hstill
   have HA:=Lib.hid (fun wr (hb:Below w4.heap.size w4 wr)=>hA4.call hb)
   have HBb:=Lib.hid (fun wr (hb:Below w4.heap.size w4 wr)=>hB4.call hb)
   have HS1:=Lib.hid (fun wr (hb:Below w4.heap.size w4 wr)=>sl_call s1 hb (Nat.le_refl _))
   have HS4:=Lib.hid (fun wr (hb:Below w4.heap.size w4 wr)=>sl_call s4 hb (Nat.le_refl _))
   have HSr:=Lib.hid (fun wr (hb:Below w4.heap.size w4 wr)=>HSl.out wr (fr_call hb04 hb))
   have HSe:=Lib.hid (fun wr (hb:Below w4.heap.size w4 wr)=>sl_call hel hb (Nat.le_refl _))
   have HSp:=Lib.hid (fun s wr (hb:Below w4.heap.size w4 wr)=>slices_ContainsStr A8 n8 c8 (changedS F G) s wr (sl_call s8 hb (Nat.le_refl _)))
   have HB4:=Lib.hid hb04
   obtain ⟨CH,hCH⟩:∃ CH,CH=changedS F G:=⟨_,rfl⟩
   obtain ⟨ED,hED⟩:∃ ED,ED=edgesS l:=⟨_,rfl⟩
   rw [←hCH] at HSp HSt
   rw [←hED] at HSt HSe hEI ⊢
   clear hCH hED hA3 hB3 hA4 hB4 s1 s4 hel s8 ea eb la lb hstill hb3 hb4 hb03 hb02 hb04
   go_wp2
   go_loopw [14] (fun iv wr=>∃ k:Nat,k≤n4∧iv=.int .i64 k∧Below w4.heap.size w4 wr) (fun iv _=>n4 - (intOf iv).toNat)
   case atStart=>exact ⟨0,Nat.zero_le _,rfl,Below.refl _ _⟩
   case round =>
    obtain ⟨k,hk,rfl,hbel⟩:=hrel
    have eb:=(HBb.out _ hbel).cell (i:=0) rfl
    have lb:=(HBb.out _ hbel).lt
    by_cases hlt:k < n4
    ·have hkI:(k:Int) < (n4:Int):=by omega
     have ea:=(HA.out _ hbel).cell (i:=0) rfl
     have la:=(HA.out _ hbel).lt
     obtain ⟨_,_,s,rfl,_,hs,_,_,d0,d1,d2⟩:=(HS1.out _ hbel).step hlt
     obtain ⟨g4,o4,y,rfl,hg4,hy,_,_,_,_,_⟩:=(HS4.out _ hbel).step hlt
     have HY:=Lib.hid hy
     have HF:=Lib.hid (fun (h1:s.what=1) (h2:SrcOk l CH y n) (h3:NeedOk ED x.steps k y ED.length)=>(show y.what=2 from
      HSt.out k s y hs hy h1 (fun k' r hr hn p hp=>h2 k' r (by rw [←HLn.out]; exact (List.getElem?_eq_some_iff.1 hr).1) hr hn p hp) (fun j z hj hz ⟨e,he,hen,hev⟩=>by
       obtain ⟨q,hq⟩:=List.getElem?_of_mem he
       exact h3 q e (List.getElem?_eq_some_iff.1 hq).1 hq hen j z hj hz hev)))
     have HNm:=Lib.hid (fun wr (hb:Below w4.heap.size w4 wr)=>(show wr.cell? ⟨g4,o4 + k * 3,none⟩=some (.string y.name)∧wr.cell? ⟨g4,o4 + k * 3 + 1,none⟩=some (.int .i64 y.what)∧g4 < wr.heap.size from by
      obtain ⟨g5,o5,y',e1,hg5,hy',_,_,d0,d1,d2⟩:=(HS4.out _ hb).step hlt
      cases e1
      rw [HY.out] at hy'
      cases hy'
      exact ⟨d0,d1,hg5⟩))
     clear hs hy
     go_wp2
     go_loopw [15,16] (fun sv iv wr=>∃ (t:Nat) (b:Bool),t≤n∧iv=.int .i64 t∧sv=.bool b∧(b=true→s.what=1∧SrcOk l CH y t)∧Below w4.heap.size w4 wr) (fun _ iv _=>n - (intOf iv).toNat)
     case atStart=>exact ⟨0,s.what == 1,Nat.zero_le _,rfl,rfl,fun h=>⟨by simpa using h,src_zero⟩,hbel⟩
     case round =>
      clear hbel ea la d0 d1 d2 eb lb
      obtain ⟨t,b,ht,rfl,rfl,hb,hbel⟩:=hrel
      have eb:=(HBb.out _ hbel).cell (i:=0) rfl
      have lb:=(HBb.out _ hbel).lt
      by_cases htl:t < n
      ·have htI:(t:Int) < (n:Int):=by omega
       obtain ⟨g2,o2,r,rfl,hg2,hr,B1,m1,e1,B2,m2,e2,B3,m3,e3,B4,m4,e4,B5,m5,e5,_,_,⟨_,_,_,_,t5⟩,u0,_,_,_,_,_,_,u7⟩:=(HSr.out w4 (fr_refl w4)).rule htl
       have HR:=Lib.hid hr
       have hg2:g2 < w4.heap.size:=hg2
       have HRu:=Lib.hid (fun wr (hb:Below w4.heap.size w4 wr)=>(show wr.cell? ⟨g2,o2 + t * 8,none⟩=some (.string r.name)∧wr.cell? ⟨g2,o2 + t * 8 + 7,none⟩=some (.slice B5 m5 e5)∧g2 < wr.heap.size∧Sl wr (Lt wr.heap.size) B5 m5 r.inputs from
        ⟨(hb.cell (p:=⟨g2,o2 + t * 8,none⟩) hg2).trans u0,(hb.cell (p:=⟨g2,o2 + t * 8 + 7,none⟩) hg2).trans u7,Nat.lt_of_lt_of_le hg2 hb.size,sl_call t5 hb (Nat.le_refl _)⟩))
       clear u0 u7 t5
       have hm59:m5≤9223372036854775807:=(HRu.out _ hbel).2.2.2.2.1
       have HLi:=Lib.hid (HRu.out _ hbel).2.2.2.1
       clear hr
       go_wp2
       go_loopw [15,17] (fun sv iv wr=>∃ (j:Nat) (b:Bool),j≤m5∧iv=.int .i64 j∧sv=.bool b∧(b=true→(s.what=1∧SrcOk l CH y t)∧SrcAt CH r y j)∧Below w4.heap.size w4 wr) (fun _ iv _=>m5 - (intOf iv).toNat)
       case atStart=>exact ⟨0,b,Nat.zero_le _,rfl,rfl,fun h=>⟨hb h,srcAt_zero⟩,hbel⟩
       case round =>
        clear hb hbel eb lb
        obtain ⟨j,b,hj,rfl,rfl,hb,hbel⟩:=hrel
        obtain ⟨z0,z7,zl,zs⟩:=HRu.out _ hbel
        obtain ⟨y0,_,yl⟩:=HNm.out _ hbel
        have eb:=(HBb.out _ hbel).cell (i:=0) rfl
        have lb:=(HBb.out _ hbel).lt
        have HBs:=Lib.hid hb
        clear hb
        by_cases hjl:j < m5
        ·have hjI:(j:Int) < (m5:Int):=by omega
         obtain ⟨g6,o6,p,rfl,hg6,hp,hps,p0⟩:=zs.str hjl
         have HP:=Lib.hid hp
         clear hp zs
         cases hq:(r.name.toList == y.name.toList)
         ·go_wp2
          go_quiet (fail)
          go_wp2
          go_roundw
          case rel=>exact ⟨t + 1,b,by omega,by go_num,rfl,fun h=>⟨(HBs.out h).1.1,src_other (HBs.out h).1.2 HR.out hq⟩,(by first | exact hbel | exact below_drewN hbel _ | exact below_drewN (below_drewN hbel _) _)⟩
          case measure=>simp [intOf]; omega
         ·cases b
          ·go_wp2
           go_quiet (fail)
           go_wp2
           go_roundw
           case rel=>exact ⟨j + 1,false,by omega,by go_num,rfl,fun h=>(by cases h),(by first | exact hbel | exact below_drewN hbel _ | exact below_drewN (below_drewN hbel _) _)⟩
           case measure=>simp [intOf]; omega
          ·cases hc:CH.any (eqS p)
           ·go_wp2
            go_quiet (fail)
            go_wp2_with fail
            refine (HSp.out p _ (by first | exact hbel | exact below_drewN hbel _ | exact below_drewN (below_drewN hbel _) _)).mono ?_
            rintro e w6 ⟨rfl,rfl⟩
            rw [hc]
            go_wp2
            go_roundw
            case rel=>exact ⟨j + 1,true,by omega,by go_num,rfl,fun _=>⟨(HBs.out (by simp)).1,srcAt_more (HBs.out (by simp)).2 HP.out hc⟩,(by first | exact hbel | exact below_drewN hbel _ | exact below_drewN (below_drewN hbel _) _)⟩
            case measure=>simp [intOf]; omega
           ·go_wp2
            go_quiet (fail)
            go_wp2_with fail
            refine (HSp.out p _ (by first | exact hbel | exact below_drewN hbel _ | exact below_drewN (below_drewN hbel _) _)).mono ?_
            rintro e w6 ⟨rfl,rfl⟩
            rw [hc]
            go_wp2
            go_roundw
            case rel=>exact ⟨j + 1,false,by omega,by go_num,rfl,fun h=>(by cases h),(by first | exact hbel | exact below_drewN hbel _ | exact below_drewN (below_drewN hbel _) _)⟩
            case measure=>simp [intOf]; omega
        ·obtain rfl:j=m5:=by omega
         clear zs
         go_wp2
         go_quiet (fail)
         go_wp2
         go_roundw
         case rel=>exact ⟨t + 1,b,by omega,by go_num,rfl,fun h=>⟨(HBs.out h).1.1,src_more (HBs.out h).1.2 HR.out (HBs.out h).2 (by rw [HLi.out]; exact Nat.le_refl _)⟩,(by first | exact hbel | exact below_drewN hbel _ | exact below_drewN (below_drewN hbel _) _)⟩
         case measure=>simp [intOf]; omega
      ·obtain rfl:n=t:=by omega
       go_wp2
       go_loopw [15,18] (fun sv iv wr=>∃ (t:Nat) (b:Bool),t≤ED.length∧iv=.int .i64 t∧sv=.bool b∧(b=true→(s.what=1∧SrcOk l CH y n)∧NeedOk ED x.steps k y t)∧Below w4.heap.size w4 wr) (fun _ iv _=>ED.length - (intOf iv).toNat)
       case atStart=>exact ⟨0,b,Nat.zero_le _,rfl,rfl,fun h=>⟨hb h,need_zero⟩,hbel⟩
       case round =>
        clear hb hbel eb lb
        obtain ⟨t,b,ht,rfl,rfl,hb,hbel⟩:=hrel
        by_cases htl:t < ED.length
        ·have htI:(t:Int) < (ED.length:Int):=by omega
         obtain ⟨g2,o2,e,rfl,hg2,he,_,_,_,_⟩:=(HSe.out _ hbel).var htl
         have HR:=Lib.hid he
         have HRu:=Lib.hid (fun wr (hb:Below w4.heap.size w4 wr)=>(show wr.cell? ⟨g2,o2 + t * 2,none⟩=some (.string e.name)∧wr.cell? ⟨g2,o2 + t * 2 + 1,none⟩=some (.string e.value)∧g2 < wr.heap.size from by
          obtain ⟨g5,o5,e',e1,hg5,he',_,_,d0,d1⟩:=(HSe.out _ hb).var htl
          cases e1
          rw [HR.out] at he'
          cases he'
          exact ⟨d0,d1,hg5⟩))
         clear he
         go_wp2
         go_loopw [15,19] (fun sv iv wr=>∃ (j:Nat) (b:Bool),j≤k∧iv=.int .i64 j∧sv=.bool b∧(b=true→((s.what=1∧SrcOk l CH y n)∧NeedOk ED x.steps k y t)∧NeedTo e x.steps y j)∧Below w4.heap.size w4 wr) (fun _ iv _=>k - (intOf iv).toNat)
         case atStart=>exact ⟨0,b,Nat.zero_le _,rfl,rfl,fun h=>⟨hb h,needTo_zero⟩,hbel⟩
         case round =>
          clear hb hbel
          obtain ⟨j,b,hj,rfl,rfl,hb,hbel⟩:=hrel
          obtain ⟨z0,z1,zl⟩:=HRu.out _ hbel
          obtain ⟨y0,_,yl⟩:=HNm.out _ hbel
          have eb:=(HBb.out _ hbel).cell (i:=0) rfl
          have lb:=(HBb.out _ hbel).lt
          have HBs:=Lib.hid hb
          clear hb
          by_cases hjl:j < k
          ·have hjI:(j:Int) < (k:Int):=by omega
           have hjI4:(j:Int) < (n4:Int):=by omega
           cases hq:(e.name.toList == y.name.toList)
           ·go_wp2
            go_quiet (fail)
            go_wp2
            go_roundw
            case rel=>exact ⟨t + 1,b,by omega,by go_num,rfl,fun h=>⟨(HBs.out h).1.1,need_other (HBs.out h).1.2 HR.out hq⟩,(by first | exact hbel | exact below_drewN hbel _ | exact below_drewN (below_drewN hbel _) _)⟩
            case measure=>simp [intOf]; omega
           ·obtain ⟨g6,o6,z,e6,hg6,hz,_,_,x0,x1,x2⟩:=(HS4.out _ hbel).step (show j < n4 by omega)
            cases e6
            have HZ:=Lib.hid hz
            clear hz
            cases hv:(z.name.toList == e.value.toList)
            ·go_wp2
             go_quiet (fail)
             go_wp2
             go_quiet (fail)
             go_wp2
             go_roundw
             case rel=>exact ⟨j + 1,b,by omega,by go_num,rfl,fun h=>⟨(HBs.out h).1,needTo_more (HBs.out h).2 HZ.out fun e=>by rw [e] at hv; simp at hv⟩,(by first | exact hbel | exact below_drewN hbel _ | exact below_drewN (below_drewN hbel _) _)⟩
             case measure=>simp [intOf]; omega
            ·cases b
             ·go_wp2
              go_quiet (fail)
              go_wp2
              go_quiet (fail)
              go_wp2
              go_roundw
              case rel=>exact ⟨j + 1,false,by omega,by go_num,rfl,fun h=>(by cases h),(by first | exact hbel | exact below_drewN hbel _ | exact below_drewN (below_drewN hbel _) _)⟩
              case measure=>simp [intOf]; omega
             ·cases hw:(z.what == 2)
              ·cases hea:z.early
               ·rw [hea] at x2
                go_wp2
                go_quiet (fail)
                go_wp2
                go_quiet (fail)
                go_wp2
                go_roundw
                case rel=>exact ⟨j + 1,false,by omega,by go_num,rfl,fun h=>(by cases h),(by first | exact hbel | exact below_drewN hbel _ | exact below_drewN (below_drewN hbel _) _)⟩
                case measure=>simp [intOf]; omega
               ·rw [hea] at x2
                go_wp2
                go_quiet (fail)
                go_wp2
                go_quiet (fail)
                go_wp2
                go_roundw
                case rel=>exact ⟨j + 1,true,by omega,by go_num,rfl,fun _=>⟨(HBs.out (by simp)).1,needTo_more (HBs.out (by simp)).2 HZ.out fun _=>.inr hea⟩,(by first | exact hbel | exact below_drewN hbel _ | exact below_drewN (below_drewN hbel _) _)⟩
                case measure=>simp [intOf]; omega
              ·go_wp2
               go_quiet (fail)
               go_wp2
               go_quiet (fail)
               go_wp2
               go_roundw
               case rel=>exact ⟨j + 1,true,by omega,by go_num,rfl,fun _=>⟨(HBs.out (by simp)).1,needTo_more (HBs.out (by simp)).2 HZ.out fun _=>.inl (by simpa using hw)⟩,(by first | exact hbel | exact below_drewN hbel _ | exact below_drewN (below_drewN hbel _) _)⟩
               case measure=>simp [intOf]; omega
          ·obtain rfl:k=j:=by omega
           go_wp2
           go_quiet (fail)
           go_wp2
           go_roundw
           case rel=>exact ⟨t + 1,b,by omega,by go_num,rfl,fun h=>⟨(HBs.out h).1.1,need_more (HBs.out h).1.2 HR.out (HBs.out h).2⟩,(by first | exact hbel | exact below_drewN hbel _ | exact below_drewN (below_drewN hbel _) _)⟩
           case measure=>simp [intOf]; omega
        ·obtain rfl:t=ED.length:=by omega
         obtain ⟨y0,y1,yl⟩:=HNm.out _ hbel
         have eb:=(HBb.out _ hbel).cell (i:=0) rfl
         have lb:=(HBb.out _ hbel).lt
         cases b
         ·go_wp2
          go_roundw
          case rel=>exact ⟨k + 1,by omega,by go_num,hbel⟩
          case measure=>simp [intOf]; omega
         ·have hw:=HF.out (hb rfl).1.1 (hb rfl).1.2 (hb rfl).2
          rw [hw] at y1
          clear hb
          go_wp2
          go_roundw
          case rel=>exact ⟨k + 1,by omega,by go_num,hbel⟩
          case measure=>simp [intOf]; omega
    ·go_wp2_with fail
     refine (law6_awake _ (hE.then_ (fr_call HB4.out hbel)).toEnv).mono ?_
     rintro e wz ⟨rfl,hbz⟩
     go_wp2
     go_ret
     exact ⟨rfl,fr_call (fr_call HB4.out hbel) hbz⟩
  ·have hgz:(g == 0)=false:=by simpa using hg
   have hem:=HX.out.empty hg
   obtain rfl:n4=0:=by have:=s4.1; rw [hem] at this; exact this.symm
   clear hem hg s4
   go_wp2_with fail
   refine (law6_awake _ (hE.then_ hb02).toEnv).mono ?_
   rintro e wz ⟨rfl,hbz⟩
   go_wp2
   go_ret
   exact ⟨rfl,fr_call hb02 hbz⟩
 ·have hfz:(f == 0)=false:=by simpa using hf
  have hem:=(HBu.out).empty hf
  obtain rfl:n1=0:=by have:=s1.1; rw [hem] at this; exact this.symm
  clear hem hf HBu
  go_wp2_with fail
  refine (law6_awake _ (hE.then_ hbx).toEnv).mono ?_
  rintro e wz ⟨rfl,hbz⟩
  go_wp2
  go_ret
  exact ⟨rfl,fr_call hbx hbz⟩
end Go.Proofs.Sm
namespace Go.Proofs.YtaabdbephemboaaGreatDoor.early
open Go.ChangeShapes Go.WideShapes Go.ChangeAt Go.RowKit Go.Proofs.Sm
noncomputable def laidWorld (os:Os):World:=errWorld (tableWorld os [(2,Rows.laid_unicode_utf8_first),(3,Rows.laid_unicode_utf8_acceptRanges),(1,Rows.laid_internal_strconv_uint64pow10),(6,Rows.laid_math_bits_deBruijn32tab),(7,Rows.laid_math_bits_deBruijn64tab)])
 322 324 [(5,[118,97,108,117,101,32,111,117,116,32,111,102,32,114,97,110,103,101]),(4,[105,110,118,97,108,105,100,32,115,121,110,116,97,120])]
theorem laid_met (os:Os) (args:Array Value):laidMet Tryz.prog Rows.stepsEarlyStopsRow.laid ((laidWorld os).forCall (fun _ _=>0) ⟨#[],args,[]⟩).memory :=
 (LaidIn.of_run (l:=Rows.stepsEarlyStopsRow.laid) (List.range 30) 8 (by kernel_rfl) (by kernel_rfl) (by kernel_rfl) (by kernel_rfl)).met
theorem reads (os:Os) {H:Type} (enc:TypeId × Value→H):∃ ds places,DataW.whole enc Tryz.prog ((laidWorld os).forCall (fun _ _=>0) ⟨#[],#[.slice none 0 0,.slice none 0 0,.slice none 0 0,.slice none 0 0],[]⟩).memory Tryz.f5.params.toList Rows.stepsEarlyStopsSpec.vars false #[Value.slice none 0 0,Value.slice none 0 0,Value.slice none 0 0,Value.slice none 0 0].toList 8=some (ds,[],places) :=
 ⟨[.nil,.nil,.nil,.nil],[],by kernel_rfl⟩
set_option maxRecDepth 100000 in
theorem contract (H:Type) (enc:TypeId × Value→H) (W:World) (base:Nat) (args:Array Value) (ds gs:List (DataW H)) (before:List MemPlace)
 (hval:∀ (j:Nat) t v,Tryz.f5.params[j]?=some t→args[j]?=some v→Value.okWide Tryz.prog W .any base t v)
 (hW:DataW.Whole enc Tryz.prog Tryz.f5.params.toList Rows.stepsEarlyStopsSpec.vars false W args.toList ds gs before) (hE:Env2 W) :
 Calls Tryz.prog 5 args W fun e W'=>∃ v,e=.returned v∧Rows.stepsEarlyStopsSpec.post enc Tryz.prog Tryz.f5 false true false false W args v W':=by
 have hW':=hW
 obtain ⟨p,q,hA0,hV,rfl,hfz,hnd⟩:=hW
 have hA:DataW.TrodAll enc Tryz.prog W 0 (fun _=>true) true Tryz.f5.params.toList args.toList ds p:=hA0
 rw [Tryz.params5] at hA hval
 obtain ⟨v0,vs0,d0,ds0,p0,q0,hargs,rfl,rfl,h0,r0⟩:=trodAll_cons hA
 obtain ⟨v1,vs1,d1,ds1,p1,q1,rfl,rfl,rfl,h1,r1⟩:=trodAll_cons r0
 obtain ⟨v2,vs2,d2,ds2,p2,q2,rfl,rfl,rfl,h2,r2⟩:=trodAll_cons r1
 obtain ⟨v3,vs3,d3,ds3,p3,q3,rfl,rfl,rfl,h3,r3⟩:=trodAll_cons r2
 obtain ⟨rfl,rfl,rfl⟩:=trodAll_nil r3
 obtain rfl:args=#[v0,v1,v2,v3]:=by cases args; simp_all
 obtain ⟨rfl,rfl⟩:=trodVars_none hV
 have k0:=h0
 have lt0:∀ x∈p0,x.block < W.heap.size:=by obtain ⟨m,hm⟩:=k0; exact DataW.trod_lt m _ _ _ hm
 have k1:=h1
 have lt1:∀ x∈p1,x.block < W.heap.size:=by obtain ⟨m,hm⟩:=k1; exact DataW.trod_lt m _ _ _ hm
 have k2:=h2
 have lt2:∀ x∈p2,x.block < W.heap.size:=by obtain ⟨m,hm⟩:=k2; exact DataW.trod_lt m _ _ _ hm
 have k3:=h3
 have lt3:∀ x∈p3,x.block < W.heap.size:=by obtain ⟨m,hm⟩:=k3; exact DataW.trod_lt m _ _ _ hm
 obtain ⟨A0,n0,c0,l0,rfl,hs0⟩:=arg_slice dec_rules (okWide_slice Tryz.underlying22 (hval 0 22 v0 rfl rfl)) h0
 obtain ⟨A1,n1,c1,l1,rfl,hs1⟩:=arg_slice dec_files (okWide_slice Tryz.underlying23 (hval 1 23 v1 rfl rfl)) h1
 obtain ⟨A2,n2,c2,l2,rfl,hs2⟩:=arg_slice dec_files (okWide_slice Tryz.underlying23 (hval 2 23 v2 rfl rfl)) h2
 obtain ⟨A3,n3,c3,l3,rfl,hs3⟩:=arg_slice dec_strs (okWide_slice Tryz.underlying24 (hval 3 24 v3 rfl rfl)) h3
 clear hA0
 refine (law_early A0 A1 A2 A3 n0 c0 n1 c1 n2 c2 n3 c3 l0 l1 l2 l3 W hE hs0 hs1 hs2 hs3).mono fun e W' ⟨he,bel⟩=>?_
 subst he
 exact ⟨_,rfl,_,_,_,[],_,[],hW',trodAll_mk1 (shut_bool Tryz.underlying4 _),(trodAll_cons_mk (Below.trod laidOut (by kernel_rfl) (of_decide_eq_true (by kernel_rfl)) k0 bel lt0) (trodAll_cons_mk (Below.trod laidOut (by kernel_rfl) (of_decide_eq_true (by kernel_rfl)) k1 bel lt1) (trodAll_cons_mk (Below.trod laidOut (by kernel_rfl) (of_decide_eq_true (by kernel_rfl)) k2 bel lt2) (trodAll_cons_mk (Below.trod laidOut (by kernel_rfl) (of_decide_eq_true (by kernel_rfl)) k3 bel lt3) trodAll_mk0)))),rfl,bel.frame _,fun h=>by cases h⟩
set_option maxRecDepth 100000 in
theorem lifted (os:Os) (started:os.Started) (H:Type) (enc:TypeId × Value→H) (F:Stop.Interp) :
 ReturnsInHanded {} Tryz.checked os 5 .any ((OpenSpec.ofChange Rows.stepsEarlyStopsSpec).preRow enc Tryz.prog Tryz.f5 Rows.stepsEarlyStopsRow.domain false Rows.stepsEarlyStopsRow.laid) (((OpenSpec.ofChange Rows.stepsEarlyStopsSpec).at F).post enc Tryz.prog Tryz.f5 false true false false):=by
 obtain ⟨d,places,hx⟩:=reads os enc
 refine returnsInHanded_of_row (C:=Tryz.checked) (s:=OpenSpec.ofChange Rows.stepsEarlyStopsSpec) own started (by kernel_rfl) Tryz.func5
  (witness_row_atRef (enc:=enc) (C:=Tryz.checked) false (laidWorld os) #[.slice none 0 0,.slice none 0 0,.slice none 0 0,.slice none 0 0] rfl (by kernel_rfl) (by kernel_rfl) (by kernel_rfl)
    (OpenSpec.preRow_of_cond 8 hx (by kernel_rfl) (fun k hk=>by cases hk) (by kernel_rfl) (laid_met os _))) ?_
 intro W base args ds gs before hval hW _ _ _ hL hS _
 exact contract H enc W base args ds gs before hval hW (env2_of hL hS (by simp [Rows.stepsEarlyStopsRow,Rows.laid_unicode_utf8_first]) (by simp [Rows.stepsEarlyStopsRow]) (by simp [Rows.stepsEarlyStopsRow]))
theorem said:Rows.StepsEarlyStopsSaid :=
 OpenClaim.holds_of_cond 5 Tryz.f5 rfl rfl rfl rfl rfl rfl rfl ⟨rfl,rfl,rfl,rfl,rfl⟩ rfl rfl rfl rfl rfl (by kernel_rfl) Tryz.func5 closed
  (of_decide_eq_true (by as_aux_lemma=>kernel_rfl)) (by unfold Func.isWrapper; first | (rw [if_pos (by decide +kernel)]; kernel_rfl) | (rw [if_neg (by decide +kernel)]; exact ⟨rfl,rfl⟩))
  (fun os started H enc _ F=>by rw [OpenClaim.pre_eq_preRow]; exact lifted os started H enc F)
theorem plain (f:FuncId) (fn:Func) (hf:Tryz.pinned.checked.prog.funcNamed Rows.stepsEarlyStopsRow.func=some f) (hfn:Tryz.pinned.checked.prog.funcs[f]?=some fn) :
 true=Tryz.pinned.checked.prog.looks []∧∀ (j:Nat) t,fn.params[j]?=some t→Tryz.pinned.checked.prog.wantsStandIn t=false:=by
 obtain rfl:f=5:=Option.some.inj ((show Tryz.prog.funcNamed Rows.stepsEarlyStopsRow.func=some 5 by kernel_rfl).symm.trans hf) |>.symm
 obtain rfl:fn=Tryz.f5:=(Option.some.inj (Tryz.func5.symm.trans hfn)).symm
 refine ⟨by kernel_rfl,fun j t ht=>?_⟩
 rw [Tryz.params5] at ht
 have hm:t=22∨t=23∨t=23∨t=24:=by simpa using Array.mem_of_getElem? ht
 rcases hm with rfl | rfl | rfl | rfl
 ·exact (show Tryz.prog.wantsStandIn 22=false by kernel_rfl)
 ·exact (show Tryz.prog.wantsStandIn 23=false by kernel_rfl)
 ·exact (show Tryz.prog.wantsStandIn 23=false by kernel_rfl)
 ·exact (show Tryz.prog.wantsStandIn 24=false by kernel_rfl)
theorem card:Rows.StepsEarlyStopsCardSaid :=
 Claim7.holds_tied_plain_at .later [] _ _ _ _ said (fun _ h=>by cases h) (by as_aux_lemma=>kernel_rfl) (fun _ h=>by cases h) stepsEarlyStops_row_tie rfl ⟨rfl,rfl⟩ (by as_aux_lemma=>kernel_rfl) rfl plain (by as_aux_lemma=>kernel_rfl)
end Go.Proofs.YtaabdbephemboaaGreatDoor.early
