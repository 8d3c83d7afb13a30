/- What is pruned of what is remembered makes no difference to what must run: the given statement, for all arguments; no condition. -/
import Derived.Test.YtaabdbephemboaaGreatDoorBx1
import Derived.Test.YtaabdbephemboaaGreatDoorBx2
import Derived.Test.YtaabdbephemboaaGreatDoorBx3
import Derived.Test.YtaabdbephemboaaGreatDoorBx4
import Derived.Test.YtaabdbephemboaaGreatDoorBx5
import Derived.Test.YtaabdbephemboaaGreatDoorBx6
import Derived.Test.YtaabdbephemboaaGreatDoorBx7
import Derived.Test.YtaabdbephemboaaGreatDoorBx8
import Derived.Test.YtaabdbephemboaaGreatDoorBx9
import Derived.Test.YtaabdbephemboaaGreatDoorBx10
import Derived.Test.YtaabdbephemboaaGreatDoorBx11
import Derived.Test.YtaabdbephemboaaGreatDoorBx12
import Derived.Test.YtaabdbephemboaaGreatDoorBx13
import Derived.Test.YtaabdbephemboaaGreatDoorBx14
import Derived.Test.YtaabdbephemboaaGreatDoorBx15
import Derived.Test.YtaabdbephemboaaGreatDoorBx16
import Derived.Test.YtaabdbephemboaaGreatDoorBx17
import Derived.Test.YtaabdbephemboaaGreatDoorBx18
import Derived.Test.YtaabdbephemboaaGreatDoorBx19
import Derived.Test.YtaabdbephemboaaGreatDoorBx20
import Derived.Test.YtaabdbephemboaaGreatDoorBx21
import Derived.Test.YtaabdbephemboaaGreatDoorBx22
import Derived.Test.YtaabdbephemboaaGreatDoorBx23
import Derived.Test.YtaabdbephemboaaGreatDoorBx24
import Derived.Test.YtaabdbephemboaaGreatDoorBx25
import Derived.Test.YtaabdbephemboaaGreatDoorBx26
import Derived.Test.YtaabdbephemboaaGreatDoorBx27
import Derived.Test.YtaabdbephemboaaGreatDoorBx28
import Derived.Test.YtaabdbephemboaaGreatDoorBx29
import Derived.Test.YtaabdbephemboaaGreatDoorBx30
import Derived.Test.YtaabdbephemboaaGreatDoorBx31
import Derived.Test.YtaabdbephemboaaGreatDoorBx32
import Derived.Test.YtaabdbephemboaaGreatDoorBx33
import Derived.Test.YtaabdbephemboaaGreatDoorBx34
import Derived.Test.YtaabdbephemboaaGreatDoorBx35
import Derived.Test.YtaabdbephemboaaGreatDoorBx36
import Derived.Test.YtaabdbephemboaaGreatDoorT27x1
import Derived.Test.YtaabdbephemboaaGreatDoorCards
import Derived.Test.YtaabdbephemboaaGreatDoorTie
import Derived.OpenShut
import Derived.ShutString
import Derived.ChangeOld
import Derived.Deep.DeepHandedRow
import Derived.Deep.DeepWitnessRowRef
import Derived.Lib.LaidU8
import Derived.Lib.LaidTab
import Derived.Lib.LaidIn
import Derived.Test.YtaabdbephemboaaGreatDoorCardZRC27
namespace Go.Proofs.Sm
open Go.RowKit
set_option maxHeartbeats 4000000 in
set_option maxRecDepth 100000 in
theorem deleteFunc_mem (g:Nat) (eg:∀ args w,(callFunc g args).run Tryz.prog w=.ok (.enter g args) w) (v1 v2:Value) (p:MemoryV→Bool) (v:Value) (l:List MemoryV) (B:Nat) (K:Nat→Prop) (w:World) (hrow:RowK w B 43 K v l) (hB:B≤w.heap.size) (hn:l.length≤1000)
 (hne:∀ g,v.ownBlock=some g→¬ K g)
 (hp:∀ (W:World) (x:MemoryV) (A1:Option Addr) (n1 c1:Nat) (A2:Option Addr) (n2 c2:Nat) (A3:Option Addr) (n3 c3:Nat),Below B w W→x∈l →
   Calls Tryz.prog g #[memVal x A1 n1 c1 A2 n2 c2 A3 n3 c3,v1,v2] W fun e w'=>e=.returned (.bool (p x))∧Below W.heap.size W w') :
 Calls Tryz.prog 41 #[v,.func (.func g) #[] #[v1,v2]] w fun e w'=>∃ A n c,e=.returned (.slice A n c)∧RowK w' B 43 K (.slice A n c) (l.filter fun x=>!p x)∧Below B w w':=by
 obtain ⟨A,c,rfl,hc1,hc2,hsl⟩:=hrow.sl
 obtain ⟨n,hnl⟩:∃ n,n=l.length:=⟨_,rfl⟩
 rw [←hnl] at hc1 hsl hn hrow ⊢
 have HL:=Lib.hid hnl.symm
 have hm:n≤9223372036854775807:=by omega
 have hcm:c≤9223372036854775807:=hc2
 have HI:=Lib.hid (indexFunc_mem g eg v1 v2 p A n c l B K w hrow hnl.symm hn fun W x A1 n1 c1 A2 n2 c2 A3 n3 c3 hb hx=>hp W x A1 n1 c1 A2 n2 c2 A3 n3 c3 (hb.mono hB) hx)
 clear hnl hsl
 go_enter Tryz.func41,Tryz.ntmps41
 go_wp2_with fail
 refine HI.out.mono ?_
 rintro e w1 ⟨⟨rfl,hall⟩ | ⟨k,x,rfl,hx,hpx,hpre⟩,hb1⟩
 ·have HR:=Lib.hid (show RowK w1 B 43 K (.slice A n c) (l.filter fun x=>!p x) by rw [filter_all hall]; exact hrow.call hb1)
  clear hall hrow hp
  go_wp2
  go_ret
  exact ⟨A,n,c,rfl,HR.out,hb1.mono hB⟩
 ·have hkn:k < n:=by have:=(List.getElem?_eq_some_iff.1 hx).1; have:=HL.out; omega
  obtain ⟨gg,rfl,hgB,hgw⟩:=hrow.base (by omega)
  have hne1:((k:Int) == -1)=false:=beq_eq_false_iff_ne.2 (by omega)
  have HP:=Lib.hid hp
  unfold memVal at HP
  have HK0:=Lib.hid (hne gg rfl)
  have HS:=Lib.hid (strike_start hpre hx hpx)
  have hrow1:=hrow.call hb1
  have hbB:=hb1.mono hB
  have hgw1:gg < w1.heap.size:=by have:=hb1.size; omega
  clear hp hx hpx hpre hrow HI hne
  go_wp2
  go_loopw [5,6] (fun iv jv wx=>∃ (i j:Nat) (L:List MemoryV),iv=.int .i64 i∧jv=.int .i64 j∧i < j∧j≤n∧L.length=n∧L.take i=(l.take j).filter (fun x=>!p x)∧L.drop j=l.drop j∧RowK wx B 43 K (.slice (some ⟨gg,0,none⟩) n c) L∧gg < wx.heap.size∧Below B w wx) (fun _ jv _=>n - (intOf jv).toNat)
  case atStart=>exact ⟨k,k + 1,l,rfl,by go_num,by omega,by omega,HL.out,HS.out,rfl,hrow1,hgw1,hbB⟩
  case round =>
   clear hrow1 hgw1 hbB hb1
   obtain ⟨i,j,L,rfl,rfl,hij,hjn,hLn,hpre,hdr,hrow,hgr,hbel⟩:=hrel
   have HPre:=Lib.hid hpre; clear hpre
   have HDr:=Lib.hid hdr; clear hdr
   have HLn:=Lib.hid hLn; clear hLn
   by_cases hlt:j < n
   ·have hjI:(j:Int) < (n:Int):=by omega
    have hiI:(i:Int) < (n:Int):=by omega
    obtain ⟨x,hx⟩:=at_lt (l:=l) (k:=j) (by rw [HL.out]; exact hlt)
    have hLx:=drop_atM HDr.out hx
    obtain ⟨r,hr,hc⟩:=hrow.elem hLx
    obtain ⟨A1,n1,c1',A2,n2,c2',A3,n3,c3',rfl,hr'⟩:=hr
    have hrx:Rep.rep wr K x (memCells x A1 n1 c1' A2 n2 c2' A3 n3 c3'):=⟨A1,n1,c1',A2,n2,c2',A3,n3,c3',rfl,hr'⟩
    have q0:wr.cell? ⟨gg,j * 8,none⟩=some (.string x.name):=hc 0 _ rfl
    have q1:wr.cell? ⟨gg,j * 8 + 1,none⟩=some (.string x.action):=hc 1 _ rfl
    have q2:wr.cell? ⟨gg,j * 8 + 2,none⟩=some (.slice A1 n1 c1'):=hc 2 _ rfl
    have q3:wr.cell? ⟨gg,j * 8 + 3,none⟩=some (.int .i64 x.result.code):=hc 3 _ rfl
    have q4:wr.cell? ⟨gg,j * 8 + 4,none⟩=some (.string x.result.text):=hc 4 _ rfl
    have q5:wr.cell? ⟨gg,j * 8 + 5,none⟩=some (.slice A2 n2 c2'):=hc 5 _ rfl
    have q6:wr.cell? ⟨gg,j * 8 + 6,none⟩=some (.slice A3 n3 c3'):=hc 6 _ rfl
    have q7:wr.cell? ⟨gg,j * 8 + 7,none⟩=some (.int .i64 x.result.command):=hc 7 _ rfl
    have HX:=Lib.hid hx
    have hxl:=List.mem_of_getElem? hx
    have HRow:=Lib.hid hrow
    have HRx:=Lib.hid hrx
    clear hx hLx hc hr' hrx hrow
    go_wp2_with fail
    generalize hW9:wr.alloc (.cells #[.string x.name,.string x.action,.slice A1 n1 c1',.int .i64 x.result.code,.string x.result.text,.slice A2 n2 c2',.slice A3 n3 c3',.int .i64 x.result.command] 43)=W9
    have hA9:Arr W9 wr.heap.size 43 (memCells x A1 n1 c1' A2 n2 c2' A3 n3 c3'):=by rw [←hW9]; exact mem_box ..
    have hb9:Below wr.heap.size wr W9:=by rw [←hW9]; exact fr_alloc (fr_refl wr) _
    clear hW9 q0 q1 q2 q3 q4 q5 q6 q7
    have hKr:∀ k,K k→k < wr.heap.size:=HRow.out.1
    refine (HP.out W9 x A1 n1 c1' A2 n2 c2' A3 n3 c3' (hbel.trans (hb9.mono (by have:=hbel.size; omega))) hxl).mono ?_
    rintro e w2 ⟨rfl,hb2⟩
    have hb92:=fr_call hb9 hb2
    have hA2:=hA9.call hb2
    have hrow2:=HRow.out.call hb92
    have hgr2:gg < w2.heap.size:=by have:=hb92.size; omega
    have hbel2:=hbel.trans (hb92.mono (by have:=hbel.size; omega))
    cases hq:p x
    ·have HKe:=Lib.hid (strike_keep hij (by have:=HLn.out; omega) HPre.out HDr.out HX.out hq)
     obtain ⟨y,hy⟩:=at_lt (l:=L) (k:=i) (by have:=HLn.out; omega)
     obtain ⟨r,hr,hc⟩:=hrow2.elem hy
     obtain ⟨B1,m1,d1,B2,m2,d2,B3,m3,d3,rfl,_⟩:=hr
     have y0:w2.cell? ⟨gg,i * 8,none⟩=some (.string y.name):=hc 0 _ rfl
     have y1:w2.cell? ⟨gg,i * 8 + 1,none⟩=some (.string y.action):=hc 1 _ rfl
     have y2:w2.cell? ⟨gg,i * 8 + 2,none⟩=some (.slice B1 m1 d1):=hc 2 _ rfl
     have y3:w2.cell? ⟨gg,i * 8 + 3,none⟩=some (.int .i64 y.result.code):=hc 3 _ rfl
     have y4:w2.cell? ⟨gg,i * 8 + 4,none⟩=some (.string y.result.text):=hc 4 _ rfl
     have y5:w2.cell? ⟨gg,i * 8 + 5,none⟩=some (.slice B2 m2 d2):=hc 5 _ rfl
     have y6:w2.cell? ⟨gg,i * 8 + 6,none⟩=some (.slice B3 m3 d3):=hc 6 _ rfl
     have y7:w2.cell? ⟨gg,i * 8 + 7,none⟩=some (.int .i64 y.result.command):=hc 7 _ rfl
     have f0:=hrow2.frozenAt (i * 8)
     have f1:=hrow2.frozenAt (i * 8 + 1)
     have f2:=hrow2.frozenAt (i * 8 + 2)
     have f3:=hrow2.frozenAt (i * 8 + 3)
     have f4:=hrow2.frozenAt (i * 8 + 4)
     have f5:=hrow2.frozenAt (i * 8 + 5)
     have f6:=hrow2.frozenAt (i * 8 + 6)
     have f7:=hrow2.frozenAt (i * 8 + 7)
     have z0:=hA2.cell (i:=0) rfl
     have z1:=hA2.cell (i:=1) rfl
     have z2:=hA2.cell (i:=2) rfl
     have z3:=hA2.cell (i:=3) rfl
     have z4:=hA2.cell (i:=4) rfl
     have z5:=hA2.cell (i:=5) rfl
     have z6:=hA2.cell (i:=6) rfl
     have z7:=hA2.cell (i:=7) rfl
     have hrx2:Rep.rep w2 K x (memCells x A1 n1 c1' A2 n2 c2' A3 n3 c3'):=Rep.keep (fun k hh=>hb92.block k (hKr k hh)) HRx.out
     have HRow3:=Lib.hid (hrow2.setRow (i:=i) HK0.out (by have:=HLn.out; omega) hrx2)
     have HB3:=Lib.hid (sc_below hgB (memCells x A1 n1 c1' A2 n2 c2' A3 n3 c3') (i * 8) hbel2)
     have HG3:=Lib.hid (show gg < (w2.setCells gg (i * 8) (memCells x A1 n1 c1' A2 n2 c2' A3 n3 c3')).heap.size by rw [sc_size]; exact hgr2)
     have HLn3:=Lib.hid (show (L.set i x).length=n by rw [List.length_set]; exact HLn.out)
     clear hrow2 hc hy hA2 hA9 hbel2 hrx2 hq
     go_wp2
     go_roundw
     case rel=>exact ⟨i + 1,j + 1,L.set i x,by go_num,by go_num,by omega,by omega,HLn3.out,HKe.out.1,HKe.out.2,HRow3.out,HG3.out,HB3.out⟩
     case measure=>simp [intOf]; omega
    ·have HSk:=Lib.hid (strike_skip HPre.out HX.out hq)
     have HRow3:=Lib.hid hrow2
     have HD3:=Lib.hid (drop_next HDr.out)
     clear hrow2 hA2 hA9 hq
     go_wp2
     go_roundw
     case rel=>exact ⟨i,j + 1,L,rfl,by go_num,by omega,by omega,HLn.out,HSk.out,HD3.out,HRow3.out,hgr2,hbel2⟩
     case measure=>simp [intOf]; omega
   ·have hjn':j=n:=by omega
    subst hjn'
    have HPre2:L.take i=l.filter fun x=>!p x:=by
     have h1:=HPre.out
     rwa [show l.take j=l from List.take_of_length_le (by have:=HL.out; omega)] at h1
    obtain ⟨r1,A2,c2,r2,hA2⟩:=cut_slices (k:=i) (n:=j) (c:=c) (by omega) hc1 hcm (.inr ⟨gg,rfl⟩)
    obtain ⟨g2,e1,rfl⟩:=hA2 (by omega)
    cases e1
    obtain ⟨zs,hz,hcl⟩:=run_clear_mem (w:=wr) (g:=gg) (i:=i) (n:=j) (c:=c2) 0 hij (fun t ht=>hrow.cellSome (by show i * 8 + t < j * 8; omega)) (fun t=>hrow.frozenAt t)
    have HE:=Lib.hid (hrow.shut (k:=i) (zs:=zs) HK0.out (by omega) hz)
    rw [HPre2] at HE
    have HB:=Lib.hid (sc_below hgB zs (i * 8) hbel)
    clear hrow hz
    go_wp2
    go_ret
    exact ⟨_,i,c,rfl,HE.out,HB.out⟩
end Go.Proofs.Sm
namespace Go.Proofs.Sm
open Go.RowKit
set_option maxHeartbeats 4000000 in
set_option maxRecDepth 100000 in
theorem pruned1 (g q1 q2:Nat) (A:Option Addr) (n c:Nat) (l:List RuleV) (x:MemoryV) (A1:Option Addr) (n1 c1:Nat) (A2:Option Addr) (n2 c2:Nat) (A3:Option Addr) (n3 c3:Nat) (w:World) (hE:Env2 w) (hr0:checkRulesS l=0) (hsl:Sl w (Lt w.heap.size) A n l)
 (h1:w.cell? ⟨q1,0,none⟩=some (.pointer (some ⟨g,0,none⟩))) (h2:w.cell? ⟨q2,0,none⟩=some (.slice A n c)) (h3:w.cell? ⟨g,0,none⟩=some (.slice A n c)) (k1:q1 < w.heap.size) (k2:q2 < w.heap.size) (k3:g < w.heap.size) :
 Calls Tryz.prog 43 #[memVal x A1 n1 c1 A2 n2 c2 A3 n3 c3,.pointer (some ⟨q1,0,none⟩),.pointer (some ⟨q2,0,none⟩)] w fun e w'=>e=.returned (.bool (!keepM l x))∧Below w.heap.size w w':=by
 have hm:n≤9223372036854775807:=hsl.2.1
 have HL:=Lib.hid hsl.1
 have hso:=(rules_sorted hr0).1
 have hn5:n≤500:=by have:=(rules_sorted hr0).2; have:=HL.out; omega
 have HR0:=Lib.hid hr0
 clear hr0
 unfold memVal
 go_enter Tryz.func43,Tryz.ntmps43
 go_wp2_with fail
 generalize hW0:w.alloc (.cells #[.string x.name,.string x.action,.slice A1 n1 c1,.int .i64 x.result.code,.string x.result.text,.slice A2 n2 c2,.slice A3 n3 c3,.int .i64 x.result.command] 43)=W
 have hA0:Arr W w.heap.size 43 (memCells x A1 n1 c1 A2 n2 c2 A3 n3 c3):=by rw [←hW0]; exact mem_box ..
 have hbW:Below w.heap.size w W:=by rw [←hW0]; exact fr_alloc (fr_refl w) _
 clear hW0
 obtain ⟨gb,hgb⟩:∃ gb,gb=w.heap.size:=⟨_,rfl⟩
 rw [←hgb] at hA0 ⊢
 clear hgb
 refine (steps_find g A n c l x.name W ((hbW.cell (p:=⟨g,0,none⟩) k3).trans h3) (sl_call hsl hbW (Nat.le_refl _)) hso hn5).mono ?_
 rintro e w1 ⟨rfl,hb1⟩
 have hb01:=fr_call hbW hb1
 have hA1:=hA0.call hb1
 have hgb1:=hA1.lt
 have hz1:=hb01.size
 have d2:=(hb01.cell (p:=⟨q2,0,none⟩) k2).trans h2
 have b1:=hA1.cell (i:=1) rfl
 clear hA0 hbW hb1
 cases hj:idxName l x.name with
 | none =>
   have HN:=Lib.hid (keep_none hj)
   rw [numOr_none]
   clear hj
   go_wp2
   go_quiet (fail)
   go_wp2
   go_ret
   exact ⟨by rw [HN.out]; rfl,below_drewN hb01 _⟩
 | some j =>
   have hjn:j < n:=by have:=(idxName_some hj).1; rwa [HL.out] at this
   have hjI:(j:Int) < (n:Int):=by omega
   have hj0:¬ (j:Int) < 0:=by omega
   obtain ⟨b,o,r,rfl,hbl,hr,R1,r1,e1,R2,r2,e2,R3,r3,e3,R4,r4,e4,R5,r5,e5,⟨_,g2,g3⟩,_,⟨t1,t2,t3,t4,_⟩,q0,p1,p2,p3,p4,p5,p6,q7⟩:=(sl_call hsl hb01 (Nat.le_refl _)).rule hjn
   have hri:ActIs w1 r.action R1 r1 R2 r2 R3 r3 R4 r4:=⟨g2,t1,t2,t3,t4,g3⟩
   have hbb:b < w1.heap.size:=hbl
   have hok:=rule_actOk HR0.out hr
   have HKp:=Lib.hid (keep_some hj hr)
   have HC:=Lib.hid (fun w' (hw:Below w1.heap.size w1 w')=>act_TextDigest r.action R1 r1 e1 R2 r2 e2 R3 r3 e3 R4 r4 e4 w' (hE.then_ (fr_call hb01 hw)) (hri.then_ hw) hok)
   unfold actVal at HC
   generalize digestS (actTextL r.action)=dg at HC HKp
   rw [numOr_some]
   have hq2:q2 < w1.heap.size:=by omega
   have HK:=Lib.hid (show ∀ w',Below w1.heap.size w1 w'→(Below w1.heap.size w1 w'∧w'.cell? ⟨q2,0,none⟩=some (.slice (some ⟨b,o,none⟩) n c)∧w'.cell? ⟨gb,1,none⟩=some (.string x.action) ∧
    w'.cell? ⟨b,o + j * 8 + 1,none⟩=some (.string r.action.tool)∧w'.cell? ⟨b,o + j * 8 + 2,none⟩=some (.slice R1 r1 e1)∧w'.cell? ⟨b,o + j * 8 + 3,none⟩=some (.slice R2 r2 e2)∧w'.cell? ⟨b,o + j * 8 + 4,none⟩=some (.slice R3 r3 e3) ∧
    w'.cell? ⟨b,o + j * 8 + 5,none⟩=some (.slice R4 r4 e4)∧w'.cell? ⟨b,o + j * 8 + 6,none⟩=some (.int .i64 r.action.time)) from fun w' hw=>by
    have f1:∀ o,w'.cell? ⟨b,o,none⟩=w1.cell? ⟨b,o,none⟩:=fun o=>hw.cell (p:=⟨b,o,none⟩) hbb
    exact ⟨hw,(hw.cell (p:=⟨q2,0,none⟩) hq2).trans d2,(hw.cell (p:=⟨gb,1,none⟩) hgb1).trans b1,(f1 _).trans p1,(f1 _).trans p2,(f1 _).trans p3,(f1 _).trans p4,(f1 _).trans p5,(f1 _).trans p6⟩)
   clear hj hr hri hok q0 q7 h1 h2 h3 t1 t2 t3 t4
   cases hkp:(dg.toList == x.action.toList)
   all_goals
    have HN:=Lib.hid (HKp.out.trans hkp)
    go_wp2
    go_region_held3 (fun w'=>Below w1.heap.size w1 w'∧w'.cell? ⟨q2,0,none⟩=some (.slice (some ⟨b,o,none⟩) n c)∧w'.cell? ⟨gb,1,none⟩=some (.string x.action) ∧
     w'.cell? ⟨b,o + j * 8 + 1,none⟩=some (.string r.action.tool)∧w'.cell? ⟨b,o + j * 8 + 2,none⟩=some (.slice R1 r1 e1)∧w'.cell? ⟨b,o + j * 8 + 3,none⟩=some (.slice R2 r2 e2)∧w'.cell? ⟨b,o + j * 8 + 4,none⟩=some (.slice R3 r3 e3) ∧
     w'.cell? ⟨b,o + j * 8 + 5,none⟩=some (.slice R4 r4 e4)∧w'.cell? ⟨b,o + j * 8 + 6,none⟩=some (.int .i64 r.action.time))
     (first | assumption | exact HK.out _ (Below.refl _ w1).drew | exact HK.out _ (fr_call (And.left (by assumption)) hbc))
     (first | (go_at_call 37; refine (HC.out _ (And.left (by assumption))).mono ?_; rintro e wc ⟨rfl,hbc⟩))
    have hb9:Below w1.heap.size w1 wc:=And.left (by assumption)
    go_wp2
    go_ret
    exact ⟨by rw [HN.out]; rfl,fr_call hb01 hb9⟩
set_option maxHeartbeats 4000000 in
set_option maxRecDepth 100000 in
theorem steps_Pruned (A B:Option Addr) (n c m d:Nat) (l:List RuleV) (ms:List MemoryV) (w:World) (hE:Env2 w) (hsl:Sl w (Lt w.heap.size) A n l) (hsl2:Sl w (Lt w.heap.size) B m ms) :
 Calls Tryz.prog 22 #[.slice A n c,.slice B m d] w (PrunedPost l ms w):=by
 have HL:=Lib.hid hsl.1
 have HL2:=Lib.hid hsl2.1
 go_enter Tryz.func22,Tryz.ntmps22
 go_wp2_with fail
 generalize hW0:w.alloc (.cells #[.slice A n c] 22)=W
 have hA0:Arr W w.heap.size 22 [.slice A n c]:=by rw [←hW0]; exact heap_alloc_new w _
 have hbW:Below w.heap.size w W:=by rw [←hW0]; exact fr_alloc (fr_refl w) _
 clear hW0
 obtain ⟨q2,hq2⟩:∃ q2,q2=w.heap.size:=⟨_,rfl⟩
 rw [←hq2] at hA0 ⊢
 clear hq2
 refine (steps_open A n c l W (hE.then_ hbW).toEnv (sl_call hsl hbW (Nat.le_refl _))).mono ?_
 rintro e w0 ⟨vp,rfl,hbad0,hgood0,hb0⟩
 have hb00:=fr_call hbW hb0
 by_cases hr0:checkRulesS l=0
 ·obtain ⟨g,rfl,hpl0⟩:=hgood0 hr0
  have HR0:=Lib.hid hr0
  have HPR:=Lib.hid (pruned_rest (m:=ms) hr0)
  rw [hr0]
  have hA1:=hA0.call hb0
  clear hr0 hbad0 hgood0 hA0 hbW hb0
  go_wp2_with fail
  generalize hW2:w0.alloc (.cells #[.pointer (some ⟨g,0,none⟩)] 80)=W2
  have hX2:Arr W2 w0.heap.size 80 [.pointer (some ⟨g,0,none⟩)]:=by rw [←hW2]; exact heap_alloc_new w0 _
  have hb2:Below w0.heap.size w0 W2:=by rw [←hW2]; exact fr_alloc (fr_refl w0) _
  clear hW2
  obtain ⟨q1,hq1⟩:∃ q1,q1=w0.heap.size:=⟨_,rfl⟩
  rw [←hq1] at hX2 ⊢
  clear hq1
  have hb02:=fr_call hb00 hb2
  refine (steps_CheckMemory B m d ms W2 (hE.then_ hb02).toEnv (sl_call hsl2 hb02 (Nat.le_refl _))).mono ?_
  rintro e w3 ⟨rfl,hb3⟩
  have hb03:=fr_call hb02 hb3
  have hA3:=(hA1.call hb2).call hb3
  have hX3:=hX2.call hb3
  have hP3:=(hpl0.call hb2).call hb3
  clear hA1 hX2 hpl0 hb2 hb3 hb02 hb00
  cases h0:(checkMemoryS ms == 0)
  ·have hne:checkMemoryS ms≠0:=by simpa using h0
   have hbn:(checkMemoryS ms != 0)=true:=by simpa using h0
   have HN:=Lib.hid hne
   clear hne
   go_wp2
   go_ret2
   exact PrunedPost.bad HPR.out HN.out hb03
  have hzb:checkMemoryS ms=0:=by simpa using h0
  have HZ2:=Lib.hid hzb
  have HPZ:=Lib.hid (HPR.out.trans hzb)
  rw [hzb]
  clear hzb h0
  have hm5:m≤500:=by have:=(memory_parts HZ2.out).1; have:=HL2.out; omega
  have HM:=Lib.hid (memory_ok HZ2.out)
  go_wp2_with fail
  refine (steps_own B m d ms w3 (Lt w.heap.size) (fun b hb=>Nat.lt_of_lt_of_le hb hb03.size) (hsl2.keep (keep_lt hb03)) (by omega) HM.out).mono ?_
  rintro e w4 ⟨v,rfl,hrow,hb4⟩
  have eg:∀ args w,(callFunc 43 args).run Tryz.prog w=.ok (.enter 43 args) w:=enters_of Tryz.func43 (by kernel_rfl) rfl
  obtain ⟨_,mp,np,D,dd,hPA,_⟩:=hP3
  have HD:=Lib.hid (deleteFunc_mem 43 eg (.pointer (some ⟨q1,0,none⟩)) (.pointer (some ⟨q2,0,none⟩)) (fun x=>!keepM l x) v ms w3.heap.size _ w4 hrow hb4.size (by rw [HL2.out]; omega) (fun g hg hh=>hh.1 hg)
   fun W x A1 n1 c1 A2 n2 c2 A3 n3 c3 hbW hx=>by
    have hbb:Below w3.heap.size w3 W:=hb4.trans hbW
    have hbw:=fr_call hb03 hbb
    exact pruned1 g q1 q2 A n c l x A1 n1 c1 A2 n2 c2 A3 n3 c3 W (hE.then_ hbw) HR0.out (sl_call hsl hbw (Nat.le_refl _)) ((hX3.call hbb).cell (i:=0) rfl) ((hA3.call hbb).cell (i:=0) rfl) ((hPA.call hbb).cell (i:=0) rfl) (hX3.call hbb).lt (hA3.call hbb).lt (hPA.call hbb).lt)
  have hb04:=fr_call hb03 hb4
  have hzw:=hb03.size
  clear hrow hA3 hX3 hPA eg
  go_wp2_with fail
  refine HD.out.mono ?_
  rintro e w5 ⟨A',n',c',rfl,hrow5,hb5⟩
  obtain ⟨A9,c9,e9,h91,h92,hs9⟩:=hrow5.sl
  cases e9
  have hpr:(ms.filter fun x=>!(!keepM l x))=prunedS l ms:=by
   rw [prunedS]
   congr 1
   funext x
   simp
  rw [hpr] at h91 hs9
  have HE:=Lib.hid (PrunedPost.good (w:=w) (A:=A') (c:=c') HPZ.out h91 h92 hs9 (hb04.trans (hb5.mono hzw)))
  rw [hpr]
  clear hrow5 hs9 hb5 HD
  go_wp2
  go_ret2
  exact HE.out
 ·have hne:(checkRulesS l == 0)=false:=by rw [beq_eq_false_iff_ne]; exact hr0
  have HN:=Lib.hid hr0
  have HV:=Lib.hid (pruned_a (m:=ms) hr0)
  obtain rfl:=hbad0 hr0
  clear hr0 hbad0 hgood0 hA0
  go_wp2
  go_ret2
  exact PrunedPost.bad HV.out HN.out (fr_alloc hb00 _)
end Go.Proofs.Sm
namespace Go.Proofs.Sm
open Go.RowKit
theorem pruned_ok {l:List RuleV} {ms:List MemoryV} (h:prunedErr l ms=0):checkRulesS l=0∧checkMemoryS ms=0:=by
 unfold prunedErr at h
 split at h
 ·contradiction
 ·rename_i h1; exact ⟨Decidable.not_not.1 h1,h⟩
set_option maxHeartbeats 0 in
set_option maxRecDepth 100000 in
theorem law_pruned (A B C D:Option Addr) (n c m d nw cw nd cd:Nat) (l:List RuleV) (F:List FileV) (ws:List ByteArray) (ms:List MemoryV) (w:World) (hE:Env2 w) (hsl:Sl w (Lt w.heap.size) A n l) (hF:Sl w (Lt w.heap.size) B m F) (hws:Sl w (Lt w.heap.size) C nw ws) (hms:Sl w (Lt w.heap.size) D nd ms) :
 Calls Tryz.prog 7 #[.slice A n c,.slice B m d,.slice C nw cw,.slice D nd cd] w fun e w'=>e=.returned (.bool true)∧Below w.heap.size w w':=by
 have HP:=Lib.hid (steps_Pruned A D n c nd cd l ms w hE hsl hms)
 have HD:=Lib.hid (fun (w1:World) (hb:Below w.heap.size w w1)=>steps_Due A B C D n c m d nw cw nd cd l F ws ms w1 (hE.then_ hb) (sl_call hsl hb (Nat.le_refl _)) (sl_call hF hb (Nat.le_refl _)) (sl_call hws hb (Nat.le_refl _)) (sl_call hms hb (Nat.le_refl _)))
 have HD2:=Lib.hid (fun (w1:World) (hb:Below w.heap.size w w1) (A3:Option Addr) (n3 c3:Nat) (ms:List MemoryV) (h3:Sl w1 (Lt w1.heap.size) A3 n3 ms)=>steps_Due A B C A3 n c m d nw cw n3 c3 l F ws ms w1 (hE.then_ hb) (sl_call hsl hb (Nat.le_refl _)) (sl_call hF hb (Nat.le_refl _)) (sl_call hws hb (Nat.le_refl _)) h3)
 clear hsl hF hws hms
 go_enter Tryz.func7,Tryz.ntmps7
 go_wp2_with fail
 refine HP.out.mono ?_
 rintro e w1 ⟨v,rfl,hbad,hgood,hb1⟩
 by_cases hp:prunedErr l ms=0
 ·obtain ⟨A3,n3,c3,rfl,_,_,hs3⟩:=hgood hp
  obtain ⟨hc,hm⟩:=pruned_ok hp
  rw [hp]
  clear hbad hgood HP hp
  go_wp2_with fail
  refine (HD.out _ hb1).mono ?_
  rintro e w2 ⟨A4,n4,c4,f,x,rfl,hx,s4,hb2⟩
  have hb02:=fr_call hb1 hb2
  go_wp2_with fail
  refine (HD2.out _ hb02 A3 n3 c3 _ (sl_call hs3 hb2 (Nat.le_refl _))).mono ?_
  rintro e w3 ⟨A5,n5,c5,g,y,rfl,hy,s5,hb3⟩
  have hb03:=fr_call hb02 hb3
  obtain ⟨p1,p2⟩:=built_pruned hc hm hx hy
  clear hx hy hc hm hs3 HD HD2
  by_cases hf:f=0
  ·obtain ⟨rfl,he⟩:=p2 hf
   subst hf
   have s4':=sl_call s4 hb3 (Nat.le_refl _)
   rw [←he] at s5
   obtain rfl:n4=n5:=s4'.1.symm.trans s5.1
   have HQ:=Lib.hid (equal_strings A4 A5 n4 c4 c5 (dueS x.steps) w3 s4' s5)
   clear s4 s4' s5 he p1 p2
   go_wp2_with fail
   refine HQ.out.mono ?_
   rintro e w5 ⟨rfl,b5⟩
   have hb05:=fr_call hb03 b5
   go_wp2_with fail
   refine (law6_awake _ (hE.then_ hb05).toEnv).mono ?_
   rintro e wz ⟨rfl,hbz⟩
   go_wp2
   go_ret
   exact ⟨rfl,fr_call hb05 hbz⟩
  ·have hfz:(f == 0)=false:=by simpa using hf
   have hfb:(f != 0)=true:=by simpa using hf
   rcases p1 hf with rfl | rfl
   ·clear p1 p2 s4 s5
    go_wp2_with fail
    refine (law6_awake _ (hE.then_ hb03).toEnv).mono ?_
    rintro e wz ⟨rfl,hbz⟩
    go_wp2
    go_ret
    exact ⟨rfl,fr_call hb03 hbz⟩
   ·clear p1 p2 hf s4 s5 hfz hfb
    cases hg:((2:Int) == g)
    ·go_wp2_with fail
     refine (law6_awake _ (hE.then_ hb03).toEnv).mono ?_
     rintro e wz ⟨rfl,hbz⟩
     go_wp2
     go_ret
     exact ⟨rfl,fr_call hb03 hbz⟩
    ·go_wp2_with fail
     refine (law6_awake _ (hE.then_ hb03).toEnv).mono ?_
     rintro e wz ⟨rfl,hbz⟩
     go_wp2
     go_ret
     exact ⟨rfl,fr_call hb03 hbz⟩
 ·have hpz:(prunedErr l ms == 0)=false:=by simpa using hp
  obtain rfl:=hbad hp
  clear hbad hgood hp HP HD HD2
  generalize prunedErr l ms=z at *
  go_wp2_with fail
  refine (law6_awake _ (hE.then_ hb1).toEnv).mono ?_
  rintro e wz ⟨rfl,hbz⟩
  go_wp2
  go_ret
  exact ⟨rfl,fr_call hb1 hbz⟩
end Go.Proofs.Sm
namespace Go.Proofs.Sm
open Go.RowKit Go.ChangeShapes Go.WideShapes Go.ChangeAt
section
variable {H:Type} {enc:TypeId × Value→H} {w:World} {base:Nat} {spare:Nat→Bool} {held:Bool}
theorem dec_look:Dec enc Tryz.prog w base spare held 109 Look:=fun fuel cs d h=>by
 obtain ⟨xs,n,_,_,hlen,hxl,hf⟩:=DataW.trod_struct Tryz.underlying109 h
 have hc:Tryz.prog.cellsOf 109=3:=by kernel_rfl
 have cS:Tryz.prog.cellsOf 9=1:=by kernel_rfl
 have cB:Tryz.prog.cellsOf 4=1:=by kernel_rfl
 rw [hc] at hlen
 have hxl':xs.length=3:=hxl
 obtain ⟨a,b,c,rfl⟩:=three_of hlen
 ·-- the three cells
  obtain ⟨y0,e0⟩:=at_some hxl' (show 0 < 3 by decide)
  obtain ⟨y1,e1⟩:=at_some hxl' (show 1 < 3 by decide)
  obtain ⟨y2,e2⟩:=at_some hxl' (show 2 < 3 by decide)
  have f0:DataW.trod enc Tryz.prog w base spare held n 9 [a]=some y0:=by
   have h:=(hf 0 _ rfl).trans e0
   change DataW.trod enc _ w base spare held n 9 (List.take (Tryz.prog.cellsOf 9) (List.drop 0 [a,b,c]))=some y0 at h
   rw [cS] at h
   exact h
  have f1:DataW.trod enc Tryz.prog w base spare held n 9 [b]=some y1:=by
   have h:=(hf 1 _ rfl).trans e1
   change DataW.trod enc _ w base spare held n 9 (List.take (Tryz.prog.cellsOf 9) (List.drop 1 [a,b,c]))=some y1 at h
   rw [cS] at h
   exact h
  have f2:DataW.trod enc Tryz.prog w base spare held n 4 [c]=some y2:=by
   have h:=(hf 2 _ rfl).trans e2
   change DataW.trod enc _ w base spare held n 4 (List.take (Tryz.prog.cellsOf 4) (List.drop 2 [a,b,c]))=some y2 at h
   rw [cB] at h
   exact h
  obtain ⟨s0,h0,_,z0⟩:=DataW.trod_string Tryz.underlying9 f0
  obtain ⟨s1,h1,_,z1⟩:=DataW.trod_string Tryz.underlying9 f1
  obtain ⟨r,h2,_⟩:=DataW.trod_bool Tryz.underlying4 f2
  cases h0; cases h1; cases h2
  exact ⟨⟨s0,s1,r⟩,rfl,z0,z1⟩
theorem dec_looks:Dec enc Tryz.prog w base spare held 39 (List Look):=dec_slice Tryz.underlying39 (by kernel_rfl) (by decide) dec_look
end
end Go.Proofs.Sm
namespace Go.Proofs.Sm
open Go.RowKit Go.ChangeShapes Go.WideShapes Go.ChangeAt
section
variable {H:Type} {enc:TypeId × Value→H} {w:World} {base:Nat} {spare:Nat→Bool} {held:Bool}
theorem five_of {α:Type} {l:List α} (h:l.length=5):∃ a b c d e,l=[a,b,c,d,e]:=by
 rcases l with _ | ⟨a,_ | ⟨b,_ | ⟨c,_ | ⟨d,_ | ⟨e,_ | ⟨f,r⟩⟩⟩⟩⟩⟩
 all_goals (try (simp at h; done))
 exact ⟨a,b,c,d,e,rfl⟩
end
end Go.Proofs.Sm
namespace Go.Proofs.Sm
open Go.RowKit Go.ChangeShapes Go.WideShapes Go.ChangeAt
section
variable {H:Type} {enc:TypeId × Value→H} {w:World} {base:Nat} {spare:Nat→Bool} {held:Bool}
theorem result_caps {cs:List Value} {fuel:Nat} {d:DataW H × List MemPlace} (h:DataW.trod enc Tryz.prog w base spare held fuel 41 cs=some d) :
 ∃ r A n c B m e,ResIs w r A n B m∧(n≤c∧c≤maxLen∧m≤e∧e≤maxLen)∧cs=[.int .i64 r.code,.string r.text,.slice A n c,.slice B m e,.int .i64 r.command]:=by
 obtain ⟨xs,n,_,_,hlen,hxl,hf⟩:=DataW.trod_struct Tryz.underlying41 h
 have hc:Tryz.prog.cellsOf 41=5:=by kernel_rfl
 have cI:Tryz.prog.cellsOf 3=1:=by kernel_rfl
 have cS:Tryz.prog.cellsOf 9=1:=by kernel_rfl
 have cF:Tryz.prog.cellsOf 23=1:=by kernel_rfl
 have cL:Tryz.prog.cellsOf 39=1:=by kernel_rfl
 rw [hc] at hlen
 have hxl':xs.length=5:=hxl
 obtain ⟨a0,a1,a2,a3,a4,rfl⟩:=five_of hlen
 obtain ⟨y0,e0⟩:=at_some hxl' (show 0 < 5 by decide)
 obtain ⟨y1,e1⟩:=at_some hxl' (show 1 < 5 by decide)
 obtain ⟨y2,e2⟩:=at_some hxl' (show 2 < 5 by decide)
 obtain ⟨y3,e3⟩:=at_some hxl' (show 3 < 5 by decide)
 obtain ⟨y4,e4⟩:=at_some hxl' (show 4 < 5 by decide)
 have f0:DataW.trod enc Tryz.prog w base spare held n 3 [a0]=some y0:=by
  have h:=(hf 0 _ rfl).trans e0
  change DataW.trod enc _ w base spare held n 3 (List.take (Tryz.prog.cellsOf 3) (List.drop 0 [a0,a1,a2,a3,a4]))=some y0 at h
  rw [cI] at h
  exact h
 have f1:DataW.trod enc Tryz.prog w base spare held n 9 [a1]=some y1:=by
  have h:=(hf 1 _ rfl).trans e1
  change DataW.trod enc _ w base spare held n 9 (List.take (Tryz.prog.cellsOf 9) (List.drop 1 [a0,a1,a2,a3,a4]))=some y1 at h
  rw [cS] at h
  exact h
 have f2:DataW.trod enc Tryz.prog w base spare held n 23 [a2]=some y2:=by
  have h:=(hf 2 _ rfl).trans e2
  change DataW.trod enc _ w base spare held n 23 (List.take (Tryz.prog.cellsOf 23) (List.drop 2 [a0,a1,a2,a3,a4]))=some y2 at h
  rw [cF] at h
  exact h
 have f3:DataW.trod enc Tryz.prog w base spare held n 39 [a3]=some y3:=by
  have h:=(hf 3 _ rfl).trans e3
  change DataW.trod enc _ w base spare held n 39 (List.take (Tryz.prog.cellsOf 39) (List.drop 3 [a0,a1,a2,a3,a4]))=some y3 at h
  rw [cL] at h
  exact h
 have f4:DataW.trod enc Tryz.prog w base spare held n 3 [a4]=some y4:=by
  have h:=(hf 4 _ rfl).trans e4
  change DataW.trod enc _ w base spare held n 3 (List.take (Tryz.prog.cellsOf 3) (List.drop 4 [a0,a1,a2,a3,a4]))=some y4 at h
  rw [cI] at h
  exact h
 obtain ⟨n0,r0,z0⟩:=dec_int Tryz.underlying3 _ _ _ f0
 obtain ⟨s1,r1,z1⟩:=dec_string Tryz.underlying9 _ _ _ f1
 obtain ⟨l2,A,k2,c2,r2,u2,v2,z2⟩:=dec_files _ _ _ f2
 obtain ⟨l3,B,k3,c3,r3,u3,v3,z3⟩:=dec_looks _ _ _ f3
 obtain ⟨n4,r4,z4⟩:=dec_int Tryz.underlying3 _ _ _ f4
 cases r0; cases r1; cases r2; cases r3; cases r4
 exact ⟨⟨n0,s1,l2,l3,n4⟩,A,k2,c2,B,k3,c3,⟨z0,z1,z2,z3,z4⟩,⟨u2,v2,u3,v3⟩,rfl⟩
theorem dec_memory:Dec enc Tryz.prog w base spare held 43 MemoryV:=fun fuel cs d h=>by
 obtain ⟨xs,n,_,_,hlen,hxl,hf⟩:=DataW.trod_struct Tryz.underlying43 h
 have hc:Tryz.prog.cellsOf 43=8:=by kernel_rfl
 have cS:Tryz.prog.cellsOf 9=1:=by kernel_rfl
 have cR:Tryz.prog.cellsOf 41=5:=by kernel_rfl
 have cL:Tryz.prog.cellsOf 39=1:=by kernel_rfl
 rw [hc] at hlen
 have hxl':xs.length=4:=hxl
 obtain ⟨a0,a1,a2,a3,a4,a5,a6,a7,rfl⟩:=eight_of hlen
 obtain ⟨y0,e0⟩:=at_some hxl' (show 0 < 4 by decide)
 obtain ⟨y1,e1⟩:=at_some hxl' (show 1 < 4 by decide)
 obtain ⟨y2,e2⟩:=at_some hxl' (show 2 < 4 by decide)
 obtain ⟨y3,e3⟩:=at_some hxl' (show 3 < 4 by decide)
 have f0:DataW.trod enc Tryz.prog w base spare held n 9 [a0]=some y0:=by
  have h:=(hf 0 _ rfl).trans e0
  change DataW.trod enc _ w base spare held n 9 (List.take (Tryz.prog.cellsOf 9) (List.drop 0 [a0,a1,a2,a3,a4,a5,a6,a7]))=some y0 at h
  rw [cS] at h
  exact h
 have f1:DataW.trod enc Tryz.prog w base spare held n 9 [a1]=some y1:=by
  have h:=(hf 1 _ rfl).trans e1
  change DataW.trod enc _ w base spare held n 9 (List.take (Tryz.prog.cellsOf 9) (List.drop 1 [a0,a1,a2,a3,a4,a5,a6,a7]))=some y1 at h
  rw [cS] at h
  exact h
 have f2:DataW.trod enc Tryz.prog w base spare held n 39 [a2]=some y2:=by
  have h:=(hf 2 _ rfl).trans e2
  change DataW.trod enc _ w base spare held n 39 (List.take (Tryz.prog.cellsOf 39) (List.drop 2 [a0,a1,a2,a3,a4,a5,a6,a7]))=some y2 at h
  rw [cL] at h
  exact h
 have f3:DataW.trod enc Tryz.prog w base spare held n 41 [a3,a4,a5,a6,a7]=some y3:=by
  have h:=(hf 3 _ rfl).trans e3
  change DataW.trod enc _ w base spare held n 41 (List.take (Tryz.prog.cellsOf 41) (List.drop 3 [a0,a1,a2,a3,a4,a5,a6,a7]))=some y3 at h
  rw [cR] at h
  exact h
 obtain ⟨s0,h0,_,z0⟩:=DataW.trod_string Tryz.underlying9 f0
 obtain ⟨s1,h1,_,z1⟩:=DataW.trod_string Tryz.underlying9 f1
 obtain ⟨l2,A,n2,c2,h2,u2,v2,z2⟩:=dec_looks _ _ _ f2
 obtain ⟨r,B,m,d',C,p,q,hR,hcap,hcs⟩:=result_caps f3
 cases h0; cases h1; cases h2; cases hcs
 obtain ⟨g1,g2,g3,g4,g5⟩:=hR
 obtain ⟨k1,k2,k3,k4⟩:=hcap
 exact ⟨⟨s0,s1,l2,r⟩,A,n2,c2,B,m,d',C,p,q,rfl,⟨z0,z1,g2,g1,g5⟩,⟨u2,v2,k1,k2,k3,k4⟩,z2,g3,g4⟩
theorem dec_mems:Dec enc Tryz.prog w base spare held 26 (List MemoryV):=dec_slice Tryz.underlying26 (by kernel_rfl) (by decide) dec_memory
end
end Go.Proofs.Sm
namespace Go.Proofs.YtaabdbephemboaaGreatDoor.pruned
open Go.ChangeShapes Go.WideShapes Go.ChangeAt Go.RowKit Go.Proofs.Sm
noncomputable def laidWorld (os:Os):World:=errWorld (tableWorld os [(2,Rows.laid_unicode_utf8_first),(3,Rows.laid_unicode_utf8_acceptRanges),(1,Rows.laid_internal_strconv_uint64pow10),(6,Rows.laid_math_bits_deBruijn32tab),(7,Rows.laid_math_bits_deBruijn64tab)])
 322 324 [(5,[118,97,108,117,101,32,111,117,116,32,111,102,32,114,97,110,103,101]),(4,[105,110,118,97,108,105,100,32,115,121,110,116,97,120])]
theorem laid_met (os:Os) (args:Array Value):laidMet Tryz.prog Rows.stepsPrunedIsEnoughRow.laid ((laidWorld os).forCall (fun _ _=>0) ⟨#[],args,[]⟩).memory :=
 (LaidIn.of_run (l:=Rows.stepsPrunedIsEnoughRow.laid) (List.range 30) 8 (by kernel_rfl) (by kernel_rfl) (by kernel_rfl) (by kernel_rfl)).met
theorem reads (os:Os) {H:Type} (enc:TypeId × Value→H):∃ ds places,DataW.whole enc Tryz.prog ((laidWorld os).forCall (fun _ _=>0) ⟨#[],#[.slice none 0 0,.slice none 0 0,.slice none 0 0,.slice none 0 0],[]⟩).memory Tryz.f7.params.toList Rows.stepsPrunedIsEnoughSpec.vars false #[Value.slice none 0 0,Value.slice none 0 0,Value.slice none 0 0,Value.slice none 0 0].toList 8=some (ds,[],places) :=
 ⟨[.nil,.nil,.nil,.nil],[],by kernel_rfl⟩
set_option maxRecDepth 100000 in
theorem contract (H:Type) (enc:TypeId × Value→H) (W:World) (base:Nat) (args:Array Value) (ds gs:List (DataW H)) (before:List MemPlace)
 (hval:∀ (j:Nat) t v,Tryz.f7.params[j]?=some t→args[j]?=some v→Value.okWide Tryz.prog W .any base t v)
 (hW:DataW.Whole enc Tryz.prog Tryz.f7.params.toList Rows.stepsPrunedIsEnoughSpec.vars false W args.toList ds gs before) (hE:Env2 W) :
 Calls Tryz.prog 7 args W fun e W'=>∃ v,e=.returned v∧Rows.stepsPrunedIsEnoughSpec.post enc Tryz.prog Tryz.f7 false true false false W args v W':=by
 have hW':=hW
 obtain ⟨p,q,hA0,hV,rfl,hfz,hnd⟩:=hW
 have hA:DataW.TrodAll enc Tryz.prog W 0 (fun _=>true) true Tryz.f7.params.toList args.toList ds p:=hA0
 rw [Tryz.params7] at hA hval
 obtain ⟨v0,vs0,d0,ds0,p0,q0,hargs,rfl,rfl,h0,r0⟩:=trodAll_cons hA
 obtain ⟨v1,vs1,d1,ds1,p1,q1,rfl,rfl,rfl,h1,r1⟩:=trodAll_cons r0
 obtain ⟨v2,vs2,d2,ds2,p2,q2,rfl,rfl,rfl,h2,r2⟩:=trodAll_cons r1
 obtain ⟨v3,vs3,d3,ds3,p3,q3,rfl,rfl,rfl,h3,r3⟩:=trodAll_cons r2
 obtain ⟨rfl,rfl,rfl⟩:=trodAll_nil r3
 obtain rfl:args=#[v0,v1,v2,v3]:=by cases args; simp_all
 obtain ⟨rfl,rfl⟩:=trodVars_none hV
 have k0:=h0
 have lt0:∀ x∈p0,x.block < W.heap.size:=by obtain ⟨m,hm⟩:=k0; exact DataW.trod_lt m _ _ _ hm
 have k1:=h1
 have lt1:∀ x∈p1,x.block < W.heap.size:=by obtain ⟨m,hm⟩:=k1; exact DataW.trod_lt m _ _ _ hm
 have k2:=h2
 have lt2:∀ x∈p2,x.block < W.heap.size:=by obtain ⟨m,hm⟩:=k2; exact DataW.trod_lt m _ _ _ hm
 have k3:=h3
 have lt3:∀ x∈p3,x.block < W.heap.size:=by obtain ⟨m,hm⟩:=k3; exact DataW.trod_lt m _ _ _ hm
 obtain ⟨A0,n0,c0,l0,rfl,hs0⟩:=arg_slice dec_rules (okWide_slice Tryz.underlying22 (hval 0 22 v0 rfl rfl)) h0
 obtain ⟨A1,n1,c1,l1,rfl,hs1⟩:=arg_slice dec_files (okWide_slice Tryz.underlying23 (hval 1 23 v1 rfl rfl)) h1
 obtain ⟨A2,n2,c2,l2,rfl,hs2⟩:=arg_slice dec_strs (okWide_slice Tryz.underlying24 (hval 2 24 v2 rfl rfl)) h2
 obtain ⟨A3,n3,c3,l3,rfl,hs3⟩:=arg_slice dec_mems (okWide_slice Tryz.underlying26 (hval 3 26 v3 rfl rfl)) h3
 clear hA0
 refine (law_pruned A0 A1 A2 A3 n0 c0 n1 c1 n2 c2 n3 c3 l0 l1 l2 l3 W hE hs0 hs1 hs2 hs3).mono fun e W' ⟨he,bel⟩=>?_
 subst he
 exact ⟨_,rfl,_,_,_,[],_,[],hW',trodAll_mk1 (shut_bool Tryz.underlying4 _),(trodAll_cons_mk (Below.trod laidOut (by kernel_rfl) (of_decide_eq_true (by kernel_rfl)) k0 bel lt0) (trodAll_cons_mk (Below.trod laidOut (by kernel_rfl) (of_decide_eq_true (by kernel_rfl)) k1 bel lt1) (trodAll_cons_mk (Below.trod laidOut (by kernel_rfl) (of_decide_eq_true (by kernel_rfl)) k2 bel lt2) (trodAll_cons_mk (Below.trod laidOut (by kernel_rfl) (of_decide_eq_true (by kernel_rfl)) k3 bel lt3) trodAll_mk0)))),rfl,bel.frame _,fun h=>by cases h⟩
set_option maxRecDepth 100000 in
theorem lifted (os:Os) (started:os.Started) (H:Type) (enc:TypeId × Value→H) (F:Stop.Interp) :
 ReturnsInHanded {} Tryz.checked os 7 .any ((OpenSpec.ofChange Rows.stepsPrunedIsEnoughSpec).preRow enc Tryz.prog Tryz.f7 Rows.stepsPrunedIsEnoughRow.domain false Rows.stepsPrunedIsEnoughRow.laid) (((OpenSpec.ofChange Rows.stepsPrunedIsEnoughSpec).at F).post enc Tryz.prog Tryz.f7 false true false false):=by
 obtain ⟨d,places,hx⟩:=reads os enc
 refine returnsInHanded_of_row (C:=Tryz.checked) (s:=OpenSpec.ofChange Rows.stepsPrunedIsEnoughSpec) own started (by kernel_rfl) Tryz.func7
  (witness_row_atRef (enc:=enc) (C:=Tryz.checked) false (laidWorld os) #[.slice none 0 0,.slice none 0 0,.slice none 0 0,.slice none 0 0] rfl (by kernel_rfl) (by kernel_rfl) (by kernel_rfl)
    (OpenSpec.preRow_of_cond 8 hx (by kernel_rfl) (fun k hk=>by cases hk) (by kernel_rfl) (laid_met os _))) ?_
 intro W base args ds gs before hval hW _ _ _ hL hS _
 exact contract H enc W base args ds gs before hval hW (env2_of hL hS (by simp [Rows.stepsPrunedIsEnoughRow,Rows.laid_unicode_utf8_first]) (by simp [Rows.stepsPrunedIsEnoughRow]) (by simp [Rows.stepsPrunedIsEnoughRow]))
theorem said:Rows.StepsPrunedIsEnoughSaid :=
 OpenClaim.holds_of_cond 7 Tryz.f7 rfl rfl rfl rfl rfl rfl rfl ⟨rfl,rfl,rfl,rfl,rfl⟩ rfl rfl rfl rfl rfl (by kernel_rfl) Tryz.func7 closed
  (of_decide_eq_true (by as_aux_lemma=>kernel_rfl)) (by unfold Func.isWrapper; first | (rw [if_pos (by decide +kernel)]; kernel_rfl) | (rw [if_neg (by decide +kernel)]; exact ⟨rfl,rfl⟩))
  (fun os started H enc _ F=>by rw [OpenClaim.pre_eq_preRow]; exact lifted os started H enc F)
theorem plain (f:FuncId) (fn:Func) (hf:Tryz.pinned.checked.prog.funcNamed Rows.stepsPrunedIsEnoughRow.func=some f) (hfn:Tryz.pinned.checked.prog.funcs[f]?=some fn) :
 true=Tryz.pinned.checked.prog.looks []∧∀ (j:Nat) t,fn.params[j]?=some t→Tryz.pinned.checked.prog.wantsStandIn t=false:=by
 obtain rfl:f=7:=Option.some.inj ((show Tryz.prog.funcNamed Rows.stepsPrunedIsEnoughRow.func=some 7 by kernel_rfl).symm.trans hf) |>.symm
 obtain rfl:fn=Tryz.f7:=(Option.some.inj (Tryz.func7.symm.trans hfn)).symm
 refine ⟨by kernel_rfl,fun j t ht=>?_⟩
 rw [Tryz.params7] at ht
 have hm:t=22∨t=23∨t=24∨t=26:=by simpa using Array.mem_of_getElem? ht
 rcases hm with rfl | rfl | rfl | rfl
 ·exact (show Tryz.prog.wantsStandIn 22=false by kernel_rfl)
 ·exact (show Tryz.prog.wantsStandIn 23=false by kernel_rfl)
 ·exact (show Tryz.prog.wantsStandIn 24=false by kernel_rfl)
 ·exact (show Tryz.prog.wantsStandIn 26=false by kernel_rfl)
theorem card:Rows.StepsPrunedIsEnoughCardSaid :=
 Claim7.holds_tied_plain_at .later [] _ _ _ _ said (fun _ h=>by cases h) (by as_aux_lemma=>kernel_rfl) (fun _ h=>by cases h) stepsPrunedIsEnough_row_tie rfl ⟨rfl,rfl⟩ (by as_aux_lemma=>kernel_rfl) rfl plain (by as_aux_lemma=>kernel_rfl)
end Go.Proofs.YtaabdbephemboaaGreatDoor.pruned
