/- After any changes of the files, with what was remembered before, a build makes what it makes from nothing, without commands list, if no two contents have one digest: the given statement, for all arguments; no condition. -/
import Derived.Test.YtaabdbephemboaaGreatDoorBx1
import Derived.Test.YtaabdbephemboaaGreatDoorBx2
import Derived.Test.YtaabdbephemboaaGreatDoorBx3
import Derived.Test.YtaabdbephemboaaGreatDoorBx4
import Derived.Test.YtaabdbephemboaaGreatDoorBx5
import Derived.Test.YtaabdbephemboaaGreatDoorBx6
import Derived.Test.YtaabdbephemboaaGreatDoorBx7
import Derived.Test.YtaabdbephemboaaGreatDoorBx8
import Derived.Test.YtaabdbephemboaaGreatDoorBx9
import Derived.Test.YtaabdbephemboaaGreatDoorBx10
import Derived.Test.YtaabdbephemboaaGreatDoorBx11
import Derived.Test.YtaabdbephemboaaGreatDoorBx12
import Derived.Test.YtaabdbephemboaaGreatDoorBx13
import Derived.Test.YtaabdbephemboaaGreatDoorBx14
import Derived.Test.YtaabdbephemboaaGreatDoorBx15
import Derived.Test.YtaabdbephemboaaGreatDoorBx16
import Derived.Test.YtaabdbephemboaaGreatDoorBx17
import Derived.Test.YtaabdbephemboaaGreatDoorBx18
import Derived.Test.YtaabdbephemboaaGreatDoorBx19
import Derived.Test.YtaabdbephemboaaGreatDoorBx20
import Derived.Test.YtaabdbephemboaaGreatDoorBx21
import Derived.Test.YtaabdbephemboaaGreatDoorBx22
import Derived.Test.YtaabdbephemboaaGreatDoorBx23
import Derived.Test.YtaabdbephemboaaGreatDoorBx24
import Derived.Test.YtaabdbephemboaaGreatDoorBx25
import Derived.Test.YtaabdbephemboaaGreatDoorBx26
import Derived.Test.YtaabdbephemboaaGreatDoorBx27
import Derived.Test.YtaabdbephemboaaGreatDoorBx28
import Derived.Test.YtaabdbephemboaaGreatDoorBx29
import Derived.Test.YtaabdbephemboaaGreatDoorBx30
import Derived.Test.YtaabdbephemboaaGreatDoorBx31
import Derived.Test.YtaabdbephemboaaGreatDoorBx32
import Derived.Test.YtaabdbephemboaaGreatDoorBx33
import Derived.Test.YtaabdbephemboaaGreatDoorBx34
import Derived.Test.YtaabdbephemboaaGreatDoorBx35
import Derived.Test.YtaabdbephemboaaGreatDoorBx36
import Derived.Test.YtaabdbephemboaaGreatDoorT23x1
import Derived.Deep.AppendLies
import Derived.Laws.OwnMore
namespace Go.Proofs.Sm
open Go.RowKit Go.Maps
section
variable (A B C D:Option Addr) (n c m d nw cw nd cd:Nat) (l:List RuleV) (F:List FileV) (ws:List ByteArray) (ms:List MemoryV) (w:World)
set_option maxHeartbeats 0 in
set_option maxRecDepth 100000 in
theorem steps_Again (hE:Env2 w) (hsl:Sl w (Lt w.heap.size) A n l) (hF:Sl w (Lt w.heap.size) B m F) (hws:Sl w (Lt w.heap.size) C nw ws) (hms:Sl w (Lt w.heap.size) D nd ms) :
 Calls Tryz.prog 11 #[.slice A n c,.slice B m d,.slice C nw cw,.slice D nd cd] w (BuildPost l F ws ms w):=by
 have hbx:=fr_alloc (fr_refl w) (.cells #[.slice none 0 0,.slice none 0 0,.slice none 0 0] 28)
 have hR0:Arr (w.alloc (.cells #[.slice none 0 0,.slice none 0 0,.slice none 0 0] 28)) w.heap.size 28 [.slice none 0 0,.slice none 0 0,.slice none 0 0]:=heap_alloc_new w _
 have HB:=Lib.hid (steps_build A B C D n c m d nw cw nd cd l F ws ms _ (hE.then_ hbx) (sl_call hsl hbx (Nat.le_refl _)) (sl_call hF hbx (Nat.le_refl _)) (sl_call hws hbx (Nat.le_refl _)) (sl_call hms hbx (Nat.le_refl _)))
 go_enter Tryz.func11,Tryz.ntmps11
 go_wp2_with fail
 refine HB.out.mono ?_
 rintro e w1 ⟨A1,n1,c1,A2,n2,c2,A3,n3,c3,f,b,rfl,hi,s1,s2,s3,h1,h2,h3,hb1⟩
 have hR:=hR0.call hb1
 have HX:=Lib.hid (show BuildPost l F ws ms w _ w1 from ⟨A1,n1,c1,A2,n2,c2,A3,n3,c3,f,b,rfl,hi,s1,s2,s3,h1,h2,h3,fr_call hbx hb1⟩)
 clear hi s1 s2 s3 h1 h2 h3 hR0 HB
 have e0:=hR.cell (i:=0) rfl
 have e1:=hR.cell (i:=1) rfl
 have e2:=hR.cell (i:=2) rfl
 have i0:=hR.frozen 0
 have i1:=hR.frozen 1
 have i2:=hR.frozen 2
 have hl4:=hR.lt
 go_wp2
 generalize hWE:World.setCell (World.setCell (World.setCell w1 _ _) _ _) _ _=WE
 have hE5:Arr WE w.heap.size 28 [(.slice A1 n1 c1),(.slice A2 n2 c2),(.slice A3 n3 c3)]:=by
  rw [←hWE]; exact ((hR.set 0 _).set 1 _).set 2 _
 have hkE:Kp (fun j=>j=w.heap.size) w1 WE:=by
  rw [←hWE]
  exact Kp.set (p:=⟨w.heap.size,2,none⟩) (Kp.set (p:=⟨w.heap.size,1,none⟩) (Kp.set (p:=⟨w.heap.size,0,none⟩) (Kp.refl (fun j=>j=w.heap.size) w1) rfl _) rfl _) rfl _
 clear hWE e0 e1 e2 i0 i1 i2
 have y0:=hE5.cell (i:=0) rfl
 have y1:=hE5.cell (i:=1) rfl
 have y2:=hE5.cell (i:=2) rfl
 exact bodyPost_ret (v:=.tuple #[.agg #[(.slice A1 n1 c1),(.slice A2 n2 c2),(.slice A3 n3 c3)],.int .i64 f]) (by simp [results,Tryz.results11,go_sem,y0,y1,y2]) rfl (HX.out.shut hR hkE (Nat.le_refl _))
set_option maxHeartbeats 0 in
set_option maxRecDepth 100000 in
theorem steps_Fresh (hE:Env2 w) (hsl:Sl w (Lt w.heap.size) A n l) (hF:Sl w (Lt w.heap.size) B m F) (hws:Sl w (Lt w.heap.size) C nw ws) :
 Calls Tryz.prog 9 #[.slice A n c,.slice B m d,.slice C nw cw] w (BuildPost l F ws [] w):=by
 have hbx:=fr_alloc (fr_refl w) (.cells #[.slice none 0 0,.slice none 0 0,.slice none 0 0] 28)
 have hR0:Arr (w.alloc (.cells #[.slice none 0 0,.slice none 0 0,.slice none 0 0] 28)) w.heap.size 28 [.slice none 0 0,.slice none 0 0,.slice none 0 0]:=heap_alloc_new w _
 have HB:=Lib.hid (steps_build A B C none n c m d nw cw 0 0 l F ws [] _ (hE.then_ hbx) (sl_call hsl hbx (Nat.le_refl _)) (sl_call hF hbx (Nat.le_refl _)) (sl_call hws hbx (Nat.le_refl _)) Sl.nil)
 go_enter Tryz.func9,Tryz.ntmps9
 go_wp2_with fail
 refine HB.out.mono ?_
 rintro e w1 ⟨A1,n1,c1,A2,n2,c2,A3,n3,c3,f,b,rfl,hi,s1,s2,s3,h1,h2,h3,hb1⟩
 have hR:=hR0.call hb1
 have HX:=Lib.hid (show BuildPost l F ws [] w _ w1 from ⟨A1,n1,c1,A2,n2,c2,A3,n3,c3,f,b,rfl,hi,s1,s2,s3,h1,h2,h3,fr_call hbx hb1⟩)
 clear hi s1 s2 s3 h1 h2 h3 hR0 HB
 have e0:=hR.cell (i:=0) rfl
 have e1:=hR.cell (i:=1) rfl
 have e2:=hR.cell (i:=2) rfl
 have i0:=hR.frozen 0
 have i1:=hR.frozen 1
 have i2:=hR.frozen 2
 have hl4:=hR.lt
 go_wp2
 generalize hWE:World.setCell (World.setCell (World.setCell w1 _ _) _ _) _ _=WE
 have hE5:Arr WE w.heap.size 28 [(.slice A1 n1 c1),(.slice A2 n2 c2),(.slice A3 n3 c3)]:=by
  rw [←hWE]; exact ((hR.set 0 _).set 1 _).set 2 _
 have hkE:Kp (fun j=>j=w.heap.size) w1 WE:=by
  rw [←hWE]
  exact Kp.set (p:=⟨w.heap.size,2,none⟩) (Kp.set (p:=⟨w.heap.size,1,none⟩) (Kp.set (p:=⟨w.heap.size,0,none⟩) (Kp.refl (fun j=>j=w.heap.size) w1) rfl _) rfl _) rfl _
 clear hWE e0 e1 e2 i0 i1 i2
 have y0:=hE5.cell (i:=0) rfl
 have y1:=hE5.cell (i:=1) rfl
 have y2:=hE5.cell (i:=2) rfl
 exact bodyPost_ret (v:=.tuple #[.agg #[(.slice A1 n1 c1),(.slice A2 n2 c2),(.slice A3 n3 c3)],.int .i64 f]) (by simp [results,Tryz.results9,go_sem,y0,y1,y2]) rfl (HX.out.shut hR hkE (Nat.le_refl _))
end
end Go.Proofs.Sm
namespace Go.Proofs.Sm
open Go.RowKit
def ListsPost (l:List RuleV) (w:World) (e:Ending) (w':World):Prop:=∃ b:Bool,e=.returned (.bool b)∧(b=false→∀ r∈l,r.action.commands.any isList=false)∧Below w.heap.size w w'
theorem lists_none {l:List RuleV} (h:l.any (fun r=>r.action.commands.any isList)=false):∀ r∈l,r.action.commands.any isList=false:=fun r hr=>by simpa using List.any_eq_false.1 h r hr
set_option maxHeartbeats 2000000 in
set_option maxRecDepth 100000 in
theorem law6_lists (A:Option Addr) (n c:Nat) (l:List RuleV) (w:World) (hsl:Sl w (Lt w.heap.size) A n l):Calls Tryz.prog 12 #[.slice A n c] w (ListsPost l w):=by
 have hm:n≤9223372036854775807:=hsl.2.1
 have HL:=Lib.hid hsl.1
 go_enter Tryz.func12,Tryz.ntmps12
 go_wp2
 go_loop [3] (fun i=>∃ k:Nat,k≤n∧i=.int .i64 k∧(l.take k).any (fun r=>r.action.commands.any isList)=false) (fun i=>n - (intOf i).toNat)
 case atStart=>exact ⟨0,Nat.zero_le _,rfl,rfl⟩
 case round =>
  obtain ⟨k,hk,rfl,hall⟩:=hrel
  have H:=Lib.hid hall; clear hall
  by_cases hlt:k < n
  ·obtain ⟨b,o,x,rfl,hb,hx,A1,n1,c1,A2,n2,c2,A3,n3,c3,A4,n4,c4,A5,n5,c5,_,_,⟨s1,_,_,_,_⟩,q0,q1,q2,q3,q4,q5,q6,q7⟩:=hsl.rule hlt
   have HX:=Lib.hid hx; clear hx
   have hkI:(k:Int) < (n:Int):=by omega
   have hm1:n1≤9223372036854775807:=s1.2.1
   have H1:=Lib.hid s1.1
   clear q0 q1 q3 q4 q5 q6 q7
   go_wp2
   go_loop [4] (fun j=>∃ t:Nat,t≤n1∧j=.int .i64 t∧(x.action.commands.take t).any isList=false) (fun j=>n1 - (intOf j).toNat)
   case atStart=>exact ⟨0,Nat.zero_le _,rfl,rfl⟩
   case round =>
    obtain ⟨t,ht,rfl,hall⟩:=hrel
    have H2:=Lib.hid hall; clear hall
    by_cases htl:t < n1
    ·obtain ⟨b1,o1,y,A',n',c',rfl,hb1,hy,h1,h2,hs,c0⟩:=s1.row htl
     have Hy:=Lib.hid hy; clear hy
     have htI:(t:Int) < (n1:Int):=by omega
     rcases Nat.eq_zero_or_pos n' with h0 | h0
     ·subst h0
      have hx0:y=[]:=List.eq_nil_of_length_eq_zero hs.1
      have HS:=Lib.hid (any_step (p:=isList) Hy.out H2.out (by rw [hx0]; exact word0_nil _ (by decide)))
      clear hx0 hs
      go_wp2
      go_round
      case rel=>exact ⟨t + 1,by omega,by go_num,HS.out⟩
      case measure=>simp [intOf]; omega
     ·obtain ⟨b2,o2,z,rfl,hb2,hz,hzs,d0⟩:=hs.str h0
      have hw:=word0_at hz [108,105,115,116]
      have h0I:(0:Int) < (n':Int):=by omega
      rw [Nat.add_zero] at d0
      clear hz hs
      cases hq:(z.toList == [108,105,115,116])
      ·have HS:=Lib.hid (any_step (p:=isList) Hy.out H2.out (hw.trans hq))
       clear hw
       go_wp2
       go_round
       case rel=>exact ⟨t + 1,by omega,by go_num,HS.out⟩
       case measure=>simp [intOf]; omega
      ·clear hw
       go_wp2
       go_ret
       exact ⟨true,rfl,fun e=>(by cases e),Below.refl _ _⟩
    ·have HS:=Lib.hid (any_step (p:=fun r:RuleV=>r.action.commands.any isList) HX.out H.out (any_end (by rw [H1.out]; omega) H2.out))
     go_wp2
     go_round
     case rel=>exact ⟨k + 1,by omega,by go_num,HS.out⟩
     case measure=>simp [intOf]; omega
  ·have HS:=Lib.hid (lists_none (any_end (by rw [HL.out]; omega) H.out))
   go_wp2
   go_ret
   exact ⟨false,rfl,fun _=>HS.out,Below.refl _ _⟩
end Go.Proofs.Sm
namespace Go.Proofs.Sm
open Go.RowKit
theorem row_info:(Tryz.prog.info? 75).map (fun i=>(i.zero,i.size,i.bytes))=some (some (.slice none 0 0),1,24):=by kernel_rfl
def ContentsPost (S:Nat→Prop) (files:List FileV) (ms:List MemoryV) (w:World) (e:Ending) (w':World):Prop:=∃ v,e=.returned v∧RowK w' w.heap.size 75 S v (contentsS files ms)∧Below w.heap.size w w'
theorem flat_more {α β:Type} {f:α→List β} {l:List α} {k:Nat} {x:α} (hx:l[k]?=some x):(l.take (k + 1)).flatMap f=(l.take k).flatMap f ++ f x:=by
 rw [List.take_add_one,hx,List.flatMap_append]; simp
theorem map_more {α β:Type} {f:α→β} {l:List α} {k:Nat} {x:α} (hx:l[k]?=some x):(l.take (k + 1)).map f=(l.take k).map f ++ [f x]:=by
 rw [List.take_add_one,hx,List.map_append]; rfl
theorem flat_le {α β:Type} {f:α→List β} {B:Nat}:∀ {l:List α},(∀ x∈l,(f x).length≤B)→(l.flatMap f).length≤l.length * B
 | [],_=>by simp
 | x :: l,h=>by
   rw [List.flatMap_cons,List.length_append,List.length_cons,Nat.succ_mul]
   have h1:=h x (List.mem_cons_self ..)
   have h2:=flat_le (l:=l) fun y hy=>h y (List.mem_cons_of_mem _ hy)
   omega
def bytesOf (y:MemoryV):List (List UInt8):=y.result.files.map FileV.bytes
set_option maxHeartbeats 4000000 in
set_option maxRecDepth 100000 in
theorem law6_contents (A:Option Addr) (n c:Nat) (files:List FileV) (B:Option Addr) (m d:Nat) (ms:List MemoryV) (w:World) (S:Nat→Prop) (hS:∀ k,S k→k < w.heap.size) (ha:Sl w S A n files) (hb:Sl w S B m ms) (hn:n≤1000000) (hm:m≤1000) (hok:∀ y∈ms,MemOk y) :
 Calls Tryz.prog 14 #[.slice A n c,.slice B m d] w (ContentsPost S files ms w):=by
 have HLa:=Lib.hid ha.1
 have HLb:=Lib.hid hb.1
 have HOk:=Lib.hid hok
 have hn9:n≤9223372036854775807:=by omega
 have hm9:m≤9223372036854775807:=by omega
 obtain ⟨i0,hi0,hz0,hz1,hz2⟩:=info_parts row_info
 clear hok
 go_enter Tryz.func14,Tryz.ntmps14
 go_wp2
 go_loopw [5,6] (fun v i wr=>∃ k:Nat,k≤n∧i=.int .i64 k∧RowK wr w.heap.size 75 S v ((files.take k).map FileV.bytes)∧Below w.heap.size w wr) (fun _ i _=>n - (intOf i).toNat)
 case atStart=>exact ⟨0,Nat.zero_le _,rfl,RowK.nil.more (fun _ h=>h.elim) hS,Below.refl _ _⟩
 case round =>
  obtain ⟨k,hk,rfl,hrow,hbel⟩:=hrel
  by_cases hlt:k < n
  ·have hkI:(k:Int) < (n:Int):=by omega
   obtain ⟨g1,o1,x,A',n'',c'',rfl,hb1,hx,hxp,hnc,hcm,hsl',c0,c1',c2⟩:=(ha.keep fun k hk=>hbel.block k (hS k hk)).file hlt
   have HT:=Lib.hid (map_more (f:=FileV.bytes) hx)
   have hlen:((files.take k).map FileV.bytes).length≤k:=by rw [List.length_map,List.length_take]; omega
   clear hx
   generalize (files.take k).map FileV.bytes=OL at *
   have hnew:∀ (j:Nat) v,([.slice A' n'' c'']:List Value)[j]?=some v→(wr.alloc (.cells #[.slice A' n'' c''] 75)).cell? ((⟨wr.heap.size,0,none⟩:Addr).add j)=some v:=new_cells wr #[.slice A' n'' c''] 75
   have HNw:=Lib.hid hnew
   have hb1x:=fr_alloc (fr_refl wr) (.cells #[.slice A' n'' c''] 75)
   have hbx:=fr_alloc hbel (.cells #[.slice A' n'' c''] 75)
   have HX:=Lib.hid (show Rep.rep (wr.alloc (.cells #[.slice A' n'' c''] 75)) S x.bytes [.slice A' n'' c''] from ⟨A',n'',c'',rfl,hnc,hcm,hsl'.keep fun j hj=>hb1x.block j (Nat.lt_of_lt_of_le (hS j hj) hbel.size)⟩)
   obtain ⟨hK0,rows,hrows,hown,hrep⟩:=hrow.call hb1x
   have HP:=Lib.hid hrep
   have HOw:=Lib.hid hown
   have HK0:=Lib.hid hK0
   have HKk:=Lib.hid (fun j hj=>(hrow.kind j hj).1)
   clear hnew hown hrep hK0 hsl' hrow
   go_wp2_with (at_builtin; refine wpList_append_lies _ rfl _ _ 36 rfl w.heap.size 75 i0 _ 1 24 Tryz.underlying36 hi0 hz0 hz1 hz2 rfl (by decide) _ OL.length _ rfl HOw.out ⟨wr.heap.size,0,none⟩ 1 1 [.slice A' n'' c''] rfl rfl HNw.out (slice_one A' n'' c'') (by decide) (by unfold maxLen; omega) (by omega) hbx.size _ rfl ?_)
   intro g' cap w9 hown' hgrow hat hlt'
   have hr9:=RowK.append (x:=x.bytes) (r:=[.slice A' n'' c'']) (l:=OL) HK0.out hrows HP.out HX.out (fun g hg hh=>by have:=HKk.out g hg; have hh:=hS g hh; omega) hgrow hown'
   have hb9:=hbx.grown hgrow hbx.size HKk.out
   have HR9:=Lib.hid hr9
   clear hown' hgrow hat hr9
   go_wp2
   go_roundw
   case rel=>exact ⟨k + 1,by omega,by go_num,by rw [HT.out]; exact HR9.out,hb9⟩
   case measure=>simp [intOf]; omega
  ·obtain rfl:k=n:=by omega
   rw [List.take_of_length_le (by rw [HLa.out]; exact Nat.le_refl _)] at hrow
   have hlenA:(files.map FileV.bytes).length≤1000000:=by rw [List.length_map,HLa.out]; exact hn
   have HV:=Lib.hid (show contentsS files ms=files.map FileV.bytes ++ ms.flatMap bytesOf from rfl)
   generalize files.map FileV.bytes=O1 at *
   go_wp2
   go_loopw [5,7] (fun v i wx=>∃ t:Nat,t≤m∧i=.int .i64 t∧RowK wx w.heap.size 75 S v (O1 ++ (ms.take t).flatMap bytesOf)∧Below w.heap.size w wx) (fun _ i _=>m - (intOf i).toNat)
   case atStart=>exact ⟨0,Nat.zero_le _,rfl,by simpa using hrow,hbel⟩
   case round =>
    clear hrow hbel
    obtain ⟨t,ht,rfl,hrow,hbel⟩:=hrel
    by_cases htl:t < m
    ·have htI:(t:Int) < (m:Int):=by omega
     obtain ⟨g2,o2,y,rfl,hb2,hy,A1,n1,c1,A2,n2,c2,A3,n3,c3,_,_,⟨_,s2,_⟩,q0,q1,q2,q3,q4,q5,q6,q7⟩:=(hb.keep fun k hk=>hbel.block k (hS k hk)).memory htl
     have hg2:g2 < w.heap.size:=hS g2 hb2
     have HT2:=Lib.hid (flat_more (f:=bytesOf) hy)
     have hoy:=HOk.out y (List.mem_of_getElem? hy)
     have hn2:n2≤1000000:=by have:=hoy.2.1; rwa [s2.1] at this
     have hn29:n2≤9223372036854775807:=by omega
     have H2:=Lib.hid s2.1
     have hlenB:((ms.take t).flatMap bytesOf).length≤1000 * 1000000:=by
      have h1:=flat_le (f:=bytesOf) (B:=1000000) (l:=ms.take t) fun z hz=>by have:=(HOk.out z (List.mem_of_mem_take hz)).2.1; unfold bytesOf; rw [List.length_map]; exact this
      have h2:(ms.take t).length≤1000:=by rw [List.length_take]; omega
      exact Nat.le_trans h1 (Nat.mul_le_mul_right _ h2)
     have hS2:=Lib.hid (fun w' (hb:Below w.heap.size w w')=>(show Sl w' S A2 n2 y.result.files from (s2.keep fun k hk=>(hb.block k (hS k hk)).trans (hbel.block k (hS k hk)).symm)))
     have hQ5:=Lib.hid (fun w' (hb:Below w.heap.size w w')=>(show w'.cell? ⟨g2,o2 + t * 8 + 5,none⟩=some (.slice A2 n2 c2) from (hb.cell (p:=⟨g2,o2 + t * 8 + 5,none⟩) hg2).trans ((hbel.cell (p:=⟨g2,o2 + t * 8 + 5,none⟩) hg2).symm.trans q5)))
     clear hy hoy s2 q0 q1 q2 q3 q4 q6 q7
     generalize (ms.take t).flatMap bytesOf=O2 at *
     go_wp2
     go_loopw [5,8] (fun v i wz=>∃ j:Nat,j≤n2∧i=.int .i64 j∧RowK wz w.heap.size 75 S v ((O1 ++ O2) ++ (y.result.files.take j).map FileV.bytes)∧Below w.heap.size w wz) (fun _ i _=>n2 - (intOf i).toNat)
     case atStart=>exact ⟨0,Nat.zero_le _,rfl,by simpa using hrow,hbel⟩
     case round =>
      clear hrow hbel q5
      obtain ⟨j,hj,rfl,hrow,hbel⟩:=hrel
      have e5:=hQ5.out _ hbel
      have hgr:g2 < wr.heap.size:=Nat.lt_of_lt_of_le hg2 hbel.size
      by_cases hjl:j < n2
      ·have hjI:(j:Int) < (n2:Int):=by omega
       obtain ⟨g1,o1,x,A',n'',c'',rfl,hb1,hx,hxp,hnc,hcm,hsl',c0,c1',c2'⟩:=(hS2.out _ hbel).file hjl
       have HT:=Lib.hid (map_more (f:=FileV.bytes) hx)
       have hlen:((O1 ++ O2) ++ (y.result.files.take j).map FileV.bytes).length≤1000000 + 1000 * 1000000 + j:=by rw [List.length_append,List.length_append,List.length_map,List.length_take]; omega
       have HA:=Lib.hid (show (O1 ++ O2) ++ (y.result.files.take (j + 1)).map FileV.bytes=((O1 ++ O2) ++ (y.result.files.take j).map FileV.bytes) ++ [x.bytes] by rw [HT.out,List.append_assoc (O1 ++ O2)])
       clear hx HT
       generalize (O1 ++ O2) ++ (y.result.files.take j).map FileV.bytes=OL at *
       have hnew:∀ (j:Nat) v,([.slice A' n'' c'']:List Value)[j]?=some v→(wr.alloc (.cells #[.slice A' n'' c''] 75)).cell? ((⟨wr.heap.size,0,none⟩:Addr).add j)=some v:=new_cells wr #[.slice A' n'' c''] 75
       have HNw:=Lib.hid hnew
       have hb1x:=fr_alloc (fr_refl wr) (.cells #[.slice A' n'' c''] 75)
       have hbx:=fr_alloc hbel (.cells #[.slice A' n'' c''] 75)
       have HX:=Lib.hid (show Rep.rep (wr.alloc (.cells #[.slice A' n'' c''] 75)) S x.bytes [.slice A' n'' c''] from ⟨A',n'',c'',rfl,hnc,hcm,hsl'.keep fun j hj=>hb1x.block j (Nat.lt_of_lt_of_le (hS j hj) hbel.size)⟩)
       obtain ⟨hK0,rows,hrows,hown,hrep⟩:=hrow.call hb1x
       have HP:=Lib.hid hrep
       have HOw:=Lib.hid hown
       have HK0:=Lib.hid hK0
       have HKk:=Lib.hid (fun j hj=>(hrow.kind j hj).1)
       clear hnew hown hrep hK0 hsl' hrow
       go_wp2_with (at_builtin; refine wpList_append_lies _ rfl _ _ 36 rfl w.heap.size 75 i0 _ 1 24 Tryz.underlying36 hi0 hz0 hz1 hz2 rfl (by decide) _ OL.length _ rfl HOw.out ⟨wr.heap.size,0,none⟩ 1 1 [.slice A' n'' c''] rfl rfl HNw.out (slice_one A' n'' c'') (by decide) (by unfold maxLen; omega) (by omega) hbx.size _ rfl ?_)
       intro g' cap w9 hown' hgrow hat hlt'
       have hr9:=RowK.append (x:=x.bytes) (r:=[.slice A' n'' c'']) (l:=OL) HK0.out hrows HP.out HX.out (fun g hg hh=>by have:=HKk.out g hg; have hh:=hS g hh; omega) hgrow hown'
       have hb9:=hbx.grown hgrow hbx.size HKk.out
       have HR9:=Lib.hid hr9
       clear hown' hgrow hat hr9
       go_wp2
       go_roundw
       case rel=>exact ⟨j + 1,by omega,by go_num,by rw [HA.out]; exact HR9.out,hb9⟩
       case measure=>simp [intOf]; omega
      ·obtain rfl:j=n2:=by omega
       rw [List.take_of_length_le (by rw [H2.out]; exact Nat.le_refl _),List.append_assoc] at hrow
       rw [show O2 ++ y.result.files.map FileV.bytes=(ms.take (t + 1)).flatMap bytesOf from HT2.out.symm] at hrow
       have HR9:=Lib.hid hrow
       clear hrow
       go_wp2
       go_roundw
       case rel=>exact ⟨t + 1,by omega,by go_num,HR9.out,hbel⟩
       case measure=>simp [intOf]; omega
    ·obtain rfl:t=m:=by omega
     rw [List.take_of_length_le (by rw [HLb.out]; exact Nat.le_refl _),←HV.out] at hrow
     have H8:=Lib.hid (show ContentsPost S files ms w (.returned u5) wr from ⟨_,rfl,hrow,hbel⟩)
     clear hrow
     go_wp2
     go_ret
     exact H8.out
def FaithPost (l:List (List UInt8)) (w:World) (e:Ending) (w':World):Prop:=∃ b:Bool,e=.returned (.bool b)∧(b=true→FaithfulL l)∧Below w.heap.size w w'
def PairOk (a b:List UInt8):Prop:=digestS a=digestS b→a=b
def PairsTo (l:List (List UInt8)) (i:Nat):Prop:=∀ (j k:Nat) (a b:List UInt8),j < i→k < j→l[j]?=some a→l[k]?=some b→PairOk a b
theorem pairs_all {l:List (List UInt8)} (h:PairsTo l l.length):FaithfulL l:=by
 intro a ha b hb e
 obtain ⟨i,hi⟩:=List.getElem?_of_mem ha
 obtain ⟨j,hj⟩:=List.getElem?_of_mem hb
 rcases Nat.lt_trichotomy i j with h1 | h1 | h1
 ·exact (h j i b a (List.getElem?_eq_some_iff.1 hj).1 h1 hj hi e.symm).symm
 ·subst h1; rw [hi] at hj; exact Option.some.inj hj
 ·exact h i j a b (List.getElem?_eq_some_iff.1 hi).1 h1 hi hj e
theorem pairs_zero (l:List (List UInt8)):PairsTo l 0:=fun _ _ _ _ hj=>absurd hj (Nat.not_lt_zero _)
def RowTo (l:List (List UInt8)) (i t:Nat):Prop:=∀ (k:Nat) (a b:List UInt8),k < t→l[i]?=some a→l[k]?=some b→PairOk a b
theorem pairs_more {l:List (List UInt8)} {i:Nat} (h:PairsTo l i) (h2:RowTo l i i):PairsTo l (i + 1):=fun j k a b hj hk ha hb=>by
 rcases Nat.lt_succ_iff_lt_or_eq.1 hj with h1 | h1
 ·exact h j k a b h1 hk ha hb
 ·subst h1; exact h2 k a b hk ha hb
theorem row_zero (l:List (List UInt8)) (i:Nat):RowTo l i 0:=fun _ _ _ hk=>absurd hk (Nat.not_lt_zero _)
theorem row_more' {l:List (List UInt8)} {i t:Nat} {a b:List UInt8} (h:RowTo l i t) (ha:l[i]?=some a) (hb:l[t]?=some b) (hp:PairOk a b):RowTo l i (t + 1):=fun k x y hk hx hy=>by
 rcases Nat.lt_succ_iff_lt_or_eq.1 hk with h1 | h1
 ·exact h k x y h1 hx hy
 ·subst h1
  rw [ha] at hx; rw [hb] at hy; cases hx; cases hy; exact hp
theorem Sl.rowb {w:World} {S:Nat→Prop} {A:Option Addr} {n k:Nat} {l:List (List UInt8)} (h:Sl w S A n l) (hk:k < n) :
 ∃ b o x A' n' c',A=some ⟨b,o,none⟩∧S b∧l[k]?=some x∧n'≤c'∧c'≤maxLen∧Sl w S A' n' x∧w.cell? ⟨b,o + k,none⟩=some (.slice A' n' c'):=h.row hk
set_option maxHeartbeats 4000000 in
set_option maxRecDepth 100000 in
theorem ref1_Faithful (A:Option Addr) (n c:Nat) (l:List (List UInt8)) (w:World) (ha:Sl w (Lt w.heap.size) A n l):Calls Tryz.prog 13 #[.slice A n c] w (FaithPost l w):=by
 have HL:=Lib.hid ha.1
 have hn9:n≤9223372036854775807:=ha.2.1
 go_enter Tryz.func13,Tryz.ntmps13
 go_wp2
 go_loopw [3] (fun i wr=>∃ k:Nat,k≤n∧i=.int .i64 k∧PairsTo l k∧Below w.heap.size w wr) (fun i _=>n - (intOf i).toNat)
 case atStart=>exact ⟨0,Nat.zero_le _,rfl,pairs_zero l,fr_refl w⟩
 case round =>
  obtain ⟨k,hk,rfl,hp,hbel⟩:=hrel
  have HP:=Lib.hid hp; clear hp
  by_cases hlt:k < n
  ·have hkI:(k:Int) < (n:Int):=by omega
   obtain ⟨g1,o1,x,A1,n1,c1,rfl,hb1,hx,_,_,hs1,d1⟩:=ha.rowb hlt
   have hb1:g1 < w.heap.size:=hb1
   have HX:=Lib.hid hx; clear hx
   go_wp2
   go_loopw [4] (fun i wr=>∃ t:Nat,t≤k∧i=.int .i64 t∧RowTo l k t∧Below w.heap.size w wr) (fun i _=>k - (intOf i).toNat)
   case atStart=>exact ⟨0,Nat.zero_le _,rfl,row_zero l k,hbel⟩
   case round =>
    clear hbel
    obtain ⟨t,ht,rfl,hr,hbel⟩:=hrel
    have HR:=Lib.hid hr; clear hr
    by_cases htl:t < k
    ·have htI:(t:Int) < (k:Int):=by omega
     have htn:(t:Int) < (n:Int):=by omega
     obtain ⟨_,_,y,A2,n2,c2,e2,hb2,hy,_,_,hs2,d2⟩:=ha.rowb (k:=t) (by omega)
     cases e2
     have r1:=(hbel.cell (p:=⟨g1,o1 + k,none⟩) hb1).trans d1
     have r2:=(hbel.cell (p:=⟨g1,o1 + t,none⟩) hb1).trans d2
     have r3:g1 < wr.heap.size:=Nat.lt_of_lt_of_le hb1 hbel.size
     have HY:=Lib.hid hy; clear hy
     have HD1:=Lib.hid (fun (W:World) (hW:Below w.heap.size w W)=>ref1_Digest A1 n1 c1 x W (sl_call hs1 hW (Nat.le_refl _)))
     have HD2:=Lib.hid (fun (W:World) (hW:Below w.heap.size w W)=>ref1_Digest A2 n2 c2 y W (sl_call hs2 hW (Nat.le_refl _)))
     have HEq:=Lib.hid (fun (W:World) (hW:Below w.heap.size w W)=>bytes_Equal2 A1 A2 n1 n2 c1 c2 x y W (Lt W.heap.size) (Lt W.heap.size) (sl_call hs1 hW (Nat.le_refl _)) (sl_call hs2 hW (Nat.le_refl _)))
     have q1:=fun W (hW:Below w.heap.size w W)=>(HD1.out W hW).mono fun e w' h=>(show e=.returned (.string (digestS x))∧w'=W from ⟨h.1,h.2.symm⟩)
     have q2:=fun W (hW:Below w.heap.size w W)=>(HD2.out W hW).mono fun e w' h=>(show e=.returned (.string (digestS y))∧w'=W from ⟨h.1,h.2.symm⟩)
     have q3:=fun W (hW:Below w.heap.size w W)=>(HEq.out W hW).mono fun e w' h=>(show e=.returned (.bool (decide (x=y)))∧w'=W from ⟨h.1,h.2.symm⟩)
     have HQ1:=Lib.hid q1
     have HQ2:=Lib.hid q2
     have HQ3:=Lib.hid q3
     have HPok:=Lib.hid (fun (h:PairOk x y)=>row_more' HR.out HX.out HY.out h)
     have HPk:=Lib.hid (show ((digestS x).toList == (digestS y).toList)=false→PairOk x y from fun h e=>by rw [e] at h; simp at h)
     clear q1 q2 q3 hs1 hs2 HD1 HD2 HEq
     generalize digestS x=dx at *
     generalize digestS y=dy at *
     cases hd:(dx.toList == dy.toList)
     ·have HN:=Lib.hid (HPok.out (HPk.out hd))
      go_wp2
      go_quiet ((go_at_call 27; first | with_reducible exact Calls.quiet_of_same (HQ1.out _ (by first | exact hbel | exact below_drewN hbel _ | exact below_drewN (below_drewN hbel _) _)) | with_reducible exact quiet_joined6 (HQ1.out _ (by first | exact hbel | exact below_drewN hbel _ | exact below_drewN (below_drewN hbel _) _)) | with_reducible exact Calls.quiet_of_same (HQ2.out _ (by first | exact hbel | exact below_drewN hbel _ | exact below_drewN (below_drewN hbel _) _)) | with_reducible exact quiet_joined6 (HQ2.out _ (by first | exact hbel | exact below_drewN hbel _ | exact below_drewN (below_drewN hbel _) _))))
      go_wp2
      go_roundw
      case rel=>exact ⟨t + 1,by omega,by go_num,HN.out,(by first | exact hbel | exact below_drewN hbel _ | exact below_drewN (below_drewN hbel _) _)⟩
      case measure=>simp [intOf]; omega
     ·by_cases hxy:x=y
      ·have HN:=Lib.hid (HPok.out fun _=>hxy)
       have hb:decide (x=y)=true:=decide_eq_true hxy
       rw [hb] at HQ3
       clear hb
       go_wp2
       go_quiet (first
        | (go_at_call 27; first | with_reducible exact Calls.quiet_of_same (HQ1.out _ (by first | exact hbel | exact below_drewN hbel _ | exact below_drewN (below_drewN hbel _) _)) | with_reducible exact quiet_joined6 (HQ1.out _ (by first | exact hbel | exact below_drewN hbel _ | exact below_drewN (below_drewN hbel _) _)) | with_reducible exact Calls.quiet_of_same (HQ2.out _ (by first | exact hbel | exact below_drewN hbel _ | exact below_drewN (below_drewN hbel _) _)) | with_reducible exact quiet_joined6 (HQ2.out _ (by first | exact hbel | exact below_drewN hbel _ | exact below_drewN (below_drewN hbel _) _)))
        | (go_at_call 28; (first | with_reducible exact Calls.quiet_of_same (HQ3.out _ (by first | exact hbel | exact below_drewN hbel _ | exact below_drewN (below_drewN hbel _) _)) | with_reducible exact quiet_joined6 (HQ3.out _ (by first | exact hbel | exact below_drewN hbel _ | exact below_drewN (below_drewN hbel _) _)))))
       go_wp2
       go_roundw
       case rel=>exact ⟨t + 1,by omega,by go_num,HN.out,(by first | exact hbel | exact below_drewN hbel _ | exact below_drewN (below_drewN hbel _) _)⟩
       case measure=>simp [intOf]; omega
      ·have hb:decide (x=y)=false:=decide_eq_false hxy
       rw [hb] at HQ3
       clear hb
       go_wp2
       go_quiet (first
        | (go_at_call 27; first | with_reducible exact Calls.quiet_of_same (HQ1.out _ (by first | exact hbel | exact below_drewN hbel _ | exact below_drewN (below_drewN hbel _) _)) | with_reducible exact quiet_joined6 (HQ1.out _ (by first | exact hbel | exact below_drewN hbel _ | exact below_drewN (below_drewN hbel _) _)) | with_reducible exact Calls.quiet_of_same (HQ2.out _ (by first | exact hbel | exact below_drewN hbel _ | exact below_drewN (below_drewN hbel _) _)) | with_reducible exact quiet_joined6 (HQ2.out _ (by first | exact hbel | exact below_drewN hbel _ | exact below_drewN (below_drewN hbel _) _)))
        | (go_at_call 28; (first | with_reducible exact Calls.quiet_of_same (HQ3.out _ (by first | exact hbel | exact below_drewN hbel _ | exact below_drewN (below_drewN hbel _) _)) | with_reducible exact quiet_joined6 (HQ3.out _ (by first | exact hbel | exact below_drewN hbel _ | exact below_drewN (below_drewN hbel _) _)))))
       go_wp2
       go_ret
       exact ⟨false,rfl,fun h=>(by cases h),(by first | exact hbel | exact below_drewN hbel _ | exact below_drewN (below_drewN hbel _) _)⟩
    ·obtain rfl:t=k:=by omega
     have HN:=Lib.hid (pairs_more HP.out HR.out)
     go_wp2
     go_roundw
     case rel=>exact ⟨t + 1,by omega,by go_num,HN.out,(by first | exact hbel | exact below_drewN hbel _ | exact below_drewN (below_drewN hbel _) _)⟩
     case measure=>simp [intOf]; omega
  ·have HS:=Lib.hid (pairs_all (by rw [show l.length=k by rw [HL.out]; omega]; exact HP.out))
   go_wp2
   go_ret
   exact ⟨true,rfl,fun _=>HS.out,hbel⟩
end Go.Proofs.Sm
namespace Go.Proofs.Sm
open Go.RowKit
theorem run_append_none_c {w:World} (base:Nat) (t ty e:TypeId) (i:TypeInfo) (size c:Nat) (ht:Tryz.prog.underlying t=some (.slice e)) (hi:Tryz.prog.info? e=some i)
 (v:Value) (n:Nat) (xs:List Value) (hown:w.ownsRow base e size v n xs) :
 (Builtin.append_ #[t,t] ty #[v,.slice none 0 c]).run Tryz.prog w=.ok v w:=by
 rcases hown.2 with ⟨rfl,rfl⟩ | ⟨g,cap,cur,rfl,_,_,hnc,_⟩
 ·simp [Builtin.append_,run_underlying ht,sizeOf,typeInfo,hi,Builtin.lenOf,Builtin.firstCells]
 ·simp [Builtin.append_,run_underlying ht,sizeOf,typeInfo,hi,Builtin.lenOf,Builtin.firstCells,hnc,storeCells]
theorem run_append_any {α:Type} [Rep α] {w:World} {B:Nat} {e:TypeId} {K:Nat→Prop} {v:Value} {l l2:List α} {A:Option Addr} {m c:Nat} (t ty:TypeId) (i:TypeInfo) (z:Value) (bytes:Nat) (ht:Tryz.prog.underlying t=some (.slice e)) (hi:Tryz.prog.info? e=some i) (hz:i.zero=some z)
 (hsize:i.size=Rep.sz α) (hby:i.bytes=bytes) (hzs:z.cells.size=Rep.sz α) (hsz:0 < Rep.sz α) (hone:∀ (x:α) r,Rep.rep w K x r→∀ u∈r,u.oneCell'=true)
 (hrow:RowK w B e K v l) (hK:∀ g,v.ownBlock=some g→¬ K g) (h2:Sl w K A m l2) (h63:l.length + m≤maxLen) (hbytes:(l.length + m) * bytes≤140737488355328) (hbase:B≤w.heap.size) :
 ∃ v' w',(Builtin.append_ #[t,t] ty #[v,.slice A m c]).run Tryz.prog w=.ok v' w'∧RowK w' B e K v' (l ++ l2)∧w.grownBy w' v.ownBlock:=by
 obtain ⟨hk0,rows,hrows,hown,hrep⟩:=id hrow
 obtain ⟨rows2,hl2,hrep2,hfl,had,hall⟩:=sl_cells h2 hsz
 rcases A with _ | ad
 ·have h0:m=0:=by
   rcases Nat.eq_zero_or_pos m with h0 | h0
   ·exact h0
   ·obtain ⟨_,e1,_⟩:=had h0; cases e1
  subst h0
  have e2:l2=[]:=List.eq_nil_of_length_eq_zero h2.1
  subst e2
  exact ⟨v,w,run_append_none_c B t ty e i (Rep.sz α) c ht hi v _ _ hown,by rw [List.append_nil]; exact hrow,World.grownBy.refl w _⟩
 ·have hnews:∀ j u,rows2.flatten[j]?=some u→w.cell? (ad.add j)=some u:=fun j u hu=>by
   have hm0:0 < m:=by
    rcases Nat.eq_zero_or_pos m with h0 | h0
    ·rw [h0,Nat.zero_mul] at hfl
     have:=(List.getElem?_eq_some_iff.1 hu).1
     omega
    ·exact h0
   obtain ⟨ad',e1,h3⟩:=had hm0
   cases e1
   exact h3 j u hu
  obtain ⟨v',w',hr,ho,hg,_,_⟩:=run_append_own_at (P:=Tryz.prog) w B t ty e i z (Rep.sz α) bytes ht hi hz hsize hby hzs hsz v l.length rows.flatten hown ad m c rows2.flatten hfl hnews
   (fun u hu=>by
     obtain ⟨r,hr,hu2⟩:=List.mem_flatten.1 hu
     obtain ⟨x,_,hx⟩:=hall r hr
     exact hone x r hx u hu2) h63 hbytes hbase
  exact ⟨v',w',hr,RowK.appendAll hk0 hrows hrep (by rw [hl2,h2.1]) hrep2 hK hg (by rw [h2.1]; exact ho),hg⟩
theorem step_append_any {w w':World} {ops:Array Oper} {o:Oper} {a:Act} {K:Act→World→Prop} {Q:Exit→Act→World→Prop} {E:Prop} {v x' v':Value} (hgd:o.guard=none) (s x:Operand) (t:TypeId)
 (ho:o.op=.call { callee:=.builtin .append,args:=#[s,x],argTypes:=#[t,t] }) (hs:a.eval s=v) (hx:a.eval x=x') (hr:(Builtin.append_ #[t,t] o.type #[v,x']).run Tryz.prog w=.ok v' w') (h:K (a.put o.dst v') w') :
 if Region.wanted o (yielded ops a.tmps)=true then Oper.wp Tryz.prog o a w K Q else E:=by
 have hw:Region.wanted o (yielded ops a.tmps)=true:=by simp [Region.wanted,hgd]
 rw [if_pos hw]
 unfold Oper.wp execOp
 simp only [ho,resolve,invoke,builtin,Sem.run_bind,Sem.run_pure,Result.andThen_ok,List.map_toArray,List.map_cons,List.map_nil,hs,hx,hr]
 exact h
theorem step_append_at {w w':World} {ops:Array Oper} {o:Oper} {a:Act} {K:Act→World→Prop} {Q:Exit→Act→World→Prop} {E:Prop} {v x' v':Value} {s x:Operand} {t:TypeId} (hr:(Builtin.append_ #[t,t] t #[v,x']).run Tryz.prog w=.ok v' w') (hgd:o.guard=none)
 (ho:o.op=.call { callee:=.builtin .append,args:=#[s,x],argTypes:=#[t,t] }) (ht:o.type=t) (hs:a.eval s=v) (hx:a.eval x=x') (h:K (a.put o.dst v') w') :
 if Region.wanted o (yielded ops a.tmps)=true then Oper.wp Tryz.prog o a w K Q else E:=step_append_any hgd s x t ho hs hx (by rw [ht]; exact hr) h
theorem row_ones {w:World} {K:Nat→Prop} (x:List UInt8) (r:List Value) (h:Rep.rep w K x r):∀ u∈r,u.oneCell'=true:=by
 obtain ⟨A,n,c,rfl,_⟩:=h
 intro u hu
 simp only [List.mem_cons,List.mem_nil_iff,or_false] at hu
 subst hu; rfl
theorem mem_ones8 {w:World} {K:Nat→Prop} (x:MemoryV) (r:List Value) (h:Rep.rep w K x r):∀ u∈r,u.oneCell'=true:=by
 obtain ⟨A,n,c,B,m,d,C,p,q,rfl,_⟩:=h
 intro u hu
 simp only [List.mem_cons,List.mem_nil_iff,or_false] at hu
 rcases hu with rfl | rfl | rfl | rfl | rfl | rfl | rfl | rfl <;> rfl
theorem contents_len {F:List FileV} {ms:List MemoryV} (hF:F.length≤1000) (hm:ms.length≤1000) (ok:∀ y∈ms,Mem2 y):(contentsS F ms).length≤1001000:=by
 unfold contentsS
 rw [List.length_append,List.length_map]
 have h1:=flat_le (f:=fun y:MemoryV=>y.result.files.map FileV.bytes) (B:=1000) (l:=ms) fun z hz=>by rw [List.length_map]; exact (ok z hz).2
 have h2:ms.length * 1000≤1000 * 1000:=Nat.mul_le_mul_right _ hm
 omega
end Go.Proofs.Sm
