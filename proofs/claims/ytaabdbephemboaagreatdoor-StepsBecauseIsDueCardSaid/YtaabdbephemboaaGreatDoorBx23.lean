/- Words and walks that the claims share, part 23. -/
import Derived.Test.YtaabdbephemboaaGreatDoorBx6
import Derived.Test.YtaabdbephemboaaGreatDoorBx9
import Derived.Test.YtaabdbephemboaaGreatDoorBx11
import Derived.Test.YtaabdbephemboaaGreatDoorBx12
import Derived.Test.YtaabdbephemboaaGreatDoorBx14
import Derived.Test.YtaabdbephemboaaGreatDoorBx15
import Derived.Test.YtaabdbephemboaaGreatDoorBx20
import Derived.Test.YtaabdbephemboaaGreatDoorBx22
import Derived.Deep.RegionHeld3
namespace Go.Proofs.Sm
open Go.RowKit
theorem res_box (w:World) (r:ResultV) (A:Option Addr) (n c:Nat) (B:Option Addr) (m d:Nat) :
 Arr (w.alloc (.cells #[.int .i64 r.code,.string r.text,.slice A n c,.slice B m d,.int .i64 r.command] 41)) w.heap.size 41 [.int .i64 r.code,.string r.text,.slice A n c,.slice B m d,.int .i64 r.command]:=heap_alloc_new w _
theorem ResPost.mk {S:Nat→Prop} {r:ResultV} {A B:Option Addr} {n c m d:Nat} {w w':World} (h:n≤c∧c≤maxLen∧m≤d∧d≤maxLen) (h2:ResS w' (NewS S w w') r A n B m) (h3:Below w.heap.size w w'):ResPost S r w (.returned (.agg #[.int .i64 r.code,.string r.text,.slice A n c,.slice B m d,.int .i64 r.command])) w':=⟨A,n,c,B,m,d,rfl,h,h2,h3⟩
theorem res_end {S:Nat→Prop} {w W w2 w3 V:World} {r:ResultV} {A2 A3:Option Addr} {n c2 m c3 g:Nat} (hr:InInt r.code∧r.text.size≤maxLen∧InInt r.command) (hS:∀ k,S k→k < w.heap.size) (hg:w.heap.size≤g) (hgW:g + 1 < W.heap.size) (hb0:Below w.heap.size w W) (hb2:Below W.heap.size W w2) (hs2:Sl w2 (NewS S W w2) A2 n r.files)
 (hb3:Below w2.heap.size w2 w3) (hs3:Sl w3 (NewS S w2 w3) A3 m r.looks) (hV:V.heap.size=w3.heap.size) (hk:∀ b,b≠g→b≠g + 1→V.heap[b]?=w3.heap[b]?) (hbV:Below w.heap.size w V) (h:n≤c2∧c2≤maxLen∧m≤c3∧c3≤maxLen) :
 ResPost S r w (.returned (.agg #[.int .i64 r.code,.string r.text,.slice A2 n c2,.slice A3 m c3,.int .i64 r.command])) V:=by
 have hz2:=hb2.size
 have hz3:=hb3.size
 have hz0:=hb0.size
 refine ResPost.mk h ⟨hr.1,hr.2.1,?_,?_,hr.2.2⟩ hbV
 ·have h1:Sl V (NewS S W w2) A2 n r.files:=hs2.keep fun k hk2=>by
   have hkg:k≠g∧k≠g + 1:=by
    rcases hk2.1 with h1 | h1
    ·have:=hS k h1; exact ⟨by omega,by omega⟩
    ·exact ⟨by omega,by omega⟩
   exact (hk k hkg.1 hkg.2).trans (hb3.block k hk2.2)
  exact h1.more fun k hk2=>⟨hk2.1.imp id fun h=>by omega,by have:=hk2.2; omega⟩
 ·have h1:Sl V (NewS S w2 w3) A3 m r.looks:=hs3.keep fun k hk2=>by
   have hkg:k≠g∧k≠g + 1:=by
    rcases hk2.1 with h1 | h1
    ·have:=hS k h1; exact ⟨by omega,by omega⟩
    ·exact ⟨by omega,by omega⟩
   exact hk k hkg.1 hkg.2
  exact h1.more fun k hk2=>⟨hk2.1.imp id fun h=>by omega,by have:=hk2.2; omega⟩
set_option maxHeartbeats 2000000 in
set_option maxRecDepth 100000 in
theorem steps_ownResult (r:ResultV) (A:Option Addr) (n c:Nat) (B:Option Addr) (m d:Nat) (w:World) (S:Nat→Prop) (hS:∀ k,S k→k < w.heap.size) (hr:ResS w S r A n B m) (hn:n≤1000000) (hm:m≤1000000) (hbs:∀ x∈r.files,x.bytes.length≤100000000) :
 Calls Tryz.prog 65 #[resVal r A n c B m d] w (ResPost S r w):=by
 unfold resVal
 go_enter Tryz.func65,Tryz.ntmps65
 go_wp2_with fail
 generalize hW:(w.alloc (.cells #[.int .i64 r.code,.string r.text,.slice A n c,.slice B m d,.int .i64 r.command] 41)).alloc (.cells #[.int .i64 0,.string ⟨#[]⟩,.slice none 0 0,.slice none 0 0,.int .i64 0] 41)=W
 have hX:Arr W w.heap.size 41 [.int .i64 r.code,.string r.text,.slice A n c,.slice B m d,.int .i64 r.command]:=by rw [←hW]; exact (res_box w r A n c B m d).call (fr_alloc (fr_refl _) _)
 have hY:Arr W (w.heap.size + 1) 41 [.int .i64 0,.string ⟨#[]⟩,.slice none 0 0,.slice none 0 0,.int .i64 0]:=by
  rw [←hW]
  have:=heap_alloc_new (w.alloc (.cells #[.int .i64 r.code,.string r.text,.slice A n c,.slice B m d,.int .i64 r.command] 41)) (.cells #[.int .i64 0,.string ⟨#[]⟩,.slice none 0 0,.slice none 0 0,.int .i64 0] 41)
  rw [World.size_alloc] at this
  exact this
 have hb0:Below w.heap.size w W:=by rw [←hW]; exact fr_alloc (fr_alloc (fr_refl w) _) _
 clear hW
 obtain ⟨g,hg⟩:∃ g,g=w.heap.size:=⟨_,rfl⟩
 rw [←hg] at hX hY ⊢
 have hgl:w.heap.size≤g:=by omega
 clear hg
 have hgW:=hY.lt
 have hSW:∀ k,S k→k < W.heap.size:=fun k hk=>Nat.lt_of_lt_of_le (hS k hk) hb0.size
 have hK:∀ k,S k→W.heap[k]?=w.heap[k]?:=fun k hk=>hb0.block k (hS k hk)
 have hr1:InInt r.code∧r.text.size≤maxLen∧InInt r.command:=⟨hr.code,hr.text,hr.command⟩
 have HO:=Lib.hid (blob_Own A n c r.files W.drew S hSW ((hr.files.keep hK).keep fun _ _=>rfl) hn hbs)
 have HC:=Lib.hid (fun (w2:World) (hb:Below W.heap.size W w2)=>clone_looks B m d r.looks w2 S (fun k hk=>Nat.lt_of_lt_of_le (hSW k hk) hb.size) ((hr.looks.keep hK).keep fun k hk=>hb.block k (hSW k hk)) (by omega))
 have x2:=hX.cell (i:=2) rfl
 have x3:=hX.cell (i:=3) rfl
 have hgg:g < W.heap.size:=by omega
 clear hK
 go_region_law (first
  | (go_simp; go_at_call 69; refine HO.out.mono ?_; rintro e w2 ⟨A2,c2,rfl,h21,h22,hs2,hb2⟩
     have hb2':Below W.heap.size W w2:=of_drew hb2
     have hX2:=hX.call hb2'
     have x22:=hX2.cell (i:=2) rfl
     have x23:=hX2.cell (i:=3) rfl)
  | (go_simp; go_at_call 64; refine (HC.out w2 hb2').mono ?_; rintro e w3 ⟨A3,c3,rfl,h31,h32,hs3,hb3⟩
     have hX3:=hX2.call hb3
     have x32:=hX3.cell (i:=2) rfl
     have x33:=hX3.cell (i:=3) rfl
     have f32:=hX3.frozen 2
     have f33:=hX3.frozen 3))
 all_goals
  obtain ⟨V,hV⟩:∃ V,V=(w3.setCell ⟨g,2,none⟩ (.slice A2 n c2)).setCell ⟨g,3,none⟩ (.slice A3 m c3):=⟨_,rfl⟩
  rw [←hV]
  have hXV:Arr V g 41 [.int .i64 r.code,.string r.text,.slice A2 n c2,.slice A3 m c3,.int .i64 r.command]:=by rw [hV]; exact (hX3.set 2 _).set 3 _
  have hYV:Arr V (g + 1) 41 [.int .i64 0,.string ⟨#[]⟩,.slice none 0 0,.slice none 0 0,.int .i64 0]:=by rw [hV]; exact (((hY.call hb2').call hb3).other (by show g + 1≠g; omega) _).other (by show g + 1≠g; omega) _
  have hVs:V.heap.size=w3.heap.size:=by rw [hV,size_setCell',size_setCell']
  have hVk:∀ b,b≠g→V.heap[b]?=w3.heap[b]?:=fun b hb=>by rw [hV,heap_setCell_other _ _ _ _ hb,heap_setCell_other _ _ _ _ hb]
  have hbV:Below w.heap.size w V:=by
   rw [hV]
   exact ((fr_call (fr_call hb0 hb2') hb3).setCell (p:=⟨g,2,none⟩) hgl _).setCell (p:=⟨g,3,none⟩) hgl _
  clear hV x2 x3 x22 x23 x32 x33 f32 f33 hX hX2 hX3 hY
  have c0:=hXV.cell (i:=0) rfl
  have c1:=hXV.cell (i:=1) rfl
  have c4:=hXV.cell (i:=2) rfl
  have c5:=hXV.cell (i:=3) rfl
  have c6:=hXV.cell (i:=4) rfl
  have hVg:=hYV.lt
  have d0:=hYV.cell (i:=0) rfl
  have d1:=hYV.cell (i:=1) rfl
  have d2:=hYV.cell (i:=2) rfl
  have d3:=hYV.cell (i:=3) rfl
  have d4:=hYV.cell (i:=4) rfl
  have e0:=hYV.frozen 0
  have e1:=hYV.frozen 1
  have e2:=hYV.frozen 2
  have e3:=hYV.frozen 3
  have e4:=hYV.frozen 4
  go_wp2
  obtain ⟨V2,hV2⟩:∃ V2,V2=((((V.setCell ⟨g + 1,0,none⟩ (.int .i64 r.code)).setCell ⟨g + 1,1,none⟩ (.string r.text)).setCell ⟨g + 1,2,none⟩ (.slice A2 n c2)).setCell ⟨g + 1,3,none⟩ (.slice A3 m c3)).setCell ⟨g + 1,4,none⟩ (.int .i64 r.command):=⟨_,rfl⟩
  rw [←hV2]
  have hZ:Arr V2 (g + 1) 41 [.int .i64 r.code,.string r.text,.slice A2 n c2,.slice A3 m c3,.int .i64 r.command]:=by rw [hV2]; exact ((((hYV.set 0 _).set 1 _).set 2 _).set 3 _).set 4 _
  have hs:V2.heap.size=w3.heap.size:=by rw [hV2,size_setCell',size_setCell',size_setCell',size_setCell',size_setCell',hVs]
  have hk2:∀ b,b≠g→b≠g + 1→V2.heap[b]?=w3.heap[b]?:=fun b h1 h2=>by
   rw [hV2,heap_setCell_other _ _ _ _ h2,heap_setCell_other _ _ _ _ h2,heap_setCell_other _ _ _ _ h2,heap_setCell_other _ _ _ _ h2,heap_setCell_other _ _ _ _ h2]
   exact hVk b h1
  have hgl1:w.heap.size≤g + 1:=by omega
  have hb2V:Below w.heap.size w V2:=by
   rw [hV2]
   exact ((((hbV.setCell (p:=⟨g + 1,0,none⟩) hgl1 _).setCell (p:=⟨g + 1,1,none⟩) hgl1 _).setCell (p:=⟨g + 1,2,none⟩) hgl1 _).setCell (p:=⟨g + 1,3,none⟩) hgl1 _).setCell (p:=⟨g + 1,4,none⟩) hgl1 _
  have HE:=Lib.hid (res_end (c2:=c2) (c3:=c3) hr1 hS hgl hgW hb0 hb2' hs2 hb3 hs3 hs hk2 hb2V ⟨h21,h22,h31,h32⟩)
  clear hV2 hk2 hs hb2V hVk hVs hbV hs2 hs3
  have z0:=hZ.cell (i:=0) rfl
  have z1:=hZ.cell (i:=1) rfl
  have z2:=hZ.cell (i:=2) rfl
  have z3:=hZ.cell (i:=3) rfl
  have z4:=hZ.cell (i:=4) rfl
  refine bodyPost_ret (v:=.agg #[.int .i64 r.code,.string r.text,.slice A2 n c2,.slice A3 m c3,.int .i64 r.command]) (by simp [results,Tryz.results65,go_sem,z0,z1,z2,z3,z4]) rfl ?_
  exact HE.out
end Go.Proofs.Sm
namespace Go.Proofs.Sm
open Go.RowKit
def eqAll {α β:Type} (q:α→β→Bool):List α→List β→Bool
 | [],[]=>true
 | x :: a,y :: b=>q x y && eqAll q a b
 | _,_=>false
section
variable {α β:Type} {q:α→β→Bool} {a:List α} {b:List β} {k:Nat} {x:α} {y:β}
theorem eqAll_len (h:¬ a.length=b.length):eqAll q a b=false:=by
 induction a generalizing b with
 | nil=>cases b with
   | nil=>exact absurd rfl h
   | cons y b=>rfl
 | cons x a ih=>cases b with
   | nil=>rfl
   | cons y b =>
     rw [eqAll,ih fun e=>h (by rw [List.length_cons,List.length_cons,e]),Bool.and_false]
theorem eqAll_next (hx:a[k]?=some x) (hy:b[k]?=some y) (h:q x y=true):eqAll q (a.drop k) (b.drop k)=eqAll q (a.drop (k + 1)) (b.drop (k + 1)):=by
 rw [drop_at hx,drop_at hy,eqAll,h,Bool.true_and]
theorem eqAll_stop (hx:a[k]?=some x) (hy:b[k]?=some y) (h:q x y=false):eqAll q (a.drop k) (b.drop k)=false:=by
 rw [drop_at hx,drop_at hy,eqAll,h,Bool.false_and]
theorem eqAll_end (h1:a.length≤k) (h2:b.length≤k):eqAll q (a.drop k) (b.drop k)=true:=by
 rw [List.drop_eq_nil_of_le h1,List.drop_eq_nil_of_le h2]; rfl
end
theorem eqAll_out:∀ (a:List FileV) (b:List ByteArray),eqAll (fun x p=>x.path.toList == p.toList) a b=decide (a.map FileV.path=b)
 | [],[]=>rfl
 | [],_ :: _=>rfl
 | _ :: _,[]=>rfl
 | x :: a,p :: b=>by
   rw [eqAll,eqAll_out a b,List.map_cons,Bool.eq_iff_iff]
   simp only [Bool.and_eq_true,beq_iff_eq,decide_eq_true_eq,List.cons.injEq]
   exact ⟨fun ⟨h,e⟩=>⟨bytes_eq (by rw [←Lib.toList_data,←Lib.toList_data]; exact h),e⟩,fun ⟨h,e⟩=>⟨by rw [h],e⟩⟩
theorem eqAll_same:∀ (a b:List FileV),eqAll sameF a b=sameFsS a b
 | [],[]=>rfl
 | [],_ :: _=>rfl
 | _ :: _,[]=>rfl
 | x :: a,p :: b=>by rw [eqAll,eqAll_same a b]; rfl
set_option maxHeartbeats 1000000 in
set_option maxRecDepth 100000 in
theorem equalFunc_fs (g:Nat) (eg:∀ args w,(callFunc g args).run Tryz.prog w=.ok (.enter g args) w) (q:FileV→ByteArray→Bool) (A:Option Addr) (n c:Nat) (a:List FileV) (B:Option Addr) (m d:Nat) (b:List ByteArray) (w:World) (ha:Sl w (Lt w.heap.size) A n a) (hb:Sl w (Lt w.heap.size) B m b)
 (hq:∀ (W:World) (x:FileV) (A1:Option Addr) (n1 c1:Nat) (p:ByteArray),Calls Tryz.prog g #[.agg #[.string x.path,.bool x.run,.slice A1 n1 c1],.string p] W fun e w'=>e=.returned (.bool (q x p))∧Below W.heap.size W w') :
 Calls Tryz.prog 94 #[.slice A n c,.slice B m d,.func (.func g) #[] #[]] w fun e w'=>e=.returned (.bool (eqAll q a b))∧Below w.heap.size w w':=by
 have hm:n≤9223372036854775807:=ha.2.1
 have HQ:=Lib.hid hq; clear hq
 have HL:=Lib.hid ha.1
 have HM:=Lib.hid hb.1
 by_cases hnm:n=m
 ·obtain rfl:=hnm
  go_enter Tryz.func94,Tryz.ntmps94
  go_wp2
  go_loopw [17] (fun i wr=>∃ k:Nat,k≤n∧i=.int .i64 k∧eqAll q a b=eqAll q (a.drop k) (b.drop k)∧Below w.heap.size w wr) (fun i _=>n - (intOf i).toNat)
  case atStart=>exact ⟨0,Nat.zero_le _,rfl,rfl,Below.refl _ _⟩
  case round =>
   obtain ⟨k,hk,rfl,he,hbel⟩:=hrel
   have HE:=Lib.hid he; clear he
   by_cases hlt:k < n
   ·have hkI:(k:Int) < (n:Int):=by omega
    obtain ⟨g1,o1,x,A1,n1,c1,rfl,hb1,hx,hxp,_,_,hs,c0,c1',c2⟩:=(ha.keep (keep_lt hbel)).file hlt
    obtain ⟨g2,o2,p,rfl,hb2,hp,hps,d0⟩:=(hb.keep (keep_lt hbel)).str hlt
    have hbx:=fr_alloc hbel (.cells #[.string x.path,.bool x.run,.slice A1 n1 c1] 78)
    have hg2:g2 < w.heap.size:=hb2
    have e0:=(hbx.cell (p:=⟨g2,o2 + k,none⟩) hg2).trans ((hbel.cell (p:=⟨g2,o2 + k,none⟩) hg2).symm.trans d0)
    have HC:=Lib.hid (HQ.out (wr.alloc (.cells #[.string x.path,.bool x.run,.slice A1 n1 c1] 78)) x A1 n1 c1 p)
    have HX:=Lib.hid hx
    have HP:=Lib.hid hp
    clear hx hp hs d0
    cases hqq:q x p
    ·have HS:=Lib.hid (HE.out.trans (eqAll_stop HX.out HP.out hqq))
     rw [hqq] at HC
     go_wp2_with fail
     refine HC.out.mono ?_
     rintro e w1 ⟨rfl,hb3⟩
     have hb4:=fr_call hbx hb3
     go_wp2
     go_ret
     exact ⟨ret_bool HS.out.symm,hb4⟩
    ·have HS:=Lib.hid (HE.out.trans (eqAll_next HX.out HP.out hqq))
     rw [hqq] at HC
     go_wp2_with fail
     refine HC.out.mono ?_
     rintro e w1 ⟨rfl,hb3⟩
     have hb4:=fr_call hbx hb3
     go_wp2
     go_roundw
     case rel=>exact ⟨k + 1,by omega,by go_num,HS.out,hb4⟩
     case measure=>simp [intOf]; omega
   ·have HS:=Lib.hid (HE.out.trans (eqAll_end (q:=q) (by rw [HL.out]; omega) (by rw [HM.out]; omega)))
    go_wp2
    go_ret
    exact ⟨ret_bool HS.out.symm,hbel⟩
 ·have HS:=Lib.hid (eqAll_len (q:=q) (a:=a) (b:=b) (by rw [HL.out,HM.out]; exact hnm))
  have hne:((n:Int) != (m:Int))=true:=by rw [bne_iff_ne]; omega
  go_enter Tryz.func94,Tryz.ntmps94
  go_wp2
  go_ret
  exact ⟨ret_bool HS.out.symm,Below.refl _ _⟩
set_option maxHeartbeats 1000000 in
set_option maxRecDepth 100000 in
theorem equalFunc_ff (g:Nat) (eg:∀ args w,(callFunc g args).run Tryz.prog w=.ok (.enter g args) w) (q:FileV→FileV→Bool) (A:Option Addr) (n c:Nat) (a:List FileV) (B:Option Addr) (m d:Nat) (b:List FileV) (w:World) (ha:Sl w (Lt w.heap.size) A n a) (hb:Sl w (Lt w.heap.size) B m b)
 (hq:∀ (W:World) (x:FileV) (A1:Option Addr) (n1 c1:Nat) (y:FileV) (A2:Option Addr) (n2 c2:Nat),Sl W (Lt W.heap.size) A1 n1 x.bytes→Sl W (Lt W.heap.size) A2 n2 y.bytes→Calls Tryz.prog g #[.agg #[.string x.path,.bool x.run,.slice A1 n1 c1],.agg #[.string y.path,.bool y.run,.slice A2 n2 c2]] W fun e w'=>e=.returned (.bool (q x y))∧Below W.heap.size W w') :
 Calls Tryz.prog 140 #[.slice A n c,.slice B m d,.func (.func g) #[] #[]] w fun e w'=>e=.returned (.bool (eqAll q a b))∧Below w.heap.size w w':=by
 have hm:n≤9223372036854775807:=ha.2.1
 have HQ:=Lib.hid hq; clear hq
 have HL:=Lib.hid ha.1
 have HM:=Lib.hid hb.1
 by_cases hnm:n=m
 ·obtain rfl:=hnm
  go_enter Tryz.func140,Tryz.ntmps140
  go_wp2
  go_loopw [17] (fun i wr=>∃ k:Nat,k≤n∧i=.int .i64 k∧eqAll q a b=eqAll q (a.drop k) (b.drop k)∧Below w.heap.size w wr) (fun i _=>n - (intOf i).toNat)
  case atStart=>exact ⟨0,Nat.zero_le _,rfl,rfl,Below.refl _ _⟩
  case round =>
   obtain ⟨k,hk,rfl,he,hbel⟩:=hrel
   have HE:=Lib.hid he; clear he
   by_cases hlt:k < n
   ·have hkI:(k:Int) < (n:Int):=by omega
    obtain ⟨g1,o1,x,A1,n1,c1,rfl,hb1,hx,hxp,_,_,hs,c0,c1',c2'⟩:=(ha.keep (keep_lt hbel)).file hlt
    obtain ⟨g2,o2,y,A2,n2,c2,rfl,hb2,hy,hyp,_,_,ht,d0,d1,d2⟩:=(hb.keep (keep_lt hbel)).file hlt
    have hbx:=fr_alloc (fr_refl wr) (.cells #[.string x.path,.bool x.run,.slice A1 n1 c1] 78)
    have hbxx:=fr_alloc hbx (.cells #[.string y.path,.bool y.run,.slice A2 n2 c2] 78)
    have hbw:=fr_call hbel hbxx
    have hg2:g2 < wr.heap.size:=Nat.lt_of_lt_of_le hb2 hbel.size
    have e0:=(hbx.cell (p:=⟨g2,o2 + k * 3,none⟩) hg2).trans d0
    have e1:=(hbx.cell (p:=⟨g2,o2 + k * 3 + 1,none⟩) hg2).trans d1
    have e2:=(hbx.cell (p:=⟨g2,o2 + k * 3 + 2,none⟩) hg2).trans d2
    have HC:=Lib.hid (HQ.out ((wr.alloc (.cells #[.string x.path,.bool x.run,.slice A1 n1 c1] 78)).alloc (.cells #[.string y.path,.bool y.run,.slice A2 n2 c2] 78)) x A1 n1 c1 y A2 n2 c2 (sl_call (hs.more (lt_mono hbel.size)) hbxx (Nat.le_refl _)) (sl_call (ht.more (lt_mono hbel.size)) hbxx (Nat.le_refl _)))
    have HX:=Lib.hid hx
    have HP:=Lib.hid hy
    clear hx hy hs ht d0 d1 d2
    cases hqq:q x y
    ·have HS:=Lib.hid (HE.out.trans (eqAll_stop HX.out HP.out hqq))
     rw [hqq] at HC
     go_wp2_with fail
     refine HC.out.mono ?_
     rintro e w1 ⟨rfl,hb3⟩
     have hb4:=fr_call hbw hb3
     go_wp2
     go_ret
     exact ⟨ret_bool HS.out.symm,hb4⟩
    ·have HS:=Lib.hid (HE.out.trans (eqAll_next HX.out HP.out hqq))
     rw [hqq] at HC
     go_wp2_with fail
     refine HC.out.mono ?_
     rintro e w1 ⟨rfl,hb3⟩
     have hb4:=fr_call hbw hb3
     go_wp2
     go_roundw
     case rel=>exact ⟨k + 1,by omega,by go_num,HS.out,hb4⟩
     case measure=>simp [intOf]; omega
   ·have HS:=Lib.hid (HE.out.trans (eqAll_end (q:=q) (by rw [HL.out]; omega) (by rw [HM.out]; omega)))
    go_wp2
    go_ret
    exact ⟨ret_bool HS.out.symm,hbel⟩
 ·have HS:=Lib.hid (eqAll_len (q:=q) (a:=a) (b:=b) (by rw [HL.out,HM.out]; exact hnm))
  have hne:((n:Int) != (m:Int))=true:=by rw [bne_iff_ne]; omega
  go_enter Tryz.func140,Tryz.ntmps140
  go_wp2
  go_ret
  exact ⟨ret_bool HS.out.symm,Below.refl _ _⟩
set_option maxRecDepth 100000 in
theorem steps_out1 (x:FileV) (A:Option Addr) (n c:Nat) (p:ByteArray) (w:World) :
 Calls Tryz.prog 95 #[.agg #[.string x.path,.bool x.run,.slice A n c],.string p] w fun e w'=>e=.returned (.bool (x.path.toList == p.toList))∧Below w.heap.size w w':=by
 go_enter Tryz.func95,Tryz.ntmps95
 go_wp2
 go_ret
 exact ⟨rfl,(by repeat (first | exact fr_refl _ | refine fr_call ?_ (by assumption) | refine fr_alloc ?_ _ | refine fr_set ?_ (by simp) _ | refine Below.drew ?_ | refine below_drewN ?_ _))⟩
set_option maxHeartbeats 1000000 in
set_option maxRecDepth 100000 in
theorem steps_hasOutputs (r:ResultV) (A:Option Addr) (n c:Nat) (B:Option Addr) (m d:Nat) (a:ActionV) (A1:Option Addr) (n1 c1:Nat) (A2:Option Addr) (n2 c2:Nat) (A3:Option Addr) (n3 c3:Nat) (A4:Option Addr) (n4 c4:Nat) (w:World) (hr:Sl w (Lt w.heap.size) A n r.files) (ha:Sl w (Lt w.heap.size) A3 n3 a.outputs) :
 Calls Tryz.prog 63 #[resVal r A n c B m d,actVal a A1 n1 c1 A2 n2 c2 A3 n3 c3 A4 n4 c4] w fun e w'=>e=.returned (.bool (hasOutS r a.outputs))∧Below w.heap.size w w':=by
 unfold resVal actVal
 have hb:=fr_alloc (fr_alloc (fr_refl w) (.cells #[.int .i64 r.code,.string r.text,.slice A n c,.slice B m d,.int .i64 r.command] 41)) (.cells #[.string a.tool,.slice A1 n1 c1,.slice A2 n2 c2,.slice A3 n3 c3,.slice A4 n4 c4,.int .i64 a.time] 58)
 have HC:=Lib.hid (equalFunc_fs 95 (enters_of Tryz.func95 (by kernel_rfl) rfl) (fun x p=>x.path.toList == p.toList) A n c r.files A3 n3 c3 a.outputs _ (sl_call hr hb (Nat.le_refl _)) (sl_call ha hb (Nat.le_refl _)) fun W x A1 n1 c1 p=>steps_out1 x A1 n1 c1 p W)
 have HV:=Lib.hid (show eqAll (fun (x:FileV) (p:ByteArray)=>x.path.toList == p.toList) r.files a.outputs=hasOutS r a.outputs from eqAll_out _ _)
 rw [HV.out] at HC
 generalize hasOutS r a.outputs=z at *
 clear hr ha HV
 go_enter Tryz.func63,Tryz.ntmps63
 go_wp2_with fail
 refine HC.out.mono ?_
 rintro e w1 ⟨rfl,hb1⟩
 go_wp2
 go_ret
 exact ⟨rfl,fr_call hb hb1⟩
theorem str_eq_of (l l':List UInt8):((strOf l).toList == (strOf l').toList)=decide (l=l'):=by
 rw [Bool.eq_iff_iff,beq_iff_eq,decide_eq_true_eq,ByteArray.toList_eq,ByteArray.toList_eq]
 rfl
set_option maxHeartbeats 1000000 in
set_option maxRecDepth 100000 in
theorem blob_Same (x y:FileV) (A:Option Addr) (n c:Nat) (B:Option Addr) (m d:Nat) (w:World) (hx:Sl w (Lt w.heap.size) A n x.bytes) (hy:Sl w (Lt w.heap.size) B m y.bytes) :
 Calls Tryz.prog 142 #[.agg #[.string x.path,.bool x.run,.slice A n c],.agg #[.string y.path,.bool y.run,.slice B m d]] w fun e w'=>e=.returned (.bool (x.run == y.run && decide (x.bytes=y.bytes)))∧Below w.heap.size w w':=by
 have hb:=fr_alloc (fr_alloc (fr_refl w) (.cells #[.string x.path,.bool x.run,.slice A n c] 78)) (.cells #[.string y.path,.bool y.run,.slice B m d] 78)
 have r1:(convert 75 9 (.slice A n c)).run Tryz.prog _=.ok (.string (strOf x.bytes)) _:=run_bytes_string (P:=Tryz.prog) (sl_call hx hb (Nat.le_refl _)) 75 9 5 c Tryz.underlying75 Tryz.underlying5 Tryz.underlying9
 have r2:(convert 75 9 (.slice B m d)).run Tryz.prog _=.ok (.string (strOf y.bytes)) _:=run_bytes_string (P:=Tryz.prog) (sl_call hy hb (Nat.le_refl _)) 75 9 5 d Tryz.underlying75 Tryz.underlying5 Tryz.underlying9
 have HS:=Lib.hid (str_eq_of x.bytes y.bytes)
 clear hx hy
 generalize strOf x.bytes=s1 at *
 generalize strOf y.bytes=s2 at *
 generalize decide (x.bytes=y.bytes)=z at *
 cases hr:(x.run == y.run)
 ·go_enter Tryz.func142,Tryz.ntmps142
  go_wp2
  go_ret
  exact ⟨rfl,hb⟩
 ·go_enter Tryz.func142,Tryz.ntmps142
  go_wp2
  go_ret
  exact ⟨ret_bool (by rw [HS.out,Bool.true_and]),hb⟩
set_option maxHeartbeats 1000000 in
set_option maxRecDepth 100000 in
theorem steps_same1 (x y:FileV) (A:Option Addr) (n c:Nat) (B:Option Addr) (m d:Nat) (w:World) (hx:Sl w (Lt w.heap.size) A n x.bytes) (hy:Sl w (Lt w.heap.size) B m y.bytes) :
 Calls Tryz.prog 141 #[.agg #[.string x.path,.bool x.run,.slice A n c],.agg #[.string y.path,.bool y.run,.slice B m d]] w fun e w'=>e=.returned (.bool (sameF x y))∧Below w.heap.size w w':=by
 have hb:=fr_alloc (fr_alloc (fr_refl w) (.cells #[.string x.path,.bool x.run,.slice A n c] 78)) (.cells #[.string y.path,.bool y.run,.slice B m d] 78)
 have HC:=Lib.hid (blob_Same x y A n c B m d _ (sl_call hx hb (Nat.le_refl _)) (sl_call hy hb (Nat.le_refl _)))
 have HV:=Lib.hid (show sameF x y=(x.path.toList == y.path.toList && (x.run == y.run && decide (x.bytes=y.bytes))) by unfold sameF; congr 2; rw [Bool.eq_iff_iff,beq_iff_eq,decide_eq_true_eq])
 clear hx hy
 generalize (x.run == y.run && decide (x.bytes=y.bytes))=z at *
 cases hp:(x.path.toList == y.path.toList)
 ·go_enter Tryz.func141,Tryz.ntmps141
  go_wp2
  go_ret
  exact ⟨ret_bool (by rw [HV.out,hp]; rfl),hb⟩
 ·go_enter Tryz.func141,Tryz.ntmps141
  go_wp2_with fail
  refine HC.out.mono ?_
  rintro e w1 ⟨rfl,hb1⟩
  go_wp2
  go_ret
  exact ⟨ret_bool (by rw [HV.out,hp,Bool.true_and]),fr_call hb hb1⟩
set_option maxHeartbeats 1000000 in
set_option maxRecDepth 100000 in
theorem steps_sameFiles (A:Option Addr) (n c:Nat) (a:List FileV) (B:Option Addr) (m d:Nat) (b:List FileV) (w:World) (ha:Sl w (Lt w.heap.size) A n a) (hb:Sl w (Lt w.heap.size) B m b) :
 Calls Tryz.prog 100 #[.slice A n c,.slice B m d] w fun e w'=>e=.returned (.bool (sameFsS a b))∧Below w.heap.size w w':=by
 have HC:=Lib.hid (equalFunc_ff 141 (enters_of Tryz.func141 (by kernel_rfl) rfl) sameF A n c a B m d b w ha hb fun W x A1 n1 c1 y A2 n2 c2 h1 h2=>steps_same1 x y A1 n1 c1 A2 n2 c2 W h1 h2)
 rw [eqAll_same] at HC
 go_enter Tryz.func100,Tryz.ntmps100
 go_wp2_with fail
 refine HC.out.mono ?_
 rintro e w1 ⟨rfl,hb1⟩
 go_wp2
 go_ret
 exact ⟨rfl,hb1⟩
end Go.Proofs.Sm
namespace Go.Proofs.Sm
open Go.RowKit Go.Maps Go.WideMaps
def memVal (x:MemoryV) (A1:Option Addr) (n1 c1:Nat) (A2:Option Addr) (n2 c2:Nat) (A3:Option Addr) (n3 c3:Nat):Value :=
 .agg #[.string x.name,.string x.action,.slice A1 n1 c1,.int .i64 x.result.code,.string x.result.text,.slice A2 n2 c2,.slice A3 n3 c3,.int .i64 x.result.command]
def MemVal (w:World) (S:Nat→Prop) (x:MemoryV) (v:Value):Prop :=
 ∃ A1 n1 c1 A2 n2 c2 A3 n3 c3,v=memVal x A1 n1 c1 A2 n2 c2 A3 n3 c3 ∧
  (x.name.size≤maxLen∧x.action.size≤maxLen∧x.result.text.size≤maxLen∧InInt x.result.code∧InInt x.result.command)∧(n1≤c1∧c1≤maxLen∧n2≤c2∧c2≤maxLen∧n3≤c3∧c3≤maxLen) ∧
  (Sl w S A1 n1 x.looks∧Sl w S A2 n2 x.result.files∧Sl w S A3 n3 x.result.looks)
def keyM (l:List MemoryV) (key:List UInt8):Option MemoryV:=findBy MemoryV.name l key
def MemsIn (P:Program) (k:TypeId) (w:World) (S:Nat→Prop) (m n:Nat) (l:List MemoryV):Prop :=
 ∃ f,MapIs P k w m n f∧∀ key,match keyM l key with
  | none=>f key=none
  | some x=>∃ v,f key=some v∧MemVal w S x v
section
variable {P:Program} {k:TypeId} {w w':World} {S S':Nat→Prop} {m n:Nat} {l:List MemoryV}
theorem MemVal.keep {x:MemoryV} {v:Value} (hk:∀ k,S k→w'.heap[k]?=w.heap[k]?) (h:MemVal w S x v):MemVal w' S x v:=by
 obtain ⟨A1,n1,c1,A2,n2,c2,A3,n3,c3,rfl,h1,h2,h3,h4,h5⟩:=h
 exact ⟨A1,n1,c1,A2,n2,c2,A3,n3,c3,rfl,h1,h2,h3.keep hk,h4.keep hk,h5.keep hk⟩
theorem MemVal.more {x:MemoryV} {v:Value} (hs:∀ k,S k→S' k) (h:MemVal w S x v):MemVal w S' x v:=by
 obtain ⟨A1,n1,c1,A2,n2,c2,A3,n3,c3,rfl,h1,h2,h3,h4,h5⟩:=h
 exact ⟨A1,n1,c1,A2,n2,c2,A3,n3,c3,rfl,h1,h2,h3.more hs,h4.more hs,h5.more hs⟩
theorem MemsIn.keep (h:MemsIn P k w S m n l) (hm:w'.heap[m]?=w.heap[m]?) (hk:∀ k,S k→w'.heap[k]?=w.heap[k]?):MemsIn P k w' S m n l:=by
 obtain ⟨f,h1,h2⟩:=h
 refine ⟨f,h1.keep hm,fun key=>?_⟩
 have:=h2 key
 split at this
 ·exact this
 ·obtain ⟨v,h3,h4⟩:=this
  exact ⟨v,h3,h4.keep hk⟩
theorem MemsIn.more (h:MemsIn P k w S m n l) (hs:∀ k,S k→S' k):MemsIn P k w S' m n l:=by
 obtain ⟨f,h1,h2⟩:=h
 refine ⟨f,h1,fun key=>?_⟩
 have:=h2 key
 split at this
 ·exact this
 ·obtain ⟨v,h3,h4⟩:=this
  exact ⟨v,h3,h4.more hs⟩
theorem MemsIn.lt (h:MemsIn P k w S m n l):m < w.heap.size:=by
 obtain ⟨f,h1,_⟩:=h
 exact h1.lt
theorem keyM_find (l:List MemoryV) (p:ByteArray):keyM l p.data.toList=l.find? fun y=>y.name.toList == p.toList:=by
 unfold keyM findBy
 congr 1
 funext y
 rw [ByteArray.toList_eq,ByteArray.toList_eq]
theorem MemsIn.look_ok {t e:TypeId} (h:MemsIn P k w S m n l) (hk:P.underlying k=some .string) (ht:P.underlying t=some (.map k e)) {z:Value} (hz:∀ w,(zeroValue e).run P w=.ok z w)
 {p:ByteArray} (hp:p.size≤maxLen):match l.find? (fun y=>y.name.toList == p.toList) with
  | none=>∀ w',w'.heap[m]?=w.heap[m]?→(Instr.lookup t (.map (some m)) (.string p) true).run P w'=.ok (.tuple #[z,.bool false]) w'
  | some x=>∃ v,MemVal w S x v∧∀ w',w'.heap[m]?=w.heap[m]?→(Instr.lookup t (.map (some m)) (.string p) true).run P w'=.ok (.tuple #[v,.bool true]) w':=by
 obtain ⟨f,h1,h2⟩:=h
 have h3:=fun (w':World) (hb:w'.heap[m]?=w.heap[m]?)=>(h1.keep hb).look_ok hk ht (hz w') hp
 have h4:=h2 p.data.toList
 rw [keyM_find] at h4
 cases hf:l.find? (fun y=>y.name.toList == p.toList) with
 | none =>
   rw [hf] at h4; simp only at h4 ⊢
   intro w' hb
   rw [h3 w' hb,h4]; rfl
 | some x =>
   rw [hf] at h4
   obtain ⟨v,h5,h6⟩:=h4
   exact ⟨v,h6,fun w' hb=>by rw [h3 w' hb,h5]; rfl⟩
theorem MemsIn.look {t e:TypeId} (h:MemsIn P k w S m n l) (hk:P.underlying k=some .string) (ht:P.underlying t=some (.map k e)) {z:Value} (hz:∀ w,(zeroValue e).run P w=.ok z w)
 {p:ByteArray} (hp:p.size≤maxLen):match l.find? (fun y=>y.name.toList == p.toList) with
  | none=>∀ w',w'.heap[m]?=w.heap[m]?→(Instr.lookup t (.map (some m)) (.string p) false).run P w'=.ok z w'
  | some x=>∃ v,MemVal w S x v∧∀ w',w'.heap[m]?=w.heap[m]?→(Instr.lookup t (.map (some m)) (.string p) false).run P w'=.ok v w':=by
 obtain ⟨f,h1,h2⟩:=h
 have h3:=fun (w':World) (hb:w'.heap[m]?=w.heap[m]?)=>(h1.keep hb).look hk ht (hz w') hp
 have h4:=h2 p.data.toList
 rw [keyM_find] at h4
 cases hf:l.find? (fun y=>y.name.toList == p.toList) with
 | none =>
   rw [hf] at h4; simp only at h4 ⊢
   intro w' hb
   rw [h3 w' hb,h4]; rfl
 | some x =>
   rw [hf] at h4
   obtain ⟨v,h5,h6⟩:=h4
   exact ⟨v,h6,fun w' hb=>by rw [h3 w' hb,h5]; rfl⟩
theorem MemsIn.put {x:MemoryV} {v:Value} {f:List UInt8→Option Value} (hf:∀ key,match keyM l key with
 | none=>f key=none
 | some x=>∃ v,f key=some v∧MemVal w S x v) (hv:MemVal w S x v)
 (hm:MapIs P k w' m n (fun key=>if key=x.name.data.toList then some v else f key)) (hk:∀ k,S k→w'.heap[k]?=w.heap[k]?):MemsIn P k w' S m n (putBy MemoryV.name l x):=by
 refine ⟨_,hm,fun key=>?_⟩
 rw [keyM,find_put,←keyM]
 by_cases he:key=x.name.data.toList
 ·simp only [if_pos he]
  exact ⟨v,rfl,hv.keep hk⟩
 ·simp only [if_neg he]
  have h3:=hf key
  cases hq:keyM l key with
  | none=>rw [hq] at h3; exact h3
  | some y =>
    rw [hq] at h3
    obtain ⟨u,h3,h4⟩:=h3
    exact ⟨u,h3,h4.keep hk⟩
theorem FilesIn.store {q:List FileV} (h:FilesIn P k w S m n q) {x:FileV} {v:Value} (hv:FileVal w S x v) :
 ∃ f,MapIs P k w m n f∧∀ w',MapIs P k w' m (n + 1) (fun key=>if key=x.path.data.toList then some v else f key)→(∀ k,S k→w'.heap[k]?=w.heap[k]?)→FilesIn P k w' S m (n + 1) (putFileS q x):=by
 obtain ⟨f,h1,h2⟩:=h
 exact ⟨f,h1,fun w' hm hk=>FilesIn.put h2 hv hm hk⟩
theorem MapIs.drop {b:Nat} {f:List UInt8→Option Value} {t e:TypeId} (h:MapIs P k w b n f) (hk:P.underlying k=some .string) (ht:P.underlying t=some (.map k e)) {s:ByteArray} (hs:s.size≤maxLen) (ty:TypeId) :
 ∃ w',(Builtin.delete_ #[t,k] ty #[.map (some b),.string s]).run P w=.ok (.tuple #[]) w'∧MapIs P k w' b n (fun key=>if key=s.data.toList then none else f key)∧w.grownBy w' (some b):=by
 obtain ⟨D,h1,h2,h3⟩:=h
 obtain ⟨w',hrun,hown,ht'⟩:=h1.drop (string_keyed hk) ht (key:=.string s) (kl:=.string s.data.toList) (keyOf_string_mk hk hs) ty
 refine ⟨w',hrun,⟨_,hown,h2.del _,fun key z=>?_⟩,ht'.grown⟩
 by_cases he:key=s.data.toList
 ·subst he
  rw [atKey_del_same]; simp
 ·rw [atKey_del_other (by simpa using he)]
  simp only [if_neg he]
  exact h3 key z
theorem wpList_delete_is (w:World) {b:Nat} {f:List UInt8→Option Value} {ops:Array Oper} {rest:List Oper} {o:Oper} {a:Act} {Q:Exit→Act→World→Prop}
 (hg:o.guard=none) (m x:Operand) (t:TypeId) (hop:o.op=Op.call { callee:=Callee.builtin Builtin.delete,args:=#[m,x],argTypes:=#[t,k] }) (hk:P.underlying k=some .string) {e:TypeId} (ht:P.underlying t=some (.map k e))
 (hm:a.eval m=.map (some b)) (hmap:MapIs P k w b n f) (s:ByteArray) (hs:s.size≤maxLen) (hx:a.eval x=.string s)
 (hK:∀ w',MapIs P k w' b n (fun key=>if key=s.data.toList then none else f key)→w.grownBy w' (some b)→wpList P ops Q rest (a.put o.dst (.tuple #[])) w') :
 wpList P ops Q (o :: rest) a w:=by
 refine wpList_plain hg fun K' hK'=>?_
 obtain ⟨w',hrun,r1,r2⟩:=hmap.drop hk ht hs o.type
 unfold Oper.wp
 simp [execOp,hop,resolve,invoke,builtin,hm,hx,hrun,Result.andThen]
 exact hK' _ _ (hK w' r1 r2)
theorem MemsIn.dropped (h:MemsIn P k w S m n l) (s:ByteArray) :
 ∃ f,MapIs P k w m n f∧∀ w',MapIs P k w' m n (fun key=>if key=s.data.toList then none else f key)→(∀ k,S k→w'.heap[k]?=w.heap[k]?)→MemsIn P k w' S m n (l.filter fun y=>!(s.toList == y.name.toList)):=by
 obtain ⟨f,h1,h2⟩:=h
 refine ⟨f,h1,fun w' hm hk=>⟨_,hm,fun key=>?_⟩⟩
 have h3:=h2 key
 by_cases he:key=s.data.toList
 ·simp only [if_pos he]
  have:keyM (l.filter fun y=>!(s.toList == y.name.toList)) key=none:=by
   unfold keyM findBy
   refine find_none' fun y _ hy=>?_
   rw [he]
   have hy2:¬ s.toList=y.name.toList:=by simpa using hy
   rw [ByteArray.toList_eq,ByteArray.toList_eq] at hy2
   rw [beq_eq_false_iff_ne]
   exact fun e=>hy2 e.symm
  rw [this]
  trivial
 ·simp only [if_neg he]
  have:keyM (l.filter fun y=>!(s.toList == y.name.toList)) key=keyM l key:=by
   unfold keyM findBy
   refine find_filter' fun y _ hy=>?_
   have hy2:y.name.data.toList=key:=by simpa using hy
   have:¬ s.toList=y.name.toList:=fun e=>he (by rw [←hy2,←ByteArray.toList_eq,←ByteArray.toList_eq,e])
   simpa using this
  rw [this]
  cases hq:keyM l key with
  | none=>rw [hq] at h3; exact h3
  | some y =>
    rw [hq] at h3
    obtain ⟨u,h3,h4⟩:=h3
    exact ⟨u,h3,h4.keep hk⟩
end
end Go.Proofs.Sm
namespace Go.Proofs.Sm
open Go.RowKit
theorem sl_far {α:Type} [Rep α] {w:World} {K:Nat→Prop} {A:Option Addr} {n g i:Nat} {l:List α} {u:Value} (h:Sl w K A n l) (hg:¬ K g):Sl (w.setCell ⟨g,i,none⟩ u) K A n l :=
 h.keep fun k hk=>heap_setCell_other w ⟨g,i,none⟩ k u (by rintro rfl; exact hg hk)
theorem memory_set {w:World} {B g n cap k n2 c2 n3 c3 n4 c4:Nat} {e:TypeId} {K:Nat→Prop} {l:List MemoryV} {x:MemoryV} {A2 A3 A4:Option Addr} (h:RowK w B e K (.slice (some ⟨g,0,none⟩) n cap) l) (hg:¬ K g) (hi:l[k]?=some x)
 (s2:Sl w K A2 n2 x.looks) (s3:Sl w K A3 n3 x.result.files) (s4:Sl w K A4 n4 x.result.looks) (hc:n2≤c2∧c2≤maxLen∧n3≤c3∧c3≤maxLen∧n4≤c4∧c4≤maxLen) :
 RowK ((((((w.setCell ⟨g,k * 8 + 2,none⟩ (.slice A2 n2 c2)).setCell ⟨g,k * 8 + 3,none⟩ (.int .i64 x.result.code)).setCell ⟨g,k * 8 + 4,none⟩ (.string x.result.text)).setCell ⟨g,k * 8 + 5,none⟩ (.slice A3 n3 c3)).setCell ⟨g,k * 8 + 6,none⟩ (.slice A4 n4 c4)).setCell ⟨g,k * 8 + 7,none⟩ (.int .i64 x.result.command)) B e K (.slice (some ⟨g,0,none⟩) n cap) l:=by
 have h2:=h.setElem (j:=2) (u:=.slice A2 n2 c2) hg hi (by decide) fun r hr=>by
  obtain ⟨A,n,c,B,m,d,C,p,q,rfl,a1,a2,b1,b2,b3⟩:=hr
  exact ⟨A2,n2,c2,B,m,d,C,p,q,rfl,a1,⟨hc.1,hc.2.1,a2.2.2⟩,s2,b2,b3⟩
 have h3:=h2.setElem (j:=3) (u:=.int .i64 x.result.code) hg hi (by decide) fun r hr=>by
  obtain ⟨A,n,c,B,m,d,C,p,q,rfl,a1,a2,b⟩:=hr
  exact ⟨A,n,c,B,m,d,C,p,q,rfl,a1,a2,b⟩
 have h4:=h3.setElem (j:=4) (u:=.string x.result.text) hg hi (by decide) fun r hr=>by
  obtain ⟨A,n,c,B,m,d,C,p,q,rfl,a1,a2,b⟩:=hr
  exact ⟨A,n,c,B,m,d,C,p,q,rfl,a1,a2,b⟩
 have h5:=h4.setElem (j:=5) (u:=.slice A3 n3 c3) hg hi (by decide) fun r hr=>by
  obtain ⟨A,n,c,B,m,d,C,p,q,rfl,a1,a2,b1,b2,b3⟩:=hr
  exact ⟨A,n,c,A3,n3,c3,C,p,q,rfl,a1,⟨a2.1,a2.2.1,hc.2.2.1,hc.2.2.2.1,a2.2.2.2.2⟩,b1,sl_far (sl_far (sl_far s3 hg) hg) hg,b3⟩
 have h6:=h5.setElem (j:=6) (u:=.slice A4 n4 c4) hg hi (by decide) fun r hr=>by
  obtain ⟨A,n,c,B,m,d,C,p,q,rfl,a1,a2,b1,b2,b3⟩:=hr
  exact ⟨A,n,c,B,m,d,A4,n4,c4,rfl,a1,⟨a2.1,a2.2.1,a2.2.2.1,a2.2.2.2.1,hc.2.2.2.2⟩,b1,b2,sl_far (sl_far (sl_far (sl_far s4 hg) hg) hg) hg⟩
 exact h6.setElem (j:=7) (u:=.int .i64 x.result.command) hg hi (by decide) fun r hr=>by
  obtain ⟨A,n,c,B,m,d,C,p,q,rfl,a1,a2,b⟩:=hr
  exact ⟨A,n,c,B,m,d,C,p,q,rfl,a1,a2,b⟩
theorem newS_more {S:Nat→Prop} {w w1 w1' w2 w3:World} {g b:Nat} (h:NewS (fun b=>b≠g∧NewS S w w1 b) w1' w2 b) (h1:w1.heap.size≤w1'.heap.size) (hg:g < w1.heap.size) (hw:w.heap.size≤w1.heap.size) (h3:w2.heap.size≤w3.heap.size):b≠g∧NewS S w w3 b:=by
 have h2:=h.2
 rcases h.1 with h4 | h4
 ·exact ⟨h4.1,h4.2.1,by omega⟩
 ·exact ⟨by omega,.inr (by omega),by omega⟩
set_option maxHeartbeats 4000000 in
set_option maxRecDepth 100000 in
theorem steps_own (A:Option Addr) (n c:Nat) (l:List MemoryV) (w:World) (S:Nat→Prop) (hS:∀ k,S k→k < w.heap.size) (hsl:Sl w S A n l) (hn:n≤1000000) (hok:∀ m∈l,MemOk m) :
 Calls Tryz.prog 42 #[.slice A n c] w fun e w'=>∃ v,e=.returned v∧RowK w' w.heap.size 43 (fun b=>v.ownBlock≠some b∧NewS S w w' b) v l∧Below w.heap.size w w':=by
 have hm:n≤9223372036854775807:=by omega
 have HL:=Lib.hid hsl.1
 go_enter Tryz.func42,Tryz.ntmps42
 go_wp2_with fail
 refine (clone_memory A n c l w S hS hsl (by omega)).mono ?_
 rintro e w1 ⟨v,rfl,hrow,hb1⟩
 obtain ⟨A1,c1,rfl,hc1,hc2,hs1⟩:=hrow.slNew (S:=S) fun k hk=>.inl hk
 rw [HL.out] at hc1 hs1
 rw [HL.out] at hrow ⊢
 have hrow0:RowK w1 w.heap.size 43 (fun b=>(Value.slice A1 n c1).ownBlock≠some b∧NewS S w w1 b) (.slice A1 n c1) l:=hrow.more (fun k hk=>⟨fun e=>by have h1:=(hrow.kind k e).1; have h2:=hS k hk; omega,.inl hk,Nat.lt_of_lt_of_le (hS k hk) hb1.size⟩) fun k hk=>hk.2.2
 rcases Nat.eq_zero_or_pos n with h0 | h0
 ·subst h0
  have HV:=Lib.hid hrow0
  clear hrow hs1 hrow0
  go_wp2
  go_loop [9] (fun i=>i=.int .i64 0) (fun _=>0)
  case atStart=>rfl
  case round =>
   obtain rfl:=hrel
   go_wp2
   go_ret
   exact ⟨_,rfl,HV.out,hb1⟩
 ·obtain ⟨g,o,rfl,_,_⟩:=hs1.2.2 h0
  obtain ⟨_,rows,_,hown,_⟩:=id hrow
  obtain rfl:o=0:=by
   rcases hown.2 with ⟨h,_⟩ | ⟨g',cap',cur,h,_⟩
   ·cases h
   ·cases h; rfl
  have hgb:=(hown.lt g rfl).1
  have hgl:=(hown.lt g rfl).2
  have hrow1:RowK w1 w.heap.size 43 (fun b=>b≠g∧NewS S w w1 b) (.slice (some ⟨g,0,none⟩) n c1) l:=hrow0.more (fun k hk=>⟨fun e=>hk.1 (by rw [e]; rfl),hk.2⟩) fun k hk=>hk.2.2
  clear hrow hs1 hown hrow0
  go_wp2
  go_loopw [9] (fun i wx=>∃ k:Nat,k≤n∧i=.int .i64 k∧RowK wx w.heap.size 43 (fun b=>b≠g∧NewS S w wx b) (.slice (some ⟨g,0,none⟩) n c1) l∧g < wx.heap.size∧Below w.heap.size w wx) (fun i _=>n - (intOf i).toNat)
  case atStart=>exact ⟨0,Nat.zero_le _,rfl,hrow1,hgl,hb1⟩
  case round =>
   clear hrow1 hgl hb1
   obtain ⟨k,hk,rfl,hrow,hgl,hbel⟩:=hrel
   by_cases hlt:k < n
   ·obtain ⟨x,hx⟩:=at_lt (l:=l) (k:=k) (by rw [HL.out]; exact hlt)
    obtain ⟨r,hr,hc⟩:=hrow.elem hx
    obtain ⟨A2,n2,c2,A3,n3,c3,A4,n4,c4,rfl,⟨z1,z2,z3,z4,z5⟩,_,s2,s3,s4⟩:=hr
    have q2:wr.cell? ⟨g,k * 8 + 2,none⟩=some (.slice A2 n2 c2):=hc 2 _ rfl
    have q3:wr.cell? ⟨g,k * 8 + 3,none⟩=some (.int .i64 x.result.code):=hc 3 _ rfl
    have q4:wr.cell? ⟨g,k * 8 + 4,none⟩=some (.string x.result.text):=hc 4 _ rfl
    have q5:wr.cell? ⟨g,k * 8 + 5,none⟩=some (.slice A3 n3 c3):=hc 5 _ rfl
    have q6:wr.cell? ⟨g,k * 8 + 6,none⟩=some (.slice A4 n4 c4):=hc 6 _ rfl
    have q7:wr.cell? ⟨g,k * 8 + 7,none⟩=some (.int .i64 x.result.command):=hc 7 _ rfl
    have hkI:(k:Int) < (n:Int):=by omega
    have hg0:(0:Int)≤(k:Int):=Int.natCast_nonneg _
    obtain ⟨o1,o2,o3,o4⟩:=hok x (List.mem_of_getElem? hx)
    rw [s2.1] at o1
    rw [s3.1] at o2
    rw [s4.1] at o3
    have HX:=Lib.hid hx
    have HRow:=Lib.hid hrow
    have hfz:=fun j=>hrow.frozenAt j
    have HFz:=Lib.hid hfz
    have hKl:∀ b,(b≠g∧NewS S w wr b)→b < wr.heap.size:=fun b hb=>hb.2.2
    have HC:=Lib.hid (clone_looks A2 n2 c2 x.looks wr.drew (fun b=>b≠g∧NewS S w wr b) hKl (s2.keep fun _ _=>rfl) (by omega))
    have HO:=Lib.hid (fun (w2:World) (hb:Below wr.heap.size wr w2)=>steps_ownResult x.result A3 n3 c3 A4 n4 c4 w2 (fun b=>b≠g∧NewS S w wr b) (fun b hb2=>Nat.lt_of_lt_of_le (hKl b hb2) hb.size) ⟨z4,z3,s3.keep fun b hb2=>hb.block b (hKl b hb2),s4.keep fun b hb2=>hb.block b (hKl b hb2),z5⟩ o2 o3 o4)
    unfold resVal at HO
    clear hx hc hrow hfz s2 s3 s4
    go_wp2_with fail
    go_region_law (first
     | (go_simp; go_at_call 64; refine HC.out.mono ?_; rintro e w2 ⟨A5,c5,rfl,h51,h52,hs5,hb2⟩
        have hb2':Below wr.heap.size wr w2:=of_drew hb2
        have r3:=(hb2'.cell (p:=⟨g,k * 8 + 3,none⟩) hgl).trans q3
        have r4:=(hb2'.cell (p:=⟨g,k * 8 + 4,none⟩) hgl).trans q4
        have r5:=(hb2'.cell (p:=⟨g,k * 8 + 5,none⟩) hgl).trans q5
        have r6:=(hb2'.cell (p:=⟨g,k * 8 + 6,none⟩) hgl).trans q6
        have r7:=(hb2'.cell (p:=⟨g,k * 8 + 7,none⟩) hgl).trans q7)
     | (go_simp; go_at_call 65; refine (HO.out w2 hb2').mono ?_; rintro e w3 ⟨A6,n6,c6,A7,n7,c7,rfl,hc67,hs6,hb3⟩
        unfold resVal
        have hb3':=fr_call hb2' hb3
        have t2:=(hb3'.cell (p:=⟨g,k * 8 + 2,none⟩) hgl).trans q2
        have t3:=(hb3'.cell (p:=⟨g,k * 8 + 3,none⟩) hgl).trans q3
        have t4:=(hb3'.cell (p:=⟨g,k * 8 + 4,none⟩) hgl).trans q4
        have t5:=(hb3'.cell (p:=⟨g,k * 8 + 5,none⟩) hgl).trans q5
        have t6:=(hb3'.cell (p:=⟨g,k * 8 + 6,none⟩) hgl).trans q6
        have t7:=(hb3'.cell (p:=⟨g,k * 8 + 7,none⟩) hgl).trans q7
        have f2:=(hb3'.frozen (p:=⟨g,k * 8 + 2,none⟩) hgl).trans (HFz.out (k * 8 + 2))
        have f3:=(hb3'.frozen (p:=⟨g,k * 8 + 3,none⟩) hgl).trans (HFz.out (k * 8 + 3))
        have f4:=(hb3'.frozen (p:=⟨g,k * 8 + 4,none⟩) hgl).trans (HFz.out (k * 8 + 4))
        have f5:=(hb3'.frozen (p:=⟨g,k * 8 + 5,none⟩) hgl).trans (HFz.out (k * 8 + 5))
        have f6:=(hb3'.frozen (p:=⟨g,k * 8 + 6,none⟩) hgl).trans (HFz.out (k * 8 + 6))
        have f7:=(hb3'.frozen (p:=⟨g,k * 8 + 7,none⟩) hgl).trans (HFz.out (k * 8 + 7))))
    all_goals
     obtain ⟨V,hV⟩:∃ V,V=(((((w3.setCell ⟨g,k * 8 + 2,none⟩ (.slice A5 n2 c5)).setCell ⟨g,k * 8 + 3,none⟩ (.int .i64 x.result.code)).setCell ⟨g,k * 8 + 3 + 1,none⟩ (.string x.result.text)).setCell ⟨g,k * 8 + 3 + 2,none⟩ (.slice A6 n6 c6)).setCell ⟨g,k * 8 + 3 + 3,none⟩ (.slice A7 n7 c7)).setCell ⟨g,k * 8 + 3 + 4,none⟩ (.int .i64 x.result.command):=⟨_,rfl⟩
     rw [←hV]
     have hz2:=hb2'.size
     have hz3:=hb3.size
     have hzw:=hbel.size
     have hrow3:RowK w3 w.heap.size 43 (fun b=>b≠g∧NewS S w w3 b) (.slice (some ⟨g,0,none⟩) n c1) l:=(HRow.out.call hb3').more (fun b hb=>⟨hb.1,hb.2.1,by have:=hb.2.2; omega⟩) fun b hb=>hb.2.2
     have s2:Sl w3 (fun b=>b≠g∧NewS S w w3 b) A5 n2 x.looks:=(hs5.keep fun b hb=>hb3.block b hb.2).more fun b hb=>newS_more hb (Nat.le_refl _) (by show g < wr.heap.size; exact hgl) (by show w.heap.size≤wr.heap.size; exact hzw) hz3
     have s3:Sl w3 (fun b=>b≠g∧NewS S w w3 b) A6 n6 x.result.files:=hs6.files.more fun b hb=>newS_more hb hz2 hgl hzw (Nat.le_refl _)
     have s4:Sl w3 (fun b=>b≠g∧NewS S w w3 b) A7 n7 x.result.looks:=hs6.looks.more fun b hb=>newS_more hb hz2 hgl hzw (Nat.le_refl _)
     have hrowV:RowK V w.heap.size 43 (fun b=>b≠g∧NewS S w w3 b) (.slice (some ⟨g,0,none⟩) n c1) l:=by rw [hV]; exact memory_set hrow3 (fun h=>h.1 rfl) HX.out s2 s3 s4 ⟨h51,h52,hc67⟩
     have hzV:V.heap.size=w3.heap.size:=by rw [hV,size_setCell',size_setCell',size_setCell',size_setCell',size_setCell',size_setCell']
     have hrowV2:RowK V w.heap.size 43 (fun b=>b≠g∧NewS S w V b) (.slice (some ⟨g,0,none⟩) n c1) l:=hrowV.more (fun b hb=>⟨hb.1,hb.2.1,by rw [hzV]; exact hb.2.2⟩) fun b hb=>hb.2.2
     have hbV:Below w.heap.size w V:=by
      rw [hV]
      exact ((((((fr_call hbel hb3').setCell (p:=⟨g,_,none⟩) hgb _).setCell (p:=⟨g,_,none⟩) hgb _).setCell (p:=⟨g,_,none⟩) hgb _).setCell (p:=⟨g,_,none⟩) hgb _).setCell (p:=⟨g,_,none⟩) hgb _).setCell (p:=⟨g,_,none⟩) hgb _
     have HV2:=Lib.hid hrowV2
     have hgV:g < V.heap.size:=by omega
     clear hV hrow3 s2 s3 s4 hrowV hzV hrowV2 hs5 hs6 hb2 hb3 q2 q3 q4 q5 q6 q7 r3 r4 r5 r6 r7 t2 t3 t4 t5 t6 t7 f2 f3 f4 f5 f6 f7
     go_wp2
     go_roundw
     case rel=>exact ⟨k + 1,by omega,by go_num,HV2.out,hgV,hbV⟩
     case measure=>simp [intOf]; omega
   ·clear HL
    go_wp2
    go_ret
    exact ⟨_,rfl,hrow.more (fun b hb=>⟨fun e=>hb.1 (by cases e; rfl),hb.2⟩) fun b hb=>hb.2.2,hbel⟩
end Go.Proofs.Sm
