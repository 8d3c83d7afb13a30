/- Words and walks that the claims share, part 18. -/
import Derived.Test.YtaabdbephemboaaGreatDoorBx7
import Derived.Test.YtaabdbephemboaaGreatDoorBx10
import Derived.Test.YtaabdbephemboaaGreatDoorBx15
import Derived.Test.YtaabdbephemboaaGreatDoorBx16
import Derived.Test.YtaabdbephemboaaGreatDoorBx17
import Derived.Lib.AppendStr
namespace Go.Proofs.Sm
open Go.RowKit Go.Maps Go.WideMaps
section
variable {P:Program} {k:TypeId} {w:World} {b n:Nat} {f:List UInt8→Option Value}
def metB (D:DataW Value) (left:Lit→Bool) (key:List UInt8):Bool:=Maps.has D (.string key) && !left (.string key)
theorem met_none (D:DataW Value) (key:List UInt8):metB D (Maps.has D) key=false:=by simp [metB]
theorem met_all {D:DataW Value} {left:Lit→Bool} (h:∀ kl,left kl=false) (key:List UInt8):metB D left key=Maps.has D (.string key):=by simp [metB,h]
theorem met_more {D:DataW Value} {left:Lit→Bool} {x:List UInt8} (hx:Maps.has D (.string x)=true) (key:List UInt8):metB D (fun z=>left z && !z.sameKey (.string x)) key=(metB D left key || (key == x)):=by
 unfold metB
 by_cases he:key=x
 ·subst he
  simp [hx,Lit.sameKey]
 ·have h1:(key == x)=false:=by simpa using he
  have h2:(Lit.string key).sameKey (.string x)=false:=by simp [Lit.sameKey,he]
  simp [h1,h2]
end
section
variable {w w':World} {S:Nat→Prop} {B g mi mw ml:Nat} {q:ActP} {a:ActionV} {F:List FileV} {M:Nat} {s:ExSt} {p:ByteArray}
theorem act_find_any (hp:p.size≤maxLen) (hM:M≤1000000) (h:Wk w S B g mi mw ml q a F M s) :
 Calls Tryz.prog 244 #[.pointer (some ⟨g,0,none⟩),.string p] w fun e w'=>∃ v,e=.returned v∧Kp (fun k=>k=ml) w w'∧Wk w' S B g mi mw ml q a F (M + noneN (findE p F s).1) (findE p F s).2:=by
 refine (act_find S B g mi mw ml q a F M s p w hp hM h).mono ?_
 rintro e w' ⟨h1,h2,h3⟩
 cases hf:(findE p F s).1 with
 | none=>rw [hf] at h3 h2; exact ⟨_,h3,h1,h2⟩
 | some x =>
   rw [hf] at h3 h2
   obtain ⟨v,_,h4⟩:=h3
   exact ⟨_,h4,h1,h2⟩
end
theorem rangeLeft_lt {w w':World} {b r n n' c c':Nat} {D D':DataW Value} {l l':Lit→Bool} (h:w.ranges Tryz.prog 9 raw b r n D l c) (h':w'.ranges Tryz.prog 9 raw b r n' D' l' c') (hlt:c' < c):w'.rangeLeft b r < w.rangeLeft b r:=by
 rw [h'.left_eq,h.left_eq]; exact hlt
theorem some_of {w:World} {S:Nat→Prop} {l:List FileV} {key:List UInt8} {u:Option Value} (h:match keyF l key with
 | none=>u=none
 | some x=>∃ v,u=some v∧FileVal w S x v):u.isSome=(keyF l key).isSome:=by
 cases hq:keyF l key with
 | none=>rw [hq] at h; simp only at h; rw [h]; rfl
 | some x=>rw [hq] at h; obtain ⟨v,h,_⟩:=h; rw [h]; rfl
theorem there_found {F:List FileV} {s:ExSt} {x:ByteArray} (h:ThereS F s x):noneN (findE x F s).1=0:=by
 unfold findE
 cases hw:s.written.find? (eqp x) with
 | some y=>rfl
 | none =>
   rcases h with h | h
   ·cases hf:F.find? (eqp x) with
    | none=>rw [hf] at h; cases h
    | some y=>rfl
   ·rw [hw] at h; cases h
theorem lists_nil (q:ByteArray) (o:List UInt8) (F:List FileV) (s:ExSt):listsE q [] o F s=(o,s):=rfl
theorem lists_out {q x:ByteArray} {l:List ByteArray} {o:List UInt8} {F:List FileV} {s:ExSt} (h:liesS x q=false):listsE q (x :: l) o F s=listsE q l o F s:=by
 rw [listsE,if_neg (by rw [withinS,h]; decide)]
theorem lists_in {q x:ByteArray} {l:List ByteArray} {o:List UInt8} {F:List FileV} {s:ExSt} (h:liesS x q=true):listsE q (x :: l) o F s=listsE q l (o ++ (x.data.toList ++ [10])) F (findE x F s).2:=by
 rw [listsE,if_pos (by rw [withinS,h]),List.append_assoc]; rfl
theorem isSome_put {g:List UInt8→Option Value} {x key:List UInt8} {v:Value} {b:Bool} (h:(g key).isSome=b):(if key=x then some v else g key).isSome=(b || key == x):=by
 by_cases he:key=x
 ·simp [he]
 ·simp [he,h]
theorem keyed_string:Keyed Tryz.prog 9:=string_keyed Tryz.underlying9
set_option maxHeartbeats 4000000 in
set_option maxRecDepth 100000 in
theorem act_list (S:Nat→Prop) (B g mi mw ml:Nat) (q:ActP) (a:ActionV) (F:List FileV) (M:Nat) (s:ExSt) (p:ByteArray) (w:World) (hp:p.size≤100000) (hM:M + 1≤1000000) (h:Wk w S B g mi mw ml q a F M s) (hF:∀ x∈F,x.path.size≤1000) (hout:a.outputs.length≤1000) (hw:∀ x∈s.written,x.path.size≤1000) :
 Calls Tryz.prog 250 #[.pointer (some ⟨g,0,none⟩),.string p] w fun e w'=>∃ A n c,e=.returned (.slice A n c)∧n≤c∧c≤maxLen∧n≤100000000∧Sl w' (OffW g mi mw ml w') A n (listE p F s).1∧Kp (fun k=>k=ml) w w'∧Wk w' (OffW g mi mw ml w') B g mi mw ml q a F (M + 1) (listE p F s).2:=by
 have HF:=Lib.hid (act_find_any (p:=p) (show p.size≤maxLen by unfold maxLen; omega) (by omega) h)
 have HSl:=Lib.hid (fun k (hk:S k)=>(h.sep k hk).1)
 have hlow0:B≤w.heap.size∧g < w.heap.size∧mi < w.heap.size∧mw < w.heap.size∧ml < w.heap.size:=⟨h.bound,h.blk.lt,h.inp.lt,h.wri.lt,MapIs.lt h.lok⟩
 clear h
 have hmm:=@run_makeMap Tryz.prog
 go_enter Tryz.func250,Tryz.ntmps250
 go_wp2_with fail
 refine HF.out.mono ?_
 rintro e w1 ⟨u,rfl,hk1,hW1⟩
 have g6:=hW1.blk.cell (i:=6) rfl
 have g7:=hW1.blk.cell (i:=7) rfl
 have hgl:=hW1.blk.lt
 obtain ⟨fI,hI,hI2⟩:=id hW1.inp
 obtain ⟨D1,ho1,_,hat1,hhas1⟩:=hI.has
 obtain ⟨fW,hWr,hWr2⟩:=id hW1.wri
 obtain ⟨D2,ho2,_,hat2,hhas2⟩:=hWr.has
 have HfI:=Lib.hid (fun key=>some_of (hI2 key))
 have HfW:=Lib.hid (fun key=>some_of (hWr2 key))
 clear hI2 hWr2
 obtain ⟨s1,hs1⟩:∃ s1,(findE p F s).2=s1:=⟨_,rfl⟩
 rw [hs1] at hW1 hWr ho2 HfW
 have HS1:=Lib.hid hs1
 clear hs1
 have hm0:=MapIs.made (P:=Tryz.prog) (k:=9) w1
 have hb2:Below w1.heap.size w1 (w1.alloc (.map #[] 0)):=fr_alloc (fr_refl w1) _
 have hI2':(w1.alloc (.map #[] 0)).ownsMap Tryz.prog 9 raw mi F.length D1:=by
  obtain ⟨es,clock,hb,Ft,hs⟩:=ho1
  exact ⟨es,clock,(hb2.block mi hI.lt).trans hb,Ft,hs⟩
 obtain ⟨mb,hmb⟩:∃ mb,mb=w1.heap.size:=⟨_,rfl⟩
 go_wp2_with (at_range; refine wpList_range_own _ rfl _ 97 rfl 9 78 keyed_string map_file_under raw mi F.length D1 rfl hI2' ?_; intro w3 hrg3 hg3 hs3)
 try dsimp only
 try go_frame
 obtain ⟨r,hr⟩:∃ r,r=(w1.alloc (.map #[] 0)).heap.size:=⟨_,rfl⟩
 rw [←hr] at hrg3 ⊢
 rw [←hmb] at hm0 ⊢
 have hrI:r=mb + 1:=by rw [hr,hmb,World.size_alloc]
 have HMb:=Lib.hid (show w1.heap.size=mb from hmb.symm)
 have hb3:Below w1.heap.size w1 w3:=hb2.grown hg3 hb2.size (fun b hb=>by cases hb)
 have hm3:MapIs Tryz.prog 9 w3 mb 0 (fun _=>none):=hm0.grown hg3 (by simp)
 have hsz1:Maps.size D1≤F.length:=ownsMap_size ho1
 have hmany:=hW1.many
 have HW1:=Lib.hid hW1
 have HK1:=Lib.hid hk1
 have HR:=Lib.hid hrI
 have HNe:=Lib.hid (show mi < mb∧mw < mb from ⟨by rw [hmb]; exact hI.lt,by rw [hmb]; exact hWr.lt⟩)
 clear hr hmb hrI hI2' hm0 hg3 hs3 hb2 hW1 hk1 HF
 go_loopw [6] (fun _ wr=>∃ (left:Lit→Bool) (cnt m:Nat) (g0:List UInt8→Option Value),wr.ranges Tryz.prog 9 raw mi r F.length D1 left cnt∧MapIs Tryz.prog 9 wr mb m g0∧m + cnt≤1000∧(∀ key,(g0 key).isSome=metB D1 left key)∧Below w1.heap.size w1 wr) (fun _ wr=>wr.rangeLeft mi r)
 case atStart=>exact ⟨_,_,0,_,hrg3,hm3,by omega,fun key=>by rw [met_none]; rfl,hb3⟩
 case round =>
  clear hrg3 hm3 hb3
  obtain ⟨left,cnt,m,g0,hrg,hm,hmc,hg0,hb⟩:=hrel
  have HG0:=Lib.hid hg0
  clear hg0
  have hI3':wr.ownsMap Tryz.prog 9 raw mw s1.written.length D2:=by
   obtain ⟨es,clock,hb',Ft,hs⟩:=ho2
   exact ⟨es,clock,(hb.block mw hWr.lt).trans hb',Ft,hs⟩
  have g7r:=(hb.cell (p:=⟨g,7,none⟩) hgl).trans g7
  go_wp2_with (first
   | (at_range; refine wpList_range_own _ rfl _ 97 rfl 9 78 keyed_string map_file_under raw mw s1.written.length D2 rfl hI3' ?_; intro w7 hrg7 hg7 hs7)
   | (at_next
      refine wpList_next_ranges _ rfl _ rfl 9 keyed_string raw Value.string id (fun key kl hk=>by obtain ⟨x,hx,_⟩:=Maps.keyOf_str Tryz.underlying9 hk; exact ⟨_,hx⟩) (fun v _ _=>⟨v,rfl⟩) mi r F.length D1 left cnt rfl hrg ?_ ?_
      rotate_left
      intro x c kl y w4 cnt' hkey hlk hRy hat hrg4 hlt hgr hsz hen
      obtain ⟨xl,hx1,hx2,hx3⟩:=Maps.keyOf_str Tryz.underlying9 hkey
      obtain rfl:xl=x.data.toList:=by cases hx1; rfl
      clear hx1
      subst hx2
      have hxs:x.size≤maxLen:=by rw [Array.length_toList] at hx3; exact hx3
      have HAT:=Lib.hid (has_true_of_atKey hat)
      have hm4:=hm.grown hgr (fun e=>by have:=Option.some.inj e; have:=HR.out; omega)
      have hb4:=hb.grown hgr hb.size (fun j hj=>by cases hj; have:=HR.out; have:=HMb.out; omega)
      clear hat hkey hlk
      rotate_left
      intro hc0 hl0)
   | (at_mapUpdate
      refine wpList_mapUpdate_is _ rfl _ _ _ 113 rfl Tryz.underlying9 Tryz.underlying113 rfl hm4 (by unfold maxLen; omega) x hxs (.bool true) rfl rfl ?_
      intro w5 hm5 hg5
      have hrg5:=hrg4.kept hg5 (fun e=>by have:=Option.some.inj e; have:=HNe.out; omega) (fun e=>by have:=Option.some.inj e; have:=HR.out; omega)
      have hb5:=hb4.grown hg5 hb4.size (fun j hj=>by cases hj; have:=HMb.out; omega)))
  rotate_left
  ·try dsimp
   try go_frame
   go_roundw
   case rel =>
    exact ⟨_,cnt',m + 1,_,hrg5,hm5,by omega,fun key=>(isSome_put (HG0.out key)).trans (met_more HAT.out key).symm,hb5⟩
   case measure=>exact rangeLeft_lt hrg hrg5 hlt
  ·have HG1:=Lib.hid (fun key=>(HG0.out key).trans ((met_all hl0 key).trans (hhas1 key)))
   have hm9:=hm
   have hb9:=hb
   clear hrg hm hc0 hl0 HG0 hb
   try dsimp only
   try go_frame
   obtain ⟨r2,hr2⟩:∃ r2,r2=wr.heap.size:=⟨_,rfl⟩
   rw [←hr2] at hrg7 ⊢
   have hm7:MapIs Tryz.prog 9 w7 mb m g0:=hm9.grown hg7 (by simp)
   have hb7:Below w1.heap.size w1 w7:=hb9.grown hg7 hb9.size (fun b hb=>by cases hb)
   have hsz2:Maps.size D2≤s1.written.length:=ownsMap_size ho2
   have hfew:s1.written.length≤1000:=Nat.le_trans (written_few HW1.out.ok.wrote) hout
   have HR2:=Lib.hid (show mb < r2∧w1.heap.size≤r2 from ⟨by rw [hr2]; exact hm9.lt,by rw [hr2]; exact hb9.size⟩)
   clear hr2 hm9 hb9 hg7 hs7 hI3' g7r
   go_loopw [7] (fun _ wr=>∃ (left:Lit→Bool) (cnt m:Nat) (g0:List UInt8→Option Value),wr.ranges Tryz.prog 9 raw mw r2 s1.written.length D2 left cnt∧MapIs Tryz.prog 9 wr mb m g0∧m + cnt≤2000∧(∀ key,(g0 key).isSome=((fI key).isSome || metB D2 left key))∧Below w1.heap.size w1 wr) (fun _ wr=>wr.rangeLeft mw r2)
   case atStart=>exact ⟨_,_,m,g0,hrg7,hm7,by omega,fun key=>by rw [met_none,Bool.or_false]; exact HG1.out key,hb7⟩
   case round =>
    clear hrg7 hm7 hb7 hmc HG1
    obtain ⟨left,cnt,m,g0,hrg,hm,hmc,hg0,hb⟩:=hrel
    have HG0:=Lib.hid hg0
    clear hg0
    go_wp2_with (first
     | (at_next
        refine wpList_next_ranges _ rfl _ rfl 9 keyed_string raw Value.string id (fun key kl hk=>by obtain ⟨x,hx,_⟩:=Maps.keyOf_str Tryz.underlying9 hk; exact ⟨_,hx⟩) (fun v _ _=>⟨v,rfl⟩) mw r2 s1.written.length D2 left cnt rfl hrg ?_ ?_
        rotate_left
        intro x c kl y w4 cnt' hkey hlk hRy hat hrg4 hlt hgr hsz hen
        obtain ⟨xl,hx1,hx2,hx3⟩:=Maps.keyOf_str Tryz.underlying9 hkey
        obtain rfl:xl=x.data.toList:=by cases hx1; rfl
        clear hx1
        subst hx2
        have hxs:x.size≤maxLen:=by rw [Array.length_toList] at hx3; exact hx3
        have HAT:=Lib.hid (has_true_of_atKey hat)
        have hm4:=hm.grown hgr (fun e=>by have:=Option.some.inj e; have:=HR2.out; omega)
        have hb4:=hb.grown hgr hb.size (fun j hj=>by cases hj; have:=HR2.out; omega)
        clear hat hkey hlk
        rotate_left
        intro hc0 hl0)
     | (at_mapUpdate
        refine wpList_mapUpdate_is _ rfl _ _ _ 113 rfl Tryz.underlying9 Tryz.underlying113 rfl hm4 (by unfold maxLen; omega) x hxs (.bool true) rfl rfl ?_
        intro w5 hm5 hg5
        have hrg5:=hrg4.kept hg5 (fun e=>by have:=Option.some.inj e; have:=HNe.out; omega) (fun e=>by have:=Option.some.inj e; have:=HR2.out; omega)
        have hb5:=hb4.grown hg5 hb4.size (fun j hj=>by cases hj; have:=HMb.out; omega)))
    rotate_left
    ·try dsimp
     try go_frame
     go_roundw
     case rel =>
      exact ⟨_,cnt',m + 1,_,hrg5,hm5,by omega,fun key=>(isSome_put (HG0.out key)).trans (by rw [met_more HAT.out,Bool.or_assoc]),hb5⟩
     case measure=>exact rangeLeft_lt hrg hrg5 hlt
    ·have HG1:=Lib.hid (fun key=>(HG0.out key).trans (show _=((fI key).isSome || (fW key).isSome) by rw [met_all hl0 key,hhas2 key]))
     clear hrg hc0 hl0 HG0
     refine (keys_mapstringbool mb wr).mono ?_
     rintro e w8' ⟨rfl,rfl⟩
     go_wp2_with fail
     refine (sorted_mapstringbool mb m g0 wr hm (by omega)).mono ?_
     rintro e w8 ⟨ks,A8,c8,rfl,hks,hc81,hc82,hs8,hb8⟩
     have hks2:ks=pathsS F s1:=paths_keys hks (fun key=>by rw [HG1.out key,HfI.out key,HfW.out key]) (fun x hx=>by have:=hF x hx; unfold maxLen; omega) (fun x hx=>by rw [←HS1.out,find_written] at hx; have:=hw x hx; unfold maxLen; omega)
     have hb18:=fr_call hb hb8
     have hW8:=HW1.out.call hb18
     have hk8:Kp (fun k=>k=ml) w w8:=HK1.out.call hb18
     have hth:∀ x∈ks,ThereS F s1 x:=fun x hx=>paths_there (by rw [←hks2]; exact hx)
     have hkz:∀ x∈ks,x.size≤1000:=fun x hx=>by
      rw [hks2] at hx
      rcases paths_mem.1 hx with ⟨y,hy,rfl⟩ | ⟨y,hy,rfl⟩
      ·exact hF y hy
      ·rw [←HS1.out,find_written] at hy; exact hw y hy
     have hkn:ks.length≤2000:=by
      rw [hks2]
      have:=paths_few F s1
      omega
     have hz8:=hk8.size
     have HTh:=Lib.hid hth
     have HML:=Lib.hid (show ml < w8.heap.size by omega)
     have HLo:=Lib.hid (show g < w8.heap.size∧mi < w8.heap.size∧mw < w8.heap.size∧ml < w8.heap.size∧w.heap.size≤w8.heap.size from ⟨by omega,by omega,by omega,by omega,hz8⟩)
     have HKs:=Lib.hid hks2
     have HK8:=Lib.hid hk8
     have hmk:ks.length≤9223372036854775807:=by omega
     obtain ⟨i0,hi0,hz0,hz1,hz2⟩:=info_parts cl_byte_info
     have HS8:=Lib.hid (fun (wx:World) (hk:Kp (fun k=>k=ml) w8 wx)=>(sl_not_map hs8 hW8.lok).keep fun k hh=>hk.block k hh.1 hh.2)
     clear hks hks2 hb hb8 hb18 hm hth hs8 hk8
     go_wp2
     go_loopw [8,41] (fun v i wr=>∃ (k:Nat) (s':ExSt) (o:List UInt8),k≤ks.length∧i=.int .i64 k∧Kp (fun k=>k=ml) w8 wr∧Wk wr S B g mi mw ml q a F (M + noneN (findE p F s).1) s'∧s'.written=s1.written∧OwnB wr w8.heap.size 5 v o∧o.length≤k * 2000∧listsE p ks [] F s1=listsE p (ks.drop k) o F s') (fun _ i _=>ks.length - (intOf i).toNat)
     case atStart=>exact ⟨0,s1,[],Nat.zero_le _,rfl,Kp.refl _ _,hW8,rfl,OwnB.nil _ _ _,by simp,rfl⟩
     case round =>
      clear hW8
      obtain ⟨k,s',o,hk,rfl,hkp,hW,hwr,hown,hol,he⟩:=hrel
      have HE:=Lib.hid he
      clear he
      by_cases hlt:k < ks.length
      ·obtain ⟨b,o',x,rfl,hbk,hx,hxs,c0⟩:=(HS8.out _ hkp).str hlt
       have hd:=drop_at hx
       have hkI:(k:Int) < (ks.length:Int):=by omega
       have hx1:=hkz x (List.mem_of_getElem? hx)
       have HT1:=Lib.hid (show ThereS F s' x by have:=HTh.out x (List.mem_of_getElem? hx); unfold ThereS at this ⊢; rw [hwr]; exact this)
       have HWi:=Lib.hid (blob_Within x p wr hp)
       clear hx
       cases hli:liesS x p with
       | false =>
         rw [hli] at HWi
         have HE2:=Lib.hid (HE.out.trans (by rw [hd,lists_out hli]))
         clear hd HE hli HT1
         go_wp2_with fail
         refine HWi.out.mono ?_
         rintro e w9 ⟨rfl,rfl⟩
         go_wp2
         go_roundw
         case rel=>exact ⟨k + 1,s',o,by omega,by go_num,hkp,hW,hwr,hown,by omega,HE2.out⟩
         case measure=>simp [intOf]; omega
       | true =>
         rw [hli] at HWi
         have HE2:=Lib.hid (HE.out.trans (by rw [hd,lists_in hli]))
         obtain ⟨t,ht,htl,hcat⟩:=cat_op x ⟨#[10]⟩ (by have:(⟨#[10]⟩:ByteArray).size=1:=rfl; omega)
         have hts:t.size≤1001:=by have:(⟨#[10]⟩:ByteArray).size=1:=rfl; omega
         have hMn:noneN (findE p F s).1≤1:=by cases (findE p F s).1 <;> simp [noneN]
         have HFd:=Lib.hid (act_find_any (p:=x) hxs (by omega) hW)
         have hzr:=hkp.size
         clear hd HE hli hW
         go_wp2_with fail
         refine HWi.out.mono ?_
         rintro e w9 ⟨rfl,rfl⟩
         go_wp2_with fail
         refine HFd.out.mono ?_
         rintro e w9 ⟨u9,rfl,hk9,hW9⟩
         rw [there_found HT1.out,Nat.add_zero] at hW9
         have hk89:=hkp.trans hk9
         have hz9:=hk89.size
         have hown9:=hown.kp hk9 (fun b hb e=>by have:=HML.out; omega)
         have hwr9:(findE x F s').2.written=s1.written:=by rw [find_written]; exact hwr
         have HG:=Lib.hid (fun g hg=>(hown9.lt g hg).1)
         have HOw:=Lib.hid hown9
         have hol2:o.length≤2000 * 2000:=Nat.le_trans hol (Nat.mul_le_mul_right _ (by omega))
         have HX:=Lib.hid (show o ++ t.data.toList=o ++ (x.data.toList ++ [10]) by rw [htl.out])
         clear hown hown9 hkp hk9 HFd HT1
         go_wp2_with (
          at_builtin
          refine Lib.wpList_append_own_string _ rfl _ _ 75 9 rfl w8.heap.size 5 i0 Tryz.underlying75 Tryz.underlying9 hi0 hz0 hz1 hz2 _ o.length _ rfl HOw.out t rfl (by unfold maxLen; omega) (by omega) hz9 ?_
          intro v' w10 hown10 hg10 _
          have hk10:=hk89.grown hg10 (fun g hg=>.inr (HG.out g hg))
          have hW10:=hW9.keep (X:=fun k=>w8.heap.size≤k) (by exact Kp.grown (Kp.refl _ _) hg10 (fun g hg=>.inl (HG.out g hg))) (by have:=HLo.out; omega) (by have:=HLo.out; omega) (by have:=HLo.out; omega) (by have:=HLo.out; omega) (fun k hk=>by have:=HSl.out k hk; have:=HLo.out; omega)
          have hown11:OwnB w10 w8.heap.size 5 v' (o ++ (x.data.toList ++ [10])):=by
           rw [←HX.out]
           unfold OwnB
           rw [Lib.byteCells_append,List.length_append,show t.data.toList.length=t.size from Array.length_toList]
           exact hown10
          clear hown10 hg10 HOw HG hW9)
         go_roundw
         case rel=>exact ⟨k + 1,_,_,by omega,by go_num,hk10,hW10,hwr9,hown11,by rw [←HX.out,List.length_append,show t.data.toList.length=t.size from Array.length_toList]; omega,HE2.out⟩
         case measure=>simp [intOf]; omega
      ·obtain ⟨A',c',rfl,h1,h2,h3⟩:=hown.sl
       have hol2:o.length≤2000 * 2000:=Nat.le_trans hol (Nat.mul_le_mul_right _ (by omega))
       have hfin:listE p F s=(o,s'):=by
        have e1:listE p F s=listsE p (pathsS F s1) [] F s1:=by rw [listE,Ex.bind,HS1.out]
        rw [e1,←HKs.out,HE.out,List.drop_eq_nil_of_le (by omega)]
        exact lists_nil p o F s'
       have HEnd:=Lib.hid (fun (w':World) (hb:Below wr.heap.size wr w')=>(show ∃ A n c,Ending.returned (.slice A' o.length c')=.returned (.slice A n c)∧n≤c∧c≤maxLen∧n≤100000000∧Sl w' (OffW g mi mw ml w') A n (listE p F s).1∧Kp (fun k=>k=ml) w w'∧Wk w' (OffW g mi mw ml w') B g mi mw ml q a F (M + 1) (listE p F s).2 by
        rw [hfin]
        exact ⟨A',o.length,c',rfl,h1,h2,by omega,(h3.keep fun k hk=>hb.block k hk.2).more fun k hk=>⟨Nat.lt_of_lt_of_le hk.2 hb.size,by have:=HLo.out; omega⟩,(HK8.out.trans hkp).call hb,((hW.up (by cases (findE p F s).1 <;> simp [noneN])).call hb).off⟩))
       clear hown h3 hkp hW HE hfin
       go_wp2
       go_ret
       exact HEnd.out _ (by repeat (first | exact fr_refl _ | refine fr_call ?_ (by assumption) | refine fr_alloc ?_ _ | refine fr_set ?_ (by simp) _ | refine Below.drew ?_ | refine below_drewN ?_ _))
end Go.Proofs.Sm
namespace Go.Proofs.Sm
open Go.RowKit Go.Sort
theorem strOf_eq {t:ByteArray} {l:List UInt8} (h:t.data.toList=l):t=strOf l:=by
 subst h
 cases t
 simp [strOf]
theorem trimNl (l:List UInt8) (w:World) (hl:l.length≤1000000000):Calls Tryz.prog 269 #[.string (strOf l),.string ⟨#[10]⟩] w fun e w'=>e=.returned (.string (strOf (cutNl l)))∧w=w' :=
 (Tryz.strings_TrimSuffix (strOf l) ⟨#[10]⟩ w (by rw [strOf_size]; omega)).mono fun _ _ h=>⟨h.1,h.2.symm⟩
set_option maxRecDepth 100000 in
theorem act_ended (l:List UInt8) (w:World) (hl:l.length≤1000000000):Calls Tryz.prog 270 #[.string (strOf l)] w fun e w'=>e=.returned (.string (strOf (endedS l)))∧w=w':=by
 have h1:=cutNl_len l
 obtain ⟨t,ht,htl,hcat⟩:=cat_op (strOf (cutNl l)) ⟨#[10]⟩ (by rw [strOf_size]; have:(⟨#[10]⟩:ByteArray).size=1:=rfl; omega)
 have HT:=Lib.hid (strOf_eq (l:=endedS l) (by rw [htl.out]; rfl))
 have HC:=Lib.hid (trimNl l w hl)
 go_enter Tryz.func270,Tryz.ntmps270
 go_wp2_with fail
 refine HC.out.mono ?_
 rintro e w1 ⟨rfl,rfl⟩
 go_wp2
 go_ret
 exact ⟨ret_string HT.out,rfl⟩
def cutUpTo (l:List (List UInt8)) (k:Nat):List (List UInt8):=(l.take k).map cutNl ++ l.drop k
theorem cutUpTo_at {l:List (List UInt8)} {k:Nat} {x:List UInt8} (h:l[k]?=some x):(cutUpTo l k)[k]?=some x:=by
 have hk:=(List.getElem?_eq_some_iff.1 h).1
 rw [cutUpTo,List.getElem?_append_right (by simp; omega)]
 simp only [List.length_map,List.length_take,Nat.min_eq_left (Nat.le_of_lt hk),Nat.sub_self]
 rw [List.getElem?_drop,Nat.add_zero,h]
theorem cutUpTo_set {l:List (List UInt8)} {k:Nat} {x:List UInt8} (h:l[k]?=some x):(cutUpTo l k).set k (cutNl x)=cutUpTo l (k + 1):=by
 have hk:=(List.getElem?_eq_some_iff.1 h).1
 rw [cutUpTo,drop_at h,cutUpTo,List.set_append_right _ _ (by simp; omega)]
 simp only [List.length_map,List.length_take,Nat.min_eq_left (Nat.le_of_lt hk),Nat.sub_self,List.set_cons_zero]
 rw [List.take_add_one,h]
 simp
theorem cutUpTo_all {l:List (List UInt8)}:cutUpTo l l.length=l.map cutNl:=by simp [cutUpTo]
theorem OwnS.cast {w:World} {B:Nat} {e:TypeId} {A:Option Addr} {n m c:Nat} {l:List (List UInt8)} (h:OwnS w B e (.slice A n c) l) (hn:m=n):OwnS w B e (.slice A m c) l:=hn ▸ h
theorem OwnB.weaken {w:World} {B B':Nat} {e:TypeId} {v:Value} {o:List UInt8} (h:OwnB w B e v o) (hB:B'≤B):OwnB w B' e v o:=by
 refine ⟨h.1,?_⟩
 rcases h.2 with h1 | ⟨g,cap,cur,h1,h2,h3⟩
 ·exact .inl h1
 ·exact .inr ⟨g,cap,cur,h1,Nat.le_trans hB h2,h3⟩
def SortPost (b:List UInt8) (w:World) (e:Ending) (w':World):Prop:=∃ v,e=.returned v∧OwnB w' w.heap.size 5 v (sortLinesS b)∧Below w.heap.size w w'
def nlAll (l:List (List UInt8)):List UInt8:=l.flatMap fun s=>s ++ [10]
theorem nlAll_next {l:List (List UInt8)} {k:Nat} {x:List UInt8} (h:l[k]?=some x):nlAll (l.take (k + 1))=nlAll (l.take k) ++ (x ++ [10]):=by
 rw [nlAll,List.take_add_one,h]
 simp [nlAll]
theorem compact_short (l:List (List UInt8)):(Lib.compact l).length≤l.length:=by
 unfold Lib.compact Lib.compactUpTo
 rw [List.length_map]
 have:=List.length_filter_le (Lib.keeps l.toArray) (List.range l.length)
 simpa using this
theorem compact_mem {l:List (List UInt8)} {x:List UInt8} (h:x∈Lib.compact l):x∈l:=by
 unfold Lib.compact Lib.compactUpTo at h
 obtain ⟨j,hj,rfl⟩:=List.mem_map.1 h
 have hj':=List.mem_range.1 (List.mem_filter.1 hj).1
 simp [hj']
set_option maxHeartbeats 2000000 in
set_option maxRecDepth 100000 in
theorem act_sortLines (A:Option Addr) (n c:Nat) (b:List UInt8) (w:World) (hsl:Sl w (Lt w.heap.size) A n b) (hnc:n≤c) (hc:c≤maxLen) (hn:n≤1000000) :
 Calls Tryz.prog 252 #[.slice A n c] w (SortPost b w):=by
 have HLn:=Lib.hid (act_lines A n c b w hsl hnc hc (by omega))
 have hll:(linesS b).length≤1000000:=by have:=lines_count b; have:=hsl.1; omega
 have hls:∀ x∈linesS b,x.length≤1000000:=fun x hx=>by have:=line_short hx; have:=hsl.1; omega
 have HP:=Lib.hid (show sortLinesS b=nlAll (Lib.compact (((linesS b).map cutNl).mergeSort fun x y=>decide (x≤y))) from rfl)
 clear hsl hnc
 obtain ⟨l,hl⟩:∃ l,linesS b=l:=⟨_,rfl⟩
 rw [hl] at hll hls HP
 have HL0:=Lib.hid hl
 clear hl
 go_enter Tryz.func252,Tryz.ntmps252
 go_wp2_with fail
 refine HLn.out.mono ?_
 rintro e w1 ⟨v,rfl,hrow,hb1⟩
 rw [HL0.out] at hrow
 have own1:=OwnS.of hrow
 clear hrow HLn
 rcases own1.form with ⟨hnil,hv⟩ | ⟨g,cap,cur,hv,hgB,_,hcap1,hcap2,_,_⟩
 ·subst hnil
  subst hv
  have HE:=Lib.hid (fun (w':World) (hb:Below w.heap.size w w')=>(show SortPost b w (.returned (.slice none 0 0)) w' from ⟨_,rfl,by rw [HP.out,show nlAll (Lib.compact ((([]:List (List UInt8)).map cutNl).mergeSort fun x y=>decide (x≤y)))=[] by simp [nlAll,Lib.compact,Lib.compactUpTo]]; exact OwnB.nil _ _ _,hb⟩))
  clear own1
  go_wp2
  go_loop [12] (fun i=>i=.int .i64 0) (fun _=>0)
  case atStart=>rfl
  case round =>
   obtain rfl:=hrel
   go_wp2_with fail
   refine ((Tryz.slices_Sort_string_none none 0 w1).mono fun _ _ h=>(⟨h.1,h.2.symm⟩:_∧w1=_)).mono ?_
   rintro e w2' ⟨rfl,rfl⟩
   go_wp2_with fail
   refine ((Tryz.slices_Compact_string_empty none 0 w1).mono fun _ _ h=>(⟨h.1,h.2.symm⟩:_∧w1=_)).mono ?_
   rintro e w2' ⟨rfl,rfl⟩
   go_wp2
   go_loop [5,29] (fun v i=>v=.slice none 0 0∧i=.int .i64 0) (fun _ _=>0)
   case atStart=>exact ⟨rfl,rfl⟩
   case round =>
    obtain ⟨rfl,rfl⟩:=hrel
    go_wp2
    go_ret
    exact HE.out _ hb1
 ·subst hv
  obtain ⟨n0,hn0⟩:∃ n0,l.length=n0:=⟨_,rfl⟩
  have HN:=Lib.hid hn0
  have own0:OwnS w1 w.heap.size 9 (.slice (some ⟨g,0,none⟩) n0 cap) (cutUpTo l 0):=by rw [←hn0]; simpa [cutUpTo] using own1
  have hgl:=(own1.lt g rfl).2
  rw [hn0] at hcap1 hll ⊢
  clear own1 hn0
  have hm0:n0≤9223372036854775807:=by omega
  go_wp2
  go_loopw [12] (fun i wr=>∃ k:Nat,k≤n0∧i=.int .i64 k∧OwnS wr w.heap.size 9 (.slice (some ⟨g,0,none⟩) n0 cap) (cutUpTo l k)∧Below w.heap.size w wr∧g < wr.heap.size) (fun i _=>n0 - (intOf i).toNat)
  case atStart=>exact ⟨0,Nat.zero_le _,rfl,own0,hb1,hgl⟩
  case round =>
   clear own0 hgl
   obtain ⟨k,hk,rfl,hown,hb,hgl⟩:=hrel
   by_cases hlt:k < n0
   ·obtain ⟨x,hx⟩:=at_lt (l:=l) (k:=k) (by rw [HN.out]; exact hlt)
    have hkI:(k:Int) < (n0:Int):=by omega
    have c0:=hown.cell (cutUpTo_at hx)
    have f0:=hown.frozen k
    have hxl:=hls x (List.mem_of_getElem? hx)
    have HT:=Lib.hid (trimNl x wr (by omega))
    have hown2:=hown.set k (cutNl x)
    rw [cutUpTo_set hx] at hown2
    have HO:=Lib.hid hown2
    have hb2:=hb.setCell (p:=⟨g,k,none⟩) hgB (.string (strOf (cutNl x)))
    clear hown hx hown2
    go_wp2_with fail
    refine HT.out.mono ?_
    rintro e w2 ⟨rfl,rfl⟩
    go_wp2
    go_roundw
    case rel=>exact ⟨k + 1,by omega,by go_num,HO.out,hb2,by rw [size_setCell']; exact hgl⟩
    case measure=>simp [intOf]; omega
   ·obtain rfl:k=n0:=by omega
    have ho:=hown
    rw [←HN.out,cutUpTo_all] at ho
    obtain ⟨l1,hl1⟩:∃ l1,l1=l.map cutNl:=⟨_,rfl⟩
    rw [←hl1] at ho HP
    have hl1n:l1.length=k:=by rw [hl1,List.length_map]; exact HN.out
    have hl1s:∀ x∈l1,x.length≤1000000:=fun x hx=>by
     rw [hl1] at hx
     obtain ⟨y,hy,rfl⟩:=List.mem_map.1 hx
     have:=cutNl_len y
     have:=hls y hy
     omega
    have HN1:=Lib.hid hl1n
    rw [HN.out] at ho
    have ho1:=ho
    rw [←hl1n] at ho
    have hS:=Tryz.slices_Sort_string g 0 cap l1 wr ho.holds hgl (by omega)
    rw [hl1n] at hS
    have HS:=Lib.hid hS
    have hso:=fun n os=>ho.sorted (n:=n) (os:=os) (l1.mergeSort fun x y=>decide (x≤y)) (by simp)
    have HSO:=Lib.hid hso
    obtain ⟨l2,hl2⟩:∃ l2,l2=l1.mergeSort fun x y=>decide (x≤y):=⟨_,rfl⟩
    rw [←hl2] at HS HSO HP
    have hl2n:l2.length=k:=by rw [hl2]; simpa using hl1n
    have hl2s:∀ x∈l2,x.length≤1000000:=fun x hx=>hl1s x (by rw [hl2] at hx; exact (List.mergeSort_perm _ _).mem_iff.1 hx)
    clear hS hso hown hl1 hl2 ho ho1 hl1n
    go_wp2_with fail
    refine HS.out.mono ?_
    rintro e w2 ⟨rfl,nn,os,hw2⟩
    have hgr:wr.grownBy w2 (some g):=by rw [hw2]; exact grownBy_sorted _
    have own2:=HSO.out nn os
    rw [←hw2,HN1.out] at own2
    have hgl2:g < w2.heap.size:=Nat.lt_of_lt_of_le hgl hgr.size
    have hb2:=hb.grown hgr (Nat.le_trans hb.size (Nat.le_refl _)) fun j hj=>by cases hj; exact hgB
    have HN2:=Lib.hid hl2n
    have hC:=Tryz.slices_Compact_string g 0 cap l2 w2 own2.holds (by omega) (by omega)
    rw [hl2n] at hC
    have HC:=Lib.hid hC
    have hco:=fun q=>own2.cast hl2n |>.sorted (n:=q) (os:=#[]) (Lib.compact l2 ++ List.replicate (k - (Lib.compact l2).length) []) (by rw [List.length_append,List.length_replicate]; have:=compact_short l2; omega)
    have HCO:=Lib.hid hco
    have hl3s:∀ x∈Lib.compact l2,x.length≤1000000:=fun x hx=>hl2s x (compact_mem hx)
    have hl3n:(Lib.compact l2).length≤k:=by have:=compact_short l2; omega
    obtain ⟨l3,hl3⟩:∃ l3,l3=Lib.compact l2:=⟨_,rfl⟩
    rw [←hl3] at hl3s hl3n
    have HL3:=Lib.hid hl3
    rw [←hl3] at HC HP HCO
    clear hC hco own2 hw2 HSO HS hl2n hl3
    go_wp2_with fail
    refine HC.out.mono ?_
    rintro e w3 ⟨rfl,q,hw3⟩
    have hgr3:w2.grownBy w3 (some g):=by
     have:=grownBy_sorted (w:=w2) (g:=g) (n:=q) (os:=#[]) (l3 ++ List.replicate (k - l3.length) []).toArray
     rw [grow_empty] at this
     rw [hw3]; exact this
    have own3:=HCO.out q
    rw [grow_empty,←hw3] at own3
    have own3f:=(own3.cast (m:=(l3 ++ List.replicate (k - l3.length) []).length) (by rw [List.length_append,List.length_replicate]; have:=HN2.out; omega)).front
    have hgl3:g < w3.heap.size:=Nat.lt_of_lt_of_le hgl2 hgr3.size
    have hb3:=hb2.grown hgr3 (Nat.le_trans hb2.size (Nat.le_refl _)) fun j hj=>by cases hj; exact hgB
    have hz3:=hb3.size
    obtain ⟨i0,hi0,hz0,hz1,hz2⟩:=info_parts cl_byte_info
    have hm3:l3.length≤9223372036854775807:=by omega
    clear own3 hw3 hgr3 hgr HC HCO hb2 hb
    go_wp2
    go_loopw [5,29] (fun v i wr=>∃ (j:Nat) (o:List UInt8),j≤l3.length∧i=.int .i64 j∧o=nlAll (l3.take j)∧o.length≤j * 1000001∧OwnB wr w3.heap.size 5 v o∧Below w3.heap.size w3 wr) (fun _ i _=>l3.length - (intOf i).toNat)
    case atStart=>exact ⟨0,[],Nat.zero_le _,rfl,rfl,Nat.zero_le _,OwnB.nil _ _ _,Below.refl _ _⟩
    case round =>
     obtain ⟨j,o,hj,rfl,ho,hol,hown,hb⟩:=hrel
     have HO:=Lib.hid ho
     clear ho
     by_cases hlt:j < l3.length
     ·obtain ⟨x,hx⟩:=at_lt (l:=l3) (k:=j) hlt
      have hjI:(j:Int) < (l3.length:Int):=by omega
      have c0:=(own3f.call hb).cell hx
      have hxl:=hl3s x (List.mem_of_getElem? hx)
      obtain ⟨t,ht,htl,hcat⟩:=cat_op (strOf x) ⟨#[10]⟩ (by rw [strOf_size]; have:(⟨#[10]⟩:ByteArray).size=1:=rfl; omega)
      have hts:t.size≤1000001:=by rw [strOf_size] at ht; have:(⟨#[10]⟩:ByteArray).size=1:=rfl; omega
      have HX:=Lib.hid (show o ++ t.data.toList=nlAll (l3.take (j + 1)) by rw [nlAll_next hx,HO.out,htl.out]; rfl)
      have hzr:=hb.size
      have HG:=Lib.hid (fun g hg=>(hown.lt g hg).1)
      have HOw:=Lib.hid hown
      have hmul:(j + 1) * 1000001≤1000001 * 1000001:=Nat.mul_le_mul_right _ (by omega)
      clear hx hown HO htl
      go_wp2_with (
       at_builtin
       refine Lib.wpList_append_own_string _ rfl _ _ 75 9 rfl w3.heap.size 5 i0 Tryz.underlying75 Tryz.underlying9 hi0 hz0 hz1 hz2 _ o.length _ rfl HOw.out t rfl (by unfold maxLen; omega) (by omega) hzr ?_
       intro v' w4 hown4 hg4 _
       have hb4:=hb.grown hg4 hzr (fun g hg=>HG.out g hg)
       have hown5:OwnB w4 w3.heap.size 5 v' (o ++ t.data.toList):=by
        unfold OwnB
        rw [Lib.byteCells_append,List.length_append,show t.data.toList.length=t.size from Array.length_toList]
        exact hown4
       clear hown4 hg4 HOw HG)
      go_roundw
      case rel=>exact ⟨j + 1,_,by omega,by go_num,HX.out,by rw [List.length_append,show t.data.toList.length=t.size from Array.length_toList]; omega,hown5,hb4⟩
      case measure=>simp [intOf]; omega
     ·have HE:=Lib.hid (show SortPost b w (.returned u5) wr from ⟨_,rfl,by
       have e:o=sortLinesS b:=by rw [HP.out,HO.out,List.take_of_length_le (by omega)]
       rw [←e]
       exact hown.weaken hz3,(hb3.trans (hb.mono hz3))⟩)
      clear hown
      go_wp2
      go_ret
      exact HE.out
end Go.Proofs.Sm
namespace Go.Proofs.Sm
open Go.RowKit
theorem cl_str_info:(Tryz.prog.info? 9).map (fun i=>(i.zero,i.size,i.bytes))=some (some (.string ⟨#[]⟩),1,16):=by kernel_rfl
theorem strX_one {w:World} {S:Nat→Prop} {x:ByteArray} {r:List Value} (h:Rep.rep w S x r):∀ u∈r,u.oneCell'=true:=by
 obtain ⟨rfl,_⟩:=h
 intro u hu
 simp only [List.mem_cons,List.not_mem_nil,or_false] at hu
 subst hu; rfl
set_option maxRecDepth 100000 in
theorem clone_str (A:Option Addr) (n c:Nat) (l:List ByteArray) (w:World) (S:Nat→Prop) (hS:∀ k,S k→k < w.heap.size) (hsl:Sl w S A n l) (hn:n≤100000000) :
 Calls Tryz.prog 267 #[.slice A n c] w fun e w'=>∃ v,e=.returned v∧RowK w' w.heap.size 9 S v l∧Below w.heap.size w w':=by
 obtain ⟨i0,hi0,hz0,hz1,hz2⟩:=info_parts cl_str_info
 have hm:n≤9223372036854775807:=by omega
 have HL:=Lib.hid hsl.1
 have nil1:∀ (w:World) (a:Option Addr) (n c n' c':Nat),(binOp .eql 24 (.slice a n c) (.slice none n' c')).run Tryz.prog w=.ok (.bool a.isNone) w:=fun w a n c n' c'=>Lib.run_eql_slice_nil w _ _ a n c n' c' Tryz.underlying24
 rcases A with _ | ad
 ·have h0:l=[]:=by
   rcases Nat.eq_zero_or_pos n with h0 | h0
   ·subst h0; exact List.eq_nil_of_length_eq_zero hsl.1
   ·obtain ⟨_,_,h1,_⟩:=hsl.2.2 h0; cases h1
  subst h0
  go_enter Tryz.func267,Tryz.ntmps267
  go_wp2
  go_ret
  exact ⟨_,rfl,RowK.nil.more (fun _ h=>h.elim) hS,Below.refl _ _⟩
 ·obtain ⟨rows,hr1,hr2,hr3,hr4,hr5⟩:=sl_cells hsl (by show 0 < 1; decide)
  have HR2:=Lib.hid hr2
  have h1:∀ u∈rows.flatten,u.oneCell'=true:=fun u hu=>by
   obtain ⟨r,hr,hur⟩:=List.mem_flatten.1 hu
   obtain ⟨x,_,hx⟩:=hr5 r hr
   exact strX_one hx u hur
  have H1:=Lib.hid h1
  have HX:=Lib.hid (fun o=>show 0 < n→∃ a,some ad=some a∧∀ j u,rows.flatten[j]?=some u→(w.alloc o).cell? (a.add j)=some u from fun h=>by
   obtain ⟨a,ha,hc⟩:=hr4 h
   refine ⟨a,ha,fun j u hu=>?_⟩
   have h2:=hc j u hu
   have h3:=World.block_lt_of_cell? w _ h2
   exact (World.cell?_of_block ((fr_alloc (fr_refl w) o).block _ h3)).trans h2)
  have hown:(w.alloc (.cells #[] 9)).ownsRow w.heap.size 9 1 (.slice (some ⟨w.heap.size,0,none⟩) 0 0) 0 []:=World.ownsRow_lit w #[] 0 (Nat.le_refl _) (Nat.zero_le _) (by simp)
  have H3:=Lib.hid hr3
  have HR1:=Lib.hid hr1
  clear hr1 hr2 hr3 hr4 hr5 h1
  go_enter Tryz.func267,Tryz.ntmps267
  go_wp2_with (at_builtin; refine wpList_append_src rfl _ _ 24 rfl w.heap.size 9 i0 _ 1 16 Tryz.underlying24 hi0 hz0 hz1 hz2 rfl (by decide) _ 0 _ rfl hown (some ad) n c rows.flatten rfl H3.out (HX.out _) H1.out ?c3 ?c4 ?c5 ?_)
  case c3=>unfold maxLen; omega
  case c4=>omega
  case c5=>exact (fr_alloc (fr_refl w) _).size
  intro v' w5 hown5 hg5
  have hb5:=(fr_alloc (fr_refl w) (.cells #[] 9)).grown hg5 (fr_alloc (fr_refl w) _).size (fun k hk=>by
   have:w.heap.size=k:=by simpa [Value.ownBlock] using hk
   omega)
  have HV:=Lib.hid (rowK_of hS hb5 (by rw [HR1.out,HL.out]) HR2.out (by rw [HL.out]; exact hown5))
  clear hown5 hg5
  go_wp2
  go_ret
  exact ⟨_,rfl,HV.out,hb5⟩
theorem append_text_lies {P:Program} {w:World} (base:Nat) (t u ty e:TypeId) (i:TypeInfo) (ht:P.underlying t=some (.slice e)) (hu:P.underlying u=some .string) (hi:P.info? e=some i) (hz:i.zero=some (.int .u8 0))
 (hsize:i.size=1) (hby:i.bytes=1) (v:Value) (n:Nat) (xs:List Value) (hown:w.ownsRow base e 1 v n xs) (s:ByteArray) (h63:n + s.size≤maxLen) (hbytes:n + s.size≤140737488355328) (hbase:base≤w.heap.size) :
 ∃ v' w',(Builtin.append_ #[t,u] ty #[v,.string s]).run P w=.ok v' w'∧w'.ownsRow base e 1 v' (n + s.size) (xs ++ Lib.strCells s)∧w.grownBy w' v.ownBlock∧∀ k,v'.ownBlock=some k→v.ownBlock=some k∨w.heap.size≤k:=by
 obtain ⟨v',w',hr,h2,h3,h4⟩:=Lib.run_append_own_string (P:=P) w base t u ty e i ht hu hi hz hsize hby v n xs hown s h63 hbytes hbase
 refine ⟨v',w',hr,h2,h3,fun k hk=>?_⟩
 have hxl:xs.length=n:=by simpa using hown.1
 have hmax:n + s.size≤9223372036854775807:=h63
 rcases hown.2 with ⟨rfl,rfl⟩ | ⟨g,cap,cur,rfl,hbg,hg,hnc,hcm,hcs,htake⟩
 ·by_cases hm:s.size=0
  ·rw [h4.2 ⟨rfl,hm⟩] at hk
   cases hk
  ·have hr2:=run_append_nil_string (P:=P) w t u ty e i (.int .u8 0) ht hu hi hz s (by omega) (by omega) (by rw [hby]; omega)
   rw [hr2] at hr
   cases hr
   cases hk
   exact .inr (Nat.le_refl _)
 ·by_cases hroom:n + s.size≤cap
  ·have hcs':cur.size=cap:=by simpa using hcs
   have hr2:=Lib.run_append_room_string (P:=P) w t u ty e i ht hu hi hsize g n cap cur hg s hroom (by omega)
   rw [hr2] at hr
   cases hr
   exact .inl hk
  ·have hr2:=Lib.run_append_grow_string (P:=P) w t u ty e i (.int .u8 0) ht hu hi hz ⟨g,0,none⟩ n cap xs (by rw [hsize]; simpa using hxl) (World.ownsRow.cells hown (g:=g) rfl) s (by omega) (by omega) (by rw [hby]; exact growslice_fits (by omega) (by omega))
   rw [hr2] at hr
   cases hr
   cases hk
   exact .inr (Nat.le_refl _)
theorem step_append_text {P:Program} {w:World} {ops:Array Oper} {o:Oper} {a:Act} {K:Act→World→Prop} {Q:Exit→Act→World→Prop} {E:Prop} (hgd:o.guard=none) (sl x:Operand) (t u:TypeId)
 (ho:o.op=.call { callee:=.builtin .append,args:=#[sl,x],argTypes:=#[t,u] })
 (base:Nat) (e:TypeId) (i:TypeInfo) (ht:P.underlying t=some (.slice e)) (hu:P.underlying u=some .string) (hi:P.info? e=some i) (hz:i.zero=some (.int .u8 0))
 (hsize:i.size=1) (hby:i.bytes=1)
 (v:Value) (n:Nat) (xs:List Value) (hs:a.eval sl=v) (hown:w.ownsRow base e 1 v n xs) (s:ByteArray) (hx:a.eval x=.string s)
 (h63:n + s.size≤maxLen) (hbytes:n + s.size≤140737488355328) (hbase:base≤w.heap.size)
 (h:∀ v' w',w'.ownsRow base e 1 v' (n + s.size) (xs ++ Lib.strCells s)→w.grownBy w' v.ownBlock→(∀ k,v'.ownBlock=some k→v.ownBlock=some k∨w.heap.size≤k)→K (a.put o.dst v') w') :
 if Region.wanted o (yielded ops a.tmps)=true then Oper.wp P o a w K Q else E:=by
 have hw:Region.wanted o (yielded ops a.tmps)=true:=by simp [Region.wanted,hgd]
 rw [if_pos hw]
 obtain ⟨v',w',hr,h2,h3,h4⟩:=append_text_lies (P:=P) (w:=w) base t u o.type e i ht hu hi hz hsize hby v n xs hown s h63 hbytes hbase
 unfold Oper.wp execOp
 simp only [ho,resolve,invoke,builtin,Sem.run_bind,Sem.run_pure,Result.andThen_ok,List.map_toArray,List.map_cons,List.map_nil,hs,hx,hr]
 exact h v' w' h2 h3 h4
structure Xs (w:World) (S:Nat→Prop) (B g mi mw ml:Nat) (q:ActP) (a:ActionV) (F:List FileV) (M:Nat) (s:ExSt) (gx B2:Nat) (v:Value) (o:List UInt8) (r:Nat):Prop where
 wk:Wk w S B g mi mw ml q a F M s
 blk:Arr w gx 286 [.pointer (some ⟨g,0,none⟩),v,.int .i64 (r:Nat)]
 own:OwnB w B2 5 v o
 low:gx < B2∧B2≤w.heap.size
 sepx:∀ k,S k→k < gx
 gxs:g < gx∧mi < gx∧mw < gx∧ml < gx
def XX (ml gx:Nat) (v:Value):Nat→Prop:=fun k=>k=ml∨k=gx∨v.ownBlock=some k
section
variable {w w':World} {S:Nat→Prop} {B g mi mw ml:Nat} {q:ActP} {a:ActionV} {F:List FileV} {M:Nat} {s:ExSt} {gx B2:Nat} {v:Value} {o:List UInt8} {r:Nat}
theorem Xs.far (h:Xs w S B g mi mw ml q a F M s gx B2 v o r):∀ k,v.ownBlock=some k→B2≤k∧k < w.heap.size:=h.own.lt
theorem Xs.call (h:Xs w S B g mi mw ml q a F M s gx B2 v o r) (hb:Below w.heap.size w w'):Xs w' S B g mi mw ml q a F M s gx B2 v o r :=
 ⟨h.wk.call hb,h.blk.call hb,h.own.call hb,⟨h.low.1,Nat.le_trans h.low.2 hb.size⟩,h.sepx,h.gxs⟩
theorem Xs.work {M':Nat} {s':ExSt} (h:Xs w S B g mi mw ml q a F M s gx B2 v o r) (hk:Kp (fun k=>k=ml) w w') (hW:Wk w' S B g mi mw ml q a F M' s'):Xs w' S B g mi mw ml q a F M' s' gx B2 v o r :=
 ⟨hW,h.blk.keep (hk.block gx h.blk.lt (by have:=h.gxs.2.2.2; omega)),h.own.kp hk (fun k hk e=>by have:=h.gxs.2.2.2; have:=h.low.1; omega),⟨h.low.1,Nat.le_trans h.low.2 hk.size⟩,h.sepx,h.gxs⟩
theorem Xs.reads (h:Xs w S B g mi mw ml q a F M s gx B2 v o r):Xs (w.setCell ⟨gx,2,none⟩ (.int .i64 ((r + 1:Nat):Int))) S B g mi mw ml q a F M s gx B2 v o (r + 1):=by
 have hk:Kp (fun k=>k=gx) w (w.setCell ⟨gx,2,none⟩ (.int .i64 ((r + 1:Nat):Int))):=(Kp.refl (fun k=>k=gx) w).set (p:=⟨gx,2,none⟩) rfl _
 exact ⟨h.wk.keep hk (by have:=h.gxs; omega) (by have:=h.gxs; omega) (by have:=h.gxs; omega) (by have:=h.gxs; omega) (fun k hh e=>by have:=h.sepx k hh; omega),h.blk.set 2 _,h.own.kp hk (fun k hk e=>by have:=h.low.1; omega),⟨h.low.1,Nat.le_trans h.low.2 hk.size⟩,h.sepx,h.gxs⟩
theorem Xs.put {w1 w2:World} {v':Value} {t:List UInt8} (h:Xs w S B g mi mw ml q a F M s gx B2 v o r) (hb:Below w.heap.size w w1) (hown:w2.ownsRow B2 5 1 v' (o.length + t.length) (Lib.byteCells o ++ Lib.byteCells t)) (hg:w1.grownBy w2 v.ownBlock) :
 Xs (w2.setCell ⟨gx,1,none⟩ v') S B g mi mw ml q a F M s gx B2 v' (o ++ t) r∧Kp (XX ml gx v) w (w2.setCell ⟨gx,1,none⟩ v'):=by
 have hk2:Kp (fun k=>v.ownBlock=some k) w w2:=(Kp.of hb).grown hg fun k hk=>.inl hk
 have hk3:Kp (XX ml gx v) w (w2.setCell ⟨gx,1,none⟩ v'):=(hk2.more fun k hk=>.inr (.inr hk)).set (X:=XX ml gx v) (p:=⟨gx,1,none⟩) (.inr (.inl rfl)) v'
 have hX:∀ k,XX ml gx v k→k=ml∨gx≤k:=fun k hk=>by
  rcases hk with h1 | h1 | h1
  ·exact .inl h1
  ·exact .inr (Nat.le_of_eq h1.symm)
  ·have:=(h.far k h1).1; have:=h.low.1; exact .inr (by omega)
 have hk4:Kp (fun k=>gx≤k) w (w2.setCell ⟨gx,1,none⟩ v'):=(hk2.more fun k hk=>by have:=(h.far k hk).1; have:=h.low.1; omega).set (X:=fun k=>gx≤k) (p:=⟨gx,1,none⟩) (Nat.le_refl _) v'
 have hblk:Arr w2 gx 286 [.pointer (some ⟨g,0,none⟩),v,.int .i64 (r:Nat)]:=h.blk.keep (hk2.block gx h.blk.lt fun e=>by have:=(h.far gx e).1; have:=h.low.1; omega)
 have hown2:OwnB w2 B2 5 v' (o ++ t):=by unfold OwnB; rw [Lib.byteCells_append,List.length_append]; exact hown
 refine ⟨⟨h.wk.keep hk4 (by have:=h.gxs; omega) (by have:=h.gxs; omega) (by have:=h.gxs; omega) (by have:=h.gxs; omega) (fun k hh e=>by have:=h.sepx k hh; omega),hblk.set 1 _,hown2.keep (fun k hk=>heap_setCell_other w2 ⟨gx,1,none⟩ k v' (by have:=(hown2.lt k hk).1; have:=h.low.1; show k≠gx; omega)),⟨h.low.1,Nat.le_trans h.low.2 hk3.size⟩,h.sepx,h.gxs⟩,hk3⟩
end
def FilePost (S:Nat→Prop) (B g mi mw ml:Nat) (q:ActP) (a:ActionV) (F:List FileV) (M:Nat) (gx B2:Nat) (v:Value) (z:(List UInt8 × Nat × Int) × ExSt) (w:World) (e:Ending) (w':World):Prop :=
 e=.returned (.int .i64 z.1.2.2)∧∃ v',Xs w' S B g mi mw ml q a F (M + codeN z.1.2.2) z.2 gx B2 v' z.1.1 z.1.2.1∧Kp (XX ml gx v) w w'∧∀ k,v'.ownBlock=some k→v.ownBlock=some k∨w.heap.size≤k
end Go.Proofs.Sm
namespace Go.Proofs.Sm
open Go.RowKit Go.Sort
section
variable {w w':World} {S:Nat→Prop} {B g mi mw ml:Nat} {q:ActP} {a:ActionV} {F:List FileV} {M:Nat} {s:ExSt} {gx B2:Nat} {v:Value} {o:List UInt8} {r:Nat}
theorem FilePost.mk_ {z:(List UInt8 × Nat × Int) × ExSt} {w1:World} {v':Value} {o':List UInt8} {r':Nat} {c:Int} {s':ExSt} (hz:z=((o',r',c),s')) (h:Xs w1 S B g mi mw ml q a F (M + codeN c) s' gx B2 v' o' r') (hk:Kp (XX ml gx v) w w1) (hv:∀ k,v'.ownBlock=some k→v.ownBlock=some k∨w.heap.size≤k) (hb:Below w1.heap.size w1 w') :
 FilePost S B g mi mw ml q a F M gx B2 v z w (.returned (.int .i64 c)) w':=by
 subst hz
 exact ⟨rfl,v',h.call hb,hk.call hb,hv⟩
theorem Xs.up {M':Nat} (h:Xs w S B g mi mw ml q a F M s gx B2 v o r) (hM:M≤M'):Xs w S B g mi mw ml q a F M' s gx B2 v o r:={ h with wk:=h.wk.up hM }
theorem Xs.env (h:Xs w S B g mi mw ml q a F M s gx B2 v o r):Env2 w:=h.wk.env
theorem act_file_deep (inn:List ByteArray) (p:ByteArray) (A:Option Addr) (n c:Nat) (w:World) (h:Xs w S B g mi mw ml q a F M s gx B2 v o r) (hsl:Sl w (Off (XX ml gx v) w) A n inn) (hd:inn.any (eqS p)=true∨30 < n) :
 Calls Tryz.prog 248 #[.pointer (some ⟨gx,0,none⟩),.string p,.slice A n c] w (FilePost S B g mi mw ml q a F M gx B2 v ((o,r,4),s) w):=by
 have hm:n≤9223372036854775807:=hsl.2.1
 have HC:=Lib.hid (slices_ContainsStr A n c inn p w hsl.offLt)
 have HE:=Lib.hid (fun (w':World) (hb:Below w.heap.size w w')=>FilePost.mk_ (M:=M) (z:=((o,r,4),s)) rfl (h.up (Nat.le_add_right _ _)) (Kp.refl (XX ml gx v) w) (fun _ hk=>.inl hk) hb)
 clear h hsl
 cases hc:inn.any (eqS p) with
 | true =>
   rw [hc] at HC
   clear hd hc
   go_enter Tryz.func248,Tryz.ntmps248
   go_wp2_with fail
   refine HC.out.mono ?_
   rintro e w1 ⟨rfl,rfl⟩
   go_wp2
   go_ret
   exact HE.out _ (by repeat (first | exact fr_refl _ | refine fr_call ?_ (by assumption) | refine fr_alloc ?_ _ | refine fr_set ?_ (by simp) _ | refine Below.drew ?_ | refine below_drewN ?_ _))
 | false =>
   rw [hc] at HC
   have hn:(30:Int) < (n:Int):=by
    rcases hd with hd | hd
    ·rw [hc] at hd; cases hd
    ·omega
   clear hd hc
   go_enter Tryz.func248,Tryz.ntmps248
   go_wp2_with fail
   refine HC.out.mono ?_
   rintro e w1 ⟨rfl,rfl⟩
   go_wp2
   go_ret
   exact HE.out _ (by repeat (first | exact fr_refl _ | refine fr_call ?_ (by assumption) | refine fr_alloc ?_ _ | refine fr_set ?_ (by simp) _ | refine Below.drew ?_ | refine below_drewN ?_ _))
end
end Go.Proofs.Sm
