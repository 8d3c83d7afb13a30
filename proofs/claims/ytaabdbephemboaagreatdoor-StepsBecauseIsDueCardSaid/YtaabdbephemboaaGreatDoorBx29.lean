/- Words and walks that the claims share, part 29. -/
import Derived.Test.YtaabdbephemboaaGreatDoorBx5
import Derived.Test.YtaabdbephemboaaGreatDoorBx6
import Derived.Test.YtaabdbephemboaaGreatDoorBx11
import Derived.Test.YtaabdbephemboaaGreatDoorBx14
import Derived.Test.YtaabdbephemboaaGreatDoorBx16
import Derived.Test.YtaabdbephemboaaGreatDoorBx22
import Derived.Test.YtaabdbephemboaaGreatDoorBx23
import Derived.Test.YtaabdbephemboaaGreatDoorBx28
import Derived.Lib.ConvBytes
import Derived.Deep.RegionHeld3
namespace Go.Proofs.Sm
open Go.RowKit
def closErr (l:List RuleV) (ws:List ByteArray):Int:=if 500 < (ws.length:Int) then 2 else if idxAll l ws=none then 9 else 0
theorem clos_large {l:List RuleV} {ws:List ByteArray} (h:(500:Int) < (ws.length:Int)):closErr l ws=2:=by rw [closErr,if_pos h]
theorem clos_none {l:List RuleV} {ws:List ByteArray} (h:¬ (500:Int) < (ws.length:Int)) (h1:idxAll l ws=none):closErr l ws=9:=by rw [closErr,if_neg h,if_pos h1]
theorem clos_ok {l:List RuleV} {ws:List ByteArray} {ks:List Nat} (h:¬ (500:Int) < (ws.length:Int)) (h1:idxAll l ws=some ks):closErr l ws=0:=by rw [closErr,if_neg h,if_neg (by rw [h1]; simp)]
theorem idx_stop {l:List RuleV} {ws:List ByteArray} {k:Nat} {s:ByteArray} (hs:ws[k]?=some s) (h:idxName l s=none):idxAll l ws=none:=by
 obtain ⟨hk,he⟩:=List.getElem?_eq_some_iff.1 hs
 have h1:ws=ws.take k ++ s :: ws.drop (k + 1):=by
  rw [←he,←List.drop_eq_getElem_cons hk,List.take_append_drop]
 rw [h1]
 exact idxAll_none h
theorem idx_more {l:List RuleV} {ws:List ByteArray} {k j:Nat} {s:ByteArray} {ks:List Nat} (hs:ws[k]?=some s) (h:idxAll l (ws.take k)=some ks) (hj:idxName l s=some j):idxAll l (ws.take (k + 1))=some (ks ++ [j]):=by
 rw [List.take_add_one,hs,Option.toList_some,idxAll_snoc h,hj]; rfl
theorem numOr_some (j:Nat):numOr6 (some j)=(j:Int):=rfl
theorem numOr_none:numOr6 none=-1:=rfl
def ClosPost (l:List RuleV) (ws:List ByteArray) (w:World) (e:Ending) (w':World):Prop :=
 ∃ v,e=.returned (.tuple #[v,.int .i64 (closErr l ws)])∧(closErr l ws≠0→v=.slice none 0 0)∧(closErr l ws=0→∃ out,PlanIs l ws out∧RowK w' w.heap.size 3 (fun _=>False) v out)∧Below w.heap.size w w'
theorem ClosPost.bad {l:List RuleV} {ws:List ByteArray} {w w':World} {f:Int} (hf:closErr l ws=f) (h0:f≠0) (hb:Below w.heap.size w w'):ClosPost l ws w (.returned (.tuple #[.slice none 0 0,.int .i64 f])) w' :=
 ⟨_,by rw [hf],fun _=>rfl,fun h=>absurd (hf.symm.trans h) h0,hb⟩
theorem ClosPost.good {l:List RuleV} {ws:List ByteArray} {w w':World} {v:Value} {out:List Nat} (hf:closErr l ws=0) (hp:PlanIs l ws out) (hr:RowK w' w.heap.size 3 (fun _=>False) v out) (hb:Below w.heap.size w w'):ClosPost l ws w (.returned (.tuple #[v,.int .i64 0])) w' :=
 ⟨_,by rw [hf],fun h=>absurd hf h,fun _=>⟨out,hp,hr⟩,hb⟩
theorem dfs_bound {l:List RuleV} (hl:l.length≤500) (s:List Bool):∀ n,n≤500→((List.range n).map fun i=>if s[i]?=some true then 0 else 1 + (needAt (needsS l) i).length).sum≤n * 501
 | 0,_=>by simp
 | n + 1,h=>by
   have h1:=dfs_bound hl s n (by omega)
   have h2:=needAt_len l n
   rw [List.range_succ,List.map_append,List.sum_append]
   simp only [List.map_cons,List.map_nil,List.sum_cons,List.sum_nil,Nat.add_zero]
   rw [Nat.succ_mul]
   refine Nat.add_le_add h1 ?_
   split
   ·exact Nat.zero_le _
   ·clear h1; omega
theorem dfs_start {l:List RuleV} (hl:l.length≤500) (s:List Bool) (todo:List Nat) (ht:todo.length≤500):dfsM (needsS l) s todo≤251001:=by
 have h1:=dfs_bound hl s (needsS l).length (by rw [needsS_length]; exact hl)
 rw [needsS_length] at h1
 rw [dfsM,needsS_length]
 have h2:l.length * 501≤250500:=Nat.mul_le_mul_right 501 hl
 omega
theorem todo_le (g:Graph) (s:List Bool) (todo:List Nat):todo.length≤dfsM g s todo:=by unfold dfsM; omega
theorem dfsM_len (g:Graph) (s:List Bool) {t t':List Nat} (h:t.length=t'.length):dfsM g s t=dfsM g s t':=by unfold dfsM; rw [h]
theorem rules_sorted {l:List RuleV} (h:checkRulesS l=0):Sorted (asFiles l)∧l.length≤500:=by
 unfold checkRulesS at h
 split at h
 ·cases h
 rename_i h0
 split at h
 ·rename_i h1; exact absurd h h1
 rename_i h1
 exact ⟨sorted_rules (by simpa using h1),by omega⟩
theorem list_pop {α:Type} {l:List α} (h:0 < l.length):∃ t x,l=t ++ [x]:=⟨l.dropLast,l.getLast (by intro e; subst e; simp at h),(List.dropLast_concat_getLast _).symm⟩
theorem nat_one {w:World} {S:Nat→Prop} {x:Nat} {r:List Value} (h:Rep.rep w S x r):∀ u∈r,u.oneCell'=true:=by
 obtain ⟨rfl,_⟩:=h
 intro u hu
 simp only [List.mem_cons,List.not_mem_nil,or_false] at hu
 subst hu; rfl
theorem flat_nat {w:World} {S S':Nat→Prop} {x:Nat} {vs:List Value} (h:Rep.rep w S x vs):Rep.rep w S' x vs:=h
set_option maxHeartbeats 0 in
set_option maxRecDepth 100000 in
theorem steps_closure (P0 g:Nat) (A B:Option Addr) (n c m d:Nat) (l:List RuleV) (ws:List ByteArray) (w:World) (hpl:PlanAt P0 w g A n c l) (hsl:Sl w (Lt w.heap.size) A n l) (hc0:checkRulesS l=0) (hws:Sl w (Lt w.heap.size) B m ws) :
 Calls Tryz.prog 59 #[.pointer (some ⟨g,0,none⟩),.slice B m d] w (ClosPost l ws w):=by
 obtain ⟨b0,hb0,hbz0,hbz1,hbz2⟩:=info_parts bool_info
 obtain ⟨i0,hi0,hz0,hz1,hz2⟩:=info_parts int_info
 have hm:m≤9223372036854775807:=hws.2.1
 have HL:=Lib.hid hsl.1
 have HW:=Lib.hid hws.1
 obtain ⟨hsort,hl5⟩:=rules_sorted hc0
 have HC0:=Lib.hid hc0
 have HSo:=Lib.hid hsort
 have hn5:n≤500:=by have:=HL.out; omega
 obtain ⟨_,mp,nn,D,dd,hP,_,hd1,hd2,hnd⟩:=hpl
 have hgl:=hP.lt
 clear hc0 hsort
 by_cases hbig:(500:Int) < (m:Int)
 ·have HV:=Lib.hid (clos_large (l:=l) (ws:=ws) (by rw [HW.out]; exact hbig))
  go_enter Tryz.func59,Tryz.ntmps59
  go_wp2
  go_ret2
  exact ClosPost.bad HV.out (by decide) (Below.refl _ _)
 have HB:=Lib.hid (show ¬ (500:Int) < (ws.length:Int) by rw [HW.out]; exact hbig)
 obtain ⟨q,hq⟩:∃ q,q=w.heap.size:=⟨_,rfl⟩
 have p0:=hP.cell (i:=0) rfl
 go_enter Tryz.func59,Tryz.ntmps59
 go_wp2_with (at_make; refine wpList_make_full _ rfl _ _ 99 rfl w.heap.size 4 b0 (.bool false) 1 Tryz.underlying99 hb0 hbz0 hbz1 .i64 .i64 (n:Nat) (n:Nat) n rfl rfl rfl rfl (by rw [hbz2]; omega) (by unfold maxLen; omega) (Nat.le_refl _) ?_; intro w1 hown hg1)
 rw [show ((.bool false:Value).cells)=#[.bool false] from rfl,made_cells] at hown
 have ha1:=Arr.of_full hown
 have hb1:Below w.heap.size w w1:=(Below.refl _ w).grown hg1 (Nat.le_refl _) fun k hk=>by cases hk
 have hz1':w.heap.size + 1≤w1.heap.size:=ha1.lt
 have ha1':Arr w1 w.heap.size 4 ((List.replicate n false).map Value.bool):=by rw [List.map_replicate]; exact ha1
 clear hown hg1 ha1 p0
 have hqw:w.heap.size≤q:=by omega
 rw [←hq] at ha1' hz1'
 go_wp2
 rw [←hq]
 clear hq
 go_loopw [7,25] (fun v iv wx=>∃ (k:Nat) (ks:List Nat),k≤m∧iv=.int .i64 k∧idxAll l (ws.take k)=some ks∧ks.length≤k∧RowK wx (q + 1) 3 (fun _=>False) v ks∧Arr wx q 4 ((List.replicate n false).map Value.bool)∧q + 1≤wx.heap.size∧Below w.heap.size w wx) (fun _ iv _=>m - (intOf iv).toNat)
 case atStart=>exact ⟨0,[],Nat.zero_le _,rfl,rfl,Nat.le_refl _,RowK.nil,ha1',hz1',hb1⟩
 case round =>
  clear ha1' hz1' hb1
  obtain ⟨k,ks,hk,rfl,hix,hkl,hrow,ha,hz,hbel⟩:=hrel
  have HI:=Lib.hid hix; clear hix
  by_cases hlt:k < m
  ·obtain ⟨b1,o1,p,rfl,_,hp,hps,cp⟩:=(hws.keep (keep_lt hbel)).str hlt
   have HP:=Lib.hid hp; clear hp
   have hkI:(k:Int) < (m:Int):=by omega
   have pc:=(hbel.cell (p:=⟨g,0,none⟩) hgl).trans (hP.cell (i:=0) rfl)
   go_wp2_with fail
   refine (steps_find g A n c l p wr pc (sl_call hsl hbel (Nat.le_refl _)) HSo.out hn5).mono ?_
   rintro e w3 ⟨rfl,hb3⟩
   have hbel3:=fr_call hbel hb3
   cases hj:idxName l p with
   | none =>
     have HV:=Lib.hid (clos_none (by have:=HB.out; omega) (idx_stop HP.out hj))
     rw [numOr_none]
     clear hj
     go_wp2
     go_ret2
     exact ClosPost.bad HV.out (by decide) hbel3
   | some j =>
     have hjn:j < n:=by have:=(idxName_some hj).1; rwa [HL.out] at this
     have HIx:=Lib.hid (idx_more HP.out HI.out hj)
     rw [numOr_some]
     have hj0:¬ (j:Int) < 0:=by omega
     clear hj
     have row3:=hrow.call hb3
     have ha3:=ha.call hb3
     have hz3:=hb3.size
     have hW9:Below w3.heap.size w3 (w3.alloc (.cells #[.int .i64 (j:Int)] 3)):=fr_alloc (fr_refl w3) _
     obtain ⟨_,rows,hrows,hown9,hrep⟩:=row3.call hW9
     have ha9:=ha3.call hW9
     have hb9:=fr_call hbel3 hW9
     have hoth:∀ b,Value.ownBlock u7=some b→q + 1≤b:=fun b hb=>(hrow.kind b hb).1
     have H9:=Lib.hid hown9
     have HRp:=Lib.hid hrep
     clear hrow row3 hown9 hrep ha ha3
     go_wp2_with (at_builtin; refine wpList_append_lies _ rfl _ _ 87 rfl (q + 1) 3 i0 _ 1 8 Tryz.underlying87 hi0 hz0 hz1 hz2 rfl (by decide) _ ks.length _ rfl H9.out ⟨w3.heap.size,0,none⟩ 1 1 [.int .i64 (j:Int)] rfl rfl (new_cells w3 #[_] _) (fun u hu=>(by simp only [List.mem_cons,List.mem_nil_iff,or_false] at hu; subst hu; rfl)) (by decide) (by unfold maxLen; omega) (by omega) (by rw [World.size_alloc]; omega) _ rfl ?_)
     intro g' cap w5 hown5 hg5 hat5 hlt5
     have row5:=RowK.append (x:=j) (r:=[.int .i64 (j:Int)]) (fun k hh=>hh.elim) hrows HRp.out ⟨rfl,by unfold maxLen; omega⟩ (fun _ _ hh=>hh) hg5 hown5
     have ha5:=ha9.grown hg5 fun e=>by have:=hoth q e; omega
     have hb5:=hb9.grown hg5 (by have:=hbel3.size; rw [World.size_alloc]; omega) fun b hb=>by have:=hoth b hb; omega
     have hz5:=hg5.size
     rw [World.size_alloc] at hz5
     have HR5:=Lib.hid row5
     have HA5:=Lib.hid ha5
     clear row5 ha5 hown5 hg5 hat5 H9 HRp ha9 hb9 hW9
     go_wp2
     go_roundw
     case rel=>exact ⟨k + 1,ks ++ [j],by omega,by go_num,HIx.out,by rw [List.length_append,List.length_singleton]; omega,HR5.out,HA5.out,by omega,hb5⟩
     case measure=>simp [intOf]; omega
  ·rw [List.take_of_length_le (by rw [HW.out]; omega)] at HI
   have HIlt:=Lib.hid (idxAll_lt HI.out)
   have hD0:Dfs (needsS l) ks (List.replicate n false) ks:=by
    have:=Dfs.start (g:=needsS l) (wanted:=ks) (by rw [needsS_length]; exact HIlt.out)
    rwa [needsS_length,HL.out] at this
   have hM0:=dfs_start hl5 (List.replicate n false) ks (by omega)
   have hw:=needs_within l
   have hgn:(needsS l).length=n:=by rw [needsS_length]; exact HL.out
   have HGn:=Lib.hid hgn; clear hgn
   have hmz:ks.length≤500:=by omega
   go_wp2
   go_loopw [7] (fun v wx=>∃ (s:List Bool) (todo:List Nat),RowK wx (q + 1) 3 (fun _=>False) v todo∧Arr wx q 4 (s.map Value.bool)∧Dfs (needsS l) ks s todo∧dfsM (needsS l) s todo≤251001∧q + 1≤wx.heap.size∧Below w.heap.size w wx) (fun v wx=>dfsM (needsS l) (boolsAt wx q) (List.replicate (lenOf v) 0))
   case atStart=>exact ⟨_,ks,hrow,ha,hD0,hM0,hz,hbel⟩
   case round =>
    clear hrow ha hD0 hM0 hz hbel hkl
    obtain ⟨s,todo,hrow,ha,hD,hM,hz,hbel⟩:=hrel
    have HD:=Lib.hid hD; clear hD
    have hsl2:s.length=n:=by rw [HD.out.len]; exact HGn.out
    have HSL:=Lib.hid hsl2; clear hsl2
    have htl:=todo_le (needsS l) s todo
    have HBo:=Lib.hid ha.bools
    rcases Nat.eq_zero_or_pos todo.length with h0 | h0
    ·obtain rfl:=List.eq_nil_of_length_eq_zero h0
     obtain ⟨O,oc,rfl⟩:=hrow.form
     have hC:=HD.out.done
     have HC:=Lib.hid hC; clear hC
     have hin:Sl wr (Lt wr.heap.size) (some ⟨q,0,none⟩) n s:=by
      have:=ha.sl (α:=Bool) (l:=s) rfl (by simp) (by rw [HSL.out]; unfold maxLen; omega) fun _ x v hx hv=>by
       rw [List.getElem?_map,hx] at hv
       cases hv; rfl
      rwa [HSL.out] at this
     have hP2:=hP.call hbel
     have c0:=hP2.cell (i:=0) rfl
     have c2:=hP2.cell (i:=2) rfl
     clear htl h0 hM
     go_wp2_with fail
     refine (steps_order_some g A D ⟨q,0,none⟩ n c dd n (needsS l) s wr hP2.lt c0 c2 (sl_call hnd hbel (Nat.le_refl _)) hin (needs_within l) (needs_nodup l) (by omega)).mono ?_
     rintro e w5 ⟨v5,rfl,hrow5,hb5⟩
     have hb05:=fr_call hbel hb5
     have hpart:=HC.out.part HC0.out
     rw [outOf,if_pos hpart] at hrow5
     rw [hpart]
     have HE:=Lib.hid (ClosPost.good (clos_ok (by have:=HB.out; omega) HI.out) ⟨ks,s,HI.out,HC.out,rfl⟩ (hrow5.weaken (by have:=hbel.size; omega)) hb05)
     clear hpart hrow5 c0 c2 hin hb5
     go_wp2
     go_ret2
     exact HE.out
    ·obtain ⟨td,k2,rfl⟩:=list_pop h0
     obtain ⟨O,oc,hv⟩:=hrow.form
     rw [List.length_append,List.length_singleton] at hv htl
     obtain ⟨b1,rfl⟩:∃ b1,O=some ⟨b1,0,none⟩:=by
      obtain ⟨_,rows,_,hown,_⟩:=hrow
      rcases hown.2 with ⟨_,e1⟩ | ⟨b1,cap',cur,e1,_⟩
      ·rw [List.length_append,List.length_singleton] at e1; omega
      ·rw [hv,List.length_append,List.length_singleton] at e1; cases e1; exact ⟨b1,rfl⟩
     subst hv
     have hpop:=hrow.pop
     obtain ⟨A7,c7,e7,h7a,hoc,hs7⟩:=hrow.sl
     rw [List.length_append,List.length_singleton] at e7 hs7 h7a
     cases e7
     obtain ⟨_,_,x7,e8,_,hx7,hxm,c8⟩:=hs7.nat (k:=td.length) (by omega)
     cases e8
     rw [List.getElem?_append_right (Nat.le_refl _),Nat.sub_self] at hx7
     obtain rfl:k2=x7:=by simpa using hx7
     rw [Nat.zero_add] at c8
     have hkn:k2 < n:=by have:=HD.out.lt k2 (by simp); rw [HGn.out] at this; exact this
     have hkI:(k2:Int) < (n:Int):=by omega
     obtain ⟨sv,hsv⟩:=at_lt (l:=s) (k:=k2) (by rw [HSL.out]; exact hkn)
     have cs:=ha.cell (i:=k2) (v:=.bool sv) (by rw [List.getElem?_map,hsv]; rfl)
     have htd:td.length≤251000:=by omega
     have hu1:(0:Int) < (td.length:Int) + 1:=by omega
     clear hx7 hrow hs7 h0
     have hmx:oc≤9223372036854775807:=hoc
     have e1:((td.length:Int) + 1 - 1)=(td.length:Int):=by omega
     have hgq:g < q:=by omega
     cases sv
     ·have hset:=ha.set k2 (.bool true)
      rw [show (s.map Value.bool).set k2 (.bool true)=(s.set k2 true).map Value.bool by rw [List.map_set]] at hset
      have hf:=ha.frozen k2
      have hDt:=HD.out.take hw
      have hMt:=dfsM_take (g:=needsS l) (s:=s) (todo:=td) (k:=k2) HD.out.len (by rw [HGn.out]; exact hkn) hsv
      have HDt:=Lib.hid hDt
      have HMt:=Lib.hid hMt
      have HM:=Lib.hid hM
      obtain ⟨W2,hW2⟩:∃ W2,W2=wr.setCell ⟨q,k2,none⟩ (.bool true):=⟨_,rfl⟩
      rw [←hW2] at hset
      have hrow2:RowK W2 (q + 1) 3 (fun _=>False) (.slice (some ⟨b1,0,none⟩) td.length oc) td:=by
       rw [hW2]
       exact hpop.keep (by simp) (fun _ hh=>hh.elim) fun b hb=>heap_setCell_other wr ⟨q,k2,none⟩ b _ (by have:=(hpop.kind b hb).1; show b≠q; omega)
      have hz2':q + 1≤W2.heap.size:=by rw [hW2,size_setCell']; exact hz
      have hb2:Below w.heap.size w W2:=by rw [hW2]; exact hbel.setCell (p:=⟨q,k2,none⟩) hqw _
      have hP2:=hP.call hb2
      have c2:=hP2.cell (i:=2) rfl
      obtain ⟨bD,oD,r,A8,n8,c8',rfl,hbD,hr8,hn8,hc8,hrow8,cD⟩:=(hnd.keep (keep_lt hb2)).row hkn
      have HR8:=Lib.hid (need_row hr8)
      have hl8:(needAt (needsS l) k2).length=n8:=by rw [HR8.out]; exact hrow8.1
      have h85:n8≤500:=by have:=needAt_len l k2; omega
      have HL8:=Lib.hid hl8
      obtain ⟨rows2,y1,y2,y3,y4,y5⟩:=sl_cells hrow8 (by decide)
      have Y2:=Lib.hid y2
      have Y1:=Lib.hid y1
      have Y3:=Lib.hid y3
      have Y4:=Lib.hid y4
      have Y5:=Lib.hid (show ∀ u∈rows2.flatten,u.oneCell'=true from fun u hu=>by
       obtain ⟨rr,hrr,hur⟩:=List.mem_flatten.1 hu
       obtain ⟨xx,_,hxx⟩:=y5 rr hrr
       exact nat_one hxx u hur)
      obtain ⟨_,rows,hrows,hown9,hrep⟩:=id hrow2
      have H9:=Lib.hid hown9
      have HRp:=Lib.hid hrep
      have hoth:∀ b,Value.ownBlock (.slice (some ⟨b1,0,none⟩) td.length oc)=some b→q + 1≤b:=fun b hb=>(hrow2.kind b hb).1
      have HSet:=Lib.hid hset
      clear hr8 hl8 hset hDt hMt hM y1 y2 y3 y4 y5 hown9 hrep hrow2 hP2 hsv htl ha
      subst hW2
      go_wp2_with (at_builtin; refine wpList_append_src rfl _ _ 87 rfl (q + 1) 3 i0 _ 1 8 Tryz.underlying87 hi0 hz0 hz1 hz2 rfl (by decide) _ td.length _ rfl H9.out A8 n8 c8' rows2.flatten rfl Y3.out Y4.out Y5.out ?c3 ?c4 ?c5 ?_)
      case c3=>unfold maxLen; omega
      case c4=>omega
      intro v9 w9 hown9 hg9
      have row9:=RowK.appendAll (l2:=needAt (needsS l) k2) (K:=fun _=>False) (rows2:=rows2) (fun _ hh=>hh.elim) hrows HRp.out (by rw [Y1.out,HL8.out]) (fun i x r hx hr=>flat_nat (Y2.out i x r (by rw [←HR8.out]; exact hx) hr)) (fun _ _ hh=>hh) hg9 (by rw [HL8.out]; exact hown9)
      have ha9:=HSet.out.grown hg9 fun e=>by have:=hoth q e; omega
      have hb9:=hb2.grown hg9 (by omega) fun b hb=>by have:=hoth b hb; omega
      have hz9:=hg9.size
      have HR9:=Lib.hid row9
      have HA9:=Lib.hid ha9
      obtain ⟨A9,c9,hv9⟩:=row9.form
      have HV9:=Lib.hid hv9
      clear row9 ha9 hown9 hg9 hv9 H9 HRp Y1 Y2 Y3 Y4 Y5 c2 cD hrow8
      go_wp2
      go_roundw
      case rel=>exact ⟨s.set k2 true,td ++ needAt (needsS l) k2,HR9.out,HA9.out,HDt.out,Nat.le_trans (Nat.le_of_lt HMt.out) HM.out,by omega,hb9⟩
      case measure =>
       rw [HBo.out,HA9.out.bools,HV9.out]
       simp only [lenOf]
       rw [dfsM_len (needsS l) (s.set k2 true) (t':=td ++ needAt (needsS l) k2) (by simp),dfsM_len (needsS l) s (t:=List.replicate (td.length + 1) 0) (t':=td ++ [k2]) (by simp)]
       exact HMt.out
     ·have HDs:=Lib.hid (HD.out.skip hsv)
      have HMs:=Lib.hid (show dfsM (needsS l) s td≤251001 from Nat.le_trans (Nat.le_of_lt (dfsM_skip (needsS l) s td k2)) hM)
      have HA:=Lib.hid ha
      have HPp:=Lib.hid hpop
      clear hsv hM ha hpop htl
      go_wp2
      go_roundw
      case rel=>exact ⟨s,td,HPp.out,HA.out,HDs.out,HMs.out,hz,hbel⟩
      case measure =>
       rw [HBo.out]
       simp only [lenOf]
       rw [dfsM_len (needsS l) s (t:=List.replicate td.length 0) (t':=td) (by simp),dfsM_len (needsS l) s (t:=List.replicate (td.length + 1) 0) (t':=td ++ [k2]) (by simp)]
       exact dfsM_skip (needsS l) s td k2
end Go.Proofs.Sm
namespace Go.Proofs.Sm
open Go.RowKit
theorem planErr_bad {l:List RuleV} {ws:List ByteArray} (h:checkRulesS l≠0):planErr l ws=checkRulesS l:=by rw [planErr,if_pos h]
theorem planErr_clos {l:List RuleV} {ws:List ByteArray} (h:checkRulesS l=0):planErr l ws=closErr l ws:=by rw [planErr,if_neg (by rw [h]; decide),closErr]
end Go.Proofs.Sm
namespace Go.Proofs.Sm
open Go.RowKit
set_option maxRecDepth 100000 in
theorem indexFuncN (g:Nat) (eg:∀ args w,(callFunc g args).run Tryz.prog w=.ok (.enter g args) w) (v:Value) (p:Nat→Bool) (A:Option Addr) (n c:Nat) (l:List Nat) (w:World) (hsl:Sl w (Lt w.heap.size) A n l)
 (hp:∀ x,x≤maxLen→x∈l→Calls Tryz.prog g #[.int .i64 (x:Int),v] w fun e w'=>e=.returned (.bool (p x))∧w=w') :
 Calls Tryz.prog 84 #[.slice A n c,.func (.func g) #[] #[v]] w fun e w'=>∃ r:Int,e=.returned (.int .i64 r)∧decide (0≤r)=l.any p∧w=w':=by
 go_enter Tryz.func84,Tryz.ntmps84
 have hm:n≤9223372036854775807:=hsl.2.1
 have HP:=Lib.hid hp; clear hp
 go_wp2
 go_loop [5,8] (fun _ i=>∃ k:Nat,k≤n∧i=.int .i64 k∧(l.take k).any p=false) (fun _ i=>n - (intOf i).toNat)
 case atStart=>exact ⟨0,Nat.zero_le _,rfl,rfl⟩
 case round =>
  obtain ⟨k,hk,rfl,hall⟩:=hrel
  have H:=Lib.hid hall; clear hall
  by_cases hlt:k < n
  ·first | obtain ⟨b,o,x,rfl,hb,hx,hxs,c0⟩:=hsl.str hlt | obtain ⟨b,o,x,rfl,hb,hx,hxs,c0⟩:=hsl.nat hlt
   have Hx:=Lib.hid hx; clear hx
   cases hq:p x
   ·have HS:=Lib.hid (any_step (p:=p) Hx.out H.out hq)
    go_wp2_with fail
    refine (HP.out x hxs (List.mem_of_getElem? Hx.out)).mono ?_
    rintro e w1 ⟨rfl,rfl⟩
    rw [hq]
    go_wp2
    go_round
    case rel=>exact ⟨k + 1,by omega,by go_num,HS.out⟩
    case measure=>simp [intOf]; omega
   ·have HS:=Lib.hid (any_yes (p:=p) Hx.out hq)
    go_wp2_with fail
    refine (HP.out x hxs (List.mem_of_getElem? Hx.out)).mono ?_
    rintro e w1 ⟨rfl,rfl⟩
    rw [hq]
    go_wp2
    go_ret
    exact ⟨k,rfl,by rw [HS.out]; simp,rfl⟩
  ·have HS:=Lib.hid (any_end (by rw [hsl.1]; omega) H.out)
   go_wp2
   go_ret
   exact ⟨-1,rfl,by rw [HS.out]; rfl,rfl⟩
theorem containsFuncN (g:Nat) (eg:∀ args w,(callFunc g args).run Tryz.prog w=.ok (.enter g args) w) (v:Value) (p:Nat→Bool) (A:Option Addr) (n c:Nat) (l:List Nat) (w:World) (hsl:Sl w (Lt w.heap.size) A n l)
 (hp:∀ x,x≤maxLen→x∈l→Calls Tryz.prog g #[.int .i64 (x:Int),v] w fun e w'=>e=.returned (.bool (p x))∧w=w') :
 Calls Tryz.prog 48 #[.slice A n c,.func (.func g) #[] #[v]] w fun e w'=>e=.returned (.bool (l.any p))∧w'=w:=by
 have HC:=Lib.hid (indexFuncN g eg v p A n c l w hsl hp)
 clear hp eg
 go_enter Tryz.func48,Tryz.ntmps48
 go_wp2_with (go_at_call 84; refine HC.out.mono ?_; rintro e w1 ⟨r,rfl,hr,rfl⟩; have HR:=Lib.hid hr; clear hr)
 go_ret
 exact ⟨ret_bool HR.out,rfl⟩
end Go.Proofs.Sm
namespace Go.Proofs.Sm
open Go.RowKit
theorem row_new (w:World) (t:TypeId) (l:List ByteArray) (hl:l.length≤maxLen) (hs:∀ x∈l,x.size≤maxLen) :
 Sl (w.alloc (.cells (l.map Value.string).toArray t)) (Lt (w.alloc (.cells (l.map Value.string).toArray t)).heap.size) (some ⟨w.heap.size,0,none⟩) l.length l :=
 (Sl.new_strs hl hs).more (lt_mono (by simp))
theorem line_two (x y:ByteArray):lineW [x,y]=x.data.toList ++ [32] ++ y.data.toList ++ [10]:=by rw [lineW,joinS_two]
theorem line_three (x y z:ByteArray):lineW [x,y,z]=x.data.toList ++ [32] ++ y.data.toList ++ [32] ++ z.data.toList ++ [10]:=by rw [lineW,joinS_three]
theorem line_call2 (g:Nat) (L:List UInt8) (x y:ByteArray) (W:World) (hB:Bld W g L) (hx:x.size≤20000) (hy:y.size≤20000) (hlen:L.length≤2000000) :
 Calls Tryz.prog 107 #[.slice (some ⟨W.heap.size,0,none⟩) 2 2,.pointer (some ⟨g,0,none⟩)] (W.alloc (.cells #[.string x,.string y] 9)) fun e w'=>e=.returned (.tuple #[])∧Bld w' g (L ++ (x.data.toList ++ [32] ++ y.data.toList ++ [10]))∧Wrote g W w':=by
 have hxs:x.data.toList.length=x.size:=by simp
 have hys:y.data.toList.length=y.size:=by simp
 have hl:(joinS [x,y]).length≤50000:=by rw [joinS_two]; simp only [List.length_append,List.length_cons,List.length_nil,hxs,hys]; omega
 refine (act_text1 g L _ 2 2 [x,y] _ (hB.alloc _) (row_new W 9 [x,y] (by show 2≤maxLen; decide) (by intro z hz; simp at hz; unfold maxLen; rcases hz with rfl | rfl <;> omega)) (Nat.le_refl _) (by decide) (by omega)).mono ?_
 rintro e w1 ⟨rfl,hB1,hw⟩
 rw [line_two] at hB1
 exact ⟨rfl,hB1,(Wrote.of_below ((Below.refl _ _).alloc (Nat.le_refl _) _) (Nat.le_of_lt hB.lt)).trans hw⟩
theorem line_call3 (g:Nat) (L:List UInt8) (x y z:ByteArray) (W:World) (hB:Bld W g L) (hx:x.size≤20000) (hy:y.size≤20000) (hz:z.size≤20000) (hlen:L.length≤2000000) :
 Calls Tryz.prog 107 #[.slice (some ⟨W.heap.size,0,none⟩) 3 3,.pointer (some ⟨g,0,none⟩)] (W.alloc (.cells #[.string x,.string y,.string z] 9)) fun e w'=>e=.returned (.tuple #[])∧Bld w' g (L ++ (x.data.toList ++ [32] ++ y.data.toList ++ [32] ++ z.data.toList ++ [10]))∧Wrote g W w':=by
 have hxs:x.data.toList.length=x.size:=by simp
 have hys:y.data.toList.length=y.size:=by simp
 have hzs:z.data.toList.length=z.size:=by simp
 have hl:(joinS [x,y,z]).length≤100000:=by rw [joinS_three]; simp only [List.length_append,List.length_cons,List.length_nil,hxs,hys,hzs]; omega
 refine (act_text1 g L _ 3 3 [x,y,z] _ (hB.alloc _) (row_new W 9 [x,y,z] (by show 3≤maxLen; decide) (by intro u hu; simp at hu; unfold maxLen; rcases hu with rfl | rfl | rfl <;> omega)) (Nat.le_refl _) (by decide) (by omega)).mono ?_
 rintro e w1 ⟨rfl,hB1,hw⟩
 rw [line_three] at hB1
 exact ⟨rfl,hB1,(Wrote.of_below ((Below.refl _ _).alloc (Nat.le_refl _) _) (Nat.le_of_lt hB.lt)).trans hw⟩
theorem len_cons {l:List UInt8} {m:Nat} (h:l.length≤m) {l':List UInt8} {m':Nat} (h':l'.length≤m'):(l ++ l').length≤m + m':=by rw [List.length_append]; omega
theorem ret_strL {l l':List UInt8} (h:l=l'):Ending.returned (.string ⟨l.toArray⟩)=Ending.returned (.string ⟨l'.toArray⟩):=by rw [h]
set_option maxHeartbeats 4000000 in
set_option maxRecDepth 100000 in
theorem act_text (a:ActionV) (A:Option Addr) (n n':Nat) (B:Option Addr) (m m':Nat) (C:Option Addr) (p p':Nat) (D:Option Addr) (q q':Nat) (w:World) (hE:Env2 w) (ha:ActIs w a A n B m C p D q) (ok:ActOk a) :
 Calls Tryz.prog 74 #[actVal a A n n' B m m' C p p' D q q'] w fun e w'=>e=.returned (.string ⟨(actTextL a).toArray⟩)∧Below w.heap.size w w':=by
 unfold actVal
 have hm1:n≤9223372036854775807:=ha.commands.2.1
 have hm2:m≤9223372036854775807:=ha.vars.2.1
 have hm3:p≤9223372036854775807:=ha.outputs.2.1
 have hm4:q≤9223372036854775807:=ha.needs.2.1
 have htl:=ha.tool
 go_enter Tryz.func74,Tryz.ntmps74
 go_wp2_with fail
 have hB:Bld ((w.alloc (.cells #[.string a.tool,.slice A n n',.slice B m m',.slice C p p',.slice D q q',.int .i64 a.time] 58)).alloc (.cells #[.pointer none,.slice none 0 0] 176)) (w.heap.size + 1) []:=by
  have h:=Bld.new (w.alloc (.cells #[.string a.tool,.slice A n n',.slice B m m',.slice C p p',.slice D q q',.int .i64 a.time] 58))
  rwa [show (w.alloc (.cells #[.string a.tool,.slice A n n',.slice B m m',.slice C p p',.slice D q q',.int .i64 a.time] 58)).heap.size=w.heap.size + 1 by simp] at h
 have hX:((w.alloc (.cells #[.string a.tool,.slice A n n',.slice B m m',.slice C p p',.slice D q q',.int .i64 a.time] 58)).alloc (.cells #[.pointer none,.slice none 0 0] 176)).heap[w.heap.size]?=some (.cells #[.string a.tool,.slice A n n',.slice B m m',.slice C p p',.slice D q q',.int .i64 a.time] 58 (0,0)) :=
  (Lib.alloc_old (w.alloc (.cells #[.string a.tool,.slice A n n',.slice B m m',.slice C p p',.slice D q q',.int .i64 a.time] 58)) _ _ (by simp)).trans (heap_alloc_new w _)
 have hbel2:Below w.heap.size w ((w.alloc (.cells #[.string a.tool,.slice A n n',.slice B m m',.slice C p p',.slice D q q',.int .i64 a.time] 58)).alloc (.cells #[.pointer none,.slice none 0 0] 176)):=fr_alloc (fr_alloc (fr_refl w) _) _
 have hWg:((w.alloc (.cells #[.string a.tool,.slice A n n',.slice B m m',.slice C p p',.slice D q q',.int .i64 a.time] 58)).alloc (.cells #[.pointer none,.slice none 0 0] 176)).heap.size=w.heap.size + 1 + 1:=by simp
 have hEn:=(hE.alloc (.cells #[.string a.tool,.slice A n n',.slice B m m',.slice C p p',.slice D q q',.int .i64 a.time] 58)).alloc (.cells #[.pointer none,.slice none 0 0] 176)
 have hfc:Sl ((w.alloc (.cells #[.string a.tool,.slice A n n',.slice B m m',.slice C p p',.slice D q q',.int .i64 a.time] 58)).alloc (.cells #[.pointer none,.slice none 0 0] 176)) (Lt (w.heap.size + 1)) A n a.commands:=(ha.commands.keep (keep_lt hbel2)).more (lt_mono (by omega))
 have hfv:Sl ((w.alloc (.cells #[.string a.tool,.slice A n n',.slice B m m',.slice C p p',.slice D q q',.int .i64 a.time] 58)).alloc (.cells #[.pointer none,.slice none 0 0] 176)) (Lt (w.heap.size + 1)) B m a.vars:=(ha.vars.keep (keep_lt hbel2)).more (lt_mono (by omega))
 have hfo:Sl ((w.alloc (.cells #[.string a.tool,.slice A n n',.slice B m m',.slice C p p',.slice D q q',.int .i64 a.time] 58)).alloc (.cells #[.pointer none,.slice none 0 0] 176)) (Lt (w.heap.size + 1)) C p a.outputs:=(ha.outputs.keep (keep_lt hbel2)).more (lt_mono (by omega))
 have hfn:Sl ((w.alloc (.cells #[.string a.tool,.slice A n n',.slice B m m',.slice C p p',.slice D q q',.int .i64 a.time] 58)).alloc (.cells #[.pointer none,.slice none 0 0] 176)) (Lt (w.heap.size + 1)) D q a.needs:=(ha.needs.keep (keep_lt hbel2)).more (lt_mono (by omega))
 have hgw:w.heap.size≤w.heap.size + 1:=Nat.le_succ _
 have hz1:w.heap.size < w.heap.size + 1:=Nat.lt_succ_self _
 rw [←hWg]
 generalize hg:w.heap.size + 1=g at *
 have HG:=Lib.hid hg; clear hg
 have hgl:=hE.size
 generalize ((w.alloc (.cells #[.string a.tool,.slice A n n',.slice B m m',.slice C p p',.slice D q q',.int .i64 a.time] 58)).alloc (.cells #[.pointer none,.slice none 0 0] 176))=W at *
 have HEn:=Lib.hid (show ∀ w',Below g W w'→Env2 w' from fun w' h=>hEn.of_heap h.size fun k hk=>h.block k (Nat.lt_of_lt_of_le hk (Nat.le_trans hgl hgw)))
 have HX:=Lib.hid hX; clear hX
 have htm:=ok.time
 have htn:InInt a.time:=ha.time
 refine (line_call2 g [] ⟨#[116,111,111,108]⟩ a.tool W hB (by decide) (by have:=ok.tool; omega) (by simp)).mono ?_
 rintro e w1 ⟨rfl,hB1,hw1⟩
 have hB2:Bld w1 g (toolL a):=by
  have e:toolL a=[] ++ ([116,111,111,108] ++ [32] ++ a.tool.data.toList ++ [10]):=by simp [toolL]
  rw [e]; exact hB1
 clear hB1 hB
 have hbr1:Below g W w1:=hw1.1
 have hX1:w1.cell? ⟨w.heap.size,1,none⟩=some (.slice A n n'):=by rw [World.cell?,(hbr1.block _ hz1).trans HX.out]; rfl
 go_wp2
 go_loopw [6,22] (fun _ i wr=>∃ k:Nat,k≤n∧i=.int .i64 k∧Bld wr g (toolL a ++ (a.commands.take k).flatMap cmdL)∧Below g W wr) (fun _ i _=>n - (intOf i).toNat)
 case atStart=>exact ⟨0,Nat.zero_le _,rfl,by simpa using hB2,hbr1⟩
 case round =>
  clear hB2 hbr1 hX1 hw1
  obtain ⟨k,hk,rfl,hBr,hbr⟩:=hrel
  have hgr:g < wr.heap.size:=hBr.lt
  have hlen:(toolL a ++ (a.commands.take k).flatMap cmdL).length≤1000000:=by have:=len_cons (toolL_length ok) (cmds_length ok k); omega
  by_cases hlt:k < n
  ·obtain ⟨b,o,x,A',l',c',rfl,hb,hx,hlc,hcm,hsl',c0⟩:=(hfc.keep (keep_lt hbr)).row hlt
   have hbg:b < g:=hb
   have hbw:b < wr.heap.size:=by omega
   have hok:=ok.words x (List.mem_of_getElem? hx)
   have hjl:=cmdL_length hok
   have HX2:=Lib.hid hx; clear hx
   have hl1:=hsl'.1
   go_wp2_with fail
   refine (join_any _ _ _ x _ (hsl'.more (lt_mono (Nat.le_of_lt hgr))) hlc (by omega) (by omega)).mono ?_
   rintro e w2 ⟨rfl,hb2⟩
   have hBx:=hBr.call hb2
   have hbx:=below_call (show g≤W.heap.size by omega) hbr hb2
   go_wp2_with fail
   refine (line_call2 g _ ⟨#[100,111]⟩ ⟨(joinS x).toArray⟩ w2 hBx (by decide) (by show (joinS x).toArray.size≤_; simp; omega) (by omega)).mono ?_
   rintro e w3 ⟨rfl,hB3,hw3⟩
   clear hl1 hjl hok
   go_wp2
   go_round
   case rel =>
    refine ⟨k + 1,by omega,by go_num,?_,below_wrote hbx hw3⟩
    rw [flatMap_succ HX2.out,←List.append_assoc,cmdL]
    exact hB3
   case measure=>simp [intOf]; omega
  ·have HF:=Lib.hid (show a.commands.take k=a.commands from List.take_of_length_le (by rw [hfc.1]; omega))
   have hlen2:(toolL a ++ a.commands.flatMap cmdL).length≤1000000:=by rw [HF.out] at hlen; exact hlen
   rw [HF.out] at hBr
   have HLL:=Lib.hid (show toolL a ++ a.commands.flatMap cmdL ++ a.vars.flatMap varL ++ a.outputs.flatMap outL ++ a.needs.flatMap needL ++ timeL a=actTextL a from rfl)
   generalize toolL a ++ a.commands.flatMap cmdL=L1 at *
   clear hlen
   have hX1:wr.cell? ⟨w.heap.size,2,none⟩=some (.slice B m m'):=by rw [World.cell?,(hbr.block _ hz1).trans HX.out]; rfl
   go_wp2
   go_loopw [8,35] (fun _ i wr=>∃ k:Nat,k≤m∧i=.int .i64 k∧Bld wr g (L1 ++ (a.vars.take k).flatMap varL)∧Below g W wr) (fun _ i _=>m - (intOf i).toNat)
   case atStart=>exact ⟨0,Nat.zero_le _,rfl,by simpa using hBr,hbr⟩
   case round =>
    clear hBr hbr hX1 hgr
    obtain ⟨k,hk,rfl,hBr,hbr⟩:=hrel
    have hgr:g < wr.heap.size:=hBr.lt
    have hlen:(L1 ++ (a.vars.take k).flatMap varL).length≤1100000:=by have:=len_cons hlen2 (vars_length ok k); omega
    by_cases hlt:k < m
    ·obtain ⟨b,o,x,rfl,hb,hx,hs1,hs2,c0,c1⟩:=(hfv.keep (keep_lt hbr)).var hlt
     have hbg:b < g:=hb
     have hbw:b < wr.heap.size:=by omega
     have hok:=ok.var x (List.mem_of_getElem? hx)
     have HX2:=Lib.hid hx; clear hx
     go_wp2_with fail
     rw [show wr.heap.size + 1=(wr.alloc (.cells #[.string x.name,.string x.value] 184)).heap.size by simp]
     refine (line_call3 g _ ⟨#[118,97,114]⟩ x.name x.value (wr.alloc (.cells #[.string x.name,.string x.value] 184)) (hBr.alloc _) (by decide) (by omega) (by omega) (by omega)).mono ?_
     rintro e w3 ⟨rfl,hB3,hw3⟩
     clear hok
     go_wp2
     go_round
     case rel =>
      refine ⟨k + 1,by omega,by go_num,?_,below_wrote (hbr.alloc (Nat.le_of_lt hgr) _) hw3⟩
      rw [flatMap_succ HX2.out,←List.append_assoc,varL]
      exact hB3
     case measure=>simp [intOf]; omega
    ·have HF:=Lib.hid (show a.vars.take k=a.vars from List.take_of_length_le (by rw [hfv.1]; omega))
     have hlen3:(L1 ++ a.vars.flatMap varL).length≤1100000:=by rw [HF.out] at hlen; exact hlen
     clear hlen2
     have hlen2:=hlen3
     clear hlen3
     rw [HF.out] at hBr
     generalize L1 ++ a.vars.flatMap varL=L2 at *
     clear hlen
     have hX1:wr.cell? ⟨w.heap.size,3,none⟩=some (.slice C p p'):=by rw [World.cell?,(hbr.block _ hz1).trans HX.out]; rfl
     go_wp2
     go_loopw [10,50] (fun _ i wr=>∃ k:Nat,k≤p∧i=.int .i64 k∧Bld wr g (L2 ++ (a.outputs.take k).flatMap outL)∧Below g W wr) (fun _ i _=>p - (intOf i).toNat)
     case atStart=>exact ⟨0,Nat.zero_le _,rfl,by simpa using hBr,hbr⟩
     case round =>
      clear hBr hbr hX1 hgr
      obtain ⟨k,hk,rfl,hBr,hbr⟩:=hrel
      have hgr:g < wr.heap.size:=hBr.lt
      have hlen:(L2 ++ (a.outputs.take k).flatMap outL).length≤1200000:=by have:=len_cons hlen2 (outs_length ok k); omega
      by_cases hlt:k < p
      ·obtain ⟨b,o,x,rfl,hb,hx,hxs,c0⟩:=(hfo.keep (keep_lt hbr)).str hlt
       have hbg:b < g:=hb
       have hbw:b < wr.heap.size:=by omega
       have hok:=ok.output x (List.mem_of_getElem? hx)
       have HX2:=Lib.hid hx; clear hx
       go_wp2_with fail
       refine (line_call2 g _ ⟨#[111,117,116]⟩ x wr hBr (by decide) (by omega) (by omega)).mono ?_
       rintro e w3 ⟨rfl,hB3,hw3⟩
       clear hok
       go_wp2
       go_round
       case rel =>
        refine ⟨k + 1,by omega,by go_num,?_,below_wrote hbr hw3⟩
        rw [flatMap_succ HX2.out,←List.append_assoc,outL]
        exact hB3
       case measure=>simp [intOf]; omega
      ·have HF:=Lib.hid (show a.outputs.take k=a.outputs from List.take_of_length_le (by rw [hfo.1]; omega))
       have hlen3:(L2 ++ a.outputs.flatMap outL).length≤1200000:=by rw [HF.out] at hlen; exact hlen
       clear hlen2
       have hlen2:=hlen3
       clear hlen3
       rw [HF.out] at hBr
       generalize L2 ++ a.outputs.flatMap outL=L3 at *
       clear hlen
       have hX1:wr.cell? ⟨w.heap.size,4,none⟩=some (.slice D q q'):=by rw [World.cell?,(hbr.block _ hz1).trans HX.out]; rfl
       go_wp2
       go_loopw [12,62] (fun _ i wr=>∃ k:Nat,k≤q∧i=.int .i64 k∧Bld wr g (L3 ++ (a.needs.take k).flatMap needL)∧Below g W wr) (fun _ i _=>q - (intOf i).toNat)
       case atStart=>exact ⟨0,Nat.zero_le _,rfl,by simpa using hBr,hbr⟩
       case round =>
        clear hBr hbr hX1 hgr
        obtain ⟨k,hk,rfl,hBr,hbr⟩:=hrel
        have hgr:g < wr.heap.size:=hBr.lt
        have hlen:(L3 ++ (a.needs.take k).flatMap needL).length≤1300000:=by have:=len_cons hlen2 (needs_length ok k); omega
        by_cases hlt:k < q
        ·obtain ⟨b,o,x,rfl,hb,hx,hs1,hs2,c0,c1⟩:=(hfn.keep (keep_lt hbr)).var hlt
         have hbg:b < g:=hb
         have hbw:b < wr.heap.size:=by omega
         have hok:=ok.need x (List.mem_of_getElem? hx)
         have HX2:=Lib.hid hx; clear hx
         go_wp2_with fail
         rw [show wr.heap.size + 1=(wr.alloc (.cells #[.string x.name,.string x.value] 184)).heap.size by simp]
         refine (line_call3 g _ ⟨#[110,101,101,100]⟩ x.name x.value (wr.alloc (.cells #[.string x.name,.string x.value] 184)) (hBr.alloc _) (by decide) (by omega) (by omega) (by omega)).mono ?_
         rintro e w3 ⟨rfl,hB3,hw3⟩
         clear hok
         go_wp2
         go_round
         case rel =>
          refine ⟨k + 1,by omega,by go_num,?_,below_wrote (hbr.alloc (Nat.le_of_lt hgr) _) hw3⟩
          rw [flatMap_succ HX2.out,←List.append_assoc,needL]
          exact hB3
         case measure=>simp [intOf]; omega
        ·have HF:=Lib.hid (show a.needs.take k=a.needs from List.take_of_length_le (by rw [hfn.1]; omega))
         have hlen3:(L3 ++ a.needs.flatMap needL).length≤1300000:=by rw [HF.out] at hlen; exact hlen
         clear hlen2
         have hlen2:=hlen3
         clear hlen3
         rw [HF.out] at hBr
         generalize L3 ++ a.needs.flatMap needL=L4 at *
         clear hlen
         have hX1:wr.cell? ⟨w.heap.size,5,none⟩=some (.int .i64 a.time):=by rw [World.cell?,(hbr.block _ hz1).trans HX.out]; rfl
         obtain ⟨s1,k1,E1,C1⟩:=itoa_op a.time htn
         have HEr:=HEn.out _ hbr
         go_wp2_with fail
         refine (C1.out _ HEr).mono ?_
         rintro e w2 ⟨rfl,hb2⟩
         have hBx:=hBr.call hb2
         have hbx:=below_call (show g≤W.heap.size by omega) hbr hb2
         go_wp2_with fail
         refine (line_call2 g _ ⟨#[116,105,109,101]⟩ s1 w2 hBx (by decide) (by omega) (by omega)).mono ?_
         rintro e w3 ⟨rfl,hB3,hw3⟩
         go_wp2_with fail
         refine (bld_String g _ _ hB3).mono ?_
         rintro e w4 ⟨rfl,hB4,hw4⟩
         go_wp2
         go_ret
         exact ⟨ret_strL (by rw [←HLL.out,timeL,←E1.out]; rfl),hbel2.trans (((below_wrote hbx hw3).trans hw4.1).mono hgw)⟩
end Go.Proofs.Sm
namespace Go.Proofs.Sm
open Go.RowKit
theorem actText_length {a:ActionV} (ok:ActOk a):(actTextL a).length≤2000000:=by
 have h1:=toolL_length ok
 have h2:=cmds_length ok a.commands.length
 have h3:=vars_length ok a.vars.length
 have h4:=outs_length ok a.outputs.length
 have h5:=needs_length ok a.needs.length
 rw [List.take_length] at h2 h3 h4 h5
 have h6:=Lib.itoa_length_le a.time (by have:=ok.time; omega) (by have:=ok.time; omega)
 simp only [actTextL,timeL,List.length_append,List.length_cons,List.length_nil] at h1 h2 h3 h4 h5 ⊢
 omega
end Go.Proofs.Sm
namespace Go.Proofs.Sm
open Go.RowKit
theorem to_bytes (s:ByteArray) (hs:s.size≤maxLen) (w:World):∃ w2 c,(convert 9 75 (.string s)).run Tryz.prog w=.ok (.slice (some ⟨w.heap.size,0,none⟩) s.size c) w2∧Below w.heap.size w w2∧Sl w2 (Lt w2.heap.size) (some ⟨w.heap.size,0,none⟩) s.size s.data.toList:=by
 refine ⟨Lib.bytesWorld w 5 s,_,Lib.run_convert_string_bytes (P:=Tryz.prog) w 9 75 5 s Tryz.underlying9 Tryz.underlying75 Tryz.underlying5,⟨rfl,rfl,rfl,by rw [Lib.bytesWorld_size]; omega,fun k hk=>Lib.bytesWorld_at_old w _ s k hk⟩,by simp,hs,fun _=>⟨_,_,rfl,by show _ < _; rw [Lib.bytesWorld_size]; omega,fun i x hx=>⟨[.int .u8 x.toNat],rfl,fun j v hv=>?_⟩⟩⟩
 have hj:j=0∧v=.int .u8 x.toNat:=by
  cases j with
  | zero=>simp at hv; exact ⟨rfl,hv.symm⟩
  | succ j=>simp at hv
 obtain ⟨rfl,rfl⟩:=hj
 have hi:i < s.data.toList.length:=(List.getElem?_eq_some_iff.1 hx).1
 have h:=Lib.bytesWorld_cell w 5 s i (by simpa using hi)
 simp only [Rep.sz,Nat.mul_one,Nat.add_zero,Nat.zero_add]
 rw [h,List.getD_eq_getElem?_getD,hx]; rfl
end Go.Proofs.Sm
namespace Go.Proofs.Sm
open Go.RowKit
set_option maxHeartbeats 1000000 in
set_option maxRecDepth 100000 in
theorem act_TextDigest (a:ActionV) (A:Option Addr) (n n':Nat) (B:Option Addr) (m m':Nat) (C:Option Addr) (p p':Nat) (D:Option Addr) (q q':Nat) (w:World) (hE:Env2 w) (ha:ActIs w a A n B m C p D q) (ok:ActOk a) :
 Calls Tryz.prog 37 #[actVal a A n n' B m m' C p p' D q q'] w fun e w'=>e=.returned (.string (digestS (actTextL a)))∧Below w.heap.size w w':=by
 have C2:=Lib.hid (fun w' (hb:Below w.heap.size w w')=>act_text a A n n' B m m' C p p' D q q' w' (hE.then_ hb) (ha.then_ hb) ok)
 have hv:actVal a A n n' B m m' C p p' D q q'=.agg #[.string a.tool,.slice A n n',.slice B m m',.slice C p p',.slice D q q',.int .i64 a.time]:=rfl
 rw [hv] at C2 ⊢
 clear hv
 have htl:=actText_length ok
 go_enter Tryz.func37,Tryz.ntmps37
 go_wp2_with fail
 refine (C2.out _ (fr_alloc (fr_refl w) _)).mono ?_
 rintro e w3 ⟨rfl,hb3⟩
 have hbel3:=fr_box (fr_refl w) hb3
 obtain ⟨t,ht⟩:∃ t:ByteArray,t=⟨(actTextL a).toArray⟩:=⟨_,rfl⟩
 have htz:t.size=(actTextL a).length:=by rw [ht]; simp [ByteArray.size]
 have HTL:=Lib.hid (show t.data.toList=actTextL a by rw [ht])
 rw [←ht]
 clear ht
 obtain ⟨w3',c3,hcv,hb3',hsl3⟩:=to_bytes t (by unfold maxLen; omega) w3
 clear htl htz
 go_wp2_with fail
 refine (blob_Digest _ _ _ _ _ hsl3).mono ?_
 rintro e w4 ⟨rfl,hb4⟩
 go_wp2
 go_ret
 exact ⟨by rw [←HTL.out]; rfl,fr_call (fr_call hbel3 hb3') hb4⟩
end Go.Proofs.Sm
