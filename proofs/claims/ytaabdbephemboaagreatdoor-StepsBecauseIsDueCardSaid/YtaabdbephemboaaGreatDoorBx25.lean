/- Words and walks that the claims share, part 25. -/
import Derived.Test.YtaabdbephemboaaGreatDoorBx8
import Derived.Test.YtaabdbephemboaaGreatDoorBx11
namespace Go.Proofs.Sm
open Go.RowKit
def leftV (g:Graph) (inn:Nat→Bool) (i:Nat):List Value:=(List.range g.length).map fun j=>.int .i64 (((if j < i∧inn j=true then (needAt g j).length else 0:Nat)):Int)
def leftW (g:Graph) (inn:Nat→Bool) (out:List Nat):List Value:=(List.range g.length).map fun j=>.int .i64 (((if inn j=true then leftN g out j else 0:Nat)):Int)
def leftX (g:Graph) (inn:Nat→Bool) (out us:List Nat):List Value:=(List.range g.length).map fun j=>.int .i64 ((((if inn j=true then leftN g out j else 0:Nat)):Int) - (if us.contains j=true then 1 else 0))
theorem leftV_start (g:Graph) (inn:Nat→Bool):leftV g inn 0=List.replicate g.length (.int .i64 0):=by
 apply List.ext_getElem
 ·simp [leftV]
 ·intro i h1 h2
  simp [leftV]
theorem leftV_at {g:Graph} {inn:Nat→Bool} {i j:Nat} (h:j < g.length):(leftV g inn i)[j]?=some (.int .i64 (((if j < i∧inn j=true then (needAt g j).length else 0:Nat)):Int)):=by rw [leftV,List.getElem?_map,List.getElem?_range h]; rfl
theorem leftV_set {g:Graph} {inn:Nat→Bool} {i:Nat} (h:inn i=true):(leftV g inn i).set i (.int .i64 ((needAt g i).length:Nat))=leftV g inn (i + 1):=by
 apply List.ext_getElem
 ·simp [leftV]
 ·intro a h1 h2
  rw [List.getElem_set]
  simp only [leftV,List.getElem_map,List.getElem_range]
  split
  ·rename_i e
   subst e
   rw [if_pos ⟨by omega,h⟩]
  ·rename_i e
   by_cases e1:a < i∧inn a=true
   ·rw [if_pos e1,if_pos ⟨by omega,e1.2⟩]
   ·rw [if_neg e1,if_neg fun h2=>e1 ⟨by omega,h2.2⟩]
theorem leftV_skip {g:Graph} {inn:Nat→Bool} {i:Nat} (h:inn i=false):leftV g inn (i + 1)=leftV g inn i:=by
 apply List.ext_getElem
 ·simp [leftV]
 ·intro a h1 h2
  simp only [leftV,List.getElem_map,List.getElem_range]
  by_cases e1:a < i∧inn a=true
  ·rw [if_pos e1,if_pos ⟨by omega,e1.2⟩]
  ·rw [if_neg e1,if_neg fun h2=>e1 ⟨by
    rcases Nat.lt_or_ge a i with h3 | h3
    ·exact h3
    ·have:a=i:=by omega
     subst this
     rw [h] at h2
     exact absurd h2.2 (by decide),h2.2⟩]
theorem leftV_end (g:Graph) (inn:Nat→Bool):leftV g inn g.length=leftW g inn []:=by
 apply List.ext_getElem
 ·simp [leftV,leftW]
 ·intro a h1 h2
  have ha:a < g.length:=by simpa [leftV] using h1
  simp only [leftV,leftW,List.getElem_map,List.getElem_range,left_nil]
  by_cases e:inn a=true
  ·rw [if_pos ⟨ha,e⟩,if_pos e]
  ·rw [if_neg fun h=>e h.2,if_neg e]
theorem leftW_at {g:Graph} {inn:Nat→Bool} {out:List Nat} {j:Nat} (h:j < g.length):(leftW g inn out)[j]?=some (.int .i64 (((if inn j=true then leftN g out j else 0:Nat)):Int)):=by rw [leftW,List.getElem?_map,List.getElem?_range h]; rfl
theorem leftX_start (g:Graph) (inn:Nat→Bool) (out:List Nat):leftX g inn out []=leftW g inn out:=by
 apply List.ext_getElem
 ·simp [leftX,leftW]
 ·intro a h1 h2
  simp [leftX,leftW]
theorem leftX_at {g:Graph} {inn:Nat→Bool} {out us:List Nat} {j:Nat} (h:j < g.length) (hu:j ∉ us):(leftX g inn out us)[j]?=some (.int .i64 (((if inn j=true then leftN g out j else 0:Nat)):Int)):=by
 rw [leftX,List.getElem?_map,List.getElem?_range h]
 simp [hu]
theorem leftX_set {g:Graph} {inn:Nat→Bool} {out us:List Nat} {j:Nat}:(leftX g inn out us).set j (.int .i64 ((((if inn j=true then leftN g out j else 0:Nat)):Int) - 1))=leftX g inn out (us ++ [j]):=by
 apply List.ext_getElem
 ·simp [leftX]
 ·intro a h1 h2
  rw [List.getElem_set]
  simp only [leftX,List.getElem_map,List.getElem_range]
  split
  ·rename_i e
   subst e
   simp
  ·rename_i e
   have:¬ a=j:=fun h=>e h.symm
   simp [this]
theorem leftX_end {g:Graph} {inn:Nat→Bool} {out:List Nat} {k:Nat} (hn:∀ j,(needAt g j).Nodup) (hk:k ∉ out):leftX g inn out ((List.range g.length).filter fun j=>inn j && (needAt g j).contains k)=leftW g inn (out ++ [k]):=by
 apply List.ext_getElem
 ·simp [leftX,leftW]
 ·intro a h1 h2
  have ha:a < g.length:=by simpa [leftX] using h1
  simp only [leftX,leftW,List.getElem_map,List.getElem_range]
  have hm:=left_more (hn a) hk
  have hc:(((List.range g.length).filter fun j=>inn j && (needAt g j).contains k).contains a)=(inn a && (needAt g a).contains k):=by
   rw [Bool.eq_iff_iff]
   simp [ha]
  rw [hc]
  cases hi:inn a with
  | false=>simp
  | true =>
    simp only [Bool.true_and,if_true]
    congr 1
    split at hm
    ·rename_i h3
     rw [if_pos h3]; omega
    ·rename_i h3
     rw [if_neg h3]; omega
theorem users_lt {g:Graph} {inn:Nat→Bool} {i k j:Nat} (h:j∈(List.range i).filter fun j=>inn j && (needAt g j).contains k):j < i:=by
 simp only [List.mem_filter,List.mem_range] at h
 exact h.1
theorem filter_le (n:Nat) (p:Nat→Bool):((List.range n).filter p).length≤n:=by have:=List.length_filter_le p (List.range n); simpa using this
theorem many_step {inn:Nat→Bool} {i:Nat} (h:inn i=true):((List.range (i + 1)).filter inn).length=((List.range i).filter inn).length + 1:=by rw [List.range_succ,List.filter_append]; simp [h]
theorem many_same {inn:Nat→Bool} {i:Nat} (h:inn i=false):((List.range (i + 1)).filter inn).length=((List.range i).filter inn).length:=by rw [List.range_succ,List.filter_append]; simp [h]
def outOf (r:List Nat × Bool):List Nat:=if r.2=true then r.1 else []
theorem RowK.weaken {α:Type} [Rep α] {w:World} {B B':Nat} {e:TypeId} {K:Nat→Prop} {v:Value} {l:List α} (h:RowK w B e K v l) (hB:B'≤B):RowK w B' e K v l:=by
 obtain ⟨hk,rows,hr,hown,hrep⟩:=h
 refine ⟨hk,rows,hr,⟨hown.1,?_⟩,hrep⟩
 rcases hown.2 with h1 | ⟨g,cap,cur,h1,h2,h3⟩
 ·exact .inl h1
 ·exact .inr ⟨g,cap,cur,h1,Nat.le_trans hB h2,h3⟩
theorem need_le {g:Graph} (hw:Within g) (hnd:∀ j,(needAt g j).Nodup) (j:Nat):(needAt g j).length≤g.length:=by
 have:=nodup_length (hnd j) (b:=List.range g.length) fun x hx=>by simpa using hw j x hx
 simpa using this
theorem leftN_le (g:Graph) (out:List Nat) (j:Nat):leftN g out j≤(needAt g j).length:=List.length_filter_le _ _
set_option maxHeartbeats 0 in
set_option maxRecDepth 100000 in
theorem steps_order_some (bp:Nat) (A D:Option Addr) (B:Addr) (n c d e':Nat) (g:Graph) (s:List Bool) (w:World) (hbp:bp < w.heap.size) (hp0:w.cell? ⟨bp,0,none⟩=some (.slice A n c)) (hp2:w.cell? ⟨bp,2,none⟩=some (.slice D n d))
 (hsl:Sl w (Lt w.heap.size) D n g) (hin:Sl w (Lt w.heap.size) (some B) n s) (hw:Within g) (hnd:∀ j,(needAt g j).Nodup) (hn:n≤1000000) :
 Calls Tryz.prog 45 #[.pointer (some ⟨bp,0,none⟩),.slice (some B) n e'] w fun e w'=>∃ v,e=.returned (.tuple #[v,.bool (orderS g (isOf s)).2])∧RowK w' w.heap.size 3 (fun _=>False) v (outOf (orderS g (isOf s)))∧Below w.heap.size w w':=by
 obtain ⟨b0,hb0,hbz0,hbz1,hbz2⟩:=info_parts bool_info
 obtain ⟨i0,hi0,hz0,hz1,hz2'⟩:=info_parts int_info
 obtain ⟨s0,hs0,hsz0,hsz1,hsz2⟩:=info_parts ints_info
 have hm:n≤9223372036854775807:=by omega
 have hng:g.length=n:=hsl.1
 obtain ⟨q,hq⟩:∃ q,q=w.heap.size:=⟨_,rfl⟩
 rw [←hq] at hsl hin hbp ⊢
 have nil1:∀ (w:World) (a:Option Addr) (n c n' c':Nat),(binOp .eql 99 (.slice a n c) (.slice none n' c')).run Tryz.prog w=.ok (.bool a.isNone) w:=fun w a n c n' c'=>Lib.run_eql_slice_nil w _ _ a n c n' c' Tryz.underlying99
 have nil2:∀ (w:World) (a:Option Addr) (n c n' c':Nat),(binOp .neq 99 (.slice a n c) (.slice none n' c')).run Tryz.prog w=.ok (.bool (!a.isNone)) w:=fun w a n c n' c'=>run_neq_slice_nil_any w _ _ a n c n' c' Tryz.underlying99
 go_enter Tryz.func45,Tryz.ntmps45
 go_wp2_with (first
  | (at_make; refine wpList_make_full _ rfl _ _ 87 rfl w.heap.size 3 i0 (.int .i64 0) 1 Tryz.underlying87 hi0 hz0 hz1 .i64 .i64 (n:Nat) (n:Nat) n rfl rfl rfl rfl (by rw [hz2']; omega) (by unfold maxLen; omega) (Nat.le_refl _) ?_; intro w1 hown hg1; have hb1:Below w.heap.size w w1:=(Below.refl _ w).grown hg1 (Nat.le_refl _) fun k hk=>by cases hk
     have p0:=(hb1.cell (p:=⟨bp,0,none⟩) (show bp < w.heap.size by omega)).trans hp0)
  | (at_make; refine wpList_make_full _ rfl _ _ 84 rfl w.heap.size 87 s0 (.slice none 0 0) 1 Tryz.underlying84 hs0 hsz0 hsz1 .i64 .i64 (n:Nat) (n:Nat) n rfl rfl rfl rfl (by rw [hsz2]; omega) (by unfold maxLen; omega) hg1.size ?_; intro w2 hown2 hg2; have p2:=((hb1.grown hg2 hg1.size fun k hk=>by cases hk).cell (p:=⟨bp,2,none⟩) (show bp < w.heap.size by omega)).trans hp2))
 rw [show ((.int .i64 0:Value).cells)=#[.int .i64 0] from rfl,made_cells] at hown
 rw [show ((.slice none 0 0:Value).cells)=#[.slice none 0 0] from rfl,made_cells] at hown2
 have ha1:=Arr.of_full hown
 have ha2:=Arr.of_full hown2
 have hlt1:=ha1.lt
 have hlt2:=ha2.lt
 have hal:=ha1.grown hg2 (by simp)
 have hb2:=hb1.grown hg2 hg1.size fun k hk=>by cases hk
 clear hown hown2 hg1 hg2 ha1 hb1 p0
 rw [←hq] at hlt1 hal hb2 ⊢
 clear hq
 obtain ⟨gu,hgu⟩:∃ gu,gu=w1.heap.size:=⟨_,rfl⟩
 rw [←hgu] at hlt1 ha2 hlt2 ⊢
 clear hgu
 have hgr0:Grid w2 (gu + 1) (fun _=>True) gu 87 3 (usersAt g (isOf s) 0 0):=by rw [users_start,hng]; exact Grid.made ha2 (Nat.lt_succ_self gu)
 have hal0:Arr w2 q 3 (leftV g (isOf s) 0):=by rw [leftV_start,hng]; exact hal
 clear ha2 hal
 go_wp2
 go_loopw [8,35] (fun mv iv wr=>∃ i:Nat,i≤n∧iv=.int .i64 i∧mv=.int .i64 (((List.range i).filter (isOf s)).length:Nat)∧Arr wr q 3 (leftV g (isOf s) i)∧Grid wr (gu + 1) (fun _=>True) gu 87 3 (usersAt g (isOf s) i 0)∧Below q w wr∧gu + 1≤wr.heap.size) (fun _ iv _=>n - (intOf iv).toNat)
 case atStart=>exact ⟨0,Nat.zero_le _,rfl,rfl,hal0,hgr0,hb2,hlt2⟩
 case round =>
  clear hal0 hgr0 hb2 hlt2 p2
  obtain ⟨i,hi,rfl,rfl,hal,hgr,hbel,hz⟩:=hrel
  by_cases hlt:i < n
  ·obtain ⟨bs,os,x,eB,_,hx,cs⟩:=(hin.keep (keep_lt hbel)).bool hlt
   cases eB
   have hiI:(i:Int) < (n:Int):=by omega
   obtain ⟨bD,oD,r,A',n',c',rfl,_,hr,_,_,hslr,cD⟩:=(hsl.keep (keep_lt hbel)).row hlt
   have hR:=Lib.hid (need_row hr); clear hr
   cases x
   ·have hno:isOf s i=false:=by rw [isOf,hx]; rfl
    have HF:=Lib.hid (And.intro (many_same hno) (And.intro (leftV_skip (g:=g) hno) (users_skip (g:=g) hno)))
    clear hx hslr hno
    have HA:=Lib.hid hal; clear hal
    have HG:=Lib.hid hgr; clear hgr
    go_wp2
    go_roundw
    case rel=>exact ⟨i + 1,by omega,by go_num,by rw [HF.out.1],by rw [HF.out.2.1]; exact HA.out,by rw [HF.out.2.2]; exact HG.out,hbel,hz⟩
    case measure=>simp [intOf]; omega
   ·have hyes:isOf s i=true:=by rw [isOf,hx]; rfl
    have HY:=Lib.hid hyes
    have hmany:=filter_le i (isOf s)
    have HM:=Lib.hid (many_step hyes)
    generalize hMM:((List.range i).filter (isOf s)).length=M at hmany HM ⊢
    clear hMM
    have gM:=IntWalk.i64_in ((M:Int) + 1) ⟨by omega,by omega⟩
    have HN1:=Lib.hid (show n'=(needAt g i).length by rw [hR.out,hslr.1])
    have hn'm:n'≤9223372036854775807:=hslr.2.1
    have hset:=hal.set i (.int .i64 (n':Nat))
    rw [HN1.out,leftV_set hyes,←HN1.out] at hset
    have HS:=Lib.hid hset
    have hf:=hal.frozen i
    have hc:=hal.cell (leftV_at (g:=g) (inn:=isOf s) (i:=i) (j:=i) (by omega))
    have hgr1:=hgr.other (p:=⟨q,i,none⟩) (by show gu≠q; omega) (.inl (by show q < gu + 1; omega)) (.int .i64 (n':Nat))
    have HG:=Lib.hid hgr1
    have hb1:=hbel.setCell (p:=⟨q,i,none⟩) (Nat.le_refl q) (.int .i64 (n':Nat))
    have hz1:gu + 1≤(wr.setCell ⟨q,i,none⟩ (.int .i64 (n':Nat))).heap.size:=by rw [size_setCell']; exact hz
    have hsr:=Lib.hid (fun (W:World) (hW:Below q w W)=>hslr.keep (fun a (ha:a < q)=>(hW.block a ha).trans (hbel.block a ha).symm))
    clear hset hgr hgr1 hyes hx hslr hal hbel hz
    rw [show (usersAt g (isOf s) i 0)=usersAt g (isOf s) i 0 from rfl] at HG
    go_wp2
    go_loopw [57] (fun iv wx=>∃ t:Nat,t≤n'∧iv=.int .i64 t∧Arr wx q 3 (leftV g (isOf s) (i + 1))∧Grid wx (gu + 1) (fun _=>True) gu 87 3 (usersAt g (isOf s) i t)∧Below q w wx∧gu + 1≤wx.heap.size) (fun iv _=>n' - (intOf iv).toNat)
    case atStart=>exact ⟨0,Nat.zero_le _,rfl,HS.out,HG.out,hb1,hz1⟩
    case round =>
     clear hc hf cs cD hb1 hz1 gM
     obtain ⟨t,ht,rfl,hal,hgr,hbel,hz⟩:=hrel
     by_cases htn:t < n'
     ·obtain ⟨b3,o3,k,rfl,_,hk,hkm,ck⟩:=(hsr.out wr hbel).nat htn
      have hkn:(needAt g i)[t]?=some k:=by rw [hR.out]; exact hk
      have hki:k < n:=by rw [←hng]; exact hw i k (List.mem_of_getElem? hkn)
      have hkI:(k:Int) < (n:Int):=by omega
      have htI:(t:Int) < (n':Int):=by omega
      have hnot:=take_not (hnd i) hkn
      have HU:=Lib.hid (users_set (inn:=isOf s) (hnd i) hkn)
      obtain ⟨v,cv,hrow,_,hput⟩:=hgr.at (users_row (inn:=isOf s) (i:=i) (t:=t) (by omega:k < g.length) hnot)
      have HP:=Lib.hid hput; clear hput hk hkn hnot
      have hfv:∃ vs,Arr wr gu 87 vs:=by obtain ⟨vs,hv,_⟩:=hgr.vals; exact ⟨vs,hv⟩
      obtain ⟨O,oc,rfl,ho1,ho2,_⟩:=hrow.sl
      have hle:=filter_le i (fun j=>isOf s j && (needAt g j).contains k)
      generalize hrr:((List.range i).filter fun j=>isOf s j && (needAt g j).contains k)=rr at hrow HP ho1 hle HU cv
      clear hrr
      have hW9:Below wr.heap.size wr (wr.alloc (.cells #[.int .i64 (i:Int)] 3)):=fr_alloc (fr_refl wr) _
      have row9:=hrow.call hW9
      have hb9:=hbel.trans (hW9.mono (by omega:q≤_))
      obtain ⟨_,rows,hrows,hown9,hrep⟩:=id row9
      have hzz:=hW9.size
      clear row9 hgr
      go_wp2_with (at_builtin; refine wpList_append_lies _ rfl _ _ 87 rfl (gu + 1) 3 i0 _ 1 8 Tryz.underlying87 hi0 hz0 hz1 hz2' rfl (by decide) _ rr.length _ rfl hown9 ⟨wr.heap.size,0,none⟩ 1 1 [.int .i64 (i:Int)] rfl rfl (new_cells wr #[_] _) (fun u hu=>(by simp only [List.mem_cons,List.mem_nil_iff,or_false] at hu; subst hu; rfl)) (by decide) (by unfold maxLen; omega) (by omega) (by omega) _ rfl ?_)
      intro g' cap w5 hown5 hg5 hat5 hlt5
      have row5:=RowK.append (x:=i) (r:=[.int .i64 (i:Int)]) (fun k hh=>hh.elim) hrows hrep ⟨rfl,by unfold maxLen; omega⟩ (fun _ _ hh=>hh) hg5 hown5
      have hz5:=hg5.size
      have hG5:=HP.out w5 _ (rr ++ [i]) (by omega) (fun k' hk'=>(hg5.block k' (by omega) fun e=>hk'.2 e.symm).trans (hW9.block k' hk'.1)) row5 (fun b hb=>⟨trivial,by
       obtain rfl:=slice_own6 hb
       rcases hat5 with h1 | h1
       ·exact .inl h1
       ·exact .inr (by show wr.heap.size≤g'; omega)⟩)
      rw [HU.out] at hG5
      have keep5:∀ b,b≤gu→w5.heap[b]?=wr.heap[b]?:=fun b hb=>(hg5.block b (by omega) fun e=>by have:=(hrow.kind b e.symm).1; omega).trans (hW9.block b (by omega))
      have hfz:w5.frozen? ⟨gu,k,none⟩=false:=by obtain ⟨vs,hv⟩:=hfv; exact (hv.keep (keep5 gu (Nat.le_refl _))).frozen k
      have hlt5':gu < w5.heap.size:=by omega
      have hcv0:w5.cell? ⟨gu,k,none⟩=some (.slice O rr.length oc):=(World.cell?_of_block (a:=⟨gu,k,none⟩) (keep5 gu (Nat.le_refl _))).trans cv
      have hal5:=(hal.keep (keep5 q (by omega))).other (p:=⟨gu,k,none⟩) (by show q≠gu; omega) (.slice (some ⟨g',0,none⟩) (rr.length + 1) cap)
      have hb5:=(hb9.grown hg5 (by omega) fun b hb=>by have:=(hrow.kind b hb).1; omega).setCell (p:=⟨gu,k,none⟩) (by show q≤gu; omega) (.slice (some ⟨g',0,none⟩) (rr.length + 1) cap)
      have hz6:gu + 1≤(w5.setCell ⟨gu,k,none⟩ (.slice (some ⟨g',0,none⟩) (rr.length + 1) cap)).heap.size:=by rw [size_setCell']; omega
      have HG2:=Lib.hid hG5
      have HA2:=Lib.hid hal5
      clear hG5 hal5 hal HP hown9 hown5 hg5 hat5 hrep row5 hrow keep5 hfv cv
      go_wp2
      go_roundw
      case rel=>exact ⟨t + 1,by omega,by go_num,HA2.out,HG2.out,hb5,hz6⟩
      case measure=>simp [intOf]; omega
     ·have hu:usersAt g (isOf s) i t=usersAt g (isOf s) (i + 1) 0:=users_next HY.out (by have:=HN1.out; omega)
      rw [hu] at hgr
      have HG2:=Lib.hid hgr; clear hgr
      have HA2:=Lib.hid hal; clear hal
      go_wp2
      go_roundw
      case rel=>exact ⟨i + 1,by omega,by go_num,by rw [HM.out]; rfl,HA2.out,HG2.out,hbel,hz⟩
      case measure=>simp [intOf]; omega
  ·obtain rfl:i=n:=by omega
   have hnn:g.length=i:=hng
   rw [show leftV g (isOf s) i=leftW g (isOf s) [] by rw [←hnn,leftV_end]] at hal
   have hmany:((List.range i).filter (isOf s)).length=manyS g (isOf s):=by rw [manyS,hnn]
   rw [hmany]
   have p0:=(hbel.cell (p:=⟨bp,0,none⟩) hbp).trans hp0
   go_wp2_with (at_make; refine wpList_make_full _ rfl _ _ 99 rfl wr.heap.size 4 b0 (.bool false) 1 Tryz.underlying99 hb0 hbz0 hbz1 .i64 .i64 (i:Nat) (i:Nat) i rfl rfl rfl rfl (by rw [hbz2]; omega) (by unfold maxLen; omega) (Nat.le_refl _) ?_; intro w3 hown hg3)
   rw [show ((.bool false:Value).cells)=#[.bool false] from rfl,made_cells,←done_start] at hown
   have had:=Arr.of_full hown
   have hlt3:=had.lt
   have hal3:=hal.grown hg3 (by simp)
   have hgr3:=(hgr.more (S':=fun k=>k < wr.heap.size) fun k _ hk=>hk).grown hg3 fun b hb=>by cases hb
   have hb3:=hbel.grown hg3 (by omega) fun k hk=>by cases hk
   clear hown hg3 hal hgr hbel p0
   obtain ⟨C,hC⟩:∃ C,C=wr.heap.size:=⟨_,rfl⟩
   rw [←hC] at hz had hlt3 hgr3 ⊢
   clear hC
   go_wp2
   go_loopw [14] (fun v wx=>∃ out:List Nat,RowK wx (C + 1) 3 (fun _=>False) v out∧Arr wx q 3 (leftW g (isOf s) out)∧Arr wx C 4 (doneV i out)∧Grid wx (gu + 1) (fun k=>k < C) gu 87 3 (usersAt g (isOf s) i 0)∧Done g (isOf s) out∧orderS g (isOf s)=restO g (isOf s) out∧Below q w wx∧C + 1≤wx.heap.size) (fun v _=>i - lenOf v)
   case atStart=>exact ⟨[],RowK.nil,hal3,had,hgr3,Done.nil,rfl,hb3,hlt3⟩
   case round =>
    clear hal3 had hgr3 hb3 hlt3
    obtain ⟨out,hrow,hal,had,hgr,hdone,hrest,hbel,hz4⟩:=hrel
    have hz':=hz
    clear hz
    have hz:C + 1≤wr.heap.size:=hz4
    clear hz4
    obtain ⟨O,oc,rfl,ho1,ho2,_⟩:=hrow.sl
    have HRow:=Lib.hid hrow; clear hrow
    have HRest:=Lib.hid hrest; clear hrest
    have HD:=Lib.hid hdone; clear hdone
    have hom:=Nat.le_trans HD.out.most (many_le g (isOf s))
    have hmi:=many_le g (isOf s)
    have HMN:=Lib.hid (show out.length < manyS g (isOf s)→nextS g (isOf s) out=none→orderS g (isOf s)=(out,false) from fun h1 h2=>HRest.out.trans (restO_stuck HD.out h1 h2))
    by_cases hlm:out.length < manyS g (isOf s)
    ·have HLM:=Lib.hid hlm
     generalize manyS g (isOf s)=MM at hlm hmi
     have hlmI:(out.length:Int) < (MM:Int):=by omega
     go_wp2
     go_loop [15] (fun t=>∃ k:Nat,k≤i∧t=.int .i64 k∧∀ j,j < k→freeS g (isOf s) out j=false) (fun t=>i - (intOf t).toNat)
     case atStart=>exact ⟨0,Nat.zero_le _,rfl,fun j hj=>absurd hj (by omega)⟩
     case round =>
      obtain ⟨k,hk,rfl,hall⟩:=hrel
      have H:=Lib.hid hall; clear hall
      by_cases hlt:k < i
      ·have hkI:(k:Int) < (i:Int):=by omega
       obtain ⟨bs,os,x,eB,_,hx,cs⟩:=(hin.keep (keep_lt hbel)).bool hlt
       cases eB
       have hc1:=had.cell (done_at out hlt)
       have hc2:=hal.cell (leftW_at (g:=g) (inn:=isOf s) (out:=out) (j:=k) (by omega))
       cases hd:out.contains k
       ·rw [hd] at hc1
        cases x
        ·have hno:isOf s k=false:=by rw [isOf,hx]; rfl
         have HS:=Lib.hid (upto_step H.out (free_no1 (g:=g) (out:=out) hx))
         have hc3:wr.cell? ⟨q,k,none⟩=some (.int .i64 0):=by rw [hc2,hno]; rfl
         clear hc2 hx hno
         go_wp2
         go_round
         case rel=>exact ⟨k + 1,by omega,by go_num,HS.out⟩
         case measure=>simp [intOf]; omega
        ·have hyes:isOf s k=true:=by rw [isOf,hx]; rfl
         have HFR:=Lib.hid (free_is (g:=g) hx hd)
         have hc3:wr.cell? ⟨q,k,none⟩=some (.int .i64 (leftN g out k:Nat)):=by rw [hc2,hyes]; rfl
         clear hc2 hx hyes
         by_cases hL:leftN g out k=0
         ·have HN:=Lib.hid (next_is (g:=g) (inn:=isOf s) (out:=out) (by omega:k < g.length) (by rw [HFR.out]; exact left_zero.1 hL) H.out)
          rw [hL] at hc3
          clear hL
          have hkI2:¬ (k:Int)=(i:Int):=by omega
          have hlt4:=(undone_iff HD.out).1 (next_undone HN.out)
          have hle4:=many_le g (isOf s)
          have hknot:k ∉ out:=(free_parts (next_some HN.out).2.1).2.1
          have HKN:=Lib.hid hknot; clear hknot
          have hfd:=had.frozen k
          have had2:=had.set k (.bool true)
          rw [done_set] at had2
          have hal2:=hal.other (p:=⟨C,k,none⟩) (by show q≠C; omega) (.bool true)
          have hgr2:=hgr.other (p:=⟨C,k,none⟩) (by show gu≠C; omega) (.inr (by show ¬ C < C; omega)) (.bool true)
          have hb2:=hbel.setCell (p:=⟨C,k,none⟩) (by show q≤C; omega) (.bool true)
          have row2:RowK (wr.setCell ⟨C,k,none⟩ (.bool true)) (C + 1) 3 (fun _=>False) (.slice O out.length oc) out:=HRow.out.keep (by simp) (fun _ hh=>hh.elim) fun b hb=>heap_setCell_other wr ⟨C,k,none⟩ b _ (by have:=(HRow.out.kind b hb).1; show b≠C; omega)
          have hz2:C + 1≤(wr.setCell ⟨C,k,none⟩ (.bool true)).heap.size:=by rw [size_setCell']; exact hz
          have hW9:Below (wr.setCell ⟨C,k,none⟩ (.bool true)).heap.size (wr.setCell ⟨C,k,none⟩ (.bool true)) ((wr.setCell ⟨C,k,none⟩ (.bool true)).alloc (.cells #[.int .i64 (k:Int)] 3)):=fr_alloc (fr_refl _) _
          have row9:=row2.call hW9
          have hal9:=hal2.call hW9
          have had9:=had2.call hW9
          have hgr9:=hgr2.call hW9
          have hb9:=hb2.trans (hW9.mono (by omega:q≤_))
          obtain ⟨_,rows,hrows,hown9,hrep⟩:=id row9
          have hnew:∀ (j':Nat) u,([.int .i64 (k:Int)]:List Value)[j']?=some u→((wr.setCell ⟨C,k,none⟩ (.bool true)).alloc (.cells #[.int .i64 (k:Int)] 3)).cell? ((⟨wr.heap.size,0,none⟩:Addr).add j')=some u:=fun j' u hu=>by
           have:=new_cells (wr.setCell ⟨C,k,none⟩ (.bool true)) #[.int .i64 (k:Int)] 3 j' u hu
           rwa [size_setCell'] at this
          clear row2 row9 hal2 had2 hgr2 hal had hgr
          go_wp2_with (at_builtin; refine wpList_append_lies _ rfl _ _ 87 rfl (C + 1) 3 i0 _ 1 8 Tryz.underlying87 hi0 hz0 hz1 hz2' rfl (by decide) _ out.length _ rfl hown9 ⟨wr.heap.size,0,none⟩ 1 1 [.int .i64 (k:Int)] rfl rfl hnew (fun u hu=>(by simp only [List.mem_cons,List.mem_nil_iff,or_false] at hu; subst hu; rfl)) (by decide) (by unfold maxLen; omega) (by omega) (by rw [World.size_alloc]; omega) _ rfl ?_)
          intro g' cap w5 hown5 hg5 hat5 hlt5
          have row5:=RowK.append (x:=k) (r:=[.int .i64 (k:Int)]) (fun k hh=>hh.elim) hrows hrep ⟨rfl,by unfold maxLen; omega⟩ (fun _ _ hh=>hh) hg5 hown5
          have hoth:∀ b,Value.ownBlock (.slice O out.length oc)=some b→C + 1≤b:=fun b hb=>(HRow.out.kind b hb).1
          have hal5:=hal9.grown hg5 fun e=>by have:=hoth q e; omega
          have had5:=had9.grown hg5 fun e=>by have:=hoth C e; omega
          have hgr5:=hgr9.grown hg5 fun b hb=>by have:=hoth b hb; exact ⟨by omega,by omega⟩
          have hb5:=hb9.grown hg5 (by rw [World.size_alloc]; omega) fun b hb=>by have:=hoth b hb; omega
          have hz5:=hg5.size
          rw [World.size_alloc] at hz5
          have hz6:C + 1≤w5.heap.size:=by omega
          obtain ⟨v',cv',hrow',_,_⟩:=hgr5.at (users_end (inn:=isOf s) (i:=i) (by omega:k < g.length))
          obtain ⟨O',oc',rfl,_,_,hsu⟩:=hrow'.sl
          have HR':=Lib.hid hrow'; clear hrow'
          have hul:=filter_le i (fun j=>isOf s j && (needAt g j).contains k)
          have HUS:=Lib.hid (show ∀ u,u∈((List.range i).filter fun j=>isOf s j && (needAt g j).contains k)→u < i from fun u hu=>users_lt hu)
          have HUN:=Lib.hid (show ((List.range i).filter fun j=>isOf s j && (needAt g j).contains k).Nodup from (List.nodup_range).filter _)
          have HUE:=Lib.hid (show leftX g (isOf s) out ((List.range i).filter fun j=>isOf s j && (needAt g j).contains k)=leftW g (isOf s) (out ++ [k]) by rw [←leftX_end hnd HKN.out,hnn])
          generalize ((List.range i).filter fun j=>isOf s j && (needAt g j).contains k)=us at hsu HR' hul HUS HUN HUE cv'
          have hal6:Arr w5 q 3 (leftX g (isOf s) out (us.take 0)):=by rw [List.take_zero,leftX_start]; exact hal5
          have HA6:=Lib.hid hal6
          have HD5:=Lib.hid had5
          have HG5:=Lib.hid hgr5
          have HR5:=Lib.hid row5
          have HN2:=Lib.hid (show Done g (isOf s) (out ++ [k])∧orderS g (isOf s)=restO g (isOf s) (out ++ [k]) from ⟨HD.out.more HN.out,HRest.out.trans (restO_next HD.out HN.out)⟩)
          have hum:us.length≤9223372036854775807:=by omega
          clear hal6 hal5 had5 hgr5 row5 hown9 hown5 hg5 hat5 hrep hal9 had9 hgr9 hnew hoth hfd hb2 hz2 hW9 hb9
          go_wp2
          go_loopw [129] (fun iv wx=>∃ t:Nat,t≤us.length∧iv=.int .i64 t∧Arr wx q 3 (leftX g (isOf s) out (us.take t))∧(∀ b,b≠q→wx.heap[b]?=w5.heap[b]?)∧wx.heap.size=w5.heap.size∧Below q w wx) (fun iv _=>us.length - (intOf iv).toNat)
          case atStart=>exact ⟨0,Nat.zero_le _,rfl,HA6.out,fun _ _=>rfl,rfl,hb5⟩
          case round =>
           clear hb5 cv'
           obtain ⟨t,ht,rfl,hax,hkeep,hsz,hbx⟩:=hrel
           have HK:=Lib.hid hkeep; clear hkeep
           by_cases htn:t < us.length
           ·obtain ⟨b3,o3,u,rfl,_,hu,hum2,cu⟩:=hsu.nat htn
            have hb3q:b3≠q:=by have:=(HR'.out.kind b3 rfl).1; omega
            have cu2:=(World.cell?_of_block (a:=⟨b3,o3 + t,none⟩) (HK.out b3 hb3q)).trans cu
            have hui:=HUS.out u (List.mem_of_getElem? hu)
            have hnot:=take_not HUN.out hu
            have hcl:=hax.cell (leftX_at (g:=g) (inn:=isOf s) (out:=out) (by omega:u < g.length) hnot)
            have hfl:=hax.frozen u
            have hL:(if isOf s u=true then leftN g out u else 0)≤1000000:=by
             have h1:=leftN_le g out u
             have h2:=need_le hw hnd u
             split <;> omega
            have hset:=hax.set u (.int .i64 ((((if isOf s u=true then leftN g out u else 0:Nat)):Int) - 1))
            rw [leftX_set,show us.take t ++ [u]=us.take (t + 1) by rw [List.take_add_one,hu]; rfl] at hset
            generalize (if isOf s u=true then leftN g out u else 0)=Lu at hcl hL hset
            have HS:=Lib.hid hset
            have hbs:=hbx.setCell (p:=⟨q,u,none⟩) (Nat.le_refl q) (.int .i64 ((Lu:Int) - 1))
            have HK2:=Lib.hid (show ∀ b,b≠q→(wr.setCell ⟨q,u,none⟩ (.int .i64 ((Lu:Int) - 1))).heap[b]?=w5.heap[b]? from fun b hb=>(heap_setCell_other wr ⟨q,u,none⟩ b _ hb).trans (HK.out b hb))
            have hs2:(wr.setCell ⟨q,u,none⟩ (.int .i64 ((Lu:Int) - 1))).heap.size=w5.heap.size:=by rw [size_setCell']; exact hsz
            have HS2:=Lib.hid hs2
            have huI:(u:Int) < (i:Int):=by omega
            have htI:(t:Int) < (us.length:Int):=by omega
            have gL:=IntWalk.i64_in ((Lu:Int) - 1) ⟨by omega,by omega⟩
            clear hset hax hu hnot cu hs2 hsz
            go_wp2
            go_roundw
            case rel=>exact ⟨t + 1,by omega,by go_num,HS.out,HK2.out,HS2.out,hbs⟩
            case measure=>simp [intOf]; omega
           ·have hax2:Arr wr q 3 (leftW g (isOf s) (out ++ [k])):=by
             rw [List.take_of_length_le (by omega),HUE.out] at hax; exact hax
            have hadx:=HD5.out.keep (HK.out C (by omega))
            have hgrx:Grid wr (gu + 1) (fun k=>k < C) gu 87 3 (usersAt g (isOf s) i 0):=HG5.out.keep (by omega) (HK.out gu (by omega)) fun b hb _ _=>HK.out b (by omega)
            have hrx:=HR5.out.keep (w':=wr) (by omega) (fun _ hh=>hh.elim) fun b hb=>HK.out b (by have:=(HR5.out.kind b hb).1; omega)
            have HX:=Lib.hid (And.intro hax2 (And.intro hadx (And.intro hgrx hrx)))
            have hzx:C + 1≤wr.heap.size:=by omega
            clear hax hax2 hadx hgrx hrx hsz
            go_wp2
            go_roundw
            case rel=>exact ⟨out ++ [k],HX.out.2.2.2,HX.out.1,HX.out.2.1,HX.out.2.2.1,HN2.out.1,HN2.out.2,hbx,hzx⟩
            case measure=>simp only [lenOf]; omega
         ·have HS:=Lib.hid (upto_step H.out (show freeS g (isOf s) out k=false by
           rw [HFR.out]
           cases hr:readyS g out k with
           | false=>rfl
           | true=>exact absurd (left_zero.2 hr) hL))
          have hLI:(0:Int) < (leftN g out k:Int):=by omega
          generalize leftN g out k=LL at hc3 hLI
          clear hL
          go_wp2
          go_round
          case rel=>exact ⟨k + 1,by omega,by go_num,HS.out⟩
          case measure=>simp [intOf]; omega
       ·rw [hd] at hc1
        have HS:=Lib.hid (upto_step H.out (free_no2 (g:=g) (s:=s) hd))
        clear hx
        go_wp2
        go_round
        case rel=>exact ⟨k + 1,by omega,by go_num,HS.out⟩
        case measure=>simp [intOf]; omega
      ·have hki:i=k:=by omega
       subst hki
       have HV:=Lib.hid (HMN.out HLM.out (next_none.2 fun j hj=>H.out j (by omega)))
       go_wp2
       go_ret2
       refine ⟨.slice none 0 0,?_,?_,hbel⟩
       ·rw [HV.out]; rfl
       ·rw [HV.out]; exact RowK.nil
    ·have HV:=Lib.hid (HRest.out.trans (restO_full HD.out hlm))
     generalize manyS g (isOf s)=MM at hlm hmi ⊢
     have hlmI:¬ (out.length:Int) < (MM:Int):=by omega
     go_wp2
     go_ret2
     refine ⟨.slice O out.length oc,?_,?_,hbel⟩
     ·rw [HV.out]; rfl
     ·rw [HV.out]; exact HRow.out.weaken (by omega)
end Go.Proofs.Sm
