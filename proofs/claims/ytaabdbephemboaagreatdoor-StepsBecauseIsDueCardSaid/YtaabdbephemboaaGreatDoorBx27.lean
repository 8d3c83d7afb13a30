/- Words and walks that the claims share, part 27. -/
import Derived.Test.YtaabdbephemboaaGreatDoorBx1
import Derived.Test.YtaabdbephemboaaGreatDoorBx9
import Derived.Test.YtaabdbephemboaaGreatDoorBx10
import Derived.Test.YtaabdbephemboaaGreatDoorBx11
import Derived.Test.YtaabdbephemboaaGreatDoorBx25
import Derived.Test.YtaabdbephemboaaGreatDoorBx26
namespace Go.Proofs.Sm
open Go.RowKit
def allTrue:Nat→Bool:=fun _=>true
theorem free_no2T {g:Graph} {out:List Nat} {k:Nat} (h:out.contains k=true):freeS g allTrue out k=false:=by rw [freeS,h]; simp
theorem free_isT {g:Graph} {out:List Nat} {k:Nat} (h1:out.contains k=false):freeS g allTrue out k=readyS g out k:=by rw [freeS,h1,allTrue]; simp
set_option maxHeartbeats 0 in
set_option maxRecDepth 100000 in
theorem steps_order_nil (bp:Nat) (A D:Option Addr) (n c d:Nat) (g:Graph) (w:World) (hbp:bp < w.heap.size) (hp0:w.cell? ⟨bp,0,none⟩=some (.slice A n c)) (hp2:w.cell? ⟨bp,2,none⟩=some (.slice D n d))
 (hsl:Sl w (Lt w.heap.size) D n g) (hw:Within g) (hnd:∀ j,(needAt g j).Nodup) (hn:n≤1000000) :
 Calls Tryz.prog 45 #[.pointer (some ⟨bp,0,none⟩),.slice none 0 0] w fun e w'=>∃ v,e=.returned (.tuple #[v,.bool (orderS g allTrue).2])∧RowK w' w.heap.size 3 (fun _=>False) v (outOf (orderS g allTrue))∧Below w.heap.size w w':=by
 obtain ⟨b0,hb0,hbz0,hbz1,hbz2⟩:=info_parts bool_info
 obtain ⟨i0,hi0,hz0,hz1,hz2'⟩:=info_parts int_info
 obtain ⟨s0,hs0,hsz0,hsz1,hsz2⟩:=info_parts ints_info
 have hm:n≤9223372036854775807:=by omega
 have hng:g.length=n:=hsl.1
 obtain ⟨q,hq⟩:∃ q,q=w.heap.size:=⟨_,rfl⟩
 rw [←hq] at hsl hbp ⊢
 have nil1:∀ (w:World) (a:Option Addr) (n c n' c':Nat),(binOp .eql 99 (.slice a n c) (.slice none n' c')).run Tryz.prog w=.ok (.bool a.isNone) w:=fun w a n c n' c'=>Lib.run_eql_slice_nil w _ _ a n c n' c' Tryz.underlying99
 have nil2:∀ (w:World) (a:Option Addr) (n c n' c':Nat),(binOp .neq 99 (.slice a n c) (.slice none n' c')).run Tryz.prog w=.ok (.bool (!a.isNone)) w:=fun w a n c n' c'=>run_neq_slice_nil_any w _ _ a n c n' c' Tryz.underlying99
 go_enter Tryz.func45,Tryz.ntmps45
 go_wp2_with (first
  | (at_make; refine wpList_make_full _ rfl _ _ 87 rfl w.heap.size 3 i0 (.int .i64 0) 1 Tryz.underlying87 hi0 hz0 hz1 .i64 .i64 (n:Nat) (n:Nat) n rfl rfl rfl rfl (by rw [hz2']; omega) (by unfold maxLen; omega) (Nat.le_refl _) ?_; intro w1 hown hg1; have hb1:Below w.heap.size w w1:=(Below.refl _ w).grown hg1 (Nat.le_refl _) fun k hk=>by cases hk
     have p0:=(hb1.cell (p:=⟨bp,0,none⟩) (show bp < w.heap.size by omega)).trans hp0)
  | (at_make; refine wpList_make_full _ rfl _ _ 84 rfl w.heap.size 87 s0 (.slice none 0 0) 1 Tryz.underlying84 hs0 hsz0 hsz1 .i64 .i64 (n:Nat) (n:Nat) n rfl rfl rfl rfl (by rw [hsz2]; omega) (by unfold maxLen; omega) hg1.size ?_; intro w2 hown2 hg2; have p2:=((hb1.grown hg2 hg1.size fun k hk=>by cases hk).cell (p:=⟨bp,2,none⟩) (show bp < w.heap.size by omega)).trans hp2))
 rw [show ((.int .i64 0:Value).cells)=#[.int .i64 0] from rfl,made_cells] at hown
 rw [show ((.slice none 0 0:Value).cells)=#[.slice none 0 0] from rfl,made_cells] at hown2
 have ha1:=Arr.of_full hown
 have ha2:=Arr.of_full hown2
 have hlt1:=ha1.lt
 have hlt2:=ha2.lt
 have hal:=ha1.grown hg2 (by simp)
 have hb2:=hb1.grown hg2 hg1.size fun k hk=>by cases hk
 clear hown hown2 hg1 hg2 ha1 hb1 p0
 rw [←hq] at hlt1 hal hb2 ⊢
 clear hq
 obtain ⟨gu,hgu⟩:∃ gu,gu=w1.heap.size:=⟨_,rfl⟩
 rw [←hgu] at hlt1 ha2 hlt2 ⊢
 clear hgu
 have hgr0:Grid w2 (gu + 1) (fun _=>True) gu 87 3 (usersAt g allTrue 0 0):=by rw [users_start,hng]; exact Grid.made ha2 (Nat.lt_succ_self gu)
 have hal0:Arr w2 q 3 (leftV g allTrue 0):=by rw [leftV_start,hng]; exact hal
 clear ha2 hal
 go_wp2
 go_loopw [8,35] (fun mv iv wr=>∃ i:Nat,i≤n∧iv=.int .i64 i∧mv=.int .i64 (((List.range i).filter allTrue).length:Nat)∧Arr wr q 3 (leftV g allTrue i)∧Grid wr (gu + 1) (fun _=>True) gu 87 3 (usersAt g allTrue i 0)∧Below q w wr∧gu + 1≤wr.heap.size) (fun _ iv _=>n - (intOf iv).toNat)
 case atStart=>exact ⟨0,Nat.zero_le _,rfl,rfl,hal0,hgr0,hb2,hlt2⟩
 case round =>
  clear hal0 hgr0 hb2 hlt2 p2
  obtain ⟨i,hi,rfl,rfl,hal,hgr,hbel,hz⟩:=hrel
  by_cases hlt:i < n
  ·have hiI:(i:Int) < (n:Int):=by omega
   obtain ⟨bD,oD,r,A',n',c',rfl,_,hr,_,_,hslr,cD⟩:=(hsl.keep (keep_lt hbel)).row hlt
   have hR:=Lib.hid (need_row hr); clear hr
   ·have hyes:allTrue i=true:=rfl
    have HY:=Lib.hid hyes
    have hmany:=filter_le i allTrue
    have HM:=Lib.hid (many_step hyes)
    generalize hMM:((List.range i).filter allTrue).length=M at hmany HM ⊢
    clear hMM
    have gM:=IntWalk.i64_in ((M:Int) + 1) ⟨by omega,by omega⟩
    have HN1:=Lib.hid (show n'=(needAt g i).length by rw [hR.out,hslr.1])
    have hn'm:n'≤9223372036854775807:=hslr.2.1
    have hset:=hal.set i (.int .i64 (n':Nat))
    rw [HN1.out,leftV_set hyes,←HN1.out] at hset
    have HS:=Lib.hid hset
    have hf:=hal.frozen i
    have hc:=hal.cell (leftV_at (g:=g) (inn:=allTrue) (i:=i) (j:=i) (by omega))
    have hgr1:=hgr.other (p:=⟨q,i,none⟩) (by show gu≠q; omega) (.inl (by show q < gu + 1; omega)) (.int .i64 (n':Nat))
    have HG:=Lib.hid hgr1
    have hb1:=hbel.setCell (p:=⟨q,i,none⟩) (Nat.le_refl q) (.int .i64 (n':Nat))
    have hz1:gu + 1≤(wr.setCell ⟨q,i,none⟩ (.int .i64 (n':Nat))).heap.size:=by rw [size_setCell']; exact hz
    have hsr:=Lib.hid (fun (W:World) (hW:Below q w W)=>hslr.keep (fun a (ha:a < q)=>(hW.block a ha).trans (hbel.block a ha).symm))
    clear hset hgr hgr1 hyes hslr hal hbel hz
    rw [show (usersAt g allTrue i 0)=usersAt g allTrue i 0 from rfl] at HG
    go_wp2
    go_loopw [57] (fun iv wx=>∃ t:Nat,t≤n'∧iv=.int .i64 t∧Arr wx q 3 (leftV g allTrue (i + 1))∧Grid wx (gu + 1) (fun _=>True) gu 87 3 (usersAt g allTrue i t)∧Below q w wx∧gu + 1≤wx.heap.size) (fun iv _=>n' - (intOf iv).toNat)
    case atStart=>exact ⟨0,Nat.zero_le _,rfl,HS.out,HG.out,hb1,hz1⟩
    case round =>
     clear hc hf cD hb1 hz1 gM
     obtain ⟨t,ht,rfl,hal,hgr,hbel,hz⟩:=hrel
     by_cases htn:t < n'
     ·obtain ⟨b3,o3,k,rfl,_,hk,hkm,ck⟩:=(hsr.out wr hbel).nat htn
      have hkn:(needAt g i)[t]?=some k:=by rw [hR.out]; exact hk
      have hki:k < n:=by rw [←hng]; exact hw i k (List.mem_of_getElem? hkn)
      have hkI:(k:Int) < (n:Int):=by omega
      have htI:(t:Int) < (n':Int):=by omega
      have hnot:=take_not (hnd i) hkn
      have HU:=Lib.hid (users_set (inn:=allTrue) (hnd i) hkn)
      obtain ⟨v,cv,hrow,_,hput⟩:=hgr.at (users_row (inn:=allTrue) (i:=i) (t:=t) (by omega:k < g.length) hnot)
      have HP:=Lib.hid hput; clear hput hk hkn hnot
      have hfv:∃ vs,Arr wr gu 87 vs:=by obtain ⟨vs,hv,_⟩:=hgr.vals; exact ⟨vs,hv⟩
      obtain ⟨O,oc,rfl,ho1,ho2,_⟩:=hrow.sl
      have hle:=filter_le i (fun j=>allTrue j && (needAt g j).contains k)
      generalize hrr:((List.range i).filter fun j=>allTrue j && (needAt g j).contains k)=rr at hrow HP ho1 hle HU cv
      clear hrr
      have hW9:Below wr.heap.size wr (wr.alloc (.cells #[.int .i64 (i:Int)] 3)):=fr_alloc (fr_refl wr) _
      have row9:=hrow.call hW9
      have hb9:=hbel.trans (hW9.mono (by omega:q≤_))
      obtain ⟨_,rows,hrows,hown9,hrep⟩:=id row9
      have hzz:=hW9.size
      clear row9 hgr
      go_wp2_with (at_builtin; refine wpList_append_lies _ rfl _ _ 87 rfl (gu + 1) 3 i0 _ 1 8 Tryz.underlying87 hi0 hz0 hz1 hz2' rfl (by decide) _ rr.length _ rfl hown9 ⟨wr.heap.size,0,none⟩ 1 1 [.int .i64 (i:Int)] rfl rfl (new_cells wr #[_] _) (fun u hu=>(by simp only [List.mem_cons,List.mem_nil_iff,or_false] at hu; subst hu; rfl)) (by decide) (by unfold maxLen; omega) (by omega) (by omega) _ rfl ?_)
      intro g' cap w5 hown5 hg5 hat5 hlt5
      have row5:=RowK.append (x:=i) (r:=[.int .i64 (i:Int)]) (fun k hh=>hh.elim) hrows hrep ⟨rfl,by unfold maxLen; omega⟩ (fun _ _ hh=>hh) hg5 hown5
      have hz5:=hg5.size
      have hG5:=HP.out w5 _ (rr ++ [i]) (by omega) (fun k' hk'=>(hg5.block k' (by omega) fun e=>hk'.2 e.symm).trans (hW9.block k' hk'.1)) row5 (fun b hb=>⟨trivial,by
       obtain rfl:=slice_own6 hb
       rcases hat5 with h1 | h1
       ·exact .inl h1
       ·exact .inr (by show wr.heap.size≤g'; omega)⟩)
      rw [HU.out] at hG5
      have keep5:∀ b,b≤gu→w5.heap[b]?=wr.heap[b]?:=fun b hb=>(hg5.block b (by omega) fun e=>by have:=(hrow.kind b e.symm).1; omega).trans (hW9.block b (by omega))
      have hfz:w5.frozen? ⟨gu,k,none⟩=false:=by obtain ⟨vs,hv⟩:=hfv; exact (hv.keep (keep5 gu (Nat.le_refl _))).frozen k
      have hlt5':gu < w5.heap.size:=by omega
      have hcv0:w5.cell? ⟨gu,k,none⟩=some (.slice O rr.length oc):=(World.cell?_of_block (a:=⟨gu,k,none⟩) (keep5 gu (Nat.le_refl _))).trans cv
      have hal5:=(hal.keep (keep5 q (by omega))).other (p:=⟨gu,k,none⟩) (by show q≠gu; omega) (.slice (some ⟨g',0,none⟩) (rr.length + 1) cap)
      have hb5:=(hb9.grown hg5 (by omega) fun b hb=>by have:=(hrow.kind b hb).1; omega).setCell (p:=⟨gu,k,none⟩) (by show q≤gu; omega) (.slice (some ⟨g',0,none⟩) (rr.length + 1) cap)
      have hz6:gu + 1≤(w5.setCell ⟨gu,k,none⟩ (.slice (some ⟨g',0,none⟩) (rr.length + 1) cap)).heap.size:=by rw [size_setCell']; omega
      have HG2:=Lib.hid hG5
      have HA2:=Lib.hid hal5
      clear hG5 hal5 hal HP hown9 hown5 hg5 hat5 hrep row5 hrow keep5 hfv cv
      go_wp2
      go_roundw
      case rel=>exact ⟨t + 1,by omega,by go_num,HA2.out,HG2.out,hb5,hz6⟩
      case measure=>simp [intOf]; omega
     ·have hu:usersAt g allTrue i t=usersAt g allTrue (i + 1) 0:=users_next HY.out (by have:=HN1.out; omega)
      rw [hu] at hgr
      have HG2:=Lib.hid hgr; clear hgr
      have HA2:=Lib.hid hal; clear hal
      go_wp2
      go_roundw
      case rel=>exact ⟨i + 1,by omega,by go_num,by rw [HM.out]; rfl,HA2.out,HG2.out,hbel,hz⟩
      case measure=>simp [intOf]; omega
  ·obtain rfl:i=n:=by omega
   have hnn:g.length=i:=hng
   rw [show leftV g allTrue i=leftW g allTrue [] by rw [←hnn,leftV_end]] at hal
   have hmany:((List.range i).filter allTrue).length=manyS g allTrue:=by rw [manyS,hnn]
   rw [hmany]
   have p0:=(hbel.cell (p:=⟨bp,0,none⟩) hbp).trans hp0
   go_wp2_with (at_make; refine wpList_make_full _ rfl _ _ 99 rfl wr.heap.size 4 b0 (.bool false) 1 Tryz.underlying99 hb0 hbz0 hbz1 .i64 .i64 (i:Nat) (i:Nat) i rfl rfl rfl rfl (by rw [hbz2]; omega) (by unfold maxLen; omega) (Nat.le_refl _) ?_; intro w3 hown hg3)
   rw [show ((.bool false:Value).cells)=#[.bool false] from rfl,made_cells,←done_start] at hown
   have had:=Arr.of_full hown
   have hlt3:=had.lt
   have hal3:=hal.grown hg3 (by simp)
   have hgr3:=(hgr.more (S':=fun k=>k < wr.heap.size) fun k _ hk=>hk).grown hg3 fun b hb=>by cases hb
   have hb3:=hbel.grown hg3 (by omega) fun k hk=>by cases hk
   clear hown hg3 hal hgr hbel p0
   obtain ⟨C,hC⟩:∃ C,C=wr.heap.size:=⟨_,rfl⟩
   rw [←hC] at hz had hlt3 hgr3 ⊢
   clear hC
   go_wp2
   go_loopw [14] (fun v wx=>∃ out:List Nat,RowK wx (C + 1) 3 (fun _=>False) v out∧Arr wx q 3 (leftW g allTrue out)∧Arr wx C 4 (doneV i out)∧Grid wx (gu + 1) (fun k=>k < C) gu 87 3 (usersAt g allTrue i 0)∧Done g allTrue out∧orderS g allTrue=restO g allTrue out∧Below q w wx∧C + 1≤wx.heap.size) (fun v _=>i - lenOf v)
   case atStart=>exact ⟨[],RowK.nil,hal3,had,hgr3,Done.nil,rfl,hb3,hlt3⟩
   case round =>
    clear hal3 had hgr3 hb3 hlt3
    obtain ⟨out,hrow,hal,had,hgr,hdone,hrest,hbel,hz4⟩:=hrel
    have hz':=hz
    clear hz
    have hz:C + 1≤wr.heap.size:=hz4
    clear hz4
    obtain ⟨O,oc,rfl,ho1,ho2,_⟩:=hrow.sl
    have HRow:=Lib.hid hrow; clear hrow
    have HRest:=Lib.hid hrest; clear hrest
    have HD:=Lib.hid hdone; clear hdone
    have hom:=Nat.le_trans HD.out.most (many_le g allTrue)
    have hmi:=many_le g allTrue
    have HMN:=Lib.hid (show out.length < manyS g allTrue→nextS g allTrue out=none→orderS g allTrue=(out,false) from fun h1 h2=>HRest.out.trans (restO_stuck HD.out h1 h2))
    by_cases hlm:out.length < manyS g allTrue
    ·have HLM:=Lib.hid hlm
     generalize manyS g allTrue=MM at hlm hmi
     have hlmI:(out.length:Int) < (MM:Int):=by omega
     go_wp2
     go_loop [15] (fun t=>∃ k:Nat,k≤i∧t=.int .i64 k∧∀ j,j < k→freeS g allTrue out j=false) (fun t=>i - (intOf t).toNat)
     case atStart=>exact ⟨0,Nat.zero_le _,rfl,fun j hj=>absurd hj (by omega)⟩
     case round =>
      obtain ⟨k,hk,rfl,hall⟩:=hrel
      have H:=Lib.hid hall; clear hall
      by_cases hlt:k < i
      ·have hkI:(k:Int) < (i:Int):=by omega
       have hc1:=had.cell (done_at out hlt)
       have hc2:=hal.cell (leftW_at (g:=g) (inn:=allTrue) (out:=out) (j:=k) (by omega))
       cases hd:out.contains k
       ·rw [hd] at hc1
        ·have hyes:allTrue k=true:=rfl
         have HFR:=Lib.hid (free_isT (g:=g) hd)
         have hc3:wr.cell? ⟨q,k,none⟩=some (.int .i64 (leftN g out k:Nat)):=by rw [hc2,hyes]; rfl
         clear hc2 hyes
         by_cases hL:leftN g out k=0
         ·have HN:=Lib.hid (next_is (g:=g) (inn:=allTrue) (out:=out) (by omega:k < g.length) (by rw [HFR.out]; exact left_zero.1 hL) H.out)
          rw [hL] at hc3
          clear hL
          have hkI2:¬ (k:Int)=(i:Int):=by omega
          have hlt4:=(undone_iff HD.out).1 (next_undone HN.out)
          have hle4:=many_le g allTrue
          have hknot:k ∉ out:=(free_parts (next_some HN.out).2.1).2.1
          have HKN:=Lib.hid hknot; clear hknot
          have hfd:=had.frozen k
          have had2:=had.set k (.bool true)
          rw [done_set] at had2
          have hal2:=hal.other (p:=⟨C,k,none⟩) (by show q≠C; omega) (.bool true)
          have hgr2:=hgr.other (p:=⟨C,k,none⟩) (by show gu≠C; omega) (.inr (by show ¬ C < C; omega)) (.bool true)
          have hb2:=hbel.setCell (p:=⟨C,k,none⟩) (by show q≤C; omega) (.bool true)
          have row2:RowK (wr.setCell ⟨C,k,none⟩ (.bool true)) (C + 1) 3 (fun _=>False) (.slice O out.length oc) out:=HRow.out.keep (by simp) (fun _ hh=>hh.elim) fun b hb=>heap_setCell_other wr ⟨C,k,none⟩ b _ (by have:=(HRow.out.kind b hb).1; show b≠C; omega)
          have hz2:C + 1≤(wr.setCell ⟨C,k,none⟩ (.bool true)).heap.size:=by rw [size_setCell']; exact hz
          have hW9:Below (wr.setCell ⟨C,k,none⟩ (.bool true)).heap.size (wr.setCell ⟨C,k,none⟩ (.bool true)) ((wr.setCell ⟨C,k,none⟩ (.bool true)).alloc (.cells #[.int .i64 (k:Int)] 3)):=fr_alloc (fr_refl _) _
          have row9:=row2.call hW9
          have hal9:=hal2.call hW9
          have had9:=had2.call hW9
          have hgr9:=hgr2.call hW9
          have hb9:=hb2.trans (hW9.mono (by omega:q≤_))
          obtain ⟨_,rows,hrows,hown9,hrep⟩:=id row9
          have hnew:∀ (j':Nat) u,([.int .i64 (k:Int)]:List Value)[j']?=some u→((wr.setCell ⟨C,k,none⟩ (.bool true)).alloc (.cells #[.int .i64 (k:Int)] 3)).cell? ((⟨wr.heap.size,0,none⟩:Addr).add j')=some u:=fun j' u hu=>by
           have:=new_cells (wr.setCell ⟨C,k,none⟩ (.bool true)) #[.int .i64 (k:Int)] 3 j' u hu
           rwa [size_setCell'] at this
          clear row2 row9 hal2 had2 hgr2 hal had hgr
          go_wp2_with (at_builtin; refine wpList_append_lies _ rfl _ _ 87 rfl (C + 1) 3 i0 _ 1 8 Tryz.underlying87 hi0 hz0 hz1 hz2' rfl (by decide) _ out.length _ rfl hown9 ⟨wr.heap.size,0,none⟩ 1 1 [.int .i64 (k:Int)] rfl rfl hnew (fun u hu=>(by simp only [List.mem_cons,List.mem_nil_iff,or_false] at hu; subst hu; rfl)) (by decide) (by unfold maxLen; omega) (by omega) (by rw [World.size_alloc]; omega) _ rfl ?_)
          intro g' cap w5 hown5 hg5 hat5 hlt5
          have row5:=RowK.append (x:=k) (r:=[.int .i64 (k:Int)]) (fun k hh=>hh.elim) hrows hrep ⟨rfl,by unfold maxLen; omega⟩ (fun _ _ hh=>hh) hg5 hown5
          have hoth:∀ b,Value.ownBlock (.slice O out.length oc)=some b→C + 1≤b:=fun b hb=>(HRow.out.kind b hb).1
          have hal5:=hal9.grown hg5 fun e=>by have:=hoth q e; omega
          have had5:=had9.grown hg5 fun e=>by have:=hoth C e; omega
          have hgr5:=hgr9.grown hg5 fun b hb=>by have:=hoth b hb; exact ⟨by omega,by omega⟩
          have hb5:=hb9.grown hg5 (by rw [World.size_alloc]; omega) fun b hb=>by have:=hoth b hb; omega
          have hz5:=hg5.size
          rw [World.size_alloc] at hz5
          have hz6:C + 1≤w5.heap.size:=by omega
          obtain ⟨v',cv',hrow',_,_⟩:=hgr5.at (users_end (inn:=allTrue) (i:=i) (by omega:k < g.length))
          obtain ⟨O',oc',rfl,_,_,hsu⟩:=hrow'.sl
          have HR':=Lib.hid hrow'; clear hrow'
          have hul:=filter_le i (fun j=>allTrue j && (needAt g j).contains k)
          have HUS:=Lib.hid (show ∀ u,u∈((List.range i).filter fun j=>allTrue j && (needAt g j).contains k)→u < i from fun u hu=>users_lt hu)
          have HUN:=Lib.hid (show ((List.range i).filter fun j=>allTrue j && (needAt g j).contains k).Nodup from (List.nodup_range).filter _)
          have HUE:=Lib.hid (show leftX g allTrue out ((List.range i).filter fun j=>allTrue j && (needAt g j).contains k)=leftW g allTrue (out ++ [k]) by rw [←leftX_end hnd HKN.out,hnn])
          generalize ((List.range i).filter fun j=>allTrue j && (needAt g j).contains k)=us at hsu HR' hul HUS HUN HUE cv'
          have hal6:Arr w5 q 3 (leftX g allTrue out (us.take 0)):=by rw [List.take_zero,leftX_start]; exact hal5
          have HA6:=Lib.hid hal6
          have HD5:=Lib.hid had5
          have HG5:=Lib.hid hgr5
          have HR5:=Lib.hid row5
          have HN2:=Lib.hid (show Done g allTrue (out ++ [k])∧orderS g allTrue=restO g allTrue (out ++ [k]) from ⟨HD.out.more HN.out,HRest.out.trans (restO_next HD.out HN.out)⟩)
          have hum:us.length≤9223372036854775807:=by omega
          clear hal6 hal5 had5 hgr5 row5 hown9 hown5 hg5 hat5 hrep hal9 had9 hgr9 hnew hoth hfd hb2 hz2 hW9 hb9
          go_wp2
          go_loopw [129] (fun iv wx=>∃ t:Nat,t≤us.length∧iv=.int .i64 t∧Arr wx q 3 (leftX g allTrue out (us.take t))∧(∀ b,b≠q→wx.heap[b]?=w5.heap[b]?)∧wx.heap.size=w5.heap.size∧Below q w wx) (fun iv _=>us.length - (intOf iv).toNat)
          case atStart=>exact ⟨0,Nat.zero_le _,rfl,HA6.out,fun _ _=>rfl,rfl,hb5⟩
          case round =>
           clear hb5 cv'
           obtain ⟨t,ht,rfl,hax,hkeep,hsz,hbx⟩:=hrel
           have HK:=Lib.hid hkeep; clear hkeep
           by_cases htn:t < us.length
           ·obtain ⟨b3,o3,u,rfl,_,hu,hum2,cu⟩:=hsu.nat htn
            have hb3q:b3≠q:=by have:=(HR'.out.kind b3 rfl).1; omega
            have cu2:=(World.cell?_of_block (a:=⟨b3,o3 + t,none⟩) (HK.out b3 hb3q)).trans cu
            have hui:=HUS.out u (List.mem_of_getElem? hu)
            have hnot:=take_not HUN.out hu
            have hcl:=hax.cell (leftX_at (g:=g) (inn:=allTrue) (out:=out) (by omega:u < g.length) hnot)
            have hfl:=hax.frozen u
            have hL:(if allTrue u=true then leftN g out u else 0)≤1000000:=by
             have h1:=leftN_le g out u
             have h2:=need_le hw hnd u
             split <;> omega
            have hset:=hax.set u (.int .i64 ((((if allTrue u=true then leftN g out u else 0:Nat)):Int) - 1))
            rw [leftX_set,show us.take t ++ [u]=us.take (t + 1) by rw [List.take_add_one,hu]; rfl] at hset
            generalize (if allTrue u=true then leftN g out u else 0)=Lu at hcl hL hset
            have HS:=Lib.hid hset
            have hbs:=hbx.setCell (p:=⟨q,u,none⟩) (Nat.le_refl q) (.int .i64 ((Lu:Int) - 1))
            have HK2:=Lib.hid (show ∀ b,b≠q→(wr.setCell ⟨q,u,none⟩ (.int .i64 ((Lu:Int) - 1))).heap[b]?=w5.heap[b]? from fun b hb=>(heap_setCell_other wr ⟨q,u,none⟩ b _ hb).trans (HK.out b hb))
            have hs2:(wr.setCell ⟨q,u,none⟩ (.int .i64 ((Lu:Int) - 1))).heap.size=w5.heap.size:=by rw [size_setCell']; exact hsz
            have HS2:=Lib.hid hs2
            have huI:(u:Int) < (i:Int):=by omega
            have htI:(t:Int) < (us.length:Int):=by omega
            have gL:=IntWalk.i64_in ((Lu:Int) - 1) ⟨by omega,by omega⟩
            clear hset hax hu hnot cu hs2 hsz
            go_wp2
            go_roundw
            case rel=>exact ⟨t + 1,by omega,by go_num,HS.out,HK2.out,HS2.out,hbs⟩
            case measure=>simp [intOf]; omega
           ·have hax2:Arr wr q 3 (leftW g allTrue (out ++ [k])):=by
             rw [List.take_of_length_le (by omega),HUE.out] at hax; exact hax
            have hadx:=HD5.out.keep (HK.out C (by omega))
            have hgrx:Grid wr (gu + 1) (fun k=>k < C) gu 87 3 (usersAt g allTrue i 0):=HG5.out.keep (by omega) (HK.out gu (by omega)) fun b hb _ _=>HK.out b (by omega)
            have hrx:=HR5.out.keep (w':=wr) (by omega) (fun _ hh=>hh.elim) fun b hb=>HK.out b (by have:=(HR5.out.kind b hb).1; omega)
            have HX:=Lib.hid (And.intro hax2 (And.intro hadx (And.intro hgrx hrx)))
            have hzx:C + 1≤wr.heap.size:=by omega
            clear hax hax2 hadx hgrx hrx hsz
            go_wp2
            go_roundw
            case rel=>exact ⟨out ++ [k],HX.out.2.2.2,HX.out.1,HX.out.2.1,HX.out.2.2.1,HN2.out.1,HN2.out.2,hbx,hzx⟩
            case measure=>simp only [lenOf]; omega
         ·have HS:=Lib.hid (upto_step H.out (show freeS g allTrue out k=false by
           rw [HFR.out]
           cases hr:readyS g out k with
           | false=>rfl
           | true=>exact absurd (left_zero.2 hr) hL))
          have hLI:(0:Int) < (leftN g out k:Int):=by omega
          generalize leftN g out k=LL at hc3 hLI
          clear hL
          go_wp2
          go_round
          case rel=>exact ⟨k + 1,by omega,by go_num,HS.out⟩
          case measure=>simp [intOf]; omega
       ·rw [hd] at hc1
        have HS:=Lib.hid (upto_step H.out (free_no2T (g:=g) hd))
        go_wp2
        go_round
        case rel=>exact ⟨k + 1,by omega,by go_num,HS.out⟩
        case measure=>simp [intOf]; omega
      ·have hki:i=k:=by omega
       subst hki
       have HV:=Lib.hid (HMN.out HLM.out (next_none.2 fun j hj=>H.out j (by omega)))
       go_wp2
       go_ret2
       refine ⟨.slice none 0 0,?_,?_,hbel⟩
       ·rw [HV.out]; rfl
       ·rw [HV.out]; exact RowK.nil
    ·have HV:=Lib.hid (HRest.out.trans (restO_full HD.out hlm))
     generalize manyS g allTrue=MM at hlm hmi ⊢
     have hlmI:¬ (out.length:Int) < (MM:Int):=by omega
     go_wp2
     go_ret2
     refine ⟨.slice O out.length oc,?_,?_,hbel⟩
     ·rw [HV.out]; rfl
     ·rw [HV.out]; exact HRow.out.weaken (by omega)
end Go.Proofs.Sm
namespace Go.Proofs.Sm
open Go.RowKit
set_option maxHeartbeats 4000000 in
set_option maxRecDepth 100000 in
theorem steps_checkRule (x:RuleV) (A1 A2 A3 A4 A5:Option Addr) (n1 n2 n3 n4 n5 c1 c2 c3 c4 c5:Nat) (w:World) (hE:Env w) (h:RuleIs w x A1 n1 A2 n2 A3 n3 A4 n4 A5 n5) :
 Calls Tryz.prog 53 #[.agg #[.string x.name,.string x.action.tool,.slice A1 n1 c1,.slice A2 n2 c2,.slice A3 n3 c3,.slice A4 n4 c4,.int .i64 x.action.time,.slice A5 n5 c5]] w fun e w'=>e=.returned (.int .i64 (checkRuleS x))∧Below w.heap.size w w':=by
 have hm:n5≤9223372036854775807:=h.ins.2.1
 have HL:=Lib.hid h.ins.1
 obtain ⟨g,hg⟩:∃ g,g=w.heap.size:=⟨_,rfl⟩
 go_enter Tryz.func53,Tryz.ntmps53
 go_wp2_with fail
 generalize hW0:w.alloc (.cells #[.string x.name,.string x.action.tool,.slice A1 n1 c1,.slice A2 n2 c2,.slice A3 n3 c3,.slice A4 n4 c4,.int .i64 x.action.time,.slice A5 n5 c5] 60)=W
 have hA0:Arr W w.heap.size 60 [.string x.name,.string x.action.tool,.slice A1 n1 c1,.slice A2 n2 c2,.slice A3 n3 c3,.slice A4 n4 c4,.int .i64 x.action.time,.slice A5 n5 c5]:=by rw [←hW0]; exact heap_alloc_new w _
 have hb0:Below w.heap.size w W:=by rw [←hW0]; exact fr_alloc (fr_refl w) _
 clear hW0
 have hE0:=hE.then_ hb0
 have h0:=h.then_ hb0
 refine (blob_IsPath x.name W hE0).mono ?_
 rintro e w1 ⟨rfl,hb1⟩
 have hbel1:=fr_call hb0 hb1
 have hA1:=hA0.call hb1
 have h1:=h0.then_ hb1
 have hE1:=hE0.then_ hb1
 rw [←hg] at hA1 ⊢
 clear hA0 h0 hE0 hg
 cases hp:isPathS x.name
 ·have HV:=Lib.hid (rule_path hp)
  go_wp2
  go_ret
  exact ⟨ret_int HV.out.symm,hbel1⟩
 have HP:=Lib.hid hp; clear hp
 have p0:=hA1.cell (i:=0) rfl
 have p1:=hA1.cell (i:=1) rfl
 have p2:=hA1.cell (i:=2) rfl
 have p3:=hA1.cell (i:=3) rfl
 have p4:=hA1.cell (i:=4) rfl
 have p5:=hA1.cell (i:=5) rfl
 have p6:=hA1.cell (i:=6) rfl
 have HC:=Lib.hid (act_CheckAction x.action A1 n1 c1 A2 n2 c2 A3 n3 c3 A4 n4 c4 w1 hE1 h1.act)
 unfold actVal at HC
 have hgl:=hA1.lt
 go_wp2_with fail
 refine HC.out.mono ?_
 rintro e w2 ⟨rfl,hb2⟩
 have hbel2:=fr_call hbel1 hb2
 have hA2:=hA1.call hb2
 have h2:=h1.then_ hb2
 have hE2:=hE1.then_ hb2
 clear HC hA1 h1 hE1 p0 p1 p2 p3 p4 p5 p6 hgl hb2 hb1 hbel1 hb0
 cases h00:(checkActionS x.action == 0)
 ·have hne:checkActionS x.action≠0:=by simpa using h00
  have hbn:(checkActionS x.action != 0)=true:=by simpa using h00
  have HV:=Lib.hid (rule_act HP.out hne); clear hne
  go_wp2
  go_ret
  exact ⟨ret_int HV.out.symm,hbel2⟩
 have hz:checkActionS x.action=0:=by simpa using h00
 have hbn:(checkActionS x.action != 0)=false:=by simpa using h00
 have HZ:=Lib.hid hz; clear hz
 have p7:=hA2.cell (i:=7) rfl
 have hgl:=hA2.lt
 by_cases hbig:(1000:Int) < (n5:Int)
 ·have HV:=Lib.hid (rule_large HP.out HZ.out (by rw [HL.out]; exact hbig))
  go_wp2
  go_ret
  exact ⟨ret_int HV.out.symm,hbel2⟩
 have HR:=Lib.hid (rule_rest HP.out HZ.out (by rw [HL.out]; exact hbig))
 go_wp2
 go_loopw [23] (fun i wr=>∃ k:Nat,k≤n5∧i=.int .i64 k∧listErr outErr id none x.inputs=listErr outErr id (ahead id x.inputs k) (x.inputs.drop k)∧Below w2.heap.size w2 wr) (fun i _=>n5 - (intOf i).toNat)
 case atStart=>exact ⟨0,Nat.zero_le _,rfl,rfl,Below.refl _ _⟩
 case round =>
  obtain ⟨k,hk,rfl,hd,hbel⟩:=hrel
  have Hr:=Lib.hid hd; clear hd
  have hbw:=fr_call hbel2 hbel
  have hAr:=hA2.call hbel
  have hsl:=sl_call h2.ins hbel (Nat.le_refl _)
  have hEr:=hE2.then_ hbel
  have c7:=hAr.cell (i:=7) rfl
  have hgr:=hAr.lt
  clear p7
  by_cases hlt:k < n5
  ·obtain ⟨b,o,y,rfl,hb,hx,hxs,c0⟩:=hsl.str hlt
   have HX:=Lib.hid hx; clear hx
   have hkI:(k:Int) < (n5:Int):=by omega
   cases hp:isPathS y
   ·have HV:=Lib.hid (list_stop (key:=id) HX.out (outErr_no (prev:=ahead id x.inputs k) hp) (by decide))
    go_wp2_with fail
    refine (blob_IsPath _ _ hEr).mono ?_
    rintro e w1 ⟨rfl,hb1⟩
    have q7:=(hAr.call hb1).cell (i:=7) rfl
    go_wp2
    go_ret
    exact ⟨ret_int (by rw [HR.out,Hr.out,HV.out]),fr_call hbw hb1⟩
   have HO:=Lib.hid (outErr_rest6 (prev:=ahead id x.inputs k) hp)
   by_cases hk0:0 < k
   ·have hg0:decide ((0:Int) < (k:Int))=true:=by simpa using hk0
    obtain ⟨_,_,z,e0,_,hy,hys,d0⟩:=hsl.str (k:=k - 1) (by omega)
    cases e0
    have HA:=Lib.hid (ahead_pos (f:=id) hk0 hy); clear hy
    cases hle:leS y z
    ·have HV:=Lib.hid (show outErr (ahead id x.inputs k) y=0 by rw [HO.out,HA.out]; simp [notAfter,hle])
     have hle':=leS_false hle
     go_wp2_with fail
     refine (blob_IsPath _ _ hEr).mono ?_
     rintro e w1 ⟨rfl,hb1⟩
     have q7:=(hAr.call hb1).cell (i:=7) rfl
     have d1:w1.cell? ⟨b,o + (k - 1),none⟩=some (.string z):=by rw [hb1.cell (by exact hb)]; exact d0
     have d2:w1.cell? ⟨b,o + k,none⟩=some (.string y):=by rw [hb1.cell (by exact hb)]; exact c0
     have g1:=IntWalk.i64_in ((k:Int) - 1) ⟨by omega,by omega⟩; have g2:((k:Int) - 1).toNat=k - 1:=(by omega); have g3:(0:Int)≤(k:Int) - 1:=(by omega); have g4:(k:Int) - 1 < (n5:Int):=(by omega)
     go_wp2
     clear g1 g2 g3 g4
     go_roundw
     case rel=>exact ⟨k + 1,by omega,by go_num,by rw [Hr.out]; exact list_round HX.out HV.out,fr_call hbel hb1⟩
     case measure=>simp [intOf]; omega
    ·have HV:=Lib.hid (list_stop (key:=id) HX.out (show outErr (ahead id x.inputs k) y=8 by rw [HO.out,HA.out]; simp [notAfter,hle]) (by decide))
     have hle':=leS_true hle
     go_wp2_with fail
     refine (blob_IsPath _ _ hEr).mono ?_
     rintro e w1 ⟨rfl,hb1⟩
     have q7:=(hAr.call hb1).cell (i:=7) rfl
     have d1:w1.cell? ⟨b,o + (k - 1),none⟩=some (.string z):=by rw [hb1.cell (by exact hb)]; exact d0
     have d2:w1.cell? ⟨b,o + k,none⟩=some (.string y):=by rw [hb1.cell (by exact hb)]; exact c0
     have g1:=IntWalk.i64_in ((k:Int) - 1) ⟨by omega,by omega⟩; have g2:((k:Int) - 1).toNat=k - 1:=(by omega); have g3:(0:Int)≤(k:Int) - 1:=(by omega); have g4:(k:Int) - 1 < (n5:Int):=(by omega)
     go_wp2
     clear g1 g2 g3 g4
     go_ret
     exact ⟨ret_int (by rw [HR.out,Hr.out,HV.out]),fr_call hbw hb1⟩
   ·have hg0:decide ((0:Int) < (k:Int))=false:=by simpa using hk0
    have HV:=Lib.hid (show outErr (ahead id x.inputs k) y=0 by rw [HO.out,show ahead id x.inputs k=none by simp [ahead]; omega]; rfl)
    go_wp2_with fail
    refine (blob_IsPath _ _ hEr).mono ?_
    rintro e w1 ⟨rfl,hb1⟩
    have q7:=(hAr.call hb1).cell (i:=7) rfl
    go_wp2
    go_roundw
    case rel=>exact ⟨k + 1,by omega,by go_num,by rw [Hr.out]; exact list_round HX.out HV.out,fr_call hbel hb1⟩
    case measure=>simp [intOf]; omega
  ·have HZ2:=Lib.hid (show listErr outErr id none x.inputs=0 by rw [Hr.out,list_end (by rw [HL.out]; omega)])
   go_wp2
   go_ret
   exact ⟨ret_int (by rw [HR.out,HZ2.out]),hbw⟩
end Go.Proofs.Sm
namespace Go.Proofs.Sm
open Go.RowKit
structure PlanAt (B:Nat) (w:World) (g:Nat) (A:Option Addr) (n c:Nat) (l:List RuleV):Prop where
 low:B≤g
 cells:∃ (m nn:Nat) (D:Option Addr) (d:Nat),Arr w g 86 [.slice A n c,.map (some m),.slice D n d]∧MapIs Tryz.prog 9 w m nn (ofAt l n 0)∧n≤d∧d≤maxLen∧Sl w (Lt w.heap.size) D n (needsS l)
theorem PlanAt.call {B:Nat} {w w':World} {g:Nat} {A:Option Addr} {n c:Nat} {l:List RuleV} (h:PlanAt B w g A n c l) (hb:Below w.heap.size w w'):PlanAt B w' g A n c l:=by
 obtain ⟨h0,m,nn,D,d,h1,h2,h3,h4,h5⟩:=h
 exact ⟨h0,m,nn,D,d,h1.call hb,h2.call hb,h3,h4,sl_call h5 hb (Nat.le_refl _)⟩
theorem PlanAt.lt {B:Nat} {w:World} {g:Nat} {A:Option Addr} {n c:Nat} {l:List RuleV} (h:PlanAt B w g A n c l):g < w.heap.size:=by
 obtain ⟨_,_,_,_,_,h1,_⟩:=h
 exact h1.lt
theorem rule_box (w:World) (x:RuleV) (A1:Option Addr) (n1 c1:Nat) (A2:Option Addr) (n2 c2:Nat) (A3:Option Addr) (n3 c3:Nat) (A4:Option Addr) (n4 c4:Nat) (A5:Option Addr) (n5 c5:Nat) :
 Arr (w.alloc (.cells #[.string x.name,.string x.action.tool,.slice A1 n1 c1,.slice A2 n2 c2,.slice A3 n3 c3,.slice A4 n4 c4,.int .i64 x.action.time,.slice A5 n5 c5] 60)) w.heap.size 60 (ruleCells x A1 n1 c1 A2 n2 c2 A3 n3 c3 A4 n4 c4 A5 n5 c5):=heap_alloc_new w _
def OpenPost (A:Option Addr) (n c:Nat) (l:List RuleV) (w:World) (e:Ending) (w':World):Prop :=
 ∃ v,e=.returned (.tuple #[v,.int .i64 (checkRulesS l)])∧(checkRulesS l≠0→v=.pointer none)∧(checkRulesS l=0→∃ g,v=.pointer (some ⟨g,0,none⟩)∧PlanAt w.heap.size w' g A n c l)∧Below w.heap.size w w'
theorem OpenPost.bad {A:Option Addr} {n c:Nat} {l:List RuleV} {w w':World} {f:Int} (hf:checkRulesS l=f) (h0:f≠0) (hb:Below w.heap.size w w'):OpenPost A n c l w (.returned (.tuple #[.pointer none,.int .i64 f])) w' :=
 ⟨_,by rw [hf],fun _=>rfl,fun h=>absurd (hf.symm.trans h) h0,hb⟩
theorem OpenPost.good {A:Option Addr} {n c:Nat} {l:List RuleV} {w w':World} {g:Nat} (hf:checkRulesS l=0) (hp:PlanAt w.heap.size w' g A n c l) (hb:Below w.heap.size w w'):OpenPost A n c l w (.returned (.tuple #[.pointer (some ⟨g,0,none⟩),.int .i64 0])) w' :=
 ⟨_,by rw [hf],fun h=>absurd hf h,fun _=>⟨g,rfl,hp⟩,hb⟩
theorem of_lookup {w:World} {m nn:Nat} {f:List UInt8→Option Value} (h:MapIs Tryz.prog 9 w m nn f) {z:ByteArray} (hz:z.size≤maxLen) :
 (Instr.lookup 83 (.map (some m)) (.string z) true).run Tryz.prog w=.ok (.tuple #[(f z.data.toList).getD (.int .i64 0),.bool (f z.data.toList).isSome]) w :=
 h.look_ok (t:=83) (e:=3) (by kernel_rfl) (by kernel_rfl) (by kernel_rfl) hz
theorem RowOwn.parts {α:Type} [Rep α] {w:World} {B:Nat} {e ty:TypeId} {v:Value} {l:List α} (h:RowOwn w B e ty v l):∃ rows:List (List Value),rows.length=l.length ∧
 ∀ w',Below w.heap.size w w'→w'.ownsRow B e (Rep.sz α) v l.length rows.flatten∧∀ (i:Nat) (x:α) (r:List Value),l[i]?=some x→rows[i]?=some r→Rep.rep w' (Kind ty w') x r:=by
 have hkind:=h.kind
 obtain ⟨rows,hr,hown,hrep⟩:=h
 refine ⟨rows,hr,fun w' hb=>⟨ownsRow_keep hown fun g hg=>hb.block g (hkind g hg).2.lt,fun i x r hx hri=>?_⟩⟩
 have h1:∀ k,Kind ty w k→w'.heap[k]?=w.heap[k]?:=fun k hk=>hb.block k hk.lt
 exact Rep.more (Kind.of_keep h1) (Rep.keep h1 (hrep i x r hx hri))
theorem needs_sorted (mb nn a t:Nat) (l:List RuleV) (wy:World) (hz:MapZ Tryz.prog 3 wy mb nn (needSet l a t)) (ht:(insAt l a).length≤t) (h:allOutputsErr l=0) (hl:l.length≤500) (hn:nn≤1000000000) :
 Calls Tryz.prog 56 #[.func (.func 92) #[] #[.pointer (some ⟨wy.heap.size,0,none⟩)]] (wy.drew.alloc (.cells #[.map (some mb)] 129)) fun e w' =>
  ∃ A4 n4 c4,e=.returned (.slice A4 n4 c4)∧Rep.rep w' (Kind 3 w') ((List.range l.length).filter (usesS l a)) [.slice A4 n4 c4]∧Below wy.heap.size wy w':=by
 refine (sorted_mapintbool mb nn l.length (usesS l a) (needSet l a t) wy.drew (hz.keep rfl) hn (by omega) (needSet_end h ht)).mono ?_
 rintro e w' ⟨v,rfl,hr,hb⟩
 obtain ⟨A4,c4,rfl,h1,h2,h3⟩:=hr.slKind
 exact ⟨A4,_,c4,rfl,⟨A4,_,c4,rfl,h1,h2,h3⟩,of_drew hb⟩
theorem deps_next {w4 w9:World} {o:Obj} {g B g9 cap:Nat} {v v0 v1:Value} {L:List (List Nat)} {r:List Nat} {sl:Value} {rows:List (List Value)} (hP:Arr w4 g 86 [v0,v1,v]) (hgB:g < B)
 (hr:rows.length=L.length) (hown:(w4.alloc o).ownsRow B 87 1 v L.length rows.flatten) (hrep:∀ (i:Nat) (x:List Nat) (q:List Value),L[i]?=some x→rows[i]?=some q→Rep.rep (w4.alloc o) (Kind 3 (w4.alloc o)) x q)
 (hx:Rep.rep w4 (Kind 3 w4) r [sl]) (hg:(w4.alloc o).grownBy w9 v.ownBlock) (hown9:w9.ownsRow B 87 1 (.slice (some ⟨g9,0,none⟩) (L.length + 1) cap) (L.length + 1) (rows.flatten ++ [sl])) :
 Arr (w9.setCell ⟨g,2,none⟩ (.slice (some ⟨g9,0,none⟩) (L.length + 1) cap)) g 86 [v0,v1,.slice (some ⟨g9,0,none⟩) (L.length + 1) cap] ∧
  RowOwn (w9.setCell ⟨g,2,none⟩ (.slice (some ⟨g9,0,none⟩) (L.length + 1) cap)) B 87 3 (.slice (some ⟨g9,0,none⟩) (L.length + 1) cap) (L ++ [r]):=by
 have hbo:Below w4.heap.size w4 (w4.alloc o):=fr_alloc (fr_refl w4) o
 have hP9:Arr w9 g 86 [v0,v1,v]:=(hP.call hbo).grown hg fun e=>by have:=(hown.lt g e).1; omega
 have h1:∀ k,Kind 3 w4 k→(w4.alloc o).heap[k]?=w4.heap[k]?:=fun k hk=>hbo.block k hk.lt
 have hx':Rep.rep (w4.alloc o) (Kind 3 (w4.alloc o)) r [sl]:=Rep.more (Kind.of_keep h1) (Rep.keep h1 hx)
 have hR:=RowOwn.append (x:=r) (r:=[sl]) (ty:=3) hr hown hrep hx' (by decide) hg hown9
 exact ⟨hP9.set 2 _,hR.set (t:=86) (p:=⟨g,2,none⟩) ⟨_,_,hP9⟩ (by decide) (by decide) _⟩
end Go.Proofs.Sm
