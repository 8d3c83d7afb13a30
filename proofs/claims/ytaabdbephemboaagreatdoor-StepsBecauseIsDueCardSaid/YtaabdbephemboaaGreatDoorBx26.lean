/- Words and walks that the claims share, part 26. -/
import Derived.Test.YtaabdbephemboaaGreatDoorBx9
import Derived.Test.YtaabdbephemboaaGreatDoorBx10
import Derived.Test.YtaabdbephemboaaGreatDoorBx11
import Derived.Test.YtaabdbephemboaaGreatDoorBx24
import Derived.Test.YtaabdbephemboaaGreatDoorBx25
import Derived.StillTailTactics
import Derived.Deep.RegionHeld3
import Derived.WalkSpells
import Derived.StillTactics
import Derived.Laws.Pointers
namespace Go.Proofs.Sm
open Go.RowKit
def KeepO (W:World) (o:Option Nat) (w:World):Prop:=W.heap.size≤w.heap.size∧∀ b,b < W.heap.size→o≠some b→w.heap[b]?=W.heap[b]?
theorem KeepO.refl (W:World) (o:Option Nat):KeepO W o W:=⟨Nat.le_refl _,fun _ _ _=>rfl⟩
theorem KeepO.call {W w w':World} {o:Option Nat} (h:KeepO W o w) (hb:Below w.heap.size w w'):KeepO W o w' :=
 ⟨Nat.le_trans h.1 hb.size,fun b h1 h2=>(hb.block b (Nat.lt_of_lt_of_le h1 h.1)).trans (h.2 b h1 h2)⟩
theorem KeepO.grown {W w w':World} {o row:Option Nat} (h:KeepO W o w) (hg:w.grownBy w' row) (hr:∀ g,row=some g→o=some g∨W.heap.size≤g):KeepO W o w' :=
 ⟨Nat.le_trans h.1 hg.size,fun b h1 h2=>(hg.block b (Nat.lt_of_lt_of_le h1 h.1) fun e=>by
  rcases hr b e.symm with h3 | h3
  ·exact h2 h3
  ·omega).trans (h.2 b h1 h2)⟩
def JoinedPost (la lb:List MemoryV) (w:World) (e:Ending) (w':World):Prop :=
 ∃ v,e=.returned (.tuple #[v,.int .i64 (joinedErr la lb)])∧(joinedErr la lb≠0→v=.slice none 0 0) ∧
  (joinedErr la lb=0→∃ A n c out,v=.slice A n c∧n≤c∧c≤maxLen∧JoinedIs la lb out∧Sl w' (Lt w'.heap.size) A n out)∧Below w.heap.size w w'
theorem JoinedPost.bad {la lb:List MemoryV} {w w':World} {f:Int} (hf:joinedErr la lb=f) (h0:f≠0) (hb:Below w.heap.size w w'):JoinedPost la lb w (.returned (.tuple #[.slice none 0 0,.int .i64 f])) w' :=
 ⟨_,by rw [hf],fun _=>rfl,fun h=>absurd (hf.symm.trans h) h0,hb⟩
theorem JoinedPost.good {la lb out:List MemoryV} {w w':World} {A:Option Addr} {n c:Nat} (hf:joinedErr la lb=0) (hn:n≤c) (hc:c≤maxLen) (hj:JoinedIs la lb out) (hs:Sl w' (Lt w'.heap.size) A n out) (hb:Below w.heap.size w w'):JoinedPost la lb w (.returned (.tuple #[.slice A n c,.int .i64 0])) w' :=
 ⟨_,by rw [hf],fun h=>absurd hf h,fun _=>⟨A,n,c,out,rfl,hn,hc,hj,hs⟩,hb⟩
theorem joined_a {la lb:List MemoryV} (h:checkMemoryS la≠0):joinedErr la lb=checkMemoryS la:=by rw [joinedErr,if_pos h]
theorem joined_b {la lb:List MemoryV} (h:checkMemoryS la=0) (h1:checkMemoryS lb≠0):joinedErr la lb=checkMemoryS lb:=by rw [joinedErr,if_neg (by rw [h]; decide),if_pos h1]
theorem joined_rest {la lb:List MemoryV} (h:checkMemoryS la=0) (h1:checkMemoryS lb=0):joinedErr la lb=if 500 < ((bothS la lb).length:Int) then 2 else 0:=by rw [joinedErr,if_neg (by rw [h]; decide),if_neg (by rw [h1]; decide)]
theorem mem_cells_one (x:MemoryV) (A1:Option Addr) (n1 c1:Nat) (A2:Option Addr) (n2 c2:Nat) (A3:Option Addr) (n3 c3:Nat):∀ u∈memCells x A1 n1 c1 A2 n2 c2 A3 n3 c3,u.oneCell'=true:=by
 intro u hu
 unfold memCells at hu
 simp only [List.mem_cons,List.not_mem_nil,or_false] at hu
 rcases hu with rfl | rfl | rfl | rfl | rfl | rfl | rfl | rfl <;> rfl
set_option maxHeartbeats 0 in
set_option maxRecDepth 100000 in
theorem steps_Joined (A B:Option Addr) (n c m d:Nat) (la lb:List MemoryV) (w:World) (hE:Env w) (hsl:Sl w (Lt w.heap.size) A n la) (hsl2:Sl w (Lt w.heap.size) B m lb) :
 Calls Tryz.prog 26 #[.slice A n c,.slice B m d] w (JoinedPost la lb w):=by
 have hm:n≤9223372036854775807:=hsl.2.1
 have hm2:m≤9223372036854775807:=hsl2.2.1
 have HL:=Lib.hid hsl.1
 have HL2:=Lib.hid hsl2.1
 obtain ⟨i0,hi0,hz0,hz1,hz2⟩:=info_parts cl_memory_info
 go_enter Tryz.func26,Tryz.ntmps26
 go_wp2_with fail
 refine (steps_CheckMemory A n c la w hE hsl).mono ?_
 rintro e w1 ⟨rfl,hb1⟩
 cases h0:(checkMemoryS la == 0)
 ·have hne:checkMemoryS la≠0:=by simpa using h0
  have hbn:(checkMemoryS la != 0)=true:=by simpa using h0
  have HV:=Lib.hid (joined_a (lb:=lb) hne)
  have HN:=Lib.hid hne
  clear hne
  go_wp2
  go_ret2
  exact JoinedPost.bad HV.out HN.out hb1
 have hza:checkMemoryS la=0:=by simpa using h0
 have hbn:(checkMemoryS la != 0)=false:=by simpa using h0
 have HZ:=Lib.hid hza
 rw [hza] at hbn ⊢
 clear hza h0 hbn
 go_wp2_with fail
 refine (steps_CheckMemory B m d lb w1 (hE.then_ hb1) (sl_call hsl2 hb1 (Nat.le_refl _))).mono ?_
 rintro e w2 ⟨rfl,hb2⟩
 have hb02:=fr_call hb1 hb2
 clear hb1 hb2
 cases h0:(checkMemoryS lb == 0)
 ·have hne:checkMemoryS lb≠0:=by simpa using h0
  have hbn:(checkMemoryS lb != 0)=true:=by simpa using h0
  have HV:=Lib.hid (joined_b HZ.out hne)
  have HN:=Lib.hid hne
  clear hne
  go_wp2
  go_ret2
  exact JoinedPost.bad HV.out HN.out hb02
 have hzb:checkMemoryS lb=0:=by simpa using h0
 have HZ2:=Lib.hid hzb
 rw [hzb]
 clear hzb h0
 have HJ:=Lib.hid (joined_rest HZ.out HZ2.out)
 have HM:=Lib.hid (memory_ok HZ.out)
 have HM2:=Lib.hid (memory_ok HZ2.out)
 have hn5:n≤500:=by have:=(memory_parts HZ.out).1; have:=HL.out; omega
 have hm5:m≤500:=by have:=(memory_parts HZ2.out).1; have:=HL2.out; omega
 have hmm:=@run_makeMap Tryz.prog
 obtain ⟨mb,hmb⟩:∃ mb,mb=w2.heap.size:=⟨_,rfl⟩
 have hwm:w.heap.size≤mb:=by have:=hb02.size; omega
 have hM0:MapIs Tryz.prog 9 (w2.alloc (.map #[] 0)) mb 0 (setOf (namesOf (la.take 0))):=by
  rw [hmb]
  exact (MapIs.made (P:=Tryz.prog) (k:=9) w2).congr fun key=>by simp [setOf,namesOf]
 have hb3:=fr_alloc hb02 (.map #[] 0)
 go_wp2_with fail
 rw [←hmb]
 clear hmm hmb hb02
 generalize w2.alloc (.map #[] 0)=W3 at hM0 hb3 ⊢
 go_loopw [27] (fun iv wx=>∃ k nn:Nat,k≤n∧iv=.int .i64 k∧nn≤k∧MapIs Tryz.prog 9 wx mb nn (setOf (namesOf (la.take k)))∧Below w.heap.size w wx) (fun iv _=>n - (intOf iv).toNat)
 case atStart=>exact ⟨0,0,Nat.zero_le _,rfl,Nat.zero_le _,hM0,hb3⟩
 case round =>
  clear hM0 hb3
  obtain ⟨k,nn,hk,rfl,hnn,hM,hbel⟩:=hrel
  by_cases hlt:k < n
  ·have hkI:(k:Int) < (n:Int):=by omega
   obtain ⟨b,o,x,rfl,hbb,hx,A1,n1,c1,A2,n2,c2,A3,n3,c3,⟨z1,z2,z3,z4,z5⟩,_,_,q0,q1,q2,q3,q4,q5,q6,q7⟩:=(hsl.keep (keep_lt hbel)).memory hlt
   have HX:=Lib.hid hx; clear hx
   have r0:=(mem_box wr x A1 n1 c1 A2 n2 c2 A3 n3 c3).cell (i:=0) rfl
   have hbx:Below wr.heap.size wr (wr.alloc (.cells #[.string x.name,.string x.action,.slice A1 n1 c1,.int .i64 x.result.code,.string x.result.text,.slice A2 n2 c2,.slice A3 n3 c3,.int .i64 x.result.command] 43)):=fr_alloc (fr_refl wr) _
   have hM1:=hM.call hbx
   have hbel1:=fr_call hbel hbx
   have HS:=Lib.hid (fun key=>set_more (namesOf (la.take k)) x.name.data.toList key)
   have HNm:=Lib.hid (namesOf_more HX.out)
   clear hM hbx hbel
   go_wp2_with (at_mapUpdate; refine wpList_mapUpdate_is _ rfl _ _ _ 113 rfl Tryz.underlying9 Tryz.underlying113 rfl hM1 (by unfold maxLen; omega) x.name z1 (.bool true) rfl rfl ?_; intro w4 hmap4 hg4)
   have hM4:=hmap4.congr HS.out
   rw [←HNm.out] at hM4
   have hb4:=hbel1.grown hg4 hbel1.size fun k hk=>by cases hk; omega
   clear hmap4 hg4 hM1 hbel1 r0 q0 q1 q2 q3 q4 q5 q6 q7
   go_wp2
   go_roundw
   case rel=>exact ⟨k + 1,nn + 1,by omega,by go_num,by omega,hM4,hb4⟩
   case measure=>simp [intOf]; omega
  ·rw [List.take_of_length_le (by rw [HL.out]; omega)] at hM
   have hmbl:=hM.lt
   go_wp2_with fail
   refine (steps_own A n c la wr (Lt w.heap.size) (fun b hb=>Nat.lt_of_lt_of_le hb hbel.size) (hsl.keep (keep_lt hbel)) (by omega) HM.out).mono ?_
   rintro e w4 ⟨vo,rfl,hro,hb4⟩
   have hb04:=fr_call hbel hb4
   go_wp2_with fail
   refine (steps_own B m d lb w4 (Lt w.heap.size) (fun b hb=>Nat.lt_of_lt_of_le hb hb04.size) (hsl2.keep (keep_lt hb04)) (by omega) HM2.out).mono ?_
   rintro e w5 ⟨v2,rfl,hr2,hb5⟩
   have hb05:=fr_call hb04 hb5
   have hz4:=hb4.size
   have hz5:=hb5.size
   have hzw:=hbel.size
   -- what is copied of the second one
   obtain ⟨A9,c9,rfl,h91,h92,hs9⟩:=hr2.slNew (S:=Lt w.heap.size) fun k hk=>hk.2.1
   rw [HL2.out] at h91 hs9 hr2 ⊢
   have hown4:∀ g,vo.ownBlock=some g→wr.heap.size≤g∧g < w4.heap.size:=fun g hg=>⟨(hro.kind g hg).1,hro.lt2 g hg⟩
   have hK9:∀ b,NewS (Lt w.heap.size) w4 w5 b→vo.ownBlock≠some b∧b < w5.heap.size:=fun b hb=>⟨fun e=>by
    have h1:=hown4 b e
    rcases hb.1 with h2 | h2
    ·have h2:b < w.heap.size:=h2; omega
    ·omega,hb.2⟩
   have hs6:=hs9.more hK9
   have hro5:RowK w5 w.heap.size 43 (fun b=>vo.ownBlock≠some b∧b < w5.heap.size) vo la:=((hro.call hb5).weaken hzw).more (fun b hb=>⟨hb.1,by have:=hb.2.2; omega⟩) fun b hb=>hb.2
   have hM5:=(hM.call hb4).call hb5
   clear hro hr2 hs9 hM hb4 hb5 hb04 hbel hK9
   have hro6:RowK w5 w.heap.size 43 (fun b=>vo.ownBlock≠some b∧b < w5.heap.size) vo (la ++ (lb.take 0).filter (newTo la)):=by simpa using hro5
   have hmbo:vo.ownBlock≠some mb:=fun e=>by have:=hown4 mb e; omega
   have hmb5:mb < w5.heap.size:=by omega
   have HMap:=Lib.hid (fun (wx:World) (hk:KeepO w5 vo.ownBlock wx)=>show MapIs Tryz.prog 9 wx mb nn (setOf (namesOf la)) from hM5.keep (hk.2 mb hmb5 hmbo))
   have hwz5:w.heap.size≤w5.heap.size:=hb05.size
   have hownw:∀ g,vo.ownBlock=some g→w.heap.size≤g:=fun g hg=>by have:=hown4 g hg; omega
   clear hro5 hM5
   obtain ⟨oo,hoo⟩:∃ oo,oo=vo.ownBlock:=⟨_,rfl⟩
   rw [←hoo] at hs6 hro6 HMap hownw
   have hown6:∀ g,vo.ownBlock=some g→oo=some g∨w5.heap.size≤g:=fun g hg=>.inl (hoo.trans hg)
   clear hown4 hmbo hoo
   go_wp2
   go_loopw [11,40] (fun v iv wx=>∃ k:Nat,k≤m∧iv=.int .i64 k∧RowK wx w.heap.size 43 (fun b=>oo≠some b∧b < w5.heap.size) v (la ++ (lb.take k).filter (newTo la))∧(∀ g,v.ownBlock=some g→oo=some g∨w5.heap.size≤g)∧KeepO w5 oo wx∧Below w.heap.size w wx) (fun _ iv _=>m - (intOf iv).toNat)
   case atStart=>exact ⟨0,Nat.zero_le _,rfl,hro6,hown6,KeepO.refl _ _,hb05⟩
   case round =>
    clear hro6 hown6 hb05
    obtain ⟨k,hk,rfl,hrow,hown,hkp,hbel⟩:=hrel
    have HOwn:=Lib.hid hown; clear hown
    have hneK:∀ g,u11.ownBlock=some g→¬ (oo≠some g∧g < w5.heap.size):=fun g hg h=>by
     rcases HOwn.out g hg with h1 | h1
     ·exact h.1 h1
     ·omega
    have HNe:=Lib.hid hneK; clear hneK
    have hlen:(la ++ (lb.take k).filter (newTo la)).length≤1000:=by
     have h1:=List.length_filter_le (newTo la) (lb.take k)
     have h2:=List.length_take_le k lb
     have h3:=HL.out
     rw [List.length_append]; omega
    by_cases hlt2:k < m
    ·have hkI2:(k:Int) < (m:Int):=by omega
     obtain ⟨b,o,x,rfl,hbb,hx,A1,n1,c1,A2,n2,c2,A3,n3,c3,⟨z1,z2,z3,z4,z5⟩,hcs,⟨s1,s2,s3⟩,q0,q1,q2,q3,q4,q5,q6,q7⟩:=(hs6.keep fun b hb=>hkp.2 b hb.2 hb.1).memory hlt2
     have HX:=Lib.hid hx; clear hx
     have hbx:Below wr.heap.size wr (wr.alloc (.cells #[.string x.name,.string x.action,.slice A1 n1 c1,.int .i64 x.result.code,.string x.result.text,.slice A2 n2 c2,.slice A3 n3 c3,.int .i64 x.result.command] 43)):=fr_alloc (fr_refl wr) _
     have hk1:=hkp.call hbx
     have hbel1:=fr_call hbel hbx
     have hlk:=set_look (HMap.out _ hk1) z1
     have r0:=(mem_box wr x A1 n1 c1 A2 n2 c2 A3 n3 c3).cell (i:=0) rfl
     cases hd:decide (x.name.data.toList∈namesOf la)
     ·rw [hd] at hlk
      have HF:=Lib.hid (show la ++ (lb.take (k + 1)).filter (newTo la)=(la ++ (lb.take k).filter (newTo la)) ++ [x] by rw [filter_take HX.out,newTo,hd]; simp)
      clear hd
      obtain ⟨L,hL⟩:∃ L,L=la ++ (lb.take k).filter (newTo la):=⟨_,rfl⟩
      rw [←hL] at HF hrow hlen
      clear hL
      have hW9:Below wr.heap.size wr ((wr.alloc (.cells #[.string x.name,.string x.action,.slice A1 n1 c1,.int .i64 x.result.code,.string x.result.text,.slice A2 n2 c2,.slice A3 n3 c3,.int .i64 x.result.command] 43)).alloc (.cells #[.string x.name,.string x.action,.slice A1 n1 c1,.int .i64 x.result.code,.string x.result.text,.slice A2 n2 c2,.slice A3 n3 c3,.int .i64 x.result.command] 43)):=fr_alloc hbx _
      obtain ⟨hK9,rows,hrows,hown9,hrep9⟩:=hrow.call hW9
      have hx9:Rep.rep ((wr.alloc (.cells #[.string x.name,.string x.action,.slice A1 n1 c1,.int .i64 x.result.code,.string x.result.text,.slice A2 n2 c2,.slice A3 n3 c3,.int .i64 x.result.command] 43)).alloc (.cells #[.string x.name,.string x.action,.slice A1 n1 c1,.int .i64 x.result.code,.string x.result.text,.slice A2 n2 c2,.slice A3 n3 c3,.int .i64 x.result.command] 43)) (fun b=>oo≠some b∧b < w5.heap.size) x (memCells x A1 n1 c1 A2 n2 c2 A3 n3 c3):=by
       have hkk:∀ b,(oo≠some b∧b < w5.heap.size)→((wr.alloc (.cells #[.string x.name,.string x.action,.slice A1 n1 c1,.int .i64 x.result.code,.string x.result.text,.slice A2 n2 c2,.slice A3 n3 c3,.int .i64 x.result.command] 43)).alloc (.cells #[.string x.name,.string x.action,.slice A1 n1 c1,.int .i64 x.result.code,.string x.result.text,.slice A2 n2 c2,.slice A3 n3 c3,.int .i64 x.result.command] 43)).heap[b]?=wr.heap[b]?:=fun b hb=>hW9.block b (Nat.lt_of_lt_of_le hb.2 hkp.1)
       exact ⟨A1,n1,c1,A2,n2,c2,A3,n3,c3,rfl,⟨z1,z2,z3,z4,z5⟩,hcs,s1.keep hkk,s2.keep hkk,s3.keep hkk⟩
      have hnew:∀ (j':Nat) u,(memCells x A1 n1 c1 A2 n2 c2 A3 n3 c3)[j']?=some u→((wr.alloc (.cells #[.string x.name,.string x.action,.slice A1 n1 c1,.int .i64 x.result.code,.string x.result.text,.slice A2 n2 c2,.slice A3 n3 c3,.int .i64 x.result.command] 43)).alloc (.cells #[.string x.name,.string x.action,.slice A1 n1 c1,.int .i64 x.result.code,.string x.result.text,.slice A2 n2 c2,.slice A3 n3 c3,.int .i64 x.result.command] 43)).cell? ((⟨wr.heap.size + 1,0,none⟩:Addr).add j')=some u:=fun j' u hu=>by
       have:=new_cells (wr.alloc (.cells #[.string x.name,.string x.action,.slice A1 n1 c1,.int .i64 x.result.code,.string x.result.text,.slice A2 n2 c2,.slice A3 n3 c3,.int .i64 x.result.command] 43)) #[.string x.name,.string x.action,.slice A1 n1 c1,.int .i64 x.result.code,.string x.result.text,.slice A2 n2 c2,.slice A3 n3 c3,.int .i64 x.result.command] 43 j' u hu
       rwa [World.size_alloc] at this
      have HNew:=Lib.hid hnew
      have H9:=Lib.hid hown9
      have hz9:=hW9.size
      have HRow:=Lib.hid hrow
      clear hrow hown9 hnew
      go_wp2_with (at_builtin; refine wpList_append_lies _ rfl _ _ 26 rfl w.heap.size 43 i0 _ 8 136 Tryz.underlying26 hi0 hz0 hz1 hz2 rfl (by decide) _ L.length _ rfl H9.out ⟨wr.heap.size + 1,0,none⟩ 1 1 (memCells x A1 n1 c1 A2 n2 c2 A3 n3 c3) rfl rfl HNew.out (mem_cells_one x A1 n1 c1 A2 n2 c2 A3 n3 c3) (by decide) (by unfold maxLen; omega) (by omega) (by have:=hbel.size; omega) _ rfl ?_)
      intro g' cap w9 hown10 hg9 hat9 hlt9
      have hrow10:=RowK.append (x:=x) (r:=memCells x A1 n1 c1 A2 n2 c2 A3 n3 c3) hK9 hrows hrep9 hx9 HNe.out hg9 hown10
      rw [←HF.out] at hrow10
      have hk9:=(hkp.call hW9).grown hg9 HOwn.out
      have hb9:=(fr_call hbel hW9).grown hg9 (by have:=hbel.size; omega) fun b hb=>by
       rcases HOwn.out b hb with h1 | h1
       ·exact hownw b h1
       ·omega
      have HOw:=Lib.hid (show ∀ g,(Value.slice (some ⟨g',0,none⟩) (L.length + 1) cap).ownBlock=some g→oo=some g∨w5.heap.size≤g from fun g hg=>by
       obtain rfl:g'=g:=by simpa [Value.ownBlock] using hg
       rcases hat9 with h1 | h1
       ·exact HOwn.out _ h1
       ·have:=hkp.1
        exact .inr (by omega))
      have HR10:=Lib.hid hrow10
      have HK10:=Lib.hid hk9
      clear hown10 hg9 hat9 hlt9 hrow10 hk9 hx9 hrep9 HNew H9 hlk r0 q0 q1 q2 q3 q4 q5 q6 q7 hk1 hbel1 hbx hW9 HF
      go_wp2
      go_roundw
      case rel=>exact ⟨k + 1,by omega,by go_num,HR10.out,HOw.out,HK10.out,hb9⟩
      case measure=>simp [intOf]; omega
     ·rw [hd] at hlk
      have hF:la ++ (lb.take (k + 1)).filter (newTo la)=la ++ (lb.take k).filter (newTo la):=by rw [filter_take HX.out,newTo,hd]; simp
      have HR1:=Lib.hid (hrow.call hbx)
      rw [←hF] at HR1
      have HK1:=Lib.hid hk1
      clear hd hF hrow hkp
      go_wp2
      go_roundw
      case rel=>exact ⟨k + 1,by omega,by go_num,HR1.out,HOwn.out,HK1.out,hbel1⟩
      case measure=>simp [intOf]; omega
    ·have hall:la ++ (lb.take k).filter (newTo la)=bothS la lb:=by rw [List.take_of_length_le (by rw [HL2.out]; omega)]; rfl
     rw [hall] at hrow hlen
     clear hall
     obtain ⟨A7,c7,hv7⟩:=hrow.form
     have HS:=Lib.hid (sort_memories u11 (bothS la lb) w.heap.size (fun b=>oo≠some b∧b < w5.heap.size) wr hrow HNe.out (by omega))
     have hrl:=hrow
     rw [hv7] at HS hrow ⊢
     clear hv7 hrl
     obtain ⟨N,hN⟩:∃ N,N=(bothS la lb).length:=⟨_,rfl⟩
     have HNe2:=Lib.hid hN
     rw [←hN] at HJ HS hrow hlen ⊢
     clear hN
     by_cases hbig:(500:Int) < (N:Int)
     ·have HV:=Lib.hid (show joinedErr la lb=2 by rw [HJ.out,if_pos hbig])
      go_wp2
      go_ret2
      exact JoinedPost.bad HV.out (by decide) hbel
     ·have HV:=Lib.hid (show joinedErr la lb=0 by rw [HJ.out,if_neg hbig])
      go_wp2_with fail
      refine HS.out.mono ?_
      rintro e w9 ⟨rfl,l',hp,hso,hrow9,hg9⟩
      have hl9:l'.length=N:=by rw [HNe2.out,hp.length_eq]
      obtain ⟨A',c',hv',h1,h2,h3⟩:=hrow9.sl
      rw [hl9] at hv' h1 h3
      cases hv'
      have hb9:=hbel.grown hg9 hbel.size fun b hb=>by
       have:=(hrow.kind b hb).1; exact this
      have HE:=Lib.hid (JoinedPost.good (A:=A7) (n:=N) (c:=c7) HV.out h1 h2 ⟨hp,hso⟩ h3 hb9)
      clear hrow9 hg9 h3 hrow
      go_wp2
      go_ret2
      exact HE.out
end Go.Proofs.Sm
namespace Go.Proofs.Sm
open Go.RowKit
set_option maxHeartbeats 1000000 in
set_option maxRecDepth 100000 in
theorem steps_clashes (m0 m1 m2 m3 n:Nat) (l:List RuleV) (p:ByteArray) (w:World) (hp:p.size≤1000000)
 (h0:MapIs Tryz.prog 9 w m0 n (setOf (outK l l.length))) (h1:MapIs Tryz.prog 9 w m1 n (setOf (inK l l.length))) (h3:MapIs Tryz.prog 9 w m3 n (setOf (inOK l l.length))) :
 Calls Tryz.prog 55 #[.agg #[.map (some m0),.map (some m1),.map (some m2),.map (some m3)],.string p] w fun e w'=>e=.returned (.bool (meetsS l p))∧Below w.heap.size w w':=by
 have hpm:p.size≤maxLen:=by unfold maxLen; omega
 have l3:=set_look (h3.alloc (.cells #[.map (some m0),.map (some m1),.map (some m2),.map (some m3)] 126)) hpm
 have h0':=h0.alloc (.cells #[.map (some m0),.map (some m1),.map (some m2),.map (some m3)] 126)
 have h1':=h1.alloc (.cells #[.map (some m0),.map (some m1),.map (some m2),.map (some m3)] 126)
 have hX:Arr (w.alloc (.cells #[.map (some m0),.map (some m1),.map (some m2),.map (some m3)] 126)) w.heap.size 126 [.map (some m0),.map (some m1),.map (some m2),.map (some m3)]:=heap_alloc_new w _
 have hB:Below w.heap.size w (w.alloc (.cells #[.map (some m0),.map (some m1),.map (some m2),.map (some m3)] 126)):=fr_alloc (fr_refl w) _
 have H0:=Lib.hid h0'
 have H1:=Lib.hid h1'
 have HX:=Lib.hid hX
 have HB:=Lib.hid hB
 clear h0 h1 h3 h0' h1' hX hB
 rw [clashes_is]
 by_cases hs:p.data.toList∈inOK l l.length
 ·rw [decide_eq_true hs] at l3 ⊢
  go_enter Tryz.func55,Tryz.ntmps55
  go_wp2
  go_ret
  exact ⟨rfl,HB.out⟩
 ·rw [decide_eq_false hs] at l3 ⊢
  rw [Bool.false_or]
  go_enter Tryz.func55,Tryz.ntmps55
  go_wp2_with fail
  refine (steps_above p _ hp).mono ?_
  rintro e w3 ⟨A,c,rfl,_,_,hab,hb3⟩
  have HC:=Lib.hid (slices_ContainsFunc1 89 (enters_of Tryz.func89 (by kernel_rfl) rfl) (.pointer (some ⟨w.heap.size,0,none⟩)) (fun z=>decide (z.data.toList∈outK l l.length) || decide (z.data.toList∈inK l l.length)) A (aboveS p).length c (aboveS p)
   w3 (Sl.more (fun _ hk=>hk.2) hab) fun W z hW hz _=>clashes1 (outK l l.length) (inK l l.length) m0 m1 n w.heap.size z W
    (((HX.out.call hb3).call hW).cell (i:=0) rfl) (((HX.out.call hb3).call hW).cell (i:=1) rfl) ((H0.out.call hb3).call hW) ((H1.out.call hb3).call hW) hz)
  have HB3:=Lib.hid (fr_call HB.out hb3)
  clear hb3 hab
  go_wp2_with fail
  refine HC.out.mono ?_
  rintro e w4 ⟨rfl,hb4⟩
  have HB4:=Lib.hid (fr_call HB3.out hb4)
  clear hb4
  go_wp2
  go_ret
  exact ⟨rfl,HB4.out⟩
end Go.Proofs.Sm
namespace Go.Proofs.Sm
open Go.RowKit
def asFiles (l:List RuleV):List FileV:=l.map fun r=>⟨r.name,false,[]⟩
theorem asFiles_at {l:List RuleV} {k:Nat} {x:RuleV} (h:l[k]?=some x):(asFiles l)[k]?=some ⟨x.name,false,[]⟩:=by simp [asFiles,h]
theorem asFiles_len (l:List RuleV):(asFiles l).length=l.length:=by simp [asFiles]
theorem asFiles_back {l:List RuleV} {k:Nat} {y:FileV} (h:(asFiles l)[k]?=some y):∃ x,l[k]?=some x∧y=⟨x.name,false,[]⟩:=by
 rw [asFiles,List.getElem?_map] at h
 cases hx:l[k]? with
 | none=>rw [hx] at h; cases h
 | some x=>rw [hx] at h; cases h; exact ⟨x,rfl,rfl⟩
theorem asFiles_none {l:List RuleV} {p:ByteArray} (h:(asFiles l).find? (eqp p)=none):idxName l p=none:=by
 rw [idxName,List.find?_eq_none]
 rw [List.find?_eq_none] at h
 intro j hj hb
 rw [Option.any_eq_true] at hb
 obtain ⟨x,hx,he⟩:=hb
 exact h _ (List.mem_of_getElem? (asFiles_at hx)) he
theorem asFiles_idx {l:List RuleV} {p:ByteArray} {k:Nat} {x:RuleV} (hso:Sorted (asFiles l)) (hx:l[k]?=some x) (he:(x.name.toList == p.toList)=true):idxName l p=some k:=by
 refine idx_yes hx (fun j hj=>?_) he
 cases hy:l[j]? with
 | none=>rfl
 | some y =>
   have hlt:=hso j k _ _ hj (asFiles_at hy) (asFiles_at hx)
   cases hq:(y.name.toList == p.toList)
   ·simpa using hq
   ·rw [beq_iff_eq] at he hq
    have:=hlt
    unfold ltS at this
    simp only [hq,he] at this
    have h2:=(cmp_lt _ _).2 this
    rw [(cmp_eq _ _).2 rfl] at h2
    omega
theorem sorted_rules {l:List RuleV} (h:listErr ruleErr RuleV.name none l=0):Sorted (asFiles l):=by
 have step:∀ i x y,l[i]?=some x→l[i + 1]?=some y→ltS x.name y.name=true:=by
  intro i x y hx hy
  have h1:=listErr_at h (i + 1) y hy
  rw [ahead_succ hx,ruleErr] at h1
  split at h1
  ·rename_i h2; exact absurd h1 h2
  ·split at h1
   ·cases h1
   ·rename_i h3
    rw [notAfter,Bool.not_eq_true] at h3
    exact leS_lt h3
 have key:∀ d i x y,l[i]?=some x→l[i + d + 1]?=some y→ltS x.name y.name=true:=by
  intro d
  induction d with
  | zero=>intro i x y hx hy; exact step i x y hx hy
  | succ d ih =>
    intro i x y hx hy
    obtain ⟨z,hz⟩:∃ z,l[i + d + 1]?=some z:=by
     have:=(List.getElem?_eq_some_iff.1 hy).1
     exact ⟨l[i + d + 1]'(by omega),List.getElem?_eq_getElem _⟩
    exact bl_trans (ih i x z hx hz) (step (i + d + 1) z y hz hy)
 intro i j x y hij hx hy
 obtain ⟨x',hx',rfl⟩:=asFiles_back hx
 obtain ⟨y',hy',rfl⟩:=asFiles_back hy
 refine key (j - i - 1) i x' y' hx' ?_
 rw [show i + (j - i - 1) + 1=j by omega]
 exact hy'
set_option maxRecDepth 100000 in
theorem steps_find1 (x:RuleV) (tl:ByteArray) (tm:Int) (A1 A2 A3 A4 A5:Option Addr) (n1 c1 n2 c2 n3 c3 n4 c4 n5 c5:Nat) (p:ByteArray) (w:World) :
 Calls Tryz.prog 72 #[.agg #[.string x.name,.string tl,.slice A1 n1 c1,.slice A2 n2 c2,.slice A3 n3 c3,.slice A4 n4 c4,.int .i64 tm,.slice A5 n5 c5],.string p] w fun e w'=>e=.returned (.int .i64 (Lib.compareBytes x.name.data.toList p.data.toList))∧Below w.heap.size w w':=by
 go_enter Tryz.func72,Tryz.ntmps72
 go_wp2_with (go_at_call 52; refine (Tryz.strings_Compare _ _ _).mono ?_; rintro e w1 ⟨rfl,rfl⟩)
 go_ret
 exact ⟨rfl,fr_alloc (fr_refl w) _⟩
set_option maxRecDepth 100000 in
theorem bsearch_rule (A:Option Addr) (n c:Nat) (l:List RuleV) (p:ByteArray) (w:World) (hsl:Sl w (Lt w.heap.size) A n l) (hso:Sorted (asFiles l)) (hn:n≤500) :
 Calls Tryz.prog 71 #[.slice A n c,.string p,.func (.func 72) #[] #[]] w fun e w' =>
  ∃ (k:Nat) (b:Bool),e=.returned (.tuple #[.int .i64 k,.bool b])∧((b=false∧idxName l p=none)∨(b=true∧idxName l p=some k))∧Below w.heap.size w w':=by
 go_enter Tryz.func71,Tryz.ntmps71
 go_wp2
 go_loopw [9,10,11] (fun i j _ wr=>∃ lo hi:Nat,i=.int .i64 lo∧j=.int .i64 hi∧lo≤hi∧hi≤n∧Halves (asFiles l) p lo hi∧Below w.heap.size w wr) (fun i j _ _=>(intOf j - intOf i).toNat)
 case atStart=>exact ⟨0,n,rfl,rfl,Nat.zero_le _,Nat.le_refl _,by have:=Halves.start (asFiles l) p; rwa [asFiles_len,hsl.1] at this,Below.refl _ _⟩
 case round =>
  obtain ⟨lo,hi,rfl,rfl,h1,h2,hh,hbel⟩:=hrel
  have hsr:=(hsl.keep (keep_lt hbel)).more (lt_mono hbel.size)
  by_cases hlt:lo < hi
  ·obtain ⟨m,hm⟩:∃ m:Nat,(lo + hi) / 2=m:=⟨_,rfl⟩
   have hm1:lo≤m:=by omega
   have hm2:m < hi:=by omega
   have hq:((lo:Int) + (hi:Int)) / 2=(m:Int):=by omega
   have Hm:=Lib.hid hm; clear hm
   obtain ⟨b,o,x,rfl,hb,hx,A1,n1,c1,A2,n2,c2,A3,n3,c3,A4,n4,c4,A5,n5,c5,_,_,_,q0,q1,q2,q3,q4,q5,q6,q7⟩:=hsr.rule (k:=m) (by omega)
   have HX:=Lib.hid hx; clear hx
   have hcl:=cmp_lt x.name.data.toList p.data.toList
   have HC:=Lib.hid (fun W=>steps_find1 x x.action.tool x.action.time A1 A2 A3 A4 A5 n1 c1 n2 c2 n3 c3 n4 c4 n5 c5 p W)
   generalize Lib.compareBytes x.name.data.toList p.data.toList=cb at hcl HC
   rw [←Lib.toList_data,←Lib.toList_data] at hcl
   cases hle:ltS x.name p
   ·have HH:=Lib.hid (hh.down hso hm1 hm2 (asFiles_at HX.out) hle)
    have hcb:0≤cb:=by
     have:¬ cb < 0:=fun h=>by have:=hcl.1 h; rw [show Op.bytesLess x.name.toList p.toList=false from hle] at this; cases this
     omega
    clear hcl
    go_wp2_with (go_at_call 72; refine (HC.out _).mono ?_; rintro e w1 ⟨rfl,hb1⟩)
    go_round
    case rel=>exact ⟨lo,m,rfl,rfl,hm1,by omega,HH.out,fr_call hbel hb1⟩
    case measure=>simp [intOf]; omega
   ·have HH:=Lib.hid (hh.up hso hm1 hm2 (asFiles_at HX.out) hle)
    have hcb:cb < 0:=hcl.2 hle
    clear hcl
    go_wp2_with (go_at_call 72; refine (HC.out _).mono ?_; rintro e w1 ⟨rfl,hb1⟩)
    go_round
    case rel=>exact ⟨m + 1,hi,by go_num,rfl,by omega,h2,HH.out,fr_call hbel hb1⟩
    case measure=>simp [intOf]; omega
  ·obtain rfl:lo=hi:=by omega
   by_cases hend:lo < n
   ·obtain ⟨b,o,x,rfl,hb,hx,A1,n1,c1,A2,n2,c2,A3,n3,c3,A4,n4,c4,A5,n5,c5,_,_,_,q0,q1,q2,q3,q4,q5,q6,q7⟩:=hsr.rule (k:=lo) hend
    have HX:=Lib.hid hx; clear hx
    have hce:=cmp_eq x.name.data.toList p.data.toList
    have HC:=Lib.hid (fun W=>steps_find1 x x.action.tool x.action.time A1 A2 A3 A4 A5 n1 c1 n2 c2 n3 c3 n4 c4 n5 c5 p W)
    generalize Lib.compareBytes x.name.data.toList p.data.toList=cb at hce HC
    rw [←Lib.toList_data,←Lib.toList_data] at hce
    have hg:decide ((lo:Int) < (n:Int))=true:=by simp; omega
    cases heq:(x.name.toList == p.toList)
    ·have HM:=Lib.hid (asFiles_none (hh.none hso (fun y hy=>by rw [asFiles_at HX.out] at hy; cases hy; exact heq)))
     have hcb:(cb == 0)=false:=by
      rw [beq_eq_false_iff_ne] at heq ⊢
      exact fun h=>heq (hce.1 h)
     clear hce
     go_wp2_with (go_at_call 72; refine (HC.out _).mono ?_; rintro e w1 ⟨rfl,hb1⟩)
     go_ret2
     exact ⟨lo,false,rfl,.inl ⟨rfl,HM.out⟩,fr_call hbel hb1⟩
    ·have HM:=Lib.hid (asFiles_idx hso HX.out heq)
     have hcb:(cb == 0)=true:=by
      rw [beq_iff_eq] at heq ⊢
      exact hce.2 heq
     clear hce
     go_wp2_with (go_at_call 72; refine (HC.out _).mono ?_; rintro e w1 ⟨rfl,hb1⟩)
     go_ret2
     exact ⟨lo,true,rfl,.inr ⟨rfl,HM.out⟩,fr_call hbel hb1⟩
   ·have HM:=Lib.hid (asFiles_none (hh.none hso (fun y hy=>by have:=(List.getElem?_eq_some_iff.1 hy).1; rw [asFiles_len,hsl.1] at this; omega)))
    have hg:decide ((lo:Int) < (n:Int))=false:=by simp; omega
    go_wp2
    go_ret2
    exact ⟨lo,false,rfl,.inl ⟨rfl,HM.out⟩,hbel⟩
set_option maxRecDepth 100000 in
theorem steps_find (g:Nat) (A:Option Addr) (n c:Nat) (l:List RuleV) (p:ByteArray) (w:World) (hc:w.cell? ⟨g,0,none⟩=some (.slice A n c)) (hsl:Sl w (Lt w.heap.size) A n l) (hso:Sorted (asFiles l)) (hn:n≤500) :
 Calls Tryz.prog 36 #[.pointer (some ⟨g,0,none⟩),.string p] w fun e w'=>e=.returned (.int .i64 (numOr6 (idxName l p)))∧Below w.heap.size w w':=by
 go_enter Tryz.func36,Tryz.ntmps36
 go_wp2_with fail
 refine (bsearch_rule A n c l p _ hsl hso hn).mono ?_
 rintro e w1 ⟨k,b,rfl,hr,hb1⟩
 rcases hr with ⟨rfl,hi⟩ | ⟨rfl,hi⟩
 ·have HI:=Lib.hid hi
  clear hi
  go_wp2
  go_ret
  exact ⟨by rw [HI.out]; rfl,hb1⟩
 ·have HI:=Lib.hid hi
  clear hi
  go_wp2
  go_ret
  exact ⟨by rw [HI.out]; rfl,hb1⟩
end Go.Proofs.Sm
namespace Go.Proofs.Sm
open Go.RowKit
section
variable {l:List RuleV}
theorem cr_large (h:(500:Int) < (l.length:Int)):checkRulesS l=2:=by rw [checkRulesS,if_pos h]
theorem cr_rule (h:l.length≤500) (h1:listErr ruleErr RuleV.name none l≠0):checkRulesS l=listErr ruleErr RuleV.name none l:=by rw [checkRulesS,if_neg (by omega),if_pos h1]
theorem cr_out (h:l.length≤500) (h1:listErr ruleErr RuleV.name none l=0) (h2:allOutputsErr l≠0):checkRulesS l=allOutputsErr l:=by rw [checkRulesS,if_neg (by omega),if_neg (by rw [h1]; decide),if_pos h2]
theorem cr_rest (h:l.length≤500) (h1:listErr ruleErr RuleV.name none l=0) (h2:allOutputsErr l=0):checkRulesS l=if (orderS (needsS l) fun _=>true).2=false then 17 else 0:=by
 rw [checkRulesS,if_neg (by omega),if_neg (by rw [h1]; decide),if_neg (by rw [h2]; decide)]
theorem ruleErr_bad {prev:Option ByteArray} {x:RuleV} (h:checkRuleS x≠0):ruleErr prev x=checkRuleS x:=by rw [ruleErr,if_pos h]
theorem ruleErr_rest {prev:Option ByteArray} {x:RuleV} (h:checkRuleS x=0):ruleErr prev x=if notAfter prev x.name then 8 else 0:=by rw [ruleErr,if_neg (by rw [h]; decide)]
end
theorem range_at {n i:Nat} (h:i < n):(List.range n)[i]?=some i:=List.getElem?_range h
end Go.Proofs.Sm
namespace Go.Proofs.Sm
open Go.RowKit
theorem needAt_len (l:List RuleV) (i:Nat):(needAt (needsS l) i).length≤l.length:=by
 by_cases hi:i < l.length
 ·rw [needs_at hi]
  exact Nat.le_trans (List.length_filter_le _ _) (by simp)
 ·rw [needAt,List.getElem?_eq_none (by rw [needsS_length]; omega)]; simp
end Go.Proofs.Sm
