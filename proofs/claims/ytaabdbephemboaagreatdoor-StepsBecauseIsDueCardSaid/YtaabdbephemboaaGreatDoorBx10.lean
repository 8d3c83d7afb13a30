/- Words and walks that the claims share, part 10. -/
import Derived.Test.YtaabdbephemboaaGreatDoorBx3
import Derived.Test.YtaabdbephemboaaGreatDoorBx4
import Derived.Test.YtaabdbephemboaaGreatDoorBx9
import Derived.Shelf.Strings.Builder1
import Derived.Shelf.Strings.Builder2
import Derived.Shelf.Strings.OnBuilder
import Derived.Shelf.Strings.Trim
import Derived.Shelf.Small.Utf8
import Derived.Shelf.Small.Bits
import Derived.Shelf.Small.Strs
import Derived.Shelf.Small.Wraps
import Derived.Shelf.Strings.BuilderF
import Derived.Shelf.Strings.BuilderK
import Derived.Shelf.Strings.Builder2Cap
import Derived.Shelf.Strconv.Atoi
import Derived.Shelf.Strconv.Itoa0
import Derived.Shelf.Strconv.Itoa1
import Derived.Shelf.LaysM
import Derived.Shelf.Strconv.Itoa2
import Derived.Shelf.Strconv.Itoa3
import Derived.Shelf.Strconv.AtoiErrFast
import Derived.Shelf.Strconv.ParseIntEmpty
import Derived.Shelf.Strconv.AtoiFail
import Derived.Shelf.Strconv.Clone
import Derived.Shelf.Strconv.SyntaxError
import Derived.Shelf.LaysC
import Derived.Shelf.Strconv.ToError
import Derived.Shelf.Strconv.Lower
import Derived.Shelf.Strconv.ParseUint10
import Derived.Shelf.Strconv.ParseUint10Empty
import Derived.Shelf.Strconv.ParseUint10Any
import Derived.Shelf.Strconv.ParseInt10
import Derived.Shelf.Strconv.AtoiLong
import Derived.Shelf.Strconv.AtoiInnerAll
import Derived.Shelf.Strconv.RangeError
import Derived.Shelf.Strconv.ToErrorRange
import Derived.Shelf.Strconv.AtoiAll
import Derived.Shelf.Strconv.ErrVarAll
import Derived.Shelf.Strings.Search1
import Derived.Shelf.Strings.Search2
import Derived.Shelf.Strings.Search3
import Derived.Shelf.Strings.Count
import Derived.Shelf.Strings.Shaped
import Derived.Shelf.GgClosure.StringsIndexFunc
import Derived.Ground.GgwProg
import Derived.Shelf.GgClosure.StringsIndexFuncTop
import Derived.Shelf.GgClosure.StringsRunes
import Derived.Shelf.Strings.Prefix
import Derived.Shelf.Strings.Split
import Derived.Shelf.Strings.SplitShaped
import Derived.Shelf.Unicode.Decode
import Derived.Shelf.Strings.Runes
import Derived.Shelf.Strings.RuneCount
import Derived.Shelf.Strings.AsciiSet
import Derived.Shelf.Strings.Explode
import Derived.Shelf.Unicode.DecodeSlow
import Derived.Shelf.Unicode.DecodeAny
import Derived.Shelf.Unicode.DecodeLast
import Derived.Shelf.Strings.FuncGrows
import Derived.Shelf.Strings.BuilderCap
import Derived.Shelf.Slices.Turned
import Derived.Shelf.Slices.Equal
import Derived.Shelf.Slices.CompactS
import Derived.Shelf.Bytes.SlIndexSmall
import Derived.Ground.SlbNamesProg
import Derived.Shelf.Bytes.SlCountOne
import Derived.Shelf.Bytes.SlIndexAt
import Derived.Shelf.Slices.Empties2
import Derived.Shelf.Bytes.SlSearch0
import Derived.Shelf.Bytes.SlSearch1
import Derived.Shelf.Bytes.SlSearch2
import Derived.Shelf.Bytes.SlIndexWhole
import Derived.Shelf.Bytes.SlCountWhole
import Derived.Ground.SlgmProg
import Derived.Shelf.SortM.Plain
import Derived.Shelf.SortM.SortNone
import Derived.Shelf.Bytes.SlEqualAll
import Derived.Shelf.Bytes.Small
import Derived.Shelf.Bytes.IndexByte
import Derived.Test.YtaabdbephemboaaGreatDoorProg
import Derived.Shelf.SlGeneric
import Derived.Shelf.SlIter.Nil
import Derived.Shelf.SlIterI.Nil
import Derived.Ground.GgzProg
namespace Go.Proofs.Sm
open Go.RowKit
theorem tg_start (w:World):Tg ((((((w.alloc (.cells #[.map none,.map none,.map none,.map none] 126)).alloc (.map #[] 0)).alloc (.map #[] 0)).alloc (.map #[] 0)).alloc (.map #[] 0)).alloc (.cells #[.map (some (w.heap.size + 1)),.map (some (w.heap.size + 1 + 1)),.map (some (w.heap.size + 1 + 1 + 1)),.map (some (w.heap.size + 1 + 1 + 1 + 1))] 126))
 ⟨w.heap.size,w.heap.size + 1,w.heap.size + 1 + 1,w.heap.size + 1 + 1 + 1,w.heap.size + 1 + 1 + 1 + 1,w.heap.size + 1 + 1 + 1 + 1 + 1⟩ 0 [] [] [] []:=by
 generalize h0:w.alloc (.cells #[.map none,.map none,.map none,.map none] 126)=W0
 have z0:W0.heap.size=w.heap.size + 1:=by rw [←h0]; simp
 have r0:Arr W0 w.heap.size 126 [.map none,.map none,.map none,.map none]:=by rw [←h0]; exact heap_alloc_new w _
 clear h0
 have m0:MapIs Tryz.prog 9 (W0.alloc (.map #[] 0)) (w.heap.size + 1) 0 (setOf []):=by
  have:=(MapIs.made (P:=Tryz.prog) (k:=9) W0).congr (g:=setOf []) fun key=>by simp [setOf]
  rwa [z0] at this
 have r1:=r0.call (fr_alloc (fr_refl W0) (.map #[] 0))
 generalize h1:W0.alloc (.map #[] 0)=W1 at m0 r1 ⊢
 have z1:W1.heap.size=w.heap.size + 1 + 1:=by rw [←h1,World.size_alloc,z0]
 clear h1 r0
 have m1:MapIs Tryz.prog 9 (W1.alloc (.map #[] 0)) (w.heap.size + 1 + 1) 0 (setOf []):=by
  have:=(MapIs.made (P:=Tryz.prog) (k:=9) W1).congr (g:=setOf []) fun key=>by simp [setOf]
  rwa [z1] at this
 have r2:=r1.call (fr_alloc (fr_refl W1) (.map #[] 0))
 have m0':=m0.alloc (.map #[] 0)
 generalize h2:W1.alloc (.map #[] 0)=W2 at m1 m0' r2 ⊢
 have z2:W2.heap.size=w.heap.size + 1 + 1 + 1:=by rw [←h2,World.size_alloc,z1]
 clear h2 r1 m0
 have m2:MapIs Tryz.prog 9 (W2.alloc (.map #[] 0)) (w.heap.size + 1 + 1 + 1) 0 (setOf []):=by
  have:=(MapIs.made (P:=Tryz.prog) (k:=9) W2).congr (g:=setOf []) fun key=>by simp [setOf]
  rwa [z2] at this
 have r3:=r2.call (fr_alloc (fr_refl W2) (.map #[] 0))
 have m0'':=m0'.alloc (.map #[] 0)
 have m1':=m1.alloc (.map #[] 0)
 generalize h3:W2.alloc (.map #[] 0)=W3 at m2 m0'' m1' r3 ⊢
 have z3:W3.heap.size=w.heap.size + 1 + 1 + 1 + 1:=by rw [←h3,World.size_alloc,z2]
 clear h3 r2 m0' m1
 have m3:MapIs Tryz.prog 9 (W3.alloc (.map #[] 0)) (w.heap.size + 1 + 1 + 1 + 1) 0 (setOf []):=by
  have:=(MapIs.made (P:=Tryz.prog) (k:=9) W3).congr (g:=setOf []) fun key=>by simp [setOf]
  rwa [z3] at this
 have r4:=r3.call (fr_alloc (fr_refl W3) (.map #[] 0))
 have m0:=m0''.alloc (.map #[] 0)
 have m1:=m1'.alloc (.map #[] 0)
 have m2':=m2.alloc (.map #[] 0)
 generalize h4:W3.alloc (.map #[] 0)=W4 at m3 m0 m1 m2' r4 ⊢
 have z4:W4.heap.size=w.heap.size + 1 + 1 + 1 + 1 + 1:=by rw [←h4,World.size_alloc,z3]
 clear h4
 refine ⟨by simp only; omega,?_,r4.call (fr_alloc (fr_refl W4) _),m0.alloc _,m1.alloc _,m2'.alloc _,m3.alloc _⟩
 have:=heap_alloc_new W4 (.cells #[.map (some (w.heap.size + 1)),.map (some (w.heap.size + 1 + 1)),.map (some (w.heap.size + 1 + 1 + 1)),.map (some (w.heap.size + 1 + 1 + 1 + 1))] 126)
 rw [z4] at this
 exact this
theorem bnd_all {n nn:Nat} (h:nn≤n * 2000000) (hn:n≤500):nn≤1000000000:=Nat.le_trans h (Nat.mul_le_mul_right 2000000 hn)
theorem bnd_next {b t u mm k:Nat} (h:mm≤b + t * 1000 + 1 + u) (hu:u≤k) (hk:k≤200):mm≤b + (t + 1) * 1000:=by
 rw [Nat.succ_mul]; omega
theorem bnd_zero {b nn:Nat} (h:nn≤b):nn≤b + 0 * 1000:=by rw [Nat.zero_mul]; exact h
theorem bnd_half {b t n nn:Nat} (h:nn≤b + t * 1000) (ht:t≤n) (hn:n≤200):nn≤b + 200000 + 0 * 1000:=by
 rw [Nat.zero_mul]; omega
set_option maxHeartbeats 0 in
set_option maxRecDepth 100000 in
theorem steps_tangleOf4 (A:Option Addr) (n c:Nat) (l:List RuleV) (w:World) (hsl:Sl w (Lt w.heap.size) A n l) (hok:RulesOk l) :
 Calls Tryz.prog 54 #[.slice A n c] w fun e w'=>∃ (T:TgB) (nn:Nat),w.heap.size≤T.q∧T.q < T.m0∧T.m0 < T.m1∧T.m1 < T.m2∧T.m2 < T.m3∧e=.returned (.agg #[.map (some T.m0),.map (some T.m1),.map (some T.m2),.map (some T.m3)])∧nn≤1000000000 ∧
  MapIs Tryz.prog 9 w' T.m0 nn (setOf (outK l n))∧MapIs Tryz.prog 9 w' T.m1 nn (setOf (inK l n))∧MapIs Tryz.prog 9 w' T.m2 nn (setOf (outOK l n))∧MapIs Tryz.prog 9 w' T.m3 nn (setOf (inOK l n))∧Below w.heap.size w w':=by
 have hm:n≤9223372036854775807:=hsl.2.1
 have hng:l.length=n:=hsl.1
 have hn5:=hok.many
 have hmm:=@run_makeMap Tryz.prog
 obtain ⟨T,hTe⟩:∃ T:TgB,T=⟨w.heap.size,w.heap.size + 1,w.heap.size + 1 + 1,w.heap.size + 1 + 1 + 1,w.heap.size + 1 + 1 + 1 + 1,w.heap.size + 1 + 1 + 1 + 1 + 1⟩:=⟨_,rfl⟩
 have HT0:=Lib.hid (tg_start w)
 rw [←hTe] at HT0
 have E5:=Lib.hid (show w.heap.size + 1 + 1 + 1 + 1 + 1=T.gt by rw [hTe])
 have E4:=Lib.hid (show w.heap.size + 1 + 1 + 1 + 1=T.m3 by rw [hTe])
 have E3:=Lib.hid (show w.heap.size + 1 + 1 + 1=T.m2 by rw [hTe])
 have E2:=Lib.hid (show w.heap.size + 1 + 1=T.m1 by rw [hTe])
 have E1:=Lib.hid (show w.heap.size + 1=T.m0 by rw [hTe])
 have E0:=Lib.hid (show w.heap.size=T.q by rw [hTe])
 clear hTe
 have HB0:=Lib.hid (show Below w.heap.size w _ from fr_alloc (fr_alloc (fr_alloc (fr_alloc (fr_alloc (fr_alloc (fr_refl w) (.cells #[.map none,.map none,.map none,.map none] 126)) (.map #[] 0)) (.map #[] 0)) (.map #[] 0)) (.map #[] 0)) (.cells #[.map (some (w.heap.size + 1)),.map (some (w.heap.size + 1 + 1)),.map (some (w.heap.size + 1 + 1 + 1)),.map (some (w.heap.size + 1 + 1 + 1 + 1))] 126))
 rw [E0.out] at hsl ⊢
 go_enter Tryz.func54,Tryz.ntmps54
 go_wp2_with fail
 have hT:=HT0.out
 have hB:=HB0.out
 clear HT0 HB0
 generalize ((((((w.alloc (.cells #[.map none,.map none,.map none,.map none] 126)).alloc (.map #[] 0)).alloc (.map #[] 0)).alloc (.map #[] 0)).alloc (.map #[] 0)).alloc (.cells #[.map (some (w.heap.size + 1)),.map (some (w.heap.size + 1 + 1)),.map (some (w.heap.size + 1 + 1 + 1)),.map (some (w.heap.size + 1 + 1 + 1 + 1))] 126))=W at hT hB ⊢
 rw [E5.out,E4.out,E3.out,E2.out,E1.out,E0.out]
 rw [E0.out] at hB
 clear E0 E1 E2 E3 E4 E5
 obtain ⟨q,hq⟩:∃ q,q=T.q:=⟨_,rfl⟩
 have hqT:q≤T.q:=by omega
 rw [←hq] at hsl hB
 go_loopw [21] (fun iv wx=>∃ i nn:Nat,i≤n∧iv=.int .i64 i∧nn≤i * 2000000∧Tg wx T nn (outK l i) (inK l i) (outOK l i) (inOK l i)∧Below q w wx) (fun iv _=>n - (intOf iv).toNat)
 case atStart=>exact ⟨0,0,Nat.zero_le _,rfl,Nat.zero_le _,hT,hB⟩
 case round =>
  clear hT hB
  obtain ⟨i,nn,hi,rfl,hnn,hT,hbel⟩:=hrel
  have hltq:=hT.lts
  have hgl:=hT.t.lt
  by_cases hlt:i < n
  ·have hiI:(i:Int) < (n:Int):=by omega
   obtain ⟨b,o,x,rfl,hbq,hx,A1,n1,c1,A2,n2,c2,A3,n3,c3,A4,n4,c4,A5,n5,c5,_,_,⟨_,_,s3,_,s5⟩,q0,q1,q2,q3,q4,q5,q6,q7⟩:=hsl.rule hlt
   rw [←outsAt_some hx] at s3
   rw [←insAt_some hx] at s5
   have hn3:(outsAt l i).length=n3:=s3.1
   have hn5':(insAt l i).length=n5:=s5.1
   have hm3:n3≤9223372036854775807:=s3.2.1
   have hm5:n5≤9223372036854775807:=s5.2.1
   have ho1:=(hok.outs i).1
   have ho2:=(hok.ins i).1
   have cell:∀ {j v},w.cell? ⟨b,o + i * 8 + j,none⟩=some v→wr.cell? ⟨b,o + i * 8 + j,none⟩=some v:=fun h=>(hbel.cell (p:=⟨b,_,none⟩) hbq).trans h
   have p0:=cell (j:=0) q0
   have p1:=cell q1
   have p2:=cell q2
   have p3:=cell q3
   have p4:=cell q4
   have p5:=cell q5
   have p6:=cell q6
   have p7:=cell q7
   clear q0 q1 q2 q3 q4 q5 q6 q7 hx cell
   rw [Nat.add_zero] at p0
   obtain ⟨g5,hg5⟩:∃ g,g=wr.heap.size:=⟨_,rfl⟩
   have hbx:Below wr.heap.size wr (wr.alloc (.cells #[.string x.name,.string x.action.tool,.slice A1 n1 c1,.slice A2 n2 c2,.slice A3 n3 c3,.slice A4 n4 c4,.int .i64 x.action.time,.slice A5 n5 c5] 60)):=fr_alloc (fr_refl wr) _
   obtain ⟨R,hR⟩:∃ R,R=ruleCells x A1 n1 c1 A2 n2 c2 A3 n3 c3 A4 n4 c4 A5 n5 c5:=⟨_,rfl⟩
   have hX:Arr (wr.alloc (.cells #[.string x.name,.string x.action.tool,.slice A1 n1 c1,.slice A2 n2 c2,.slice A3 n3 c3,.slice A4 n4 c4,.int .i64 x.action.time,.slice A5 n5 c5] 60)) wr.heap.size 60 R:=by rw [hR]; exact heap_alloc_new wr _
   have hT1:=hT.call hbx
   have hb1:=hbel.trans (hbx.mono (by omega:q≤_))
   rw [←hg5] at hX
   have hg5T:T.gt < g5:=by omega
   have HT:=Lib.hid hT1
   have HB5:=Lib.hid hX
   have q4:=hX.cell (i:=4) (by rw [hR]; rfl)
   clear hT hT1 hX hbel hbx
   have hbel:=hb1
   clear hb1
   go_wp2_with fail
   rw [←hg5]
   clear hg5 p0 p1 p2 p3 p4 p5 p6 p7
   go_loopw [29] (fun iv wx=>∃ t nn:Nat,t≤(outsAt l i).length∧iv=.int .i64 t∧nn≤i * 2000000 + t * 1000∧Tg wx T nn (outK l i ++ dataOf ((outsAt l i).take t)) (inK l i) (outOK l i ++ (overOf ((outsAt l i).take t))) (inOK l i)∧Arr wx g5 60 R∧Below q w wx) (fun iv _=>(outsAt l i).length - (intOf iv).toNat)
   case atStart=>exact ⟨0,nn,Nat.zero_le _,rfl,bnd_zero hnn,by simpa [dataOf,overOf] using HT.out,HB5.out,hbel⟩
   case round =>
    clear hbel HT HB5
    obtain ⟨t,nn,ht,rfl,hnn,hT,hB5,hbel⟩:=hrel
    have hgl:=hT.t.lt
    have hgl5:=hB5.lt
    have hltq:=hT.lts
    by_cases htn:t < n3
    ·obtain ⟨b1,o1,p,rfl,_,hp,hps,cp⟩:=((s3).keep (keep_lt hbel)).str htn
     have HP:=Lib.hid hp
     have hpz:=hok.outSize (List.mem_of_getElem? hp)
     clear hp
     have htI:(t:Int) < (n3:Int):=by omega
     have ct:wr.cell? ⟨T.gt,0,none⟩=some (.map (some T.m0)):=hT.t.cell rfl
     go_wp2_with (at_mapUpdate; refine wpList_mapUpdate_is _ rfl _ _ _ 113 rfl Tryz.underlying9 Tryz.underlying113 rfl hT.m0 (by unfold maxLen; omega) p hps (.bool true) rfl rfl ?_; intro w2 hmap2 hg2)
     have hT2:=hT.put0 hmap2 hg2
     have hB2:=hB5.grown hg2 (by rw [ne_eq,Option.some.injEq]; omega)
     have hb2:=hbel.grown hg2 (by omega) fun k hk=>by cases hk; omega
     rw [List.append_assoc,←dataOf_more HP.out] at hT2
     clear hmap2 hg2 hT hB5 hbel
     go_wp2_with fail
     refine (steps_above p w2 (by omega)).mono ?_
     rintro e w3 ⟨A6,c6,rfl,h61,h62,hab,hb3⟩
     have hT3:=hT2.call hb3
     have hB3:=hB2.call hb3
     have hgl3:=hB2.lt
     have hgt3:=hT2.t.lt
     have hb4:=hb2.trans (hb3.mono (by omega:q≤_))
     have hal:=aboveS_le p
     have HT3:=Lib.hid hT3
     have HB3:=Lib.hid hB3
     have hz3:=hb3.size
     clear hT2 hB2 hT3 hB3 hb3 hb2
     go_wp2
     go_loopw [39] (fun jv wy=>∃ u mm:Nat,u≤(aboveS p).length∧jv=.int .i64 u∧mm≤i * 2000000 + t * 1000 + 1 + u∧Tg wy T mm (outK l i ++ dataOf ((outsAt l i).take (t + 1))) (inK l i) (outOK l i ++ (overOf ((outsAt l i).take t) ++ dataOf ((aboveS p).take u))) (inOK l i)∧Arr wy g5 60 R∧(∀ k,w2.heap.size≤k→k < w3.heap.size→wy.heap[k]?=w3.heap[k]?)∧w3.heap.size≤wy.heap.size∧Below q w wy) (fun jv _=>(aboveS p).length - (intOf jv).toNat)
     case atStart=>exact ⟨0,nn + 1,Nat.zero_le _,rfl,by omega,by simpa [dataOf] using HT3.out,HB3.out,fun _ _ _=>rfl,Nat.le_refl _,hb4⟩
     case round =>
      clear hb4 HT3 HB3 ct cp
      obtain ⟨u,mm,hu,rfl,hmm,hT,hB5,hkp,hsz,hbel⟩:=hrel
      have HK:=Lib.hid hkp; clear hkp
      by_cases hun:u < (aboveS p).length
      ·obtain ⟨b2,o2,z,rfl,_,hz0,hzs,cz⟩:=(hab.keep (w':=wr) fun k hk=>HK.out k hk.1 hk.2).str hun
       have HZ:=Lib.hid hz0; clear hz0
       have huI:(u:Int) < ((aboveS p).length:Int):=by omega
       have ct:wr.cell? ⟨T.gt,2,none⟩=some (.map (some T.m2)):=hT.t.cell rfl
       have hgl:=hT.t.lt
       go_wp2_with (at_mapUpdate; refine wpList_mapUpdate_is _ rfl _ _ _ 113 rfl Tryz.underlying9 Tryz.underlying113 rfl hT.m2 (by unfold maxLen; omega) z hzs (.bool true) rfl rfl ?_; intro w7 hmap7 hg7)
       have hT7:=hT.put2 hmap7 hg7
       have hB7:=hB5.grown hg7 (by rw [ne_eq,Option.some.injEq]; omega)
       have hb7:=hbel.grown hg7 (by omega) fun k hk=>by cases hk; omega
       have HK7:=Lib.hid (show ∀ k,w2.heap.size≤k→k < w3.heap.size→w7.heap[k]?=w3.heap[k]? from fun k h1 h2=>(hg7.block k (by omega) fun e=>by cases e; omega).trans (HK.out k h1 h2))
       have hs7:w3.heap.size≤w7.heap.size:=Nat.le_trans hsz hg7.size
       rw [List.append_assoc,List.append_assoc,←dataOf_more HZ.out] at hT7
       have HT7:=Lib.hid hT7
       clear hmap7 hg7 hT hB5 hbel hT7
       go_wp2
       go_roundw
       case rel=>exact ⟨u + 1,mm + 1,by omega,by go_num,by omega,by simpa only [List.append_assoc] using HT7.out,hB7,HK7.out,hs7,hb7⟩
       case measure=>simp [intOf]; omega
      ·rw [List.take_of_length_le (by omega:(aboveS p).length≤u),←overOf_more HP.out] at hT
       have HT4:=Lib.hid hT; clear hT
       go_wp2
       go_roundw
       case rel=>exact ⟨t + 1,mm,by omega,by go_num,bnd_next hmm hu (Nat.le_trans hal hpz),HT4.out,hB5,hbel⟩
       case measure=>simp [intOf]; omega
    ·rw [List.take_of_length_le (by omega:(outsAt l i).length≤t)] at hT
     have hT9:Tg wr T nn (outK l (i + 1)) (inK l i) (outOK l (i + 1)) (inOK l i):=by
      rw [show outK l (i + 1)=outK l i ++ dataOf (outsAt l i) from range_flat _ i,show outOK l (i + 1)=outOK l i ++ overOf (outsAt l i) from range_flat _ i]
      exact hT
     have HT:=Lib.hid hT9
     have q7:=hB5.cell (i:=7) (by rw [hR]; rfl)
     have HB5:=Lib.hid hB5
     clear hT hT9 hB5
     go_wp2
     go_loopw [51] (fun iv wx=>∃ t nn:Nat,t≤(insAt l i).length∧iv=.int .i64 t∧nn≤i * 2000000 + 200000 + t * 1000∧Tg wx T nn (outK l (i + 1)) (inK l i ++ dataOf ((insAt l i).take t)) (outOK l (i + 1)) (inOK l i ++ (overOf ((insAt l i).take t)))∧Arr wx g5 60 R∧Below q w wx) (fun iv _=>(insAt l i).length - (intOf iv).toNat)
     case atStart=>exact ⟨0,nn,Nat.zero_le _,rfl,bnd_half hnn ht (Nat.le_trans ho1 (by decide)),by simpa [dataOf,overOf] using HT.out,HB5.out,hbel⟩
     case round =>
      clear hbel HT HB5
      obtain ⟨t,nn,ht,rfl,hnn,hT,hB5,hbel⟩:=hrel
      have hgl:=hT.t.lt
      have hgl5:=hB5.lt
      have hltq:=hT.lts
      by_cases htn:t < n5
      ·obtain ⟨b1,o1,p,rfl,_,hp,hps,cp⟩:=((s5).keep (keep_lt hbel)).str htn
       have HP:=Lib.hid hp
       have hpz:=hok.inSize (List.mem_of_getElem? hp)
       clear hp
       have htI:(t:Int) < (n5:Int):=by omega
       have ct:wr.cell? ⟨T.gt,1,none⟩=some (.map (some T.m1)):=hT.t.cell rfl
       go_wp2_with (at_mapUpdate; refine wpList_mapUpdate_is _ rfl _ _ _ 113 rfl Tryz.underlying9 Tryz.underlying113 rfl hT.m1 (by unfold maxLen; omega) p hps (.bool true) rfl rfl ?_; intro w2 hmap2 hg2)
       have hT2:=hT.put1 hmap2 hg2
       have hB2:=hB5.grown hg2 (by rw [ne_eq,Option.some.injEq]; omega)
       have hb2:=hbel.grown hg2 (by omega) fun k hk=>by cases hk; omega
       rw [List.append_assoc,←dataOf_more HP.out] at hT2
       clear hmap2 hg2 hT hB5 hbel
       go_wp2_with fail
       refine (steps_above p w2 (by omega)).mono ?_
       rintro e w3 ⟨A6,c6,rfl,h61,h62,hab,hb3⟩
       have hT3:=hT2.call hb3
       have hB3:=hB2.call hb3
       have hgl3:=hB2.lt
       have hgt3:=hT2.t.lt
       have hb4:=hb2.trans (hb3.mono (by omega:q≤_))
       have hal:=aboveS_le p
       have HT3:=Lib.hid hT3
       have HB3:=Lib.hid hB3
       have hz3:=hb3.size
       clear hT2 hB2 hT3 hB3 hb3 hb2
       go_wp2
       go_loopw [61] (fun jv wy=>∃ u mm:Nat,u≤(aboveS p).length∧jv=.int .i64 u∧mm≤i * 2000000 + 200000 + t * 1000 + 1 + u∧Tg wy T mm (outK l (i + 1)) (inK l i ++ dataOf ((insAt l i).take (t + 1))) (outOK l (i + 1)) (inOK l i ++ (overOf ((insAt l i).take t) ++ dataOf ((aboveS p).take u)))∧Arr wy g5 60 R∧(∀ k,w2.heap.size≤k→k < w3.heap.size→wy.heap[k]?=w3.heap[k]?)∧w3.heap.size≤wy.heap.size∧Below q w wy) (fun jv _=>(aboveS p).length - (intOf jv).toNat)
       case atStart=>exact ⟨0,nn + 1,Nat.zero_le _,rfl,by omega,by simpa [dataOf] using HT3.out,HB3.out,fun _ _ _=>rfl,Nat.le_refl _,hb4⟩
       case round =>
        clear hb4 HT3 HB3 ct cp
        obtain ⟨u,mm,hu,rfl,hmm,hT,hB5,hkp,hsz,hbel⟩:=hrel
        have HK:=Lib.hid hkp; clear hkp
        by_cases hun:u < (aboveS p).length
        ·obtain ⟨b2,o2,z,rfl,_,hz0,hzs,cz⟩:=(hab.keep (w':=wr) fun k hk=>HK.out k hk.1 hk.2).str hun
         have HZ:=Lib.hid hz0; clear hz0
         have huI:(u:Int) < ((aboveS p).length:Int):=by omega
         have ct:wr.cell? ⟨T.gt,3,none⟩=some (.map (some T.m3)):=hT.t.cell rfl
         have hgl:=hT.t.lt
         go_wp2_with (at_mapUpdate; refine wpList_mapUpdate_is _ rfl _ _ _ 113 rfl Tryz.underlying9 Tryz.underlying113 rfl hT.m3 (by unfold maxLen; omega) z hzs (.bool true) rfl rfl ?_; intro w7 hmap7 hg7)
         have hT7:=hT.put3 hmap7 hg7
         have hB7:=hB5.grown hg7 (by rw [ne_eq,Option.some.injEq]; omega)
         have hb7:=hbel.grown hg7 (by omega) fun k hk=>by cases hk; omega
         have HK7:=Lib.hid (show ∀ k,w2.heap.size≤k→k < w3.heap.size→w7.heap[k]?=w3.heap[k]? from fun k h1 h2=>(hg7.block k (by omega) fun e=>by cases e; omega).trans (HK.out k h1 h2))
         have hs7:w3.heap.size≤w7.heap.size:=Nat.le_trans hsz hg7.size
         rw [List.append_assoc,List.append_assoc,←dataOf_more HZ.out] at hT7
         have HT7:=Lib.hid hT7
         clear hmap7 hg7 hT hB5 hbel hT7
         go_wp2
         go_roundw
         case rel=>exact ⟨u + 1,mm + 1,by omega,by go_num,by omega,by simpa only [List.append_assoc] using HT7.out,hB7,HK7.out,hs7,hb7⟩
         case measure=>simp [intOf]; omega
        ·rw [List.take_of_length_le (by omega:(aboveS p).length≤u),←overOf_more HP.out] at hT
         have HT4:=Lib.hid hT; clear hT
         go_wp2
         go_roundw
         case rel=>exact ⟨t + 1,mm,by omega,by go_num,bnd_next hmm hu (Nat.le_trans hal hpz),HT4.out,hB5,hbel⟩
         case measure=>simp [intOf]; omega
      ·rw [List.take_of_length_le (by omega:(insAt l i).length≤t)] at hT
       have hT9:Tg wr T nn (outK l (i + 1)) (inK l (i + 1)) (outOK l (i + 1)) (inOK l (i + 1)):=by
        rw [show inK l (i + 1)=inK l i ++ dataOf (insAt l i) from range_flat _ i,show inOK l (i + 1)=inOK l i ++ overOf (insAt l i) from range_flat _ i]
        exact hT
       have HT9:=Lib.hid hT9
       clear hT hT9
       go_wp2
       go_roundw
       case rel=>exact ⟨i + 1,nn,by omega,by go_num,by omega,HT9.out,hbel⟩
       case measure=>simp [intOf]; omega
  ·have hin:i=n:=by omega
   rw [hin] at hT hnn
   have t0:=hT.t.cell (i:=0) rfl
   have t1:=hT.t.cell (i:=1) rfl
   have t2:=hT.t.cell (i:=2) rfl
   have t3:=hT.t.cell (i:=3) rfl
   have R0:=hT.r
   have R1:=R0.set 0 (.map (some T.m0))
   have R2:=R1.set 1 (.map (some T.m1))
   have R3:=R2.set 2 (.map (some T.m2))
   have R4:=R3.set 3 (.map (some T.m3))
   have a0:=R0.cell (i:=0) rfl
   have a1:=R1.cell (i:=1) rfl
   have a2:=R2.cell (i:=2) rfl
   have a3:=R3.cell (i:=3) rfl
   have g0:=R0.frozen 0
   have g1:=R1.frozen 1
   have g2:=R2.frozen 2
   have g3:=R3.frozen 3
   have b0:=R4.cell (i:=0) rfl
   have b1:=R4.cell (i:=1) rfl
   have b2:=R4.cell (i:=2) rfl
   have b3:=R4.cell (i:=3) rfl
   have HT:=Lib.hid hT
   have HBT:=Lib.hid (show Below T.q w wr by rw [←hq]; exact hbel)
   clear hT R0 R1 R2 R3 R4 hbel
   go_wp2_with fail
   refine bodyPost_ret (v:=.agg #[.map (some T.m0),.map (some T.m1),.map (some T.m2),.map (some T.m3)]) (by simp [results,Tryz.results54,go_sem,b0,b1,b2,b3]) rfl ?_
   have hT:=HT.out
   exact ⟨T,nn,Nat.le_refl _,hltq.1,hltq.2.1,hltq.2.2.1,hltq.2.2.2.1,rfl,bnd_all hnn (hng ▸ hn5),
    (((hT.m0.setCell (by simp only; omega) _).setCell (by simp only; omega) _).setCell (by simp only; omega) _).setCell (by simp only; omega) _,
    (((hT.m1.setCell (by simp only; omega) _).setCell (by simp only; omega) _).setCell (by simp only; omega) _).setCell (by simp only; omega) _,
    (((hT.m2.setCell (by simp only; omega) _).setCell (by simp only; omega) _).setCell (by simp only; omega) _).setCell (by simp only; omega) _,
    (((hT.m3.setCell (by simp only; omega) _).setCell (by simp only; omega) _).setCell (by simp only; omega) _).setCell (by simp only; omega) _,
    (((HBT.out.setCell (by simp) _).setCell (by simp) _).setCell (by simp) _).setCell (by simp) _⟩
theorem steps_tangleOf (A:Option Addr) (n c:Nat) (l:List RuleV) (w:World) (hsl:Sl w (Lt w.heap.size) A n l) (hok:RulesOk l) :
 Calls Tryz.prog 54 #[.slice A n c] w fun e w'=>∃ (T:TgB) (nn:Nat),w.heap.size≤T.q∧T.q < T.m0∧T.m0 < T.m1∧T.m1 < T.m3∧e=.returned (.agg #[.map (some T.m0),.map (some T.m1),.map (some T.m2),.map (some T.m3)])∧nn≤1000000000 ∧
  MapIs Tryz.prog 9 w' T.m0 nn (setOf (outK l n))∧MapIs Tryz.prog 9 w' T.m1 nn (setOf (inK l n))∧MapIs Tryz.prog 9 w' T.m3 nn (setOf (inOK l n))∧Below w.heap.size w w' :=
 (steps_tangleOf4 A n c l w hsl hok).mono fun _ _ ⟨T,nn,h1,h2,h3,h4,h4',h5,h6,h7,h8,_,h9,h10⟩=>⟨T,nn,h1,h2,h3,Nat.lt_trans h4 h4',h5,h6,h7,h8,h9,h10⟩
end Go.Proofs.Sm
namespace Go.Proofs.Sm
open Go.RowKit
theorem clashes_is (l:List RuleV) (p:ByteArray):meetsS l p=(decide (p.data.toList∈inOK l l.length) || (aboveS p).any fun z=>decide (z.data.toList∈outK l l.length) || decide (z.data.toList∈inK l l.length)):=by
 rw [Bool.eq_iff_iff]
 simp only [meetsS,List.any_eq_true,Bool.or_eq_true,decide_eq_true_eq,List.mem_range,lies_above,inOK,outK,inK,overOf,dataOf,List.mem_flatMap,List.mem_map]
 constructor
 ·rintro ⟨k,hk,⟨q,hq,y,hy,he⟩ | ⟨q,hq,y,hy,he⟩ | ⟨q,hq,y,hy,he⟩⟩
  ·exact .inl ⟨k,hk,q,hq,y,hy,he⟩
  ·exact .inr ⟨y,hy,.inl ⟨k,hk,q,hq,he.symm⟩⟩
  ·exact .inr ⟨y,hy,.inr ⟨k,hk,q,hq,he.symm⟩⟩
 ·rintro (⟨k,hk,q,hq,y,hy,he⟩ | ⟨y,hy,⟨k,hk,q,hq,he⟩ | ⟨k,hk,q,hq,he⟩⟩)
  ·exact ⟨k,hk,.inl ⟨q,hq,y,hy,he⟩⟩
  ·exact ⟨k,hk,.inr (.inl ⟨q,hq,y,hy,he.symm⟩)⟩
  ·exact ⟨k,hk,.inr (.inr ⟨q,hq,y,hy,he.symm⟩)⟩
theorem set_bool (S:List (List UInt8)) (x:List UInt8):(setOf S x).getD (.bool false)=.bool (decide (x∈S)):=by
 unfold setOf; split <;> simp [*]
theorem set_look {S:List (List UInt8)} {w:World} {m n:Nat} (h:MapIs Tryz.prog 9 w m n (setOf S)) {z:ByteArray} (hz:z.size≤maxLen) :
 (Instr.lookup 113 (.map (some m)) (.string z) false).run Tryz.prog w=.ok (.bool (decide (z.data.toList∈S))) w:=by
 have h0:(zeroValue 4).run Tryz.prog w=.ok (.bool false) w:=by kernel_rfl
 have hl:=h.look (t:=113) (by kernel_rfl) (by kernel_rfl) h0 hz
 rw [set_bool] at hl
 exact hl
theorem clashes1 (S0 S1:List (List UInt8)) (m0 m1 n g:Nat) (z:ByteArray) (w:World) (c0:w.cell? ⟨g,0,none⟩=some (.map (some m0))) (c1:w.cell? ⟨g,1,none⟩=some (.map (some m1)))
 (h0:MapIs Tryz.prog 9 w m0 n (setOf S0)) (h1:MapIs Tryz.prog 9 w m1 n (setOf S1)) (hz:z.size≤maxLen) :
 Calls Tryz.prog 89 #[.string z,.pointer (some ⟨g,0,none⟩)] w fun e w'=>e=.returned (.bool (decide (z.data.toList∈S0) || decide (z.data.toList∈S1)))∧Below w.heap.size w w':=by
 have l0:=set_look h0 hz
 have l1:=set_look h1 hz
 by_cases hs:z.data.toList∈S0
 ·rw [decide_eq_true hs] at l0 ⊢
  go_enter Tryz.func89,Tryz.ntmps89
  go_wp2
  go_ret
  exact ⟨rfl,Below.refl _ _⟩
 ·rw [decide_eq_false hs] at l0 ⊢
  rw [Bool.false_or]
  go_enter Tryz.func89,Tryz.ntmps89
  go_wp2
  go_ret
  exact ⟨rfl,Below.refl _ _⟩
end Go.Proofs.Sm
namespace Go.Proofs
open Go.Shelf
def Tryz.laysSlB13_ren:Go.Shelf.Ren:=⟨fun | 13=>284 | 24=>289 | 25=>290 | 12=>285 | 31=>204 | 19=>273 | 20=>28 | 21=>291 | 22=>238 | 23=>292 | 29=>283 | 30=>294 | n=>n,fun | 22=>75 | 3=>3 | 4=>4 | 0=>0 | 5=>5 | 9=>9 | 33=>162 | 40=>299 | 39=>203 | n=>n,fun | 0=>0 | n=>n⟩
theorem Tryz.laysSlB13:Go.Proofs.SlLaysB.n13 Tryz.prog Tryz.laysSlB13_ren:={
 mixed:=by kernel_rfl
 f13:=Tryz.func284.trans (congrArg some (by kernel_rfl))
 f25:=Tryz.func290.trans (congrArg some (by kernel_rfl))
 t0:=Tryz.underlying0
 a0:=Tryz.isAgg0
 z0:=Tryz.sizeOf0
 v0:=Tryz.zeroValue0
 t3:=Tryz.underlying3
 a3:=Tryz.isAgg3
 z3:=Tryz.sizeOf3
 v3:=Tryz.zeroValue3
 t4:=Tryz.underlying4
 a4:=Tryz.isAgg4
 z4:=Tryz.sizeOf4
 v4:=Tryz.zeroValue4
 t5:=Tryz.underlying5
 a5:=Tryz.isAgg5
 z5:=Tryz.sizeOf5
 v5:=Tryz.zeroValue5
 t22:=Tryz.underlying75
 a22:=Tryz.isAgg75
 z22:=Tryz.sizeOf75
 v22:=Tryz.zeroValue75 }
open Go.RowKit Go.Lib in
theorem Tryz.bytes_Count_one_at (a:Addr) (n c b2 o2 d:Nat) (xs:List Int) (cv:Int) (w:World) (hx:xs.length=n) (hc:∀ i,i < n→w.cell? (a.add i)=some (.int .u8 (xs.getD i 0))) (hc2:w.cell? ⟨b2,o2,none⟩=some (.int .u8 cv)) :
 Calls Tryz.prog 284 #[.slice (some a) n c,.slice (some ⟨b2,o2,none⟩) 1 d] w fun e w'=>e=.returned (.int .i64 (Lib.countByte (Lib.bytesOf xs) cv.toNat.toUInt8))∧w'=w:=Any.bytes_Count_one_at Tryz.laysSlB13 a n c b2 o2 d xs cv w hx hc hc2
open Go.Proofs Go.RowKit Go.Lib in
theorem Tryz.bytes_Index_at (a1 a2:Addr) (n c1 k c2:Nat) (xs ys:List Int) (m:Int) (w:World) (hx:xs.length=n) (hy:ys.length=k) (hr1:∀ x∈xs,0≤x∧x < 256) (hr2:∀ y∈ys,0≤y∧y < 256) (hc1:∀ i,i < n→w.cell? (a1.add i)=some (.int .u8 (xs.getD i 0))) (hc2:∀ i,i < k→w.cell? (a2.add i)=some (.int .u8 (ys.getD i 0))) (hcap:n≤c1) (hs:n < 4294967281) (hk:k≤9223372036854775807) (hm:w.cell? ⟨0,0,none⟩=some (.int .i64 m)) :
 Calls Tryz.prog 285 #[.slice (some a1) n c1,.slice (some a2) k c2] w fun e w'=>e=.returned (.int .i64 (Lib.index (Lib.bytesOf xs) (Lib.bytesOf ys)))∧∃ q,w'=w.drewN q:=Any.bytes_Index_at Tryz.lays185 a1 a2 n c1 k c2 xs ys m w hx hy hr1 hr2 hc1 hc2 hcap hs hk hm
def Tryz.laysSlC13_ren:Go.Shelf.Ren:=⟨fun | 13=>284 | 24=>289 | 25=>290 | 12=>285 | 31=>204 | 19=>273 | 20=>28 | 21=>291 | 22=>238 | 23=>292 | 29=>283 | 30=>294 | n=>n,fun | 22=>75 | 3=>3 | 4=>4 | 0=>0 | 5=>5 | 9=>9 | 33=>162 | 40=>299 | 39=>203 | n=>n,fun | 0=>0 | n=>n⟩
theorem Tryz.laysSlC13:Go.Proofs.SlLaysC.n13 Tryz.prog Tryz.laysSlC13_ren:={
 mixed:=by kernel_rfl
 f12:=Tryz.func285.trans (congrArg some (by kernel_rfl))
 f13:=Tryz.func284.trans (congrArg some (by kernel_rfl))
 f19:=Tryz.func273.trans (congrArg some (by kernel_rfl))
 f20:=Tryz.func28.trans (congrArg some (by kernel_rfl))
 f21:=Tryz.func291.trans (congrArg some (by kernel_rfl))
 f22:=Tryz.func238.trans (congrArg some (by kernel_rfl))
 f23:=Tryz.func292.trans (congrArg some (by kernel_rfl))
 f25:=Tryz.func290.trans (congrArg some (by kernel_rfl))
 f29:=Tryz.func283.trans (congrArg some (by kernel_rfl))
 f30:=Tryz.func294.trans (congrArg some (by kernel_rfl))
 t0:=Tryz.underlying0
 a0:=Tryz.isAgg0
 z0:=Tryz.sizeOf0
 v0:=Tryz.zeroValue0
 t3:=Tryz.underlying3
 a3:=Tryz.isAgg3
 z3:=Tryz.sizeOf3
 v3:=Tryz.zeroValue3
 t4:=Tryz.underlying4
 a4:=Tryz.isAgg4
 z4:=Tryz.sizeOf4
 v4:=Tryz.zeroValue4
 t5:=Tryz.underlying5
 a5:=Tryz.isAgg5
 z5:=Tryz.sizeOf5
 v5:=Tryz.zeroValue5
 t9:=Tryz.underlying9
 a9:=Tryz.isAgg9
 z9:=Tryz.sizeOf9
 v9:=Tryz.zeroValue9
 t22:=Tryz.underlying75
 a22:=Tryz.isAgg75
 z22:=Tryz.sizeOf75
 v22:=Tryz.zeroValue75
 t33:=Tryz.underlying162
 a33:=Tryz.isAgg162
 z33:=Tryz.sizeOf162
 v33:=Tryz.zeroValue162
 t39:=Tryz.underlying203
 a39:=Tryz.isAgg203
 z39:=Tryz.sizeOf203
 v39:=Tryz.zeroValue203
 t40:=Tryz.underlying299
 a40:=Tryz.isAgg299
 z40:=Tryz.sizeOf299
 v40:=Tryz.zeroValue299
 g0:=by kernel_rfl }
open Go.RowKit Go.Lib in
theorem Tryz.bytes_Count_at (a1 a2:Addr) (n c1 k c2:Nat) (xs ys:List Int) (m:Int) (w:World) (hx:xs.length=n) (hy:ys.length=k) (hr1:∀ x∈xs,0≤x∧x < 256) (hr2:∀ y∈ys,0≤y∧y < 256) (hc1:∀ i,i < n→w.cell? (a1.add i)=some (.int .u8 (xs.getD i 0))) (hc2:∀ i,i < k→w.cell? (a2.add i)=some (.int .u8 (ys.getD i 0))) (hcap:n≤c1) (hs:n < 4294967281) (hk:k≤9223372036854775807) (h2:2≤k) (hm:w.cell? ⟨0,0,none⟩=some (.int .i64 m)) :
 Calls Tryz.prog 284 #[.slice (some a1) n c1,.slice (some a2) k c2] w fun e w'=>e=.returned (.int .i64 (Lib.count (Lib.bytesOf xs) (Lib.bytesOf ys)))∧∃ q,w'=w.drewN q:=Any.bytes_Count_at Tryz.laysSlC13 a1 a2 n c1 k c2 xs ys m w hx hy hr1 hr2 hc1 hc2 hcap hs hk h2 hm
end Go.Proofs
namespace Go.Proofs
open Go.Shelf
def Tryz.keys_mapintbool_ren:Go.Shelf.Ren:=⟨fun | 7=>57 | 10=>92 | n=>n,fun | 23=>129 | 26=>3 | 3=>4 | 28=>132 | 0=>0 | 27=>131 | 33=>119 | 4=>4 | n=>n,fun | n=>n⟩
theorem Tryz.keys_mapintbool:Go.Proofs.SlLaysZI.n7 Tryz.prog Tryz.keys_mapintbool_ren:={
 mixed:=by kernel_rfl
 f7:=⟨Tryz.f57.name,by decide,Tryz.func57.trans (congrArg some (by kernel_rfl))⟩
 f10:=⟨Tryz.f92.name,by decide,Tryz.func92.trans (congrArg some (by kernel_rfl))⟩
 t0:=Tryz.underlying0
 a0:=Tryz.isAgg0
 z0:=Tryz.sizeOf0
 v0:=Tryz.zeroValue0
 t4:=Tryz.underlying4
 a4:=Tryz.isAgg4
 z4:=Tryz.sizeOf4
 v4:=Tryz.zeroValue4
 t23:=Tryz.underlying129
 a23:=Tryz.isAgg129
 z23:=Tryz.sizeOf129
 v23:=Tryz.zeroValue129
 t26:=Tryz.underlying3
 a26:=Tryz.isAgg3
 z26:=Tryz.sizeOf3
 v26:=Tryz.zeroValue3
 t27:=Tryz.underlying131
 a27:=Tryz.isAgg131
 z27:=Tryz.sizeOf131
 v27:=Tryz.zeroValue131
 t28:=Tryz.underlying132
 a28:=Tryz.isAgg132
 z28:=Tryz.sizeOf132
 v28:=Tryz.zeroValue132
 t33:=Tryz.underlying119
 a33:=Tryz.isAgg119
 z33:=Tryz.sizeOf119
 v33:=Tryz.zeroValue119 }
def Tryz.keys_mapstringsmithyardapiFile_ren:Go.Shelf.Ren:=⟨fun | 7=>68 | 10=>103 | n=>n,fun | 23=>97 | 26=>9 | 3=>78 | 28=>145 | 0=>0 | 27=>144 | 33=>114 | 4=>4 | n=>n,fun | n=>n⟩
theorem Tryz.keys_mapstringsmithyardapiFile:Go.Proofs.SlLaysZ.n7 Tryz.prog Tryz.keys_mapstringsmithyardapiFile_ren:={
 mixed:=by kernel_rfl
 f7:=⟨Tryz.f68.name,by decide,Tryz.func68.trans (congrArg some (by kernel_rfl))⟩
 f10:=⟨Tryz.f103.name,by decide,Tryz.func103.trans (congrArg some (by kernel_rfl))⟩
 t0:=Tryz.underlying0
 a0:=Tryz.isAgg0
 z0:=Tryz.sizeOf0
 v0:=Tryz.zeroValue0
 t4:=Tryz.underlying4
 a4:=Tryz.isAgg4
 z4:=Tryz.sizeOf4
 v4:=Tryz.zeroValue4
 t23:=Tryz.underlying97
 a23:=Tryz.isAgg97
 z23:=Tryz.sizeOf97
 v23:=Tryz.zeroValue97
 t26:=Tryz.underlying9
 a26:=Tryz.isAgg9
 z26:=Tryz.sizeOf9
 v26:=Tryz.zeroValue9
 t27:=Tryz.underlying144
 a27:=Tryz.isAgg144
 z27:=Tryz.sizeOf144
 v27:=Tryz.zeroValue144
 t28:=Tryz.underlying145
 a28:=Tryz.isAgg145
 z28:=Tryz.sizeOf145
 v28:=Tryz.zeroValue145
 t33:=Tryz.underlying114
 a33:=Tryz.isAgg114
 z33:=Tryz.sizeOf114
 v33:=Tryz.zeroValue114 }
def Tryz.keys_mapstringsmithyardapiMemory_ren:Go.Shelf.Ren:=⟨fun | 7=>70 | 10=>106 | n=>n,fun | 23=>98 | 26=>9 | 3=>43 | 28=>145 | 0=>0 | 27=>144 | 33=>114 | 4=>4 | n=>n,fun | n=>n⟩
theorem Tryz.keys_mapstringsmithyardapiMemory:Go.Proofs.SlLaysZ.n7 Tryz.prog Tryz.keys_mapstringsmithyardapiMemory_ren:={
 mixed:=by kernel_rfl
 f7:=⟨Tryz.f70.name,by decide,Tryz.func70.trans (congrArg some (by kernel_rfl))⟩
 f10:=⟨Tryz.f106.name,by decide,Tryz.func106.trans (congrArg some (by kernel_rfl))⟩
 t0:=Tryz.underlying0
 a0:=Tryz.isAgg0
 z0:=Tryz.sizeOf0
 v0:=Tryz.zeroValue0
 t4:=Tryz.underlying4
 a4:=Tryz.isAgg4
 z4:=Tryz.sizeOf4
 v4:=Tryz.zeroValue4
 t23:=Tryz.underlying98
 a23:=Tryz.isAgg98
 z23:=Tryz.sizeOf98
 v23:=Tryz.zeroValue98
 t26:=Tryz.underlying9
 a26:=Tryz.isAgg9
 z26:=Tryz.sizeOf9
 v26:=Tryz.zeroValue9
 t27:=Tryz.underlying144
 a27:=Tryz.isAgg144
 z27:=Tryz.sizeOf144
 v27:=Tryz.zeroValue144
 t28:=Tryz.underlying145
 a28:=Tryz.isAgg145
 z28:=Tryz.sizeOf145
 v28:=Tryz.zeroValue145
 t33:=Tryz.underlying114
 a33:=Tryz.isAgg114
 z33:=Tryz.sizeOf114
 v33:=Tryz.zeroValue114 }
def Tryz.keys_mapstringsmithyardapiLook_ren:Go.Shelf.Ren:=⟨fun | 7=>139 | 10=>186 | n=>n,fun | 23=>213 | 26=>9 | 3=>109 | 28=>145 | 0=>0 | 27=>144 | 33=>114 | 4=>4 | n=>n,fun | n=>n⟩
theorem Tryz.keys_mapstringsmithyardapiLook:Go.Proofs.SlLaysZ.n7 Tryz.prog Tryz.keys_mapstringsmithyardapiLook_ren:={
 mixed:=by kernel_rfl
 f7:=⟨Tryz.f139.name,by decide,Tryz.func139.trans (congrArg some (by kernel_rfl))⟩
 f10:=⟨Tryz.f186.name,by decide,Tryz.func186.trans (congrArg some (by kernel_rfl))⟩
 t0:=Tryz.underlying0
 a0:=Tryz.isAgg0
 z0:=Tryz.sizeOf0
 v0:=Tryz.zeroValue0
 t4:=Tryz.underlying4
 a4:=Tryz.isAgg4
 z4:=Tryz.sizeOf4
 v4:=Tryz.zeroValue4
 t23:=Tryz.underlying213
 a23:=Tryz.isAgg213
 z23:=Tryz.sizeOf213
 v23:=Tryz.zeroValue213
 t26:=Tryz.underlying9
 a26:=Tryz.isAgg9
 z26:=Tryz.sizeOf9
 v26:=Tryz.zeroValue9
 t27:=Tryz.underlying144
 a27:=Tryz.isAgg144
 z27:=Tryz.sizeOf144
 v27:=Tryz.zeroValue144
 t28:=Tryz.underlying145
 a28:=Tryz.isAgg145
 z28:=Tryz.sizeOf145
 v28:=Tryz.zeroValue145
 t33:=Tryz.underlying114
 a33:=Tryz.isAgg114
 z33:=Tryz.sizeOf114
 v33:=Tryz.zeroValue114 }
def Tryz.keys_mapstringbool_ren:Go.Shelf.Ren:=⟨fun | 7=>271 | 10=>282 | n=>n,fun | 23=>113 | 26=>9 | 3=>4 | 28=>145 | 0=>0 | 27=>144 | 33=>114 | 4=>4 | n=>n,fun | n=>n⟩
theorem Tryz.keys_mapstringbool:Go.Proofs.SlLaysZ.n7 Tryz.prog Tryz.keys_mapstringbool_ren:={
 mixed:=by kernel_rfl
 f7:=⟨Tryz.f271.name,by decide,Tryz.func271.trans (congrArg some (by kernel_rfl))⟩
 f10:=⟨Tryz.f282.name,by decide,Tryz.func282.trans (congrArg some (by kernel_rfl))⟩
 t0:=Tryz.underlying0
 a0:=Tryz.isAgg0
 z0:=Tryz.sizeOf0
 v0:=Tryz.zeroValue0
 t4:=Tryz.underlying4
 a4:=Tryz.isAgg4
 z4:=Tryz.sizeOf4
 v4:=Tryz.zeroValue4
 t23:=Tryz.underlying113
 a23:=Tryz.isAgg113
 z23:=Tryz.sizeOf113
 v23:=Tryz.zeroValue113
 t26:=Tryz.underlying9
 a26:=Tryz.isAgg9
 z26:=Tryz.sizeOf9
 v26:=Tryz.zeroValue9
 t27:=Tryz.underlying144
 a27:=Tryz.isAgg144
 z27:=Tryz.sizeOf144
 v27:=Tryz.zeroValue144
 t28:=Tryz.underlying145
 a28:=Tryz.isAgg145
 z28:=Tryz.sizeOf145
 v28:=Tryz.zeroValue145
 t33:=Tryz.underlying114
 a33:=Tryz.isAgg114
 z33:=Tryz.sizeOf114
 v33:=Tryz.zeroValue114 }
def Tryz.sorted_int_ren:Go.Shelf.Ren:=⟨fun | 6=>56 | 8=>90 | 9=>91 | 11=>134 | 13=>86 | 12=>135 | 23=>128 | 24=>129 | 14=>174 | 15=>175 | 16=>176 | 17=>177 | 18=>178 | 19=>179 | 20=>180 | 21=>181 | 22=>182 | 25=>215 | 26=>162 | 27=>163 | 28=>216 | 29=>217 | 30=>218 | 31=>243 | n=>n,fun | 26=>3 | 28=>132 | 24=>87 | 0=>0 | 3=>3 | 37=>162 | 48=>203 | 50=>123 | 4=>4 | 40=>197 | 39=>196 | 45=>128 | 5=>5 | 9=>9 | 51=>234 | 55=>238 | 57=>260 | 58=>216 | 33=>119 | n=>n,fun | n=>n⟩
theorem Tryz.sorted_int:Go.Proofs.SlLaysZI.n6 Tryz.prog Tryz.sorted_int_ren:={
 mixed:=by kernel_rfl
 f6:=⟨Tryz.f56.name,by decide,Tryz.func56.trans (congrArg some (by kernel_rfl))⟩
 f8:=⟨Tryz.f90.name,by decide,Tryz.func90.trans (congrArg some (by kernel_rfl))⟩
 f11:=⟨Tryz.f134.name,by decide,Tryz.func134.trans (congrArg some (by kernel_rfl))⟩
 t0:=Tryz.underlying0
 a0:=Tryz.isAgg0
 z0:=Tryz.sizeOf0
 v0:=Tryz.zeroValue0
 t24:=Tryz.underlying87
 a24:=Tryz.isAgg87
 z24:=Tryz.sizeOf87
 v24:=Tryz.zeroValue87
 t26:=Tryz.underlying3
 a26:=Tryz.isAgg3
 z26:=Tryz.sizeOf3
 v26:=Tryz.zeroValue3
 t28:=Tryz.underlying132
 a28:=Tryz.isAgg132
 z28:=Tryz.sizeOf132
 v28:=Tryz.zeroValue132
 i26:=by kernel_rfl }
def Tryz.sorted_string_ren:Go.Shelf.Ren:=⟨fun | 6=>67 | 8=>101 | 9=>102 | 11=>143 | 13=>86 | 12=>144 | 23=>128 | 24=>129 | 14=>187 | 15=>188 | 16=>189 | 17=>190 | 18=>191 | 19=>192 | 20=>193 | 21=>194 | 22=>195 | 25=>225 | 26=>162 | 27=>163 | 28=>226 | 29=>227 | 30=>228 | 31=>255 | n=>n,fun | 26=>9 | 28=>145 | 24=>24 | 0=>0 | 3=>3 | 37=>162 | 48=>203 | 50=>123 | 4=>4 | 40=>197 | 39=>196 | 45=>128 | 5=>5 | 9=>9 | 51=>234 | 55=>238 | 57=>260 | 58=>216 | 33=>114 | n=>n,fun | n=>n⟩
theorem Tryz.sorted_string:Go.Proofs.SlLaysZ.n6 Tryz.prog Tryz.sorted_string_ren:={
 mixed:=by kernel_rfl
 f6:=⟨Tryz.f67.name,by decide,Tryz.func67.trans (congrArg some (by kernel_rfl))⟩
 f8:=⟨Tryz.f101.name,by decide,Tryz.func101.trans (congrArg some (by kernel_rfl))⟩
 f11:=⟨Tryz.f143.name,by decide,Tryz.func143.trans (congrArg some (by kernel_rfl))⟩
 t0:=Tryz.underlying0
 a0:=Tryz.isAgg0
 z0:=Tryz.sizeOf0
 v0:=Tryz.zeroValue0
 t24:=Tryz.underlying24
 a24:=Tryz.isAgg24
 z24:=Tryz.sizeOf24
 v24:=Tryz.zeroValue24
 t26:=Tryz.underlying9
 a26:=Tryz.isAgg9
 z26:=Tryz.sizeOf9
 v26:=Tryz.zeroValue9
 t28:=Tryz.underlying145
 a28:=Tryz.isAgg145
 z28:=Tryz.sizeOf145
 v28:=Tryz.zeroValue145
 i26:=by kernel_rfl }
end Go.Proofs
namespace Go.Proofs.Sm
open Go.RowKit Go.Maps Go.Sort Go.Shelf
theorem flat_one {α β:Type} (f:α→β) (l:List α):(l.flatMap fun x=>[f x])=l.map f:=by
 induction l with
 | nil=>rfl
 | cons x l ih=>rw [List.flatMap_cons,ih]; rfl
theorem sorts_string (m : Nat) : /- slices.Sorted at strings: 67 -/ AnyZ.SortsIn Tryz.prog Tryz.sorted_string_ren Fence.wide m :=
 ⟨fun blk off cap ss W hH hblk hsz=>callsIn_wide.2 (Tryz.slices_Sort_string blk off cap ss W hH hblk hsz),fun p cap W=>callsIn_wide.2 (Tryz.slices_Sort_string_none p cap W)⟩
theorem keys_mapstringbool (b:Nat) (w:World):Calls Tryz.prog 271 #[.map (some b)] w fun e w'=>e=.returned (.func (.func 282) #[] #[.pointer (some ⟨w.heap.size,0,none⟩)])∧w'=w.alloc (.cells #[.map (some b)] 113) :=
 (callsIn_wide (n:=5)).1 (AnyZ.keys_in Tryz.keys_mapstringbool Fence.wide 5 trivial rfl (some b) w)
set_option maxHeartbeats 1000000 in
theorem sorted_mapstringbool (b n:Nat) (f:List UInt8→Option Value) (w:World) (h:MapIs Tryz.prog 9 w b n f) (hn:n≤1000000000) :
 Calls Tryz.prog 67 #[.func (.func 282) #[] #[.pointer (some ⟨w.heap.size,0,none⟩)]] (w.alloc (.cells #[.map (some b)] 113)) fun e w' =>
  ∃ ks A c,e=.returned (.slice A ks.length c)∧KeysAre f ks∧ks.length≤c∧c≤maxLen∧Sl w' (Lt w'.heap.size) A ks.length ks∧Below w.heap.size w w':=by
 obtain ⟨D0,hown,hsz,hnd,hmem,hlen⟩:=h.keys Tryz.underlying9
 have hbl:=hown.lt
 have hseq:SeqGives Fence.wide 2 Tryz.prog 282 #[.pointer (some ⟨w.heap.size,0,none⟩)] encStr (fun ss=>ss.Perm (strKeys D0)) (Maps.size D0) (w.alloc (.cells #[.map (some b)] 113)) :=
  AnyZ.keys_gives (ρ:=Tryz.keys_mapstringbool_ren) { Tryz.keys_mapstringbool with } Fence.wide _ trivial rfl (by omega) w.heap.size b n D0 _ (by simp) (by simp) (by
   obtain ⟨es,clock,hb,Ft,hs,hD⟩:=hown
   exact ⟨es,clock,(Below.heap_alloc _ _ b hbl).trans hb,Ft,hs,hD⟩)
 have hm1:Maps.size D0≤maxLen:=by unfold maxLen; omega
 have cS:=AnyZ.sorted_in Tryz.sorted_string Fence.wide 5 trivial trivial trivial trivial rfl (by omega) (sorts_string _) (enters_of Tryz.func102 (by kernel_rfl) rfl) 282 #[.pointer (some ⟨w.heap.size,0,none⟩)] trivial (enters_of Tryz.func282 (by kernel_rfl) rfl) _ _ hm1 (by omega) _ hseq
 change CallsIn _ _ Tryz.prog 67 _ _ _ at cS
 refine (callsIn_wide.1 cS).mono ?_
 rintro e w' ⟨v,ss,rfl,hp,hrow,_,hb⟩
 obtain ⟨h1,h2⟩:=keysAre_of hp hnd hmem hlen
 have hl:ss.length=((ss.mergeSort leB).map fun x=>(⟨x.toArray⟩:ByteArray)).length:=by simp
 generalize hks:((ss.mergeSort leB).map fun x=>(⟨x.toArray⟩:ByteArray))=ks at h1 h2 hl
 have hrow2:w'.ownsRow (w.alloc (.cells #[.map (some b)] 113)).heap.size 9 1 v ks.length (ks.flatMap fun x=>[Value.string x]):=by
  rw [flat_one,←h2,←hl]
  exact hrow
 obtain ⟨A,c,rfl,h3,h4,h5⟩:=Sl.of_own (α:=ByteArray) (cells:=fun x=>[Value.string x]) (fun _=>rfl) (fun x hx=>⟨rfl,h1.size x hx⟩) hrow2
 exact ⟨ks,A,c,rfl,h1,h3,h4,h5,((Below.refl _ w).alloc (Nat.le_refl _) _).trans (hb.mono (by simp))⟩
theorem sorts_int (m : Nat) : /- slices.Sorted at ints: 56 -/ AnyZI.SortsIn Tryz.prog Tryz.sorted_int_ren Fence.wide m :=
 ⟨fun blk off cap ss W hH hblk hsz=>callsIn_wide.2 (Tryz.slices_Sort_int blk off cap ss W hH hblk hsz),fun p cap W=>callsIn_wide.2 (Tryz.slices_Sort_int_none p cap W)⟩
theorem keys_mapintbool (b:Nat) (w:World):Calls Tryz.prog 57 #[.map (some b)] w fun e w'=>e=.returned (.func (.func 92) #[] #[.pointer (some ⟨w.heap.size,0,none⟩)])∧w'=w.alloc (.cells #[.map (some b)] 129) :=
 (callsIn_wide (n:=5)).1 (AnyZI.keys_in Tryz.keys_mapintbool Fence.wide 5 trivial rfl (some b) w)
set_option maxHeartbeats 1000000 in
theorem sorted_mapintbool (b n m:Nat) (p:Nat→Bool) (f:Int→Option Value) (w:World) (h:MapZ Tryz.prog 3 w b n f) (hn:n≤1000000000) (hm:m≤1000000000) (hf:∀ key,(f key).isSome=true↔∃ i:Nat,i < m∧p i=true∧key=(i:Int)) :
 Calls Tryz.prog 56 #[.func (.func 92) #[] #[.pointer (some ⟨w.heap.size,0,none⟩)]] (w.alloc (.cells #[.map (some b)] 129)) fun e w' =>
  ∃ v,e=.returned v∧RowK w' (w.heap.size + 1) 3 (fun _=>False) v ((List.range m).filter p)∧Below w.heap.size w w':=by
 obtain ⟨D0,hown,hsz,hnd,hmem⟩:=h.keys Tryz.underlying3
 have hbl:=hown.lt
 have hseq:SeqGives Fence.wide 2 Tryz.prog 92 #[.pointer (some ⟨w.heap.size,0,none⟩)] encZ (fun ss=>ss.Perm (intKeys D0)) (Maps.size D0) (w.alloc (.cells #[.map (some b)] 129)) :=
  AnyZI.keys_gives (ρ:=Tryz.keys_mapintbool_ren) { Tryz.keys_mapintbool with } Fence.wide _ trivial rfl (by omega) w.heap.size b n D0 _ (by simp) (by simp) (by
   obtain ⟨es,clock,hb,Ft,hs,hD⟩:=hown
   exact ⟨es,clock,(Below.heap_alloc _ _ b hbl).trans hb,Ft,hs,hD⟩)
 have hm1:Maps.size D0≤maxLen:=by unfold maxLen; omega
 have cS:=AnyZI.sorted_in Tryz.sorted_int Fence.wide 5 trivial trivial trivial trivial rfl (by omega) (sorts_int _) (enters_of Tryz.func91 (by kernel_rfl) rfl) 92 #[.pointer (some ⟨w.heap.size,0,none⟩)] trivial (enters_of Tryz.func92 (by kernel_rfl) rfl) _ _ hm1 (by omega) _ hseq
 change CallsIn _ _ Tryz.prog 56 _ _ _ at cS
 refine (callsIn_wide.1 cS).mono ?_
 rintro e w' ⟨v,ss,rfl,hp,hrow,_,hb⟩
 have h1:=keys_filter (n:=m) (p:=p) hp hnd fun key=>(hmem key).trans (hf key)
 have hl:ss.length=((List.range m).filter p).length:=by
  have:=congrArg List.length h1
  simpa using this
 have hrow3:w'.ownsRow (w.heap.size + 1) 3 1 v ((List.range m).filter p).length (((List.range m).filter p).map fun i:Nat=>Value.int .i64 (i:Int)):=by
  rw [World.size_alloc] at hrow
  have e1:(((List.range m).filter p).map fun i:Nat=>Value.int .i64 (i:Int))=(ss.mergeSort leI).map encZ:=by rw [h1,List.map_map]; rfl
  rw [e1,←hl]
  exact hrow
 refine ⟨v,rfl,⟨fun _ hk=>hk.elim,((List.range m).filter p).map fun i:Nat=>[Value.int .i64 (i:Int)],by simp,?_,fun i x r hx hr=>?_⟩,((Below.refl _ w).alloc (Nat.le_refl _) _).trans (hb.mono (by simp))⟩
 ·have e2:(((List.range m).filter p).map fun i:Nat=>[Value.int .i64 (i:Int)]).flatten=((List.range m).filter p).map fun i:Nat=>Value.int .i64 (i:Int):=by
   generalize (List.range m).filter p=l
   induction l with
   | nil=>rfl
   | cons x l ih=>simp [ih]
  rw [e2]
  exact hrow3
 ·rw [List.getElem?_map,hx] at hr
  cases hr
  have hxm:=List.mem_of_getElem? hx
  simp only [List.mem_filter,List.mem_range] at hxm
  exact ⟨rfl,by unfold maxLen; omega⟩
end Go.Proofs.Sm
