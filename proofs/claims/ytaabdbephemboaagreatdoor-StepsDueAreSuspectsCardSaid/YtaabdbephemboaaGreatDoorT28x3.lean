/- What is due after a change of files, and was not before it, is among the suspects of the paths that changed: the given statement, for all arguments; no condition. -/
import Derived.Test.YtaabdbephemboaaGreatDoorT28x2
import Derived.Deep.QuietTactic
import Derived.BigQuiet
import Derived.Test.YtaabdbephemboaaGreatDoorCardZRC28
namespace Go.Proofs.Sm
open Go.RowKit
set_option maxHeartbeats 1000000 in
set_option maxRecDepth 100000 in
theorem ref1_SameFile2 (x y:FileV) (A:Option Addr) (n c:Nat) (B:Option Addr) (m d:Nat) (w:World) (hx:Sl w (Lt w.heap.size) A n x.bytes) (hy:Sl w (Lt w.heap.size) B m y.bytes) :
 Calls Tryz.prog 29 #[.agg #[.string x.path,.bool x.run,.slice A n c],.agg #[.string y.path,.bool y.run,.slice B m d]] w fun e w'=>e=.returned (.bool (sameF x y))∧Below w.heap.size w w':=by
 have hb:=fr_alloc (fr_alloc (fr_refl w) (.cells #[.string x.path,.bool x.run,.slice A n c] 78)) (.cells #[.string y.path,.bool y.run,.slice B m d] 78)
 have HC:=Lib.hid (bytes_Equal2 A B n m c d x.bytes y.bytes _ (Lt w.heap.size) (Lt w.heap.size) (hx.keep (keep_lt hb)) (hy.keep (keep_lt hb)))
 have HV:=Lib.hid (show sameF x y=(x.path.toList == y.path.toList && (x.run == y.run && decide (x.bytes=y.bytes))) by unfold sameF; congr 2; rw [Bool.eq_iff_iff,beq_iff_eq,decide_eq_true_eq])
 clear hx hy
 generalize decide (x.bytes=y.bytes)=z at *
 cases hp:(x.path.toList == y.path.toList)
 ·go_enter Tryz.func29,Tryz.ntmps29
  go_wp2
  go_ret
  exact ⟨ret_bool (by rw [HV.out,hp]; rfl),hb⟩
 ·cases hr:(x.run == y.run)
  ·go_enter Tryz.func29,Tryz.ntmps29
   go_wp2
   go_ret
   exact ⟨ret_bool (by rw [HV.out,hp,hr]; rfl),hb⟩
  ·go_enter Tryz.func29,Tryz.ntmps29
   go_wp2_with fail
   refine HC.out.mono ?_
   rintro e w1 ⟨rfl,rfl⟩
   go_wp2
   go_ret
   exact ⟨ret_bool (by rw [HV.out,hp,hr,Bool.true_and,Bool.true_and]),hb⟩
set_option maxHeartbeats 1000000 in
set_option maxRecDepth 100000 in
theorem law6_same (x y:FileV) (A:Option Addr) (n c:Nat) (B:Option Addr) (m d:Nat) (w:World) (hx:Sl w (Lt w.heap.size) A n x.bytes) (hy:Sl w (Lt w.heap.size) B m y.bytes) :
 Calls Tryz.prog 32 #[.agg #[.string x.path,.bool x.run,.slice A n c],.agg #[.string y.path,.bool y.run,.slice B m d]] w fun e w'=>e=.returned (.bool (sameF x y))∧Below w.heap.size w w':=by
 have hb:=fr_alloc (fr_alloc (fr_refl w) (.cells #[.string x.path,.bool x.run,.slice A n c] 91)) (.cells #[.string y.path,.bool y.run,.slice B m d] 78)
 have HC:=Lib.hid (ref1_SameFile2 x y A n c B m d _ (sl_call hx hb (Nat.le_refl _)) (sl_call hy hb (Nat.le_refl _)))
 generalize sameF x y=z at *
 clear hx hy
 go_enter Tryz.func32,Tryz.ntmps32
 go_wp2_with fail
 refine HC.out.mono ?_
 rintro e w1 ⟨rfl,hb1⟩
 go_wp2
 go_ret
 exact ⟨rfl,fr_call hb hb1⟩
set_option maxHeartbeats 1000000 in
set_option maxRecDepth 100000 in
theorem indexFunc_file2 (g:Nat) (eg:∀ args w,(callFunc g args).run Tryz.prog w=.ok (.enter g args) w) (v1:Value) (p:FileV→Bool) (A:Option Addr) (n c:Nat) (l:List FileV) (w:World) (hsl:Sl w (Lt w.heap.size) A n l)
 (hp:∀ (W:World) (x:FileV) (A1:Option Addr) (n1 c1:Nat),Below w.heap.size w W→Sl W (Lt W.heap.size) A1 n1 x.bytes→Calls Tryz.prog g #[v1,.agg #[.string x.path,.bool x.run,.slice A1 n1 c1]] W fun e w'=>e=.returned (.bool (p x))∧Below W.heap.size W w') :
 Calls Tryz.prog 58 #[.slice A n c,.func (.func g) #[v1] #[]] w (IdxPost p l w):=by
 have hm:n≤9223372036854775807:=hsl.2.1
 have HP:=Lib.hid hp; clear hp
 have HL:=Lib.hid hsl.1
 go_enter Tryz.func58,Tryz.ntmps58
 go_wp2
 go_loopw [8] (fun i wr=>∃ k:Nat,k≤n∧i=.int .i64 k∧(l.take k).any p=false∧Below w.heap.size w wr) (fun i _=>n - (intOf i).toNat)
 case atStart=>exact ⟨0,Nat.zero_le _,rfl,rfl,Below.refl _ _⟩
 case round =>
  obtain ⟨k,hk,rfl,hall,hbel⟩:=hrel
  have H:=Lib.hid hall; clear hall
  by_cases hlt:k < n
  ·have hkI:(k:Int) < (n:Int):=by omega
   obtain ⟨b,o,x,A1,n1,c1,rfl,hb,hx,hxp,h1,h2,hs,c0,c1',c2⟩:=(hsl.keep (keep_lt hbel)).file hlt
   have HX:=Lib.hid hx
   have HC:=Lib.hid (HP.out wr x A1 n1 c1 hbel (hs.more (lt_mono hbel.size)))
   clear hx hs
   cases hq:p x
   ·have HS:=Lib.hid (any_step (p:=p) HX.out H.out hq)
    go_wp2_with fail
    refine HC.out.mono ?_
    rintro e w1 ⟨rfl,hb1⟩
    rw [hq]
    have hb2:=fr_call hbel hb1
    go_wp2
    go_roundw
    case rel=>exact ⟨k + 1,by omega,by go_num,HS.out,hb2⟩
    case measure=>simp [intOf]; omega
   ·have HQ:=Lib.hid hq
    go_wp2_with fail
    refine HC.out.mono ?_
    rintro e w1 ⟨rfl,hb1⟩
    rw [hq]
    go_wp2
    go_ret
    exact ⟨.inr ⟨k,x,rfl,HX.out,find_first H.out HX.out HQ.out⟩,fr_call hbel hb1⟩
  ·have HS:=Lib.hid (any_end (by rw [HL.out]; omega) H.out)
   go_wp2
   go_ret
   exact ⟨.inl ⟨rfl,find_nowhere HS.out⟩,hbel⟩
set_option maxRecDepth 100000 in
theorem containsFunc_file2 (g:Nat) (eg:∀ args w,(callFunc g args).run Tryz.prog w=.ok (.enter g args) w) (v1:Value) (p:FileV→Bool) (A:Option Addr) (n c:Nat) (l:List FileV) (w:World) (hsl:Sl w (Lt w.heap.size) A n l)
 (hp:∀ (W:World) (x:FileV) (A1:Option Addr) (n1 c1:Nat),Below w.heap.size w W→Sl W (Lt W.heap.size) A1 n1 x.bytes→Calls Tryz.prog g #[v1,.agg #[.string x.path,.bool x.run,.slice A1 n1 c1]] W fun e w'=>e=.returned (.bool (p x))∧Below W.heap.size W w') :
 Calls Tryz.prog 31 #[.slice A n c,.func (.func g) #[v1] #[]] w fun e w'=>e=.returned (.bool (l.any p))∧Below w.heap.size w w':=by
 have HC:=Lib.hid (indexFunc_file2 g eg v1 p A n c l w hsl hp)
 clear hp eg
 go_enter Tryz.func31,Tryz.ntmps31
 go_wp2_with fail
 refine HC.out.mono ?_
 rintro e w1 ⟨h | ⟨k,x,rfl,hx,hf⟩,hb1⟩
 ·obtain ⟨rfl,hf⟩:=h
  have HF:=Lib.hid (show l.any p=false by rw [List.any_eq_false]; exact List.find?_eq_none.1 hf)
  clear hf
  go_wp2
  go_ret
  exact ⟨ret_bool HF.out.symm,hb1⟩
 ·have HF:=Lib.hid (show l.any p=true from List.any_eq_true.2 ⟨x,List.mem_of_getElem? hx,by have:=List.find?_some hf; exact this⟩)
  have hk0:(0:Int)≤(k:Int):=by omega
  clear hf hx
  go_wp2
  go_ret
  exact ⟨ret_bool HF.out.symm,hb1⟩
end Go.Proofs.Sm
namespace Go.Proofs.Sm
open Go.RowKit
theorem str_ones6 (s:ByteArray):∀ u∈[Value.string s],u.oneCell'=true:=fun u hu=>by
 simp only [List.mem_cons,List.mem_nil_iff,or_false] at hu
 subst hu; rfl
def ChangedPost (a b:List FileV) (w:World) (e:Ending) (w':World):Prop:=∃ A n c,e=.returned (.slice A n c)∧Sl w' (Lt w'.heap.size) A n (changedS a b)∧Below w.heap.size w w'
theorem addA_le (b:List FileV) (out:List ByteArray) (x:FileV):(addA b out x).length≤out.length + 1:=by
 unfold addA
 split
 ·omega
 ·rw [List.length_append]; simp
theorem addB_le (a:List FileV) (out:List ByteArray) (x:FileV):(addB a out x).length≤out.length + 1:=by
 unfold addB
 split
 ·omega
 split
 ·omega
 ·rw [List.length_append]; simp
theorem fold_le {α β:Type} {f:List β→α→List β} (hf:∀ o x,(f o x).length≤o.length + 1):∀ (l:List α) (o:List β),(l.foldl f o).length≤o.length + l.length
 | [],o=>by simp
 | x :: l,o=>by
   rw [List.foldl_cons]
   have h1:=fold_le hf l (f o x)
   have h2:=hf o x
   rw [List.length_cons]; omega
theorem fold_more {α β:Type} {f:β→α→β} {l:List α} {o:β} {k:Nat} {x:α} (hx:l[k]?=some x):(l.take (k + 1)).foldl f o=f ((l.take k).foldl f o) x:=by
 rw [List.take_add_one,hx,List.foldl_append]; rfl
theorem addA_yes {b:List FileV} {out:List ByteArray} {x:FileV} (h:b.any (sameF x)=true):addA b out x=out:=if_pos h
theorem addA_no {b:List FileV} {out:List ByteArray} {x:FileV} (h:b.any (sameF x)=false):addA b out x=out ++ [x.path]:=if_neg (by rw [h]; decide)
theorem addB_yes {a:List FileV} {out:List ByteArray} {x:FileV} (h:a.any (sameF x)=true):addB a out x=out:=if_pos h
theorem addB_has {a:List FileV} {out:List ByteArray} {x:FileV} (h:a.any (sameF x)=false) (h2:out.any (eqS x.path)=true):addB a out x=out:=by rw [addB,if_neg (by rw [h]; decide),if_pos h2]
theorem addB_no {a:List FileV} {out:List ByteArray} {x:FileV} (h:a.any (sameF x)=false) (h2:out.any (eqS x.path)=false):addB a out x=out ++ [x.path]:=by rw [addB,if_neg (by rw [h]; decide),if_neg (by rw [h2]; decide)]
set_option maxHeartbeats 4000000 in
set_option maxRecDepth 100000 in
theorem law6_changedIn (A:Option Addr) (n c:Nat) (a:List FileV) (B:Option Addr) (m d:Nat) (b:List FileV) (w:World) (ha:Sl w (Lt w.heap.size) A n a) (hb:Sl w (Lt w.heap.size) B m b) (hn:n≤1000000) (hm:m≤1000000) :
 Calls Tryz.prog 19 #[.slice A n c,.slice B m d] w (ChangedPost a b w):=by
 have HLa:=Lib.hid ha.1
 have HLb:=Lib.hid hb.1
 have hn9:n≤9223372036854775807:=by omega
 have hm9:m≤9223372036854775807:=by omega
 obtain ⟨i0,hi0,hz0,hz1,hz2⟩:=info_parts str_info
 have HCa:=Lib.hid (fun (x:FileV) (A1:Option Addr) (n1 c1:Nat) (wr:World) (hbw:Below w.heap.size w wr) (hx:Sl wr (Lt wr.heap.size) A1 n1 x.bytes)=>containsFunc_file2 32 (enters_of Tryz.func32 (by kernel_rfl) rfl) (.agg #[.string x.path,.bool x.run,.slice A1 n1 c1]) (sameF x) A n c a wr (sl_call ha hbw (Nat.le_refl _))
  fun W y A2 n2 c2 hW hy=>law6_same x y A1 n1 c1 A2 n2 c2 W (sl_call hx hW (Nat.le_refl _)) hy)
 have HCb:=Lib.hid (fun (x:FileV) (A1:Option Addr) (n1 c1:Nat) (wr:World) (hbw:Below w.heap.size w wr) (hx:Sl wr (Lt wr.heap.size) A1 n1 x.bytes)=>containsFunc_file2 32 (enters_of Tryz.func32 (by kernel_rfl) rfl) (.agg #[.string x.path,.bool x.run,.slice A1 n1 c1]) (sameF x) B m d b wr (sl_call hb hbw (Nat.le_refl _))
  fun W y A2 n2 c2 hW hy=>law6_same x y A1 n1 c1 A2 n2 c2 W (sl_call hx hW (Nat.le_refl _)) hy)
 go_enter Tryz.func19,Tryz.ntmps19
 go_wp2
 go_loopw [5,6] (fun v i wr=>∃ k:Nat,k≤n∧i=.int .i64 k∧RowK wr w.heap.size 9 (fun _=>False) v ((a.take k).foldl (addA b) [])∧Below w.heap.size w wr) (fun _ i _=>n - (intOf i).toNat)
 case atStart=>exact ⟨0,Nat.zero_le _,rfl,RowK.nil,Below.refl _ _⟩
 case round =>
  obtain ⟨k,hk,rfl,hrow,hbel⟩:=hrel
  by_cases hlt:k < n
  ·have hkI:(k:Int) < (n:Int):=by omega
   obtain ⟨g1,o1,x,A1,n1,c1,rfl,hb1,hx,hxp,_,_,hs,c0,c1',c2⟩:=(ha.keep (keep_lt hbel)).file hlt
   have HT:=Lib.hid (fold_more (f:=addA b) (o:=[]) hx)
   have hlen:((a.take k).foldl (addA b) []).length≤k:=by
    have:=fold_le (addA_le b) (a.take k) []
    rw [List.length_take,List.length_nil] at this
    omega
   have HC:=Lib.hid (HCb.out x A1 n1 c1 wr hbel (hs.more (lt_mono hbel.size)))
   clear hx hs
   generalize (a.take k).foldl (addA b) []=OL at *
   cases hq:b.any (sameF x)
   ·rw [addA_no hq] at HT
    rw [hq] at HC
    clear hq
    go_wp2_with fail
    refine HC.out.mono ?_
    rintro e w4 ⟨rfl,hb4⟩
    have HRC:=Lib.hid (hrow.call hb4)
    have HBC:=Lib.hid (fr_call hbel hb4)
    have hg1:g1 < wr.heap.size:=Nat.lt_of_lt_of_le hb1 hbel.size
    have e0:=(hb4.cell (p:=⟨g1,o1 + k * 3,none⟩) hg1).trans c0
    have hg4:g1 < w4.heap.size:=Nat.lt_of_lt_of_le hg1 hb4.size
    clear hrow c0 c1' c2 hb4 HC
    have hnew:∀ (j:Nat) v,([.string x.path]:List Value)[j]?=some v→(w4.alloc (.cells #[.string x.path] 9)).cell? ((⟨w4.heap.size,0,none⟩:Addr).add j)=some v:=new_cells w4 #[.string x.path] 9
    have HNw:=Lib.hid hnew
    have hbx:=fr_alloc HBC.out (.cells #[.string x.path] 9)
    obtain ⟨_,rows,hrows,hown,hrep⟩:=(HRC.out).call (fr_alloc (fr_refl w4) (.cells #[.string x.path] 9))
    have HP:=Lib.hid hrep
    have HOw:=Lib.hid hown
    have HKk:=Lib.hid (fun j hj=>(HRC.out.kind j hj).1)
    clear hnew hown hrep
    go_wp2_with (at_builtin; refine wpList_append_lies _ rfl _ _ 24 rfl w.heap.size 9 i0 _ 1 16 Tryz.underlying24 hi0 hz0 hz1 hz2 rfl (by decide) _ OL.length _ rfl HOw.out ⟨w4.heap.size,0,none⟩ 1 1 [.string x.path] rfl rfl HNw.out (str_ones6 x.path) (by decide) (by unfold maxLen; omega) (by omega) hbx.size _ rfl ?_)
    intro g' cap w9 hown' hgrow hat hlt'
    have hr9:=RowK.append (x:=x.path) (r:=[.string x.path]) (l:=OL) (fun k hh=>hh.elim) hrows HP.out ⟨rfl,hxp⟩ (fun _ _ hh=>hh) hgrow hown'
    have hb9:=hbx.grown hgrow hbx.size HKk.out
    have HR9:=Lib.hid hr9
    clear hown' hgrow hat hr9
    go_wp2
    go_roundw
    case rel=>exact ⟨k + 1,by omega,by go_num,by rw [HT.out]; exact HR9.out,hb9⟩
    case measure=>simp [intOf]; omega
   ·rw [addA_yes hq] at HT
    rw [hq] at HC
    clear hq
    go_wp2_with fail
    refine HC.out.mono ?_
    rintro e w4 ⟨rfl,hb4⟩
    have HR4:=Lib.hid (hrow.call hb4)
    have hbE:=fr_call hbel hb4
    clear hrow
    go_wp2
    go_roundw
    case rel=>exact ⟨k + 1,by omega,by go_num,by rw [HT.out]; exact HR4.out,hbE⟩
    case measure=>simp [intOf]; omega
  ·obtain rfl:k=n:=by omega
   rw [List.take_of_length_le (by rw [HLa.out]; exact Nat.le_refl _)] at hrow
   have hlenA:(a.foldl (addA b) []).length≤k:=by
    have:=fold_le (addA_le b) a []
    rw [List.length_nil,HLa.out] at this
    omega
   have HV:=Lib.hid (show changedS a b=b.foldl (addB a) (a.foldl (addA b) []) from rfl)
   generalize a.foldl (addA b) []=O1 at *
   go_wp2
   go_loopw [5,7] (fun v i wx=>∃ t:Nat,t≤m∧i=.int .i64 t∧RowK wx w.heap.size 9 (fun _=>False) v ((b.take t).foldl (addB a) O1)∧Below w.heap.size w wx) (fun _ i _=>m - (intOf i).toNat)
   case atStart=>exact ⟨0,Nat.zero_le _,rfl,hrow,hbel⟩
   case round =>
    clear hrow hbel
    obtain ⟨t,ht,rfl,hrow,hbel⟩:=hrel
    by_cases htl:t < m
    ·have htI:(t:Int) < (m:Int):=by omega
     obtain ⟨g1,o1,x,A1,n1,c1,rfl,hb1,hx,hxp,_,_,hs,c0,c1',c2⟩:=(hb.keep (keep_lt hbel)).file htl
     have HT:=Lib.hid (fold_more (f:=addB a) (o:=O1) hx)
     have hlen:((b.take t).foldl (addB a) O1).length≤k + t:=by
      have:=fold_le (addB_le a) (b.take t) O1
      rw [List.length_take] at this
      omega
     have HC:=Lib.hid (HCa.out x A1 n1 c1 wr hbel (hs.more (lt_mono hbel.size)))
     clear hx hs
     generalize (b.take t).foldl (addB a) O1=OL at *
     cases hq:a.any (sameF x)
     ·rw [hq] at HC
      go_wp2_with fail
      refine HC.out.mono ?_
      rintro e w4 ⟨rfl,hb4⟩
      have hbE:=fr_call hbel hb4
      have hr4:=hrow.call hb4
      have hg1:g1 < wr.heap.size:=Nat.lt_of_lt_of_le hb1 hbel.size
      have e0:=(hb4.cell (p:=⟨g1,o1 + t * 3,none⟩) hg1).trans c0
      have hg4:g1 < w4.heap.size:=Nat.lt_of_lt_of_le hg1 hb4.size
      obtain ⟨A8,c8,rfl,h81,h82,s8⟩:=hr4.sl
      have HD:=Lib.hid (slices_ContainsStr A8 OL.length c8 OL x.path w4 s8)
      have HRC:=Lib.hid hr4
      have HBC:=Lib.hid hbE
      clear hrow c0 c1' c2 hb4 HC hr4 s8
      cases hq2:OL.any (eqS x.path)
      ·rw [addB_no hq hq2] at HT
       rw [hq2] at HD
       clear hq hq2
       go_wp2_with fail
       refine HD.out.mono ?_
       rintro e w5 ⟨rfl,h5⟩
       obtain rfl:w4=w5:=h5
       have hnew:∀ (j:Nat) v,([.string x.path]:List Value)[j]?=some v→(w4.alloc (.cells #[.string x.path] 9)).cell? ((⟨w4.heap.size,0,none⟩:Addr).add j)=some v:=new_cells w4 #[.string x.path] 9
       have HNw:=Lib.hid hnew
       have hbx:=fr_alloc HBC.out (.cells #[.string x.path] 9)
       obtain ⟨_,rows,hrows,hown,hrep⟩:=(HRC.out).call (fr_alloc (fr_refl w4) (.cells #[.string x.path] 9))
       have HP:=Lib.hid hrep
       have HOw:=Lib.hid hown
       have HKk:=Lib.hid (fun j hj=>(HRC.out.kind j hj).1)
       clear hnew hown hrep
       go_wp2_with (at_builtin; refine wpList_append_lies _ rfl _ _ 24 rfl w.heap.size 9 i0 _ 1 16 Tryz.underlying24 hi0 hz0 hz1 hz2 rfl (by decide) _ OL.length _ rfl HOw.out ⟨w4.heap.size,0,none⟩ 1 1 [.string x.path] rfl rfl HNw.out (str_ones6 x.path) (by decide) (by unfold maxLen; omega) (by omega) hbx.size _ rfl ?_)
       intro g' cap w9 hown' hgrow hat hlt'
       have hr9:=RowK.append (x:=x.path) (r:=[.string x.path]) (l:=OL) (fun k hh=>hh.elim) hrows HP.out ⟨rfl,hxp⟩ (fun _ _ hh=>hh) hgrow hown'
       have hb9:=hbx.grown hgrow hbx.size HKk.out
       have HR9:=Lib.hid hr9
       clear hown' hgrow hat hr9
       go_wp2
       go_roundw
       case rel=>exact ⟨t + 1,by omega,by go_num,by rw [HT.out]; exact HR9.out,hb9⟩
       case measure=>simp [intOf]; omega
      ·rw [addB_has hq hq2] at HT
       rw [hq2] at HD
       clear hq hq2
       go_wp2_with fail
       refine HD.out.mono ?_
       rintro e w5 ⟨rfl,h5⟩
       obtain rfl:w4=w5:=h5
       go_wp2
       go_roundw
       case rel=>exact ⟨t + 1,by omega,by go_num,by rw [HT.out]; exact HRC.out,hbE⟩
       case measure=>simp [intOf]; omega
     ·rw [addB_yes hq] at HT
      rw [hq] at HC
      clear hq
      go_wp2_with fail
      refine HC.out.mono ?_
      rintro e w4 ⟨rfl,hb4⟩
      have HR4:=Lib.hid (hrow.call hb4)
      have hbE:=fr_call hbel hb4
      clear hrow
      go_wp2
      go_roundw
      case rel=>exact ⟨t + 1,by omega,by go_num,by rw [HT.out]; exact HR4.out,hbE⟩
      case measure=>simp [intOf]; omega
    ·obtain rfl:t=m:=by omega
     rw [List.take_of_length_le (by rw [HLb.out]; exact Nat.le_refl _),←HV.out] at hrow
     obtain ⟨A8,c8,rfl,h81,h82,s8⟩:=hrow.sl
     have H8:=Lib.hid s8
     clear hrow s8
     go_wp2
     go_ret
     exact ⟨A8,_,c8,rfl,H8.out,hbel⟩
end Go.Proofs.Sm
namespace Go.Proofs.Sm
open Go.RowKit
theorem any_mem {l:List ByteArray} {x:ByteArray} (h:x∈l):l.any (eqS x)=true:=List.any_eq_true.2 ⟨x,h,by simp [eqS]⟩
theorem files_few {F:List FileV} (h:checkFilesS F=0):F.length≤1000:=(checkFiles_err h).1
set_option maxHeartbeats 4000000 in
set_option maxRecDepth 100000 in
theorem law_duesusp (A B D C:Option Addr) (n c m d nd cd nw cw:Nat) (l:List RuleV) (F G:List FileV) (ws:List ByteArray) (w:World) (hE:Env2 w) (hsl:Sl w (Lt w.heap.size) A n l) (hF:Sl w (Lt w.heap.size) B m F) (hG:Sl w (Lt w.heap.size) D nd G) (hws:Sl w (Lt w.heap.size) C nw ws) :
 Calls Tryz.prog 8 #[.slice A n c,.slice B m d,.slice D nd cd,.slice C nw cw] w fun e w'=>e=.returned (.bool true)∧Below w.heap.size w w':=by
 have HB:=Lib.hid (steps_Fresh A B C n c m d nw cw l F ws w hE hsl hF hws)
 have HD1:=Lib.hid (fun (w1:World) (hb:Below w.heap.size w w1) (A3:Option Addr) (n3 c3:Nat) (ms:List MemoryV) (h3:Sl w1 (Lt w1.heap.size) A3 n3 ms)=>steps_Due A D C A3 n c nd cd nw cw n3 c3 l G ws ms w1 (hE.then_ hb) (sl_call hsl hb (Nat.le_refl _)) (sl_call hG hb (Nat.le_refl _)) (sl_call hws hb (Nat.le_refl _)) h3)
 have HD2:=Lib.hid (fun (w1:World) (hb:Below w.heap.size w w1) (A3:Option Addr) (n3 c3:Nat) (ms:List MemoryV) (h3:Sl w1 (Lt w1.heap.size) A3 n3 ms)=>steps_Due A B C A3 n c m d nw cw n3 c3 l F ws ms w1 (hE.then_ hb) (sl_call hsl hb (Nat.le_refl _)) (sl_call hF hb (Nat.le_refl _)) (sl_call hws hb (Nat.le_refl _)) h3)
 have HC:=Lib.hid (fun (w1:World) (hb:Below w.heap.size w w1) (h1:F.length≤1000) (h2:G.length≤1000)=>law6_changedIn B m d F D nd cd G w1 (sl_call hF hb (Nat.le_refl _)) (sl_call hG hb (Nat.le_refl _)) (by have:=hF.1; omega) (by have:=hG.1; omega))
 have HS:=Lib.hid (fun (w1:World) (hb:Below w.heap.size w w1) (A3:Option Addr) (n3 c3:Nat) (q:List ByteArray) (h3:Sl w1 (Lt w1.heap.size) A3 n3 q)=>steps_Suspects A A3 n c n3 c3 l q w1 (hE.then_ hb).toEnv (sl_call hsl hb (Nat.le_refl _)) h3)
 clear hsl hF hws hG
 go_enter Tryz.func8,Tryz.ntmps8
 go_wp2_with fail
 refine HB.out.mono ?_
 rintro e w1 ⟨A1,n1,c1,A2,n2,c2,A3,n3,c3,f,b,rfl,hbu,s1,_,s3,_,_,_,hb1⟩
 have hbx:=fr_alloc hb1 (.cells #[.slice A1 n1 c1,.slice A2 n2 c2,.slice A3 n3 c3] 28)
 have hbx1:=fr_alloc (fr_refl w1) (.cells #[.slice A1 n1 c1,.slice A2 n2 c2,.slice A3 n3 c3] 28)
 have hA:Arr (w1.alloc (.cells #[.slice A1 n1 c1,.slice A2 n2 c2,.slice A3 n3 c3] 28)) w1.heap.size 28 [.slice A1 n1 c1,.slice A2 n2 c2,.slice A3 n3 c3]:=heap_alloc_new w1 _
 have HS3:=Lib.hid (fun w' (hb:Below (w1.alloc (.cells #[.slice A1 n1 c1,.slice A2 n2 c2,.slice A3 n3 c3] 28)).heap.size (w1.alloc (.cells #[.slice A1 n1 c1,.slice A2 n2 c2,.slice A3 n3 c3] 28)) w')=>sl_call s3 (fr_call hbx1 hb) (Nat.le_refl _))
 have HBu:=Lib.hid hbu
 have HN1:=Lib.hid s1.1
 clear s1 s3 hbu hbx1
 by_cases hf:f=0
 ·subst hf
  go_wp2_with fail
  refine (HD1.out _ hbx A3 n3 c3 b.memory (HS3.out _ (fr_refl _))).mono ?_
  rintro e w2 ⟨A4,n4,c4,g,x,rfl,hx,s4,hb2⟩
  have hb02:=fr_call hbx hb2
  by_cases hg:g=0
  ·subst hg
   have hA2:=hA.call hb2
   have e2:=hA2.cell (i:=2) rfl
   have hgl:=hA2.lt
   have HX:=Lib.hid hx
   clear hx hA hA2
   go_wp2_with fail
   refine (HD2.out _ hb02 A3 n3 c3 b.memory (HS3.out _ hb2)).mono ?_
   rintro e w3 ⟨A5,n5,c5,g,y,rfl,hy,s5,hb3⟩
   have hb03:=fr_call hb02 hb3
   have s4':=sl_call s4 hb3 (Nat.le_refl _)
   obtain ⟨rfl,hall⟩:=built_suspects HBu.out HX.out hy
   clear hy s4 e2 hgl hb2
   go_wp2_with fail
   refine (HC.out _ hb03 (files_few HBu.out.filesOk) (files_few HX.out.filesOk)).mono ?_
   rintro e w4 ⟨A6,n6,c6,rfl,s6,hb4⟩
   have hb04:=fr_call hb03 hb4
   have s4'':=sl_call s4' hb4 (Nat.le_refl _)
   have s5':=sl_call s5 hb4 (Nat.le_refl _)
   clear s4' s5 hb3
   by_cases hbig:n6 > 1000
   ·have hbI:((1000:Int) < (n6:Int)):=by omega
    clear s4'' s5' s6 hall
    go_wp2_with fail
    refine (law6_awake _ (hE.then_ hb04).toEnv).mono ?_
    rintro e wz ⟨rfl,hbz⟩
    go_wp2
    go_ret
    exact ⟨rfl,fr_call hb04 hbz⟩
   ·have hbI:¬ ((1000:Int) < (n6:Int)):=by omega
    have hse:=changed_suspErr HBu.out.rules HBu.out.filesOk HX.out.filesOk (by rw [s6.1]; omega)
    have HSe:=Lib.hid hse
    have HSu:=Lib.hid (HS.out _ hb04 A6 n6 c6 _ s6)
    clear hse s6
    go_wp2_with fail
    refine HSu.out.mono ?_
    rintro e w5 ⟨v,rfl,_,hgood,hb5⟩
    obtain ⟨A7,c7,rfl,_,_,s7⟩:=(hgood HSe.out).sl
    rw [HSe.out]
    have hb05:=fr_call hb04 hb5
    have s4:=sl_call s4'' hb5 (Nat.le_refl _)
    have s5:=sl_call s5' hb5 (Nat.le_refl _)
    generalize suspS l (changedS F G)=su at *
    have HALL:=Lib.hid hall
    have hn4:n4≤9223372036854775807:=s4.2.1
    have HC4:=Lib.hid (fun (s:ByteArray)=>slices_ContainsStr A5 n5 c5 (dueS y.steps) s w5 s5)
    have HC5:=Lib.hid (fun (s:ByteArray)=>slices_ContainsStr A7 su.length c7 su s w5 s7)
    clear hgood hall s4'' s5' s5 s7 HSu hb4 hb5
    go_wp2
    go_loop [15] (fun i=>∃ k:Nat,k≤n4∧i=.int .i64 k) (fun i=>n4 - (intOf i).toNat)
    case atStart=>exact ⟨0,Nat.zero_le _,rfl⟩
    case round =>
     obtain ⟨k,hk,rfl⟩:=hrel
     by_cases hlt:k < n4
     ·obtain ⟨g1,o1,z,rfl,hg1,hz,hzs,d0⟩:=s4.str hlt
      have hkI:(k:Int) < (n4:Int):=by omega
      have hmem:=HALL.out z (List.mem_of_getElem? hz)
      clear hz
      cases hq:((dueS y.steps).any (eqS z))
      ·have hsu:su.any (eqS z)=true:=by
        rcases hmem with h | h
        ·rw [any_mem h] at hq; cases hq
        ·exact any_mem h
       clear hmem
       go_wp2_with fail
       refine (HC4.out z).mono ?_
       rintro e w6 ⟨rfl,rfl⟩
       rw [hq]
       go_wp2_with fail
       refine (HC5.out z).mono ?_
       rintro e w6 ⟨rfl,rfl⟩
       rw [hsu]
       go_wp2
       go_round
       case rel=>exact ⟨k + 1,by omega,by go_num⟩
       case measure=>simp [intOf]; omega
      ·clear hmem
       go_wp2_with fail
       refine (HC4.out z).mono ?_
       rintro e w6 ⟨rfl,rfl⟩
       rw [hq]
       go_wp2
       go_round
       case rel=>exact ⟨k + 1,by omega,by go_num⟩
       case measure=>simp [intOf]; omega
     ·obtain rfl:k=n4:=by omega
      clear s4
      go_wp2_with fail
      refine (law6_awake _ (hE.then_ hb05).toEnv).mono ?_
      rintro e wz ⟨rfl,hbz⟩
      go_wp2
      go_ret
      exact ⟨rfl,fr_call hb05 hbz⟩
  ·have hgz:(g == 0)=false:=by simpa using hg
   have hem:=hx.empty hg
   obtain rfl:n4=0:=by have:=s4.1; rw [hem] at this; exact this.symm
   clear hem hg hx s4
   go_wp2_with fail
   refine (law6_awake _ (hE.then_ hb02).toEnv).mono ?_
   rintro e wz ⟨rfl,hbz⟩
   go_wp2
   go_ret
   exact ⟨rfl,fr_call hb02 hbz⟩
 ·have hfz:(f == 0)=false:=by simpa using hf
  have hem:=(HBu.out).empty hf
  obtain rfl:n1=0:=by have:=HN1.out; rw [hem] at this; exact this.symm
  clear hem hf HBu
  go_wp2_with fail
  refine (law6_awake _ (hE.then_ hbx).toEnv).mono ?_
  rintro e wz ⟨rfl,hbz⟩
  go_wp2
  go_ret
  exact ⟨rfl,fr_call hbx hbz⟩
end Go.Proofs.Sm
namespace Go.Proofs.YtaabdbephemboaaGreatDoor.duesusp
open Go.ChangeShapes Go.WideShapes Go.ChangeAt Go.RowKit Go.Proofs.Sm
noncomputable def laidWorld (os:Os):World:=errWorld (tableWorld os [(2,Rows.laid_unicode_utf8_first),(3,Rows.laid_unicode_utf8_acceptRanges),(1,Rows.laid_internal_strconv_uint64pow10),(6,Rows.laid_math_bits_deBruijn32tab),(7,Rows.laid_math_bits_deBruijn64tab)])
 322 324 [(5,[118,97,108,117,101,32,111,117,116,32,111,102,32,114,97,110,103,101]),(4,[105,110,118,97,108,105,100,32,115,121,110,116,97,120])]
theorem laid_met (os:Os) (args:Array Value):laidMet Tryz.prog Rows.stepsDueAreSuspectsRow.laid ((laidWorld os).forCall (fun _ _=>0) ⟨#[],args,[]⟩).memory :=
 (LaidIn.of_run (l:=Rows.stepsDueAreSuspectsRow.laid) (List.range 30) 8 (by kernel_rfl) (by kernel_rfl) (by kernel_rfl) (by kernel_rfl)).met
theorem reads (os:Os) {H:Type} (enc:TypeId × Value→H):∃ ds places,DataW.whole enc Tryz.prog ((laidWorld os).forCall (fun _ _=>0) ⟨#[],#[.slice none 0 0,.slice none 0 0,.slice none 0 0,.slice none 0 0],[]⟩).memory Tryz.f8.params.toList Rows.stepsDueAreSuspectsSpec.vars false #[Value.slice none 0 0,Value.slice none 0 0,Value.slice none 0 0,Value.slice none 0 0].toList 8=some (ds,[],places) :=
 ⟨[.nil,.nil,.nil,.nil],[],by kernel_rfl⟩
set_option maxRecDepth 100000 in
theorem contract (H:Type) (enc:TypeId × Value→H) (W:World) (base:Nat) (args:Array Value) (ds gs:List (DataW H)) (before:List MemPlace)
 (hval:∀ (j:Nat) t v,Tryz.f8.params[j]?=some t→args[j]?=some v→Value.okWide Tryz.prog W .any base t v)
 (hW:DataW.Whole enc Tryz.prog Tryz.f8.params.toList Rows.stepsDueAreSuspectsSpec.vars false W args.toList ds gs before) (hE:Env2 W) :
 Calls Tryz.prog 8 args W fun e W'=>∃ v,e=.returned v∧Rows.stepsDueAreSuspectsSpec.post enc Tryz.prog Tryz.f8 false true false false W args v W':=by
 have hW':=hW
 obtain ⟨p,q,hA0,hV,rfl,hfz,hnd⟩:=hW
 have hA:DataW.TrodAll enc Tryz.prog W 0 (fun _=>true) true Tryz.f8.params.toList args.toList ds p:=hA0
 rw [Tryz.params8] at hA hval
 obtain ⟨v0,vs0,d0,ds0,p0,q0,hargs,rfl,rfl,h0,r0⟩:=trodAll_cons hA
 obtain ⟨v1,vs1,d1,ds1,p1,q1,rfl,rfl,rfl,h1,r1⟩:=trodAll_cons r0
 obtain ⟨v2,vs2,d2,ds2,p2,q2,rfl,rfl,rfl,h2,r2⟩:=trodAll_cons r1
 obtain ⟨v3,vs3,d3,ds3,p3,q3,rfl,rfl,rfl,h3,r3⟩:=trodAll_cons r2
 obtain ⟨rfl,rfl,rfl⟩:=trodAll_nil r3
 obtain rfl:args=#[v0,v1,v2,v3]:=by cases args; simp_all
 obtain ⟨rfl,rfl⟩:=trodVars_none hV
 have k0:=h0
 have lt0:∀ x∈p0,x.block < W.heap.size:=by obtain ⟨m,hm⟩:=k0; exact DataW.trod_lt m _ _ _ hm
 have k1:=h1
 have lt1:∀ x∈p1,x.block < W.heap.size:=by obtain ⟨m,hm⟩:=k1; exact DataW.trod_lt m _ _ _ hm
 have k2:=h2
 have lt2:∀ x∈p2,x.block < W.heap.size:=by obtain ⟨m,hm⟩:=k2; exact DataW.trod_lt m _ _ _ hm
 have k3:=h3
 have lt3:∀ x∈p3,x.block < W.heap.size:=by obtain ⟨m,hm⟩:=k3; exact DataW.trod_lt m _ _ _ hm
 obtain ⟨A0,n0,c0,l0,rfl,hs0⟩:=arg_slice dec_rules (okWide_slice Tryz.underlying22 (hval 0 22 v0 rfl rfl)) h0
 obtain ⟨A1,n1,c1,l1,rfl,hs1⟩:=arg_slice dec_files (okWide_slice Tryz.underlying23 (hval 1 23 v1 rfl rfl)) h1
 obtain ⟨A2,n2,c2,l2,rfl,hs2⟩:=arg_slice dec_files (okWide_slice Tryz.underlying23 (hval 2 23 v2 rfl rfl)) h2
 obtain ⟨A3,n3,c3,l3,rfl,hs3⟩:=arg_slice dec_strs (okWide_slice Tryz.underlying24 (hval 3 24 v3 rfl rfl)) h3
 clear hA0
 refine (law_duesusp A0 A1 A2 A3 n0 c0 n1 c1 n2 c2 n3 c3 l0 l1 l2 l3 W hE hs0 hs1 hs2 hs3).mono fun e W' ⟨he,bel⟩=>?_
 subst he
 exact ⟨_,rfl,_,_,_,[],_,[],hW',trodAll_mk1 (shut_bool Tryz.underlying4 _),(trodAll_cons_mk (Below.trod laidOut (by kernel_rfl) (of_decide_eq_true (by kernel_rfl)) k0 bel lt0) (trodAll_cons_mk (Below.trod laidOut (by kernel_rfl) (of_decide_eq_true (by kernel_rfl)) k1 bel lt1) (trodAll_cons_mk (Below.trod laidOut (by kernel_rfl) (of_decide_eq_true (by kernel_rfl)) k2 bel lt2) (trodAll_cons_mk (Below.trod laidOut (by kernel_rfl) (of_decide_eq_true (by kernel_rfl)) k3 bel lt3) trodAll_mk0)))),rfl,bel.frame _,fun h=>by cases h⟩
set_option maxRecDepth 100000 in
theorem lifted (os:Os) (started:os.Started) (H:Type) (enc:TypeId × Value→H) (F:Stop.Interp) :
 ReturnsInHanded {} Tryz.checked os 8 .any ((OpenSpec.ofChange Rows.stepsDueAreSuspectsSpec).preRow enc Tryz.prog Tryz.f8 Rows.stepsDueAreSuspectsRow.domain false Rows.stepsDueAreSuspectsRow.laid) (((OpenSpec.ofChange Rows.stepsDueAreSuspectsSpec).at F).post enc Tryz.prog Tryz.f8 false true false false):=by
 obtain ⟨d,places,hx⟩:=reads os enc
 refine returnsInHanded_of_row (C:=Tryz.checked) (s:=OpenSpec.ofChange Rows.stepsDueAreSuspectsSpec) own started (by kernel_rfl) Tryz.func8
  (witness_row_atRef (enc:=enc) (C:=Tryz.checked) false (laidWorld os) #[.slice none 0 0,.slice none 0 0,.slice none 0 0,.slice none 0 0] rfl (by kernel_rfl) (by kernel_rfl) (by kernel_rfl)
    (OpenSpec.preRow_of_cond 8 hx (by kernel_rfl) (fun k hk=>by cases hk) (by kernel_rfl) (laid_met os _))) ?_
 intro W base args ds gs before hval hW _ _ _ hL hS _
 exact contract H enc W base args ds gs before hval hW (env2_of hL hS (by simp [Rows.stepsDueAreSuspectsRow,Rows.laid_unicode_utf8_first]) (by simp [Rows.stepsDueAreSuspectsRow]) (by simp [Rows.stepsDueAreSuspectsRow]))
theorem said:Rows.StepsDueAreSuspectsSaid :=
 OpenClaim.holds_of_cond 8 Tryz.f8 rfl rfl rfl rfl rfl rfl rfl ⟨rfl,rfl,rfl,rfl,rfl⟩ rfl rfl rfl rfl rfl (by kernel_rfl) Tryz.func8 closed
  (of_decide_eq_true (by as_aux_lemma=>kernel_rfl)) (by unfold Func.isWrapper; first | (rw [if_pos (by decide +kernel)]; kernel_rfl) | (rw [if_neg (by decide +kernel)]; exact ⟨rfl,rfl⟩))
  (fun os started H enc _ F=>by rw [OpenClaim.pre_eq_preRow]; exact lifted os started H enc F)
theorem plain (f:FuncId) (fn:Func) (hf:Tryz.pinned.checked.prog.funcNamed Rows.stepsDueAreSuspectsRow.func=some f) (hfn:Tryz.pinned.checked.prog.funcs[f]?=some fn) :
 true=Tryz.pinned.checked.prog.looks []∧∀ (j:Nat) t,fn.params[j]?=some t→Tryz.pinned.checked.prog.wantsStandIn t=false:=by
 obtain rfl:f=8:=Option.some.inj ((show Tryz.prog.funcNamed Rows.stepsDueAreSuspectsRow.func=some 8 by kernel_rfl).symm.trans hf) |>.symm
 obtain rfl:fn=Tryz.f8:=(Option.some.inj (Tryz.func8.symm.trans hfn)).symm
 refine ⟨by kernel_rfl,fun j t ht=>?_⟩
 rw [Tryz.params8] at ht
 have hm:t=22∨t=23∨t=23∨t=24:=by simpa using Array.mem_of_getElem? ht
 rcases hm with rfl | rfl | rfl | rfl
 ·exact (show Tryz.prog.wantsStandIn 22=false by kernel_rfl)
 ·exact (show Tryz.prog.wantsStandIn 23=false by kernel_rfl)
 ·exact (show Tryz.prog.wantsStandIn 23=false by kernel_rfl)
 ·exact (show Tryz.prog.wantsStandIn 24=false by kernel_rfl)
theorem card:Rows.StepsDueAreSuspectsCardSaid :=
 Claim7.holds_tied_plain_at .later [] _ _ _ _ said (fun _ h=>by cases h) (by as_aux_lemma=>kernel_rfl) (fun _ h=>by cases h) stepsDueAreSuspects_row_tie rfl ⟨rfl,rfl⟩ (by as_aux_lemma=>kernel_rfl) rfl plain (by as_aux_lemma=>kernel_rfl)
end Go.Proofs.YtaabdbephemboaaGreatDoor.duesusp
