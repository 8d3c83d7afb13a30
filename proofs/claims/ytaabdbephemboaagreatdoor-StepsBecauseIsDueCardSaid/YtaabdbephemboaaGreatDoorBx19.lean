/- Words and walks that the claims share, part 19. -/
import Derived.Test.YtaabdbephemboaaGreatDoorBx4
import Derived.Test.YtaabdbephemboaaGreatDoorBx13
import Derived.Test.YtaabdbephemboaaGreatDoorBx16
import Derived.Test.YtaabdbephemboaaGreatDoorBx17
import Derived.Test.YtaabdbephemboaaGreatDoorBx18
namespace Go.Proofs.Sm
open Go.RowKit Go.Sort
theorem flat_strX {w:World} {S S':Nat→Prop} {x:ByteArray} {vs:List Value} (h:Rep.rep w S x vs):Rep.rep w S' x vs:=h
theorem inc_not {x:List UInt8} (h:Lib.hasPrefix (cutNl x) [105,110,99,108,117,100,101,32]=false):incS x=none:=by rw [incS,h]; rfl
theorem inc_no {x:List UInt8} (h:Lib.hasPrefix (cutNl x) [105,110,99,108,117,100,101,32]=true) (hp:isPathS (strOf ((cutNl x).drop 8))=false):incS x=none:=by
 rw [incS,h,if_pos rfl,if_neg]
 rw [show (⟨((cutNl x).drop 8).toArray⟩:ByteArray)=strOf ((cutNl x).drop 8) from rfl,hp]
 decide
theorem inc_yes {x:List UInt8} (h:Lib.hasPrefix (cutNl x) [105,110,99,108,117,100,101,32]=true) (hp:isPathS (strOf ((cutNl x).drop 8))=true):incS x=some (strOf ((cutNl x).drop 8)):=by
 rw [incS,h,if_pos rfl,if_pos]
 ·rfl
 ·exact hp
theorem cutInc (l:List UInt8) (w:World):Calls Tryz.prog 268 #[.string (strOf l),.string ⟨#[105,110,99,108,117,100,101,32]⟩] w fun e w'=>e=.returned (.tuple #[.string (strOf (if Lib.hasPrefix l [105,110,99,108,117,100,101,32]=true then l.drop 8 else l)),.bool (Lib.hasPrefix l [105,110,99,108,117,100,101,32])])∧w=w':=by
 refine (Tryz.strings_CutPrefix (strOf l) ⟨#[105,110,99,108,117,100,101,32]⟩ w).mono fun _ _ h=>⟨h.1.trans ?_,h.2.symm⟩
 rw [strOf_data,Lib.trimPrefix]
 rfl
theorem inn_more {w w3 w4:World} {B n cap g:Nat} {v:Value} {inn:List ByteArray} {p:ByteArray} {rows:List (List Value)} {o:Obj} (hrow:RowK w3 B 9 (fun _=>False) v inn) (hr:rows.length=inn.length)
 (hrep:∀ (i:Nat) (x:ByteArray) (r:List Value),inn[i]?=some x→rows[i]?=some r→Rep.rep w3 (fun _=>False) x r) (hp:p.size≤maxLen) (hg:(w3.alloc o).grownBy w4 v.ownBlock) (hn:n=inn.length + 1)
 (hown:w4.ownsRow B 9 1 (.slice (some ⟨g,0,none⟩) n cap) n (rows.flatten ++ [.string p])) (hb:Below w.heap.size w w3) (hB:B=w.heap.size) :
 Below w.heap.size w w4∧n≤cap∧cap≤maxLen∧Sl w4 (fun k=>B≤k∧k < w4.heap.size) (some ⟨g,0,none⟩) n (inn ++ [p]):=by
 subst hB
 have hb1:Below w3.heap.size w3 (w3.alloc o):=fr_alloc (fr_refl w3) o
 have h1:=RowK.append (x:=p) (r:=[.string p]) (l:=inn) (rows:=rows) (w:=w3.alloc o) (K:=fun _=>False) (B:=w.heap.size) (e:=9) (v:=v) (v':=.slice (some ⟨g,0,none⟩) n cap) (w':=w4) (fun k hh=>hh.elim) hr (fun i y r hy hr'=>hrep i y r hy hr') ⟨rfl,hp⟩ (fun _ _ hh=>hh) hg (by rw [←hn]; exact hown)
 obtain ⟨A,c,hv,h2,h3,h4⟩:=h1.slFrom
 cases hv
 rw [List.length_append,List.length_singleton,←hn] at h4 h2
 exact ⟨(fr_call hb hb1).grown hg (Nat.le_trans hb.size hb1.size) fun g hgg=>(hrow.kind g hgg).1,h2,h3,h4⟩
theorem Kp.then_ {X Y:Nat→Prop} {a b c:World} (h:Kp X a b) (k:Kp Y b c) (hY:∀ j,Y j→X j∨a.heap.size≤j):Kp X a c :=
 ⟨k.os.trans h.os,k.tape.trans h.tape,k.output.trans h.output,Nat.le_trans h.size k.size,fun i hi hx=>(k.block i (Nat.lt_of_lt_of_le hi h.size) fun hy=>by
  rcases hY i hy with h1 | h1
  ·exact hx h1
  ·omega).trans (h.block i hi hx)⟩
theorem xx_grow {ml gx:Nat} {v v':Value} {w:World} (hv:∀ k,v'.ownBlock=some k→v.ownBlock=some k∨w.heap.size≤k):∀ j,XX ml gx v' j→XX ml gx v j∨w.heap.size≤j:=fun j hj=>by
 rcases hj with h1 | h1 | h1
 ·exact .inl (.inl h1)
 ·exact .inl (.inr (.inl h1))
 ·rcases hv j h1 with h2 | h2
  ·exact .inl (.inr (.inr h2))
  ·exact .inr h2
section
variable {S:Nat→Prop} {B g mi mw ml:Nat} {q:ActP} {a:ActionV} {F:List FileV} {M gx B2:Nat}
def IH (S:Nat→Prop) (B g mi mw ml:Nat) (q:ActP) (a:ActionV) (F:List FileV) (M gx B2:Nat) (f:ByteArray→List UInt8→Nat→Ex (List UInt8 × Nat × Int)) (inn:List ByteArray):Prop :=
 ∀ (x:ByteArray) (v:Value) (o:List UInt8) (r:Nat) (s:ExSt) (A:Option Addr) (n c:Nat) (w:World),Small o r→x.size≤maxLen→n≤c→c≤maxLen→Sl w (Off (XX ml gx v) w) A n inn→Xs w S B g mi mw ml q a F M s gx B2 v o r →
  Calls Tryz.prog 248 #[.pointer (some ⟨gx,0,none⟩),.string x,.slice A n c] w (FilePost S B g mi mw ml q a F M gx B2 v (f x o r F s) w)
set_option maxHeartbeats 4000000 in
set_option maxRecDepth 100000 in
theorem act_file_step (f:ByteArray→List UInt8→Nat→Ex (List UInt8 × Nat × Int)) (inn:List ByteArray) (p:ByteArray) (v:Value) (o:List UInt8) (r:Nat) (s:ExSt) (A:Option Addr) (n c:Nat) (w:World) (z:(List UInt8 × Nat × Int) × ExSt)
 (hih:IH S B g mi mw ml q a F M gx B2 f (inn ++ [p])) (hs:Small o r) (hp:p.size≤maxLen) (hM:M≤100000) (hsl:Sl w (Off (XX ml gx v) w) A n inn) (h:Xs w S B g mi mw ml q a F M s gx B2 v o r)
 (hfs:∀ x o r s,Small o r→(f x o r F s).1.2.2=0→Small (f x o r F s).1.1 (f x o r F s).1.2.1) (hd1:inn.any (eqS p)=false) (hd2:n≤30)
 (hz1:(readE p F s).1.2≠0→z=((o,r,(readE p F s).1.2),(readE p F s).2)) (hz2:(readE p F s).1.2=0→10000 < r + 1→z=((o,r + 1,4),(readE p F s).2))
 (hz3:(readE p F s).1.2=0→¬ 10000 < r + 1→z=eachE f (linesS (readE p F s).1.1) o (r + 1) F (readE p F s).2) :
 Calls Tryz.prog 248 #[.pointer (some ⟨gx,0,none⟩),.string p,.slice A n c] w (FilePost S B g mi mw ml q a F M gx B2 v z w):=by
 have hm:n≤9223372036854775807:=by omega
 have HC:=Lib.hid (slices_ContainsStr A n c inn p w hsl.offLt)
 rw [hd1] at HC
 clear hd1
 have hnI:¬ (30:Int) < (n:Int):=by omega
 have HR:=Lib.hid (act_read S B g mi mw ml q a F M s p w hp (by omega) h.wk)
 have HIH:=Lib.hid hih
 have HFS:=Lib.hid hfs
 have hsm:=read_short (p:=p) h.wk.ok h.wk.small
 have HX:=Lib.hid h
 have HSl:=Lib.hid hsl
 have k0:=h.blk.cell (i:=0) rfl
 have hXml:∀ k,k=ml→XX ml gx v k:=fun k hk=>.inl hk
 have HXml:=Lib.hid hXml
 have hr1:=hs.2
 have hol:=hs.1
 have hgl:=h.blk.lt
 clear h hsl hih hfs hXml
 go_enter Tryz.func248,Tryz.ntmps248
 go_wp2_with fail
 refine HC.out.mono ?_
 rintro e w1 ⟨rfl,rfl⟩
 go_wp2_with fail
 refine HR.out.mono ?_
 rintro e w1 ⟨hk1,hW1,A1,n1,c1,rfl,h11,h12,h13⟩
 by_cases hz:(readE p F s).1.2=0
 ·have hX1:=HX.out.work hk1 (by rw [code_zero hz] at hW1; exact hW1)
  have hkX1:Kp (XX ml gx v) w w1:=hk1.more HXml.out
  rw [hz]
  have x2:=hX1.blk.cell (i:=2) rfl
  have xf2:=hX1.blk.frozen 2
  have hzz2:=hz2 hz
  have hzz3:=hz3 hz
  have hn1:=h13.1
  clear hz1 hz2 hz3 hz HC HR hk1 hW1
  generalize (readE p F s).1.1=bs at *
  generalize (readE p F s).2=s1 at *
  have hrI:(r:Int)≤10000:=by omega
  by_cases hbig:10000 < r + 1
  ·have HE:=Lib.hid (fun (w':World) (hb:Below (w1.setCell ⟨gx,2,none⟩ (.int .i64 ((r + 1:Nat):Int))).heap.size (w1.setCell ⟨gx,2,none⟩ (.int .i64 ((r + 1:Nat):Int))) w') =>
    FilePost.mk_ (hzz2 hbig) (hX1.reads.up (Nat.le_add_right _ _)) (hkX1.set (X:=XX ml gx v) (p:=⟨gx,2,none⟩) (.inr (.inl rfl)) _) (fun _ hk=>.inl hk) hb)
   have hbI:(10000:Int) < (r:Int) + 1:=by omega
   clear hX1 hkX1 h13 hzz3 hbig
   go_wp2
   go_ret
   exact HE.out _ (Below.refl _ _)
  ·have hbI:¬ (10000:Int) < (r:Int) + 1:=by omega
   have hzz:=hzz3 hbig
   have hbs:n1≤100000:=by omega
   have hnl:=HSl.out.1
   clear hzz2 hzz3
   go_wp2_with fail
   generalize hw2:World.setCell w1 _ _=w2
   have hX2:Xs w2 S B g mi mw ml q a F M s1 gx B2 v o (r + 1):=by rw [←hw2]; exact hX1.reads
   have hkX2:Kp (XX ml gx v) w w2:=by rw [←hw2]; exact hkX1.set (X:=XX ml gx v) (p:=⟨gx,2,none⟩) (.inr (.inl rfl)) _
   have hsl2:Sl w2 (Off (XX ml gx v) w2) A n inn:=HSl.out.kp hkX2
   have hsb2:Sl w2 S A1 n1 bs:=h13.keep fun k hk=>by rw [←hw2]; exact heap_setCell_other w1 ⟨gx,2,none⟩ k _ (by have:=hX1.sepx k hk; show k≠gx; omega)
   clear hw2 hX1 hkX1 h13 x2 xf2
   refine (clone_str A n c inn w2 (Lt w2.heap.size) (fun _ h=>h) hsl2.offLt (by omega)).mono ?_
   rintro e w3 ⟨v3,rfl,hrow3',hb3⟩
   have hrow3:=hrow3'.flat flat_strX
   obtain ⟨_,rows,hrows,hown3,hrep⟩:=id hrow3
   obtain ⟨i0,hi0,hz0,hz1,hz2⟩:=info_parts cl_str_info
   have HJ:=Lib.hid (fun (w4:World) (gg cap:Nat) hg hown=>inn_more (w:=w2) (w3:=w3) (w4:=w4) (g:=gg) (cap:=cap) (p:=p) (n:=n + 1) (o:=.cells #[.string p] 9) hrow3 hrows hrep hp hg (by rw [hnl]) hown hb3 rfl)
   rw [hnl] at hown3
   have H9:=Lib.hid (show (w3.alloc (.cells #[.string p] 9)).ownsRow w2.heap.size 9 1 v3 n rows.flatten from hown3.alloc _)
   have hz3:=hb3.size
   have HX2:=Lib.hid hX2
   have HS2:=Lib.hid hsb2
   have HK2:=Lib.hid hkX2
   clear hrow3' hrow3 hrows hown3 hrep hsl2 hsb2 hX2 hkX2 hb3
   go_wp2_with (
    at_builtin
    refine wpList_append_lies _ rfl _ _ 24 rfl w2.heap.size 9 i0 _ 1 16 Tryz.underlying24 hi0 hz0 hz1 hz2 rfl (by decide) _ n _ rfl H9.out ⟨w3.heap.size,0,none⟩ 1 1 [.string p] rfl rfl (new_cells w3 #[_] _) (fun u hu=>(by simp only [List.mem_cons,List.mem_nil_iff,or_false] at hu; subst hu; rfl)) (by decide) (by unfold maxLen; omega) (by omega) (by rw [World.size_alloc]; omega) _ rfl ?_
    intro g' cap w4 hown4 hg4 hat4 hlt4
    obtain ⟨hb4,hcp1,hcp2,hin4⟩:=HJ.out w4 g' cap hg4 hown4
    clear hown4 hg4 hat4)
   have hsb4:Sl w4 (Lt w4.heap.size) A1 n1 bs:=(HS2.out.keep fun k hk=>hb4.block k (HX2.out.wk.sep k hk).1).more fun k hk=>Nat.lt_of_lt_of_le (HX2.out.wk.sep k hk).1 hb4.size
   refine (act_lines A1 n1 c1 bs w4 hsb4 h11 h12 (by omega)).mono ?_
   rintro e w5 ⟨v5,rfl,hrow5,hb5⟩
   have own5:=OwnS.of hrow5
   have hX5:=(HX2.out.call hb4).call hb5
   have hls:∀ x∈linesS bs,x.length≤100000:=fun x hx=>by have:=line_short hx; omega
   have hll:(linesS bs).length≤100000:=by have:=lines_count bs; omega
   have hbw5:Below w2.heap.size w2 w5:=fr_call hb4 hb5
   have hk5:Kp (XX ml gx v) w w5:=(HK2.out.call hbw5)
   have hin5:=hin4.keep fun k hh=>hb5.block k hh.2
   have hlow5:ml < w2.heap.size∧gx < w2.heap.size∧∀ k,v.ownBlock=some k→k < w2.heap.size:=⟨by have:=HX2.out.gxs; have:=HX2.out.blk.lt; omega,HX2.out.blk.lt,fun k hk=>(HX2.out.far k hk).2⟩
   have hz45:=hb5.size
   have hz24:=hb4.size
   have HIn:=Lib.hid (fun (wr:World) (v':Value) (hk:Kp (XX ml gx v) w5 wr) (hv':∀ k,v'.ownBlock=some k→v.ownBlock=some k∨w5.heap.size≤k)=>(show Sl wr (Off (XX ml gx v') wr) (some ⟨g',0,none⟩) (n + 1) (inn ++ [p]) from
    (hin5.keep fun k hh=>hk.block k (by omega) fun hx=>by
      rcases hx with h1 | h1 | h1
      ·omega
      ·omega
      ·have:=hlow5.2.2 k h1; omega).more fun k hh=>⟨fun hx=>by
       rcases hx with h1 | h1 | h1
       ·omega
       ·omega
       ·rcases hv' k h1 with h2 | h2
        ·have:=hlow5.2.2 k h2; omega
        ·omega,by have:=hk.size; omega⟩))
   have HRow:=Lib.hid (fun (wr:World) (hk:Kp (XX ml gx v) w5 wr)=>(show OwnS wr w4.heap.size 9 v5 (linesS bs) from own5.keep fun k hh=>hk.block k (own5.lt k hh).2 fun hx=>by
    have:=(own5.lt k hh).1
    rcases hx with h1 | h1 | h1
    ·omega
    ·omega
    ·have:=hlow5.2.2 k h1; omega))
   obtain ⟨L,hL⟩:∃ L,linesS bs=L:=⟨_,rfl⟩
   rw [hL] at hzz hls hll HRow own5
   have hm5:L.length≤9223372036854775807:=by omega
   have HK5:=Lib.hid hk5
   have HZZ:=Lib.hid hzz
   clear hsb4 hrow5 HJ H9 hL hin4 hin5 hk5 hzz hbw5
   rcases own5.form with ⟨hnil,hv⟩ | ⟨gl,cap5,cur,hv,_⟩
   ·subst hnil
    subst hv
    have HE:=Lib.hid (fun (w':World) (hb:Below w5.heap.size w5 w')=>FilePost.mk_ (M:=M) HZZ.out (hX5.up (Nat.le_add_right _ _)) HK5.out (fun _ hk=>.inl hk) hb)
    clear own5 hX5
    go_wp2
    go_loop [54] (fun i=>i=.int .i64 0) (fun _=>0)
    case atStart=>rfl
    case round =>
     obtain rfl:=hrel
     go_wp2
     go_ret
     exact HE.out _ (by repeat (first | exact fr_refl _ | refine fr_call ?_ (by assumption) | refine fr_alloc ?_ _ | refine fr_set ?_ (by simp) _ | refine Below.drew ?_ | refine below_drewN ?_ _))
   ·subst hv
    clear own5
    go_wp2
    go_loopw [54] (fun i wr=>∃ (k:Nat) (s':ExSt) (v':Value) (o':List UInt8) (r':Nat),k≤L.length∧i=.int .i64 k∧Xs wr S B g mi mw ml q a F M s' gx B2 v' o' r'∧Small o' r'∧Kp (XX ml gx v) w5 wr∧(∀ k,v'.ownBlock=some k→v.ownBlock=some k∨w5.heap.size≤k)∧z=eachE f (L.drop k) o' r' F s') (fun i _=>L.length - (intOf i).toNat)
    case atStart=>exact ⟨0,s1,v,o,r + 1,Nat.zero_le _,rfl,hX5,⟨hol,by omega⟩,Kp.refl _ _,fun _ hk=>.inl hk,HZZ.out⟩
    case round =>
     clear hX5
     obtain ⟨k,s',v',o',r',hk,rfl,hXr,hsm',hkr,hv',he⟩:=hrel
     have HE:=Lib.hid he
     clear he
     by_cases hlt:k < L.length
     ·obtain ⟨x,hx⟩:=at_lt (l:=L) (k:=k) hlt
      have hd:=drop_at hx
      have hkI:(k:Int) < (L.length:Int):=by omega
      have c0:=(HRow.out wr hkr).cell hx
      have hxl:=hls x (List.mem_of_getElem? hx)
      have HT:=Lib.hid (trimNl x wr (by omega))
      have HCI:=Lib.hid (cutInc (cutNl x) wr)
      clear hx
      cases hpre:Lib.hasPrefix (cutNl x) [105,110,99,108,117,100,101,32] with
      | false =>
        rw [hpre] at HCI
        have hinc:=inc_not hpre
        clear hpre
        obtain ⟨wq,hwq⟩:∃ wq,wq=wr:=⟨_,rfl⟩
        rw [←hwq] at hXr hkr c0 HT HCI ⊢
        clear hwq
        go_wp2_with fail
        refine HT.out.mono ?_
        rintro e w6 ⟨rfl,rfl⟩
        go_wp2_with fail
        refine HCI.out.mono ?_
        rintro e w6 ⟨rfl,rfl⟩
        have hXq:=hXr
        have hkq:=hkr
        clear hXr hkr HT HCI
        have y1:=hXq.blk.cell (i:=1) rfl
        have ygl:=hXq.blk.lt
        have HEn:=Lib.hid (fun W=>act_ended x W (by omega))
        have hown:=hXq.own
        have hof:∀ k,v'.ownBlock=some k→B2≤k:=fun k hk=>(hXq.far k hk).1
        have hlo:=hXq.low
        have hol':=hsm'.1
        have hel:(endedS x).length≤100001:=by rw [endedS,List.length_append]; have:=cutNl_len x; simp; omega
        obtain ⟨i1,hi1,hy0,hy1,hy2⟩:=info_parts cl_byte_info
        have HOd:=Lib.hid (show wq.drew.ownsRow B2 5 1 v' o'.length (Lib.byteCells o') from hown)
        have HA:=Lib.hid (fun (w9:World) (hg:wq.drew.grownBy w9 v'.ownBlock)=>(show Arr w9 gx 286 [.pointer (some ⟨g,0,none⟩),v',.int .i64 (r':Nat)] from hXq.blk.keep (hg.block gx ygl fun e=>by have:=hof gx e.symm; omega)))
        have HPut:=Lib.hid (fun (w9:World) (v9:Value) hown9 (hg:wq.drew.grownBy w9 v'.ownBlock)=>hXq.put (t:=endedS x) (w1:=wq.drew) (w2:=w9) (v':=v9) (fr_refl wq).drew hown9 hg)
        have HB2:=Lib.hid (show B2≤wq.drew.heap.size from hlo.2)
        have H63:=Lib.hid (show o'.length + (strOf (endedS x)).size≤maxLen by rw [strOf_size]; unfold maxLen; omega)
        have H48:=Lib.hid (show o'.length + (strOf (endedS x)).size≤140737488355328 by rw [strOf_size]; omega)
        have HXq:=Lib.hid hXq
        have HKq:=Lib.hid hkq
        have HVq:=Lib.hid hv'
        have HSm:=Lib.hid hsm'
        by_cases hlarge:100000 < (o' ++ endedS x).length
        ·have HLg:=Lib.hid (show 100000 < o'.length + (endedS x).length by rw [List.length_append] at hlarge; exact hlarge)
         have HZ:=Lib.hid (HE.out.trans (by rw [hd,each_large hinc hlarge]))
         clear hXq hkq hv' hsm' hown hd HE hlarge
         go_wp2
         go_region_law (first
          | (refine step_append_text rfl _ _ 75 9 rfl B2 5 i1 Tryz.underlying75 Tryz.underlying9 hi1 hy0 hy1 hy2 _ o'.length _ rfl HOd.out (strOf (endedS x)) rfl H63.out H48.out HB2.out ?_
             intro v9 w9 hown9 hg9 hl9
             rw [strOf_size,Lib.strCells_eq,strOf_data] at hown9
             obtain ⟨A9,c9,hv9,_,_,_⟩:=OwnB.sl (o:=o' ++ endedS x) (by unfold OwnB; rw [Lib.byteCells_append,List.length_append]; exact hown9)
             rw [List.length_append] at hv9
             subst hv9
             have z1:=(HA.out w9 hg9).cell (i:=1) rfl
             have zf1:=(HA.out w9 hg9).frozen 1
             have zl:=(HA.out w9 hg9).lt)
          | (go_simp; go_at_call 270; refine (HEn.out _).mono ?_; rintro e wz ⟨rfl,rfl⟩))
         all_goals
          obtain ⟨hX9,hk9⟩:=HPut.out w9 _ hown9 hg9
          have HEnd:=Lib.hid (FilePost.mk_ (M:=M) (v:=v) HZ.out (hX9.up (Nat.le_add_right _ _)) (HK5.out.then_ (HKq.out.then_ hk9 (xx_grow HVq.out)) fun j hj=>.inl hj) (fun k hk=>by
           rcases hl9 k hk with h1 | h1
           ·rcases HVq.out k h1 with h2 | h2
            ·exact .inl h2
            ·exact .inr (Nat.le_trans HK5.out.size h2)
           ·exact .inr (Nat.le_trans HK5.out.size (Nat.le_trans HKq.out.size h1))) (Below.refl _ _))
          clear hX9 hk9 hown9 hg9 hl9
          have hlJ:(100000:Int) < (o'.length:Int) + ((endedS x).length:Int):=by have:=HLg.out; omega
          go_wp2
          go_ret
          exact HEnd.out
        ·have HZ:=Lib.hid (HE.out.trans (by rw [hd,each_line hinc hlarge]))
         have HS9:=Lib.hid (show Small (o' ++ endedS x) r' from ⟨by omega,HSm.out.2⟩)
         clear hXq hkq hv' hsm' hown hd HE hlarge
         go_wp2
         go_region_law (first
          | (refine step_append_text rfl _ _ 75 9 rfl B2 5 i1 Tryz.underlying75 Tryz.underlying9 hi1 hy0 hy1 hy2 _ o'.length _ rfl HOd.out (strOf (endedS x)) rfl H63.out H48.out HB2.out ?_
             intro v9 w9 hown9 hg9 hl9
             rw [strOf_size,Lib.strCells_eq,strOf_data] at hown9
             obtain ⟨A9,c9,hv9,_,_,_⟩:=OwnB.sl (o:=o' ++ endedS x) (by unfold OwnB; rw [Lib.byteCells_append,List.length_append]; exact hown9)
             rw [List.length_append] at hv9
             subst hv9
             have z1:=(HA.out w9 hg9).cell (i:=1) rfl
             have zf1:=(HA.out w9 hg9).frozen 1
             have zl:=(HA.out w9 hg9).lt)
          | (go_simp; go_at_call 270; refine (HEn.out _).mono ?_; rintro e wz ⟨rfl,rfl⟩))
         all_goals
          obtain ⟨hX9,hk9⟩:=HPut.out w9 _ hown9 hg9
          have hk9':=HKq.out.then_ hk9 (xx_grow HVq.out)
          have hv9:∀ k,(Value.slice A9 (o'.length + (endedS x).length) c9).ownBlock=some k→v.ownBlock=some k∨w5.heap.size≤k:=fun k hk=>by
           rcases hl9 k hk with h1 | h1
           ·exact HVq.out k h1
           ·exact .inr (Nat.le_trans HKq.out.size h1)
          clear hk9 hown9 hg9 hl9
          have hlJ:¬ (100000:Int) < (o'.length:Int) + ((endedS x).length:Int):=by have:=HS9.out.1; rw [List.length_append] at this; omega
          go_wp2
          go_roundw
          case rel=>exact ⟨k + 1,_,_,_,_,by omega,by go_num,hX9,HS9.out,hk9',hv9,HZ.out⟩
          case measure=>simp [intOf]; omega
      | true =>
        rw [hpre] at HCI
        simp only [if_true] at HCI
        have hpsz:(strOf ((cutNl x).drop 8)).size≤maxLen:=by rw [strOf_size,List.length_drop]; have:=cutNl_len x; unfold maxLen; omega
        have HP:=Lib.hid (blob_IsPath (strOf ((cutNl x).drop 8)) wr hXr.env.toEnv)
        cases hpp:isPathS (strOf ((cutNl x).drop 8)) with
        | false =>
          rw [hpp] at HP
          have hinc:=inc_no hpre hpp
          clear hpre hpp
          go_wp2_with fail
          refine HT.out.mono ?_
          rintro e w6 ⟨rfl,rfl⟩
          go_wp2_with fail
          refine HCI.out.mono ?_
          rintro e w6 ⟨rfl,rfl⟩
          go_wp2_with fail
          refine HP.out.mono ?_
          rintro e wq ⟨rfl,hbq⟩
          have hXq:=hXr.call hbq
          have hkq:=hkr.call hbq
          clear hXr hkr HT HCI HP hbq c0
          have y1:=hXq.blk.cell (i:=1) rfl
          have ygl:=hXq.blk.lt
          have HEn:=Lib.hid (fun W=>act_ended x W (by omega))
          have hown:=hXq.own
          have hof:∀ k,v'.ownBlock=some k→B2≤k:=fun k hk=>(hXq.far k hk).1
          have hlo:=hXq.low
          have hol':=hsm'.1
          have hel:(endedS x).length≤100001:=by rw [endedS,List.length_append]; have:=cutNl_len x; simp; omega
          obtain ⟨i1,hi1,hy0,hy1,hy2⟩:=info_parts cl_byte_info
          have HOd:=Lib.hid (show wq.drew.ownsRow B2 5 1 v' o'.length (Lib.byteCells o') from hown)
          have HA:=Lib.hid (fun (w9:World) (hg:wq.drew.grownBy w9 v'.ownBlock)=>(show Arr w9 gx 286 [.pointer (some ⟨g,0,none⟩),v',.int .i64 (r':Nat)] from hXq.blk.keep (hg.block gx ygl fun e=>by have:=hof gx e.symm; omega)))
          have HPut:=Lib.hid (fun (w9:World) (v9:Value) hown9 (hg:wq.drew.grownBy w9 v'.ownBlock)=>hXq.put (t:=endedS x) (w1:=wq.drew) (w2:=w9) (v':=v9) (fr_refl wq).drew hown9 hg)
          have HB2:=Lib.hid (show B2≤wq.drew.heap.size from hlo.2)
          have H63:=Lib.hid (show o'.length + (strOf (endedS x)).size≤maxLen by rw [strOf_size]; unfold maxLen; omega)
          have H48:=Lib.hid (show o'.length + (strOf (endedS x)).size≤140737488355328 by rw [strOf_size]; omega)
          have HXq:=Lib.hid hXq
          have HKq:=Lib.hid hkq
          have HVq:=Lib.hid hv'
          have HSm:=Lib.hid hsm'
          by_cases hlarge:100000 < (o' ++ endedS x).length
          ·have HLg:=Lib.hid (show 100000 < o'.length + (endedS x).length by rw [List.length_append] at hlarge; exact hlarge)
           have HZ:=Lib.hid (HE.out.trans (by rw [hd,each_large hinc hlarge]))
           clear hXq hkq hv' hsm' hown hd HE hlarge
           go_wp2
           go_region_law (first
            | (refine step_append_text rfl _ _ 75 9 rfl B2 5 i1 Tryz.underlying75 Tryz.underlying9 hi1 hy0 hy1 hy2 _ o'.length _ rfl HOd.out (strOf (endedS x)) rfl H63.out H48.out HB2.out ?_
               intro v9 w9 hown9 hg9 hl9
               rw [strOf_size,Lib.strCells_eq,strOf_data] at hown9
               obtain ⟨A9,c9,hv9,_,_,_⟩:=OwnB.sl (o:=o' ++ endedS x) (by unfold OwnB; rw [Lib.byteCells_append,List.length_append]; exact hown9)
               rw [List.length_append] at hv9
               subst hv9
               have z1:=(HA.out w9 hg9).cell (i:=1) rfl
               have zf1:=(HA.out w9 hg9).frozen 1
               have zl:=(HA.out w9 hg9).lt)
            | (go_simp; go_at_call 270; refine (HEn.out _).mono ?_; rintro e wz ⟨rfl,rfl⟩))
           all_goals
            obtain ⟨hX9,hk9⟩:=HPut.out w9 _ hown9 hg9
            have HEnd:=Lib.hid (FilePost.mk_ (M:=M) (v:=v) HZ.out (hX9.up (Nat.le_add_right _ _)) (HK5.out.then_ (HKq.out.then_ hk9 (xx_grow HVq.out)) fun j hj=>.inl hj) (fun k hk=>by
             rcases hl9 k hk with h1 | h1
             ·rcases HVq.out k h1 with h2 | h2
              ·exact .inl h2
              ·exact .inr (Nat.le_trans HK5.out.size h2)
             ·exact .inr (Nat.le_trans HK5.out.size (Nat.le_trans HKq.out.size h1))) (Below.refl _ _))
            clear hX9 hk9 hown9 hg9 hl9
            have hlJ:(100000:Int) < (o'.length:Int) + ((endedS x).length:Int):=by have:=HLg.out; omega
            go_wp2
            go_ret
            exact HEnd.out
          ·have HZ:=Lib.hid (HE.out.trans (by rw [hd,each_line hinc hlarge]))
           have HS9:=Lib.hid (show Small (o' ++ endedS x) r' from ⟨by omega,HSm.out.2⟩)
           clear hXq hkq hv' hsm' hown hd HE hlarge
           go_wp2
           go_region_law (first
            | (refine step_append_text rfl _ _ 75 9 rfl B2 5 i1 Tryz.underlying75 Tryz.underlying9 hi1 hy0 hy1 hy2 _ o'.length _ rfl HOd.out (strOf (endedS x)) rfl H63.out H48.out HB2.out ?_
               intro v9 w9 hown9 hg9 hl9
               rw [strOf_size,Lib.strCells_eq,strOf_data] at hown9
               obtain ⟨A9,c9,hv9,_,_,_⟩:=OwnB.sl (o:=o' ++ endedS x) (by unfold OwnB; rw [Lib.byteCells_append,List.length_append]; exact hown9)
               rw [List.length_append] at hv9
               subst hv9
               have z1:=(HA.out w9 hg9).cell (i:=1) rfl
               have zf1:=(HA.out w9 hg9).frozen 1
               have zl:=(HA.out w9 hg9).lt)
            | (go_simp; go_at_call 270; refine (HEn.out _).mono ?_; rintro e wz ⟨rfl,rfl⟩))
           all_goals
            obtain ⟨hX9,hk9⟩:=HPut.out w9 _ hown9 hg9
            have hk9':=HKq.out.then_ hk9 (xx_grow HVq.out)
            have hv9:∀ k,(Value.slice A9 (o'.length + (endedS x).length) c9).ownBlock=some k→v.ownBlock=some k∨w5.heap.size≤k:=fun k hk=>by
             rcases hl9 k hk with h1 | h1
             ·exact HVq.out k h1
             ·exact .inr (Nat.le_trans HKq.out.size h1)
            clear hk9 hown9 hg9 hl9
            have hlJ:¬ (100000:Int) < (o'.length:Int) + ((endedS x).length:Int):=by have:=HS9.out.1; rw [List.length_append] at this; omega
            go_wp2
            go_roundw
            case rel=>exact ⟨k + 1,_,_,_,_,by omega,by go_num,hX9,HS9.out,hk9',hv9,HZ.out⟩
            case measure=>simp [intOf]; omega
        | true =>
          rw [hpp] at HP
          have hinc:=inc_yes hpre hpp
          clear hpre hpp
          go_wp2_with fail
          refine HT.out.mono ?_
          rintro e w6 ⟨rfl,rfl⟩
          go_wp2_with fail
          refine HCI.out.mono ?_
          rintro e w6 ⟨rfl,rfl⟩
          go_wp2_with fail
          refine HP.out.mono ?_
          rintro e wq ⟨rfl,hbq⟩
          have hXq:=hXr.call hbq
          have hkq:=hkr.call hbq
          have HRec:=Lib.hid (HIH.out (strOf ((cutNl x).drop 8)) v' o' r' s' (some ⟨g',0,none⟩) (n + 1) cap wq hsm' hpsz hcp1 hcp2 (HIn.out wq v' hkq hv') hXq)
          clear hXr hkr HT HCI HP hbq c0 hXq
          go_wp2_with fail
          refine HRec.out.mono ?_
          rintro e w7 ⟨rfl,v7,hX7,hk7,hv7⟩
          have hk57:=hkq.then_ hk7 (xx_grow hv')
          have hv57:∀ k,v7.ownBlock=some k→v.ownBlock=some k∨w5.heap.size≤k:=fun k hk=>by
           rcases hv7 k hk with h1 | h1
           ·exact hv' k h1
           ·exact .inr (Nat.le_trans hkq.size h1)
          have hfs7:=HFS.out (strOf ((cutNl x).drop 8)) o' r' s' hsm'
          by_cases hz0:(f (strOf ((cutNl x).drop 8)) o' r' F s').1.2.2=0
          ·have HZ:=Lib.hid (HE.out.trans (by rw [hd,each_inc hinc hz0]))
           have hs7:=hfs7 hz0
           rw [show codeN (f (strOf ((cutNl x).drop 8)) o' r' F s').1.2.2=0 by rw [codeN,if_pos hz0],Nat.add_zero] at hX7
           rw [hz0]
           clear hfs7 hz0 hd hinc HE HRec hkq hk7 hv7
           generalize (f (strOf ((cutNl x).drop 8)) o' r' F s').1.1=o7 at *
           generalize (f (strOf ((cutNl x).drop 8)) o' r' F s').1.2.1=r7 at *
           generalize (f (strOf ((cutNl x).drop 8)) o' r' F s').2=s7 at *
           go_wp2
           go_roundw
           case rel=>exact ⟨k + 1,s7,v7,o7,r7,by omega,by go_num,hX7,hs7,hk57,hv57,HZ.out⟩
           case measure=>simp [intOf]; omega
          ·have HEnd:=Lib.hid (fun (w':World) (hb:Below w7.heap.size w7 w')=>FilePost.mk_ (M:=M) (v:=v) (HE.out.trans (by rw [hd,each_bad hinc hz0])) hX7 (HK5.out.then_ hk57 fun j hj=>.inl hj) (fun k hk=>by
            rcases hv57 k hk with h1 | h1
            ·exact .inl h1
            ·exact .inr (Nat.le_trans HK5.out.size h1)) hb)
           have hne:((f (strOf ((cutNl x).drop 8)) o' r' F s').1.2.2 != 0)=true:=by simpa using hz0
           clear hfs7 hz0 hd hinc HE HRec hkq hk7 hv7 hX7 hk57 hv57
           generalize (f (strOf ((cutNl x).drop 8)) o' r' F s').1.2.2=cz at *
           go_wp2
           go_ret
           exact HEnd.out _ (by repeat (first | exact fr_refl _ | refine fr_call ?_ (by assumption) | refine fr_alloc ?_ _ | refine fr_set ?_ (by simp) _ | refine Below.drew ?_ | refine below_drewN ?_ _))
     ·have HEnd:=Lib.hid (fun (w':World) (hb:Below wr.heap.size wr w')=>FilePost.mk_ (M:=M) (v:=v) (HE.out.trans (by rw [List.drop_eq_nil_of_le (by omega)]; exact each_nil f o' r' s')) (hXr.up (Nat.le_add_right _ _)) (HK5.out.then_ hkr fun j hj=>.inl hj) (fun k hk=>by
       rcases hv' k hk with h1 | h1
       ·exact .inl h1
       ·exact .inr (Nat.le_trans HK5.out.size h1)) hb)
      clear hXr hkr HE
      go_wp2
      go_ret
      exact HEnd.out _ (by repeat (first | exact fr_refl _ | refine fr_call ?_ (by assumption) | refine fr_alloc ?_ _ | refine fr_set ?_ (by simp) _ | refine Below.drew ?_ | refine below_drewN ?_ _))
 ·have hzn:=hz1 hz
  have HE:=Lib.hid (fun (w':World) (hb:Below w1.heap.size w1 w')=>FilePost.mk_ hzn (HX.out.work hk1 hW1) (hk1.more HXml.out) (fun _ hk=>.inl hk) hb)
  have hne:((readE p F s).1.2 != 0)=true:=by simpa using hz
  clear hz1 hz2 hz3 hz hzn HC HR hk1 hW1 h13
  generalize (readE p F s).1.2=cz at *
  go_wp2
  go_ret
  exact HE.out _ (by repeat (first | exact fr_refl _ | refine fr_call ?_ (by assumption) | refine fr_alloc ?_ _ | refine fr_set ?_ (by simp) _ | refine Below.drew ?_ | refine below_drewN ?_ _))
theorem act_file (hM:M≤100000):∀ (fuel:Nat) (inn:List ByteArray),inn.length + fuel=32→IH S B g mi mw ml q a F M gx B2 (fileE fuel inn) inn
 | 0,inn,hl,p,v,o,r,s,A,n,c,w,hs,hp,hnc,hc,hsl,h=>by
   have hn:=hsl.1
   exact act_file_deep inn p A n c w h hsl (.inr (by omega))
 | fuel + 1,inn,hl,p,v,o,r,s,A,n,c,w,hs,hp,hnc,hc,hsl,h=>by
   have hn:=hsl.1
   by_cases hd:inn.any (eqS p)=true∨30 < inn.length
   ·have hz:=file_deep (fuel:=fuel) (o:=o) (r:=r) (s:=s) (F:=F) hd
    rw [hz]
    exact act_file_deep inn p A n c w h hsl (hd.imp id (by omega))
   ·have hd1:inn.any (eqS p)=false:=by
     cases hq:inn.any (eqS p)
     ·rfl
     ·exact absurd (.inl hq) hd
    refine act_file_step (fileE fuel (inn ++ [p])) inn p v o r s A n c w (fileE (fuel + 1) inn p o r F s) (act_file hM fuel (inn ++ [p]) (by rw [List.length_append,List.length_singleton]; omega)) hs hp hM hsl h
     (fun x o r s hs hz=>file_small fuel _ x o r s hs hz) hd1 (by omega) (fun hz=>file_bad hd hz) (fun hz hr=>file_many hd hz hr) (fun hz hr=>file_each hd hz hr)
end
end Go.Proofs.Sm
namespace Go.Proofs.Sm
open Go.RowKit
structure MadeCmd (c:List ByteArray):Prop where
 long:3≤c.length∧c.length≤50
 words:∀ x∈c,isWordS x=true
 first:(wordAt c 0).data.toList=[102,105,114,115,116]→isNumberS (wordAt c 2) 6=true
 change:(wordAt c 0).data.toList=[99,104,97,110,103,101]→5≤c.length
 which:(wordAt c 0).data.toList∈[[106,111,105,110],[101,120,112,97,110,100],[112,105,99,107],[108,105,115,116],[118,97,114],[115,111,114,116],[99,111,117,110,116],[102,105,114,115,116],[99,104,97,110,103,101],[100,105,103,101,115,116],[109,97,107,101]]
theorem made_cmd {c:List ByteArray} (h:checkCommandS c=0) (h1:¬ (wordAt c 0).data.toList=[116,101,108,108]) (h2:¬ (wordAt c 0).data.toList=[110,101,101,100]) (h3:¬ (wordAt c 0).data.toList=[115,97,109,101]) (h4:¬ (wordAt c 0).data.toList=[102,97,105,108]):MadeCmd c:=by
 obtain ⟨hl,kinds,more,hf,hk,_,hfit⟩:=command_form h
 have hws:=cmd_isWords h
 have key:∀ {w:List UInt8},w=(wordAt c 0).data.toList→formS w=some (kinds,more)→2≤kinds.length∧(w=[102,105,114,115,116]→kinds=[112,110,112])∧(w=[99,104,97,110,103,101]→kinds=[112,119,119,112]) ∧
  w∈[[106,111,105,110],[101,120,112,97,110,100],[112,105,99,107],[108,105,115,116],[118,97,114],[115,111,114,116],[99,111,117,110,116],[102,105,114,115,116],[99,104,97,110,103,101],[100,105,103,101,115,116],[109,97,107,101]]:=by
  intro w e hw
  rw [←e] at h1 h2 h3 h4
  unfold formS at hw
  split at hw
  ·rename_i e; subst e; cases hw; simp
  split at hw
  ·rename_i e
   cases hw
   rcases e with e | e | e | e | e | e | e <;> first | exact absurd e h3 | (subst e; simp)
  split at hw
  ·rename_i e; subst e; cases hw; simp
  split at hw
  ·rename_i e; subst e; cases hw; simp
  split at hw
  ·rename_i e; subst e; cases hw; simp
  split at hw
  ·rename_i e; subst e; cases hw; simp
  cases hw
 obtain ⟨k1,k2,k3,k4⟩:=key rfl hf
 refine ⟨⟨by omega,hl⟩,hws,fun e=>?_,fun e=>?_,k4⟩
 ·have hk:=k2 e
  subst hk
  have:=hfit 1 (wordAt c 2) (wordAt_mem (by omega))
  exact this
 ·rw [k3 e] at hk
  simp at hk
  omega
theorem word_at {c:List ByteArray} {k:Nat} {x:ByteArray} (h:c[k]?=some x):wordAt c k=x:=by rw [wordAt,h]; rfl
theorem word_bytes {x:ByteArray} {l:List UInt8} (h:x.data.toList=l):x=⟨l.toArray⟩:=by
 cases x
 simp at h
 rw [←h]
theorem word_size {x:ByteArray} (h:isWordS x=true):1≤x.size∧x.size≤300:=by
 unfold isWordS withinB at h
 simp at h
 omega
set_option maxHeartbeats 2000000 in
set_option maxRecDepth 100000 in
theorem made_join (S:Nat→Prop) (B g mi mw ml:Nat) (q:ActP) (a:ActionV) (F:List FileV) (M:Nat) (s:ExSt) (A:Option Addr) (n cc:Nat) (c:List ByteArray) (w:World) (hM:M + 100≤100000) (h:Wk w S B g mi mw ml q a F M s) (hsl:Sl w (Lt B) A n c) (hnc:n≤cc) (hcm:cc≤maxLen) (hc:MadeCmd c) (hw:(wordAt c 0).data.toList=[106,111,105,110]):Calls Tryz.prog 223 #[.pointer (some ⟨g,0,none⟩),.slice A n cc] w (MadePost B g mi mw ml q a F (M + 100) (madeE a.vars c F s) w):=by
 obtain ⟨_,_,_⟩:=And.intro hM (And.intro hnc hcm)
 have hn:=hsl.1
 have hl1:=hc.long.1
 have hl2:=hc.long.2
 obtain ⟨b,o,x0,rfl,hb,hx0,hx0s,k0⟩:=hsl.str (k:=0) (by omega)
 rw [Nat.add_zero] at k0
 obtain rfl:=word_bytes ((congrArg (fun x:ByteArray=>x.data.toList) (word_at hx0).symm).trans hw)
 have HE:=Lib.hid (show madeE a.vars c F s=joinedE (c.drop 2) [] F s by unfold madeE; rw [hw]; rfl)
 obtain ⟨A2,c2,hcut,h21,h22,hs2⟩:=from_str (k:=2) hsl (by omega) hnc hcm (by omega)
 change ∀ W,(Instr.slice 24 (.slice (some ⟨b,o,none⟩) n cc) (some (.int .i64 2)) none none).run Tryz.prog W=_ at hcut
 have HJ:=Lib.hid (act_joined S B g mi mw ml q a F M s A2 (n - 2) c2 (c.drop 2) w (by omega) (by omega) h hs2)
 clear h hsl hs2 hw hx0
 go_enter Tryz.func223,Tryz.ntmps223
 go_wp2_with fail
 refine HJ.out.mono ?_
 rintro e w1 ⟨hk,hW,A3,n3,c3,rfl,h31,h32,h3n,h33⟩
 have HEnd:=Lib.hid (fun w' (hb:Below w1.heap.size w1 w')=>(MadePost.mk_ (w':=w') (r:=madeE a.vars c F s) (HE.out.trans rfl) hk (hW.up (show M + 1≤M + 100 by omega)) h31 h32 h3n h33 hb))
 clear hk hW h33 HJ
 go_wp2
 go_ret2
 exact HEnd.out _ (by repeat (first | exact fr_refl _ | refine fr_call ?_ (by assumption) | refine fr_alloc ?_ _ | refine fr_set ?_ (by simp) _ | refine Below.drew ?_ | refine below_drewN ?_ _))
set_option maxHeartbeats 2000000 in
set_option maxRecDepth 100000 in
theorem made_pick (S:Nat→Prop) (B g mi mw ml:Nat) (q:ActP) (a:ActionV) (F:List FileV) (M:Nat) (s:ExSt) (A:Option Addr) (n cc:Nat) (c:List ByteArray) (w:World) (hM:M + 100≤100000) (h:Wk w S B g mi mw ml q a F M s) (hsl:Sl w (Lt B) A n c) (hnc:n≤cc) (hcm:cc≤maxLen) (hc:MadeCmd c) (hw:(wordAt c 0).data.toList=[112,105,99,107]):Calls Tryz.prog 223 #[.pointer (some ⟨g,0,none⟩),.slice A n cc] w (MadePost B g mi mw ml q a F (M + 100) (madeE a.vars c F s) w):=by
 obtain ⟨_,_,_⟩:=And.intro hM (And.intro hnc hcm)
 have hn:=hsl.1
 have hl1:=hc.long.1
 have hl2:=hc.long.2
 obtain ⟨b,o,x0,rfl,hb,hx0,hx0s,k0⟩:=hsl.str (k:=0) (by omega)
 rw [Nat.add_zero] at k0
 obtain rfl:=word_bytes ((congrArg (fun x:ByteArray=>x.data.toList) (word_at hx0).symm).trans hw)
 have HE:=Lib.hid (show madeE a.vars c F s=pickE (c.drop 2) F s by unfold madeE; rw [hw]; rfl)
 obtain ⟨A2,c2,hcut,h21,h22,hs2⟩:=from_str (k:=2) hsl (by omega) hnc hcm (by omega)
 change ∀ W,(Instr.slice 24 (.slice (some ⟨b,o,none⟩) n cc) (some (.int .i64 2)) none none).run Tryz.prog W=_ at hcut
 have HJ:=Lib.hid (act_pick S B g mi mw ml q a F M s A2 (n - 2) c2 (c.drop 2) w (by omega) h hs2)
 clear h hsl hs2 hw hx0
 go_enter Tryz.func223,Tryz.ntmps223
 go_wp2_with fail
 refine HJ.out.mono ?_
 rintro e w1 ⟨hk,hW,A3,n3,c3,rfl,h31,h32,h3n,h33⟩
 have HEnd:=Lib.hid (fun w' (hb:Below w1.heap.size w1 w')=>(MadePost.mk_ (w':=w') (r:=madeE a.vars c F s) (HE.out.trans rfl) hk (hW.up (show M + (n - 2)≤M + 100 by omega)) h31 h32 h3n h33 hb))
 clear hk hW h33 HJ
 go_wp2
 go_ret2
 exact HEnd.out _ (by repeat (first | exact fr_refl _ | refine fr_call ?_ (by assumption) | refine fr_alloc ?_ _ | refine fr_set ?_ (by simp) _ | refine Below.drew ?_ | refine below_drewN ?_ _))
set_option maxHeartbeats 2000000 in
set_option maxRecDepth 100000 in
theorem made_value (S:Nat→Prop) (B g mi mw ml:Nat) (q:ActP) (a:ActionV) (F:List FileV) (M:Nat) (s:ExSt) (A:Option Addr) (n cc:Nat) (c:List ByteArray) (w:World) (hM:M + 100≤100000) (h:Wk w S B g mi mw ml q a F M s) (hsl:Sl w (Lt B) A n c) (hnc:n≤cc) (hcm:cc≤maxLen) (hc:MadeCmd c) (hw:(wordAt c 0).data.toList=[118,97,114]) (hv:∀ v∈a.vars,v.value.size≤1000):Calls Tryz.prog 223 #[.pointer (some ⟨g,0,none⟩),.slice A n cc] w (MadePost B g mi mw ml q a F (M + 100) (madeE a.vars c F s) w):=by
 obtain ⟨_,_,_⟩:=And.intro hM (And.intro hnc hcm)
 have hn:=hsl.1
 have hl1:=hc.long.1
 have hl2:=hc.long.2
 obtain ⟨b,o,x0,rfl,hb,hx0,hx0s,k0⟩:=hsl.str (k:=0) (by omega)
 rw [Nat.add_zero] at k0
 obtain rfl:=word_bytes ((congrArg (fun x:ByteArray=>x.data.toList) (word_at hx0).symm).trans hw)
 obtain ⟨b',o',x2,e2,hb2,hx2,hx2s,k2⟩:=hsl.str (k:=2) (by omega)
 cases e2
 have hx2w:=(word_size (hc.words x2 (List.mem_of_getElem? hx2))).2
 have HE:=Lib.hid (show madeE a.vars c F s=(valueS a.vars x2,s) by unfold madeE; rw [hw,word_at hx2]; rfl)
 have HJ:=Lib.hid (act_value S B g mi mw ml q a F M s x2 w h hv)
 clear h hsl hw hx0 hx2
 go_enter Tryz.func223,Tryz.ntmps223
 go_wp2_with fail
 refine HJ.out.mono ?_
 rintro e w1 ⟨hk,hW,A3,n3,c3,rfl,h31,h32,h3n,h33⟩
 have HEnd:=Lib.hid (fun w' (hb:Below w1.heap.size w1 w')=>(MadePost.mk_ (w':=w') (r:=madeE a.vars c F s) (HE.out.trans rfl) hk (hW.up (show M≤M + 100 by omega)) h31 h32 h3n h33 hb))
 clear hk hW h33 HJ
 go_wp2
 go_ret2
 exact HEnd.out _ (by repeat (first | exact fr_refl _ | refine fr_call ?_ (by assumption) | refine fr_alloc ?_ _ | refine fr_set ?_ (by simp) _ | refine Below.drew ?_ | refine below_drewN ?_ _))
set_option maxHeartbeats 2000000 in
set_option maxRecDepth 100000 in
theorem made_list (S:Nat→Prop) (B g mi mw ml:Nat) (q:ActP) (a:ActionV) (F:List FileV) (M:Nat) (s:ExSt) (A:Option Addr) (n cc:Nat) (c:List ByteArray) (w:World) (hM:M + 100≤100000) (h:Wk w S B g mi mw ml q a F M s) (hsl:Sl w (Lt B) A n c) (hnc:n≤cc) (hcm:cc≤maxLen) (hc:MadeCmd c) (hw:(wordAt c 0).data.toList=[108,105,115,116]) (hF:∀ x∈F,x.path.size≤1000) (hout:a.outputs.length≤1000):Calls Tryz.prog 223 #[.pointer (some ⟨g,0,none⟩),.slice A n cc] w (MadePost B g mi mw ml q a F (M + 100) (madeE a.vars c F s) w):=by
 obtain ⟨_,_,_⟩:=And.intro hM (And.intro hnc hcm)
 have hn:=hsl.1
 have hl1:=hc.long.1
 have hl2:=hc.long.2
 obtain ⟨b,o,x0,rfl,hb,hx0,hx0s,k0⟩:=hsl.str (k:=0) (by omega)
 rw [Nat.add_zero] at k0
 obtain rfl:=word_bytes ((congrArg (fun x:ByteArray=>x.data.toList) (word_at hx0).symm).trans hw)
 obtain ⟨b',o',x2,e2,hb2,hx2,hx2s,k2⟩:=hsl.str (k:=2) (by omega)
 cases e2
 have hx2w:=(word_size (hc.words x2 (List.mem_of_getElem? hx2))).2
 have HE:=Lib.hid (show madeE a.vars c F s=(((listE x2 F s).1,0),(listE x2 F s).2) by unfold madeE; rw [hw,word_at hx2]; rfl)
 have HJ:=Lib.hid (act_list S B g mi mw ml q a F M s x2 w (by omega) (by omega) h hF hout fun x hx=>by have:=path_size (h.ok.wrote.own x hx).2.2; omega)
 clear h hsl hw hx0 hx2
 go_enter Tryz.func223,Tryz.ntmps223
 go_wp2_with fail
 refine HJ.out.mono ?_
 rintro e w1 ⟨A3,n3,c3,rfl,h31,h32,h38,h33,hk,hW⟩
 have HEnd:=Lib.hid (fun w' (hb:Below w1.heap.size w1 w')=>(MadePost.mk_ (w':=w') (r:=madeE a.vars c F s) (HE.out) hk (hW.up (show M + 1≤M + 100 by omega)) h31 h32 (fun _=>by omega) h33 hb))
 clear hk hW h33 HJ
 go_wp2
 go_ret2
 exact HEnd.out _ (by repeat (first | exact fr_refl _ | refine fr_call ?_ (by assumption) | refine fr_alloc ?_ _ | refine fr_set ?_ (by simp) _ | refine Below.drew ?_ | refine below_drewN ?_ _))
theorem xx_none {ml gx:Nat} {w w1 w2:World} (hgx:gx=w.heap.size) (hk:Kp (XX ml gx (.slice none 0 0)) w1 w2) (hb:Below w.heap.size w w1):Kp (fun k=>k=ml) w w2 :=
 (Kp.of hb).then_ hk fun j hj=>by
   rcases hj with h | h | h
   ·exact .inl h
   ·exact .inr (by omega)
   ·cases h
set_option maxHeartbeats 2000000 in
set_option maxRecDepth 100000 in
theorem made_expand (S:Nat→Prop) (B g mi mw ml:Nat) (q:ActP) (a:ActionV) (F:List FileV) (M:Nat) (s:ExSt) (A:Option Addr) (n cc:Nat) (c:List ByteArray) (w:World) (hM:M + 100≤100000) (h:Wk w S B g mi mw ml q a F M s) (hsl:Sl w (Lt B) A n c) (hnc:n≤cc) (hcm:cc≤maxLen) (hc:MadeCmd c) (hw:(wordAt c 0).data.toList=[101,120,112,97,110,100]):Calls Tryz.prog 223 #[.pointer (some ⟨g,0,none⟩),.slice A n cc] w (MadePost B g mi mw ml q a F (M + 100) (madeE a.vars c F s) w):=by
 obtain ⟨_,_,_⟩:=And.intro hM (And.intro hnc hcm)
 have hn:=hsl.1
 have hl1:=hc.long.1
 have hl2:=hc.long.2
 obtain ⟨b,o,x0,rfl,hb,hx0,hx0s,k0⟩:=hsl.str (k:=0) (by omega)
 rw [Nat.add_zero] at k0
 obtain rfl:=word_bytes ((congrArg (fun x:ByteArray=>x.data.toList) (word_at hx0).symm).trans hw)
 obtain ⟨b',o',x2,e2,hb2,hx2,hx2s,k2⟩:=hsl.str (k:=2) (by omega)
 cases e2
 have hx2w:=(word_size (hc.words x2 (List.mem_of_getElem? hx2))).2
 have HE:=Lib.hid (show madeE a.vars c F s=(((fileE 32 [] x2 [] 0 F s).1.1,(fileE 32 [] x2 [] 0 F s).1.2.2),(fileE 32 [] x2 [] 0 F s).2) by unfold madeE; rw [hw,word_at hx2]; rfl)
 have hlow:B≤w.heap.size∧g < w.heap.size∧mi < w.heap.size∧mw < w.heap.size∧ml < w.heap.size:=⟨h.bound,h.blk.lt,h.inp.lt,h.wri.lt,MapIs.lt h.lok⟩
 have hba:=fr_alloc (fr_refl w) (.cells #[.pointer (some ⟨g,0,none⟩),.slice none 0 0,.int .i64 0] 286)
 have hblt:b < w.heap.size:=Nat.lt_of_lt_of_le hb hlow.1
 have k2':=(World.cell?_of_block (a:=⟨b,o + 2,none⟩) (hba.block b hblt)).trans k2
 have hX:Xs (w.alloc (.cells #[.pointer (some ⟨g,0,none⟩),.slice none 0 0,.int .i64 0] 286)) (OffW g mi mw ml w) B g mi mw ml q a F M s w.heap.size (w.heap.size + 1) (.slice none 0 0) [] 0 :=
  ⟨h.off.call hba,by show (w.heap.push _)[w.heap.size]?=_; simp,OwnB.nil _ _ _,⟨Nat.lt_succ_self _,by rw [World.size_alloc]; exact Nat.le_refl _⟩,fun k hk=>hk.1,hlow.2⟩
 have HJ:=Lib.hid (act_file (show M≤100000 by omega) 32 [] rfl x2 (.slice none 0 0) [] 0 s none 0 0 _ ⟨by simp,by omega⟩ (by unfold maxLen; omega) (Nat.le_refl _) (Nat.zero_le _) Sl.nil hX)
 have HBa:=Lib.hid hba
 clear h hX hsl hw hx0 hx2
 go_enter Tryz.func223,Tryz.ntmps223
 go_wp2_with fail
 refine HJ.out.mono ?_
 rintro e w1 ⟨rfl,v1,hX1,hk1,_⟩
 have hsm:=file_small (F:=F) 32 [] x2 [] 0 s ⟨by simp,by omega⟩
 generalize fileE 32 [] x2 [] 0 F s=z at *
 obtain ⟨A3,c3,rfl,h31,h32,h33⟩:=hX1.own.sl
 have z1:=hX1.blk.cell (i:=1) rfl
 have HEnd:=Lib.hid (fun w' (hb:Below w1.heap.size w1 w')=>(MadePost.mk_ (w':=w') (r:=madeE a.vars c F s) HE.out (xx_none rfl hk1 HBa.out) (hX1.wk.up (show M + codeN z.1.2.2≤M + 100 by unfold codeN; split <;> omega)) h31 h32 (fun h0=>by have:=(hsm h0).1; omega) (h33.more fun k hk=>⟨hk.2,by omega,by omega,by omega,by omega⟩) hb))
 clear hk1 hX1 h33 HJ HE
 go_wp2
 go_ret2
 exact HEnd.out _ (by repeat (first | exact fr_refl _ | refine fr_call ?_ (by assumption) | refine fr_alloc ?_ _ | refine fr_set ?_ (by simp) _ | refine Below.drew ?_ | refine below_drewN ?_ _))
end Go.Proofs.Sm
