/- Words and walks that the claims share, part 20. -/
import Derived.Test.YtaabdbephemboaaGreatDoorBx6
import Derived.Test.YtaabdbephemboaaGreatDoorBx17
import Derived.Test.YtaabdbephemboaaGreatDoorBx19
import Derived.Deep.RegionLaw
namespace Go.Proofs.Sm
open Go.RowKit
theorem made_read {a:ActionV} {c:List ByteArray} {F:List FileV} {s:ExSt} {x:ByteArray} (hx:wordAt c (c.length - 1)=x) (h1:¬ (wordAt c 0).data.toList=[106,111,105,110]) (h2:¬ (wordAt c 0).data.toList=[101,120,112,97,110,100]) (h3:¬ (wordAt c 0).data.toList=[112,105,99,107]) (h4:¬ (wordAt c 0).data.toList=[108,105,115,116]) (h5:¬ (wordAt c 0).data.toList=[118,97,114]) :
 madeE a.vars c F s=(if (readE x F s).1.2=0 then ((ofBytes c (readE x F s).1.1,0),(readE x F s).2) else (([],(readE x F s).1.2),(readE x F s).2)):=by
 unfold madeE
 simp only [h1,h2,h3,h4,h5,if_false,hx]
 unfold Ex.bind
 dsimp only
 by_cases hz:(readE x F s).1.2=0
 ·rw [if_pos hz,if_pos hz]; rfl
 ·rw [if_neg hz,if_neg hz]; rfl
theorem nl_len {m:Nat}:∀ l:List (List UInt8),(∀ x∈l,x.length≤m)→(l.flatMap fun s=>s ++ [10]).length≤l.length * (m + 1)
 | [],_=>by simp
 | x :: l,h=>by
   have h1:=h x (by simp)
   have h2:=nl_len l fun y hy=>h y (by simp [hy])
   simp only [List.flatMap_cons,List.length_append,List.length_cons,List.length_nil,Nat.succ_mul]
   omega
theorem sort_len {b:List UInt8} (h:b.length≤100000):(sortLinesS b).length≤10000100000:=by
 unfold sortLinesS
 have h1:=compact_short (((linesS b).map cutNl).mergeSort fun x y=>decide (x≤y))
 rw [List.length_mergeSort,List.length_map] at h1
 have h2:=lines_count b
 have h3:=nl_len (m:=100000) (Lib.compact (((linesS b).map cutNl).mergeSort fun x y=>decide (x≤y))) fun x hx=>by
  have h4:=(List.mem_mergeSort).1 (compact_mem hx)
  obtain ⟨y,hy,rfl⟩:=List.mem_map.1 h4
  have:=line_short hy
  have:=cutNl_len y
  omega
 have h5:=Nat.mul_le_mul_right (100000 + 1) (show (Lib.compact (((linesS b).map cutNl).mergeSort fun x y=>decide (x≤y))).length≤100000 by omega)
 omega
def ofWord (c:List ByteArray) (w b:List UInt8):List UInt8 :=
 if w=[115,111,114,116] then sortLinesS b
 else if w=[99,111,117,110,116] then Lib.itoa (linesS b).length ++ [10]
 else if w=[102,105,114,115,116] then ((linesS b).take (numS (wordAt c 2))).flatten
 else if w=[99,104,97,110,103,101] then Lib.replaceAll b (wordAt c 2).data.toList (wordAt c 3).data.toList
 else if w=[100,105,103,101,115,116] then (digestS b).data.toList ++ [10]
 else b
set_option maxHeartbeats 2000000 in
set_option maxRecDepth 100000 in
theorem made_make (S:Nat→Prop) (B g mi mw ml:Nat) (q:ActP) (a:ActionV) (F:List FileV) (M:Nat) (s:ExSt) (A:Option Addr) (n cc:Nat) (c:List ByteArray) (w:World) (hM:M + 100≤100000) (h:Wk w S B g mi mw ml q a F M s) (hsl:Sl w (Lt B) A n c) (hnc:n≤cc) (hcm:cc≤maxLen) (hc:MadeCmd c) (hw:(wordAt c 0).data.toList=[109,97,107,101]):Calls Tryz.prog 223 #[.pointer (some ⟨g,0,none⟩),.slice A n cc] w (MadePost B g mi mw ml q a F (M + 100) (madeE a.vars c F s) w):=by
 obtain ⟨_,_,_⟩:=And.intro hM (And.intro hnc hcm)
 have hn:=hsl.1
 have hl1:=hc.long.1
 have hl2:=hc.long.2
 obtain ⟨b,o,x0,rfl,hb,hx0,hx0s,k0⟩:=hsl.str (k:=0) (by omega)
 rw [Nat.add_zero] at k0
 obtain rfl:=word_bytes ((congrArg (fun x:ByteArray=>x.data.toList) (word_at hx0).symm).trans hw)
 obtain ⟨_,_,xl,e3,_,hxl,hxls,kl⟩:=hsl.str (k:=n - 1) (by omega)
 cases e3
 have hlast:(n:Int) - 1=((n - 1:Nat):Int):=by omega
 have HM:=Lib.hid (made_read (a:=a) (F:=F) (s:=s) (hn.symm ▸ word_at hxl) (by rw [hw]; decide) (by rw [hw]; decide) (by rw [hw]; decide) (by rw [hw]; decide) (by rw [hw]; decide))
 have hsm:=read_short (p:=xl) h.ok h.small
 have HJ:=Lib.hid (act_read S B g mi mw ml q a F M s xl w hxls (by omega) h)
 have HO:=Lib.hid (show ∀ bs,ofBytes c bs=ofWord c (wordAt c 0).data.toList bs from fun bs=>rfl)
 rw [hw] at HO
 have HSl:=Lib.hid hsl
 have HKb:=Lib.hid (fun w' (hk:Kp (fun k=>k=ml) w w')=>h.keepB hk)
 clear h hsl hx0 hxl
 go_enter Tryz.func223,Tryz.ntmps223
 go_wp2_with fail
 refine HJ.out.mono ?_
 rintro e w1 ⟨hk,hW,A1,n1,c1,rfl,h11,h12,h13⟩
 clear HJ
 generalize readE xl F s=z at *
 obtain ⟨⟨bs,code⟩,s1⟩:=z
 dsimp only at *
 have hWM:=hW.up (show M + codeN code≤M + 100 by have:=codeN_le code; omega)
 clear hW
 rcases Decidable.em (¬ code=0) with hz | hz
 ·have HEnd:=Lib.hid (fun w' (hb:Below w1.heap.size w1 w')=>MadePost.mk_ (w':=w') (r:=madeE a.vars c F s) (HM.out.trans (if_neg hz)) hk hWM (Nat.le_refl _) (Nat.zero_le _) (fun _=>Nat.zero_le _) Sl.nil hb)
  have hzb:(code == 0)=false:=by simpa using hz
  clear hk hWM h13 HM
  go_wp2
  go_ret2
  exact HEnd.out _ (by repeat (first | exact fr_refl _ | refine fr_call ?_ (by assumption) | refine fr_alloc ?_ _ | refine fr_set ?_ (by simp) _ | refine Below.drew ?_ | refine below_drewN ?_ _))
 obtain rfl:code=0:=Decidable.not_not.1 hz
 have HR:=Lib.hid (show madeE a.vars c F s=((ofBytes c bs,0),s1) from HM.out.trans (if_pos rfl))
 rw [HO.out] at HR
 have hn1:n1≤100000:=by rw [←h13.1]; exact hsm
 have hlow1:g < w1.heap.size∧mi < w1.heap.size∧mw < w1.heap.size∧ml < w1.heap.size:=⟨hWM.blk.lt,hWM.inp.lt,hWM.wri.lt,MapIs.lt hWM.lok⟩
 have HNew:=Lib.hid (show ∀ (w2:World) (k:Nat),w1.heap.size≤k∧k < w2.heap.size→OffW g mi mw ml w2 k from fun w2 k hk=>⟨hk.2,by omega,by omega,by omega,by omega⟩)
 have HEnd:=Lib.hid (fun (w2:World) (A3:Option Addr) (n3 c3:Nat) (r3:List UInt8) (hr:madeE a.vars c F s=((r3,0),s1)) (hb2:Below w1.heap.size w1 w2) (h1:n3≤c3) (h2:c3≤maxLen) (hn:n3≤1000000000000000) (h3:Sl w2 (OffW g mi mw ml w2) A3 n3 r3) (w':World) (hb:Below w2.heap.size w2 w')=>MadePost.mk_ (w':=w') hr (hk.call hb2) (hWM.call hb2) h1 h2 (fun _=>hn) h3 hb)
 have k1:=(World.cell?_of_block (a:=⟨b,o,none⟩) (HKb.out _ hk _ hb)).trans k0
 have hs1:=h13.more fun k hk=>(hWM.sep k hk).1
 have HOf:=Lib.hid (h13.more hWM.sep)
 have HEn:=Lib.hid hWM.env
 clear HM HO hsm hWM h13
 have HE2:=Lib.hid (HEnd.out w1 A1 n1 c1 bs HR.out (Below.refl _ _) h11 h12 (by omega) HOf.out)
 clear hs1 HSl HKb hk
 go_wp2
 go_ret2
 exact HE2.out _ (by repeat (first | exact fr_refl _ | refine fr_call ?_ (by assumption) | refine fr_alloc ?_ _ | refine fr_set ?_ (by simp) _ | refine Below.drew ?_ | refine below_drewN ?_ _))
set_option maxHeartbeats 2000000 in
set_option maxRecDepth 100000 in
theorem made_sort (S:Nat→Prop) (B g mi mw ml:Nat) (q:ActP) (a:ActionV) (F:List FileV) (M:Nat) (s:ExSt) (A:Option Addr) (n cc:Nat) (c:List ByteArray) (w:World) (hM:M + 100≤100000) (h:Wk w S B g mi mw ml q a F M s) (hsl:Sl w (Lt B) A n c) (hnc:n≤cc) (hcm:cc≤maxLen) (hc:MadeCmd c) (hw:(wordAt c 0).data.toList=[115,111,114,116]):Calls Tryz.prog 223 #[.pointer (some ⟨g,0,none⟩),.slice A n cc] w (MadePost B g mi mw ml q a F (M + 100) (madeE a.vars c F s) w):=by
 obtain ⟨_,_,_⟩:=And.intro hM (And.intro hnc hcm)
 have hn:=hsl.1
 have hl1:=hc.long.1
 have hl2:=hc.long.2
 obtain ⟨b,o,x0,rfl,hb,hx0,hx0s,k0⟩:=hsl.str (k:=0) (by omega)
 rw [Nat.add_zero] at k0
 obtain rfl:=word_bytes ((congrArg (fun x:ByteArray=>x.data.toList) (word_at hx0).symm).trans hw)
 obtain ⟨_,_,xl,e3,_,hxl,hxls,kl⟩:=hsl.str (k:=n - 1) (by omega)
 cases e3
 have hlast:(n:Int) - 1=((n - 1:Nat):Int):=by omega
 have HM:=Lib.hid (made_read (a:=a) (F:=F) (s:=s) (hn.symm ▸ word_at hxl) (by rw [hw]; decide) (by rw [hw]; decide) (by rw [hw]; decide) (by rw [hw]; decide) (by rw [hw]; decide))
 have hsm:=read_short (p:=xl) h.ok h.small
 have HJ:=Lib.hid (act_read S B g mi mw ml q a F M s xl w hxls (by omega) h)
 have HO:=Lib.hid (show ∀ bs,ofBytes c bs=ofWord c (wordAt c 0).data.toList bs from fun bs=>rfl)
 rw [hw] at HO
 have HSl:=Lib.hid hsl
 have HKb:=Lib.hid (fun w' (hk:Kp (fun k=>k=ml) w w')=>h.keepB hk)
 clear h hsl hx0 hxl
 go_enter Tryz.func223,Tryz.ntmps223
 go_wp2_with fail
 refine HJ.out.mono ?_
 rintro e w1 ⟨hk,hW,A1,n1,c1,rfl,h11,h12,h13⟩
 clear HJ
 generalize readE xl F s=z at *
 obtain ⟨⟨bs,code⟩,s1⟩:=z
 dsimp only at *
 have hWM:=hW.up (show M + codeN code≤M + 100 by have:=codeN_le code; omega)
 clear hW
 rcases Decidable.em (¬ code=0) with hz | hz
 ·have HEnd:=Lib.hid (fun w' (hb:Below w1.heap.size w1 w')=>MadePost.mk_ (w':=w') (r:=madeE a.vars c F s) (HM.out.trans (if_neg hz)) hk hWM (Nat.le_refl _) (Nat.zero_le _) (fun _=>Nat.zero_le _) Sl.nil hb)
  have hzb:(code == 0)=false:=by simpa using hz
  clear hk hWM h13 HM
  go_wp2
  go_ret2
  exact HEnd.out _ (by repeat (first | exact fr_refl _ | refine fr_call ?_ (by assumption) | refine fr_alloc ?_ _ | refine fr_set ?_ (by simp) _ | refine Below.drew ?_ | refine below_drewN ?_ _))
 obtain rfl:code=0:=Decidable.not_not.1 hz
 have HR:=Lib.hid (show madeE a.vars c F s=((ofBytes c bs,0),s1) from HM.out.trans (if_pos rfl))
 rw [HO.out] at HR
 have hn1:n1≤100000:=by rw [←h13.1]; exact hsm
 have hlow1:g < w1.heap.size∧mi < w1.heap.size∧mw < w1.heap.size∧ml < w1.heap.size:=⟨hWM.blk.lt,hWM.inp.lt,hWM.wri.lt,MapIs.lt hWM.lok⟩
 have HNew:=Lib.hid (show ∀ (w2:World) (k:Nat),w1.heap.size≤k∧k < w2.heap.size→OffW g mi mw ml w2 k from fun w2 k hk=>⟨hk.2,by omega,by omega,by omega,by omega⟩)
 have HEnd:=Lib.hid (fun (w2:World) (A3:Option Addr) (n3 c3:Nat) (r3:List UInt8) (hr:madeE a.vars c F s=((r3,0),s1)) (hb2:Below w1.heap.size w1 w2) (h1:n3≤c3) (h2:c3≤maxLen) (hn:n3≤1000000000000000) (h3:Sl w2 (OffW g mi mw ml w2) A3 n3 r3) (w':World) (hb:Below w2.heap.size w2 w')=>MadePost.mk_ (w':=w') hr (hk.call hb2) (hWM.call hb2) h1 h2 (fun _=>hn) h3 hb)
 have k1:=(World.cell?_of_block (a:=⟨b,o,none⟩) (HKb.out _ hk _ hb)).trans k0
 have hs1:=h13.more fun k hk=>(hWM.sep k hk).1
 have HOf:=Lib.hid (h13.more hWM.sep)
 have HEn:=Lib.hid hWM.env
 clear HM HO hsm hWM h13
 have hsm2:bs.length≤100000:=by rw [hs1.1]; exact hn1
 have HJ:=Lib.hid (act_sortLines A1 n1 c1 bs w1 hs1 h11 h12 (by omega))
 clear hs1 HSl HKb hk
 go_wp2_with fail
 refine HJ.out.mono ?_
 rintro e w2 ⟨v2,rfl,hv2,hb2⟩
 obtain ⟨A3,c3,rfl,h31,h32,h33⟩:=hv2.sl
 have HE2:=Lib.hid (HEnd.out w2 A3 _ c3 (sortLinesS bs) HR.out hb2 h31 h32 (by have:=sort_len hsm2; omega) (h33.more (HNew.out w2)))
 clear h33 hv2
 go_wp2
 go_ret2
 exact HE2.out _ (by repeat (first | exact fr_refl _ | refine fr_call ?_ (by assumption) | refine fr_alloc ?_ _ | refine fr_set ?_ (by simp) _ | refine Below.drew ?_ | refine below_drewN ?_ _))
theorem nl_size:(⟨#[10]⟩:ByteArray).size=1:=rfl
set_option maxHeartbeats 2000000 in
set_option maxRecDepth 100000 in
theorem made_digest (S:Nat→Prop) (B g mi mw ml:Nat) (q:ActP) (a:ActionV) (F:List FileV) (M:Nat) (s:ExSt) (A:Option Addr) (n cc:Nat) (c:List ByteArray) (w:World) (hM:M + 100≤100000) (h:Wk w S B g mi mw ml q a F M s) (hsl:Sl w (Lt B) A n c) (hnc:n≤cc) (hcm:cc≤maxLen) (hc:MadeCmd c) (hw:(wordAt c 0).data.toList=[100,105,103,101,115,116]):Calls Tryz.prog 223 #[.pointer (some ⟨g,0,none⟩),.slice A n cc] w (MadePost B g mi mw ml q a F (M + 100) (madeE a.vars c F s) w):=by
 obtain ⟨_,_,_⟩:=And.intro hM (And.intro hnc hcm)
 have hn:=hsl.1
 have hl1:=hc.long.1
 have hl2:=hc.long.2
 obtain ⟨b,o,x0,rfl,hb,hx0,hx0s,k0⟩:=hsl.str (k:=0) (by omega)
 rw [Nat.add_zero] at k0
 obtain rfl:=word_bytes ((congrArg (fun x:ByteArray=>x.data.toList) (word_at hx0).symm).trans hw)
 obtain ⟨_,_,xl,e3,_,hxl,hxls,kl⟩:=hsl.str (k:=n - 1) (by omega)
 cases e3
 have hlast:(n:Int) - 1=((n - 1:Nat):Int):=by omega
 have HM:=Lib.hid (made_read (a:=a) (F:=F) (s:=s) (hn.symm ▸ word_at hxl) (by rw [hw]; decide) (by rw [hw]; decide) (by rw [hw]; decide) (by rw [hw]; decide) (by rw [hw]; decide))
 have hsm:=read_short (p:=xl) h.ok h.small
 have HJ:=Lib.hid (act_read S B g mi mw ml q a F M s xl w hxls (by omega) h)
 have HO:=Lib.hid (show ∀ bs,ofBytes c bs=ofWord c (wordAt c 0).data.toList bs from fun bs=>rfl)
 rw [hw] at HO
 have HSl:=Lib.hid hsl
 have HKb:=Lib.hid (fun w' (hk:Kp (fun k=>k=ml) w w')=>h.keepB hk)
 clear h hsl hx0 hxl
 go_enter Tryz.func223,Tryz.ntmps223
 go_wp2_with fail
 refine HJ.out.mono ?_
 rintro e w1 ⟨hk,hW,A1,n1,c1,rfl,h11,h12,h13⟩
 clear HJ
 generalize readE xl F s=z at *
 obtain ⟨⟨bs,code⟩,s1⟩:=z
 dsimp only at *
 have hWM:=hW.up (show M + codeN code≤M + 100 by have:=codeN_le code; omega)
 clear hW
 rcases Decidable.em (¬ code=0) with hz | hz
 ·have HEnd:=Lib.hid (fun w' (hb:Below w1.heap.size w1 w')=>MadePost.mk_ (w':=w') (r:=madeE a.vars c F s) (HM.out.trans (if_neg hz)) hk hWM (Nat.le_refl _) (Nat.zero_le _) (fun _=>Nat.zero_le _) Sl.nil hb)
  have hzb:(code == 0)=false:=by simpa using hz
  clear hk hWM h13 HM
  go_wp2
  go_ret2
  exact HEnd.out _ (by repeat (first | exact fr_refl _ | refine fr_call ?_ (by assumption) | refine fr_alloc ?_ _ | refine fr_set ?_ (by simp) _ | refine Below.drew ?_ | refine below_drewN ?_ _))
 obtain rfl:code=0:=Decidable.not_not.1 hz
 have HR:=Lib.hid (show madeE a.vars c F s=((ofBytes c bs,0),s1) from HM.out.trans (if_pos rfl))
 rw [HO.out] at HR
 have hn1:n1≤100000:=by rw [←h13.1]; exact hsm
 have hlow1:g < w1.heap.size∧mi < w1.heap.size∧mw < w1.heap.size∧ml < w1.heap.size:=⟨hWM.blk.lt,hWM.inp.lt,hWM.wri.lt,MapIs.lt hWM.lok⟩
 have HNew:=Lib.hid (show ∀ (w2:World) (k:Nat),w1.heap.size≤k∧k < w2.heap.size→OffW g mi mw ml w2 k from fun w2 k hk=>⟨hk.2,by omega,by omega,by omega,by omega⟩)
 have HEnd:=Lib.hid (fun (w2:World) (A3:Option Addr) (n3 c3:Nat) (r3:List UInt8) (hr:madeE a.vars c F s=((r3,0),s1)) (hb2:Below w1.heap.size w1 w2) (h1:n3≤c3) (h2:c3≤maxLen) (hn:n3≤1000000000000000) (h3:Sl w2 (OffW g mi mw ml w2) A3 n3 r3) (w':World) (hb:Below w2.heap.size w2 w')=>MadePost.mk_ (w':=w') hr (hk.call hb2) (hWM.call hb2) h1 h2 (fun _=>hn) h3 hb)
 have k1:=(World.cell?_of_block (a:=⟨b,o,none⟩) (HKb.out _ hk _ hb)).trans k0
 have hs1:=h13.more fun k hk=>(hWM.sep k hk).1
 have HOf:=Lib.hid (h13.more hWM.sep)
 have HEn:=Lib.hid hWM.env
 clear HM HO hsm hWM h13
 have HJ:=Lib.hid (blob_Digest A1 n1 c1 bs w1 hs1)
 have hds:(digestS bs).size=16:=by simp [digestS,ByteArray.size]
 clear hs1 HSl HKb hk
 go_wp2_with fail
 refine HJ.out.mono ?_
 rintro e w2 ⟨rfl,hb2⟩
 obtain ⟨t,hts,htl,hcat⟩:=cat_op (digestS bs) ⟨#[10]⟩ (by rw [nl_size]; omega)
 rw [nl_size] at hts
 obtain ⟨w3,c3,hcv,h31,h32,hb3,hs3⟩:=to_bytesN t (by unfold maxLen; omega) w2
 have hz2:=hb2.size
 have HE2:=Lib.hid (HEnd.out w3 _ _ c3 t.data.toList (by rw [htl.out]; exact HR.out) (fr_call hb2 hb3) h31 h32 (by omega) (hs3.more fun k hk=>HNew.out w3 k ⟨by omega,hk.2⟩))
 clear hs3 htl
 go_wp2
 go_ret2
 exact HE2.out _ (by repeat (first | exact fr_refl _ | refine fr_call ?_ (by assumption) | refine fr_alloc ?_ _ | refine fr_set ?_ (by simp) _ | refine Below.drew ?_ | refine below_drewN ?_ _))
set_option maxHeartbeats 2000000 in
set_option maxRecDepth 100000 in
theorem made_count (S:Nat→Prop) (B g mi mw ml:Nat) (q:ActP) (a:ActionV) (F:List FileV) (M:Nat) (s:ExSt) (A:Option Addr) (n cc:Nat) (c:List ByteArray) (w:World) (hM:M + 100≤100000) (h:Wk w S B g mi mw ml q a F M s) (hsl:Sl w (Lt B) A n c) (hnc:n≤cc) (hcm:cc≤maxLen) (hc:MadeCmd c) (hw:(wordAt c 0).data.toList=[99,111,117,110,116]):Calls Tryz.prog 223 #[.pointer (some ⟨g,0,none⟩),.slice A n cc] w (MadePost B g mi mw ml q a F (M + 100) (madeE a.vars c F s) w):=by
 obtain ⟨_,_,_⟩:=And.intro hM (And.intro hnc hcm)
 have hn:=hsl.1
 have hl1:=hc.long.1
 have hl2:=hc.long.2
 obtain ⟨b,o,x0,rfl,hb,hx0,hx0s,k0⟩:=hsl.str (k:=0) (by omega)
 rw [Nat.add_zero] at k0
 obtain rfl:=word_bytes ((congrArg (fun x:ByteArray=>x.data.toList) (word_at hx0).symm).trans hw)
 obtain ⟨_,_,xl,e3,_,hxl,hxls,kl⟩:=hsl.str (k:=n - 1) (by omega)
 cases e3
 have hlast:(n:Int) - 1=((n - 1:Nat):Int):=by omega
 have HM:=Lib.hid (made_read (a:=a) (F:=F) (s:=s) (hn.symm ▸ word_at hxl) (by rw [hw]; decide) (by rw [hw]; decide) (by rw [hw]; decide) (by rw [hw]; decide) (by rw [hw]; decide))
 have hsm:=read_short (p:=xl) h.ok h.small
 have HJ:=Lib.hid (act_read S B g mi mw ml q a F M s xl w hxls (by omega) h)
 have HO:=Lib.hid (show ∀ bs,ofBytes c bs=ofWord c (wordAt c 0).data.toList bs from fun bs=>rfl)
 rw [hw] at HO
 have HSl:=Lib.hid hsl
 have HKb:=Lib.hid (fun w' (hk:Kp (fun k=>k=ml) w w')=>h.keepB hk)
 clear h hsl hx0 hxl
 go_enter Tryz.func223,Tryz.ntmps223
 go_wp2_with fail
 refine HJ.out.mono ?_
 rintro e w1 ⟨hk,hW,A1,n1,c1,rfl,h11,h12,h13⟩
 clear HJ
 generalize readE xl F s=z at *
 obtain ⟨⟨bs,code⟩,s1⟩:=z
 dsimp only at *
 have hWM:=hW.up (show M + codeN code≤M + 100 by have:=codeN_le code; omega)
 clear hW
 rcases Decidable.em (¬ code=0) with hz | hz
 ·have HEnd:=Lib.hid (fun w' (hb:Below w1.heap.size w1 w')=>MadePost.mk_ (w':=w') (r:=madeE a.vars c F s) (HM.out.trans (if_neg hz)) hk hWM (Nat.le_refl _) (Nat.zero_le _) (fun _=>Nat.zero_le _) Sl.nil hb)
  have hzb:(code == 0)=false:=by simpa using hz
  clear hk hWM h13 HM
  go_wp2
  go_ret2
  exact HEnd.out _ (by repeat (first | exact fr_refl _ | refine fr_call ?_ (by assumption) | refine fr_alloc ?_ _ | refine fr_set ?_ (by simp) _ | refine Below.drew ?_ | refine below_drewN ?_ _))
 obtain rfl:code=0:=Decidable.not_not.1 hz
 have HR:=Lib.hid (show madeE a.vars c F s=((ofBytes c bs,0),s1) from HM.out.trans (if_pos rfl))
 rw [HO.out] at HR
 have hn1:n1≤100000:=by rw [←h13.1]; exact hsm
 have hlow1:g < w1.heap.size∧mi < w1.heap.size∧mw < w1.heap.size∧ml < w1.heap.size:=⟨hWM.blk.lt,hWM.inp.lt,hWM.wri.lt,MapIs.lt hWM.lok⟩
 have HNew:=Lib.hid (show ∀ (w2:World) (k:Nat),w1.heap.size≤k∧k < w2.heap.size→OffW g mi mw ml w2 k from fun w2 k hk=>⟨hk.2,by omega,by omega,by omega,by omega⟩)
 have HEnd:=Lib.hid (fun (w2:World) (A3:Option Addr) (n3 c3:Nat) (r3:List UInt8) (hr:madeE a.vars c F s=((r3,0),s1)) (hb2:Below w1.heap.size w1 w2) (h1:n3≤c3) (h2:c3≤maxLen) (hn:n3≤1000000000000000) (h3:Sl w2 (OffW g mi mw ml w2) A3 n3 r3) (w':World) (hb:Below w2.heap.size w2 w')=>MadePost.mk_ (w':=w') hr (hk.call hb2) (hWM.call hb2) h1 h2 (fun _=>hn) h3 hb)
 have k1:=(World.cell?_of_block (a:=⟨b,o,none⟩) (HKb.out _ hk _ hb)).trans k0
 have hs1:=h13.more fun k hk=>(hWM.sep k hk).1
 have HOf:=Lib.hid (h13.more hWM.sep)
 have HEn:=Lib.hid hWM.env
 clear HM HO hsm hWM h13
 have HJ:=Lib.hid (act_lines A1 n1 c1 bs w1 hs1 h11 h12 (by omega))
 have hlc:(linesS bs).length≤n1:=by have:=lines_count bs; have:=hs1.1; omega
 clear hs1 HSl HKb hk
 go_wp2_with fail
 refine HJ.out.mono ?_
 rintro e w2 ⟨v2,rfl,hrow,hb2⟩
 obtain ⟨A5,c5,rfl,h51,h52,h53⟩:=hrow.slFrom
 have HE5:=Lib.hid ((HEn.out.then_ hb2))
 rw [List.length_map] at h51 h53 ⊢
 clear hrow h53
 obtain ⟨t0,ht0,htl0,HIt⟩:=itoa_op ((linesS bs).length:Nat) (by constructor <;> omega)
 go_wp2_with fail
 refine (HIt.out w2 HE5.out).mono ?_
 rintro e w4 ⟨rfl,hb4⟩
 obtain ⟨t,hts,htl,hcat⟩:=cat_op t0 ⟨#[10]⟩ (by rw [nl_size]; omega)
 rw [nl_size] at hts
 obtain ⟨w3,c3,hcv,h31,h32,hb3,hs3⟩:=to_bytesN t (by unfold maxLen; omega) w4
 have hz2:=hb2.size
 have hz4:=hb4.size
 have HE2:=Lib.hid (HEnd.out w3 _ _ c3 t.data.toList (by rw [htl.out,htl0.out]; exact HR.out) (fr_call (fr_call hb2 hb4) hb3) h31 h32 (by omega) (hs3.more fun k hk=>HNew.out w3 k ⟨by omega,hk.2⟩))
 clear hs3 htl htl0
 go_wp2
 go_ret2
 exact HE2.out _ (by repeat (first | exact fr_refl _ | refine fr_call ?_ (by assumption) | refine fr_alloc ?_ _ | refine fr_set ?_ (by simp) _ | refine Below.drew ?_ | refine below_drewN ?_ _))
theorem upto_str (A:Option Addr) (n c k:Nat) (hA:A=none∨∃ b o,A=some ⟨b,o,none⟩) (hk:k≤n) (hnc:n≤c) (hcm:c≤maxLen):∀ W,(Instr.slice 24 (.slice A n c) none (some (.int .i64 (k:Int))) none).run Tryz.prog W=.ok (.slice A k c) W:=by
 intro W
 have hkc:(k:Int)≤(c:Int):=by omega
 have hm:c≤9223372036854775807:=hcm
 rcases hA with rfl | ⟨b,o,rfl⟩
 ·simp [go_sem,Tryz.underlying24,hkc]
 ·simp [go_sem,Tryz.underlying24,hkc]
theorem join_flat (l:List (List UInt8)):Lib.join l []=l.flatten:=by
 unfold Lib.join
 induction l with
 | nil=>rfl
 | cons x l ih =>
   cases l with
   | nil=>simp [List.intercalate]
   | cons y l=>simpa [List.intercalate,List.intersperse] using ih
theorem strs_data (l:List (List UInt8)):(l.map strOf).map (fun x:ByteArray=>x.data.toList)=l:=by
 rw [List.map_map]
 exact List.map_id _
theorem join_lines (A:Option Addr) (n c:Nat) (ls:List (List UInt8)) (w:World) (hsl:Sl w (Lt w.heap.size) A n (ls.map strOf)) (hnc:n≤c) (hn:n≤140737488355328) (hlen:ls.flatten.length≤140737488355328) :
 Calls Tryz.prog 109 #[.slice A n c,.string ⟨#[]⟩] w fun e w'=>e=.returned (.string (strOf ls.flatten))∧Below w.heap.size w w':=by
 have h1:=hsl.1
 rw [List.length_map] at h1
 by_cases h0:n=0
 ·subst h0
  obtain rfl:=List.eq_nil_of_length_eq_zero h1
  exact (Tryz.strings_Join_none A c ⟨#[]⟩ w).mono fun _ _ h=>⟨h.1,below_eq h.2.symm⟩
 ·obtain ⟨b,o,x,rfl,hb,_⟩:=hsl.str (k:=0) (by omega)
  have hj:=join_flat ls
  have h1':(ls.map strOf).length=n:=by rw [List.length_map]; exact h1
  subst h1'
  have:=Tryz.strings_Join b o c (ls.map strOf) ⟨#[]⟩ w (fun j x hx=>by
   have hj:j < (ls.map strOf).length:=by
    rcases Nat.lt_or_ge j (ls.map strOf).length with h | h
    ·exact h
    ·rw [List.getElem?_eq_none h] at hx; cases hx
   obtain ⟨b',o',y,e,_,hy,_,c0⟩:=hsl.str hj
   cases e
   rw [hx] at hy; cases hy
   exact c0) hb hn hnc (by rw [strs_data,hj]; exact hlen)
  rw [strs_data,hj] at this
  exact this.mono fun _ _ h=>h
theorem lines_flat_len (b:List UInt8) (k:Nat):((linesS b).take k).flatten.length≤b.length:=by
 have h:=congrArg (fun l=>(List.flatten l).length) (List.take_append_drop k (linesS b))
 simp only [List.flatten_append,List.length_append,lines_flat] at h
 omega
set_option maxHeartbeats 2000000 in
set_option maxRecDepth 100000 in
theorem made_first (S:Nat→Prop) (B g mi mw ml:Nat) (q:ActP) (a:ActionV) (F:List FileV) (M:Nat) (s:ExSt) (A:Option Addr) (n cc:Nat) (c:List ByteArray) (w:World) (hM:M + 100≤100000) (h:Wk w S B g mi mw ml q a F M s) (hsl:Sl w (Lt B) A n c) (hnc:n≤cc) (hcm:cc≤maxLen) (hc:MadeCmd c) (hw:(wordAt c 0).data.toList=[102,105,114,115,116]):Calls Tryz.prog 223 #[.pointer (some ⟨g,0,none⟩),.slice A n cc] w (MadePost B g mi mw ml q a F (M + 100) (madeE a.vars c F s) w):=by
 have hnum:=hc.first hw
 obtain ⟨_,_,_⟩:=And.intro hM (And.intro hnc hcm)
 have hn:=hsl.1
 have hl1:=hc.long.1
 have hl2:=hc.long.2
 obtain ⟨b,o,x0,rfl,hb,hx0,hx0s,k0⟩:=hsl.str (k:=0) (by omega)
 rw [Nat.add_zero] at k0
 obtain rfl:=word_bytes ((congrArg (fun x:ByteArray=>x.data.toList) (word_at hx0).symm).trans hw)
 obtain ⟨_,_,xl,e3,_,hxl,hxls,kl⟩:=hsl.str (k:=n - 1) (by omega)
 cases e3
 have hlast:(n:Int) - 1=((n - 1:Nat):Int):=by omega
 have HM:=Lib.hid (made_read (a:=a) (F:=F) (s:=s) (hn.symm ▸ word_at hxl) (by rw [hw]; decide) (by rw [hw]; decide) (by rw [hw]; decide) (by rw [hw]; decide) (by rw [hw]; decide))
 have hsm:=read_short (p:=xl) h.ok h.small
 have HJ:=Lib.hid (act_read S B g mi mw ml q a F M s xl w hxls (by omega) h)
 have HO:=Lib.hid (show ∀ bs,ofBytes c bs=ofWord c (wordAt c 0).data.toList bs from fun bs=>rfl)
 rw [hw] at HO
 have HSl:=Lib.hid hsl
 have HKb:=Lib.hid (fun w' (hk:Kp (fun k=>k=ml) w w')=>h.keepB hk)
 clear h hsl hx0 hxl
 go_enter Tryz.func223,Tryz.ntmps223
 go_wp2_with fail
 refine HJ.out.mono ?_
 rintro e w1 ⟨hk,hW,A1,n1,c1,rfl,h11,h12,h13⟩
 clear HJ
 generalize readE xl F s=z at *
 obtain ⟨⟨bs,code⟩,s1⟩:=z
 dsimp only at *
 have hWM:=hW.up (show M + codeN code≤M + 100 by have:=codeN_le code; omega)
 clear hW
 rcases Decidable.em (¬ code=0) with hz | hz
 ·have HEnd:=Lib.hid (fun w' (hb:Below w1.heap.size w1 w')=>MadePost.mk_ (w':=w') (r:=madeE a.vars c F s) (HM.out.trans (if_neg hz)) hk hWM (Nat.le_refl _) (Nat.zero_le _) (fun _=>Nat.zero_le _) Sl.nil hb)
  have hzb:(code == 0)=false:=by simpa using hz
  clear hk hWM h13 HM
  go_wp2
  go_ret2
  exact HEnd.out _ (by repeat (first | exact fr_refl _ | refine fr_call ?_ (by assumption) | refine fr_alloc ?_ _ | refine fr_set ?_ (by simp) _ | refine Below.drew ?_ | refine below_drewN ?_ _))
 obtain rfl:code=0:=Decidable.not_not.1 hz
 have HR:=Lib.hid (show madeE a.vars c F s=((ofBytes c bs,0),s1) from HM.out.trans (if_pos rfl))
 rw [HO.out] at HR
 have hn1:n1≤100000:=by rw [←h13.1]; exact hsm
 have hlow1:g < w1.heap.size∧mi < w1.heap.size∧mw < w1.heap.size∧ml < w1.heap.size:=⟨hWM.blk.lt,hWM.inp.lt,hWM.wri.lt,MapIs.lt hWM.lok⟩
 have HNew:=Lib.hid (show ∀ (w2:World) (k:Nat),w1.heap.size≤k∧k < w2.heap.size→OffW g mi mw ml w2 k from fun w2 k hk=>⟨hk.2,by omega,by omega,by omega,by omega⟩)
 have HEnd:=Lib.hid (fun (w2:World) (A3:Option Addr) (n3 c3:Nat) (r3:List UInt8) (hr:madeE a.vars c F s=((r3,0),s1)) (hb2:Below w1.heap.size w1 w2) (h1:n3≤c3) (h2:c3≤maxLen) (hn:n3≤1000000000000000) (h3:Sl w2 (OffW g mi mw ml w2) A3 n3 r3) (w':World) (hb:Below w2.heap.size w2 w')=>MadePost.mk_ (w':=w') hr (hk.call hb2) (hWM.call hb2) h1 h2 (fun _=>hn) h3 hb)
 have k1:=(World.cell?_of_block (a:=⟨b,o,none⟩) (HKb.out _ hk _ hb)).trans k0
 have hs1:=h13.more fun k hk=>(hWM.sep k hk).1
 have HOf:=Lib.hid (h13.more hWM.sep)
 have HEn:=Lib.hid hWM.env
 clear HM HO hsm hWM h13
 obtain ⟨_,_,x2,e4,_,hx2,hx2s,k2⟩:=(HSl.out.keep (HKb.out _ hk)).str (k:=2) (by omega)
 cases e4
 rw [word_at hx2] at hnum
 have HR2:=Lib.hid (show madeE a.vars c F s=((((linesS bs).take (numS x2)).flatten,0),s1) from by
  have h:madeE a.vars c F s=((((linesS bs).take (numS (wordAt c 2))).flatten,0),s1):=HR.out
  rw [word_at hx2] at h
  exact h)
 have hn6:=num_small hnum
 have HA:=Lib.hid (atoi_any x2 6 w1 hnum (by decide))
 have HLn:=Lib.hid (fun w2 (hb2:Below w1.heap.size w1 w2)=>act_lines A1 n1 c1 bs w2 ((hs1.keep (keep_lt hb2)).more fun k hk=>Nat.lt_of_lt_of_le hk hb2.size) h11 h12 (by omega))
 have hlc:(linesS bs).length≤n1:=by have:=lines_count bs; have:=hs1.1; omega
 have hfl:=lines_flat_len bs (numS x2)
 rw [hs1.1] at hfl
 generalize numS x2=m at *
 clear hs1 HSl HKb hk hx2 hnum
 go_wp2_with fail
 refine HA.out.mono ?_
 rintro e w2 ⟨rfl,hb2⟩
 go_wp2_with fail
 refine (HLn.out w2 hb2).mono ?_
 rintro e w3 ⟨v3,rfl,hrow,hb3⟩
 obtain ⟨A5,c5,rfl,h51,h52,h53⟩:=hrow.slFrom
 rw [List.length_map] at h51 h53 ⊢
 obtain ⟨k,hkL,hkm,htk⟩:∃ k,k≤(linesS bs).length∧min (m:Int) ((linesS bs).length:Int)=(k:Int)∧(linesS bs).take m=(linesS bs).take k:=by
  rcases Nat.le_total m (linesS bs).length with h | h
  ·exact ⟨m,h,by omega,rfl⟩
  ·exact ⟨_,Nat.le_refl _,by omega,by rw [List.take_of_length_le h,List.take_of_length_le (Nat.le_refl _)]⟩
 have hs5:=h53.take hkL
 rw [←List.map_take,←htk] at hs5
 have hcut:=upto_str A5 (linesS bs).length c5 k (by
  obtain ⟨_,rows,_,hown,_⟩:=id hrow
  rcases hown.2 with ⟨h,_⟩ | ⟨g',_,_,h,_⟩
  ·exact .inl (Value.slice.inj h).1
  ·exact .inr ⟨g',0,(Value.slice.inj h).1⟩) hkL h51 h52
 have HJn:=Lib.hid (join_lines A5 k c5 _ w3 (hs5.more fun k hk=>hk.2) (by omega) (by omega) (by omega))
 generalize hL:(linesS bs).length=L at *
 clear hrow h53 hs5
 go_wp2_with fail
 refine HJn.out.mono ?_
 rintro e w4 ⟨rfl,hb4⟩
 obtain ⟨t,ht⟩:∃ t,strOf ((linesS bs).take m).flatten=t:=⟨_,rfl⟩
 have htl:t.data.toList=((linesS bs).take m).flatten:=by rw [←ht]; rfl
 have hts:t.size≤n1:=by rw [←ht,strOf_size]; exact hfl
 rw [ht]
 obtain ⟨w5,c6,hcv,h61,h62,hb5,hs6⟩:=to_bytesN t (by unfold maxLen; omega) w4
 have z2:=hb2.size
 have z3:=hb3.size
 have z4:=hb4.size
 have HE2:=Lib.hid (HEnd.out w5 _ _ c6 t.data.toList (by rw [htl]; exact HR2.out) (fr_call (fr_call (fr_call hb2 hb3) hb4) hb5) h61 h62 (by omega) (hs6.more fun k hk=>HNew.out w5 k ⟨by omega,hk.2⟩))
 clear hs6 ht htl
 go_wp2
 go_ret2
 exact HE2.out _ (by repeat (first | exact fr_refl _ | refine fr_call ?_ (by assumption) | refine fr_alloc ?_ _ | refine fr_set ?_ (by simp) _ | refine Below.drew ?_ | refine below_drewN ?_ _))
end Go.Proofs.Sm
namespace Go.Proofs.Sm
open Go.RowKit
theorem two_bytes (x y:ByteArray) (hx:x.size≤300) (hy:y.size≤300) (W:World):∃ w2 c2 w3 c3,(convert 9 75 (.string x)).run Tryz.prog W=.ok (.slice (some ⟨W.heap.size,0,none⟩) x.size c2) w2∧(convert 9 75 (.string y)).run Tryz.prog w2=.ok (.slice (some ⟨w2.heap.size,0,none⟩) y.size c3) w3 ∧
 Below W.heap.size W w2∧Below W.heap.size W w3∧Sl w3 (Lt w3.heap.size) (some ⟨W.heap.size,0,none⟩) x.size x.data.toList∧Sl w3 (Lt w3.heap.size) (some ⟨w2.heap.size,0,none⟩) y.size y.data.toList:=by
 obtain ⟨w2,c2,h1,_,_,hb2,hs2⟩:=to_bytesN x (by unfold maxLen; omega) W
 obtain ⟨w3,c3,h2,_,_,hb3,hs3⟩:=to_bytesN y (by unfold maxLen; omega) w2
 exact ⟨w2,c2,w3,c3,h1,h2,hb2,fr_call hb2 hb3,(hs2.keep fun k hk=>hb3.block k hk.2).more fun k hk=>Nat.lt_of_lt_of_le hk.2 hb3.size,hs3.more fun k hk=>hk.2⟩
def ChPost (r:List UInt8) (w1:World) (e:Ending) (w':World):Prop:=∃ A n c,e=.returned (.slice A n c)∧n≤c∧c≤maxLen∧Sl w' (fun k=>w1.heap.size≤k∧k < w'.heap.size) A n r∧Below w1.heap.size w1 w'
theorem RepPost.ch {r:List UInt8} {w1 w e w'} (hb:Below w1.heap.size w1 w) (h:RepPost r w e w'):ChPost r w1 e w':=by
 obtain ⟨A,n,c,he,h1,h2,h3,h4⟩:=h
 have hz:=hb.size
 exact ⟨A,n,c,he,h1,h2,h3.more fun k hk=>⟨Nat.le_trans hz hk.1,hk.2⟩,fr_call hb h4⟩
structure TwoAt (w1:World) (x y:ByteArray) (w:World) (A2 A3:Option Addr):Prop where
 bel:Below w1.heap.size w1 w
 one:Sl w (Lt w.heap.size) A2 x.size x.data.toList
 two:Sl w (Lt w.heap.size) A3 y.size y.data.toList
theorem replaceAll_len {s old new:List UInt8} (hs:s.length≤100000) (ho:1≤old.length) (hn:new.length≤300):(Lib.replaceAll s old new).length≤30100000:=by
 have hne:old≠[]:=fun e=>by rw [e] at ho; simp at ho
 rw [replaceAll_is]
 have h:=replace_len (new:=new) hne (Lib.count s old) s (Nat.le_refl _)
 have h2:=replace_len (new:=[]) hne (Lib.count s old) s (Nat.le_refl _)
 simp only [List.length_nil,Nat.mul_zero,Nat.add_zero] at h2
 have h3:Lib.count s old≤Lib.count s old * old.length:=Nat.le_mul_of_pos_right _ ho
 have h4:Lib.count s old * new.length≤100000 * 300:=Nat.mul_le_mul (by omega) hn
 omega
set_option maxHeartbeats 4000000 in
set_option maxRecDepth 100000 in
theorem made_change (S:Nat→Prop) (B g mi mw ml:Nat) (q:ActP) (a:ActionV) (F:List FileV) (M:Nat) (s:ExSt) (A:Option Addr) (n cc:Nat) (c:List ByteArray) (w:World) (hM:M + 100≤100000) (h:Wk w S B g mi mw ml q a F M s) (hsl:Sl w (Lt B) A n c) (hnc:n≤cc) (hcm:cc≤maxLen) (hc:MadeCmd c) (hw:(wordAt c 0).data.toList=[99,104,97,110,103,101]):Calls Tryz.prog 223 #[.pointer (some ⟨g,0,none⟩),.slice A n cc] w (MadePost B g mi mw ml q a F (M + 100) (madeE a.vars c F s) w):=by
 have h5:=hc.change hw
 obtain ⟨_,_,_⟩:=And.intro hM (And.intro hnc hcm)
 have hn:=hsl.1
 have hl1:=hc.long.1
 have hl2:=hc.long.2
 obtain ⟨b,o,x0,rfl,hb,hx0,hx0s,k0⟩:=hsl.str (k:=0) (by omega)
 rw [Nat.add_zero] at k0
 obtain rfl:=word_bytes ((congrArg (fun x:ByteArray=>x.data.toList) (word_at hx0).symm).trans hw)
 obtain ⟨_,_,xl,e3,_,hxl,hxls,kl⟩:=hsl.str (k:=n - 1) (by omega)
 cases e3
 have hlast:(n:Int) - 1=((n - 1:Nat):Int):=by omega
 have HM:=Lib.hid (made_read (a:=a) (F:=F) (s:=s) (hn.symm ▸ word_at hxl) (by rw [hw]; decide) (by rw [hw]; decide) (by rw [hw]; decide) (by rw [hw]; decide) (by rw [hw]; decide))
 have hsm:=read_short (p:=xl) h.ok h.small
 have HJ:=Lib.hid (act_read S B g mi mw ml q a F M s xl w hxls (by omega) h)
 have HO:=Lib.hid (show ∀ bs,ofBytes c bs=ofWord c (wordAt c 0).data.toList bs from fun bs=>rfl)
 rw [hw] at HO
 have HSl:=Lib.hid hsl
 have HKb:=Lib.hid (fun w' (hk:Kp (fun k=>k=ml) w w')=>h.keepB hk)
 have hBw:=h.bound
 clear h hsl hx0 hxl
 go_enter Tryz.func223,Tryz.ntmps223
 go_wp2_with fail
 refine HJ.out.mono ?_
 rintro e w1 ⟨hk,hW,A1,n1,c1,rfl,h11,h12,h13⟩
 clear HJ
 generalize readE xl F s=z at *
 obtain ⟨⟨bs,code⟩,s1⟩:=z
 dsimp only at *
 have hWM:=hW.up (show M + codeN code≤M + 100 by have:=codeN_le code; omega)
 clear hW
 rcases Decidable.em (¬ code=0) with hz | hz
 ·have HEnd:=Lib.hid (fun w' (hb:Below w1.heap.size w1 w')=>MadePost.mk_ (w':=w') (r:=madeE a.vars c F s) (HM.out.trans (if_neg hz)) hk hWM (Nat.le_refl _) (Nat.zero_le _) (fun _=>Nat.zero_le _) Sl.nil hb)
  have hzb:(code == 0)=false:=by simpa using hz
  clear hk hWM h13 HM
  go_wp2
  go_ret2
  exact HEnd.out _ (by repeat (first | exact fr_refl _ | refine fr_call ?_ (by assumption) | refine fr_alloc ?_ _ | refine fr_set ?_ (by simp) _ | refine Below.drew ?_ | refine below_drewN ?_ _))
 obtain rfl:code=0:=Decidable.not_not.1 hz
 have HR:=Lib.hid (show madeE a.vars c F s=((ofBytes c bs,0),s1) from HM.out.trans (if_pos rfl))
 rw [HO.out] at HR
 have hn1:n1≤100000:=by rw [←h13.1]; exact hsm
 have hlow1:g < w1.heap.size∧mi < w1.heap.size∧mw < w1.heap.size∧ml < w1.heap.size:=⟨hWM.blk.lt,hWM.inp.lt,hWM.wri.lt,MapIs.lt hWM.lok⟩
 have HNew:=Lib.hid (show ∀ (w2:World) (k:Nat),w1.heap.size≤k∧k < w2.heap.size→OffW g mi mw ml w2 k from fun w2 k hk=>⟨hk.2,by omega,by omega,by omega,by omega⟩)
 have HEnd:=Lib.hid (fun (w2:World) (A3:Option Addr) (n3 c3:Nat) (r3:List UInt8) (hr:madeE a.vars c F s=((r3,0),s1)) (hb2:Below w1.heap.size w1 w2) (h1:n3≤c3) (h2:c3≤maxLen) (hn:n3≤1000000000000000) (h3:Sl w2 (OffW g mi mw ml w2) A3 n3 r3) (w':World) (hb:Below w2.heap.size w2 w')=>MadePost.mk_ (w':=w') hr (hk.call hb2) (hWM.call hb2) h1 h2 (fun _=>hn) h3 hb)
 have k1:=(World.cell?_of_block (a:=⟨b,o,none⟩) (HKb.out _ hk _ hb)).trans k0
 have hs1:=h13.more fun k hk=>(hWM.sep k hk).1
 have HOf:=Lib.hid (h13.more hWM.sep)
 have HEn:=Lib.hid hWM.env
 clear HM HO hsm hWM h13
 obtain ⟨_,_,x2,e4,_,hx2,hx2s,k2⟩:=(HSl.out.keep (HKb.out _ hk)).str (k:=2) (by omega)
 cases e4
 obtain ⟨_,_,x3,e4,_,hx3,hx3s,k3⟩:=(HSl.out.keep (HKb.out _ hk)).str (k:=3) (by omega)
 cases e4
 have q2:=word_size (hc.words x2 (List.mem_of_getElem? hx2))
 have q3:=word_size (hc.words x3 (List.mem_of_getElem? hx3))
 have HR2:=Lib.hid (show madeE a.vars c F s=((Lib.replaceAll bs x2.data.toList x3.data.toList,0),s1) from by
  have h:madeE a.vars c F s=((Lib.replaceAll bs (wordAt c 2).data.toList (wordAt c 3).data.toList,0),s1):=HR.out
  rw [word_at hx2,word_at hx3] at h
  exact h)
 have hbd:=(fr_refl w1).drew
 have hbl:b < w1.heap.size:=Nat.lt_of_lt_of_le (Nat.lt_of_lt_of_le hb hBw) hk.size
 have hI2:(2:Int) < (n:Int):=by omega
 have hI3:(3:Int) < (n:Int):=by omega
 obtain ⟨w2a,c2a,w3b,c3b,hcv1,hcv2,ha1,ha2,ha3,ha4⟩:=two_bytes x2 x3 q2.2 q3.2 w1.drew
 obtain ⟨w3a,c3a,w2b,c2b,hcv3,hcv4,hd1,hd2,hd3,hd4⟩:=two_bytes x3 x2 q3.2 q2.2 w1.drew
 have k3a:=(World.cell?_of_block (a:=⟨b,o + 3,none⟩) (ha1.block b hbl)).trans k3
 have k2a:=(World.cell?_of_block (a:=⟨b,o + 2,none⟩) (hd1.block b hbl)).trans k2
 have hrl:=replaceAll_len (s:=bs) (old:=x2.data.toList) (new:=x3.data.toList) (by rw [hs1.1]; exact hn1) (by have:=q2.1; rwa [Lib.size_eq] at this) (by have:=q3.2; rwa [Lib.size_eq] at this)
 have HR1:=Lib.hid (show TwoAt w1 x2 x3 w3b (some ⟨w1.heap.size,0,none⟩) (some ⟨w2a.heap.size,0,none⟩) from ⟨fr_call hbd ha2,ha3,ha4⟩)
 have HR3:=Lib.hid (show TwoAt w1 x2 x3 w2b (some ⟨w3a.heap.size,0,none⟩) (some ⟨w1.heap.size,0,none⟩) from ⟨fr_call hbd hd2,hd4,hd3⟩)
 have HPg:=Lib.hid (fun (A2 A3:Option Addr) (c2 c3:Nat) (W:World) (h2:TwoAt w1 x2 x3 W A2 A3)=>(bytes_ReplaceAll A1 A2 A3 n1 c1 x2.size c2 x3.size c3 bs _ _ W ((HEn.out.then_ h2.bel).toEnv) ((hs1.keep (keep_lt h2.bel)).more fun k hk=>Nat.lt_of_lt_of_le hk h2.bel.size) h2.one h2.two q2.1 h11 h12 hn1 q2.2 q3.2).mono fun e w' h=>h.ch h2.bel)
 clear hs1 HSl HKb hk hx2 hx3 ha3 ha4 hd3 hd4 ha1 ha2 hd1 hd2 hbd
 go_wp2
 go_region_law (first
  | (go_simp; go_at_call 254; refine (HPg.out _ _ _ _ _ (by first | exact HR1.out | exact HR3.out)).mono ?_; rintro e w5 ⟨A5,n5,c5,rfl,h51,h52,h53,hb5⟩))
 all_goals
  have hl5:=h53.1
  have HE2:=Lib.hid (HEnd.out w5 A5 n5 c5 _ HR2.out hb5 h51 h52 (by omega) (h53.more (HNew.out w5)))
  clear h53 hl5
  go_wp2
  go_ret2
  exact HE2.out _ (by repeat (first | exact fr_refl _ | refine fr_call ?_ (by assumption) | refine fr_alloc ?_ _ | refine fr_set ?_ (by simp) _ | refine Below.drew ?_ | refine below_drewN ?_ _))
end Go.Proofs.Sm
namespace Go.Proofs.Sm
open Go.RowKit
theorem act_made (S:Nat→Prop) (B g mi mw ml:Nat) (q:ActP) (a:ActionV) (F:List FileV) (M:Nat) (s:ExSt) (A:Option Addr) (n cc:Nat) (c:List ByteArray) (w:World) (hM:M + 100≤100000) (h:Wk w S B g mi mw ml q a F M s) (hsl:Sl w (Lt B) A n c) (hnc:n≤cc) (hcm:cc≤maxLen) (hc:MadeCmd c)
 (hv:∀ v∈a.vars,v.value.size≤1000) (hF:∀ x∈F,x.path.size≤1000) (hout:a.outputs.length≤1000) :
 Calls Tryz.prog 223 #[.pointer (some ⟨g,0,none⟩),.slice A n cc] w (MadePost B g mi mw ml q a F (M + 100) (madeE a.vars c F s) w):=by
 have hw:=hc.which
 simp only [List.mem_cons,List.mem_nil_iff,or_false] at hw
 rcases hw with e | e | e | e | e | e | e | e | e | e | e
 ·exact made_join S B g mi mw ml q a F M s A n cc c w hM h hsl hnc hcm hc e
 ·exact made_expand S B g mi mw ml q a F M s A n cc c w hM h hsl hnc hcm hc e
 ·exact made_pick S B g mi mw ml q a F M s A n cc c w hM h hsl hnc hcm hc e
 ·exact made_list S B g mi mw ml q a F M s A n cc c w hM h hsl hnc hcm hc e hF hout
 ·exact made_value S B g mi mw ml q a F M s A n cc c w hM h hsl hnc hcm hc e hv
 ·exact made_sort S B g mi mw ml q a F M s A n cc c w hM h hsl hnc hcm hc e
 ·exact made_count S B g mi mw ml q a F M s A n cc c w hM h hsl hnc hcm hc e
 ·exact made_first S B g mi mw ml q a F M s A n cc c w hM h hsl hnc hcm hc e
 ·exact made_change S B g mi mw ml q a F M s A n cc c w hM h hsl hnc hcm hc e
 ·exact made_digest S B g mi mw ml q a F M s A n cc c w hM h hsl hnc hcm hc e
 ·exact made_make S B g mi mw ml q a F M s A n cc c w hM h hsl hnc hcm hc e
theorem strOf_ne {l l':List UInt8} (h:¬ l=l'):¬ strOf l=strOf l':=fun e=>h (congrArg (fun x:ByteArray=>x.data.toList) e)
theorem bytes_Equal2 (A A':Option Addr) (n n' c c':Nat) (l l':List UInt8) (w:World) (S S':Nat→Prop) (h:Sl w S A n l) (h':Sl w S' A' n' l') :
 Calls Tryz.prog 28 #[.slice A n c,.slice A' n' c'] w fun e w'=>e=.returned (.bool (decide (l=l')))∧w=w':=by
 have r1:(convert 75 9 (.slice A n c)).run Tryz.prog w=.ok (.string (strOf l)) w:=run_bytes_string (P:=Tryz.prog) h 75 9 5 c Tryz.underlying75 Tryz.underlying5 Tryz.underlying9
 have r2:(convert 75 9 (.slice A' n' c')).run Tryz.prog w=.ok (.string (strOf l')) w:=run_bytes_string (P:=Tryz.prog) h' 75 9 5 c' Tryz.underlying75 Tryz.underlying5 Tryz.underlying9
 by_cases he:l=l'
 ·subst he
  generalize strOf l=s at r1 r2
  go_enter Tryz.func28,Tryz.ntmps28
  go_wp2
  go_ret
  exact ⟨by simp,rfl⟩
 ·have hne:=strOf_ne he
  have HD:=Lib.hid (show decide (l=l')=false by simpa using he)
  have hb:((strOf l).toList == (strOf l').toList)=false:=by rw [beq_eq_false_iff_ne]; exact fun e=>he (by simpa [strOf] using e)
  generalize strOf l=s at *
  generalize strOf l'=s' at *
  go_enter Tryz.func28,Tryz.ntmps28
  go_wp2
  go_ret
  exact ⟨by rw [HD.out]; rfl,rfl⟩
theorem kp_do {g mw ml:Nat} {w w':World} (h:Kp (fun k=>k=ml) w w'):Kp (fun k=>k=g∨k=mw∨k=ml) w w':=h.more fun _ hk=>.inr (.inr hk)
section
variable {F:List FileV} {s:ExSt} {p q:ByteArray}
theorem same_bad1 (h:¬ (readE p F s).1.2=0):sameE p q F s=((readE p F s).1.2,(readE p F s).2):=by
 unfold sameE Ex.bind
 dsimp only
 rw [if_neg h]; rfl
theorem same_bad2 (h:(readE p F s).1.2=0) (h2:¬ (readE q F (readE p F s).2).1.2=0):sameE p q F s=((readE q F (readE p F s).2).1.2,(readE q F (readE p F s).2).2):=by
 unfold sameE Ex.bind
 dsimp only
 rw [if_pos h]
 rw [if_neg h2]; rfl
theorem same_eq (h:(readE p F s).1.2=0) (h2:(readE q F (readE p F s).2).1.2=0):sameE p q F s=((if (readE p F s).1.1=(readE q F (readE p F s).2).1.1 then 0 else 4),(readE q F (readE p F s).2).2):=by
 unfold sameE Ex.bind
 dsimp only
 rw [if_pos h]
 rw [if_pos h2]
 split <;> rfl
end
set_option maxHeartbeats 2000000 in
set_option maxRecDepth 100000 in
theorem act_same (S:Nat→Prop) (B g mi mw ml:Nat) (q:ActP) (a:ActionV) (F:List FileV) (M:Nat) (s:ExSt) (p p2:ByteArray) (w:World) (hp:p.size≤maxLen) (hp2:p2.size≤maxLen) (hM:M + 2≤1000000) (h:Wk w S B g mi mw ml q a F M s) :
 Calls Tryz.prog 221 #[.pointer (some ⟨g,0,none⟩),.string p,.string p2] w (DoPost B g mi mw ml q a F (M + 2) (sameE p p2 F s) w):=by
 have HJ:=Lib.hid (act_read S B g mi mw ml q a F M s p w hp (by omega) h)
 have HB1:=Lib.hid (same_bad1 (F:=F) (s:=s) (p:=p) (q:=p2))
 have HB2:=Lib.hid (same_bad2 (F:=F) (s:=s) (p:=p) (q:=p2))
 have HB3:=Lib.hid (same_eq (F:=F) (s:=s) (p:=p) (q:=p2))
 clear h
 go_enter Tryz.func221,Tryz.ntmps221
 go_wp2_with fail
 refine HJ.out.mono ?_
 rintro e w1 ⟨hk,hW,A1,n1,c1,rfl,h11,h12,h13⟩
 have hcl1:=codeN_le (readE p F s).1.2
 clear HJ
 generalize readE p F s=z at *
 obtain ⟨⟨bs,code⟩,s1⟩:=z
 dsimp only at *
 rcases Decidable.em (¬ code=0) with hz | hz
 ·have HEnd:=Lib.hid (fun w' (hb:Below w1.heap.size w1 w')=>DoPost.mk_ (w':=w') (HB1.out hz) (kp_do hk) (hW.up (show M + codeN code≤M + 2 by omega)) hb)
  have hzb:(code == 0)=false:=by simpa using hz
  clear hk hW h13 HB1 HB2 HB3
  go_wp2
  go_ret
  exact HEnd.out _ (by repeat (first | exact fr_refl _ | refine fr_call ?_ (by assumption) | refine fr_alloc ?_ _ | refine fr_set ?_ (by simp) _ | refine Below.drew ?_ | refine below_drewN ?_ _))
 obtain rfl:code=0:=Decidable.not_not.1 hz
 have HJ:=Lib.hid (act_read S B g mi mw ml q a F _ s1 p2 w1 hp2 (by omega) hW)
 have hHs:∀ k,S k→k < w1.heap.size∧k≠g∧k≠mi∧k≠mw∧k≠ml:=hW.sep
 clear hW
 go_wp2_with fail
 refine HJ.out.mono ?_
 rintro e w2 ⟨hk2,hW2,A2,n2,c2,rfl,h21,h22,h23⟩
 have hcl2:=codeN_le (readE p2 F s1).1.2
 have h14:=h13.keep fun k hk=>hk2.block k (hHs k hk).1 (hHs k hk).2.2.2.2
 clear HJ h13
 generalize readE p2 F s1=z at *
 obtain ⟨⟨bs2,code2⟩,s2⟩:=z
 dsimp only at *
 have hkk:=kp_do (g:=g) (mw:=mw) (hk.trans hk2)
 rcases Decidable.em (¬ code2=0) with hz2 | hz2
 ·have HEnd:=Lib.hid (fun w' (hb:Below w2.heap.size w2 w')=>DoPost.mk_ (w':=w') (HB2.out trivial hz2) hkk (hW2.up (show M + codeN 0 + codeN code2≤M + 2 by omega)) hb)
  have hzb:(code2 == 0)=false:=by simpa using hz2
  clear hk hk2 hkk hW2 h14 h23 HB1 HB2 HB3
  go_wp2
  go_ret
  exact HEnd.out _ (by repeat (first | exact fr_refl _ | refine fr_call ?_ (by assumption) | refine fr_alloc ?_ _ | refine fr_set ?_ (by simp) _ | refine Below.drew ?_ | refine below_drewN ?_ _))
 obtain rfl:code2=0:=Decidable.not_not.1 hz2
 have HQ:=Lib.hid (bytes_Equal2 A1 A2 n1 n2 c1 c2 bs bs2 w2 S S h14 h23)
 have HEnd:=Lib.hid (fun w' (hb:Below w2.heap.size w2 w')=>DoPost.mk_ (w':=w') (HB3.out trivial rfl) hkk (hW2.up (show M + codeN 0 + codeN 0≤M + 2 by omega)) hb)
 clear hk hk2 hkk hW2 h14 h23 HB1 HB2 HB3
 go_wp2_with fail
 refine HQ.out.mono ?_
 rintro e w3 ⟨rfl,rfl⟩
 by_cases he:bs=bs2
 ·rw [decide_eq_true he]
  rw [if_pos he] at HEnd
  go_wp2
  go_ret
  exact HEnd.out _ (by repeat (first | exact fr_refl _ | refine fr_call ?_ (by assumption) | refine fr_alloc ?_ _ | refine fr_set ?_ (by simp) _ | refine Below.drew ?_ | refine below_drewN ?_ _))
 ·rw [decide_eq_false he]
  rw [if_neg he] at HEnd
  go_wp2
  go_ret
  exact HEnd.out _ (by repeat (first | exact fr_refl _ | refine fr_call ?_ (by assumption) | refine fr_alloc ?_ _ | refine fr_set ?_ (by simp) _ | refine Below.drew ?_ | refine below_drewN ?_ _))
end Go.Proofs.Sm
