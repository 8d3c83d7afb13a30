/- Words and walks that the claims share, part 22. -/
import Derived.Test.YtaabdbephemboaaGreatDoorBx5
import Derived.Test.YtaabdbephemboaaGreatDoorBx7
import Derived.Test.YtaabdbephemboaaGreatDoorBx10
import Derived.Test.YtaabdbephemboaaGreatDoorBx11
import Derived.Test.YtaabdbephemboaaGreatDoorBx14
import Derived.Test.YtaabdbephemboaaGreatDoorBx15
import Derived.Test.YtaabdbephemboaaGreatDoorBx21
import Derived.Deep.RegionLaw
namespace Go.Proofs.Sm
open Go.RowKit Go.Maps
def ExecNew (a:ActionV) (F:List FileV) (w:World) (e:Ending) (w':World):Prop :=
 ∃ A1 n1 c1 A2 n2 c2,e=.returned (.tuple #[resVal (execS a F) A1 n1 c1 A2 n2 c2,.int .i64 0])∧ResS w' (fun k=>w.heap.size≤k∧k < w'.heap.size) (execS a F) A1 n1 A2 n2∧Below w.heap.size w w'
theorem exec_of {a:ActionV} {F:List FileV} {code:Int} {cmd:Nat} {s:ExSt} (h:runE a a.commands 0 F startS=((code,cmd),s)):execS a F=⟨code,⟨s.told.toArray⟩,if code=0 then s.written else [],s.looks,cmd⟩:=by
 unfold execS; rw [h]
theorem file_val {w:World} {S:Nat→Prop} {x:FileV} {A:Option Addr} {n c:Nat} (h0:x.path.size≤maxLen) (h1:n≤c) (h2:c≤maxLen) (h3:Sl w S A n x.bytes):FileVal w S x (.agg #[.string x.path,.bool x.run,.slice A n c]):=⟨h0,A,n,c,rfl,h1,h2,h3⟩
theorem sl_not_cells {w:World} {S:Nat→Prop} {A:Option Addr} {n g:Nat} {l:List UInt8} {ty:TypeId} {vs:List Value} (h:Sl w S A n l) (hg:Arr w g ty vs) (hv:∀ u∈vs,∀ x:Int,u≠.int .u8 x):Sl w (fun j=>S j∧j≠g) A n l:=by
 refine ⟨h.1,h.2.1,fun hn=>?_⟩
 obtain ⟨b,o,e,hb,hc⟩:=h.2.2 hn
 refine ⟨b,o,e,⟨hb,?_⟩,fun i x hx=>?_⟩
 ·rintro rfl
  have hl0:0 < l.length:=by have:=h.1; omega
  obtain ⟨vs',hr,ha⟩:=hc 0 l[0] (List.getElem?_eq_getElem hl0)
  obtain rfl:vs'=[.int .u8 l[0].toNat]:=hr
  have h1:=ha 0 _ rfl
  have hg':w.heap[b]?=some (.cells vs.toArray ty (0,0)):=hg
  rw [World.cell?,hg'] at h1
  simp at h1
  exact hv _ (List.mem_of_getElem? h1) _ rfl
 ·obtain ⟨vs,hr,ha⟩:=hc i x hx
  exact ⟨vs,hr,ha⟩
theorem FilesIn.not_cells {P:Program} {k:TypeId} {w:World} {S:Nat→Prop} {m n g:Nat} {l:List FileV} {ty:TypeId} {vs:List Value} (h:FilesIn P k w S m n l) (hg:Arr w g ty vs) (hv:∀ u∈vs,∀ x:Int,u≠.int .u8 x):FilesIn P k w (fun j=>S j∧j≠g) m n l:=by
 obtain ⟨f,h1,h2⟩:=h
 refine ⟨f,h1,fun key=>?_⟩
 have h3:=h2 key
 cases hk:keyF l key with
 | none=>rw [hk] at h3; exact h3
 | some x =>
   rw [hk] at h3
   obtain ⟨v,h4,h0,A,n,c,rfl,h5,h6,h7⟩:=h3
   exact ⟨_,h4,h0,A,n,c,rfl,h5,h6,sl_not_cells h7 hg hv⟩
theorem no_u8 {a e:Int} {b:ByteArray} {A B:Option Addr} {n c m d:Nat}:∀ u∈([.int .i64 a,.string b,.slice A n c,.slice B m d,.int .i64 e]:List Value),∀ x:Int,u≠.int .u8 x:=by
 intro u hu x
 simp only [List.mem_cons,List.mem_nil_iff,or_false] at hu
 rcases hu with rfl | rfl | rfl | rfl | rfl <;> (intro h; cases h)
theorem row_more {α:Type} [Rep α] {w6 wr w9:World} {r10 i:Nat} {o:Obj} {K:Nat→Prop} {L:List α} {y:α} {v v':Value} {rows:List (List Value)} {r vs:List Value} {ty e:TypeId} (hA:Arr wr r10 ty vs) (hrow:RowK wr w6.heap.size e K v L) (hK:∀ k,K k→k < w6.heap.size∧k≠r10) (hr:rows.length=L.length)
 (hrep:∀ (i:Nat) (x:α) (r:List Value),L[i]?=some x→rows[i]?=some r→Rep.rep wr K x r) (hy:Rep.rep wr K y r) (hkp:Kp (fun j=>j=r10) w6 wr) (hr10:r10 < w6.heap.size) (hg:(wr.alloc o).drew.grownBy w9 v.ownBlock) (hown':w9.ownsRow w6.heap.size e (Rep.sz α) v' (L.length + 1) (rows.flatten ++ r)) :
 Arr w9 r10 ty vs∧RowK (w9.setCell ⟨r10,i,none⟩ v') w6.heap.size e K v' (L ++ [y])∧Arr (w9.setCell ⟨r10,i,none⟩ v') r10 ty (vs.set i v')∧Kp (fun j=>j=r10) w6 (w9.setCell ⟨r10,i,none⟩ v'):=by
 have hz:=hkp.size
 have hzd:(wr.alloc o).drew.heap.size=wr.heap.size + 1:=World.size_alloc ..
 have hkk:∀ k,K k→(wr.alloc o).drew.heap[k]?=wr.heap[k]?:=fun k hk=>Below.heap_alloc _ _ _ (by have:=(hK k hk).1; omega)
 have hA1:Arr (wr.alloc o).drew r10 ty vs:=hA.keep (Below.heap_alloc _ _ _ hA.lt)
 have hA9:Arr w9 r10 ty vs:=hA1.grown hg (fun e=>by have:=(hrow.kind _ e).1; omega)
 have hrow9:=RowK.append (x:=y) (w:=(wr.alloc o).drew) (rows:=rows) (fun k hk=>by have:=(hK k hk).1; omega) hr (fun i x r hx hr=>Rep.keep hkk (hrep i x r hx hr)) (Rep.keep hkk hy) (fun g e hk=>by have:=(hrow.kind g e).1; have:=(hK g hk).1; omega) hg hown'
 have hk9:Kp (fun j=>j=r10) w6 w9:=((hkp.alloc o).drew).grown hg (fun g e=>.inr (hrow.kind g e).1)
 exact ⟨hA9,hrow9.keep (by rw [size_setCell']; exact Nat.le_refl _) (fun k hk=>heap_setCell_other _ _ _ _ (hK k hk).2) (fun g e=>heap_setCell_other _ _ _ _ (by have:=(hrow9.kind g e).1; show g≠r10; omega)),hA9.set i v',hk9.set (p:=⟨r10,i,none⟩) (show r10=r10 from rfl) v'⟩
theorem file_info4:(Tryz.prog.info? 78).map (fun i=>(i.zero,i.size,i.bytes))=some (some (.agg #[.string ⟨#[]⟩,.bool false,.slice none 0 0]),3,48):=by kernel_rfl
theorem new_cells_d (w:World) (cs:Array Value) (t:TypeId):∀ (j:Nat) u,cs.toList[j]?=some u→(w.alloc (.cells cs t)).drew.cell? ((⟨w.heap.size,0,none⟩:Addr).add j)=some u:=new_cells w cs t
theorem three_ones {a b c:Value} (ha:a.oneCell'=true) (hb:b.oneCell'=true) (hc:c.oneCell'=true):∀ u∈([a,b,c]:List Value),u.oneCell'=true:=by
 intro u hu
 simp only [List.mem_cons,List.mem_nil_iff,or_false] at hu
 rcases hu with rfl | rfl | rfl
 ·exact ha
 ·exact hb
 ·exact hc
theorem in_more {w0 wr w5:World} {F:List FileV} {k m:Nat} {x:FileV} {v:Value} {f:List UInt8→Option Value} (hby:ByPath FileV.path F) (hx:F[k]?=some x)
 (hf:∀ key,match keyF (F.take k) key with
   | none=>f key=none
   | some x=>∃ v,f key=some v∧FileVal wr (Lt w0.heap.size) x v) (hv:FileVal wr (Lt w0.heap.size) x v)
 (hm:MapIs Tryz.prog 9 w5 m (k + 1) (fun key=>if key=x.path.data.toList then some v else f key)) (hk:∀ k,Lt w0.heap.size k→w5.heap[k]?=wr.heap[k]?):FilesIn Tryz.prog 9 w5 (Lt w0.heap.size) m (k + 1) (F.take (k + 1)):=by
 rw [←putFile_take hby hx]
 exact FilesIn.put hf hv hm hk
theorem exec_end {a:ActionV} {F:List FileV} {w wr WE:World} {R:ResultV} {r4:Nat} {A1 A2:Option Addr} {n1 c1 n2 c2:Nat} (hX:execS a F=R) (ho:ResOk R) (hb:Below w.heap.size w wr) (hk:Kp (fun j=>j=r4) wr WE) (hr4:w.heap.size≤r4) (hs1:Sl wr (fun k=>w.heap.size≤k∧k≠r4∧k < wr.heap.size) A1 n1 R.files) (hs2:Sl wr (fun k=>w.heap.size≤k∧k≠r4∧k < wr.heap.size) A2 n2 R.looks) :
 ExecNew a F w (.returned (.tuple #[.agg #[.int .i64 R.code,.string R.text,.slice A1 n1 c1,.slice A2 n2 c2,.int .i64 R.command],.int .i64 0])) WE:=by
 unfold ExecNew
 rw [hX]
 refine ⟨A1,n1,c1,A2,n2,c2,rfl,⟨by have:=ho.code; unfold InInt; omega,by have:=ho.text; unfold maxLen; omega,?_,?_,by have:=ho.command; unfold InInt; omega⟩,hb.trans (hk.below (fun k hk e=>by have:k=r4:=e; omega) hb.size)⟩
 ·exact (hs1.keep fun k hh=>hk.block k hh.2.2 hh.2.1).more fun k hh=>⟨hh.1,Nat.lt_of_lt_of_le hh.2.2 hk.size⟩
 ·exact (hs2.keep fun k hh=>hk.block k hh.2.2 hh.2.1).more fun k hh=>⟨hh.1,Nat.lt_of_lt_of_le hh.2.2 hk.size⟩
set_option maxHeartbeats 4000000 in
set_option maxRecDepth 100000 in
theorem exec_new (a:ActionV) (A:Option Addr) (n n':Nat) (B:Option Addr) (m m':Nat) (C:Option Addr) (p p':Nat) (D:Option Addr) (q q':Nat) (L:Option Addr) (nl cl:Nat) (F:List FileV) (w:World) (hE:Env2 w) (ha:ActIs w a A n B m C p D q) (hsl:Sl w (Lt w.heap.size) L nl F) (hok:bothErr a F=0) :
 Calls Tryz.prog 99 #[actVal a A n n' B m m' C p p' D q q',.slice L nl cl] w (ExecNew a F w):=by
 obtain ⟨hca,hcf,_⟩:=both_ok hok
 obtain ⟨hcc,hco⟩:=action_parts hca
 have hao:=checkAction_ok hca
 have HBy:=Lib.hid (files_by hcf)
 have HFs:=Lib.hid (files_sizes hcf)
 have HLn:=Lib.hid hsl.1
 have hFn:=checkFiles_len hcf
 rw [hsl.1] at hFn
 have hm:nl≤9223372036854775807:=by omega
 have HC:=Lib.hid (fun w1 (hb:Below w.heap.size w w1)=>act_checkBoth a A n n' B m m' C p p' D q q' L nl cl F w1 (hE.then_ hb).toEnv (ha.then_ hb) (sl_call hsl hb (Nat.le_refl _)))
 unfold actVal at *
 rw [hok] at HC
 have hmm:=@run_makeMap Tryz.prog
 go_enter Tryz.func99,Tryz.ntmps99
 go_wp2_with fail
 refine (HC.out _ (fr_alloc (fr_alloc (fr_refl w) _) _)).mono ?_
 rintro e w1 ⟨rfl,hb1⟩
 have hb2:=fr_call (fr_alloc (fr_alloc (fr_refl w) _) _) hb1
 have hsz1:=hb1.size
 rw [World.size_alloc,World.size_alloc] at hsz1
 have hact:Arr w1 w.heap.size 58 [.string a.tool,.slice A n n',.slice B m m',.slice C p p',.slice D q q',.int .i64 a.time]:=by
  have h1:=heap_alloc_new w (.cells #[.string a.tool,.slice A n n',.slice B m m',.slice C p p',.slice D q q',.int .i64 a.time] 58)
  exact (hb1.block _ (by rw [World.size_alloc,World.size_alloc]; omega)).trans ((Below.heap_alloc _ _ _ (by rw [World.size_alloc]; omega)).trans h1)
 have hres:Arr w1 (w.heap.size + 1) 41 [.int .i64 0,.string ⟨#[]⟩,.slice none 0 0,.slice none 0 0,.int .i64 0]:=by
  have h1:=heap_alloc_new (w.alloc (.cells #[.string a.tool,.slice A n n',.slice B m m',.slice C p p',.slice D q q',.int .i64 a.time] 58)) (.cells #[.int .i64 0,.string ⟨#[]⟩,.slice none 0 0,.slice none 0 0,.int .i64 0] 41)
  rw [World.size_alloc] at h1
  exact (hb1.block _ (by rw [World.size_alloc,World.size_alloc]; omega)).trans h1
 have z0:=hact.cell (i:=0) rfl
 have z1:=hact.cell (i:=1) rfl
 have z2:=hact.cell (i:=2) rfl
 have z3:=hact.cell (i:=3) rfl
 have z4:=hact.cell (i:=4) rfl
 have z5:=hact.cell (i:=5) rfl
 have hgl:=hact.lt
 have HE1:=Lib.hid (hE.then_ hb2)
 have HA1:=Lib.hid (ha.then_ hb2)
 have HS1:=Lib.hid (sl_call hsl hb2 (Nat.le_refl _))
 have HB1:=Lib.hid hb2
 clear hb1 hb2 hE ha hsl hact HC
 go_wp2
 obtain ⟨ActO,hO⟩:∃ o:Obj,o=(.cells #[.string a.tool,.slice A n n',.slice B m m',.slice C p p',.slice D q q',.int .i64 a.time,.map (some w1.heap.size),.map (some (w1.heap.size + 1)),.map (some (w1.heap.size + 1 + 1)),.string ⟨#[]⟩,.int .i64 0] 215):=⟨_,rfl⟩
 rw [←hO]
 obtain ⟨s1,s2,s3,s4,s5,s6⟩:=start_maps w1 ActO (Lt w1.heap.size) fun _ h=>h
 generalize hw2:(((w1.alloc (.map #[] 0)).alloc (.map #[] 0)).alloc (.map #[] 0)).alloc ActO=w2 at *
 clear hw2
 rw [hO] at s6
 have hbk2:Arr w2 (w1.heap.size + 1 + 1 + 1) 215 (wkCells a ⟨A,n,n',B,m,m',C,p,p',D,q,q'⟩ w1.heap.size (w1.heap.size + 1) (w1.heap.size + 1 + 1) ⟨#[]⟩ 0):=s6
 have HBk:=Lib.hid (fun wx (hk:Kp (fun j=>j=w1.heap.size) w2 wx)=>hbk2.keep (hk.block (w1.heap.size + 1 + 1 + 1) (by omega) (show ¬ (w1.heap.size + 1 + 1 + 1=w1.heap.size) by omega)))
 clear s6
 have HLow:=Lib.hid (show w.heap.size + 2≤w1.heap.size by omega)
 clear hO
 go_loopw [30] (fun i wr=>∃ k:Nat,k≤nl∧i=.int .i64 k∧FilesIn Tryz.prog 9 wr (Lt w1.heap.size) w1.heap.size k (F.take k)∧Kp (fun j=>j=w1.heap.size) w2 wr∧Below w1.heap.size w1 wr) (fun i _=>nl - (intOf i).toNat)
 case atStart=>exact ⟨0,Nat.zero_le _,rfl,s3,Kp.refl _ _,s1⟩
 case round =>
  clear s1 s3
  obtain ⟨k,hk,rfl,hfi,hkp,hbel⟩:=hrel
  have hzr:=hbel.size
  by_cases hlt:k < nl
  ·obtain ⟨b,o,x,A',n'',c'',rfl,hb,hx,hs1,hnc,hcm,hsl',c0,c1,c2⟩:=(HS1.out.keep fun k hk=>hbel.block k hk).file hlt
   have hkI:(k:Int) < (nl:Int):=by omega
   obtain ⟨f,hf1,hf2⟩:=hfi
   have HV:=Lib.hid (file_val hs1 hnc hcm hsl')
   have HX:=Lib.hid hx
   have HF2:=Lib.hid hf2
   clear hx hf2 hsl'
   have c6:=(HBk.out wr hkp).cell (i:=6) rfl
   have hgr:=(HBk.out wr hkp).lt
   go_wp2
   have hX:=box3_new wr (.string x.path) (.bool x.run) (.slice A' n'' c'') 78
   have hbV:=fr_alloc (fr_refl wr) (.cells #[.string x.path,.bool x.run,.slice A' n'' c''] 78)
   have d6:=(hbV.cell (p:=⟨w1.heap.size + 1 + 1 + 1,6,none⟩) hgr).trans c6
   have hzV:(wr.alloc (.cells #[.string x.path,.bool x.run,.slice A' n'' c''] 78)).heap.size=wr.heap.size + 1:=World.size_alloc ..
   generalize wr.alloc (.cells #[.string x.path,.bool x.run,.slice A' n'' c''] 78)=V at *
   have hm1:=hf1.call hbV
   have hzD:V.drew.heap.size=wr.heap.size + 1:=hzV
   obtain ⟨⟨x0,x1,x2⟩,_,xl⟩:=hX
   clear c0 c1 c2 c6
   go_still_tail 7,(by kernel_rfl)
   change wpList _ _ _ _ _ V.drew
   go_wp2_with (
    at_mapUpdate
    refine wpList_mapUpdate_is _ rfl _ _ _ 97 rfl Tryz.underlying9 map_file_under rfl (hm1.keep rfl) (by unfold maxLen; omega) x.path hs1 (.agg #[.string x.path,.bool x.run,.slice A' n'' c'']) rfl rfl ?_
    intro w5 hm5 hg5)
   have hb5:=(fr_call hbel hbV).drew.grown hg5 (by omega) (fun j hj=>by cases hj; exact Nat.le_refl _)
   have hk5:=((hkp.call hbV).drew).grown hg5 (fun j e=>.inl (by cases e; rfl))
   have hfi5:=in_more HBy.out HX.out HF2.out HV.out hm5 (fun j hj=>(hg5.block j (by have:j < w1.heap.size:=hj; omega) (fun e=>by cases e; exact Nat.lt_irrefl _ hj)).trans (hbV.block j (by have:j < w1.heap.size:=hj; omega)))
   go_roundw
   case rel=>exact ⟨k + 1,by omega,by go_num,hfi5,hk5,hb5⟩
   case measure=>simp [intOf]; omega
  ·obtain rfl:k=nl:=by omega
   rw [List.take_of_length_le (by rw [HLn.out]; exact Nat.le_refl _)] at hfi
   have hG:=HE1.out.size
   have hzw2:=hkp.size
   have hblk:=HBk.out wr hkp
   have hW:=wk_start (a:=a) (q:=⟨A,n,n',B,m,m',C,p,p',D,q,q'⟩) (F:=F) (HE1.out.then_ hbel) hG (ActS.keep ⟨HA1.out.tool,HA1.out.commands,HA1.out.vars,HA1.out.outputs,HA1.out.needs,HA1.out.time⟩ fun j hj=>hbel.block j hj) (by rw [HLn.out]; exact hfi) hblk
    ((s4.keep (hkp.block _ (by omega) (by omega)) fun j hj=>hkp.block j (by have:j < w1.heap.size:=hj; omega) (by have:j < w1.heap.size:=hj; omega)).more fun j hj=>by have:j < w1.heap.size:=hj; unfold OffW; omega)
    (MapIs.keep s5 (hkp.block _ (by omega) (by omega))) (by rw [HLn.out]; exact hFn) fun y hy=>(HFs.out y hy).2
   have hRes:=result_right (F:=F) hcc hao.commands hco (files_isP hcf) (by rw [HLn.out]; exact hFn)
   have HOk:=checkResult_ok hRes.right
   have HR:=Lib.hid (fun wx (hb:Below wr.heap.size wr wx)=>act_run _ w1.heap.size (w1.heap.size + 1 + 1 + 1) w1.heap.size (w1.heap.size + 1) (w1.heap.size + 1 + 1) ⟨A,n,n',B,m,m',C,p,p',D,q,q'⟩ a F startS wx (hW.call hb) hcc hao.commands (fun v hv=>by have:=(hao.var v hv).2; omega) (fun x hx=>by have:=(HFs.out x hx).1; omega) (by have:=hao.outputs; omega) (outs_parts hco).2.1)
   clear hfi hblk hW hcc hao hca hcf HFs HBy hRes s4 s5 HBk hco
   go_wp2_with fail
   refine (HR.out _ (fr_alloc (fr_refl wr) _)).mono ?_
   rintro e w4 hpost
   unfold RunPost at hpost
   obtain ⟨hk4,hW4,rfl⟩:=hpost
   have hr1:=heap_alloc_new wr (.cells #[.int .i64 0,.string ⟨#[]⟩,.slice none 0 0,.slice none 0 0,.int .i64 0] 41)
   obtain ⟨r,hr⟩:∃ r,runE a a.commands 0 F startS=r:=⟨_,rfl⟩
   obtain ⟨⟨code,cmd⟩,s⟩:=r
   rw [hr] at hW4 ⊢
   have hX:=exec_of hr
   rw [hX] at HOk
   have HX:=Lib.hid hX
   have HO:=Lib.hid HOk
   clear hX HOk
   clear hr HR
   simp only at hW4 ⊢
   have hzr4:=hk4.size
   rw [World.size_alloc] at hzr4
   have hrA:Arr w4 wr.heap.size 41 [.int .i64 0,.string ⟨#[]⟩,.slice none 0 0,.slice none 0 0,.int .i64 0]:=(hk4.block wr.heap.size (by rw [World.size_alloc]; omega) (by omega)).trans hr1
   have hres4:Arr w4 (w.heap.size + 1) 41 [.int .i64 0,.string ⟨#[]⟩,.slice none 0 0,.slice none 0 0,.int .i64 0]:=((hk4.block (w.heap.size + 1) (by rw [World.size_alloc]; have:=HLow.out; omega) (by have:=HLow.out; omega)).trans ((Below.heap_alloc _ _ _ (by have:=HLow.out; omega)).trans (hbel.block _ (by have:=HLow.out; omega)))).trans hres
   have hb4:Below w.heap.size w w4:=(HB1.out.trans ((fr_alloc hbel (.cells #[.int .i64 0,.string ⟨#[]⟩,.slice none 0 0,.slice none 0 0,.int .i64 0] 41)).mono (by have:=HLow.out; omega))).trans (hk4.below (fun k hk=>by have:=HLow.out; omega) (by rw [World.size_alloc]; have:=HLow.out; omega))
   obtain ⟨r10,hr10⟩:∃ r,r=wr.heap.size:=⟨_,rfl⟩
   rw [←hr10] at hrA hzr4 ⊢
   have hr10b:w1.heap.size + 4≤r10:=by omega
   have hne:¬ (w1.heap.size + 1 + 1 + 1=r10):=by omega
   have hne2:¬ (w.heap.size + 1=r10):=by have:=HLow.out; omega
   have kk8:=hW4.blk.cell (i:=8) rfl
   have kk9:=hW4.blk.cell (i:=9) rfl
   have hgl4:=hW4.blk.lt
   clear hr1 hk4 hkp hbel hzr hzw2 hr10 z0 z1 z2 z3 z4 z5 hres HLn HS1 HA1 HE1 HB1 hG hgl hsz1
   have c0:=hrA.cell (i:=0) rfl
   have c1:=hrA.cell (i:=1) rfl
   have c2:=hrA.cell (i:=2) rfl
   have c3:=hrA.cell (i:=3) rfl
   have c4:=hrA.cell (i:=4) rfl
   have f0:=hrA.frozen 0
   have f1:=hrA.frozen 1
   have f4:=hrA.frozen 4
   have hrl:=hrA.lt
   have hwr4:=(hW4.new.not_cells hrA no_u8).not_cells hres4 no_u8
   have hlo4:=hW4.lok
   have hok4:=hW4.ok
   have kk7:=hW4.blk.cell (i:=7) rfl
   have hlts:w1.heap.size + 1 < w4.heap.size∧w1.heap.size + 1 + 1 < w4.heap.size:=⟨hW4.wri.lt,MapIs.lt hW4.lok⟩
   have HLk:=Lib.hid hok4.looks.sorted
   have HWr:=Lib.hid hok4.wrote.sorted
   clear hW4 hok4
   go_wp2_with fail
   generalize hW5:World.setCell (World.setCell (World.setCell w4 _ _) _ _) _ _=W5
   have hA5:Arr W5 r10 41 [.int .i64 code,.string ⟨s.told.toArray⟩,.slice none 0 0,.slice none 0 0,.int .i64 cmd]:=by
    rw [←hW5]; exact ((hrA.set 0 _).set 4 _).set 1 _
   have hkp5:Kp (fun k=>k=r10) w4 W5:=by
    rw [←hW5]
    exact Kp.set (p:=⟨r10,1,none⟩) (Kp.set (p:=⟨r10,4,none⟩) (Kp.set (p:=⟨r10,0,none⟩) (Kp.refl (fun k=>k=r10) w4) (show r10=r10 from rfl) _) (show r10=r10 from rfl) _) (show r10=r10 from rfl) _
   have hz5:=hkp5.size
   have hne3:w.heap.size + 1 < w4.heap.size:=hres4.lt
   have hres5:=hres4.keep (hkp5.block _ hne3 hne2)
   have hlo5:=MapIs.keep hlo4 (hkp5.block _ hlts.2 (by omega))
   have hwr5:=hwr4.keep (hkp5.block _ hlts.1 (by omega)) fun k hk=>hkp5.block k hk.1.1.2.1 hk.1.2
   have hb5:=hb4.trans (hkp5.below (B:=w.heap.size) (fun k hk (e:k=r10)=>by have:=HLow.out; omega) (by omega))
   have k7:=(World.cell?_of_block (a:=⟨w1.heap.size + 1 + 1 + 1,7,none⟩) (hkp5.block _ hgl4 hne)).trans kk7
   have k8:=(World.cell?_of_block (a:=⟨w1.heap.size + 1 + 1 + 1,8,none⟩) (hkp5.block _ hgl4 hne)).trans kk8
   have hgl5:w1.heap.size + 1 + 1 + 1 < W5.heap.size:=by omega
   clear hW5 hkp5 hres4 hlo4 hwr4 hb4 kk7 kk8 kk9 c0 c1 c2 c3 c4 f0 f1 f4 hrA hrl
   have hN:=checkLooks_len HO.out.looks
   simp only at hN
   have hLs:∀ x∈s.looks,x.path.size≤maxLen∧x.digest.size≤maxLen:=fun x hx=>by have:=looks_sizes HO.out.looks x hx; unfold maxLen; omega
   refine (keys_mapstringsmithyardapiLook (w1.heap.size + 1 + 1) W5).mono ?_
   rintro e w8' ⟨rfl,rfl⟩
   go_wp2_with fail
   refine (sorted_mapLook (w1.heap.size + 1 + 1) s.looks.length (fun key=>(keyL s.looks key).map lookVal) W5 hlo5 (by omega)).mono ?_
   rintro e w6 ⟨ks,A8,c8,rfl,hks,hc81,hc82,hs8,hb6⟩
   have hks2:ks=s.looks.map Look.path:=looks_keys hks HLk.out fun x hx=>(hLs x hx).1
   have hkl:ks.length=s.looks.length:=by rw [hks2,List.length_map]
   have hz6:=hb6.size
   have hA6:=hA5.call hb6
   have hres6:=hres5.call hb6
   have hlo6:=MapIs.call hlo5 hb6
   have hwr6:=hwr5.keep (hb6.block _ hwr5.lt) fun k hk=>hb6.block k (by have:=hk.1.1.2.1; omega)
   have hb06:=fr_call hb5 hb6
   have j7:=(hb6.cell (p:=⟨w1.heap.size + 1 + 1 + 1,7,none⟩) hgl5).trans k7
   have j8:=(hb6.cell (p:=⟨w1.heap.size + 1 + 1 + 1,8,none⟩) hgl5).trans k8
   have hgl6:w1.heap.size + 1 + 1 + 1 < w6.heap.size:=by omega
   have hm6:ks.length≤9223372036854775807:=by omega
   have hrl6:=hA6.lt
   have HKs:=Lib.hid hks2
   have HLs:=Lib.hid hLs
   have HN:=Lib.hid hkl
   clear hks hks2 hb6 hb5 hA5 hres5 hlo5 hwr5 k7 k8 hLs hkl
   obtain ⟨i0,hi0,hz0,hz1,hz2⟩:=info_parts look_info
   go_wp2
   go_loopw [61] (fun i wr=>∃ (k:Nat) (vL:Value),k≤ks.length∧i=.int .i64 k∧Arr wr r10 41 [.int .i64 code,.string ⟨s.told.toArray⟩,.slice none 0 0,vL,.int .i64 cmd]∧RowK wr w6.heap.size 109 (fun _=>False) vL (s.looks.take k)∧Kp (fun j=>j=r10) w6 wr) (fun i _=>ks.length - (intOf i).toNat)
   case atStart=>exact ⟨0,_,Nat.zero_le _,rfl,hA6,RowK.nil,Kp.refl _ _⟩
   case round =>
    clear hA6
    obtain ⟨k,vL,hk,rfl,hA,hrow,hkp⟩:=hrel
    have hzr:=hkp.size
    by_cases hlt:k < ks.length
    ·obtain ⟨b,o,x,rfl,hb,hx,hxs,e0⟩:=(hs8.keep fun j hj=>hkp.block j hj.2 (fun e:j=r10=>by have:=hj.1; omega)).str hlt
     obtain ⟨y,hy,rfl⟩:=map_at (f:=Look.path) (l:=s.looks) (by rw [←HKs.out]; exact hx)
     have hkI:(k:Int) < (ks.length:Int):=by omega
     have hys:=HLs.out y (List.mem_of_getElem? hy)
     have hmr:=MapIs.keep hlo6 (w':=wr.drew) (hkp.block _ (MapIs.lt hlo6) (show ¬ (w1.heap.size + 1 + 1=r10) by omega))
     have hlk:(Instr.lookup 213 (.map (some (w1.heap.size + 1 + 1))) (.string y.path) false).run Tryz.prog wr.drew=.ok (.agg #[.string y.path,.string y.digest,.bool y.run]) wr.drew:=by
      rw [hmr.look Tryz.underlying9 map_look_under (look_zero wr.drew) hys.1,keyL_at HLk.out hy]; rfl
     have hlen:(s.looks.take k).length=k:=by rw [List.length_take]; have:=HN.out; omega
     obtain ⟨_,rows,hrows,hown,hrep⟩:=id hrow
     have HT:=Lib.hid (show s.looks.take (k + 1)=s.looks.take k ++ [y] by rw [List.take_add_one,hy]; rfl)
     have HJ:=Lib.hid (fun o w9 v' hg hown'=>row_more (o:=o) (w9:=w9) (v':=v') (i:=3) (r:=[.string y.path,.string y.digest,.bool y.run]) (y:=y) hA hrow (fun _ hh=>hh.elim) hrows hrep ⟨rfl,hys⟩ hkp hrl6 hg hown')
     rw [hlen] at hown HJ
     have H9:=Lib.hid (fun o=>show ((wr.alloc o).drew).ownsRow w6.heap.size 109 3 vL k rows.flatten from hown.alloc o)
     have H63:=Lib.hid (show k + 1≤maxLen by have:=HN.out; unfold maxLen; omega)
     have H48:=Lib.hid (show (k + 1) * 40≤140737488355328 by have:=HN.out; omega)
     have HB9:=Lib.hid (fun o=>show w6.heap.size≤(wr.alloc o).drew.heap.size from by have e:(wr.alloc o).drew.heap.size=wr.heap.size + 1:=World.size_alloc ..; omega)
     have v3:=hA.cell (i:=3) rfl
     have v8:=(World.cell?_of_block (a:=⟨w1.heap.size + 1 + 1 + 1,8,none⟩) (hkp.block _ hgl6 hne)).trans j8
     have hgr:w1.heap.size + 1 + 1 + 1 < wr.heap.size:=by omega
     have hrr:r10 < wr.heap.size:=by omega
     clear hx hy hmr hrow hrows hown hrep hA hb hlen hys
     go_wp2
     go_region_law (first
      | (refine step_append_lies _ rfl _ _ 39 rfl w6.heap.size 109 i0 _ 3 40 Tryz.underlying39 hi0 hz0 hz1 hz2 rfl (by decide) _ k _ rfl (H9.out _) ⟨wr.heap.size,0,none⟩ 1 1 [.string y.path,.string y.digest,.bool y.run] rfl rfl (new_cells_d wr #[_,_,_] _) (three_ones rfl rfl rfl) (by decide) H63.out H48.out (HB9.out _) _ rfl ?_
         intro g' cap w9 hown' hgrow hat hlt'
         obtain ⟨hA9,hrow9,hA10,hk9⟩:=HJ.out _ _ _ hgrow hown'
         have u3:=hA9.cell (i:=3) rfl
         have uf:=hA9.frozen 3
         have ul:=hA9.lt))
     all_goals
      go_wp2
      go_roundw
      case rel=>exact ⟨k + 1,_,by omega,by go_num,hA10,by rw [HT.out]; exact hrow9,hk9⟩
      case measure=>simp [intOf]; omega
    ·obtain rfl:k=ks.length:=by omega
     rw [List.take_of_length_le (by have:=HN.out; omega)] at hrow
     have hresR:=hres6.keep (hkp.block _ hres6.lt hne2)
     have hwrR:=hwr6.keep (hkp.block _ hwr6.lt (show ¬ (w1.heap.size + 1=r10) by omega)) fun k hk=>hkp.block k (by have:=hk.1.1.2.1; omega) hk.1.2
     have hb0R:=hb06.trans (hkp.below (B:=w.heap.size) (fun k hk (e:k=r10)=>by have:=HLow.out; omega) (by have:=hb06.size; omega))
     have v7:=(World.cell?_of_block (a:=⟨w1.heap.size + 1 + 1 + 1,7,none⟩) (hkp.block _ hgl6 hne)).trans j7
     have hgr:w1.heap.size + 1 + 1 + 1 < wr.heap.size:=by omega
     have hrr:r10 < wr.heap.size:=by omega
     obtain ⟨A2,c2,rfl,h21,h22,hs2⟩:=hrow.slFrom
     have v0:=hA.cell (i:=0) rfl
     have v1:=hA.cell (i:=1) rfl
     have v2:=hA.cell (i:=2) rfl
     have v3:=hA.cell (i:=3) rfl
     have v4:=hA.cell (i:=4) rfl
     have hr10w:w.heap.size + 1 < r10:=by have:=HLow.out; omega
     clear hs8 hkp hres6 hwr6 hb06 j7 j8 hlo6 hrow
     rcases Decidable.em (¬ code=0) with hz | hz
     ·have hzb:(code == 0)=false:=by simpa using hz
      have HF:=Lib.hid (show execS a F=⟨code,⟨s.told.toArray⟩,[],s.looks,cmd⟩ by rw [HX.out,if_neg hz])
      have HEnd:=Lib.hid (fun WE (hk:Kp (fun j=>j=w.heap.size + 1) wr WE)=>exec_end (c1:=0) (c2:=c2) HF.out (HF.out ▸ HX.out ▸ HO.out) hb0R hk (Nat.le_succ _) Sl.nil (hs2.more fun k hk=>⟨by have:=hk.1; omega,by have:=hk.1; omega,hk.2⟩))
      have e0:=hresR.cell (i:=0) rfl
      have e1:=hresR.cell (i:=1) rfl
      have e2:=hresR.cell (i:=2) rfl
      have e3:=hresR.cell (i:=3) rfl
      have e4:=hresR.cell (i:=4) rfl
      have g0:=hresR.frozen 0
      have g1:=hresR.frozen 1
      have g2:=hresR.frozen 2
      have g3:=hresR.frozen 3
      have g4:=hresR.frozen 4
      have hrl4:=hresR.lt
      have hne4:¬ (r10=w.heap.size + 1):=by omega
      go_wp2
      generalize hWE:World.setCell (World.setCell (World.setCell (World.setCell (World.setCell wr _ _) _ _) _ _) _ _) _ _=WE
      have hE5:Arr WE (w.heap.size + 1) 41 [.int .i64 code,.string ⟨s.told.toArray⟩,(.slice none 0 0),.slice A2 s.looks.length c2,.int .i64 cmd]:=by
       rw [←hWE]; exact ((((hresR.set 0 _).set 1 _).set 2 _).set 3 _).set 4 _
      have hkE:Kp (fun j=>j=w.heap.size + 1) wr WE:=by
       rw [←hWE]
       exact Kp.set (p:=⟨w.heap.size + 1,4,none⟩) (Kp.set (p:=⟨w.heap.size + 1,3,none⟩) (Kp.set (p:=⟨w.heap.size + 1,2,none⟩) (Kp.set (p:=⟨w.heap.size + 1,1,none⟩) (Kp.set (p:=⟨w.heap.size + 1,0,none⟩) (Kp.refl (fun j=>j=w.heap.size + 1) wr) rfl _) rfl _) rfl _) rfl _) rfl _
      clear hWE e0 e1 e2 e3 e4 g0 g1 g2 g3 g4
      have y0:=hE5.cell (i:=0) rfl
      have y1:=hE5.cell (i:=1) rfl
      have y2:=hE5.cell (i:=2) rfl
      have y3:=hE5.cell (i:=3) rfl
      have y4:=hE5.cell (i:=4) rfl
      exact bodyPost_ret (v:=.tuple #[.agg #[.int .i64 code,.string ⟨s.told.toArray⟩,(.slice none 0 0),.slice A2 s.looks.length c2,.int .i64 cmd],.int .i64 0]) (by simp [results,Tryz.results99,go_sem,y0,y1,y2,y3,y4]) rfl (HEnd.out WE hkE)
     ·obtain rfl:code=0:=Decidable.not_not.1 hz
      have HF:=Lib.hid (show execS a F=⟨0,⟨s.told.toArray⟩,s.written,s.looks,cmd⟩ by rw [HX.out,if_pos rfl])
      have HO2:=Lib.hid (show ResOk ⟨0,⟨s.told.toArray⟩,s.written,s.looks,cmd⟩ from HF.out ▸ HX.out ▸ HO.out)
      have hNw:s.written.length≤1000:=(checkFiles_err HO2.out.files).1
      have hWs:∀ x∈s.written,x.path.size≤maxLen:=fun x hx=>by have:=(files_sizes HO2.out.files x hx).1; unfold maxLen; omega
      obtain ⟨f,hf1,hf2⟩:=id hwrR
      clear HX HO hz
      go_wp2_with fail
      refine (keys_mapstringsmithyardapiFile (w1.heap.size + 1) wr).mono ?_
      rintro e w8' ⟨rfl,rfl⟩
      go_wp2_with fail
      refine (sorted_mapFile (w1.heap.size + 1) s.written.length f wr hf1 (by omega)).mono ?_
      rintro e w7 ⟨ks2,A9,c9,rfl,hks,hc91,hc92,hs9,hb7⟩
      have hks3:ks2=s.written.map FileV.path:=files_keys hks hf2 HWr.out hWs
      have hkl2:ks2.length=s.written.length:=by rw [hks3,List.length_map]
      have hz7:=hb7.size
      have hA7:=hA.call hb7
      have hres7:=hresR.call hb7
      have hm7:=hf1.call hb7
      have hb07:=fr_call hb0R hb7
      have j7:=(hb7.cell (p:=⟨w1.heap.size + 1 + 1 + 1,7,none⟩) hgr).trans v7
      have hgr7:w1.heap.size + 1 + 1 + 1 < w7.heap.size:=by omega
      have hm7':ks2.length≤9223372036854775807:=by omega
      have hrl7:=hA7.lt
      have hs7:=hs2.keep fun k hk=>hb7.block k hk.2
      have HKs2:=Lib.hid hks3
      have HN2:=Lib.hid hkl2
      have HF2:=Lib.hid (fun key x (hk:keyF s.written key=some x)=>by have:=hf2 key; rw [hk] at this; exact this)
      obtain ⟨KS,hKS⟩:∃ KS:Nat→Prop,KS=fun j=>((w1.heap.size≤j∧OffW (w1.heap.size + 1 + 1 + 1) w1.heap.size (w1.heap.size + 1) (w1.heap.size + 1 + 1) w4 j)∧j≠r10)∧j≠w.heap.size + 1:=⟨_,rfl⟩
      rw [←hKS] at HF2
      have hKb:∀ k,KS k→k < wr.heap.size∧k≠r10∧(w1.heap.size≤k∧k≠w.heap.size + 1):=fun k hk=>by rw [hKS] at hk; exact ⟨by have:=hk.1.1.2.1; omega,hk.1.2,hk.1.1.1,hk.2⟩
      have HKb:=Lib.hid hKb
      have hrow7:RowK w7 w7.heap.size 78 KS (.slice none 0 0) ([]:List FileV):=RowK.nil.more (fun _ h=>h.elim) fun k hk=>by have:=(hKb k hk).1; omega
      have HBk:=Lib.hid (fun k (hk:KS k)=>hb7.block k (hKb k hk).1)
      clear hks hks3 hf2 hwrR hb0R hA hresR hf1 v0 v1 v2 v3 v4 v7 hs2 hKS hkl2 hb7 hKb
      obtain ⟨i0',hi0',hz0',hz1',hz2'⟩:=info_parts file_info4
      go_wp2
      go_loopw [87] (fun i wr=>∃ (k:Nat) (vF:Value),k≤ks2.length∧i=.int .i64 k∧Arr wr r10 41 [.int .i64 0,.string ⟨s.told.toArray⟩,vF,.slice A2 s.looks.length c2,.int .i64 cmd]∧RowK wr w7.heap.size 78 KS vF (s.written.take k)∧Kp (fun j=>j=r10) w7 wr) (fun i _=>ks2.length - (intOf i).toNat)
      case atStart=>exact ⟨0,_,Nat.zero_le _,rfl,hA7,hrow7,Kp.refl _ _⟩
      case round =>
       clear hA7 hrow7
       obtain ⟨k,vF,hk,rfl,hA,hrow,hkp⟩:=hrel
       have hzr:=hkp.size
       by_cases hlt:k < ks2.length
       ·obtain ⟨b,o,x,rfl,hb,hx,hxs,e0⟩:=(hs9.keep fun j hj=>hkp.block j hj.2 (fun e:j=r10=>by have:=hj.1; omega)).str hlt
        obtain ⟨y,hy,rfl⟩:=map_at (f:=FileV.path) (l:=s.written) (by rw [←HKs2.out]; exact hx)
        have hkI:(k:Int) < (ks2.length:Int):=by omega
        obtain ⟨v,hfv,hfv2⟩:=HF2.out _ _ (keyF_at HWr.out hy)
        obtain ⟨hp0,Ay,ny,cy,rfl,hp1,hp2,hp3⟩:=hfv2
        have hmr:=MapIs.keep hm7 (w':=wr.drew) (hkp.block _ (MapIs.lt hm7) (show ¬ (w1.heap.size + 1=r10) by omega))
        have hlk:(Instr.lookup 97 (.map (some (w1.heap.size + 1))) (.string y.path) false).run Tryz.prog wr.drew=.ok (.agg #[.string y.path,.bool y.run,.slice Ay ny cy]) wr.drew:=by
         rw [hmr.look Tryz.underlying9 map_file_under (file_zero wr.drew) hp0,hfv]; rfl
        have hlen:(s.written.take k).length=k:=by rw [List.length_take]; have:=HN2.out; omega
        obtain ⟨_,rows,hrows,hown,hrep⟩:=id hrow
        have HT:=Lib.hid (show s.written.take (k + 1)=s.written.take k ++ [y] by rw [List.take_add_one,hy]; rfl)
        have hrepy:Rep.rep wr KS y [.string y.path,.bool y.run,.slice Ay ny cy]:=⟨hp0,Ay,ny,cy,rfl,hp1,hp2,hp3.keep fun j hj=>(hkp.block j (by have:=(HKb.out j hj).1; omega) (HKb.out j hj).2.1).trans (HBk.out j hj)⟩
        have HJ:=Lib.hid (fun o w9 v' hg hown'=>row_more (o:=o) (w9:=w9) (v':=v') (i:=2) (r:=[.string y.path,.bool y.run,.slice Ay ny cy]) (y:=y) hA hrow (fun k hk=>⟨by have:=(HKb.out k hk).1; omega,(HKb.out k hk).2.1⟩) hrows hrep hrepy hkp hrl7 hg hown')
        rw [hlen] at hown HJ
        have H9:=Lib.hid (fun o=>show ((wr.alloc o).drew).ownsRow w7.heap.size 78 3 vF k rows.flatten from hown.alloc o)
        have H63:=Lib.hid (show k + 1≤maxLen by have:=HN2.out; unfold maxLen; omega)
        have H48:=Lib.hid (show (k + 1) * 48≤140737488355328 by have:=HN2.out; omega)
        have HB9:=Lib.hid (fun o=>show w7.heap.size≤(wr.alloc o).drew.heap.size from by have e:(wr.alloc o).drew.heap.size=wr.heap.size + 1:=World.size_alloc ..; omega)
        have v3:=hA.cell (i:=2) rfl
        have v8:=(World.cell?_of_block (a:=⟨w1.heap.size + 1 + 1 + 1,7,none⟩) (hkp.block _ hgr7 hne)).trans j7
        have hgr:w1.heap.size + 1 + 1 + 1 < wr.heap.size:=by omega
        have hrr:r10 < wr.heap.size:=by omega
        clear hx hy hmr hrow hrows hown hrep hA hb hlen hrepy hp3 hfv
        go_wp2
        go_region_law (first
         | (refine step_append_lies _ rfl _ _ 23 rfl w7.heap.size 78 i0' _ 3 48 Tryz.underlying23 hi0' hz0' hz1' hz2' rfl (by decide) _ k _ rfl (H9.out _) ⟨wr.heap.size,0,none⟩ 1 1 [.string y.path,.bool y.run,.slice Ay ny cy] rfl rfl (new_cells_d wr #[_,_,_] _) (three_ones rfl rfl rfl) (by decide) H63.out H48.out (HB9.out _) _ rfl ?_
            intro g' cap w9 hown' hgrow hat hlt'
            obtain ⟨hA9,hrow9,hA10,hk9⟩:=HJ.out _ _ _ hgrow hown'
            have u3:=hA9.cell (i:=2) rfl
            have uf:=hA9.frozen 2
            have ul:=hA9.lt))
        all_goals
         go_wp2
         go_roundw
         case rel=>exact ⟨k + 1,_,by omega,by go_num,hA10,by rw [HT.out]; exact hrow9,hk9⟩
         case measure=>simp [intOf]; omega
       ·obtain rfl:k=ks2.length:=by omega
        rw [List.take_of_length_le (by have:=HN2.out; omega)] at hrow
        have hresR:=hres7.keep (hkp.block _ hres7.lt hne2)
        have hb0R:=hb07.trans (hkp.below (B:=w.heap.size) (fun k hk (e:k=r10)=>by have:=HLow.out; omega) (by have:=hb07.size; omega))
        have hrr:r10 < wr.heap.size:=by omega
        obtain ⟨A1,c1,rfl,h11,h12,hs1⟩:=RowK.slNew (w:=w7) (S:=fun j=>w1.heap.size≤j∧j≠w.heap.size + 1) hrow fun k hk=>.inl (HKb.out k hk).2.2
        have v0:=hA.cell (i:=0) rfl
        have v1:=hA.cell (i:=1) rfl
        have v2:=hA.cell (i:=2) rfl
        have v3:=hA.cell (i:=3) rfl
        have v4:=hA.cell (i:=4) rfl
        have HEnd:=Lib.hid (fun WE (hk:Kp (fun j=>j=w.heap.size + 1) wr WE)=>exec_end (c1:=c1) (c2:=c2) HF.out HO2.out hb0R hk (Nat.le_succ _) (hs1.more fun k hk=>⟨by have:=HLow.out; rcases hk.1 with h | h <;> omega,by have:=HLow.out; rcases hk.1 with h | h <;> omega,hk.2⟩) ((hs7.keep fun k hh=>hkp.block k (by have:=hh.2; omega) (fun e:k=r10=>by have:=hh.1; omega)).more fun k hk=>⟨by have:=hk.1; omega,by have:=hk.1; omega,by have:=hk.2; omega⟩))
        clear hs9 hkp hres7 hrow hs1
        have e0:=hresR.cell (i:=0) rfl
        have e1:=hresR.cell (i:=1) rfl
        have e2:=hresR.cell (i:=2) rfl
        have e3:=hresR.cell (i:=3) rfl
        have e4:=hresR.cell (i:=4) rfl
        have g0:=hresR.frozen 0
        have g1:=hresR.frozen 1
        have g2:=hresR.frozen 2
        have g3:=hresR.frozen 3
        have g4:=hresR.frozen 4
        have hrl4:=hresR.lt
        have hne4:¬ (r10=w.heap.size + 1):=by omega
        go_wp2
        generalize hWE:World.setCell (World.setCell (World.setCell (World.setCell (World.setCell wr _ _) _ _) _ _) _ _) _ _=WE
        have hE5:Arr WE (w.heap.size + 1) 41 [.int .i64 0,.string ⟨s.told.toArray⟩,(.slice A1 s.written.length c1),.slice A2 s.looks.length c2,.int .i64 cmd]:=by
         rw [←hWE]; exact ((((hresR.set 0 _).set 1 _).set 2 _).set 3 _).set 4 _
        have hkE:Kp (fun j=>j=w.heap.size + 1) wr WE:=by
         rw [←hWE]
         exact Kp.set (p:=⟨w.heap.size + 1,4,none⟩) (Kp.set (p:=⟨w.heap.size + 1,3,none⟩) (Kp.set (p:=⟨w.heap.size + 1,2,none⟩) (Kp.set (p:=⟨w.heap.size + 1,1,none⟩) (Kp.set (p:=⟨w.heap.size + 1,0,none⟩) (Kp.refl (fun j=>j=w.heap.size + 1) wr) rfl _) rfl _) rfl _) rfl _) rfl _
        clear hWE e0 e1 e2 e3 e4 g0 g1 g2 g3 g4
        have y0:=hE5.cell (i:=0) rfl
        have y1:=hE5.cell (i:=1) rfl
        have y2:=hE5.cell (i:=2) rfl
        have y3:=hE5.cell (i:=3) rfl
        have y4:=hE5.cell (i:=4) rfl
        exact bodyPost_ret (v:=.tuple #[.agg #[.int .i64 0,.string ⟨s.told.toArray⟩,(.slice A1 s.written.length c1),.slice A2 s.looks.length c2,.int .i64 cmd],.int .i64 0]) (by simp [results,Tryz.results99,go_sem,y0,y1,y2,y3,y4]) rfl (HEnd.out WE hkE)
end Go.Proofs.Sm
namespace Go.Proofs.Sm
open Go.RowKit
theorem exec_right {a:ActionV} {F:List FileV} (h:bothErr a F=0):LooksRight a F∧ResultRight a F∧checkFilesS F=0:=by
 obtain ⟨h1,h2,_⟩:=both_ok h
 obtain ⟨h3,h4⟩:=action_parts h1
 exact ⟨looks_right h3 (checkAction_ok h1).commands (files_isP h2) (checkFiles_len h2),result_right h3 (checkAction_ok h1).commands h4 (files_isP h2) (checkFiles_len h2),h2⟩
end Go.Proofs.Sm
namespace Go.Proofs.Sm
open Go.RowKit
def MemOk (m:MemoryV):Prop:=m.looks.length≤1000000∧m.result.files.length≤1000000∧m.result.looks.length≤1000000∧∀ x∈m.result.files,x.bytes.length≤100000000
theorem looks_many {l:List Look} (h:checkLooksS l=0):l.length≤4000:=by
 unfold checkLooksS at h
 split at h
 ·cases h
 ·omega
theorem mem_parts {m:MemoryV} (h:checkMemS m=0):isPathS m.name=true∧isDigestS m.action=true∧checkLooksS m.looks=0∧checkResultS m.result=0∧m.result.code=0∧sameLooksS m.looks m.result.looks=true:=by
 unfold checkMemS at h
 split at h
 ·cases h
 rename_i h1
 split at h
 ·rename_i h2; exact absurd h h2
 rename_i h2
 split at h
 ·rename_i h3; exact absurd h h3
 rename_i h3
 split at h
 ·cases h
 rename_i h4
 split at h
 ·cases h
 rename_i h5
 have h1':isPathS m.name=true∧isDigestS m.action=true:=by simpa using h1
 exact ⟨h1'.1,h1'.2,by simpa using h2,by simpa using h3,by simpa using h4,by simpa using h5⟩
theorem result_parts {r:ResultV} (h:checkResultS r=0):checkFilesS r.files=0∧checkLooksS r.looks=0:=by
 unfold checkResultS at h
 split at h
 ·cases h
 split at h
 ·cases h
 split at h
 ·cases h
 split at h
 ·rename_i h1; exact absurd h h1
 rename_i h1
 split at h
 ·cases h
 exact ⟨by simpa using h1,h⟩
theorem mem_ok {m:MemoryV} (h:checkMemS m=0):MemOk m:=by
 obtain ⟨_,_,h1,h2,_,_⟩:=mem_parts h
 obtain ⟨h3,h4⟩:=result_parts h2
 have a:=looks_many h1
 have b:=looks_many h4
 have c:=(checkFiles_err h3).1
 exact ⟨by omega,by omega,by omega,fun x hx=>by have:=(files_sizes h3 x hx).2; omega⟩
theorem memory_parts {l:List MemoryV} (h:checkMemoryS l=0):l.length≤500∧∀ m∈l,checkMemS m=0:=by
 unfold checkMemoryS at h
 split at h
 ·cases h
 ·refine ⟨by omega,fun m hm=>?_⟩
  obtain ⟨k,hk⟩:=List.getElem?_of_mem hm
  have h1:=listErr_at h k m hk
  unfold memErr at h1
  split at h1
  ·rename_i h2; exact absurd h1 h2
  ·rename_i h2; simpa using h2
theorem memory_ok {l:List MemoryV} (h:checkMemoryS l=0):∀ m∈l,MemOk m:=fun m hm=>mem_ok ((memory_parts h).2 m hm)
def namesOf (l:List MemoryV):List (List UInt8):=l.map fun m=>m.name.data.toList
def newTo (la:List MemoryV) (m:MemoryV):Bool:=!decide (m.name.data.toList∈namesOf la)
def bothS (la lb:List MemoryV):List MemoryV:=la ++ lb.filter (newTo la)
def joinedErr (la lb:List MemoryV):Int:=if checkMemoryS la≠0 then checkMemoryS la else if checkMemoryS lb≠0 then checkMemoryS lb else if 500 < ((bothS la lb).length:Int) then 2 else 0
def JoinedIs (la lb out:List MemoryV):Prop:=out.Perm (bothS la lb)∧∀ (i j:Nat) (x y:MemoryV),i < j→out[i]?=some x→out[j]?=some y→ltS y.name x.name=false
theorem namesOf_more {l:List MemoryV} {k:Nat} {x:MemoryV} (hx:l[k]?=some x):namesOf (l.take (k + 1))=namesOf (l.take k) ++ [x.name.data.toList]:=by rw [namesOf,List.take_add_one,hx,List.map_append]; rfl
theorem filter_take {l:List MemoryV} {p:MemoryV→Bool} {k:Nat} {x:MemoryV} (hx:l[k]?=some x):(l.take (k + 1)).filter p=(l.take k).filter p ++ if p x=true then [x] else []:=by
 rw [List.take_add_one,hx,List.filter_append]
 simp [List.filter_cons]
end Go.Proofs.Sm
namespace Go.Proofs.Sm
open Go.RowKit
structure StepV where
 name:ByteArray
 what:Int
 early:Bool
structure BSt where
 have_:List FileV
 bad:List Bool
 steps:List StepV
 kept:List MemoryV
def inputsS (h:List FileV) (r:RuleV):List FileV:=r.inputs.filterMap fun p=>h.find? (eqp p)
def hasOutS (x:ResultV) (outs:List ByteArray):Bool:=decide (x.files.map FileV.path=outs)
def memStands (r:RuleV) (m:MemoryV) (F:List FileV):Bool:=m.action.toList == (digestS (actTextL r.action)).toList && (looksOfErr m.looks F == 0 && sameLooksS m.looks (looksOfS m.looks F))
def findM (l:List MemoryV) (n:ByteArray):Option MemoryV:=l.find? fun y=>y.name.toList == n.toList
def putM (l:List MemoryV) (x:MemoryV):List MemoryV:=putBy MemoryV.name l x
def memOf (r:RuleV) (x:ResultV):MemoryV:=⟨r.name,digestS (actTextL r.action),x.looks,x⟩
def sameF (x y:FileV):Bool:=x.path.toList == y.path.toList && (x.run == y.run && x.bytes == y.bytes)
def sameFsS:List FileV→List FileV→Bool
 | [],[]=>true
 | x :: a,y :: b=>sameF x y && sameFsS a b
 | _,_=>false
structure OutV where
 what:Int
 early:Bool
 res:Option ResultV
 fault:Int
def execOut (r:RuleV) (F:List FileV) (m:Option MemoryV):OutV :=
 if bothErr r.action F≠0 then ⟨0,false,none,bothErr r.action F⟩
 else if (execS r.action F).code≠0 then ⟨3,false,none,0⟩
 else ⟨1,m.any fun y=>sameFsS y.result.files (execS r.action F).files,some (execS r.action F),0⟩
def outS (g:Graph) (mem:List MemoryV) (r:RuleV) (k:Nat) (s:BSt):OutV :=
 if (needAt g k).any (isOf s.bad) then ⟨4,false,none,0⟩
 else match findM mem r.name with
  | some m=>if memStands r m (inputsS s.have_ r) then ⟨2,false,some m.result,0⟩ else execOut r (inputsS s.have_ r) (some m)
  | none=>execOut r (inputsS s.have_ r) none
def takeS (r:RuleV) (k:Nat) (o:OutV) (s:BSt):BSt :=
 ⟨o.res.elim s.have_ fun x=>x.files.foldl putFileS s.have_,if o.res.isNone then s.bad.set k true else s.bad,s.steps ++ [⟨r.name,o.what,o.early⟩],o.res.elim s.kept fun x=>putM s.kept (memOf r x)⟩
def stepsS (l:List RuleV) (mem:List MemoryV):List Nat→BSt→Int × BSt
 | [],s=>(0,s)
 | k :: ks,s=>match l[k]? with
   | none=>stepsS l mem ks s
   | some r=>if (outS (needsS l) mem r k s).fault=0 then stepsS l mem ks (takeS r k (outS (needsS l) mem r k s) s) else ((outS (needsS l) mem r k s).fault,s)
def servesP (l:List RuleV) (y:MemoryV):Bool:=match idxName l y.name with
 | none=>false
 | some k=>(l[k]?).any fun r=>hasOutS y.result r.action.outputs
def servesS (l:List RuleV) (m:List MemoryV):List MemoryV:=m.filter (servesP l)
def startB (l:List RuleV) (files:List FileV) (m:List MemoryV) (order:List Nat):BSt :=
 ⟨files,List.replicate l.length false,[],m.filter fun y=>!order.any fun k=>(nameAt l k).toList == y.name.toList⟩
def outClash (l:List RuleV) (F:List FileV):Bool:=F.any fun x=>(List.range l.length).any fun k=>(outsAt l k).any fun o=>o.toList == x.path.toList || (liesS o x.path || liesS x.path o)
def buildErr0 (l:List RuleV) (files:List FileV) (wanted:List ByteArray) (m:List MemoryV):Int :=
 if planErr l wanted≠0 then planErr l wanted else if checkFilesS files≠0 then checkFilesS files else if checkMemoryS m≠0 then checkMemoryS m else if outClash l files then 12 else 0
def takeB (l:List RuleV) (s:BSt) (acc:List FileV) (n:ByteArray):List FileV:=match idxName l n with
 | none=>acc
 | some k=>if isOf s.bad k then acc else (findM s.kept n).elim acc fun m=>m.result.files.foldl putFileS acc
def filesB (l:List RuleV) (wanted:List ByteArray) (s:BSt):List FileV:=wanted.foldl (takeB l s) []
def endErr (l:List RuleV) (wanted:List ByteArray) (s:BSt):Int:=if checkFilesS (filesB l wanted s)≠0∨500 < s.kept.length then 2 else 0
def runB (l:List RuleV) (files:List FileV) (m:List MemoryV) (order:List Nat):Int × BSt:=stepsS l (servesS l m) order (startB l files m order)
def buildErr (l:List RuleV) (files:List FileV) (wanted:List ByteArray) (m:List MemoryV) (order:List Nat):Int :=
 if buildErr0 l files wanted m≠0 then buildErr0 l files wanted m else if (runB l files m order).1≠0 then (runB l files m order).1 else endErr l wanted (runB l files m order).2
theorem findM_by (l:List MemoryV) (n:ByteArray):findM l n=findBy MemoryV.name l n.data.toList:=by
 unfold findM findBy
 congr 1
 funext y
 rw [ByteArray.toList_eq,ByteArray.toList_eq]
theorem findM_put (l:List MemoryV) (x:MemoryV) (n:ByteArray):findM (putM l x) n=if n.toList=x.name.toList then some x else findM l n:=by
 rw [findM_by,findM_by,putM,find_put]
 simp only [ByteArray.toList_eq]
section
variable {l:List RuleV} {mem:List MemoryV} {k:Nat} {ks:List Nat} {s:BSt} {r:RuleV}
theorem steps_go (hr:l[k]?=some r) (h:(outS (needsS l) mem r k s).fault=0):stepsS l mem (k :: ks) s=stepsS l mem ks (takeS r k (outS (needsS l) mem r k s) s):=by
 rw [stepsS,hr]; simp only [h,if_true]
theorem steps_stop (hr:l[k]?=some r) (h:¬ (outS (needsS l) mem r k s).fault=0):stepsS l mem (k :: ks) s=((outS (needsS l) mem r k s).fault,s):=by
 rw [stepsS,hr]; simp only [h,if_false]
end
end Go.Proofs.Sm
namespace Go.Proofs.Sm
open Go.RowKit
def nearS (l:List RuleV) (p:ByteArray):Bool:=(List.range l.length).any fun k=>(outsAt l k).any fun o=>o.toList == p.toList || (liesS o p || liesS p o)
theorem outClash_near (l:List RuleV) (F:List FileV):outClash l F=F.any fun x=>nearS l x.path:=rfl
theorem near_is (l:List RuleV) (p:ByteArray):nearS l p=((decide (p.data.toList∈outK l l.length) || decide (p.data.toList∈outOK l l.length)) || (aboveS p).any fun z=>decide (z.data.toList∈outK l l.length)):=by
 rw [Bool.eq_iff_iff]
 simp only [nearS,List.any_eq_true,Bool.or_eq_true,decide_eq_true_eq,List.mem_range,lies_above,outK,outOK,overOf,dataOf,List.mem_flatMap,List.mem_map,beq_iff_eq,ByteArray.toList_eq]
 constructor
 ·rintro ⟨k,hk,o,ho,h | ⟨y,hy,he⟩ | ⟨y,hy,he⟩⟩
  ·exact .inl (.inl ⟨k,hk,o,ho,h⟩)
  ·exact .inl (.inr ⟨k,hk,o,ho,y,hy,he⟩)
  ·exact .inr ⟨y,hy,k,hk,o,ho,he.symm⟩
 ·rintro ((⟨k,hk,o,ho,h⟩ | ⟨k,hk,o,ho,y,hy,he⟩) | ⟨y,hy,k,hk,o,ho,he⟩)
  ·exact ⟨k,hk,o,ho,.inl h⟩
  ·exact ⟨k,hk,o,ho,.inr (.inl ⟨y,hy,he⟩)⟩
  ·exact ⟨k,hk,o,ho,.inr (.inr ⟨y,hy,he.symm⟩)⟩
theorem builtWith1 (S0:List (List UInt8)) (m0 n g:Nat) (z:ByteArray) (w:World) (c0:w.cell? ⟨g,0,none⟩=some (.map (some m0))) (h0:MapIs Tryz.prog 9 w m0 n (setOf S0)) (hz:z.size≤maxLen) :
 Calls Tryz.prog 62 #[.string z,.pointer (some ⟨g,0,none⟩)] w fun e w'=>e=.returned (.bool (decide (z.data.toList∈S0)))∧Below w.heap.size w w':=by
 have l0:=set_look h0 hz
 generalize decide (z.data.toList∈S0)=b at *
 go_enter Tryz.func62,Tryz.ntmps62
 go_wp2
 go_ret
 exact ⟨rfl,Below.refl _ _⟩
end Go.Proofs.Sm
