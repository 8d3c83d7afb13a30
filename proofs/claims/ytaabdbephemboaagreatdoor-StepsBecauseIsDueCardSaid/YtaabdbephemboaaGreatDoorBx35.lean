/- Words and walks that the claims share, part 35. -/
import Derived.Test.YtaabdbephemboaaGreatDoorBx21
import Derived.Test.YtaabdbephemboaaGreatDoorBx22
import Derived.Test.YtaabdbephemboaaGreatDoorBx29
import Derived.Test.YtaabdbephemboaaGreatDoorBx31
import Derived.Test.YtaabdbephemboaaGreatDoorBx32
import Derived.StillTailTactics
namespace Go.Proofs.Sm
open Go.RowKit Go.Maps Go.Sort Go.Shelf
theorem mems_keys {w:World} {S:Nat→Prop} {l:List MemoryV} {f:List UInt8→Option Value} {ks:List ByteArray} (h:KeysAre f ks) (hf:∀ key,match keyM l key with
 | none=>f key=none
 | some x=>∃ v,f key=some v∧MemVal w S x v) (hl:ByPath MemoryV.name l) (hs:∀ x∈l,x.name.size≤maxLen):ks=l.map MemoryV.name :=
 keys_by h hl (fun k=>by
  have h1:=hf k
  unfold keyM at h1
  cases hk:findBy MemoryV.name l k with
  | none=>rw [hk] at h1; simp only at h1; rw [h1]; rfl
  | some x=>rw [hk] at h1; obtain ⟨v,h1,_⟩:=h1; rw [h1]; rfl) hs
theorem keys_mapstringsmithyardapiMemory (b:Nat) (w:World):Calls Tryz.prog 70 #[.map (some b)] w fun e w'=>e=.returned (.func (.func 106) #[] #[.pointer (some ⟨w.heap.size,0,none⟩)])∧w'=w.alloc (.cells #[.map (some b)] 98) :=
 (callsIn_wide (n:=5)).1 (AnyZ.keys_in Tryz.keys_mapstringsmithyardapiMemory Fence.wide 5 trivial rfl (some b) w)
set_option maxHeartbeats 1000000 in
theorem sorted_mapMemory (b n:Nat) (f:List UInt8→Option Value) (w:World) (h:MapIs Tryz.prog 9 w b n f) (hn:n≤1000000000) :
 Calls Tryz.prog 67 #[.func (.func 106) #[] #[.pointer (some ⟨w.heap.size,0,none⟩)]] (w.alloc (.cells #[.map (some b)] 98)) fun e w' =>
  ∃ ks A c,e=.returned (.slice A ks.length c)∧KeysAre f ks∧ks.length≤c∧c≤maxLen∧Sl w' (fun k=>w.heap.size≤k∧k < w'.heap.size) A ks.length ks∧Below w.heap.size w w':=by
 obtain ⟨D0,hown,hsz,hnd,hmem,hlen⟩:=h.keys Tryz.underlying9
 have hbl:=hown.lt
 have hseq:SeqGives Fence.wide 2 Tryz.prog 106 #[.pointer (some ⟨w.heap.size,0,none⟩)] encStr (fun ss=>ss.Perm (strKeys D0)) (Maps.size D0) (w.alloc (.cells #[.map (some b)] 98)) :=
  AnyZ.keys_gives (ρ:=Tryz.keys_mapstringsmithyardapiMemory_ren) { Tryz.keys_mapstringsmithyardapiMemory with } Fence.wide _ trivial rfl (by omega) w.heap.size b n D0 _ (by simp) (by simp) (by
   obtain ⟨es,clock,hb,Ft,hs,hD⟩:=hown
   exact ⟨es,clock,(Below.heap_alloc _ _ b hbl).trans hb,Ft,hs,hD⟩)
 have hm1:Maps.size D0≤maxLen:=by unfold maxLen; omega
 have cS:=AnyZ.sorted_in Tryz.sorted_string Fence.wide 5 trivial trivial trivial trivial rfl (by omega) (sorts_string _) (enters_of Tryz.func102 (by kernel_rfl) rfl) 106 #[.pointer (some ⟨w.heap.size,0,none⟩)] trivial (enters_of Tryz.func106 (by kernel_rfl) rfl) _ _ hm1 (by omega) _ hseq
 change CallsIn _ _ Tryz.prog 67 _ _ _ at cS
 refine (callsIn_wide.1 cS).mono ?_
 rintro e w' ⟨v,ss,rfl,hp,hrow,_,hb⟩
 obtain ⟨h1,h2⟩:=keysAre_of hp hnd hmem hlen
 have hl:ss.length=((ss.mergeSort leB).map fun x=>(⟨x.toArray⟩:ByteArray)).length:=by simp
 generalize hks:((ss.mergeSort leB).map fun x=>(⟨x.toArray⟩:ByteArray))=ks at h1 h2 hl
 have hrow2:w'.ownsRow (w.alloc (.cells #[.map (some b)] 98)).heap.size 9 1 v ks.length (ks.flatMap fun x=>[Value.string x]):=by
  rw [flat_one,←h2,←hl]
  exact hrow
 have hrk:RowK w' (w.heap.size + 1) 9 (fun _=>False) v ks:=⟨fun _ h=>h.elim,ks.map fun x=>[Value.string x],by simp,by rw [←List.flatMap_def]; rw [World.size_alloc] at hrow2; exact hrow2,fun i x r hx hr=>by
  rw [List.getElem?_map,hx] at hr
  cases hr
  exact ⟨rfl,h1.size x (List.mem_of_getElem? hx)⟩⟩
 obtain ⟨A,c,rfl,h3,h4,h5⟩:=hrk.slFrom
 exact ⟨ks,A,c,rfl,h1,h3,h4,h5.more (fun k hk=>⟨by omega,hk.2⟩),((Below.refl _ w).alloc (Nat.le_refl _) _).trans (hb.mono (by simp))⟩
end Go.Proofs.Sm
namespace Go.Proofs.Sm
open Go.RowKit Go.Maps
theorem Bd.reblk {W w w':World} {p:BdP} {n M:Nat} {mem:List MemoryV} {u uf um:Value} {s:BSt} (h:Bd W w p n mem u M s) (hk:Kp (fun j=>j=p.g) w w') (hg:Arr w' p.g 101 (bdCells { p with uf:=uf,um:=um } n u)):Bd W w' { p with uf:=uf,um:=um } n mem u M s:=by
 have hne:∀ j,j < w.heap.size→j≠p.g→w'.heap[j]?=w.heap[j]?:=fun j h1 h2=>hk.block j h1 h2
 have hK:∀ j,Off (BdX p u) w j→w'.heap[j]?=w.heap[j]?:=fun j hj=>hne j hj.2 fun e=>hj.1 (.inl e)
 have ho:∀ j,Off (BdX p u) w j→Off (BdX p u) w' j:=fun j hj=>off_of hj hk.size
 obtain ⟨nm,m1,m2⟩:=h.mem
 have d:=h.dif
 exact ⟨h.low.trans (hk.below (fun j hj e=>by have:=d.g.1; have e:j=p.g:=e; omega) h.low.size),hg,(h.hav.keep (hne _ h.hav.lt (Ne.symm d.g.2.1)) hK).more ho,⟨nm,m1,(m2.keep (hne _ m2.lt (Ne.symm d.g.2.2.1)) hK).more ho⟩,h.bad.keep (hne _ h.bad.lt (Ne.symm d.g.2.2.2.1)),(h.kept.keep (hne _ h.kept.lt (Ne.symm d.g.2.2.2.2.1)) hK).more ho,
  h.steps.keep hk.size (fun _ hk=>hk.elim) fun g e=>hne g (h.steps.kind g e).2.lt (fun e2=>d.g.2.2.2.2.2 (by rw [←e2]; exact e)),⟨d.g,d.mh,d.mm,d.gb,d.mv⟩,h.byH,h.byK,h.okK,h.okH,h.size,h.many⟩
structure KeptAt (w:World) (S:Nat→Prop) (mk:Nat) (kept:List MemoryV) (name:ByteArray) (y:MemoryV) (B1:Option Addr) (m1 d1:Nat) (B2:Option Addr) (m2 d2:Nat) (B3:Option Addr) (m3 d3:Nat):Prop where
 look:∀ w',w'.heap[mk]?=w.heap[mk]?→(Instr.lookup 98 (.map (some mk)) (.string name) false).run Tryz.prog w'=.ok (memVal y B1 m1 d1 B2 m2 d2 B3 m3 d3) w'
 files:((findM kept name).elim [] fun m=>m.result.files)=y.result.files
 own:findM kept name=none∨findM kept name=some y∧Rep.rep w S y [.string y.name,.string y.action,.slice B1 m1 d1,.int .i64 y.result.code,.string y.result.text,.slice B2 m2 d2,.slice B3 m3 d3,.int .i64 y.result.command]
 sl:Sl w S B2 m2 y.result.files
theorem kept_at {w:World} {S:Nat→Prop} {mk nk:Nat} {kept:List MemoryV} {name:ByteArray} (h:MemsIn Tryz.prog 9 w S mk nk kept) (hn:name.size≤maxLen):∃ y B1 m1 d1 B2 m2 d2 B3 m3 d3,KeptAt w S mk kept name y B1 m1 d1 B2 m2 d2 B3 m3 d3:=by
 have hl:=h.look Tryz.underlying9 map_mem_under mem_zero hn
 cases hf:kept.find? (fun y=>y.name.toList == name.toList) with
 | none =>
   rw [hf] at hl
   exact ⟨noMem,none,0,0,none,0,0,none,0,0,hl,by rw [show findM kept name=none from hf]; rfl,.inl hf,Sl.nil⟩
 | some x =>
   rw [hf] at hl
   obtain ⟨v,⟨A1,n1,c1,A2,n2,c2,A3,n3,c3,rfl,z,zc,s1,s2,s3⟩,hl⟩:=hl
   exact ⟨x,A1,n1,c1,A2,n2,c2,A3,n3,c3,hl,by rw [show findM kept name=some x from hf]; rfl,.inr ⟨hf,A1,n1,c1,A2,n2,c2,A3,n3,c3,rfl,z,zc,s1,s2,s3⟩,s2⟩
theorem takeB_bad {l:List RuleV} {s:BSt} {acc:List FileV} {n:ByteArray} {k:Nat} (hi:idxName l n=some k) (hb:isOf s.bad k=true):takeB l s acc n=acc:=by rw [takeB,hi]; simp only [hb,if_true]
theorem takeB_good {l:List RuleV} {s:BSt} {acc:List FileV} {n:ByteArray} {k:Nat} (hi:idxName l n=some k) (hb:isOf s.bad k=false):takeB l s acc n=((findM s.kept n).elim [] fun m=>m.result.files).foldl putFileS acc:=by
 rw [takeB,hi]
 simp only [hb,Bool.false_eq_true,if_false]
 cases findM s.kept n <;> rfl
theorem field_res (y:MemoryV) (B1:Option Addr) (m1 d1:Nat) (B2:Option Addr) (m2 d2:Nat) (B3:Option Addr) (m3 d3:Nat) (W:World):(Instr.field 43 (.agg #[.string y.name,.string y.action,.slice B1 m1 d1,.int .i64 y.result.code,.string y.result.text,.slice B2 m2 d2,.slice B3 m3 d3,.int .i64 y.result.command]) 3).run Tryz.prog W=.ok (.agg #[.int .i64 y.result.code,.string y.result.text,.slice B2 m2 d2,.slice B3 m3 d3,.int .i64 y.result.command]) W:=by kernel_rfl
theorem field_files (a e:Int) (b:ByteArray) (B2:Option Addr) (m2 d2:Nat) (B3:Option Addr) (m3 d3:Nat) (W:World):(Instr.field 41 (.agg #[.int .i64 a,.string b,.slice B2 m2 d2,.slice B3 m3 d3,.int .i64 e]) 2).run Tryz.prog W=.ok (.slice B2 m2 d2) W:=by kernel_rfl
theorem puts_from {x:FileV}:∀ {fs h:List FileV},x∈fs.foldl putFileS h→x∈h∨x∈fs
 | [],_,hx=>.inl hx
 | y :: fs,h,hx=>by
   rw [List.foldl_cons] at hx
   rcases puts_from hx with hx | hx
   ·rcases put_mem_by (key:=FileV.path) hx with hx | rfl
    ·exact .inl hx
    ·exact .inr (List.mem_cons_self ..)
   ·exact .inr (List.mem_cons_of_mem _ hx)
theorem takeB_from {l:List RuleV} {s:BSt} {acc:List FileV} {n:ByteArray} {x:FileV} (hx:x∈takeB l s acc n):x∈acc∨∃ y∈s.kept,x∈y.result.files:=by
 unfold takeB at hx
 split at hx
 ·exact .inl hx
 ·split at hx
  ·exact .inl hx
  ·cases hf:findM s.kept n with
   | none=>rw [hf] at hx; exact .inl hx
   | some y =>
     rw [hf] at hx
     rcases puts_from hx with hx | hx
     ·exact .inl hx
     ·exact .inr ⟨y,(findM_some hf).1,hx⟩
theorem filesB_from {l:List RuleV} {s:BSt} {x:FileV}:∀ {ws:List ByteArray} {acc:List FileV},x∈ws.foldl (takeB l s) acc→x∈acc∨∃ y∈s.kept,x∈y.result.files
 | [],_,hx=>.inl hx
 | n :: ws,acc,hx=>by
   rw [List.foldl_cons] at hx
   rcases filesB_from hx with hx | hx
   ·exact takeB_from hx
   ·exact .inr hx
def GotPost (W:World) (p:BdP) (n:Nat) (mem:List MemoryV) (u:Value) (M:Nat) (s:BSt) (l:List RuleV) (ws:List ByteArray) (e:Ending) (w':World):Prop :=
 ∃ A1 n1 c1 A2 n2 c2 A3 n3 c3,e=.returned (.tuple #[.agg #[.slice A1 n1 c1,.slice A2 n2 c2,.slice A3 n3 c3],.int .i64 (endErr l ws s)]) ∧
  (endErr l ws s=0→Sl w' (Lt w'.heap.size) A1 n1 s.steps∧Sl w' (Lt w'.heap.size) A2 n2 (filesB l ws s)∧Sl w' (Lt w'.heap.size) A3 n3 s.kept∧∃ uf um,Bd W w' { p with uf:=uf,um:=um } n mem u M s) ∧
  (endErr l ws s≠0→n1=0∧n2=0∧n3=0)∧Below W.heap.size W w'
set_option maxHeartbeats 0 in
set_option maxRecDepth 100000 in
theorem steps_built (P0:Nat) (W:World) (p:BdP) (A:Option Addr) (n c:Nat) (l:List RuleV) (mem:List MemoryV) (u:Value) (M:Nat) (s:BSt) (C:Option Addr) (nw cw:Nat) (ws:List ByteArray) (w:World) (hE:Env2 W) (hpl:PlanAt P0 W p.gp A n c l) (hsl:Sl W (Lt W.heap.size) A n l) (hc0:checkRulesS l=0)
 (hws:Sl w (Lt w.heap.size) C nw ws) (hnw:nw≤500) (hw0:∀ x∈ws,∃ k,idxName l x=some k) (hM:M≤1000) (hu:p.uf=.slice none 0 0∧p.um=.slice none 0 0) (h:Bd W w p n mem u M s) :
 Calls Tryz.prog 35 #[.pointer (some ⟨p.g,0,none⟩),.slice C nw cw] w (GotPost W p n mem u M s l ws):=by
 have HL:=Lib.hid hsl.1
 have HW:=Lib.hid hws.1
 have hm9:nw≤9223372036854775807:=by omega
 obtain ⟨hso,hl5⟩:=rules_sorted hc0
 have HSo:=Lib.hid hso
 have hn5:n≤500:=by have:=HL.out; omega
 have HW0:=Lib.hid hw0
 have hmm:=@run_makeMap Tryz.prog
 have HBd:=Lib.hid (fun (w':World) (hb:Below w.heap.size w w')=>h.call hb)
 have HPl:=Lib.hid (fun (w':World) (hb:Below W.heap.size W w')=>hpl.call hb)
 have HSl:=Lib.hid (fun (w':World) (hb:Below W.heap.size W w')=>sl_call hsl hb (Nat.le_refl _))
 have hkept:=h.kept
 have hgp:p.gp < W.heap.size:=hpl.lt
 have hb1:Below w.heap.size w ((w.alloc (.cells #[.slice none 0 0,.slice none 0 0,.slice none 0 0] 28)).alloc (.map #[] 0)):=fr_alloc (fr_alloc (fr_refl w) _) _
 have hf1:FilesIn Tryz.prog 9 ((w.alloc (.cells #[.slice none 0 0,.slice none 0 0,.slice none 0 0] 28)).alloc (.map #[] 0)) (Off (BdX p u) w) (w.heap.size + 1) 0 []:=by
  have:=FilesIn.made (P:=Tryz.prog) (k:=9) (w.alloc (.cells #[.slice none 0 0,.slice none 0 0,.slice none 0 0] 28)) (Off (BdX p u) w)
  rwa [World.size_alloc] at this
 have hR1:Arr ((w.alloc (.cells #[.slice none 0 0,.slice none 0 0,.slice none 0 0] 28)).alloc (.map #[] 0)) w.heap.size 28 [.slice none 0 0,.slice none 0 0,.slice none 0 0]:=by
  have:Arr (w.alloc (.cells #[.slice none 0 0,.slice none 0 0,.slice none 0 0] 28)) w.heap.size 28 [.slice none 0 0,.slice none 0 0,.slice none 0 0]:=heap_alloc_new w _
  exact this.call (fr_alloc (fr_refl _) _)
 go_enter Tryz.func35,Tryz.ntmps35
 go_wp2
 generalize hw1:(w.alloc (.cells #[.slice none 0 0,.slice none 0 0,.slice none 0 0] 28)).alloc (.map #[] 0)=w1 at *
 clear hw1 hmm
 obtain ⟨mf,hmf⟩:∃ mf,mf=w.heap.size + 1:=⟨_,rfl⟩
 rw [←hmf] at hf1 ⊢
 have hmfw:w.heap.size < mf:=by omega
 have hmfl:mf < w1.heap.size:=hf1.lt
 clear hmf
 have HB1:=Lib.hid hb1
 have HK0:=Lib.hid (fun w' (hk:Kp (fun j=>j=mf) w1 w')=>(show Below w.heap.size w w' from hb1.trans (hk.below (fun k hk (e:k=mf)=>by omega) hb1.size)))
 go_loopw [19] (fun i wr=>∃ (t:Nat) (acc:List FileV),t≤nw∧i=.int .i64 t∧acc=(ws.take t).foldl (takeB l s) []∧FilesIn Tryz.prog 9 wr (Off (BdX p u) w) mf acc.length acc∧ByPath FileV.path acc∧(∀ x∈acc,x.path.size≤maxLen)∧acc.length≤t * 1000∧Kp (fun j=>j=mf) w1 wr) (fun i _=>nw - (intOf i).toNat)
 case atStart=>exact ⟨0,[],Nat.zero_le _,rfl,rfl,hf1,List.Pairwise.nil,fun _ h=>absurd h List.not_mem_nil,Nat.zero_le _,Kp.refl _ _⟩
 case round =>
  clear hf1
  obtain ⟨t,acc,ht,rfl,hacc,hfi,hby,hsz,hlen,hkp⟩:=hrel
  have hbel:=HK0.out wr hkp
  have hbd:=HBd.out wr hbel
  have HAc:=Lib.hid hacc; clear hacc
  by_cases hlt:t < nw
  ·have htI:(t:Int) < (nw:Int):=by omega
   obtain ⟨b,o,x,rfl,hb,hx,hxs,d0⟩:=(hws.keep (keep_lt hbel)).str hlt
   obtain ⟨k,hi⟩:=HW0.out x (List.mem_of_getElem? hx)
   have hkn:k < n:=by have:=(idxName_some hi).1; rwa [HL.out] at this
   have hkI:(k:Int) < (n:Int):=by omega
   have HT:=Lib.hid (show (ws.take (t + 1)).foldl (takeB l s) []=takeB l s acc x by rw [List.take_add_one,hx,List.foldl_append,HAc.out]; rfl)
   have hlow:=hbd.low
   obtain ⟨_,mp,np,D,dd,hP,_,_,_,_⟩:=HPl.out wr hlow
   have g0:=hbd.blk.cell (i:=0) rfl
   have g3:=hbd.blk.cell (i:=3) rfl
   have g7:=hbd.blk.cell (i:=7) rfl
   have hgl:=hbd.blk.lt
   have cB:=hbd.bad.cell (i:=k) (v:=.bool (isOf s.bad k)) (by
    obtain ⟨v,hv⟩:=at_lt (l:=s.bad) (k:=k) (by rw [hbd.size]; exact hkn)
    rw [List.getElem?_map,hv,isOf,hv]; cases v <;> rfl)
   have hgbl:=hbd.bad.lt
   have pc:=hP.cell (i:=0) rfl
   have HF:=Lib.hid (steps_find p.gp A n c l x wr pc (HSl.out wr hlow) HSo.out hn5)
   rw [hi,numOr_some] at HF
   obtain ⟨y,B1,m1,d1,B2,m2,d2,B3,m3,d3,hka⟩:=kept_at hkept hxs
   have hyl:y.result.files.length≤1000:=by
    rcases hka.own with h1 | h1
    ·have:=hka.files; rw [h1] at this
     have h2:y.result.files=[]:=this.symm
     rw [h2]; exact Nat.zero_le _
    ·exact (h.okK y (findM_some h1.1).1).2
   have hgbw:p.gb < w.heap.size:=h.bad.lt
   have hmkw:p.mv < w.heap.size:=hkept.lt
   have hgw:p.g < w.heap.size:=h.blk.lt
   clear hbd hP pc
   go_wp2_with fail
   refine HF.out.mono ?_
   rintro e w3 ⟨rfl,hb3⟩
   have hbel3:=fr_call hbel hb3
   have k3:=(hb3.cell (p:=⟨p.g,3,none⟩) hgl).trans g3
   have k7:=(hb3.cell (p:=⟨p.g,7,none⟩) hgl).trans g7
   have kB:=(hb3.cell (p:=⟨p.gb,k,none⟩) hgbl).trans cB
   have hgl3:p.g < w3.heap.size:=Nat.lt_of_lt_of_le hgl hb3.size
   have hgb3:p.gb < w3.heap.size:=Nat.lt_of_lt_of_le hgbl hb3.size
   have hk3:Kp (fun j=>j=mf) w1 w3:=hkp.call hb3
   have hfi3:=hfi.call hb3 (fun j hj=>by have:=hj.2; have:=hbel.size; omega)
   clear hfi hkp g0 g3 g7 cB HF hx d0
   rcases Bool.eq_false_or_eq_true (isOf s.bad k) with hbk | hbk
   ·have HN:=Lib.hid (HT.out.trans (takeB_bad hi hbk))
    rw [hbk] at kB
    go_wp2
    go_roundw
    case rel=>exact ⟨t + 1,acc,by omega,by go_num,HN.out.symm,hfi3,hby,hsz,by omega,hk3⟩
    case measure=>simp [intOf]; omega
   ·have HN:=Lib.hid (HT.out.trans ((takeB_good hi hbk).trans (by rw [hka.files])))
    rw [hbk] at kB
    have l0:=hka.look w3 (hbel3.block p.mv hmkw)
    unfold memVal at l0
    have ff1:=field_res y B1 m1 d1 B2 m2 d2 B3 m3 d3 w3
    have ff2:=field_files y.result.code y.result.command y.result.text B2 m2 d2 B3 m3 d3 w3
    have hm2:m2≤9223372036854775807:=hka.sl.2.1
    have hm1000:m2≤1000:=by rw [←hka.sl.1]; exact hyl
    have H2:=Lib.hid hka.sl.1
    have HSy:=Lib.hid hka.sl
    have HBy:=Lib.hid hby
    have HSz:=Lib.hid hsz
    clear HT hbk hka hby hsz
    go_wp2
    go_loopw [45] (fun i wz=>∃ (j:Nat) (acc2:List FileV),j≤m2∧i=.int .i64 j∧acc2=(y.result.files.take j).foldl putFileS acc∧FilesIn Tryz.prog 9 wz (Off (BdX p u) w) mf acc2.length acc2∧ByPath FileV.path acc2∧(∀ x∈acc2,x.path.size≤maxLen)∧acc2.length≤t * 1000 + j∧Kp (fun j=>j=mf) w1 wz) (fun i _=>m2 - (intOf i).toNat)
    case atStart=>exact ⟨0,acc,Nat.zero_le _,rfl,rfl,hfi3,HBy.out,HSz.out,by omega,hk3⟩
    case round =>
     clear hfi3 hk3 l0 ff1 ff2 k3 k7 kB hgl3 hgb3
     obtain ⟨j,acc2,hj,rfl,hacc2,hfz,hby2,hsz2,hlen2,hkz⟩:=hrel
     have HA2:=Lib.hid hacc2; clear hacc2
     have hbz:=HK0.out wr hkz
     by_cases hjl:j < m2
     ·have hjI:(j:Int) < (m2:Int):=by omega
      obtain ⟨b2,o2,z,A',n'',c'',rfl,hb2,hz,hzs,hnc,hcm,hsl',c0,c1,c2⟩:=(HSy.out.keep fun k hk=>hbz.block k hk.2).file hjl
      have HT2:=Lib.hid (show putFileS acc2 z=(y.result.files.take (j + 1)).foldl putFileS acc by rw [puts_more hz,HA2.out])
      have hbV:=fr_alloc (fr_refl wr) (.cells #[.string z.path,.bool z.run,.slice A' n'' c''] 78)
      have hfV:=hfz.call hbV (fun j hj=>by have:=hj.2; have:=hbz.size; omega)
      have hvV:FileVal (wr.alloc (.cells #[.string z.path,.bool z.run,.slice A' n'' c''] 78)) (Off (BdX p u) w) z (.agg #[.string z.path,.bool z.run,.slice A' n'' c'']):=(file_val hzs hnc hcm hsl').keep fun k hk=>hbV.block k (by have:=hk.2; have:=hbz.size; omega)
      obtain ⟨f,hf1,hput⟩:=hfV.store hvV
      have HPut:=Lib.hid hput
      have hkV:=hkz.call hbV
      have hmw:=hkz.size
      have hwz:=hbz.size
      have hVs:wr.heap.size≤(wr.alloc (.cells #[.string z.path,.bool z.run,.slice A' n'' c''] 78)).heap.size:=hbV.size
      clear hz hsl' hfz hfV hvV hput hbV
      go_wp2_with (at_mapUpdate; refine wpList_mapUpdate_is _ rfl _ _ _ 97 rfl Tryz.underlying9 map_file_under rfl hf1 (by unfold maxLen; omega) z.path hzs (.agg #[.string z.path,.bool z.run,.slice A' n'' c'']) rfl rfl ?_; intro w5 hm5 hg5)
      have hfi5:=(HPut.out w5 hm5 (fun k hk=>hg5.block k (by have:=hk.2; omega) (fun e=>by cases e; have:=hk.2; omega))).tight Tryz.underlying9 (byPath_put hby2 z)
      have hk5:=hkV.grown hg5 (fun j e=>.inl (by cases e; rfl))
      have hl5:(putFileS acc2 z).length≤acc2.length + 1:=put_le (key:=FileV.path) acc2 z
      have hby5:ByPath FileV.path (putFileS acc2 z):=byPath_put hby2 z
      have hsz5:∀ x∈putFileS acc2 z,x.path.size≤maxLen:=fun x hx=>by
       rcases put_mem_by (key:=FileV.path) hx with hx | rfl
       ·exact hsz2 x hx
       ·exact hzs
      clear hm5 hg5 hby2 hsz2
      go_wp2
      go_roundw
      case rel=>exact ⟨j + 1,putFileS acc2 z,by omega,by go_num,HT2.out,hfi5,hby5,hsz5,by omega,hk5⟩
      case measure=>simp [intOf]; omega
     ·obtain rfl:j=m2:=by omega
      rw [List.take_of_length_le (by rw [H2.out]; exact Nat.le_refl _)] at HA2
      have hyl2:j≤1000:=by rw [←H2.out]; exact hyl
      have HN2:=Lib.hid (show acc2=(ws.take (t + 1)).foldl (takeB l s) [] by rw [HA2.out,HN.out])
      go_wp2
      go_roundw
      case rel=>exact ⟨t + 1,acc2,by omega,by go_num,HN2.out,hfz,hby2,hsz2,by omega,hkz⟩
      case measure=>simp [intOf]; omega
  ·obtain rfl:t=nw:=by omega
   rw [List.take_of_length_le (by rw [HW.out]; exact Nat.le_refl _)] at HAc
   have hacc:acc=filesB l ws s:=HAc.out
   have HFb:=Lib.hid (fun x (hx:x∈acc)=>(show x.bytes.length≤100000000 from by
    rw [hacc] at hx
    rcases filesB_from hx with hx | ⟨y,hy,hx⟩
    ·exact absurd hx List.not_mem_nil
    ·exact (h.okK y hy).1.2.2.2 x hx))
   have HAcc:=Lib.hid hacc
   have hlA:acc.length≤500000:=by omega
   obtain ⟨f,hf1,hf2⟩:=id hfi
   have hmfr:=hfi.lt
   clear hacc HAc hbd
   go_wp2_with fail
   refine (keys_mapstringsmithyardapiFile mf wr).mono ?_
   rintro e w8' ⟨rfl,rfl⟩
   go_wp2_with fail
   refine (sorted_mapFile mf acc.length f wr hf1 (by omega)).mono ?_
   rintro e w7 ⟨ks2,A9,c9,rfl,hks,hc91,hc92,hs9,hb7⟩
   have hks3:ks2=acc.map FileV.path:=files_keys hks hf2 hby hsz
   have hkl2:ks2.length=acc.length:=by rw [hks3,List.length_map]
   have hbel7:=fr_call hbel hb7
   have hA7:=(h.call hbel7).blk
   unfold bdCells at hA7
   rw [hu.1,hu.2] at hA7
   have hR7:=(hR1.keep (hkp.block _ hR1.lt (show ¬ (w.heap.size=mf) by omega))).call hb7
   have hm7:=hf1.call hb7
   have hgw:p.g < w.heap.size:=h.blk.lt
   have hgl7:=hA7.lt
   have hm7':ks2.length≤9223372036854775807:=by omega
   have hz7:=hb7.size
   have hz17:=hbel7.size
   have hmf7:mf < w7.heap.size:=by omega
   have hne2:¬ (mf=p.g):=by omega
   have HKs2:=Lib.hid hks3
   have HN2:=Lib.hid hkl2
   have HF2:=Lib.hid (fun key x (hk:keyF acc key=some x)=>by have:=hf2 key; rw [hk] at this; exact this)
   have HBy:=Lib.hid hby
   have HKb:=Lib.hid (fun k (hk:Off (BdX p u) w k)=>(show k < w.heap.size∧k≠p.g from ⟨hk.2,fun e=>hk.1 (.inl e)⟩))
   have HBk:=Lib.hid (fun k (hk:Off (BdX p u) w k)=>hb7.block k (by have:=hk.2; have:=hbel.size; omega))
   have hrow7:RowK w7 w7.heap.size 78 (Off (BdX p u) w) (.slice none 0 0) ([]:List FileV):=RowK.nil.more (fun _ h=>h.elim) fun k hk=>by have:=hk.2; omega
   clear hks hks3 hf2 hfi hf1 hby hsz hkp hbel hb7 hkl2
   obtain ⟨i0',hi0',hz0',hz1',hz2'⟩:=info_parts file_info4
   go_wp2
   go_loopw [59] (fun i wr=>∃ (k:Nat) (vF:Value),k≤ks2.length∧i=.int .i64 k∧Arr wr p.g 101 [.pointer (some ⟨p.gp,0,none⟩),.map (some p.mh),.map (some p.mm),.slice (some ⟨p.gb,0,none⟩) n n,u,vF,.slice none 0 0,.map (some p.mv)]∧RowK wr w7.heap.size 78 (Off (BdX p u) w) vF (acc.take k)∧Kp (fun j=>j=p.g) w7 wr) (fun i _=>ks2.length - (intOf i).toNat)
   case atStart=>exact ⟨0,_,Nat.zero_le _,rfl,hA7,hrow7,Kp.refl _ _⟩
   case round =>
    clear hA7 hrow7
    obtain ⟨k,vF,hk,rfl,hA,hrow,hkp⟩:=hrel
    have hzr:=hkp.size
    by_cases hlt:k < ks2.length
    ·obtain ⟨b,o,x,rfl,hb,hx,hxs,e0⟩:=(hs9.keep fun j hj=>hkp.block j hj.2 (fun e:j=p.g=>by have:=hj.1; omega)).str hlt
     obtain ⟨y,hy,rfl⟩:=map_at (f:=FileV.path) (l:=acc) (by rw [←HKs2.out]; exact hx)
     have hkI:(k:Int) < (ks2.length:Int):=by omega
     obtain ⟨v,hfv,hfv2⟩:=HF2.out _ _ (keyF_at HBy.out hy)
     obtain ⟨hp0,Ay,ny,cy,rfl,hp1,hp2,hp3⟩:=hfv2
     have hmr:=MapIs.keep hm7 (w':=wr.drew) (hkp.block _ (MapIs.lt hm7) hne2)
     have hlk:(Instr.lookup 97 (.map (some mf)) (.string y.path) false).run Tryz.prog wr.drew=.ok (.agg #[.string y.path,.bool y.run,.slice Ay ny cy]) wr.drew:=by
      rw [hmr.look Tryz.underlying9 map_file_under (file_zero wr.drew) hp0,hfv]; rfl
     have hlen:(acc.take k).length=k:=by rw [List.length_take]; have:=HN2.out; omega
     obtain ⟨_,rows,hrows,hown,hrep⟩:=id hrow
     have HT:=Lib.hid (show acc.take (k + 1)=acc.take k ++ [y] by rw [List.take_add_one,hy]; rfl)
     have hrepy:Rep.rep wr (Off (BdX p u) w) y [.string y.path,.bool y.run,.slice Ay ny cy]:=⟨hp0,Ay,ny,cy,rfl,hp1,hp2,hp3.keep fun j hj=>(hkp.block j (by have:=(HKb.out j hj).1; omega) (HKb.out j hj).2).trans (HBk.out j hj)⟩
     have HJ:=Lib.hid (fun o w9 v' hg hown'=>row_more (o:=o) (w9:=w9) (v':=v') (i:=5) (r:=[.string y.path,.bool y.run,.slice Ay ny cy]) (y:=y) hA hrow (fun k hk=>⟨by have:=(HKb.out k hk).1; omega,(HKb.out k hk).2⟩) hrows hrep hrepy hkp hgl7 hg hown')
     rw [hlen] at hown HJ
     have H9:=Lib.hid (fun o=>show ((wr.alloc o).drew).ownsRow w7.heap.size 78 3 vF k rows.flatten from hown.alloc o)
     have H63:=Lib.hid (show k + 1≤maxLen by have:=HN2.out; unfold maxLen; omega)
     have H48:=Lib.hid (show (k + 1) * 48≤140737488355328 by have:=HN2.out; omega)
     have HB9:=Lib.hid (fun o=>show w7.heap.size≤(wr.alloc o).drew.heap.size from by have e:(wr.alloc o).drew.heap.size=wr.heap.size + 1:=World.size_alloc ..; omega)
     have v5:=hA.cell (i:=5) rfl
     have hrr:p.g < wr.heap.size:=by omega
     clear hx hy hmr hrow hrows hown hrep hA hb hlen hrepy hp3 hfv
     go_wp2
     go_region_law (first
      | (refine step_append_lies _ rfl _ _ 23 rfl w7.heap.size 78 i0' _ 3 48 Tryz.underlying23 hi0' hz0' hz1' hz2' rfl (by decide) _ k _ rfl (H9.out _) ⟨wr.heap.size,0,none⟩ 1 1 [.string y.path,.bool y.run,.slice Ay ny cy] rfl rfl (new_cells_d wr #[_,_,_] _) (three_ones rfl rfl rfl) (by decide) H63.out H48.out (HB9.out _) _ rfl ?_
         intro g' cap w9 hown' hgrow hat hlt'
         obtain ⟨hA9,hrow9,hA10,hk9⟩:=HJ.out _ _ _ hgrow hown'
         have u3:=hA9.cell (i:=5) rfl
         have uf:=hA9.frozen 5
         have ul:=hA9.lt))
     all_goals
      go_wp2
      go_roundw
      case rel=>exact ⟨k + 1,_,by omega,by go_num,hA10,by rw [HT.out]; exact hrow9,hk9⟩
      case measure=>simp [intOf]; omega
    ·obtain rfl:k=ks2.length:=by omega
     rw [List.take_of_length_le (by have:=HN2.out; omega)] at hrow
     obtain ⟨A1,c1,rfl,h11,h12,hs1⟩:=RowK.slNew (w:=w7) (S:=fun j=>j < w7.heap.size∧j≠p.g∧j≠w.heap.size) hrow fun k hk=>.inl ⟨by have:=(HKb.out k hk).1; omega,(HKb.out k hk).2,by have:=(HKb.out k hk).1; omega⟩
     have hs1':Sl wr (fun j=>j < wr.heap.size∧j≠p.g∧j≠w.heap.size) A1 acc.length acc:=hs1.more fun j hj=>⟨hj.2,by
      rcases hj.1 with h1 | h1
      ·exact h1.2
      ·omega⟩
     have v5:=hA.cell (i:=5) rfl
     have hrr:=hA.lt
     have hRr:=hR7.keep (hkp.block _ hR7.lt (show ¬ (w.heap.size=p.g) by omega))
     have HO:=Lib.hid (blob_Own A1 acc.length c1 acc wr _ (fun _ hk=>hk.1) hs1' (by omega) HFb.out)
     have hkW:=(Kp.of (X:=fun j=>j=p.g) hbel7).trans hkp
     obtain ⟨f3,hm3,hf3⟩:=id h.kept
     have hkn:=h.many.2.2
     clear hs1 hs1' hrow hkp hs9 hm7
     go_wp2_with fail
     refine HO.out.mono ?_
     rintro e w10 ⟨A4,c4,rfl,h41,h42,hs4,hb10⟩
     have hA10:=hA.call hb10
     have u5:=hA10.cell (i:=5) rfl
     have f5:=hA10.frozen 5
     have l10:=hA10.lt
     obtain ⟨w11,hw11⟩:∃ w11,w11=w10.setCell ⟨p.g,5,none⟩ (.slice A4 acc.length c4):=⟨_,rfl⟩
     have hA11:Arr w11 p.g 101 [.pointer (some ⟨p.gp,0,none⟩),.map (some p.mh),.map (some p.mm),.slice (some ⟨p.gb,0,none⟩) n n,u,.slice A4 acc.length c4,.slice none 0 0,.map (some p.mv)]:=by rw [hw11]; exact hA10.set 5 (.slice A4 acc.length c4)
     have hkW11:Kp (fun j=>j=p.g) w w11:=by rw [hw11]; exact (hkW.call hb10).set (p:=⟨p.g,5,none⟩) (show p.g=p.g from rfl) _
     have hs11:Sl w11 (fun j=>j < w11.heap.size∧j≠p.g∧j≠w.heap.size) A4 acc.length acc:=by
      rw [hw11,size_setCell']
      exact (hs4.more (S':=fun j=>j < w10.heap.size∧j≠p.g∧j≠w.heap.size) fun j hj=>⟨hj.2,by
       rcases hj.1 with h1 | h1
       ·exact h1.2
       ·have:=hrr; have:=hRr.lt; omega⟩).keep fun j hj=>heap_setCell_other _ _ _ _ hj.2.1
     have hR11:Arr w11 w.heap.size 28 [.slice none 0 0,.slice none 0 0,.slice none 0 0]:=by rw [hw11]; exact (hRr.call hb10).other (p:=⟨p.g,5,none⟩) (show ¬ (w.heap.size=p.g) by omega) _
     have hm11:MapIs Tryz.prog 9 w11 p.mv s.kept.length f3:=MapIs.keep hm3 (hkW11.block _ (MapIs.lt hm3) (show ¬ (p.mv=p.g) from Ne.symm h.dif.g.2.2.2.2.1))
     have u7:=hA10.cell (i:=7) rfl
     have hz11:=hkW11.size
     clear hb10 hs4 hRr hkW
     go_wp2_with fail
     rw [←hw11]
     clear hw11 hA10 u5 f5 l10 u7
     refine (keys_mapstringsmithyardapiMemory p.mv w11).mono ?_
     rintro e w8' ⟨rfl,rfl⟩
     go_wp2_with fail
     refine (sorted_mapMemory p.mv s.kept.length f3 w11 hm11 (by omega)).mono ?_
     rintro e w12 ⟨ks3,A5,c5,rfl,hks,hc51,hc52,hs12,hb12⟩
     have hks4:ks3=s.kept.map MemoryV.name:=mems_keys hks hf3 h.byK fun x hx=>by
      obtain ⟨v,_,hv⟩:=(show ∃ v,f3 x.name.data.toList=some v∧MemVal w (Off (BdX p u) w) x v from by
       have:=hf3 x.name.data.toList
       rw [show keyM s.kept x.name.data.toList=some x from findBy_mem h.byK x hx] at this
       exact this)
      obtain ⟨_,_,_,_,_,_,_,_,_,_,h1,_⟩:=hv
      exact h1.1
     have hkl4:ks3.length=s.kept.length:=by rw [hks4,List.length_map]
     have hA12:=hA11.call hb12
     have hR12:=hR11.call hb12
     have hm12:=MapIs.call hm11 hb12
     have hz12:=hb12.size
     have hg12:=hA12.lt
     have hm12':ks3.length≤9223372036854775807:=by omega
     have hs12':=hs11.keep fun k hk=>hb12.block k hk.1
     have HKs3:=Lib.hid hks4
     have HN3:=Lib.hid hkl4
     have HF3:=Lib.hid (fun key x (hk:keyM s.kept key=some x)=>by have:=hf3 key; rw [hk] at this; exact this)
     have HBk3:=Lib.hid (fun k (hk:Off (BdX p u) w k)=>(hb12.block k (by have:=hk.2; omega)).trans (hkW11.block k hk.2 (show ¬ (k=p.g) from fun e=>hk.1 (.inl e))))
     have hkW12:=hkW11.call hb12
     have hrow12:RowK w12 w12.heap.size 43 (Off (BdX p u) w) (.slice none 0 0) ([]:List MemoryV):=RowK.nil.more (fun _ h=>h.elim) fun k hk=>by have:=hk.2; omega
     have hne3:¬ (p.mv=p.g):=Ne.symm h.dif.g.2.2.2.2.1
     clear hks hks4 hf3 hm3 hb12 hkl4 hA11 hR11 hm11 hkW11 hs11 hA
     obtain ⟨i1',hi1',hy0',hy1',hy2'⟩:=info_parts cl_memory_info
     go_wp2
     go_loopw [95] (fun i wr=>∃ (k:Nat) (vM:Value),k≤ks3.length∧i=.int .i64 k∧Arr wr p.g 101 [.pointer (some ⟨p.gp,0,none⟩),.map (some p.mh),.map (some p.mm),.slice (some ⟨p.gb,0,none⟩) n n,u,.slice A4 acc.length c4,vM,.map (some p.mv)]∧RowK wr w12.heap.size 43 (Off (BdX p u) w) vM (s.kept.take k)∧Kp (fun j=>j=p.g) w12 wr) (fun i _=>ks3.length - (intOf i).toNat)
     case atStart=>exact ⟨0,_,Nat.zero_le _,rfl,hA12,hrow12,Kp.refl _ _⟩
     case round =>
      clear hA12 hrow12
      obtain ⟨k,vM,hk,rfl,hA,hrow,hkp⟩:=hrel
      have hzr:=hkp.size
      by_cases hlt:k < ks3.length
      ·obtain ⟨b,o,x,rfl,hb,hx,hxs,e0⟩:=(hs12.keep fun j hj=>hkp.block j hj.2 (fun e:j=p.g=>by have:=hj.1; omega)).str hlt
       obtain ⟨y,hy,rfl⟩:=map_at (f:=MemoryV.name) (l:=s.kept) (by rw [←HKs3.out]; exact hx)
       have hkI:(k:Int) < (ks3.length:Int):=by omega
       obtain ⟨v,hfv,hfv2⟩:=HF3.out _ _ (show keyM s.kept y.name.data.toList=some y from findBy_mem h.byK y (List.mem_of_getElem? hy))
       obtain ⟨B1,m1,d1,B2,m2,d2,B3,m3,d3,rfl,hp0,hpc,hp1,hp2,hp3⟩:=hfv2
       have hmr:=MapIs.keep hm12 (w':=wr.drew) (hkp.block _ (MapIs.lt hm12) hne3)
       have hlk:(Instr.lookup 98 (.map (some p.mv)) (.string y.name) false).run Tryz.prog wr.drew=.ok (memVal y B1 m1 d1 B2 m2 d2 B3 m3 d3) wr.drew:=by
        rw [hmr.look Tryz.underlying9 map_mem_under (mem_zero wr.drew) hp0.1,hfv]; rfl
       unfold memVal at hlk
       have hlen:(s.kept.take k).length=k:=by rw [List.length_take]; have:=HN3.out; omega
       obtain ⟨_,rows,hrows,hown,hrep⟩:=id hrow
       have HT:=Lib.hid (show s.kept.take (k + 1)=s.kept.take k ++ [y] by rw [List.take_add_one,hy]; rfl)
       have hK3:∀ j,Off (BdX p u) w j→wr.heap[j]?=w.heap[j]?:=fun j hj=>(hkp.block j (by have:=(HKb.out j hj).1; omega) (HKb.out j hj).2).trans (HBk3.out j hj)
       have hrepy:Rep.rep wr (Off (BdX p u) w) y (memCells y B1 m1 d1 B2 m2 d2 B3 m3 d3):=⟨B1,m1,d1,B2,m2,d2,B3,m3,d3,rfl,hp0,hpc,hp1.keep hK3,hp2.keep hK3,hp3.keep hK3⟩
       have HJ:=Lib.hid (fun o w9 v' hg hown'=>row_more (o:=o) (w9:=w9) (v':=v') (i:=6) (r:=memCells y B1 m1 d1 B2 m2 d2 B3 m3 d3) (y:=y) hA hrow (fun k hk=>⟨by have:=(HKb.out k hk).1; omega,(HKb.out k hk).2⟩) hrows hrep hrepy hkp hg12 hg hown')
       rw [hlen] at hown HJ
       have H9:=Lib.hid (fun o=>show ((wr.alloc o).drew).ownsRow w12.heap.size 43 8 vM k rows.flatten from hown.alloc o)
       have H63:=Lib.hid (show k + 1≤maxLen by have:=HN3.out; unfold maxLen; omega)
       have H48:=Lib.hid (show (k + 1) * 136≤140737488355328 by have:=HN3.out; omega)
       have HB9:=Lib.hid (fun o=>show w12.heap.size≤(wr.alloc o).drew.heap.size from by have e:(wr.alloc o).drew.heap.size=wr.heap.size + 1:=World.size_alloc ..; omega)
       have v6:=hA.cell (i:=6) rfl
       have v7:=hA.cell (i:=7) rfl
       have hrr:p.g < wr.heap.size:=by omega
       clear hx hy hmr hrow hrows hown hrep hA hb hlen hrepy hp1 hp2 hp3 hfv hK3
       go_wp2
       go_region_law (first
        | (refine step_append_lies _ rfl _ _ 26 rfl w12.heap.size 43 i1' _ 8 136 Tryz.underlying26 hi1' hy0' hy1' hy2' rfl (by decide) _ k _ rfl (H9.out _) ⟨wr.heap.size,0,none⟩ 1 1 (memCells y B1 m1 d1 B2 m2 d2 B3 m3 d3) rfl rfl (new_cells_d wr #[_,_,_,_,_,_,_,_] _) (mem_cells_one y B1 m1 d1 B2 m2 d2 B3 m3 d3) (by decide) H63.out H48.out (HB9.out _) _ rfl ?_
           intro g' cap w9 hown' hgrow hat hlt'
           obtain ⟨hA9,hrow9,hA10,hk9⟩:=HJ.out _ _ _ hgrow hown'
           have u3:=hA9.cell (i:=6) rfl
           have uf:=hA9.frozen 6
           have ul:=hA9.lt))
       all_goals
        go_wp2
        go_roundw
        case rel=>exact ⟨k + 1,_,by omega,by go_num,hA10,by rw [HT.out]; exact hrow9,hk9⟩
        case measure=>simp [intOf]; omega
      ·obtain rfl:k=ks3.length:=by omega
       rw [List.take_of_length_le (by have:=HN3.out; omega)] at hrow
       obtain ⟨A6,c6,rfl,h61,h62,hs6⟩:=RowK.slNew (w:=w12) (S:=fun j=>j < w.heap.size) hrow fun k hk=>.inl (HKb.out k hk).1
       have hgne:¬ (w.heap.size=p.g):=by omega
       have hRw:=hR12.keep (hkp.block _ hR12.lt hgne)
       have hkA:=hkW12.trans hkp
       have hlowA:Below W.heap.size W wr:=h.low.trans (hkA.below (fun j hj (e:j=p.g)=>by have:=h.dif.g.1; omega) h.low.size)
       have hsF:Sl wr (fun j=>j < wr.heap.size∧j≠w.heap.size) A4 acc.length acc:=(hs12'.keep fun j hj=>hkp.block j (by have:=hj.1; omega) hj.2.1).more fun j hj=>⟨by have:=hj.1; omega,hj.2.2⟩
       have hst:RowK wr W.heap.size 46 (fun _=>False) u s.steps:=h.steps.keep hkA.size (fun _ hk=>hk.elim) fun g e=>hkA.block g (h.steps.kind g e).2.lt (show ¬ (g=p.g) from fun e2=>h.dif.g.2.2.2.2.2 (by rw [←e2]; exact e))
       have hst2:∀ g,u.ownBlock=some g→g < w.heap.size:=fun g e=>(h.steps.kind g e).2.lt
       have hR12l:=hR12.lt
       have hs6':Sl wr (fun j=>j < wr.heap.size∧j≠w.heap.size) A6 s.kept.length s.kept:=hs6.more fun j hj=>⟨hj.2,by rcases hj.1 with h1 | h1 <;> omega⟩
       have HC:=Lib.hid (blob_CheckFiles A4 acc.length c4 acc wr (hE.then_ hlowA).toEnv (hsF.more fun _ hj=>hj.1))
       have v4:=hA.cell (i:=4) rfl
       have v5:=hA.cell (i:=5) rfl
       have v6:=hA.cell (i:=6) rfl
       have hrr:=hA.lt
       obtain ⟨cf,hcf⟩:∃ cf,cf=checkFilesS acc:=⟨_,rfl⟩
       rw [←hcf] at HC
       have HCf:=Lib.hid hcf
       have hHA:=Lib.hid hA
       have HKa:=Lib.hid hkA
       clear hcf hrow hkp hs6 hs12 hs12' hkA hR12 hkW12 hm12
       go_wp2_with fail
       refine HC.out.mono ?_
       rintro e w14 ⟨rfl,hb14⟩
       have hA14:=hHA.out.call hb14
       have hR14:=hRw.call hb14
       have o4:=hA14.cell (i:=4) rfl
       have o5:=hA14.cell (i:=5) rfl
       have o6:=hA14.cell (i:=6) rfl
       have l14:=hA14.lt
       have hb14W:=hlowA.trans (hb14.mono hlowA.size)
       have hz14:=hb14.size
       have hWw:=h.low.size
       have HLow:=Lib.hid (fun WE (hk:Kp (fun j=>j=w.heap.size) w14 WE)=>(show Below W.heap.size W WE from hb14W.trans (hk.below (fun j hj (e:j=w.heap.size)=>by omega) hb14W.size)))
       have HEr:=Lib.hid (show (checkFilesS acc≠0∨500 < s.kept.length)→endErr l ws s=2 from fun e=>by unfold endErr; rw [←HAcc.out,if_pos e])
       have HEo:=Lib.hid (show ¬ (checkFilesS acc≠0∨500 < s.kept.length)→endErr l ws s=0 from fun e=>by unfold endErr; rw [←HAcc.out,if_neg e])
       have HBad:=Lib.hid (fun (e2:endErr l ws s=2) WE (hk:Kp (fun j=>j=w.heap.size) w14 WE)=>(show GotPost W p n mem u M s l ws (.returned (.tuple #[.agg #[.slice none 0 0,.slice none 0 0,.slice none 0 0],.int .i64 2])) WE from
        ⟨none,0,0,none,0,0,none,0,0,by rw [e2],fun e=>absurd (e2.symm.trans e) (by decide),fun _=>⟨rfl,rfl,rfl⟩,HLow.out WE hk⟩))
       by_cases hc:cf=0
       ·by_cases h5:500 < s.kept.length
        ·have hEnd:=HBad.out (HEr.out (.inr h5))
         have HEnd:=Lib.hid hEnd
         have h5I:((500:Int) < (s.kept.length:Int)):=by omega
         clear hEnd hA14 hRw hlowA hsF hst hs6'
         have e0:=hR14.cell (i:=0) rfl
         have e1:=hR14.cell (i:=1) rfl
         have e2:=hR14.cell (i:=2) rfl
         have i0:=hR14.frozen 0
         have i1:=hR14.frozen 1
         have i2:=hR14.frozen 2
         have hl4:=hR14.lt
         go_wp2
         generalize hWE:World.setCell (World.setCell (World.setCell w14 _ _) _ _) _ _=WE
         have hE5:Arr WE w.heap.size 28 [(.slice none 0 0),(.slice none 0 0),(.slice none 0 0)]:=by
          rw [←hWE]; exact ((hR14.set 0 _).set 1 _).set 2 _
         have hkE:Kp (fun j=>j=w.heap.size) w14 WE:=by
          rw [←hWE]
          exact Kp.set (p:=⟨w.heap.size,2,none⟩) (Kp.set (p:=⟨w.heap.size,1,none⟩) (Kp.set (p:=⟨w.heap.size,0,none⟩) (Kp.refl (fun j=>j=w.heap.size) w14) rfl _) rfl _) rfl _
         clear hWE e0 e1 e2 i0 i1 i2
         have y0:=hE5.cell (i:=0) rfl
         have y1:=hE5.cell (i:=1) rfl
         have y2:=hE5.cell (i:=2) rfl
         exact bodyPost_ret (v:=.tuple #[.agg #[(.slice none 0 0),(.slice none 0 0),(.slice none 0 0)],.int .i64 2]) (by simp [results,Tryz.results35,go_sem,y0,y1,y2]) rfl (HEnd.out WE hkE)
        ·have he0:=HEo.out (fun e=>by
          rcases e with e | e
          ·exact e (HCf.out.symm.trans hc)
          ·exact h5 e)
         have h5I:¬ ((500:Int) < (s.kept.length:Int)):=by omega
         have hst14:=hst.call hb14
         have hsF14:=hsF.keep fun j hj=>hb14.block j hj.1
         have hs614:=hs6'.keep fun j hj=>hb14.block j hj.1
         obtain ⟨A7,c7,hu7,_,_,_⟩:=hst14.sl
         have HEnd:=Lib.hid (fun WE (hk:Kp (fun j=>j=w.heap.size) w14 WE)=>(show GotPost W p n mem u M s l ws (.returned (.tuple #[.agg #[u,.slice A4 acc.length c4,.slice A6 s.kept.length c6],.int .i64 0])) WE from by
          have h1:RowK WE W.heap.size 46 (fun _=>False) u s.steps:=hst14.keep hk.size (fun _ hk=>hk.elim) fun g e=>hk.block g (by have:=hst2 g e; omega) (show ¬ (g=w.heap.size) by have:=hst2 g e; omega)
          obtain ⟨A8,c8,hu8,_,_,hs8⟩:=h1.sl
          refine ⟨A8,s.steps.length,c8,A4,acc.length,c4,A6,s.kept.length,c6,by rw [he0,hu8],fun _=>⟨hs8,?_,?_,.slice A4 acc.length c4,.slice A6 s.kept.length c6,?_⟩,fun e=>absurd he0 e,HLow.out WE hk⟩
          ·rw [←HAcc.out]
           exact (hsF14.keep fun j hj=>hk.block j (by have:=hj.1; omega) hj.2).more fun j hj=>by have:=hj.1; have:=hk.size; show j < WE.heap.size; omega
          ·exact (hs614.keep fun j hj=>hk.block j (by have:=hj.1; omega) hj.2).more fun j hj=>by have:=hj.1; have:=hk.size; show j < WE.heap.size; omega
          ·have hk14:=HKa.out.call hb14
           have hA9:=hHA.out.call hb14
           have hp9:=h.blk.lt
           exact h.reblk ⟨hk.os.trans hk14.os,hk.tape.trans hk14.tape,hk.output.trans hk14.output,Nat.le_trans hk14.size hk.size,fun j hj hne=>(hk.block j (Nat.lt_of_lt_of_le hj hk14.size) (show ¬ (j=w.heap.size) by omega)).trans (hk14.block j hj hne)⟩ (hA9.keep (hk.block p.g hA9.lt (show ¬ (p.g=w.heap.size) by omega)))))
         subst hu7
         clear he0 hA14 hRw hlowA hsF hst hs6' hst14 hsF14 hs614
         have e0:=hR14.cell (i:=0) rfl
         have e1:=hR14.cell (i:=1) rfl
         have e2:=hR14.cell (i:=2) rfl
         have i0:=hR14.frozen 0
         have i1:=hR14.frozen 1
         have i2:=hR14.frozen 2
         have hl4:=hR14.lt
         go_wp2
         generalize hWE:World.setCell (World.setCell (World.setCell w14 _ _) _ _) _ _=WE
         have hE5:Arr WE w.heap.size 28 [(.slice A7 s.steps.length c7),(.slice A4 acc.length c4),(.slice A6 s.kept.length c6)]:=by
          rw [←hWE]; exact ((hR14.set 0 _).set 1 _).set 2 _
         have hkE:Kp (fun j=>j=w.heap.size) w14 WE:=by
          rw [←hWE]
          exact Kp.set (p:=⟨w.heap.size,2,none⟩) (Kp.set (p:=⟨w.heap.size,1,none⟩) (Kp.set (p:=⟨w.heap.size,0,none⟩) (Kp.refl (fun j=>j=w.heap.size) w14) rfl _) rfl _) rfl _
         clear hWE e0 e1 e2 i0 i1 i2
         have y0:=hE5.cell (i:=0) rfl
         have y1:=hE5.cell (i:=1) rfl
         have y2:=hE5.cell (i:=2) rfl
         exact bodyPost_ret (v:=.tuple #[.agg #[(.slice A7 s.steps.length c7),(.slice A4 acc.length c4),(.slice A6 s.kept.length c6)],.int .i64 0]) (by simp [results,Tryz.results35,go_sem,y0,y1,y2]) rfl (HEnd.out WE hkE)
       ·have hEnd:=HBad.out (HEr.out (.inl fun e=>hc (HCf.out.trans e)))
        have HEnd:=Lib.hid hEnd
        clear hEnd hA14 hRw hlowA hsF hst hs6'
        have e0:=hR14.cell (i:=0) rfl
        have e1:=hR14.cell (i:=1) rfl
        have e2:=hR14.cell (i:=2) rfl
        have i0:=hR14.frozen 0
        have i1:=hR14.frozen 1
        have i2:=hR14.frozen 2
        have hl4:=hR14.lt
        go_wp2
        generalize hWE:World.setCell (World.setCell (World.setCell w14 _ _) _ _) _ _=WE
        have hE5:Arr WE w.heap.size 28 [(.slice none 0 0),(.slice none 0 0),(.slice none 0 0)]:=by
         rw [←hWE]; exact ((hR14.set 0 _).set 1 _).set 2 _
        have hkE:Kp (fun j=>j=w.heap.size) w14 WE:=by
         rw [←hWE]
         exact Kp.set (p:=⟨w.heap.size,2,none⟩) (Kp.set (p:=⟨w.heap.size,1,none⟩) (Kp.set (p:=⟨w.heap.size,0,none⟩) (Kp.refl (fun j=>j=w.heap.size) w14) rfl _) rfl _) rfl _
        clear hWE e0 e1 e2 i0 i1 i2
        have y0:=hE5.cell (i:=0) rfl
        have y1:=hE5.cell (i:=1) rfl
        have y2:=hE5.cell (i:=2) rfl
        exact bodyPost_ret (v:=.tuple #[.agg #[(.slice none 0 0),(.slice none 0 0),(.slice none 0 0)],.int .i64 2]) (by simp [results,Tryz.results35,go_sem,y0,y1,y2]) rfl (HEnd.out WE hkE)
end Go.Proofs.Sm
namespace Go.Proofs.Sm
open Go.RowKit
structure BuiltV where
 steps:List StepV
 files:List FileV
 memory:List MemoryV
def builtOf (l:List RuleV) (ws:List ByteArray) (s:BSt):BuiltV:=⟨s.steps,filesB l ws s,s.kept⟩
def BuildIs (l:List RuleV) (F:List FileV) (ws:List ByteArray) (ms:List MemoryV) (f:Int) (b:BuiltV):Prop :=
 (f≠0→b=⟨[],[],[]⟩)∧(buildErr0 l F ws ms≠0→f=buildErr0 l F ws ms) ∧
 (buildErr0 l F ws ms=0→∃ order,PlanIs l ws order∧f=buildErr l F ws ms order∧(f=0→b=builtOf l ws (runB l F ms order).2))
section
variable {l:List RuleV} {F before files:List FileV} {ws other:List ByteArray} {ms:List MemoryV} {f g:Int} {a b x y:BuiltV}
theorem BuildIs.of0 (h:buildErr0 l F ws ms≠0):BuildIs l F ws ms (buildErr0 l F ws ms) ⟨[],[],[]⟩:=⟨fun _=>rfl,fun _=>rfl,fun e=>absurd e h⟩
theorem buildErr_run {order:List Nat} (h:buildErr0 l F ws ms=0) (h1:(runB l F ms order).1≠0):buildErr l F ws ms order=(runB l F ms order).1:=by unfold buildErr; rw [if_neg (by rw [h]; decide),if_pos h1]
theorem buildErr_end {order:List Nat} (h:buildErr0 l F ws ms=0) (h1:(runB l F ms order).1=0):buildErr l F ws ms order=endErr l ws (runB l F ms order).2:=by unfold buildErr; rw [if_neg (by rw [h]; decide),if_neg (by rw [h1]; decide)]
theorem BuildIs.of1 {order:List Nat} (h:buildErr0 l F ws ms=0) (hp:PlanIs l ws order) (h1:(runB l F ms order).1≠0):BuildIs l F ws ms (runB l F ms order).1 ⟨[],[],[]⟩ :=
 ⟨fun _=>rfl,fun e=>absurd h e,fun _=>⟨order,hp,(buildErr_run h h1).symm,fun e=>absurd e h1⟩⟩
theorem BuildIs.of2 {order:List Nat} (h:buildErr0 l F ws ms=0) (hp:PlanIs l ws order) (h1:(runB l F ms order).1=0) (hb:endErr l ws (runB l F ms order).2≠0→b=⟨[],[],[]⟩) (hb2:endErr l ws (runB l F ms order).2=0→b=builtOf l ws (runB l F ms order).2) :
 BuildIs l F ws ms (endErr l ws (runB l F ms order).2) b:=⟨hb,fun e=>absurd h e,fun _=>⟨order,hp,(buildErr_end h h1).symm,hb2⟩⟩
theorem BuildIs.atPlan (h:BuildIs l F ws ms f b) {order:List Nat} (hp:PlanIs l ws order):f=buildErr l F ws ms order∧(f=0→b=builtOf l ws (runB l F ms order).2):=by
 by_cases h0:buildErr0 l F ws ms=0
 ·obtain ⟨o,h1,h2,h3⟩:=h.2.2 h0
  obtain rfl:=PlanIs.unique h1 hp
  exact ⟨h2,h3⟩
 ·have e:buildErr l F ws ms order=buildErr0 l F ws ms:=by unfold buildErr; rw [if_pos h0]
  rw [e]
  exact ⟨h.2.1 h0,fun e2=>absurd ((h.2.1 h0).symm.trans e2) h0⟩
end
end Go.Proofs.Sm
