/- Words and walks that the claims share, part 34. -/
import Derived.Test.YtaabdbephemboaaGreatDoorBx29
import Derived.Test.YtaabdbephemboaaGreatDoorBx32
import Derived.Test.YtaabdbephemboaaGreatDoorBx33
import Derived.Deep.RegionHeld3
import Derived.StillTailTactics
import Derived.Deep.RegionLaw
namespace Go.Proofs.Sm
open Go.RowKit Go.Maps
theorem be_plan {l:List RuleV} {F:List FileV} {ws:List ByteArray} {ms:List MemoryV} (h:planErr l ws≠0):buildErr0 l F ws ms=planErr l ws:=by rw [buildErr0,if_pos h]
theorem be_files {l:List RuleV} {F:List FileV} {ws:List ByteArray} {ms:List MemoryV} (h:planErr l ws=0) (h1:checkFilesS F≠0):buildErr0 l F ws ms=checkFilesS F:=by rw [buildErr0,if_neg (by rw [h]; decide),if_pos h1]
theorem be_mem {l:List RuleV} {F:List FileV} {ws:List ByteArray} {ms:List MemoryV} (h:planErr l ws=0) (h1:checkFilesS F=0) (h2:checkMemoryS ms≠0):buildErr0 l F ws ms=checkMemoryS ms:=by rw [buildErr0,if_neg (by rw [h]; decide),if_neg (by rw [h1]; decide),if_pos h2]
theorem be_clash {l:List RuleV} {F:List FileV} {ws:List ByteArray} {ms:List MemoryV} (h:planErr l ws=0) (h1:checkFilesS F=0) (h2:checkMemoryS ms=0) (h3:outClash l F=true):buildErr0 l F ws ms=12:=by
 rw [buildErr0,if_neg (by rw [h]; decide),if_neg (by rw [h1]; decide),if_neg (by rw [h2]; decide),if_pos h3]
theorem be_ok {l:List RuleV} {F:List FileV} {ws:List ByteArray} {ms:List MemoryV} (h:planErr l ws=0) (h1:checkFilesS F=0) (h2:checkMemoryS ms=0) (h3:outClash l F=false):buildErr0 l F ws ms=0:=by
 rw [buildErr0,if_neg (by rw [h]; decide),if_neg (by rw [h1]; decide),if_neg (by rw [h2]; decide),if_neg (by rw [h3]; decide)]
def BwPost (A:Option Addr) (n c:Nat) (l:List RuleV) (F:List FileV) (ws:List ByteArray) (ms:List MemoryV) (W:World) (e:Ending) (w':World):Prop :=
 Below W.heap.size W w'∧(buildErr0 l F ws ms≠0→e=.returned (.tuple #[.pointer none,.int .i64 (buildErr0 l F ws ms)])) ∧
 (buildErr0 l F ws ms=0→∃ order,PlanIs l ws order∧((runB l F ms order).1≠0→e=.returned (.tuple #[.pointer none,.int .i64 (runB l F ms order).1])) ∧
   ((runB l F ms order).1=0→∃ (W0:World) (P0:Nat) (p:BdP) (u:Value),Below W.heap.size W W0∧PlanAt P0 W0 p.gp A n c l∧e=.returned (.tuple #[.pointer (some ⟨p.g,0,none⟩),.int .i64 0]) ∧
     Bd W0 w' p n (servesS l ms) u order.length (runB l F ms order).2∧p.uf=.slice none 0 0∧p.um=.slice none 0 0))
theorem near_bad {l:List RuleV} {F:List FileV} {k:Nat} {x:FileV} (hx:F[k]?=some x) (h:nearS l x.path=true):outClash l F=true:=by
 rw [outClash_near,List.any_eq_true]
 exact ⟨x,List.mem_of_getElem? hx,h⟩
theorem near_take {l:List RuleV} {F:List FileV} {k:Nat} {x:FileV} (hx:F[k]?=some x) (h:nearS l x.path=false) (hk:(F.take k).any (fun y=>nearS l y.path)=false):(F.take (k + 1)).any (fun y=>nearS l y.path)=false:=by
 rw [List.take_add_one,hx,List.any_append,hk]
 simp [h]
theorem BwPost.bad {A:Option Addr} {n c:Nat} {l:List RuleV} {F:List FileV} {ws:List ByteArray} {ms:List MemoryV} {W w':World} {f:Int} (hf:buildErr0 l F ws ms=f) (h0:f≠0) (hb:Below W.heap.size W w'):BwPost A n c l F ws ms W (.returned (.tuple #[.pointer none,.int .i64 f])) w' :=
 ⟨hb,fun _=>by rw [hf],fun h=>absurd (hf.symm.trans h) h0⟩
theorem plan_len {l:List RuleV} {ws:List ByteArray} {order:List Nat} (h:PlanIs l ws order):order.length≤l.length:=by
 obtain ⟨h1,h2⟩:=plan_parts h
 have:=nodup_length h1 (b:=List.range l.length) fun k hk=>List.mem_range.2 (h2 k hk)
 rwa [List.length_range] at this
theorem mem2_all {ms:List MemoryV} (h:checkMemoryS ms=0):∀ y∈ms,Mem2 y:=fun y hy=>⟨memory_ok h y hy,by
 have:=(checkFiles_err (checkResult_ok (mem_parts ((memory_parts_by h).2.2 y hy)).2.2.2.1).files).1; exact this⟩
theorem mem_old {W w0 wr wz:World} {p:BdP} {n M:Nat} {mem:List MemoryV} {u:Value} {s:BSt} {y:MemoryV} {v:Value} (hbd:Bd W wr p n mem u M s) (hlow:w0.heap.size≤W.heap.size) (hv:MemVal wr (Lt w0.heap.size) y v) (hb:Below wr.heap.size wr wz):MemVal wz (Off (BdX p u) wz) y v :=
 (hv.keep fun k hk=>hb.block k (by have h1:k < w0.heap.size:=hk; have:=hbd.low.size; omega)).more fun k hk=>off_of (hbd.old (show k < W.heap.size by have h1:k < w0.heap.size:=hk; omega)) hb.size
theorem drop_more {l:List RuleV} {ms:List MemoryV} {order:List Nat} {k j:Nat} (hj:order[k]?=some j) :
 (ms.filter fun y=>!(order.take k).any fun i=>(nameAt l i).toList == y.name.toList).filter (fun y=>!((nameAt l j).toList == y.name.toList))=ms.filter fun y=>!(order.take (k + 1)).any fun i=>(nameAt l i).toList == y.name.toList:=by
 rw [List.filter_filter,List.take_add_one,hj]
 congr 1
 funext y
 rw [List.any_append]
 simp [Bool.and_comm]
theorem serves_none {l:List RuleV} {y:MemoryV} (h:none=idxName l y.name):servesP l y=false:=by unfold servesP; rw [←h]
theorem serves_some {l:List RuleV} {y:MemoryV} {q:Nat} {r:RuleV} (h:some q=idxName l y.name) (hr:l[q]?=some r):servesP l y=hasOutS y.result r.action.outputs:=by
 unfold servesP; rw [←h]; simp [hr]
theorem Bd.memMap {W w:World} {p:BdP} {n M:Nat} {mem:List MemoryV} {u:Value} {s:BSt} (h:Bd W w p n mem u M s) (hby:ByPath MemoryV.name mem):∃ f,MapIs Tryz.prog 9 w p.mm mem.length f∧∀ key,match keyM mem key with
 | none=>f key=none
 | some x=>∃ v,f key=some v∧MemVal w (Off (BdX p u) w) x v:=by
 obtain ⟨nm,_,h2⟩:=h.mem
 exact h2.tight Tryz.underlying9 hby
theorem Bd.keptDrop {W w:World} {p:BdP} {n M:Nat} {mem:List MemoryV} {u:Value} {s:BSt} (h:Bd W w p n mem u M s) (z:ByteArray):∃ f,MapIs Tryz.prog 9 w p.mv s.kept.length f∧∀ w2,Below w.heap.size w w2→∀ w',MapIs Tryz.prog 9 w' p.mv s.kept.length (fun key=>if key=z.data.toList then none else f key)→(∀ k,Off (BdX p u) w2 k→w'.heap[k]?=w2.heap[k]?)→MemsIn Tryz.prog 9 w' (Off (BdX p u) w2) p.mv s.kept.length (s.kept.filter fun y=>!(z.toList == y.name.toList)):=by
 obtain ⟨f,h1,h2⟩:=h.kept.dropped z
 refine ⟨f,h1,fun w2 hb w' hm hk=>?_⟩
 have h3:=h2 w' hm fun k hk'=>(hk k (off_of hk' hb.size)).trans (hb.block k hk'.2)
 exact h3.more fun k hk'=>off_of hk' hb.size
set_option maxHeartbeats 0 in
set_option maxRecDepth 100000 in
theorem steps_builtWith (A B C D:Option Addr) (n c m d nw cw nd cd:Nat) (l:List RuleV) (F:List FileV) (ws:List ByteArray) (ms:List MemoryV) (w:World) (hE:Env2 w) (hsl:Sl w (Lt w.heap.size) A n l) (hF:Sl w (Lt w.heap.size) B m F) (hws:Sl w (Lt w.heap.size) C nw ws) (hms:Sl w (Lt w.heap.size) D nd ms) :
 Calls Tryz.prog 34 #[.slice A n c,.slice B m d,.slice C nw cw,.slice D nd cd] w (BwPost A n c l F ws ms w):=by
 have HL:=Lib.hid hsl.1
 have hmk:=make_bools
 have hmm:=@run_makeMap Tryz.prog
 go_enter Tryz.func34,Tryz.ntmps34
 go_wp2_with fail
 refine (steps_open A n c l w hE.toEnv hsl).mono ?_
 rintro e w1 ⟨v1,rfl,hbad1,hgood1,hb1⟩
 cases h0:(checkRulesS l == 0)
 ·have hne:checkRulesS l≠0:=by simpa using h0
  have hV:=planErr_bad (ws:=ws) hne
  have HV:=Lib.hid ((be_plan (F:=F) (ms:=ms) (by rw [hV]; exact hne)).trans hV)
  have HN:=Lib.hid hne
  clear hV hbad1 hgood1 hne
  go_wp2
  go_ret2
  exact BwPost.bad HV.out HN.out hb1
 have hz:checkRulesS l=0:=by simpa using h0
 obtain ⟨gp,rfl,hpl⟩:=hgood1 hz
 have HC0:=Lib.hid hz
 rw [hz]
 have HPE:=Lib.hid (planErr_clos (ws:=ws) hz)
 clear h0 hbad1 hgood1
 have hC:=steps_closure w.heap.size gp A C n c nw cw l ws w1 hpl (sl_call hsl hb1 (Nat.le_refl _)) hz (sl_call hws hb1 (Nat.le_refl _))
 have HC:=Lib.hid hC
 clear hz hC
 go_wp2_with fail
 refine HC.out.mono ?_
 rintro e w2 ⟨v2,rfl,hbad2,hgood2,hb2⟩
 have hb02:=fr_call hb1 hb2
 cases h0:(closErr l ws == 0)
 ·have hne:closErr l ws≠0:=by simpa using h0
  have hV:=HPE.out
  have HV:=Lib.hid ((be_plan (F:=F) (ms:=ms) (by rw [hV]; exact hne)).trans hV)
  have HN:=Lib.hid hne
  clear hV hbad2 hgood2 hne
  go_wp2
  go_ret2
  exact BwPost.bad HV.out HN.out hb02
 have hz:closErr l ws=0:=by simpa using h0
 obtain ⟨order,hplan,hrow2⟩:=hgood2 hz
 have HP0:=Lib.hid (HPE.out.trans hz)
 rw [hz]
 clear h0 hbad2 hgood2 hz
 have HCf:=Lib.hid (blob_CheckFiles B m d F w2 (hE.then_ hb02).toEnv (sl_call hF hb02 (Nat.le_refl _)))
 go_wp2_with fail
 refine HCf.out.mono ?_
 rintro e w3 ⟨rfl,hb3⟩
 have hb03:=fr_call hb02 hb3
 cases h0:(checkFilesS F == 0)
 ·have hne:checkFilesS F≠0:=by simpa using h0
  have HV:=Lib.hid (be_files (ms:=ms) HP0.out hne)
  have HN:=Lib.hid hne
  clear hne
  go_wp2
  go_ret2
  exact BwPost.bad HV.out HN.out hb03
 have hz:checkFilesS F=0:=by simpa using h0
 have HF0:=Lib.hid hz
 rw [hz]
 clear h0 hz
 have HCm:=Lib.hid (steps_CheckMemory D nd cd ms w3 (hE.then_ hb03).toEnv (sl_call hms hb03 (Nat.le_refl _)))
 go_wp2_with fail
 refine HCm.out.mono ?_
 rintro e w4 ⟨rfl,hb4⟩
 have hb04:=fr_call hb03 hb4
 cases h0:(checkMemoryS ms == 0)
 ·have hne:checkMemoryS ms≠0:=by simpa using h0
  have HV:=Lib.hid (be_mem HP0.out HF0.out hne)
  have HN:=Lib.hid hne
  clear hne
  go_wp2
  go_ret2
  exact BwPost.bad HV.out HN.out hb04
 have hz:checkMemoryS ms=0:=by simpa using h0
 have HM0:=Lib.hid hz
 rw [hz]
 clear h0 hz
 have hn5:n≤500:=by have:=(rules_sorted HC0.out).2; have:=HL.out; omega
 have hmk4:=fun W=>make_bools n (by omega) W
 clear hmk
 have hok:=(rules_parts_by HC0.out).1
 have hpl4:=hpl.call (fr_call hb2 (fr_call hb3 hb4))
 have hbd0:=bd_start w4 gp n
 rw [List.toArray_replicate] at hbd0
 clear hpl HCf HCm HC
 go_wp2_with fail
 obtain ⟨w5,hw5⟩:∃ w5,w5=(((((w4.alloc (.map #[] 0)).alloc (.map #[] 0)).alloc (.cells (Array.replicate n (Value.bool false)) 4)).alloc (.map #[] 0)).alloc (.cells #[.pointer (some ⟨gp,0,none⟩),.map (some w4.heap.size),.map (some (w4.heap.size + 1)),.slice (some ⟨w4.heap.size + 1 + 1,0,none⟩) n n,.slice none 0 0,.slice none 0 0,.slice none 0 0,.map (some (w4.heap.size + 1 + 1 + 1))] 101)):=⟨_,rfl⟩
 rw [←hw5] at hbd0 ⊢
 clear hw5 hmm hmk4
 have hb45:=hbd0.low
 have hb05:=fr_call hb04 hb45
 refine (steps_tangleOf4 A n c l w5 (sl_call hsl hb05 (Nat.le_refl _)) hok).mono ?_
 rintro e w6 ⟨T,nn,q1,q2,q3,q4,q5,rfl,hnn,t0,t1,t2,t3,hb6⟩
 obtain ⟨p,hp⟩:∃ p:BdP,p=⟨w4.heap.size + 1 + 1 + 1 + 1,gp,w4.heap.size,w4.heap.size + 1,w4.heap.size + 1 + 1,w4.heap.size + 1 + 1 + 1,.slice none 0 0,.slice none 0 0⟩:=⟨_,rfl⟩
 rw [←hp] at hbd0
 have E0:w4.heap.size + 1 + 1 + 1 + 1=p.g:=by rw [hp]
 have hpgp:p.gp=gp:=by rw [hp]
 have hpu:p.uf=.slice none 0 0∧p.um=.slice none 0 0:=by rw [hp]; exact ⟨rfl,rfl⟩
 rw [E0]
 have HPl:=Lib.hid hpl4
 rw [←hpgp] at hpl4
 have HPl4:=Lib.hid hpl4
 clear hp E0 hpgp t1 t3
 have hb06:=fr_call hb05 hb6
 go_wp2
 have hbW:=fr_alloc (fr_refl w6) (.cells #[.map (some T.m0),.map (some T.m1),.map (some T.m2),.map (some T.m3)] 126)
 have hTg:Arr (w6.alloc (.cells #[.map (some T.m0),.map (some T.m1),.map (some T.m2),.map (some T.m3)] 126)) w6.heap.size 126 [.map (some T.m0),.map (some T.m1),.map (some T.m2),.map (some T.m3)]:=heap_alloc_new w6 _
 have hT0:=t0.call hbW
 have hT2:=t2.call hbW
 have hbd7:=(hbd0.call hb6).call hbW
 have hb07:=fr_call hb06 hbW
 have hF7:=sl_call hF hb07 (Nat.le_refl _)
 have hz56:=hb6.size
 have hz45:=hb45.size
 obtain ⟨w7,hw7⟩:∃ w7,w7=w6.alloc (.cells #[.map (some T.m0),.map (some T.m1),.map (some T.m2),.map (some T.m3)] 126):=⟨_,rfl⟩
 rw [←hw7] at hTg hT0 hT2 hbd7 hb07 hF7 ⊢
 have hz67:w7.heap.size=w6.heap.size + 1:=by rw [hw7]; exact World.size_alloc ..
 clear hw7 hbW t0 t2
 have hmhl:p.mh < w5.heap.size:=hbd0.hav.lt
 have hmhB:w4.heap.size≤p.mh:=hbd0.dif.mh.1
 have hm9:m≤9223372036854775807:=hF.2.1
 have HFL:=Lib.hid hF.1
 have HFby:=Lib.hid (files_by HF0.out)
 have HFsz:=Lib.hid (files_sizes HF0.out)
 have hFm:=checkFiles_len HF0.out
 rw [hF.1] at hFm
 have HKW:=Lib.hid (fun wr (hk:Kp (fun j=>j=p.mh) w7 wr)=>(show Below w.heap.size w wr from hb07.trans (hk.below (fun j hj (e:j=p.mh)=>by have:=hb04.size; omega) hb07.size)))
 have hgT:¬ (w6.heap.size=p.mh):=by omega
 have hg0:¬ (T.m0=p.mh):=by omega
 have hg2:¬ (T.m2=p.mh):=by omega
 have HNr:=Lib.hid (fun p=>near_is l p)
 rw [show l.length=n from HL.out] at HNr
 clear hpl4
 go_loopw [67] (fun i wr=>∃ k:Nat,k≤m∧i=.int .i64 k∧Bd w4 wr p n [] (.slice none 0 0) 0 ⟨F.take k,List.replicate n false,[],[]⟩∧Kp (fun j=>j=p.mh) w7 wr∧(F.take k).any (fun y=>nearS l y.path)=false) (fun i _=>m - (intOf i).toNat)
 case atStart=>exact ⟨0,Nat.zero_le _,rfl,hbd7,Kp.refl _ _,rfl⟩
 case round =>
  clear hbd7
  obtain ⟨k,hk,rfl,hbd,hkp,hnear⟩:=hrel
  by_cases hlt:k < m
  ·have hkI:(k:Int) < (m:Int):=by omega
   have hbel:=HKW.out wr hkp
   obtain ⟨b,o,x,A',n'',c'',rfl,hb,hx,hxs,hnc,hcm,hsl',d0,d1,d2⟩:=(hF.keep (keep_lt hbel)).file hlt
   have hbV:=fr_alloc (fr_refl wr) (.cells #[.string x.path,.bool x.run,.slice A' n'' c''] 78)
   have hTg9:=(hTg.keep (hkp.block _ hTg.lt hgT)).call hbV
   have hT09:=(MapIs.keep hT0 (hkp.block _ hT0.lt hg0)).call hbV
   have hT29:=(MapIs.keep hT2 (hkp.block _ hT2.lt hg2)).call hbV
   have l0:=set_look hT09 hxs
   have l2:=set_look hT29 hxs
   have s0:=hTg9.cell (i:=0) rfl
   have s2:=hTg9.cell (i:=2) rfl
   have sl:=hTg9.lt
   have hNx:=HNr.out x.path
   obtain ⟨b1,hb1e⟩:∃ b1,b1=decide (x.path.data.toList∈outK l n):=⟨_,rfl⟩
   obtain ⟨b2,hb2e⟩:∃ b2,b2=decide (x.path.data.toList∈outOK l n):=⟨_,rfl⟩
   rw [←hb1e] at l0 hNx
   rw [←hb2e] at l2 hNx
   have HNx:=Lib.hid hNx
   have HX:=Lib.hid hx
   have hbelV:=fr_call hbel hbV
   have hxz:x.path.size≤1000000:=by have:=(HFsz.out x (List.mem_of_getElem? hx)).1; omega
   clear hb1e hb2e hNx hx
   cases b1
   ·cases b2
    ·have HA:=Lib.hid (fun W=>steps_above x.path W hxz)
     go_wp2_with fail
     refine (HA.out _).mono ?_
     rintro e w8 ⟨A8,c8,rfl,h81,h82,hs8,hb8⟩
     have HCF:=Lib.hid (slices_ContainsFunc1 62 (enters_of Tryz.func62 (by kernel_rfl) rfl) (.pointer (some ⟨w6.heap.size,0,none⟩)) (fun z=>decide (z.data.toList∈outK l n)) A8 _ c8 (aboveS x.path) w8 (hs8.more fun _ hk=>hk.2) fun W z hbW hz _=>builtWith1 (outK l n) T.m0 nn w6.heap.size z W (((hTg9.call hb8).call hbW).cell (i:=0) rfl) ((hT09.call hb8).call hbW) hz)
     obtain ⟨b3,hb3e⟩:∃ b3,b3=(aboveS x.path).any (fun z=>decide (z.data.toList∈outK l n)):=⟨_,rfl⟩
     rw [←hb3e] at HCF HNx
     have hbel8:=fr_call hbelV hb8
     clear hb3e
     go_wp2_with fail
     refine HCF.out.mono ?_
     rintro e w9 ⟨rfl,hb9⟩
     have hbel9:=fr_call hbel8 hb9
     cases b3
     ·have hgR:=hbd.blk.lt
      have cg:=hbd.blk.cell (i:=1) rfl
      obtain ⟨f,hf1,hf2⟩:=hbd.haveMap
      simp only at hf1 hf2
      have hlen:(F.take k).length + 1≤1000000 * (0 + 1):=by rw [List.length_take]; omega
      have hb19:=fr_call (fr_call hbV hb8) hb9
      have HV:=Lib.hid (show FileVal w9.drew (Off (BdX p (.slice none 0 0)) w9.drew) x (.agg #[.string x.path,.bool x.run,.slice A' n'' c'']) from
       ((file_val hxs hnc hcm hsl').keep fun k hk=>hb19.drew.block k (by have h1:k < w.heap.size:=hk; have:=hbel.size; omega)).more fun k hk=>off_of (hbd.old (show k < w4.heap.size by have h1:k < w.heap.size:=hk; have:=hb04.size; omega)) hb19.drew.size)
      have HF:=Lib.hid (filesF_call hf2 hb19.drew)
      have HB:=Lib.hid hbd
      have hX:=(box3_new wr (.string x.path) (.bool x.run) (.slice A' n'' c'') 78).call (fr_call hb8 hb9)
      have d1':=(hb19.cell (p:=⟨p.g,1,none⟩) hgR).trans cg
      have hm1:=hf1.call hb19
      have hgl9:p.g < w9.heap.size:=Nat.lt_of_lt_of_le hgR hb19.size
      clear hsl' hf2 hbd cg hf1 l0 l2 s0 s2 d0 d1 d2 hTg9 hT09 hT29
      go_wp2
      obtain ⟨⟨x0,x1,x2⟩,_,xl⟩:=hX
      go_still_tail 7,(by kernel_rfl)
      change wpList _ _ _ _ _ w9.drew
      go_wp2_with (
       at_mapUpdate
       refine wpList_mapUpdate_is _ rfl _ _ _ 97 rfl Tryz.underlying9 map_file_under rfl (hm1.keep rfl) (by rw [List.length_take]; unfold maxLen; omega) x.path hxs (.agg #[.string x.path,.bool x.run,.slice A' n'' c'']) rfl rfl ?_
       intro w10 hm5 hg5)
      have hbd5:=HB.out.puts hlen hb19.drew HF.out HV.out hm5 hg5 hxs
      rw [show putFileS ({ have_:=F.take k,bad:=List.replicate n false,steps:=[],kept:=[] }:BSt).have_ x=F.take (k + 1) from putFile_take HFby.out HX.out] at hbd5
      have hk5:=((hkp.call hb19).drew).grown hg5 (fun j e=>.inl (by cases e; rfl))
      go_roundw
      case rel=>exact ⟨k + 1,by omega,by go_num,hbd5,hk5,near_take HX.out (by rw [HNx.out]; rfl) hnear⟩
      case measure=>simp [intOf]; omega
     ·go_wp2
      go_ret2
      exact BwPost.bad (be_clash HP0.out HF0.out HM0.out (near_bad HX.out (by rw [HNx.out]; rfl))) (by decide) hbel9
    ·go_wp2
     go_ret2
     exact BwPost.bad (be_clash HP0.out HF0.out HM0.out (near_bad HX.out (by rw [HNx.out]; rfl))) (by decide) hbelV
   ·go_wp2
    go_ret2
    exact BwPost.bad (be_clash HP0.out HF0.out HM0.out (near_bad HX.out (by rw [HNx.out]; rfl))) (by decide) hbelV
  ·obtain rfl:k=m:=by omega
   rw [List.take_of_length_le (by rw [HFL.out]; exact Nat.le_refl _)] at hbd hnear
   have HBE:=Lib.hid (be_ok HP0.out HF0.out HM0.out (show outClash l F=false by rw [outClash_near]; exact hnear))
   obtain ⟨w8,rfl⟩:∃ w8,w8=wr:=⟨_,rfl⟩
   have hbel8:=HKW.out w8 hkp
   have hms8:=hms.keep (keep_lt hbel8)
   have hnd9:nd≤9223372036854775807:=hms.2.1
   have HML:=Lib.hid hms.1
   have hmmB:w4.heap.size≤p.mm:=hbd.dif.mm.1
   have hmvB:w4.heap.size≤p.mv:=hbd.dif.mv.1
   have HKW8:=Lib.hid (fun wr (hk:Kp (fun j=>j=p.mm∨j=p.mv) w8 wr)=>(show Below w.heap.size w wr from hbel8.trans (hk.below (fun j hj (e:j=p.mm∨j=p.mv)=>by have:=hb04.size; omega) hbel8.size)))
   clear hkp hnear hTg hT0 hT2
   go_wp2
   go_loopw [100] (fun i wr=>∃ k:Nat,k≤nd∧i=.int .i64 k∧Bd w4 wr p n ((ms.take k).filter (servesP l)) (.slice none 0 0) 0 ⟨F,List.replicate n false,[],ms.take k⟩∧Kp (fun j=>j=p.mm∨j=p.mv) w8 wr) (fun i _=>nd - (intOf i).toNat)
   case atStart=>exact ⟨0,Nat.zero_le _,rfl,hbd,Kp.refl _ _⟩
   case round =>
    clear hbd
    obtain ⟨k,hk,rfl,hbd,hkp⟩:=hrel
    by_cases hlt:k < nd
    ·have hkI:(k:Int) < (nd:Int):=by omega
     have hbel:=HKW8.out wr hkp
     obtain ⟨b,o,y,rfl,hb,hy,Y1,i1,e1,Y2,i2,e2,Y3,i3,e3,hyz,hyc,⟨hs1,hs2,hs3⟩,c0,c1,c2,c3,c4,c5,c6,c7⟩:=(hms.keep (keep_lt hbel)).memory hlt
     obtain ⟨_,_,_,_,_,hP,_,_,_,_⟩:=HPl.out.call hbd.low
     have pc:=hP.cell (i:=0) rfl
     have HFi:=Lib.hid (fun wz (hz:Below wr.heap.size wr wz)=>steps_find gp A n c l y.name wz ((hP.call hz).cell (i:=0) rfl) (sl_call hsl (fr_call hbel hz) (Nat.le_refl _)) (rules_sorted HC0.out).1 hn5)
     have HY:=Lib.hid hy
     clear hP pc hy
     go_wp2_with fail
     refine (HFi.out _ (fr_alloc (fr_refl wr) _)).mono ?_
     rintro e w9 ⟨rfl,hb9⟩
     have hbW:=fr_alloc (fr_refl wr) (.cells #[.string y.name,.string y.action,.slice Y1 i1 e1,.int .i64 y.result.code,.string y.result.text,.slice Y2 i2 e2,.slice Y3 i3 e3,.int .i64 y.result.command] 43)
     have hb19:=fr_call hbW hb9
     have hM9:=(mem_box wr y Y1 i1 e1 Y2 i2 e2 Y3 i3 e3).call hb9
     have HMV:=Lib.hid (fun wz (hz:Below wr.heap.size wr wz)=>mem_old (y:=y) (v:=(.agg #[.string y.name,.string y.action,.slice Y1 i1 e1,.int .i64 y.result.code,.string y.result.text,.slice Y2 i2 e2,.slice Y3 i3 e3,.int .i64 y.result.command])) hbd hb04.size ⟨Y1,i1,e1,Y2,i2,e2,Y3,i3,e3,rfl,hyz,hyc,hs1,hs2,hs3⟩ hz)
     have HBd0:=Lib.hid (fun wz (hz:Below wr.heap.size wr wz)=>hbd.call hz)
     have HKp0:=Lib.hid (fun wz (hz:Below wr.heap.size wr wz)=>hkp.call hz)
     have HMk:=Lib.hid (mem2_all HM0.out y (List.mem_of_getElem? HY.out))
     have HByM:=Lib.hid (memory_parts_by HM0.out).2.1
     have HND:=Lib.hid (show nd≤500 by have:=(memory_parts_by HM0.out).1; have:=HML.out; omega)
     have HT:=Lib.hid (show putM (ms.take k) y=ms.take (k + 1) from by
      rw [List.take_add_one,HY.out]
      refine put_last_by ?_
      have:=List.Pairwise.sublist (List.take_sublist (k + 1) ms) HByM.out
      rwa [List.take_add_one,HY.out] at this)
     have HFm:=Lib.hid (filter_more (q:=servesP l) HByM.out HY.out)
     have HByF:=Lib.hid (show ByPath MemoryV.name ((ms.take k).filter (servesP l)) from List.Pairwise.sublist List.filter_sublist (List.Pairwise.sublist (List.take_sublist k ms) HByM.out))
     have HmL:=Lib.hid (show ((ms.take k).filter (servesP l)).length≤500 from Nat.le_trans (List.length_filter_le _ _) (by rw [List.length_take]; have:=HND.out; omega))
     have hmvl:p.mv < wr.heap.size:=hbd.kept.lt
     have hgR:=hbd.blk.lt
     have hbel9:=fr_call hbel hb19
     have HS2:=Lib.hid (fun wz (hz:Below wr.heap.size wr wz)=>(show Sl wz (Lt wz.heap.size) Y2 i2 y.result.files from (hs2.keep fun k hk=>hz.block k (by have h1:k < w.heap.size:=hk; have:=hbel.size; omega)).more fun k hk=>(by have h1:k < w.heap.size:=hk; have:=hbel.size; have:=hz.size; show k < _; omega)))
     obtain ⟨oq,hoq⟩:∃ oq,oq=idxName l y.name:=⟨_,rfl⟩
     rw [←hoq]
     clear hs1 hs2 hs3 c0 c1 c2 c3 c4 c5 c6 c7 hyz hyc hkp hb
     rcases oq with _ | q
     ·have HSv:=Lib.hid (show (ms.take k).filter (servesP l)=(ms.take (k + 1)).filter (servesP l) by rw [HFm.out,if_neg (by rw [serves_none hoq]; decide)])
      rw [numOr_none]
      clear hoq
      go_wp2
      go_quiet (fail)
      generalize hwX:World.drewN w9 _=wX
      have hbX:Below wr.heap.size wr wX:=by rw [←hwX]; exact below_drewN hb19 _
      have hbX9:Below w9.heap.size w9 wX:=by rw [←hwX]; exact below_drewN (fr_refl w9) _
      clear hwX
      have hbdX:=HBd0.out wX hbX
      have hkpX:=HKp0.out wX hbX
      have hmvX:=HMV.out wX hbX
      have hmbX:=hM9.call hbX9
      have hd:=hbdX.dif
      have hoff':∀ w',Kp (fun j=>j=p.mv) wX w'→∀ j,Off (BdX p (.slice none 0 0)) wX j→w'.heap[j]?=wX.heap[j]?:=fun w' hk j hj=>hk.block j hj.2 fun e=>hj.1 (.inr (.inr (.inr (.inr (.inl e)))))
      obtain ⟨Z1,z1,v1,Z2,z2,v2,Z3,z3,v3,eZ,HZs,HZc,HS1,HS2,HS3⟩:=hmvX
      unfold memVal at eZ
      injection eZ with eZ
      injection eZ with eZ
      simp only [List.cons.injEq,Value.slice.injEq,and_true,true_and] at eZ
      obtain ⟨⟨rfl,rfl,rfl⟩,⟨rfl,rfl,rfl⟩,⟨rfl,rfl,rfl⟩⟩:=eZ
      have HC:=Lib.hid (fun w' (hk:Kp (fun j=>j=p.mv) wX w')=>(clone_looks Y1 i1 e1 y.looks w' (Off (BdX p (.slice none 0 0)) wX) (fun j hj=>Nat.lt_of_lt_of_le hj.2 hk.size) (HS1.keep (hoff' w' hk)) (by have:=HMk.out.1.1; rw [HS1.1] at this; omega)).mono
       (show ∀ e w'',CopyPost (Off (BdX p (.slice none 0 0)) wX) i1 y.looks w' e w''→∃ A' c',e=.returned (.slice A' i1 c')∧i1≤c'∧c'≤maxLen∧Sl w'' (Off (BdX p (.slice none 0 0)) w'') A' i1 y.looks∧Below w'.heap.size w' w'' from fun e w'' ⟨A',c',h1,h2,h3,h4,h5⟩=>⟨A',c',h1,h2,h3,h4.more fun j hj=>new_off hbdX.there hk.size hj,h5⟩))
      have HO:=Lib.hid (fun w' (hk:Kp (fun j=>j=p.mv) wX w')=>(steps_ownResult y.result Y2 i2 e2 Y3 i3 e3 w' (Off (BdX p (.slice none 0 0)) wX) (fun j hj=>Nat.lt_of_lt_of_le hj.2 hk.size) ⟨HZs.2.2.2.1,HZs.2.2.1,HS2.keep (hoff' w' hk),HS3.keep (hoff' w' hk),HZs.2.2.2.2⟩ (by have:=HMk.out.1.2.1; rw [HS2.1] at this; exact this) (by have:=HMk.out.1.2.2.1; rw [HS3.1] at this; exact this) HMk.out.1.2.2.2).mono
       (show ∀ e w'',ResPost (Off (BdX p (.slice none 0 0)) wX) y.result w' e w''→∃ A n c B m d,e=.returned (resVal y.result A n c B m d)∧(n≤c∧c≤maxLen∧m≤d∧d≤maxLen)∧Sl w'' (Off (BdX p (.slice none 0 0)) w'') A n y.result.files∧Sl w'' (Off (BdX p (.slice none 0 0)) w'') B m y.result.looks∧Below w'.heap.size w' w'' from fun e w'' ⟨A,n,c,B,m,d,h1,h2,h3,h4⟩=>⟨A,n,c,B,m,d,h1,h2,h3.files.more fun j hj=>new_off hbdX.there hk.size hj,h3.looks.more fun j hj=>new_off hbdX.there hk.size hj,h4⟩))
      obtain ⟨f,hf1,hf2⟩:=hbdX.keptMap
      simp only at hf1 hf2
      have HM:=Lib.hid (fun w' (hb:Below wX.heap.size wX w')=>hf1.call hb)
      have HF:=Lib.hid (fun w' (hb:Below wX.heap.size wX w')=>memsF_call hf2 hb)
      have HBd:=Lib.hid hbdX
      have hgg:=hbdX.blk
      have hmk:=hf1.lt
      have hgne:=hd.g.2.2.2.2.1
      have hgl:=hmbX.lt
      have hKg:=fun w' (hk:Kp (fun j=>j=p.mv) wX w')=>hgg.keep (hk.block p.g hgg.lt hgne)
      have hKm:=fun w' (hk:Kp (fun j=>j=p.mv) wX w')=>hmbX.keep (hk.block wr.heap.size hgl (show ¬ (wr.heap.size=p.mv) by omega))
      have HK:=Lib.hid (show ∀ w',Kp (fun j=>j=p.mv) wX w'→(Kp (fun j=>j=p.mv) wX w'∧w'.cell? ⟨p.g,7,none⟩=some (.map (some p.mv))∧w'.cell? ⟨wr.heap.size,0,none⟩=some (.string y.name)∧w'.cell? ⟨wr.heap.size,1,none⟩=some (.string y.action)∧w'.cell? ⟨wr.heap.size,2,none⟩=some (.slice Y1 i1 e1)∧w'.cell? ⟨wr.heap.size,3,none⟩=some (.int .i64 y.result.code)∧w'.cell? ⟨wr.heap.size,4,none⟩=some (.string y.result.text)∧w'.cell? ⟨wr.heap.size,5,none⟩=some (.slice Y2 i2 e2)∧w'.cell? ⟨wr.heap.size,6,none⟩=some (.slice Y3 i3 e3)∧w'.cell? ⟨wr.heap.size,7,none⟩=some (.int .i64 y.result.command)) from fun w' hw =>
       ⟨hw,(hKg w' hw).cell (i:=7) rfl,(hKm w' hw).cell (i:=0) rfl,(hKm w' hw).cell (i:=1) rfl,(hKm w' hw).cell (i:=2) rfl,(hKm w' hw).cell (i:=3) rfl,(hKm w' hw).cell (i:=4) rfl,(hKm w' hw).cell (i:=5) rfl,(hKm w' hw).cell (i:=6) rfl,(hKm w' hw).cell (i:=7) rfl⟩)
      unfold resVal at HO
      have HD0:=Lib.hid (Below.drew (fr_refl wX))
      have hklen:(ms.take k).length=k:=by rw [List.length_take]; have:=HML.out; omega
      have hgX:=hgg.lt
      have HKX:=Lib.hid hkpX
      have hyn:y.name.size≤maxLen:=HZs.1
      clear hKg hKm hoff' hd hbdX hf1 hf2 hgg hmbX HS1 HS2 HS3 hkpX
      go_wp2
      go_region_held3 (fun w'=>(Kp (fun j=>j=p.mv) wX w'∧w'.cell? ⟨p.g,7,none⟩=some (.map (some p.mv))∧w'.cell? ⟨wr.heap.size,0,none⟩=some (.string y.name)∧w'.cell? ⟨wr.heap.size,1,none⟩=some (.string y.action)∧w'.cell? ⟨wr.heap.size,2,none⟩=some (.slice Y1 i1 e1)∧w'.cell? ⟨wr.heap.size,3,none⟩=some (.int .i64 y.result.code)∧w'.cell? ⟨wr.heap.size,4,none⟩=some (.string y.result.text)∧w'.cell? ⟨wr.heap.size,5,none⟩=some (.slice Y2 i2 e2)∧w'.cell? ⟨wr.heap.size,6,none⟩=some (.slice Y3 i3 e3)∧w'.cell? ⟨wr.heap.size,7,none⟩=some (.int .i64 y.result.command)))
       (first | assumption | exact HK.out _ (Kp.refl _ wX).drew | exact HK.out _ (Kp.call (And.left (by assumption)) hbA) | exact HK.out _ (Kp.call (And.left (by assumption)) hbB) | exact HK.out _ (Kp.grown (And.left (by assumption)) hg9 (fun j e=>.inl (by cases e; rfl))))
       (first
         | (go_at_call 64; refine (HC.out _ (And.left (by assumption))).mono ?_; rintro e wA ⟨A5',c5',rfl,h51,h52,hs5,hbA⟩)
         | (go_at_call 65; refine (HO.out _ (And.left (by assumption))).mono ?_; rintro e wB ⟨A6,n6,c6,B6,m6,d6,rfl,h61,hs6,hs7,hbB⟩)
         | (obtain ⟨wC,hst9,hm9,hg9⟩:=(HM.out _ (by first | exact fr_call (fr_call HD0.out hbA) hbB | exact fr_call (fr_call HD0.out hbB) hbA)).store Tryz.underlying9 map_mem_under (by unfold maxLen; omega) hyn (.agg #[.string y.name,.string y.action,.slice A5' i1 c5',.int .i64 y.result.code,.string y.result.text,.slice A6 n6 c6,.slice B6 m6 d6,.int .i64 y.result.command]); simp [hst9,Result.andThen]))
      all_goals
       obtain ⟨wF,hgF,hbF,hs5F,hs6F,hs7F⟩:∃ wF:World,wF.grownBy wC (some p.mv)∧Below wX.heap.size wX wF∧Sl wF (Off (BdX p (.slice none 0 0)) wF) A5' i1 y.looks∧Sl wF (Off (BdX p (.slice none 0 0)) wF) A6 n6 y.result.files∧Sl wF (Off (BdX p (.slice none 0 0)) wF) B6 m6 y.result.looks:=⟨_,hg9,(by first | exact fr_call (fr_call HD0.out hbA) hbB | exact fr_call (fr_call HD0.out hbB) hbA),
        by first | exact hs5 | exact sl_off hs5 hbB,by first | exact hs6 | exact sl_off hs6 hbA,by first | exact hs7 | exact sl_off hs7 hbA⟩
       have hv:MemVal wF (Off (BdX p (.slice none 0 0)) wF) y (.agg #[.string y.name,.string y.action,.slice A5' i1 c5',.int .i64 y.result.code,.string y.result.text,.slice A6 n6 c6,.slice B6 m6 d6,.int .i64 y.result.command]) :=
        ⟨A5',i1,c5',A6,n6,c6,B6,m6,d6,rfl,HZs,⟨h51,h52,h61.1,h61.2.1,h61.2.2.1,h61.2.2.2⟩,hs5F,hs6F,hs7F⟩
       have hE9:=HBd.out.keeps (x:=y) (by show (ms.take k).length + 1≤_; have:=HND.out; omega) hbF (HF.out _ hbF) hv HMk.out hm9 hgF
       have hE9:Bd w4 wC p n _ (.slice none 0 0) 0 ⟨F,List.replicate n false,[],putM (ms.take k) y⟩:=hE9
       rw [HT.out] at hE9
       rw [HSv.out] at hE9
       have HE9:=Lib.hid hE9
       have hK9:=Lib.hid ((HKX.out.call hbF).grown hgF fun j e=>.inl (.inr (by cases e; rfl)))
       clear hv hm9 hg9 hst9 hE9
       go_wp2
       go_roundw
       case rel=>exact ⟨k + 1,by omega,by go_num,HE9.out,hK9.out⟩
       case measure=>simp [intOf]; omega
     ·have hql:=idxName_some hoq.symm
      have hqn:q < n:=by rw [←HL.out]; exact hql.1
      obtain ⟨b2,o2,r,rfl,hb2,hr,A1,n1,c1,A2,n2,c2,A3,n3,c3,A4,n4,c4,A5,n5,c5,_,_,⟨s1,s2,s3,s4,s5⟩,q0,q1,q2,q3,q4,q5,q6,q7⟩:=(sl_call hsl hbel9 (Nat.le_refl _)).rule hqn
      have hql':=hql.1
      have hqI:(q:Int) < (n:Int):=by omega
      have h0q:(0:Int)≤(q:Int):=by omega
      obtain ⟨hv,hhv⟩:∃ hv,hv=hasOutS y.result r.action.outputs:=⟨_,rfl⟩
      have HSrv:=Lib.hid ((serves_some hoq hr).trans hhv.symm)
      have HMV9:=HMV.out w9 hb19
      have HHas:=Lib.hid (fun wz (hz:Below w9.heap.size w9 wz)=>steps_hasOutputs y.result Y2 i2 e2 Y3 i3 e3 r.action A1 n1 c1 A2 n2 c2 A3 n3 c3 A4 n4 c4 wz (HS2.out wz (fr_call hb19 hz)) (sl_call s3 hz (Nat.le_refl _)))
      unfold resVal actVal at HHas
      rw [←hhv] at HHas
      have HK6:=Lib.hid (show ∀ w',Below w9.heap.size w9 w'→(Below w9.heap.size w9 w'∧w'.cell? ⟨wr.heap.size,3,none⟩=some (.int .i64 y.result.code)∧w'.cell? ⟨wr.heap.size,4,none⟩=some (.string y.result.text)∧w'.cell? ⟨wr.heap.size,5,none⟩=some (.slice Y2 i2 e2)∧w'.cell? ⟨wr.heap.size,6,none⟩=some (.slice Y3 i3 e3)∧w'.cell? ⟨wr.heap.size,7,none⟩=some (.int .i64 y.result.command)∧w'.cell? ⟨b2,o2 + q * 8 + 1,none⟩=some (.string r.action.tool)∧w'.cell? ⟨b2,o2 + q * 8 + 2,none⟩=some (.slice A1 n1 c1)∧w'.cell? ⟨b2,o2 + q * 8 + 3,none⟩=some (.slice A2 n2 c2)∧w'.cell? ⟨b2,o2 + q * 8 + 4,none⟩=some (.slice A3 n3 c3)∧w'.cell? ⟨b2,o2 + q * 8 + 5,none⟩=some (.slice A4 n4 c4)∧w'.cell? ⟨b2,o2 + q * 8 + 6,none⟩=some (.int .i64 r.action.time)) from fun w' hw=>⟨hw,(hM9.call hw).cell (i:=3) rfl,(hM9.call hw).cell (i:=4) rfl,(hM9.call hw).cell (i:=5) rfl,(hM9.call hw).cell (i:=6) rfl,(hM9.call hw).cell (i:=7) rfl,
       (hw.cell (p:=⟨b2,o2 + q * 8 + 1,none⟩) hb2).trans q1,(hw.cell (p:=⟨b2,o2 + q * 8 + 2,none⟩) hb2).trans q2,(hw.cell (p:=⟨b2,o2 + q * 8 + 3,none⟩) hb2).trans q3,(hw.cell (p:=⟨b2,o2 + q * 8 + 4,none⟩) hb2).trans q4,(hw.cell (p:=⟨b2,o2 + q * 8 + 5,none⟩) hb2).trans q5,(hw.cell (p:=⟨b2,o2 + q * 8 + 6,none⟩) hb2).trans q6⟩)
      have hMl:=hM9.lt
      have hb2':b2 < w9.heap.size:=hb2
      rw [numOr_some]
      clear hoq hr hhv s1 s2 s3 s4 s5 q0 q1 q2 q3 q4 q5 q6 q7 hql HMV9
      go_wp2
      go_region_held3 (fun w'=>(Below w9.heap.size w9 w'∧w'.cell? ⟨wr.heap.size,3,none⟩=some (.int .i64 y.result.code)∧w'.cell? ⟨wr.heap.size,4,none⟩=some (.string y.result.text)∧w'.cell? ⟨wr.heap.size,5,none⟩=some (.slice Y2 i2 e2)∧w'.cell? ⟨wr.heap.size,6,none⟩=some (.slice Y3 i3 e3)∧w'.cell? ⟨wr.heap.size,7,none⟩=some (.int .i64 y.result.command)∧w'.cell? ⟨b2,o2 + q * 8 + 1,none⟩=some (.string r.action.tool)∧w'.cell? ⟨b2,o2 + q * 8 + 2,none⟩=some (.slice A1 n1 c1)∧w'.cell? ⟨b2,o2 + q * 8 + 3,none⟩=some (.slice A2 n2 c2)∧w'.cell? ⟨b2,o2 + q * 8 + 4,none⟩=some (.slice A3 n3 c3)∧w'.cell? ⟨b2,o2 + q * 8 + 5,none⟩=some (.slice A4 n4 c4)∧w'.cell? ⟨b2,o2 + q * 8 + 6,none⟩=some (.int .i64 r.action.time)))
       (first | assumption | exact HK6.out _ (Below.drew (fr_refl w9)) | exact HK6.out _ (fr_call (And.left (by assumption)) hbc))
       (first | (go_at_call 63; refine (HHas.out _ (And.left (by assumption))).mono ?_; rintro e wQ ⟨rfl,hbc⟩; have hbQ9:Below w9.heap.size w9 wQ:=fr_call (And.left (by assumption)) hbc))
      have hbQ:=fr_call hb19 hbQ9
      have hmbQ:=hM9.call hbQ9
      clear hbc HHas HK6 hM9
      cases hv
      ·have HSv:=Lib.hid (show (ms.take k).filter (servesP l)=(ms.take (k + 1)).filter (servesP l) by rw [HFm.out,if_neg (by rw [HSrv.out]; decide)])
       obtain ⟨wX,rfl⟩:∃ wX,wX=wQ:=⟨_,rfl⟩
       have hbdX:=HBd0.out wX hbQ
       have hkpX:=HKp0.out wX hbQ
       have hmvX:=HMV.out wX hbQ
       have hmbX:=hmbQ
       clear hmbQ
       go_wp2
       have hd:=hbdX.dif
       have hoff':∀ w',Kp (fun j=>j=p.mv) wX w'→∀ j,Off (BdX p (.slice none 0 0)) wX j→w'.heap[j]?=wX.heap[j]?:=fun w' hk j hj=>hk.block j hj.2 fun e=>hj.1 (.inr (.inr (.inr (.inr (.inl e)))))
       obtain ⟨Z1,z1,v1,Z2,z2,v2,Z3,z3,v3,eZ,HZs,HZc,HS1,HS2,HS3⟩:=hmvX
       unfold memVal at eZ
       injection eZ with eZ
       injection eZ with eZ
       simp only [List.cons.injEq,Value.slice.injEq,and_true,true_and] at eZ
       obtain ⟨⟨rfl,rfl,rfl⟩,⟨rfl,rfl,rfl⟩,⟨rfl,rfl,rfl⟩⟩:=eZ
       have HC:=Lib.hid (fun w' (hk:Kp (fun j=>j=p.mv) wX w')=>(clone_looks Y1 i1 e1 y.looks w' (Off (BdX p (.slice none 0 0)) wX) (fun j hj=>Nat.lt_of_lt_of_le hj.2 hk.size) (HS1.keep (hoff' w' hk)) (by have:=HMk.out.1.1; rw [HS1.1] at this; omega)).mono
        (show ∀ e w'',CopyPost (Off (BdX p (.slice none 0 0)) wX) i1 y.looks w' e w''→∃ A' c',e=.returned (.slice A' i1 c')∧i1≤c'∧c'≤maxLen∧Sl w'' (Off (BdX p (.slice none 0 0)) w'') A' i1 y.looks∧Below w'.heap.size w' w'' from fun e w'' ⟨A',c',h1,h2,h3,h4,h5⟩=>⟨A',c',h1,h2,h3,h4.more fun j hj=>new_off hbdX.there hk.size hj,h5⟩))
       have HO:=Lib.hid (fun w' (hk:Kp (fun j=>j=p.mv) wX w')=>(steps_ownResult y.result Y2 i2 e2 Y3 i3 e3 w' (Off (BdX p (.slice none 0 0)) wX) (fun j hj=>Nat.lt_of_lt_of_le hj.2 hk.size) ⟨HZs.2.2.2.1,HZs.2.2.1,HS2.keep (hoff' w' hk),HS3.keep (hoff' w' hk),HZs.2.2.2.2⟩ (by have:=HMk.out.1.2.1; rw [HS2.1] at this; exact this) (by have:=HMk.out.1.2.2.1; rw [HS3.1] at this; exact this) HMk.out.1.2.2.2).mono
        (show ∀ e w'',ResPost (Off (BdX p (.slice none 0 0)) wX) y.result w' e w''→∃ A n c B m d,e=.returned (resVal y.result A n c B m d)∧(n≤c∧c≤maxLen∧m≤d∧d≤maxLen)∧Sl w'' (Off (BdX p (.slice none 0 0)) w'') A n y.result.files∧Sl w'' (Off (BdX p (.slice none 0 0)) w'') B m y.result.looks∧Below w'.heap.size w' w'' from fun e w'' ⟨A,n,c,B,m,d,h1,h2,h3,h4⟩=>⟨A,n,c,B,m,d,h1,h2,h3.files.more fun j hj=>new_off hbdX.there hk.size hj,h3.looks.more fun j hj=>new_off hbdX.there hk.size hj,h4⟩))
       obtain ⟨f,hf1,hf2⟩:=hbdX.keptMap
       simp only at hf1 hf2
       have HM:=Lib.hid (fun w' (hb:Below wX.heap.size wX w')=>hf1.call hb)
       have HF:=Lib.hid (fun w' (hb:Below wX.heap.size wX w')=>memsF_call hf2 hb)
       have HBd:=Lib.hid hbdX
       have hgg:=hbdX.blk
       have hmk:=hf1.lt
       have hgne:=hd.g.2.2.2.2.1
       have hgl:=hmbX.lt
       have hKg:=fun w' (hk:Kp (fun j=>j=p.mv) wX w')=>hgg.keep (hk.block p.g hgg.lt hgne)
       have hKm:=fun w' (hk:Kp (fun j=>j=p.mv) wX w')=>hmbX.keep (hk.block wr.heap.size hgl (show ¬ (wr.heap.size=p.mv) by omega))
       have HK:=Lib.hid (show ∀ w',Kp (fun j=>j=p.mv) wX w'→(Kp (fun j=>j=p.mv) wX w'∧w'.cell? ⟨p.g,7,none⟩=some (.map (some p.mv))∧w'.cell? ⟨wr.heap.size,0,none⟩=some (.string y.name)∧w'.cell? ⟨wr.heap.size,1,none⟩=some (.string y.action)∧w'.cell? ⟨wr.heap.size,2,none⟩=some (.slice Y1 i1 e1)∧w'.cell? ⟨wr.heap.size,3,none⟩=some (.int .i64 y.result.code)∧w'.cell? ⟨wr.heap.size,4,none⟩=some (.string y.result.text)∧w'.cell? ⟨wr.heap.size,5,none⟩=some (.slice Y2 i2 e2)∧w'.cell? ⟨wr.heap.size,6,none⟩=some (.slice Y3 i3 e3)∧w'.cell? ⟨wr.heap.size,7,none⟩=some (.int .i64 y.result.command)) from fun w' hw =>
        ⟨hw,(hKg w' hw).cell (i:=7) rfl,(hKm w' hw).cell (i:=0) rfl,(hKm w' hw).cell (i:=1) rfl,(hKm w' hw).cell (i:=2) rfl,(hKm w' hw).cell (i:=3) rfl,(hKm w' hw).cell (i:=4) rfl,(hKm w' hw).cell (i:=5) rfl,(hKm w' hw).cell (i:=6) rfl,(hKm w' hw).cell (i:=7) rfl⟩)
       unfold resVal at HO
       have HD0:=Lib.hid (Below.drew (fr_refl wX))
       have hklen:(ms.take k).length=k:=by rw [List.length_take]; have:=HML.out; omega
       have hgX:=hgg.lt
       have HKX:=Lib.hid hkpX
       have hyn:y.name.size≤maxLen:=HZs.1
       clear hKg hKm hoff' hd hbdX hf1 hf2 hgg hmbX HS1 HS2 HS3 hkpX
       go_wp2
       go_region_held3 (fun w'=>(Kp (fun j=>j=p.mv) wX w'∧w'.cell? ⟨p.g,7,none⟩=some (.map (some p.mv))∧w'.cell? ⟨wr.heap.size,0,none⟩=some (.string y.name)∧w'.cell? ⟨wr.heap.size,1,none⟩=some (.string y.action)∧w'.cell? ⟨wr.heap.size,2,none⟩=some (.slice Y1 i1 e1)∧w'.cell? ⟨wr.heap.size,3,none⟩=some (.int .i64 y.result.code)∧w'.cell? ⟨wr.heap.size,4,none⟩=some (.string y.result.text)∧w'.cell? ⟨wr.heap.size,5,none⟩=some (.slice Y2 i2 e2)∧w'.cell? ⟨wr.heap.size,6,none⟩=some (.slice Y3 i3 e3)∧w'.cell? ⟨wr.heap.size,7,none⟩=some (.int .i64 y.result.command)))
        (first | assumption | exact HK.out _ (Kp.refl _ wX).drew | exact HK.out _ (Kp.call (And.left (by assumption)) hbA) | exact HK.out _ (Kp.call (And.left (by assumption)) hbB) | exact HK.out _ (Kp.grown (And.left (by assumption)) hg9 (fun j e=>.inl (by cases e; rfl))))
        (first
          | (go_at_call 64; refine (HC.out _ (And.left (by assumption))).mono ?_; rintro e wA ⟨A5',c5',rfl,h51,h52,hs5,hbA⟩)
          | (go_at_call 65; refine (HO.out _ (And.left (by assumption))).mono ?_; rintro e wB ⟨A6,n6,c6,B6,m6,d6,rfl,h61,hs6,hs7,hbB⟩)
          | (obtain ⟨wC,hst9,hm9,hg9⟩:=(HM.out _ (by first | exact fr_call (fr_call HD0.out hbA) hbB | exact fr_call (fr_call HD0.out hbB) hbA)).store Tryz.underlying9 map_mem_under (by unfold maxLen; omega) hyn (.agg #[.string y.name,.string y.action,.slice A5' i1 c5',.int .i64 y.result.code,.string y.result.text,.slice A6 n6 c6,.slice B6 m6 d6,.int .i64 y.result.command]); simp [hst9,Result.andThen]))
       all_goals
        obtain ⟨wF,hgF,hbF,hs5F,hs6F,hs7F⟩:∃ wF:World,wF.grownBy wC (some p.mv)∧Below wX.heap.size wX wF∧Sl wF (Off (BdX p (.slice none 0 0)) wF) A5' i1 y.looks∧Sl wF (Off (BdX p (.slice none 0 0)) wF) A6 n6 y.result.files∧Sl wF (Off (BdX p (.slice none 0 0)) wF) B6 m6 y.result.looks:=⟨_,hg9,(by first | exact fr_call (fr_call HD0.out hbA) hbB | exact fr_call (fr_call HD0.out hbB) hbA),
         by first | exact hs5 | exact sl_off hs5 hbB,by first | exact hs6 | exact sl_off hs6 hbA,by first | exact hs7 | exact sl_off hs7 hbA⟩
        have hv:MemVal wF (Off (BdX p (.slice none 0 0)) wF) y (.agg #[.string y.name,.string y.action,.slice A5' i1 c5',.int .i64 y.result.code,.string y.result.text,.slice A6 n6 c6,.slice B6 m6 d6,.int .i64 y.result.command]) :=
         ⟨A5',i1,c5',A6,n6,c6,B6,m6,d6,rfl,HZs,⟨h51,h52,h61.1,h61.2.1,h61.2.2.1,h61.2.2.2⟩,hs5F,hs6F,hs7F⟩
        have hE9:=HBd.out.keeps (x:=y) (by show (ms.take k).length + 1≤_; have:=HND.out; omega) hbF (HF.out _ hbF) hv HMk.out hm9 hgF
        have hE9:Bd w4 wC p n _ (.slice none 0 0) 0 ⟨F,List.replicate n false,[],putM (ms.take k) y⟩:=hE9
        rw [HT.out] at hE9
        rw [HSv.out] at hE9
        have HE9:=Lib.hid hE9
        have hK9:=Lib.hid ((HKX.out.call hbF).grown hgF fun j e=>.inl (.inr (by cases e; rfl)))
        clear hv hm9 hg9 hst9 hE9
        go_wp2
        go_roundw
        case rel=>exact ⟨k + 1,by omega,by go_num,HE9.out,hK9.out⟩
        case measure=>simp [intOf]; omega
      ·have HSv:=Lib.hid (show putM ((ms.take k).filter (servesP l)) y=(ms.take (k + 1)).filter (servesP l) by rw [HFm.out,if_pos HSrv.out])
       obtain ⟨f0,hf1,hf2⟩:=hbd.memMap HByF.out
       have hyn0:y.name.size≤maxLen:=by
        obtain ⟨_,_,_,_,_,_,_,_,_,_,h1,_⟩:=HMV.out wQ hbQ
        exact h1.1
       have hmml:p.mm < wr.heap.size:=hf1.lt
       have x0:=hmbQ.cell (i:=0) rfl
       have x1:=hmbQ.cell (i:=1) rfl
       have x2:=hmbQ.cell (i:=2) rfl
       have x3:=hmbQ.cell (i:=3) rfl
       have x4:=hmbQ.cell (i:=4) rfl
       have x5:=hmbQ.cell (i:=5) rfl
       have x6:=hmbQ.cell (i:=6) rfl
       have x7:=hmbQ.cell (i:=7) rfl
       have xl:=hmbQ.lt
       have cg:=(hbQ.cell (p:=⟨p.g,2,none⟩) hgR).trans (hbd.blk.cell (i:=2) rfl)
       have hgQ:p.g < wQ.heap.size:=Nat.lt_of_lt_of_le hgR hbQ.size
       have hm1:=hf1.call hbQ
       have HF0:=Lib.hid (memsF_call hf2 hbQ.drew)
       have HBq:=Lib.hid hbd
       have HMq:=Lib.hid hmbQ
       clear hf1 hf2 hbd hmbQ
       go_wp2
       go_still_tail 7,(by kernel_rfl)
       change wpList _ _ _ _ _ wQ.drew
       go_wp2_with (
        at_mapUpdate
        refine wpList_mapUpdate_is _ rfl _ _ _ 98 rfl Tryz.underlying9 map_mem_under rfl (hm1.keep rfl) (by have:=HmL.out; unfold maxLen; omega) y.name hyn0 (.agg #[.string y.name,.string y.action,.slice Y1 i1 e1,.int .i64 y.result.code,.string y.result.text,.slice Y2 i2 e2,.slice Y3 i3 e3,.int .i64 y.result.command]) rfl rfl ?_
        intro wX hm5 hg5)
       have hbdX:=HBq.out.remembers (x:=y) (by have:=HmL.out; omega) hbQ.drew HF0.out (HMV.out _ hbQ.drew) hm5 hg5
       have hkpX:=(HKp0.out _ hbQ.drew).grown hg5 (fun j e=>.inl (.inl (by cases e; rfl)))
       have hmvX:MemVal wX (Off (BdX p (.slice none 0 0)) wX) y (.agg #[.string y.name,.string y.action,.slice Y1 i1 e1,.int .i64 y.result.code,.string y.result.text,.slice Y2 i2 e2,.slice Y3 i3 e3,.int .i64 y.result.command]):=((HMV.out _ hbQ.drew).keep fun k hk=>hg5.block k hk.2 (fun e=>hk.1 (.inr (.inr (.inl (by cases e; rfl)))))).more fun k hk=>off_of hk hg5.size
       have hmbX:=HMq.out.keep (hg5.block wr.heap.size HMq.out.lt (fun e=>by injection e with e; omega))
       clear x0 x1 x2 x3 x4 x5 x6 x7 xl cg hm1 hm5 hg5
       go_wp2
       have hd:=hbdX.dif
       have hoff':∀ w',Kp (fun j=>j=p.mv) wX w'→∀ j,Off (BdX p (.slice none 0 0)) wX j→w'.heap[j]?=wX.heap[j]?:=fun w' hk j hj=>hk.block j hj.2 fun e=>hj.1 (.inr (.inr (.inr (.inr (.inl e)))))
       obtain ⟨Z1,z1,v1,Z2,z2,v2,Z3,z3,v3,eZ,HZs,HZc,HS1,HS2,HS3⟩:=hmvX
       unfold memVal at eZ
       injection eZ with eZ
       injection eZ with eZ
       simp only [List.cons.injEq,Value.slice.injEq,and_true,true_and] at eZ
       obtain ⟨⟨rfl,rfl,rfl⟩,⟨rfl,rfl,rfl⟩,⟨rfl,rfl,rfl⟩⟩:=eZ
       have HC:=Lib.hid (fun w' (hk:Kp (fun j=>j=p.mv) wX w')=>(clone_looks Y1 i1 e1 y.looks w' (Off (BdX p (.slice none 0 0)) wX) (fun j hj=>Nat.lt_of_lt_of_le hj.2 hk.size) (HS1.keep (hoff' w' hk)) (by have:=HMk.out.1.1; rw [HS1.1] at this; omega)).mono
        (show ∀ e w'',CopyPost (Off (BdX p (.slice none 0 0)) wX) i1 y.looks w' e w''→∃ A' c',e=.returned (.slice A' i1 c')∧i1≤c'∧c'≤maxLen∧Sl w'' (Off (BdX p (.slice none 0 0)) w'') A' i1 y.looks∧Below w'.heap.size w' w'' from fun e w'' ⟨A',c',h1,h2,h3,h4,h5⟩=>⟨A',c',h1,h2,h3,h4.more fun j hj=>new_off hbdX.there hk.size hj,h5⟩))
       have HO:=Lib.hid (fun w' (hk:Kp (fun j=>j=p.mv) wX w')=>(steps_ownResult y.result Y2 i2 e2 Y3 i3 e3 w' (Off (BdX p (.slice none 0 0)) wX) (fun j hj=>Nat.lt_of_lt_of_le hj.2 hk.size) ⟨HZs.2.2.2.1,HZs.2.2.1,HS2.keep (hoff' w' hk),HS3.keep (hoff' w' hk),HZs.2.2.2.2⟩ (by have:=HMk.out.1.2.1; rw [HS2.1] at this; exact this) (by have:=HMk.out.1.2.2.1; rw [HS3.1] at this; exact this) HMk.out.1.2.2.2).mono
        (show ∀ e w'',ResPost (Off (BdX p (.slice none 0 0)) wX) y.result w' e w''→∃ A n c B m d,e=.returned (resVal y.result A n c B m d)∧(n≤c∧c≤maxLen∧m≤d∧d≤maxLen)∧Sl w'' (Off (BdX p (.slice none 0 0)) w'') A n y.result.files∧Sl w'' (Off (BdX p (.slice none 0 0)) w'') B m y.result.looks∧Below w'.heap.size w' w'' from fun e w'' ⟨A,n,c,B,m,d,h1,h2,h3,h4⟩=>⟨A,n,c,B,m,d,h1,h2,h3.files.more fun j hj=>new_off hbdX.there hk.size hj,h3.looks.more fun j hj=>new_off hbdX.there hk.size hj,h4⟩))
       obtain ⟨f,hf1,hf2⟩:=hbdX.keptMap
       simp only at hf1 hf2
       have HM:=Lib.hid (fun w' (hb:Below wX.heap.size wX w')=>hf1.call hb)
       have HF:=Lib.hid (fun w' (hb:Below wX.heap.size wX w')=>memsF_call hf2 hb)
       have HBd:=Lib.hid hbdX
       have hgg:=hbdX.blk
       have hmk:=hf1.lt
       have hgne:=hd.g.2.2.2.2.1
       have hgl:=hmbX.lt
       have hKg:=fun w' (hk:Kp (fun j=>j=p.mv) wX w')=>hgg.keep (hk.block p.g hgg.lt hgne)
       have hKm:=fun w' (hk:Kp (fun j=>j=p.mv) wX w')=>hmbX.keep (hk.block wr.heap.size hgl (show ¬ (wr.heap.size=p.mv) by omega))
       have HK:=Lib.hid (show ∀ w',Kp (fun j=>j=p.mv) wX w'→(Kp (fun j=>j=p.mv) wX w'∧w'.cell? ⟨p.g,7,none⟩=some (.map (some p.mv))∧w'.cell? ⟨wr.heap.size,0,none⟩=some (.string y.name)∧w'.cell? ⟨wr.heap.size,1,none⟩=some (.string y.action)∧w'.cell? ⟨wr.heap.size,2,none⟩=some (.slice Y1 i1 e1)∧w'.cell? ⟨wr.heap.size,3,none⟩=some (.int .i64 y.result.code)∧w'.cell? ⟨wr.heap.size,4,none⟩=some (.string y.result.text)∧w'.cell? ⟨wr.heap.size,5,none⟩=some (.slice Y2 i2 e2)∧w'.cell? ⟨wr.heap.size,6,none⟩=some (.slice Y3 i3 e3)∧w'.cell? ⟨wr.heap.size,7,none⟩=some (.int .i64 y.result.command)) from fun w' hw =>
        ⟨hw,(hKg w' hw).cell (i:=7) rfl,(hKm w' hw).cell (i:=0) rfl,(hKm w' hw).cell (i:=1) rfl,(hKm w' hw).cell (i:=2) rfl,(hKm w' hw).cell (i:=3) rfl,(hKm w' hw).cell (i:=4) rfl,(hKm w' hw).cell (i:=5) rfl,(hKm w' hw).cell (i:=6) rfl,(hKm w' hw).cell (i:=7) rfl⟩)
       unfold resVal at HO
       have HD0:=Lib.hid (Below.drew (fr_refl wX))
       have hklen:(ms.take k).length=k:=by rw [List.length_take]; have:=HML.out; omega
       have hgX:=hgg.lt
       have HKX:=Lib.hid hkpX
       have hyn:y.name.size≤maxLen:=HZs.1
       clear hKg hKm hoff' hd hbdX hf1 hf2 hgg hmbX HS1 HS2 HS3 hkpX
       go_wp2
       go_region_held3 (fun w'=>(Kp (fun j=>j=p.mv) wX w'∧w'.cell? ⟨p.g,7,none⟩=some (.map (some p.mv))∧w'.cell? ⟨wr.heap.size,0,none⟩=some (.string y.name)∧w'.cell? ⟨wr.heap.size,1,none⟩=some (.string y.action)∧w'.cell? ⟨wr.heap.size,2,none⟩=some (.slice Y1 i1 e1)∧w'.cell? ⟨wr.heap.size,3,none⟩=some (.int .i64 y.result.code)∧w'.cell? ⟨wr.heap.size,4,none⟩=some (.string y.result.text)∧w'.cell? ⟨wr.heap.size,5,none⟩=some (.slice Y2 i2 e2)∧w'.cell? ⟨wr.heap.size,6,none⟩=some (.slice Y3 i3 e3)∧w'.cell? ⟨wr.heap.size,7,none⟩=some (.int .i64 y.result.command)))
        (first | assumption | exact HK.out _ (Kp.refl _ wX).drew | exact HK.out _ (Kp.call (And.left (by assumption)) hbA) | exact HK.out _ (Kp.call (And.left (by assumption)) hbB) | exact HK.out _ (Kp.grown (And.left (by assumption)) hg9 (fun j e=>.inl (by cases e; rfl))))
        (first
          | (go_at_call 64; refine (HC.out _ (And.left (by assumption))).mono ?_; rintro e wA ⟨A5',c5',rfl,h51,h52,hs5,hbA⟩)
          | (go_at_call 65; refine (HO.out _ (And.left (by assumption))).mono ?_; rintro e wB ⟨A6,n6,c6,B6,m6,d6,rfl,h61,hs6,hs7,hbB⟩)
          | (obtain ⟨wC,hst9,hm9,hg9⟩:=(HM.out _ (by first | exact fr_call (fr_call HD0.out hbA) hbB | exact fr_call (fr_call HD0.out hbB) hbA)).store Tryz.underlying9 map_mem_under (by unfold maxLen; omega) hyn (.agg #[.string y.name,.string y.action,.slice A5' i1 c5',.int .i64 y.result.code,.string y.result.text,.slice A6 n6 c6,.slice B6 m6 d6,.int .i64 y.result.command]); simp [hst9,Result.andThen]))
       all_goals
        obtain ⟨wF,hgF,hbF,hs5F,hs6F,hs7F⟩:∃ wF:World,wF.grownBy wC (some p.mv)∧Below wX.heap.size wX wF∧Sl wF (Off (BdX p (.slice none 0 0)) wF) A5' i1 y.looks∧Sl wF (Off (BdX p (.slice none 0 0)) wF) A6 n6 y.result.files∧Sl wF (Off (BdX p (.slice none 0 0)) wF) B6 m6 y.result.looks:=⟨_,hg9,(by first | exact fr_call (fr_call HD0.out hbA) hbB | exact fr_call (fr_call HD0.out hbB) hbA),
         by first | exact hs5 | exact sl_off hs5 hbB,by first | exact hs6 | exact sl_off hs6 hbA,by first | exact hs7 | exact sl_off hs7 hbA⟩
        have hv:MemVal wF (Off (BdX p (.slice none 0 0)) wF) y (.agg #[.string y.name,.string y.action,.slice A5' i1 c5',.int .i64 y.result.code,.string y.result.text,.slice A6 n6 c6,.slice B6 m6 d6,.int .i64 y.result.command]) :=
         ⟨A5',i1,c5',A6,n6,c6,B6,m6,d6,rfl,HZs,⟨h51,h52,h61.1,h61.2.1,h61.2.2.1,h61.2.2.2⟩,hs5F,hs6F,hs7F⟩
        have hE9:=HBd.out.keeps (x:=y) (by show (ms.take k).length + 1≤_; have:=HND.out; omega) hbF (HF.out _ hbF) hv HMk.out hm9 hgF
        have hE9:Bd w4 wC p n _ (.slice none 0 0) 0 ⟨F,List.replicate n false,[],putM (ms.take k) y⟩:=hE9
        rw [HT.out] at hE9
        rw [HSv.out] at hE9
        have HE9:=Lib.hid hE9
        have hK9:=Lib.hid ((HKX.out.call hbF).grown hgF fun j e=>.inl (.inr (by cases e; rfl)))
        clear hv hm9 hg9 hst9 hE9
        go_wp2
        go_roundw
        case rel=>exact ⟨k + 1,by omega,by go_num,HE9.out,hK9.out⟩
        case measure=>simp [intOf]; omega
    ·obtain rfl:k=nd:=by omega
     rw [List.take_of_length_le (by rw [HML.out]; exact Nat.le_refl _)] at hbd
     have hbd:Bd w4 wr p n (servesS l ms) (.slice none 0 0) 0 ⟨F,List.replicate n false,[],ms⟩:=hbd
     obtain ⟨O,co,rfl,_,_,hso⟩:=hrow2.sl
     have HO:=Lib.hid (fun wz (hz:Below w4.heap.size w4 wz)=>sl_call hso (fr_call (fr_call hb3 hb4) hz) (Nat.le_refl _))
     have HSl:=Lib.hid (fun wz (hz:Below w4.heap.size w4 wz)=>sl_call hsl (fr_call hb04 hz) (Nat.le_refl _))
     have HPp:=Lib.hid (plan_parts hplan)
     have hno:order.length≤500:=by have:=plan_len hplan; have:=HL.out; omega
     have hno9:order.length≤9223372036854775807:=by omega
     clear hso hrow2 hkp
     go_wp2
     go_loopw [147] (fun i wr=>∃ k:Nat,k≤order.length∧i=.int .i64 k∧Bd w4 wr p n (servesS l ms) (.slice none 0 0) 0 ⟨F,List.replicate n false,[],ms.filter fun y=>!(order.take k).any fun i=>(nameAt l i).toList == y.name.toList⟩) (fun i _=>order.length - (intOf i).toNat)
     case atStart=>exact ⟨0,Nat.zero_le _,rfl,by rw [show (ms.filter fun y=>!(order.take 0).any fun i=>(nameAt l i).toList == y.name.toList)=ms from List.filter_eq_self.2 fun y _=>by simp]; exact hbd⟩
     case round =>
      clear hbd
      obtain ⟨k,hk,rfl,hbd⟩:=hrel
      by_cases hlt:k < order.length
      ·have hkI:(k:Int) < (order.length:Int):=by omega
       obtain ⟨b,o,j,rfl,hb,hj,hjm,c0⟩:=(HO.out wr hbd.low).nat hlt
       have hjn:j < n:=by rw [←HL.out]; exact HPp.out.2 j (List.mem_of_getElem? hj)
       have hjI:(j:Int) < (n:Int):=by omega
       obtain ⟨b2,o2,r,rfl,hb2,hr,hrn,q0⟩:=(HSl.out wr hbd.low).ruleName hjn
       obtain ⟨f,hf1,hf2⟩:=hbd.keptDrop r.name
       have HDm:=Lib.hid (drop_more (l:=l) (ms:=ms) hj)
       rw [nameAt_some hr] at HDm
       have cg:=hbd.blk.cell (i:=7) rfl
       have hgl:=hbd.blk.lt
       have HBd:=Lib.hid hbd
       clear hj hr hbd
       go_wp2
       go_still_tail 9,(by kernel_rfl)
       change wpList _ _ _ _ _ wr.drew
       go_wp2_with (
        at_delete
        refine wpList_delete_is _ rfl _ _ 98 rfl Tryz.underlying9 map_mem_under rfl (hf1.keep rfl) r.name hrn rfl ?_
        intro w10 hm5 hg5)
       have hbd5:=HBd.out.drops (z:=r.name) (Below.drew (fr_refl wr)) (hf2 _ (Below.drew (fr_refl wr))) hm5 hg5
       have hbd5:Bd w4 w10 p n (servesS l ms) (.slice none 0 0) 0 ⟨F,List.replicate n false,[],(ms.filter fun y=>!(order.take k).any fun i=>(nameAt l i).toList == y.name.toList).filter fun y=>!(r.name.toList == y.name.toList)⟩:=hbd5
       rw [HDm.out] at hbd5
       go_roundw
       case rel=>exact ⟨k + 1,by omega,by go_num,hbd5⟩
       case measure=>simp [intOf]; omega
      ·obtain rfl:k=order.length:=by omega
       rw [List.take_of_length_le (Nat.le_refl _)] at hbd
       have hS:(⟨F,List.replicate n false,[],ms.filter fun y=>!order.any fun i=>(nameAt l i).toList == y.name.toList⟩:BSt)=startB l F ms order:=by unfold startB; rw [HL.out]
       rw [hS] at hbd
       have HE4:=Lib.hid (hE.then_ hb04)
       have HSl4:=Lib.hid (sl_call hsl hb04 (Nat.le_refl _))
       have HMok:=Lib.hid (fun y (hy:y∈servesS l ms)=>mem2_all HM0.out y (List.mem_filter.1 hy).1)
       have HPlan:=Lib.hid hplan
       go_wp2
       go_loopw [163] (fun i wr=>∃ (k:Nat) (u:Value) (s:BSt),k≤order.length∧i=.int .i64 k∧Bd w4 wr p n (servesS l ms) u k s∧stepsS l (servesS l ms) (order.drop k) s=runB l F ms order) (fun i _=>order.length - (intOf i).toNat)
       case atStart=>exact ⟨0,_,_,Nat.zero_le _,rfl,hbd,rfl⟩
       case round =>
        clear hbd hS
        obtain ⟨k,u,s,hk,rfl,hbd,hrun⟩:=hrel
        have HRun:=Lib.hid hrun
        clear hrun
        by_cases hlt:k < order.length
        ·have hkI:(k:Int) < (order.length:Int):=by omega
         obtain ⟨b,o,j,rfl,hb,hj,hjm,c0⟩:=(HO.out wr hbd.low).nat hlt
         obtain ⟨r,hr⟩:=at_lt (HPp.out.2 j (List.mem_of_getElem? hj))
         have HSt:=Lib.hid (steps_step _ w4 p A n c l (servesS l ms) u k s j r wr HE4.out HPl4.out HSl4.out HC0.out hr HMok.out (by omega) hbd)
         have HJ:=Lib.hid hj
         have HR:=Lib.hid hr
         clear hj hr hbd
         go_wp2_with fail
         refine HSt.out.mono ?_
         rintro e w9 ⟨rfl,hgood,hlow9⟩
         by_cases hf:(outS (needsS l) (servesS l ms) r j s).fault=0
         ·obtain ⟨u',hbd'⟩:=hgood hf
          have HN:=Lib.hid (show stepsS l (servesS l ms) (order.drop (k + 1)) (takeS r j (outS (needsS l) (servesS l ms) r j s) s)=runB l F ms order by rw [←HRun.out,drop_at HJ.out,steps_go HR.out hf])
          rw [hf]
          clear hgood
          go_wp2
          go_roundw
          case rel=>exact ⟨k + 1,u',_,by omega,by go_num,hbd',HN.out⟩
          case measure=>simp [intOf]; omega
         ·have HX:=Lib.hid (show BwPost A n c l F ws ms w (.returned (.tuple #[.pointer none,.int .i64 (outS (needsS l) (servesS l ms) r j s).fault])) w9 from by
           have e1:(runB l F ms order).1=(outS (needsS l) (servesS l ms) r j s).fault:=by rw [←HRun.out,drop_at HJ.out,steps_stop HR.out hf]
           exact ⟨hb04.trans (hlow9.mono hb04.size),fun h=>absurd HBE.out h,fun _=>⟨order,HPlan.out,fun _=>by rw [e1],fun h=>absurd (e1.symm.trans h) hf⟩⟩)
          have hfz:((outS (needsS l) (servesS l ms) r j s).fault == 0)=false:=by simpa using hf
          clear hgood hf
          generalize (outS (needsS l) (servesS l ms) r j s).fault=z at *
          go_wp2
          go_ret2
          exact HX.out
        ·obtain rfl:k=order.length:=by omega
         have e:=HRun.out
         rw [List.drop_eq_nil_of_le (Nat.le_refl _)] at e
         have e1:(runB l F ms order).1=0:=by rw [←e]; rfl
         have e2:(runB l F ms order).2=s:=by rw [←e]; rfl
         have HX:=Lib.hid (show BwPost A n c l F ws ms w (.returned (.tuple #[.pointer (some ⟨p.g,0,none⟩),.int .i64 0])) wr from
          ⟨hb04.trans (hbd.low.mono hb04.size),fun h=>absurd HBE.out h,fun _=>⟨order,HPlan.out,fun h=>absurd e1 h,fun _=>⟨w4,_,p,u,hb04,HPl4.out,rfl,by rw [e2]; exact hbd,hpu⟩⟩⟩)
         clear e e1 e2 hbd
         go_wp2
         go_ret2
         exact HX.out
end Go.Proofs.Sm
