/- Words and walks that the claims share, part 31. -/
import Derived.Test.YtaabdbephemboaaGreatDoorBx30
import Derived.Deep.RegionHeld3
import Derived.StillTailTactics
import Derived.Deep.RegionLaw
namespace Go.Proofs.Sm
open Go.RowKit Go.Maps
theorem map_mem_under:Tryz.prog.underlying 98=some (.map 9 43):=by kernel_rfl
def TakePost (W:World) (p:BdP) (n:Nat) (mem:List MemoryV) (u:Value) (M:Nat) (s:BSt) (w:World) (e:Ending) (w':World):Prop:=e=.returned (.tuple #[])∧Bd W w' p n mem u M s∧Kp (BdX p u) w w'
theorem puts_le:∀ (l h:List FileV),(l.foldl putFileS h).length≤h.length + l.length
 | [],h=>by simp
 | x :: l,h=>by
   rw [List.foldl_cons]
   have h1:=puts_le l (putFileS h x)
   have h2:(putFileS h x).length≤h.length + 1:=put_le (key:=FileV.path) h x
   rw [List.length_cons]; omega
theorem puts_more {l h:List FileV} {k:Nat} {x:FileV} (hx:l[k]?=some x):(l.take (k + 1)).foldl putFileS h=putFileS ((l.take k).foldl putFileS h) x:=by
 rw [List.take_add_one,hx,List.foldl_append]; rfl
theorem Bd.haveMap {W w:World} {p:BdP} {n M:Nat} {mem:List MemoryV} {u:Value} {s:BSt} (h:Bd W w p n mem u M s):∃ f,MapIs Tryz.prog 9 w p.mh s.have_.length f∧∀ key,match keyF s.have_ key with
 | none=>f key=none
 | some x=>∃ v,f key=some v∧FileVal w (Off (BdX p u) w) x v:=h.hav
theorem Bd.keptMap {W w:World} {p:BdP} {n M:Nat} {mem:List MemoryV} {u:Value} {s:BSt} (h:Bd W w p n mem u M s):∃ f,MapIs Tryz.prog 9 w p.mv s.kept.length f∧∀ key,match keyM s.kept key with
 | none=>f key=none
 | some x=>∃ v,f key=some v∧MemVal w (Off (BdX p u) w) x v:=h.kept
theorem filesF_call {w w':World} {X:Nat→Prop} {l:List FileV} {f:List UInt8→Option Value} (hf:∀ key,match keyF l key with
 | none=>f key=none
 | some x=>∃ v,f key=some v∧FileVal w (Off X w) x v) (hb:Below w.heap.size w w'):∀ key,match keyF l key with
 | none=>f key=none
 | some x=>∃ v,f key=some v∧FileVal w' (Off X w') x v:=fun key=>by
 have h1:=hf key
 cases hk:keyF l key with
 | none=>rw [hk] at h1; exact h1
 | some x =>
   rw [hk] at h1
   obtain ⟨v,h2,h3⟩:=h1
   exact ⟨v,h2,(h3.keep fun k hk=>hb.block k hk.2).more fun k hk=>off_of hk hb.size⟩
theorem memsF_call {w w':World} {X:Nat→Prop} {l:List MemoryV} {f:List UInt8→Option Value} (hf:∀ key,match keyM l key with
 | none=>f key=none
 | some x=>∃ v,f key=some v∧MemVal w (Off X w) x v) (hb:Below w.heap.size w w'):∀ key,match keyM l key with
 | none=>f key=none
 | some x=>∃ v,f key=some v∧MemVal w' (Off X w') x v:=fun key=>by
 have h1:=hf key
 cases hk:keyM l key with
 | none=>rw [hk] at h1; exact h1
 | some x =>
   rw [hk] at h1
   obtain ⟨v,h2,h3⟩:=h1
   exact ⟨v,h2,(h3.keep fun k hk=>hb.block k hk.2).more fun k hk=>off_of hk hb.size⟩
theorem sl_off {α:Type} [Rep α] {X:Nat→Prop} {w w':World} {A:Option Addr} {n:Nat} {l:List α} (h:Sl w (Off X w) A n l) (hb:Below w.heap.size w w'):Sl w' (Off X w') A n l:=(h.keep fun k hk=>hb.block k hk.2).more fun _ hk=>off_of hk hb.size
theorem digest_small (l:List UInt8):(digestS l).size≤maxLen:=by
 have:=digestS_size l
 unfold maxLen; omega
theorem new_off {X:Nat→Prop} {w w1 w2:World} (hX:∀ k,X k→k < w.heap.size) (hz:w.heap.size≤w1.heap.size) {k:Nat} (h:NewS (Off X w) w1 w2 k):Off X w2 k:=by
 rcases h.1 with h1 | h1
 ·exact ⟨h1.1,h.2⟩
 ·exact ⟨fun e=>by have:=hX k e; omega,h.2⟩
set_option maxHeartbeats 0 in
set_option maxRecDepth 100000 in
theorem steps_take (W:World) (p:BdP) (n:Nat) (mem:List MemoryV) (u:Value) (M:Nat) (s:BSt) (r:RuleV) (q:RuP) (x:ResultV) (A:Option Addr) (nf c:Nat) (B:Option Addr) (m d:Nat) (w:World) (hE:Env2 W) (h:Bd W w p n mem u M s) (hq:RuS W (Lt W.heap.size) r q) (ok:ActOk r.action)
 (hr:ResS w (Off (BdX p u) w) x A nf B m) (hx:Mem2 (memOf r x)) (hh:s.have_.length + x.files.length≤1000000 * (M + 1)) (hk:s.kept.length + 1≤M + 500) (hM:M≤1000000) :
 Calls Tryz.prog 98 #[.pointer (some ⟨p.g,0,none⟩),.agg #[.string r.name,.string r.action.tool,.slice q.A1 q.n1 q.c1,.slice q.A2 q.n2 q.c2,.slice q.A3 q.n3 q.c3,.slice q.A4 q.n4 q.c4,.int .i64 r.action.time,.slice q.A5 q.n5 q.c5],resVal x A nf c B m d] w
  (TakePost W p n mem u M { s with have_:=x.files.foldl putFileS s.have_,kept:=putM s.kept (memOf r x) } w):=by
 have hrn:=hq.name
 have HAct:=Lib.hid (fun w' (hb:Below W.heap.size W w')=>hq.actAt hb)
 obtain ⟨A1,n1,c1,A2,n2,c2,A3,n3,c3,A4,n4,c4,A5,n5,c5⟩:=q
 simp only at HAct ⊢
 clear hq
 unfold resVal
 have HL:=Lib.hid hr.files.1
 have hnf:nf≤1000000:=by have:=hx.1.2.1; rw [show (memOf r x).result.files=x.files from rfl,HL.out] at this; exact this
 have hmm:m≤1000000:=by have:=hx.1.2.2.1; rw [show (memOf r x).result.looks=x.looks from rfl,hr.looks.1] at this; exact this
 have hm9:nf≤9223372036854775807:=by omega
 have hbs:∀ z∈x.files,z.bytes.length≤100000000:=hx.1.2.2.2
 have hb2:=fr_alloc (fr_alloc (fr_refl w) (.cells #[.string r.name,.string r.action.tool,.slice A1 n1 c1,.slice A2 n2 c2,.slice A3 n3 c3,.slice A4 n4 c4,.int .i64 r.action.time,.slice A5 n5 c5] 60)) (.cells #[.int .i64 x.code,.string x.text,.slice A nf c,.slice B m d,.int .i64 x.command] 41)
 have hA2:=(rule_box w r A1 n1 c1 A2 n2 c2 A3 n3 c3 A4 n4 c4 A5 n5 c5).call (fr_alloc (fr_refl _) (.cells #[.int .i64 x.code,.string x.text,.slice A nf c,.slice B m d,.int .i64 x.command] 41))
 have hR2:=res_box (w.alloc (.cells #[.string r.name,.string r.action.tool,.slice A1 n1 c1,.slice A2 n2 c2,.slice A3 n3 c3,.slice A4 n4 c4,.int .i64 r.action.time,.slice A5 n5 c5] 60)) x A nf c B m d
 rw [World.size_alloc] at hR2
 have hbd2:=h.call hb2
 have hEw:=hE.then_ hbd2.low
 have hr2:ResS ((w.alloc (.cells #[.string r.name,.string r.action.tool,.slice A1 n1 c1,.slice A2 n2 c2,.slice A3 n3 c3,.slice A4 n4 c4,.int .i64 r.action.time,.slice A5 n5 c5] 60)).alloc (.cells #[.int .i64 x.code,.string x.text,.slice A nf c,.slice B m d,.int .i64 x.command] 41)) (Off (BdX p u) ((w.alloc (.cells #[.string r.name,.string r.action.tool,.slice A1 n1 c1,.slice A2 n2 c2,.slice A3 n3 c3,.slice A4 n4 c4,.int .i64 r.action.time,.slice A5 n5 c5] 60)).alloc (.cells #[.int .i64 x.code,.string x.text,.slice A nf c,.slice B m d,.int .i64 x.command] 41))) x A nf B m:=⟨hr.code,hr.text,(hr.files.keep fun k hk=>hb2.block k hk.2).more fun k hk=>off_of hk hb2.size,(hr.looks.keep fun k hk=>hb2.block k hk.2).more fun k hk=>off_of hk hb2.size,hr.command⟩
 have hoff:∀ k,BdX p u k→k < w.heap.size:=h.there
 have HKp:=Lib.hid (fun w' (hk:Kp (BdX p u) ((w.alloc (.cells #[.string r.name,.string r.action.tool,.slice A1 n1 c1,.slice A2 n2 c2,.slice A3 n3 c3,.slice A4 n4 c4,.int .i64 r.action.time,.slice A5 n5 c5] 60)).alloc (.cells #[.int .i64 x.code,.string x.text,.slice A nf c,.slice B m d,.int .i64 x.command] 41)) w')=>(Kp.of hb2).trans hk)
 go_enter Tryz.func98,Tryz.ntmps98
 go_wp2
 generalize hW2:(w.alloc (.cells #[.string r.name,.string r.action.tool,.slice A1 n1 c1,.slice A2 n2 c2,.slice A3 n3 c3,.slice A4 n4 c4,.int .i64 r.action.time,.slice A5 n5 c5] 60)).alloc (.cells #[.int .i64 x.code,.string x.text,.slice A nf c,.slice B m d,.int .i64 x.command] 41)=w2 at *
 clear hW2 hr
 obtain ⟨gr,hgr⟩:∃ gr,gr=w.heap.size:=⟨_,rfl⟩
 have hgl:gr + 1 < w2.heap.size:=by rw [hgr]; exact hR2.lt
 rw [←hgr] at hA2 hR2 hoff ⊢
 have HA:=Lib.hid (fun w' (hk:Kp (BdX p u) w2 w')=>hA2.keep (hk.block gr (by omega) fun e=>by have:=hoff gr e; omega))
 have HR:=Lib.hid (fun w' (hk:Kp (BdX p u) w2 w')=>hR2.keep (hk.block (gr + 1) (by omega) fun e=>by have:=hoff (gr + 1) e; omega))
 have HS:=Lib.hid hr2
 clear hA2 hR2 hr2 hgr
 go_loopw [11] (fun i wr=>∃ k:Nat,k≤nf∧i=.int .i64 k∧Bd W wr p n mem u M { s with have_:=(x.files.take k).foldl putFileS s.have_ }∧Kp (BdX p u) w2 wr) (fun i _=>nf - (intOf i).toNat)
 case atStart=>exact ⟨0,Nat.zero_le _,rfl,hbd2,Kp.refl _ _⟩
 case round =>
  clear hbd2
  obtain ⟨k,hk',rfl,hbd,hkp⟩:=hrel
  have hzr:=hkp.size
  have hgR:=hbd.blk.lt
  by_cases hlt:k < nf
  ·obtain ⟨b,o,y,A',n'',c'',rfl,hb,hy,hs1,hnc,hcm,hsl',e0,e1,e2⟩:=(Sl.kp hkp HS.out.files).file hlt
   have hkI:(k:Int) < (nf:Int):=by omega
   have cg:=hbd.blk.cell (i:=1) rfl
   obtain ⟨f,hf1,hf2⟩:=hbd.haveMap
   have hlen:((x.files.take k).foldl putFileS s.have_).length + 1≤1000000 * (M + 1):=by
    have h1:=puts_le (x.files.take k) s.have_
    rw [List.length_take] at h1
    have:=HL.out
    omega
   simp only at hf1 hf2
   have HT:=Lib.hid (puts_more (h:=s.have_) hy)
   have hbV:=fr_alloc (fr_refl wr) (.cells #[.string y.path,.bool y.run,.slice A' n'' c''] 78)
   have HV:=Lib.hid (show FileVal (wr.alloc (.cells #[.string y.path,.bool y.run,.slice A' n'' c''] 78)).drew (Off (BdX p u) (wr.alloc (.cells #[.string y.path,.bool y.run,.slice A' n'' c''] 78)).drew) y (.agg #[.string y.path,.bool y.run,.slice A' n'' c'']) from
    ((file_val hs1 hnc hcm hsl').keep fun k hk=>hbV.drew.block k hk.2).more fun k hk=>off_of hk hbV.drew.size)
   have HF:=Lib.hid (filesF_call hf2 hbV.drew)
   have HB:=Lib.hid hbd
   clear hy hsl' hf2 hbd
   have hX:=box3_new wr (.string y.path) (.bool y.run) (.slice A' n'' c'') 78
   have d1:=(hbV.cell (p:=⟨p.g,1,none⟩) hgR).trans cg
   have hm1:=hf1.call hbV
   go_wp2
   generalize wr.alloc (.cells #[.string y.path,.bool y.run,.slice A' n'' c''] 78)=V at *
   obtain ⟨⟨x0,x1,x2⟩,_,xl⟩:=hX
   clear e0 e1 e2 cg hf1
   go_still_tail 7,(by kernel_rfl)
   change wpList _ _ _ _ _ V.drew
   go_wp2_with (
    at_mapUpdate
    refine wpList_mapUpdate_is _ rfl _ _ _ 97 rfl Tryz.underlying9 map_file_under rfl (hm1.keep rfl) (by unfold maxLen; omega) y.path hs1 (.agg #[.string y.path,.bool y.run,.slice A' n'' c'']) rfl rfl ?_
    intro w5 hm5 hg5)
   have hbd5:=HB.out.puts hlen hbV.drew HF.out HV.out hm5 hg5 hs1
   rw [show putFileS ({ s with have_:=(x.files.take k).foldl putFileS s.have_ }:BSt).have_ y=(x.files.take (k + 1)).foldl putFileS s.have_ from HT.out.symm] at hbd5
   have hk5:=((hkp.call hbV).drew).grown hg5 (fun j e=>.inl (.inr (.inl (by cases e; rfl))))
   go_roundw
   case rel=>exact ⟨k + 1,by omega,by go_num,hbd5,hk5⟩
   case measure=>simp [intOf]; omega
  ·obtain rfl:k=nf:=by omega
   rw [List.take_of_length_le (by rw [HL.out]; exact Nat.le_refl _)] at hbd
   have HKe:=Lib.hid (HKp.out wr hkp)
   have HSr:=Lib.hid (show ResS wr (Off (BdX p u) wr) x A k B m from ⟨HS.out.code,HS.out.text,Sl.kp hkp HS.out.files,Sl.kp hkp HS.out.looks,HS.out.command⟩)
   have hEr:=hE.then_ hbd.low
   have hrS:=HSr.out
   have hd:=hbd.dif
   have hlow':∀ w',Kp (fun j=>j=p.mv) wr w'→Below W.heap.size W w':=fun w' hk=>hbd.low.trans (hk.below (fun j hj (e:j=p.mv)=>by have:=hd.mv.1; omega) hbd.low.size)
   have hoff':∀ w',Kp (fun j=>j=p.mv) wr w'→∀ j,Off (BdX p u) wr j→w'.heap[j]?=wr.heap[j]?:=fun w' hk j hj=>hk.block j hj.2 fun e=>hj.1 (.inr (.inr (.inr (.inr (.inl e)))))
   have HD:=Lib.hid (fun w' (hk:Kp (fun j=>j=p.mv) wr w')=>act_TextDigest r.action A1 n1 c1 A2 n2 c2 A3 n3 c3 A4 n4 c4 w' (hE.then_ (hlow' w' hk)) (HAct.out w' (hlow' w' hk)) ok)
   have HC:=Lib.hid (fun w' (hk:Kp (fun j=>j=p.mv) wr w')=>(clone_looks B m d x.looks w' (Off (BdX p u) wr) (fun j hj=>Nat.lt_of_lt_of_le hj.2 hk.size) (hrS.looks.keep (hoff' w' hk)) (by omega)).mono
    (show ∀ e w'',CopyPost (Off (BdX p u) wr) m x.looks w' e w''→∃ A' c',e=.returned (.slice A' m c')∧m≤c'∧c'≤maxLen∧Sl w'' (Off (BdX p u) w'') A' m x.looks∧Below w'.heap.size w' w'' from fun e w'' ⟨A',c',h1,h2,h3,h4,h5⟩=>⟨A',c',h1,h2,h3,h4.more fun j hj=>new_off hbd.there hk.size hj,h5⟩))
   have HO:=Lib.hid (fun w' (hk:Kp (fun j=>j=p.mv) wr w')=>(steps_ownResult x A k c B m d w' (Off (BdX p u) wr) (fun j hj=>Nat.lt_of_lt_of_le hj.2 hk.size) ⟨hrS.code,hrS.text,hrS.files.keep (hoff' w' hk),hrS.looks.keep (hoff' w' hk),hrS.command⟩ hnf hmm hbs).mono
    (show ∀ e w'',ResPost (Off (BdX p u) wr) x w' e w''→∃ A n c B m d,e=.returned (resVal x A n c B m d)∧(n≤c∧c≤maxLen∧m≤d∧d≤maxLen)∧Sl w'' (Off (BdX p u) w'') A n x.files∧Sl w'' (Off (BdX p u) w'') B m x.looks∧Below w'.heap.size w' w'' from fun e w'' ⟨A,n,c,B,m,d,h1,h2,h3,h4⟩=>⟨A,n,c,B,m,d,h1,h2,h3.files.more fun j hj=>new_off hbd.there hk.size hj,h3.looks.more fun j hj=>new_off hbd.there hk.size hj,h4⟩))
   obtain ⟨f,hf1,hf2⟩:=hbd.keptMap
   have HM:=Lib.hid (fun w' (hb:Below wr.heap.size wr w')=>hf1.call hb)
   have HF:=Lib.hid (fun w' (hb:Below wr.heap.size wr w')=>memsF_call hf2 hb)
   have HBd:=Lib.hid hbd
   have HAr:=Lib.hid (HA.out wr hkp)
   have HRr:=Lib.hid (HR.out wr hkp)
   have hgg:=hbd.blk
   have hmk:=hf1.lt
   have hgne:=hd.g.2.2.2.2.1
   have hrl0:gr < wr.heap.size∧gr + 1 < wr.heap.size∧gr≠p.mv∧gr + 1≠p.mv:=⟨HAr.out.lt,HRr.out.lt,fun e=>by have:=hoff p.mv (.inr (.inr (.inr (.inr (.inl rfl))))); omega,fun e=>by have:=hoff p.mv (.inr (.inr (.inr (.inr (.inl rfl))))); omega⟩
   have hKg:=fun w' (hk:Kp (fun j=>j=p.mv) wr w')=>hgg.keep (hk.block p.g hgg.lt hgne)
   have hKa:=fun w' (hk:Kp (fun j=>j=p.mv) wr w')=>HAr.out.keep (hk.block gr hrl0.1 hrl0.2.2.1)
   have hKr:=fun w' (hk:Kp (fun j=>j=p.mv) wr w')=>HRr.out.keep (hk.block (gr + 1) hrl0.2.1 hrl0.2.2.2)
   have HK:=Lib.hid (show ∀ w',Kp (fun j=>j=p.mv) wr w'→(Kp (fun j=>j=p.mv) wr w'∧w'.cell? ⟨p.g,7,none⟩=some (.map (some p.mv))∧w'.cell? ⟨gr,0,none⟩=some (.string r.name)∧w'.cell? ⟨gr,1,none⟩=some (.string r.action.tool)∧w'.cell? ⟨gr,2,none⟩=some (.slice A1 n1 c1) ∧
    w'.cell? ⟨gr,3,none⟩=some (.slice A2 n2 c2)∧w'.cell? ⟨gr,4,none⟩=some (.slice A3 n3 c3)∧w'.cell? ⟨gr,5,none⟩=some (.slice A4 n4 c4)∧w'.cell? ⟨gr,6,none⟩=some (.int .i64 r.action.time) ∧
    w'.cell? ⟨gr + 1,0,none⟩=some (.int .i64 x.code)∧w'.cell? ⟨gr + 1,1,none⟩=some (.string x.text)∧w'.cell? ⟨gr + 1,2,none⟩=some (.slice A k c)∧w'.cell? ⟨gr + 1,3,none⟩=some (.slice B m d)∧w'.cell? ⟨gr + 1,4,none⟩=some (.int .i64 x.command)) from fun w' hw =>
    ⟨hw,(hKg w' hw).cell (i:=7) rfl,(hKa w' hw).cell (i:=0) rfl,(hKa w' hw).cell (i:=1) rfl,(hKa w' hw).cell (i:=2) rfl,(hKa w' hw).cell (i:=3) rfl,(hKa w' hw).cell (i:=4) rfl,(hKa w' hw).cell (i:=5) rfl,(hKa w' hw).cell (i:=6) rfl,
     (hKr w' hw).cell (i:=0) rfl,(hKr w' hw).cell (i:=1) rfl,(hKr w' hw).cell (i:=2) rfl,(hKr w' hw).cell (i:=3) rfl,(hKr w' hw).cell (i:=4) rfl⟩)
   have hgrl:=HAr.out.lt
   have hgrl1:=HRr.out.lt
   have hklen:s.kept.length≤2000000:=by omega
   unfold actVal at HD
   unfold resVal at HO
   have HDg:=Lib.hid (show digestS (actTextL r.action)=digestS (actTextL r.action) from rfl)
   obtain ⟨dg,hdg⟩:∃ dg,dg=digestS (actTextL r.action):=⟨_,rfl⟩
   rw [←hdg] at HD
   have HDG:=Lib.hid hdg
   have HD0:=Lib.hid (Below.drew (fr_refl wr))
   have HRz:=Lib.hid (show InInt x.code∧x.text.size≤maxLen∧InInt x.command from ⟨HSr.out.code,HSr.out.text,HSr.out.command⟩)
   clear hKg hKa hKr hlow' hoff' hd hdg HDg hbd hf1 hf2 hrS hkp hEr HSr hE ok hgg HAr HRr HS HA HR HAct
   go_wp2
   go_region_held3 (fun w'=>Kp (fun j=>j=p.mv) wr w'∧w'.cell? ⟨p.g,7,none⟩=some (.map (some p.mv))∧w'.cell? ⟨gr,0,none⟩=some (.string r.name)∧w'.cell? ⟨gr,1,none⟩=some (.string r.action.tool)∧w'.cell? ⟨gr,2,none⟩=some (.slice A1 n1 c1) ∧
    w'.cell? ⟨gr,3,none⟩=some (.slice A2 n2 c2)∧w'.cell? ⟨gr,4,none⟩=some (.slice A3 n3 c3)∧w'.cell? ⟨gr,5,none⟩=some (.slice A4 n4 c4)∧w'.cell? ⟨gr,6,none⟩=some (.int .i64 r.action.time) ∧
    w'.cell? ⟨gr + 1,0,none⟩=some (.int .i64 x.code)∧w'.cell? ⟨gr + 1,1,none⟩=some (.string x.text)∧w'.cell? ⟨gr + 1,2,none⟩=some (.slice A k c)∧w'.cell? ⟨gr + 1,3,none⟩=some (.slice B m d)∧w'.cell? ⟨gr + 1,4,none⟩=some (.int .i64 x.command))
    (first | assumption | exact HK.out _ (Kp.refl _ wr).drew | exact HK.out _ (Kp.call (And.left (by assumption)) hb4) | exact HK.out _ (Kp.call (And.left (by assumption)) hb5) | exact HK.out _ (Kp.call (And.left (by assumption)) hb6) | exact HK.out _ (Kp.grown (And.left (by assumption)) hg9 (fun j e=>.inl (by cases e; rfl))))
    (first
      | (go_at_call 37; refine (HD.out _ (And.left (by assumption))).mono ?_; rintro e w4 ⟨rfl,hb4⟩)
      | (go_at_call 64; refine (HC.out _ (And.left (by assumption))).mono ?_; rintro e w5 ⟨A5',c5',rfl,h51,h52,hs5,hb5⟩)
      | (go_at_call 65; refine (HO.out _ (And.left (by assumption))).mono ?_; rintro e w6 ⟨A6,n6,c6,B6,m6,d6,rfl,h61,hs6,hs7,hb6⟩)
      | (obtain ⟨w9,hst9,hm9,hg9⟩:=(HM.out _ (by first | exact fr_call (fr_call (fr_call HD0.out hb4) hb5) hb6 | exact fr_call (fr_call (fr_call HD0.out hb4) hb6) hb5 | exact fr_call (fr_call (fr_call HD0.out hb5) hb4) hb6 | exact fr_call (fr_call (fr_call HD0.out hb5) hb6) hb4 | exact fr_call (fr_call (fr_call HD0.out hb6) hb4) hb5 | exact fr_call (fr_call (fr_call HD0.out hb6) hb5) hb4)).store Tryz.underlying9 map_mem_under (by unfold maxLen; omega) hrn (.agg #[.string r.name,.string dg,.slice A5' m c5',.int .i64 x.code,.string x.text,.slice A6 n6 c6,.slice B6 m6 d6,.int .i64 x.command]); simp [hst9,Result.andThen]))
   all_goals
    obtain ⟨wF,hgF,hbF,hs5F,hs6F,hs7F⟩:∃ wF:World,wF.grownBy w9 (some p.mv)∧Below wr.heap.size wr wF∧Sl wF (Off (BdX p u) wF) A5' m x.looks∧Sl wF (Off (BdX p u) wF) A6 n6 x.files∧Sl wF (Off (BdX p u) wF) B6 m6 x.looks:=⟨_,hg9,
     by first | exact fr_call (fr_call (fr_call HD0.out hb4) hb5) hb6 | exact fr_call (fr_call (fr_call HD0.out hb4) hb6) hb5 | exact fr_call (fr_call (fr_call HD0.out hb5) hb4) hb6 | exact fr_call (fr_call (fr_call HD0.out hb5) hb6) hb4 | exact fr_call (fr_call (fr_call HD0.out hb6) hb4) hb5 | exact fr_call (fr_call (fr_call HD0.out hb6) hb5) hb4,
     by first | exact hs5 | exact sl_off hs5 hb4 | exact sl_off hs5 hb6 | exact sl_off (sl_off hs5 hb4) hb6 | exact sl_off (sl_off hs5 hb6) hb4,
     by first | exact hs6 | exact sl_off hs6 hb4 | exact sl_off hs6 hb5 | exact sl_off (sl_off hs6 hb4) hb5 | exact sl_off (sl_off hs6 hb5) hb4,
     by first | exact hs7 | exact sl_off hs7 hb4 | exact sl_off hs7 hb5 | exact sl_off (sl_off hs7 hb4) hb5 | exact sl_off (sl_off hs7 hb5) hb4⟩
    have hv:MemVal wF (Off (BdX p u) wF) (memOf r x) (.agg #[.string r.name,.string dg,.slice A5' m c5',.int .i64 x.code,.string x.text,.slice A6 n6 c6,.slice B6 m6 d6,.int .i64 x.command]) :=
     ⟨A5',m,c5',A6,n6,c6,B6,m6,d6,by rw [HDG.out]; rfl,⟨hrn,digest_small _,HRz.out.2.1,HRz.out.1,HRz.out.2.2⟩,⟨h51,h52,h61.1,h61.2.1,h61.2.2.1,h61.2.2.2⟩,hs5F,hs6F,hs7F⟩
    have hE9:=Lib.hid (HBd.out.keeps (x:=memOf r x) hk hbF (HF.out _ hbF) hv hx hm9 hgF)
    have hK9:=Lib.hid ((HKe.out.call hbF).grown hgF fun j e=>.inl (.inr (.inr (.inr (.inr (.inl (by cases e; rfl)))))))
    clear hv hm9 hg9 hst9
    go_wp2
    go_end0
    exact ⟨rfl,hE9.out,hK9.out⟩
end Go.Proofs.Sm
namespace Go.Proofs.Sm
open Go.RowKit Go.Maps
set_option maxHeartbeats 0 in
set_option maxRecDepth 100000 in
theorem steps_stands (r:RuleV) (A1:Option Addr) (n1 c1:Nat) (A2:Option Addr) (n2 c2:Nat) (A3:Option Addr) (n3 c3:Nat) (A4:Option Addr) (n4 c4:Nat) (A5:Option Addr) (n5 c5:Nat) (x:MemoryV) (B1:Option Addr) (m1 d1:Nat) (B2:Option Addr) (m2 d2:Nat) (B3:Option Addr) (m3 d3:Nat)
 (L:Option Addr) (nl cl:Nat) (F:List FileV) (w:World) (hE:Env2 w) (ha:ActIs w r.action A1 n1 A2 n2 A3 n3 A4 n4) (ok:ActOk r.action) (hx:Sl w (Lt w.heap.size) B1 m1 x.looks) (hF:Sl w (Lt w.heap.size) L nl F) :
 Calls Tryz.prog 97 #[.agg #[.string r.name,.string r.action.tool,.slice A1 n1 c1,.slice A2 n2 c2,.slice A3 n3 c3,.slice A4 n4 c4,.int .i64 r.action.time,.slice A5 n5 c5],memVal x B1 m1 d1 B2 m2 d2 B3 m3 d3,.slice L nl cl] w fun e w'=>e=.returned (.bool (memStands r x F))∧Below w.heap.size w w':=by
 unfold memVal
 have hb:=fr_alloc (fr_alloc (fr_refl w) (.cells #[.string r.name,.string r.action.tool,.slice A1 n1 c1,.slice A2 n2 c2,.slice A3 n3 c3,.slice A4 n4 c4,.int .i64 r.action.time,.slice A5 n5 c5] 60)) (.cells #[.string x.name,.string x.action,.slice B1 m1 d1,.int .i64 x.result.code,.string x.result.text,.slice B2 m2 d2,.slice B3 m3 d3,.int .i64 x.result.command] 43)
 have HC:=Lib.hid (act_Stands B1 L m1 d1 nl cl x.looks F _ (hE.then_ hb).toEnv (sl_call hx hb (Nat.le_refl _)) (sl_call hF hb (Nat.le_refl _)))
 have HD:=Lib.hid (fun w1 (hb:Below w.heap.size w w1)=>act_TextDigest r.action A1 n1 c1 A2 n2 c2 A3 n3 c3 A4 n4 c4 w1 (hE.then_ hb) (ha.then_ hb) ok)
 have HS:=Lib.hid (show memStands r x F=(x.action.toList == (digestS (actTextL r.action)).toList && (looksOfErr x.looks F == 0 && sameLooksS x.looks (looksOfS x.looks F))) from rfl)
 have hA0:=(rule_box w r A1 n1 c1 A2 n2 c2 A3 n3 c3 A4 n4 c4 A5 n5 c5).call (fr_alloc (fr_refl _) (.cells #[.string x.name,.string x.action,.slice B1 m1 d1,.int .i64 x.result.code,.string x.result.text,.slice B2 m2 d2,.slice B3 m3 d3,.int .i64 x.result.command] 43))
 have hM0:=mem_box (w.alloc (.cells #[.string r.name,.string r.action.tool,.slice A1 n1 c1,.slice A2 n2 c2,.slice A3 n3 c3,.slice A4 n4 c4,.int .i64 r.action.time,.slice A5 n5 c5] 60)) x B1 m1 d1 B2 m2 d2 B3 m3 d3
 rw [World.size_alloc] at hM0
 unfold actVal at HD
 generalize digestS (actTextL r.action)=dg at *
 generalize looksOfErr x.looks F=z at *
 generalize sameLooksS x.looks (looksOfS x.looks F)=sm at *
 clear hx hF ha ok hE
 go_enter Tryz.func97,Tryz.ntmps97
 go_wp2_with fail
 refine HC.out.mono ?_
 rintro e w1 ⟨rfl,hb1⟩
 have hb01:=fr_call hb hb1
 have hA1:=hA0.call hb1
 have hM1:=hM0.call hb1
 have hgl:=hA1.lt
 have hml:=hM1.lt
 have HD1:=Lib.hid (fun w' (hw:Below w1.heap.size w1 w')=>HD.out w' (fr_call hb01 hw))
 obtain ⟨z0,z1,z2,z3,z4,z5,z6⟩:w1.cell? ⟨w.heap.size + 1,1,none⟩=some (.string x.action)∧w1.cell? ⟨w.heap.size,1,none⟩=some (.string r.action.tool)∧w1.cell? ⟨w.heap.size,2,none⟩=some (.slice A1 n1 c1)∧w1.cell? ⟨w.heap.size,3,none⟩=some (.slice A2 n2 c2) ∧
  w1.cell? ⟨w.heap.size,4,none⟩=some (.slice A3 n3 c3)∧w1.cell? ⟨w.heap.size,5,none⟩=some (.slice A4 n4 c4)∧w1.cell? ⟨w.heap.size,6,none⟩=some (.int .i64 r.action.time):=⟨hM1.cell (i:=1) rfl,hA1.cell (i:=1) rfl,hA1.cell (i:=2) rfl,hA1.cell (i:=3) rfl,hA1.cell (i:=4) rfl,hA1.cell (i:=5) rfl,hA1.cell (i:=6) rfl⟩
 have HK:=Lib.hid (show ∀ w',Below w1.heap.size w1 w'→(Below w1.heap.size w1 w'∧w'.cell? ⟨w.heap.size + 1,1,none⟩=some (.string x.action)∧w'.cell? ⟨w.heap.size,1,none⟩=some (.string r.action.tool)∧w'.cell? ⟨w.heap.size,2,none⟩=some (.slice A1 n1 c1) ∧
  w'.cell? ⟨w.heap.size,3,none⟩=some (.slice A2 n2 c2)∧w'.cell? ⟨w.heap.size,4,none⟩=some (.slice A3 n3 c3)∧w'.cell? ⟨w.heap.size,5,none⟩=some (.slice A4 n4 c4)∧w'.cell? ⟨w.heap.size,6,none⟩=some (.int .i64 r.action.time)) from fun w' hw =>
  ⟨hw,(hM1.call hw).cell (i:=1) rfl,(hA1.call hw).cell (i:=1) rfl,(hA1.call hw).cell (i:=2) rfl,(hA1.call hw).cell (i:=3) rfl,(hA1.call hw).cell (i:=4) rfl,(hA1.call hw).cell (i:=5) rfl,(hA1.call hw).cell (i:=6) rfl⟩)
 clear hA0 hM0 hA1 hM1 HC HD
 rcases Bool.eq_false_or_eq_true (x.action.toList == dg.toList) with hd | hd
 ·rcases Bool.eq_false_or_eq_true (z == 0) with hf | hf
  ·have HN:=Lib.hid (show memStands r x F=sm by rw [HS.out,hd,hf,Bool.true_and,Bool.true_and])
   go_wp2
   first
    | (go_region_law (first
        | (go_simp; go_at_call 37; refine (HD1.out _ (Below.drew (fr_refl w1))).mono ?_; rintro e wc ⟨rfl,hbc⟩
           have hb9:=of_drew hbc
           have zc:=(HK.out wc hb9).2.1
           have zl:=hb9.size)))
    | fail
   all_goals
    go_wp2
    go_ret
    exact ⟨by rw [HN.out]; kernel_rfl,fr_call hb01 hb9⟩
  ·have HN:=Lib.hid (show memStands r x F=false by rw [HS.out,hd,hf]; rfl)
   go_wp2
   first
    | (go_region_law (first
        | (go_simp; go_at_call 37; refine (HD1.out _ (Below.drew (fr_refl w1))).mono ?_; rintro e wc ⟨rfl,hbc⟩
           have hb9:=of_drew hbc
           have zc:=(HK.out wc hb9).2.1
           have zl:=hb9.size)))
    | fail
   all_goals
    go_wp2
    go_ret
    exact ⟨by rw [HN.out]; kernel_rfl,fr_call hb01 hb9⟩
 ·have HN:=Lib.hid (show memStands r x F=false by rw [HS.out,hd]; rfl)
  go_wp2
  first
   | (go_region_law (first
       | (go_simp; go_at_call 37; refine (HD1.out _ (Below.drew (fr_refl w1))).mono ?_; rintro e wc ⟨rfl,hbc⟩
          have hb9:=of_drew hbc
          have zc:=(HK.out wc hb9).2.1
          have zl:=hb9.size)))
   | fail
  all_goals
   go_wp2
   go_ret
   exact ⟨by rw [HN.out]; kernel_rfl,fr_call hb01 hb9⟩
end Go.Proofs.Sm
namespace Go.Proofs.Sm
open Go.RowKit
theorem findM_some {l:List MemoryV} {n:ByteArray} {y:MemoryV} (h:findM l n=some y):y∈l∧y.name.toList=n.toList:=by
 unfold findM at h
 exact ⟨List.mem_of_find?_eq_some h,by simpa using List.find?_some h⟩
theorem idxAll_each {l:List RuleV}:∀ {ws:List ByteArray} {ks:List Nat},idxAll l ws=some ks→∀ n∈ws,∃ k∈ks,idxName l n=some k
 | [],_,_,n,hn=>absurd hn (List.not_mem_nil)
 | s :: ws,ks,h,n,hn=>by
   rw [idxAll] at h
   split at h
   ·cases h
   ·rename_i j hj
    cases hq:idxAll l ws with
    | none=>rw [hq] at h; cases h
    | some m =>
      rw [hq] at h; cases h
      rcases List.mem_cons.1 hn with rfl | hn
      ·exact ⟨j,List.mem_cons_self ..,hj⟩
      ·obtain ⟨k,hk,he⟩:=idxAll_each hq n hn
       exact ⟨k,List.mem_cons_of_mem _ hk,he⟩
theorem plan_wanted {l:List RuleV} {wanted:List ByteArray} {order:List Nat} (hc:checkRulesS l=0) (h:PlanIs l wanted order):∀ n∈wanted,∃ k∈order,idxName l n=some k:=by
 obtain ⟨ks,s,hks,hcl,rfl⟩:=h
 intro n hn
 obtain ⟨k,hk,he⟩:=idxAll_each hks n hn
 refine ⟨k,?_,he⟩
 have hi:=hcl.has k hk
 exact order_has (hcl.part hc) (by rw [←hcl.len]; exact (List.getElem?_eq_some_iff.1 hi).1) (by simp [isOf,hi])
end Go.Proofs.Sm
