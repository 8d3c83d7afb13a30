/- Words and walks that the claims share, part 28. -/
import Derived.Test.YtaabdbephemboaaGreatDoorBx2
import Derived.Test.YtaabdbephemboaaGreatDoorBx26
import Derived.Test.YtaabdbephemboaaGreatDoorBx27
namespace Go.Proofs.Sm
open Go.RowKit
def KeepM (W:World) (m:Nat) (w:World):Prop:=W.heap.size≤w.heap.size∧∀ b,b < W.heap.size→b≠m→w.heap[b]?=W.heap[b]?
theorem KeepM.refl (W:World) (m:Nat):KeepM W m W:=⟨Nat.le_refl _,fun _ _ _=>rfl⟩
theorem KeepM.call {W w w':World} {m:Nat} (h:KeepM W m w) (hb:Below w.heap.size w w'):KeepM W m w' :=
 ⟨Nat.le_trans h.1 hb.size,fun b h1 h2=>(hb.block b (Nat.lt_of_lt_of_le h1 h.1)).trans (h.2 b h1 h2)⟩
theorem KeepM.grown {W w w':World} {m:Nat} (h:KeepM W m w) (hg:w.grownBy w' (some m)):KeepM W m w' :=
 ⟨Nat.le_trans h.1 hg.size,fun b h1 h2=>(hg.block b (Nat.lt_of_lt_of_le h1 h.1) fun e=>h2 (Option.some.inj e)).trans (h.2 b h1 h2)⟩
theorem KeepM.grown' {W w w':World} {m:Nat} {row:Option Nat} (h:KeepM W m w) (hg:w.grownBy w' row) (hr:∀ b,row=some b→W.heap.size≤b):KeepM W m w' :=
 ⟨Nat.le_trans h.1 hg.size,fun b h1 h2=>(hg.block b (Nat.lt_of_lt_of_le h1 h.1) fun e=>by have:=hr b e.symm; omega).trans (h.2 b h1 h2)⟩
theorem KeepM.set {W w:World} {m:Nat} (h:KeepM W m w) (i:Nat) (u:Value):KeepM W m (w.setCell ⟨m,i,none⟩ u) :=
 ⟨by rw [size_setCell']; exact h.1,fun b h1 h2=>(heap_setCell_other w ⟨m,i,none⟩ b u h2).trans (h.2 b h1 h2)⟩
theorem slice_one (A:Option Addr) (n c:Nat):∀ u∈[Value.slice A n c],u.oneCell'=true:=by
 intro u hu
 rw [List.mem_singleton] at hu
 subst hu; rfl
set_option maxHeartbeats 0 in
set_option maxRecDepth 100000 in
theorem steps_open (A:Option Addr) (n c:Nat) (l:List RuleV) (w:World) (hE:Env w) (hsl:Sl w (Lt w.heap.size) A n l) :
 Calls Tryz.prog 30 #[.slice A n c] w (OpenPost A n c l w):=by
 have hm:n≤9223372036854775807:=hsl.2.1
 have HL:=Lib.hid hsl.1
 by_cases hbig:(500:Int) < (n:Int)
 ·have HV:=Lib.hid (cr_large (l:=l) (by rw [HL.out]; exact hbig))
  go_enter Tryz.func30,Tryz.ntmps30
  go_wp2
  go_ret2
  exact OpenPost.bad HV.out (by decide) (Below.refl _ _)
 have HB:=Lib.hid (show l.length≤500 by rw [HL.out]; omega)
 go_enter Tryz.func30,Tryz.ntmps30
 go_wp2
 go_loopw [29] (fun i wr=>∃ k:Nat,k≤n∧i=.int .i64 k∧listErr ruleErr RuleV.name none l=listErr ruleErr RuleV.name (ahead RuleV.name l k) (l.drop k)∧Below w.heap.size w wr) (fun i _=>n - (intOf i).toNat)
 case atStart=>exact ⟨0,Nat.zero_le _,rfl,rfl,Below.refl _ _⟩
 case round =>
  obtain ⟨k,hk,rfl,hd,hbel⟩:=hrel
  have Hr:=Lib.hid hd; clear hd
  have hEr:=hE.then_ hbel
  have hslr:=sl_call hsl hbel (Nat.le_refl _)
  by_cases hlt:k < n
  ·have hkI:(k:Int) < (n:Int):=by omega
   obtain ⟨b,o,x,rfl,hx,A1,n1,c1,A2,n2,c2,A3,n3,c3,A4,n4,c4,A5,n5,c5,hri,q0,q1,q2,q3,q4,q5,q6,q7⟩:=hslr.ruleAll hlt
   have HX:=Lib.hid hx; clear hx
   cases h0:(checkRuleS x == 0)
   ·have hne:checkRuleS x≠0:=by simpa using h0
    have hbn:(checkRuleS x != 0)=true:=by simpa using h0
    have HV:=Lib.hid (list_stop (key:=RuleV.name) HX.out (ruleErr_bad (prev:=ahead RuleV.name l k) hne) hne)
    have HN:=Lib.hid hne; clear hne
    go_wp2_with fail
    generalize hW0:wr.alloc (.cells #[.string x.name,.string x.action.tool,.slice A1 n1 c1,.slice A2 n2 c2,.slice A3 n3 c3,.slice A4 n4 c4,.int .i64 x.action.time,.slice A5 n5 c5] 60)=W
    have hA0:Arr W wr.heap.size 60 (ruleCells x A1 n1 c1 A2 n2 c2 A3 n3 c3 A4 n4 c4 A5 n5 c5):=by rw [←hW0]; exact rule_box ..
    have hb0:Below wr.heap.size wr W:=by rw [←hW0]; exact fr_alloc (fr_refl wr) _
    clear hW0
    refine (steps_checkRule x A1 A2 A3 A4 A5 n1 n2 n3 n4 n5 c1 c2 c3 c4 c5 W (hEr.then_ hb0) (hri.then_ hb0)).mono ?_
    rintro e w1 ⟨rfl,hb1⟩
    have hb01:=fr_call hb0 hb1
    have hbw:=fr_call hbel hb01
    have pn:=(hA0.call hb1).cell (i:=0) rfl
    clear hA0 hb0 hb1
    go_wp2
    go_ret2
    exact OpenPost.bad (by rw [cr_rule HB.out (by rw [Hr.out,HV.out]; exact HN.out),Hr.out,HV.out]) HN.out hbw
   have hz:checkRuleS x=0:=by simpa using h0
   have hbn:(checkRuleS x != 0)=false:=by simpa using h0
   have HO:=Lib.hid (ruleErr_rest (prev:=ahead RuleV.name l k) hz); clear hz
   by_cases hk0:0 < k
   ·have hg0:decide ((0:Int) < (k:Int))=true:=by simpa using hk0
    obtain ⟨_,_,z,e0,hbz,hy,_,d0⟩:=hslr.ruleName (k:=k - 1) (by omega)
    cases e0
    have HA:=Lib.hid (ahead_pos (f:=RuleV.name) hk0 hy); clear hy
    have hbw0:b < wr.heap.size:=hbz
    cases hle:leS x.name z.name
    ·have HV:=Lib.hid (show ruleErr (ahead RuleV.name l k) x=0 by rw [HO.out,HA.out]; simp [notAfter,hle])
     have hle':=leS_false hle
     go_wp2_with fail
     generalize hW0:wr.alloc (.cells #[.string x.name,.string x.action.tool,.slice A1 n1 c1,.slice A2 n2 c2,.slice A3 n3 c3,.slice A4 n4 c4,.int .i64 x.action.time,.slice A5 n5 c5] 60)=W
     have hA0:Arr W wr.heap.size 60 (ruleCells x A1 n1 c1 A2 n2 c2 A3 n3 c3 A4 n4 c4 A5 n5 c5):=by rw [←hW0]; exact rule_box ..
     have hb0:Below wr.heap.size wr W:=by rw [←hW0]; exact fr_alloc (fr_refl wr) _
     clear hW0
     refine (steps_checkRule x A1 A2 A3 A4 A5 n1 n2 n3 n4 n5 c1 c2 c3 c4 c5 W (hEr.then_ hb0) (hri.then_ hb0)).mono ?_
     rintro e w1 ⟨rfl,hb1⟩
     have hb01:=fr_call hb0 hb1
     have hbw:=fr_call hbel hb01
     have pn:=(hA0.call hb1).cell (i:=0) rfl
     clear hA0 hb0 hb1
     have d1:w1.cell? ⟨b,o + (k - 1) * 8,none⟩=some (.string z.name):=by rw [hb01.cell (by exact hbw0)]; exact d0
     go_wp2
     have g1:=IntWalk.i64_in ((k:Int) - 1) ⟨by omega,by omega⟩; have g2:((k:Int) - 1).toNat=k - 1:=(by omega); have g3:(0:Int)≤(k:Int) - 1:=(by omega); have g4:(k:Int) - 1 < (n:Int):=(by omega)
     go_quiet (fail)
     clear g1 g2 g3 g4
     go_wp2
     go_roundw
     case rel=>exact ⟨k + 1,by omega,by go_num,by rw [Hr.out]; exact list_round HX.out HV.out,below_drewN hbw _⟩
     case measure=>simp [intOf]; omega
    ·have HV:=Lib.hid (list_stop (key:=RuleV.name) HX.out (show ruleErr (ahead RuleV.name l k) x=8 by rw [HO.out,HA.out]; simp [notAfter,hle]) (by decide))
     have hle':=leS_true hle
     go_wp2_with fail
     generalize hW0:wr.alloc (.cells #[.string x.name,.string x.action.tool,.slice A1 n1 c1,.slice A2 n2 c2,.slice A3 n3 c3,.slice A4 n4 c4,.int .i64 x.action.time,.slice A5 n5 c5] 60)=W
     have hA0:Arr W wr.heap.size 60 (ruleCells x A1 n1 c1 A2 n2 c2 A3 n3 c3 A4 n4 c4 A5 n5 c5):=by rw [←hW0]; exact rule_box ..
     have hb0:Below wr.heap.size wr W:=by rw [←hW0]; exact fr_alloc (fr_refl wr) _
     clear hW0
     refine (steps_checkRule x A1 A2 A3 A4 A5 n1 n2 n3 n4 n5 c1 c2 c3 c4 c5 W (hEr.then_ hb0) (hri.then_ hb0)).mono ?_
     rintro e w1 ⟨rfl,hb1⟩
     have hb01:=fr_call hb0 hb1
     have hbw:=fr_call hbel hb01
     have pn:=(hA0.call hb1).cell (i:=0) rfl
     clear hA0 hb0 hb1
     have d1:w1.cell? ⟨b,o + (k - 1) * 8,none⟩=some (.string z.name):=by rw [hb01.cell (by exact hbw0)]; exact d0
     go_wp2
     have g1:=IntWalk.i64_in ((k:Int) - 1) ⟨by omega,by omega⟩; have g2:((k:Int) - 1).toNat=k - 1:=(by omega); have g3:(0:Int)≤(k:Int) - 1:=(by omega); have g4:(k:Int) - 1 < (n:Int):=(by omega)
     go_quiet (fail)
     clear g1 g2 g3 g4
     go_wp2
     go_ret2
     exact OpenPost.bad (by rw [cr_rule HB.out (by rw [Hr.out,HV.out]; decide),Hr.out,HV.out]) (by decide) (below_drewN hbw _)
   ·have hg0:decide ((0:Int) < (k:Int))=false:=by simpa using hk0
    have HV:=Lib.hid (show ruleErr (ahead RuleV.name l k) x=0 by rw [HO.out,show ahead RuleV.name l k=none by simp [ahead]; omega]; rfl)
    go_wp2_with fail
    generalize hW0:wr.alloc (.cells #[.string x.name,.string x.action.tool,.slice A1 n1 c1,.slice A2 n2 c2,.slice A3 n3 c3,.slice A4 n4 c4,.int .i64 x.action.time,.slice A5 n5 c5] 60)=W
    have hA0:Arr W wr.heap.size 60 (ruleCells x A1 n1 c1 A2 n2 c2 A3 n3 c3 A4 n4 c4 A5 n5 c5):=by rw [←hW0]; exact rule_box ..
    have hb0:Below wr.heap.size wr W:=by rw [←hW0]; exact fr_alloc (fr_refl wr) _
    clear hW0
    refine (steps_checkRule x A1 A2 A3 A4 A5 n1 n2 n3 n4 n5 c1 c2 c3 c4 c5 W (hEr.then_ hb0) (hri.then_ hb0)).mono ?_
    rintro e w1 ⟨rfl,hb1⟩
    have hb01:=fr_call hb0 hb1
    have hbw:=fr_call hbel hb01
    have pn:=(hA0.call hb1).cell (i:=0) rfl
    clear hA0 hb0 hb1
    go_wp2
    go_quiet (fail)
    go_wp2
    go_roundw
    case rel=>exact ⟨k + 1,by omega,by go_num,by rw [Hr.out]; exact list_round HX.out HV.out,below_drewN hbw _⟩
    case measure=>simp [intOf]; omega
  ·have hz:=show listErr ruleErr RuleV.name none l=0 by rw [Hr.out,list_end (by rw [HL.out]; omega)]
   have HZ:=Lib.hid hz; clear hz
   have hok:=rulesOk_of (by have:=HB.out; omega) HZ.out
   have HOK:=Lib.hid hok; clear hok
   clear hEr Hr
   obtain ⟨m,hm0⟩:∃ m,m=wr.heap.size:=⟨_,rfl⟩
   have hmq:w.heap.size≤m:=by have:=hbel.size; omega
   have hmm:=@run_makeMap Tryz.prog
   go_wp2_with fail
   clear hmm
   generalize hW0:(wr.alloc (.map #[] 0)).alloc (.cells #[.slice A n c,.map (some wr.heap.size),.slice none 0 0] 86)=W
   have hM0:MapIs Tryz.prog 9 W wr.heap.size 0 (ofAt l 0 0):=by
    rw [←hW0]
    exact ((MapIs.made (P:=Tryz.prog) (k:=9) wr).congr (g:=ofAt l 0 0) fun key=>(ofAt_start l key).symm).alloc _
   have hP0:Arr W (wr.heap.size + 1) 86 [.slice A n c,.map (some wr.heap.size),.slice none 0 0]:=by
    rw [←hW0]
    have:=heap_alloc_new (wr.alloc (.map #[] 0)) (.cells #[.slice A n c,.map (some wr.heap.size),.slice none 0 0] 86)
    rw [World.size_alloc] at this
    exact this
   have hb0:Below wr.heap.size wr W:=by rw [←hW0]; exact fr_alloc (fr_alloc (fr_refl wr) _) _
   clear hW0
   have hbW:=fr_call hbel hb0
   have hslW:=sl_call hsl hbW (Nat.le_refl _)
   rw [←hm0] at hM0 hP0 hb0
   refine (steps_tangleOf A n c l W hslW HOK.out).mono ?_
   rintro e w2 ⟨T,nt,t0,t1,t2,t3,rfl,hnt,mp0,mp1,mp3,hb2⟩
   have hM2:=hM0.call hb2
   have hP2:=hP0.call hb2
   have hbw2:=fr_call hbW hb2
   have hgW:=hP0.lt
   clear hM0 hP0 hb0 hbW hslW hslr hbel
   go_wp2
   generalize hW3:w2.alloc (.cells #[.map (some T.m0),.map (some T.m1),.map (some T.m2),.map (some T.m3)] 126)=W3
   have hb3:Below w2.heap.size w2 W3:=by rw [←hW3]; exact fr_alloc (fr_refl w2) _
   have hG3:Arr W3 w2.heap.size 126 [.map (some T.m0),.map (some T.m1),.map (some T.m2),.map (some T.m3)]:=by rw [←hW3]; exact heap_alloc_new w2 _
   clear hW3
   have hM3:=hM2.call hb3
   have hP3:=hP2.call hb3
   have hp0':=mp0.call hb3
   have hp1':=mp1.call hb3
   have hp3':=mp3.call hb3
   have hbw3:=fr_call hbw2 hb3
   obtain ⟨gt,hgt⟩:∃ gt,gt=w2.heap.size:=⟨_,rfl⟩
   have hWgt:W.heap.size≤gt:=by have:=hb2.size; omega
   rw [←hgt] at hG3
   rw [←hm0,←hgt]
   clear hm0
   rw [←HL.out] at hp0' hp1' hp3'
   have HBase:=Lib.hid (fun (wx:World) (hk:KeepM W3 m wx)=>show Arr wx (m + 1) 86 [.slice A n c,.map (some m),.slice none 0 0]∧Arr wx gt 126 [.map (some T.m0),.map (some T.m1),.map (some T.m2),.map (some T.m3)]∧MapIs Tryz.prog 9 wx T.m0 nt (setOf (outK l l.length))∧MapIs Tryz.prog 9 wx T.m1 nt (setOf (inK l l.length))∧MapIs Tryz.prog 9 wx T.m3 nt (setOf (inOK l l.length)) from
    ⟨hP3.keep (hk.2 _ hP3.lt (by omega)),hG3.keep (hk.2 _ hG3.lt (by omega)),hp0'.keep (hk.2 _ hp0'.lt (by omega)),hp1'.keep (hk.2 _ hp1'.lt (by omega)),hp3'.keep (hk.2 _ hp3'.lt (by omega))⟩)
   have hmW3:m < W3.heap.size:=hM3.lt
   clear hP3 hG3 hp0' hp1' hp3' mp0 mp1 mp3 hM2 hP2 hb2 hb3 hbw2 hgt
   go_loopw [61] (fun iv wx=>∃ i nn:Nat,i≤n∧iv=.int .i64 i∧nn≤i * 1000∧allOutputsErr l=firstErr (outputsErr l) ((List.range n).drop i)∧MapIs Tryz.prog 9 wx m nn (ofAt l i 0)∧KeepM W3 m wx∧Below w.heap.size w wx) (fun iv _=>n - (intOf iv).toNat)
   case atStart=>exact ⟨0,0,Nat.zero_le _,rfl,Nat.zero_le _,by rw [allOutputsErr,HL.out]; rfl,hM3,KeepM.refl _ _,hbw3⟩
   case round =>
    clear hM3 hbw3
    obtain ⟨i,nn,hi,rfl,hnn,hd,hM,hkp,hbel⟩:=hrel
    have Hd:=Lib.hid hd; clear hd
    by_cases hli:i < n
    ·have hiI:(i:Int) < (n:Int):=by omega
     obtain ⟨b,o,x,rfl,hbq,hx,A1,n1,c1,A2,n2,c2,A3,n3,c3,A4,n4,c4,A5,n5,c5,_,_,⟨_,_,s3,_,s5⟩,q0,q1,q2,q3,q4,q5,q6,q7⟩:=hsl.rule hli
     rw [←outsAt_some hx] at s3
     have hn3:(outsAt l i).length=n3:=s3.1
     have hm3:n3≤9223372036854775807:=s3.2.1
     have ho1:=(HOK.out.outs i).1
     have cell:∀ {j v},w.cell? ⟨b,o + i * 8 + j,none⟩=some v→wr.cell? ⟨b,o + i * 8 + j,none⟩=some v:=fun h=>(hbel.cell (p:=⟨b,_,none⟩) hbq).trans h
     have p0:=cell (j:=0) q0
     have p1:=cell q1
     have p2:=cell q2
     have p3:=cell q3
     have p4:=cell q4
     have p5:=cell q5
     have p6:=cell q6
     have p7:=cell q7
     clear q0 q1 q2 q3 q4 q5 q6 q7 hx cell
     rw [Nat.add_zero] at p0
     have r4:=(rule_box wr x A1 n1 c1 A2 n2 c2 A3 n3 c3 A4 n4 c4 A5 n5 c5).cell (i:=4) rfl
     have hbx:Below wr.heap.size wr (wr.alloc (.cells #[.string x.name,.string x.action.tool,.slice A1 n1 c1,.slice A2 n2 c2,.slice A3 n3 c3,.slice A4 n4 c4,.int .i64 x.action.time,.slice A5 n5 c5] 60)):=fr_alloc (fr_refl wr) _
     have hM1:=hM.call hbx
     have hk1:=hkp.call hbx
     have hb1:=fr_call hbel hbx
     clear hM hkp hbx hbel
     go_wp2_with fail
     generalize wr.alloc (.cells #[.string x.name,.string x.action.tool,.slice A1 n1 c1,.slice A2 n2 c2,.slice A3 n3 c3,.slice A4 n4 c4,.int .i64 x.action.time,.slice A5 n5 c5] 60)=WB at hM1 hk1 hb1 r4 ⊢
     clear p0 p1 p2 p3 p4 p5 p6 p7 r4
     go_loopw [70] (fun jv wy=>∃ t mm:Nat,t≤n3∧jv=.int .i64 t∧mm≤i * 1000 + t∧outputsErr l i=firstErr (outputErr l i) ((outsAt l i).drop t)∧MapIs Tryz.prog 9 wy m mm (ofAt l i t)∧KeepM W3 m wy∧Below w.heap.size w wy) (fun jv _=>n3 - (intOf jv).toNat)
     case atStart=>exact ⟨0,nn,Nat.zero_le _,rfl,by omega,rfl,hM1,hk1,hb1⟩
     case round =>
      clear hM1 hk1 hb1
      obtain ⟨t,mm,ht,rfl,hmm,hd2,hM,hkp,hbel⟩:=hrel
      have Hd2:=Lib.hid hd2; clear hd2
      by_cases htn:t < n3
      ·obtain ⟨b1,o1,p,rfl,_,hp,hps,cp⟩:=(s3.keep (keep_lt hbel)).str htn
       have HP:=Lib.hid hp
       have hpz:=HOK.out.outSize (List.mem_of_getElem? hp)
       clear hp
       have htI:(t:Int) < (n3:Int):=by omega
       have pc:=(HBase.out wr hkp).1.cell (i:=1) rfl
       have hgl:=(HBase.out wr hkp).1.lt
       have hlk:=of_lookup hM hps
       rw [ofAt_there HOK.out HP.out] at hlk
       generalize ((ofAt l i t p.data.toList).getD (.int .i64 0))=vv at hlk
       cases htw:twiceS l i p
       ·rw [htw] at hlk
        have HR:=Lib.hid (outputErr_rest HOK.out (List.mem_of_getElem? HP.out) htw)
        clear htw
        go_wp2_with (at_mapUpdate; refine wpList_mapUpdate_is _ rfl _ _ _ 83 rfl Tryz.underlying9 Tryz.underlying83 rfl hM (by unfold maxLen; omega) p hps (.int .i64 (i:Nat)) rfl rfl ?_; intro w4 hmap4 hg4
                     have hk4:=hkp.grown hg4
                     have hG4:=(HBase.out w4 hk4).2.1
                     have c0:=hG4.cell (i:=0) rfl
                     have c1:=hG4.cell (i:=1) rfl
                     have c2:=hG4.cell (i:=2) rfl
                     have c3:=hG4.cell (i:=3) rfl)
        have hM4:=hmap4.congr (ofAt_more HP.out)
        have hb4:=hbel.grown hg4 hbel.size fun k hk=>by cases hk; omega
        obtain ⟨_,_,mm0,mm1,mm3⟩:=HBase.out w4 hk4
        refine (steps_clashes T.m0 T.m1 T.m2 T.m3 nt l p w4 (by omega) mm0 mm1 mm3).mono ?_
        rintro e w5 ⟨rfl,hb5⟩
        have hM5:=hM4.call hb5
        have hk5:=hk4.call hb5
        have hbe5:=fr_call hb4 hb5
        clear hmap4 hg4 hk4 hG4 c0 c1 c2 c3 hM4 hb4 mm0 mm1 mm3 hb5 hM hkp hbel hlk pc
        cases hme:meetsS l p
        ·have HV:=Lib.hid (Hd2.out.trans (firstErr_round HP.out (by rw [HR.out,hme]; rfl)))
         clear hme
         go_wp2
         go_roundw
         case rel=>exact ⟨t + 1,mm + 1,by omega,by go_num,by omega,HV.out,hM5,hk5,hbe5⟩
         case measure=>simp [intOf]; omega
        ·have he:outputErr l i p=12:=by rw [HR.out,hme]; rfl
         have hV:outputsErr l i=12:=(Hd2.out.trans (firstErr_stop HP.out (by rw [he]; decide))).trans he
         have HV2:=Lib.hid (show allOutputsErr l=12 from (Hd.out.trans (firstErr_stop (range_at hli) (by rw [hV]; decide))).trans hV)
         clear hme he hV
         go_wp2
         go_ret2
         exact OpenPost.bad (by rw [cr_out HB.out HZ.out (by rw [HV2.out]; decide),HV2.out]) (by decide) hbe5
       ·rw [htw] at hlk
        have he:outputErr l i p=7:=outputErr_twice htw
        have hV:outputsErr l i=7:=(Hd2.out.trans (firstErr_stop HP.out (by rw [he]; decide))).trans he
        have HV2:=Lib.hid (show allOutputsErr l=7 from (Hd.out.trans (firstErr_stop (range_at hli) (by rw [hV]; decide))).trans hV)
        clear htw he hV
        go_wp2
        go_ret2
        exact OpenPost.bad (by rw [cr_out HB.out HZ.out (by rw [HV2.out]; decide),HV2.out]) (by decide) hbel
      ·have HV:=Lib.hid (show outputsErr l i=0 from Hd2.out.trans (firstErr_end (by omega)))
       have HV2:=Lib.hid (Hd.out.trans (firstErr_round (range_at hli) HV.out))
       have hM2:=hM.congr (ofAt_next (l:=l) (i:=i) (t:=t) (by omega))
       clear hM
       go_wp2
       go_roundw
       case rel=>exact ⟨i + 1,mm,by omega,by go_num,by omega,HV2.out,hM2,hkp,hbel⟩
       case measure=>simp [intOf]; omega
    ·have HO:=Lib.hid (show allOutputsErr l=0 from Hd.out.trans (firstErr_end (by simp; omega)))
     have HR:=Lib.hid (cr_rest HB.out HZ.out HO.out)
     obtain rfl:i=n:=by omega
     have hP5:=(HBase.out wr hkp).1
     have hmx:nn≤1000000000:=by have:=HB.out; have:=HL.out; omega
     clear HBase hkp hmW3 hWgt hgW
     obtain ⟨s0,hs0,hsz0,hsz1,hsz2⟩:=info_parts ints_info
     obtain ⟨g,hg⟩:∃ g,g=m + 1:=⟨_,rfl⟩
     rw [←hg] at hP5 ⊢
     obtain ⟨W5,hW5⟩:∃ W5,W5=wr:=⟨_,rfl⟩
     have HM5:=Lib.hid (fun (wx:World) (hk:KeepM W5 g wx)=>show MapIs Tryz.prog 9 wx m nn (ofAt l i 0) from by subst hW5; exact hM.keep (hk.2 m hM.lt (by omega)))
     have hgl5:g < W5.heap.size:=by rw [hW5]; exact hP5.lt
     have hqg:w.heap.size≤g:=by omega
     have hzW5:w.heap.size≤W5.heap.size:=by rw [hW5]; exact hbel.size
     have hkp0:KeepM W5 g wr:=by rw [hW5]; exact KeepM.refl _ _
     clear hM hW5 hg
     go_wp2
     go_loopw [97] (fun iv wx=>∃ (a:Nat) (v:Value),a≤i∧iv=.int .i64 a∧Arr wx g 86 [.slice A i c,.map (some m),v]∧RowOwn wx W5.heap.size 87 3 v ((needsS l).take a)∧KeepM W5 g wx∧Below w.heap.size w wx) (fun iv _=>i - (intOf iv).toNat)
     case atStart=>exact ⟨0,_,Nat.zero_le _,rfl,hP5,by rw [List.take_zero]; exact RowOwn.nil,hkp0,hbel⟩
     case round =>
      clear hP5 hkp0 hbel
      obtain ⟨a,v,ha,rfl,hP,hR,hkp,hbel⟩:=hrel
      by_cases hla:a < i
      ·have haI:(a:Int) < (i:Int):=by omega
       obtain ⟨b,o,x,rfl,hbq,hx,A1,n1,c1,A2,n2,c2,A3,n3,c3,A4,n4,c4,A5,n5,c5,_,_,⟨_,_,s3,_,s5⟩,q0,q1,q2,q3,q4,q5,q6,q7⟩:=hsl.rule hla
       rw [←insAt_some hx] at s5
       have hn5:(insAt l a).length=n5:=s5.1
       have hm5:n5≤9223372036854775807:=s5.2.1
       have ho2:=(HOK.out.ins a).1
       have cell:∀ {j v},w.cell? ⟨b,o + a * 8 + j,none⟩=some v→wr.cell? ⟨b,o + a * 8 + j,none⟩=some v:=fun h=>(hbel.cell (p:=⟨b,_,none⟩) hbq).trans h
       have p0:=cell (j:=0) q0
       have p1:=cell q1
       have p2:=cell q2
       have p3:=cell q3
       have p4:=cell q4
       have p5:=cell q5
       have p6:=cell q6
       have p7:=cell q7
       clear q0 q1 q2 q3 q4 q5 q6 q7 hx cell
       rw [Nat.add_zero] at p0
       obtain ⟨V,hV⟩:∃ V,V=wr.alloc (.cells #[.string x.name,.string x.action.tool,.slice A1 n1 c1,.slice A2 n2 c2,.slice A3 n3 c3,.slice A4 n4 c4,.int .i64 x.action.time,.slice A5 n5 c5] 60):=⟨_,rfl⟩
       have hbx:Below wr.heap.size wr V:=by rw [hV]; exact fr_alloc (fr_refl wr) _
       have hPV:=hP.call hbx
       have hRV:=hR.call hbx
       have hkV:=hkp.call hbx
       have hbV:=fr_call hbel hbx
       obtain ⟨mb,hmb⟩:∃ mb,mb=V.heap.size:=⟨_,rfl⟩
       have hmz:V.heap.size=wr.heap.size + 1:=by rw [hV]; simp
       have hZ0:MapZ Tryz.prog 3 (V.alloc (.map #[] 0)) mb 0 (needSet l a 0):=by
        rw [hmb,show needSet l a 0=fun _=>none from funext fun key=>needSet_start l a key]; exact MapZ.made V
       have hbV1:Below V.heap.size V (V.alloc (.map #[] 0)):=fr_alloc (fr_refl V) _
       have hmm:=@run_makeMap Tryz.prog
       clear hP hR hkp hbel hbx
       go_wp2_with fail
       rw [←hV,←hmz,←hmb]
       have hVm:V.heap.size≤mb:=by omega
       clear hV p0 p1 p2 p3 p4 p5 p6 p7 hmm hmb hmz
       go_loopw [105] (fun jv wy=>∃ t mm:Nat,t≤n5∧jv=.int .i64 t∧mm≤t∧MapZ Tryz.prog 3 wy mb mm (needSet l a t)∧Below V.heap.size V wy) (fun jv _=>n5 - (intOf jv).toNat)
       case atStart=>exact ⟨0,0,Nat.zero_le _,rfl,Nat.zero_le _,hZ0,hbV1⟩
       case round =>
        clear hZ0 hbV1
        obtain ⟨t,mm,ht,rfl,hmm,hZ,hbel⟩:=hrel
        have hbw:=fr_call hbV hbel
        by_cases htn:t < n5
        ·obtain ⟨b1,o1,p,rfl,_,hp,hps,cp⟩:=(s5.keep (keep_lt hbw)).str htn
         have HP:=Lib.hid hp; clear hp
         have htI:(t:Int) < (n5:Int):=by omega
         have hkw:=hkV.call hbel
         have hPw:=hPV.call hbel
         have pc:=hPw.cell (i:=1) rfl
         have hgl:=hPw.lt
         have hlk:=of_lookup (HM5.out wr hkw) hps
         rw [ofAt_zero] at hlk
         clear hkw hPw
         cases hlo:lastOf l i p.data.toList with
         | none =>
           rw [hlo] at hlk
           simp only [Option.map_none,Option.getD_none,Option.isSome_none] at hlk
           rw [show needSet l a t=needSet l a (t + 1) from funext (needSet_no HP.out (by rw [HL.out]; exact hlo))] at hZ
           have HZn:=Lib.hid hZ
           clear hlo hZ
           go_wp2
           go_roundw
           case rel=>exact ⟨t + 1,mm,by omega,by go_num,by omega,HZn.out,hbel⟩
           case measure=>simp [intOf]; omega
         | some k =>
           rw [hlo] at hlk
           simp only [Option.map_some,Option.getD_some,Option.isSome_some] at hlk
           have hki:=(lastOf_lt hlo).1
           have HE:=Lib.hid (show (fun key=>if key=(k:Int) then some (.bool true) else needSet l a t key)=needSet l a (t + 1) from funext (needSet_yes HP.out (by rw [HL.out]; exact hlo)))
           clear hlo
           go_wp2_with (at_mapUpdate; refine wpList_mapUpdate_z _ rfl _ _ _ 129 rfl Tryz.underlying3 Tryz.underlying129 rfl hZ (by unfold maxLen; omega) (k:Nat) (by unfold InInt; omega) (.bool true) rfl rfl ?_; intro w4 hmap4 hg4)
           rw [HE.out] at hmap4
           have hb4:=hbel.grown hg4 hbel.size fun k hk=>by cases hk; omega
           clear hg4 hZ hbel
           go_wp2
           go_roundw
           case rel=>exact ⟨t + 1,mm + 1,by omega,by go_num,by omega,hmap4,hb4⟩
           case measure=>simp [intOf]; omega
        ·have hte:(insAt l a).length≤t:=by omega
         have hkw:=hkV.call hbel
         have hPw:=hPV.call hbel
         obtain ⟨Lr,hLr⟩:∃ Lr,Lr=(needsS l).take a:=⟨_,rfl⟩
         rw [←hLr] at hRV
         have hlen:Lr.length≤500:=by rw [hLr,List.length_take]; omega
         have HNM:=Lib.hid (show Lr ++ [(List.range l.length).filter (usesS l a)]=(needsS l).take (a + 1) by rw [hLr,←needs_more (by rw [HL.out]; exact hla)])
         obtain ⟨rows,hrows,hparts⟩:=(hRV.call hbel).parts
         have HK1:=Lib.hid (keys_mapintbool mb wr.drew)
         have HK2:=Lib.hid (needs_sorted mb mm a t l wr hZ hte HO.out HB.out (by omega))
         have HP4:=Lib.hid (fun (w4:World) (hb:Below wr.heap.size wr w4)=>hPw.call hb)
         have HOwn:=Lib.hid (fun (w4:World) (o:Obj) (hb:Below wr.heap.size wr w4)=>hparts (w4.alloc o) (fr_alloc hb o))
         have hzr:W5.heap.size≤wr.heap.size:=hkw.1
         have HBS:=Lib.hid (fun (w4:World) (o:Obj) (hb:Below wr.heap.size wr w4)=>show W5.heap.size≤(w4.alloc o).heap.size from Nat.le_trans hzr (fr_alloc hb o).size)
         have HP9:=Lib.hid (fun (w4 w9:World) (ob:Obj) (hb:Below wr.heap.size wr w4) (hg:(w4.alloc ob).grownBy w9 v.ownBlock)=>show Arr w9 g 86 [.slice (some ⟨b,o,none⟩) i c,.map (some m),v] from
          (hPw.call (fr_alloc hb ob)).grown hg fun e=>by have:=((HOwn.out w4 ob hb).1.lt g e).1; omega)
         have HKn:=Lib.hid (fun (w4 w9:World) (ob:Obj) (u:Value) (hb:Below wr.heap.size wr w4) (hg:(w4.alloc ob).grownBy w9 v.ownBlock)=>show KeepM W5 g (w9.setCell ⟨g,2,none⟩ u) from
          ((hkw.call (fr_alloc hb ob)).grown' hg fun b e=>((HOwn.out w4 ob hb).1.lt b e).1).set 2 u)
         have HBn:=Lib.hid (fun (w4 w9:World) (ob:Obj) (u:Value) (hb:Below wr.heap.size wr w4) (hg:(w4.alloc ob).grownBy w9 v.ownBlock)=>show Below w.heap.size w (w9.setCell ⟨g,2,none⟩ u) from
          ((fr_call hbw (fr_alloc hb ob)).grown hg (Nat.le_trans hbw.size (fr_alloc hb ob).size) fun b e=>Nat.le_trans hzW5 ((HOwn.out w4 ob hb).1.lt b e).1).setCell (p:=⟨g,2,none⟩) hqg u)
         have H63:=Lib.hid (show Lr.length + 1≤maxLen by unfold maxLen; omega)
         have H48:=Lib.hid (show (Lr.length + 1) * 24≤140737488355328 by omega)
         have pc:=hPw.cell (i:=2) rfl
         have hgl:=hPw.lt
         clear hZ hkw hPw hparts hbw hbel hPV hRV hkV hbV hLr
         go_wp2_with fail
         go_region_law (first
          | (refine step_append_lies _ rfl _ _ 84 rfl W5.heap.size 87 s0 _ 1 24 Tryz.underlying84 hs0 hsz0 hsz1 hsz2 rfl (by decide) _ Lr.length _ rfl (HOwn.out w4 _ (by assumption)).1 ⟨w4.heap.size,0,none⟩ 1 1 [.slice A4 n4 c4] rfl rfl (new_cells w4 #[_] _) (slice_one _ _ _) (by decide) H63.out H48.out (HBS.out w4 _ (by assumption)) _ rfl ?_
             intro g9 cap w9 hown9 hg9 hat9 hlt9
             have pc9:=(HP9.out w4 w9 _ hb4 hg9).cell (i:=2) rfl
             have fz9:=(HP9.out w4 w9 _ hb4 hg9).frozen 2
             have hgl9:=(HP9.out w4 w9 _ hb4 hg9).lt)
          | (go_simp; go_at_call 57; refine HK1.out.mono ?_; rintro e w3 ⟨rfl,rfl⟩)
          | (go_simp; go_at_call 56; refine HK2.out.mono ?_; rintro e w4 ⟨A4,n4,c4,rfl,hx4,hb4⟩
             have pc4:=(HP4.out w4 hb4).cell (i:=2) rfl
             have hgl4:=(HP4.out w4 hb4).lt))
         all_goals
          obtain ⟨hPn,hRn⟩:=deps_next (HP4.out w4 hb4) hgl5 hrows (HOwn.out w4 _ hb4).1 (HOwn.out w4 _ hb4).2 hx4 hg9 hown9
          rw [HNM.out] at hRn
          have hkn:=HKn.out w4 w9 _ (.slice (some ⟨g9,0,none⟩) (Lr.length + 1) cap) hb4 hg9
          have hbn:=HBn.out w4 w9 _ (.slice (some ⟨g9,0,none⟩) (Lr.length + 1) cap) hb4 hg9
          clear hown9 hg9 hat9 hlt9 pc9 fz9 hgl9 pc4 hgl4 hx4 hb4
          go_wp2
          go_roundw
          case rel=>exact ⟨a + 1,_,by omega,by go_num,hPn,hRn,hkn,hbn⟩
          case measure=>simp [intOf]; omega
      ·have hea:a=i:=by omega
       rw [hea,List.take_of_length_le (by rw [needsS_length,HL.out]; exact Nat.le_refl _)] at hR
       clear hea
       obtain ⟨D,d,hv,hd1,hd2,hDs⟩:=hR.sl
       rw [needsS_length,HL.out] at hv hd1 hDs
       subst hv
       have p0:=hP.cell (i:=0) rfl
       have p2:=hP.cell (i:=2) rfl
       clear hR
       go_wp2_with fail
       refine (steps_order_nil g A D i c d (needsS l) wr hP.lt p0 p2 hDs (needs_within l) (needs_nodup l) (by omega)).mono ?_
       rintro e w5 ⟨v5,rfl,_,hb5⟩
       have HPl:=Lib.hid (show PlanAt w.heap.size w5 g A i c l from ⟨hqg,m,nn,D,d,hP.call hb5,(HM5.out wr hkp).call hb5,hd1,hd2,sl_call hDs hb5 (Nat.le_refl _)⟩)
       have hb6:=fr_call hbel hb5
       clear p0 p2 hb5 hP hDs hkp hbel
       have HR2:=Lib.hid (show checkRulesS l=if (orderS (needsS l) allTrue).2=false then 17 else 0 from HR.out)
       generalize (orderS (needsS l) allTrue).2=ord at HR2
       cases ord
       ·have HV:=Lib.hid (show checkRulesS l=17 from HR2.out)
        go_wp2
        go_ret2
        exact OpenPost.bad HV.out (by decide) hb6
       ·have HV:=Lib.hid (show checkRulesS l=0 from HR2.out)
        go_wp2
        go_ret2
        exact OpenPost.good HV.out HPl.out hb6
end Go.Proofs.Sm
namespace Go.Proofs.Sm
open Go.RowKit
def mem0:MemoryV:=⟨⟨#[97]⟩,⟨#[48,49,50,51,52,53,54,55,56,57,97,98,99,100,101,102]⟩,[],⟨0,⟨#[]⟩,[],[],0⟩⟩
theorem mem0_err:joinedErr [] [mem0]=0:=by decide +kernel
theorem mem0_out {out:List MemoryV} (h:JoinedIs [] [mem0] out):out=[mem0]:=by
 have h1:bothS [] [mem0]=[mem0]:=by rw [bothS,List.nil_append,List.filter_cons]; rfl
 have h2:=h.1
 rw [h1] at h2
 exact List.perm_singleton.1 h2
set_option maxHeartbeats 1000000 in
set_option maxRecDepth 100000 in
theorem law6_awake (w:World) (hE:Env w):Calls Tryz.prog 10 #[] w fun e w'=>e=.returned (.bool true)∧Below w.heap.size w w':=by
 have hb0:Below w.heap.size w (w.alloc (.cells #[.string mem0.name,.string mem0.action,.slice none 0 0,.int .i64 0,.string ⟨#[]⟩,.slice none 0 0,.slice none 0 0,.int .i64 0] 43)):=fr_alloc (fr_refl w) _
 have hs0:Sl (w.alloc (.cells #[.string mem0.name,.string mem0.action,.slice none 0 0,.int .i64 0,.string ⟨#[]⟩,.slice none 0 0,.slice none 0 0,.int .i64 0] 43)) (Lt (w.alloc (.cells #[.string mem0.name,.string mem0.action,.slice none 0 0,.int .i64 0,.string ⟨#[]⟩,.slice none 0 0,.slice none 0 0,.int .i64 0] 43)).heap.size) (some ⟨w.heap.size,0,none⟩) 1 [mem0]:=by
  refine ⟨rfl,by unfold maxLen; decide,fun _=>⟨_,_,rfl,by show w.heap.size < _; rw [World.size_alloc]; omega,fun i x hx=>?_⟩⟩
  cases i with
  | succ i=>simp at hx
  | zero =>
    obtain rfl:mem0=x:=by simpa using hx
    refine ⟨memCells mem0 none 0 0 none 0 0 none 0 0,⟨none,0,0,none,0,0,none,0,0,rfl,⟨by decide,by decide,by decide,⟨by decide,by decide⟩,⟨by decide,by decide⟩⟩,⟨by decide,by decide,by decide,by decide,by decide,by decide⟩,Sl.nil,Sl.nil,Sl.nil⟩,fun j v hv=>?_⟩
    have hA:Arr (w.alloc (.cells #[.string mem0.name,.string mem0.action,.slice none 0 0,.int .i64 0,.string ⟨#[]⟩,.slice none 0 0,.slice none 0 0,.int .i64 0] 43)) w.heap.size 43 (memCells mem0 none 0 0 none 0 0 none 0 0):=heap_alloc_new w _
    have:=hA.cell hv
    simpa using this
 have HJ:=Lib.hid (steps_Joined none (some ⟨w.heap.size,0,none⟩) 0 0 1 1 [] [mem0] _ (hE.then_ hb0) Sl.nil hs0)
 have HB:=Lib.hid hb0
 clear hb0 hs0
 go_enter Tryz.func10,Tryz.ntmps10
 go_wp2_with fail
 refine HJ.out.mono ?_
 rintro e w1 ⟨v,rfl,_,hgood,hb1⟩
 obtain ⟨A,n,c,out,rfl,hn,hc,hj,hs⟩:=hgood mem0_err
 obtain rfl:=mem0_out hj
 obtain rfl:1=n:=hs.1
 rw [mem0_err]
 obtain ⟨b,o,x,rfl,_,hx,A1,n1,c1,A2,n2,c2,A3,n3,c3,_,_,_,q0,_⟩:=hs.memory (k:=0) (by decide)
 obtain rfl:mem0=x:=by simpa using hx
 rw [Nat.zero_mul,Nat.add_zero] at q0
 have hbe:=fr_call HB.out hb1
 have hnm:(mem0.name.toList == [97])=true:=by decide +kernel
 clear hgood hj hs hb1 HJ hx
 go_wp2
 go_ret
 exact ⟨rfl,hbe⟩
end Go.Proofs.Sm
namespace Go.Proofs.Sm
open Go.RowKit
section
variable {α:Type} [Rep α] {w w':World} {B:Nat} {e:TypeId} {K:Nat→Prop} {v v':Value} {l l2:List α}
theorem RowK.pop {x:α} {g c:Nat} (h:RowK w B e K (.slice (some ⟨g,0,none⟩) (l.length + 1) c) (l ++ [x])):RowK w B e K (.slice (some ⟨g,0,none⟩) l.length c) l:=by
 obtain ⟨hk,rows,hr,hown,hrep⟩:=h
 have hlens:∀ r∈rows,r.length=Rep.sz α:=by
  intro r hr2
  obtain ⟨i,hi⟩:=List.getElem?_of_mem hr2
  have hi2:=(List.getElem?_eq_some_iff.1 hi).1
  exact Rep.len (hrep i _ r (List.getElem?_eq_getElem (by omega)) hi)
 have hrl:rows.length=l.length + 1:=by rw [hr,List.length_append,List.length_singleton]
 have hfl:∀ (rs:List (List Value)),(∀ r∈rs,r.length=Rep.sz α)→rs.flatten.length=rs.length * Rep.sz α:=by
  intro rs
  induction rs with
  | nil=>intro _; simp
  | cons r rs ih=>intro h; rw [List.flatten_cons,List.length_append,ih fun q hq=>h q (by simp [hq]),h r (by simp),List.length_cons,Nat.succ_mul]; omega
 have htl:∀ r∈rows.take l.length,r.length=Rep.sz α:=fun r hr=>hlens r (List.mem_of_mem_take hr)
 have htn:(rows.take l.length).length=l.length:=by rw [List.length_take]; omega
 have hft:(rows.take l.length).flatten=rows.flatten.take (l.length * Rep.sz α):=by
  have h1:rows.flatten=(rows.take l.length).flatten ++ (rows.drop l.length).flatten:=by rw [←List.flatten_append,List.take_append_drop]
  rw [h1,List.take_left' (by rw [hfl _ htl,htn])]
 rw [List.length_append,List.length_singleton] at hown
 refine ⟨hk,rows.take l.length,htn,⟨by rw [hfl _ htl,htn],.inr ?_⟩,fun i y r hy hri=>?_⟩
 ·rcases hown.2 with ⟨h0,_⟩ | ⟨g',cap',cur,hv,hg,hb,h1,h2,h3,h4⟩
  ·cases h0
  ·cases hv
   refine ⟨g,c,cur,rfl,hg,hb,by omega,h2,h3,?_⟩
   rw [hft,←h4,List.take_take,Nat.min_eq_left (Nat.mul_le_mul_right _ (by omega))]
 ·have hi:i < l.length:=(List.getElem?_eq_some_iff.1 hy).1
  rw [List.getElem?_take_of_lt hi] at hri
  exact hrep i y r (by rw [List.getElem?_append_left hi]; exact hy) hri
theorem RowK.appendAll {rows rows2:List (List Value)} (hk:∀ k,K k→k < w.heap.size) (hr:rows.length=l.length)
 (hrep:∀ (i:Nat) (x:α) (r:List Value),l[i]?=some x→rows[i]?=some r→Rep.rep w K x r) (hr2:rows2.length=l2.length)
 (hrep2:∀ (i:Nat) (x:α) (r:List Value),l2[i]?=some x→rows2[i]?=some r→Rep.rep w K x r) (hne:∀ g,v.ownBlock=some g→¬ K g)
 (hg:w.grownBy w' v.ownBlock) (hown':w'.ownsRow B e (Rep.sz α) v' (l.length + l2.length) (rows.flatten ++ rows2.flatten)):RowK w' B e K v' (l ++ l2):=by
 have h1:∀ k,K k→w'.heap[k]?=w.heap[k]?:=fun k hh=>hg.block k (hk k hh) fun e2=>hne k e2.symm hh
 refine ⟨fun k hh=>Nat.lt_of_lt_of_le (hk k hh) hg.size,rows ++ rows2,by simp [hr,hr2],?_,?_⟩
 ·rw [List.length_append,List.flatten_append]
  exact hown'
 ·intro i y s hy hs
  refine Rep.keep h1 ?_
  by_cases hi:i < l.length
  ·rw [List.getElem?_append_left hi] at hy
   rw [List.getElem?_append_left (by omega)] at hs
   exact hrep i y s hy hs
  ·rw [List.getElem?_append_right (by omega)] at hy
   rw [List.getElem?_append_right (by omega),hr] at hs
   exact hrep2 _ y s hy hs
end
def boolsAt (w:World) (q:Nat):List Bool:=match w.heap[q]? with
 | some (.cells cs _ _)=>cs.toList.map fun v=>match v with
   | .bool b=>b
   | _=>false
 | _=>[]
theorem Arr.bools {w:World} {q:Nat} {ty:TypeId} {s:List Bool} (h:Arr w q ty (s.map Value.bool)):boolsAt w q=s:=by
 unfold boolsAt
 rw [h]
 simp only [List.map_map]
 have:(fun v:Value=>match v with | .bool b=>b | _=>false) ∘ Value.bool=id:=rfl
 rw [this,List.map_id]
end Go.Proofs.Sm
