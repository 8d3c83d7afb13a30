/- Words and walks that the claims share, part 32. -/
import Derived.Test.YtaabdbephemboaaGreatDoorBx8
import Derived.Test.YtaabdbephemboaaGreatDoorBx22
import Derived.Test.YtaabdbephemboaaGreatDoorBx24
import Derived.Test.YtaabdbephemboaaGreatDoorBx29
import Derived.Test.YtaabdbephemboaaGreatDoorBx31
import Derived.StillTailTactics
import Derived.Deep.CutBlock
import Derived.Deep.DeepCutAuto
import Derived.Deep.RegionLaw
import Derived.BigRegion
namespace Go.Proofs.Sm
open Go.RowKit Go.Maps
def noMem:MemoryV:=⟨⟨#[]⟩,⟨#[]⟩,[],⟨0,⟨#[]⟩,[],[],0⟩⟩
theorem mem_zero:∀ w,(zeroValue 43).run Tryz.prog w=.ok (memVal noMem none 0 0 none 0 0 none 0 0) w:=fun w=>by kernel_rfl
structure MemAt (w:World) (S:Nat→Prop) (mm:Nat) (mem:List MemoryV) (name:ByteArray) (kn:Bool) (x:MemoryV) (B1:Option Addr) (m1 d1:Nat) (B2:Option Addr) (m2 d2:Nat) (B3:Option Addr) (m3 d3:Nat):Prop where
 look:∀ w',w'.heap[mm]?=w.heap[mm]?→(Instr.lookup 98 (.map (some mm)) (.string name) true).run Tryz.prog w'=.ok (.tuple #[memVal x B1 m1 d1 B2 m2 d2 B3 m3 d3,.bool kn]) w'
 known:kn=true→findM mem name=some x
 new:kn=false→findM mem name=none
 looks:Sl w S B1 m1 x.looks
 res:ResS w S x.result B2 m2 B3 m3
theorem mem_at {w:World} {S:Nat→Prop} {mm nm:Nat} {mem:List MemoryV} {name:ByteArray} (h:MemsIn Tryz.prog 9 w S mm nm mem) (hn:name.size≤maxLen):∃ kn x B1 m1 d1 B2 m2 d2 B3 m3 d3,MemAt w S mm mem name kn x B1 m1 d1 B2 m2 d2 B3 m3 d3:=by
 have hl:=h.look_ok Tryz.underlying9 map_mem_under mem_zero hn
 cases hf:mem.find? (fun y=>y.name.toList == name.toList) with
 | none =>
   rw [hf] at hl
   exact ⟨false,noMem,none,0,0,none,0,0,none,0,0,hl,fun e=>(by cases e),fun _=>hf,Sl.nil,⟨by unfold InInt; decide,by decide,Sl.nil,Sl.nil,by unfold InInt; decide⟩⟩
 | some x =>
   rw [hf] at hl
   obtain ⟨v,⟨A1,n1,c1,A2,n2,c2,A3,n3,c3,rfl,⟨z1,z2,z3,z4,z5⟩,_,s1,s2,s3⟩,hl⟩:=hl
   exact ⟨true,x,A1,n1,c1,A2,n2,c2,A3,n3,c3,hl,fun _=>hf,fun e=>(by cases e),s1,⟨z4,z3,s2,s3,z5⟩⟩
def midS (r:RuleV) (k:Nat) (o:OutV) (s:BSt):BSt:=⟨o.res.elim s.have_ fun x=>x.files.foldl putFileS s.have_,if o.res.isNone then s.bad.set k true else s.bad,s.steps,o.res.elim s.kept fun x=>putM s.kept (memOf r x)⟩
def StepPost (W:World) (p:BdP) (n:Nat) (mem:List MemoryV) (M:Nat) (o:OutV) (s':BSt) (e:Ending) (w':World):Prop :=
 e=.returned (.int .i64 o.fault)∧(o.fault=0→∃ u',Bd W w' p n mem u' M s')∧Below W.heap.size W w'
theorem step1 (g gb q n:Nat) (s:List Bool) (i:Nat) (w:World) (c0:w.cell? ⟨q,0,none⟩=some (.pointer (some ⟨g,0,none⟩))) (c3:w.cell? ⟨g,3,none⟩=some (.slice (some ⟨gb,0,none⟩) n n)) (hs:Sl w (Lt w.heap.size) (some ⟨gb,0,none⟩) n s) (hi:i < n) :
 Calls Tryz.prog 96 #[.int .i64 (i:Int),.pointer (some ⟨q,0,none⟩)] w fun e w'=>e=.returned (.bool (isOf s i))∧w=w':=by
 have hm:n≤9223372036854775807:=hs.2.1
 obtain ⟨b,o,x,e1,_,hx,cx⟩:=hs.bool hi
 cases e1
 have hI:(i:Int) < (n:Int):=by omega
 have HV:=Lib.hid (show isOf s i=x by rw [isOf,hx]; cases x <;> rfl)
 rw [Nat.zero_add] at cx
 go_enter Tryz.func96,Tryz.ntmps96
 go_wp2
 go_ret
 exact ⟨by rw [HV.out]; rfl,rfl⟩
def MidAt (W:World) (p:BdP) (n:Nat) (mem:List MemoryV) (u:Value) (M:Nat) (s1:BSt) (b0:Nat) (name:ByteArray) (o:OutV) (wx:World):Prop :=
 o.fault=0∧Bd W wx p n mem u M s1∧Arr wx b0 93 [.pointer (some ⟨p.g,0,none⟩)]∧Arr wx (b0 + 2) 46 [.string name,.int .i64 o.what,.bool o.early]
section
variable {g:Graph} {mem:List MemoryV} {r:RuleV} {k:Nat} {s:BSt} {m:MemoryV} {F:List FileV} {mo:Option MemoryV}
theorem out_miss (h:(needAt g k).any (isOf s.bad)=true):outS g mem r k s=⟨4,false,none,0⟩:=by unfold outS; rw [if_pos h]
theorem out_same (h:(needAt g k).any (isOf s.bad)=false) (hf:findM mem r.name=some m) (hs:memStands r m (inputsS s.have_ r)=true):outS g mem r k s=⟨2,false,some m.result,0⟩:=by unfold outS; rw [if_neg (by rw [h]; decide),hf]; simp only [hs,if_true]
theorem out_not (h:(needAt g k).any (isOf s.bad)=false) (hf:findM mem r.name=some m) (hs:memStands r m (inputsS s.have_ r)=false):outS g mem r k s=execOut r (inputsS s.have_ r) (some m):=by
 unfold outS; rw [if_neg (by rw [h]; decide),hf]; simp only [hs,Bool.false_eq_true,if_false]
theorem out_new (h:(needAt g k).any (isOf s.bad)=false) (hf:findM mem r.name=none):outS g mem r k s=execOut r (inputsS s.have_ r) none:=by unfold outS; rw [if_neg (by rw [h]; decide),hf]
theorem exec_fault (h:¬ bothErr r.action F=0):execOut r F mo=⟨0,false,none,bothErr r.action F⟩:=by unfold execOut; rw [if_pos h]
theorem exec_fail (h:bothErr r.action F=0) (hc:¬ (execS r.action F).code=0):execOut r F mo=⟨3,false,none,0⟩:=by unfold execOut; rw [if_neg (by simpa using h),if_pos hc]
theorem exec_ran (h:bothErr r.action F=0) (hc:(execS r.action F).code=0):execOut r F mo=⟨1,mo.any fun y=>sameFsS y.result.files (execS r.action F).files,some (execS r.action F),0⟩:=by unfold execOut; rw [if_neg (by simpa using h),if_neg (by simpa using hc)]
end
theorem MidAt.mark {W w w5 wF:World} {p:BdP} {n M k:Nat} {mem:List MemoryV} {u:Value} {s:BSt} {r:RuleV} {b0:Nat} {z:Int} {o:OutV} (h:Bd W w p n mem u M s) (hb:Below w.heap.size w w5) (hb0:w.heap.size≤b0) (ho:o=⟨z,false,none,0⟩)
 (hk:Kp (fun j=>j=p.gb∨j=b0 + 2) w5 wF) (hg:Arr wF p.gb 4 ((s.bad.set k true).map Value.bool)) (a0:Arr w5 b0 93 [.pointer (some ⟨p.g,0,none⟩)]) (a2:Arr wF (b0 + 2) 46 [.string r.name,.int .i64 z,.bool false]) :
 MidAt W p n mem u (M + 1) (midS r k o s) b0 r.name o wF:=by
 have hgb:p.gb < w.heap.size:=h.bad.lt
 subst ho
 refine ⟨rfl,(h.marks ⟨hk.os.trans hb.os,hk.tape.trans hb.tape,hk.output.trans hb.output,Nat.le_trans hb.size hk.size,fun j hj hne=>(hk.block j (Nat.lt_of_lt_of_le hj hb.size) ?_).trans (hb.block j hj)⟩ hg).up (Nat.le_succ M),a0.keep (hk.block b0 a0.lt ?_),a2⟩
 ·rintro (e | e)
  ·exact hne e
  ·omega
 ·rintro (e | e) <;> omega
theorem MidAt.marked {W w w5:World} {p:BdP} {n M k:Nat} {mem:List MemoryV} {u:Value} {s:BSt} {r:RuleV} {b0:Nat} {z:Int} {o:OutV} (h:Bd W w p n mem u M s) (hb:Below w.heap.size w w5) (hb0:w.heap.size≤b0) (ho:o=⟨z,false,none,0⟩)
 (hB:Arr w5 p.gb 4 (s.bad.map Value.bool)) (a0:Arr w5 b0 93 [.pointer (some ⟨p.g,0,none⟩)]) (a2:Arr w5 (b0 + 2) 46 [.string r.name,.int .i64 0,.bool false]) :
 MidAt W p n mem u (M + 1) (midS r k o s) b0 r.name o ((w5.setCell ⟨b0 + 1 + 1,1,none⟩ (.int .i64 z)).setCell ⟨p.gb,k,none⟩ (.bool true)):=by
 have hgb:p.gb < w.heap.size:=h.bad.lt
 have hne:¬ (p.gb=b0 + 2):=by omega
 refine MidAt.mark h hb hb0 ho (((Kp.refl _ w5).set (p:=⟨b0 + 2,1,none⟩) (.inr rfl) _).set (p:=⟨p.gb,k,none⟩) (.inl rfl) _) ?_ a0 ?_
 ·rw [List.map_set]
  exact (hB.other (p:=⟨b0 + 2,1,none⟩) hne _).set k (.bool true)
 ·exact (a2.set 1 (.int .i64 z)).other (p:=⟨p.gb,k,none⟩) (fun e=>hne e.symm) _
theorem MidAt.later {W wx w':World} {p:BdP} {n M:Nat} {mem:List MemoryV} {u:Value} {s1:BSt} {b0:Nat} {name:ByteArray} {o:OutV} (h:MidAt W p n mem u M s1 b0 name o wx) (hb:Below wx.heap.size wx w'):MidAt W p n mem u M s1 b0 name o w' :=
 ⟨h.1,h.2.1.call hb,h.2.2.1.call hb,h.2.2.2.call hb⟩
theorem MidAt.took {W w7 w8:World} {p:BdP} {n M k:Nat} {mem:List MemoryV} {u:Value} {s:BSt} {r:RuleV} {b0:Nat} {z:Int} {ea:Bool} {x:ResultV} {o:OutV} (ho:o=⟨z,ea,some x,0⟩) (hbd:Bd W w8 p n mem u (M + 1) { s with have_:=x.files.foldl putFileS s.have_,kept:=putM s.kept (memOf r x) }) (hk:Kp (BdX p u) w7 w8)
 (hX:∀ k,BdX p u k→k < b0) (a0:Arr w7 b0 93 [.pointer (some ⟨p.g,0,none⟩)]) (a2:Arr w7 (b0 + 2) 46 [.string r.name,.int .i64 z,.bool ea]):MidAt W p n mem u (M + 1) (midS r k o s) b0 r.name o w8:=by
 subst ho
 exact ⟨rfl,hbd,a0.keep (hk.block b0 a0.lt fun e=>by have:=hX _ e; omega),a2.keep (hk.block (b0 + 2) a2.lt fun e=>by have:=hX _ e; omega)⟩
theorem mem2_of {r:RuleV} {x:ResultV} (h1:x.looks.length≤1000000) (h2:x.files.length≤1000) (h3:∀ y∈x.files,y.bytes.length≤100000000):Mem2 (memOf r x):=⟨⟨h1,by show x.files.length≤_; omega,h1,h3⟩,h2⟩
theorem step_info:(Tryz.prog.info? 46).map (fun i=>(i.zero,i.size,i.bytes))=some (some (.agg #[.string ⟨#[]⟩,.int .i64 0,.bool false]),3,32):=by kernel_rfl
theorem outS_int (g:Graph) (mem:List MemoryV) (r:RuleV) (k:Nat) (s:BSt):InInt (outS g mem r k s).what:=by
 unfold outS execOut
 repeat' split
 all_goals (unfold InInt; dsimp only; omega)
theorem exec_mem2 {r:RuleV} {a:ActionV} {F:List FileV} (h:bothErr a F=0):Mem2 (memOf r (execS a F)):=by
 have ok:=checkResult_ok (exec_right h).2.1.right
 exact mem2_of (by have:=looks_many ok.looks; omega) (checkFiles_err ok.files).1 fun y hy=>by have:=(files_sizes ok.files y hy).2; omega
theorem res_off {X:Nat→Prop} {w wq w7 w8:World} {R:ResultV} {A B:Option Addr} {n m b:Nat} (hX:∀ k,X k→k < w.heap.size) (hz:w.heap.size≤wq.heap.size) (hb:b≤wq.heap.size) (hk:Kp (fun j=>j < b) w7 w8) (hr:ResS w7 (fun k=>wq.heap.size≤k∧k < w7.heap.size) R A n B m):ResS w8 (Off X w8) R A n B m:=by
 have h1:∀ k,(wq.heap.size≤k∧k < w7.heap.size)→w8.heap[k]?=w7.heap[k]?:=fun k hh=>hk.block k hh.2 fun e=>by have e:k < b:=e; have:=hh.1; omega
 have h2:∀ k,(wq.heap.size≤k∧k < w7.heap.size)→Off X w8 k:=fun k hh=>⟨fun e=>by have:=hX k e; omega,Nat.lt_of_lt_of_le hh.2 hk.size⟩
 exact ⟨hr.code,hr.text,(hr.files.keep h1).more h2,(hr.looks.keep h1).more h2,hr.command⟩
theorem res_call {X:Nat→Prop} {w w8:World} {R:ResultV} {A B:Option Addr} {n m:Nat} (hb:Below w.heap.size w w8) (hr:ResS w (Off X w) R A n B m):ResS w8 (Off X w8) R A n B m :=
 ⟨hr.code,hr.text,(hr.files.keep fun _ hk=>hb.block _ hk.2).more fun _ hk=>⟨hk.1,Nat.lt_of_lt_of_le hk.2 hb.size⟩,(hr.looks.keep fun _ hk=>hb.block _ hk.2).more fun _ hk=>⟨hk.1,Nat.lt_of_lt_of_le hk.2 hb.size⟩,hr.command⟩
set_option maxHeartbeats 0 in
set_option maxRecDepth 100000 in
theorem steps_step (P0:Nat) (W:World) (p:BdP) (A:Option Addr) (n c:Nat) (l:List RuleV) (mem:List MemoryV) (u:Value) (M:Nat) (s:BSt) (k:Nat) (r:RuleV) (w:World) (hE:Env2 W) (hpl:PlanAt P0 W p.gp A n c l) (hsl:Sl W (Lt W.heap.size) A n l) (hc0:checkRulesS l=0)
 (hr:l[k]?=some r) (hok:∀ y∈mem,Mem2 y) (hM:M + 1≤1000) (h:Bd W w p n mem u M s) :
 Calls Tryz.prog 66 #[.pointer (some ⟨p.g,0,none⟩),.int .i64 (k:Int)] w (StepPost W p n mem (M + 1) (outS (needsS l) mem r k s) (takeS r k (outS (needsS l) mem r k s) s)):=by
 have HL:=Lib.hid hsl.1
 have hkn:k < n:=by rw [←hsl.1]; exact (List.getElem?_eq_some_iff.1 hr).1
 have hn5:n≤500:=by have:=(rules_sorted hc0).2; have:=HL.out; omega
 have hkI:(k:Int) < (n:Int):=by omega
 obtain ⟨b,o,r',rfl,hbl,hr',A1,n1,c1,A2,n2,c2,A3,n3,c3,A4,n4,c4,A5,n5,c5,⟨z1,z2,z3⟩,_,⟨s1,s2,s3,s4,s5⟩,q0,q1,q2,q3,q4,q5,q6,q7⟩:=hsl.rule hkn
 obtain rfl:r'=r:=by rw [hr] at hr'; exact (Option.some.inj hr').symm
 clear hr'
 have hq:RuS W (Lt W.heap.size) r' ⟨A1,n1,c1,A2,n2,c2,A3,n3,c3,A4,n4,c4,A5,n5,c5⟩:=⟨z1,z2,z3,s1,s2,s3,s4,s5⟩
 have hrok:=(rules_parts_by hc0).1.at hr
 have hao:=checkAction_ok (checkRule_parts hrok).2.1
 have hin:n5≤1000000:=by have:=(checkRule_parts hrok).2.2.1; rw [s5.1] at this; omega
 have hlow:=h.low
 obtain ⟨nm,hnm,hmem⟩:=h.mem
 obtain ⟨kn,x,B1,m1,d1,B2,m2,d2,B3,m3,d3,hma⟩:=mem_at hmem z1
 have hmlt:p.mm < w.heap.size:=hmem.lt
 obtain ⟨_,mp,np,D,dd,hP,hof,hd1,hd2,hnd⟩:=hpl
 obtain ⟨b9,o9,rr,A9,n9,c9,rfl,hb9,hrr,hn9,hc9,hrow9,cr9⟩:=hnd.row hkn
 have hneed:needAt (needsS l) k=rr:=by rw [needAt,hrr]; rfl
 have hjn:∀ j∈rr,j < n:=fun j hj=>by rw [←hneed] at hj; have:=needs_lt hj; rwa [HL.out] at this
 have lw:∀ b o,b < W.heap.size→w.cell? ⟨b,o,none⟩=W.cell? ⟨b,o,none⟩:=fun b o hb=>hlow.cell (p:=⟨b,o,none⟩) hb
 have y0:=(lw _ _ hbl).trans q0
 have y1:=(lw _ _ hbl).trans q1
 have y2:=(lw _ _ hbl).trans q2
 have y3:=(lw _ _ hbl).trans q3
 have y4:=(lw _ _ hbl).trans q4
 have y5:=(lw _ _ hbl).trans q5
 have y6:=(lw _ _ hbl).trans q6
 have y7:=(lw _ _ hbl).trans q7
 have p0:=(lw _ _ hP.lt).trans (hP.cell (i:=0) rfl)
 have g0:=h.blk.cell (i:=0) rfl
 have hgl:=h.blk.lt
 have hpgl:p.gp < w.heap.size:=Nat.lt_of_lt_of_le hP.lt hlow.size
 have hbw:b < w.heap.size:=Nat.lt_of_lt_of_le hbl hlow.size
 have HX:=Lib.hid (fun k=>h.there k)
 obtain ⟨ou,hou⟩:∃ ou,ou=outS (needsS l) mem r' k s:=⟨_,rfl⟩
 rw [←hou]
 have HOu:=Lib.hid hou
 clear q0 q1 q2 q3 q4 q5 q6 q7 lw hou hmem
 go_enter Tryz.func66,Tryz.ntmps66
 go_wp2
 generalize hV:((w.alloc (.cells #[.pointer (some ⟨p.g,0,none⟩)] 93)).alloc (.cells #[.string r'.name,.string r'.action.tool,.slice A1 n1 c1,.slice A2 n2 c2,.slice A3 n3 c3,.slice A4 n4 c4,.int .i64 r'.action.time,.slice A5 n5 c5] 60)).alloc (.cells #[.string r'.name,.int .i64 0,.bool false] 46)=V at *
 have hb3:Below w.heap.size w V:=by rw [←hV]; exact fr_alloc (fr_alloc (fr_alloc (fr_refl w) _) _) _
 have a0:Arr V w.heap.size 93 [.pointer (some ⟨p.g,0,none⟩)]:=by rw [←hV]; exact (show Arr (w.alloc (.cells #[.pointer (some ⟨p.g,0,none⟩)] 93)) w.heap.size 93 [.pointer (some ⟨p.g,0,none⟩)] from heap_alloc_new w _).call (fr_alloc (fr_alloc (fr_refl _) _) _)
 have a1:Arr V (w.heap.size + 1) 60 (ruleCells r' A1 n1 c1 A2 n2 c2 A3 n3 c3 A4 n4 c4 A5 n5 c5):=by
  rw [←hV]
  have:=(rule_box (w.alloc (.cells #[.pointer (some ⟨p.g,0,none⟩)] 93)) r' A1 n1 c1 A2 n2 c2 A3 n3 c3 A4 n4 c4 A5 n5 c5).call (fr_alloc (fr_refl _) (.cells #[.string r'.name,.int .i64 0,.bool false] 46))
  rwa [World.size_alloc] at this
 have a2:Arr V (w.heap.size + 2) 46 [.string r'.name,.int .i64 0,.bool false]:=by
  rw [←hV]
  have:Arr _ _ 46 [.string r'.name,.int .i64 0,.bool false]:=heap_alloc_new ((w.alloc (.cells #[.pointer (some ⟨p.g,0,none⟩)] 93)).alloc (.cells #[.string r'.name,.string r'.action.tool,.slice A1 n1 c1,.slice A2 n2 c2,.slice A3 n3 c3,.slice A4 n4 c4,.int .i64 r'.action.time,.slice A5 n5 c5] 60)) (.cells #[.string r'.name,.int .i64 0,.bool false] 46)
  rwa [World.size_alloc,World.size_alloc] at this
 clear hV y0 y1 y2 y3 y4 y5 y6 y7
 obtain ⟨b0,hb0⟩:∃ b0,b0=w.heap.size:=⟨_,rfl⟩
 have hbs:w.heap.size≤b0:=by omega
 rw [←hb0] at a0 a1 a2 ⊢
 have HB0:=Lib.hid hb0
 clear hb0
 have hbd3:=h.call hb3
 have hz2:=a2.lt
 have l0:=hma.look V.drew (hb3.block p.mm hmlt)
 unfold memVal at l0
 have l1:(Instr.lookup 98 (.map (some p.mm)) (.string r'.name) true).run Tryz.prog { V with drawn:=V.drawn + 1 }=.ok (.tuple #[.agg #[.string x.name,.string x.action,.slice B1 m1 d1,.int .i64 x.result.code,.string x.result.text,.slice B2 m2 d2,.slice B3 m3 d3,.int .i64 x.result.command],.bool kn]) { V with drawn:=V.drawn + 1 }:=l0
 have e0:=a0.cell (i:=0) rfl
 have e1:=a1.cell (i:=0) rfl
 have e2:=a1.cell (i:=1) rfl
 have e3:=a1.cell (i:=2) rfl
 have e4:=a1.cell (i:=3) rfl
 have e5:=a1.cell (i:=4) rfl
 have e6:=a1.cell (i:=5) rfl
 have e7:=a1.cell (i:=6) rfl
 have e8:=a1.cell (i:=7) rfl
 have f2:=hbd3.blk.cell (i:=2) rfl
 have lk:=hma.look
 unfold memVal at lk
 have l2:=lk (V.alloc (.cells #[.string ⟨#[]⟩,.string ⟨#[]⟩,.slice none 0 0,.int .i64 0,.string ⟨#[]⟩,.slice none 0 0,.slice none 0 0,.int .i64 0] 43)).drew (by rw [show (World.drew _).heap=(V.alloc _).heap from rfl]; exact ((fr_alloc (fr_refl V) _).block p.mm (Nat.lt_of_lt_of_le hmlt hb3.size)).trans (hb3.block p.mm hmlt))
 have hgV:=hbd3.blk.lt
 have hlV:=a1.lt
 have hlV0:=a0.lt
 clear g0 hgl
 go_cut [7,8] (fun s7 s8 wx=>s7=.pointer (some ⟨V.heap.size,0,none⟩)∧s8=.bool kn∧wx=(V.alloc (.cells #[.string x.name,.string x.action,.slice B1 m1 d1,.int .i64 x.result.code,.string x.result.text,.slice B2 m2 d2,.slice B3 m3 d3,.int .i64 x.result.command] 43)).drew)
 case first =>
  go_region
  all_goals
   go_wp2_with fail
   go_meet
   exact ⟨rfl,rfl,rfl⟩
 obtain ⟨rfl,rfl,rfl⟩:=hcut
 have hb4:=(fr_alloc hb3 (.cells #[.string x.name,.string x.action,.slice B1 m1 d1,.int .i64 x.result.code,.string x.result.text,.slice B2 m2 d2,.slice B3 m3 d3,.int .i64 x.result.command] 43)).drew
 have hb34:=(fr_alloc (fr_refl V) (.cells #[.string x.name,.string x.action,.slice B1 m1 d1,.int .i64 x.result.code,.string x.result.text,.slice B2 m2 d2,.slice B3 m3 d3,.int .i64 x.result.command] 43)).drew
 have a3:Arr (V.alloc (.cells #[.string x.name,.string x.action,.slice B1 m1 d1,.int .i64 x.result.code,.string x.result.text,.slice B2 m2 d2,.slice B3 m3 d3,.int .i64 x.result.command] 43)).drew V.heap.size 43 (memCells x B1 m1 d1 B2 m2 d2 B3 m3 d3):=(mem_box V x B1 m1 d1 B2 m2 d2 B3 m3 d3).call (Below.drew (fr_refl _))
 have b1:=a1.call hb34
 have e0:=(a0.call hb34).cell (i:=0) rfl
 have e1:=b1.cell (i:=0) rfl
 have e2:=b1.cell (i:=1) rfl
 have e3:=b1.cell (i:=2) rfl
 have e4:=b1.cell (i:=3) rfl
 have e5:=b1.cell (i:=4) rfl
 have e6:=b1.cell (i:=5) rfl
 have e7:=b1.cell (i:=6) rfl
 have e8:=b1.cell (i:=7) rfl
 clear lk l2 f2 hgV
 go_wp2_with fail
 refine (steps_inputs W p n mem u M s r' ⟨A1,n1,c1,A2,n2,c2,A3,n3,c3,A4,n4,c4,A5,n5,c5⟩ _ (h.call hb4) hq hin).mono ?_
 rintro e w5 ⟨L,nl,cl,rfl,hL1,hL2,hsL,hb5⟩
 have hb05:=fr_call hb4 hb5
 have hb35:=fr_call hb34 hb5
 have a3':=a3.call hb5
 obtain ⟨b3,hb3e⟩:∃ b3,b3=V.heap.size:=⟨_,rfl⟩
 have hb3s:b0 + 2 < b3:=by omega
 rw [←hb3e] at a3' ⊢
 clear hb3e
 clear e0 e1 e2 e3 e4 e5 e6 e7 e8 a3 b1 hlV hlV0
 go_upto_block 0 with fail
 go_cut [11,73,93] (fun _ _ _ wx=>MidAt W p n mem u (M + 1) (midS r' k ou s) b0 r'.name ou wx)
 case first =>
  have b0':=a0.call hb35
  have a1':=a1.call hb35
  have b2':=a2.call hb35
  have hbd5:=h.call hb05
  have hlow5:=hlow.trans (hb05.mono hlow.size)
  have g3:=hbd5.blk.cell (i:=3) rfl
  have hbad:=hbd5.bad.sl (α:=Bool) (l:=s.bad) rfl (by simp) (by rw [h.size]; unfold maxLen; omega) fun _ x v hx hv=>by
   rw [List.getElem?_map,hx] at hv
   cases hv; rfl
  rw [h.size] at hbad
  have HC:=Lib.hid (containsFuncN 96 (enters_of Tryz.func96 (by kernel_rfl) rfl) (.pointer (some ⟨b0,0,none⟩)) (isOf s.bad) A9 n9 c9 rr w5 ((hrow9.keep fun j hj=>hlow5.block j hj).more fun j hj=>Nat.lt_of_lt_of_le hj hlow5.size)
   fun j _ hj=>step1 p.g p.gb b0 n s.bad j w5 (b0'.cell (i:=0) rfl) g3 hbad (hjn j hj))
  have k0:=b0'.cell (i:=0) rfl
  have kg:=hbd5.blk.cell (i:=0) rfl
  have hgl5:=hbd5.blk.lt
  have hb0l:=b0'.lt
  have hP5:=hP.call hlow5
  have kp:=hP5.cell (i:=2) rfl
  have hpl5:=hP5.lt
  have kr:=(hlow5.cell (p:=⟨b9,o9 + k,none⟩) hb9).trans cr9
  have hb95:b9 < w5.heap.size:=Nat.lt_of_lt_of_le hb9 hlow5.size
  obtain ⟨bv,hbv⟩:=at_lt (l:=s.bad) (k:=k) (by rw [h.size]; exact hkn)
  have cB:=hbd5.bad.cell (i:=k) (v:=.bool bv) (by rw [List.getElem?_map,hbv]; rfl)
  have fB:=hbd5.bad.frozen k
  have hgbl:=hbd5.bad.lt
  have hgbw:p.gb < w.heap.size:=h.bad.lt
  have kc2:=b2'.cell (i:=1) rfl
  have kf2:=b2'.frozen 1
  have hb2l:=b2'.lt
  have hBS:=Lib.hid hbd5.bad
  have hA0:=Lib.hid b0'
  have hA2:=Lib.hid b2'
  have hgne:¬ (p.gb=b0 + 2):=by omega
  have hgne':¬ (b0 + 2=p.gb):=by omega
  clear a0 a1 a2
  rcases Bool.eq_false_or_eq_true (rr.any (isOf s.bad)) with hnb | hnb
  ·-- missed
   rw [hnb] at HC
   have ho:=Lib.hid (HOu.out.trans (out_miss (by rw [hneed]; exact hnb)))
   go_wp2_with fail
   refine HC.out.mono ?_
   rintro e w6 ⟨rfl,h6⟩
   obtain rfl:w5=w6:=h6.symm
   clear hnb HC hbad hneed
   go_wp2
   go_region
   all_goals
    go_wp2_with fail
    go_meet
    exact (MidAt.marked h hb05 hbs ho.out hBS.out hA0.out hA2.out).later (Below.drew (fr_refl _))
  ·have HN:=Lib.hid (show (needAt (needsS l) k).any (isOf s.bad)=false by rw [hneed]; exact hnb)
   rw [hnb] at HC
   go_wp2_with fail
   refine HC.out.mono ?_
   rintro e w6 ⟨rfl,h6⟩
   obtain rfl:w5=w6:=h6.symm
   have hsL5:=hsL.more (fun k hk=>hk.2)
   clear hnb HC hbad hneed
   have r0:=a1'.cell (i:=0) rfl
   have r1:=a1'.cell (i:=1) rfl
   have r2:=a1'.cell (i:=2) rfl
   have r3:=a1'.cell (i:=3) rfl
   have r4:=a1'.cell (i:=4) rfl
   have r5:=a1'.cell (i:=5) rfl
   have r6:=a1'.cell (i:=6) rfl
   have r7:=a1'.cell (i:=7) rfl
   have hal:=a1'.lt
   cases kn
   ·-- nothing is known of it
    have HF:=Lib.hid (hma.new rfl)
    have HO:=HOu.out.trans (out_new HN.out HF.out)
    have hbq:=Below.refl w5.heap.size w5
    have c0':=hA0.out.call hbq
    have c1':=a1'.call hbq
    have c2':=hA2.out.call hbq
    have z1:=c1'.cell (i:=1) rfl
    have z2:=c1'.cell (i:=2) rfl
    have z3:=c1'.cell (i:=3) rfl
    have z4:=c1'.cell (i:=4) rfl
    have z5:=c1'.cell (i:=5) rfl
    have z6:=c1'.cell (i:=6) rfl
    have lz:=c1'.lt
    have hb0q:=fr_call hb05 hbq
    have hlowq:=hlow.trans (hb0q.mono hlow.size)
    have hFq:=sl_call hsL5 hbq (Nat.le_refl _)
    have haq:=hq.actAt hlowq
    have hEq:=hE.then_ hlowq
    have hzq:=hbq.size
    by_cases hbe:bothErr r'.action (inputsS s.have_ r')=0
    ·have HE:=Lib.hid (exec_new r'.action A1 n1 c1 A2 n2 c2 A3 n3 c3 A4 n4 c4 L nl cl (inputsS s.have_ r') w5 hEq haq hFq hbe)
     have HR:=Lib.hid (exec_mem2 (r:=r') hbe)
     have HBE:=Lib.hid hbe
     unfold actVal at HE
     clear hbe
     go_wp2_with fail
     refine HE.out.mono ?_
     rintro e w7 ⟨X1,x1,y1,X2,x2,y2,he,hres,hb7⟩
     unfold resVal at he
     subst he
     obtain ⟨R,hR⟩:∃ R,R=execS r'.action (inputsS s.have_ r'):=⟨_,rfl⟩
     rw [←hR] at hres HR ⊢
     have hz7:=hb7.size
     have d0':=c0'.call hb7
     have d1':=c1'.call hb7
     have d2':=c2'.call hb7
     have hb07:=fr_call hb0q hb7
     have hlow7:=hlow.trans (hb07.mono hlow.size)
     have z0:=d0'.cell (i:=0) rfl
     have v1:=d2'.cell (i:=1) rfl
     have v2:=d2'.cell (i:=2) rfl
     have u1:=d2'.frozen 1
     have u2:=d2'.frozen 2
     have l7:=d0'.lt
     have l7':=d2'.lt
     by_cases hcd:R.code=0
     ·have ho:=HO.trans (exec_ran HBE.out (by rw [←hR]; exact hcd))
      rw [←hR] at ho
      have ho:=Lib.hid ho
      have lq2:b0 + 2 < w5.heap.size:=c2'.lt
      have hbs2:w.heap.size≤b0 + 1 + 1:=by omega
      have hn02:¬ (b0=b0 + 1 + 1):=by omega
      have hl02:b0 + 1 + 1 < b0 + 3:=by omega
      have HRT:=Lib.hid (fun w8 (hk:Kp (fun j=>j < b0 + 3) w7 w8)=>res_off HX.out hb0q.size lq2 hk hres)
      have hnR:=Lib.hid (show R.files.length≤1000 from HR.out.2)
      have t1:=d1'.cell (i:=0) rfl
      have t2:=d1'.cell (i:=1) rfl
      have t3:=d1'.cell (i:=2) rfl
      have t4:=d1'.cell (i:=3) rfl
      have t5:=d1'.cell (i:=4) rfl
      have t6:=d1'.cell (i:=5) rfl
      have t7:=d1'.cell (i:=6) rfl
      have t8:=d1'.cell (i:=7) rfl
      have lt7:=d1'.lt
      have hcb:(R.code == 0)=true:=by simpa using hcd
      have hD2:=Lib.hid d2'
      have hD1:=Lib.hid d1'
      have hD0:=Lib.hid d0'
      clear z1 z2 z3 z4 z5 z6 c0' c1' c2' d0' d1' d2' hres hFq haq hR hcd
      go_wp2_with fail
      have hbT:=fr_alloc ((hb07.setCell (p:=⟨b0 + 1 + 1,1,none⟩) hbs2 (.int .i64 1)).setCell (p:=⟨b0 + 1 + 1,2,none⟩) hbs2 (.bool false)) (.cells #[.int .i64 R.code,.string R.text,.slice X1 x1 y1,.slice X2 x2 y2,.int .i64 R.command] 41)
      have hrT:=HRT.out _ ((((Kp.refl _ w7).set (p:=⟨b0 + 1 + 1,1,none⟩) hl02 (.int .i64 1)).set (p:=⟨b0 + 1 + 1,2,none⟩) hl02 (.bool false)).alloc (.cells #[.int .i64 R.code,.string R.text,.slice X1 x1 y1,.slice X2 x2 y2,.int .i64 R.command] 41))
      have aT0:=((hD0.out.other (p:=⟨b0 + 1 + 1,1,none⟩) hn02 (.int .i64 1)).other (p:=⟨b0 + 1 + 1,2,none⟩) hn02 (.bool false)).call (fr_alloc (fr_refl _) (.cells #[.int .i64 R.code,.string R.text,.slice X1 x1 y1,.slice X2 x2 y2,.int .i64 R.command] 41))
      have aT2:=((hD2.out.set 1 (.int .i64 1)).set 2 (.bool false)).call (fr_alloc (fr_refl _) (.cells #[.int .i64 R.code,.string R.text,.slice X1 x1 y1,.slice X2 x2 y2,.int .i64 R.command] 41))
      have HT:=steps_take W p n mem u (M + 1) s r' ⟨A1,n1,c1,A2,n2,c2,A3,n3,c3,A4,n4,c4,A5,n5,c5⟩ R X1 x1 y1 X2 x2 y2 _ hE ((h.call hbT).up (Nat.le_succ M)) hq hao hrT HR.out (by have:=hnR.out; have:=h.many.2.1; omega) (by have:=h.many.2.2; omega) (by omega)
      unfold resVal at HT
      refine HT.mono ?_
      rintro e w8 ⟨rfl,hbd8,hk8⟩
      go_wp2_with fail
      go_meet
      exact MidAt.took ho.out hbd8 hk8 (fun j hj=>by have:=HX.out j hj; omega) aT0 aT2
     ·have ho:=Lib.hid (HO.trans (exec_fail HBE.out (by rw [←hR]; exact hcd)))
      have hcb:(R.code == 0)=false:=by simpa using hcd
      clear hcd hR z1 z2 z3 z4 z5 z6
      have hbd7:=h.call hb07
      have t0:=hbd7.blk.cell (i:=3) rfl
      have lt7:=hbd7.blk.lt
      have tB:=hbd7.bad.cell (i:=k) (v:=.bool bv) (by rw [List.getElem?_map,hbv]; rfl)
      have tF:=hbd7.bad.frozen k
      have lB:=hbd7.bad.lt
      have hBS7:=Lib.hid hbd7.bad
      have hD2:=Lib.hid d2'
      have hD0:=Lib.hid d0'
      clear c0' c1' c2' d0' d1' d2' hres hFq haq
      go_wp2
      go_region
      all_goals
       go_wp2_with fail
       go_meet
       exact (MidAt.marked h hb07 hbs ho.out hBS7.out hD0.out hD2.out).later (fr_alloc (fr_refl _) _).drew
    ·have HE:=Lib.hid (exec_bad r'.action A1 n1 c1 A2 n2 c2 A3 n3 c3 A4 n4 c4 L nl cl (inputsS s.have_ r') w5 hEq haq hFq hbe)
     have HF2:=Lib.hid (HO.trans (exec_fault hbe))
     unfold actVal resVal noResult at HE
     obtain ⟨f,hf⟩:∃ f,f=bothErr r'.action (inputsS s.have_ r'):=⟨_,rfl⟩
     rw [←hf] at HE HF2 hbe
     have hfb:(f == 0)=false:=by simpa using hbe
     have HBE:=Lib.hid hbe
     clear hbe hf
     go_wp2_with fail
     refine HE.out.mono ?_
     rintro e w7 ⟨rfl,hb7⟩
     go_wp2
     go_ret
     exact ⟨by rw [HF2.out]; rfl,fun e=>absurd (by rw [HF2.out] at e; exact e) HBE.out,hlow.trans ((fr_alloc (fr_call hb0q hb7) _).mono hlow.size)⟩
   ·have HF:=Lib.hid (hma.known rfl)
    have HS:=Lib.hid (steps_stands r' A1 n1 c1 A2 n2 c2 A3 n3 c3 A4 n4 c4 A5 n5 c5 x B1 m1 d1 B2 m2 d2 B3 m3 d3 L nl cl (inputsS s.have_ r') w5 (hE.then_ hlow5) (hq.actAt hlow5) hao (sl_call (hma.looks.more fun _ hk=>hk.2) hb05 (Nat.le_refl _)) hsL5)
    unfold memVal at HS
    have y0:=a3'.cell (i:=0) rfl
    have y1:=a3'.cell (i:=1) rfl
    have y2:=a3'.cell (i:=2) rfl
    have y3:=a3'.cell (i:=3) rfl
    have y4:=a3'.cell (i:=4) rfl
    have y5:=a3'.cell (i:=5) rfl
    have y6:=a3'.cell (i:=6) rfl
    have y7:=a3'.cell (i:=7) rfl
    have ly:=a3'.lt
    obtain ⟨st,hst⟩:∃ st,st=memStands r' x (inputsS s.have_ r'):=⟨_,rfl⟩
    rw [←hst] at HS
    have HST:=Lib.hid hst
    clear hst
    go_wp2_with fail
    refine HS.out.mono ?_
    rintro e w6 ⟨rfl,hbq⟩
    have g1':=a1'.call hbq
    have g3':=a3'.call hbq
    have g2':=hA2.out.call hbq
    have g0':=hA0.out.call hbq
    clear y0 y1 y2 y3 y4 y5 y6 y7 k0 kg kp kr cB fB kc2 kf2 r0 r1 r2 r3 r4 r5 r6 r7
    cases st
    ·have HO:=HOu.out.trans (out_not HN.out HF.out HST.out.symm)
     have HG3:=Lib.hid g3'
     clear g0' g1' g2' g3'
     have c0':=hA0.out.call hbq
     have c1':=a1'.call hbq
     have c2':=hA2.out.call hbq
     have z1:=c1'.cell (i:=1) rfl
     have z2:=c1'.cell (i:=2) rfl
     have z3:=c1'.cell (i:=3) rfl
     have z4:=c1'.cell (i:=4) rfl
     have z5:=c1'.cell (i:=5) rfl
     have z6:=c1'.cell (i:=6) rfl
     have lz:=c1'.lt
     have hb0q:=fr_call hb05 hbq
     have hlowq:=hlow.trans (hb0q.mono hlow.size)
     have hFq:=sl_call hsL5 hbq (Nat.le_refl _)
     have haq:=hq.actAt hlowq
     have hEq:=hE.then_ hlowq
     have hzq:=hbq.size
     by_cases hbe:bothErr r'.action (inputsS s.have_ r')=0
     ·have HE:=Lib.hid (exec_new r'.action A1 n1 c1 A2 n2 c2 A3 n3 c3 A4 n4 c4 L nl cl (inputsS s.have_ r') w6 hEq haq hFq hbe)
      have HR:=Lib.hid (exec_mem2 (r:=r') hbe)
      have HBE:=Lib.hid hbe
      unfold actVal at HE
      clear hbe
      go_wp2_with fail
      refine HE.out.mono ?_
      rintro e w7 ⟨X1,x1,y1,X2,x2,y2,he,hres,hb7⟩
      unfold resVal at he
      subst he
      obtain ⟨R,hR⟩:∃ R,R=execS r'.action (inputsS s.have_ r'):=⟨_,rfl⟩
      rw [←hR] at hres HR ⊢
      have hz7:=hb7.size
      have d0':=c0'.call hb7
      have d1':=c1'.call hb7
      have d2':=c2'.call hb7
      have hb07:=fr_call hb0q hb7
      have hlow7:=hlow.trans (hb07.mono hlow.size)
      have z0:=d0'.cell (i:=0) rfl
      have v1:=d2'.cell (i:=1) rfl
      have v2:=d2'.cell (i:=2) rfl
      have u1:=d2'.frozen 1
      have u2:=d2'.frozen 2
      have l7:=d0'.lt
      have l7':=d2'.lt
      by_cases hcd:R.code=0
      ·have ho:=HO.trans (exec_ran HBE.out (by rw [←hR]; exact hcd))
       rw [←hR] at ho
       have ho:=Lib.hid ho
       have lq2:b0 + 2 < w6.heap.size:=c2'.lt
       have hbs2:w.heap.size≤b0 + 1 + 1:=by omega
       have hn02:¬ (b0=b0 + 1 + 1):=by omega
       have hl02:b0 + 1 + 1 < b0 + 3:=by omega
       have HRT:=Lib.hid (fun w8 (hk:Kp (fun j=>j < b0 + 3) w7 w8)=>res_off HX.out hb0q.size lq2 hk hres)
       have hnR:=Lib.hid (show R.files.length≤1000 from HR.out.2)
       have t1:=d1'.cell (i:=0) rfl
       have t2:=d1'.cell (i:=1) rfl
       have t3:=d1'.cell (i:=2) rfl
       have t4:=d1'.cell (i:=3) rfl
       have t5:=d1'.cell (i:=4) rfl
       have t6:=d1'.cell (i:=5) rfl
       have t7:=d1'.cell (i:=6) rfl
       have t8:=d1'.cell (i:=7) rfl
       have lt7:=d1'.lt
       have hcb:(R.code == 0)=true:=by simpa using hcd
       have hD2:=Lib.hid d2'
       have hD1:=Lib.hid d1'
       have hD0:=Lib.hid d0'
       clear z1 z2 z3 z4 z5 z6 c0' c1' c2' d0' d1' d2' hres hFq haq hR hcd
       have hg3:=HG3.out.call hb7
       have n5':=hg3.cell (i:=5) rfl
       have ln:=hg3.lt
       have hn12:¬ (b0 + 1=b0 + 1 + 1):=by omega
       have hbS:=fr_alloc (hb07.setCell (p:=⟨b0 + 1 + 1,1,none⟩) hbs2 (.int .i64 1)) (.cells #[.int .i64 R.code,.string R.text,.slice X1 x1 y1,.slice X2 x2 y2,.int .i64 R.command] 41)
       have hkS:=((Kp.refl (fun j=>j < b0 + 3) w7).set (p:=⟨b0 + 1 + 1,1,none⟩) hl02 (.int .i64 1)).alloc (.cells #[.int .i64 R.code,.string R.text,.slice X1 x1 y1,.slice X2 x2 y2,.int .i64 R.command] 41)
       have HQ:=Lib.hid (steps_sameFiles B2 m2 d2 x.result.files X1 x1 y1 R.files _ (sl_call (hma.res.files.more fun _ hk=>hk.2) hbS (Nat.le_refl _)) ((HRT.out _ hkS).files.more fun _ hk=>hk.2))
       obtain ⟨ea,hea⟩:∃ ea,ea=sameFsS x.result.files R.files:=⟨_,rfl⟩
       rw [←hea] at HQ
       have ho:=Lib.hid (ho.out.trans (by rw [show ((some x:Option MemoryV).any fun y=>sameFsS y.result.files R.files)=sameFsS x.result.files R.files from rfl,←hea]:_=(⟨1,ea,some R,0⟩:OutV)))
       clear hea
       have r7':Arr ((w7.setCell ⟨b0 + 1 + 1,1,none⟩ (.int .i64 1)).alloc (.cells #[.int .i64 R.code,.string R.text,.slice X1 x1 y1,.slice X2 x2 y2,.int .i64 R.command] 41)) w7.heap.size 41 [.int .i64 R.code,.string R.text,.slice X1 x1 y1,.slice X2 x2 y2,.int .i64 R.command]:=by
        have:=res_box (w7.setCell ⟨b0 + 1 + 1,1,none⟩ (.int .i64 1)) R X1 x1 y1 X2 x2 y2
        rwa [size_setCell'] at this
       have d0'':=((hD0.out.other (p:=⟨b0 + 1 + 1,1,none⟩) hn02 (.int .i64 1))).call (fr_alloc (fr_refl _) (.cells #[.int .i64 R.code,.string R.text,.slice X1 x1 y1,.slice X2 x2 y2,.int .i64 R.command] 41))
       have d1'':=((hD1.out.other (p:=⟨b0 + 1 + 1,1,none⟩) hn12 (.int .i64 1))).call (fr_alloc (fr_refl _) (.cells #[.int .i64 R.code,.string R.text,.slice X1 x1 y1,.slice X2 x2 y2,.int .i64 R.command] 41))
       have d2'':=(hD2.out.set 1 (.int .i64 1)).call (fr_alloc (fr_refl _) (.cells #[.int .i64 R.code,.string R.text,.slice X1 x1 y1,.slice X2 x2 y2,.int .i64 R.command] 41))
       have HD:=Lib.hid (And.intro r7' (And.intro d0'' (And.intro d1'' d2'')))
       clear r7' d0'' d1'' d2'' hg3 t1 t2 t3 t4 t5 t6 t7 t8 lt7
       go_wp2_with fail
       refine HQ.out.mono ?_
       rintro e w9 ⟨rfl,hb9⟩
       obtain ⟨r7',d0'',d1'',d2''⟩:=HD.out
       have r9:=r7'.call hb9
       have d0':=d0''.call hb9
       have d1':=d1''.call hb9
       have d2':=d2''.call hb9
       have z0:=d0'.cell (i:=0) rfl
       have t1:=d1'.cell (i:=0) rfl
       have t2:=d1'.cell (i:=1) rfl
       have t3:=d1'.cell (i:=2) rfl
       have t4:=d1'.cell (i:=3) rfl
       have t5:=d1'.cell (i:=4) rfl
       have t6:=d1'.cell (i:=5) rfl
       have t7:=d1'.cell (i:=6) rfl
       have t8:=d1'.cell (i:=7) rfl
       have p1:=r9.cell (i:=0) rfl
       have p2:=r9.cell (i:=1) rfl
       have p3:=r9.cell (i:=2) rfl
       have p4:=r9.cell (i:=3) rfl
       have p5:=r9.cell (i:=4) rfl
       have v2:=d2'.cell (i:=2) rfl
       have u2:=d2'.frozen 2
       have lt0:=d0'.lt
       have lt1:=d1'.lt
       have lt2:=d2'.lt
       have lt9:=r9.lt
       have hbT:=(fr_call hbS hb9).setCell (p:=⟨b0 + 1 + 1,2,none⟩) hbs2 (.bool ea)
       have hrT:=HRT.out _ ((hkS.call hb9).set (p:=⟨b0 + 1 + 1,2,none⟩) hl02 (.bool ea))
       have aT0:=d0'.other (p:=⟨b0 + 1 + 1,2,none⟩) hn02 (.bool ea)
       have aT2:=d2'.set 2 (.bool ea)
       clear r9 d0' d1' d2' r7' d0'' d1'' d2''
       go_wp2_with fail
       have HT:=steps_take W p n mem u (M + 1) s r' ⟨A1,n1,c1,A2,n2,c2,A3,n3,c3,A4,n4,c4,A5,n5,c5⟩ R X1 x1 y1 X2 x2 y2 _ hE ((h.call hbT).up (Nat.le_succ M)) hq hao hrT HR.out (by have:=hnR.out; have:=h.many.2.1; omega) (by have:=h.many.2.2; omega) (by omega)
       unfold resVal at HT
       refine HT.mono ?_
       rintro e w8 ⟨rfl,hbd8,hk8⟩
       go_wp2_with fail
       go_meet
       exact MidAt.took ho.out hbd8 hk8 (fun j hj=>by have:=HX.out j hj; omega) aT0 aT2
      ·have ho:=Lib.hid (HO.trans (exec_fail HBE.out (by rw [←hR]; exact hcd)))
       have hcb:(R.code == 0)=false:=by simpa using hcd
       clear hcd hR z1 z2 z3 z4 z5 z6
       have hbd7:=h.call hb07
       have t0:=hbd7.blk.cell (i:=3) rfl
       have lt7:=hbd7.blk.lt
       have tB:=hbd7.bad.cell (i:=k) (v:=.bool bv) (by rw [List.getElem?_map,hbv]; rfl)
       have tF:=hbd7.bad.frozen k
       have lB:=hbd7.bad.lt
       have hBS7:=Lib.hid hbd7.bad
       have hD2:=Lib.hid d2'
       have hD0:=Lib.hid d0'
       clear c0' c1' c2' d0' d1' d2' hres hFq haq
       go_wp2
       go_region
       all_goals
        go_wp2_with fail
        go_meet
        exact (MidAt.marked h hb07 hbs ho.out hBS7.out hD0.out hD2.out).later (fr_alloc (fr_refl _) _).drew
     ·have HE:=Lib.hid (exec_bad r'.action A1 n1 c1 A2 n2 c2 A3 n3 c3 A4 n4 c4 L nl cl (inputsS s.have_ r') w6 hEq haq hFq hbe)
      have HF2:=Lib.hid (HO.trans (exec_fault hbe))
      unfold actVal resVal noResult at HE
      obtain ⟨f,hf⟩:∃ f,f=bothErr r'.action (inputsS s.have_ r'):=⟨_,rfl⟩
      rw [←hf] at HE HF2 hbe
      have hfb:(f == 0)=false:=by simpa using hbe
      have HBE:=Lib.hid hbe
      clear hbe hf
      go_wp2_with fail
      refine HE.out.mono ?_
      rintro e w7 ⟨rfl,hb7⟩
      go_wp2
      go_ret
      exact ⟨by rw [HF2.out]; rfl,fun e=>absurd (by rw [HF2.out] at e; exact e) HBE.out,hlow.trans ((fr_alloc (fr_call hb0q hb7) _).mono hlow.size)⟩
    ·have ho:=Lib.hid (HOu.out.trans (out_same HN.out HF.out HST.out.symm))
     have y0:=g1'.cell (i:=0) rfl
     have y1:=g1'.cell (i:=1) rfl
     have y2:=g1'.cell (i:=2) rfl
     have y3:=g1'.cell (i:=3) rfl
     have y4:=g1'.cell (i:=4) rfl
     have y5:=g1'.cell (i:=5) rfl
     have y6:=g1'.cell (i:=6) rfl
     have y7:=g1'.cell (i:=7) rfl
     have ly:=g1'.lt
     have q3:=g3'.cell (i:=3) rfl
     have q4:=g3'.cell (i:=4) rfl
     have q5:=g3'.cell (i:=5) rfl
     have q6:=g3'.cell (i:=6) rfl
     have q7:=g3'.cell (i:=7) rfl
     have lq:=g3'.lt
     have i0:=g0'.cell (i:=0) rfl
     have li:=g0'.lt
     have i1:=g2'.cell (i:=1) rfl
     have i2:=g2'.frozen 1
     have li2:=g2'.lt
     have hD2:=Lib.hid g2'
     have hD0:=Lib.hid g0'
     have hb06:=fr_call hb05 hbq
     clear g0' g1' g2' g3'
     go_wp2_with fail
     have hbs2:w.heap.size≤b0 + 1 + 1:=by omega
     have hn02:¬ (b0=b0 + 1 + 1):=by omega
     have hbT:=hb06.setCell (p:=⟨b0 + 1 + 1,1,none⟩) hbs2 (.int .i64 2)
     have hrT:=res_call hbT hma.res
     have aT0:=hD0.out.other (p:=⟨b0 + 1 + 1,1,none⟩) hn02 (.int .i64 2)
     have aT2:=hD2.out.set 1 (.int .i64 2)
     have hx2:=hok x (findM_some HF.out).1
     have HR:=Lib.hid (show Mem2 (memOf r' x.result) from mem2_of hx2.1.2.2.1 hx2.2 hx2.1.2.2.2)
     have hnR:=Lib.hid (show x.result.files.length≤1000 from hx2.2)
     have HT:=steps_take W p n mem u (M + 1) s r' ⟨A1,n1,c1,A2,n2,c2,A3,n3,c3,A4,n4,c4,A5,n5,c5⟩ x.result B2 m2 d2 B3 m3 d3 _ hE ((h.call hbT).up (Nat.le_succ M)) hq hao hrT HR.out (by have:=hnR.out; have:=h.many.2.1; omega) (by have:=h.many.2.2; omega) (by omega)
     unfold resVal at HT
     refine HT.mono ?_
     rintro e w8 ⟨rfl,hbd8,hk8⟩
     go_wp2_with fail
     go_meet
     exact MidAt.took ho.out hbd8 hk8 (fun j hj=>by have:=HX.out j hj; omega) aT0 aT2
 case rest =>
  have hM1:s.steps.length + 1≤M + 1:=by have:=h.many.1; omega
  have hwI:InInt ou.what:=by rw [HOu.out]; exact outS_int ..
  obtain ⟨hf0,hbd,ha0,ha2⟩:=hcut
  obtain ⟨i0,hi0,hz0,hz1,hz2⟩:=info_parts step_info
  obtain ⟨_,rows,hrows,hown,hrep⟩:=id hbd.steps
  have hgo:∀ o,Below wc.heap.size wc (wc.alloc o).drew:=fun o=>(fr_alloc (fr_refl wc) o).drew
  have hob:u.ownBlock≠some b0:=fun e=>by have:=HX.out b0 (.inr (.inr (.inr (.inr (.inr e))))); omega
  have HJ:=Lib.hid (fun o w9 g' cap (hgrow:(wc.alloc o).drew.grownBy w9 u.ownBlock) hat hown'=>And.intro ((ha0.call (hgo o)).keep (hgrow.block _ (ha0.call (hgo o)).lt fun e=>hob e.symm)) (And.intro (Bd.stepped (w3:=w9) (g9:=g') (cap:=cap) (x:=⟨r'.name,ou.what,ou.early⟩) hbd hM1 (hgo o) ⟨z1,hwI⟩ hrows (fun i y r hy hr=>hrep i y r hy hr) hgrow hat hown') ((hbd.blk.call (hgo o)).keep (hgrow.block _ (hbd.blk.call (hgo o)).lt fun e=>hbd.dif.g.2.2.2.2.2 e.symm))))
  have H9:=Lib.hid (fun o=>show ((wc.alloc o).drew).ownsRow W.heap.size 46 3 u s.steps.length rows.flatten from hown.alloc o)
  have H63:=Lib.hid (show s.steps.length + 1≤maxLen by unfold maxLen; omega)
  have H48:=Lib.hid (show (s.steps.length + 1) * 32≤140737488355328 by omega)
  have HB9:=Lib.hid (fun o=>show W.heap.size≤(wc.alloc o).drew.heap.size from by have:=hbd.low.size; simp; omega)
  have HF:=Lib.hid hf0
  have v0:=ha0.cell (i:=0) rfl
  have v1:=ha2.cell (i:=0) rfl
  have v2:=ha2.cell (i:=1) rfl
  have v3:=ha2.cell (i:=2) rfl
  have v4:=hbd.blk.cell (i:=4) rfl
  have l0:=ha0.lt
  have l2:=ha2.lt
  have l4:=hbd.blk.lt
  clear hf0 hbd ha0 ha2 hrows hown hrep hgo
  clear h hma hlow hmlt hP hof hnd hd1 hd2 hn9 hc9 hrow9 cr9 hb9 hjn hneed hrr p0 hpgl hbw HX hq hrok hao hin hb3 hbd3 a0 a1 a2 hsl hbl hr hok hc0 hE hb05 hb35 hb5 hb4 hb34 a3' hsL hL1 hL2 hbs hb3s s1 s2 s3 s4 s5
  go_wp2
  (go_region_law (first
    | (refine step_append_lies _ rfl _ _ 25 rfl W.heap.size 46 i0 _ 3 32 Tryz.underlying25 hi0 hz0 hz1 hz2 rfl (by decide) _ s.steps.length _ rfl (H9.out _) ⟨wc.heap.size,0,none⟩ 1 1 [.string r'.name,.int .i64 ou.what,.bool ou.early] rfl rfl (new_cells_d wc #[_,_,_] _) (three_ones rfl rfl rfl) (by decide) H63.out H48.out (HB9.out _) _ rfl ?_
       intro g' cap w9 hown' hgrow hat hlt'
       obtain ⟨hC9,hB9,hA9⟩:=HJ.out _ _ _ _ hgrow (hat.imp (fun e=>e) fun e=>Nat.le_of_eq e.symm) hown'
       have HB:=Lib.hid hB9
       have u4:=hA9.cell (i:=4) rfl
       have uf:=hA9.frozen 4
       have ul:=hA9.lt
       have u0:=hC9.cell (i:=0) rfl
       have ul0:=hC9.lt
       clear hC9 hB9 hA9 hown' hgrow hat)))
  all_goals
   go_wp2
   go_ret
   exact ⟨by rw [HF.out]; rfl,fun _=>⟨_,HB.out⟩,HB.out.low⟩
end Go.Proofs.Sm
namespace Go.Proofs.Sm
open Go.RowKit Go.Maps
theorem bool_info8:(Tryz.prog.info? 4).map (fun i=>(i.zero,i.size,i.bytes))=some (some (.bool false),1,1):=by kernel_rfl
theorem make_bools (L:Nat) (hL:L≤1000) (W:World):(Instr.makeSlice 99 (.int .i64 (L:Int)) (.int .i64 (L:Int))).run Tryz.prog W=.ok (.slice (some ⟨W.heap.size,0,none⟩) L L) (W.alloc (.cells (List.replicate L (Value.bool false)).toArray 4)):=by
 obtain ⟨i0,hi0,hz0,hz1,hz2⟩:=info_parts bool_info8
 have h:=run_make (P:=Tryz.prog) W 99 4 i0 _ Tryz.underlying99 hi0 hz0 .i64 .i64 (L:Int) (L:Int) (by omega) (by omega) (by rw [hz2]; omega) (by omega)
 rw [hz1] at h
 rw [h,←made_cells]
 simp [Value.cells]
theorem bd_start (W:World) (gp n:Nat) :
 Bd W (((((W.alloc (.map #[] 0)).alloc (.map #[] 0)).alloc (.cells (List.replicate n (Value.bool false)).toArray 4)).alloc (.map #[] 0)).alloc (.cells #[.pointer (some ⟨gp,0,none⟩),.map (some W.heap.size),.map (some (W.heap.size + 1)),.slice (some ⟨W.heap.size + 1 + 1,0,none⟩) n n,.slice none 0 0,.slice none 0 0,.slice none 0 0,.map (some (W.heap.size + 1 + 1 + 1))] 101)) ⟨W.heap.size + 1 + 1 + 1 + 1,gp,W.heap.size,W.heap.size + 1,W.heap.size + 1 + 1,W.heap.size + 1 + 1 + 1,.slice none 0 0,.slice none 0 0⟩ n [] (.slice none 0 0) 0 ⟨[],List.replicate n false,[],[]⟩:=by
 have f1:=fun o:Obj=>fr_alloc (fr_refl W) o
 have m0:MapIs Tryz.prog 9 (W.alloc (.map #[] 0)) W.heap.size 0 (fun _=>none):=MapIs.made W
 have m1:MapIs Tryz.prog 9 ((W.alloc (.map #[] 0)).alloc (.map #[] 0)) (W.heap.size + 1) 0 (fun _=>none):=by
  have:=MapIs.made (P:=Tryz.prog) (k:=9) (W.alloc (.map #[] 0))
  rwa [World.size_alloc] at this
 have b2:Arr (((W.alloc (.map #[] 0)).alloc (.map #[] 0)).alloc (.cells (List.replicate n (Value.bool false)).toArray 4)) (W.heap.size + 1 + 1) 4 (List.replicate n (Value.bool false)):=by
  have:Arr (((W.alloc (.map #[] 0)).alloc (.map #[] 0)).alloc (.cells (List.replicate n (Value.bool false)).toArray 4)) _ 4 (List.replicate n (Value.bool false)):=heap_alloc_new _ _
  rwa [World.size_alloc,World.size_alloc] at this
 have m3:MapIs Tryz.prog 9 ((((W.alloc (.map #[] 0)).alloc (.map #[] 0)).alloc (.cells (List.replicate n (Value.bool false)).toArray 4)).alloc (.map #[] 0)) (W.heap.size + 1 + 1 + 1) 0 (fun _=>none):=by
  have:=MapIs.made (P:=Tryz.prog) (k:=9) (((W.alloc (.map #[] 0)).alloc (.map #[] 0)).alloc (.cells (List.replicate n (Value.bool false)).toArray 4))
  rwa [World.size_alloc,World.size_alloc,World.size_alloc] at this
 have b4:Arr (((((W.alloc (.map #[] 0)).alloc (.map #[] 0)).alloc (.cells (List.replicate n (Value.bool false)).toArray 4)).alloc (.map #[] 0)).alloc (.cells #[.pointer (some ⟨gp,0,none⟩),.map (some W.heap.size),.map (some (W.heap.size + 1)),.slice (some ⟨W.heap.size + 1 + 1,0,none⟩) n n,.slice none 0 0,.slice none 0 0,.slice none 0 0,.map (some (W.heap.size + 1 + 1 + 1))] 101)) (W.heap.size + 1 + 1 + 1 + 1) 101 (bdCells ⟨W.heap.size + 1 + 1 + 1 + 1,gp,W.heap.size,W.heap.size + 1,W.heap.size + 1 + 1,W.heap.size + 1 + 1 + 1,.slice none 0 0,.slice none 0 0⟩ n (.slice none 0 0)):=by
  have:Arr (((((W.alloc (.map #[] 0)).alloc (.map #[] 0)).alloc (.cells (List.replicate n (Value.bool false)).toArray 4)).alloc (.map #[] 0)).alloc (.cells #[.pointer (some ⟨gp,0,none⟩),.map (some W.heap.size),.map (some (W.heap.size + 1)),.slice (some ⟨W.heap.size + 1 + 1,0,none⟩) n n,.slice none 0 0,.slice none 0 0,.slice none 0 0,.map (some (W.heap.size + 1 + 1 + 1))] 101)) _ 101 [.pointer (some ⟨gp,0,none⟩),.map (some W.heap.size),.map (some (W.heap.size + 1)),.slice (some ⟨W.heap.size + 1 + 1,0,none⟩) n n,.slice none 0 0,.slice none 0 0,.slice none 0 0,.map (some (W.heap.size + 1 + 1 + 1))]:=heap_alloc_new _ _
  rwa [World.size_alloc,World.size_alloc,World.size_alloc,World.size_alloc] at this
 refine ⟨fr_alloc (fr_alloc (fr_alloc (fr_alloc (fr_alloc (fr_refl W) _) _) _) _) _,b4,
  ⟨_,m0.call (fr_alloc (fr_alloc (fr_alloc (fr_alloc (fr_refl _) _) _) _) _),fun key=>by simp [keyF]⟩,
  ⟨0,by omega,_,m1.call (fr_alloc (fr_alloc (fr_alloc (fr_refl _) _) _) _),fun key=>by simp [keyM,findBy]⟩,?_,
  ⟨_,m3.call (fr_alloc (fr_refl _) _),fun key=>by simp [keyM,findBy]⟩,RowK.nil,?_,List.Pairwise.nil,List.Pairwise.nil,fun _ h=>absurd h List.not_mem_nil,fun _ h=>absurd h List.not_mem_nil,by simp,by simp⟩
 ·rw [List.map_replicate]
  exact b2.call (fr_alloc (fr_alloc (fr_refl _) _) _)
 ·exact ⟨⟨by simp only; omega,by simp only; omega,by simp only; omega,by simp only; omega,by simp only; omega,by simp [Value.ownBlock]⟩,⟨by simp only; omega,by simp only; omega,by simp only; omega,by simp only; omega,by simp [Value.ownBlock]⟩,⟨by simp only; omega,by simp only; omega,by simp only; omega,by simp [Value.ownBlock]⟩,⟨by simp only; omega,by simp only; omega,by simp [Value.ownBlock]⟩,⟨by simp only; omega,by simp [Value.ownBlock]⟩⟩
end Go.Proofs.Sm
