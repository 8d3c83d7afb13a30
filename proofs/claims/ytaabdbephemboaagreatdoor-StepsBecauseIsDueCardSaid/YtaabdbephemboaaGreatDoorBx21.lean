/- Words and walks that the claims share, part 21. -/
import Derived.Test.YtaabdbephemboaaGreatDoorBx5
import Derived.Test.YtaabdbephemboaaGreatDoorBx6
import Derived.Test.YtaabdbephemboaaGreatDoorBx9
import Derived.Test.YtaabdbephemboaaGreatDoorBx10
import Derived.Test.YtaabdbephemboaaGreatDoorBx15
import Derived.Test.YtaabdbephemboaaGreatDoorBx20
import Derived.Deep.RegionLaw
namespace Go.Proofs.Sm
open Go.RowKit
theorem data_toList (x:ByteArray):x.toList=x.data.toList:=Lib.toList_data x
theorem join_len (m:Nat):∀ l:List ByteArray,(∀ x∈l,x.size≤m)→(joinS l).length≤l.length * (m + 1)
 | [],_=>by simp [joinS,Lib.join,List.intercalate]
 | [x],h=>by
   have h1:=h x (by simp)
   have h2:=h1
   rw [Lib.size_eq] at h2
   simp [joinS,Lib.join,List.intercalate]
   omega
 | x :: y :: l,h=>by
   have h1:=h x (by simp)
   have h2:=join_len m (y :: l) fun z hz=>h z (by simp [hz])
   rw [Lib.size_eq] at h1
   simp only [joinS,Lib.join,List.intercalate,List.map_cons,List.intersperse,List.flatten_cons,List.length_append,List.length_cons,List.length_nil,Nat.succ_mul] at *
   omega
set_option maxHeartbeats 2000000 in
set_option maxRecDepth 100000 in
theorem do_tell (S:Nat→Prop) (B g mi mw ml:Nat) (q:ActP) (a:ActionV) (F:List FileV) (M:Nat) (s:ExSt) (A:Option Addr) (n cc:Nat) (c:List ByteArray) (w:World) (hM:M + 100≤100000) (h:Wk w S B g mi mw ml q a F M s) (hsl:Sl w (Lt B) A n c) (hnc:n≤cc) (hcm:cc≤maxLen) (hc:checkCommandS c=0) (hw:(wordAt c 0).data.toList=[116,101,108,108]):Calls Tryz.prog 185 #[.pointer (some ⟨g,0,none⟩),.slice A n cc] w (DoPost B g mi mw ml q a F (M + 100) (doE a c F s) w):=by
 obtain ⟨_,_,_⟩:=And.intro hM (And.intro hnc hcm)
 have hn:=hsl.1
 have hl2:=(command_form hc).1
 have hws:=cmd_isWords hc
 obtain ⟨kinds,more,hf,hkl,_,hfit⟩:=(command_form hc).2
 rw [hw] at hf
 cases hf
 simp only [List.length_cons,List.length_nil] at hkl
 obtain ⟨b,o,x0,rfl,hb,hx0,hx0s,k0⟩:=hsl.str (k:=0) (by omega)
 rw [Nat.add_zero] at k0
 obtain rfl:=word_bytes ((congrArg (fun x:ByteArray=>x.data.toList) (word_at hx0).symm).trans hw)
 have HE:=Lib.hid (show doE a c F s=tellE (c.drop 1) F s by unfold doE; rw [hw]; rfl)
 obtain ⟨A2,c2,hcut,h21,h22,hs2⟩:=from_str (k:=1) hsl (by omega) hnc hcm (by omega)
 change ∀ W,(Instr.slice 24 (.slice (some ⟨b,o,none⟩) n cc) (some (.int .i64 1)) none none).run Tryz.prog W=_ at hcut
 have hj:=join_len 300 (c.drop 1) fun x hx=>(word_size (hws x (List.mem_of_mem_drop hx))).2
 rw [List.length_drop,hn] at hj
 have hj2:(n - 1) * (300 + 1)≤50 * 301:=Nat.mul_le_mul_right _ (by omega)
 have HJ:=Lib.hid (act_tell S B g mi mw ml q a F M s A2 (n - 1) c2 (c.drop 1) w (by omega) h21 h hs2 (fun x hx=>hws x (List.mem_of_mem_drop hx)) (by omega))
 obtain ⟨z,hz⟩:∃ z,tellE (c.drop 1) F s=z:=⟨_,rfl⟩
 rw [hz] at HE HJ
 clear h hsl hs2 hw hx0 hfit hz hj
 go_enter Tryz.func185,Tryz.ntmps185
 go_wp2_with fail
 refine HJ.out.mono ?_
 rintro e w1 ⟨hk,hW,rfl⟩
 have HEnd:=Lib.hid (fun w' (hb:Below w1.heap.size w1 w')=>DoPost.mk_ (w':=w') (r:=doE a c F s) (z:=z.1) (s':=z.2) HE.out hk (hW.up (show M≤M + 100 by omega)) hb)
 clear hk hW HJ
 go_wp2
 go_ret
 exact HEnd.out _ (by repeat (first | exact fr_refl _ | refine fr_call ?_ (by assumption) | refine fr_alloc ?_ _ | refine fr_set ?_ (by simp) _ | refine Below.drew ?_ | refine below_drewN ?_ _))
set_option maxHeartbeats 2000000 in
set_option maxRecDepth 100000 in
theorem do_need (S:Nat→Prop) (B g mi mw ml:Nat) (q:ActP) (a:ActionV) (F:List FileV) (M:Nat) (s:ExSt) (A:Option Addr) (n cc:Nat) (c:List ByteArray) (w:World) (hM:M + 100≤100000) (h:Wk w S B g mi mw ml q a F M s) (hsl:Sl w (Lt B) A n c) (hnc:n≤cc) (hcm:cc≤maxLen) (hc:checkCommandS c=0) (hw:(wordAt c 0).data.toList=[110,101,101,100]):Calls Tryz.prog 185 #[.pointer (some ⟨g,0,none⟩),.slice A n cc] w (DoPost B g mi mw ml q a F (M + 100) (doE a c F s) w):=by
 obtain ⟨_,_,_⟩:=And.intro hM (And.intro hnc hcm)
 have hn:=hsl.1
 have hl2:=(command_form hc).1
 have hws:=cmd_isWords hc
 obtain ⟨kinds,more,hf,hkl,_,hfit⟩:=(command_form hc).2
 rw [hw] at hf
 cases hf
 simp only [List.length_cons,List.length_nil] at hkl
 obtain ⟨b,o,x0,rfl,hb,hx0,hx0s,k0⟩:=hsl.str (k:=0) (by omega)
 rw [Nat.add_zero] at k0
 obtain rfl:=word_bytes ((congrArg (fun x:ByteArray=>x.data.toList) (word_at hx0).symm).trans hw)
 obtain ⟨_,_,x1,e1,_,hx1,hx1s,k1⟩:=hsl.str (k:=1) (by omega)
 cases e1
 have HE:=Lib.hid (show doE a c F s=((readE x1 F s).1.2,(readE x1 F s).2) by unfold doE; rw [hw,word_at hx1]; rfl)
 have HJ:=Lib.hid (act_read S B g mi mw ml q a F M s x1 w hx1s (by omega) h)
 have hcl:=codeN_le (readE x1 F s).1.2
 clear h hsl hw hx0 hfit hx1
 go_enter Tryz.func185,Tryz.ntmps185
 go_wp2_with fail
 refine HJ.out.mono ?_
 rintro e w1 ⟨hk,hW,A1,n1,c1,rfl,h11,h12,h13⟩
 have HEnd:=Lib.hid (fun w' (hb:Below w1.heap.size w1 w')=>DoPost.mk_ (w':=w') (r:=doE a c F s) HE.out (kp_do hk) (hW.up (show _≤M + 100 by omega)) hb)
 clear hk hW HJ h13
 go_wp2
 go_ret
 exact HEnd.out _ (by repeat (first | exact fr_refl _ | refine fr_call ?_ (by assumption) | refine fr_alloc ?_ _ | refine fr_set ?_ (by simp) _ | refine Below.drew ?_ | refine below_drewN ?_ _))
set_option maxHeartbeats 2000000 in
set_option maxRecDepth 100000 in
theorem do_fail (S:Nat→Prop) (B g mi mw ml:Nat) (q:ActP) (a:ActionV) (F:List FileV) (M:Nat) (s:ExSt) (A:Option Addr) (n cc:Nat) (c:List ByteArray) (w:World) (hM:M + 100≤100000) (h:Wk w S B g mi mw ml q a F M s) (hsl:Sl w (Lt B) A n c) (hnc:n≤cc) (hcm:cc≤maxLen) (hc:checkCommandS c=0) (hw:(wordAt c 0).data.toList=[102,97,105,108]):Calls Tryz.prog 185 #[.pointer (some ⟨g,0,none⟩),.slice A n cc] w (DoPost B g mi mw ml q a F (M + 100) (doE a c F s) w):=by
 obtain ⟨_,_,_⟩:=And.intro hM (And.intro hnc hcm)
 have hn:=hsl.1
 have hl2:=(command_form hc).1
 have hws:=cmd_isWords hc
 obtain ⟨kinds,more,hf,hkl,_,hfit⟩:=(command_form hc).2
 rw [hw] at hf
 cases hf
 simp only [List.length_cons,List.length_nil] at hkl
 obtain ⟨b,o,x0,rfl,hb,hx0,hx0s,k0⟩:=hsl.str (k:=0) (by omega)
 rw [Nat.add_zero] at k0
 obtain rfl:=word_bytes ((congrArg (fun x:ByteArray=>x.data.toList) (word_at hx0).symm).trans hw)
 obtain ⟨_,_,x1,e1,_,hx1,hx1s,k1⟩:=hsl.str (k:=1) (by omega)
 cases e1
 have hnum:isNumberS x1 6=true:=hfit 0 x1 hx1
 have HE:=Lib.hid (show doE a c F s=((numS x1:Int),s) by unfold doE; rw [hw,word_at hx1]; rfl)
 have HJ:=Lib.hid (atoi_any x1 6 w hnum (by decide))
 have HEnd:=Lib.hid (fun w' (hb:Below w.heap.size w w')=>DoPost.mk_ (w':=w') (r:=doE a c F s) HE.out (Kp.refl (fun k=>k=g∨k=mw∨k=ml) w) (h.up (show _≤M + 100 by omega)) hb)
 clear h hsl hw hx0 hfit hx1 hnum
 go_enter Tryz.func185,Tryz.ntmps185
 go_wp2_with fail
 refine HJ.out.mono ?_
 rintro e w1 ⟨rfl,hb1⟩
 go_wp2
 go_ret
 exact HEnd.out _ (by repeat (first | exact fr_refl _ | refine fr_call ?_ (by assumption) | refine fr_alloc ?_ _ | refine fr_set ?_ (by simp) _ | refine Below.drew ?_ | refine below_drewN ?_ _))
set_option maxHeartbeats 2000000 in
set_option maxRecDepth 100000 in
theorem do_same (S:Nat→Prop) (B g mi mw ml:Nat) (q:ActP) (a:ActionV) (F:List FileV) (M:Nat) (s:ExSt) (A:Option Addr) (n cc:Nat) (c:List ByteArray) (w:World) (hM:M + 100≤100000) (h:Wk w S B g mi mw ml q a F M s) (hsl:Sl w (Lt B) A n c) (hnc:n≤cc) (hcm:cc≤maxLen) (hc:checkCommandS c=0) (hw:(wordAt c 0).data.toList=[115,97,109,101]):Calls Tryz.prog 185 #[.pointer (some ⟨g,0,none⟩),.slice A n cc] w (DoPost B g mi mw ml q a F (M + 100) (doE a c F s) w):=by
 obtain ⟨_,_,_⟩:=And.intro hM (And.intro hnc hcm)
 have hn:=hsl.1
 have hl2:=(command_form hc).1
 have hws:=cmd_isWords hc
 obtain ⟨kinds,more,hf,hkl,_,hfit⟩:=(command_form hc).2
 rw [hw] at hf
 cases hf
 simp only [List.length_cons,List.length_nil] at hkl
 obtain ⟨b,o,x0,rfl,hb,hx0,hx0s,k0⟩:=hsl.str (k:=0) (by omega)
 rw [Nat.add_zero] at k0
 obtain rfl:=word_bytes ((congrArg (fun x:ByteArray=>x.data.toList) (word_at hx0).symm).trans hw)
 obtain ⟨_,_,x1,e1,_,hx1,hx1s,k1⟩:=hsl.str (k:=1) (by omega)
 cases e1
 obtain ⟨_,_,x2,e1,_,hx2,hx2s,k2⟩:=hsl.str (k:=2) (by omega)
 cases e1
 have HE:=Lib.hid (show doE a c F s=sameE x1 x2 F s by unfold doE; rw [hw,word_at hx1,word_at hx2]; rfl)
 have hbd:=(fr_refl w).drew
 have HJ:=Lib.hid (act_same S B g mi mw ml q a F M s x1 x2 w.drew hx1s hx2s (by omega) (h.call hbd))
 have HBd:=Lib.hid hbd
 have hI1:(1:Int) < (n:Int):=by omega
 have hI2:(2:Int) < (n:Int):=by omega
 clear h hsl hw hx0 hfit hx1 hx2 hbd
 go_enter Tryz.func185,Tryz.ntmps185
 go_wp2
 go_region_law (first | (go_simp; go_at_call 221; refine HJ.out.mono ?_; rintro e w1 ⟨hk,hW,rfl⟩))
 all_goals
  have HEnd:=Lib.hid (fun w' (hb:Below w1.heap.size w1 w')=>DoPost.mk_ (w':=w') (r:=doE a c F s) (HE.out.trans rfl) ((Kp.of HBd.out).trans hk) (hW.up (show M + 2≤M + 100 by omega)) hb)
  clear hk hW
  go_wp2
  go_ret
  exact HEnd.out _ (by repeat (first | exact fr_refl _ | refine fr_call ?_ (by assumption) | refine fr_alloc ?_ _ | refine fr_set ?_ (by simp) _ | refine Below.drew ?_ | refine below_drewN ?_ _))
theorem do_made {a:ActionV} {c:List ByteArray} {F:List FileV} {s:ExSt} {x1:ByteArray} (hx:wordAt c 1=x1) (h1:¬ (wordAt c 0).data.toList=[116,101,108,108]) (h2:¬ (wordAt c 0).data.toList=[110,101,101,100]) (h3:¬ (wordAt c 0).data.toList=[115,97,109,101]) (h4:¬ (wordAt c 0).data.toList=[102,97,105,108]) :
 doE a c F s=(if (madeE a.vars c F s).1.2=0 then writeE a.outputs x1 (madeE a.vars c F s).1.1 ((wordAt c 0).data.toList == [109,97,107,101]) F (madeE a.vars c F s).2 else ((madeE a.vars c F s).1.2,(madeE a.vars c F s).2)):=by
 unfold doE
 simp only [h1,h2,h3,h4,if_false,hx]
 unfold Ex.bind
 by_cases hz:(madeE a.vars c F s).1.2=0
 ·rw [if_pos hz]
  dsimp only
  rw [if_pos hz]
 ·rw [if_neg hz]
  dsimp only
  rw [if_neg hz]; rfl
set_option maxHeartbeats 4000000 in
set_option maxRecDepth 100000 in
theorem do_else (S:Nat→Prop) (B g mi mw ml:Nat) (q:ActP) (a:ActionV) (F:List FileV) (M:Nat) (s:ExSt) (A:Option Addr) (n cc:Nat) (c:List ByteArray) (w:World) (hM:M + 100≤100000) (h:Wk w S B g mi mw ml q a F M s) (hsl:Sl w (Lt B) A n c) (hnc:n≤cc) (hcm:cc≤maxLen) (hc:checkCommandS c=0) (h1:¬ (wordAt c 0).data.toList=[116,101,108,108]) (h2:¬ (wordAt c 0).data.toList=[110,101,101,100]) (h3:¬ (wordAt c 0).data.toList=[115,97,109,101]) (h4:¬ (wordAt c 0).data.toList=[102,97,105,108])
 (hv:∀ v∈a.vars,v.value.size≤1000) (hF:∀ x∈F,x.path.size≤1000) (hout:a.outputs.length≤1000) (ho:∀ o∈a.outputs,IsP o):Calls Tryz.prog 185 #[.pointer (some ⟨g,0,none⟩),.slice A n cc] w (DoPost B g mi mw ml q a F (M + 100) (doE a c F s) w):=by
 have hmc:=made_cmd hc h1 h2 h3 h4
 have hn:=hsl.1
 have hl1:=hmc.long.1
 have hl2:=hmc.long.2
 obtain ⟨b,o,x0,rfl,hb,hx0,hx0s,k0⟩:=hsl.str (k:=0) (by omega)
 rw [Nat.add_zero] at k0
 obtain ⟨_,_,x1,e1,_,hx1,hx1s,k1⟩:=hsl.str (k:=1) (by omega)
 cases e1
 have HE:=Lib.hid (do_made (a:=a) (F:=F) (s:=s) (word_at hx1) h1 h2 h3 h4)
 rw [word_at hx0] at h1 h2 h3 h4 HE
 have HJ:=Lib.hid (act_made S B g mi mw ml q a F M s (some ⟨b,o,none⟩) n cc c w hM h hsl hnc hcm hmc hv hF hout)
 have hBw:=h.bound
 have HKb:=Lib.hid (fun w' (hk:Kp (fun k=>k=ml) w w')=>h.keepB hk)
 have f1:(x0.toList == [116,101,108,108])=false:=by rw [beq_eq_false_iff_ne]; exact fun e=>h1 (by rwa [data_toList] at e)
 have f2:(x0.toList == [110,101,101,100])=false:=by rw [beq_eq_false_iff_ne]; exact fun e=>h2 (by rwa [data_toList] at e)
 have f3:(x0.toList == [115,97,109,101])=false:=by rw [beq_eq_false_iff_ne]; exact fun e=>h3 (by rwa [data_toList] at e)
 have f4:(x0.toList == [102,97,105,108])=false:=by rw [beq_eq_false_iff_ne]; exact fun e=>h4 (by rwa [data_toList] at e)
 obtain ⟨bm,hbm⟩:∃ bm:Bool,(x0.data.toList == [109,97,107,101])=bm:=⟨_,rfl⟩
 have fm:(x0.toList == [109,97,107,101])=bm:=by rw [←hbm,data_toList]
 rw [hbm] at HE
 have hI1:(1:Int) < (n:Int):=by omega
 have hI0:0 < n:=by omega
 clear h hsl hx0 hx1 h1 h2 h3 h4 hbm hmc
 go_enter Tryz.func185,Tryz.ntmps185
 go_wp2_with fail
 refine HJ.out.mono ?_
 rintro e w1 ⟨hk,hW,A3,n3,c3,rfl,h31,h32,h3n,h33⟩
 clear HJ
 have kk0:=(World.cell?_of_block (a:=⟨b,o,none⟩) (HKb.out _ hk _ hb)).trans k0
 have kk1:=(World.cell?_of_block (a:=⟨b,o + 1,none⟩) (HKb.out _ hk _ hb)).trans k1
 generalize madeE a.vars c F s=z at *
 obtain ⟨⟨bs,code⟩,s1⟩:=z
 dsimp only at *
 rcases Decidable.em (¬ code=0) with hz | hz
 ·have HEnd:=Lib.hid (fun w' (hb:Below w1.heap.size w1 w')=>DoPost.mk_ (w':=w') (r:=doE a c F s) (HE.out.trans (if_neg hz)) (kp_do hk) hW hb)
  have hzb:(code == 0)=false:=by simpa using hz
  clear hk hW h33
  go_wp2
  go_ret
  exact HEnd.out _ (by repeat (first | exact fr_refl _ | refine fr_call ?_ (by assumption) | refine fr_alloc ?_ _ | refine fr_set ?_ (by simp) _ | refine Below.drew ?_ | refine below_drewN ?_ _))
 obtain rfl:code=0:=Decidable.not_not.1 hz
 have HE2:=Lib.hid (show doE a c F s=writeE a.outputs x1 bs bm F s1 from HE.out.trans (if_pos rfl))
 have hbd:=(fr_refl w1).drew
 have HJ:=Lib.hid (act_write (OffW g mi mw ml w1) B g mi mw ml q a F (M + 100) s1 x1 A3 n3 c3 bs bm w1.drew (hW.call hbd) hx1s (h3n rfl) (h33.keep fun k hk=>hbd.block k hk.1) ho (by omega))
 have HKp:=Lib.hid ((kp_do (g:=g) (mw:=mw) hk).trans (.of hbd))
 clear hk hW h33 hbd h3n
 go_wp2
 go_region_law (first | (go_simp; go_at_call 224; refine HJ.out.mono ?_; rintro e w2 ⟨hk2,hW2,rfl⟩))
 all_goals
  have HEnd:=Lib.hid (fun w' (hb:Below w2.heap.size w2 w')=>DoPost.mk_ (w':=w') (r:=doE a c F s) (HE2.out.trans rfl) (HKp.out.trans hk2) hW2 hb)
  clear hk2 hW2
  go_wp2
  go_ret
  exact HEnd.out _ (by repeat (first | exact fr_refl _ | refine fr_call ?_ (by assumption) | refine fr_alloc ?_ _ | refine fr_set ?_ (by simp) _ | refine Below.drew ?_ | refine below_drewN ?_ _))
theorem act_do (S:Nat→Prop) (B g mi mw ml:Nat) (q:ActP) (a:ActionV) (F:List FileV) (M:Nat) (s:ExSt) (A:Option Addr) (n cc:Nat) (c:List ByteArray) (w:World) (hM:M + 100≤100000) (h:Wk w S B g mi mw ml q a F M s) (hsl:Sl w (Lt B) A n c) (hnc:n≤cc) (hcm:cc≤maxLen) (hc:checkCommandS c=0) (hv:∀ v∈a.vars,v.value.size≤1000) (hF:∀ x∈F,x.path.size≤1000) (hout:a.outputs.length≤1000) (ho:∀ o∈a.outputs,IsP o):Calls Tryz.prog 185 #[.pointer (some ⟨g,0,none⟩),.slice A n cc] w (DoPost B g mi mw ml q a F (M + 100) (doE a c F s) w):=by
 by_cases h1:(wordAt c 0).data.toList=[116,101,108,108]
 ·exact do_tell S B g mi mw ml q a F M s A n cc c w hM h hsl hnc hcm hc h1
 by_cases h2:(wordAt c 0).data.toList=[110,101,101,100]
 ·exact do_need S B g mi mw ml q a F M s A n cc c w hM h hsl hnc hcm hc h2
 by_cases h3:(wordAt c 0).data.toList=[115,97,109,101]
 ·exact do_same S B g mi mw ml q a F M s A n cc c w hM h hsl hnc hcm hc h3
 by_cases h4:(wordAt c 0).data.toList=[102,97,105,108]
 ·exact do_fail S B g mi mw ml q a F M s A n cc c w hM h hsl hnc hcm hc h4
 exact do_else S B g mi mw ml q a F M s A n cc c w hM h hsl hnc hcm hc h1 h2 h3 h4 hv hF hout ho
end Go.Proofs.Sm
namespace Go.Proofs.Sm
open Go.RowKit
def RunPost (B g mi mw ml:Nat) (q:ActP) (a:ActionV) (F:List FileV) (M:Nat) (r:(Int × Nat) × ExSt) (w:World) (e:Ending) (w':World):Prop :=
 Kp (fun k=>k=g∨k=mw∨k=ml) w w'∧Wk w' (OffW g mi mw ml w') B g mi mw ml q a F M r.2∧e=.returned (.tuple #[.int .i64 r.1.1,.int .i64 (r.1.2:Nat)])
theorem RunPost.mk_ {B g mi mw ml:Nat} {q:ActP} {a:ActionV} {F:List FileV} {M:Nat} {S:Nat→Prop} {w w':World} {r:(Int × Nat) × ExSt} {w1:World} {z:Int} {i:Nat} {s':ExSt} (hr:r=((z,i),s')) (hk:Kp (fun k=>k=g∨k=mw∨k=ml) w w1) (hW:Wk w1 S B g mi mw ml q a F M s') (hb:Below w1.heap.size w1 w') :
 RunPost B g mi mw ml q a F M r w (.returned (.tuple #[.int .i64 z,.int .i64 (i:Nat)])) w':=by
 subst hr
 exact ⟨hk.call hb,(hW.call hb).off,rfl⟩
section
variable {a:ActionV} {F:List FileV} {s:ExSt} {c:List ByteArray} {l:List (List ByteArray)} {k:Nat}
theorem run_go (h:(doE a c F s).1=0):runE a (c :: l) k F s=runE a l (k + 1) F (doE a c F s).2:=by
 rw [runE,Ex.bind]
 rw [if_pos h]
theorem run_stop (h:¬ (doE a c F s).1=0):runE a (c :: l) k F s=(((doE a c F s).1,k + 1),(doE a c F s).2):=by
 rw [runE,Ex.bind]
 rw [if_neg h]; rfl
theorem run_end:runE a [] k F s=(if s.written.length < a.outputs.length then (1,0) else (0,0),s):=rfl
end
set_option maxHeartbeats 4000000 in
set_option maxRecDepth 100000 in
theorem act_run (S:Nat→Prop) (B g mi mw ml:Nat) (q:ActP) (a:ActionV) (F:List FileV) (s:ExSt) (w:World) (h:Wk w S B g mi mw ml q a F 0 s) (hcs:∀ c∈a.commands,checkCommandS c=0) (hc50:a.commands.length≤50)
 (hv:∀ v∈a.vars,v.value.size≤1000) (hF:∀ x∈F,x.path.size≤1000) (hout:a.outputs.length≤1000) (ho:∀ o∈a.outputs,IsP o) :
 Calls Tryz.prog 138 #[.pointer (some ⟨g,0,none⟩)] w (RunPost B g mi mw ml q a F 10000 (runE a a.commands 0 F s) w):=by
 have hgw:=h.blk.lt
 have k1:=h.blk.cell (i:=1) rfl
 have hn:=h.act.commands.1
 have hn3:=h.act.outputs.1
 have hm:q.n1≤9223372036854775807:=by omega
 have h0:=h.off
 clear h
 go_enter Tryz.func138,Tryz.ntmps138
 go_wp2
 go_loopw [13] (fun i wr=>∃ (k:Nat) (s':ExSt),k≤q.n1∧i=.int .i64 k∧Kp (fun k=>k=g∨k=mw∨k=ml) w wr∧Wk wr (OffW g mi mw ml wr) B g mi mw ml q a F (100 * k) s'∧runE a a.commands 0 F s=runE a (a.commands.drop k) k F s') (fun i _=>q.n1 - (intOf i).toNat)
 case atStart=>exact ⟨0,s,Nat.zero_le _,rfl,Kp.refl _ _,h0,rfl⟩
 case round =>
  clear h0
  obtain ⟨k,s',hk,rfl,hkp,hW,he⟩:=hrel
  have HE:=Lib.hid he
  clear he
  by_cases hlt:k < q.n1
  ·obtain ⟨b,o,x,A',n',c',hA1,hb,hx,h1,h2,hsl,c0⟩:=hW.act.commands.row hlt
   have hd:=drop_at hx
   have hkI:(k:Int) < (q.n1:Int):=by omega
   have HJ:=Lib.hid (act_do _ B g mi mw ml q a F (100 * k) s' A' n' c' x wr (by omega) hW hsl h1 h2 (hcs x (List.mem_of_getElem? hx)) hv hF hout ho)
   rw [hA1] at *
   clear hW hsl hx
   go_wp2_with fail
   refine HJ.out.mono ?_
   rintro e w1 ⟨hk1,hW1,rfl⟩
   have hk2:=hkp.trans hk1
   have HG:=Lib.hid (run_go (a:=a) (F:=F) (s:=s') (c:=x) (l:=a.commands.drop (k + 1)) (k:=k))
   have HS:=Lib.hid (run_stop (a:=a) (F:=F) (s:=s') (c:=x) (l:=a.commands.drop (k + 1)) (k:=k))
   clear HJ
   generalize doE a x F s'=z at *
   obtain ⟨code,s2⟩:=z
   dsimp only at *
   rw [hd] at HE
   rcases Decidable.em (¬ code=0) with hz | hz
   ·have HEnd:=Lib.hid (fun w' (hb:Below w1.heap.size w1 w')=>RunPost.mk_ (w':=w') (r:=runE a a.commands 0 F s) (HE.out.trans (HS.out hz)) hk2 (hW1.up (show _≤10000 by omega)) hb)
    have hzb:(code == 0)=false:=by simpa using hz
    clear hk1 hk2 hW1 hkp
    go_wp2
    go_ret2
    exact HEnd.out _ (by repeat (first | exact fr_refl _ | refine fr_call ?_ (by assumption) | refine fr_alloc ?_ _ | refine fr_set ?_ (by simp) _ | refine Below.drew ?_ | refine below_drewN ?_ _))
   obtain rfl:code=0:=Decidable.not_not.1 hz
   have HE2:=Lib.hid (HE.out.trans (HG.out rfl))
   go_wp2
   go_roundw
   case rel=>exact ⟨k + 1,s2,by omega,by go_num,hk2,by rw [Nat.mul_succ]; exact hW1,HE2.out⟩
   case measure=>simp [intOf]; omega
  ·have hdr:a.commands.drop k=[]:=List.drop_eq_nil_of_le (by omega)
   have HE2:=Lib.hid (show runE a a.commands 0 F s=(if s'.written.length < a.outputs.length then (1,0) else (0,0),s') by rw [HE.out,hdr]; exact run_end)
   have hlen:=fun nq=>(hW.call (below_drewN (fr_refl wr) nq)).wri.len Tryz.underlying9 Tryz.underlying97 hW.ok.wrote.sorted 3
   have kw2:=hW.blk.cell (i:=7) rfl
   have kw3:=hW.blk.cell (i:=3) rfl
   have hgr:=hW.blk.lt
   by_cases hsh:s'.written.length < a.outputs.length
   ·rw [if_pos hsh] at HE2
    have HEnd:=Lib.hid (fun w' (hb:Below wr.heap.size wr w')=>RunPost.mk_ (w':=w') (r:=runE a a.commands 0 F s) HE2.out hkp (hW.up (show _≤10000 by omega)) hb)
    have hI:(s'.written.length:Int) < (q.n3:Int):=by omega
    clear hW hkp HE
    go_wp2
    go_quiet (fail)
    go_wp2
    go_ret2
    exact HEnd.out _ (by repeat (first | exact fr_refl _ | refine fr_call ?_ (by assumption) | refine fr_alloc ?_ _ | refine fr_set ?_ (by simp) _ | refine Below.drew ?_ | refine below_drewN ?_ _))
   ·rw [if_neg hsh] at HE2
    have HEnd:=Lib.hid (fun w' (hb:Below wr.heap.size wr w')=>RunPost.mk_ (w':=w') (r:=runE a a.commands 0 F s) HE2.out hkp (hW.up (show _≤10000 by omega)) hb)
    have hI:¬ (s'.written.length:Int) < (q.n3:Int):=by omega
    clear hW hkp HE
    go_wp2
    go_quiet (fail)
    go_wp2
    go_ret2
    exact HEnd.out _ (by repeat (first | exact fr_refl _ | refine fr_call ?_ (by assumption) | refine fr_alloc ?_ _ | refine fr_set ?_ (by simp) _ | refine Below.drew ?_ | refine below_drewN ?_ _))
end Go.Proofs.Sm
namespace Go.Proofs.Sm
open Go.RowKit
def touchS (p q:ByteArray):Bool:=p.toList == q.toList || (liesS p q || liesS q p)
set_option maxRecDepth 100000 in
theorem act_Touch (p q:ByteArray) (w:World) (hp:p.size≤100000) (hq:q.size≤100000):Calls Tryz.prog 184 #[.string p,.string q] w fun e w'=>e=.returned (.bool (touchS p q))∧w=w':=by
 have H1:=Lib.hid (blob_Within p q w hq)
 have H2:=Lib.hid (blob_Within q p w hp)
 cases he:(p.toList == q.toList)
 ·cases h1:liesS p q
  ·have HV:=Lib.hid (show touchS p q=liesS q p by rw [touchS,he,h1]; rfl)
   rw [h1] at H1
   go_enter Tryz.func184,Tryz.ntmps184
   go_wp2_with fail
   refine H1.out.mono ?_
   rintro e w1 ⟨rfl,rfl⟩
   go_wp2_with fail
   refine H2.out.mono ?_
   rintro e w1 ⟨rfl,rfl⟩
   go_wp2
   go_ret
   exact ⟨ret_bool HV.out.symm,rfl⟩
  ·have HV:=Lib.hid (show touchS p q=true by rw [touchS,he,h1]; rfl)
   rw [h1] at H1
   go_enter Tryz.func184,Tryz.ntmps184
   go_wp2_with fail
   refine H1.out.mono ?_
   rintro e w1 ⟨rfl,rfl⟩
   go_wp2
   go_ret
   exact ⟨ret_bool HV.out.symm,rfl⟩
 ·have HV:=Lib.hid (show touchS p q=true by rw [touchS,he]; rfl)
  go_enter Tryz.func184,Tryz.ntmps184
  go_wp2
  go_ret
  exact ⟨ret_bool HV.out.symm,rfl⟩
theorem both_clos (p q:ByteArray) (g:Nat) (w:World) (hc:w.cell? ⟨g,0,none⟩=some (.string p)) (hp:p.size≤100000) (hq:q.size≤100000):Calls Tryz.prog 183 #[.string q,.pointer (some ⟨g,0,none⟩)] w fun e w'=>e=.returned (.bool (touchS q p))∧Below w.heap.size w w':=by
 have H1:=Lib.hid (act_Touch q p w hq hp)
 go_enter Tryz.func183,Tryz.ntmps183
 go_wp2_with fail
 refine H1.out.mono ?_
 rintro e w1 ⟨rfl,rfl⟩
 go_wp2
 go_ret
 exact ⟨rfl,Below.refl _ _⟩
def touchesS (outs:List ByteArray) (F:List FileV):Bool:=F.any fun f=>outs.any fun o=>touchS o f.path
def bothErr (a:ActionV) (F:List FileV):Int:=if checkActionS a≠0 then checkActionS a else if checkFilesS F≠0 then checkFilesS F else if touchesS a.outputs F then 12 else 0
theorem both_act {a:ActionV} {F:List FileV} (h:¬ checkActionS a=0):bothErr a F=checkActionS a:=by rw [bothErr,if_pos h]
theorem both_files {a:ActionV} {F:List FileV} (h:checkActionS a=0) (h1:¬ checkFilesS F=0):bothErr a F=checkFilesS F:=by rw [bothErr,if_neg (by simpa using h),if_pos h1]
theorem both_rest {a:ActionV} {F:List FileV} (h:checkActionS a=0) (h1:checkFilesS F=0):bothErr a F=if touchesS a.outputs F then 12 else 0:=by rw [bothErr,if_neg (by simpa using h),if_neg (by simpa using h1)]
set_option maxHeartbeats 4000000 in
set_option maxRecDepth 100000 in
theorem act_checkBoth (a:ActionV) (A:Option Addr) (n n':Nat) (B:Option Addr) (m m':Nat) (C:Option Addr) (p p':Nat) (D:Option Addr) (q q':Nat) (L:Option Addr) (nl cl:Nat) (F:List FileV) (w:World) (hE:Env w) (ha:ActIs w a A n B m C p D q) (hsl:Sl w (Lt w.heap.size) L nl F) :
 Calls Tryz.prog 137 #[actVal a A n n' B m m' C p p' D q q',.slice L nl cl] w fun e w'=>e=.returned (.int .i64 (bothErr a F))∧Below w.heap.size w w':=by
 have hm:nl≤9223372036854775807:=hsl.2.1
 have hba:=fr_alloc (fr_refl w) (.cells #[.string a.tool,.slice A n n',.slice B m m',.slice C p p',.slice D q q',.int .i64 a.time] 58)
 have HC:=Lib.hid (act_CheckAction a A n n' B m m' C p p' D q q' _ (hE.then_ hba) (ha.then_ hba))
 unfold actVal at *
 rcases Decidable.em (¬ checkActionS a=0) with h1 | h1
 ·have HV:=Lib.hid (both_act (F:=F) h1)
  have hb:(checkActionS a == 0)=false:=by simpa using h1
  generalize checkActionS a=z at *
  go_enter Tryz.func137,Tryz.ntmps137
  go_wp2_with fail
  refine HC.out.mono ?_
  rintro e w1 ⟨rfl,hb1⟩
  go_wp2
  go_ret
  exact ⟨ret_int HV.out.symm,fr_box (fr_refl w) hb1⟩
 have h1:checkActionS a=0:=Decidable.not_not.1 h1
 have HF:=Lib.hid (fun w1 (hb:Below w.heap.size w w1)=>blob_CheckFiles L nl cl F w1 (hE.then_ hb) (sl_call hsl hb (Nat.le_refl _)))
 rw [h1] at HC
 rcases Decidable.em (¬ checkFilesS F=0) with h2 | h2
 ·have HV:=Lib.hid (both_files h1 h2)
  have hb:(checkFilesS F == 0)=false:=by simpa using h2
  generalize checkFilesS F=z at *
  go_enter Tryz.func137,Tryz.ntmps137
  go_wp2_with fail
  refine HC.out.mono ?_
  rintro e w1 ⟨rfl,hb1⟩
  have hb2:=fr_box (fr_refl w) hb1
  go_wp2_with fail
  refine (HF.out w1 hb2).mono ?_
  rintro e w2 ⟨rfl,hb3⟩
  go_wp2
  go_ret
  exact ⟨ret_int HV.out.symm,fr_call hb2 hb3⟩
 have h2:checkFilesS F=0:=Decidable.not_not.1 h2
 have HV:=Lib.hid (both_rest h1 h2)
 have hfp:=files_sizes h2
 have hop:=(checkAction_ok h1).output
 have hLF:=hsl.1
 rw [h2] at HF
 go_enter Tryz.func137,Tryz.ntmps137
 go_wp2_with fail
 refine HC.out.mono ?_
 rintro e w1 ⟨rfl,hb1⟩
 have hb2:=fr_box (fr_refl w) hb1
 go_wp2_with fail
 refine (HF.out w1 hb2).mono ?_
 rintro e w2 ⟨rfl,hb3⟩
 have hb4:=hb1.trans (hb3.mono hb1.size)
 have hz4:=hb4.size
 rw [World.size_alloc] at hz4
 clear hb1 hb2 hb3
 go_wp2
 go_loopw [21] (fun i wr=>∃ k:Nat,k≤nl∧i=.int .i64 k∧(F.take k).any (fun f=>a.outputs.any fun o=>touchS o f.path)=false∧Below (w.alloc (.cells #[.string a.tool,.slice A n n',.slice B m m',.slice C p p',.slice D q q',.int .i64 a.time] 58)).heap.size (w.alloc (.cells #[.string a.tool,.slice A n n',.slice B m m',.slice C p p',.slice D q q',.int .i64 a.time] 58)) wr) (fun i _=>nl - (intOf i).toNat)
 case atStart=>exact ⟨0,Nat.zero_le _,rfl,rfl,hb4⟩
 case round =>
  clear hb4
  obtain ⟨k,hk,rfl,hno,hbr⟩:=hrel
  have HNo:=Lib.hid hno
  clear hno
  have hbw:=fr_box (fr_refl w) hbr
  have hzr:=hbr.size
  rw [World.size_alloc] at hzr
  by_cases hlt:k < nl
  ·obtain ⟨b,o,x,A',n'',c'',rfl,hb,hx,hs1,hnc,hcm,hsl',c0,c1,c2⟩:=(hsl.keep (keep_lt hbw)).file hlt
   have hkI:(k:Int) < (nl:Int):=by omega
   have cw3:wr.cell? ⟨w.heap.size,3,none⟩=some (.slice C p p'):=(World.cell?_of_block (a:=⟨w.heap.size,3,none⟩) (hbr.block w.heap.size (by rw [World.size_alloc]; exact Nat.lt_succ_self _))).trans (by simp [go_sem])
   have hgw:w.heap.size < wr.heap.size:=by omega
   have hx2:=hfp x (List.mem_of_getElem? hx)
   have hnew:=fr_alloc (fr_refl wr) (.cells #[.string x.path,.bool x.run,.slice A' n'' c''] 78)
   have HCF:=Lib.hid (slices_ContainsFunc1 183 (enters_of Tryz.func183 (by kernel_rfl) rfl) (.pointer (some ⟨wr.heap.size,0,none⟩)) (fun o=>touchS o x.path) C p p' a.outputs _ (sl_call ha.outputs (fr_call hbw hnew) (Nat.le_refl _))
    (fun W y hbW _ hy=>both_clos x.path y wr.heap.size W ((World.cell?_of_block (a:=⟨wr.heap.size,0,none⟩) (hbW.block wr.heap.size (by rw [World.size_alloc]; exact Nat.lt_succ_self _))).trans (by simp [go_sem])) (by omega) (by have:=hop y hy; omega)))
   have HX:=Lib.hid (show (F.take (k + 1)).any (fun f=>a.outputs.any fun o=>touchS o f.path)=(a.outputs.any fun o=>touchS o x.path) by rw [List.take_add_one,hx,List.any_append,HNo.out]; simp)
   clear hx hsl'
   cases hany:(a.outputs.any fun o=>touchS o x.path)
   ·rw [hany] at HX HCF
    go_wp2_with fail
    refine HCF.out.mono ?_
    rintro e w5 ⟨rfl,hb5⟩
    go_wp2
    go_roundw
    case rel=>exact ⟨k + 1,by omega,by go_num,HX.out,hbr.trans ((fr_box (fr_refl wr) hb5).mono (by rw [World.size_alloc]; omega))⟩
    case measure=>simp [intOf]; omega
   ·have HE:=Lib.hid (show touchesS a.outputs F=true by
     rw [hany] at HX
     have h3:=List.any_append (xs:=F.take (k + 1)) (ys:=F.drop (k + 1)) (f:=fun f=>a.outputs.any fun o=>touchS o f.path)
     rw [List.take_append_drop,HX.out] at h3
     exact h3)
    rw [hany] at HCF
    rw [HE.out,if_pos rfl] at HV
    go_wp2_with fail
    refine HCF.out.mono ?_
    rintro e w5 ⟨rfl,hb5⟩
    go_wp2
    go_ret
    exact ⟨ret_int HV.out.symm,fr_box hbw hb5⟩
  ·have HE:touchesS a.outputs F=false:=by
    have h3:=HNo.out
    rw [List.take_of_length_le (by omega)] at h3
    exact h3
   rw [HE,if_neg (by decide)] at HV
   go_wp2
   go_ret
   exact ⟨ret_int HV.out.symm,hbw⟩
end Go.Proofs.Sm
namespace Go.Proofs.Sm
open Go.RowKit Go.Maps Go.Sort Go.Shelf
theorem keys_mapstringsmithyardapiLook (b:Nat) (w:World):Calls Tryz.prog 139 #[.map (some b)] w fun e w'=>e=.returned (.func (.func 186) #[] #[.pointer (some ⟨w.heap.size,0,none⟩)])∧w'=w.alloc (.cells #[.map (some b)] 213) :=
 (callsIn_wide (n:=5)).1 (AnyZ.keys_in Tryz.keys_mapstringsmithyardapiLook Fence.wide 5 trivial rfl (some b) w)
set_option maxHeartbeats 1000000 in
theorem sorted_mapLook (b n:Nat) (f:List UInt8→Option Value) (w:World) (h:MapIs Tryz.prog 9 w b n f) (hn:n≤1000000000) :
 Calls Tryz.prog 67 #[.func (.func 186) #[] #[.pointer (some ⟨w.heap.size,0,none⟩)]] (w.alloc (.cells #[.map (some b)] 213)) fun e w' =>
  ∃ ks A c,e=.returned (.slice A ks.length c)∧KeysAre f ks∧ks.length≤c∧c≤maxLen∧Sl w' (fun k=>w.heap.size≤k∧k < w'.heap.size) A ks.length ks∧Below w.heap.size w w':=by
 obtain ⟨D0,hown,hsz,hnd,hmem,hlen⟩:=h.keys Tryz.underlying9
 have hbl:=hown.lt
 have hseq:SeqGives Fence.wide 2 Tryz.prog 186 #[.pointer (some ⟨w.heap.size,0,none⟩)] encStr (fun ss=>ss.Perm (strKeys D0)) (Maps.size D0) (w.alloc (.cells #[.map (some b)] 213)) :=
  AnyZ.keys_gives (ρ:=Tryz.keys_mapstringsmithyardapiLook_ren) { Tryz.keys_mapstringsmithyardapiLook with } Fence.wide _ trivial rfl (by omega) w.heap.size b n D0 _ (by simp) (by simp) (by
   obtain ⟨es,clock,hb,Ft,hs,hD⟩:=hown
   exact ⟨es,clock,(Below.heap_alloc _ _ b hbl).trans hb,Ft,hs,hD⟩)
 have hm1:Maps.size D0≤maxLen:=by unfold maxLen; omega
 have cS:=AnyZ.sorted_in Tryz.sorted_string Fence.wide 5 trivial trivial trivial trivial rfl (by omega) (sorts_string _) (enters_of Tryz.func102 (by kernel_rfl) rfl) 186 #[.pointer (some ⟨w.heap.size,0,none⟩)] trivial (enters_of Tryz.func186 (by kernel_rfl) rfl) _ _ hm1 (by omega) _ hseq
 change CallsIn _ _ Tryz.prog 67 _ _ _ at cS
 refine (callsIn_wide.1 cS).mono ?_
 rintro e w' ⟨v,ss,rfl,hp,hrow,_,hb⟩
 obtain ⟨h1,h2⟩:=keysAre_of hp hnd hmem hlen
 have hl:ss.length=((ss.mergeSort leB).map fun x=>(⟨x.toArray⟩:ByteArray)).length:=by simp
 generalize hks:((ss.mergeSort leB).map fun x=>(⟨x.toArray⟩:ByteArray))=ks at h1 h2 hl
 have hrow2:w'.ownsRow (w.alloc (.cells #[.map (some b)] 213)).heap.size 9 1 v ks.length (ks.flatMap fun x=>[Value.string x]):=by
  rw [flat_one,←h2,←hl]
  exact hrow
 have hrk:RowK w' (w.heap.size + 1) 9 (fun _=>False) v ks:=⟨fun _ h=>h.elim,ks.map fun x=>[Value.string x],by simp,by rw [←List.flatMap_def]; rw [World.size_alloc] at hrow2; exact hrow2,fun i x r hx hr=>by
  rw [List.getElem?_map,hx] at hr
  cases hr
  exact ⟨rfl,h1.size x (List.mem_of_getElem? hx)⟩⟩
 obtain ⟨A,c,rfl,h3,h4,h5⟩:=hrk.slFrom
 exact ⟨ks,A,c,rfl,h1,h3,h4,h5.more (fun k hk=>⟨by omega,hk.2⟩),((Below.refl _ w).alloc (Nat.le_refl _) _).trans (hb.mono (by simp))⟩
theorem keys_mapstringsmithyardapiFile (b:Nat) (w:World):Calls Tryz.prog 68 #[.map (some b)] w fun e w'=>e=.returned (.func (.func 103) #[] #[.pointer (some ⟨w.heap.size,0,none⟩)])∧w'=w.alloc (.cells #[.map (some b)] 97) :=
 (callsIn_wide (n:=5)).1 (AnyZ.keys_in Tryz.keys_mapstringsmithyardapiFile Fence.wide 5 trivial rfl (some b) w)
set_option maxHeartbeats 1000000 in
theorem sorted_mapFile (b n:Nat) (f:List UInt8→Option Value) (w:World) (h:MapIs Tryz.prog 9 w b n f) (hn:n≤1000000000) :
 Calls Tryz.prog 67 #[.func (.func 103) #[] #[.pointer (some ⟨w.heap.size,0,none⟩)]] (w.alloc (.cells #[.map (some b)] 97)) fun e w' =>
  ∃ ks A c,e=.returned (.slice A ks.length c)∧KeysAre f ks∧ks.length≤c∧c≤maxLen∧Sl w' (fun k=>w.heap.size≤k∧k < w'.heap.size) A ks.length ks∧Below w.heap.size w w':=by
 obtain ⟨D0,hown,hsz,hnd,hmem,hlen⟩:=h.keys Tryz.underlying9
 have hbl:=hown.lt
 have hseq:SeqGives Fence.wide 2 Tryz.prog 103 #[.pointer (some ⟨w.heap.size,0,none⟩)] encStr (fun ss=>ss.Perm (strKeys D0)) (Maps.size D0) (w.alloc (.cells #[.map (some b)] 97)) :=
  AnyZ.keys_gives (ρ:=Tryz.keys_mapstringsmithyardapiFile_ren) { Tryz.keys_mapstringsmithyardapiFile with } Fence.wide _ trivial rfl (by omega) w.heap.size b n D0 _ (by simp) (by simp) (by
   obtain ⟨es,clock,hb,Ft,hs,hD⟩:=hown
   exact ⟨es,clock,(Below.heap_alloc _ _ b hbl).trans hb,Ft,hs,hD⟩)
 have hm1:Maps.size D0≤maxLen:=by unfold maxLen; omega
 have cS:=AnyZ.sorted_in Tryz.sorted_string Fence.wide 5 trivial trivial trivial trivial rfl (by omega) (sorts_string _) (enters_of Tryz.func102 (by kernel_rfl) rfl) 103 #[.pointer (some ⟨w.heap.size,0,none⟩)] trivial (enters_of Tryz.func103 (by kernel_rfl) rfl) _ _ hm1 (by omega) _ hseq
 change CallsIn _ _ Tryz.prog 67 _ _ _ at cS
 refine (callsIn_wide.1 cS).mono ?_
 rintro e w' ⟨v,ss,rfl,hp,hrow,_,hb⟩
 obtain ⟨h1,h2⟩:=keysAre_of hp hnd hmem hlen
 have hl:ss.length=((ss.mergeSort leB).map fun x=>(⟨x.toArray⟩:ByteArray)).length:=by simp
 generalize hks:((ss.mergeSort leB).map fun x=>(⟨x.toArray⟩:ByteArray))=ks at h1 h2 hl
 have hrow2:w'.ownsRow (w.alloc (.cells #[.map (some b)] 97)).heap.size 9 1 v ks.length (ks.flatMap fun x=>[Value.string x]):=by
  rw [flat_one,←h2,←hl]
  exact hrow
 have hrk:RowK w' (w.heap.size + 1) 9 (fun _=>False) v ks:=⟨fun _ h=>h.elim,ks.map fun x=>[Value.string x],by simp,by rw [←List.flatMap_def]; rw [World.size_alloc] at hrow2; exact hrow2,fun i x r hx hr=>by
  rw [List.getElem?_map,hx] at hr
  cases hr
  exact ⟨rfl,h1.size x (List.mem_of_getElem? hx)⟩⟩
 obtain ⟨A,c,rfl,h3,h4,h5⟩:=hrk.slFrom
 exact ⟨ks,A,c,rfl,h1,h3,h4,h5.more (fun k hk=>⟨by omega,hk.2⟩),((Below.refl _ w).alloc (Nat.le_refl _) _).trans (hb.mono (by simp))⟩
end Go.Proofs.Sm
namespace Go.Proofs.Sm
open Go.RowKit Go.Maps
def noResult:ResultV:=⟨0,⟨#[]⟩,[],[],0⟩
set_option maxHeartbeats 4000000 in
set_option maxRecDepth 100000 in
theorem exec_bad (a:ActionV) (A:Option Addr) (n n':Nat) (B:Option Addr) (m m':Nat) (C:Option Addr) (p p':Nat) (D:Option Addr) (q q':Nat) (L:Option Addr) (nl cl:Nat) (F:List FileV) (w:World) (hE:Env2 w) (ha:ActIs w a A n B m C p D q) (hsl:Sl w (Lt w.heap.size) L nl F) (hbad:¬ bothErr a F=0) :
 Calls Tryz.prog 99 #[actVal a A n n' B m m' C p p' D q q',.slice L nl cl] w fun e w'=>e=.returned (.tuple #[resVal noResult none 0 0 none 0 0,.int .i64 (bothErr a F)])∧Below w.heap.size w w':=by
 have HC:=Lib.hid (fun w1 (hb:Below w.heap.size w w1)=>act_checkBoth a A n n' B m m' C p p' D q q' L nl cl F w1 (hE.then_ hb).toEnv (ha.then_ hb) (sl_call hsl hb (Nat.le_refl _)))
 unfold actVal at *
 have hb0:(bothErr a F == 0)=false:=by simpa using hbad
 generalize bothErr a F=z at *
 clear hsl ha hE
 go_enter Tryz.func99,Tryz.ntmps99
 go_wp2_with fail
 refine (HC.out _ (fr_alloc (fr_alloc (fr_refl w) _) _)).mono ?_
 rintro e w1 ⟨rfl,hb1⟩
 have hb2:=fr_call (fr_alloc (fr_alloc (fr_refl w) _) _) hb1
 have harr:Arr w1 (w.heap.size + 1) 41 [.int .i64 0,.string ⟨#[]⟩,.slice none 0 0,.slice none 0 0,.int .i64 0]:=by
  have h1:=heap_alloc_new (w.alloc (.cells #[.string a.tool,.slice A n n',.slice B m m',.slice C p p',.slice D q q',.int .i64 a.time] 58)) (.cells #[.int .i64 0,.string ⟨#[]⟩,.slice none 0 0,.slice none 0 0,.int .i64 0] 41)
  rw [World.size_alloc] at h1
  exact (hb1.block _ (by rw [World.size_alloc,World.size_alloc]; omega)).trans h1
 have z0:=harr.cell (i:=0) rfl
 have z1:=harr.cell (i:=1) rfl
 have z2:=harr.cell (i:=2) rfl
 have z3:=harr.cell (i:=3) rfl
 have z4:=harr.cell (i:=4) rfl
 have f0:=harr.frozen 0
 have f1:=harr.frozen 1
 have f2:=harr.frozen 2
 have f3:=harr.frozen 3
 have f4:=harr.frozen 4
 have hl:=harr.lt
 have harr5:=((((harr.set 0 (.int .i64 0)).set 1 (.string ⟨#[]⟩)).set 2 (.slice none 0 0)).set 3 (.slice none 0 0)).set 4 (.int .i64 0)
 have y0:=harr5.cell (i:=0) rfl
 have y1:=harr5.cell (i:=1) rfl
 have y2:=harr5.cell (i:=2) rfl
 have y3:=harr5.cell (i:=3) rfl
 have y4:=harr5.cell (i:=4) rfl
 clear harr harr5
 go_wp2
 clear z0 z1 z2 z3 z4 f0 f1 f2 f3 f4
 exact bodyPost_ret (v:=.tuple #[.agg #[.int .i64 0,.string ⟨#[]⟩,.slice none 0 0,.slice none 0 0,.int .i64 0],.int .i64 z]) (by simp [results,Tryz.results99,go_sem,y0,y1,y2,y3,y4]) rfl ⟨rfl,fr_set (fr_set (fr_set (fr_set (fr_set hb2 (by simp) _) (by simp) _) (by simp) _) (by simp) _) (by simp) _⟩
end Go.Proofs.Sm
namespace Go.Proofs.Sm
open Go.RowKit Go.Maps
theorem both_ok {a:ActionV} {F:List FileV} (h:bothErr a F=0):checkActionS a=0∧checkFilesS F=0∧touchesS a.outputs F=false:=by
 unfold bothErr at h
 split at h
 ·rename_i h1; exact absurd h h1
 rename_i h1
 split at h
 ·rename_i h2; exact absurd h h2
 rename_i h2
 split at h
 ·exact absurd h (by decide)
 rename_i h3
 exact ⟨Classical.not_not.1 h1,Classical.not_not.1 h2,by simpa using h3⟩
theorem action_parts {a:ActionV} (h:checkActionS a=0):(∀ c∈a.commands,checkCommandS c=0)∧checkOutputsS a.outputs=0:=by
 unfold checkActionS at h
 split at h
 ·omega
 split at h
 ·omega
 split at h
 ·omega
 split at h
 ·rename_i h1; exact absurd h h1
 split at h
 ·rename_i h1; exact absurd h h1
 split at h
 ·rename_i h1; exact absurd h h1
 rename_i h4 _ h6
 exact ⟨commandsErr_all (Classical.not_not.1 h4),Classical.not_not.1 h6⟩
theorem files_by {l:List FileV} (h:checkFilesS l=0):ByPath FileV.path l:=by
 have hs:=checkFiles_sorted h
 unfold ByPath
 rw [List.pairwise_iff_getElem]
 intro i j hi hj hij
 exact hs i j _ _ hij (List.getElem?_eq_getElem hi) (List.getElem?_eq_getElem hj)
theorem files_isP {l:List FileV} (h:checkFilesS l=0):∀ x∈l,IsP x.path:=by
 intro x hx
 obtain ⟨i,hi⟩:=List.getElem?_of_mem hx
 exact (filesErr_step none (checkFiles_err h).2.1 i x hi).2.1
theorem putFile_last {l:List FileV} {x:FileV} (h:ByPath FileV.path (l ++ [x])):putFileS l x=l ++ [x]:=by
 have h1:∀ y∈l,ltS y.path x.path=true:=fun y hy=>(List.pairwise_append.1 h).2.2 y hy x (by simp)
 have h2:l.filter (fun y=>ltS y.path x.path)=l:=List.filter_eq_self.2 h1
 have h3:l.filter (fun y=>ltS x.path y.path)=[]:=by
  rw [List.filter_eq_nil_iff]
  intro y hy h4
  have:=ltS_trans (h1 y hy) h4
  rw [ltS_irrefl] at this
  cases this
 rw [putFileS,h2,h3,List.append_nil]
theorem putFile_take {F:List FileV} {k:Nat} {x:FileV} (h:ByPath FileV.path F) (hx:F[k]?=some x):putFileS (F.take k) x=F.take (k + 1):=by
 have e:F.take (k + 1)=F.take k ++ [x]:=by rw [List.take_add_one,hx]; rfl
 rw [e]
 refine putFile_last ?_
 rw [←e]
 exact List.Pairwise.sublist (List.take_sublist _ _) h
theorem findBy_mem {α:Type} {key:α→ByteArray}:∀ {l:List α},ByPath key l→∀ x∈l,findBy key l (key x).data.toList=some x
 | [],_,x,hx=>by cases hx
 | y :: l,h,x,hx=>by
   have hp:=List.pairwise_cons.1 h
   unfold findBy
   rw [List.find?_cons]
   rcases List.mem_cons.1 hx with rfl | hx
   ·simp
   ·have h1:((key y).data.toList == (key x).data.toList)=false:=by
     have:=ltS_ne (hp.1 x hx)
     simpa using this
    rw [h1]
    exact findBy_mem hp.2 x hx
theorem keyL_at {l:List Look} (h:ByPath Look.path l) {k:Nat} {x:Look} (hx:l[k]?=some x):keyL l x.path.data.toList=some x:=by
 rw [keyL_by]; exact findBy_mem h x (List.mem_of_getElem? hx)
theorem keyF_at {l:List FileV} (h:ByPath FileV.path l) {k:Nat} {x:FileV} (hx:l[k]?=some x):keyF l x.path.data.toList=some x:=by
 rw [keyF_by]; exact findBy_mem h x (List.mem_of_getElem? hx)
section
variable {P:Program} {k:TypeId} {w w':World} {S:Nat→Prop} {m n:Nat} {l:List FileV} {q:List Look}
theorem FilesIn.call (h:FilesIn P k w S m n l) (hb:Below w.heap.size w w') (hS:∀ k,S k→k < w.heap.size):FilesIn P k w' S m n l:=h.keep (hb.block m h.lt) fun k hk=>hb.block k (hS k hk)
theorem looks_keys {ks:List ByteArray} (h:KeysAre (fun key=>(keyL q key).map lookVal) ks) (hq:ByPath Look.path q) (hs:∀ x∈q,x.path.size≤maxLen):ks=q.map Look.path :=
 keys_by h hq (fun k=>by rw [←keyL_by]; cases keyL q k <;> rfl) hs
theorem files_keys {f:List UInt8→Option Value} {ks:List ByteArray} (h:KeysAre f ks) (hf:∀ key,match keyF l key with
 | none=>f key=none
 | some x=>∃ v,f key=some v∧FileVal w S x v) (hl:ByPath FileV.path l) (hs:∀ x∈l,x.path.size≤maxLen):ks=l.map FileV.path :=
 keys_by h hl (fun k=>by
  have h1:=hf k
  rw [←keyF_by]
  cases hk:keyF l k with
  | none=>rw [hk] at h1; simp only at h1; rw [h1]; rfl
  | some x=>rw [hk] at h1; obtain ⟨v,h1,_⟩:=h1; rw [h1]; rfl) hs
theorem map_at {α β:Type} {f:α→β} {l:List α} {k:Nat} {y:β} (h:(l.map f)[k]?=some y):∃ x,l[k]?=some x∧f x=y:=by
 rw [List.getElem?_map] at h
 cases hx:l[k]? with
 | none=>rw [hx] at h; cases h
 | some x=>rw [hx] at h; cases h; exact ⟨x,rfl,rfl⟩
end
theorem start_maps (w1:World) (o:Obj) (S:Nat→Prop) (hS:∀ k,S k→k < w1.heap.size):Below w1.heap.size w1 ((((w1.alloc (.map #[] 0)).alloc (.map #[] 0)).alloc (.map #[] 0)).alloc o)∧((((w1.alloc (.map #[] 0)).alloc (.map #[] 0)).alloc (.map #[] 0)).alloc o).heap.size=w1.heap.size + 4 ∧
 FilesIn Tryz.prog 9 ((((w1.alloc (.map #[] 0)).alloc (.map #[] 0)).alloc (.map #[] 0)).alloc o) S w1.heap.size 0 [] ∧
 FilesIn Tryz.prog 9 ((((w1.alloc (.map #[] 0)).alloc (.map #[] 0)).alloc (.map #[] 0)).alloc o) S (w1.heap.size + 1) 0 [] ∧
 LooksIn Tryz.prog 9 ((((w1.alloc (.map #[] 0)).alloc (.map #[] 0)).alloc (.map #[] 0)).alloc o) (w1.heap.size + 1 + 1) 0 [] ∧
 ((((w1.alloc (.map #[] 0)).alloc (.map #[] 0)).alloc (.map #[] 0)).alloc o).heap[w1.heap.size + 1 + 1 + 1]?=some o:=by
 have b1:=fr_alloc (fr_refl w1) (.map #[] 0)
 have b2:=fr_alloc (fr_refl (w1.alloc (.map #[] 0))) (.map #[] 0)
 have b3:=fr_alloc (fr_refl ((w1.alloc (.map #[] 0)).alloc (.map #[] 0))) (.map #[] 0)
 have b4:=fr_alloc (fr_refl (((w1.alloc (.map #[] 0)).alloc (.map #[] 0)).alloc (.map #[] 0))) o
 have s1:(w1.alloc (.map #[] 0)).heap.size=w1.heap.size + 1:=World.size_alloc ..
 have s2:((w1.alloc (.map #[] 0)).alloc (.map #[] 0)).heap.size=w1.heap.size + 1 + 1:=by rw [World.size_alloc,s1]
 have s3:(((w1.alloc (.map #[] 0)).alloc (.map #[] 0)).alloc (.map #[] 0)).heap.size=w1.heap.size + 1 + 1 + 1:=by rw [World.size_alloc,s2]
 have m1:=FilesIn.made (P:=Tryz.prog) (k:=9) w1 S
 have m2:=FilesIn.made (P:=Tryz.prog) (k:=9) (w1.alloc (.map #[] 0)) S
 have m3:=LooksIn.made (P:=Tryz.prog) (k:=9) ((w1.alloc (.map #[] 0)).alloc (.map #[] 0))
 have o4:=heap_alloc_new (((w1.alloc (.map #[] 0)).alloc (.map #[] 0)).alloc (.map #[] 0)) o
 rw [s1] at m2
 rw [s2] at m3
 rw [s3] at o4
 refine ⟨fr_alloc (fr_alloc (fr_alloc b1 _) _) _,by rw [World.size_alloc,s3],?_,?_,?_,o4⟩
 ·exact ((m1.call b2 fun k hk=>by have:=hS k hk; omega).call b3 fun k hk=>by have:=hS k hk; omega).call b4 fun k hk=>by have:=hS k hk; omega
 ·exact (m2.call b3 fun k hk=>by have:=hS k hk; omega).call b4 fun k hk=>by have:=hS k hk; omega
 ·exact MapIs.call m3 b4
theorem FilesIn.empty {P:Program} {k:TypeId} {w:World} {S S':Nat→Prop} {m n:Nat} (h:FilesIn P k w S m n []):FilesIn P k w S' m n []:=by
 obtain ⟨f,h1,h2⟩:=h
 exact ⟨f,h1,fun key=>h2 key⟩
theorem wk_start {w1 wr:World} {a:ActionV} {q:ActP} {F:List FileV} (hE:Env2 wr) (hG:8≤w1.heap.size) (ha:ActS wr (Lt w1.heap.size) a q) (hin:FilesIn Tryz.prog 9 wr (Lt w1.heap.size) w1.heap.size F.length F)
 (hblk:Arr wr (w1.heap.size + 1 + 1 + 1) 215 (wkCells a q w1.heap.size (w1.heap.size + 1) (w1.heap.size + 1 + 1) ⟨#[]⟩ 0)) (hwr:FilesIn Tryz.prog 9 wr (OffW (w1.heap.size + 1 + 1 + 1) w1.heap.size (w1.heap.size + 1) (w1.heap.size + 1 + 1) wr) (w1.heap.size + 1) 0 [])
 (hlo:LooksIn Tryz.prog 9 wr (w1.heap.size + 1 + 1) 0 []) (hn:F.length≤1000) (hs:∀ y∈F,y.bytes.length≤100000) :
 Wk wr (OffW (w1.heap.size + 1 + 1 + 1) w1.heap.size (w1.heap.size + 1) (w1.heap.size + 1 + 1) wr) w1.heap.size (w1.heap.size + 1 + 1 + 1) w1.heap.size (w1.heap.size + 1) (w1.heap.size + 1 + 1) q a F 0 startS:=by
 have hl:=hblk.lt
 exact ⟨hE,hG,hblk,ha,hin,hwr.empty,hlo,ExOk.start a F,by omega,by omega,fun k hk=>by have:k < w1.heap.size:=hk; unfold OffW; omega,fun k hk=>hk,hn,hs⟩
end Go.Proofs.Sm
