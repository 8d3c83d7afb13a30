/- After any changes of the files, with what was remembered before, a build makes what it makes from nothing, without commands list, if no two contents have one digest: the given statement, for all arguments; no condition. -/
import Derived.Test.YtaabdbephemboaaGreatDoorBx1
import Derived.Test.YtaabdbephemboaaGreatDoorBx2
import Derived.Test.YtaabdbephemboaaGreatDoorBx3
import Derived.Test.YtaabdbephemboaaGreatDoorBx4
import Derived.Test.YtaabdbephemboaaGreatDoorBx5
import Derived.Test.YtaabdbephemboaaGreatDoorBx6
import Derived.Test.YtaabdbephemboaaGreatDoorBx7
import Derived.Test.YtaabdbephemboaaGreatDoorBx8
import Derived.Test.YtaabdbephemboaaGreatDoorBx9
import Derived.Test.YtaabdbephemboaaGreatDoorBx10
import Derived.Test.YtaabdbephemboaaGreatDoorBx11
import Derived.Test.YtaabdbephemboaaGreatDoorBx12
import Derived.Test.YtaabdbephemboaaGreatDoorBx13
import Derived.Test.YtaabdbephemboaaGreatDoorBx14
import Derived.Test.YtaabdbephemboaaGreatDoorBx15
import Derived.Test.YtaabdbephemboaaGreatDoorBx16
import Derived.Test.YtaabdbephemboaaGreatDoorBx17
import Derived.Test.YtaabdbephemboaaGreatDoorBx18
import Derived.Test.YtaabdbephemboaaGreatDoorBx19
import Derived.Test.YtaabdbephemboaaGreatDoorBx20
import Derived.Test.YtaabdbephemboaaGreatDoorBx21
import Derived.Test.YtaabdbephemboaaGreatDoorBx22
import Derived.Test.YtaabdbephemboaaGreatDoorBx23
import Derived.Test.YtaabdbephemboaaGreatDoorBx24
import Derived.Test.YtaabdbephemboaaGreatDoorBx25
import Derived.Test.YtaabdbephemboaaGreatDoorBx26
import Derived.Test.YtaabdbephemboaaGreatDoorBx27
import Derived.Test.YtaabdbephemboaaGreatDoorBx28
import Derived.Test.YtaabdbephemboaaGreatDoorBx29
import Derived.Test.YtaabdbephemboaaGreatDoorBx30
import Derived.Test.YtaabdbephemboaaGreatDoorBx31
import Derived.Test.YtaabdbephemboaaGreatDoorBx32
import Derived.Test.YtaabdbephemboaaGreatDoorBx33
import Derived.Test.YtaabdbephemboaaGreatDoorBx34
import Derived.Test.YtaabdbephemboaaGreatDoorBx35
import Derived.Test.YtaabdbephemboaaGreatDoorBx36
import Derived.Test.YtaabdbephemboaaGreatDoorT23x2
import Derived.Deep.RegionHeld3
import Derived.BigRegion
import Derived.Test.YtaabdbephemboaaGreatDoorCardZRC23
namespace Go.Proofs.Sm
open Go.RowKit
set_option maxHeartbeats 0 in
set_option maxRecDepth 100000 in
theorem law_fresh (A B D C E:Option Addr) (n c m d nd cd nw cw no co:Nat) (l:List RuleV) (F G:List FileV) (ws os:List ByteArray) (w:World) (hE:Env2 w) (hsl:Sl w (Lt w.heap.size) A n l) (hF:Sl w (Lt w.heap.size) B m F) (hG:Sl w (Lt w.heap.size) D nd G) (hws:Sl w (Lt w.heap.size) C nw ws) (hos:Sl w (Lt w.heap.size) E no os) :
 Calls Tryz.prog 3 #[.slice A n c,.slice B m d,.slice D nd cd,.slice C nw cw,.slice E no co] w fun e w'=>e=.returned (.bool true)∧Below w.heap.size w w':=by
 have HB:=Lib.hid (steps_Fresh A B E n c m d no co l F os w hE hsl hF hos)
 have HA:=Lib.hid (fun (w1:World) (hb:Below w.heap.size w w1) (A3:Option Addr) (n3 c3:Nat) (ms:List MemoryV) (h3:Sl w1 (Lt w1.heap.size) A3 n3 ms)=>steps_Again A D C A3 n c nd cd nw cw n3 c3 l G ws ms w1 (hE.then_ hb) (sl_call hsl hb (Nat.le_refl _)) (sl_call hG hb (Nat.le_refl _)) (sl_call hws hb (Nat.le_refl _)) h3)
 have HC:=Lib.hid (fun (w1:World) (hb:Below w.heap.size w w1)=>steps_Fresh A D C n c nd cd nw cw l G ws w1 (hE.then_ hb) (sl_call hsl hb (Nat.le_refl _)) (sl_call hG hb (Nat.le_refl _)) (sl_call hws hb (Nat.le_refl _)))
 have HLi:=Lib.hid (fun (w1:World) (hb:Below w.heap.size w w1)=>law6_lists A n c l w1 (sl_call hsl hb (Nat.le_refl _)))
 have HFs:=Lib.hid (fun (w1:World) (hb:Below w.heap.size w w1)=>sl_call hF hb (Nat.le_refl _))
 have HGs:=Lib.hid (fun (w1:World) (hb:Below w.heap.size w w1)=>sl_call hG hb (Nat.le_refl _))
 clear hsl hF hws hG hos
 go_enter Tryz.func3,Tryz.ntmps3
 go_wp2_with fail
 refine HB.out.mono ?_
 rintro e w1 ⟨A1,n1,c1,A2,n2,c2,A3,n3,c3,f,a,rfl,hbu,s1,_,s3,hma,hla,_,hb1⟩
 have hbx:=fr_alloc hb1 (.cells #[.slice A1 n1 c1,.slice A2 n2 c2,.slice A3 n3 c3] 28)
 have hbx1:=fr_alloc (fr_refl w1) (.cells #[.slice A1 n1 c1,.slice A2 n2 c2,.slice A3 n3 c3] 28)
 have hA1:Arr (w1.alloc (.cells #[.slice A1 n1 c1,.slice A2 n2 c2,.slice A3 n3 c3] 28)) w1.heap.size 28 [.slice A1 n1 c1,.slice A2 n2 c2,.slice A3 n3 c3]:=heap_alloc_new w1 _
 have s3:=sl_call s3 hbx1 (Nat.le_refl _)
 have HBu:=Lib.hid hbu
 have HN1:=Lib.hid s1.1
 have HMa:=Lib.hid hma
 have HLa:=Lib.hid hla
 clear s1 hbu hbx1 hma hla
 by_cases hf:f=0
 ·subst hf
  go_wp2_with fail
  refine (HA.out _ hbx A3 n3 c3 a.memory s3).mono ?_
  rintro e w2 ⟨A4,n4,c4,A5,n5,c5,A6,n6,c6,g,x,rfl,hx,t1,t2,t3,hmx,hlx,hsx,hb2⟩
  have hbb2:=fr_call hbx hb2
  have hb02:=fr_alloc hbb2 (.cells #[.slice A4 n4 c4,.slice A5 n5 c5,.slice A6 n6 c6] 28)
  have hby1:=fr_alloc (fr_refl w2) (.cells #[.slice A4 n4 c4,.slice A5 n5 c5,.slice A6 n6 c6] 28)
  have hA2:Arr (w2.alloc (.cells #[.slice A4 n4 c4,.slice A5 n5 c5,.slice A6 n6 c6] 28)) w2.heap.size 28 [.slice A4 n4 c4,.slice A5 n5 c5,.slice A6 n6 c6]:=heap_alloc_new w2 _
  have hA1:=hA1.call (fr_call hb2 hby1)
  have s3:=sl_call s3 (fr_call hb2 hby1) (Nat.le_refl _)
  have t1:=sl_call t1 hby1 (Nat.le_refl _)
  have t2:=sl_call t2 hby1 (Nat.le_refl _)
  have t3:=sl_call t3 hby1 (Nat.le_refl _)
  have HX:=Lib.hid hx
  have HMx:=Lib.hid hmx
  have HLx:=Lib.hid hlx
  clear hx hmx hlx hby1 hb2
  go_wp2_with fail
  refine (HC.out _ hb02).mono ?_
  rintro e w3 ⟨A7,n7,c7,A8,n8,c8,A9,n9,c9,g2,y,rfl,hy,r1,r2,r3,hmy,hly,hsy,hb3⟩
  have hb03:=fr_alloc (fr_call hb02 hb3) (.cells #[.slice A7 n7 c7,.slice A8 n8 c8,.slice A9 n9 c9] 28)
  have hbz1:=fr_alloc (fr_refl w3) (.cells #[.slice A7 n7 c7,.slice A8 n8 c8,.slice A9 n9 c9] 28)
  have hbz:=fr_call hb3 hbz1
  have hA3:Arr (w3.alloc (.cells #[.slice A7 n7 c7,.slice A8 n8 c8,.slice A9 n9 c9] 28)) w3.heap.size 28 [.slice A7 n7 c7,.slice A8 n8 c8,.slice A9 n9 c9]:=heap_alloc_new w3 _
  have hA1:=hA1.call hbz
  have hA2:=hA2.call hbz
  have s3:=sl_call s3 hbz (Nat.le_refl _)
  have t1:=sl_call t1 hbz (Nat.le_refl _)
  have t2:=sl_call t2 hbz (Nat.le_refl _)
  have t3:=sl_call t3 hbz (Nat.le_refl _)
  have r1:=sl_call r1 hbz1 (Nat.le_refl _)
  have r2:=sl_call r2 hbz1 (Nat.le_refl _)
  have r3:=sl_call r3 hbz1 (Nat.le_refl _)
  have HY:=Lib.hid hy
  have HMy:=Lib.hid hmy
  have HLy:=Lib.hid hly
  have HLL:=Lib.hid (HLi.out _ hb03)
  clear hy hmy hly hbz hbz1 hb3 HB HA HC HLi
  by_cases hg:g=0
  ·subst hg
   by_cases hg2:g2=0
   ·subst hg2
    go_wp2_with fail
    refine HLL.out.mono ?_
    rintro e wB ⟨bl,rfl,hno,hbl⟩
    have hb0B:=fr_call hb03 hbl
    cases bl
    ·have HNo:=Lib.hid (hno rfl)
     have hA1:=hA1.call hbl
     have hA2:=hA2.call hbl
     have hA3:=hA3.call hbl
     have s3:=sl_call s3 hbl (Nat.le_refl _)
     have t1:=sl_call t1 hbl (Nat.le_refl _)
     have t2:=sl_call t2 hbl (Nat.le_refl _)
     have t3:=sl_call t3 hbl (Nat.le_refl _)
     have r1:=sl_call r1 hbl (Nat.le_refl _)
     have r2:=sl_call r2 hbl (Nat.le_refl _)
     have r3:=sl_call r3 hbl (Nat.le_refl _)
     clear hno hbl
     have HK8:=Lib.hid (show ∀ w',Below wB.heap.size wB w'→(Below wB.heap.size wB w'∧w'.cell? ⟨w1.heap.size,2,none⟩=some (.slice A3 n3 c3)∧w'.cell? ⟨w2.heap.size,2,none⟩=some (.slice A6 n6 c6)∧w'.cell? ⟨w3.heap.size,2,none⟩=some (.slice A9 n9 c9)) from fun w' hw=>⟨hw,(hA1.call hw).cell (i:=2) rfl,(hA2.call hw).cell (i:=2) rfl,(hA3.call hw).cell (i:=2) rfl⟩)
     have hl1:=hA1.lt
     have hl2:=hA2.lt
     have hl3:=hA3.lt
     have HAr2:=Lib.hid hA2
     have HAr3:=Lib.hid hA3
     have hFm:m≤1000:=by rw [←(HFs.out _ hb0B).1]; exact (checkFiles_err HBu.out.filesOk).1
     have hGm:nd≤1000:=by rw [←(HGs.out _ hb0B).1]; exact (checkFiles_err HX.out.filesOk).1
     have hn3:n3≤500:=by rw [←s3.1]; exact HLa.out
     have hn6:n6≤500:=by rw [←t3.1]; exact HLx.out
     have hn9:n9≤500:=by rw [←r3.1]; exact HLy.out
     have HC1:=Lib.hid (fun w' (hb:Below wB.heap.size wB w')=>law6_contents B m d F A3 n3 c3 a.memory w' (Lt wB.heap.size) (fun k hk=>Nat.lt_of_lt_of_le hk hb.size) ((HFs.out _ hb0B).keep (keep_lt hb)) (s3.keep (keep_lt hb)) (by omega) (by omega) fun y hy=>(HMa.out y hy).1)
     have HC2:=Lib.hid (fun w' (hb:Below wB.heap.size wB w')=>clone_memory A6 n6 c6 x.memory w' (Lt wB.heap.size) (fun k hk=>Nat.lt_of_lt_of_le hk hb.size) (t3.keep (keep_lt hb)) (by omega))
     obtain ⟨i0,hi0,hz0,hz1,hz2⟩:=info_parts cl_memory_info
     obtain ⟨i1,hi1,hy0,hy1,hy2⟩:=info_parts row_info
     have HAp1:=Lib.hid (fun wP wQ v (hbP:Below wB.heap.size wB wP) (hbQ:Below wP.heap.size wP wQ) (hrow:RowK wQ wP.heap.size 43 (Lt wB.heap.size) v x.memory) =>
      run_append_any (A:=A9) (m:=n9) (c:=c9) (l2:=y.memory) 26 26 i0 _ 136 Tryz.underlying26 hi0 hz0 hz1 hz2 rfl (by decide) mem_ones8 hrow (fun g hg hh=>by have h1:=(hrow.kind g hg).1; have hh:g < wB.heap.size:=hh; have:=hbP.size; omega)
       (r3.keep (keep_lt (fr_call hbP hbQ))) (by have:=HLx.out; unfold maxLen; omega) (by have:=HLx.out; omega) hbQ.size)
     obtain ⟨XY,hXY⟩:∃ XY,XY=x.memory ++ y.memory:=⟨_,rfl⟩
     rw [←hXY] at HAp1
     have HXY:=Lib.hid hXY
     have HXm:=Lib.hid (show ∀ z∈XY,Mem2 z from fun z hz=>by rw [hXY] at hz; exact (List.mem_append.1 hz).elim (HMx.out z) (HMy.out z))
     have HXl:=Lib.hid (show XY.length≤1000 by rw [hXY,List.length_append]; have:=HLx.out; have:=HLy.out; omega)
     clear hXY
     have HC3:=Lib.hid (fun wP wR (hbP:Below wB.heap.size wB wP) (hbR:Below wP.heap.size wP wR) AR cR (hs:Sl wR (NewS (Lt wB.heap.size) wP wR) AR XY.length XY) =>
      law6_contents D nd cd G AR XY.length cR XY wR (NewS (Lt wB.heap.size) wP wR) (fun k hk=>hk.2) (((HGs.out _ hb0B).keep (keep_lt (fr_call hbP hbR))).more fun k hk=>⟨.inl hk,Nat.lt_of_lt_of_le hk (fr_call hbP hbR).size⟩) hs (by omega)
       HXl.out fun z hz=>(HXm.out z hz).1)
     have HL1:=Lib.hid (contents_len (ms:=a.memory) (checkFiles_err HBu.out.filesOk).1 (by have:=HLa.out; omega) HMa.out)
     have HL2:=Lib.hid (contents_len (ms:=XY) (checkFiles_err HX.out.filesOk).1 HXl.out HXm.out)
     obtain ⟨CF,hCF⟩:∃ CF,CF=contentsS F a.memory:=⟨_,rfl⟩
     obtain ⟨CG,hCG⟩:∃ CG,CG=contentsS G XY:=⟨_,rfl⟩
     have HCF:=Lib.hid hCF
     have HCG:=Lib.hid hCG
     unfold ContentsPost at HC1 HC3
     rw [←hCF] at HC1 HL1
     rw [←hCG] at HC3 HL2
     have HAp2:=Lib.hid (fun wP wR wS v AS cS (hbP:Below wB.heap.size wB wP) (hbR:Below wP.heap.size wP wR) (hbS:Below wR.heap.size wR wS) (hrow:RowK wP wB.heap.size 75 (Lt wB.heap.size) v CF) (hs:Sl wS (NewS (NewS (Lt wB.heap.size) wP wR) wR wS) AS CG.length CG) =>
      run_append_any (A:=AS) (m:=CG.length) (c:=cS) (l2:=CG) (K:=NewS (NewS (Lt wB.heap.size) wP wR) wR wS) (w:=wS) (B:=wB.heap.size) (v:=v) (l:=CF) 36 36 i1 _ 24 Tryz.underlying36 hi1 hy0 hy1 hy2 rfl (by decide) row_ones
       ((hrow.call (fr_call hbR hbS)).more (fun k hk=>⟨.inl ⟨.inl hk,Nat.lt_of_lt_of_le hk (fr_call hbP hbR).size⟩,Nat.lt_of_lt_of_le hk (fr_call (fr_call hbP hbR) hbS).size⟩) fun k hk=>hk.2)
       (fun g hg hh=>by
         have h1:=hrow.kind g hg
         have h2:=h1.2.lt
         have h3:=hbR.size
         rcases hh.1 with h4 | h4
         ·rcases h4.1 with h5 | h5
          ·have h5:g < wB.heap.size:=h5; have:=h1.1; omega
          ·omega
         ·omega)
       hs (by have:=HL1.out; have:=HL2.out; unfold maxLen; omega) (by have:=HL1.out; have:=HL2.out; omega) (fr_call (fr_call hbP hbR) hbS).size)
     obtain ⟨CA,hCA⟩:∃ CA,CA=CF ++ CG:=⟨_,rfl⟩
     rw [←hCA] at HAp2
     have HCA:=Lib.hid hCA
     clear hCA
     have HFa:=Lib.hid (fun wT AT cT (hs:Sl wT (Lt wT.heap.size) AT CA.length CA)=>ref1_Faithful AT CA.length cT CA wT hs)
     unfold FaithPost at HFa
     clear hCF hCG hA1 hA2 hA3 s3 t3 r3
     go_wp2
     go_region_held3 (fun w'=>(Below wB.heap.size wB w'∧w'.cell? ⟨w1.heap.size,2,none⟩=some (.slice A3 n3 c3)∧w'.cell? ⟨w2.heap.size,2,none⟩=some (.slice A6 n6 c6)∧w'.cell? ⟨w3.heap.size,2,none⟩=some (.slice A9 n9 c9)))
      (first | with_reducible assumption | with_reducible exact HK8.out _ hbU | with_reducible exact HK8.out _ hbT | with_reducible exact HK8.out _ hbS | with_reducible exact HK8.out _ hbR | with_reducible exact HK8.out _ hbQ | with_reducible exact HK8.out _ hbP | exact HK8.out _ (Below.drew (fr_refl wB)))
      (first
        | (guard_hyp hbPR; go_at_call 14; with_reducible refine (HC3.out wP wR hbP hbPR AR cR hsR).mono ?_; rintro e wS ⟨vS,rfl,hrS,hbRS⟩; have hbS:=fr_call hbR hbRS; obtain ⟨AS,cS,rfl,_,_,hsS⟩:=RowK.slNew (w:=wR) (S:=NewS (Lt wB.heap.size) wP wR) hrS fun k hk=>.inl hk)
        | (go_at_call 14; with_reducible refine (HC1.out _ (And.left (by assumption))).mono ?_; rintro e wP ⟨vP,rfl,hrP,hbP0⟩; have hbP:Below wB.heap.size wB wP:=fr_call (And.left (by assumption)) hbP0)
        | (go_at_call 15; with_reducible refine (HC2.out wP hbP).mono ?_; rintro e wQ ⟨vQ,rfl,hrQ,hbPQ⟩; have hbQ:=fr_call hbP hbPQ)
        | (guard_hyp hbT; go_at_call 13; with_reducible refine (HFa.out wT AT cT hsT).mono ?_; rintro e wU ⟨bF,rfl,hfa,hbTU⟩; have hbU:=fr_call hbT hbTU)
        | (guard_hyp hbRS
           obtain ⟨vT,wT,hstT,hrT,hgT⟩:=HAp2.out wP wR wS vP AS cS hbP hbPR hbRS hrP hsS
           have hbT:Below wB.heap.size wB wT:=hbS.grown hgT hbS.size (fun k hk=>(hrP.kind k hk).1)
           obtain ⟨AT,cT,rfl,_,_,hsT⟩:=hrT.sl
           refine step_append_at (s:=.tmp 75) (x:=.tmp 83) hstT rfl rfl rfl rfl rfl ?_)
        | (guard_hyp hbPQ
           obtain ⟨vR,wR,hstR,hrR,hgR⟩:=HAp1.out wP wQ vQ hbP hbPQ hrQ
           have hbPR:Below wP.heap.size wP wR:=hbPQ.grown hgR hbPQ.size (fun k hk=>(hrQ.kind k hk).1)
           have hbR:=fr_call hbP hbPR
           obtain ⟨AR,cR,rfl,_,_,hsR⟩:=RowK.slNew (w:=wP) (S:=Lt wB.heap.size) hrR fun k hk=>.inl hk
           refine step_append_at (s:=.tmp 79) (x:=.tmp 81) hstR rfl rfl rfl rfl rfl ?_))
     have hb0U:=fr_call hb0B hbU
     cases bF
     ·clear hfa
      go_wp2_with fail
      refine (law6_awake _ (hE.then_ hb0U).toEnv).mono ?_
      rintro e wz ⟨rfl,hbz⟩
      go_wp2
      go_ret
      exact ⟨rfl,fr_call hb0U hbz⟩
     ·have hFa:=hfa rfl
      rw [HCA.out,HCF.out,HCG.out,HXY.out] at hFa
      obtain ⟨hfl,hlen,hall⟩:=built_fresh HBu.out HX.out HY.out HNo.out hFa
      have HAll:=Lib.hid hall
      have bA2:=HAr2.out.call hbU
      have bA3:=HAr3.out.call hbU
      have u1:=sl_call t1 hbU (Nat.le_refl _)
      have u2:=sl_call t2 hbU (Nat.le_refl _)
      have v1:=sl_call r1 hbU (Nat.le_refl _)
      have v2:=sl_call r2 hbU (Nat.le_refl _)
      rw [hfl] at u2
      clear t1 t2 r1 r2
      obtain rfl:n5=n8:=u2.1.symm.trans v2.1
      obtain rfl:n4=n7:=by rw [←u1.1,←v1.1]; exact hlen
      have e20:=bA2.cell (i:=0) rfl
      have e21:=bA2.cell (i:=1) rfl
      have e30:=bA3.cell (i:=0) rfl
      have e31:=bA3.cell (i:=1) rfl
      have el2:=bA2.lt
      have el3:=bA3.lt
      have HSF:=Lib.hid (ref1_SameFiles A5 A8 n5 c5 c8 y.files wU u2 v2)
      clear hfa hFa hfl hlen hall u2 v2 hrP hrQ hrR hrS hrT hsR hsS hsT hstR hstT hgR hgT hbPQ hbRS hbPR hbTU hbP0
      go_wp2_with fail
      refine HSF.out.mono ?_
      rintro e wV ⟨rfl,hbV⟩
      have hb0V:=fr_call hb0U hbV
      have cA2:=bA2.call hbV
      have cA3:=bA3.call hbV
      have x1:=sl_call u1 hbV (Nat.le_refl _)
      have y1:=sl_call v1 hbV (Nat.le_refl _)
      clear bA2 bA3 u1 v1 e20 e30 el2 el3
      have e20:=cA2.cell (i:=0) rfl
      have e30:=cA3.cell (i:=0) rfl
      have el2:=cA2.lt
      have el3:=cA3.lt
      have hn49:n4≤9223372036854775807:=x1.2.1
      clear e21 e31
      go_wp2
      go_loopw [16] (fun iv wr=>∃ k:Nat,k≤n4∧iv=.int .i64 k∧Below wV.heap.size wV wr) (fun iv _=>n4 - (intOf iv).toNat)
      case atStart=>exact ⟨0,Nat.zero_le _,rfl,Below.refl _ _⟩
      case round =>
       clear e20 e30 el2 el3
       obtain ⟨k,hk,rfl,hbel⟩:=hrel
       have e20:=(cA2.call hbel).cell (i:=0) rfl
       have e30:=(cA3.call hbel).cell (i:=0) rfl
       have el2:=(cA2.call hbel).lt
       have el3:=(cA3.call hbel).lt
       by_cases hlt:k < n4
       ·have hkI:(k:Int) < (n4:Int):=by omega
        obtain ⟨g5,o5,p,rfl,hg5,hp,_,_,d0,d1,d2⟩:=(sl_call x1 hbel (Nat.le_refl _)).step hlt
        obtain ⟨g6,o6,q,rfl,hg6,hq,_,_,f0,f1,f2⟩:=(sl_call y1 hbel (Nat.le_refl _)).step hlt
        obtain ⟨hnm,hwh⟩:=HAll.out k p q hp hq
        have hg5':g5 < wr.heap.size:=hg5
        have hg6':g6 < wr.heap.size:=hg6
        clear hp hq
        go_wp2
        have hzr:=hbel.size
        rcases Decidable.em (p.what=2) with hw | hw
        ·have hq1:q.what=1:=by rw [←hwh,if_pos hw]
         clear hwh
         go_region
         all_goals
          go_wp2
          go_roundw
          case rel=>exact ⟨k + 1,by omega,by go_num,by repeat (first | exact hbel | refine fr_alloc ?_ _ | refine fr_set ?_ (by simp; omega) _ | refine Below.drew ?_)⟩
          case measure=>simp [intOf]; omega
        ·have hq1:q.what=p.what:=by rw [←hwh,if_neg hw]
         clear hwh
         go_region
         all_goals
          go_wp2
          go_roundw
          case rel=>exact ⟨k + 1,by omega,by go_num,by repeat (first | exact hbel | refine fr_alloc ?_ _ | refine fr_set ?_ (by simp; omega) _ | refine Below.drew ?_)⟩
          case measure=>simp [intOf]; omega
       ·go_wp2_with fail
        refine (law6_awake _ (hE.then_ (fr_call hb0V hbel)).toEnv).mono ?_
        rintro e wz ⟨rfl,hbz⟩
        go_wp2
        go_ret
        exact ⟨rfl,fr_call (fr_call hb0V hbel) hbz⟩
    ·clear hno
     go_wp2_with fail
     refine (law6_awake _ (hE.then_ hb0B).toEnv).mono ?_
     rintro e wz ⟨rfl,hbz⟩
     go_wp2
     go_ret
     exact ⟨rfl,fr_call hb0B hbz⟩
   ·have hgz:(g2 == 0)=false:=by simpa using hg2
    have hgb:(g2 != 0)=true:=by simpa using hg2
    clear hg2
    go_wp2_with fail
    refine (law6_awake _ (hE.then_ hb03).toEnv).mono ?_
    rintro e wz ⟨rfl,hbz⟩
    go_wp2
    go_ret
    exact ⟨rfl,fr_call hb03 hbz⟩
  ·have hgz:(g == 0)=false:=by simpa using hg
   have hgb:(g != 0)=true:=by simpa using hg
   have hem:=HX.out.empty hg
   obtain rfl:n4=0:=by have:=t1.1; rw [hem] at this; exact this.symm
   have hA2':=hA2
   have e0:=hA2.cell (i:=0) rfl
   have el:=hA2.lt
   clear hem hg
   go_wp2_with fail
   refine (law6_awake _ (hE.then_ hb03).toEnv).mono ?_
   rintro e wz ⟨rfl,hbz⟩
   go_wp2
   go_ret
   exact ⟨rfl,fr_call hb03 hbz⟩
 ·have hfz:(f == 0)=false:=by simpa using hf
  have hem:=(HBu.out).empty hf
  obtain rfl:n1=0:=by have:=HN1.out; rw [hem] at this; exact this.symm
  clear hem hf HBu
  go_wp2_with fail
  refine (law6_awake _ (hE.then_ hbx).toEnv).mono ?_
  rintro e wz ⟨rfl,hbz⟩
  go_wp2
  go_ret
  exact ⟨rfl,fr_call hbx hbz⟩
end Go.Proofs.Sm
namespace Go.Proofs.YtaabdbephemboaaGreatDoor.fresh
open Go.ChangeShapes Go.WideShapes Go.ChangeAt Go.RowKit Go.Proofs.Sm
noncomputable def laidWorld (os:Os):World:=errWorld (tableWorld os [(2,Rows.laid_unicode_utf8_first),(3,Rows.laid_unicode_utf8_acceptRanges),(1,Rows.laid_internal_strconv_uint64pow10),(6,Rows.laid_math_bits_deBruijn32tab),(7,Rows.laid_math_bits_deBruijn64tab)])
 322 324 [(5,[118,97,108,117,101,32,111,117,116,32,111,102,32,114,97,110,103,101]),(4,[105,110,118,97,108,105,100,32,115,121,110,116,97,120])]
theorem laid_met (os:Os) (args:Array Value):laidMet Tryz.prog Rows.stepsAgainIsFreshRow.laid ((laidWorld os).forCall (fun _ _=>0) ⟨#[],args,[]⟩).memory :=
 (LaidIn.of_run (l:=Rows.stepsAgainIsFreshRow.laid) (List.range 30) 8 (by kernel_rfl) (by kernel_rfl) (by kernel_rfl) (by kernel_rfl)).met
theorem reads (os:Os) {H:Type} (enc:TypeId × Value→H):∃ ds places,DataW.whole enc Tryz.prog ((laidWorld os).forCall (fun _ _=>0) ⟨#[],#[.slice none 0 0,.slice none 0 0,.slice none 0 0,.slice none 0 0,.slice none 0 0],[]⟩).memory Tryz.f3.params.toList Rows.stepsAgainIsFreshSpec.vars false #[Value.slice none 0 0,Value.slice none 0 0,Value.slice none 0 0,Value.slice none 0 0,Value.slice none 0 0].toList 8=some (ds,[],places) :=
 ⟨[.nil,.nil,.nil,.nil,.nil],[],by kernel_rfl⟩
set_option maxRecDepth 100000 in
theorem contract (H:Type) (enc:TypeId × Value→H) (W:World) (base:Nat) (args:Array Value) (ds gs:List (DataW H)) (before:List MemPlace)
 (hval:∀ (j:Nat) t v,Tryz.f3.params[j]?=some t→args[j]?=some v→Value.okWide Tryz.prog W .any base t v)
 (hW:DataW.Whole enc Tryz.prog Tryz.f3.params.toList Rows.stepsAgainIsFreshSpec.vars false W args.toList ds gs before) (hE:Env2 W) :
 Calls Tryz.prog 3 args W fun e W'=>∃ v,e=.returned v∧Rows.stepsAgainIsFreshSpec.post enc Tryz.prog Tryz.f3 false true false false W args v W':=by
 have hW':=hW
 obtain ⟨p,q,hA0,hV,rfl,hfz,hnd⟩:=hW
 have hA:DataW.TrodAll enc Tryz.prog W 0 (fun _=>true) true Tryz.f3.params.toList args.toList ds p:=hA0
 rw [Tryz.params3] at hA hval
 obtain ⟨v0,vs0,d0,ds0,p0,q0,hargs,rfl,rfl,h0,r0⟩:=trodAll_cons hA
 obtain ⟨v1,vs1,d1,ds1,p1,q1,rfl,rfl,rfl,h1,r1⟩:=trodAll_cons r0
 obtain ⟨v2,vs2,d2,ds2,p2,q2,rfl,rfl,rfl,h2,r2⟩:=trodAll_cons r1
 obtain ⟨v3,vs3,d3,ds3,p3,q3,rfl,rfl,rfl,h3,r3⟩:=trodAll_cons r2
 obtain ⟨v4,vs4,d4,ds4,p4,q4,rfl,rfl,rfl,h4,r4⟩:=trodAll_cons r3
 obtain ⟨rfl,rfl,rfl⟩:=trodAll_nil r4
 obtain rfl:args=#[v0,v1,v2,v3,v4]:=by cases args; simp_all
 obtain ⟨rfl,rfl⟩:=trodVars_none hV
 have k0:=h0
 have lt0:∀ x∈p0,x.block < W.heap.size:=by obtain ⟨m,hm⟩:=k0; exact DataW.trod_lt m _ _ _ hm
 have k1:=h1
 have lt1:∀ x∈p1,x.block < W.heap.size:=by obtain ⟨m,hm⟩:=k1; exact DataW.trod_lt m _ _ _ hm
 have k2:=h2
 have lt2:∀ x∈p2,x.block < W.heap.size:=by obtain ⟨m,hm⟩:=k2; exact DataW.trod_lt m _ _ _ hm
 have k3:=h3
 have lt3:∀ x∈p3,x.block < W.heap.size:=by obtain ⟨m,hm⟩:=k3; exact DataW.trod_lt m _ _ _ hm
 have k4:=h4
 have lt4:∀ x∈p4,x.block < W.heap.size:=by obtain ⟨m,hm⟩:=k4; exact DataW.trod_lt m _ _ _ hm
 obtain ⟨A0,n0,c0,l0,rfl,hs0⟩:=arg_slice dec_rules (okWide_slice Tryz.underlying22 (hval 0 22 v0 rfl rfl)) h0
 obtain ⟨A1,n1,c1,l1,rfl,hs1⟩:=arg_slice dec_files (okWide_slice Tryz.underlying23 (hval 1 23 v1 rfl rfl)) h1
 obtain ⟨A2,n2,c2,l2,rfl,hs2⟩:=arg_slice dec_files (okWide_slice Tryz.underlying23 (hval 2 23 v2 rfl rfl)) h2
 obtain ⟨A3,n3,c3,l3,rfl,hs3⟩:=arg_slice dec_strs (okWide_slice Tryz.underlying24 (hval 3 24 v3 rfl rfl)) h3
 obtain ⟨A4,n4,c4,l4,rfl,hs4⟩:=arg_slice dec_strs (okWide_slice Tryz.underlying24 (hval 4 24 v4 rfl rfl)) h4
 clear hA0
 refine (law_fresh A0 A1 A2 A3 A4 n0 c0 n1 c1 n2 c2 n3 c3 n4 c4 l0 l1 l2 l3 l4 W hE hs0 hs1 hs2 hs3 hs4).mono fun e W' ⟨he,bel⟩=>?_
 subst he
 exact ⟨_,rfl,_,_,_,[],_,[],hW',trodAll_mk1 (shut_bool Tryz.underlying4 _),(trodAll_cons_mk (Below.trod laidOut (by kernel_rfl) (of_decide_eq_true (by kernel_rfl)) k0 bel lt0) (trodAll_cons_mk (Below.trod laidOut (by kernel_rfl) (of_decide_eq_true (by kernel_rfl)) k1 bel lt1) (trodAll_cons_mk (Below.trod laidOut (by kernel_rfl) (of_decide_eq_true (by kernel_rfl)) k2 bel lt2) (trodAll_cons_mk (Below.trod laidOut (by kernel_rfl) (of_decide_eq_true (by kernel_rfl)) k3 bel lt3) (trodAll_cons_mk (Below.trod laidOut (by kernel_rfl) (of_decide_eq_true (by kernel_rfl)) k4 bel lt4) trodAll_mk0))))),rfl,bel.frame _,fun h=>by cases h⟩
set_option maxRecDepth 100000 in
theorem lifted (os:Os) (started:os.Started) (H:Type) (enc:TypeId × Value→H) (F:Stop.Interp) :
 ReturnsInHanded {} Tryz.checked os 3 .any ((OpenSpec.ofChange Rows.stepsAgainIsFreshSpec).preRow enc Tryz.prog Tryz.f3 Rows.stepsAgainIsFreshRow.domain false Rows.stepsAgainIsFreshRow.laid) (((OpenSpec.ofChange Rows.stepsAgainIsFreshSpec).at F).post enc Tryz.prog Tryz.f3 false true false false):=by
 obtain ⟨d,places,hx⟩:=reads os enc
 refine returnsInHanded_of_row (C:=Tryz.checked) (s:=OpenSpec.ofChange Rows.stepsAgainIsFreshSpec) own started (by kernel_rfl) Tryz.func3
  (witness_row_atRef (enc:=enc) (C:=Tryz.checked) false (laidWorld os) #[.slice none 0 0,.slice none 0 0,.slice none 0 0,.slice none 0 0,.slice none 0 0] rfl (by kernel_rfl) (by kernel_rfl) (by kernel_rfl)
    (OpenSpec.preRow_of_cond 8 hx (by kernel_rfl) (fun k hk=>by cases hk) (by kernel_rfl) (laid_met os _))) ?_
 intro W base args ds gs before hval hW _ _ _ hL hS _
 exact contract H enc W base args ds gs before hval hW (env2_of hL hS (by simp [Rows.stepsAgainIsFreshRow,Rows.laid_unicode_utf8_first]) (by simp [Rows.stepsAgainIsFreshRow]) (by simp [Rows.stepsAgainIsFreshRow]))
theorem said:Rows.StepsAgainIsFreshSaid :=
 OpenClaim.holds_of_cond 3 Tryz.f3 rfl rfl rfl rfl rfl rfl rfl ⟨rfl,rfl,rfl,rfl,rfl⟩ rfl rfl rfl rfl rfl (by kernel_rfl) Tryz.func3 closed
  (of_decide_eq_true (by as_aux_lemma=>kernel_rfl)) (by unfold Func.isWrapper; first | (rw [if_pos (by decide +kernel)]; kernel_rfl) | (rw [if_neg (by decide +kernel)]; exact ⟨rfl,rfl⟩))
  (fun os started H enc _ F=>by rw [OpenClaim.pre_eq_preRow]; exact lifted os started H enc F)
theorem plain (f:FuncId) (fn:Func) (hf:Tryz.pinned.checked.prog.funcNamed Rows.stepsAgainIsFreshRow.func=some f) (hfn:Tryz.pinned.checked.prog.funcs[f]?=some fn) :
 true=Tryz.pinned.checked.prog.looks []∧∀ (j:Nat) t,fn.params[j]?=some t→Tryz.pinned.checked.prog.wantsStandIn t=false:=by
 obtain rfl:f=3:=Option.some.inj ((show Tryz.prog.funcNamed Rows.stepsAgainIsFreshRow.func=some 3 by kernel_rfl).symm.trans hf) |>.symm
 obtain rfl:fn=Tryz.f3:=(Option.some.inj (Tryz.func3.symm.trans hfn)).symm
 refine ⟨by kernel_rfl,fun j t ht=>?_⟩
 rw [Tryz.params3] at ht
 have hm:t=22∨t=23∨t=23∨t=24∨t=24:=by simpa using Array.mem_of_getElem? ht
 rcases hm with rfl | rfl | rfl | rfl | rfl
 ·exact (show Tryz.prog.wantsStandIn 22=false by kernel_rfl)
 ·exact (show Tryz.prog.wantsStandIn 23=false by kernel_rfl)
 ·exact (show Tryz.prog.wantsStandIn 23=false by kernel_rfl)
 ·exact (show Tryz.prog.wantsStandIn 24=false by kernel_rfl)
 ·exact (show Tryz.prog.wantsStandIn 24=false by kernel_rfl)
theorem card:Rows.StepsAgainIsFreshCardSaid :=
 Claim7.holds_tied_plain_at .later [] _ _ _ _ said (fun _ h=>by cases h) (by as_aux_lemma=>kernel_rfl) (fun _ h=>by cases h) stepsAgainIsFresh_row_tie rfl ⟨rfl,rfl⟩ (by as_aux_lemma=>kernel_rfl) rfl plain (by as_aux_lemma=>kernel_rfl)
end Go.Proofs.YtaabdbephemboaaGreatDoor.fresh
