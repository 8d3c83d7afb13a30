/- Words and walks that the claims share, part 36. -/
import Derived.Test.YtaabdbephemboaaGreatDoorBx5
import Derived.Test.YtaabdbephemboaaGreatDoorBx7
import Derived.Test.YtaabdbephemboaaGreatDoorBx9
import Derived.Test.YtaabdbephemboaaGreatDoorBx34
import Derived.Test.YtaabdbephemboaaGreatDoorBx35
import Derived.Test.YtaabdbephemboaaGreatDoorCards
import Derived.Test.YtaabdbephemboaaGreatDoorTie
import Derived.OpenShut
import Derived.ShutString
import Derived.ChangeOld
import Derived.Deep.DeepHandedRow
import Derived.Deep.DeepWitnessRowRef
import Derived.Lib.LaidU8
import Derived.Lib.LaidTab
import Derived.Lib.LaidIn
namespace Go.Proofs.Sm
open Go.RowKit Go.Maps
def BuildPost (l:List RuleV) (F:List FileV) (ws:List ByteArray) (ms:List MemoryV) (W:World) (e:Ending) (w':World):Prop :=
 ∃ A1 n1 c1 A2 n2 c2 A3 n3 c3 f b,e=.returned (.tuple #[.agg #[.slice A1 n1 c1,.slice A2 n2 c2,.slice A3 n3 c3],.int .i64 f])∧BuildIs l F ws ms f b ∧
  Sl w' (Lt w'.heap.size) A1 n1 b.steps∧Sl w' (Lt w'.heap.size) A2 n2 b.files∧Sl w' (Lt w'.heap.size) A3 n3 b.memory∧(∀ y∈b.memory,Mem2 y)∧b.memory.length≤500∧b.steps.length≤1000∧Below W.heap.size W w'
theorem sl_zero {α:Type} [Rep α] {w:World} {S:Nat→Prop} {A:Option Addr}:Sl w S A 0 ([]:List α):=⟨rfl,Nat.zero_le _,fun h=>absurd h (by omega)⟩
theorem BuildPost.empty {l:List RuleV} {F:List FileV} {ws:List ByteArray} {ms:List MemoryV} {W w':World} {f:Int} (h:BuildIs l F ws ms f ⟨[],[],[]⟩) (hb:Below W.heap.size W w'):BuildPost l F ws ms W (.returned (.tuple #[.agg #[.slice none 0 0,.slice none 0 0,.slice none 0 0],.int .i64 f])) w' :=
 ⟨none,0,0,none,0,0,none,0,0,f,⟨[],[],[]⟩,rfl,h,Sl.nil,Sl.nil,Sl.nil,fun _ h=>absurd h List.not_mem_nil,Nat.zero_le _,Nat.zero_le _,hb⟩
theorem end_kept {l:List RuleV} {ws:List ByteArray} {s:BSt} (h:endErr l ws s=0):s.kept.length≤500:=by
 unfold endErr at h
 split at h
 ·cases h
 ·rename_i h1; exact Nat.not_lt.1 fun e=>h1 (.inr e)
theorem BuildPost.of {l:List RuleV} {F:List FileV} {ws:List ByteArray} {ms:List MemoryV} {W W0 w':World} {order:List Nat} {e:Ending} (h0:buildErr0 l F ws ms=0) (hp:PlanIs l ws order) (h1:(runB l F ms order).1=0) (hm:∀ y∈(runB l F ms order).2.kept,Mem2 y) (hst:(runB l F ms order).2.steps.length≤1000)
 {p:BdP} {n:Nat} {mem:List MemoryV} {u:Value} {M:Nat} (h:GotPost W0 p n mem u M (runB l F ms order).2 l ws e w') (hb:Below W.heap.size W w'):BuildPost l F ws ms W e w':=by
 obtain ⟨A1,n1,c1,A2,n2,c2,A3,n3,c3,rfl,hg,hbad,_⟩:=h
 by_cases he:endErr l ws (runB l F ms order).2=0
 ·obtain ⟨s1,s2,s3,_⟩:=hg he
  exact ⟨A1,n1,c1,A2,n2,c2,A3,n3,c3,_,_,rfl,BuildIs.of2 h0 hp h1 (fun e=>absurd he e) (fun _=>rfl),s1,s2,s3,hm,end_kept he,hst,hb⟩
 ·obtain ⟨rfl,rfl,rfl⟩:=hbad he
  exact ⟨A1,0,c1,A2,0,c2,A3,0,c3,_,⟨[],[],[]⟩,rfl,BuildIs.of2 h0 hp h1 (fun _=>rfl) (fun e=>absurd e he),sl_zero,sl_zero,sl_zero,fun _ h=>absurd h List.not_mem_nil,Nat.zero_le _,Nat.zero_le _,hb⟩
theorem planErr_many {l:List RuleV} {ws:List ByteArray} (h:planErr l ws=0):ws.length≤500:=by
 unfold planErr at h
 split at h
 ·contradiction
 split at h
 ·cases h
 ·rename_i h1; omega
theorem Arr.nils {w:World} {B:Nat} {ty:TypeId} (h:Arr w B ty [.slice none 0 0,.slice none 0 0,.slice none 0 0]):∀ o v,w.cell? ⟨B,o,none⟩=some v→v=.slice none 0 0:=by
 intro o v hv
 match o with
 | 0=>rw [h.cell (i:=0) rfl] at hv; exact (Option.some.inj hv).symm
 | 1=>rw [h.cell (i:=1) rfl] at hv; exact (Option.some.inj hv).symm
 | 2=>rw [h.cell (i:=2) rfl] at hv; exact (Option.some.inj hv).symm
 | o + 3 =>
   unfold Arr at h
   simp [World.cell?,h] at hv
section
variable {w:World} {S:Nat→Prop} {A:Option Addr} {n B:Nat}
theorem avoid_of {α:Type} [Rep α] {l:List α} (hB:∀ o v,w.cell? ⟨B,o,none⟩=some v→v=.slice none 0 0) (h1:∀ (x:α) vs,Rep.rep w S x vs→∃ u,vs[0]?=some u∧u≠.slice none 0 0)
 (h2:∀ (x:α) vs,Rep.rep w S x vs→Rep.rep w (fun k=>S k∧k≠B) x vs) (h:Sl w S A n l):Sl w (fun k=>S k∧k≠B) A n l:=by
 refine ⟨h.1,h.2.1,fun hn=>?_⟩
 obtain ⟨b,o,e,hb,hc⟩:=h.2.2 hn
 refine ⟨b,o,e,⟨hb,?_⟩,fun i x hx=>?_⟩
 ·rintro rfl
  obtain ⟨x,hx⟩:=at_lt (l:=l) (k:=0) (by rw [h.1]; exact hn)
  obtain ⟨vs,hr,ha⟩:=hc 0 x hx
  obtain ⟨u,hu,hne⟩:=h1 _ _ hr
  exact hne (hB _ _ (ha 0 u hu))
 ·obtain ⟨vs,hr,ha⟩:=hc i x hx
  exact ⟨vs,h2 x vs hr,ha⟩
variable (hB:∀ o v,w.cell? ⟨B,o,none⟩=some v→v=.slice none 0 0)
include hB
theorem avoid_bytes {l:List UInt8} (h:Sl w S A n l):Sl w (fun k=>S k∧k≠B) A n l:=avoid_of hB (fun x vs (h:vs=_)=>⟨.int .u8 x.toNat,by rw [h]; rfl,by simp⟩) (fun _ _ h=>h) h
theorem avoid_looks {l:List Look} (h:Sl w S A n l):Sl w (fun k=>S k∧k≠B) A n l:=avoid_of hB (fun x vs h=>⟨.string x.path,by rw [h.1]; rfl,by simp⟩) (fun _ _ h=>h) h
theorem avoid_steps {l:List StepV} (h:Sl w S A n l):Sl w (fun k=>S k∧k≠B) A n l:=avoid_of hB (fun x vs h=>⟨.string x.name,by rw [h.1]; rfl,by simp⟩) (fun _ _ h=>h) h
theorem avoid_files {l:List FileV} (h:Sl w S A n l):Sl w (fun k=>S k∧k≠B) A n l :=
 avoid_of hB (fun x vs ⟨_,_,_,_,h,_⟩=>⟨.string x.path,by rw [h]; rfl,by simp⟩) (fun x vs ⟨h0,A,n,c,e,h1,h2,h3⟩=>⟨h0,A,n,c,e,h1,h2,avoid_bytes hB h3⟩) h
theorem avoid_mems {l:List MemoryV} (h:Sl w S A n l):Sl w (fun k=>S k∧k≠B) A n l :=
 avoid_of hB (fun x vs ⟨_,_,_,_,_,_,_,_,_,h,_⟩=>⟨.string x.name,by rw [h]; rfl,by simp⟩) (fun x vs ⟨A,n,c,B',m,d,C,p,q,e,h1,h2,s1,s2,s3⟩=>⟨A,n,c,B',m,d,C,p,q,e,h1,h2,avoid_looks hB s1,avoid_files hB s2,avoid_looks hB s3⟩) h
end
theorem BuildPost.shut {l:List RuleV} {F:List FileV} {ws:List ByteArray} {ms:List MemoryV} {W w2 WE:World} {B:Nat} {ty:TypeId} {e:Ending} (h:BuildPost l F ws ms W e w2) (hA:Arr w2 B ty [.slice none 0 0,.slice none 0 0,.slice none 0 0]) (hk:Kp (fun j=>j=B) w2 WE) (hlow:W.heap.size≤B):BuildPost l F ws ms W e WE:=by
 obtain ⟨A1,n1,c1,A2,n2,c2,A3,n3,c3,f,b,he,hb,s1,s2,s3,h1,h2,h3,h4⟩:=h
 have hn:=hA.nils
 have key:∀ k,(Lt w2.heap.size k∧k≠B)→WE.heap[k]?=w2.heap[k]?:=fun k hk'=>hk.block k hk'.1 hk'.2
 have hm:∀ k,(Lt w2.heap.size k∧k≠B)→Lt WE.heap.size k:=fun k hk'=>Nat.lt_of_lt_of_le hk'.1 hk.size
 exact ⟨A1,n1,c1,A2,n2,c2,A3,n3,c3,f,b,he,hb,((avoid_steps hn s1).keep key).more hm,((avoid_files hn s2).keep key).more hm,((avoid_mems hn s3).keep key).more hm,h1,h2,h3,h4.trans (hk.below (fun k hk1 (e:k=B)=>by omega) h4.size)⟩
section
variable (A B C D:Option Addr) (n c m d nw cw nd cd:Nat) (l:List RuleV) (F:List FileV) (ws:List ByteArray) (ms:List MemoryV) (w:World)
set_option maxHeartbeats 0 in
set_option maxRecDepth 100000 in
theorem steps_build (hE:Env2 w) (hsl:Sl w (Lt w.heap.size) A n l) (hF:Sl w (Lt w.heap.size) B m F) (hws:Sl w (Lt w.heap.size) C nw ws) (hms:Sl w (Lt w.heap.size) D nd ms) :
 Calls Tryz.prog 25 #[.slice A n c,.slice B m d,.slice C nw cw,.slice D nd cd] w (BuildPost l F ws ms w):=by
 have hbx:=fr_alloc (fr_refl w) (.cells #[.slice none 0 0,.slice none 0 0,.slice none 0 0] 28)
 have hR0:Arr (w.alloc (.cells #[.slice none 0 0,.slice none 0 0,.slice none 0 0] 28)) w.heap.size 28 [.slice none 0 0,.slice none 0 0,.slice none 0 0]:=heap_alloc_new w _
 have HB:=Lib.hid (steps_builtWith A B C D n c m d nw cw nd cd l F ws ms _ (hE.then_ hbx) (sl_call hsl hbx (Nat.le_refl _)) (sl_call hF hbx (Nat.le_refl _)) (sl_call hws hbx (Nat.le_refl _)) (sl_call hms hbx (Nat.le_refl _)))
 go_enter Tryz.func25,Tryz.ntmps25
 go_wp2_with fail
 refine HB.out.mono ?_
 rintro e w1 ⟨hb1,hbad,hgood⟩
 have hR:=hR0.call hb1
 have hb01:=fr_call hbx hb1
 by_cases h0:buildErr0 l F ws ms=0
 ·obtain ⟨order,hp,h1,h2⟩:=hgood h0
  by_cases hr:(runB l F ms order).1=0
  ·obtain ⟨W0,P0,p,u,hb0,hpl,rfl,hbd,hu⟩:=h2 hr
   have hpe:=(buildErr0_parts h0).1
   have hnw:nw≤500:=by rw [←hws.1]; exact planErr_many hpe
   have hc0:=planErr_rules hpe
   have hM:order.length≤1000:=by have:=plan_len hp; have:=(rules_sorted hc0).2; omega
   have hw0:∀ x∈ws,∃ k,idxName l x=some k:=fun x hx=>by
    obtain ⟨k,_,hk⟩:=plan_wanted hc0 hp x hx
    exact ⟨k,hk⟩
   have hb00:=hbx.trans (hb0.mono hbx.size)
   have HBu:=Lib.hid (steps_built P0 W0 p A n c l (servesS l ms) u order.length _ C nw cw ws w1 (hE.then_ hb00) hpl (sl_call hsl hb00 (Nat.le_refl _)) hc0 (sl_call hws hb01 (Nat.le_refl _)) hnw hw0 hM hu hbd)
   have HF:=Lib.hid (fun e w' (h:GotPost W0 p n (servesS l ms) u order.length (runB l F ms order).2 l ws e w') (hb:Below w.heap.size w w')=>BuildPost.of h0 hp hr hbd.okK (Nat.le_trans hbd.many.1 hM) h hb)
   have HR:=Lib.hid (fun w' (hb:Below W0.heap.size W0 w')=>hR0.keep ((hb.block w.heap.size (Nat.lt_of_lt_of_le hR0.lt hb0.size)).trans (hb0.block w.heap.size hR0.lt)))
   clear hbad hgood h1 h2 hpl hbd hu hR hR0 HB
   go_wp2_with fail
   refine HBu.out.mono ?_
   rintro e w2 hg
   have hlow:Below W0.heap.size W0 w2:=by
    obtain ⟨_,_,_,_,_,_,_,_,_,_,_,_,h3⟩:=id hg
    exact h3
   have hf:=HF.out _ _ hg (hb00.trans (hlow.mono hb00.size))
   have hR:=HR.out w2 hlow
   obtain ⟨A1,n1,c1,A2,n2,c2,A3,n3,c3,rfl,_,_,_⟩:=hg
   have HX:=Lib.hid hf
   clear hf
   have e0:=hR.cell (i:=0) rfl
   have e1:=hR.cell (i:=1) rfl
   have e2:=hR.cell (i:=2) rfl
   have i0:=hR.frozen 0
   have i1:=hR.frozen 1
   have i2:=hR.frozen 2
   have hl4:=hR.lt
   go_wp2
   generalize hWE:World.setCell (World.setCell (World.setCell w2 _ _) _ _) _ _=WE
   have hE5:Arr WE w.heap.size 28 [(.slice A1 n1 c1),(.slice A2 n2 c2),(.slice A3 n3 c3)]:=by
    rw [←hWE]; exact ((hR.set 0 _).set 1 _).set 2 _
   have hkE:Kp (fun j=>j=w.heap.size) w2 WE:=by
    rw [←hWE]
    exact Kp.set (p:=⟨w.heap.size,2,none⟩) (Kp.set (p:=⟨w.heap.size,1,none⟩) (Kp.set (p:=⟨w.heap.size,0,none⟩) (Kp.refl (fun j=>j=w.heap.size) w2) rfl _) rfl _) rfl _
   clear hWE e0 e1 e2 i0 i1 i2
   have y0:=hE5.cell (i:=0) rfl
   have y1:=hE5.cell (i:=1) rfl
   have y2:=hE5.cell (i:=2) rfl
   exact bodyPost_ret (v:=.tuple #[.agg #[(.slice A1 n1 c1),(.slice A2 n2 c2),(.slice A3 n3 c3)],.int .i64 (endErr l ws (runB l F ms order).2)]) (by simp [results,Tryz.results25,go_sem,y0,y1,y2]) rfl (HX.out.shut hR hkE (Nat.le_refl _))
  ·obtain rfl:=h1 hr
   have HX:=Lib.hid (BuildPost.empty (W:=w) (BuildIs.of1 h0 hp hr) hb01)
   have hz:((runB l F ms order).1 == 0)=false:=by simpa using hr
   clear hbad hgood h1 h2 hr HB hR0
   generalize (runB l F ms order).1=z at *
   have e0:=hR.cell (i:=0) rfl
   have e1:=hR.cell (i:=1) rfl
   have e2:=hR.cell (i:=2) rfl
   have i0:=hR.frozen 0
   have i1:=hR.frozen 1
   have i2:=hR.frozen 2
   have hl4:=hR.lt
   go_wp2
   generalize hWE:World.setCell (World.setCell (World.setCell w1 _ _) _ _) _ _=WE
   have hE5:Arr WE w.heap.size 28 [(.slice none 0 0),(.slice none 0 0),(.slice none 0 0)]:=by
    rw [←hWE]; exact ((hR.set 0 _).set 1 _).set 2 _
   have hkE:Kp (fun j=>j=w.heap.size) w1 WE:=by
    rw [←hWE]
    exact Kp.set (p:=⟨w.heap.size,2,none⟩) (Kp.set (p:=⟨w.heap.size,1,none⟩) (Kp.set (p:=⟨w.heap.size,0,none⟩) (Kp.refl (fun j=>j=w.heap.size) w1) rfl _) rfl _) rfl _
   clear hWE e0 e1 e2 i0 i1 i2
   have y0:=hE5.cell (i:=0) rfl
   have y1:=hE5.cell (i:=1) rfl
   have y2:=hE5.cell (i:=2) rfl
   exact bodyPost_ret (v:=.tuple #[.agg #[(.slice none 0 0),(.slice none 0 0),(.slice none 0 0)],.int .i64 z]) (by simp [results,Tryz.results25,go_sem,y0,y1,y2]) rfl (HX.out.shut hR hkE (Nat.le_refl _))
 ·obtain rfl:=hbad h0
  have HX:=Lib.hid (BuildPost.empty (W:=w) (BuildIs.of0 h0) hb01)
  have hz:(buildErr0 l F ws ms == 0)=false:=by simpa using h0
  clear hbad hgood h0 HB hR0
  generalize buildErr0 l F ws ms=z at *
  have e0:=hR.cell (i:=0) rfl
  have e1:=hR.cell (i:=1) rfl
  have e2:=hR.cell (i:=2) rfl
  have i0:=hR.frozen 0
  have i1:=hR.frozen 1
  have i2:=hR.frozen 2
  have hl4:=hR.lt
  go_wp2
  generalize hWE:World.setCell (World.setCell (World.setCell w1 _ _) _ _) _ _=WE
  have hE5:Arr WE w.heap.size 28 [(.slice none 0 0),(.slice none 0 0),(.slice none 0 0)]:=by
   rw [←hWE]; exact ((hR.set 0 _).set 1 _).set 2 _
  have hkE:Kp (fun j=>j=w.heap.size) w1 WE:=by
   rw [←hWE]
   exact Kp.set (p:=⟨w.heap.size,2,none⟩) (Kp.set (p:=⟨w.heap.size,1,none⟩) (Kp.set (p:=⟨w.heap.size,0,none⟩) (Kp.refl (fun j=>j=w.heap.size) w1) rfl _) rfl _) rfl _
  clear hWE e0 e1 e2 i0 i1 i2
  have y0:=hE5.cell (i:=0) rfl
  have y1:=hE5.cell (i:=1) rfl
  have y2:=hE5.cell (i:=2) rfl
  exact bodyPost_ret (v:=.tuple #[.agg #[(.slice none 0 0),(.slice none 0 0),(.slice none 0 0)],.int .i64 z]) (by simp [results,Tryz.results25,go_sem,y0,y1,y2]) rfl (HX.out.shut hR hkE (Nat.le_refl _))
end
end Go.Proofs.Sm
namespace Go.Proofs.Sm
open Go.RowKit Go.ChangeShapes Go.WideShapes Go.ChangeAt
theorem own:ownKnob Tryz.prog.godebug=none:=by kernel_rfl
theorem laidOut:laidOutB Tryz.prog=true:=by kernel_rfl
section
variable {H:Type} {enc:TypeId × Value→H} {w:World} {base:Nat} {spare:Nat→Bool} {held:Bool}
theorem at_some {α:Type} {xs:List α} {n i:Nat} (h:xs.length=n) (hi:i < n):∃ y,xs[i]?=some y:=⟨xs[i]'(by omega),List.getElem?_eq_getElem _⟩
theorem three_of {α:Type} {l:List α} (h:l.length=3):∃ a b c,l=[a,b,c]:=by
 rcases l with _ | ⟨a,_ | ⟨b,_ | ⟨c,_ | ⟨e,r⟩⟩⟩⟩
 ·simp at h
 ·simp at h
 ·simp at h
 ·exact ⟨a,b,c,rfl⟩
 ·simp at h
theorem dec_bytes:Dec enc Tryz.prog w base spare held 75 (List UInt8):=dec_slice Tryz.underlying75 (by kernel_rfl) (by decide) (dec_u8 Tryz.underlying5)
theorem dec_file:Dec enc Tryz.prog w base spare held 78 FileV:=fun fuel cs d h=>by
 obtain ⟨xs,n,_,_,hlen,hxl,hf⟩:=DataW.trod_struct Tryz.underlying78 h
 have hc:Tryz.prog.cellsOf 78=3:=by kernel_rfl
 have cS:Tryz.prog.cellsOf 9=1:=by kernel_rfl
 have cB:Tryz.prog.cellsOf 4=1:=by kernel_rfl
 have cL:Tryz.prog.cellsOf 75=1:=by kernel_rfl
 rw [hc] at hlen
 have hxl':xs.length=3:=hxl
 obtain ⟨a,b,c,rfl⟩:=three_of hlen
 ·-- the three cells
  obtain ⟨y0,e0⟩:=at_some hxl' (show 0 < 3 by decide)
  obtain ⟨y1,e1⟩:=at_some hxl' (show 1 < 3 by decide)
  obtain ⟨y2,e2⟩:=at_some hxl' (show 2 < 3 by decide)
  have f0:DataW.trod enc Tryz.prog w base spare held n 9 [a]=some y0:=by
   have h:=(hf 0 _ rfl).trans e0
   change DataW.trod enc _ w base spare held n 9 (List.take (Tryz.prog.cellsOf 9) (List.drop 0 [a,b,c]))=some y0 at h
   rw [cS] at h
   exact h
  have f1:DataW.trod enc Tryz.prog w base spare held n 4 [b]=some y1:=by
   have h:=(hf 1 _ rfl).trans e1
   change DataW.trod enc _ w base spare held n 4 (List.take (Tryz.prog.cellsOf 4) (List.drop 1 [a,b,c]))=some y1 at h
   rw [cB] at h
   exact h
  have f2:DataW.trod enc Tryz.prog w base spare held n 75 [c]=some y2:=by
   have h:=(hf 2 _ rfl).trans e2
   change DataW.trod enc _ w base spare held n 75 (List.take (Tryz.prog.cellsOf 75) (List.drop 2 [a,b,c]))=some y2 at h
   rw [cL] at h
   exact h
  obtain ⟨s0,h0,_,z0⟩:=DataW.trod_string Tryz.underlying9 f0
  obtain ⟨r,h1,_⟩:=DataW.trod_bool Tryz.underlying4 f1
  obtain ⟨bs,A,k,m,h2,q1,q2,q3⟩:=dec_bytes _ _ _ f2
  cases h0; cases h1; cases h2
  exact ⟨⟨s0,r,bs⟩,z0,A,k,m,rfl,q1,q2,q3⟩
theorem dec_files:Dec enc Tryz.prog w base spare held 23 (List FileV):=dec_slice Tryz.underlying23 (by kernel_rfl) (by decide) dec_file
theorem arg_slice {α:Type} [Rep α] {t:TypeId} {v:Value} {d:DataW H} {p:List MemPlace} (hd:Dec enc Tryz.prog w base spare held t (List α)) (hv:∃ a n c,v=.slice a n c) (h:DataW.Trod enc Tryz.prog w base spare held t v d p) :
 ∃ (A:Option Addr) (n c:Nat) (l:List α),v=.slice A n c∧Sl w (Lt w.heap.size) A n l:=by
 obtain ⟨a,n,c,rfl⟩:=hv
 obtain ⟨fuel,hf⟩:=h
 obtain ⟨l,A,n',c',e,_,_,hs⟩:=hd _ _ _ hf
 simp [Value.cells] at e
 obtain ⟨rfl,rfl,rfl⟩:=e
 exact ⟨_,_,_,l,rfl,hs⟩
end
theorem first_pinned:Go.Pinned.utf8First=Lib.firstData:=by kernel_rfl
theorem accept_laid:YtaabdbephemboaaGreatDoor.Rows.laid_unicode_utf8_acceptRanges=Lib.acceptData:=by kernel_rfl
theorem env_of {laid : List (String × DataW Unit)} {W : World} (hL : laidMet Tryz.prog laid W) (hS : W.ShapedOpen Tryz.prog) (h3 : ("unicode/utf8.first", Go.Pinned.utf8First) ∈ laid) (h4 : ("unicode/utf8.acceptRanges", YtaabdbephemboaaGreatDoor.Rows.laid_unicode_utf8_acceptRanges) ∈ laid) : Env W where
 size:=by
  have hsome:(((begin Tryz.prog (fun _ _=>0) default).world.heap[7]?).bind Obj.row?).isSome=true:=by kernel_rfl
  have hlt:7 < Tryz.prog.globals.size:=of_decide_eq_true (by kernel_rfl)
  obtain ⟨⟨zero,t⟩,hz⟩:=Option.isSome_iff_exists.1 hsome
  obtain ⟨cs,hh,_⟩:=hS.1 _ zero t hlt hz
  exact (Array.getElem?_eq_some_iff.1 hh).1
 most:=Tryz.laysM143.s1_3 W hS
 utf8:=utf8Tabs_of_reads { Tryz.lays260 with } ⟨by kernel_rfl,by kernel_rfl,by kernel_rfl,by kernel_rfl,by kernel_rfl,by kernel_rfl,by kernel_rfl⟩
  (by have:=Lib.laidMet.reads hL h3; rwa [first_pinned] at this) (by have:=Lib.laidMet.reads hL h4; rwa [accept_laid] at this)
end Go.Proofs.Sm
namespace Go.Proofs.Sm
open Go.RowKit Go.ChangeShapes Go.WideShapes Go.ChangeAt
theorem tab_of_reads {W:World} {name:String} {k:IntKind} {zs:List Int} {g:Nat} {t e:TypeId} {n:Nat} (hg:Tryz.prog.globalNamed name=some g) (hty:(Tryz.prog.globals[g]?).map (·.type)=some t)
 (ht:Tryz.prog.underlying t=some (.array n e)) (he:Tryz.prog.underlying e=some (.int k)) (hce:Tryz.prog.cellsOf e=1) (hct:Tryz.prog.cellsOf t=n) (h:Lib.VarReads Tryz.prog W name (Lib.tabData k zs)):Lib.TabIs Tryz.prog W name k zs:=by
 obtain ⟨g',t',cs,fuel,p,hg',ht',hvar,hd⟩:=h
 obtain rfl:=Option.some.inj (hg.symm.trans hg')
 obtain rfl:=Option.some.inj (hty.symm.trans ht')
 unfold Lib.TabIs
 rw [hvar,←Lib.cells_of_tab ht he hce hct hd]
theorem pow_laid:YtaabdbephemboaaGreatDoor.Rows.laid_internal_strconv_uint64pow10=Lib.tabData (H:=Unit) .u64 Lib.pow10Tab:=by kernel_rfl
theorem env2_of {laid : List (String × DataW Unit)} {W : World} (hL : laidMet Tryz.prog laid W) (hS : W.ShapedOpen Tryz.prog) (h3 : ("unicode/utf8.first", Go.Pinned.utf8First) ∈ laid) (h4 : ("unicode/utf8.acceptRanges", YtaabdbephemboaaGreatDoor.Rows.laid_unicode_utf8_acceptRanges) ∈ laid)
 (h5 : ("internal/strconv.uint64pow10", YtaabdbephemboaaGreatDoor.Rows.laid_internal_strconv_uint64pow10) ∈ laid) : Env2 W where
 toEnv:=env_of hL hS h3 h4
 pow:=tab_of_reads (g:=1) (t:=293) (e:=123) (n:=20) (by kernel_rfl) (by kernel_rfl) Tryz.underlying293 Tryz.underlying123 (by kernel_rfl) (by kernel_rfl) (by have:=Lib.laidMet.reads hL h5; rwa [pow_laid] at this)
def flatD:Nat→DataW Unit→List Value
 | 0,_=>[]
 | _ + 1,.lit (.int k n)=>[.int k n]
 | f + 1,.agg l=>l.flatMap (flatD f)
 | _,_=>[]
noncomputable def tableWorld (os:Os) (tabs:List (Nat × DataW Unit)):World :=
 let w0:=World.holding Tryz.prog os ⟨#[],#[],[]⟩
 { w0 with heap:=tabs.foldl (fun h t=>h.modify t.1 fun
         | .cells _ ty frozen=>.cells (flatD 4 t.2).toArray ty frozen
         | o=>o) w0.heap }
end Go.Proofs.Sm
namespace Go.Proofs.Sm
open Go.RowKit Go.ChangeShapes Go.WideShapes Go.ChangeAt
section
variable {H:Type} {enc:TypeId × Value→H} {w:World} {base:Nat} {spare:Nat→Bool} {held:Bool}
theorem two_of {α:Type} {l:List α} (h:l.length=2):∃ a b,l=[a,b]:=by
 rcases l with _ | ⟨a,_ | ⟨b,_ | ⟨c,r⟩⟩⟩
 all_goals (try (simp at h; done))
 exact ⟨a,b,rfl⟩
theorem six_of {α:Type} {l:List α} (h:l.length=6):∃ a b c d e f,l=[a,b,c,d,e,f]:=by
 rcases l with _ | ⟨a,_ | ⟨b,_ | ⟨c,_ | ⟨d,_ | ⟨e,_ | ⟨f,_ | ⟨g,r⟩⟩⟩⟩⟩⟩⟩
 all_goals (try (simp at h; done))
 exact ⟨a,b,c,d,e,f,rfl⟩
theorem dec_var:Dec enc Tryz.prog w base spare held 184 VarV:=fun fuel cs d h=>by
 obtain ⟨xs,n,_,_,hlen,hxl,hf⟩:=DataW.trod_struct Tryz.underlying184 h
 have hc:Tryz.prog.cellsOf 184=2:=by kernel_rfl
 have cS:Tryz.prog.cellsOf 9=1:=by kernel_rfl
 rw [hc] at hlen
 have hxl':xs.length=2:=hxl
 obtain ⟨a,b,rfl⟩:=two_of hlen
 ·-- the two cells
  obtain ⟨y0,e0⟩:=at_some hxl' (show 0 < 2 by decide)
  obtain ⟨y1,e1⟩:=at_some hxl' (show 1 < 2 by decide)
  have f0:DataW.trod enc Tryz.prog w base spare held n 9 [a]=some y0:=by
   have h:=(hf 0 _ rfl).trans e0
   change DataW.trod enc _ w base spare held n 9 (List.take (Tryz.prog.cellsOf 9) (List.drop 0 [a,b]))=some y0 at h
   rw [cS] at h
   exact h
  have f1:DataW.trod enc Tryz.prog w base spare held n 9 [b]=some y1:=by
   have h:=(hf 1 _ rfl).trans e1
   change DataW.trod enc _ w base spare held n 9 (List.take (Tryz.prog.cellsOf 9) (List.drop 1 [a,b]))=some y1 at h
   rw [cS] at h
   exact h
  obtain ⟨s0,h0,_,z0⟩:=DataW.trod_string Tryz.underlying9 f0
  obtain ⟨s1,h1,_,z1⟩:=DataW.trod_string Tryz.underlying9 f1
  cases h0; cases h1
  exact ⟨⟨s0,s1⟩,rfl,z0,z1⟩
theorem dec_strs:Dec enc Tryz.prog w base spare held 24 (List ByteArray):=dec_slice Tryz.underlying24 (by kernel_rfl) (by decide) (dec_string Tryz.underlying9)
theorem dec_rows:Dec enc Tryz.prog w base spare held 55 (List (List ByteArray)):=dec_slice Tryz.underlying55 (by kernel_rfl) (by decide) dec_strs
theorem dec_vars:Dec enc Tryz.prog w base spare held 56 (List VarV):=dec_slice Tryz.underlying56 (by kernel_rfl) (by decide) dec_var
theorem action_of {cs:List Value} {fuel:Nat} {d:DataW H × List MemPlace} (h:DataW.trod enc Tryz.prog w base spare held fuel 58 cs=some d) :
 ∃ a A n n' B m m' C p p' D q q',ActIs w a A n B m C p D q∧cs=[.string a.tool,.slice A n n',.slice B m m',.slice C p p',.slice D q q',.int .i64 a.time]:=by
 obtain ⟨xs,n,_,_,hlen,hxl,hf⟩:=DataW.trod_struct Tryz.underlying58 h
 have hc:Tryz.prog.cellsOf 58=6:=by kernel_rfl
 have cI:Tryz.prog.cellsOf 3=1:=by kernel_rfl
 have cS:Tryz.prog.cellsOf 9=1:=by kernel_rfl
 have cR:Tryz.prog.cellsOf 55=1:=by kernel_rfl
 have cV:Tryz.prog.cellsOf 56=1:=by kernel_rfl
 have cL:Tryz.prog.cellsOf 24=1:=by kernel_rfl
 rw [hc] at hlen
 have hxl':xs.length=6:=hxl
 obtain ⟨a0,a1,a2,a3,a4,a5,rfl⟩:=six_of hlen
 obtain ⟨y0,e0⟩:=at_some hxl' (show 0 < 6 by decide)
 obtain ⟨y1,e1⟩:=at_some hxl' (show 1 < 6 by decide)
 obtain ⟨y2,e2⟩:=at_some hxl' (show 2 < 6 by decide)
 obtain ⟨y3,e3⟩:=at_some hxl' (show 3 < 6 by decide)
 obtain ⟨y4,e4⟩:=at_some hxl' (show 4 < 6 by decide)
 obtain ⟨y5,e5⟩:=at_some hxl' (show 5 < 6 by decide)
 have f0:DataW.trod enc Tryz.prog w base spare held n 9 [a0]=some y0:=by
  have h:=(hf 0 _ rfl).trans e0
  change DataW.trod enc _ w base spare held n 9 (List.take (Tryz.prog.cellsOf 9) (List.drop 0 [a0,a1,a2,a3,a4,a5]))=some y0 at h
  rw [cS] at h
  exact h
 have f1:DataW.trod enc Tryz.prog w base spare held n 55 [a1]=some y1:=by
  have h:=(hf 1 _ rfl).trans e1
  change DataW.trod enc _ w base spare held n 55 (List.take (Tryz.prog.cellsOf 55) (List.drop 1 [a0,a1,a2,a3,a4,a5]))=some y1 at h
  rw [cR] at h
  exact h
 have f2:DataW.trod enc Tryz.prog w base spare held n 56 [a2]=some y2:=by
  have h:=(hf 2 _ rfl).trans e2
  change DataW.trod enc _ w base spare held n 56 (List.take (Tryz.prog.cellsOf 56) (List.drop 2 [a0,a1,a2,a3,a4,a5]))=some y2 at h
  rw [cV] at h
  exact h
 have f3:DataW.trod enc Tryz.prog w base spare held n 24 [a3]=some y3:=by
  have h:=(hf 3 _ rfl).trans e3
  change DataW.trod enc _ w base spare held n 24 (List.take (Tryz.prog.cellsOf 24) (List.drop 3 [a0,a1,a2,a3,a4,a5]))=some y3 at h
  rw [cL] at h
  exact h
 have f4:DataW.trod enc Tryz.prog w base spare held n 56 [a4]=some y4:=by
  have h:=(hf 4 _ rfl).trans e4
  change DataW.trod enc _ w base spare held n 56 (List.take (Tryz.prog.cellsOf 56) (List.drop 4 [a0,a1,a2,a3,a4,a5]))=some y4 at h
  rw [cV] at h
  exact h
 have f5:DataW.trod enc Tryz.prog w base spare held n 3 [a5]=some y5:=by
  have h:=(hf 5 _ rfl).trans e5
  change DataW.trod enc _ w base spare held n 3 (List.take (Tryz.prog.cellsOf 3) (List.drop 5 [a0,a1,a2,a3,a4,a5]))=some y5 at h
  rw [cI] at h
  exact h
 obtain ⟨s0,r0,z0⟩:=dec_string Tryz.underlying9 _ _ _ f0
 obtain ⟨l1,A,k1,c1,r1,_,_,z1⟩:=dec_rows _ _ _ f1
 obtain ⟨l2,B,k2,c2,r2,_,_,z2⟩:=dec_vars _ _ _ f2
 obtain ⟨l3,C,k3,c3,r3,_,_,z3⟩:=dec_strs _ _ _ f3
 obtain ⟨l4,D,k4,c4,r4,_,_,z4⟩:=dec_vars _ _ _ f4
 obtain ⟨n5,r5,z5⟩:=dec_int Tryz.underlying3 _ _ _ f5
 cases r0; cases r1; cases r2; cases r3; cases r4; cases r5
 exact ⟨⟨s0,l1,l2,l3,l4,n5⟩,A,k1,c1,B,k2,c2,C,k3,c3,D,k4,c4,⟨z0,z1,z2,z3,z4,z5⟩,rfl⟩
end
noncomputable def errWorld (w0:World) (tp ts:TypeId) (errs:List (Nat × List UInt8)):World :=
 { w0 with heap:=errs.foldl (fun h e=>(h.push (.cells #[.string ⟨e.2.toArray⟩] ts (0,0))).modify e.1 fun
         | .cells _ ty frozen=>.cells #[.iface tp (.pointer (some ⟨h.size,0,none⟩))] ty frozen
         | o=>o) w0.heap }
end Go.Proofs.Sm
namespace Go.Proofs.Sm
open Go.RowKit Go.ChangeShapes Go.WideShapes Go.ChangeAt
section
variable {H:Type} {enc:TypeId × Value→H} {w:World} {base:Nat} {spare:Nat→Bool} {held:Bool}
theorem eight_of {α:Type} {l:List α} (h:l.length=8):∃ a b c d e f g i,l=[a,b,c,d,e,f,g,i]:=by
 rcases l with _ | ⟨a,_ | ⟨b,_ | ⟨c,_ | ⟨d,_ | ⟨e,_ | ⟨f,_ | ⟨g,_ | ⟨i,_ | ⟨j,r⟩⟩⟩⟩⟩⟩⟩⟩⟩
 all_goals (try (simp at h; done))
 exact ⟨a,b,c,d,e,f,g,i,rfl⟩
theorem action_caps {cs:List Value} {fuel:Nat} {d:DataW H × List MemPlace} (h:DataW.trod enc Tryz.prog w base spare held fuel 58 cs=some d) :
 ∃ a A n n' B m m' C p p' D q q',ActIs w a A n B m C p D q∧(n≤n'∧n'≤maxLen∧m≤m'∧m'≤maxLen∧p≤p'∧p'≤maxLen∧q≤q'∧q'≤maxLen)∧cs=[.string a.tool,.slice A n n',.slice B m m',.slice C p p',.slice D q q',.int .i64 a.time]:=by
 obtain ⟨a,A,n,n',B,m,m',C,p,p',D,q,q',h1,h2⟩:=action_of h
 obtain ⟨xs,k,_,_,hlen,hxl,hf⟩:=DataW.trod_struct Tryz.underlying58 h
 have cR:Tryz.prog.cellsOf 55=1:=by kernel_rfl
 have cV:Tryz.prog.cellsOf 56=1:=by kernel_rfl
 have cL:Tryz.prog.cellsOf 24=1:=by kernel_rfl
 have hxl':xs.length=6:=hxl
 subst h2
 obtain ⟨y1,e1⟩:=at_some hxl' (show 1 < 6 by decide)
 obtain ⟨y2,e2⟩:=at_some hxl' (show 2 < 6 by decide)
 obtain ⟨y3,e3⟩:=at_some hxl' (show 3 < 6 by decide)
 obtain ⟨y4,e4⟩:=at_some hxl' (show 4 < 6 by decide)
 have f1:DataW.trod enc Tryz.prog w base spare held k 55 [.slice A n n']=some y1:=by
  have h:=(hf 1 _ rfl).trans e1
  change DataW.trod enc _ w base spare held k 55 (List.take (Tryz.prog.cellsOf 55) (List.drop 1 [.string a.tool,.slice A n n',.slice B m m',.slice C p p',.slice D q q',.int .i64 a.time]))=some y1 at h
  rw [cR] at h
  exact h
 have f2:DataW.trod enc Tryz.prog w base spare held k 56 [.slice B m m']=some y2:=by
  have h:=(hf 2 _ rfl).trans e2
  change DataW.trod enc _ w base spare held k 56 (List.take (Tryz.prog.cellsOf 56) (List.drop 2 [.string a.tool,.slice A n n',.slice B m m',.slice C p p',.slice D q q',.int .i64 a.time]))=some y2 at h
  rw [cV] at h
  exact h
 have f3:DataW.trod enc Tryz.prog w base spare held k 24 [.slice C p p']=some y3:=by
  have h:=(hf 3 _ rfl).trans e3
  change DataW.trod enc _ w base spare held k 24 (List.take (Tryz.prog.cellsOf 24) (List.drop 3 [.string a.tool,.slice A n n',.slice B m m',.slice C p p',.slice D q q',.int .i64 a.time]))=some y3 at h
  rw [cL] at h
  exact h
 have f4:DataW.trod enc Tryz.prog w base spare held k 56 [.slice D q q']=some y4:=by
  have h:=(hf 4 _ rfl).trans e4
  change DataW.trod enc _ w base spare held k 56 (List.take (Tryz.prog.cellsOf 56) (List.drop 4 [.string a.tool,.slice A n n',.slice B m m',.slice C p p',.slice D q q',.int .i64 a.time]))=some y4 at h
  rw [cV] at h
  exact h
 obtain ⟨_,_,_,_,r1,u1,v1,_⟩:=dec_rows _ _ _ f1
 obtain ⟨_,_,_,_,r2,u2,v2,_⟩:=dec_vars _ _ _ f2
 obtain ⟨_,_,_,_,r3,u3,v3,_⟩:=dec_strs _ _ _ f3
 obtain ⟨_,_,_,_,r4,u4,v4,_⟩:=dec_vars _ _ _ f4
 cases r1; cases r2; cases r3; cases r4
 exact ⟨a,A,n,n',B,m,m',C,p,p',D,q,q',h1,⟨u1,v1,u2,v2,u3,v3,u4,v4⟩,rfl⟩
theorem dec_rule:Dec enc Tryz.prog w base spare held 60 RuleV:=fun fuel cs d h=>by
 obtain ⟨xs,n,_,_,hlen,hxl,hf⟩:=DataW.trod_struct Tryz.underlying60 h
 have hc:Tryz.prog.cellsOf 60=8:=by kernel_rfl
 have cS:Tryz.prog.cellsOf 9=1:=by kernel_rfl
 have cA:Tryz.prog.cellsOf 58=6:=by kernel_rfl
 have cL:Tryz.prog.cellsOf 24=1:=by kernel_rfl
 rw [hc] at hlen
 have hxl':xs.length=3:=hxl
 obtain ⟨a0,a1,a2,a3,a4,a5,a6,a7,rfl⟩:=eight_of hlen
 obtain ⟨y0,e0⟩:=at_some hxl' (show 0 < 3 by decide)
 obtain ⟨y1,e1⟩:=at_some hxl' (show 1 < 3 by decide)
 obtain ⟨y2,e2⟩:=at_some hxl' (show 2 < 3 by decide)
 have f0:DataW.trod enc Tryz.prog w base spare held n 9 [a0]=some y0:=by
  have h:=(hf 0 _ rfl).trans e0
  change DataW.trod enc _ w base spare held n 9 (List.take (Tryz.prog.cellsOf 9) (List.drop 0 [a0,a1,a2,a3,a4,a5,a6,a7]))=some y0 at h
  rw [cS] at h
  exact h
 have f1:DataW.trod enc Tryz.prog w base spare held n 58 [a1,a2,a3,a4,a5,a6]=some y1:=by
  have h:=(hf 1 _ rfl).trans e1
  change DataW.trod enc _ w base spare held n 58 (List.take (Tryz.prog.cellsOf 58) (List.drop 1 [a0,a1,a2,a3,a4,a5,a6,a7]))=some y1 at h
  rw [cA] at h
  exact h
 have f2:DataW.trod enc Tryz.prog w base spare held n 24 [a7]=some y2:=by
  have h:=(hf 2 _ rfl).trans e2
  change DataW.trod enc _ w base spare held n 24 (List.take (Tryz.prog.cellsOf 24) (List.drop 7 [a0,a1,a2,a3,a4,a5,a6,a7]))=some y2 at h
  rw [cL] at h
  exact h
 obtain ⟨s0,h0,_,z0⟩:=DataW.trod_string Tryz.underlying9 f0
 obtain ⟨a,A,n1,c1,B,n2,c2,C,n3,c3,D,n4,c4,hA,hcap,hcs⟩:=action_caps f1
 obtain ⟨l5,E,n5,c5,h5,h51,h52,z5⟩:=dec_strs _ _ _ f2
 cases h0; cases hcs; cases h5
 obtain ⟨g1,g2,g3,g4,g5,g6⟩:=hA
 obtain ⟨k1,k2,k3,k4,k5,k6,k7,k8⟩:=hcap
 exact ⟨⟨s0,a,l5⟩,A,n1,c1,B,n2,c2,C,n3,c3,D,n4,c4,E,n5,c5,rfl,⟨z0,g1,g6⟩,⟨k1,k2,k3,k4,k5,k6,k7,k8,h51,h52⟩,g2,g3,g4,g5,z5⟩
theorem dec_rules:Dec enc Tryz.prog w base spare held 22 (List RuleV):=dec_slice Tryz.underlying22 (by kernel_rfl) (by decide) dec_rule
end
end Go.Proofs.Sm
