/- Words and walks that the claims share, part 30. -/
import Derived.Test.YtaabdbephemboaaGreatDoorBx14
import Derived.Test.YtaabdbephemboaaGreatDoorBx22
import Derived.Test.YtaabdbephemboaaGreatDoorBx23
import Derived.Test.YtaabdbephemboaaGreatDoorBx29
namespace Go.Proofs.Sm
open Go.RowKit
theorem listErr_by {α:Type} {err:Option ByteArray→α→Int} {key:α→ByteArray} (hn:∀ q x,err (some q) x=0→ltS q (key x)=true):∀ {l:List α} {prev:Option ByteArray},listErr err key prev l=0→(∀ q,prev=some q→∀ y∈l,ltS q (key y)=true)∧ByPath key l
 | [],_,_=>⟨fun _ _ _ hy=>absurd hy (List.not_mem_nil),List.Pairwise.nil⟩
 | x :: l,prev,h=>by
   rw [listErr] at h
   split at h
   ·rename_i h0
    obtain ⟨h1,h2⟩:=listErr_by hn h
    have hx:∀ q,prev=some q→ltS q (key x)=true:=fun q hq=>by subst hq; exact hn q x h0
    refine ⟨fun q hq y hy=>?_,List.pairwise_cons.2 ⟨fun y hy=>h1 (key x) rfl y hy,h2⟩⟩
    rcases List.mem_cons.1 hy with rfl | hy
    ·exact hx q hq
    ·exact ltS_trans (hx q hq) (h1 _ rfl y hy)
   ·rename_i h0; exact absurd h h0
theorem listErr_from {α:Type} {err:Option ByteArray→α→Int} {key:α→ByteArray}:∀ {l:List α} {prev:Option ByteArray},ByPath key l→(∀ x∈l,∀ prev:Option ByteArray,(∀ q,prev=some q→ltS q (key x)=true)→err prev x=0) →
 (∀ q,prev=some q→∀ x∈l,ltS q (key x)=true)→listErr err key prev l=0
 | [],_,_,_,_=>rfl
 | x :: l,prev,hs,he,hp=>by
   have hc:=List.pairwise_cons.1 hs
   have h0:=he x (List.mem_cons_self ..) prev fun q hq=>hp q hq x (List.mem_cons_self ..)
   rw [listErr,if_pos h0]
   exact listErr_from hc.2 (fun y hy=>he y (List.mem_cons_of_mem _ hy)) fun q hq y hy=>by
    cases hq
    exact hc.1 y hy
theorem notAfter_lt {q p:ByteArray} (h:¬ notAfter (some q) p=true):ltS q p=true:=leS_lt (by simpa [notAfter] using h)
theorem lt_notAfter {prev:Option ByteArray} {p:ByteArray} (h:∀ q,prev=some q→ltS q p=true):notAfter prev p=false:=by
 cases prev with
 | none=>rfl
 | some q =>
   have h1:=h q rfl
   have h2:¬ ltS p q=true:=fun h2=>by
    have:=ltS_trans h1 h2
    rw [ltS_irrefl] at this; cases this
   have h3:¬ p.toList=q.toList:=fun e=>by
    rw [ltS_eq_r e,ltS_irrefl] at h1; cases h1
   show leS p q=false
   unfold leS
   have h4:(Op.bytesLess p.toList q.toList)=false:=by simpa [ltS] using h2
   rw [h4]
   simpa using h3
theorem rules_parts_by {l:List RuleV} (h:checkRulesS l=0):RulesOk l∧ByPath RuleV.name l:=by
 unfold checkRulesS at h
 split at h
 ·omega
 rename_i hn
 split at h
 ·rename_i h1; exact absurd h h1
 rename_i h1
 have h1:=Classical.not_not.1 h1
 refine ⟨rulesOk_of hn h1,(listErr_by (fun q x hx=>?_) h1).2⟩
 unfold ruleErr at hx
 split at hx
 ·rename_i h2; exact absurd hx h2
 split at hx
 ·exact absurd hx (by decide)
 rename_i h2
 exact notAfter_lt h2
theorem memory_parts_by {m:List MemoryV} (h:checkMemoryS m=0):m.length≤500∧ByPath MemoryV.name m∧∀ y∈m,checkMemS y=0:=by
 unfold checkMemoryS at h
 split at h
 ·omega
 rename_i hn
 refine ⟨by omega,(listErr_by (fun q x hx=>?_) h).2,fun y hy=>?_⟩
 ·unfold memErr at hx
  split at hx
  ·rename_i h2; exact absurd hx h2
  split at hx
  ·exact absurd hx (by decide)
  rename_i h2
  exact notAfter_lt h2
 ·obtain ⟨q,hq⟩:=listErr_all' _ h y hy
  unfold memErr at hq
  split at hq
  ·rename_i h2; exact absurd hq h2
  ·rename_i h2; exact Classical.not_not.1 h2
theorem memory_fine {m:List MemoryV} (hn:m.length≤500) (hb:ByPath MemoryV.name m) (he:∀ y∈m,checkMemS y=0):checkMemoryS m=0:=by
 rw [checkMemoryS,if_neg (by omega)]
 refine listErr_from hb (fun x hx prev hp=>?_) fun q hq=>by cases hq
 rw [memErr,if_neg (by rw [he x hx]; simp),lt_notAfter hp]
 rfl
theorem by_differ {α:Type} {key:α→ByteArray} {l:List α} (h:ByPath key l) {i j:Nat} {x y:α} (hx:l[i]?=some x) (hy:l[j]?=some y) (hij:i≠j):¬ (key x).toList=(key y).toList:=by
 have hp:=List.pairwise_iff_getElem.1 h
 obtain ⟨hi,ex⟩:=List.getElem?_eq_some_iff.1 hx
 obtain ⟨hj,ey⟩:=List.getElem?_eq_some_iff.1 hy
 rcases Nat.lt_or_gt_of_ne hij with h1 | h1
 ·have h2:=hp i j hi hj h1
  rw [ex,ey] at h2
  intro e
  rw [ltS_eq_l e,ltS_irrefl] at h2; cases h2
 ·have h2:=hp j i hj hi h1
  rw [ex,ey] at h2
  intro e
  rw [ltS_eq_r e,ltS_irrefl] at h2; cases h2
theorem idxName_own {l:List RuleV} (hb:ByPath RuleV.name l) {k:Nat} {r:RuleV} {s:ByteArray} (hr:l[k]?=some r) (hs:r.name.toList=s.toList):idxName l s=some k:=by
 cases h:idxName l s with
 | none =>
   rw [idxName,List.find?_eq_none] at h
   have:=h k (List.mem_range.2 (List.getElem?_eq_some_iff.1 hr).1)
   rw [hr] at this
   exact absurd (by simpa using hs) this
 | some j =>
   obtain ⟨_,q,hq,he⟩:=idxName_some h
   by_cases hjk:j=k
   ·rw [hjk]
   ·exact absurd (he.trans hs.symm) (by_differ hb hq hr hjk)
theorem nameAt_of {l:List RuleV} {k:Nat} {r:RuleV} (h:l[k]?=some r):nameAt l k=r.name:=by rw [nameAt,h]; rfl
theorem plan_parts {l:List RuleV} {wanted:List ByteArray} {order:List Nat} (h:PlanIs l wanted order):order.Nodup∧∀ k∈order,k < l.length:=by
 obtain ⟨ks,s,_,_,rfl⟩:=h
 have hd:=orderS_done (needsS l) (isOf s)
 exact ⟨hd.nodup,fun k hk=>by have:=hd.lt k hk; rwa [needsS_length] at this⟩
theorem put_mem_by {α:Type} {key:α→ByteArray} {l:List α} {x y:α} (h:y∈putBy key l x):y∈l∨y=x:=by
 unfold putBy at h
 rcases List.mem_append.1 h with h | h
 ·rcases List.mem_append.1 h with h | h
  ·exact .inl (List.mem_filter.1 h).1
  ·exact .inr (by simpa using h)
 ·exact .inl (List.mem_filter.1 h).1
theorem buildErr0_parts {l:List RuleV} {files:List FileV} {wanted:List ByteArray} {m:List MemoryV} (h:buildErr0 l files wanted m=0):planErr l wanted=0∧checkFilesS files=0∧checkMemoryS m=0∧outClash l files=false:=by
 unfold buildErr0 at h
 split at h
 ·rename_i h1; exact absurd h h1
 rename_i h1
 split at h
 ·rename_i h2; exact absurd h h2
 rename_i h2
 split at h
 ·rename_i h3; exact absurd h h3
 rename_i h3
 split at h
 ·exact absurd h (by decide)
 rename_i h4
 exact ⟨Classical.not_not.1 h1,Classical.not_not.1 h2,Classical.not_not.1 h3,by simpa using h4⟩
theorem buildErr_parts {l:List RuleV} {files:List FileV} {wanted:List ByteArray} {m:List MemoryV} {order:List Nat} (h:buildErr l files wanted m order=0):buildErr0 l files wanted m=0∧(runB l files m order).1=0∧endErr l wanted (runB l files m order).2=0:=by
 unfold buildErr at h
 split at h
 ·rename_i h1; exact absurd h h1
 rename_i h1
 split at h
 ·rename_i h2; exact absurd h h2
 rename_i h2
 exact ⟨Classical.not_not.1 h1,Classical.not_not.1 h2,h⟩
theorem planErr_rules {l:List RuleV} {wanted:List ByteArray} (h:planErr l wanted=0):checkRulesS l=0:=by
 unfold planErr at h
 split at h
 ·rename_i h1; exact absurd h h1
 ·rename_i h1; exact Classical.not_not.1 h1
theorem endErr_few {l:List RuleV} {wanted:List ByteArray} {s:BSt} (h:endErr l wanted s=0):checkFilesS (filesB l wanted s)=0∧s.kept.length≤500:=by
 unfold endErr at h
 split at h
 ·exact absurd h (by decide)
 ·rename_i h1
  exact ⟨Classical.not_not.1 fun e=>h1 (.inl e),Nat.not_lt.1 fun e=>h1 (.inr e)⟩
end Go.Proofs.Sm
namespace Go.Proofs.Sm
open Go.RowKit Go.Maps
instance:Rep StepV where
 sz:=3
 rep _ _ x vs:=vs=[.string x.name,.int .i64 x.what,.bool x.early]∧x.name.size≤maxLen∧InInt x.what
 len h:=by rw [h.1]; rfl
 keep _ h:=h
 more _ h:=h
theorem Sl.step {w:World} {S:Nat→Prop} {A:Option Addr} {n k:Nat} {l:List StepV} (h:Sl w S A n l) (hk:k < n) :
 ∃ b o x,A=some ⟨b,o,none⟩∧S b∧l[k]?=some x∧x.name.size≤maxLen∧InInt x.what ∧
  w.cell? ⟨b,o + k * 3,none⟩=some (.string x.name)∧w.cell? ⟨b,o + k * 3 + 1,none⟩=some (.int .i64 x.what)∧w.cell? ⟨b,o + k * 3 + 2,none⟩=some (.bool x.early):=by
 have hk':k < l.length:=by rw [h.1]; exact hk
 obtain ⟨b,o,vs,e,hb,⟨rfl,h1,h2⟩,ha⟩:=h.at hk'
 exact ⟨b,o,l[k],e,hb,List.getElem?_eq_getElem hk',h1,h2,ha 0 _ rfl,ha 1 _ rfl,ha 2 _ rfl⟩
theorem put_le {α:Type} {key:α→ByteArray} (l:List α) (x:α):(putBy key l x).length≤l.length + 1:=by
 unfold putBy
 rw [List.length_append,List.length_append,List.length_singleton]
 have:(l.filter (fun y=>ltS (key y) (key x))).length + (l.filter (fun y=>ltS (key x) (key y))).length≤l.length:=by
  induction l with
  | nil=>simp
  | cons y l ih =>
    rw [List.filter_cons,List.filter_cons]
    by_cases h:ltS (key y) (key x)=true
    ·have h2:ltS (key x) (key y)=false:=by
      cases hc:ltS (key x) (key y) with
      | false=>rfl
      | true =>
        have h3:=ltS_trans h hc
        rw [ltS_irrefl] at h3; cases h3
     rw [if_pos h,h2]
     simp only [List.length_cons,Bool.false_eq_true,if_false]
     omega
    ·rw [if_neg h]
     split
     ·rw [List.length_cons,List.length_cons]; omega
     ·rw [List.length_cons]; omega
 omega
theorem MemsIn.tight {P:Program} {k:TypeId} {w:World} {S:Nat→Prop} {b n:Nat} {l:List MemoryV} (h:MemsIn P k w S b n l) (hk:P.underlying k=some .string) (hl:ByPath MemoryV.name l):MemsIn P k w S b l.length l:=by
 obtain ⟨f,h1,h2⟩:=h
 have:=h1.tight hk (byPath_nodup hl) (fun key=>by
  rw [←findBy_some]
  have h3:=h2 key
  unfold keyM at h3
  cases hq:findBy MemoryV.name l key with
  | none=>rw [hq] at h3; simp only at h3; rw [h3]; simp
  | some x =>
    rw [hq] at h3
    obtain ⟨v,h3,_⟩:=h3
    rw [h3]; simp)
 exact ⟨f,by simpa using this,h2⟩
def Mem2 (y:MemoryV):Prop:=MemOk y∧y.result.files.length≤1000
structure BdP where
 g:Nat
 gp:Nat
 mh:Nat
 mm:Nat
 gb:Nat
 mv:Nat
 uf:Value
 um:Value
def bdCells (p:BdP) (n:Nat) (u:Value):List Value:=[.pointer (some ⟨p.gp,0,none⟩),.map (some p.mh),.map (some p.mm),.slice (some ⟨p.gb,0,none⟩) n n,u,p.uf,p.um,.map (some p.mv)]
def BdX (p:BdP) (u:Value):Nat→Prop:=fun k=>k=p.g∨k=p.mh∨k=p.mm∨k=p.gb∨k=p.mv∨u.ownBlock=some k
structure BdD (B:Nat) (p:BdP) (u:Value):Prop where
 g:B≤p.g∧p.g≠p.mh∧p.g≠p.mm∧p.g≠p.gb∧p.g≠p.mv∧u.ownBlock≠some p.g
 mh:B≤p.mh∧p.mh≠p.mm∧p.mh≠p.gb∧p.mh≠p.mv∧u.ownBlock≠some p.mh
 mm:B≤p.mm∧p.mm≠p.gb∧p.mm≠p.mv∧u.ownBlock≠some p.mm
 gb:B≤p.gb∧p.gb≠p.mv∧u.ownBlock≠some p.gb
 mv:B≤p.mv∧u.ownBlock≠some p.mv
structure Bd (W w:World) (p:BdP) (n:Nat) (mem:List MemoryV) (u:Value) (M:Nat) (s:BSt):Prop where
 low:Below W.heap.size W w
 blk:Arr w p.g 101 (bdCells p n u)
 hav:FilesIn Tryz.prog 9 w (Off (BdX p u) w) p.mh s.have_.length s.have_
 mem:∃ nm,nm≤1000000∧MemsIn Tryz.prog 9 w (Off (BdX p u) w) p.mm nm mem
 bad:Arr w p.gb 4 (s.bad.map Value.bool)
 kept:MemsIn Tryz.prog 9 w (Off (BdX p u) w) p.mv s.kept.length s.kept
 steps:RowK w W.heap.size 46 (fun _=>False) u s.steps
 dif:BdD W.heap.size p u
 byH:ByPath FileV.path s.have_
 byK:ByPath MemoryV.name s.kept
 okK:∀ y∈s.kept,Mem2 y
 okH:∀ x∈s.have_,x.path.size≤maxLen
 size:s.bad.length=n
 many:s.steps.length≤M∧s.have_.length≤1000000 * (M + 1)∧s.kept.length≤M + 500
section
variable {W w w':World} {p:BdP} {n M:Nat} {mem:List MemoryV} {u:Value} {s:BSt}
theorem off_of {X:Nat→Prop} {k:Nat} (h:Off X w k) (hz:w.heap.size≤w'.heap.size):Off X w' k:=⟨h.1,Nat.lt_of_lt_of_le h.2 hz⟩
theorem Bd.call (h:Bd W w p n mem u M s) (hb:Below w.heap.size w w'):Bd W w' p n mem u M s:=by
 have hk:∀ k,Off (BdX p u) w k→w'.heap[k]?=w.heap[k]?:=fun k hk=>hb.block k hk.2
 have hm:∀ k,Off (BdX p u) w k→Off (BdX p u) w' k:=fun k hk=>off_of hk hb.size
 obtain ⟨nm,h1,h2⟩:=h.mem
 have hlt:p.mm < w.heap.size:=h2.lt
 exact ⟨fr_call h.low hb,h.blk.call hb,(h.hav.keep (hb.block _ h.hav.lt) hk).more hm,⟨nm,h1,(h2.keep (hb.block _ hlt) hk).more hm⟩,h.bad.call hb,(h.kept.keep (hb.block _ h.kept.lt) hk).more hm,h.steps.call hb,h.dif,h.byH,h.byK,h.okK,h.okH,h.size,h.many⟩
theorem Bd.up {M':Nat} (h:Bd W w p n mem u M s) (hM:M≤M'):Bd W w p n mem u M' s:={ h with many:=⟨by have:=h.many.1; omega,by have:=h.many.2.1; omega,by have:=h.many.2.2; omega⟩ }
theorem BdD.old {B:Nat} (h:BdD B p u) (hu:∀ g,u.ownBlock=some g→B≤g) {k:Nat} (hk:k < B):¬ BdX p u k:=by
 have h1:=h.g.1
 have h2:=h.mh.1
 have h3:=h.mm.1
 have h4:=h.gb.1
 have h5:=h.mv.1
 rintro (e | e | e | e | e | e)
 ·omega
 ·omega
 ·omega
 ·omega
 ·omega
 ·have:=hu k e; omega
theorem Bd.old (h:Bd W w p n mem u M s) {k:Nat} (hk:Lt W.heap.size k):Off (BdX p u) w k:=⟨h.dif.old (fun g hg=>(h.steps.kind g hg).1) hk,Nat.lt_of_lt_of_le hk h.low.size⟩
theorem Bd.there (h:Bd W w p n mem u M s):∀ k,BdX p u k→k < w.heap.size:=by
 obtain ⟨nm,_,m2⟩:=h.mem
 rintro k (rfl | rfl | rfl | rfl | rfl | e)
 ·exact h.blk.lt
 ·exact h.hav.lt
 ·exact m2.lt
 ·exact h.bad.lt
 ·exact h.kept.lt
 ·exact (h.steps.kind k e).2.lt
theorem Bd.new (h:Bd W w p n mem u M s):∀ k,NewS (Off (BdX p u) w) w w' k→Off (BdX p u) w' k:=fun k hk=>by
 rcases hk.1 with h1 | h1
 ·exact ⟨h1.1,hk.2⟩
 ·exact ⟨fun e=>by have:=h.there k e; omega,hk.2⟩
theorem Bd.puts {w2:World} {x:FileV} {v:Value} {f:List UInt8→Option Value} (h:Bd W w p n mem u M s) (hM:s.have_.length + 1≤1000000 * (M + 1)) (hb:Below w.heap.size w w2)
 (hf:∀ key,match keyF s.have_ key with
   | none=>f key=none
   | some x=>∃ v,f key=some v∧FileVal w2 (Off (BdX p u) w2) x v) (hv:FileVal w2 (Off (BdX p u) w2) x v)
 (hm:MapIs Tryz.prog 9 w' p.mh (s.have_.length + 1) (fun key=>if key=x.path.data.toList then some v else f key)) (hg:w2.grownBy w' (some p.mh)) (hp:x.path.size≤maxLen) :
 Bd W w' p n mem u M { s with have_:=putFileS s.have_ x }:=by
 have h2:=h.call hb
 have hne:∀ k,k < w2.heap.size→k≠p.mh→w'.heap[k]?=w2.heap[k]?:=fun k h1 h2=>hg.block k h1 fun e=>h2 (by cases e; rfl)
 have hk:∀ k,Off (BdX p u) w2 k→w'.heap[k]?=w2.heap[k]?:=fun k hk=>hne k hk.2 fun e=>hk.1 (.inr (.inl e))
 have ho:∀ k,Off (BdX p u) w2 k→Off (BdX p u) w' k:=fun k hk=>off_of hk hg.size
 have hput:=((FilesIn.put (P:=Tryz.prog) (k:=9) (w:=w2) (w':=w') (S:=Off (BdX p u) w2) (l:=s.have_) (x:=x) (f:=f) hf hv hm hk).more ho).tight Tryz.underlying9 (byPath_put h.byH x)
 obtain ⟨nm,m1,m2⟩:=h2.mem
 have d:=h.dif
 have hlo:Below W.heap.size W w':=h2.low.trans ((Kp.grown (X:=fun k=>k=p.mh) (Kp.refl _ w2) hg fun k e=>.inl (by cases e; rfl)).below (fun k hk e=>by have:=d.mh.1; have e:k=p.mh:=e; omega) h2.low.size)
 refine ⟨hlo,h2.blk.keep (hne _ h2.blk.lt d.g.2.1),hput,⟨nm,m1,(m2.keep (hne _ m2.lt (Ne.symm d.mh.2.1)) hk).more ho⟩,h2.bad.keep (hne _ h2.bad.lt (Ne.symm d.mh.2.2.1)),(h2.kept.keep (hne _ h2.kept.lt (Ne.symm d.mh.2.2.2.1)) hk).more ho,
  h2.steps.keep hg.size (fun _ hk=>hk.elim) fun g e=>hne g (h2.steps.kind g e).2.lt (fun e2=>d.mh.2.2.2.2 (by rw [←e2]; exact e)),d,byPath_put h.byH x,h.byK,h.okK,fun y hy=>?_,h.size,h.many.1,?_,h.many.2.2⟩
 ·rcases put_mem_by (key:=FileV.path) hy with hy | rfl
  ·exact h.okH y hy
  ·exact hp
 ·have h3:=put_le (key:=FileV.path) s.have_ x
  show (putBy FileV.path s.have_ x).length≤_
  omega
theorem Bd.keeps {w2:World} {x:MemoryV} {v:Value} {f:List UInt8→Option Value} (h:Bd W w p n mem u M s) (hM:s.kept.length + 1≤M + 500) (hb:Below w.heap.size w w2)
 (hf:∀ key,match keyM s.kept key with
   | none=>f key=none
   | some x=>∃ v,f key=some v∧MemVal w2 (Off (BdX p u) w2) x v) (hv:MemVal w2 (Off (BdX p u) w2) x v) (ok:Mem2 x)
 (hm:MapIs Tryz.prog 9 w' p.mv (s.kept.length + 1) (fun key=>if key=x.name.data.toList then some v else f key)) (hg:w2.grownBy w' (some p.mv)) :
 Bd W w' p n mem u M { s with kept:=putM s.kept x }:=by
 have h2:=h.call hb
 have hne:∀ k,k < w2.heap.size→k≠p.mv→w'.heap[k]?=w2.heap[k]?:=fun k h1 h2=>hg.block k h1 fun e=>h2 (by cases e; rfl)
 have hk:∀ k,Off (BdX p u) w2 k→w'.heap[k]?=w2.heap[k]?:=fun k hk=>hne k hk.2 fun e=>hk.1 (.inr (.inr (.inr (.inr (.inl e)))))
 have ho:∀ k,Off (BdX p u) w2 k→Off (BdX p u) w' k:=fun k hk=>off_of hk hg.size
 have hput:=((MemsIn.put (P:=Tryz.prog) (k:=9) (w:=w2) (w':=w') (S:=Off (BdX p u) w2) (l:=s.kept) (x:=x) (f:=f) hf hv hm hk).more ho).tight Tryz.underlying9 (byPath_put h.byK x)
 obtain ⟨nm,m1,m2⟩:=h2.mem
 have d:=h.dif
 have hlo:Below W.heap.size W w':=h2.low.trans ((Kp.grown (X:=fun k=>k=p.mv) (Kp.refl _ w2) hg fun k e=>.inl (by cases e; rfl)).below (fun k hk e=>by have:=d.mv.1; have e:k=p.mv:=e; omega) h2.low.size)
 refine ⟨hlo,h2.blk.keep (hne _ h2.blk.lt d.g.2.2.2.2.1),(h2.hav.keep (hne _ h2.hav.lt d.mh.2.2.2.1) hk).more ho,⟨nm,m1,(m2.keep (hne _ m2.lt d.mm.2.2.1) hk).more ho⟩,h2.bad.keep (hne _ h2.bad.lt d.gb.2.1),hput,
  h2.steps.keep hg.size (fun _ hk=>hk.elim) fun g e=>hne g (h2.steps.kind g e).2.lt (fun e2=>d.mv.2 (by rw [←e2]; exact e)),d,h.byH,byPath_put h.byK x,fun y hy=>?_,h.okH,h.size,h.many.1,h.many.2.1,?_⟩
 ·rcases put_mem_by (key:=MemoryV.name) hy with hy | rfl
  ·exact h.okK y hy
  ·exact ok
 ·have h3:=put_le (key:=MemoryV.name) s.kept x
  show (putBy MemoryV.name s.kept x).length≤_
  omega
theorem Bd.marks {k:Nat} (h:Bd W w p n mem u M s) (hk:Kp (fun j=>j=p.gb) w w') (hg:Arr w' p.gb 4 ((s.bad.set k true).map Value.bool)):Bd W w' p n mem u M { s with bad:=s.bad.set k true }:=by
 have hne:∀ j,j < w.heap.size→j≠p.gb→w'.heap[j]?=w.heap[j]?:=fun j h1 h2=>hk.block j h1 h2
 have hK:∀ j,Off (BdX p u) w j→w'.heap[j]?=w.heap[j]?:=fun j hj=>hne j hj.2 fun e=>hj.1 (.inr (.inr (.inr (.inl e))))
 have ho:∀ j,Off (BdX p u) w j→Off (BdX p u) w' j:=fun j hj=>off_of hj hk.size
 obtain ⟨nm,m1,m2⟩:=h.mem
 have d:=h.dif
 exact ⟨h.low.trans (hk.below (fun j hj e=>by have:=d.gb.1; have e:j=p.gb:=e; omega) h.low.size),h.blk.keep (hne _ h.blk.lt d.g.2.2.2.1),(h.hav.keep (hne _ h.hav.lt d.mh.2.2.1) hK).more ho,⟨nm,m1,(m2.keep (hne _ m2.lt d.mm.2.1) hK).more ho⟩,hg,(h.kept.keep (hne _ h.kept.lt (Ne.symm d.gb.2.1)) hK).more ho,
  h.steps.keep hk.size (fun _ hk=>hk.elim) fun g e=>hne g (h.steps.kind g e).2.lt (fun e2=>d.gb.2.2 (by rw [←e2]; exact e)),d,h.byH,h.byK,h.okK,h.okH,by rw [List.length_set]; exact h.size,h.many⟩
theorem Bd.stepped {w2 w3:World} {x:StepV} {rows:List (List Value)} {g9 cap:Nat} (h:Bd W w p n mem u M s) (hM:s.steps.length + 1≤M) (hb:Below w.heap.size w w2) (hx:x.name.size≤maxLen∧InInt x.what) (hr:rows.length=s.steps.length)
 (hrep:∀ (i:Nat) (y:StepV) (r:List Value),s.steps[i]?=some y→rows[i]?=some r→Rep.rep w2 (fun _=>False) y r)
 (hg:w2.grownBy w3 u.ownBlock) (hat:u.ownBlock=some g9∨w2.heap.size≤g9) (hown':w3.ownsRow W.heap.size 46 3 (.slice (some ⟨g9,0,none⟩) (s.steps.length + 1) cap) (s.steps.length + 1) (rows.flatten ++ [.string x.name,.int .i64 x.what,.bool x.early])) :
 Bd W (w3.setCell ⟨p.g,4,none⟩ (.slice (some ⟨g9,0,none⟩) (s.steps.length + 1) cap)) p n mem (.slice (some ⟨g9,0,none⟩) (s.steps.length + 1) cap) M { s with steps:=s.steps ++ [x] }:=by
 have h2:=h.call hb
 obtain ⟨nm,m1,m2⟩:=h2.mem
 have d:=h.dif
 have hrow:=RowK.append (x:=x) (r:=[.string x.name,.int .i64 x.what,.bool x.early]) (l:=s.steps) (K:=fun _=>False) (fun k hh=>hh.elim) hr hrep ⟨rfl,hx⟩ (fun _ _ hh=>hh) hg hown'
 have hgB:W.heap.size≤g9:=(hrow.kind g9 rfl).1
 -- other blocks
 have hne3:∀ k,k < w2.heap.size→u.ownBlock≠some k→w3.heap[k]?=w2.heap[k]?:=fun k h1 h2=>hg.block k h1 fun e=>h2 e.symm
 have hz:(w3.setCell ⟨p.g,4,none⟩ (.slice (some ⟨g9,0,none⟩) (s.steps.length + 1) cap)).heap.size=w3.heap.size:=size_setCell' ..
 have hne:∀ k,k < w2.heap.size→u.ownBlock≠some k→k≠p.g→(w3.setCell ⟨p.g,4,none⟩ (.slice (some ⟨g9,0,none⟩) (s.steps.length + 1) cap)).heap[k]?=w2.heap[k]?:=fun k h1 h2 h3=>(heap_setCell_other w3 ⟨p.g,4,none⟩ k _ h3).trans (hne3 k h1 h2)
 have hk:∀ k,Off (BdX p u) w2 k→(w3.setCell ⟨p.g,4,none⟩ (.slice (some ⟨g9,0,none⟩) (s.steps.length + 1) cap)).heap[k]?=w2.heap[k]?:=fun k hk=>hne k hk.2 (fun e=>hk.1 (.inr (.inr (.inr (.inr (.inr e)))))) fun e=>hk.1 (.inl e)
 have h9:∀ k,k < w2.heap.size→u.ownBlock≠some k→k≠g9:=fun k h1 h2 e=>by
  rcases hat with h3 | h3
  ·exact h2 (by rw [e]; exact h3)
  ·omega
 have ho:∀ k,Off (BdX p u) w2 k→Off (BdX p (.slice (some ⟨g9,0,none⟩) (s.steps.length + 1) cap)) (w3.setCell ⟨p.g,4,none⟩ (.slice (some ⟨g9,0,none⟩) (s.steps.length + 1) cap)) k:=fun k hk=>by
  refine ⟨?_,by rw [hz]; exact Nat.lt_of_lt_of_le hk.2 hg.size⟩
  rintro (e | e | e | e | e | e)
  ·exact hk.1 (.inl e)
  ·exact hk.1 (.inr (.inl e))
  ·exact hk.1 (.inr (.inr (.inl e)))
  ·exact hk.1 (.inr (.inr (.inr (.inl e))))
  ·exact hk.1 (.inr (.inr (.inr (.inr (.inl e)))))
  ·exact h9 k hk.2 (fun e2=>hk.1 (.inr (.inr (.inr (.inr (.inr e2)))))) (by simpa [Value.ownBlock] using e.symm)
 have hd9:∀ k,k < w2.heap.size→u.ownBlock≠some k→(Value.slice (some ⟨g9,0,none⟩) (s.steps.length + 1) cap).ownBlock≠some k:=fun k h1 h2 e=>h9 k h1 h2 (by simpa [Value.ownBlock] using e.symm)
 have dg:=hd9 _ h2.blk.lt d.g.2.2.2.2.2
 have dh:=hd9 _ h2.hav.lt d.mh.2.2.2.2
 have dm:=hd9 _ m2.lt d.mm.2.2.2
 have db:=hd9 _ h2.bad.lt d.gb.2.2
 have dk:=hd9 _ h2.kept.lt d.mv.2
 have hlo:Below W.heap.size W w3:=h2.low.trans ((Kp.grown (X:=fun k=>W.heap.size≤k) (Kp.refl _ w2) hg fun k e=>.inl (h2.steps.kind k e).1).below (fun k hk e=>by have e:W.heap.size≤k:=e; omega) h2.low.size)
 have hblk:Arr w3 p.g 101 (bdCells p n u):=h2.blk.keep (hne3 _ h2.blk.lt d.g.2.2.2.2.2)
 refine ⟨hlo.setCell (p:=⟨p.g,4,none⟩) d.g.1 _,hblk.set 4 _,(h2.hav.keep (hne _ h2.hav.lt d.mh.2.2.2.2 (Ne.symm d.g.2.1)) hk).more ho,⟨nm,m1,(m2.keep (hne _ m2.lt d.mm.2.2.2 (Ne.symm d.g.2.2.1)) hk).more ho⟩,h2.bad.keep (hne _ h2.bad.lt d.gb.2.2 (Ne.symm d.g.2.2.2.1)),
  (h2.kept.keep (hne _ h2.kept.lt d.mv.2 (Ne.symm d.g.2.2.2.2.1)) hk).more ho,hrow.keep (by rw [hz]; exact Nat.le_refl _) (fun _ hk=>hk.elim) (fun g e=>heap_setCell_other _ _ _ _ fun e2=>dg (by rw [←show g=p.g from e2]; exact e)),
  ⟨⟨d.g.1,d.g.2.1,d.g.2.2.1,d.g.2.2.2.1,d.g.2.2.2.2.1,dg⟩,⟨d.mh.1,d.mh.2.1,d.mh.2.2.1,d.mh.2.2.2.1,dh⟩,⟨d.mm.1,d.mm.2.1,d.mm.2.2.1,dm⟩,⟨d.gb.1,d.gb.2.1,db⟩,⟨d.mv.1,dk⟩⟩,h.byH,h.byK,h.okK,h.okH,h.size,?_⟩
 have:=h.many
 refine ⟨?_,this.2.1,this.2.2⟩
 show (s.steps ++ [x]).length≤_
 rw [List.length_append,List.length_singleton]; exact hM
end
structure RuP where
 A1:Option Addr
 n1:Nat
 c1:Nat
 A2:Option Addr
 n2:Nat
 c2:Nat
 A3:Option Addr
 n3:Nat
 c3:Nat
 A4:Option Addr
 n4:Nat
 c4:Nat
 A5:Option Addr
 n5:Nat
 c5:Nat
structure RuS (w:World) (S:Nat→Prop) (r:RuleV) (q:RuP):Prop where
 name:r.name.size≤maxLen
 tool:r.action.tool.size≤maxLen
 time:InInt r.action.time
 commands:Sl w S q.A1 q.n1 r.action.commands
 vars:Sl w S q.A2 q.n2 r.action.vars
 outputs:Sl w S q.A3 q.n3 r.action.outputs
 needs:Sl w S q.A4 q.n4 r.action.needs
 ins:Sl w S q.A5 q.n5 r.inputs
theorem RuS.act {w:World} {S:Nat→Prop} {r:RuleV} {q:RuP} (h:RuS w S r q) (hS:∀ k,S k→k < w.heap.size):ActIs w r.action q.A1 q.n1 q.A2 q.n2 q.A3 q.n3 q.A4 q.n4 :=
 ⟨h.tool,h.commands.more hS,h.vars.more hS,h.outputs.more hS,h.needs.more hS,h.time⟩
theorem RuS.keep {w w':World} {S:Nat→Prop} {r:RuleV} {q:RuP} (h:RuS w S r q) (hk:∀ k,S k→w'.heap[k]?=w.heap[k]?):RuS w' S r q :=
 ⟨h.name,h.tool,h.time,h.commands.keep hk,h.vars.keep hk,h.outputs.keep hk,h.needs.keep hk,h.ins.keep hk⟩
theorem RuS.at {W w:World} {r:RuleV} {q:RuP} (h:RuS W (Lt W.heap.size) r q) (hb:Below W.heap.size W w):RuS w (Lt W.heap.size) r q:=h.keep (keep_lt hb)
theorem RuS.actAt {W w:World} {r:RuleV} {q:RuP} (h:RuS W (Lt W.heap.size) r q) (hb:Below W.heap.size W w):ActIs w r.action q.A1 q.n1 q.A2 q.n2 q.A3 q.n3 q.A4 q.n4:=(h.at hb).act fun _ hk=>Nat.lt_of_lt_of_le hk hb.size
end Go.Proofs.Sm
namespace Go.Proofs.Sm
open Go.RowKit Go.Maps
def InPost (p:BdP) (u:Value) (F:List FileV) (w:World) (e:Ending) (w':World):Prop :=
 ∃ A n c,e=.returned (.slice A n c)∧n≤c∧c≤maxLen∧Sl w' (Off (BdX p u) w') A n F∧Below w.heap.size w w'
theorem InPost.mk {p:BdP} {u:Value} {F:List FileV} {w w':World} {A:Option Addr} {n c:Nat} (h1:n≤c) (h2:c≤maxLen) (h3:Sl w' (Off (BdX p u) w') A n F) (h4:Below w.heap.size w w'):InPost p u F w (.returned (.slice A n c)) w':=⟨A,n,c,rfl,h1,h2,h3,h4⟩
theorem fm_none {h:List FileV} {l:List ByteArray} {k:Nat} {p:ByteArray} (hx:l[k]?=some p) (hp:h.find? (eqp p)=none):(l.take (k + 1)).filterMap (fun p=>h.find? (eqp p))=(l.take k).filterMap fun p=>h.find? (eqp p):=by
 rw [List.take_add_one,hx,List.filterMap_append]
 simp [hp]
theorem fm_some {h:List FileV} {l:List ByteArray} {k:Nat} {p:ByteArray} {x:FileV} (hx:l[k]?=some p) (hp:h.find? (eqp p)=some x):(l.take (k + 1)).filterMap (fun p=>h.find? (eqp p))=(l.take k).filterMap (fun p=>h.find? (eqp p)) ++ [x]:=by
 rw [List.take_add_one,hx,List.filterMap_append]
 simp [hp]
set_option maxHeartbeats 2000000 in
set_option maxRecDepth 100000 in
theorem steps_inputs (W:World) (p:BdP) (n:Nat) (mem:List MemoryV) (u:Value) (M:Nat) (s:BSt) (r:RuleV) (q:RuP) (w:World) (h:Bd W w p n mem u M s) (hq:RuS W (Lt W.heap.size) r q) (hn:q.n5≤1000000) :
 Calls Tryz.prog 39 #[.pointer (some ⟨p.g,0,none⟩),.agg #[.string r.name,.string r.action.tool,.slice q.A1 q.n1 q.c1,.slice q.A2 q.n2 q.c2,.slice q.A3 q.n3 q.c3,.slice q.A4 q.n4 q.c4,.int .i64 r.action.time,.slice q.A5 q.n5 q.c5]] w (InPost p u (inputsS s.have_ r) w):=by
 have hins:=(hq.at h.low).ins
 have hm:q.n5≤9223372036854775807:=by omega
 have HL:=Lib.hid hins.1
 obtain ⟨i0,hi0,hz0,hz1,hz2⟩:=info_parts file_info4
 have HG:=Lib.hid (fun (w':World) (hb:Below w.heap.size w w')=>h.blk.call hb)
 have HV:=Lib.hid (show inputsS s.have_ r=r.inputs.filterMap fun p=>s.have_.find? (eqp p) from rfl)
 have HIn:=Lib.hid (fun (w':World) (hb:Below w.heap.size w w')=>hins.keep fun k hk=>hb.block k (Nat.lt_of_lt_of_le hk h.low.size))
 have HHv:=Lib.hid h.hav
 have HNew:=Lib.hid (fun (w':World)=>h.new (w':=w'))
 have hgw:=h.blk.lt
 clear hq h
 obtain ⟨A1,n1,c1,A2,n2,c2,A3,n3,c3,A4,n4,c4,A5,n5,c5⟩:=q
 simp only at hins hm HL HIn hn ⊢
 clear hins
 go_enter Tryz.func39,Tryz.ntmps39
 go_wp2
 go_loopw [5,13] (fun v i wr=>∃ k:Nat,k≤n5∧i=.int .i64 k∧RowK wr w.heap.size 78 (Off (BdX p u) w) v ((r.inputs.take k).filterMap fun p=>s.have_.find? (eqp p))∧Below w.heap.size w wr) (fun _ i _=>n5 - (intOf i).toNat)
 case atStart=>exact ⟨0,Nat.zero_le _,rfl,RowK.nil.more (fun _ hk=>hk.elim) (fun k hk=>by rw [World.size_alloc]; have:=hk.2; omega),(by repeat (first | exact fr_refl _ | refine fr_call ?_ (by assumption) | refine fr_alloc ?_ _ | refine fr_set ?_ (by simp) _ | refine Below.drew ?_ | refine below_drewN ?_ _))⟩
 case round =>
  obtain ⟨k,hk,rfl,hrow,hbel⟩:=hrel
  have hzr:=hbel.size
  have hG:=HG.out _ hbel
  have e1:=hG.cell (i:=1) rfl
  have hgr:=hG.lt
  clear hG
  by_cases hlt:k < n5
  ·have hkI:(k:Int) < (n5:Int):=by omega
   obtain ⟨b,o,x,rfl,hb,hx,hxs,d0⟩:=(HIn.out _ hbel).str hlt
   have hlk:=files_look HHv.out hxs
   cases hf:s.have_.find? (eqp x) with
   | none =>
     rw [hf] at hlk
     have l0:=hlk wr hbel
     have HT:=Lib.hid (fm_none hx hf)
     have hr2:=hrow.call (fr_alloc (fr_refl wr) (.cells #[.string ⟨#[]⟩,.bool false,.slice none 0 0] 78))
     have hb2:=fr_alloc hbel (.cells #[.string ⟨#[]⟩,.bool false,.slice none 0 0] 78)
     rw [←HT.out] at hr2
     have HR:=Lib.hid hr2
     clear hx hf hlk hrow hr2
     go_wp2
     go_roundw
     case rel=>exact ⟨k + 1,by omega,by go_num,HR.out,hb2⟩
     case measure=>simp [intOf]; omega
   | some y =>
     rw [hf] at hlk
     obtain ⟨A,nn,cc,⟨h0,h1,h2,h3⟩,hlk⟩:=hlk
     have l0:=hlk wr hbel
     have HT:=Lib.hid (fm_some hx hf)
     have hlen:((r.inputs.take k).filterMap fun p=>s.have_.find? (eqp p)).length≤k:=Nat.le_trans (List.length_filterMap_le ..) (by rw [List.length_take]; omega)
     have hr2:=hrow.call (fr_alloc (fr_alloc (fr_refl wr) (.cells #[.string y.path,.bool y.run,.slice A nn cc] 78)) (.cells #[.string y.path,.bool y.run,.slice A nn cc] 78))
     have hb2:=fr_alloc (fr_alloc hbel (.cells #[.string y.path,.bool y.run,.slice A nn cc] 78)) (.cells #[.string y.path,.bool y.run,.slice A nn cc] 78)
     have hnew:∀ (j:Nat) z,([.string y.path,.bool y.run,.slice A nn cc]:List Value)[j]?=some z→((wr.alloc (.cells #[.string y.path,.bool y.run,.slice A nn cc] 78)).alloc (.cells #[.string y.path,.bool y.run,.slice A nn cc] 78)).cell? ((⟨wr.heap.size + 1,0,none⟩:Addr).add j)=some z:=fun j z hz=>by
      have:=new_cells (wr.alloc (.cells #[.string y.path,.bool y.run,.slice A nn cc] 78)) #[.string y.path,.bool y.run,.slice A nn cc] 78 j z hz
      rwa [World.size_alloc] at this
     have HN:=Lib.hid hnew
     have HX:=Lib.hid (show Rep.rep ((wr.alloc (.cells #[.string y.path,.bool y.run,.slice A nn cc] 78)).alloc (.cells #[.string y.path,.bool y.run,.slice A nn cc] 78)) (Off (BdX p u) w) y [.string y.path,.bool y.run,.slice A nn cc] from ⟨h0,A,nn,cc,rfl,h1,h2,h3.keep fun k hk=>hb2.block k hk.2⟩)
     have HKK:=Lib.hid (fun g hg=>(hrow.kind g hg).1)
     clear hx hf hlk hrow hnew h3
     obtain ⟨hK0,rows,hrows,hown,hrep⟩:=hr2
     have HP:=Lib.hid hrep
     have HOw:=Lib.hid hown
     have HK0:=Lib.hid hK0
     clear hown hrep hK0
     generalize ((r.inputs.take k).filterMap fun p=>s.have_.find? (eqp p))=L0 at *
     go_wp2_with (at_builtin; refine wpList_append_lies _ rfl _ _ 23 rfl w.heap.size 78 i0 _ 3 48 Tryz.underlying23 hi0 hz0 hz1 hz2 rfl (by decide) _ L0.length _ rfl HOw.out ⟨wr.heap.size + 1,0,none⟩ 1 1 [.string y.path,.bool y.run,.slice A nn cc] rfl rfl HN.out (three_ones rfl rfl rfl) (by decide) (by unfold maxLen; omega) (by omega) hb2.size _ rfl ?_)
     intro g' cap w9 hown' hgrow hat hlt'
     have hr9:=RowK.append (x:=y) HK0.out hrows HP.out HX.out (fun g hg hh=>by have:=HKK.out g hg; have:=hh.2; omega) hgrow hown'
     rw [←HT.out] at hr9
     have hb9:=hb2.grown hgrow hb2.size HKK.out
     have HR9:=Lib.hid hr9
     clear hown' hgrow hat hr9
     go_wp2
     go_roundw
     case rel=>exact ⟨k + 1,by omega,by go_num,HR9.out,hb9⟩
     case measure=>simp [intOf]; omega
  ·obtain rfl:k=n5:=by omega
   rw [List.take_of_length_le (by rw [HL.out]; exact Nat.le_refl _),←HV.out] at hrow
   obtain ⟨A8,c8,rfl,g1,g2,s8⟩:=hrow.slNew (S:=Off (BdX p u) w) fun k hk=>.inl hk
   have HE:=Lib.hid (InPost.mk g1 g2 (s8.more (HNew.out wr)) hbel)
   clear hrow s8
   go_wp2
   go_ret
   exact HE.out
end Go.Proofs.Sm
