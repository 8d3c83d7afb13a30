/- Words and walks that the claims share, part 33. -/
import Derived.Test.YtaabdbephemboaaGreatDoorBx32
namespace Go.Proofs.Sm
open Go.RowKit Go.Maps
theorem put_last_by {α:Type} {key:α→ByteArray} {l:List α} {x:α} (h:ByPath key (l ++ [x])):putBy key l x=l ++ [x]:=by
 have h1:∀ y∈l,ltS (key y) (key x)=true:=fun y hy=>(List.pairwise_append.1 h).2.2 y hy x (List.mem_singleton.2 rfl)
 have e1:l.filter (fun y=>ltS (key y) (key x))=l:=List.filter_eq_self.2 h1
 have e2:l.filter (fun y=>ltS (key x) (key y))=[]:=List.filter_eq_nil_iff.2 fun y hy hc=>by
  have:=ltS_trans (h1 y hy) hc
  rw [ltS_irrefl] at this; cases this
 unfold putBy
 rw [e1,e2,List.append_nil]
theorem filter_more {l:List MemoryV} {q:MemoryV→Bool} {k:Nat} {y:MemoryV} (h:ByPath MemoryV.name l) (hy:l[k]?=some y):(l.take (k + 1)).filter q=if q y then putM ((l.take k).filter q) y else (l.take k).filter q:=by
 have e:l.take (k + 1)=l.take k ++ [y]:=by rw [List.take_add_one,hy]; rfl
 rw [e,List.filter_append]
 by_cases hq:q y=true
 ·have h2:ByPath MemoryV.name ((l.take k).filter q ++ [y]):=by
   have h3:ByPath MemoryV.name (l.take k ++ [y]):=by rw [←e]; exact List.Pairwise.sublist (List.take_sublist _ _) h
   have h4:ByPath MemoryV.name ((l.take k ++ [y]).filter q):=List.Pairwise.sublist List.filter_sublist h3
   rw [List.filter_append] at h4
   simpa [hq] using h4
  rw [if_pos hq,putM,put_last_by h2]
  simp [hq]
 ·rw [if_neg hq]
  simp [hq]
section
variable {W w w':World} {p:BdP} {n M:Nat} {mem:List MemoryV} {u:Value} {s:BSt}
theorem Bd.remembers {w2:World} {x:MemoryV} {v:Value} {f:List UInt8→Option Value} {nm:Nat} (h:Bd W w p n mem u M s) (hnm:nm + 1≤1000000) (hb:Below w.heap.size w w2)
 (hf:∀ key,match keyM mem key with
   | none=>f key=none
   | some x=>∃ v,f key=some v∧MemVal w2 (Off (BdX p u) w2) x v) (hv:MemVal w2 (Off (BdX p u) w2) x v)
 (hm:MapIs Tryz.prog 9 w' p.mm (nm + 1) (fun key=>if key=x.name.data.toList then some v else f key)) (hg:w2.grownBy w' (some p.mm)) :
 Bd W w' p n (putM mem x) u M s:=by
 have h2:=h.call hb
 have hne:∀ k,k < w2.heap.size→k≠p.mm→w'.heap[k]?=w2.heap[k]?:=fun k h1 h2=>hg.block k h1 fun e=>h2 (by cases e; rfl)
 have hk:∀ k,Off (BdX p u) w2 k→w'.heap[k]?=w2.heap[k]?:=fun k hk=>hne k hk.2 fun e=>hk.1 (.inr (.inr (.inl e)))
 have ho:∀ k,Off (BdX p u) w2 k→Off (BdX p u) w' k:=fun k hk=>off_of hk hg.size
 have hput:=(MemsIn.put (P:=Tryz.prog) (k:=9) (w:=w2) (w':=w') (S:=Off (BdX p u) w2) (l:=mem) (x:=x) (f:=f) hf hv hm hk).more ho
 have d:=h.dif
 have hlo:Below W.heap.size W w':=h2.low.trans ((Kp.grown (X:=fun k=>k=p.mm) (Kp.refl _ w2) hg fun k e=>.inl (by cases e; rfl)).below (fun k hk e=>by have:=d.mm.1; have e:k=p.mm:=e; omega) h2.low.size)
 exact ⟨hlo,h2.blk.keep (hne _ h2.blk.lt d.g.2.2.1),(h2.hav.keep (hne _ h2.hav.lt d.mh.2.1) hk).more ho,⟨nm + 1,hnm,hput⟩,h2.bad.keep (hne _ h2.bad.lt (Ne.symm d.mm.2.1)),(h2.kept.keep (hne _ h2.kept.lt (Ne.symm d.mm.2.2.1)) hk).more ho,
  h2.steps.keep hg.size (fun _ hk=>hk.elim) fun g e=>hne g (h2.steps.kind g e).2.lt (fun e2=>d.mm.2.2.2 (by rw [←e2]; exact e)),d,h.byH,h.byK,h.okK,h.okH,h.size,h.many⟩
theorem Bd.drops {w2:World} {z:ByteArray} {f:List UInt8→Option Value} (h:Bd W w p n mem u M s) (hb:Below w.heap.size w w2)
 (hf:∀ w',MapIs Tryz.prog 9 w' p.mv s.kept.length (fun key=>if key=z.data.toList then none else f key)→(∀ k,Off (BdX p u) w2 k→w'.heap[k]?=w2.heap[k]?)→MemsIn Tryz.prog 9 w' (Off (BdX p u) w2) p.mv s.kept.length (s.kept.filter fun y=>!(z.toList == y.name.toList)))
 (hm:MapIs Tryz.prog 9 w' p.mv s.kept.length (fun key=>if key=z.data.toList then none else f key)) (hg:w2.grownBy w' (some p.mv)) :
 Bd W w' p n mem u M { s with kept:=s.kept.filter fun y=>!(z.toList == y.name.toList) }:=by
 have h2:=h.call hb
 have hne:∀ k,k < w2.heap.size→k≠p.mv→w'.heap[k]?=w2.heap[k]?:=fun k h1 h2=>hg.block k h1 fun e=>h2 (by cases e; rfl)
 have hk:∀ k,Off (BdX p u) w2 k→w'.heap[k]?=w2.heap[k]?:=fun k hk=>hne k hk.2 fun e=>hk.1 (.inr (.inr (.inr (.inr (.inl e)))))
 have ho:∀ k,Off (BdX p u) w2 k→Off (BdX p u) w' k:=fun k hk=>off_of hk hg.size
 have hby:ByPath MemoryV.name (s.kept.filter fun y=>!(z.toList == y.name.toList)):=List.Pairwise.sublist List.filter_sublist h.byK
 have hput:=((hf w' hm hk).more ho).tight Tryz.underlying9 hby
 obtain ⟨nm,m1,m2⟩:=h2.mem
 have d:=h.dif
 have hlo:Below W.heap.size W w':=h2.low.trans ((Kp.grown (X:=fun k=>k=p.mv) (Kp.refl _ w2) hg fun k e=>.inl (by cases e; rfl)).below (fun k hk e=>by have:=d.mv.1; have e:k=p.mv:=e; omega) h2.low.size)
 refine ⟨hlo,h2.blk.keep (hne _ h2.blk.lt d.g.2.2.2.2.1),(h2.hav.keep (hne _ h2.hav.lt d.mh.2.2.2.1) hk).more ho,⟨nm,m1,(m2.keep (hne _ m2.lt d.mm.2.2.1) hk).more ho⟩,h2.bad.keep (hne _ h2.bad.lt d.gb.2.1),hput,
  h2.steps.keep hg.size (fun _ hk=>hk.elim) fun g e=>hne g (h2.steps.kind g e).2.lt (fun e2=>d.mv.2 (by rw [←e2]; exact e)),d,h.byH,hby,fun y hy=>h.okK y (List.mem_filter.1 hy).1,h.okH,h.size,h.many.1,h.many.2.1,?_⟩
 have h3:=List.length_filter_le (fun y=>!(z.toList == y.name.toList)) s.kept
 have h4:=h.many.2.2
 show (s.kept.filter _).length≤_
 omega
end
end Go.Proofs.Sm
