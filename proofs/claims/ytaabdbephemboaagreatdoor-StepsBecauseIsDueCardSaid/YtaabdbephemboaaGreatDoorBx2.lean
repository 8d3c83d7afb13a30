/- Words and walks that the claims share, part 2. -/
import Derived.Test.YtaabdbephemboaaGreatDoorBx1
import Derived.Laws.OwnMore
namespace Go.Proofs.Sm
open Go.RowKit
theorem size_setCell' (w:World) (p:Addr) (u:Value):(w.setCell p u).heap.size=w.heap.size:=by simp
theorem flatten_set {sz:Nat} {u:Value}:∀ {rows:List (List Value)} {i j:Nat} {r:List Value},(∀ r∈rows,r.length=sz)→rows[i]?=some r→j < sz→(rows.set i (r.set j u)).flatten=rows.flatten.set (i * sz + j) u
 | [],i,j,r,_,h,_=>by simp at h
 | a :: rows,0,j,r,hl,h,hj=>by
   obtain rfl:a=r:=by simpa using h
   have ha:=hl a (by simp)
   rw [List.set_cons_zero,List.flatten_cons,List.flatten_cons,Nat.zero_mul,Nat.zero_add,List.set_append_left _ _ (by rw [ha]; exact hj)]
 | a :: rows,i + 1,j,r,hl,h,hj=>by
   have h':rows[i]?=some r:=by simpa using h
   have ha:=hl a (by simp)
   rw [List.set_cons_succ,List.flatten_cons,List.flatten_cons,flatten_set (fun r hr=>hl r (by simp [hr])) h' hj,List.set_append_right _ _ (by rw [ha,Nat.succ_mul]; omega)]
   congr 2
   rw [ha,Nat.succ_mul]
   omega
section
variable {α:Type} [Rep α] {w w':World} {B:Nat} {e:TypeId} {K:Nat→Prop} {v:Value} {l:List α}
theorem RowK.setElem {g n cap i j:Nat} {x:α} {u:Value} (h:RowK w B e K (.slice (some ⟨g,0,none⟩) n cap) l) (hg:¬ K g) (hi:l[i]?=some x) (hj:j < Rep.sz α)
 (hnew:∀ r,Rep.rep w K x r→Rep.rep w K x (r.set j u)):RowK (w.setCell ⟨g,i * Rep.sz α + j,none⟩ u) B e K (.slice (some ⟨g,0,none⟩) n cap) l:=by
 obtain ⟨_,_,hv⟩:=h.form
 cases hv
 obtain ⟨hk,rows,hr,hown,hrep⟩:=h
 have hil:i < l.length:=(List.getElem?_eq_some_iff.1 hi).1
 have hlens:∀ r∈rows,r.length=Rep.sz α:=by
  intro r hr2
  obtain ⟨i,hi⟩:=List.getElem?_of_mem hr2
  have hi2:=(List.getElem?_eq_some_iff.1 hi).1
  exact Rep.len (hrep i l[i] r (List.getElem?_eq_getElem (by omega)) hi)
 obtain ⟨r,hri⟩:=at_lt (l:=rows) (k:=i) (by omega)
 have hkeep:∀ k,K k→(w.setCell ⟨g,i * Rep.sz α + j,none⟩ u).heap[k]?=w.heap[k]?:=fun k hh=>heap_setCell_other w _ k u (by rintro rfl; exact hg hh)
 refine ⟨fun k hh=>by simpa using hk k hh,rows.set i (r.set j u),by simp [hr],?_,fun i' x' r' hx' hr'=>Rep.keep hkeep ?_⟩
 ·rw [flatten_set hlens hri hj]
  exact (hown.stored _ u).1
 ·rw [List.getElem?_set] at hr'
  split at hr'
  ·rename_i e1
   subst e1
   rw [if_pos (by omega)] at hr'
   obtain rfl:=Option.some.inj hr'
   rw [hi] at hx'
   obtain rfl:=Option.some.inj hx'
   exact hnew r (hrep i x r hi hri)
  ·exact hrep i' x' r' hx' hr'
theorem RowK.flat (hf:∀ {w:World} {S S':Nat→Prop} {x:α} {vs:List Value},Rep.rep w S x vs→Rep.rep w S' x vs) (h:RowK w B e K v l):RowK w B e (fun _=>False) v l:=by
 obtain ⟨_,rows,hr,hown,hrep⟩:=h
 exact ⟨fun _ h=>h.elim,rows,hr,hown,fun i x r hx hr=>hf (hrep i x r hx hr)⟩
theorem RowK.frozenAt {g n cap:Nat} (h:RowK w B e K (.slice (some ⟨g,0,none⟩) n cap) l) (j:Nat):w.frozen? ⟨g,j,none⟩=false:=by
 obtain ⟨_,_,hv⟩:=h.form
 cases hv
 obtain ⟨_,rows,_,hown,_⟩:=h
 exact hown.frozenAt j
theorem RowK.elem {g n cap i:Nat} {x:α} (h:RowK w B e K (.slice (some ⟨g,0,none⟩) n cap) l) (hi:l[i]?=some x):∃ r,Rep.rep w K x r∧∀ j u,r[j]?=some u→w.cell? ⟨g,i * Rep.sz α + j,none⟩=some u:=by
 obtain ⟨_,_,hv⟩:=h.form
 cases hv
 obtain ⟨_,rows,hr,hown,hrep⟩:=h
 have hil:i < l.length:=(List.getElem?_eq_some_iff.1 hi).1
 have hlens:∀ r∈rows,r.length=Rep.sz α:=by
  intro r hr2
  obtain ⟨i,hi⟩:=List.getElem?_of_mem hr2
  have hi2:=(List.getElem?_eq_some_iff.1 hi).1
  exact Rep.len (hrep i l[i] r (List.getElem?_eq_getElem (by omega)) hi)
 obtain ⟨r,hri⟩:=at_lt (l:=rows) (k:=i) (by omega)
 refine ⟨r,hrep i x r hi hri,fun j u hu=>?_⟩
 have hj:j < Rep.sz α:=by
  have:=(List.getElem?_eq_some_iff.1 hu).1
  rw [hlens r (List.mem_of_getElem? hri)] at this
  exact this
 have h3:=hown.cells rfl (i * Rep.sz α + j) u (by rw [flatten_at hlens hri hj]; exact hu)
 rw [addr_add,Nat.zero_add] at h3
 exact h3
end
theorem flat_byte {w:World} {S S':Nat→Prop} {x:UInt8} {vs:List Value} (h:Rep.rep w S x vs):Rep.rep w S' x vs:=h
end Go.Proofs.Sm
