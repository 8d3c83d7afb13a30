/- Words and walks that the claims share, part 1. -/
import Derived.WalkKit
import Derived.ProofKit
import Derived.Lib.Hide
import Derived.Deep.Slices
import Derived.Laws.BytesArg
import Derived.Deep.Draws
import Derived.Deep.AppendLies
import Derived.Lib.FrozenHead2
import Derived.Lib.UnsafeStr
import Derived.Lib.BufferWrite
import Derived.OwnWalk
namespace Go.Proofs.Sm
open Go.RowKit
theorem ret_bool {a b:Bool} (h:a=b):Ending.returned (.bool a)=.returned (.bool b):=by rw [h]
theorem ret_int {k:IntKind} {a b:Int} (h:a=b):Ending.returned (.int k a)=.returned (.int k b):=by rw [h]
theorem ret_string {a b:ByteArray} (h:a=b):Ending.returned (.string a)=.returned (.string b):=by rw [h]
theorem of_not {b:Bool} (h:(!b)=true):b=false:=by simpa using h
theorem of_not' {b:Bool} (h:(!b)=false):b=true:=by simpa using h
theorem bcell {W w1:World} (hb:Below W.heap.size W w1) :
 (∀ b o,b < W.heap.size→w1.cell? ⟨b,o,none⟩=W.cell? ⟨b,o,none⟩)∧(∀ b o,b < W.heap.size→w1.frozen? ⟨b,o,none⟩=W.frozen? ⟨b,o,none⟩) :=
 ⟨fun b o h=>hb.cell (p:=⟨b,o,none⟩) h,fun b o h=>hb.frozen (p:=⟨b,o,none⟩) h⟩
theorem grew {W w1:World} {o:Obj} (hb:Below (W.alloc o).heap.size (W.alloc o) w1):W.heap.size < w1.heap.size:=by
 have:=hb.size
 simp at this
 omega
theorem fr_refl (a:World):Below a.heap.size a a:=Below.refl _ _
theorem fr_alloc {a w:World} (h:Below a.heap.size a w) (o:Obj):Below a.heap.size a (w.alloc o):=h.alloc h.size o
theorem fr_call {a w w1:World} (h:Below a.heap.size a w) (hb:Below w.heap.size w w1):Below a.heap.size a w1:=h.trans (hb.mono h.size)
theorem fr_box {a w w1:World} {o:Obj} (h:Below a.heap.size a w) (hb:Below (w.alloc o).heap.size (w.alloc o) w1):Below a.heap.size a w1:=fr_call (fr_alloc h o) hb
theorem fr_set {a w:World} (h:Below a.heap.size a w) {p:Addr} (hp:a.heap.size≤p.block) (u:Value):Below a.heap.size a (w.setCell p u):=h.setCell hp u
theorem below_drewN {B:Nat} {a w:World} (h:Below B a w) (n:Nat):Below B a (w.drewN n):=⟨h.os,h.tape,h.output,h.size,h.block⟩
theorem of_drew {B:Nat} {w w1:World} (h:Below B w.drew w1):Below B w w1:=⟨h.os,h.tape,h.output,h.size,h.block⟩
theorem below_eq {B:Nat} {w w1:World} (h:w=w1):Below B w w1:=h ▸ Below.refl _ _
theorem below_drewn {B:Nat} {w w1:World} (h:∃ n,w1=w.drewN n):Below B w w1:=by
 obtain ⟨n,rfl⟩:=h
 exact below_drewN (Below.refl _ _) n
theorem all_step {p:UInt8→Bool} {s:ByteArray} {k:Nat} (hlt:k < s.size) (h:(s.data.toList.take k).all p=true) (hp:p s[k]=true) :
 (s.data.toList.take (k + 1)).all p=true:=by
 rw [List.take_succ_eq_append_getElem (by simpa using hlt),List.all_append,h]
 simp; exact hp
theorem all_no {p:UInt8→Bool} {s:ByteArray} {k:Nat} (hlt:k < s.size) (hp:p s[k]=false):s.data.toList.all p=false:=by
 rw [List.all_eq_false]
 refine ⟨s[k],?_,by simp [hp]⟩
 have h:s.data[k]'hlt∈s.data:=Array.getElem_mem hlt
 exact Array.mem_toList_iff.2 h
theorem all_end {p:UInt8→Bool} {s:ByteArray} {k:Nat} (hlt:¬ k < s.size) (h:(s.data.toList.take k).all p=true):s.data.toList.all p=true:=by
 rwa [List.take_of_length_le (by simp; exact Nat.le_of_not_lt hlt)] at h
theorem lall_step {α:Type} {p:α→Bool} {l:List α} {k:Nat} {x:α} (hx:l[k]?=some x) (h:(l.take k).all p=true) (hp:p x=true):(l.take (k + 1)).all p=true:=by
 rw [List.take_add_one,hx,List.all_append,h]
 simp [hp]
theorem lall_no {α:Type} {p:α→Bool} {l:List α} {k:Nat} {x:α} (hx:l[k]?=some x) (hp:p x=false):l.all p=false:=by
 rw [List.all_eq_false]
 exact ⟨x,List.mem_of_getElem? hx,by simp [hp]⟩
theorem lall_end {α:Type} {p:α→Bool} {l:List α} {k:Nat} (hlt:¬ k < l.length) (h:(l.take k).all p=true):l.all p=true:=by
 rwa [List.take_of_length_le (by omega)] at h
theorem any_step {α:Type} {p:α→Bool} {l:List α} {k:Nat} {x:α} (hx:l[k]?=some x) (h:(l.take k).any p=false) (hp:p x=false):(l.take (k + 1)).any p=false:=by
 rw [List.take_add_one,hx,List.any_append,h]
 simp [hp]
theorem any_yes {α:Type} {p:α→Bool} {l:List α} {k:Nat} {x:α} (hx:l[k]?=some x) (hp:p x=true):l.any p=true:=by
 rw [List.any_eq_true]
 exact ⟨x,List.mem_of_getElem? hx,hp⟩
theorem any_end {α:Type} {p:α→Bool} {l:List α} {k:Nat} (hlt:¬ k < l.length) (h:(l.take k).any p=false):l.any p=false:=by
 rwa [List.take_of_length_le (by omega)] at h
theorem at_lt {α:Type} {l:List α} {k:Nat} (h:k < l.length):∃ x,l[k]?=some x:=⟨l[k],List.getElem?_eq_getElem h⟩
class Rep (α:Type) where
 sz:Nat
 rep:World→(Nat→Prop)→α→List Value→Prop
 len:∀ {w S x vs},rep w S x vs→vs.length=sz
 keep:∀ {w w':World} {S:Nat→Prop} {x vs},(∀ k,S k→w'.heap[k]?=w.heap[k]?)→rep w S x vs→rep w' S x vs
 more:∀ {w:World} {S S':Nat→Prop} {x vs},(∀ k,S k→S' k)→rep w S x vs→rep w S' x vs
def At (w:World) (b o:Nat) (vs:List Value):Prop:=∀ j v,vs[j]?=some v→w.cell? ⟨b,o + j,none⟩=some v
theorem At.keep {w w':World} {b o:Nat} {vs:List Value} (h:At w b o vs) (hk:w'.heap[b]?=w.heap[b]?):At w' b o vs :=
 fun j v hv=>(World.cell?_of_block (w:=w) hk).trans (h j v hv)
def Sl {α:Type} [Rep α] (w:World) (S:Nat→Prop) (A:Option Addr) (n:Nat) (l:List α):Prop :=
 l.length=n∧n≤maxLen∧(0 < n→∃ b o,A=some ⟨b,o,none⟩∧S b∧∀ i x,l[i]?=some x→∃ vs,Rep.rep w S x vs∧At w b (o + i * Rep.sz α) vs)
section
variable {α:Type} [Rep α] {w w':World} {S S':Nat→Prop} {A:Option Addr} {n:Nat} {l:List α}
theorem Sl.keep (hk:∀ k,S k→w'.heap[k]?=w.heap[k]?) (h:Sl w S A n l):Sl w' S A n l:=by
 refine ⟨h.1,h.2.1,fun hn=>?_⟩
 obtain ⟨b,o,e,hb,hc⟩:=h.2.2 hn
 refine ⟨b,o,e,hb,fun i x hx=>?_⟩
 obtain ⟨vs,hr,ha⟩:=hc i x hx
 exact ⟨vs,Rep.keep hk hr,ha.keep (hk _ hb)⟩
theorem Sl.more (hs:∀ k,S k→S' k) (h:Sl w S A n l):Sl w S' A n l:=by
 refine ⟨h.1,h.2.1,fun hn=>?_⟩
 obtain ⟨b,o,e,hb,hc⟩:=h.2.2 hn
 refine ⟨b,o,e,hs _ hb,fun i x hx=>?_⟩
 obtain ⟨vs,hr,ha⟩:=hc i x hx
 exact ⟨vs,Rep.more hs hr,ha⟩
theorem Sl.nil:Sl w S none 0 ([]:List α):=⟨rfl,Nat.zero_le _,fun h=>absurd h (by omega)⟩
theorem Sl.at {k:Nat} (h:Sl w S A n l) (hk:k < l.length) :
 ∃ b o vs,A=some ⟨b,o,none⟩∧S b∧Rep.rep w S l[k] vs∧At w b (o + k * Rep.sz α) vs:=by
 obtain ⟨b,o,e,hb,hc⟩:=h.2.2 (by have:=h.1; omega)
 obtain ⟨vs,hr,ha⟩:=hc k l[k] (List.getElem?_eq_getElem hk)
 exact ⟨b,o,vs,e,hb,hr,ha⟩
end
def Lt (B:Nat):Nat→Prop:=fun k=>k < B
theorem keep_lt {B:Nat} {w w':World} (h:Below B w w'):∀ k,Lt B k→w'.heap[k]?=w.heap[k]?:=fun k hk=>h.block k hk
theorem lt_mono {B B':Nat} (h:B≤B'):∀ k,Lt B k→Lt B' k:=fun _ hk=>Nat.lt_of_lt_of_le hk h
instance:Rep ByteArray where
 sz:=1
 rep _ _ x vs:=vs=[.string x]∧x.size≤maxLen
 len h:=by rw [h.1]; rfl
 keep _ h:=h
 more _ h:=h
instance:Rep Bool where
 sz:=1
 rep _ _ x vs:=vs=[.bool x]
 len h:=by rw [h]; rfl
 keep _ h:=h
 more _ h:=h
instance:Rep UInt8 where
 sz:=1
 rep _ _ x vs:=vs=[.int .u8 x.toNat]
 len h:=by rw [h]; rfl
 keep _ h:=h
 more _ h:=h
def InInt (n:Int):Prop:=-9223372036854775808≤n∧n≤9223372036854775807
instance:Rep Int where
 sz:=1
 rep _ _ x vs:=vs=[.int .i64 x]∧InInt x
 len h:=by rw [h.1]; rfl
 keep _ h:=h
 more _ h:=h
instance {α:Type} [Rep α]:Rep (List α) where
 sz:=1
 rep w S l vs:=∃ A n c,vs=[.slice A n c]∧n≤c∧c≤maxLen∧Sl w S A n l
 len h:=by obtain ⟨A,n,c,rfl,_⟩:=h; rfl
 keep hk h:=by obtain ⟨A,n,c,e,h1,h2,h3⟩:=h; exact ⟨A,n,c,e,h1,h2,h3.keep hk⟩
 more hs h:=by obtain ⟨A,n,c,e,h1,h2,h3⟩:=h; exact ⟨A,n,c,e,h1,h2,h3.more hs⟩
section
variable {w:World} {S:Nat→Prop} {A:Option Addr} {n k:Nat}
theorem Sl.str {l:List ByteArray} (h:Sl w S A n l) (hk:k < n) :
 ∃ b o x,A=some ⟨b,o,none⟩∧S b∧l[k]?=some x∧x.size≤maxLen∧w.cell? ⟨b,o + k,none⟩=some (.string x):=by
 have hk':k < l.length:=by rw [h.1]; exact hk
 obtain ⟨b,o,vs,e,hb,⟨rfl,hs⟩,ha⟩:=h.at hk'
 have h0:=ha 0 _ rfl
 simp only [Rep.sz,Nat.mul_one,Nat.add_zero] at h0
 exact ⟨b,o,_,e,hb,List.getElem?_eq_getElem hk',hs,h0⟩
theorem Sl.byte {l:List UInt8} (h:Sl w S A n l) (hk:k < n) :
 ∃ b o x,A=some ⟨b,o,none⟩∧S b∧l[k]?=some x∧w.cell? ⟨b,o + k,none⟩=some (.int .u8 x.toNat):=by
 have hk':k < l.length:=by rw [h.1]; exact hk
 obtain ⟨b,o,vs,e,hb,rfl,ha⟩:=h.at hk'
 have h0:=ha 0 _ rfl
 simp only [Rep.sz,Nat.mul_one,Nat.add_zero] at h0
 exact ⟨b,o,_,e,hb,List.getElem?_eq_getElem hk',h0⟩
theorem Sl.new_strs {w:World} {t:TypeId} {l:List ByteArray} (hl:l.length≤maxLen) (hs:∀ x∈l,x.size≤maxLen) :
 Sl (w.alloc (.cells (l.map Value.string).toArray t)) (Lt (w.heap.size + 1)) (some ⟨w.heap.size,0,none⟩) l.length l :=
 ⟨rfl,hl,fun _=>⟨_,_,rfl,Nat.lt_succ_self _,fun i x hx=>⟨[.string x],⟨rfl,hs x (List.mem_of_getElem? hx)⟩,fun j v hv=>by
  have hj:j=0∧v=.string x:=by
   cases j with
   | zero=>simp at hv; exact ⟨rfl,hv.symm⟩
   | succ j=>simp at hv
  obtain ⟨rfl,rfl⟩:=hj
  have h0:(w.alloc (.cells (l.map Value.string).toArray t)).heap[w.heap.size]?=some (.cells (l.map Value.string).toArray t (0,0)):=heap_alloc_new w _
  have h1:i * Rep.sz ByteArray + 0=i:=by simp [Rep.sz]
  simp only [World.cell?,h0,Nat.zero_add,h1]
  have h2:(l.map Value.string)[i]?=some (.string x):=by rw [List.getElem?_map,hx]; rfl
  simpa using h2⟩⟩⟩
end
theorem run_bytes_string {P:Program} {w:World} {S:Nat→Prop} {A:Option Addr} {n:Nat} {l:List UInt8} (h:Sl w S A n l) (src dst e:TypeId) (c:Nat)
 (hs:P.underlying src=some (.slice e)) (he:P.underlying e=some (.int .u8)) (hd:P.underlying dst=some .string) :
 (convert src dst (.slice A n c)).run P w=.ok (.string ⟨l.toArray⟩) w:=by
 have hnum:∀ l:List UInt8,strOfNums (l.map fun x=>(x.toNat:Int))=⟨l.toArray⟩:=by
  intro l
  simp [strOfNums,Function.comp_def]
 rcases Nat.eq_zero_or_pos n with h0 | h0
 ·subst h0
  have hl:l=[]:=List.eq_nil_of_length_eq_zero h.1
  subst hl
  rcases A with _ | a
  ·exact run_convert_bytes_nil w src e hs he 0 c dst hd
  ·rw [run_convert_bytes_string w src dst e _ 0 c hs he hd,run_bytesToString w a 0 c [] (by simp [loadCells,loadCellsFrom,Sem.run_pure])]
   rfl
 ·obtain ⟨b,o,rfl,_,hc⟩:=h.2.2 h0
  have hlen:=h.1
  rw [run_convert_bytes_arg w src e hs he b o n c (l.map fun x=>(x.toNat:Int)) (by simpa using hlen) (fun i hi=>?_) dst hd,hnum]
  obtain ⟨vs,hr,ha⟩:=hc i (l[i]'(by omega)) (List.getElem?_eq_getElem _)
  obtain rfl:vs=[.int .u8 (l[i]'(by omega)).toNat]:=hr
  have:=ha 0 _ rfl
  simp only [Rep.sz,Nat.mul_one,Nat.add_zero] at this
  rw [this]
  simp [List.getD,List.getElem?_eq_getElem (show i < l.length by omega)]
theorem list_of {α:Type} {p:Nat→α→Prop} {len:Nat} (key:∀ i,i < len→∃ x:α,p i x):∃ l:List α,l.length=len∧∀ i x,l[i]?=some x→p i x:=by
 induction len with
 | zero=>exact ⟨[],rfl,fun i x hx=>by simp at hx⟩
 | succ k ih =>
   obtain ⟨l,hlen,hl⟩:=ih (fun i hi=>key i (by omega))
   obtain ⟨x,hx⟩:=key k (by omega)
   refine ⟨l ++ [x],by simp [hlen],fun i y hy=>?_⟩
   by_cases hik:i < l.length
   ·rw [List.getElem?_append_left hik] at hy
    exact hl i y hy
   ·rw [List.getElem?_append_right (by omega)] at hy
    have:i - l.length=0:=by
     have:=(List.getElem?_eq_some_iff.1 hy).1
     simp at this
     omega
    rw [this] at hy
    have hik':i=k:=by omega
    subst hik'
    obtain rfl:x=y:=by simpa using hy
    exact hx
section
variable {H:Type} {enc:TypeId × Value→H} {P:Program} {w:World} {base:Nat} {spare:Nat→Bool} {held:Bool}
def Dec (enc:TypeId × Value→H) (P:Program) (w:World) (base:Nat) (spare:Nat→Bool) (held:Bool) (t:TypeId) (α:Type) [Rep α]:Prop :=
 ∀ fuel cs d,DataW.trod enc P w base spare held fuel t cs=some d→∃ x:α,Rep.rep w (Lt w.heap.size) x cs
theorem dec_string {t:TypeId} (ht:P.underlying t=some .string):Dec enc P w base spare held t ByteArray:=fun fuel cs d h=>by
 obtain ⟨s,rfl,_,hs⟩:=DataW.trod_string ht h
 exact ⟨s,rfl,hs⟩
theorem dec_int {t:TypeId} (ht:P.underlying t=some (.int .i64)):Dec enc P w base spare held t Int:=fun fuel cs d h=>by
 obtain ⟨n,rfl,_,hw⟩:=DataW.trod_int ht h
 refine ⟨n,rfl,?_⟩
 simp [Lit.wf,IntKind.min,IntKind.max,IntKind.signed,IntKind.bits] at hw
 unfold InInt
 omega
theorem dec_u8 {t:TypeId} (ht:P.underlying t=some (.int .u8)):Dec enc P w base spare held t UInt8:=fun fuel cs d h=>by
 obtain ⟨n,rfl,_,hw⟩:=DataW.trod_int ht h
 have hb:0≤n∧n < 256:=by
  simp [Lit.wf,IntKind.min,IntKind.max,IntKind.signed,IntKind.bits] at hw
  omega
 refine ⟨UInt8.ofNat n.toNat,?_⟩
 show _=_
 rw [UInt8.toNat_ofNat']
 congr
 omega
theorem dec_slice {α:Type} [Rep α] {t e:TypeId} (ht:P.underlying t=some (.slice e)) (hC:P.cellsOf e=Rep.sz α) (hpos:0 < Rep.sz α) (hd:Dec enc P w base spare held e α) :
 Dec enc P w base spare held t (List α):=fun fuel cs d h=>by
 rcases Deep.open_slice ht h with ⟨rfl,_⟩ | ⟨a,len,cap,m,nn,D,Pl,rfl,_,hl,hm,hmm,_,hi⟩
 ·exact ⟨[],none,0,0,rfl,Nat.le_refl _,Nat.zero_le _,Sl.nil⟩
 ·have hlm:len≤m:=by rw [hmm]; split <;> omega
  have key:∀ i,i < len→∃ x:α,∃ vs,Rep.rep w (Lt w.heap.size) x vs∧∀ j v,vs[j]?=some v→w.cell? ((a.add (i * P.cellsOf e)).add j)=some v:=by
   intro i hil
   obtain ⟨cs',hc,ht'⟩:=hi i (by omega)
   obtain ⟨x,hx⟩:=hd _ _ _ ht'
   obtain ⟨_,hlen,hat⟩:=World.cells?_some hc
   refine ⟨x,cs',hx,fun j v hv=>?_⟩
   have hj:j < P.cellsOf e:=by
    have:=(List.getElem?_eq_some_iff.1 hv).1
    omega
   rw [hat j hj,hv]
  obtain ⟨l,hlen,hl'⟩:=list_of key
  refine ⟨l,some a,len,cap,rfl,hl,hm,hlen,by omega,fun hn=>?_⟩
  obtain ⟨b,off,spot⟩:=a
  obtain ⟨vs0,hr0,hc0⟩:=hl' 0 l[0] (List.getElem?_eq_getElem (by omega))
  have hl0:=Rep.len hr0
  have c00:=hc0 0 (vs0[0]'(by omega)) (List.getElem?_eq_getElem (by omega))
  simp only [Nat.zero_mul,Addr.add,if_true] at c00
  have hspot:spot=none:=by simpa using World.cell?_spot c00
  subst hspot
  have hb:b < w.heap.size:=by
   rcases Nat.lt_or_ge b w.heap.size with h1 | h1
   ·exact h1
   ·simp [World.cell?,Array.getElem?_eq_none h1] at c00
  refine ⟨b,off,rfl,hb,fun i x hx=>?_⟩
  obtain ⟨vs,hr,hc⟩:=hl' i x hx
  refine ⟨vs,hr,fun j v hv=>?_⟩
  have:=hc j v hv
  rw [Deep.add_add,hC] at this
  rw [←this]
  congr 1
  unfold Addr.add
  split
  ·simp [*]
  ·simp [Nat.add_assoc]
end
end Go.Proofs.Sm
namespace Go.Proofs.Sm
open Go.RowKit
def Box3 (w:World) (g:Nat) (a b c:Value):Prop :=
 (w.cell? ⟨g,0,none⟩=some a∧w.cell? ⟨g,1,none⟩=some b∧w.cell? ⟨g,2,none⟩=some c)∧(w.frozen? ⟨g,0,none⟩=false∧w.frozen? ⟨g,1,none⟩=false∧w.frozen? ⟨g,2,none⟩=false)∧g < w.heap.size
theorem box3_new (w:World) (a b c:Value) (t:TypeId):Box3 (w.alloc (.cells #[a,b,c] t)) w.heap.size a b c:=by
 have h0:(w.alloc (.cells #[a,b,c] t)).heap[w.heap.size]?=some (.cells #[a,b,c] t (0,0)):=heap_alloc_new w _
 refine ⟨⟨?_,?_,?_⟩,⟨?_,?_,?_⟩,by simp⟩ <;> (first | rw [World.cell?,h0] | rw [World.frozen?,h0]) <;> rfl
theorem Box3.call {w w1:World} {g:Nat} {a b c:Value} (h:Box3 w g a b c) (hb:Below w.heap.size w w1):Box3 w1 g a b c:=by
 obtain ⟨⟨h1,h2,h3⟩,⟨h4,h5,h6⟩,h7⟩:=h
 exact ⟨⟨(hb.cell h7).trans h1,(hb.cell h7).trans h2,(hb.cell h7).trans h3⟩,⟨(hb.frozen h7).trans h4,(hb.frozen h7).trans h5,(hb.frozen h7).trans h6⟩,Nat.lt_of_lt_of_le h7 hb.size⟩
end Go.Proofs.Sm
namespace Go.Proofs.Sm
open Go.RowKit
theorem flatMap_at {α:Type} {cells:α→List Value} {sz:Nat} (hlen:∀ x,(cells x).length=sz):∀ {l:List α} {i j:Nat} {x:α},l[i]?=some x→j < sz→(l.flatMap cells)[i * sz + j]?=(cells x)[j]?
 | [],i,j,x,hx,_=>by simp at hx
 | a :: l,0,j,x,hx,hj=>by
   obtain rfl:a=x:=by simpa using hx
   rw [List.flatMap_cons,Nat.zero_mul,Nat.zero_add,List.getElem?_append_left (by rw [hlen]; exact hj)]
 | a :: l,i + 1,j,x,hx,hj=>by
   have hx':l[i]?=some x:=by simpa using hx
   rw [List.flatMap_cons,List.getElem?_append_right (by rw [hlen,Nat.succ_mul]; omega),hlen,←flatMap_at hlen hx' hj]
   congr 1
   rw [Nat.succ_mul]
   omega
theorem ownsRow_call {w w':World} {base:Nat} {e:TypeId} {size:Nat} {v:Value} {n:Nat} {xs:List Value} (h:w.ownsRow base e size v n xs) (hb:Below w.heap.size w w'):w'.ownsRow base e size v n xs :=
 h.kept (row:=none) ⟨hb.os,hb.tape,hb.output,hb.size,fun i hi _=>hb.block i hi⟩ (by
  cases v.ownBlock with
  | none=>exact .inl rfl
  | some k=>exact .inr (by simp))
theorem Sl.of_own {α:Type} [Rep α] {w:World} {base:Nat} {e:TypeId} {v:Value} {l:List α} {cells:α→List Value} (hlen:∀ x,(cells x).length=Rep.sz α)
 (hrep:∀ x∈l,Rep.rep w (Lt w.heap.size) x (cells x)) (h:w.ownsRow base e (Rep.sz α) v l.length (l.flatMap cells)) :
 ∃ A c,v=.slice A l.length c∧l.length≤c∧c≤maxLen∧Sl w (Lt w.heap.size) A l.length l:=by
 have hcells:=fun g hg=>h.cells (g:=g) hg
 have hlt:=h.lt
 obtain ⟨_,h2⟩:=h
 rcases h2 with ⟨rfl,h0⟩ | ⟨g,cap,cur,rfl,hb,hh,hnc,hcm,_,_⟩
 ·rw [h0]
  have hl:l=[]:=List.eq_nil_of_length_eq_zero h0
  subst hl
  exact ⟨none,0,rfl,Nat.le_refl _,Nat.zero_le _,Sl.nil⟩
 ·refine ⟨some ⟨g,0,none⟩,cap,rfl,hnc,hcm,rfl,Nat.le_trans hnc hcm,fun hn=>⟨g,0,rfl,(hlt g rfl).2,fun i x hx=>⟨cells x,hrep x (List.mem_of_getElem? hx),fun j u hu=>?_⟩⟩⟩
  have hj:j < Rep.sz α:=by
   have:=(List.getElem?_eq_some_iff.1 hu).1
   rw [hlen] at this
   exact this
  have h3:=hcells g rfl (i * Rep.sz α + j) u (by rw [flatMap_at hlen hx hj]; exact hu)
  have e:(⟨g,0,none⟩:Addr).add (i * Rep.sz α + j)=⟨g,0 + i * Rep.sz α + j,none⟩:=by
   unfold Addr.add
   split
   ·rename_i h4
    have h5:0 + i * Rep.sz α + j=0:=by omega
    rw [h5]
   ·simp
  rw [e] at h3
  exact h3
end Go.Proofs.Sm
namespace Go.Proofs.Sm
open Go.RowKit
theorem addr_add (b o j:Nat):(⟨b,o,none⟩:Addr).add j=⟨b,o + j,none⟩:=by
 unfold Addr.add
 split
 ·simp [*]
 ·simp
section
variable {P:Program} {w:World}
theorem run_append_nilF (base:Nat) (t ty e:TypeId) (i:TypeInfo) (size c:Nat) (ht:P.underlying t=some (.slice e)) (hi:P.info? e=some i)
 (v:Value) (n:Nat) (xs:List Value) (hown:w.ownsRowF base e size v n xs):(Builtin.append_ #[t,t] ty #[v,.slice none 0 c]).run P w=.ok v w:=by
 rcases hown.2 with ⟨rfl,rfl⟩ | ⟨g,cap,cur,fz,rfl,_,_,_,hnc,_⟩
 ·simp [Builtin.append_,run_underlying ht,sizeOf,typeInfo,hi,Builtin.lenOf,Builtin.firstCells]
 ·simp [Builtin.append_,run_underlying ht,sizeOf,typeInfo,hi,Builtin.lenOf,Builtin.firstCells,hnc,storeCells]
theorem run_append_nilO (base:Nat) (t ty e:TypeId) (i:TypeInfo) (size c:Nat) (ht:P.underlying t=some (.slice e)) (hi:P.info? e=some i)
 (v:Value) (n:Nat) (xs:List Value) (hown:w.ownsRow base e size v n xs):(Builtin.append_ #[t,t] ty #[v,.slice none 0 c]).run P w=.ok v w :=
 run_append_nilF base t ty e i size c ht hi v n xs (World.ownsRowF_of hown)
variable {ops:Array Oper} {rest:List Oper} {o:Oper} {a:Act} {Q:Exit→Act→World→Prop}
theorem wpList_append_src (hgd:o.guard=none) (s x:Operand) (t:TypeId)
 (ho:o.op=.call { callee:=.builtin .append,args:=#[s,x],argTypes:=#[t,t] })
 (base:Nat) (e:TypeId) (i:TypeInfo) (z:Value) (size bytes:Nat) (ht:P.underlying t=some (.slice e)) (hi:P.info? e=some i) (hz:i.zero=some z)
 (hsize:i.size=size) (hby:i.bytes=bytes) (hzs:z.cells.size=size) (hsz:0 < size)
 (v:Value) (n:Nat) (xs:List Value) (hs:a.eval s=v) (hown:w.ownsRow base e size v n xs)
 (A:Option Addr) (m c:Nat) (news:List Value) (hx:a.eval x=.slice A m c) (hl:news.length=m * size) (hnews:0 < m→∃ ad,A=some ad∧∀ j u,news[j]?=some u→w.cell? (ad.add j)=some u)
 (h1:∀ u∈news,u.oneCell'=true) (h63:n + m≤maxLen) (hbytes:(n + m) * bytes≤140737488355328) (hbase:base≤w.heap.size)
 (h:∀ v' w',w'.ownsRow base e size v' (n + m) (xs ++ news)→w.grownBy w' v.ownBlock→wpList P ops Q rest (a.put o.dst v') w'):wpList P ops Q (o :: rest) a w:=by
 rcases A with _ | ad
 ·obtain rfl:m=0:=by
   rcases Nat.eq_zero_or_pos m with h0 | h0
   ·exact h0
   ·obtain ⟨_,h2,_⟩:=hnews h0
    cases h2
  obtain rfl:news=[]:=List.eq_nil_of_length_eq_zero (by simpa using hl)
  refine wpList_plain hgd fun K hK=>?_
  have hrun:=run_append_nilO (P:=P) (w:=w) base t o.type e i size c ht hi v n xs hown
  unfold Oper.wp
  simp [execOp,ho,resolve,invoke,builtin,hs,hx,hrun,Result.andThen]
  exact hK _ _ (h v w (by simpa using hown) (World.grownBy.refl w _))
 ·refine wpList_append_own w hgd s x t ho base e i z size bytes ht hi hz hsize hby hzs hsz v n xs hs hown ad m c news hx hl ?_ h1 h63 hbytes hbase (fun v' w' h2 h3 _=>h v' w' h2 h3)
  intro j u hu
  have hm:0 < m:=by
   rcases Nat.eq_zero_or_pos m with h0 | h0
   ·subst h0
    obtain rfl:news=[]:=List.eq_nil_of_length_eq_zero (by simpa using hl)
    simp at hu
   ·exact h0
  obtain ⟨_,h2,h3⟩:=hnews hm
  cases h2
  exact h3 j u hu
end
theorem sl_byteCells {w:World} {S:Nat→Prop} {A:Option Addr} {n:Nat} {p:List UInt8} (h:Sl w S A n p) (hn:0 < n) :
 ∃ ad,A=some ad∧∀ j u,(Lib.byteCells p)[j]?=some u→w.cell? (ad.add j)=some u:=by
 obtain ⟨q,o,rfl,_,hc⟩:=h.2.2 hn
 refine ⟨_,rfl,fun j u hu=>?_⟩
 simp only [Lib.byteCells,List.getElem?_map,Option.map_eq_some_iff] at hu
 obtain ⟨x,hx,rfl⟩:=hu
 obtain ⟨vs,rfl,ha⟩:=hc j x hx
 have h0:=ha 0 _ rfl
 simp only [Rep.sz,Nat.mul_one,Nat.add_zero] at h0
 rw [addr_add]; exact h0
end Go.Proofs.Sm
namespace Go.Proofs.Sm
open Go.RowKit
def Kind (ty:TypeId) (w:World) (k:Nat):Prop:=∃ cs fz,w.heap[k]?=some (.cells cs ty fz)
theorem Kind.lt {ty:TypeId} {w:World} {k:Nat} (h:Kind ty w k):k < w.heap.size:=by
 obtain ⟨cs,fz,h⟩:=h
 exact (Array.getElem?_eq_some_iff.1 h).1
theorem Kind.of_keep {ty:TypeId} {w w':World} (hk:∀ k,Kind ty w k→w'.heap[k]?=w.heap[k]?):∀ k,Kind ty w k→Kind ty w' k:=by
 intro k h
 obtain ⟨cs,fz,h1⟩:=h
 exact ⟨cs,fz,(hk k ⟨cs,fz,h1⟩).trans h1⟩
def RowOwn {α:Type} [Rep α] (w:World) (B:Nat) (e ty:TypeId) (v:Value) (l:List α):Prop :=
 ∃ rows:List (List Value),rows.length=l.length∧w.ownsRow B e (Rep.sz α) v l.length rows.flatten∧∀ (i:Nat) (x:α) (r:List Value),l[i]?=some x→rows[i]?=some r→Rep.rep w (Kind ty w) x r
section
variable {α:Type} [Rep α] {w w':World} {B:Nat} {e ty:TypeId} {v:Value} {l:List α}
theorem RowOwn.nil:RowOwn w B e ty (.slice none 0 0) ([]:List α):=⟨[],rfl,World.ownsRow_nil _ _ _ _,fun i x r h=>by simp at h⟩
theorem ownsRow_keep {size n:Nat} {xs:List Value} (h:w.ownsRow B e size v n xs) (h2:∀ g,v.ownBlock=some g→w'.heap[g]?=w.heap[g]?):w'.ownsRow B e size v n xs:=by
 obtain ⟨h1,h3⟩:=h
 refine ⟨h1,?_⟩
 rcases h3 with h3 | ⟨g,cap,cur,rfl,hb,hh,h4⟩
 ·exact .inl h3
 ·exact .inr ⟨g,cap,cur,rfl,hb,(h2 g rfl).trans hh,h4⟩
theorem RowOwn.keep (h:RowOwn w B e ty v l) (h1:∀ k,Kind ty w k→w'.heap[k]?=w.heap[k]?) (h2:∀ g,v.ownBlock=some g→w'.heap[g]?=w.heap[g]?):RowOwn w' B e ty v l:=by
 obtain ⟨rows,hr,hown,hrep⟩:=h
 exact ⟨rows,hr,ownsRow_keep hown h2,fun i x r hx hri=>Rep.more (Kind.of_keep h1) (Rep.keep h1 (hrep i x r hx hri))⟩
theorem ownsRow_kind {size n:Nat} {xs:List Value} (h:w.ownsRow B e size v n xs):∀ g,v.ownBlock=some g→B≤g∧Kind e w g:=by
 intro g hg
 rcases h.2 with ⟨rfl,_⟩ | ⟨g',cap,cur,rfl,hb,hh,_⟩
 ·simp [Value.ownBlock] at hg
 ·obtain rfl:g'=g:=by simpa [Value.ownBlock] using hg
  exact ⟨hb,cur,_,hh⟩
theorem RowOwn.kind (h:RowOwn w B e ty v l):∀ g,v.ownBlock=some g→B≤g∧Kind e w g:=by
 obtain ⟨rows,_,hown,_⟩:=h
 exact ownsRow_kind hown
theorem RowOwn.call (h:RowOwn w B e ty v l) (hb:Below w.heap.size w w'):RowOwn w' B e ty v l :=
 h.keep (fun k hk=>hb.block k hk.lt) (fun g hg=>hb.block g (h.kind g hg).2.lt)
theorem kind_ne {t1 t2:TypeId} {k1 k2:Nat} (h1:Kind t1 w k1) (h2:Kind t2 w k2) (h:t1≠t2):k1≠k2:=by
 rintro rfl
 obtain ⟨c1,f1,e1⟩:=h1
 obtain ⟨c2,f2,e2⟩:=h2
 rw [e1] at e2
 cases e2
 exact h rfl
theorem RowOwn.set {t:TypeId} {p:Addr} (h:RowOwn w B e ty v l) (hp:Kind t w p.block) (he:e≠t) (hty:ty≠t) (u:Value):RowOwn (w.setCell p u) B e ty v l :=
 h.keep (fun k hk=>heap_setCell_other w p k u (kind_ne hk hp hty)) (fun g hg=>heap_setCell_other w p g u (kind_ne (h.kind g hg).2 hp he))
theorem RowOwn.append {rows:List (List Value)} {r:List Value} {x:α} {v':Value} (hr:rows.length=l.length) (hown:w.ownsRow B e (Rep.sz α) v l.length rows.flatten)
 (hrep:∀ (i:Nat) (x:α) (r:List Value),l[i]?=some x→rows[i]?=some r→Rep.rep w (Kind ty w) x r) (hx:Rep.rep w (Kind ty w) x r) (hne:ty≠e)
 (hg:w.grownBy w' v.ownBlock) (hown':w'.ownsRow B e (Rep.sz α) v' (l.length + 1) (rows.flatten ++ r)):RowOwn w' B e ty v' (l ++ [x]):=by
 have h1:∀ k,Kind ty w k→w'.heap[k]?=w.heap[k]?:=fun k hk=>hg.block k hk.lt fun e2=>kind_ne hk (ownsRow_kind hown k e2.symm).2 hne rfl
 refine ⟨rows ++ [r],by simp [hr],?_,?_⟩
 ·rw [List.length_append,List.length_singleton,List.flatten_append]
  simpa using hown'
 ·intro i y s hy hs
  refine Rep.more (Kind.of_keep h1) (Rep.keep h1 ?_)
  by_cases hi:i < l.length
  ·rw [List.getElem?_append_left hi] at hy
   rw [List.getElem?_append_left (by omega)] at hs
   exact hrep i y s hy hs
  ·have hi2:=(List.getElem?_eq_some_iff.1 hy).1
   rw [List.length_append,List.length_singleton] at hi2
   obtain rfl:i=l.length:=by omega
   rw [List.getElem?_append_right (Nat.le_refl _)] at hy
   rw [List.getElem?_append_right (by omega),hr] at hs
   simp at hy hs
   subst hy; subst hs
   exact hx
theorem flatten_at {sz:Nat}:∀ {rows:List (List Value)} {i j:Nat} {r:List Value},(∀ r∈rows,r.length=sz)→rows[i]?=some r→j < sz→rows.flatten[i * sz + j]?=r[j]?
 | [],i,j,r,_,h,_=>by simp at h
 | a :: rows,0,j,r,hl,h,hj=>by
   obtain rfl:a=r:=by simpa using h
   rw [List.flatten_cons,Nat.zero_mul,Nat.zero_add,List.getElem?_append_left (by rw [hl a (by simp)]; exact hj)]
 | a :: rows,i + 1,j,r,hl,h,hj=>by
   have h':rows[i]?=some r:=by simpa using h
   have ha:=hl a (by simp)
   rw [List.flatten_cons,List.getElem?_append_right (by rw [ha,Nat.succ_mul]; omega),ha,←flatten_at (fun r hr=>hl r (by simp [hr])) h' hj]
   congr 1
   rw [Nat.succ_mul]
   omega
theorem RowOwn.sl (h:RowOwn w B e ty v l):∃ A c,v=.slice A l.length c∧l.length≤c∧c≤maxLen∧Sl w (Lt w.heap.size) A l.length l:=by
 obtain ⟨rows,hr,hown,hrep⟩:=h
 have hcells:=fun g hg=>hown.cells (g:=g) hg
 have hlt:=hown.lt
 have hlens:∀ r∈rows,r.length=Rep.sz α:=by
  intro r hr2
  obtain ⟨i,hi⟩:=List.getElem?_of_mem hr2
  have hi2:=(List.getElem?_eq_some_iff.1 hi).1
  exact Rep.len (hrep i l[i] r (List.getElem?_eq_getElem (by omega)) hi)
 rcases hown.2 with ⟨rfl,h0⟩ | ⟨g,cap,cur,rfl,hb,hh,hnc,hcm,_,_⟩
 ·rw [h0]
  have hl:l=[]:=List.eq_nil_of_length_eq_zero h0
  subst hl
  exact ⟨none,0,rfl,Nat.le_refl _,Nat.zero_le _,Sl.nil⟩
 ·refine ⟨some ⟨g,0,none⟩,cap,rfl,hnc,hcm,rfl,Nat.le_trans hnc hcm,fun hn=>⟨g,0,rfl,(hlt g rfl).2,fun i x hx=>?_⟩⟩
  have hi:i < l.length:=(List.getElem?_eq_some_iff.1 hx).1
  have hri:rows[i]?=some (rows[i]'(by omega)):=List.getElem?_eq_getElem (by omega)
  refine ⟨rows[i]'(by omega),Rep.more (fun k hk=>hk.lt) (hrep i x _ hx hri),fun j u hu=>?_⟩
  have hj:j < Rep.sz α:=by
   have:=(List.getElem?_eq_some_iff.1 hu).1
   rw [hlens _ (List.mem_of_getElem? hri)] at this
   exact this
  have h3:=hcells g rfl (i * Rep.sz α + j) u (by rw [flatten_at hlens hri hj]; exact hu)
  rw [addr_add] at h3
  rw [←h3]
  congr 2
  omega
end
end Go.Proofs.Sm
namespace Go.Proofs.Sm
open Go.RowKit
def RowK {α:Type} [Rep α] (w:World) (B:Nat) (e:TypeId) (K:Nat→Prop) (v:Value) (l:List α):Prop :=
 (∀ k,K k→k < w.heap.size)∧∃ rows:List (List Value),rows.length=l.length∧w.ownsRow B e (Rep.sz α) v l.length rows.flatten∧∀ (i:Nat) (x:α) (r:List Value),l[i]?=some x→rows[i]?=some r→Rep.rep w K x r
section
variable {α:Type} [Rep α] {w w':World} {B:Nat} {e:TypeId} {K K':Nat→Prop} {v:Value} {l:List α}
theorem RowK.nil:RowK w B e (fun _=>False) (.slice none 0 0) ([]:List α):=⟨fun _ h=>h.elim,[],rfl,World.ownsRow_nil _ _ _ _,fun i x r h=>by simp at h⟩
theorem RowK.keep (h:RowK w B e K v l) (hs:w.heap.size≤w'.heap.size) (h1:∀ k,K k→w'.heap[k]?=w.heap[k]?) (h2:∀ g,v.ownBlock=some g→w'.heap[g]?=w.heap[g]?):RowK w' B e K v l:=by
 obtain ⟨hk,rows,hr,hown,hrep⟩:=h
 exact ⟨fun k hh=>Nat.lt_of_lt_of_le (hk k hh) hs,rows,hr,ownsRow_keep hown h2,fun i x r hx hri=>Rep.keep h1 (hrep i x r hx hri)⟩
theorem RowK.more (h:RowK w B e K v l) (hm:∀ k,K k→K' k) (hk':∀ k,K' k→k < w.heap.size):RowK w B e K' v l:=by
 obtain ⟨_,rows,hr,hown,hrep⟩:=h
 exact ⟨hk',rows,hr,hown,fun i x r hx hri=>Rep.more hm (hrep i x r hx hri)⟩
theorem RowK.kind (h:RowK w B e K v l):∀ g,v.ownBlock=some g→B≤g∧Kind e w g:=by
 obtain ⟨_,rows,_,hown,_⟩:=h
 exact ownsRow_kind hown
theorem RowK.call (h:RowK w B e K v l) (hb:Below w.heap.size w w'):RowK w' B e K v l :=
 h.keep hb.size (fun k hk=>hb.block k (h.1 k hk)) (fun g hg=>hb.block g (h.kind g hg).2.lt)
theorem RowK.append {rows:List (List Value)} {r:List Value} {x:α} {v':Value} (hk:∀ k,K k→k < w.heap.size) (hr:rows.length=l.length)
 (hrep:∀ (i:Nat) (x:α) (r:List Value),l[i]?=some x→rows[i]?=some r→Rep.rep w K x r) (hx:Rep.rep w K x r) (hne:∀ g,v.ownBlock=some g→¬ K g)
 (hg:w.grownBy w' v.ownBlock) (hown':w'.ownsRow B e (Rep.sz α) v' (l.length + 1) (rows.flatten ++ r)):RowK w' B e K v' (l ++ [x]):=by
 have h1:∀ k,K k→w'.heap[k]?=w.heap[k]?:=fun k hh=>hg.block k (hk k hh) fun e2=>hne k e2.symm hh
 refine ⟨fun k hh=>Nat.lt_of_lt_of_le (hk k hh) hg.size,rows ++ [r],by simp [hr],?_,?_⟩
 ·rw [List.length_append,List.length_singleton,List.flatten_append]
  simpa using hown'
 ·intro i y s hy hs
  refine Rep.keep h1 ?_
  by_cases hi:i < l.length
  ·rw [List.getElem?_append_left hi] at hy
   rw [List.getElem?_append_left (by omega)] at hs
   exact hrep i y s hy hs
  ·have hi2:=(List.getElem?_eq_some_iff.1 hy).1
   rw [List.length_append,List.length_singleton] at hi2
   obtain rfl:i=l.length:=by omega
   rw [List.getElem?_append_right (Nat.le_refl _)] at hy
   rw [List.getElem?_append_right (by omega),hr] at hs
   simp at hy hs
   subst hy; subst hs
   exact hx
theorem RowK.sl (h:RowK w B e K v l):∃ A c,v=.slice A l.length c∧l.length≤c∧c≤maxLen∧Sl w (Lt w.heap.size) A l.length l:=by
 obtain ⟨hk,rows,hr,hown,hrep⟩:=h
 have hcells:=fun g hg=>hown.cells (g:=g) hg
 have hlt:=hown.lt
 have hlens:∀ r∈rows,r.length=Rep.sz α:=by
  intro r hr2
  obtain ⟨i,hi⟩:=List.getElem?_of_mem hr2
  have hi2:=(List.getElem?_eq_some_iff.1 hi).1
  exact Rep.len (hrep i l[i] r (List.getElem?_eq_getElem (by omega)) hi)
 rcases hown.2 with ⟨rfl,h0⟩ | ⟨g,cap,cur,rfl,hb,hh,hnc,hcm,_,_⟩
 ·rw [h0]
  have hl:l=[]:=List.eq_nil_of_length_eq_zero h0
  subst hl
  exact ⟨none,0,rfl,Nat.le_refl _,Nat.zero_le _,Sl.nil⟩
 ·refine ⟨some ⟨g,0,none⟩,cap,rfl,hnc,hcm,rfl,Nat.le_trans hnc hcm,fun hn=>⟨g,0,rfl,(hlt g rfl).2,fun i x hx=>?_⟩⟩
  have hi:i < l.length:=(List.getElem?_eq_some_iff.1 hx).1
  have hri:rows[i]?=some (rows[i]'(by omega)):=List.getElem?_eq_getElem (by omega)
  refine ⟨rows[i]'(by omega),Rep.more (fun k hh=>hk k hh) (hrep i x _ hx hri),fun j u hu=>?_⟩
  have hj:j < Rep.sz α:=by
   have:=(List.getElem?_eq_some_iff.1 hu).1
   rw [hlens _ (List.mem_of_getElem? hri)] at this
   exact this
  have h3:=hcells g rfl (i * Rep.sz α + j) u (by rw [flatten_at hlens hri hj]; exact hu)
  rw [addr_add] at h3
  rw [←h3]
  congr 2
  omega
theorem RowK.form (h:RowK w B e K v l):∃ A c,v=.slice A l.length c:=by
 obtain ⟨A,c,h1,_⟩:=h.sl
 exact ⟨A,c,h1⟩
end
end Go.Proofs.Sm
namespace Go.Proofs.Sm
open Go.RowKit
instance:Rep Nat where
 sz:=1
 rep _ _ x vs:=vs=[.int .i64 (x:Int)]∧x≤maxLen
 len h:=by rw [h.1]; rfl
 keep _ h:=h
 more _ h:=h
def Arr (w:World) (g:Nat) (ty:TypeId) (vs:List Value):Prop:=w.heap[g]?=some (.cells vs.toArray ty (0,0))
section
variable {w w':World} {g:Nat} {ty:TypeId} {vs:List Value}
theorem Arr.lt (h:Arr w g ty vs):g < w.heap.size:=(Array.getElem?_eq_some_iff.1 h).1
theorem Arr.keep (h:Arr w g ty vs) (hk:w'.heap[g]?=w.heap[g]?):Arr w' g ty vs:=hk.trans h
theorem Arr.call (h:Arr w g ty vs) (hb:Below w.heap.size w w'):Arr w' g ty vs:=h.keep (hb.block g h.lt)
theorem Arr.grown {row:Option Nat} (h:Arr w g ty vs) (hg:w.grownBy w' row) (hne:row≠some g):Arr w' g ty vs:=h.keep (hg.block g h.lt fun e=>hne e.symm)
theorem Arr.other (h:Arr w g ty vs) {p:Addr} (hp:g≠p.block) (u:Value):Arr (w.setCell p u) g ty vs:=h.keep (heap_setCell_other w p g u hp)
theorem Arr.cell (h:Arr w g ty vs) {i:Nat} {v:Value} (hi:vs[i]?=some v):w.cell? ⟨g,i,none⟩=some v:=by
 rw [World.cell?,h]
 simpa using hi
theorem Arr.frozen (h:Arr w g ty vs) (i:Nat):w.frozen? ⟨g,i,none⟩=false:=frozen_of_row w g i _ _ h
theorem Arr.set (h:Arr w g ty vs) (i:Nat) (v:Value):Arr (w.setCell ⟨g,i,none⟩ v) g ty (vs.set i v):=by
 have:=heap_setCell_same w g i _ _ v h
 rw [Arr,this]
 simp
theorem Arr.of_full {base n:Nat} {xs:List Value} (h:w.ownsRow base ty 1 (.slice (some ⟨g,0,none⟩) n n) n xs):Arr w g ty xs:=by
 obtain ⟨hl,h⟩:=h
 rcases h with ⟨h,_⟩ | ⟨g',cap,cur,h,_,hh,_,_,hs,ht⟩
 ·cases h
 ·cases h
  rw [Arr,hh]
  rw [List.take_of_length_le (by simp [hs])] at ht
  rw [←ht]
theorem Arr.sl {α:Type} [Rep α] {l:List α} (h:Arr w g ty vs) (hsz:Rep.sz α=1) (hl:vs.length=l.length) (hm:l.length≤maxLen) (hr:∀ (i:Nat) (x:α) (v:Value),l[i]?=some x→vs[i]?=some v→Rep.rep w (Lt w.heap.size) x [v]) :
 Sl w (Lt w.heap.size) (some ⟨g,0,none⟩) l.length l:=by
 refine ⟨rfl,hm,fun _=>⟨g,0,rfl,h.lt,fun i x hx=>?_⟩⟩
 have hi:i < vs.length:=by rw [hl]; exact (List.getElem?_eq_some_iff.1 hx).1
 refine ⟨[vs[i]],hr i x _ hx (List.getElem?_eq_getElem hi),fun j v hv=>?_⟩
 obtain rfl:j=0:=by
  have:=(List.getElem?_eq_some_iff.1 hv).1
  simp at this; exact this
 cases hv
 rw [hsz,Nat.zero_add,Nat.mul_one,Nat.add_zero]
 exact h.cell (List.getElem?_eq_getElem hi)
end
structure Grid (w:World) (B:Nat) (S:Nat→Prop) (g:Nat) (tS tI:TypeId) (rows:List (List Nat)):Prop where
 low:g < B
 vals:∃ vs:List Value,Arr w g tS vs∧vs.length=rows.length∧(∀ (i:Nat) v r,vs[i]?=some v→rows[i]?=some r→RowK w B tI (fun _=>False) v r∧∀ b,v.ownBlock=some b→S b) ∧
  ∀ (i j:Nat) v v' b,i≠j→vs[i]?=some v→vs[j]?=some v'→v.ownBlock=some b→v'.ownBlock≠some b
section
variable {w w':World} {B g:Nat} {S S':Nat→Prop} {tS tI:TypeId} {rows:List (List Nat)}
theorem Grid.lt (h:Grid w B S g tS tI rows):g < w.heap.size:=by
 obtain ⟨vs,ha,_⟩:=h.vals
 exact ha.lt
theorem Grid.keep (h:Grid w B S g tS tI rows) (hs:w.heap.size≤w'.heap.size) (hg:w'.heap[g]?=w.heap[g]?) (hk:∀ k,B≤k→S k→Kind tI w k→w'.heap[k]?=w.heap[k]?):Grid w' B S g tS tI rows:=by
 obtain ⟨vs,ha,hl,hr,hd⟩:=h.vals
 refine ⟨h.low,vs,ha.keep hg,hl,fun i v r hv hr'=>?_,hd⟩
 obtain ⟨h1,h2⟩:=hr i v r hv hr'
 exact ⟨h1.keep hs (fun _ hh=>hh.elim) fun b hb=>hk b (h1.kind b hb).1 (h2 b hb) (h1.kind b hb).2,h2⟩
theorem Grid.call (h:Grid w B S g tS tI rows) (hb:Below w.heap.size w w'):Grid w' B S g tS tI rows:=h.keep hb.size (hb.block g h.lt) fun k _ _ hk=>hb.block k hk.lt
theorem Grid.other (h:Grid w B S g tS tI rows) {p:Addr} (hp:g≠p.block) (hp2:p.block < B∨¬ S p.block) (u:Value):Grid (w.setCell p u) B S g tS tI rows :=
 h.keep (by simp) (heap_setCell_other w p g u hp) fun k h1 h2 _=>heap_setCell_other w p k u (by rintro rfl; rcases hp2 with hp2 | hp2; omega; exact hp2 h2)
theorem Grid.grown {row:Option Nat} (h:Grid w B S g tS tI rows) (hg:w.grownBy w' row) (hr:∀ b,row=some b→B≤b∧¬ S b):Grid w' B S g tS tI rows :=
 h.keep hg.size (hg.block g h.lt fun e=>by have:=(hr g e.symm).1; have:=h.low; omega) fun k _ h2 hk=>hg.block k hk.lt fun e=>(hr k e.symm).2 h2
theorem Grid.more (h:Grid w B S g tS tI rows) (hs:∀ k,S k→k < w.heap.size→S' k):Grid w B S' g tS tI rows:=by
 obtain ⟨vs,ha,hl,hr,hd⟩:=h.vals
 exact ⟨h.low,vs,ha,hl,fun i v r hv hr'=>⟨(hr i v r hv hr').1,fun b hb=>hs b ((hr i v r hv hr').2 b hb) ((hr i v r hv hr').1.kind b hb).2.lt⟩,hd⟩
theorem Grid.made {n:Nat} (ha:Arr w g tS (List.replicate n (.slice none 0 0))) (hg:g < B):Grid w B S g tS tI (List.replicate n []):=by
 refine ⟨hg,_,ha,by simp,fun i v r hv hr=>?_,fun i j v v' b _ hv _ hb=>?_⟩
 ·rw [List.getElem?_replicate] at hv hr
  split at hv
  ·rename_i hi
   rw [if_pos hi] at hr
   cases hv; cases hr
   exact ⟨RowK.nil,fun b hb=>by cases hb⟩
  ·cases hv
 ·rw [List.getElem?_replicate] at hv
  split at hv
  ·cases hv; cases hb
  ·cases hv
theorem Grid.at (h:Grid w B S g tS tI rows) {i:Nat} {r:List Nat} (hr:rows[i]?=some r):∃ v,w.cell? ⟨g,i,none⟩=some v∧RowK w B tI (fun _=>False) v r∧(∀ b,v.ownBlock=some b→S b) ∧
 ∀ (w1:World) (v':Value) (r':List Nat),w.heap.size≤w1.heap.size→(∀ k,(k < w.heap.size∧v.ownBlock≠some k)→w1.heap[k]?=w.heap[k]?)→RowK w1 B tI (fun _=>False) v' r'→(∀ b,v'.ownBlock=some b→S b∧(v.ownBlock=some b∨w.heap.size≤b)) →
  Grid (w1.setCell ⟨g,i,none⟩ v') B S g tS tI (rows.set i r'):=by
 obtain ⟨vs,ha,hl,hrs,hd⟩:=h.vals
 have hi:i < rows.length:=(List.getElem?_eq_some_iff.1 hr).1
 obtain ⟨v,hv⟩:∃ v,vs[i]?=some v:=at_lt (by omega)
 obtain ⟨h1,h2⟩:=hrs i v r hv hr
 refine ⟨v,ha.cell hv,h1,h2,fun w1 v' r' hs hk hr' hn=>?_⟩
 have hgb:∀ {v0:Value} {r0:List Nat} {W:World},RowK W B tI (fun _=>False) v0 r0→v0.ownBlock≠some g:=fun h0 e=>by have:=(h0.kind g e).1; have:=h.low; omega
 have ha1:Arr w1 g tS vs:=ha.keep (hk g ⟨ha.lt,hgb h1⟩)
 refine ⟨h.low,_,ha1.set i v',by simp [hl],fun j u s hu hs'=>?_,fun j k u u' b hjk hu hu' hb=>?_⟩
 ·rw [List.getElem?_set] at hu hs'
  by_cases hj:i=j
  ·subst hj
   rw [if_pos rfl,if_pos (by omega)] at hu
   rw [if_pos rfl,if_pos hi] at hs'
   cases hu; cases hs'
   exact ⟨hr'.keep (by simp) (fun _ hh=>hh.elim) fun b hb=>heap_setCell_other w1 _ b v' fun e=>hgb hr' (by rw [hb,e]),fun b hb=>(hn b hb).1⟩
  ·rw [if_neg hj] at hu hs'
   obtain ⟨g1,g2⟩:=hrs j u s hu hs'
   refine ⟨g1.keep (by simpa using hs) (fun _ hh=>hh.elim) fun b hb=>?_,g2⟩
   refine (heap_setCell_other w1 _ b v' fun e=>hgb g1 (by rw [hb,e])).trans (hk b ⟨(g1.kind b hb).2.lt,fun e=>?_⟩)
   exact hd i j v u b hj hv hu e hb
 ·have own:∀ {m:Nat} {x:Value} {b:Nat},m≠i→vs[m]?=some x→x.ownBlock=some b→v'.ownBlock≠some b:=fun {m x b} hm hx hxb e=>by
   obtain ⟨s,hs⟩:=at_lt (l:=rows) (k:=m) (by have:=(List.getElem?_eq_some_iff.1 hx).1; omega)
   rcases (hn b e).2 with h3 | h3
   ·exact hd i m v x b (fun e=>hm e.symm) hv hx h3 hxb
   ·have:=((hrs m x s hx hs).1.kind b hxb).2.lt; omega
  rw [List.getElem?_set] at hu hu'
  by_cases hj:i=j
  ·subst hj
   rw [if_pos rfl,if_pos (by omega)] at hu
   rw [if_neg hjk] at hu'
   cases hu
   exact fun e=>own (fun e=>hjk e.symm) hu' e hb
  ·rw [if_neg hj] at hu
   by_cases hk':i=k
   ·subst hk'
    rw [if_pos rfl,if_pos (by omega)] at hu'
    cases hu'
    exact own (fun e=>hj e.symm) hu hb
   ·rw [if_neg hk'] at hu'
    exact hd j k u u' b hjk hu hu' hb
theorem RowK.slFrom {α:Type} [Rep α] {e:TypeId} {v:Value} {l:List α} (h:RowK w B e (fun _=>False) v l):∃ A c,v=.slice A l.length c∧l.length≤c∧c≤maxLen∧Sl w (fun k=>B≤k∧k < w.heap.size) A l.length l:=by
 have hkind:=h.kind
 obtain ⟨hk,rows,hr,hown,hrep⟩:=id h
 obtain ⟨A,c,rfl,h1,h2,h3⟩:=h.sl
 refine ⟨A,c,rfl,h1,h2,h3.1,h3.2.1,fun hn=>?_⟩
 obtain ⟨b,o,rfl,hb,hc⟩:=h3.2.2 hn
 have hown':=hown.2
 rcases hown' with ⟨h4,_⟩ | ⟨g,cap,cur,h4,hbg,hh,_⟩
 ·cases h4
 ·cases h4
  refine ⟨_,0,rfl,⟨hbg,hb⟩,fun i x hx=>?_⟩
  obtain ⟨vs,_,hat⟩:=hc i x hx
  have hi:i < l.length:=(List.getElem?_eq_some_iff.1 hx).1
  have hri:rows[i]?=some (rows[i]'(by omega)):=List.getElem?_eq_getElem (by omega)
  have hrp:=hrep i x _ hx hri
  refine ⟨rows[i]'(by omega),Rep.more (fun _ hf=>hf.elim) hrp,fun j u hu=>?_⟩
  have hlens:∀ r∈rows,r.length=Rep.sz α:=by
   intro r hr2
   obtain ⟨i,hi⟩:=List.getElem?_of_mem hr2
   have hi2:=(List.getElem?_eq_some_iff.1 hi).1
   exact Rep.len (hrep i l[i] r (List.getElem?_eq_getElem (by omega)) hi)
  have hj:j < Rep.sz α:=by
   have:=(List.getElem?_eq_some_iff.1 hu).1
   rw [hlens _ (List.mem_of_getElem? hri)] at this
   exact this
  have h5:=hown.cells (g:=_) rfl (i * Rep.sz α + j) u (by rw [flatten_at hlens hri hj]; exact hu)
  rw [addr_add] at h5
  rw [←h5]
  congr 2
  omega
end
end Go.Proofs.Sm
namespace Go.Proofs.Sm
open Go.RowKit
section
variable {w w':World} {B:Nat}
theorem RowK.slKind {α:Type} [Rep α] {e:TypeId} {v:Value} {l:List α} (h:RowK w B e (fun _=>False) v l):∃ A c,v=.slice A l.length c∧l.length≤c∧c≤maxLen∧Sl w (Kind e w) A l.length l:=by
 have hkind:=h.kind
 obtain ⟨hk,rows,hr,hown,hrep⟩:=id h
 obtain ⟨A,c,rfl,h1,h2,h3⟩:=h.sl
 refine ⟨A,c,rfl,h1,h2,h3.1,h3.2.1,fun hn=>?_⟩
 obtain ⟨b,o,rfl,hb,hc⟩:=h3.2.2 hn
 have hkb:=(hkind b rfl).2
 have hown':=hown.2
 rcases hown' with ⟨h4,_⟩ | ⟨g,cap,cur,h4,hbg,hh,_⟩
 ·cases h4
 ·cases h4
  refine ⟨_,0,rfl,hkb,fun i x hx=>?_⟩
  obtain ⟨vs,_,hat⟩:=hc i x hx
  have hi:i < l.length:=(List.getElem?_eq_some_iff.1 hx).1
  have hri:rows[i]?=some (rows[i]'(by omega)):=List.getElem?_eq_getElem (by omega)
  have hrp:=hrep i x _ hx hri
  refine ⟨rows[i]'(by omega),Rep.more (fun _ hf=>hf.elim) hrp,fun j u hu=>?_⟩
  have hlens:∀ r∈rows,r.length=Rep.sz α:=by
   intro r hr2
   obtain ⟨i,hi⟩:=List.getElem?_of_mem hr2
   have hi2:=(List.getElem?_eq_some_iff.1 hi).1
   exact Rep.len (hrep i l[i] r (List.getElem?_eq_getElem (by omega)) hi)
  have hj:j < Rep.sz α:=by
   have:=(List.getElem?_eq_some_iff.1 hu).1
   rw [hlens _ (List.mem_of_getElem? hri)] at this
   exact this
  have h5:=hown.cells (g:=_) rfl (i * Rep.sz α + j) u (by rw [flatten_at hlens hri hj]; exact hu)
  rw [addr_add] at h5
  rw [←h5]
  congr 2
  omega
end
end Go.Proofs.Sm
