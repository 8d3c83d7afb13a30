/- Words and walks that the claims share, part 12. -/
import Derived.Test.YtaabdbephemboaaGreatDoorBx11
namespace Go.Proofs.Sm
open Go.RowKit Go.Maps Go.WideMaps
def putBy {α:Type} (key:α→ByteArray) (l:List α) (x:α):List α:=l.filter (fun y=>ltS (key y) (key x)) ++ [x] ++ l.filter (fun y=>ltS (key x) (key y))
def findBy {α:Type} (key:α→ByteArray) (l:List α) (k:List UInt8):Option α:=l.find? fun y=>(key y).data.toList == k
section
variable {α:Type} {key:α→ByteArray}
theorem find_filter' {l:List α} {p q:α→Bool} (h:∀ x∈l,p x=true→q x=true):(l.filter q).find? p=l.find? p:=by
 induction l with
 | nil=>rfl
 | cons y l ih =>
   have ih':=ih fun x hx=>h x (List.mem_cons_of_mem _ hx)
   rw [List.filter_cons]
   cases hq:q y
   ·have hp:p y=false:=by
     cases hp:p y
     ·rfl
     ·rw [h y (List.mem_cons_self ..) hp] at hq; cases hq
    rw [if_neg (by decide),List.find?_cons,hp,ih']
   ·rw [if_pos rfl,List.find?_cons,List.find?_cons,ih']
theorem find_none' {l:List α} {p q:α→Bool} (h:∀ x∈l,q x=true→p x=false):(l.filter q).find? p=none:=by
 rw [List.find?_eq_none]
 intro x hx
 have:=List.mem_filter.1 hx
 rw [h x this.1 this.2]
 decide
theorem find_put (l:List α) (x:α) (k:List UInt8):findBy key (putBy key l x) k=if k=(key x).data.toList then some x else findBy key l k:=by
 unfold findBy putBy
 rw [List.find?_append,List.find?_append]
 by_cases hk:k=(key x).data.toList
 ·subst hk
  rw [if_pos rfl,find_none' (fun y _ hy=>by
   have:=ltS_ne hy
   simpa using this)]
  simp
 ·rw [if_neg hk]
  have h1:List.find? (fun y=>(key y).data.toList == k) [x]=none:=by
   rw [List.find?_eq_none]; intro y hy
   obtain rfl:y=x:=by simpa using hy
   simpa using fun h:(key y).data.toList=k=>hk h.symm
  rw [h1,Option.or_none]
  rcases Classical.em (k < (key x).data.toList) with h2 | h2
  ·have h3:(l.filter fun y=>ltS (key y) (key x)).find? (fun y=>(key y).data.toList == k)=l.find? fun y=>(key y).data.toList == k:=find_filter' fun y _ hy=>lt_bytes.2 (by rw [show (key y).data.toList=k by simpa using hy]; exact h2)
   have h4:(l.filter fun y=>ltS (key x) (key y)).find? (fun y=>(key y).data.toList == k)=none:=find_none' fun y _ hy=>by
    have h5:=lt_bytes.1 hy
    cases h6:(key y).data.toList == k
    ·rfl
    ·rw [show (key y).data.toList=k by simpa using h6] at h5
     exact absurd (List.lt_trans h5 h2) (List.lt_irrefl _)
   rw [h3,h4,Option.or_none]
  ·have h2':(key x).data.toList < k:=by
    rcases List.le_iff_lt_or_eq.1 (List.not_lt.1 h2) with h | h
    ·exact h
    ·exact absurd h.symm hk
   have h3:(l.filter fun y=>ltS (key x) (key y)).find? (fun y=>(key y).data.toList == k)=l.find? fun y=>(key y).data.toList == k:=find_filter' fun y _ hy=>lt_bytes.2 (by rw [show (key y).data.toList=k by simpa using hy]; exact h2')
   have h4:(l.filter fun y=>ltS (key y) (key x)).find? (fun y=>(key y).data.toList == k)=none:=find_none' fun y _ hy=>by
    have h5:=lt_bytes.1 hy
    cases h6:(key y).data.toList == k
    ·rfl
    ·rw [show (key y).data.toList=k by simpa using h6] at h5
     exact absurd (List.lt_trans h5 h2') (List.lt_irrefl _)
   rw [h3,h4,Option.none_or]
theorem findBy_some {l:List α} (k:List UInt8):(findBy key l k).isSome=true↔k∈(l.map key).map (·.data.toList):=by
 unfold findBy
 rw [List.find?_isSome,List.map_map]
 simp
theorem keys_by {f:List UInt8→Option Value} {l:List α} {ks:List ByteArray} (h:KeysAre f ks) (hl:ByPath key l) (hf:∀ k,(f k).isSome=(findBy key l k).isSome) (hs:∀ x∈l,(key x).size≤maxLen):ks=l.map key :=
 h.unique (g:=f) ⟨List.pairwise_map.2 (hl.imp fun h=>lt_bytes.1 h),fun k=>by rw [←findBy_some,hf],fun x hx=>by
  obtain ⟨y,hy,rfl⟩:=List.mem_map.1 hx
  exact hs y hy⟩ fun _=>rfl
end
theorem putFile_by (l:List FileV) (x:FileV):putFileS l x=putBy FileV.path l x:=rfl
theorem keyF_by (l:List FileV) (k:List UInt8):keyF l k=findBy FileV.path l k:=rfl
theorem keyL_by (l:List Look) (k:List UInt8):keyL l k=findBy Look.path l k:=rfl
theorem note_by (l:List Look) (x:Look):noteS l x=if (keyL l x.path.data.toList).isSome then l else putBy Look.path l x:=by
 unfold noteS putBy
 have h0:(keyL l x.path.data.toList).isSome=true↔∃ y∈l,(y.path.data.toList == x.path.data.toList)=true:=by unfold keyL; rw [List.find?_isSome]
 have:l.any (fun y=>y.path.toList == x.path.toList)=true↔∃ y∈l,(y.path.data.toList == x.path.data.toList)=true:=by
  rw [List.any_eq_true]
  simp [ByteArray.toList_eq]
 split
 ·rename_i h; rw [if_pos (h0.2 (this.1 h))]
 ·rename_i h; rw [if_neg fun h'=>h (this.2 (h0.1 h'))]
section
variable {P:Program} {k:TypeId} {w w':World} {S S':Nat→Prop} {m n:Nat} {l:List FileV} {q:List Look}
theorem FileVal.keep {x:FileV} {v:Value} (hk:∀ k,S k→w'.heap[k]?=w.heap[k]?) (h:FileVal w S x v):FileVal w' S x v:=by
 obtain ⟨h0,A,n,c,rfl,h1,h2,h3⟩:=h
 exact ⟨h0,A,n,c,rfl,h1,h2,h3.keep hk⟩
theorem FileVal.more {x:FileV} {v:Value} (hs:∀ k,S k→S' k) (h:FileVal w S x v):FileVal w S' x v:=by
 obtain ⟨h0,A,n,c,rfl,h1,h2,h3⟩:=h
 exact ⟨h0,A,n,c,rfl,h1,h2,h3.more hs⟩
theorem FilesIn.keep (h:FilesIn P k w S m n l) (hm:w'.heap[m]?=w.heap[m]?) (hk:∀ k,S k→w'.heap[k]?=w.heap[k]?):FilesIn P k w' S m n l:=by
 obtain ⟨f,h1,h2⟩:=h
 refine ⟨f,h1.keep hm,fun key=>?_⟩
 have:=h2 key
 split at this
 ·exact this
 ·obtain ⟨v,h3,h4⟩:=this
  exact ⟨v,h3,h4.keep hk⟩
theorem FilesIn.more (h:FilesIn P k w S m n l) (hs:∀ k,S k→S' k):FilesIn P k w S' m n l:=by
 obtain ⟨f,h1,h2⟩:=h
 refine ⟨f,h1,fun key=>?_⟩
 have:=h2 key
 split at this
 ·exact this
 ·obtain ⟨v,h3,h4⟩:=this
  exact ⟨v,h3,h4.more hs⟩
theorem FilesIn.lt (h:FilesIn P k w S m n l):m < w.heap.size:=by
 obtain ⟨f,h1,_⟩:=h
 exact h1.lt
theorem FilesIn.made (w:World) (S:Nat→Prop):FilesIn P k (w.alloc (.map #[] 0)) S w.heap.size 0 []:=⟨_,MapIs.made w,fun key=>by simp [keyF]⟩
theorem LooksIn.made (w:World):LooksIn P k (w.alloc (.map #[] 0)) w.heap.size 0 []:=(MapIs.made (P:=P) (k:=k) w).congr fun key=>by simp [keyL]
theorem FilesIn.look_ok {t e:TypeId} (h:FilesIn P k w S m n l) (hk:P.underlying k=some .string) (ht:P.underlying t=some (.map k e)) {z:Value} (hz:(zeroValue e).run P w=.ok z w)
 {p:ByteArray} (hp:p.size≤maxLen):match l.find? (eqp p) with
  | none=>(Instr.lookup t (.map (some m)) (.string p) true).run P w=.ok (.tuple #[z,.bool false]) w
  | some x=>∃ v,FileVal w S x v∧(Instr.lookup t (.map (some m)) (.string p) true).run P w=.ok (.tuple #[v,.bool true]) w:=by
 obtain ⟨f,h1,h2⟩:=h
 have h3:=h1.look_ok hk ht hz hp
 have h4:=h2 p.data.toList
 rw [keyF_eqp] at h4
 cases hf:l.find? (eqp p) with
 | none=>rw [hf] at h4; simp only at h4 ⊢; rw [h3,h4]; rfl
 | some x =>
   rw [hf] at h4
   obtain ⟨v,h5,h6⟩:=h4
   exact ⟨v,h6,by rw [h3,h5]; rfl⟩
theorem FilesIn.put {f:List UInt8→Option Value} (hf:∀ key,match keyF l key with
 | none=>f key=none
 | some x=>∃ v,f key=some v∧FileVal w S x v) {x:FileV} {v:Value} (hv:FileVal w S x v)
 (hm:MapIs P k w' m n (fun key=>if key=x.path.data.toList then some v else f key)) (hk:∀ k,S k→w'.heap[k]?=w.heap[k]?):FilesIn P k w' S m n (putFileS l x):=by
 refine ⟨_,hm,fun key=>?_⟩
 rw [putFile_by,keyF_by,find_put,←keyF_by]
 by_cases he:key=x.path.data.toList
 ·simp only [if_pos he]
  exact ⟨v,rfl,hv.keep hk⟩
 ·simp only [if_neg he]
  have h3:=hf key
  cases hq:keyF l key with
  | none=>rw [hq] at h3; exact h3
  | some y =>
    rw [hq] at h3
    obtain ⟨u,h3,h4⟩:=h3
    exact ⟨u,h3,h4.keep hk⟩
theorem LooksIn.put {x:Look} (hn:keyL q x.path.data.toList=none) (hm:MapIs P k w' m n (fun key=>if key=x.path.data.toList then some (lookVal x) else (keyL q key).map lookVal)):LooksIn P k w' m n (noteS q x):=by
 refine MapIs.congr hm fun key=>?_
 rw [note_by,hn]
 simp only [Option.isSome_none,Bool.false_eq_true,if_false]
 rw [keyL_by (putBy Look.path q x),find_put,←keyL_by]
 by_cases he:key=x.path.data.toList
 ·simp only [if_pos he]; rfl
 ·simp only [if_neg he]
end
theorem note_same {l:List Look} {x:Look} (h:(keyL l x.path.data.toList).isSome=true):noteS l x=l:=by rw [note_by,if_pos h]
theorem nodup_len {A B:List (List UInt8)} (hA:A.Nodup) (hB:B.Nodup) (h:∀ x,x∈A↔x∈B):A.length=B.length :=
 ((List.perm_ext_iff_of_nodup hA hB).2 h).length_eq
theorem byPath_nodup {α:Type} {key:α→ByteArray} {l:List α} (h:ByPath key l):((l.map key).map (·.data.toList)).Nodup:=by
 rw [List.map_map]
 exact List.pairwise_map.2 (h.imp fun h e=>ltS_ne h e)
theorem MapIs.len {P:Program} {k t e:TypeId} {w:World} {b n:Nat} {f:List UInt8→Option Value} (h:MapIs P k w b n f) (hk:P.underlying k=some .string) (ht:P.underlying t=some (.map k e)) {ks:List (List UInt8)} (hn:ks.Nodup) (hm:∀ key,key∈ks↔(f key).isSome=true) (ty:TypeId) :
 (Builtin.len_ #[t] ty #[.map (some b)]).run P w=.ok (.int .i64 ks.length) w:=by
 obtain ⟨D,h1,_,h3,h4,_⟩:=h.keys hk
 rw [h1.len ht ty]
 obtain ⟨es,hD,_⟩:=h1.entries (string_keyed hk)
 have h5:Maps.size D=(strKeys D).length:=by rw [hD,size_eq]; simp [strKeys]
 rw [h5,nodup_len h3 hn fun x=>(h4 x).trans (hm x).symm]
theorem MapIs.tight {P:Program} {k:TypeId} {w:World} {b n:Nat} {f:List UInt8→Option Value} (h:MapIs P k w b n f) (hk:P.underlying k=some .string) {ks:List (List UInt8)} (hn:ks.Nodup) (hm:∀ key,key∈ks↔(f key).isSome=true):MapIs P k w b ks.length f:=by
 obtain ⟨D0,h1,_,h3,h4,_⟩:=h.keys hk
 obtain ⟨D,h5,h6,h7⟩:=h
 have hD:Maps.size D=ks.length:=by
  obtain ⟨es,hD,hpw,_⟩:=h5.entries (string_keyed hk)
  have h8:D0=D:=by
   obtain ⟨es1,c1,hb1,_,_,e1⟩:=h1
   obtain ⟨es2,c2,hb2,_,_,e2⟩:=h5
   rw [hb1] at hb2
   cases hb2
   rw [e1,e2]
  subst h8
  have h9:Maps.size D0=(strKeys D0).length:=by rw [hD,size_eq]; simp [strKeys]
  rw [h9,nodup_len h3 hn fun x=>(h4 x).trans (hm x).symm]
 obtain ⟨es,clock,hb,hF,hs,rfl⟩:=h5
 refine ⟨_,⟨es,clock,hb,hF,?_,rfl⟩,h6,h7⟩
 rw [size_eq] at hD
 have key:∀ l:List (Lit × DataW Value),(l.foldr DataW.insert []).length=l.length:=by
  intro l
  induction l with
  | nil=>rfl
  | cons x l ih=>rw [List.foldr_cons,insert_length,ih]; rfl
 rw [key,List.length_map,Array.length_toList] at hD
 omega
theorem FilesIn.tight {P:Program} {k:TypeId} {w:World} {S:Nat→Prop} {b n:Nat} {l:List FileV} (h:FilesIn P k w S b n l) (hk:P.underlying k=some .string) (hl:ByPath FileV.path l):FilesIn P k w S b l.length l:=by
 obtain ⟨f,h1,h2⟩:=h
 have:=h1.tight hk (byPath_nodup hl) (fun key=>by
  rw [←findBy_some,←keyF_by]
  have h3:=h2 key
  cases hq:keyF l key with
  | none=>rw [hq] at h3; simp only at h3; rw [h3]; simp
  | some x =>
    rw [hq] at h3
    obtain ⟨v,h3,_⟩:=h3
    rw [h3]; simp)
 exact ⟨f,by simpa using this,h2⟩
theorem LooksIn.tight {P:Program} {k:TypeId} {w:World} {b n:Nat} {l:List Look} (h:LooksIn P k w b n l) (hk:P.underlying k=some .string) (hl:ByPath Look.path l):LooksIn P k w b l.length l:=by
 have:=MapIs.tight (P:=P) (k:=k) h hk (byPath_nodup hl) (fun key=>by
  rw [←findBy_some,←keyL_by]
  cases keyL l key <;> simp)
 have e:((l.map Look.path).map (·.data.toList)).length=l.length:=by simp
 rw [e] at this
 exact this
theorem FilesIn.len {P:Program} {k t e:TypeId} {w:World} {S:Nat→Prop} {b n:Nat} {l:List FileV} (h:FilesIn P k w S b n l) (hk:P.underlying k=some .string) (ht:P.underlying t=some (.map k e)) (hl:ByPath FileV.path l) (ty:TypeId) :
 (Builtin.len_ #[t] ty #[.map (some b)]).run P w=.ok (.int .i64 l.length) w:=by
 obtain ⟨f,h1,h2⟩:=h
 have:=h1.len hk ht (byPath_nodup hl) (fun key=>by
  rw [←findBy_some,←keyF_by]
  have h3:=h2 key
  cases hq:keyF l key with
  | none=>rw [hq] at h3; simp only at h3; rw [h3]; simp
  | some x =>
    rw [hq] at h3
    obtain ⟨v,h3,_⟩:=h3
    rw [h3]; simp) ty
 simpa using this
end Go.Proofs.Sm
namespace Go.Proofs.Sm
open Go.RowKit
def missS (F:List FileV) (l:List Look):Nat:=(l.filter fun y=>(F.find? (eqp y.path)).isNone).length
def MissUp {α:Type} (F:List FileV) (c:Nat) (f:α→Nat) (m:Ex α):Prop:=∀ s,missS F (m F s).2.looks + c≤missS F s.looks + f (m F s).1
theorem two_filters (F:List FileV) (x:Look):∀ l:List Look,((l.filter fun y=>ltS y.path x.path).filter fun y=>(F.find? (eqp y.path)).isNone).length + ((l.filter fun y=>ltS x.path y.path).filter fun y=>(F.find? (eqp y.path)).isNone).length≤(l.filter fun y=>(F.find? (eqp y.path)).isNone).length
 | []=>by simp
 | y :: l=>by
   have ih:=two_filters F x l
   have hx:¬ (ltS y.path x.path=true∧ltS x.path y.path=true):=fun h=>by
    have:=ltS_trans h.1 h.2
    rw [ltS_irrefl] at this; cases this
   rw [List.filter_cons,List.filter_cons (x:=y) (xs:=l) (p:=fun y=>ltS x.path y.path),List.filter_cons (x:=y) (xs:=l) (p:=fun y=>(F.find? (eqp y.path)).isNone)]
   cases h1:ltS y.path x.path <;> cases h2:ltS x.path y.path
   ·simp only [if_false,Bool.false_eq_true]
    split <;> (try rw [List.length_cons]) <;> omega
   ·simp only [if_false,Bool.false_eq_true,if_true]
    rw [List.filter_cons]
    split <;> (try rw [List.length_cons,List.length_cons]) <;> omega
   ·simp only [if_false,Bool.false_eq_true,if_true]
    rw [List.filter_cons]
    split <;> (try rw [List.length_cons,List.length_cons]) <;> omega
   ·exact absurd ⟨h1,h2⟩ hx
section
variable {α β:Type} {F:List FileV}
theorem miss_note (l:List Look) (x:Look):missS F (noteS l x)≤missS F l + (if (F.find? (eqp x.path)).isNone then 1 else 0):=by
 unfold noteS
 split
 ·omega
 ·unfold missS
  rw [List.filter_append,List.filter_append,List.length_append,List.length_append]
  have h1:=two_filters F x l
  have h2:([x].filter fun y=>(F.find? (eqp y.path)).isNone).length=if (F.find? (eqp x.path)).isNone then 1 else 0:=by
   cases h:(F.find? (eqp x.path)).isNone <;> simp [h]
  omega
theorem miss_ret {a:α} {c:Nat} {f:α→Nat} (h:c≤f a):MissUp F c f (Ex.ret a):=fun _=>Nat.add_le_add_left h _
theorem MissUp.bind {m:Ex α} {g:α→Ex β} {c:Nat} {f:α→Nat} {k:β→Nat} (hm:MissUp F c f m) (hg:∀ a,MissUp F (f a) k (g a)):MissUp F c k (m.bind g):=fun s=>by
 have h1:=hm s
 have h2:=hg (m F s).1 (m F s).2
 unfold Ex.bind
 omega
theorem miss_own {m:Ex α} {c:Nat} {f:α→Nat} (h1:∀ s,(m F s).2.looks=s.looks) (h2:∀ a,c≤f a):MissUp F c f m:=fun s=>by rw [h1]; exact Nat.add_le_add_left (h2 _) _
theorem MissUp.le {m:Ex α} {c:Nat} {f g:α→Nat} (h:MissUp F c f m) (hg:∀ a,f a≤g a):MissUp F c g m:=fun s=>Nat.le_trans (h s) (Nat.add_le_add_left (hg _) _)
def noneN {γ:Type}:Option γ→Nat
 | none=>1
 | some _=>0
def codeN (c:Int):Nat:=if c=0 then 0 else 1
theorem codeN_le (c:Int):codeN c≤1:=by unfold codeN; split <;> omega
theorem miss_find (p:ByteArray) (c:Nat):MissUp F c (fun x=>c + noneN x) (findE p):=fun s=>by
 unfold findE
 split
 ·show missS F s.looks + c≤missS F s.looks + (c + 0)
  omega
 ·have:=miss_note (F:=F) s.looks (lookAtS F p)
  rw [lookAt_path] at this
  show missS F (noteS s.looks (lookAtS F p)) + c≤missS F s.looks + (c + noneN (F.find? (eqp p)))
  cases h:F.find? (eqp p) <;> simp [h,noneN] at this ⊢ <;> omega
theorem miss_read (p:ByteArray) (c:Nat):MissUp F c (fun x=>c + codeN x.2) (readE p):=(miss_find p c).bind fun x=>by
 cases x
 ·exact miss_ret (by simp [codeN,noneN])
 ·exact miss_ret (by simp [codeN,noneN])
theorem miss_write (outs:List ByteArray) (p:ByteArray) (b:List UInt8) (run:Bool) (c:Nat):MissUp F c (fun _=>c) (writeE outs p b run) :=
 miss_own (fun s=>by unfold writeE; split <;> (try split) <;> rfl) fun _=>Nat.le_refl _
theorem miss_tell (ws:List ByteArray) (c:Nat):MissUp F c (fun _=>c) (tellE ws):=miss_own (fun s=>by unfold tellE; split <;> rfl) fun _=>Nat.le_refl _
theorem miss_each {f:ByteArray→List UInt8→Nat→Ex (List UInt8 × Nat × Int)} {c:Nat} (hf:∀ p o r,MissUp F c (fun x=>c + codeN x.2.2) (f p o r)):∀ l o r,MissUp F c (fun x=>c + codeN x.2.2) (eachE f l o r)
 | [],o,r=>miss_ret (Nat.le_add_right _ _)
 | s :: rest,o,r=>by
   unfold eachE
   split
   ·refine (hf _ o r).bind fun x=>?_
    split
    ·rename_i h0
     rw [h0]
     exact miss_each hf rest _ _
    ·exact miss_ret (Nat.le_refl _)
   ·split
    ·exact miss_ret (Nat.le_add_right _ _)
    ·exact miss_each hf rest _ _
theorem miss_file:∀ fuel inn p o r c,MissUp F c (fun x=>c + codeN x.2.2) (fileE fuel inn p o r)
 | 0,_,_,_,_,_=>miss_ret (Nat.le_add_right _ _)
 | fuel + 1,inn,p,o,r,c=>by
   unfold fileE
   split
   ·exact miss_ret (Nat.le_add_right _ _)
   ·refine (miss_read p c).bind fun x=>?_
    split
    ·rename_i h0
     rw [h0]
     split
     ·exact miss_ret (by simp [codeN])
     ·exact miss_each (fun p o r=>miss_file fuel _ p o r c) _ _ _
    ·exact miss_ret (Nat.le_refl _)
theorem miss_joined:∀ l o c,MissUp F c (fun x=>c + codeN x.2) (joinedE l o)
 | [],_,_=>miss_ret (Nat.le_add_right _ _)
 | p :: rest,o,c=>by
   unfold joinedE
   refine (miss_read p c).bind fun x=>?_
   split
   ·rename_i h0
    rw [h0]
    exact miss_joined rest _ c
   ·exact miss_ret (Nat.le_refl _)
theorem miss_pick:∀ (l:List ByteArray) (c:Nat),MissUp F c (fun _=>c + l.length) (pickE l)
 | [],_=>miss_ret (Nat.le_refl _)
 | p :: rest,c=>by
   unfold pickE
   refine (miss_find p c).bind fun x=>?_
   cases x
   ·exact (miss_pick rest (c + 1)).le fun _=>by rw [List.length_cons]; omega
   ·exact miss_ret (by simp [noneN])
end
end Go.Proofs.Sm
namespace Go.Proofs.Sm
open Go.RowKit
theorem put_mem {l:List ByteArray} {x y:ByteArray} (h:y∈putStrS l x):y∈l∨y=x:=by
 unfold putStrS at h
 rcases List.mem_append.1 h with h | h
 ·rcases List.mem_append.1 h with h | h
  ·exact .inl (List.mem_filter.1 h).1
  ·exact .inr (by simpa using h)
 ·exact .inl (List.mem_filter.1 h).1
theorem puts_mem {y:ByteArray}:∀ {l acc:List ByteArray},y∈l.foldl putStrS acc→y∈acc∨y∈l
 | [],_,h=>.inl h
 | x :: l,acc,h=>by
   rcases puts_mem (l:=l) h with h | h
   ·rcases put_mem h with h | h
    ·exact .inl h
    ·exact .inr (by simp [h])
   ·exact .inr (by simp [h])
theorem find_of_mem {l:List FileV} {x:FileV} (h:x∈l):(l.find? (eqp x.path)).isSome=true:=by
 rw [List.find?_isSome]
 exact ⟨x,h,by simp [eqp]⟩
def ThereS (F:List FileV) (s:ExSt) (p:ByteArray):Prop:=(F.find? (eqp p)).isSome=true∨(s.written.find? (eqp p)).isSome=true
theorem paths_there {F:List FileV} {s:ExSt} {p:ByteArray} (h:p∈pathsS F s):ThereS F s p:=by
 rcases puts_mem h with h | h
 ·cases h
 ·rcases List.mem_append.1 h with h | h
  ·obtain ⟨x,hx,rfl⟩:=List.mem_map.1 h
   exact .inl (find_of_mem hx)
  ·obtain ⟨x,hx,rfl⟩:=List.mem_map.1 h
   exact .inr (find_of_mem hx)
theorem find_written (F:List FileV) (p:ByteArray) (s:ExSt):(findE p F s).2.written=s.written:=by
 unfold findE
 split <;> rfl
section
variable {F:List FileV}
theorem miss_lists (q:ByteArray):∀ (l:List ByteArray) (o:List UInt8) (s:ExSt),(∀ p∈l,ThereS F s p)→missS F (listsE q l o F s).2.looks≤missS F s.looks
 | [],_,_,_=>Nat.le_refl _
 | p :: rest,o,s,h=>by
   unfold listsE
   split
   ·have h1:=miss_find (F:=F) p 0 s
    have h0:noneN (findE p F s).1=0:=by
     unfold findE
     split
     ·rfl
     ·rename_i hw
      rcases h p (by simp) with h2 | h2
      ·obtain ⟨x,hx⟩:=Option.isSome_iff_exists.1 h2
       show noneN (F.find? (eqp p))=0
       rw [hx]; rfl
      ·rw [hw] at h2; cases h2
    have h3:=miss_lists q rest (o ++ p.data.toList ++ [10]) (findE p F s).2 fun p' hp'=>by
     rcases h p' (by simp [hp']) with h2 | h2
     ·exact .inl h2
     ·exact .inr (by rw [find_written]; exact h2)
    have h4:missS F (findE p F s).2.looks + 0≤missS F s.looks + (0 + noneN (findE p F s).1):=h1
    show missS F (listsE q rest (o ++ p.data.toList ++ [10]) F (findE p F s).2).2.looks≤missS F s.looks
    omega
   ·exact miss_lists q rest o s fun p' hp'=>h p' (by simp [hp'])
theorem miss_list (q:ByteArray) (c:Nat):MissUp F c (fun _=>c + 1) (listE q):=fun s=>by
 have h1:missS F (findE q F s).2.looks + c≤missS F s.looks + (c + noneN (findE q F s).1):=miss_find (F:=F) q c s
 have h2:=miss_lists (F:=F) q (pathsS F (findE q F s).2) [] (findE q F s).2 fun p hp=>paths_there hp
 have h3:noneN (findE q F s).1≤1:=by cases (findE q F s).1 <;> simp [noneN]
 show missS F (listsE q (pathsS F (findE q F s).2) [] F (findE q F s).2).2.looks + c≤missS F s.looks + (c + 1)
 omega
theorem miss_made (vars:List VarV) (w:List ByteArray) (hw:w.length≤50) (c:Nat):MissUp F c (fun _=>c + 50) (madeE vars w):=by
 unfold madeE
 dsimp only
 split
 ·exact (miss_joined _ _ c).le fun x=>by have:=codeN_le x.2; omega
 split
 ·exact (miss_file _ _ _ _ _ c).bind fun x=>miss_ret (by have:=codeN_le x.2.2; omega)
 split
 ·exact (miss_pick _ c).le fun _=>by rw [List.length_drop]; omega
 split
 ·exact (miss_list _ c).bind fun _=>miss_ret (by omega)
 split
 ·exact miss_ret (by omega)
 ·refine (miss_read _ c).bind fun x=>?_
  have:=codeN_le x.2
  split <;> exact miss_ret (by omega)
theorem miss_do (a:ActionV) (w:List ByteArray) (hw:w.length≤50) (c:Nat):MissUp F c (fun _=>c + 50) (doE a w):=by
 unfold doE
 dsimp only
 split
 ·exact (miss_tell _ c).le fun _=>by omega
 split
 ·exact (miss_read _ c).bind fun x=>miss_ret (by have:=codeN_le x.2; omega)
 split
 ·unfold sameE
  refine (miss_read _ c).bind fun x=>?_
  split
  ·rename_i h0
   rw [h0]
   refine (miss_read _ (c + codeN 0)).bind fun y=>?_
   have h1:=codeN_le y.2
   have h2:codeN 0=0:=rfl
   split
   ·split <;> exact miss_ret (by omega)
   ·exact miss_ret (by omega)
  ·have h1:=codeN_le x.2
   exact miss_ret (by omega)
 split
 ·exact miss_ret (by omega)
 ·refine (miss_made a.vars w hw c).bind fun x=>?_
  split
  ·exact miss_write _ _ _ _ _
  ·exact miss_ret (Nat.le_refl _)
theorem miss_run (a:ActionV):∀ (l:List (List ByteArray)) (i c:Nat),(∀ w∈l,w.length≤50)→MissUp F c (fun _=>c + 50 * l.length) (runE a l i)
 | [],_,c,_=>miss_own (fun _=>rfl) fun _=>Nat.le_add_right _ _
 | w :: rest,i,c,h=>by
   unfold runE
   refine (miss_do a w (h w (by simp)) c).bind fun x=>?_
   split
   ·exact (miss_run a rest (i + 1) (c + 50) fun w' hw'=>h w' (by simp [hw'])).le fun _=>by rw [List.length_cons]; omega
   ·exact miss_ret (by rw [List.length_cons]; omega)
theorem many_paths:∀ (A B:List ByteArray),A.Pairwise (fun x y=>¬ x.toList=y.toList)→(∀ x∈A,∃ y∈B,y.toList=x.toList)→A.length≤B.length
 | [],_,_,_=>Nat.zero_le _
 | a :: A,B,hA,hB=>by
   rw [List.pairwise_cons] at hA
   obtain ⟨b,hb,he⟩:=hB a (by simp)
   obtain ⟨B1,B2,rfl⟩:=List.append_of_mem hb
   have h1:=many_paths A (B1 ++ B2) hA.2 fun x hx=>by
    obtain ⟨y,hy,hyx⟩:=hB x (by simp [hx])
    have hne:¬ y=b:=fun e=>hA.1 x hx (by rw [←he,←e,hyx])
    rcases List.mem_append.1 hy with h | h
    ·exact ⟨y,List.mem_append.2 (.inl h),hyx⟩
    ·rcases List.mem_cons.1 h with h | h
     ·exact absurd h hne
     ·exact ⟨y,List.mem_append.2 (.inr h),hyx⟩
   simp only [List.length_append,List.length_cons] at h1 ⊢
   omega
theorem looks_count {P:ByteArray→Prop} {s:ExSt} (h:LooksFrom F P s):s.looks.length≤F.length + missS F s.looks:=by
 have h1:=filter_counts (fun y:Look=>(F.find? (eqp y.path)).isNone) s.looks
 have h2:(s.looks.filter fun y=>!(F.find? (eqp y.path)).isNone).length≤F.length:=by
  have h3:=many_paths ((s.looks.filter fun y=>!(F.find? (eqp y.path)).isNone).map Look.path) (F.map FileV.path) (by
   rw [List.pairwise_map]
   refine (h.sorted.filter _).imp fun {x y} hxy he=>?_
   rw [ltS_eq_l he,ltS_irrefl] at hxy
   cases hxy) fun p hp=>by
    obtain ⟨y,hy,rfl⟩:=List.mem_map.1 hp
    have h4:=(List.mem_filter.1 hy).2
    cases hf:F.find? (eqp y.path) with
    | none=>rw [hf] at h4; cases h4
    | some x =>
      exact ⟨x.path,List.mem_map.2 ⟨x,List.mem_of_find?_eq_some hf,rfl⟩,by have:=List.find?_some hf; simpa [eqp] using this⟩
  simpa using h3
 unfold missS
 omega
end
end Go.Proofs.Sm
namespace Go.Proofs.Sm
open Go.RowKit
theorem word_fits {kinds:List UInt8}:∀ {words:List ByteArray} {i0:Nat},wordsFit kinds i0 words=true→∀ (j:Nat) (x:ByteArray),words[j]?=some x→fitsS (kinds.getD (min (i0 + j) (kinds.length - 1)) 0) x=true
 | [],_,_,j,x,h=>by simp at h
 | w :: r,i0,h,j,x,hx=>by
   rw [wordsFit,Bool.and_eq_true] at h
   cases j with
   | zero =>
     cases hx
     exact h.1
   | succ j =>
     have:=word_fits h.2 j x hx
     rwa [show i0 + 1 + j=i0 + (j + 1) by omega] at this
theorem command_form {c:List ByteArray} (h:checkCommandS c=0):c.length≤50∧∃ kinds more,formS (wordAt c 0).data.toList=some (kinds,more)∧kinds.length + 1≤c.length∧(c.length≤kinds.length + 1∨more=true) ∧
 ∀ (j:Nat) (x:ByteArray),c[j + 1]?=some x→fitsS (kinds.getD (min j (kinds.length - 1)) 0) x=true:=by
 unfold checkCommandS at h
 split at h
 ·cases h
 rename_i hl
 refine ⟨by omega,?_⟩
 split at h
 ·cases h
 rename_i c0 words
 split at h
 ·cases h
 split at h
 ·cases h
 rename_i kinds more hf
 split at h
 ·cases h
 rename_i hh
 have hh:hasFormS words kinds more=true:=by simpa using hh
 unfold hasFormS at hh
 simp only [Bool.and_eq_true,decide_eq_true_eq,Bool.or_eq_true] at hh
 refine ⟨kinds,more,hf,by rw [List.length_cons]; have:=hh.1.1; omega,by rw [List.length_cons]; exact hh.1.2.imp (fun h=>by omega) id,fun j x hx=>?_⟩
 have:=word_fits hh.2 j x (by simpa using hx)
 rwa [Nat.zero_add] at this
theorem wordAt_mem {c:List ByteArray} {i:Nat} (h:i < c.length):c[i]?=some (wordAt c i):=by
 rw [wordAt,List.getElem?_eq_getElem h]; rfl
theorem fits_path {x:ByteArray} (h:fitsS 112 x=true):isPathS x=true:=by
 unfold fitsS at h
 simpa using h
section
variable {α β:Type} {P:ByteArray→Prop} {F:List FileV}
theorem asks_lists (hF:∀ x∈F,P x.path) (q:ByteArray):∀ (l:List ByteArray) (o:List UInt8) (s:ExSt),(∀ p∈l,(∃ x∈F,x.path=p)∨(s.written.find? (eqp p)).isSome=true)→LooksFrom F P s→LooksFrom F P (listsE q l o F s).2
 | [],_,_,_,h=>h
 | p :: rest,o,s,hl,h=>by
   unfold listsE
   split
   ·have h1:LooksFrom F P (findE p F s).2:=by
     rcases hl p (by simp) with ⟨x,hx,rfl⟩ | h2
     ·exact asks_find (hF x hx) s h
     ·obtain ⟨y,hy⟩:=Option.isSome_iff_exists.1 h2
      unfold findE
      rw [hy]
      exact h
    refine asks_lists hF q rest (o ++ p.data.toList ++ [10]) (findE p F s).2 (fun p' hp'=>?_) h1
    rcases hl p' (by simp [hp']) with h2 | h2
    ·exact .inl h2
    ·exact .inr (by rw [find_written]; exact h2)
   ·exact asks_lists hF q rest o s (fun p' hp'=>hl p' (by simp [hp'])) h
theorem paths_from {s:ExSt} {p:ByteArray} (h:p∈pathsS F s):(∃ x∈F,x.path=p)∨(s.written.find? (eqp p)).isSome=true:=by
 rcases puts_mem h with h | h
 ·cases h
 ·rcases List.mem_append.1 h with h | h
  ·obtain ⟨x,hx,rfl⟩:=List.mem_map.1 h
   exact .inl ⟨x,hx,rfl⟩
  ·obtain ⟨x,hx,rfl⟩:=List.mem_map.1 h
   exact .inr (find_of_mem hx)
theorem asks_list (hF:∀ x∈F,P x.path) {q:ByteArray} (hq:P q):Asks P F (listE q):=fun s hs =>
 asks_lists hF q _ [] _ (fun _ hp=>paths_from hp) (asks_find hq s hs)
end
def IsP (p:ByteArray):Prop:=isPathS p=true
structure CmdPaths (c:List ByteArray):Prop where
 join:(wordAt c 0).data.toList=[106,111,105,110]→∀ p∈c.drop 2,IsP p
 expand:(wordAt c 0).data.toList=[101,120,112,97,110,100]→IsP (wordAt c 2)
 pick:(wordAt c 0).data.toList=[112,105,99,107]→∀ p∈c.drop 2,IsP p
 list:(wordAt c 0).data.toList=[108,105,115,116]→IsP (wordAt c 2)
 need:(wordAt c 0).data.toList=[110,101,101,100]→IsP (wordAt c 1)
 same:(wordAt c 0).data.toList=[115,97,109,101]→IsP (wordAt c 1)∧IsP (wordAt c 2)
 last:¬ (wordAt c 0).data.toList=[116,101,108,108]→¬ (wordAt c 0).data.toList=[102,97,105,108]→¬ (wordAt c 0).data.toList=[118,97,114]→IsP (wordAt c (c.length - 1))
 many:c.length≤50
theorem cmd_paths {c:List ByteArray} (h:checkCommandS c=0):CmdPaths c:=by
 obtain ⟨hl,kinds,more,hf,h1,h2,h3⟩:=command_form h
 have hw:∀ (j:Nat) (k:UInt8),j + 1 < c.length→kinds.getD (min j (kinds.length - 1)) 0=k→fitsS k (wordAt c (j + 1))=true:=fun j k hj hk=>by
  rw [←hk]; exact h3 j _ (wordAt_mem hj)
 have hmem:∀ {p:ByteArray},p∈c.drop 2→∃ j,j + 1 < c.length∧1≤j∧c[j + 1]?=some p:=fun {p} hp=>by
  obtain ⟨i,hi⟩:=List.getElem?_of_mem hp
  rw [List.getElem?_drop] at hi
  exact ⟨i + 1,by have:=(List.getElem?_eq_some_iff.1 hi).1; omega,by omega,by rw [←hi]; congr 1; omega⟩
 refine ⟨fun e=>?_,fun e=>?_,fun e=>?_,fun e=>?_,fun e=>?_,fun e=>?_,fun e1 e2 e3=>?_,hl⟩
 ·rw [e] at hf
  cases hf
  intro p hp
  obtain ⟨j,hj,hj1,hx⟩:=hmem hp
  have:=h3 j p hx
  rw [show min j (([112,112]:List UInt8).length - 1)=1 by simp; omega] at this
  exact fits_path this
 ·rw [e] at hf
  cases hf
  exact fits_path (hw 1 112 (by simp at h1; omega) rfl)
 ·rw [e] at hf
  cases hf
  intro p hp
  obtain ⟨j,hj,hj1,hx⟩:=hmem hp
  have:=h3 j p hx
  have hk:([112,112,112]:List UInt8).getD (min j (([112,112,112]:List UInt8).length - 1)) 0=112:=by
   rcases Nat.lt_or_ge j 2 with h | h
   ·rw [show min j (([112,112,112]:List UInt8).length - 1)=1 by simp; omega]; rfl
   ·rw [show min j (([112,112,112]:List UInt8).length - 1)=2 by simp; omega]; rfl
  rw [hk] at this
  exact fits_path this
 ·rw [e] at hf
  cases hf
  exact fits_path (hw 1 112 (by simp at h1; omega) rfl)
 ·rw [e] at hf
  cases hf
  exact fits_path (hw 0 112 (by simp at h1; omega) rfl)
 ·rw [e] at hf
  cases hf
  exact ⟨fits_path (hw 0 112 (by simp at h1; omega) rfl),fits_path (hw 1 112 (by simp at h1; omega) rfl)⟩
 ·have hk0:1≤kinds.length∧kinds.getD (kinds.length - 1) 0=112:=by
   unfold formS at hf
   repeat' split at hf
   all_goals (try (cases hf; exact ⟨by decide,rfl⟩))
   all_goals first
    | exact absurd ‹_› e1
    | exact absurd ‹_› e2
    | exact absurd ‹_› e3
    | cases hf
  obtain ⟨m,hm⟩:∃ m,c.length=m + 2:=⟨c.length - 2,by omega⟩
  have:=hw m 112 (by omega) (by rw [show min m (kinds.length - 1)=kinds.length - 1 by omega]; exact hk0.2)
  rw [show c.length - 1=m + 1 by omega]
  exact fits_path this
end Go.Proofs.Sm
namespace Go.Proofs.Sm
open Go.RowKit
section
variable {F:List FileV}
theorem asks_made (hF:∀ x∈F,IsP x.path) (vars:List VarV) {c:List ByteArray} (h:CmdPaths c) (h1:¬ (wordAt c 0).data.toList=[116,101,108,108]) (h2:¬ (wordAt c 0).data.toList=[102,97,105,108]):Asks IsP F (madeE vars c):=by
 unfold madeE
 dsimp only
 split
 ·rename_i e; exact asks_joined _ _ (h.join e)
 split
 ·rename_i e; exact (asks_file (fun _ h=>h) _ _ _ _ _ (h.expand e)).bind fun x=>asks_ret _
 split
 ·rename_i e; exact asks_pick _ (h.pick e)
 split
 ·rename_i e; exact (asks_list hF (h.list e)).bind fun _=>asks_ret _
 split
 ·exact asks_ret _
 ·rename_i e
  refine (asks_read (h.last h1 h2 e)).bind fun x=>?_
  split <;> exact asks_ret _
theorem asks_do (hF:∀ x∈F,IsP x.path) (a:ActionV) {c:List ByteArray} (h:CmdPaths c):Asks IsP F (doE a c):=by
 unfold doE
 dsimp only
 split
 ·exact asks_tell _
 split
 ·rename_i e; exact (asks_read (h.need e)).bind fun x=>asks_ret _
 split
 ·rename_i e
  unfold sameE
  refine (asks_read (h.same e).1).bind fun x=>?_
  split
  ·refine (asks_read (h.same e).2).bind fun y=>?_
   split
   ·split <;> exact asks_ret _
   ·exact asks_ret _
  ·exact asks_ret _
 split
 ·exact asks_ret _
 ·rename_i e1 _ _ e2
  refine (asks_made hF a.vars h e1 e2).bind fun x=>?_
  split
  ·exact asks_write _ _ _ _
  ·exact asks_ret _
theorem asks_run (hF:∀ x∈F,IsP x.path) (a:ActionV):∀ (l:List (List ByteArray)) (i:Nat),(∀ c∈l,CmdPaths c)→Asks IsP F (runE a l i)
 | [],_,_=>asks_own fun _=>rfl
 | c :: rest,i,h=>by
   unfold runE
   refine (asks_do hF a (h c (by simp))).bind fun x=>?_
   split
   ·exact asks_run hF a rest (i + 1) fun c' hc'=>h c' (by simp [hc'])
   ·exact asks_ret _
end
theorem digest_right (l:List UInt8):isDigestS (digestS l)=true:=by
 have hc:∀ d:Fin 16,hexB (hexChar d.val)=true:=by decide +kernel
 unfold isDigestS digestS
 rw [Bool.and_eq_true]
 refine ⟨?_,by simp [ByteArray.size]⟩
 rw [List.all_eq_true]
 intro c hcm
 simp only [List.mem_map] at hcm
 obtain ⟨i,_,rfl⟩:=hcm
 exact hc ⟨fnv l / 16 ^ (15 - i) % 16,Nat.mod_lt _ (by decide)⟩
theorem digest_some (l:List UInt8):(digestS l).toList.isEmpty=false:=by
 have h1:(digestS l).data.toList.length=16:=by unfold digestS; simp
 rw [Lib.toList_data]
 cases h:(digestS l).data.toList with
 | nil=>rw [h] at h1; cases h1
 | cons a r=>rfl
theorem lookErr_from {F:List FileV} {y:Look} (h:y=lookAtS F y.path) (hp:IsP y.path) (prev:Option ByteArray):lookErr prev y=if notAfter prev y.path then 8 else 0:=by
 have hp':isPathS y.path=true:=hp
 have hd:(y.digest.toList.isEmpty=true∧y.run=false)∨(y.digest.toList.isEmpty=false∧isDigestS y.digest=true):=by
  unfold lookAtS at h
  split at h
  ·rw [h]; exact .inl ⟨by rw [Lib.toList_data]; rfl,rfl⟩
  ·rename_i x _
   rw [h]; exact .inr ⟨digest_some _,digest_right _⟩
 unfold lookErr
 rw [if_neg (by rw [hp']; decide)]
 rcases hd with ⟨h1,h2⟩ | ⟨h1,h2⟩
 ·rw [if_neg (by rw [h1]; simp),if_neg (by rw [h2]; simp)]
 ·rw [if_neg (by rw [h1,h2]; decide),if_neg (by rw [h1]; simp)]
theorem looksErr_from {F:List FileV}:∀ {l:List Look} {prev:Option ByteArray},ByPath Look.path l→(∀ y∈l,y=lookAtS F y.path∧IsP y.path)→(∀ q,prev=some q→∀ y∈l,ltS q y.path=true)→looksErr prev l=0
 | [],_,_,_,_=>rfl
 | y :: l,prev,hs,he,hp=>by
   unfold ByPath at hs
   rw [List.pairwise_cons] at hs
   have h0:notAfter prev y.path=false:=by
    cases prev with
    | none=>rfl
    | some q =>
      have h1:ltS q y.path=true:=hp q rfl y (by simp)
      show leS y.path q=false
      unfold leS
      have h2:Op.bytesLess y.path.toList q.toList=false:=by
       cases h3:Op.bytesLess y.path.toList q.toList
       ·rfl
       ·have:=ltS_trans (x:=y.path) (y:=q) (z:=y.path) h3 h1
        rw [ltS_irrefl] at this; cases this
      have h4:(y.path.toList == q.toList)=false:=by
       cases h3:(y.path.toList == q.toList)
       ·rfl
       ·have e:y.path.toList=q.toList:=by simpa using h3
        rw [ltS_eq_r (z:=q) e,ltS_irrefl] at h1; cases h1
      rw [h2,h4]; rfl
   have h1:=lookErr_from (he y (by simp)).1 (he y (by simp)).2 prev
   rw [h0] at h1
   have h1:lookErr prev y=0:=h1
   rw [looksErr,if_pos h1]
   exact looksErr_from hs.2 (fun z hz=>he z (by simp [hz])) fun q hq z hz=>by
    cases hq
    exact hs.1 z hz
structure LooksRight (a:ActionV) (F:List FileV):Prop where
 from_:LooksFrom F IsP (runE a a.commands 0 F startS).2
 many:(execS a F).looks.length≤3500
 right:checkLooksS (execS a F).looks=0
 stand:(execS a F).looks.map (fun y=>lookAtS F y.path)=(execS a F).looks
theorem looks_right {a:ActionV} {F:List FileV} (hc:∀ c∈a.commands,checkCommandS c=0) (hl:a.commands.length≤50) (hF:∀ x∈F,IsP x.path) (hn:F.length≤1000):LooksRight a F:=by
 have h1:=asks_run hF a a.commands 0 (fun c h=>cmd_paths (hc c h)) startS ⟨List.Pairwise.nil,fun y hy=>by cases hy⟩
 have h2:missS F (runE a a.commands 0 F startS).2.looks + 0≤missS F startS.looks + (0 + 50 * a.commands.length):=miss_run (F:=F) a a.commands 0 0 (fun c h=>(cmd_paths (hc c h)).many) startS
 have h3:missS F startS.looks=0:=rfl
 have h4:=looks_count h1
 have h5:(execS a F).looks.length≤3500:=by
  show (runE a a.commands 0 F startS).2.looks.length≤3500
  omega
 refine ⟨h1,h5,?_,?_⟩
 ·rw [checkLooksS,if_neg (by omega)]
  exact looksErr_from h1.sorted h1.each fun q hq=>by cases hq
 ·show ((runE a a.commands 0 F startS).2.looks.map fun y=>lookAtS F y.path)=(runE a a.commands 0 F startS).2.looks
  have h6:∀ y∈(runE a a.commands 0 F startS).2.looks,lookAtS F y.path=y:=fun y hy=>(h1.each y hy).1.symm
  generalize (runE a a.commands 0 F startS).2.looks=l at h6
  clear h1 h2 h3 h4 h5
  induction l with
  | nil=>rfl
  | cons y l ih=>rw [List.map_cons,h6 y (by simp),ih fun z hz=>h6 z (by simp [hz])]
end Go.Proofs.Sm
namespace Go.Proofs.Sm
open Go.RowKit
def Quiet {α:Type} (m:Ex α):Prop:=∀ F s,(m F s).2.written=s.written∧(m F s).2.told=s.told∧(m F s).2.total=s.total
section
variable {α β:Type}
theorem quiet_ret (a:α):Quiet (Ex.ret a):=fun _ _=>⟨rfl,rfl,rfl⟩
theorem Quiet.bind {m:Ex α} {f:α→Ex β} (h:Quiet m) (hf:∀ a,Quiet (f a)):Quiet (m.bind f):=fun F s=>by
 have h1:=h F s
 have h2:=hf (m F s).1 F (m F s).2
 exact ⟨h2.1.trans h1.1,h2.2.1.trans h1.2.1,h2.2.2.trans h1.2.2⟩
theorem quiet_find (p:ByteArray):Quiet (findE p):=fun F s=>by unfold findE; split <;> exact ⟨rfl,rfl,rfl⟩
theorem quiet_read (p:ByteArray):Quiet (readE p):=(quiet_find p).bind fun x=>by cases x <;> exact quiet_ret _
theorem quiet_each {f:ByteArray→List UInt8→Nat→Ex (List UInt8 × Nat × Int)} (hf:∀ p o r,Quiet (f p o r)):∀ l o r,Quiet (eachE f l o r)
 | [],_,_=>quiet_ret _
 | s :: rest,o,r=>by
   unfold eachE
   split
   ·refine (hf _ o r).bind fun x=>?_
    split
    ·exact quiet_each hf rest _ _
    ·exact quiet_ret _
   ·split
    ·exact quiet_ret _
    ·exact quiet_each hf rest _ _
theorem quiet_file:∀ fuel inn p o r,Quiet (fileE fuel inn p o r)
 | 0,_,_,_,_=>quiet_ret _
 | fuel + 1,inn,p,o,r=>by
   unfold fileE
   split
   ·exact quiet_ret _
   ·refine (quiet_read p).bind fun x=>?_
    split
    ·split
     ·exact quiet_ret _
     ·exact quiet_each (fun p o r=>quiet_file fuel _ p o r) _ _ _
    ·exact quiet_ret _
theorem quiet_joined:∀ l o,Quiet (joinedE l o)
 | [],_=>quiet_ret _
 | p :: rest,o=>by
   unfold joinedE
   refine (quiet_read p).bind fun x=>?_
   split
   ·exact quiet_joined rest _
   ·exact quiet_ret _
theorem quiet_pick:∀ l,Quiet (pickE l)
 | []=>quiet_ret _
 | p :: rest=>by
   unfold pickE
   refine (quiet_find p).bind fun x=>?_
   cases x
   ·exact quiet_pick rest
   ·exact quiet_ret _
theorem quiet_lists (q:ByteArray):∀ l o,Quiet (listsE q l o)
 | [],_=>quiet_ret _
 | p :: rest,o=>by
   unfold listsE
   split
   ·exact (quiet_find p).bind fun _=>quiet_lists q rest _
   ·exact quiet_lists q rest o
theorem quiet_list (q:ByteArray):Quiet (listE q):=(quiet_find q).bind fun _=>fun F s=>quiet_lists q (pathsS F s) [] F s
theorem quiet_made (vars:List VarV) (c:List ByteArray):Quiet (madeE vars c):=by
 unfold madeE
 dsimp only
 split
 ·exact quiet_joined _ _
 split
 ·exact (quiet_file _ _ _ _ _).bind fun _=>quiet_ret _
 split
 ·exact quiet_pick _
 split
 ·exact (quiet_list _).bind fun _=>quiet_ret _
 split
 ·exact quiet_ret _
 ·refine (quiet_read _).bind fun x=>?_
  split <;> exact quiet_ret _
end
structure WroteOk (a:ActionV) (s:ExSt):Prop where
 sorted:ByPath FileV.path s.written
 own:∀ x∈s.written,(∃ o∈a.outputs,o.toList=x.path.toList)∧x.bytes.length≤100000∧IsP x.path
 total:s.total=totalS s.written
 small:s.total≤2000000
 told:s.told.all textB=true∧endsS s.told=true∧s.told.length≤100000
def KeepsW (a:ActionV) {α:Type} (m:Ex α):Prop:=∀ F s,WroteOk a s→WroteOk a (m F s).2
theorem Quiet.keepsW {α:Type} {m:Ex α} (h:Quiet m) (a:ActionV):KeepsW a m:=fun F s hs=>by
 obtain ⟨h1,h2,h3⟩:=h F s
 exact ⟨by rw [h1]; exact hs.sorted,by rw [h1]; exact hs.own,by rw [h3,h1]; exact hs.total,by rw [h3]; exact hs.small,by rw [h2]; exact hs.told⟩
theorem KeepsW.bind {a:ActionV} {α β:Type} {m:Ex α} {f:α→Ex β} (h:KeepsW a m) (hf:∀ x,KeepsW a (f x)):KeepsW a (m.bind f):=fun F s hs=>hf _ F _ (h F s hs)
theorem total_append (l m:List FileV):totalS (l ++ m)=totalS l + totalS m:=by unfold totalS; rw [List.map_append,List.sum_append]
theorem total_cons (x:FileV) (l:List FileV):totalS (x :: l)=x.bytes.length + totalS l:=by unfold totalS; rw [List.map_cons,List.sum_cons]
theorem put_total (p:ByteArray):∀ {l:List FileV},ByPath FileV.path l→totalS (l.filter fun y=>ltS y.path p) + totalS (l.filter fun y=>ltS p y.path) + oldLen l p=totalS l
 | [],_=>rfl
 | y :: l,h=>by
   unfold ByPath at h
   rw [List.pairwise_cons] at h
   have ih:=put_total p (l:=l) h.2
   rcases ltS_total y.path p with h1 | h1 | h1
   ·have h2:ltS p y.path=false:=by
     cases h3:ltS p y.path
     ·rfl
     ·have:=ltS_trans h1 h3
      rw [ltS_irrefl] at this; cases this
    have h4:eqp p y=false:=by
     cases h3:eqp p y
     ·rfl
     ·have e:y.path.toList=p.toList:=by simpa [eqp] using h3
      rw [ltS_eq_l e,ltS_irrefl] at h1; cases h1
    have h5:oldLen (y :: l) p=oldLen l p:=by unfold oldLen; rw [List.find?_cons,h4]
    rw [List.filter_cons,if_pos h1,List.filter_cons,if_neg (by rw [h2]; simp),total_cons,total_cons,h5]
    omega
   ·have h2:ltS y.path p=false:=by rw [ltS_eq_l h1]; exact ltS_irrefl _
    have h3:ltS p y.path=false:=by rw [ltS_eq_r h1]; exact ltS_irrefl _
    have h4:eqp p y=true:=by simpa [eqp] using h1
    have h5:oldLen (y :: l) p=y.bytes.length:=by unfold oldLen; rw [List.find?_cons,h4]
    have h6:(l.filter fun z=>ltS z.path p)=[]:=by
     rw [List.filter_eq_nil_iff]
     intro z hz h7
     have h8:=h.1 z hz
     rw [ltS_eq_l h1] at h8
     have:=ltS_trans h8 h7
     rw [ltS_irrefl] at this; cases this
    have h7:(l.filter fun z=>ltS p z.path)=l:=by
     rw [List.filter_eq_self]
     intro z hz
     rw [←ltS_eq_l h1]
     exact h.1 z hz
    rw [List.filter_cons,if_neg (by rw [h2]; simp),List.filter_cons,if_neg (by rw [h3]; simp),total_cons,h5,h6,h7]
    show 0 + _ + _=_
    omega
   ·have h2:ltS y.path p=false:=by
     cases h3:ltS y.path p
     ·rfl
     ·have:=ltS_trans h1 h3
      rw [ltS_irrefl] at this; cases this
    have h4:eqp p y=false:=by
     cases h3:eqp p y
     ·rfl
     ·have e:y.path.toList=p.toList:=by simpa [eqp] using h3
      rw [ltS_eq_r e,ltS_irrefl] at h1; cases h1
    have h5:oldLen (y :: l) p=oldLen l p:=by unfold oldLen; rw [List.find?_cons,h4]
    rw [List.filter_cons,if_neg (by rw [h2]; simp),List.filter_cons,if_pos h1,total_cons,total_cons,h5]
    omega
theorem keepsW_write (a:ActionV) {p:ByteArray} (hp:∀ o∈a.outputs,o.toList=p.toList→IsP p) (b:List UInt8) (run:Bool):KeepsW a (writeE a.outputs p b run):=fun F s hs=>by
 unfold writeE
 split
 ·exact hs
 rename_i ho
 split
 ·exact hs
 rename_i hl
 have hany:a.outputs.any (fun o=>o.toList == p.toList)=true:=by simpa using ho
 obtain ⟨o,hom,hoe⟩:=List.any_eq_true.1 hany
 have hoe:o.toList=p.toList:=by simpa using hoe
 have h1:=put_total p hs.sorted
 have h2:totalS (putFileS s.written ⟨p,run,b⟩)=totalS (s.written.filter fun y=>ltS y.path p) + b.length + totalS (s.written.filter fun y=>ltS p y.path):=by
  unfold putFileS
  rw [total_append,total_append]
  show _ + totalS [(⟨p,run,b⟩:FileV)] + _=_
  rw [total_cons]
  rfl
 have h3:=hs.total
 have h4:s.total - oldLen s.written p + b.length=totalS (putFileS s.written ⟨p,run,b⟩):=by omega
 refine ⟨byPath_put hs.sorted _,fun x hx=>?_,h4,?_,hs.told⟩
 ·rcases List.mem_append.1 hx with h | h
  ·rcases List.mem_append.1 h with h | h
   ·exact hs.own x (List.mem_filter.1 h).1
   ·obtain rfl:x=⟨p,run,b⟩:=by simpa using h
    exact ⟨⟨o,hom,hoe⟩,by show b.length≤100000; omega,hp o hom hoe⟩
  ·exact hs.own x (List.mem_filter.1 h).1
 ·show s.total - oldLen s.written p + b.length≤2000000
  have:oldLen s.written p≤s.total:=by omega
  omega
end Go.Proofs.Sm
