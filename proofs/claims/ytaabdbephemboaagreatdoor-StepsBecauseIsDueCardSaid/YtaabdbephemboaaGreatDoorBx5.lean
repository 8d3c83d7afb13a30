/- Words and walks that the claims share, part 5. -/
import Derived.Test.YtaabdbephemboaaGreatDoorBx1
import Derived.Test.YtaabdbephemboaaGreatDoorBx4
import Derived.Maps.OwnOps
import Derived.Maps.OwnSet
import Derived.StillTailTactics
namespace Go.Proofs.Sm
open Go.RowKit
theorem bl_irrefl:∀ a:List UInt8,Op.bytesLess a a=false
 | []=>rfl
 | c :: a=>by simp [Op.bytesLess,bl_irrefl a]
theorem bl_trans:∀ {a b c:List UInt8},Op.bytesLess a b=true→Op.bytesLess b c=true→Op.bytesLess a c=true
 | _,[],_,h,_=>by simp [Op.bytesLess] at h
 | _,_ :: _,[],_,h=>by simp [Op.bytesLess] at h
 | [],_ :: _,_ :: _,_,_=>rfl
 | x :: a,y :: b,z :: c,h1,h2=>by
   simp only [Op.bytesLess,Bool.or_eq_true,decide_eq_true_eq,Bool.and_eq_true,beq_iff_eq] at *
   rcases h1 with h1 | ⟨rfl,h1⟩
   ·rcases h2 with h2 | ⟨rfl,h2⟩
    ·exact .inl (UInt8.lt_trans h1 h2)
    ·exact .inl h1
   ·rcases h2 with h2 | ⟨rfl,h2⟩
    ·exact .inl h2
    ·exact .inr ⟨rfl,bl_trans h1 h2⟩
theorem bl_total:∀ {a b:List UInt8},Op.bytesLess a b=false→a≠b→Op.bytesLess b a=true
 | [],[],_,h=>absurd rfl h
 | [],_ :: _,h,_=>by simp [Op.bytesLess] at h
 | _ :: _,[],_,_=>rfl
 | x :: a,y :: b,h,hne=>by
   simp only [Op.bytesLess,Bool.or_eq_false_iff,decide_eq_false_iff_not,Bool.and_eq_false_iff,beq_eq_false_iff_ne,Bool.or_eq_true,decide_eq_true_eq,Bool.and_eq_true,beq_iff_eq] at *
   obtain ⟨h1,h2⟩:=h
   by_cases hxy:x=y
   ·subst hxy
    refine .inr ⟨rfl,bl_total (h2.resolve_left (fun h=>h rfl)) (fun e=>hne (by rw [e]))⟩
   ·left
    rcases UInt8.lt_or_lt_of_ne hxy with h | h
    ·exact absurd h h1
    ·exact h
theorem leS_lt {a b:ByteArray} (h:leS a b=false):ltS b a=true:=by
 simp only [leS,Bool.or_eq_false_iff,beq_eq_false_iff_ne] at h
 exact bl_total h.1 h.2
def fileErr (prev:Option ByteArray) (x:FileV):Int :=
 if isPathS x.path=false then 3 else if 100000 < (x.bytes.length:Int) then 2 else if notAfter prev x.path then 8 else 0
def filesErr:Option ByteArray→List FileV→Int
 | _,[]=>0
 | prev,x :: r=>if fileErr prev x=0 then filesErr (some x.path) r else fileErr prev x
def hasPath (l:List FileV) (p:List UInt8):Bool:=l.any fun y=>y.path.data.toList == p
def clashFrom (l:List FileV) (p:ByteArray):Nat→Nat→Bool
 | 0,_=>false
 | n + 1,i=>(decide (p.data.toList[i]?=some 47) && hasPath l (p.data.toList.take i)) || clashFrom l p n (i + 1)
theorem clash_yes {l:List FileV} {p:ByteArray} {k:Nat} (hk:k < p.size) (h:(p[k].toNat:Int)=47) (hh:hasPath l (p.data.toList.take k)=true):clashFrom l p (p.size - k) k=true:=by
 rw [show p.size - k=(p.size - (k + 1)) + 1 by omega,clashFrom,hh]
 have e:p.data.toList[k]?=some 47:=by
  have e1:p.data.toList[k]?=some p[k]:=by
   rw [Array.getElem?_toList]
   exact Array.getElem?_eq_getElem hk
  rw [e1]
  congr 1
  apply UInt8.toNat_inj.1
  have:(47:UInt8).toNat=47:=rfl
  omega
 simp [e]
theorem clash_slash {l:List FileV} {p:ByteArray} {k:Nat} (hk:k < p.size) (hh:hasPath l (p.data.toList.take k)=false):clashFrom l p (p.size - k) k=clashFrom l p (p.size - (k + 1)) (k + 1):=by
 rw [show p.size - k=(p.size - (k + 1)) + 1 by omega,clashFrom,hh]
 simp
theorem clash_other {l:List FileV} {p:ByteArray} {k:Nat} (hk:k < p.size) (h:(p[k].toNat:Int)≠47):clashFrom l p (p.size - k) k=clashFrom l p (p.size - (k + 1)) (k + 1):=by
 rw [show p.size - k=(p.size - (k + 1)) + 1 by omega,clashFrom]
 have e:¬ p.data.toList[k]?=some 47:=by
  have e1:p.data.toList[k]?=some p[k]:=by
   rw [Array.getElem?_toList]
   exact Array.getElem?_eq_getElem hk
  rw [e1]
  intro e2
  have e3:p[k]=47:=by simpa using e2
  rw [e3] at h
  exact h rfl
 rw [decide_eq_false e]
 simp
def clashS (l:List FileV) (p:ByteArray):Bool:=clashFrom l p p.size 0
def totalS (l:List FileV):Nat:=(l.map fun x=>x.bytes.length).sum
def checkFilesS (l:List FileV):Int :=
 if 1000 < (l.length:Int) then 2 else if filesErr none l≠0 then filesErr none l else if l.any (fun x=>clashS l x.path) then 12 else if 2000000 < (totalS l:Int) then 2 else 0
theorem files_round {l:List FileV} {k:Nat} {x:FileV} (hx:l[k]?=some x) (h:fileErr (ahead FileV.path l k) x=0) :
 filesErr (ahead FileV.path l k) (l.drop k)=filesErr (ahead FileV.path l (k + 1)) (l.drop (k + 1)):=by
 rw [drop_at hx,filesErr,if_pos h,ahead_succ hx]
theorem files_stop {l:List FileV} {k:Nat} {x:FileV} {e:Int} (hx:l[k]?=some x) (h:fileErr (ahead FileV.path l k) x=e) (he:e≠0) :
 filesErr (ahead FileV.path l k) (l.drop k)=e:=by
 rw [drop_at hx,filesErr,if_neg (by rw [h]; exact he),h]
section
variable {prev:Option ByteArray} {x:FileV}
theorem fileErr_path (hp:isPathS x.path=false):fileErr prev x=3:=by simp [fileErr,hp]
theorem fileErr_large (hp:isPathS x.path=true) (h:(100000:Int) < x.bytes.length):fileErr prev x=2:=by simp only [fileErr,hp,if_pos h]; rfl
theorem fileErr_rest (hp:isPathS x.path=true) (h:¬ (100000:Int) < x.bytes.length):fileErr prev x=if notAfter prev x.path then 8 else 0:=by simp only [fileErr,hp,if_neg h]; rfl
end
theorem total_succ {l:List FileV} {k:Nat} {x:FileV} (hx:l[k]?=some x):totalS (l.take (k + 1))=totalS (l.take k) + x.bytes.length:=by
 unfold totalS
 rw [List.take_add_one,hx,List.map_append,List.sum_append]
 simp
theorem hasPath_succ {l:List FileV} {k:Nat} {x:FileV} (hx:l[k]?=some x) (p:List UInt8):hasPath (l.take (k + 1)) p=(hasPath (l.take k) p || x.path.data.toList == p):=by
 unfold hasPath
 rw [List.take_add_one,hx,List.any_append]
 simp
def Sorted (l:List FileV):Prop:=∀ (i j:Nat) (x y:FileV),i < j→l[i]?=some x→l[j]?=some y→ltS x.path y.path=true
theorem filesErr_step {l:List FileV}:∀ (prev:Option ByteArray),filesErr prev l=0→∀ i x,l[i]?=some x→(if i=0 then notAfter prev x.path=false else ∀ y,l[i - 1]?=some y→ltS y.path x.path=true)∧isPathS x.path=true∧x.bytes.length≤100000:=by
 induction l with
 | nil=>intro _ _ i x hx; simp at hx
 | cons a l ih =>
   intro prev h i x hx
   rw [filesErr] at h
   split at h
   ·rename_i h0
    cases i with
    | zero =>
      obtain rfl:a=x:=by simpa using hx
      simp only [fileErr] at h0
      split at h0
      ·omega
      ·split at h0
       ·omega
       ·split at h0
        ·omega
        ·rename_i h1 h2 h3
         refine ⟨by simpa using h3,by simpa using h1,by omega⟩
    | succ i =>
      have hx':l[i]?=some x:=by simpa using hx
      obtain ⟨h1,h2⟩:=ih _ h i x hx'
      refine ⟨?_,h2⟩
      simp only [Nat.add_one_ne_zero,if_false]
      intro y hy
      cases i with
      | zero =>
        obtain rfl:a=y:=by simpa using hy
        simp only [if_true,notAfter] at h1
        exact leS_lt h1
      | succ i =>
        simp only [Nat.add_one_ne_zero,if_false] at h1
        exact h1 y (by simpa using hy)
   ·exact absurd h ‹_›
theorem sorted_of {l:List FileV} (h:filesErr none l=0):Sorted l:=by
 have key:∀ d i x y,l[i]?=some x→l[i + d + 1]?=some y→ltS x.path y.path=true:=by
  intro d
  induction d with
  | zero =>
    intro i x y hx hy
    have:=(filesErr_step none h (i + 1) y (by simpa using hy)).1
    simp only [Nat.add_one_ne_zero,if_false] at this
    exact this x (by simpa using hx)
  | succ d ih =>
    intro i x y hx hy
    obtain ⟨z,hz⟩:∃ z,l[i + d + 1]?=some z:=by
     have:=(List.getElem?_eq_some_iff.1 hy).1
     exact ⟨l[i + d + 1]'(by omega),List.getElem?_eq_getElem _⟩
    have h1:=ih i x z hx hz
    have:=(filesErr_step none h (i + d + 1 + 1) y hy).1
    simp only [Nat.add_one_ne_zero,if_false] at this
    exact bl_trans h1 (this z (by simpa using hz))
 intro i j x y hij hx hy
 exact key (j - i - 1) i x y hx (by rw [show i + (j - i - 1) + 1=j by omega]; exact hy)
end Go.Proofs.Sm
namespace Go.Proofs.Sm
open Go.RowKit Go.Maps Go.WideMaps
def raw (v:Value):Option (DataW Value × List MemPlace):=some (.held v,[])
def MapIs (P:Program) (k:TypeId) (w:World) (b n:Nat) (f:List UInt8→Option Value):Prop :=
 ∃ D:DataW Value,w.ownsMap P k raw b n D∧IsMap D∧∀ key z,D.atKey (.string key) z=match f key with | some v=>.held v | none=>z
section
variable {P:Program} {k:TypeId} {w w':World} {b n:Nat} {f:List UInt8→Option Value}
theorem MapIs.made (w:World):MapIs P k (w.alloc (.map #[] 0)) w.heap.size 0 (fun _=>none) :=
 ⟨.map [],World.ownsMap_made _ _ _ _,isMap_empty,fun key z=>by simp [DataW.atKey]⟩
theorem MapIs.alloc (h:MapIs P k w b n f) (o:Obj):MapIs P k (w.alloc o) b n f:=by
 obtain ⟨D,h1,h2⟩:=h
 exact ⟨D,h1.alloc o,h2⟩
theorem MapIs.keep (h:MapIs P k w b n f) (hk:w'.heap[b]?=w.heap[b]?):MapIs P k w' b n f:=by
 obtain ⟨D,⟨es,clock,hb,F,h1⟩,h2⟩:=h
 exact ⟨D,⟨es,clock,hk.trans hb,F,h1⟩,h2⟩
theorem MapIs.lt (h:MapIs P k w b n f):b < w.heap.size:=by
 obtain ⟨D,h1,_⟩:=h
 exact h1.lt
theorem MapIs.call (h:MapIs P k w b n f) (hb:Below w.heap.size w w'):MapIs P k w' b n f:=h.keep (hb.block b h.lt)
theorem MapIs.more (h:MapIs P k w b n f) {n':Nat} (hn:n≤n'):MapIs P k w b n' f:=by
 obtain ⟨D,h1,h2⟩:=h
 exact ⟨D,h1.mono hn,h2⟩
theorem MapIs.drewN (h:MapIs P k w b n f) (m:Nat):MapIs P k (w.drewN m) b n f:=h.keep rfl
theorem MapIs.setCell (h:MapIs P k w b n f) {p:Addr} (hp:b≠p.block) (u:Value):MapIs P k (w.setCell p u) b n f:=h.keep (Below.heap_setCell w p u b hp)
theorem MapIs.look {t e:TypeId} (h:MapIs P k w b n f) (hk:P.underlying k=some .string) (ht:P.underlying t=some (.map k e)) {z:Value} (hz:(zeroValue e).run P w=.ok z w)
 {s:ByteArray} (hs:s.size≤maxLen):(Instr.lookup t (.map (some b)) (.string s) false).run P w=.ok ((f s.data.toList).getD z) w:=by
 obtain ⟨D,h1,h2,h3⟩:=h
 obtain ⟨v,ps,hrun,hv⟩:=h1.lookup (string_keyed hk) ht hz (zd:=.held z) (zp:=[]) rfl (kl:=.string s.data.toList) (keyOf_string_mk hk hs)
 rw [hrun]
 simp only [raw,h3] at hv
 cases hf:f s.data.toList with
 | none=>rw [hf] at hv; simp at hv; simp [hv.1]
 | some u=>rw [hf] at hv; simp at hv; simp [hv.1]
theorem MapIs.store {t e:TypeId} (h:MapIs P k w b n f) (hk:P.underlying k=some .string) (ht:P.underlying t=some (.map k e)) (hn:n < maxLen) {s:ByteArray} (hs:s.size≤maxLen) (v:Value) :
 ∃ w',(Instr.mapUpdate t (.map (some b)) (.string s) v).run P w=.ok () w'∧MapIs P k w' b (n + 1) (fun key=>if key=s.data.toList then some v else f key)∧w.grownBy w' (some b):=by
 obtain ⟨D,h1,h2,h3⟩:=h
 obtain ⟨w',hrun,hown,hg⟩:=h1.update (string_keyed hk) ht hn (key:=.string s) (val:=v) (kl:=.string s.data.toList) (d:=.held v) (ps:=[]) (keyOf_string_mk hk hs) rfl
 have hkl:WideAt.IsKeyLit (.string s.data.toList):=(string_keyed hk).key (keyOf_string_mk hk hs)
 refine ⟨w',hrun,⟨_,hown,h2.put _ _,fun key z=>?_⟩,hg⟩
 by_cases he:key=s.data.toList
 ·subst he
  rw [atKey_put_same h2 hkl]; simp
 ·rw [atKey_put_other (by simpa using he)]
  simp only [if_neg he]
  exact h3 key z
theorem wpList_mapUpdate_is (w:World) {ops:Array Oper} {rest:List Oper} {o:Oper} {a:Act} {Q:Exit→Act→World→Prop}
 (hg:o.guard=none) (m x v:Operand) (t:TypeId) (hop:o.op=Op.mapUpdate t m x v) (hk:P.underlying k=some .string) {e:TypeId} (ht:P.underlying t=some (.map k e))
 (hm:a.eval m=.map (some b)) (hmap:MapIs P k w b n f) (hn:n < maxLen) (s:ByteArray) (hs:s.size≤maxLen) (val:Value) (hx:a.eval x=.string s) (hv:a.eval v=val)
 (hK:∀ w',MapIs P k w' b (n + 1) (fun key=>if key=s.data.toList then some val else f key)→w.grownBy w' (some b)→wpList P ops Q rest (a.put o.dst undef) w') :
 wpList P ops Q (o :: rest) a w:=by
 refine wpList_plain hg fun K' hK'=>?_
 obtain ⟨w',hrun,r1,r2⟩:=hmap.store hk ht hn hs val
 unfold Oper.wp
 simp [execOp,hop,hm,hx,hv,hrun,Result.andThen]
 exact hK' _ _ (hK w' r1 r2)
end
end Go.Proofs.Sm
namespace Go.Proofs.Sm
open Go.RowKit
def hasOf (l:List FileV):List UInt8→Option Value:=fun key=>if hasPath l key then some (.bool true) else none
theorem has_look {m nn:Nat} {l:List FileV} {w:World} (hmap:MapIs Tryz.prog 9 w m nn (hasOf l)) {s:ByteArray} (hs:s.size≤maxLen) :
 (Instr.lookup 113 (.map (some m)) (.string s) false).run Tryz.prog w=.ok (.bool (hasPath l s.data.toList)) w:=by
 have hz:∀ w,(zeroValue 4).run Tryz.prog w=.ok (.bool false) w:=fun w=>by kernel_rfl
 rw [hmap.look Tryz.underlying9 Tryz.underlying113 (hz w) hs,hasOf]
 cases hasPath l s.data.toList <;> rfl
set_option maxRecDepth 100000 in
theorem blob_clashes (m nn:Nat) (l:List FileV) (s:ByteArray) (w:World) (hs:s.size≤maxLen) (hmap:MapIs Tryz.prog 9 w m nn (hasOf l)) :
 Calls Tryz.prog 93 #[.map (some m),.string s] w fun e w'=>e=.returned (.bool (clashS l s))∧w=w':=by
 have hm:s.size≤9223372036854775807:=hs
 go_enter Tryz.func93,Tryz.ntmps93
 go_wp2
 go_loop [5,8] (fun _ i=>∃ k:Nat,k≤s.size∧i=.int .i64 k∧clashS l s=clashFrom l s (s.size - k) k) (fun _ i=>s.size - (intOf i).toNat)
 case atStart=>exact ⟨0,Nat.zero_le _,rfl,rfl⟩
 case round =>
  obtain ⟨k,hk,rfl,hd⟩:=hrel
  have Hr:=Lib.hid hd; clear hd
  by_cases hlt:k < s.size
  ·have hlk:=has_look hmap (s:=s.extract 0 k) (by rw [ByteArray.size_extract]; omega)
   have e0:(s.extract 0 k).data.toList=s.data.toList.take k:=by simp
   rw [e0] at hlk
   cases h47:((s[k].toNat:Int) == 47)
   ·have HS:=Lib.hid (clash_other (l:=l) hlt (by simpa using h47))
    go_wp2
    go_round
    case rel=>exact ⟨k + 1,by omega,by go_num,by rw [Hr.out,HS.out]⟩
    case measure=>simp [intOf]; omega
   ·cases hp:hasPath l (s.data.toList.take k)
    ·have HS:=Lib.hid (clash_slash (l:=l) hlt hp)
     rw [hp] at hlk
     go_wp2
     go_round
     case rel=>exact ⟨k + 1,by omega,by go_num,by rw [Hr.out,HS.out]⟩
     case measure=>simp [intOf]; omega
    ·have HS:=Lib.hid (clash_yes (l:=l) hlt (by simpa using h47) hp)
     rw [hp] at hlk
     go_wp2
     go_ret
     exact ⟨ret_bool (by rw [Hr.out,HS.out]),rfl⟩
  ·go_wp2
   go_ret
   exact ⟨ret_bool (by rw [Hr.out,show s.size - k=0 by omega]; rfl),rfl⟩
end Go.Proofs.Sm
namespace Go.Proofs.Sm
open Go.RowKit
theorem hasOf_succ {l:List FileV} {k:Nat} {x:FileV} (hx:l[k]?=some x):(fun key=>if key=x.path.data.toList then some (Value.bool true) else hasOf (l.take k) key)=hasOf (l.take (k + 1)):=by
 funext key
 unfold hasOf
 rw [hasPath_succ hx]
 by_cases h:key=x.path.data.toList
 ·subst h
  simp
 ·have h':(x.path.data.toList == key)=false:=by simpa using fun e=>h e.symm
  rw [if_neg h,h',Bool.or_false]
set_option maxRecDepth 100000 in
theorem blob_CheckFiles (A:Option Addr) (n c:Nat) (l:List FileV) (w:World) (hE:Env w) (hsl:Sl w (Lt w.heap.size) A n l):Calls Tryz.prog 60 #[.slice A n c] w fun e w'=>e=.returned (.int .i64 (checkFilesS l))∧Below w.heap.size w w':=by
 have hm:n≤9223372036854775807:=hsl.2.1
 have hmm:=@run_makeMap Tryz.prog
 have HL:=Lib.hid hsl.1
 by_cases hbig:(1000:Int) < n
 ·go_enter Tryz.func60,Tryz.ntmps60
  go_wp2
  go_ret; exact ⟨ret_int (by rw [checkFilesS,HL.out,if_pos hbig]),Below.refl _ _⟩
 have Hd:=Lib.hid (show checkFilesS l=if filesErr none l≠0 then filesErr none l else if l.any (fun x=>clashS l x.path) then 12 else if 2000000 < (totalS l:Int) then 2 else 0 by rw [checkFilesS,HL.out,if_neg hbig])
 go_enter Tryz.func60,Tryz.ntmps60
 go_wp2
 go_loopw [3,5,15] (fun t _ i wr=>∃ k:Nat,k≤n∧i=.int .i64 k∧t=.int .i64 (totalS (l.take k):Nat)∧totalS (l.take k)≤100000 * k∧filesErr none l=filesErr (ahead FileV.path l k) (l.drop k)∧MapIs Tryz.prog 9 wr w.heap.size k (hasOf (l.take k))∧Below w.heap.size w wr) (fun _ _ i _=>n - (intOf i).toNat)
 case atStart=>exact ⟨0,Nat.zero_le _,rfl,rfl,by simp [totalS],rfl,MapIs.made w,(Below.refl _ _).alloc (Nat.le_refl _) _⟩
 case round =>
  obtain ⟨k,hk,rfl,rfl,htl,hd,hmap,hbel⟩:=hrel
  have Hr:=Lib.hid hd; clear hd
  have hbs:=hbel.size
  by_cases hlt:k < n
  ·obtain ⟨b,o,x,A',n',c',rfl,hb,hx,hs1,hnc,hcm,hsl',c0,c1,c2⟩:=(hsl.keep (keep_lt hbel)).file hlt
   have hbw:b < wr.heap.size:=Nat.lt_of_lt_of_le hb hbs
   have HX:=Lib.hid hx; clear hx
   have hEr:=hE.then_ hbel
   have HLen:=Lib.hid hsl'.1
   have hn'm:n'≤9223372036854775807:=hsl'.2.1
   cases hp:isPathS x.path
   ·have HV:=Lib.hid (fileErr_path (prev:=ahead FileV.path l k) hp)
    go_wp2_with (go_at_call 44; refine (blob_IsPath _ _ (hEr.alloc _)).mono ?_; rintro e w1 ⟨rfl,hb1⟩; obtain ⟨hc1,hf1⟩:=bcell hb1; have hz1:=grew hb1)
    go_ret
    exact ⟨ret_int (by rw [Hd.out,Hr.out,files_stop HX.out HV.out (by decide)]; rfl),fr_box hbel hb1⟩
   by_cases hlg:(100000:Int) < n'
   ·have HV:=Lib.hid (fileErr_large (prev:=ahead FileV.path l k) hp (by rw [HLen.out]; exact hlg))
    go_wp2_with (go_at_call 44; refine (blob_IsPath _ _ (hEr.alloc _)).mono ?_; rintro e w1 ⟨rfl,hb1⟩; obtain ⟨hc1,hf1⟩:=bcell hb1; have hz1:=grew hb1)
    go_ret
    exact ⟨ret_int (by rw [Hd.out,Hr.out,files_stop HX.out HV.out (by decide)]; rfl),fr_box hbel hb1⟩
   have HO:=Lib.hid (fileErr_rest (prev:=ahead FileV.path l k) hp (by rw [HLen.out]; exact hlg))
   by_cases hk0:0 < k
   ·have hg:decide ((0:Int) < (k:Int))=true:=by simpa using hk0
    obtain ⟨_,_,y,_,_,_,e0,_,hy,_,_,_,_,d0,_,_⟩:=(hsl.keep (keep_lt hbel)).file (k:=k - 1) (by omega)
    cases e0
    have HA:=Lib.hid (ahead_pos (f:=FileV.path) hk0 hy); clear hy
    cases hle:leS x.path y.path
    ·have HV:=Lib.hid (show fileErr (ahead FileV.path l k) x=0 by rw [HO.out,HA.out]; simp [notAfter,hle])
     have hle':=leS_false hle
     go_wp2_with (go_at_call 44; refine (blob_IsPath _ _ (hEr.alloc _)).mono ?_; rintro e w1 ⟨rfl,hb1⟩; obtain ⟨hc1,hf1⟩:=bcell hb1; have hz1:=grew hb1)
     have d1:w1.cell? ⟨b,o + (k - 1) * 3,none⟩=some (.string y.path):=by rw [hb1.cell (by show b < _; simp; omega),World.cell?_alloc_lt _ _ _ (by exact hbw)]; exact d0
     have g1:=IntWalk.i64_in ((k:Int) - 1) ⟨by omega,by omega⟩; have g2:((k:Int) - 1).toNat=k - 1:=(by omega); have g3:(0:Int)≤(k:Int) - 1:=(by omega); have g4:(k:Int) - 1 < n:=(by omega)
     go_quiet (fail)
     clear g1 g2 g3 g4
     go_wp2_with (at_mapUpdate; refine wpList_mapUpdate_is _ rfl _ _ _ 113 rfl Tryz.underlying9 Tryz.underlying113 rfl (((hmap.alloc _).call hb1).drewN _) (by unfold maxLen; omega) x.path hs1 (.bool true) rfl rfl ?_; intro w2 hmap2 hg2)
     have hm3:=hasOf_succ HX.out
     rw [hm3] at hmap2
     clear hm3
     have hbel2:=(below_drewN (fr_box hbel hb1) nq).grown hg2 (Nat.le_trans hbs (Nat.le_of_lt hz1)) (fun j hj=>by cases hj; exact Nat.le_refl _)
     go_wp2
     (go_round; (case rel=>exact ⟨k + 1,by omega,by go_num,by rw [total_succ HX.out]; exact congrArg (Value.int .i64) (by rw [HLen.out]; push_cast; rfl),by rw [total_succ HX.out]; have:=HLen.out; omega,by rw [Hr.out]; exact files_round HX.out HV.out,hmap2,hbel2⟩); (case measure=>simp [intOf]; omega))
    ·have HV:=Lib.hid (show fileErr (ahead FileV.path l k) x=8 by rw [HO.out,HA.out]; simp [notAfter,hle])
     have hle':=leS_true hle
     go_wp2_with (go_at_call 44; refine (blob_IsPath _ _ (hEr.alloc _)).mono ?_; rintro e w1 ⟨rfl,hb1⟩; obtain ⟨hc1,hf1⟩:=bcell hb1; have hz1:=grew hb1)
     have d1:w1.cell? ⟨b,o + (k - 1) * 3,none⟩=some (.string y.path):=by rw [hb1.cell (by show b < _; simp; omega),World.cell?_alloc_lt _ _ _ (by exact hbw)]; exact d0
     have g1:=IntWalk.i64_in ((k:Int) - 1) ⟨by omega,by omega⟩; have g2:((k:Int) - 1).toNat=k - 1:=(by omega); have g3:(0:Int)≤(k:Int) - 1:=(by omega); have g4:(k:Int) - 1 < n:=(by omega)
     go_quiet (fail)
     clear g1 g2 g3 g4
     go_wp2
     go_ret
     exact ⟨ret_int (by rw [Hd.out,Hr.out,files_stop HX.out HV.out (by decide)]; rfl),below_drewN (fr_box hbel hb1) _⟩
   ·have hg:decide ((0:Int) < (k:Int))=false:=by simpa using hk0
    have HV:=Lib.hid (show fileErr (ahead FileV.path l k) x=0 by rw [HO.out,show ahead FileV.path l k=none by simp [ahead]; omega]; rfl)
    go_wp2_with (go_at_call 44; refine (blob_IsPath _ _ (hEr.alloc _)).mono ?_; rintro e w1 ⟨rfl,hb1⟩; obtain ⟨hc1,hf1⟩:=bcell hb1; have hz1:=grew hb1)
    go_quiet (fail)
    go_wp2_with (at_mapUpdate; refine wpList_mapUpdate_is _ rfl _ _ _ 113 rfl Tryz.underlying9 Tryz.underlying113 rfl (((hmap.alloc _).call hb1).drewN _) (by unfold maxLen; omega) x.path hs1 (.bool true) rfl rfl ?_; intro w2 hmap2 hg2)
    have hm3:=hasOf_succ HX.out
    rw [hm3] at hmap2
    clear hm3
    have hbel2:=(below_drewN (fr_box hbel hb1) nq).grown hg2 (Nat.le_trans hbs (Nat.le_of_lt hz1)) (fun j hj=>by cases hj; exact Nat.le_refl _)
    go_wp2
    (go_round; (case rel=>exact ⟨k + 1,by omega,by go_num,by rw [total_succ HX.out]; exact congrArg (Value.int .i64) (by rw [HLen.out]; push_cast; rfl),by rw [total_succ HX.out]; have:=HLen.out; omega,by rw [Hr.out]; exact files_round HX.out HV.out,hmap2,hbel2⟩); (case measure=>simp [intOf]; omega))
  ·have Hk:=Lib.hid (show l.take k=l from List.take_of_length_le (by rw [hsl.1]; omega))
   have Hz:=Lib.hid (show filesErr none l=0 by rw [Hr.out,List.drop_eq_nil_of_le (by rw [hsl.1]; omega)]; rfl)
   rw [Hk.out] at hmap htl
   have Hd2:=Lib.hid (show checkFilesS l=if l.any (fun x=>clashS l x.path) then 12 else if 2000000 < (totalS l:Int) then 2 else 0 by rw [Hd.out,if_neg (by rw [Hz.out]; simp)])
   have HT:=Lib.hid (show totalS (l.take k)=totalS l by rw [Hk.out])
   generalize totalS (l.take k)=tot at *
   go_wp2
   go_loopw [8,55] (fun _ i wr=>∃ j:Nat,j≤n∧i=.int .i64 j∧(l.take j).any (fun x=>clashS l x.path)=false∧MapIs Tryz.prog 9 wr w.heap.size k (hasOf l)∧Below w.heap.size w wr) (fun _ i _=>n - (intOf i).toNat)
   case atStart=>exact ⟨0,Nat.zero_le _,rfl,rfl,hmap,hbel⟩
   case round =>
    clear hmap hbel hbs
    obtain ⟨j,hj,rfl,hno,hmap,hbel⟩:=hrel
    have HN:=Lib.hid hno; clear hno
    by_cases hlt':j < n
    ·obtain ⟨b,o,x,A',n',c',rfl,hb,hx,hs1,hnc,hcm,hsl',c0,c1,c2⟩:=(hsl.keep (keep_lt hbel)).file hlt'
     have HX:=Lib.hid hx; clear hx
     cases hq:clashS l x.path
     ·have HQ:=Lib.hid (any_step HX.out HN.out hq)
      go_wp2_with (go_at_call 93; refine (blob_clashes _ _ l _ _ hs1 (hmap.alloc _)).mono ?_; rintro e w1 ⟨rfl,rfl⟩)
      go_round
      case rel=>exact ⟨j + 1,by omega,by go_num,HQ.out,hmap.alloc _,fr_alloc hbel _⟩
      case measure=>simp [intOf]; omega
     ·have HQ:=Lib.hid (any_yes (p:=fun x=>clashS l x.path) HX.out hq)
      go_wp2_with (go_at_call 93; refine (blob_clashes _ _ l _ _ hs1 (hmap.alloc _)).mono ?_; rintro e w1 ⟨rfl,rfl⟩)
      go_ret
      exact ⟨ret_int (by rw [Hd2.out,if_pos HQ.out]),fr_alloc hbel _⟩
    ·have HQ:=Lib.hid (any_end (by rw [hsl.1]; omega) HN.out)
     by_cases hmany:(2000000:Int) < tot
     ·go_wp2
      go_ret
      exact ⟨ret_int (by rw [Hd2.out,HQ.out,←HT.out,if_neg (by decide),if_pos hmany]),hbel⟩
     ·go_wp2
      go_ret
      exact ⟨ret_int (by rw [Hd2.out,HQ.out,←HT.out,if_neg (by decide),if_neg (by omega)]),hbel⟩
end Go.Proofs.Sm
namespace Go.Proofs.Sm
open Go.RowKit
def Halves (l:List FileV) (p:ByteArray) (i j:Nat):Prop :=
 i≤j∧j≤l.length∧(∀ m x,m < i→l[m]?=some x→ltS x.path p=true)∧(∀ m x,j≤m→l[m]?=some x→ltS x.path p=false)
theorem Halves.start (l:List FileV) (p:ByteArray):Halves l p 0 l.length :=
 ⟨Nat.zero_le _,Nat.le_refl _,fun m x h=>absurd h (by omega),fun m x h hx=>by
  have:=(List.getElem?_eq_some_iff.1 hx).1
  omega⟩
section
variable {l:List FileV} {p:ByteArray} {i j m:Nat} {x:FileV}
theorem Halves.up (h:Halves l p i j) (hs:Sorted l) (him:i≤m) (hmj:m < j) (hx:l[m]?=some x) (hlt:ltS x.path p=true):Halves l p (m + 1) j:=by
 refine ⟨hmj,h.2.1,fun q y hq hy=>?_,h.2.2.2⟩
 by_cases hqm:q=m
 ·subst hqm
  rw [hx] at hy
  cases hy
  exact hlt
 ·exact bl_trans (hs q m y x (by omega) hy hx) hlt
theorem Halves.down (h:Halves l p i j) (hs:Sorted l) (him:i≤m) (hmj:m < j) (hx:l[m]?=some x) (hlt:ltS x.path p=false):Halves l p i m:=by
 refine ⟨him,by have:=h.2.1; omega,h.2.2.1,fun q y hq hy=>?_⟩
 by_cases hqm:q=m
 ·subst hqm
  rw [hx] at hy
  cases hy
  exact hlt
 ·have h1:=hs m q x y (by omega) hx hy
  cases hyp:ltS y.path p
  ·rfl
  ·exact absurd (bl_trans h1 hyp) (by rw [show Op.bytesLess x.path.toList p.toList=false from hlt]; decide)
theorem lt_ne {a b:ByteArray} (h:ltS a b=true):(a.toList == b.toList)=false:=by
 simp only [beq_eq_false_iff_ne]
 intro e
 unfold ltS at h
 rw [e,bl_irrefl] at h
 exact absurd h (by decide)
theorem data_beq (a b:ByteArray):(a.data.toList == b.data.toList)=(a.toList == b.toList):=by rw [Lib.toList_data,Lib.toList_data]
theorem Halves.miss (h:Halves l p i i) (hs:Sorted l) (hno:∀ y,l[i]?=some y→(y.path.toList == p.toList)=false):hasPath l p.data.toList=false:=by
 unfold hasPath
 rw [List.any_eq_false]
 intro y hy
 obtain ⟨q,hq⟩:=List.getElem?_of_mem hy
 rw [data_beq]
 rcases Nat.lt_trichotomy q i with h1 | h1 | h1
 ·rw [lt_ne (h.2.2.1 q y h1 hq)]; decide
 ·subst h1; rw [hno y hq]; decide
 ·obtain ⟨z,hz⟩:∃ z,l[i]?=some z:=⟨l[i]'(by have:=(List.getElem?_eq_some_iff.1 hq).1; omega),List.getElem?_eq_getElem _⟩
  have h2:=hs i q z y h1 hz hq
  have h3:=h.2.2.2 i z (Nat.le_refl _) hz
  have h4:ltS p z.path=true:=bl_total h3 (by have:=hno z hz; simpa using this)
  have h5:=lt_ne (bl_trans h4 h2)
  simp only [beq_eq_false_iff_ne,Bool.not_eq_true] at *
  exact fun e=>h5 e.symm
end
end Go.Proofs.Sm
namespace Go.Proofs.Sm
open Go.RowKit
def eqp (p:ByteArray) (y:FileV):Bool:=y.path.toList == p.toList
def lookAtS (l:List FileV) (p:ByteArray):Look:=match l.find? (eqp p) with
 | none=>⟨p,⟨#[]⟩,false⟩
 | some x=>⟨p,digestS x.bytes,x.run⟩
theorem find_hit {l:List FileV} {p:ByteArray} {k:Nat} {x:FileV} (hx:l[k]?=some x) (h:(l.take k).find? (eqp p)=none) (hn:(x.path.toList == p.toList)=true):l.find? (eqp p)=some x:=by
 have e:l=l.take k ++ x :: l.drop (k + 1):=by rw [←drop_at hx,List.take_append_drop]
 rw [e,List.find?_append,h]
 simp [eqp,hn]
theorem lookAt_none {l:List FileV} {p:ByteArray} (h:l.find? (eqp p)=none):lookAtS l p=⟨p,⟨#[]⟩,false⟩:=by simp [lookAtS,h]
theorem lookAt_some {l:List FileV} {p:ByteArray} {x:FileV} (h:l.find? (eqp p)=some x):lookAtS l p=⟨p,digestS x.bytes,x.run⟩:=by simp [lookAtS,h]
theorem find_sorted {l:List FileV} {p:ByteArray} {k:Nat} {x:FileV} (hso:Sorted l) (hx:l[k]?=some x) (hn:(x.path.toList == p.toList)=true):l.find? (eqp p)=some x:=by
 refine find_hit hx ?_ hn
 rw [List.find?_eq_none]
 intro y hy
 obtain ⟨q,hq⟩:=List.getElem?_of_mem hy
 rw [List.getElem?_take] at hq
 split at hq
 ·rename_i hqk
  have h1:=lt_ne (hso q k y x hqk hq hx)
  simp only [eqp,beq_iff_eq,beq_eq_false_iff_ne] at *
  rw [←hn]; exact h1
 ·cases hq
theorem Halves.none {l:List FileV} {p:ByteArray} {i:Nat} (h:Halves l p i i) (hs:Sorted l) (hno:∀ y,l[i]?=some y→(y.path.toList == p.toList)=false):l.find? (eqp p)=Option.none:=by
 have:=h.miss hs hno
 unfold hasPath at this
 rw [List.any_eq_false] at this
 rw [List.find?_eq_none]
 intro y hy
 have h1:=this y hy
 rw [data_beq] at h1
 simpa [eqp] using h1
end Go.Proofs.Sm
namespace Go.Proofs.Sm
open Go.RowKit
theorem cmp_lt:∀ a b:List UInt8,(Lib.compareBytes a b < 0)↔Op.bytesLess a b=true
 | [],[]=>by simp [Lib.compareBytes,Op.bytesLess]
 | [],_ :: _=>by simp [Lib.compareBytes,Op.bytesLess]
 | _ :: _,[]=>by simp [Lib.compareBytes,Op.bytesLess]
 | x :: a,y :: b=>by
   have ih:=cmp_lt a b
   simp only [Lib.compareBytes,Op.bytesLess]
   split
   ·simp_all
   ·split
    ·rename_i h1 h2
     have:¬ x=y:=fun e=>by subst e; exact h1 h2
     simp_all
    ·rename_i h1 h2
     have:x=y:=by
      apply UInt8.toNat_inj.1
      have h1':¬ x.toNat < y.toNat:=fun h=>h1 (UInt8.lt_iff_toNat_lt.2 h)
      have h2':¬ y.toNat < x.toNat:=fun h=>h2 (UInt8.lt_iff_toNat_lt.2 h)
      omega
     subst this
     simp_all
theorem cmp_eq:∀ a b:List UInt8,(Lib.compareBytes a b=0)↔a=b
 | [],[]=>by simp [Lib.compareBytes]
 | [],_ :: _=>by simp [Lib.compareBytes]
 | _ :: _,[]=>by simp [Lib.compareBytes]
 | x :: a,y :: b=>by
   have ih:=cmp_eq a b
   simp only [Lib.compareBytes]
   split
   ·rename_i h1
    have:¬ x=y:=fun e=>by subst e; exact UInt8.lt_irrefl _ h1
    simp_all
   ·split
    ·rename_i h1 h2
     have:¬ x=y:=fun e=>by subst e; exact h1 h2
     simp_all
    ·rename_i h1 h2
     have:x=y:=by
      apply UInt8.toNat_inj.1
      have h1':¬ x.toNat < y.toNat:=fun h=>h1 (UInt8.lt_iff_toNat_lt.2 h)
      have h2':¬ y.toNat < x.toNat:=fun h=>h2 (UInt8.lt_iff_toNat_lt.2 h)
      omega
     subst this
     simp_all
theorem act_lookAt1 (A':Option Addr) (n' c':Nat) (x p:ByteArray) (r:Bool) (w:World) :
 Calls Tryz.prog 113 #[.agg #[.string x,.bool r,.slice A' n' c'],.string p] w fun e w'=>e=.returned (.int .i64 (Lib.compareBytes x.data.toList p.data.toList))∧Below w.heap.size w w':=by
 go_enter Tryz.func113,Tryz.ntmps113
 go_wp2_with (go_at_call 52; refine (Tryz.strings_Compare _ _ _).mono ?_; rintro e w1 ⟨rfl,rfl⟩)
 go_ret
 exact ⟨rfl,fr_alloc (fr_refl w) _⟩
set_option maxRecDepth 100000 in
theorem bsearch_file (A:Option Addr) (n c:Nat) (l:List FileV) (p:ByteArray) (w:World) (hsl:Sl w (Lt w.heap.size) A n l) (hso:Sorted l) (hn:n≤1000) :
 Calls Tryz.prog 112 #[.slice A n c,.string p,.func (.func 113) #[] #[]] w fun e w' =>
  ∃ (k:Nat) (b:Bool),e=.returned (.tuple #[.int .i64 k,.bool b])∧((b=false∧l.find? (eqp p)=none)∨(b=true∧∃ x,l[k]?=some x∧l.find? (eqp p)=some x))∧Below w.heap.size w w':=by
 go_enter Tryz.func112,Tryz.ntmps112
 go_wp2
 go_loopw [9,10,11] (fun i j _ wr=>∃ lo hi:Nat,i=.int .i64 lo∧j=.int .i64 hi∧lo≤hi∧hi≤n∧Halves l p lo hi∧Below w.heap.size w wr) (fun i j _ _=>(intOf j - intOf i).toNat)
 case atStart=>exact ⟨0,n,rfl,rfl,Nat.zero_le _,Nat.le_refl _,by have:=Halves.start l p; rwa [hsl.1] at this,Below.refl _ _⟩
 case round =>
  obtain ⟨lo,hi,rfl,rfl,h1,h2,hh,hbel⟩:=hrel
  have hsr:=(hsl.keep (keep_lt hbel)).more (lt_mono hbel.size)
  by_cases hlt:lo < hi
  ·obtain ⟨m,hm⟩:∃ m:Nat,(lo + hi) / 2=m:=⟨_,rfl⟩
   have hm1:lo≤m:=by omega
   have hm2:m < hi:=by omega
   have hq:((lo:Int) + (hi:Int)) / 2=(m:Int):=by omega
   have Hm:=Lib.hid hm; clear hm
   obtain ⟨b,o,x,A',n',c',rfl,hb,hx,hs1,hnc,hcm,hsl',c0,c1,c2⟩:=hsr.file (k:=m) (by omega)
   have HX:=Lib.hid hx; clear hx
   have hcl:=cmp_lt x.path.data.toList p.data.toList
   have HC:=Lib.hid (fun W=>act_lookAt1 A' n' c' x.path p x.run W)
   generalize Lib.compareBytes x.path.data.toList p.data.toList=cb at hcl HC
   rw [←Lib.toList_data,←Lib.toList_data] at hcl
   cases hle:ltS x.path p
   ·have HH:=Lib.hid (hh.down hso hm1 hm2 HX.out hle)
    have hcb:0≤cb:=by
     have:¬ cb < 0:=fun h=>by have:=hcl.1 h; rw [show Op.bytesLess x.path.toList p.toList=false from hle] at this; cases this
     omega
    clear hcl
    go_wp2_with (go_at_call 113; refine (HC.out _).mono ?_; rintro e w1 ⟨rfl,hb1⟩)
    go_round
    case rel=>exact ⟨lo,m,rfl,rfl,hm1,by omega,HH.out,fr_call hbel hb1⟩
    case measure=>simp [intOf]; omega
   ·have HH:=Lib.hid (hh.up hso hm1 hm2 HX.out hle)
    have hcb:cb < 0:=hcl.2 hle
    clear hcl
    go_wp2_with (go_at_call 113; refine (HC.out _).mono ?_; rintro e w1 ⟨rfl,hb1⟩)
    go_round
    case rel=>exact ⟨m + 1,hi,by go_num,rfl,by omega,h2,HH.out,fr_call hbel hb1⟩
    case measure=>simp [intOf]; omega
  ·obtain rfl:lo=hi:=by omega
   by_cases hend:lo < n
   ·obtain ⟨b,o,x,A',n',c',rfl,hb,hx,hs1,hnc,hcm,hsl',c0,c1,c2⟩:=hsr.file (k:=lo) hend
    have HX:=Lib.hid hx; clear hx
    have hce:=cmp_eq x.path.data.toList p.data.toList
    have HC:=Lib.hid (fun W=>act_lookAt1 A' n' c' x.path p x.run W)
    generalize Lib.compareBytes x.path.data.toList p.data.toList=cb at hce HC
    rw [←Lib.toList_data,←Lib.toList_data] at hce
    have hg:decide ((lo:Int) < (n:Int))=true:=by simp; omega
    cases heq:(x.path.toList == p.toList)
    ·have HM:=Lib.hid (hh.none hso (fun y hy=>by rw [HX.out] at hy; cases hy; exact heq))
     have hcb:(cb == 0)=false:=by
      rw [beq_eq_false_iff_ne] at heq ⊢
      exact fun h=>heq (hce.1 h)
     clear hce
     go_wp2_with (go_at_call 113; refine (HC.out _).mono ?_; rintro e w1 ⟨rfl,hb1⟩)
     go_ret2
     exact ⟨lo,false,rfl,.inl ⟨rfl,HM.out⟩,fr_call hbel hb1⟩
    ·have HM:=Lib.hid (find_sorted hso HX.out heq)
     have hcb:(cb == 0)=true:=by
      rw [beq_iff_eq] at heq ⊢
      exact hce.2 heq
     clear hce
     go_wp2_with (go_at_call 113; refine (HC.out _).mono ?_; rintro e w1 ⟨rfl,hb1⟩)
     go_ret2
     exact ⟨lo,true,rfl,.inr ⟨rfl,x,HX.out,HM.out⟩,fr_call hbel hb1⟩
   ·have HM:=Lib.hid (hh.none hso (fun y hy=>by have:=(List.getElem?_eq_some_iff.1 hy).1; rw [hsl.1] at this; omega))
    have hg:decide ((lo:Int) < (n:Int))=false:=by simp; omega
    go_wp2
    go_ret2
    exact ⟨lo,false,rfl,.inl ⟨rfl,HM.out⟩,hbel⟩
set_option maxHeartbeats 2000000 in
set_option maxRecDepth 100000 in
theorem act_lookAt (A:Option Addr) (n c:Nat) (l:List FileV) (p:ByteArray) (w:World) (hsl:Sl w (Lt w.heap.size) A n l) (hso:Sorted l) (hn:n≤1000) :
 Calls Tryz.prog 76 #[.slice A n c,.string p] w fun e w'=>e=.returned (.agg #[.string (lookAtS l p).path,.string (lookAtS l p).digest,.bool (lookAtS l p).run])∧Below w.heap.size w w':=by
 go_enter Tryz.func76,Tryz.ntmps76
 go_wp2_with fail
 refine (bsearch_file A n c l p _ ((hsl.keep (keep_lt (fr_alloc (fr_refl w) _))).more (lt_mono (by simp))) hso hn).mono ?_
 rintro e w1 ⟨k,found,rfl,hr,hb1⟩
 have hz1:=grew hb1
 obtain ⟨hc1,hf1⟩:=bcell hb1
 have hbel:=fr_box (fr_refl w) hb1
 rcases hr with ⟨rfl,hr⟩ | ⟨rfl,x,hx,hr⟩
 ·have HR:=Lib.hid (lookAt_none hr); clear hr
  go_wp2
  exact bodyPost_ret (v:=.agg #[.string p,.string ⟨#[]⟩,.bool false]) (by simp [results,Tryz.results76,go_sem, *]) rfl ⟨by rw [HR.out],(by repeat (first | exact hbel | refine Below.drew ?_ | refine fr_alloc ?_ _ | refine fr_set ?_ (by simp) _))⟩
 ·have HR:=Lib.hid (lookAt_some hr); clear hr
  have HX:=Lib.hid hx; clear hx
  have hlen:k < n:=by have:=(List.getElem?_eq_some_iff.1 HX.out).1; rw [hsl.1] at this; exact this
  obtain ⟨b,o,y,A',n',c',rfl,hb,hy,hs1,hnc,hcm,hsl',c0,c1,c2⟩:=((hsl.keep (keep_lt hbel)).more (lt_mono hbel.size)).file hlen
  obtain rfl:y=x:=by rw [HX.out] at hy; cases hy; rfl
  clear hy
  have hlen':(k:Int) < n:=by omega
  have HD:=Lib.hid (fun W (hW:W.heap=w1.heap)=>blob_Digest A' n' c' y.bytes W (by rw [hW]; exact hsl'.keep (fun q _=>by rw [hW])))
  have hbw:b < w1.heap.size:=hb
  have HB:=Lib.hid ((box3_new w (.string ⟨#[]⟩) (.string ⟨#[]⟩) (.bool false) 109).call hb1)
  clear hc1 hf1
  obtain ⟨⟨x0,x1,x2⟩,⟨y0,y1,y2⟩,_⟩:=HB.out
  go_wp2
  go_region_with (go_at_call 73; refine (HD.out _ (by rfl)).mono ?_; rintro e w2 ⟨rfl,hb2⟩; have hb3:=of_drew hb2; have r1:=(hb3.cell (p:=⟨b,o + k * 3 + 1,none⟩) hbw).trans c1; obtain ⟨⟨z0,z1,z2⟩,⟨v0,v1,v2⟩,_⟩:=HB.out.call hb3)
  all_goals
   go_wp2
   exact bodyPost_ret (v:=.agg #[.string p,.string (digestS y.bytes),.bool y.run]) (by simp [results,Tryz.results76,go_sem, *]) rfl ⟨by rw [HR.out],(by repeat (first | exact hbel | exact fr_refl _ | refine fr_call (w:=w1) ?_ (of_drew hb2) | refine Below.drew ?_ | refine fr_alloc ?_ _ | refine fr_set ?_ (by simp) _))⟩
end Go.Proofs.Sm
namespace Go.Proofs.Sm
open Go.RowKit
def lookCells (x:Look):List Value:=[.string x.path,.string x.digest,.bool x.run]
def looksAtS (l:List Look) (files:List FileV):List Look:=l.map fun x=>lookAtS files x.path
theorem digestS_size (l:List UInt8):(digestS l).size=16:=by simp [digestS,ByteArray.size]
theorem lookAtS_path (files:List FileV) (p:ByteArray):(lookAtS files p).path=p:=by unfold lookAtS; split <;> rfl
theorem lookAtS_size (files:List FileV) (p:ByteArray):(lookAtS files p).digest.size≤16:=by
 unfold lookAtS
 split
 ·exact Nat.zero_le _
 ·rw [digestS_size]; exact Nat.le_refl _
theorem look_info:(Tryz.prog.info? 109).map (fun i=>(i.zero,i.size,i.bytes))=some (some (.agg #[.string ⟨#[]⟩,.string ⟨#[]⟩,.bool false]),3,40):=by kernel_rfl
theorem new_cells (w:World) (cs:Array Value) (t:TypeId):∀ (j:Nat) u,cs.toList[j]?=some u→(w.alloc (.cells cs t)).cell? ((⟨w.heap.size,0,none⟩:Addr).add j)=some u:=by
 intro j u hu
 have h0:(w.alloc (.cells cs t)).heap[w.heap.size]?=some (.cells cs t (0,0)):=heap_alloc_new w _
 have e:(⟨w.heap.size,0,none⟩:Addr).add j=⟨w.heap.size,j,none⟩:=by
  unfold Addr.add
  split
  ·simp [*]
  ·simp
 rw [e,World.cell?,h0]
 simpa using hu
theorem oneCell_look (x:Look):∀ u∈lookCells x,u.oneCell'=true:=by
 intro u hu
 simp only [lookCells,List.mem_cons,List.mem_nil_iff,or_false] at hu
 rcases hu with rfl | rfl | rfl <;> rfl
theorem looksAt_own {w:World} {base:Nat} {v:Value} {l:List Look} {files:List FileV} (hl:∀ x∈l,x.path.size≤maxLen) (h:w.ownsRow base 109 3 v l.length ((looksAtS l files).flatMap lookCells)) :
 ∃ A c,v=.slice A l.length c∧l.length≤c∧c≤maxLen∧Sl w (Lt w.heap.size) A l.length (looksAtS l files):=by
 have hlen:(looksAtS l files).length=l.length:=by simp [looksAtS]
 rw [←hlen] at h ⊢
 refine Sl.of_own (α:=Look) (cells:=lookCells) (fun _=>rfl) (fun x hx=>?_) h
 obtain ⟨y,hy,rfl⟩:=List.mem_map.1 hx
 refine ⟨rfl,?_,?_⟩
 ·rw [lookAtS_path]; exact hl y hy
 ·exact Nat.le_trans (lookAtS_size _ _) (by unfold maxLen; decide)
theorem Sl.look_sizes {w:World} {S:Nat→Prop} {A:Option Addr} {n:Nat} {l:List Look} (h:Sl w S A n l):∀ x∈l,x.path.size≤maxLen:=by
 intro x hx
 obtain ⟨k,hk⟩:=List.getElem?_of_mem hx
 have hkn:k < n:=by
  have:=(List.getElem?_eq_some_iff.1 hk).1
  rw [h.1] at this
  exact this
 obtain ⟨_,_,y,_,_,hy,hs,_⟩:=h.look hkn
 rw [hk] at hy
 cases hy
 exact hs
end Go.Proofs.Sm
namespace Go.Proofs.Sm
open Go.RowKit
theorem ret_pair {a b c d:Value} (h1:a=c) (h2:b=d):Ending.returned (.tuple #[a,b])=.returned (.tuple #[c,d]):=by rw [h1,h2]
def looksOfErr (l:List Look) (files:List FileV):Int:=if checkLooksS l≠0 then checkLooksS l else checkFilesS files
def looksOfS (l:List Look) (files:List FileV):List Look:=if looksOfErr l files=0 then looksAtS l files else []
theorem checkLooks_len {l:List Look} (h:checkLooksS l=0):l.length≤4000:=by
 unfold checkLooksS at h
 split at h
 ·omega
 ·omega
theorem checkFiles_len {l:List FileV} (h:checkFilesS l=0):l.length≤1000:=by
 unfold checkFilesS at h
 split at h
 ·omega
 ·omega
theorem checkFiles_sorted {l:List FileV} (h:checkFilesS l=0):Sorted l:=by
 unfold checkFilesS at h
 split at h
 ·omega
 ·split at h
  ·rename_i h1
   exact absurd h h1
  ·rename_i h1
   exact sorted_of (by simpa using h1)
end Go.Proofs.Sm
namespace Go.Proofs.Sm
open Go.RowKit
theorem sl_call {α:Type} [Rep α] {w w':World} {A:Option Addr} {n:Nat} {l:List α} {B:Nat} (h:Sl w (Lt B) A n l) (hb:Below B w w') (hB:B≤w.heap.size):Sl w' (Lt w'.heap.size) A n l :=
 (h.keep (keep_lt hb)).more (lt_mono (Nat.le_trans hB hb.size))
set_option maxHeartbeats 1000000 in
set_option maxRecDepth 100000 in
theorem act_LooksOf (A B:Option Addr) (n c m d:Nat) (l:List Look) (files:List FileV) (w:World) (hE:Env w) (hsl:Sl w (Lt w.heap.size) A n l) (hfs:Sl w (Lt w.heap.size) B m files) :
 Calls Tryz.prog 38 #[.slice A n c,.slice B m d] w fun e w'=>∃ A' n' c',e=.returned (.tuple #[.slice A' n' c',.int .i64 (looksOfErr l files)])∧n'≤c'∧c'≤maxLen∧Sl w' (Lt w'.heap.size) A' n' (looksOfS l files)∧Below w.heap.size w w':=by
 obtain ⟨i0,hi0,hz0,hz1,hz2⟩:=info_parts look_info
 go_enter Tryz.func38,Tryz.ntmps38
 go_wp2_with fail
 refine (act_CheckLooks A n c l w hE hsl).mono ?_
 rintro e w1 ⟨rfl,hb1⟩
 have hE1:=hE.then_ hb1
 have hfs1:=(hfs.keep (keep_lt hb1)).more (lt_mono hb1.size)
 have hsl1:=(hsl.keep (keep_lt hb1)).more (lt_mono hb1.size)
 cases h0:(checkLooksS l == 0)
 ·have hne:checkLooksS l≠0:=by simpa using h0
  have hbn:(checkLooksS l != 0)=true:=by simpa using h0
  have HE:=Lib.hid (show looksOfErr l files=checkLooksS l by rw [looksOfErr,if_pos hne])
  have HN:=Lib.hid hne; clear hne
  go_wp2
  go_ret2
  exact ⟨none,0,0,ret_pair rfl (congrArg (Value.int .i64) HE.out.symm),Nat.le_refl _,Nat.zero_le _,by rw [looksOfS,if_neg (by rw [HE.out]; exact HN.out)]; exact Sl.nil,hb1⟩
 ·have hz:checkLooksS l=0:=by simpa using h0
  have hbn:(checkLooksS l != 0)=false:=by simpa using h0
  have hlen:=checkLooks_len hz
  have HE:=Lib.hid (show looksOfErr l files=checkFilesS files by rw [looksOfErr,if_neg (by rw [hz]; simp)])
  have HZ:=Lib.hid hz; clear hz
  rw [hsl.1] at hlen
  go_wp2_with fail
  refine (blob_CheckFiles B m d files w1 hE1 hfs1).mono ?_
  rintro e w2 ⟨rfl,hb2⟩
  have hfs2:=(hfs1.keep (keep_lt hb2)).more (lt_mono hb2.size)
  have hsl2:=(hsl1.keep (keep_lt hb2)).more (lt_mono hb2.size)
  cases h1:(checkFilesS files == 0)
  ·have hne:checkFilesS files≠0:=by simpa using h1
   have hbn1:(checkFilesS files != 0)=true:=by simpa using h1
   have HN:=Lib.hid hne; clear hne
   go_wp2
   go_ret2
   exact ⟨none,0,0,ret_pair rfl (congrArg (Value.int .i64) HE.out.symm),Nat.le_refl _,Nat.zero_le _,by rw [looksOfS,if_neg (by rw [HE.out]; exact HN.out)]; exact Sl.nil,fr_call hb1 hb2⟩
  ·have hbn1:(checkFilesS files != 0)=false:=by simpa using h1
   have HF:=Lib.hid (show checkFilesS files=0 by simpa using h1)
   have hmlen:=checkFiles_len HF.out
   have hso:=Lib.hid (checkFiles_sorted HF.out)
   rw [hfs.1] at hmlen
   have hbel0:=fr_call hb1 hb2
   go_wp2
   go_loopw [8,23] (fun v i wr=>∃ k:Nat,k≤n∧i=.int .i64 k∧wr.ownsRow w.heap.size 109 3 v k ((looksAtS (l.take k) files).flatMap lookCells)∧Below w.heap.size w wr) (fun _ i _=>n - (intOf i).toNat)
   case atStart=>exact ⟨0,Nat.zero_le _,rfl,World.ownsRow_nil _ _ _ _,hbel0⟩
   case round =>
    clear hb1 hb2 hE1 hfs1 hsl1 hfs2 hsl2 hbel0
    obtain ⟨k,hk,rfl,hown,hbel⟩:=hrel
    have hbs:=hbel.size
    by_cases hlt:k < n
    ·obtain ⟨b,o,x,rfl,hb,hx,hs1,hs2,c0,c1,c2⟩:=(hsl.keep (keep_lt hbel)).look hlt
     have hfr:=sl_call hfs (fr_alloc hbel (.cells #[.string x.path,.string x.digest,.bool x.run] 109)) (Nat.le_refl _)
     have hstep:=Lib.hid (show (looksAtS (l.take k) files).flatMap lookCells ++ lookCells (lookAtS files x.path)=(looksAtS (l.take (k + 1)) files).flatMap lookCells by
      unfold looksAtS; rw [List.take_add_one,hx]; simp)
     clear hx
     go_wp2_with fail
     refine (act_lookAt B m d files x.path _ hfr hso.out hmlen).mono ?_
     rintro e w3 ⟨rfl,hb3⟩
     have hown1:=(ownsRow_call (hown.alloc _) hb3).alloc (.cells #[.string (lookAtS files x.path).path,.string (lookAtS files x.path).digest,.bool (lookAtS files x.path).run] 109)
     have hbel1:=fr_box hbel hb3
     go_wp2_with (at_builtin; refine wpList_append_own _ rfl _ _ 39 rfl w.heap.size 109 i0 _ 3 40 Tryz.underlying39 hi0 hz0 hz1 hz2 rfl (by decide) _ k _ rfl hown1 ⟨w3.heap.size,0,none⟩ 1 1 (lookCells (lookAtS files x.path)) rfl rfl ?c1 ?c2 ?c3 ?c4 ?c5 ?_)
     case c1=>exact new_cells w3 #[_,_,_] _
     case c2=>exact oneCell_look _
     case c3=>unfold maxLen; omega
     case c4=>omega
     case c5=>exact (fr_alloc hbel1 _).size
     intro v' w4 hown' hgrow hnil
     rw [hstep.out] at hown'
     have hbel2:=(fr_alloc hbel1 _).grown hgrow (fr_alloc hbel1 _).size (fun j hj=>(hown.lt j hj).1)
     clear hnil hown1
     go_wp2
     go_round
     case rel=>exact ⟨k + 1,by omega,by go_num,hown',hbel2⟩
     case measure=>simp [intOf]; omega
    ·obtain rfl:k=n:=by omega
     have hkl:=hsl.1
     have hown2:=Lib.hid (looksAt_own (files:=files) hsl.look_sizes (by rw [hkl]; rw [List.take_of_length_le (by omega)] at hown; exact hown))
     have HK:=Lib.hid hkl; clear hkl hown
     go_wp2
     go_ret2
     obtain ⟨A',c',rfl,q1,q2,q3⟩:=hown2.out
     rw [HK.out] at q1 q3 ⊢
     exact ⟨A',_,c',ret_pair rfl (congrArg (Value.int .i64) (HE.out.trans HF.out).symm),q1,q2,by rw [looksOfS,if_pos (by rw [HE.out]; exact HF.out)]; exact q3,hbel⟩
theorem act_Stands (A B:Option Addr) (n c m d:Nat) (l:List Look) (files:List FileV) (w:World) (hE:Env w) (hsl:Sl w (Lt w.heap.size) A n l) (hfs:Sl w (Lt w.heap.size) B m files) :
 Calls Tryz.prog 136 #[.slice A n c,.slice B m d] w fun e w'=>e=.returned (.tuple #[.bool (looksOfErr l files == 0 && sameLooksS l (looksOfS l files)),.int .i64 (looksOfErr l files)])∧Below w.heap.size w w':=by
 go_enter Tryz.func136,Tryz.ntmps136
 go_wp2_with fail
 refine (act_LooksOf A B n c m d l files w hE hsl hfs).mono ?_
 rintro e w1 ⟨A',n',c',rfl,q1,q2,q3,hb1⟩
 have hsl1:=(hsl.keep (keep_lt hb1)).more (lt_mono hb1.size)
 cases h0:(looksOfErr l files == 0)
 ·have hbn:(looksOfErr l files != 0)=true:=by simpa using h0
  have HB:=Lib.hid (show (looksOfErr l files == 0 && sameLooksS l (looksOfS l files))=false by rw [h0]; rfl)
  go_wp2
  go_ret2
  exact ⟨ret_pair (congrArg Value.bool HB.out.symm) rfl,hb1⟩
 ·have hbn:(looksOfErr l files != 0)=false:=by simpa using h0
  have HZ:=Lib.hid (show looksOfErr l files=0 by simpa using h0)
  go_wp2_with (go_at_call 79; refine (slices_EqualLook _ _ _ _ _ _ _ _ _ hsl1 q3).mono ?_; rintro e w2 ⟨rfl,hb2⟩)
  go_ret2
  exact ⟨ret_pair (congrArg Value.bool (by rw [HZ.out]; rfl)) rfl,fr_call hb1 hb2⟩
end Go.Proofs.Sm
