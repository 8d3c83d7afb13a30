/- Words and walks that the claims share, part 6. -/
import Derived.Test.YtaabdbephemboaaGreatDoorBx5
import Derived.Lib.ItoaLen
import Derived.Shelf.GgClosure.StringsIndexFunc
import Derived.Lib.Atoi
import Derived.Lib.AtoiErrMem
import Derived.Shelf.Strings.FuncGrows
namespace Go.Proofs.Sm
open Go.RowKit
structure ResultV where
 code:Int
 text:ByteArray
 files:List FileV
 looks:List Look
 command:Int
def textI (c:Int):Bool:=c == 10 || (decide (32≤c) && decide (c≤126))
def textB (c:UInt8):Bool:=textI (c.toNat:Int)
def endsS (l:List UInt8):Bool:=l.isEmpty || l.getLast? == some 10
def isTextS (s:ByteArray):Bool:=s.data.toList.all textB && endsS s.data.toList
theorem decode_small {s:ByteArray} {i:Nat} (h:(s.get! i).toNat < 128):Utf8.decode s i=((s.get! i).toNat,1):=by
 have h':(s.get! (i + 0)).toNat < 0x80:=h
 simp only [Utf8.decode,if_pos h']
 rfl
theorem decode_big {s:ByteArray} {i:Nat} (h:128≤(s.get! i).toNat):128≤(Utf8.decode s i).1:=by
 have h':¬ (s.get! (i + 0)).toNat < 0x80:=by
  show ¬ (s.get! i).toNat < 128
  omega
 simp only [Utf8.decode,if_neg h']
 repeat' split
 all_goals (first | (unfold Utf8.runeError; omega) | omega | (simp only [Bool.and_eq_true,decide_eq_true_eq,ge_iff_le] at *; omega))
theorem idxFuncFrom_bytes (p:Nat→Bool) (hp:∀ x,127≤x→p x=true) (s:ByteArray):∀ (f pos:Nat),s.size≤pos + f→decide (0≤Lib.idxFuncFrom p true s f pos)=(s.data.toList.drop pos).any (fun c=>p c.toNat)
 | 0,pos,h=>by
   rw [List.drop_eq_nil_of_le (by simp; exact h)]
   simp [Lib.idxFuncFrom]
 | f + 1,pos,h=>by
   rw [Lib.idxFuncFrom]
   by_cases hlt:pos < s.size
   ·rw [if_pos hlt]
    have hlt':pos < s.data.toList.length:=by simpa using hlt
    rw [List.drop_eq_getElem_cons hlt',List.any_cons]
    have hg:s.get! pos=s.data.toList[pos]:=by
     show s.data[pos]! = _
     rw [getElem!_pos s.data pos (by simpa using hlt)]
     simp
    by_cases h128:(s.get! pos).toNat < 128
    ·rw [decode_small h128,hg]
     cases hq:p s.data.toList[pos].toNat
     ·simp only [Bool.false_eq_true,if_false,Bool.false_or]
      exact idxFuncFrom_bytes p hp s f (pos + 1) (by omega)
     ·simp
    ·have h2:=decode_big (s:=s) (i:=pos) (by omega)
     rw [hp _ (by omega),if_pos rfl,←hg,hp _ (by omega)]
     simp
   ·rw [if_neg hlt,List.drop_eq_nil_of_le (by simp; omega)]
    simp
theorem idxFunc_bytes (p:Nat→Bool) (hp:∀ x,127≤x→p x=true) (s:ByteArray):decide (0≤Lib.idxFunc p true s)=s.data.toList.any (fun c=>p c.toNat) :=
 idxFuncFrom_bytes p hp s s.size 0 (by omega)
def untold (x:Nat):Bool:=!(textI (x:Int))
theorem untold_big (x:Nat) (h:127≤x):untold x=true:=by
 simp only [untold,textI,Bool.not_eq_true',Bool.or_eq_false_iff,beq_eq_false_iff_ne,Bool.and_eq_false_iff,decide_eq_false_iff_not]
 omega
theorem untold_any (s:ByteArray):decide (0≤Lib.idxFunc untold true s)=!(s.data.toList.all textB):=by
 rw [idxFunc_bytes untold untold_big,List.not_all_eq_any_not]
 rfl
theorem ends_suffix (l:List UInt8) (h:l≠[]):Lib.hasSuffix l [10]=endsS l:=by
 unfold Lib.hasSuffix endsS
 rw [Bool.eq_iff_iff,List.isSuffixOf_iff_suffix]
 rcases List.eq_nil_or_concat l with rfl | ⟨l',x,rfl⟩
 ·exact absurd rfl h
 ·rw [List.concat_eq_append,List.getLast?_append]
  simp only [List.getLast?_singleton,Option.some_or,Bool.or_eq_true,List.isEmpty_iff,List.append_eq_nil_iff,List.cons_ne_self,and_false,false_or,beq_iff_eq,Option.some.injEq]
  constructor
  ·rintro ⟨q,hq⟩
   have:=List.append_inj_right' hq rfl
   simp at this
   exact this.symm
  ·rintro rfl
   exact ⟨l',rfl⟩
def checkResultS (r:ResultV):Int :=
 if (withinB r.code 0 999999 && withinB r.command 0 50)=false then 1
 else if 100000 < (r.text.size:Int) then 2
 else if isTextS r.text=false then 3
 else if checkFilesS r.files≠0 then checkFilesS r.files
 else if (!r.files.isEmpty && r.code != 0)=true then 3
 else checkLooksS r.looks
end Go.Proofs.Sm
namespace Go.Proofs.Sm
open Go.RowKit
structure VarV where
 name:ByteArray
 value:ByteArray
structure ActionV where
 tool:ByteArray
 commands:List (List ByteArray)
 vars:List VarV
 outputs:List ByteArray
 needs:List VarV
 time:Int
instance:Rep VarV where
 sz:=2
 rep _ _ x vs:=vs=[.string x.name,.string x.value]∧x.name.size≤maxLen∧x.value.size≤maxLen
 len h:=by rw [h.1]; rfl
 keep _ h:=h
 more _ h:=h
theorem Sl.var {w:World} {S:Nat→Prop} {A:Option Addr} {n k:Nat} {l:List VarV} (h:Sl w S A n l) (hk:k < n) :
 ∃ b o x,A=some ⟨b,o,none⟩∧S b∧l[k]?=some x∧x.name.size≤maxLen∧x.value.size≤maxLen ∧
  w.cell? ⟨b,o + k * 2,none⟩=some (.string x.name)∧w.cell? ⟨b,o + k * 2 + 1,none⟩=some (.string x.value):=by
 have hk':k < l.length:=by rw [h.1]; exact hk
 obtain ⟨b,o,vs,e,hb,⟨rfl,h1,h2⟩,ha⟩:=h.at hk'
 exact ⟨b,o,_,e,hb,List.getElem?_eq_getElem hk',h1,h2,ha 0 _ rfl,ha 1 _ rfl⟩
theorem Sl.row {α:Type} [Rep α] {w:World} {S:Nat→Prop} {A:Option Addr} {n k:Nat} {l:List (List α)} (h:Sl w S A n l) (hk:k < n) :
 ∃ b o x A' n' c',A=some ⟨b,o,none⟩∧S b∧l[k]?=some x∧n'≤c'∧c'≤maxLen∧Sl w S A' n' x∧w.cell? ⟨b,o + k,none⟩=some (.slice A' n' c'):=by
 have hk':k < l.length:=by rw [h.1]; exact hk
 obtain ⟨b,o,vs,e,hb,⟨A',n',c',rfl,h2,h3,h4⟩,ha⟩:=h.at hk'
 have h0:=ha 0 _ rfl
 simp only [Rep.sz,Nat.mul_one,Nat.add_zero] at h0
 exact ⟨b,o,_,A',n',c',e,hb,List.getElem?_eq_getElem hk',h2,h3,h4,h0⟩
def listErr {α:Type} (err:Option ByteArray→α→Int) (key:α→ByteArray):Option ByteArray→List α→Int
 | _,[]=>0
 | prev,x :: r=>if err prev x=0 then listErr err key (some (key x)) r else err prev x
theorem list_round {α:Type} {err:Option ByteArray→α→Int} {key:α→ByteArray} {l:List α} {k:Nat} {x:α} (hx:l[k]?=some x) (h:err (ahead key l k) x=0) :
 listErr err key (ahead key l k) (l.drop k)=listErr err key (ahead key l (k + 1)) (l.drop (k + 1)):=by
 rw [drop_at hx,listErr,if_pos h,ahead_succ hx]
theorem list_stop {α:Type} {err:Option ByteArray→α→Int} {key:α→ByteArray} {l:List α} {k:Nat} {x:α} {e:Int} (hx:l[k]?=some x) (h:err (ahead key l k) x=e) (he:e≠0) :
 listErr err key (ahead key l k) (l.drop k)=e:=by
 rw [drop_at hx,listErr,if_neg (by rw [h]; exact he),h]
theorem list_end {α:Type} {err:Option ByteArray→α→Int} {key:α→ByteArray} {l:List α} {k:Nat} (hk:l.length≤k):listErr err key (ahead key l k) (l.drop k)=0:=by
 rw [List.drop_eq_nil_of_le hk]; rfl
def bytesInB (lo hi:Int) (c:UInt8):Bool:=decide (lo≤(c.toNat:Int)) && decide ((c.toNat:Int)≤hi)
def isWordS (s:ByteArray):Bool:=s.data.toList.all (bytesInB 33 126) && withinB s.size 1 300
def leadOk (l:List UInt8):Bool:=!(l.head? == some 48) || l == [48]
def isNumberS (s:ByteArray) (most:Int):Bool:=withinB s.size 1 most && s.data.toList.all digitB && leadOk s.data.toList
def smallI (c:Int):Bool:=97≤c && c≤122
def nameI (c:Int):Bool:=smallI c || digitI c || c == 95
def nameB (c:UInt8):Bool:=nameI (c.toNat:Int)
def langWords:List (List UInt8):=[[109,97,99,114,111],[102,111,114],[105,110],[105,102],[101,108,115,101],[117,115,101],[102,105,108,101,115],[99,104,111,111,115,101]]
def isNameS (s:ByteArray):Bool:=withinB s.size 1 40 && (match s.data.toList with | []=>false | c :: _=>smallI (c.toNat:Int)) && s.data.toList.all nameB && !(langWords.contains s.data.toList)
def formS (w:List UInt8):Option (List UInt8 × Bool) :=
 if w=[106,111,105,110] then some ([112,112],true)
 else if w=[115,111,114,116]∨w=[99,111,117,110,116]∨w=[101,120,112,97,110,100]∨w=[109,97,107,101]∨w=[100,105,103,101,115,116]∨w=[108,105,115,116]∨w=[115,97,109,101] then some ([112,112],false)
 else if w=[102,105,114,115,116] then some ([112,110,112],false)
 else if w=[99,104,97,110,103,101] then some ([112,119,119,112],false)
 else if w=[112,105,99,107] then some ([112,112,112],true)
 else if w=[118,97,114] then some ([112,119],false)
 else if w=[116,101,108,108] then some ([119],true)
 else if w=[110,101,101,100] then some ([112],false)
 else if w=[102,97,105,108] then some ([110],false)
 else none
def fitsS (k:UInt8) (s:ByteArray):Bool:=if k=112 then isPathS s else if k=110 then isNumberS s 6 else true
def wordsFit (kinds:List UInt8):Nat→List ByteArray→Bool
 | _,[]=>true
 | i,s :: r=>fitsS (kinds.getD (min i (kinds.length - 1)) 0) s && wordsFit kinds (i + 1) r
def hasFormS (words:List ByteArray) (kinds:List UInt8) (more:Bool):Bool :=
 decide (kinds.length≤words.length) && (decide (words.length≤kinds.length) || more) && wordsFit kinds 0 words
def checkCommandS (c:List ByteArray):Int :=
 if 50 < (c.length:Int) then 2
 else match c with
 | []=>9
 | c0 :: words =>
   if c.all isWordS=false then 3
   else match formS c0.data.toList with
    | none=>4
    | some (kinds,more)=>if hasFormS words kinds more=false then 3 else if (c0.data.toList == [102,97,105,108] && (words.head?.map fun s=>s.data.toList) == some [48])=true then 3 else 0
def commandsErr:List (List ByteArray)→Int
 | []=>0
 | c :: r=>if checkCommandS c=0 then commandsErr r else checkCommandS c
def varErr (prev:Option ByteArray) (v:VarV):Int :=
 if isNameS v.name=false then 5 else if (decide (300 < (v.value.size:Int)) || !(v.value.data.toList.all (bytesInB 32 126)))=true then 3 else if notAfter prev v.name then 8 else 0
def checkVarsS (l:List VarV):Int:=if 30 < (l.length:Int) then 2 else listErr varErr VarV.name none l
def outErr (prev:Option ByteArray) (p:ByteArray):Int:=if isPathS p=false then 3 else if notAfter prev p then 8 else 0
def liesS (p q:ByteArray):Bool:=Lib.hasPrefix p.data.toList (q.data.toList ++ [47])
def checkOutputsS (l:List ByteArray):Int :=
 if l.length=0 then 9 else if 100 < (l.length:Int) then 2 else if listErr outErr id none l≠0 then listErr outErr id none l else if l.any (fun p=>l.any fun q=>liesS p q) then 12 else 0
def checkActionS (a:ActionV):Int :=
 if isDigestS a.tool=false then 3
 else if a.commands.length=0 then 9
 else if 50 < (a.commands.length:Int) then 2
 else if commandsErr a.commands≠0 then commandsErr a.commands
 else if checkVarsS a.vars≠0 then checkVarsS a.vars
 else if checkOutputsS a.outputs≠0 then checkOutputsS a.outputs
 else if checkVarsS a.needs≠0 then checkVarsS a.needs
 else if withinB a.time 1 100000=false then 1
 else 0
end Go.Proofs.Sm
namespace Go.Proofs.Sm
open Go.RowKit
def eqS (s x:ByteArray):Bool:=x.toList == s.toList
set_option maxRecDepth 100000 in
theorem slices_IndexStr (A:Option Addr) (n c:Nat) (l:List ByteArray) (s:ByteArray) (w:World) (hsl:Sl w (Lt w.heap.size) A n l) :
 Calls Tryz.prog 33 #[.slice A n c,.string s] w fun e w'=>∃ r:Int,e=.returned (.int .i64 r)∧decide (0≤r)=l.any (eqS s)∧w=w':=by
 have hm:n≤9223372036854775807:=hsl.2.1
 go_enter Tryz.func33,Tryz.ntmps33
 go_wp2
 go_loop [5,8] (fun _ i=>∃ k:Nat,k≤n∧i=.int .i64 k∧(l.take k).any (eqS s)=false) (fun _ i=>n - (intOf i).toNat)
 case atStart=>exact ⟨0,Nat.zero_le _,rfl,rfl⟩
 case round =>
  obtain ⟨k,hk,rfl,hall⟩:=hrel
  have H:=Lib.hid hall; clear hall
  by_cases hlt:k < n
  ·obtain ⟨b,o,x,rfl,hb,hx,hxs,c0⟩:=hsl.str hlt
   have Hx:=Lib.hid hx; clear hx
   cases hq:(s.toList == x.toList)
   ·have hq2:(x.toList == s.toList)=false:=by rw [beq_eq_false_iff_ne] at *; exact fun e=>hq e.symm
    have HS:=Lib.hid (any_step (p:=eqS s) Hx.out H.out hq2)
    go_wp2
    go_round
    case rel=>exact ⟨k + 1,by omega,by go_num,HS.out⟩
    case measure=>simp [intOf]; omega
   ·have hq2:(x.toList == s.toList)=true:=by rw [beq_iff_eq] at *; exact hq.symm
    have HS:=Lib.hid (any_yes (p:=eqS s) Hx.out hq2)
    go_wp2
    go_ret
    exact ⟨k,rfl,by rw [HS.out]; simp,rfl⟩
  ·have HS:=Lib.hid (any_end (by rw [hsl.1]; omega) H.out)
   go_wp2
   go_ret
   exact ⟨-1,rfl,by rw [HS.out]; rfl,rfl⟩
theorem slices_ContainsStr (A:Option Addr) (n c:Nat) (l:List ByteArray) (s:ByteArray) (w:World) (hsl:Sl w (Lt w.heap.size) A n l) :
 Calls Tryz.prog 20 #[.slice A n c,.string s] w fun e w'=>e=.returned (.bool (l.any (eqS s)))∧w=w':=by
 go_enter Tryz.func20,Tryz.ntmps20
 go_wp2_with (go_at_call 33; refine (slices_IndexStr A n c l s _ hsl).mono ?_; rintro e w1 ⟨r,rfl,hr,rfl⟩; have HR:=Lib.hid hr; clear hr)
 go_ret
 exact ⟨ret_bool HR.out,rfl⟩
set_option maxRecDepth 100000 in
theorem slices_IndexFunc0 (g:Nat) (eg:∀ args w,(callFunc g args).run Tryz.prog w=.ok (.enter g args) w) (p:ByteArray→Bool) (A:Option Addr) (n c:Nat) (l:List ByteArray) (w:World) (hsl:Sl w (Lt w.heap.size) A n l)
 (hp:∀ W x,Below w.heap.size w W→x.size≤maxLen→x∈l→Calls Tryz.prog g #[.string x] W fun e w'=>e=.returned (.bool (p x))∧Below W.heap.size W w') :
 Calls Tryz.prog 83 #[.slice A n c,.func (.func g) #[] #[]] w fun e w'=>∃ r:Int,e=.returned (.int .i64 r)∧decide (0≤r)=l.any p∧Below w.heap.size w w':=by
 have hm:n≤9223372036854775807:=hsl.2.1
 have HP:=Lib.hid hp; clear hp
 go_enter Tryz.func83,Tryz.ntmps83
 go_wp2
 go_loopw [5,8] (fun _ i wr=>∃ k:Nat,k≤n∧i=.int .i64 k∧(l.take k).any p=false∧Below w.heap.size w wr) (fun _ i _=>n - (intOf i).toNat)
 case atStart=>exact ⟨0,Nat.zero_le _,rfl,rfl,Below.refl _ _⟩
 case round =>
  obtain ⟨k,hk,rfl,hall,hbel⟩:=hrel
  have H:=Lib.hid hall; clear hall
  by_cases hlt:k < n
  ·obtain ⟨b,o,x,rfl,hb,hx,hxs,c0⟩:=(hsl.keep (keep_lt hbel)).str hlt
   have Hx:=Lib.hid hx; clear hx
   cases hq:p x
   ·have HS:=Lib.hid (any_step (p:=p) Hx.out H.out hq)
    go_wp2_with fail
    refine (HP.out wr x hbel hxs (List.mem_of_getElem? Hx.out)).mono ?_
    rintro e w1 ⟨rfl,hb1⟩
    go_wp2
    go_round
    case rel=>exact ⟨k + 1,by omega,by go_num,HS.out,fr_call hbel hb1⟩
    case measure=>simp [intOf]; omega
   ·have HS:=Lib.hid (any_yes (p:=p) Hx.out hq)
    go_wp2_with fail
    refine (HP.out wr x hbel hxs (List.mem_of_getElem? Hx.out)).mono ?_
    rintro e w1 ⟨rfl,hb1⟩
    go_wp2
    go_ret
    exact ⟨k,rfl,by rw [HS.out]; simp,fr_call hbel hb1⟩
  ·have HS:=Lib.hid (any_end (by rw [hsl.1]; omega) H.out)
   go_wp2
   go_ret
   exact ⟨-1,rfl,by rw [HS.out]; rfl,hbel⟩
set_option maxRecDepth 100000 in
theorem slices_IndexFunc1 (g:Nat) (eg:∀ args w,(callFunc g args).run Tryz.prog w=.ok (.enter g args) w) (v:Value) (p:ByteArray→Bool) (A:Option Addr) (n c:Nat) (l:List ByteArray) (w:World) (hsl:Sl w (Lt w.heap.size) A n l)
 (hp:∀ W x,Below w.heap.size w W→x.size≤maxLen→x∈l→Calls Tryz.prog g #[.string x,v] W fun e w'=>e=.returned (.bool (p x))∧Below W.heap.size W w') :
 Calls Tryz.prog 83 #[.slice A n c,.func (.func g) #[] #[v]] w fun e w'=>∃ r:Int,e=.returned (.int .i64 r)∧decide (0≤r)=l.any p∧Below w.heap.size w w':=by
 have hm:n≤9223372036854775807:=hsl.2.1
 have HP:=Lib.hid hp; clear hp
 go_enter Tryz.func83,Tryz.ntmps83
 go_wp2
 go_loopw [5,8] (fun _ i wr=>∃ k:Nat,k≤n∧i=.int .i64 k∧(l.take k).any p=false∧Below w.heap.size w wr) (fun _ i _=>n - (intOf i).toNat)
 case atStart=>exact ⟨0,Nat.zero_le _,rfl,rfl,Below.refl _ _⟩
 case round =>
  obtain ⟨k,hk,rfl,hall,hbel⟩:=hrel
  have H:=Lib.hid hall; clear hall
  by_cases hlt:k < n
  ·obtain ⟨b,o,x,rfl,hb,hx,hxs,c0⟩:=(hsl.keep (keep_lt hbel)).str hlt
   have Hx:=Lib.hid hx; clear hx
   cases hq:p x
   ·have HS:=Lib.hid (any_step (p:=p) Hx.out H.out hq)
    go_wp2_with fail
    refine (HP.out wr x hbel hxs (List.mem_of_getElem? Hx.out)).mono ?_
    rintro e w1 ⟨rfl,hb1⟩
    go_wp2
    go_round
    case rel=>exact ⟨k + 1,by omega,by go_num,HS.out,fr_call hbel hb1⟩
    case measure=>simp [intOf]; omega
   ·have HS:=Lib.hid (any_yes (p:=p) Hx.out hq)
    go_wp2_with fail
    refine (HP.out wr x hbel hxs (List.mem_of_getElem? Hx.out)).mono ?_
    rintro e w1 ⟨rfl,hb1⟩
    go_wp2
    go_ret
    exact ⟨k,rfl,by rw [HS.out]; simp,fr_call hbel hb1⟩
  ·have HS:=Lib.hid (any_end (by rw [hsl.1]; omega) H.out)
   go_wp2
   go_ret
   exact ⟨-1,rfl,by rw [HS.out]; rfl,hbel⟩
theorem slices_ContainsFunc0 (g:Nat) (eg:∀ args w,(callFunc g args).run Tryz.prog w=.ok (.enter g args) w) (p:ByteArray→Bool) (A:Option Addr) (n c:Nat) (l:List ByteArray) (w:World) (hsl:Sl w (Lt w.heap.size) A n l)
 (hp:∀ W x,Below w.heap.size w W→x.size≤maxLen→x∈l→Calls Tryz.prog g #[.string x] W fun e w'=>e=.returned (.bool (p x))∧Below W.heap.size W w') :
 Calls Tryz.prog 46 #[.slice A n c,.func (.func g) #[] #[]] w fun e w'=>e=.returned (.bool (l.any p))∧Below w.heap.size w w':=by
 have HC:=Lib.hid (slices_IndexFunc0 g eg p A n c l w hsl hp)
 clear hp eg
 go_enter Tryz.func46,Tryz.ntmps46
 go_wp2_with (go_at_call 83; refine HC.out.mono ?_; rintro e w1 ⟨r,rfl,hr,hb1⟩; have HR:=Lib.hid hr; clear hr)
 go_ret
 exact ⟨ret_bool HR.out,hb1⟩
theorem slices_ContainsFunc1 (g:Nat) (eg:∀ args w,(callFunc g args).run Tryz.prog w=.ok (.enter g args) w) (v:Value) (p:ByteArray→Bool) (A:Option Addr) (n c:Nat) (l:List ByteArray) (w:World) (hsl:Sl w (Lt w.heap.size) A n l)
 (hp:∀ W x,Below w.heap.size w W→x.size≤maxLen→x∈l→Calls Tryz.prog g #[.string x,v] W fun e w'=>e=.returned (.bool (p x))∧Below W.heap.size W w') :
 Calls Tryz.prog 46 #[.slice A n c,.func (.func g) #[] #[v]] w fun e w'=>e=.returned (.bool (l.any p))∧Below w.heap.size w w':=by
 have HC:=Lib.hid (slices_IndexFunc1 g eg v p A n c l w hsl hp)
 clear hp eg
 go_enter Tryz.func46,Tryz.ntmps46
 go_wp2_with (go_at_call 83; refine HC.out.mono ?_; rintro e w1 ⟨r,rfl,hr,hb1⟩; have HR:=Lib.hid hr; clear hr)
 go_ret
 exact ⟨ret_bool HR.out,hb1⟩
end Go.Proofs.Sm
namespace Go.Proofs.Sm
open Go.RowKit
def firstSmall (l:List UInt8):Bool:=match l with | []=>false | c :: _=>smallI (c.toNat:Int)
theorem isNameS_eq (s:ByteArray):isNameS s=(withinB s.size 1 40 && firstSmall s.data.toList && s.data.toList.all nameB && !(langWords.contains s.data.toList)):=rfl
theorem byte_at (s:ByteArray) (k:Nat) (h:k < s.size):s.data.toList[k]?=some s[k]:=by
 rw [Array.getElem?_toList]
 exact Array.getElem?_eq_getElem h
theorem firstSmall_at (s:ByteArray) (h:0 < s.size):firstSmall s.data.toList=smallI (s[0].toNat:Int):=by
 have h1:=byte_at s 0 h
 cases hl:s.data.toList with
 | nil=>rw [hl] at h1; cases h1
 | cons a l=>rw [hl] at h1; cases h1; rfl
def numS (s:ByteArray):Nat:=(Lib.decNat s.data.toList).getD 0
theorem decFrom_some:∀ (l:List UInt8) (acc:Nat),l.all digitB=true→∃ n,Lib.decFrom acc l=some n∧n < (acc + 1) * 10 ^ l.length
 | [],acc,_=>⟨acc,rfl,by simp⟩
 | c :: l,acc,h=>by
   rw [List.all_cons,Bool.and_eq_true] at h
   have hc:48≤c.toNat∧c.toNat≤57:=by
    have:=h.1
    simp [digitB,digitI] at this
    omega
   obtain ⟨n,h1,h2⟩:=decFrom_some l (acc * 10 + (c.toNat - 48)) h.2
   refine ⟨n,?_,?_⟩
   ·rw [Lib.decFrom,Lib.digitVal,if_pos hc]
    exact h1
   ·refine Nat.lt_of_lt_of_le h2 ?_
    rw [List.length_cons,Nat.pow_succ,←Nat.mul_assoc,Nat.mul_right_comm]
    exact Nat.mul_le_mul_right _ (by omega)
theorem number_some {s:ByteArray} {m:Int} (h:isNumberS s m=true):Lib.decNat s.data.toList=some (numS s)∧numS s < 10 ^ s.size∧s.size≤m.toNat∧1≤s.size:=by
 simp only [isNumberS,Bool.and_eq_true] at h
 have h1:=withinB_true h.1.1
 obtain ⟨n,h2,h3⟩:=decFrom_some s.data.toList 0 h.1.2
 have hne:s.data.toList.isEmpty=false:=by
  rw [List.isEmpty_eq_false_iff]
  intro e
  have:=congrArg List.length e
  simp at this
  have:s.size=0:=by simp [ByteArray.size,this]
  omega
 have h4:Lib.decNat s.data.toList=some n:=by rw [Lib.decNat,hne]; exact h2
 have h5:s.data.toList.length=s.size:=by simp
 refine ⟨by rw [numS,h4]; rfl,by rw [numS,h4]; simpa [h5] using h3,by omega,by omega⟩
theorem number_atoi {s:ByteArray} {m:Int} (h:isNumberS s m=true):Lib.atoi s.data.toList=some ((numS s:Nat):Int):=by
 have h1:=(number_some h).1
 simp only [isNumberS,Bool.and_eq_true] at h
 cases hl:s.data.toList with
 | nil=>rw [hl,Lib.decNat] at h1; cases h1
 | cons b r =>
   have hb:digitB b=true:=by
    have:=h.1.2
    rw [hl,List.all_cons,Bool.and_eq_true] at this
    exact this.1
   have hb1:(b == 45)=false:=by
    rw [beq_eq_false_iff_ne]
    intro e; subst e; revert hb; decide
   have hb2:(b == 43)=false:=by
    rw [beq_eq_false_iff_ne]
    intro e; subst e; revert hb; decide
   rw [Lib.atoi,hb1,hb2,←hl,h1]
   rfl
theorem leadOk_two {s:ByteArray} (h:1 < s.size):leadOk s.data.toList=!(((s[0]'(by omega)).toNat:Int) == 48):=by
 have h1:=byte_at s 0 (by omega)
 have h2:s.data.toList.length=s.size:=by simp
 cases hl:s.data.toList with
 | nil=>rw [hl] at h1; cases h1
 | cons a l =>
   rw [hl] at h1 h2
   cases h1
   have hne:((s[0]'(by omega)) :: l == [48])=false:=by
    cases l with
    | nil=>simp at h2; omega
    | cons c l=>simp
   rw [leadOk,hne,Bool.or_false,List.head?_cons,Bool.eq_iff_iff]
   simp only [Bool.not_eq_true',beq_eq_false_iff_ne,ne_eq,Option.some.injEq]
   have e48:(48:UInt8).toNat=48:=rfl
   constructor
   ·intro hh e; exact hh (UInt8.toNat_inj.1 (by omega))
   ·intro hh e; rw [e] at hh; exact hh rfl
theorem leadOk_one {s:ByteArray} (h:s.size=1):leadOk s.data.toList=true:=by
 have h2:s.data.toList.length=s.size:=by simp
 cases hl:s.data.toList with
 | nil=>rfl
 | cons a l =>
   rw [hl,h] at h2
   have:l=[]:=List.eq_nil_of_length_eq_zero (by simpa using h2)
   subst this
   unfold leadOk
   rw [List.head?_cons]
   by_cases ha:a=48
   ·subst ha; rfl
   ·have:(some a == some (48:UInt8))=false:=by simpa using ha
    rw [this]; rfl
end Go.Proofs.Sm
namespace Go.Proofs.Sm
open Go.RowKit
theorem script_isSmall (c:Int) (w:World):Calls Tryz.prog 211 #[.int .u8 c] w fun e w'=>e=.returned (.bool (smallI c))∧w=w':=by
 go_enter Tryz.func211,Tryz.ntmps211
 go_wp2
 all_goals (go_ret; refine ⟨ret_bool ?_,rfl⟩; rw [Bool.eq_iff_iff]; simp [smallI] <;> omega)
theorem script_isDigit (c:Int) (w:World):Calls Tryz.prog 212 #[.int .u8 c] w fun e w'=>e=.returned (.bool (digitI c))∧w=w':=by
 go_enter Tryz.func212,Tryz.ntmps212
 go_wp2
 all_goals (go_ret; refine ⟨ret_bool ?_,rfl⟩; rw [Bool.eq_iff_iff]; simp [digitI] <;> omega)
def wordsL:List ByteArray:=langWords.map fun l=>⟨l.toArray⟩
theorem script_words (w:World):Calls Tryz.prog 213 #[] w fun e w'=>∃ A,e=.returned (.slice A 8 8)∧Sl w' (Lt w'.heap.size) A 8 wordsL∧Below w.heap.size w w':=by
 go_enter Tryz.func213,Tryz.ntmps213
 go_wp2
 go_ret
 refine ⟨_,rfl,?_,(by repeat (first | exact fr_refl _ | refine fr_call ?_ (by assumption) | refine fr_alloc ?_ _ | refine fr_set ?_ (by simp) _ | refine Below.drew ?_ | refine below_drewN ?_ _))⟩
 have h:=Sl.new_strs (w:=w) (t:=9) (l:=wordsL) (by unfold maxLen; decide) (fun x hx=>by
  have:∀ y∈wordsL,y.size≤40:=by decide
  have:=this x hx
  unfold maxLen; omega)
 have hz:∀ o,(w.alloc o).heap.size=w.heap.size + 1:=fun o=>by simp
 rw [hz]
 exact h
theorem words_any (s:ByteArray):wordsL.any (eqS s)=langWords.contains s.data.toList:=by
 rw [Bool.eq_iff_iff,List.any_eq_true,List.contains_iff_mem]
 simp only [wordsL,List.mem_map,eqS,beq_iff_eq]
 constructor
 ·rintro ⟨x,⟨l,hl,rfl⟩,h⟩
  rw [Lib.toList_data,Lib.toList_data] at h
  rw [←h]
  simpa using hl
 ·intro h
  exact ⟨_,⟨_,h,rfl⟩,by rw [Lib.toList_data]⟩
set_option maxRecDepth 100000 in
theorem script_IsName (s:ByteArray) (w:World) (hs:s.size≤maxLen):Calls Tryz.prog 170 #[.string s] w fun e w'=>e=.returned (.bool (isNameS s))∧Below w.heap.size w w':=by
 have hm:s.size≤9223372036854775807:=hs
 have Hd:=Lib.hid (isNameS_eq s)
 cases hw:withinB s.size 1 40
 ·have HV:=Lib.hid (show isNameS s=false by rw [Hd.out,hw]; rfl)
  have h1:(s.size:Int) < 1∨(40:Int) < s.size:=withinB_false hw
  clear hw
  go_enter Tryz.func170,Tryz.ntmps170
  go_wp2
  all_goals first
   | (exfalso; omega)
   | (go_ret; exact ⟨ret_bool HV.out.symm,Below.refl _ _⟩)
 ·have h1:=withinB_true hw
  have h0:0 < s.size:=by omega
  have HF:=Lib.hid (firstSmall_at s h0)
  have HW:=Lib.hid hw; clear hw
  cases hf:smallI (s[0].toNat:Int)
  ·have HV:=Lib.hid (show isNameS s=false by rw [Hd.out,HW.out,HF.out,hf]; rfl)
   go_enter Tryz.func170,Tryz.ntmps170
   go_wp2_with (first | (go_at_call 211; refine (script_isSmall _ _).mono ?_; rintro e w1 ⟨rfl,rfl⟩))
   go_ret; exact ⟨ret_bool HV.out.symm,Below.refl _ _⟩
  ·have HF2:=Lib.hid (show firstSmall s.data.toList=true by rw [HF.out,hf])
   go_enter Tryz.func170,Tryz.ntmps170
   go_wp2_with (first | (go_at_call 211; refine (script_isSmall _ _).mono ?_; rintro e w1 ⟨rfl,rfl⟩))
   go_loop [3,20] (fun _ i=>∃ k:Nat,k≤s.size∧i=.int .i64 k∧(s.data.toList.take k).all nameB=true) (fun _ i=>s.size - (intOf i).toNat)
   case atStart=>exact ⟨0,Nat.zero_le _,rfl,rfl⟩
   case round =>
    clear hf
    obtain ⟨k,hk,rfl,hall⟩:=hrel
    have H:=Lib.hid hall; clear hall
    by_cases hlt:k < s.size
    ·cases g1:smallI (s[k].toNat:Int) <;> cases g2:digitI (s[k].toNat:Int) <;> cases g3:((s[k].toNat:Int) == 95)
     all_goals
      have HN:Hid (nameB s[k]=(smallI (s[k].toNat:Int) || digitI (s[k].toNat:Int) || ((s[k].toNat:Int) == 95))):=Lib.hid rfl
      rw [g1,g2,g3] at HN
      have g4:((s[k].toNat:Int) != 95)=!((s[k].toNat:Int) == 95):=rfl
      rw [g3] at g4
      go_wp2_with (first | (go_at_call 211; refine (script_isSmall _ _).mono ?_; rintro e w1 ⟨rfl,rfl⟩) | (go_at_call 212; refine (script_isDigit _ _).mono ?_; rintro e w1 ⟨rfl,rfl⟩))
      first
      | (go_round; (case rel=>exact ⟨k + 1,by omega,by go_num,all_step hlt H.out (by rw [HN.out]; rfl)⟩); (case measure=>simp [intOf]; omega))
      | (go_ret; exact ⟨ret_bool (by rw [Hd.out,all_no (p:=nameB) hlt (by rw [HN.out]; rfl)]; simp),Below.refl _ _⟩)
    ·have He:=Lib.hid (all_end hlt H.out)
     have Hc:=Lib.hid (words_any s)
     go_wp2_with fail
     refine (script_words _).mono ?_
     rintro e w1 ⟨A,rfl,hsl,hb1⟩
     go_wp2_with fail
     refine (slices_ContainsStr A 8 8 wordsL s _ hsl).mono ?_
     rintro e w2 ⟨rfl,rfl⟩
     go_wp2
     go_ret
     exact ⟨ret_bool (by rw [Hd.out,HW.out,HF2.out,He.out,Hc.out]; rfl),hb1⟩
end Go.Proofs.Sm
namespace Go.Proofs.Sm
open Go.RowKit
set_option maxRecDepth 100000 in
theorem act_isWord (s:ByteArray) (w:World) (hs:s.size≤maxLen):Calls Tryz.prog 167 #[.string s] w fun e w'=>e=.returned (.bool (isWordS s))∧w=w':=by
 have hm:s.size≤9223372036854775807:=hs
 go_enter Tryz.func167,Tryz.ntmps167
 go_wp2
 go_loop [3,6] (fun _ i=>∃ k:Nat,k≤s.size∧i=.int .i64 k∧(s.data.toList.take k).all (bytesInB 33 126)=true) (fun _ i=>s.size - (intOf i).toNat)
 case atStart=>exact ⟨0,Nat.zero_le _,rfl,rfl⟩
 case round =>
  obtain ⟨k,hk,rfl,hall⟩:=hrel
  have H:=Lib.hid hall; clear hall
  by_cases hlt:k < s.size
  ·go_wp2
   all_goals first
    | (go_round; (case rel=>exact ⟨k + 1,by omega,by go_num,all_step hlt H.out (by simp [bytesInB]; simp at *; omega)⟩); (case measure=>simp [intOf]; omega))
    | (go_ret; exact ⟨ret_bool (by rw [isWordS,all_no hlt (by simp [bytesInB]; simp at *; omega)]; rfl),rfl⟩)
  ·have He:=Lib.hid (all_end hlt H.out)
   go_wp2
   all_goals (go_ret; refine ⟨ret_bool ?_,rfl⟩; rw [isWordS,He.out]; simp [withinB] <;> omega)
theorem trim_digits_any (s:ByteArray) (w:World) (hs:s.size≤maxLen):Calls Tryz.prog 114 #[.string s,.string ⟨#[48,49,50,51,52,53,54,55,56,57]⟩] w fun e w' =>
 ∃ r:ByteArray,e=.returned (.string r)∧r.toList.isEmpty=s.data.toList.all digitB∧Below w.heap.size w w':=by
 refine (Any.strings_Trim_laid Tryz.lays160 (by kernel_rfl) s ⟨#[48,49,50,51,52,53,54,55,56,57]⟩ w hs (by decide) (ascii_of_all (by decide))).mono ?_
 rintro e w' ⟨rfl,hb⟩
 refine ⟨_,rfl,?_,hb⟩
 rw [Lib.toList_data,Bool.eq_iff_iff,List.isEmpty_iff]
 exact trim_digits _
set_option maxRecDepth 100000 in
theorem act_isNumber (s:ByteArray) (m:Int) (w:World) (hs:s.size≤maxLen):Calls Tryz.prog 210 #[.string s,.int .i64 m] w fun e w'=>e=.returned (.bool (isNumberS s m))∧Below w.heap.size w w':=by
 have hm:s.size≤9223372036854775807:=hs
 cases hw:withinB s.size 1 m
 ·have HV:=Lib.hid (show isNumberS s m=false by rw [isNumberS,hw]; rfl)
  have h1:=withinB_false hw
  clear hw
  go_enter Tryz.func210,Tryz.ntmps210
  go_wp2
  all_goals first
   | (exfalso; omega)
   | (go_ret; exact ⟨ret_bool HV.out.symm,Below.refl _ _⟩)
 ·have h1:=withinB_true hw
  have HW:=Lib.hid hw; clear hw
  cases hd:s.data.toList.all digitB
  ·have HV:=Lib.hid (show isNumberS s m=false by rw [isNumberS,hd]; simp)
   have HD:=Lib.hid hd; clear hd
   go_enter Tryz.func210,Tryz.ntmps210
   go_wp2_with (go_at_call 114; refine (trim_digits_any s w hs).mono ?_; rintro e w1 ⟨r,rfl,hr,hb⟩; rw [HD.out] at hr; have hr2:¬ r.toList=[]:=by simpa using hr)
   go_ret; exact ⟨ret_bool HV.out.symm,hb⟩
  ·have HD:=Lib.hid hd; clear hd
   have h0:0 < s.size:=by omega
   cases hf:((s[0].toNat:Int) == 48)
   ·have hf2:((s[0].toNat:Int) != 48)=true:=by rw [bne,hf]; rfl
    have HV:=Lib.hid (show isNumberS s m=true by
     rw [isNumberS,HW.out,HD.out]
     by_cases h2:1 < s.size
     ·rw [leadOk_two h2,hf]; rfl
     ·rw [leadOk_one (by omega)]; rfl)
    go_enter Tryz.func210,Tryz.ntmps210
    go_wp2_with (go_at_call 114; refine (trim_digits_any s w hs).mono ?_; rintro e w1 ⟨r,rfl,hr,hb⟩; rw [HD.out] at hr; have hr2:r.toList=[]:=by simpa using hr)
    go_ret; exact ⟨ret_bool HV.out.symm,hb⟩
   ·have hf2:((s[0].toNat:Int) != 48)=false:=by rw [bne,hf]; rfl
    by_cases h2:1 < s.size
    ·have HV:=Lib.hid (show isNumberS s m=false by rw [isNumberS,HW.out,HD.out,leadOk_two h2,hf]; rfl)
     have hne:¬ s.toList=[48]:=by
      intro e
      have e1:=congrArg List.length e
      have e2:s.data.toList.length=s.size:=by simp
      rw [Lib.toList_data,e2] at e1
      simp only [List.length_cons,List.length_nil] at e1
      omega
     go_enter Tryz.func210,Tryz.ntmps210
     go_wp2_with (go_at_call 114; refine (trim_digits_any s w hs).mono ?_; rintro e w1 ⟨r,rfl,hr,hb⟩; rw [HD.out] at hr; have hr2:r.toList=[]:=by simpa using hr)
     go_ret; exact ⟨ret_bool (by rw [HV.out] <;> simp [hne]),hb⟩
    ·have HV:=Lib.hid (show isNumberS s m=true by rw [isNumberS,HW.out,HD.out,leadOk_one (by omega)]; rfl)
     have he:s.toList=[48]:=by
      rw [Lib.toList_data]
      have h3:=byte_at s 0 h0
      have h4:s.data.toList.length=1:=by have:s.data.toList.length=s.size:=by simp
                                         omega
      cases hl:s.data.toList with
      | nil=>rw [hl] at h4; simp at h4
      | cons a l =>
        rw [hl] at h3 h4
        cases h3
        have:l=[]:=List.eq_nil_of_length_eq_zero (by simpa using h4)
        subst this
        have hf3:(s[0].toNat:Int)=48:=by rw [beq_iff_eq] at hf; exact hf
        congr 1
        apply UInt8.toNat_inj.1
        have:(48:UInt8).toNat=48:=rfl
        omega
     go_enter Tryz.func210,Tryz.ntmps210
     go_wp2_with (go_at_call 114; refine (trim_digits_any s w hs).mono ?_; rintro e w1 ⟨r,rfl,hr,hb⟩; rw [HD.out] at hr; have hr2:r.toList=[]:=by simpa using hr)
     go_ret; exact ⟨ret_bool (by rw [HV.out] <;> simp [he]),hb⟩
theorem atoi_any (s:ByteArray) (m:Int) (w:World) (h:isNumberS s m=true) (hm:m≤18):Calls Tryz.prog 222 #[.string s] w fun e w'=>e=.returned (.tuple #[.int .i64 (numS s:Nat),.nilIface])∧Below w.heap.size w w' :=
 (Tryz.strconv_Atoi s _ (by have:=(number_some h).2.2.1; omega) (number_atoi h) w).mono fun e w' ⟨h1,t,h2⟩=>⟨h1,by rw [h2]; exact Lib.bytesWorld_below _ _ _⟩
end Go.Proofs.Sm
namespace Go.Proofs.Sm
open Go.RowKit
def plusL (more:Bool):List UInt8:=if more then [43] else []
def formL (w:List UInt8):List UInt8:=match formS w with
 | none=>[]
 | some (k,more)=>k ++ plusL more
def FormIs (k:List UInt8) (more:Bool):Prop :=
 Lib.trimSuffix (k ++ plusL more) [43]=k∧Lib.hasSuffix (k ++ plusL more) [43]=more∧1≤k.length∧k.length≤4
theorem form_is {w k:List UInt8} {more:Bool} (h:formS w=some (k,more)):FormIs k more:=by
 unfold formS at h
 repeat' split at h
 all_goals (first | (simp at h; done) | (simp only [Option.some.injEq,Prod.mk.injEq] at h; obtain ⟨rfl,rfl⟩:=h; unfold FormIs; decide +kernel))
theorem form_fail {w:List UInt8} (h:w=[102,97,105,108]):formS w=some ([110],false):=by subst h; decide
theorem form_none {w:List UInt8} (h:formS w=none):formL w=[]:=by rw [formL,h]
theorem form_some {w k:List UInt8} {more:Bool} (h:formS w=some (k,more)):formL w=k ++ plusL more:=by rw [formL,h]
theorem wordsFit_step {k:List UInt8} {l:List ByteArray} {i:Nat} {x:ByteArray} (hx:l[i]?=some x) (h:fitsS (k.getD (min i (k.length - 1)) 0) x=true):wordsFit k i (l.drop i)=wordsFit k (i + 1) (l.drop (i + 1)):=by
 rw [drop_at hx,wordsFit,h,Bool.true_and]
theorem wordsFit_no {k:List UInt8} {l:List ByteArray} {i:Nat} {x:ByteArray} (hx:l[i]?=some x) (h:fitsS (k.getD (min i (k.length - 1)) 0) x=false):wordsFit k i (l.drop i)=false:=by
 rw [drop_at hx,wordsFit,h,Bool.false_and]
theorem wordsFit_end {k:List UInt8} {l:List ByteArray} {i:Nat} (h:l.length≤i):wordsFit k i (l.drop i)=true:=by
 rw [List.drop_eq_nil_of_le h,wordsFit]
theorem hasForm_len {k:List UInt8} {l:List ByteArray} {more:Bool} (h:(decide (k.length≤l.length) && (decide (l.length≤k.length) || more))=false):hasFormS l k more=false:=by
 rw [hasFormS,h,Bool.false_and]
theorem hasForm_fit {k:List UInt8} {l:List ByteArray} {more:Bool} (h:(decide (k.length≤l.length) && (decide (l.length≤k.length) || more))=true):hasFormS l k more=wordsFit k 0 l:=by
 rw [hasFormS,h,Bool.true_and]
end Go.Proofs.Sm
namespace Go.Proofs.Sm
open Go.RowKit
structure Env2 (w:World):Prop extends Env w where
 pow : Lib.TabIs Tryz.prog w "internal/strconv.uint64pow10" .u64 Lib.pow10Tab
theorem Env2.of_heap {w w':World} (h:Env2 w) (hs:w.heap.size≤w'.heap.size) (hk:∀ k,k < 8→w'.heap[k]?=w.heap[k]?):Env2 w' where
 toEnv:=h.toEnv.of_heap hs hk
 pow:=by
  have hg : Tryz.prog.globalNamed "internal/strconv.uint64pow10" = some 1 := by kernel_rfl
  have h1:=h.pow
  unfold Lib.TabIs World.var? at *
  rw [hg] at *
  simp only [Option.bind_some] at *
  rw [hk 1 (by decide)]
  exact h1
theorem Env2.then_ {w w':World} (h:Env2 w) (hb:Below w.heap.size w w'):Env2 w':=h.of_heap hb.size fun k hk=>hb.block k (Nat.lt_of_lt_of_le hk h.size)
theorem Env2.alloc {w:World} (h:Env2 w) (o:Obj):Env2 (w.alloc o):=h.then_ ((Below.refl _ _).alloc (Nat.le_refl _) o)
theorem untold_pays (w:World):PredGrows Tryz.prog 116 #[] untold w:=by
 intro W x hx _
 show Calls Tryz.prog 116 #[.int .i32 (x:Int)] W _
 go_enter Tryz.func116,Tryz.ntmps116
 go_wp2
 all_goals (go_ret; refine ⟨ret_bool ?_,Below.refl _ _⟩; rw [Bool.eq_iff_iff]; simp [untold,textI] <;> omega)
theorem told_any (s:ByteArray) (w:World):Calls Tryz.prog 115 #[.string s,.func (.func 116) #[] #[]] w fun e w'=>e=.returned (.bool (!(s.data.toList.all textB)))∧Below w.heap.size w w' :=
 (Tryz.strings_ContainsFunc_grows 116 #[] (enters_of Tryz.func116 (by kernel_rfl) rfl) untold s w (untold_pays w)).mono fun _ _ h=>⟨by rw [h.1,untold_any],h.2⟩
end Go.Proofs.Sm
namespace Go.Proofs.Sm
open Go.RowKit
theorem hasSuffix_any (s:ByteArray) (w:World) (hs:s.size≤maxLen) (h0:s.toList.isEmpty=false):Calls Tryz.prog 117 #[.string s,.string ⟨#[10]⟩] w fun e w'=>e=.returned (.bool (endsS s.data.toList))∧w=w' :=
 (Tryz.strings_HasSuffix s ⟨#[10]⟩ w hs).mono fun _ _ h=>⟨by rw [h.1]; congr 2; exact ends_suffix _ (by rw [Lib.toList_data] at h0; simpa using h0),h.2.symm⟩
def resVal (r:ResultV) (A:Option Addr) (n c:Nat) (B:Option Addr) (m d:Nat):Value:=.agg #[.int .i64 r.code,.string r.text,.slice A n c,.slice B m d,.int .i64 r.command]
structure ResIs (w:World) (r:ResultV) (A:Option Addr) (n:Nat) (B:Option Addr) (m:Nat):Prop where
 code:InInt r.code
 text:r.text.size≤maxLen
 files:Sl w (Lt w.heap.size) A n r.files
 looks:Sl w (Lt w.heap.size) B m r.looks
 command:InInt r.command
theorem ResIs.then_ {w w':World} {r:ResultV} {A:Option Addr} {n:Nat} {B:Option Addr} {m:Nat} (h:ResIs w r A n B m) (hb:Below w.heap.size w w'):ResIs w' r A n B m :=
 ⟨h.code,h.text,sl_call h.files hb (Nat.le_refl _),sl_call h.looks hb (Nat.le_refl _),h.command⟩
theorem checkResult_range {r:ResultV} (h:(withinB r.code 0 999999 && withinB r.command 0 50)=false):checkResultS r=1:=by rw [checkResultS,if_pos h]
theorem checkResult_large {r:ResultV} (h:(withinB r.code 0 999999 && withinB r.command 0 50)=true) (h1:(100000:Int) < r.text.size):checkResultS r=2:=by
 rw [checkResultS,if_neg (by rw [h]; decide),if_pos h1]
theorem checkResult_text {r:ResultV} (h:(withinB r.code 0 999999 && withinB r.command 0 50)=true) (h1:¬ (100000:Int) < r.text.size) (h2:isTextS r.text=false):checkResultS r=3:=by
 rw [checkResultS,if_neg (by rw [h]; decide),if_neg h1,if_pos h2]
theorem checkResult_files {r:ResultV} (h:(withinB r.code 0 999999 && withinB r.command 0 50)=true) (h1:¬ (100000:Int) < r.text.size) (h2:isTextS r.text=true) (h3:checkFilesS r.files≠0):checkResultS r=checkFilesS r.files:=by
 rw [checkResultS,if_neg (by rw [h]; decide),if_neg h1,if_neg (by rw [h2]; decide),if_pos h3]
theorem checkResult_code {r:ResultV} (h:(withinB r.code 0 999999 && withinB r.command 0 50)=true) (h1:¬ (100000:Int) < r.text.size) (h2:isTextS r.text=true) (h3:checkFilesS r.files=0) :
 checkResultS r=if (!r.files.isEmpty && r.code != 0)=true then 3 else checkLooksS r.looks:=by
 rw [checkResultS,if_neg (by rw [h]; decide),if_neg h1,if_neg (by rw [h2]; decide),if_neg (by rw [h3]; decide)]
theorem files_none {w:World} {S:Nat→Prop} {A:Option Addr} {n:Nat} {l:List FileV} (h:Sl w S A n l):l.isEmpty=decide (n=0):=by
 rw [←h.1]
 cases l <;> simp
set_option maxHeartbeats 1000000 in
set_option maxRecDepth 100000 in
theorem act_CheckResult (r:ResultV) (A:Option Addr) (n c:Nat) (B:Option Addr) (m d:Nat) (w:World) (hE:Env w) (hr:ResIs w r A n B m) :
 Calls Tryz.prog 78 #[resVal r A n c B m d] w fun e w'=>e=.returned (.int .i64 (checkResultS r))∧Below w.heap.size w w':=by
 unfold resVal
 have hm:n≤9223372036854775807:=hr.files.2.1
 cases h0:(withinB r.code 0 999999 && withinB r.command 0 50)
 ·have HV:=Lib.hid (checkResult_range h0)
  have h1:r.code < 0∨999999 < r.code∨r.command < 0∨50 < r.command:=by simp [withinB] at h0; omega
  clear h0
  go_enter Tryz.func78,Tryz.ntmps78
  go_wp2
  all_goals first
   | (exfalso; omega)
   | (go_ret; exact ⟨ret_int HV.out.symm,fr_alloc (fr_refl _) _⟩)
 ·have hq:0≤r.code∧r.code≤999999∧0≤r.command∧r.command≤50:=by simp [withinB] at h0; omega
  obtain ⟨q1,q2,q3,q4⟩:=hq
  have H0:=Lib.hid h0; clear h0
  by_cases hl:(100000:Int) < r.text.size
  ·have HV:=Lib.hid (checkResult_large H0.out hl)
   go_enter Tryz.func78,Tryz.ntmps78
   go_wp2
   go_ret; exact ⟨ret_int HV.out.symm,fr_alloc (fr_refl _) _⟩
  cases ht:isTextS r.text
  ·have HV:=Lib.hid (checkResult_text H0.out hl ht)
   cases ha:r.text.data.toList.all textB
   ·clear ht
    go_enter Tryz.func78,Tryz.ntmps78
    go_wp2_with (first
    | (go_at_call 115; refine (told_any _ _).mono ?_; rintro e w1 ⟨rfl,hb1⟩; obtain ⟨hc1,hf1⟩:=bcell hb1; have hz1:=grew hb1)
    | (go_at_call 117; refine (hasSuffix_any _ _ hr.text (by assumption)).mono ?_; rintro e w1' ⟨rfl,rfl⟩))
    go_ret; exact ⟨ret_int HV.out.symm,(by repeat (first | exact fr_refl _ | refine fr_call ?_ (by assumption) | refine fr_alloc ?_ _ | refine fr_set ?_ (by simp) _ | refine Below.drew ?_ | refine below_drewN ?_ _))⟩
   ·have he:endsS r.text.data.toList=false:=by rw [isTextS,ha] at ht; exact ht
    have hn:r.text.toList.isEmpty=false:=by
     cases hn:r.text.toList.isEmpty
     ·rfl
     ·rw [Lib.toList_data,List.isEmpty_iff] at hn
      rw [hn] at he; cases he
    clear ht
    go_enter Tryz.func78,Tryz.ntmps78
    go_wp2_with (first
    | (go_at_call 115; refine (told_any _ _).mono ?_; rintro e w1 ⟨rfl,hb1⟩; obtain ⟨hc1,hf1⟩:=bcell hb1; have hz1:=grew hb1)
    | (go_at_call 117; refine (hasSuffix_any _ _ hr.text (by assumption)).mono ?_; rintro e w1' ⟨rfl,rfl⟩))
    go_ret; exact ⟨ret_int HV.out.symm,(by repeat (first | exact fr_refl _ | refine fr_call ?_ (by assumption) | refine fr_alloc ?_ _ | refine fr_set ?_ (by simp) _ | refine Below.drew ?_ | refine below_drewN ?_ _))⟩
  ·have HT:=Lib.hid ht
   have ha:r.text.data.toList.all textB=true:=by rw [isTextS] at ht; exact (Bool.and_eq_true_iff.1 ht).1
   have he:endsS r.text.data.toList=true:=by rw [isTextS] at ht; exact (Bool.and_eq_true_iff.1 ht).2
   clear ht
   cases hn:r.text.toList.isEmpty
   all_goals
    go_enter Tryz.func78,Tryz.ntmps78
    go_wp2_with (first
    | (go_at_call 115; refine (told_any _ _).mono ?_; rintro e w1 ⟨rfl,hb1⟩; obtain ⟨hc1,hf1⟩:=bcell hb1; have hz1:=grew hb1)
    | (go_at_call 117; refine (hasSuffix_any _ _ hr.text (by assumption)).mono ?_; rintro e w1' ⟨rfl,rfl⟩))
    refine (blob_CheckFiles A n c r.files _ (hE.then_ (by repeat (first | exact fr_refl _ | refine fr_call ?_ (by assumption) | refine fr_alloc ?_ _ | refine fr_set ?_ (by simp) _ | refine Below.drew ?_ | refine below_drewN ?_ _))) (sl_call hr.files (by repeat (first | exact fr_refl _ | refine fr_call ?_ (by assumption) | refine fr_alloc ?_ _ | refine fr_set ?_ (by simp) _ | refine Below.drew ?_ | refine below_drewN ?_ _)) (Nat.le_refl _))).mono ?_
    rintro e w2 ⟨rfl,hb2⟩
    clear ha he hn
    obtain ⟨hc2,hf2⟩:=bcell hb2
    have hz2:=hb2.size
    cases h0:(checkFilesS r.files == 0)
    ·have hne:checkFilesS r.files≠0:=by simpa using h0
     have hbn:(checkFilesS r.files != 0)=true:=by simpa using h0
     have HV:=Lib.hid (checkResult_files H0.out (Int.not_lt.2 hl) HT.out hne)
     clear hne
     go_wp2
     go_ret; exact ⟨ret_int HV.out.symm,(by repeat (first | exact fr_refl _ | refine fr_call ?_ (by assumption) | refine fr_alloc ?_ _ | refine fr_set ?_ (by simp) _ | refine Below.drew ?_ | refine below_drewN ?_ _))⟩
    ·have hz:checkFilesS r.files=0:=by simpa using h0
     have hbn:(checkFilesS r.files != 0)=false:=by simpa using h0
     have HV:=Lib.hid (checkResult_code H0.out (Int.not_lt.2 hl) HT.out hz)
     have HN:=Lib.hid (files_none hr.files)
     clear hz
     have hE3:Env w2:=hE.then_ (by repeat (first | exact fr_refl _ | refine fr_call ?_ (by assumption) | refine fr_alloc ?_ _ | refine fr_set ?_ (by simp) _ | refine Below.drew ?_ | refine below_drewN ?_ _))
     by_cases hn0:(0:Int) < n
     ·have hg:decide ((0:Int) < (n:Int))=true:=by simpa using hn0
      cases hk:(r.code == 0)
      ·have hk':(r.code != 0)=true:=by simpa using hk
       have HW:=Lib.hid (show checkResultS r=3 by rw [HV.out,HN.out,hk',decide_eq_false (by omega)]; rfl)
       go_wp2
       go_ret; exact ⟨ret_int HW.out.symm,(by repeat (first | exact fr_refl _ | refine fr_call ?_ (by assumption) | refine fr_alloc ?_ _ | refine fr_set ?_ (by simp) _ | refine Below.drew ?_ | refine below_drewN ?_ _))⟩
      ·have hk':(r.code != 0)=false:=by simpa using hk
       have HW:=Lib.hid (show checkResultS r=checkLooksS r.looks by rw [HV.out,HN.out,hk',Bool.and_false]; rfl)
       go_wp2_with fail
       refine (act_CheckLooks B m d r.looks _ hE3 (sl_call hr.looks (by repeat (first | exact fr_refl _ | refine fr_call ?_ (by assumption) | refine fr_alloc ?_ _ | refine fr_set ?_ (by simp) _ | refine Below.drew ?_ | refine below_drewN ?_ _)) (Nat.le_refl _))).mono ?_
       rintro e w3 ⟨rfl,hb3⟩
       go_wp2
       go_ret; exact ⟨ret_int HW.out.symm,(by repeat (first | exact fr_refl _ | refine fr_call ?_ (by assumption) | refine fr_alloc ?_ _ | refine fr_set ?_ (by simp) _ | refine Below.drew ?_ | refine below_drewN ?_ _))⟩
     ·have hg:decide ((0:Int) < (n:Int))=false:=by simpa using hn0
      have HW:=Lib.hid (show checkResultS r=checkLooksS r.looks by rw [HV.out,HN.out,decide_eq_true (by omega)]; rfl)
      go_wp2_with fail
      refine (act_CheckLooks B m d r.looks _ hE3 (sl_call hr.looks (by repeat (first | exact fr_refl _ | refine fr_call ?_ (by assumption) | refine fr_alloc ?_ _ | refine fr_set ?_ (by simp) _ | refine Below.drew ?_ | refine below_drewN ?_ _)) (Nat.le_refl _))).mono ?_
      rintro e w3 ⟨rfl,hb3⟩
      go_wp2
      go_ret; exact ⟨ret_int HW.out.symm,(by repeat (first | exact fr_refl _ | refine fr_call ?_ (by assumption) | refine fr_alloc ?_ _ | refine fr_set ?_ (by simp) _ | refine Below.drew ?_ | refine below_drewN ?_ _))⟩
end Go.Proofs.Sm
