/- Words and walks that the claims share, part 7. -/
import Derived.Test.YtaabdbephemboaaGreatDoorBx6
import Derived.Lib.AppendIntMem
import Derived.Deep.RegionHeld3
namespace Go.Proofs.Sm
open Go.RowKit
theorem bytes_ext {a b:ByteArray} (h:a.data.toList=b.data.toList):a=b:=by
 obtain ⟨⟨x⟩⟩:=a
 obtain ⟨⟨y⟩⟩:=b
 simp at h
 rw [h]
theorem ret_str {a:ByteArray} {l:List UInt8} (h:a.data.toList=l):Ending.returned (.string a)=.returned (.string ⟨l.toArray⟩):=by
 subst h; rfl
theorem itoa_any (n:Int) (hn:InInt n) (w:World) (hE:Env2 w):Calls Tryz.prog 110 #[.int .i64 n] w fun e w'=>e=.returned (.string ⟨(Lib.itoa n).toArray⟩)∧Below w.heap.size w w' :=
 (Tryz.strconv_Itoa n hn.1 hn.2 w hE.pow).mono fun e w' ⟨h1,k,os,h2⟩=>⟨h1,by rw [h2]; exact Lib.below_grow _ _ (Nat.le_refl _) _ _⟩
theorem itoa_op (n:Int) (hn:InInt n):∃ s:ByteArray,s.size≤21∧Hid (s.data.toList=Lib.itoa n)∧Hid (∀ w,Env2 w→Calls Tryz.prog 110 #[.int .i64 n] w fun e w'=>e=.returned (.string s)∧Below w.heap.size w w') :=
 ⟨⟨(Lib.itoa n).toArray⟩,by have:=Lib.itoa_length_le n hn.1 hn.2; simpa [ByteArray.size] using this,Lib.hid (by simp),Lib.hid fun w hE=>itoa_any n hn w hE⟩
theorem cat_op (a b:ByteArray) (h:a.size + b.size≤9223372036854775807):∃ s:ByteArray,s.size≤a.size + b.size∧Hid (s.data.toList=a.data.toList ++ b.data.toList)∧∀ w,(Op.stringOp .add a b).run Tryz.prog w=.ok (.string s) w :=
 ⟨a ++ b,by simp,Lib.hid (by simp),fun w=>run_string_add_sum (P:=Tryz.prog) (w:=w) a b h⟩
end Go.Proofs.Sm
namespace Go.Proofs.Sm
open Go.RowKit
set_option maxHeartbeats 1000000 in
set_option maxRecDepth 100000 in
theorem act_formOf (s:ByteArray) (w:World):Calls Tryz.prog 168 #[.string s] w fun e w'=>e=.returned (.string ⟨(formL s.data.toList).toArray⟩)∧w=w':=by
 rw [←Lib.toList_data]
 go_enter Tryz.func168,Tryz.ntmps168
 go_wp2
 all_goals (go_ret; exact ⟨ret_str (by simp_all [formL,formS,plusL]),rfl⟩)
end Go.Proofs.Sm
namespace Go.Proofs.Sm
open Go.RowKit
theorem cutPlus {k:List UInt8} {more:Bool} (hf:FormIs k more) (f:ByteArray) (h:f.data.toList=k ++ plusL more) (kb:ByteArray) (hk:kb.data.toList=k) (w:World) :
 Calls Tryz.prog 209 #[.string f,.string ⟨#[43]⟩] w fun e w'=>e=.returned (.tuple #[.string kb,.bool more])∧w=w':=by
 have hfs:f.size≤9223372036854775807:=by
  have e:f.data.toList.length=f.size:=by simp
  rw [←e,h,List.length_append]
  have:=hf.2.2.2
  have:(plusL more).length≤1:=by cases more <;> decide
  omega
 refine (Tryz.strings_CutSuffix f ⟨#[43]⟩ w hfs).mono fun e w' ⟨h1,h2⟩=>⟨?_,h2.symm⟩
 rw [h1,h]
 have e43:(⟨#[43]⟩:ByteArray).data.toList=[43]:=rfl
 rw [e43,hf.1,hf.2.1]
 exact ret_pair (congrArg Value.string (bytes_ext (by rw [hk]))) rfl
theorem sl_tail {w:World} {S:Nat→Prop} {b o n:Nat} {x:ByteArray} {l:List ByteArray} (h:Sl w S (some ⟨b,o,none⟩) n (x :: l)):Sl w S (some ⟨b,o + 1,none⟩) (n - 1) l:=by
 have h1:=h.1
 simp at h1
 refine ⟨by omega,by have:=h.2.1; omega,fun hn=>?_⟩
 obtain ⟨b',o',e,hb,hc⟩:=h.2.2 (by omega)
 cases e
 refine ⟨b,o + 1,rfl,hb,fun i y hy=>?_⟩
 obtain ⟨vs,hr,ha⟩:=hc (i + 1) y (by simpa using hy)
 refine ⟨vs,hr,?_⟩
 have e2:o + 1 + i * Rep.sz ByteArray=o + (i + 1) * Rep.sz ByteArray:=by simp [Rep.sz]; omega
 rw [e2]; exact ha
theorem hasForm_lens {k:List UInt8} {l:List ByteArray} {more:Bool} (h:l.length < k.length∨(k.length < l.length∧more=false)):hasFormS l k more=false:=by
 refine hasForm_len ?_
 rcases h with h | ⟨h,h2⟩
 ·rw [decide_eq_false (by omega)]; rfl
 ·rw [h2,decide_eq_false (by omega:¬ l.length≤k.length)]; simp
theorem hasForm_fits {k:List UInt8} {l:List ByteArray} {more:Bool} (h:k.length≤l.length∧(l.length≤k.length∨more=true)):hasFormS l k more=wordsFit k 0 l:=by
 refine hasForm_fit ?_
 rw [decide_eq_true h.1]
 rcases h.2 with h | h
 ·rw [decide_eq_true h]; rfl
 ·rw [h]; simp
set_option maxHeartbeats 1000000 in
set_option maxRecDepth 100000 in
theorem act_hasForm (A:Option Addr) (n c:Nat) (l:List ByteArray) (k:List UInt8) (more:Bool) (f:ByteArray) (w:World) (hE:Env w) (hsl:Sl w (Lt w.heap.size) A n l) (hf:FormIs k more) (hfl:f.data.toList=k ++ plusL more) (hn:n≤1000) :
 Calls Tryz.prog 169 #[.slice A n c,.string f] w fun e w'=>e=.returned (.bool (hasFormS l k more))∧Below w.heap.size w w':=by
 obtain ⟨kb,hkb⟩:∃ kb:ByteArray,kb.data.toList=k:=⟨⟨k.toArray⟩,by simp⟩
 have HC:=Lib.hid (fun w=>cutPlus hf f hfl kb hkb w)
 have hks:kb.size=k.length:=by rw [←hkb]; simp
 have hk1:1≤kb.size:=by rw [hks]; exact hf.2.2.1
 have hk4:kb.size≤4:=by rw [hks]; exact hf.2.2.2
 have HB:=Lib.hid hkb; clear hkb hfl hf
 have HKS:=Lib.hid hks; clear hks
 have hln:=hsl.1
 by_cases hlen:n < kb.size∨(kb.size < n∧more=false)
 ·have HV:=Lib.hid (show hasFormS l k more=false from hasForm_lens (by rw [hln,←HKS.out]; exact hlen))
  clear hln
  rcases hlen with h1 | ⟨h1,rfl⟩
  ·go_enter Tryz.func169,Tryz.ntmps169
   go_wp2_with (go_at_call 209; refine (HC.out _).mono ?_; rintro e w1 ⟨rfl,rfl⟩)
   go_ret; exact ⟨ret_bool HV.out.symm,Below.refl _ _⟩
  ·go_enter Tryz.func169,Tryz.ntmps169
   go_wp2_with (go_at_call 209; refine (HC.out _).mono ?_; rintro e w1 ⟨rfl,rfl⟩)
   go_ret; exact ⟨ret_bool HV.out.symm,Below.refl _ _⟩
 ·have h1:kb.size≤n:=by omega
  have h2:n≤kb.size∨more=true:=by
   by_cases h:n≤kb.size
   ·exact .inl h
   ·right
    cases more
    ·exact absurd (.inr ⟨by omega,rfl⟩) hlen
    ·rfl
  have HV:=Lib.hid (show hasFormS l k more=wordsFit k 0 l from hasForm_fits (by rw [hln,←HKS.out]; exact ⟨h1,h2⟩))
  have HL:=Lib.hid hln; clear hln hlen
  have h3:n≤kb.size∨(kb.size < n∧more=true):=by
   by_cases h:n≤kb.size
   ·exact .inl h
   ·exact .inr ⟨by omega,h2.resolve_left h⟩
  clear h2
  have hm:n≤9223372036854775807:=hsl.2.1
  have t1:decide (n < kb.size)=false:=decide_eq_false (by omega)
  have t2:(n≤kb.size∧decide (kb.size < n)=false)∨(more=true∧decide (kb.size < n)=true):=by
   rcases h3 with h3 | ⟨h3,h4⟩
   ·exact .inl ⟨h3,decide_eq_false (by omega)⟩
   ·exact .inr ⟨h4,decide_eq_true h3⟩
  clear h3
  rcases t2 with ⟨h3,t2⟩ | ⟨rfl,t2⟩
  all_goals
   go_enter Tryz.func169,Tryz.ntmps169
   go_wp2_with (go_at_call 209; refine (HC.out _).mono ?_; rintro e w1 ⟨rfl,rfl⟩)
   go_loopw [6,7,31] (fun _ _ i wr=>∃ q:Nat,q≤n∧i=.int .i64 q∧wordsFit k 0 l=wordsFit k q (l.drop q)∧Below w.heap.size w wr) (fun _ _ i _=>n - (intOf i).toNat)
   case atStart=>exact ⟨0,Nat.zero_le _,rfl,rfl,Below.refl _ _⟩
   case round =>
    obtain ⟨q,hq,rfl,hd,hbel⟩:=hrel
    have Hr:=Lib.hid hd; clear hd
    by_cases hlt:q < n
    ·obtain ⟨b,o,x,rfl,hb,hx,hxs,c0⟩:=(hsl.keep (keep_lt hbel)).str hlt
     have Hx:=Lib.hid hx; clear hx
     have hEr:=hE.then_ hbel
     obtain ⟨j,hj1,hj2⟩:∃ j:Nat,min (q:Int) ((kb.size:Int) - 1)=(j:Int)∧j=min q (kb.size - 1):=⟨_,by omega,rfl⟩
     have hj3:j < kb.size:=by omega
     have HJ:=Lib.hid hj2; clear hj2
     have HF:=Lib.hid (show fitsS (k.getD (min q (k.length - 1)) 0) x=fitsS kb[j] x by
      rw [←HKS.out,←HJ.out,List.getD,←HB.out,byte_at kb j hj3]; rfl)
     cases g1:((kb[j].toNat:Int) == 112)
     ·cases g2:((kb[j].toNat:Int) == 110)
      ·have HT:=Lib.hid (wordsFit_step (k:=k) Hx.out (by
        rw [HF.out,fitsS,if_neg,if_neg]
        ·intro e; rw [e] at g2; revert g2; decide
        ·intro e; rw [e] at g1; revert g1; decide))
       go_wp2
       go_round
       case rel=>exact ⟨q + 1,by omega,by go_num,by rw [Hr.out,HT.out],hbel⟩
       case measure=>simp [intOf]; omega
      ·have e110:kb[j]=110:=by
        apply UInt8.toNat_inj.1
        have:(110:UInt8).toNat=110:=rfl
        rw [beq_iff_eq] at g2
        omega
       have HG:=Lib.hid (show fitsS kb[j] x=isNumberS x 6 by rw [e110]; rfl)
       clear e110
       cases gv:isNumberS x 6
       ·have HT:=Lib.hid (wordsFit_no (k:=k) Hx.out (by rw [HF.out,HG.out,gv]))
        go_wp2_with (go_at_call 210; refine (act_isNumber _ _ _ hxs).mono ?_; rintro e w1 ⟨rfl,hb1⟩)
        go_ret
        exact ⟨ret_bool (by rw [HV.out,Hr.out,HT.out]),fr_call hbel hb1⟩
       ·have HT:=Lib.hid (wordsFit_step (k:=k) Hx.out (by rw [HF.out,HG.out,gv]))
        go_wp2_with (go_at_call 210; refine (act_isNumber _ _ _ hxs).mono ?_; rintro e w1 ⟨rfl,hb1⟩)
        go_round
        case rel=>exact ⟨q + 1,by omega,by go_num,by rw [Hr.out,HT.out],fr_call hbel hb1⟩
        case measure=>simp [intOf]; omega
     ·have e112:kb[j]=112:=by
       apply UInt8.toNat_inj.1
       have:(112:UInt8).toNat=112:=rfl
       rw [beq_iff_eq] at g1
       omega
      have HG:=Lib.hid (show fitsS kb[j] x=isPathS x by rw [e112]; rfl)
      clear e112
      cases gv:isPathS x
      ·have HT:=Lib.hid (wordsFit_no (k:=k) Hx.out (by rw [HF.out,HG.out,gv]))
       go_wp2_with (go_at_call 44; refine (blob_IsPath _ _ hEr).mono ?_; rintro e w1 ⟨rfl,hb1⟩)
       go_ret
       exact ⟨ret_bool (by rw [HV.out,Hr.out,HT.out]),fr_call hbel hb1⟩
      ·have HT:=Lib.hid (wordsFit_step (k:=k) Hx.out (by rw [HF.out,HG.out,gv]))
       go_wp2_with (go_at_call 44; refine (blob_IsPath _ _ hEr).mono ?_; rintro e w1 ⟨rfl,hb1⟩)
       go_round
       case rel=>exact ⟨q + 1,by omega,by go_num,by rw [Hr.out,HT.out],fr_call hbel hb1⟩
       case measure=>simp [intOf]; omega
    ·have HT:=Lib.hid (wordsFit_end (k:=k) (l:=l) (i:=q) (by rw [hsl.1]; omega))
     go_wp2
     go_ret
     exact ⟨ret_bool (by rw [HV.out,Hr.out,HT.out]),hbel⟩
end Go.Proofs.Sm
namespace Go.Proofs.Sm
open Go.RowKit
def cmdTail (c0:ByteArray) (words:List ByteArray):Bool:=!(c0.data.toList == [102,97,105,108] && (words.head?.map fun s=>s.data.toList) == some [48])
theorem Sl.nil' {α:Type} [Rep α] {w:World} {S:Nat→Prop} {A:Option Addr}:Sl w S A 0 ([]:List α):=⟨rfl,Nat.zero_le _,fun h=>absurd h (by omega)⟩
theorem data_ne {s:ByteArray} {l:List UInt8} (h:¬ s.toList=l):(s.data.toList == l)=false:=by
 rw [←Lib.toList_data,beq_eq_false_iff_ne]; exact h
theorem data_eq {s:ByteArray} {l:List UInt8} (h:s.toList=l):(s.data.toList == l)=true:=by
 rw [←Lib.toList_data,beq_iff_eq]; exact h
end Go.Proofs.Sm
namespace Go.Proofs.Sm
open Go.RowKit
section
variable {c0:ByteArray} {l:List ByteArray} {k:List UInt8} {more:Bool}
theorem cc_large {l:List ByteArray} (h:(50:Int) < l.length):checkCommandS l=2:=by unfold checkCommandS; rw [if_pos h]
theorem cc_some (h:¬ (50:Int) < (c0 :: l).length) (hw:(c0 :: l).all isWordS=true) (hk:formS c0.data.toList=some (k,more)):checkCommandS (c0 :: l)=if (hasFormS l k more && cmdTail c0 l)=true then 0 else 3:=by
 rw [checkCommandS,if_neg h]
 simp only [hw,hk,Bool.true_eq_false,if_false]
 cases h1:hasFormS l k more
 ·simp
 ·rw [cmdTail]
  cases h2:(c0.data.toList == [102,97,105,108] && (l.head?.map fun s=>s.data.toList) == some [48]) <;> simp
theorem cc_word (h:¬ (50:Int) < (c0 :: l).length) (hw:(c0 :: l).all isWordS=false):checkCommandS (c0 :: l)=3:=by
 rw [checkCommandS,if_neg h]
 simp only [hw,if_true]
theorem cc_kind (h:¬ (50:Int) < (c0 :: l).length) (hw:(c0 :: l).all isWordS=true) (hk:formS c0.data.toList=none):checkCommandS (c0 :: l)=4:=by
 rw [checkCommandS,if_neg h]
 simp only [hw,hk,Bool.true_eq_false,if_false]
end
theorem noWord_pays (W:World) (x:ByteArray) (hx:x.size≤maxLen):Calls Tryz.prog 166 #[.string x] W fun e w'=>e=.returned (.bool (!(isWordS x)))∧Below W.heap.size W w':=by
 go_enter Tryz.func166,Tryz.ntmps166
 go_wp2_with (go_at_call 167; refine (act_isWord _ _ hx).mono ?_; rintro e w1 ⟨rfl,rfl⟩)
 go_ret
 exact ⟨rfl,Below.refl _ _⟩
theorem words_any' (A:Option Addr) (n c:Nat) (l:List ByteArray) (w:World) (hsl:Sl w (Lt w.heap.size) A n l) :
 Calls Tryz.prog 46 #[.slice A n c,.func (.func 166) #[] #[]] w fun e w'=>e=.returned (.bool (!(l.all isWordS)))∧Below w.heap.size w w' :=
 (slices_ContainsFunc0 166 (enters_of Tryz.func166 (by kernel_rfl) rfl) (fun x=>!(isWordS x)) A n c l w hsl (fun W x _ hx _=>noWord_pays W x hx)).mono fun _ _ h=>⟨by rw [h.1,List.not_all_eq_any_not],h.2⟩
theorem formL_empty {s:ByteArray} (h:formS s.data.toList=none):(⟨(formL s.data.toList).toArray⟩:ByteArray).toList=[]:=by
 rw [Lib.toList_data,form_none h]
theorem formL_some {s:ByteArray} {k:List UInt8} {more:Bool} (h:formS s.data.toList=some (k,more)):(⟨(formL s.data.toList).toArray⟩:ByteArray).toList.isEmpty=false:=by
 rw [Lib.toList_data]
 have h1:=(form_is h).2.2.1
 rw [form_some h]
 cases k with
 | nil=>simp at h1
 | cons a k=>rfl
theorem tail_run {w:World} {S:Nat→Prop} {b o n c:Nat} {x:ByteArray} {l:List ByteArray} (h:Sl w S (some ⟨b,o,none⟩) n (x :: l)) (hnc:n≤c) (hm:n≤9223372036854775807) :
 ∃ A2 n2 c2,Sl w S A2 n2 l∧n2≤c2∧n2≤n∧∀ W,(Instr.slice 24 (.slice (some ⟨b,o,none⟩) n c) (some (.int .i64 1)) none none).run Tryz.prog W=.ok (.slice A2 n2 c2) W:=by
 have h1:1≤n:=by have:=h.1; simp at this; omega
 have ht:=sl_tail h
 by_cases hc:c=1
 ·subst hc
  obtain rfl:n=1:=by omega
  have hl:l=[]:=List.eq_nil_of_length_eq_zero (by have:=h.1; simpa using this)
  subst hl
  refine ⟨some ⟨b,o,none⟩,0,0,Sl.nil',Nat.le_refl _,by omega,fun W=>?_⟩
  simp [go_sem,Tryz.underlying24]
 ·refine ⟨some ⟨b,o + 1,none⟩,n - 1,c - 1,ht,by omega,by omega,fun W=>?_⟩
  have h2:(1:Int)≤n:=by omega
  simp [go_sem,Tryz.underlying24,hc,h2]
set_option maxHeartbeats 2000000 in
set_option maxRecDepth 100000 in
theorem act_checkCommand (A:Option Addr) (n c:Nat) (l:List ByteArray) (w:World) (hE:Env w) (hsl:Sl w (Lt w.heap.size) A n l) (hnc:n≤c) :
 Calls Tryz.prog 131 #[.slice A n c] w fun e w'=>e=.returned (.int .i64 (checkCommandS l))∧Below w.heap.size w w':=by
 have hm:n≤9223372036854775807:=hsl.2.1
 cases l with
 | nil =>
   obtain rfl:n=0:=by have:=hsl.1; simpa using this.symm
   go_enter Tryz.func131,Tryz.ntmps131
   go_wp2
   go_ret; exact ⟨rfl,Below.refl _ _⟩
 | cons c0 l =>
   have hln:l.length + 1=n:=by have:=hsl.1; simpa using this
   have h0:((n:Int) == 0)=false:=by rw [beq_eq_false_iff_ne]; omega
   by_cases hbig:(50:Int) < n
   ·have HV:=Lib.hid (cc_large (l:=c0 :: l) (by rw [hsl.1]; exact hbig))
    clear hln
    go_enter Tryz.func131,Tryz.ntmps131
    go_wp2
    go_ret; exact ⟨ret_int HV.out.symm,Below.refl _ _⟩
   have hbig':¬ (50:Int) < (c0 :: l).length:=by rw [hsl.1]; exact hbig
   obtain ⟨b,o,x0,rfl,hb,hx0,hxs0,d0⟩:=hsl.str (k:=0) (by omega)
   obtain rfl:c0=x0:=by simpa using hx0
   clear hx0
   rw [Nat.add_zero] at d0
   have hbw:b < w.heap.size:=hb
   have hnI:(0:Int) < n:=by omega
   have HL:=Lib.hid hln; clear hln
   have HF:=Lib.hid (fun w=>act_formOf c0 w)
   cases hw:(c0 :: l).all isWordS
   ·have HV:=Lib.hid (cc_word hbig' hw)
    go_enter Tryz.func131,Tryz.ntmps131
    go_wp2_with (first
    | (go_at_call 46; refine (words_any' _ _ _ _ _ hsl).mono ?_; rintro e w1 ⟨rfl,hb1⟩; obtain ⟨hc1,hf1⟩:=bcell hb1)
    | (go_at_call 168; refine (HF.out _).mono ?_; rintro e w1' ⟨rfl,rfl⟩))
    go_ret; exact ⟨ret_int HV.out.symm,(by repeat (first | exact fr_refl _ | refine fr_call ?_ (by assumption) | refine fr_alloc ?_ _ | refine fr_set ?_ (by simp) _ | refine Below.drew ?_ | refine below_drewN ?_ _))⟩
   ·rcases hk:formS c0.data.toList with _ | ⟨k,more⟩
    ·have HV:=Lib.hid (cc_kind hbig' hw hk)
     have he:=formL_empty hk
     clear hk
     generalize (⟨(formL c0.data.toList).toArray⟩:ByteArray)=fs at *
     go_enter Tryz.func131,Tryz.ntmps131
     go_wp2_with (first
     | (go_at_call 46; refine (words_any' _ _ _ _ _ hsl).mono ?_; rintro e w1 ⟨rfl,hb1⟩; obtain ⟨hc1,hf1⟩:=bcell hb1)
     | (go_at_call 168; refine (HF.out _).mono ?_; rintro e w1' ⟨rfl,rfl⟩))
     go_ret; exact ⟨ret_int HV.out.symm,(by repeat (first | exact fr_refl _ | refine fr_call ?_ (by assumption) | refine fr_alloc ?_ _ | refine fr_set ?_ (by simp) _ | refine Below.drew ?_ | refine below_drewN ?_ _))⟩
    ·have HV:=Lib.hid (cc_some hbig' hw hk)
     have he:=formL_some hk
     have HFI:=Lib.hid (form_is hk)
     have HFL:=Lib.hid (show (⟨(formL c0.data.toList).toArray⟩:ByteArray).data.toList=k ++ plusL more by rw [form_some hk])
     have HK:=Lib.hid hk; clear hk
     generalize (⟨(formL c0.data.toList).toArray⟩:ByteArray)=fs at *
     obtain ⟨A2,n2,c2,hs2,hnc2,hn2,hv2⟩:=tail_run hsl hnc hm
     have HH:=Lib.hid (fun W (hb:Below w.heap.size w W)=>act_hasForm A2 n2 c2 l k more fs W (hE.then_ hb) (sl_call hs2 hb (Nat.le_refl _)) HFI.out HFL.out (by omega))
     clear hnc2
     cases hh:hasFormS l k more
     ·have HW:=Lib.hid (show checkCommandS (c0 :: l)=3 by rw [HV.out,hh]; rfl)
      rw [hh] at HH
      clear hn2 hs2
      go_enter Tryz.func131,Tryz.ntmps131
      go_wp2_with (first
      | (go_at_call 46; refine (words_any' _ _ _ _ _ hsl).mono ?_; rintro e w1 ⟨rfl,hb1⟩; obtain ⟨hc1,hf1⟩:=bcell hb1)
      | (go_at_call 168; refine (HF.out _).mono ?_; rintro e w1' ⟨rfl,rfl⟩))
      refine (HH.out _ (by repeat (first | exact fr_refl _ | refine fr_call ?_ (by assumption) | refine fr_alloc ?_ _ | refine fr_set ?_ (by simp) _ | refine Below.drew ?_ | refine below_drewN ?_ _))).mono ?_
      rintro e w2 ⟨rfl,hb2⟩
      go_wp2
      go_ret; exact ⟨ret_int HW.out.symm,(by repeat (first | exact fr_refl _ | refine fr_call ?_ (by assumption) | refine fr_alloc ?_ _ | refine fr_set ?_ (by simp) _ | refine Below.drew ?_ | refine below_drewN ?_ _))⟩
     ·rw [hh] at HH
      have hct:=HV.out
      rw [hh,Bool.true_and] at hct
      by_cases hfa:c0.toList=[102,97,105,108]
      ·have hkk:=HK.out
       rw [form_fail (by rw [←Lib.toList_data]; exact hfa)] at hkk
       cases hkk
       have hl1:1≤l.length:=by
        cases l with
        | nil=>revert hh; decide
        | cons a l=>simp
       obtain ⟨b2,o2,x1,e2,hb2,hx1,hxs1,c1'⟩:=hsl.str (k:=1) (by have:=HL.out; omega)
       cases e2
       have hx1':l[0]?=some x1:=by simpa using hx1
       have hn1:(1:Int) < n:=by have:=HL.out; omega
       have hd:=data_eq hfa
       by_cases hx0:x1.toList=[48]
       ·have HW:=Lib.hid (show checkCommandS (c0 :: l)=3 by
         rw [hct,cmdTail,hd,List.head?_eq_getElem?,hx1']
         have:(some (x1.data.toList) == some [48])=true:=by rw [←Lib.toList_data,hx0]; rfl
         simp [this])
        clear hx1 hx1' hd hct hh hs2
        go_enter Tryz.func131,Tryz.ntmps131
        go_wp2_with (first
        | (go_at_call 46; refine (words_any' _ _ _ _ _ hsl).mono ?_; rintro e w1 ⟨rfl,hb1⟩; obtain ⟨hc1,hf1⟩:=bcell hb1)
        | (go_at_call 168; refine (HF.out _).mono ?_; rintro e w1' ⟨rfl,rfl⟩))
        refine (HH.out _ (by repeat (first | exact fr_refl _ | refine fr_call ?_ (by assumption) | refine fr_alloc ?_ _ | refine fr_set ?_ (by simp) _ | refine Below.drew ?_ | refine below_drewN ?_ _))).mono ?_
        rintro e w2 ⟨rfl,hb2⟩
        have d2:w2.cell? ⟨b,o,none⟩=some (.string c0):=by rw [hb2.cell (by show b < _; have:=hb1.size; omega),hb1.cell (by exact hbw)]; exact d0
        have d3:w2.cell? ⟨b,o + 1,none⟩=some (.string x1):=by rw [hb2.cell (by show b < _; have:=hb1.size; omega),hb1.cell (by exact hbw)]; exact c1'
        clear hc1 hf1
        go_wp2
        go_ret; exact ⟨ret_int HW.out.symm,(by repeat (first | exact fr_refl _ | refine fr_call ?_ (by assumption) | refine fr_alloc ?_ _ | refine fr_set ?_ (by simp) _ | refine Below.drew ?_ | refine below_drewN ?_ _))⟩
       ·have hx0b:(x1.toList == [48])=false:=by rw [beq_eq_false_iff_ne]; exact hx0
        have HW:=Lib.hid (show checkCommandS (c0 :: l)=0 by
         rw [hct,cmdTail,hd,List.head?_eq_getElem?,hx1']
         have:(some (x1.data.toList) == some [48])=false:=by rw [←Lib.toList_data,beq_eq_false_iff_ne]; simpa using hx0
         simp [this])
        clear hx1 hx1' hd hct hh hs2
        go_enter Tryz.func131,Tryz.ntmps131
        go_wp2_with (first
        | (go_at_call 46; refine (words_any' _ _ _ _ _ hsl).mono ?_; rintro e w1 ⟨rfl,hb1⟩; obtain ⟨hc1,hf1⟩:=bcell hb1)
        | (go_at_call 168; refine (HF.out _).mono ?_; rintro e w1' ⟨rfl,rfl⟩))
        refine (HH.out _ (by repeat (first | exact fr_refl _ | refine fr_call ?_ (by assumption) | refine fr_alloc ?_ _ | refine fr_set ?_ (by simp) _ | refine Below.drew ?_ | refine below_drewN ?_ _))).mono ?_
        rintro e w2 ⟨rfl,hb2⟩
        have d2:w2.cell? ⟨b,o,none⟩=some (.string c0):=by rw [hb2.cell (by show b < _; have:=hb1.size; omega),hb1.cell (by exact hbw)]; exact d0
        have d3:w2.cell? ⟨b,o + 1,none⟩=some (.string x1):=by rw [hb2.cell (by show b < _; have:=hb1.size; omega),hb1.cell (by exact hbw)]; exact c1'
        clear hc1 hf1
        go_wp2
        go_ret; exact ⟨ret_int HW.out.symm,(by repeat (first | exact fr_refl _ | refine fr_call ?_ (by assumption) | refine fr_alloc ?_ _ | refine fr_set ?_ (by simp) _ | refine Below.drew ?_ | refine below_drewN ?_ _))⟩
      ·have HW:=Lib.hid (show checkCommandS (c0 :: l)=0 by rw [hct,cmdTail,data_ne hfa]; rfl)
       clear hct hh hs2
       go_enter Tryz.func131,Tryz.ntmps131
       go_wp2_with (first
       | (go_at_call 46; refine (words_any' _ _ _ _ _ hsl).mono ?_; rintro e w1 ⟨rfl,hb1⟩; obtain ⟨hc1,hf1⟩:=bcell hb1)
       | (go_at_call 168; refine (HF.out _).mono ?_; rintro e w1' ⟨rfl,rfl⟩))
       refine (HH.out _ (by repeat (first | exact fr_refl _ | refine fr_call ?_ (by assumption) | refine fr_alloc ?_ _ | refine fr_set ?_ (by simp) _ | refine Below.drew ?_ | refine below_drewN ?_ _))).mono ?_
       rintro e w2 ⟨rfl,hb2⟩
       have d2:w2.cell? ⟨b,o,none⟩=some (.string c0):=by rw [hb2.cell (by show b < _; have:=hb1.size; omega),hb1.cell (by exact hbw)]; exact d0
       clear hc1 hf1
       go_wp2
       go_ret; exact ⟨ret_int HW.out.symm,(by repeat (first | exact fr_refl _ | refine fr_call ?_ (by assumption) | refine fr_alloc ?_ _ | refine fr_set ?_ (by simp) _ | refine Below.drew ?_ | refine below_drewN ?_ _))⟩
end Go.Proofs.Sm
namespace Go.Proofs.Sm
open Go.RowKit
def unprinted (x:Nat):Bool:=!(decide (32≤(x:Int)) && decide ((x:Int)≤126))
theorem unprinted_big (x:Nat) (h:127≤x):unprinted x=true:=by
 simp only [unprinted,Bool.not_eq_true',Bool.and_eq_false_iff,decide_eq_false_iff_not]
 omega
theorem unprinted_pays (w:World):PredGrows Tryz.prog 171 #[] unprinted w:=by
 intro W x hx _
 show Calls Tryz.prog 171 #[.int .i32 (x:Int)] W _
 go_enter Tryz.func171,Tryz.ntmps171
 go_wp2
 all_goals (go_ret; refine ⟨ret_bool ?_,Below.refl _ _⟩; rw [Bool.eq_iff_iff]; simp [unprinted] <;> omega)
theorem printed_any (s:ByteArray) (w:World):Calls Tryz.prog 115 #[.string s,.func (.func 171) #[] #[]] w fun e w'=>e=.returned (.bool (!(s.data.toList.all (bytesInB 32 126))))∧Below w.heap.size w w' :=
 (Tryz.strings_ContainsFunc_grows 171 #[] (enters_of Tryz.func171 (by kernel_rfl) rfl) unprinted s w (unprinted_pays w)).mono fun _ _ h=>⟨by
   rw [h.1,idxFunc_bytes unprinted unprinted_big,List.not_all_eq_any_not]; rfl,h.2⟩
section
variable {prev:Option ByteArray} {v:VarV}
theorem varErr_name (h:isNameS v.name=false):varErr prev v=5:=by rw [varErr,if_pos h]
theorem varErr_value (h:isNameS v.name=true) (h1:(300:Int) < v.value.size∨v.value.data.toList.all (bytesInB 32 126)=false):varErr prev v=3:=by
 rw [varErr,if_neg (by rw [h]; decide),if_pos]
 rcases h1 with h1 | h1
 ·rw [decide_eq_true h1]; rfl
 ·rw [h1]; simp
theorem varErr_rest (h:isNameS v.name=true) (h1:¬ (300:Int) < v.value.size) (h2:v.value.data.toList.all (bytesInB 32 126)=true):varErr prev v=if notAfter prev v.name then 8 else 0:=by
 rw [varErr,if_neg (by rw [h]; decide),if_neg]
 rw [h2,decide_eq_false h1]; decide
end
theorem checkVars_large {l:List VarV} (h:(30:Int) < l.length):checkVarsS l=2:=by rw [checkVarsS,if_pos h]
theorem checkVars_list {l:List VarV} (h:¬ (30:Int) < l.length):checkVarsS l=listErr varErr VarV.name (ahead VarV.name l 0) (l.drop 0):=by rw [checkVarsS,if_neg h]; rfl
set_option maxHeartbeats 1000000 in
set_option maxRecDepth 100000 in
theorem act_checkVars (A:Option Addr) (n c:Nat) (l:List VarV) (w:World) (hsl:Sl w (Lt w.heap.size) A n l):Calls Tryz.prog 132 #[.slice A n c] w fun e w'=>e=.returned (.int .i64 (checkVarsS l))∧Below w.heap.size w w':=by
 have hm:n≤9223372036854775807:=hsl.2.1
 have HL:=Lib.hid hsl.1
 by_cases hbig:(30:Int) < n
 ·have HV:=Lib.hid (checkVars_large (l:=l) (by rw [HL.out]; exact hbig))
  go_enter Tryz.func132,Tryz.ntmps132
  go_wp2
  go_ret; exact ⟨ret_int HV.out.symm,Below.refl _ _⟩
 have Hd:=Lib.hid (checkVars_list (l:=l) (by rw [HL.out]; exact hbig))
 go_enter Tryz.func132,Tryz.ntmps132
 go_wp2
 go_loopw [10] (fun i wr=>∃ k:Nat,k≤n∧i=.int .i64 k∧checkVarsS l=listErr varErr VarV.name (ahead VarV.name l k) (l.drop k)∧Below w.heap.size w wr) (fun i _=>n - (intOf i).toNat)
 case atStart=>exact ⟨0,Nat.zero_le _,rfl,Hd.out,Below.refl _ _⟩
 case round =>
  obtain ⟨k,hk,rfl,hd,hbel⟩:=hrel
  have Hr:=Lib.hid hd; clear hd
  by_cases hlt:k < n
  ·obtain ⟨b,o,x,rfl,hb,hx,hs1,hs2,c0,c1⟩:=(hsl.keep (keep_lt hbel)).var hlt
   have hbw:b < wr.heap.size:=Nat.lt_of_lt_of_le hb hbel.size
   have HX:=Lib.hid hx; clear hx
   have HB:=Lib.hid (fun w=>printed_any x.value w)
   cases hp:isNameS x.name
   ·have HV:=Lib.hid (varErr_name (prev:=ahead VarV.name l k) hp)
    go_wp2_with (first
    | (go_at_call 170; refine (script_IsName _ _ hs1).mono ?_; rintro e w1 ⟨rfl,hb1⟩; obtain ⟨hc1,hf1⟩:=bcell hb1; have hz1:=grew hb1)
    | (go_at_call 115; refine (HB.out _).mono ?_; rintro e w2 ⟨rfl,hb2⟩; obtain ⟨hc2,hf2⟩:=bcell hb2; have hz2:=hb2.size))
    go_ret
    exact ⟨ret_int (by rw [Hr.out]; exact (list_stop HX.out HV.out (by decide)).symm),(by repeat (first | exact fr_refl _ | refine fr_call ?_ (by assumption) | refine fr_alloc ?_ _ | refine fr_set ?_ (by simp) _ | refine Below.drew ?_ | refine below_drewN ?_ _))⟩
   by_cases hlg:(300:Int) < x.value.size
   ·have HV:=Lib.hid (varErr_value (prev:=ahead VarV.name l k) hp (.inl hlg))
    go_wp2_with (first
    | (go_at_call 170; refine (script_IsName _ _ hs1).mono ?_; rintro e w1 ⟨rfl,hb1⟩; obtain ⟨hc1,hf1⟩:=bcell hb1; have hz1:=grew hb1)
    | (go_at_call 115; refine (HB.out _).mono ?_; rintro e w2 ⟨rfl,hb2⟩; obtain ⟨hc2,hf2⟩:=bcell hb2; have hz2:=hb2.size))
    go_ret
    exact ⟨ret_int (by rw [Hr.out]; exact (list_stop HX.out HV.out (by decide)).symm),(by repeat (first | exact fr_refl _ | refine fr_call ?_ (by assumption) | refine fr_alloc ?_ _ | refine fr_set ?_ (by simp) _ | refine Below.drew ?_ | refine below_drewN ?_ _))⟩
   cases hv:x.value.data.toList.all (bytesInB 32 126)
   ·have HV:=Lib.hid (varErr_value (prev:=ahead VarV.name l k) hp (.inr hv))
    rw [hv] at HB
    clear hv
    go_wp2_with (first
    | (go_at_call 170; refine (script_IsName _ _ hs1).mono ?_; rintro e w1 ⟨rfl,hb1⟩; obtain ⟨hc1,hf1⟩:=bcell hb1; have hz1:=grew hb1)
    | (go_at_call 115; refine (HB.out _).mono ?_; rintro e w2 ⟨rfl,hb2⟩; obtain ⟨hc2,hf2⟩:=bcell hb2; have hz2:=hb2.size))
    go_ret
    exact ⟨ret_int (by rw [Hr.out]; exact (list_stop HX.out HV.out (by decide)).symm),(by repeat (first | exact fr_refl _ | refine fr_call ?_ (by assumption) | refine fr_alloc ?_ _ | refine fr_set ?_ (by simp) _ | refine Below.drew ?_ | refine below_drewN ?_ _))⟩
   have HO:=Lib.hid (varErr_rest (prev:=ahead VarV.name l k) hp hlg hv)
   rw [hv] at HB
   clear hv
   by_cases hk0:0 < k
   ·have hg:decide ((0:Int) < (k:Int))=true:=by simpa using hk0
    obtain ⟨_,_,y,e0,_,hy,_,_,d0,_⟩:=(hsl.keep (keep_lt hbel)).var (k:=k - 1) (by omega)
    cases e0
    have HA:=Lib.hid (ahead_pos (f:=VarV.name) hk0 hy); clear hy
    cases hle:leS x.name y.name
    ·have HV:=Lib.hid (show varErr (ahead VarV.name l k) x=0 by rw [HO.out,HA.out]; simp [notAfter,hle])
     have hle':=leS_false hle
     go_wp2_with (first
     | (go_at_call 170; refine (script_IsName _ _ hs1).mono ?_; rintro e w1 ⟨rfl,hb1⟩; obtain ⟨hc1,hf1⟩:=bcell hb1; have hz1:=grew hb1)
     | (go_at_call 115; refine (HB.out _).mono ?_; rintro e w2 ⟨rfl,hb2⟩; obtain ⟨hc2,hf2⟩:=bcell hb2; have hz2:=hb2.size))
     have d1:w2.cell? ⟨b,o + (k - 1) * 2,none⟩=some (.string y.name):=by rw [hb2.cell (by show b < _; omega),hb1.cell (by show b < _; simp; omega),World.cell?_alloc_lt _ _ _ (by exact hbw)]; exact d0
     have g1:=IntWalk.i64_in ((k:Int) - 1) ⟨by omega,by omega⟩; have g2:((k:Int) - 1).toNat=k - 1:=(by omega); have g3:(0:Int)≤(k:Int) - 1:=(by omega); have g4:(k:Int) - 1 < n:=(by omega)
     go_quiet (fail)
     clear g1 g2 g3 g4
     go_wp2
     go_round
     case rel=>exact ⟨k + 1,by omega,by go_num,by rw [Hr.out]; exact list_round HX.out HV.out,(by repeat (first | exact fr_refl _ | refine fr_call ?_ (by assumption) | refine fr_alloc ?_ _ | refine fr_set ?_ (by simp) _ | refine Below.drew ?_ | refine below_drewN ?_ _))⟩
     case measure=>simp [intOf]; omega
    ·have HV:=Lib.hid (show varErr (ahead VarV.name l k) x=8 by rw [HO.out,HA.out]; simp [notAfter,hle])
     have hle':=leS_true hle
     go_wp2_with (first
     | (go_at_call 170; refine (script_IsName _ _ hs1).mono ?_; rintro e w1 ⟨rfl,hb1⟩; obtain ⟨hc1,hf1⟩:=bcell hb1; have hz1:=grew hb1)
     | (go_at_call 115; refine (HB.out _).mono ?_; rintro e w2 ⟨rfl,hb2⟩; obtain ⟨hc2,hf2⟩:=bcell hb2; have hz2:=hb2.size))
     have d1:w2.cell? ⟨b,o + (k - 1) * 2,none⟩=some (.string y.name):=by rw [hb2.cell (by show b < _; omega),hb1.cell (by show b < _; simp; omega),World.cell?_alloc_lt _ _ _ (by exact hbw)]; exact d0
     have g1:=IntWalk.i64_in ((k:Int) - 1) ⟨by omega,by omega⟩; have g2:((k:Int) - 1).toNat=k - 1:=(by omega); have g3:(0:Int)≤(k:Int) - 1:=(by omega); have g4:(k:Int) - 1 < n:=(by omega)
     go_quiet (fail)
     clear g1 g2 g3 g4
     go_wp2
     go_ret
     exact ⟨ret_int (by rw [Hr.out]; exact (list_stop HX.out HV.out (by decide)).symm),(by repeat (first | exact fr_refl _ | refine fr_call ?_ (by assumption) | refine fr_alloc ?_ _ | refine fr_set ?_ (by simp) _ | refine Below.drew ?_ | refine below_drewN ?_ _))⟩
   ·have hg:decide ((0:Int) < (k:Int))=false:=by simpa using hk0
    have HV:=Lib.hid (show varErr (ahead VarV.name l k) x=0 by rw [HO.out,show ahead VarV.name l k=none by simp [ahead]; omega]; rfl)
    go_wp2_with (first
    | (go_at_call 170; refine (script_IsName _ _ hs1).mono ?_; rintro e w1 ⟨rfl,hb1⟩; obtain ⟨hc1,hf1⟩:=bcell hb1; have hz1:=grew hb1)
    | (go_at_call 115; refine (HB.out _).mono ?_; rintro e w2 ⟨rfl,hb2⟩; obtain ⟨hc2,hf2⟩:=bcell hb2; have hz2:=hb2.size))
    go_quiet (fail)
    go_wp2
    go_round
    case rel=>exact ⟨k + 1,by omega,by go_num,by rw [Hr.out]; exact list_round HX.out HV.out,(by repeat (first | exact fr_refl _ | refine fr_call ?_ (by assumption) | refine fr_alloc ?_ _ | refine fr_set ?_ (by simp) _ | refine Below.drew ?_ | refine below_drewN ?_ _))⟩
    case measure=>simp [intOf]; omega
  ·go_wp2
   go_ret
   exact ⟨ret_int (by rw [Hr.out,list_end (by rw [hsl.1]; omega)]),hbel⟩
end Go.Proofs.Sm
namespace Go.Proofs.Sm
open Go.RowKit
theorem path_size {s:ByteArray} (h:isPathS s=true):s.size≤200:=by
 have:=(withinB_true ((Bool.and_eq_true_iff.1 h).1)).2
 omega
theorem looksErr_all {l:List Look}:∀ prev,looksErr prev l=0→∀ x∈l,∃ q,lookErr q x=0:=by
 induction l with
 | nil=>intro _ _ x hx; simp at hx
 | cons a l ih =>
   intro prev h x hx
   rw [looksErr] at h
   split at h
   ·rename_i h0
    rcases List.mem_cons.1 hx with rfl | hx
    ·exact ⟨_,h0⟩
    ·exact ih _ h x hx
   ·exact absurd h ‹_›
theorem lookErr_zero {q:Option ByteArray} {x:Look} (h:lookErr q x=0):isPathS x.path=true∧(x.digest.toList.isEmpty=true∨isDigestS x.digest=true)∧(x.digest.toList.isEmpty=true→x.run=false):=by
 unfold lookErr at h
 split at h
 ·omega
 ·split at h
  ·omega
  ·split at h
   ·omega
   ·rename_i h1 h2 h3
    refine ⟨by simpa using h1,?_,fun he=>?_⟩
    ·cases he:x.digest.toList.isEmpty
     ·right
      cases hd:isDigestS x.digest
      ·rw [he,hd] at h2; simp at h2
      ·rfl
     ·left; rfl
    ·cases hr:x.run
     ·rfl
     ·rw [he,hr] at h3
      simp at h3
theorem looks_all {l:List Look} (h:checkLooksS l=0):∀ x∈l,isPathS x.path=true∧(x.digest.toList.isEmpty=true∨isDigestS x.digest=true)∧(x.digest.toList.isEmpty=true→x.run=false):=by
 unfold checkLooksS at h
 split at h
 ·omega
 ·intro x hx
  obtain ⟨q,hq⟩:=looksErr_all _ h x hx
  exact lookErr_zero hq
theorem digest_size {s:ByteArray} (h:s.toList.isEmpty=true∨isDigestS s=true):s.size≤16:=by
 rcases h with h | h
 ·rw [Lib.toList_data,List.isEmpty_iff] at h
  have:=congrArg List.length h
  simp at this
  simp [ByteArray.size,this]
 ·have:=(Bool.and_eq_true_iff.1 h).2
  simp at this
  omega
theorem looks_sizes {l:List Look} (h:checkLooksS l=0):∀ x∈l,x.path.size≤200∧x.digest.size≤16:=fun x hx =>
 ⟨path_size (looks_all h x hx).1,digest_size (looks_all h x hx).2.1⟩
theorem checkFiles_err {l:List FileV} (h:checkFilesS l=0):l.length≤1000∧filesErr none l=0∧l.any (fun x=>clashS l x.path)=false∧totalS l≤2000000:=by
 unfold checkFilesS at h
 split at h
 ·omega
 ·split at h
  ·rename_i h1; exact absurd h h1
  ·split at h
   ·omega
   ·split at h
    ·omega
    ·rename_i h1 h2 h3 h4
     refine ⟨by omega,by simpa using h2,by simpa using h3,by omega⟩
theorem files_sizes {l:List FileV} (h:checkFilesS l=0):∀ x∈l,x.path.size≤200∧x.bytes.length≤100000:=by
 intro x hx
 obtain ⟨i,hi⟩:=List.getElem?_of_mem hx
 have:=filesErr_step none (checkFiles_err h).2.1 i x hi
 exact ⟨path_size this.2.1,this.2.2⟩
structure ResOk (r:ResultV):Prop where
 code:0≤r.code∧r.code≤999999
 command:0≤r.command∧r.command≤50
 text:r.text.size≤100000
 told:isTextS r.text=true
 files:checkFilesS r.files=0
 none:r.code≠0→r.files=[]
 looks:checkLooksS r.looks=0
theorem checkResult_ok {r:ResultV} (h:checkResultS r=0):ResOk r:=by
 unfold checkResultS at h
 split at h
 ·omega
 ·split at h
  ·omega
  ·split at h
   ·omega
   ·split at h
    ·rename_i h1; exact absurd h h1
    ·split at h
     ·omega
     ·rename_i h1 h2 h3 h4 h5
      simp only [Bool.not_eq_false,Bool.and_eq_true] at h1
      have h6:=withinB_true h1.1
      have h7:=withinB_true h1.2
      refine ⟨h6,h7,by omega,by simpa using h3,by simpa using h4,fun hc=>?_,h⟩
      cases hf:r.files with
      | nil=>rfl
      | cons a l=>rw [hf] at h5; simp at h5; exact absurd h5 hc
theorem flatMap_length {α:Type} {f:α→List UInt8} {m:Nat}:∀ {l:List α},(∀ x∈l,(f x).length≤m)→(l.flatMap f).length≤m * l.length
 | [],_=>by simp
 | a :: l,h=>by
   have h1:=h a (by simp)
   have h2:=flatMap_length (l:=l) (fun x hx=>h x (by simp [hx]))
   simp only [List.flatMap_cons,List.length_append,List.length_cons,Nat.mul_succ]
   omega
theorem flatMap_succ {α:Type} {f:α→List UInt8} {l:List α} {k:Nat} {x:α} (hx:l[k]?=some x):(l.take (k + 1)).flatMap f=(l.take k).flatMap f ++ f x:=by
 rw [List.take_add_one,hx,List.flatMap_append]
 simp
end Go.Proofs.Sm
namespace Go.Proofs.Sm
open Go.RowKit
theorem blob_Within (p q:ByteArray) (w:World) (h:q.size≤100000):Calls Tryz.prog 173 #[.string p,.string q] w fun e w'=>e=.returned (.bool (liesS p q))∧w=w':=by
 have HV:=Lib.hid (show liesS p q=Lib.hasPrefix p.data.toList (q ++ (⟨#[47]⟩:ByteArray)).data.toList by rw [liesS]; congr 1)
 have HP:=Lib.hid (fun s w=>Tryz.strings_HasPrefix p s w)
 go_enter Tryz.func173,Tryz.ntmps173
 go_wp2_with (go_at_call 214; refine (HP.out _ _).mono ?_; rintro e w1 ⟨rfl,rfl⟩)
 go_ret
 exact ⟨ret_bool HV.out.symm,rfl⟩
theorem checkOutputs1 (p q:ByteArray) (g:Nat) (w:World) (hc:w.cell? ⟨g,0,none⟩=some (.string p)) (h:q.size≤100000):Calls Tryz.prog 172 #[.string q,.pointer (some ⟨g,0,none⟩)] w fun e w'=>e=.returned (.bool (liesS p q))∧Below w.heap.size w w':=by
 go_enter Tryz.func172,Tryz.ntmps172
 go_wp2_with (go_at_call 173; refine (blob_Within _ _ _ h).mono ?_; rintro e w1 ⟨rfl,rfl⟩)
 go_ret
 exact ⟨rfl,Below.refl _ _⟩
theorem outErr_path {prev:Option ByteArray} {p:ByteArray} (h:isPathS p=false):outErr prev p=3:=by rw [outErr,if_pos h]
theorem outErr_rest {prev:Option ByteArray} {p:ByteArray} (h:isPathS p=true):outErr prev p=if notAfter prev p then 8 else 0:=by rw [outErr,if_neg (by rw [h]; decide)]
theorem listErr_all {α:Type} {err:Option ByteArray→α→Int} {key:α→ByteArray} {l:List α}:∀ prev,listErr err key prev l=0→∀ x∈l,∃ q,err q x=0:=by
 induction l with
 | nil=>intro _ _ x hx; simp at hx
 | cons a l ih =>
   intro prev h x hx
   rw [listErr] at h
   split at h
   ·rename_i h0
    rcases List.mem_cons.1 hx with rfl | hx
    ·exact ⟨_,h0⟩
    ·exact ih _ h x hx
   ·exact absurd h ‹_›
theorem outs_paths {l:List ByteArray} (h:listErr outErr id none l=0):∀ x∈l,isPathS x=true:=by
 intro x hx
 obtain ⟨q,hq⟩:=listErr_all _ h x hx
 cases hp:isPathS x
 ·rw [outErr_path hp] at hq; omega
 ·rfl
theorem outs_none {l:List ByteArray} (h:l.length=0):checkOutputsS l=9:=by rw [checkOutputsS,if_pos h]
theorem outs_large {l:List ByteArray} (h0:l.length≠0) (h:(100:Int) < l.length):checkOutputsS l=2:=by rw [checkOutputsS,if_neg h0,if_pos h]
theorem outs_err {l:List ByteArray} (h0:l.length≠0) (h:¬ (100:Int) < l.length) (h1:listErr outErr id none l≠0):checkOutputsS l=listErr outErr id none l:=by rw [checkOutputsS,if_neg h0,if_neg h,if_pos h1]
theorem outs_rest {l:List ByteArray} (h0:l.length≠0) (h:¬ (100:Int) < l.length) (h1:listErr outErr id none l=0):checkOutputsS l=if l.any (fun p=>l.any fun q=>liesS p q) then 12 else 0:=by
 rw [checkOutputsS,if_neg h0,if_neg h,if_neg (by rw [h1]; decide)]
set_option maxHeartbeats 1000000 in
set_option maxRecDepth 100000 in
theorem act_checkOutputs (A:Option Addr) (n c:Nat) (l:List ByteArray) (w:World) (hE:Env w) (hsl:Sl w (Lt w.heap.size) A n l):Calls Tryz.prog 133 #[.slice A n c] w fun e w'=>e=.returned (.int .i64 (checkOutputsS l))∧Below w.heap.size w w':=by
 have hm:n≤9223372036854775807:=hsl.2.1
 have HL:=Lib.hid hsl.1
 by_cases hn0:n=0
 ·subst hn0
  have HV:=Lib.hid (outs_none (l:=l) HL.out)
  go_enter Tryz.func133,Tryz.ntmps133
  go_wp2
  go_ret; exact ⟨ret_int HV.out.symm,Below.refl _ _⟩
 have h0:((n:Int) == 0)=false:=by rw [beq_eq_false_iff_ne]; omega
 by_cases hbig:(100:Int) < n
 ·have HV:=Lib.hid (outs_large (l:=l) (by rw [HL.out]; exact hn0) (by rw [HL.out]; exact hbig))
  go_enter Tryz.func133,Tryz.ntmps133
  go_wp2
  go_ret; exact ⟨ret_int HV.out.symm,Below.refl _ _⟩
 have HE1:=Lib.hid (fun h=>outs_err (l:=l) (by rw [HL.out]; exact hn0) (by rw [HL.out]; exact hbig) h)
 have HE2:=Lib.hid (fun h=>outs_rest (l:=l) (by rw [HL.out]; exact hn0) (by rw [HL.out]; exact hbig) h)
 go_enter Tryz.func133,Tryz.ntmps133
 go_wp2
 go_loopw [3,4,15] (fun _ _ i wr=>∃ k:Nat,k≤n∧i=.int .i64 k∧listErr outErr id none l=listErr outErr id (ahead id l k) (l.drop k)∧Below w.heap.size w wr) (fun _ _ i _=>n - (intOf i).toNat)
 case atStart=>exact ⟨0,Nat.zero_le _,rfl,rfl,Below.refl _ _⟩
 case round =>
  obtain ⟨k,hk,rfl,hd,hbel⟩:=hrel
  have Hr:=Lib.hid hd; clear hd
  by_cases hlt:k < n
  ·obtain ⟨b,o,x,rfl,hb,hx,hxs,c0⟩:=(hsl.keep (keep_lt hbel)).str hlt
   have hbw:b < wr.heap.size:=Nat.lt_of_lt_of_le hb hbel.size
   have HX:=Lib.hid hx; clear hx
   have hEr:=hE.then_ hbel
   cases hp:isPathS x
   ·have HV:=Lib.hid (list_stop (key:=id) HX.out (outErr_path (prev:=ahead id l k) hp) (by decide))
    go_wp2_with (go_at_call 44; refine (blob_IsPath _ _ hEr).mono ?_; rintro e w1 ⟨rfl,hb1⟩; obtain ⟨hc1,hf1⟩:=bcell hb1)
    go_ret
    exact ⟨ret_int (by rw [HE1.out (by rw [Hr.out,HV.out]; decide),Hr.out,HV.out]),fr_call hbel hb1⟩
   have HO:=Lib.hid (outErr_rest (prev:=ahead id l k) hp)
   by_cases hk0:0 < k
   ·have hg:decide ((0:Int) < (k:Int))=true:=by simpa using hk0
    obtain ⟨_,_,y,e0,_,hy,hys,d0⟩:=(hsl.keep (keep_lt hbel)).str (k:=k - 1) (by omega)
    cases e0
    have HA:=Lib.hid (ahead_pos (f:=id) hk0 hy); clear hy
    cases hle:leS x y
    ·have HV:=Lib.hid (show outErr (ahead id l k) x=0 by rw [HO.out,HA.out]; simp [notAfter,hle])
     have hle':=leS_false hle
     have g1:=IntWalk.i64_in ((k:Int) - 1) ⟨by omega,by omega⟩; have g2:((k:Int) - 1).toNat=k - 1:=(by omega); have g3:(0:Int)≤(k:Int) - 1:=(by omega); have g4:(k:Int) - 1 < n:=(by omega)
     go_wp2_with (go_at_call 44; refine (blob_IsPath _ _ hEr).mono ?_; rintro e w1 ⟨rfl,hb1⟩; obtain ⟨hc1,hf1⟩:=bcell hb1)
     clear g1 g2 g3 g4
     go_round
     case rel=>exact ⟨k + 1,by omega,by go_num,by rw [Hr.out]; exact list_round HX.out HV.out,fr_call hbel hb1⟩
     case measure=>simp [intOf]; omega
    ·have HV:=Lib.hid (list_stop (key:=id) HX.out (show outErr (ahead id l k) x=8 by rw [HO.out,HA.out]; simp [notAfter,hle]) (by decide))
     have hle':=leS_true hle
     have g1:=IntWalk.i64_in ((k:Int) - 1) ⟨by omega,by omega⟩; have g2:((k:Int) - 1).toNat=k - 1:=(by omega); have g3:(0:Int)≤(k:Int) - 1:=(by omega); have g4:(k:Int) - 1 < n:=(by omega)
     go_wp2_with (go_at_call 44; refine (blob_IsPath _ _ hEr).mono ?_; rintro e w1 ⟨rfl,hb1⟩; obtain ⟨hc1,hf1⟩:=bcell hb1)
     clear g1 g2 g3 g4
     go_ret
     exact ⟨ret_int (by rw [HE1.out (by rw [Hr.out,HV.out]; decide),Hr.out,HV.out]),fr_call hbel hb1⟩
   ·have hg:decide ((0:Int) < (k:Int))=false:=by simpa using hk0
    have HV:=Lib.hid (show outErr (ahead id l k) x=0 by rw [HO.out,show ahead id l k=none by simp [ahead]; omega]; rfl)
    go_wp2_with (go_at_call 44; refine (blob_IsPath _ _ hEr).mono ?_; rintro e w1 ⟨rfl,hb1⟩; obtain ⟨hc1,hf1⟩:=bcell hb1)
    go_round
    case rel=>exact ⟨k + 1,by omega,by go_num,by rw [Hr.out]; exact list_round HX.out HV.out,fr_call hbel hb1⟩
    case measure=>simp [intOf]; omega
  ·have HZ:=Lib.hid (show listErr outErr id none l=0 by rw [Hr.out,list_end (by rw [hsl.1]; omega)])
   have HP:=Lib.hid (outs_paths HZ.out)
   have HR:=Lib.hid (HE2.out HZ.out)
   go_wp2
   go_loopw [6,37] (fun _ i wr=>∃ q:Nat,q≤n∧i=.int .i64 q∧(l.take q).any (fun p=>l.any fun q=>liesS p q)=false∧Below w.heap.size w wr) (fun _ i _=>n - (intOf i).toNat)
   case atStart=>exact ⟨0,Nat.zero_le _,rfl,rfl,hbel⟩
   case round =>
    clear hbel
    obtain ⟨q,hq,rfl,hno,hbel⟩:=hrel
    have HN:=Lib.hid hno; clear hno
    by_cases hlt2:q < n
    ·obtain ⟨b,o,x,rfl,hb,hx,hxs,c0⟩:=(hsl.keep (keep_lt hbel)).str hlt2
     have HX:=Lib.hid hx; clear hx
     have hbel2:=fr_alloc hbel (.cells #[.string x] 9)
     have HC:=Lib.hid (slices_ContainsFunc1 172 (enters_of Tryz.func172 (by kernel_rfl) rfl) (.pointer (some ⟨wr.heap.size,0,none⟩)) (fun q=>liesS x q) (some ⟨b,o,none⟩) n c l
      (wr.alloc (.cells #[.string x] 9)) (sl_call hsl hbel2 (Nat.le_refl _)) (fun W y hW _ hy=>checkOutputs1 x y wr.heap.size W
        ((hW.cell (p:=⟨wr.heap.size,0,none⟩) (by simp)).trans (by rw [World.cell?,heap_alloc_new wr (.cells #[.string x] 9)]; rfl)) (by have:=path_size (HP.out y hy); omega)))
     cases hv:l.any (fun q=>liesS x q)
     ·have HQ:=Lib.hid (any_step (p:=fun p=>l.any fun q=>liesS p q) HX.out HN.out hv)
      rw [hv] at HC
      go_wp2_with fail
      refine HC.out.mono ?_
      rintro e w3 ⟨rfl,hb3⟩
      go_wp2
      go_round
      case rel=>exact ⟨q + 1,by omega,by go_num,HQ.out,fr_call hbel2 hb3⟩
      case measure=>simp [intOf]; omega
     ·have HQ:=Lib.hid (any_yes (p:=fun p=>l.any fun q=>liesS p q) HX.out hv)
      rw [hv] at HC
      go_wp2_with fail
      refine HC.out.mono ?_
      rintro e w3 ⟨rfl,hb3⟩
      go_wp2
      go_ret
      exact ⟨ret_int (by rw [HR.out,if_pos HQ.out]),fr_call hbel2 hb3⟩
    ·have HQ:=Lib.hid (any_end (by rw [hsl.1]; omega) HN.out)
     go_wp2
     go_ret
     exact ⟨ret_int (by rw [HR.out,HQ.out]; rfl),hbel⟩
end Go.Proofs.Sm
