/- Words and walks that the claims share, part 4. -/
import Derived.Test.YtaabdbephemboaaGreatDoorBx1
import Derived.Test.YtaabdbephemboaaGreatDoorBx3
import Derived.Test.YtaabdbephemboaaGreatDoorProg
import Derived.WalkSpells
import Derived.WalkLawsBesides
import Derived.BigQuiet
import Derived.Deep.QuietTactic
import Derived.Outline
import Derived.Deep.DeepFit
import Derived.Deep.LoopGhost
import Derived.Deep.DeepCutAuto
import Derived.Lib.Strings
import Derived.Lib.SplitLaws
import Derived.Lib.SlTrimSet
import Derived.Shelf.Strings.SlTrimAscii
import Derived.Laws.BitsAllLaws
namespace Go.Proofs.Sm
open Go.RowKit
structure Env (w:World):Prop where
 size:8≤w.heap.size
 most:∃ m,w.cell? ⟨0,0,none⟩=some (.int .i64 m)
 utf8:Lib.Utf8Tabs 2 3 w
theorem Env.of_heap {w w':World} (h:Env w) (hs:w.heap.size≤w'.heap.size) (hk:∀ k,k < 8→w'.heap[k]?=w.heap[k]?):Env w' where
 size:=Nat.le_trans h.size hs
 most:=by
  obtain ⟨m,hm⟩:=h.most
  exact ⟨m,(World.cell?_of_block (w:=w) (hk _ (by decide))).trans hm⟩
 utf8:=⟨fun c hc=>(World.cell?_of_block (w:=w) (hk 2 (by decide))).trans (h.utf8.1 c hc),fun i hi=>⟨(World.cell?_of_block (w:=w) (hk 3 (by decide))).trans (h.utf8.2 i hi).1,(World.cell?_of_block (w:=w) (hk 3 (by decide))).trans (h.utf8.2 i hi).2⟩⟩
theorem Env.below {B:Nat} {w w':World} (h:Env w) (hb:Below B w w') (hB:8≤B):Env w':=h.of_heap hb.size fun k hk=>hb.block k (Nat.lt_of_lt_of_le hk hB)
theorem Env.then_ {w w':World} (h:Env w) (hb:Below w.heap.size w w'):Env w':=h.below hb h.size
theorem Env.alloc {w:World} (h:Env w) (o:Obj):Env (w.alloc o):=h.then_ ((Below.refl _ _).alloc (Nat.le_refl _) o)
theorem split_any (s sep:ByteArray) (w:World) (hE:Env w) (hs:s.size < 4294967281) (h1:1≤sep.size) :
 Calls Tryz.prog 81 #[.string s,.string sep] w fun e w' =>
  e=.returned (.slice (some ⟨w.heap.size,0,none⟩) (Lib.countB s sep + 1) (Lib.countB s sep + 1))∧w.alloc (.cells ((Lib.splitB sep 0 (Lib.countB s sep) s).map Value.string).toArray 9)=w':=by
 obtain ⟨m,hm⟩:=hE.most
 exact (Tryz.strings_Split s sep m w hs hm h1).mono fun _ _ h=>⟨h.1,h.2.symm⟩
end Go.Proofs.Sm
namespace Go.Proofs.Sm
open Go.RowKit
def withinB (n lo hi:Int):Bool:=decide (lo≤n) && decide (n≤hi)
theorem withinB_true {n lo hi:Int} (h:withinB n lo hi=true):lo≤n∧n≤hi:=by simpa [withinB] using h
theorem withinB_false {n lo hi:Int} (h:withinB n lo hi=false):n < lo∨hi < n:=by simp [withinB] at h; omega
def partI (c:Int):Bool:=(97≤c && c≤122) || (65≤c && c≤90) || (48≤c && c≤57) || c == 46 || c == 95 || c == 45 || c == 43
def partB (c:UInt8):Bool:=partI (c.toNat:Int)
def isPartS (s:ByteArray):Bool:=s.data.toList.all partB && !(s.data.toList == []) && !(s.data.toList == [46]) && !(s.data.toList == [46,46])
def hexI (c:Int):Bool:=(48≤c && c≤57) || (97≤c && c≤102)
def hexB (c:UInt8):Bool:=hexI (c.toNat:Int)
def isDigestS (s:ByteArray):Bool:=s.data.toList.all hexB && ((s.size:Int) == 16)
end Go.Proofs.Sm
namespace Go.Proofs.Sm
open Go.RowKit
theorem partI_index (c:Int) (h0:0≤c) (h1:c≤255):(0≤Lib.indexByte (⟨#[46,95,45,43]⟩:ByteArray).data.toList c.toNat.toUInt8)=(c=46∨c=95∨c=45∨c=43):=by
 obtain ⟨n,rfl⟩:=Int.eq_ofNat_of_zero_le h0
 have hn:n < 256:=by omega
 clear h0 h1
 revert n
 decide +kernel
theorem blob_inPart (c:Int) (h0:0≤c) (h1:c≤255) (w:World):Calls Tryz.prog 119 #[.int .u8 c] w fun e w'=>e=.returned (.bool (partI c))∧w=w':=by
 have hx:=Lib.hid (partI_index c h0 h1)
 go_enter Tryz.func119,Tryz.ntmps119
 go_wp2_with (go_at_call 160; refine (Tryz.strings_IndexByte _ _ _).mono ?_; rintro e w1 ⟨rfl,rfl⟩)
 all_goals (go_ret; refine ⟨ret_bool ?_,rfl⟩; rw [Bool.eq_iff_iff]; try (simp only [decide_eq_true_eq,hx.out]); simp [partI] <;> omega)
end Go.Proofs.Sm
namespace Go.Proofs.Sm
open Go.RowKit
theorem blob_isPart (s:ByteArray) (w:World) (hs:s.size≤maxLen):Calls Tryz.prog 82 #[.string s] w fun e w'=>e=.returned (.bool (isPartS s))∧w=w':=by
 unfold maxLen at hs
 go_enter Tryz.func82,Tryz.ntmps82
 go_wp2
 go_loop [3,6] (fun _ i=>∃ k:Nat,k≤s.size∧i=.int .i64 k∧(s.data.toList.take k).all partB=true) (fun _ i=>s.size - (intOf i).toNat)
 case atStart=>exact ⟨0,Nat.zero_le _,rfl,rfl⟩
 case round =>
  obtain ⟨k,hk,rfl,hall⟩:=hrel
  have H:=Lib.hid hall; clear hall
  by_cases hlt:k < s.size
  ·have h255:(s[k].toNat:Int)≤255:=by have:=s[k].toNat_lt; omega
   go_wp2_with (go_at_call 119; refine (blob_inPart _ (Int.natCast_nonneg _) h255 _).mono ?_; rintro e w1 ⟨rfl,rfl⟩)
   all_goals first
    | (go_round
       case rel=>exact ⟨k + 1,by omega,by go_num,all_step hlt H.out (by simp_all [partB])⟩
       case measure=>simp [intOf]; omega)
    | (go_ret; exact ⟨ret_bool (by simp [isPartS,all_no (p:=partB) hlt (by simp_all [partB])]),rfl⟩)
  ·have He:=all_end hlt H.out
   go_wp2
   all_goals (go_ret; exact ⟨ret_bool (by simp_all [isPartS,Lib.toList_data]),rfl⟩)
end Go.Proofs.Sm
namespace Go.Proofs.Sm
open Go.RowKit
theorem splitB_size {sep:ByteArray} {n:Nat}:∀ {s x:ByteArray},x∈Lib.splitB sep 0 n s→x.size≤s.size:=by
 induction n with
 | zero =>
   intro s x h
   simp [Lib.splitB] at h
   subst h
   exact Nat.le_refl _
 | succ k ih =>
   intro s x h
   unfold Lib.splitB at h
   split at h
   ·simp at h; subst h; exact Nat.le_refl _
   ·simp only [List.mem_cons] at h
    rcases h with rfl | h
    ·rw [ByteArray.size_extract]; omega
    ·have:=ih h
     rw [ByteArray.size_extract] at this
     omega
def partsS (s:ByteArray):List ByteArray:=Lib.splitB ⟨#[47]⟩ 0 (Lib.countB s ⟨#[47]⟩) s
def isPathS (s:ByteArray):Bool:=withinB s.size 1 200 && (partsS s).all isPartS
theorem isPathS_eq (s:ByteArray):isPathS s=(withinB s.size 1 200 && (partsS s).all isPartS):=rfl
theorem partsS_length (s:ByteArray):(partsS s).length=Lib.countB s ⟨#[47]⟩ + 1:=Lib.splitB_all _ (by decide) 0 _ _ rfl
end Go.Proofs.Sm
namespace Go.Proofs.Sm
open Go.RowKit
theorem dropWhile_nil {α:Type} {p:α→Bool}:∀ {l:List α},l.dropWhile p=[]↔l.all p=true
 | []=>by simp
 | a :: l=>by
   rw [List.dropWhile_cons,List.all_cons]
   cases h:p a
   ·simp
   ·simp only [if_true,Bool.true_and]
    exact dropWhile_nil
theorem dropWhile_all {α:Type} {p:α→Bool}:∀ {l:List α},(l.dropWhile p).all p=true→l.all p=true
 | [],_=>rfl
 | a :: l,h=>by
   rw [List.dropWhile_cons] at h
   cases hp:p a
   ·rw [hp] at h; exact h
   ·rw [hp] at h
    rw [List.all_cons,hp,Bool.true_and]
    exact dropWhile_all h
theorem trimS_nil (l cs:List UInt8):Lib.trimS l cs=[]↔l.all (cs.contains ·)=true:=by
 unfold Lib.trimS Lib.trimLeftS Lib.trimRightS
 rw [dropWhile_nil,List.all_reverse]
 constructor
 ·intro h
  have:=dropWhile_all h
  rwa [List.all_reverse] at this
 ·intro h
  have:l.reverse.dropWhile (cs.contains ·)=[]:=dropWhile_nil.2 (by rwa [List.all_reverse])
  rw [this]; rfl
def hexDigits:List UInt8:=[48,49,50,51,52,53,54,55,56,57,97,98,99,100,101,102]
theorem hexB_mem:∀ c:UInt8,hexDigits.contains c=hexB c:=by
 have h:∀ n:Fin 256,hexDigits.contains (UInt8.ofNat n.val)=hexB (UInt8.ofNat n.val):=by decide +kernel
 intro c
 have:=h ⟨c.toNat,c.toNat_lt⟩
 simpa using this
theorem trim_hex (l:List UInt8):(Lib.trimS l hexDigits=[])↔l.all hexB=true:=by
 rw [trimS_nil]
 have:(hexDigits.contains ·)=hexB:=funext hexB_mem
 rw [this]
def digitI (c:Int):Bool:=48≤c && c≤57
def digitB (c:UInt8):Bool:=digitI (c.toNat:Int)
def digits:List UInt8:=[48,49,50,51,52,53,54,55,56,57]
theorem digitB_mem:∀ c:UInt8,digits.contains c=digitB c:=by
 have h:∀ n:Fin 256,digits.contains (UInt8.ofNat n.val)=digitB (UInt8.ofNat n.val):=by decide +kernel
 intro c
 have:=h ⟨c.toNat,c.toNat_lt⟩
 simpa using this
theorem trim_digits (l:List UInt8):(Lib.trimS l digits=[])↔l.all digitB=true:=by
 rw [trimS_nil]
 have:(digits.contains ·)=digitB:=funext digitB_mem
 rw [this]
end Go.Proofs.Sm
namespace Go.Proofs.Sm
open Go.RowKit
theorem parts_le {s x:ByteArray} (h:x∈partsS s):x.size≤s.size:=splitB_size h
theorem parts_many (s:ByteArray):(partsS s).length≤s.size + 1:=by
 have:=Lib.countB_le ⟨#[47]⟩ (by decide) _ s (Nat.le_refl _)
 rw [partsS_length]; omega
theorem split_parts (s:ByteArray) (w:World) (hE:Env w) (hs:s.size < 4294967281) :
 Calls Tryz.prog 81 #[.string s,.string ⟨#[47]⟩] w fun e w' =>
  ∃ A n,e=.returned (.slice A n n)∧Sl w' (Lt w'.heap.size) A n (partsS s)∧Below w.heap.size w w':=by
 refine (split_any s ⟨#[47]⟩ w hE hs (by decide)).mono ?_
 rintro e w' ⟨rfl,rfl⟩
 refine ⟨_,_,rfl,?_,(Below.refl _ _).alloc (Nat.le_refl _) _⟩
 have hl:=parts_many s
 have h:=Sl.new_strs (w:=w) (t:=9) (l:=partsS s) (by unfold maxLen; omega) (fun x hx=>by have:=parts_le hx; unfold maxLen; omega)
 rw [partsS_length] at h
 have e:partsS s=Lib.splitB ⟨#[47]⟩ 0 (Lib.countB s ⟨#[47]⟩) s:=rfl
 rw [←e]
 simpa using h
theorem blob_IsPath (s:ByteArray) (w:World) (hE:Env w):Calls Tryz.prog 44 #[.string s] w fun e w'=>e=.returned (.bool (isPathS s))∧Below w.heap.size w w':=by
 have Hd:=Lib.hid (isPathS_eq s)
 by_cases h1:(s.size:Int) < 1
 ·go_enter Tryz.func44,Tryz.ntmps44
  go_wp2
  go_ret; exact ⟨ret_bool (by rw [Hd.out]; simp [withinB]; omega),Below.refl _ _⟩
 by_cases h2:(200:Int) < s.size
 ·go_enter Tryz.func44,Tryz.ntmps44
  go_wp2
  go_ret; exact ⟨ret_bool (by rw [Hd.out]; simp [withinB]; omega),Below.refl _ _⟩
 have hw:withinB s.size 1 200=true:=by simp [withinB]; omega
 have hl:=parts_many s
 have Hsp:=Lib.hid (split_parts s w hE (by omega))
 have Hw:=Lib.hid hw; clear hw
 generalize isPathS s=res at *
 generalize partsS s=ps at *
 go_enter Tryz.func44,Tryz.ntmps44
 go_wp2_with (go_at_call 81; refine Hsp.out.mono ?_; rintro e w1 ⟨A,n,rfl,hsl,hbel⟩)
 have hn':n≤201:=by have:=hsl.1; omega
 go_loop [4,16] (fun _ i=>∃ k:Nat,k≤n∧i=.int .i64 k∧(ps.take k).all isPartS=true) (fun _ i=>n - (intOf i).toNat)
 case atStart=>exact ⟨0,Nat.zero_le _,rfl,rfl⟩
 case round =>
  obtain ⟨k,hk,rfl,hall⟩:=hrel
  have H:=Lib.hid hall; clear hall
  by_cases hlt:k < n
  ·obtain ⟨b,o,x,rfl,hb,hx,hxs,c0⟩:=hsl.str hlt
   have Hx:=Lib.hid hx; clear hx
   go_wp2_with (go_at_call 82; refine (blob_isPart _ _ hxs).mono ?_; rintro e w1 ⟨rfl,rfl⟩)
   all_goals first
    | (go_round
       case rel=>exact ⟨k + 1,by omega,by go_num,lall_step Hx.out H.out (of_not' (by assumption))⟩
       case measure=>simp [intOf]; omega)
    | (go_ret; exact ⟨ret_bool (by rw [Hd.out,Hw.out,lall_no (p:=isPartS) Hx.out (of_not (by assumption))]; rfl),hbel⟩)
  ·have He:=Lib.hid (lall_end (by rw [hsl.1]; omega) H.out)
   go_wp2
   go_ret; exact ⟨ret_bool (by rw [Hd.out,He.out,Hw.out]; rfl),hbel⟩
theorem ascii_of_all {l:List UInt8} (h:l.all (fun b=>b.toNat < 128)=true):∀ (j:Nat) b,l[j]?=some b→b.toNat < 128:=by
 intro j b hb
 have:=(List.all_eq_true.1 h) b (List.mem_of_getElem? hb)
 simpa using this
theorem trim_hex_any (s:ByteArray) (w:World) (hs:s.size≤maxLen):Calls Tryz.prog 114 #[.string s,.string ⟨#[48,49,50,51,52,53,54,55,56,57,97,98,99,100,101,102]⟩] w fun e w' =>
 ∃ r:ByteArray,e=.returned (.string r)∧r.toList.isEmpty=s.data.toList.all hexB∧Below w.heap.size w w':=by
 refine (Any.strings_Trim_laid Tryz.lays160 (by kernel_rfl) s ⟨#[48,49,50,51,52,53,54,55,56,57,97,98,99,100,101,102]⟩ w hs (by decide) (ascii_of_all (by decide))).mono ?_
 rintro e w' ⟨rfl,hb⟩
 refine ⟨_,rfl,?_,hb⟩
 rw [Lib.toList_data,Bool.eq_iff_iff,List.isEmpty_iff]
 exact trim_hex _
theorem blob_IsDigest (s:ByteArray) (w:World) (hs:s.size≤maxLen):Calls Tryz.prog 77 #[.string s] w fun e w'=>e=.returned (.bool (isDigestS s))∧Below w.heap.size w w':=by
 cases h16:((s.size:Int) == 16)
 ·go_enter Tryz.func77,Tryz.ntmps77
  go_wp2
  go_ret; exact ⟨ret_bool (by rw [isDigestS,h16]; simp),Below.refl _ _⟩
 ·have Hd:Hid (isDigestS s=s.data.toList.all hexB):=by show _=_; rw [isDigestS,h16]; simp
  go_enter Tryz.func77,Tryz.ntmps77
  go_wp2_with (go_at_call 114; refine (trim_hex_any s w hs).mono ?_; rintro e w1 ⟨r,rfl,hr,hb⟩; have Hr:=Lib.hid hr; clear hr)
  go_ret; exact ⟨ret_bool (by rw [Hd.out,←Hr.out]),hb⟩
end Go.Proofs.Sm
namespace Go.Proofs.Sm
open Go.RowKit
def fnvStep (h:Nat) (c:UInt8):Nat:=((h ^^^ c.toNat) * 1099511628211) % 18446744073709551616
def fnv (l:List UInt8):Nat:=l.foldl fnvStep 14695981039346656037
def U64 (h:Nat):Prop:=h < 18446744073709551616
theorem fnvStep_lt (h:Nat) (c:UInt8):U64 (fnvStep h c):=Nat.mod_lt _ (by decide)
theorem fnv_lt (l:List UInt8):U64 (fnv l):=by
 unfold fnv
 have key:∀ (l:List UInt8) (h:Nat),U64 h→U64 (l.foldl fnvStep h):=by
  intro l
  induction l with
  | nil=>exact fun h hh=>hh
  | cons c l ih=>exact fun h _=>ih _ (fnvStep_lt h c)
 exact key l _ (by unfold U64; decide)
theorem fnv_zero (l:List UInt8):fnv (l.take 0)=14695981039346656037:=by rw [List.take_zero,fnv,List.foldl_nil]
theorem fnv_succ {l:List UInt8} {k:Nat} {x:UInt8} (hx:l[k]?=some x):fnv (l.take (k + 1))=fnvStep (fnv (l.take k)) x:=by
 unfold fnv
 rw [List.take_add_one,hx,List.foldl_append,Option.toList_some,List.foldl_cons,List.foldl_nil]
theorem wrap_u64_byte (c:UInt8):IntKind.u64.wrap (c.toNat:Int)=(c.toNat:Int):=by
 have:=c.toNat_lt
 rw [IntKind.wrap_u64]
 omega
theorem fnv_walk (h:Nat) (hh:U64 h) (c:UInt8):IntKind.u64.wrap (bits .xor .u64 (h:Int) (IntKind.u64.wrap (c.toNat:Int)) * 1099511628211)=((fnvStep h c:Nat):Int):=by
 rw [wrap_u64_byte,u64_xor_nat h c.toNat hh (by have:=c.toNat_lt; omega),IntKind.wrap_u64]
 unfold fnvStep
 omega
def hexChar (d:Nat):UInt8:=hexDigits.getD d 0
def digestS (l:List UInt8):ByteArray:=⟨((List.range 16).map fun i=>hexChar (fnv l / 16 ^ (15 - i) % 16)).toArray⟩
theorem digestS_eq {l:List UInt8} {h:Nat} (e:h=fnv l):digestS l=⟨((List.range 16).map fun i=>hexChar (h / 16 ^ (15 - i) % 16)).toArray⟩:=by subst e; rfl
theorem hexGet (d:Nat) (hd:d < 16):(⟨#[48,49,50,51,52,53,54,55,56,57,97,98,99,100,101,102]⟩:ByteArray)[d]'(show d < 16 from hd)=hexChar d:=by
 have key:∀ d:Fin 16,(⟨#[48,49,50,51,52,53,54,55,56,57,97,98,99,100,101,102]⟩:ByteArray)[d.val]'(show d.val < 16 from d.isLt)=hexChar d.val:=by decide
 exact key ⟨d,hd⟩
theorem nibble (h j:Nat) (hh:U64 h):bits .and .u64 ((h / 16 ^ j:Nat):Int) 15=((h / 16 ^ j % 16:Nat):Int):=by
 have h1:h / 16 ^ j < 18446744073709551616:=Nat.lt_of_le_of_lt (Nat.div_le_self _ _) hh
 have:=u64_and_nat (h / 16 ^ j) 15 h1 (by decide)
 rw [nat_mask4] at this
 exact this
theorem shift4 (h j:Nat):((h / 16 ^ j:Nat):Int) / 16=((h / 16 ^ (j + 1):Nat):Int):=by
 rw [Nat.pow_succ,←Nat.div_div_eq_div_mul]
 omega
end Go.Proofs.Sm
namespace Go.Proofs.Sm
open Go.RowKit
set_option maxRecDepth 100000 in
theorem blob_Digest (A:Option Addr) (n c:Nat) (l:List UInt8) (w:World) (hsl:Sl w (Lt w.heap.size) A n l):Calls Tryz.prog 73 #[.slice A n c] w fun e w'=>e=.returned (.string (digestS l))∧Below w.heap.size w w':=by
 have hm:n≤9223372036854775807:=hsl.2.1
 have hmk:∀ w,(Instr.makeSlice 75 (.int .i64 16) (.int .i64 16)).run Tryz.prog w=.ok (.slice (some ⟨w.heap.size,0,none⟩) 16 16) (w.alloc (.cells (Array.replicate 16 (.int .u8 0)) 5)):=fun _=>by kernel_rfl
 go_enter Tryz.func73,Tryz.ntmps73
 go_wp2
 go_loop [3,5,10] (fun h _ i=>∃ k:Nat,k≤n∧i=.int .i64 k∧h=.int .u64 (fnv (l.take k):Nat)) (fun _ _ i=>n - (intOf i).toNat)
 case atStart=>exact ⟨0,Nat.zero_le _,rfl,by rw [fnv_zero]; rfl⟩
 case round =>
  obtain ⟨k,hk,rfl,rfl⟩:=hrel
  by_cases hlt:k < n
  ·obtain ⟨b,o,x,rfl,hb,hx,c0⟩:=hsl.byte hlt
   have Hs:=Lib.hid (fnv_succ hx); clear hx
   have Hw:=Lib.hid (fnv_walk _ (fnv_lt (l.take k)) x)
   have h0:(0:Int)≤(fnv (l.take k):Nat):=Int.natCast_nonneg _
   go_wp2
   go_round
   case rel=>exact ⟨k + 1,by omega,by go_num,by rw [Hw.out,Hs.out]⟩
   case measure=>simp [intOf]; omega
  ·have Hl:=Lib.hid (show l.take k=l from List.take_of_length_le (by rw [hsl.1]; omega))
   have HU:=Lib.hid (fnv_lt (l.take k))
   generalize hH:fnv (l.take k)=H at *
   have HH:=Lib.hid hH; clear hH
   go_wp2
   go_loopw [3,7,23] (fun h _ i wr=>∃ j:Nat,j≤16∧i=.int .i64 j∧h=.int .u64 (H / 16 ^ j:Nat)∧∃ (cs:Array Value),cs.size=16∧(∀ i,i < 16→16≤i + j→cs[i]?=some (.int .u8 (hexChar (H / 16 ^ (15 - i) % 16)).toNat))∧wr.heap[w.heap.size]?=some (.cells cs 5 (0,0))∧wr.heap.size=w.heap.size + 1∧Below w.heap.size w wr) (fun _ _ i _=>16 - (intOf i).toNat)
   case atStart =>
    refine ⟨0,by omega,rfl,by simp,Array.replicate 16 (.int .u8 0),by simp,fun i h1 h2=>absurd h2 (by omega),?_,by simp,(Below.refl _ _).alloc (Nat.le_refl _) _⟩
    exact heap_alloc_new w _
   case round =>
    obtain ⟨j,hj,rfl,rfl,cs,hcs,hdone,hbk,hsz,hbel⟩:=hrel
    have Hdone:=Lib.hid hdone; clear hdone
    have Hcs:=Lib.hid hcs; clear hcs
    by_cases hj':j < 16
    ·have hc:wr.cell? ⟨w.heap.size,15 - j,none⟩=some (cs[15 - j]'(by rw [Hcs.out]; omega)):=by
      rw [World.cell?]; simp [hbk]
     have hf:wr.frozen? ⟨w.heap.size,15 - j,none⟩=false:=by simp [World.frozen?,hbk]
     have Hbk:=Lib.hid hbk; clear hbk
     have Hsz:=Lib.hid hsz; clear hsz
     have hnb:=nibble H j HU.out
     have hlt16:H / 16 ^ j % 16 < 16:=Nat.mod_lt _ (by decide)
     generalize hd:H / 16 ^ j % 16=d at *
     have Hd:=Lib.hid hd; clear hd
     have Hsh:=Lib.hid (shift4 H j)
     generalize hy:H / 16 ^ j=y at *
     have Hy:=Lib.hid hy; clear hy
     go_wp2
     go_round
     case rel =>
      have hy0:=Hy.out
      have hsz':(wr.setCell ⟨w.heap.size,15 - j,none⟩ (.int .u8 (hexChar d).toNat)).heap.size=w.heap.size + 1:=by simp [World.setCell,Hsz.out]
      refine ⟨j + 1,by omega,by go_num,by rw [←Hsh.out],cs.setIfInBounds (15 - j) (.int .u8 (hexChar d).toNat),by simp [Hcs.out],fun i h1 h2=>?_,?_,?_,?_⟩
      ·by_cases he:i=15 - j
       ·subst he
        have e:15 - (15 - j)=j:=by omega
        rw [Array.getElem?_setIfInBounds_self_of_lt (by rw [Hcs.out]; omega),e,hy0,Hd.out]
       ·rw [Array.getElem?_setIfInBounds_ne (by omega)]
        exact Hdone.out i h1 (by omega)
      ·rw [hexGet d hlt16]
       simp [World.setCell,Array.getElem?_modify,Hbk.out]
      ·rw [hexGet d hlt16]
       exact hsz'
      ·exact hbel.setCell (Nat.le_refl _) _
     case measure=>simp [intOf]; omega
    ·obtain rfl:j=16:=by omega
     have hsl':Sl wr (Lt wr.heap.size) (some ⟨w.heap.size,0,none⟩) 16 ((List.range 16).map fun i=>hexChar (H / 16 ^ (15 - i) % 16)):=by
      refine ⟨by simp,by unfold maxLen; decide,fun _=>⟨_,_,rfl,by rw [hsz]; exact Nat.lt_succ_self _,fun i x hx=>⟨_,rfl,fun q v hv=>?_⟩⟩⟩
      obtain ⟨rfl,rfl⟩:q=0∧v=.int .u8 x.toNat:=by
       cases q with
       | zero=>simp at hv; exact ⟨rfl,hv.symm⟩
       | succ q=>simp at hv
      have hi:i < 16:=by
       have:=(List.getElem?_eq_some_iff.1 hx).1
       simpa using this
      rw [List.getElem?_map,List.getElem?_range hi] at hx
      obtain rfl:hexChar (H / 16 ^ (15 - i) % 16)=x:=by simpa using hx
      have h1:0 + i * Rep.sz UInt8 + 0=i:=by simp [Rep.sz]
      rw [h1,World.cell?,hbk]
      exact Hdone.out i hi (by omega)
     have hcv:=run_bytes_string (P:=Tryz.prog) hsl' 75 9 5 16 Tryz.underlying75 Tryz.underlying5 Tryz.underlying9
     have Hr:=Lib.hid (digestS_eq (l:=l) (h:=H) (by rw [←HH.out,Hl.out]))
     generalize (⟨((List.range 16).map fun i=>hexChar (H / 16 ^ (15 - i) % 16)).toArray⟩:ByteArray)=r at *
     clear hbk hsz hsl'
     go_wp2
     go_ret
     exact ⟨ret_string Hr.out.symm,hbel⟩
end Go.Proofs.Sm
namespace Go.Proofs.Sm
open Go.RowKit
structure Look where
 path:ByteArray
 digest:ByteArray
 run:Bool
structure FileV where
 path:ByteArray
 run:Bool
 bytes:List UInt8
instance:Rep Look where
 sz:=3
 rep _ _ x vs:=vs=[.string x.path,.string x.digest,.bool x.run]∧x.path.size≤maxLen∧x.digest.size≤maxLen
 len h:=by rw [h.1]; rfl
 keep _ h:=h
 more _ h:=h
instance:Rep FileV where
 sz:=3
 rep w S x vs:=x.path.size≤maxLen∧∃ A n c,vs=[.string x.path,.bool x.run,.slice A n c]∧n≤c∧c≤maxLen∧Sl w S A n x.bytes
 len h:=by obtain ⟨_,A,n,c,rfl,_⟩:=h; rfl
 keep hk h:=by obtain ⟨h0,A,n,c,e,h1,h2,h3⟩:=h; exact ⟨h0,A,n,c,e,h1,h2,h3.keep hk⟩
 more hs h:=by obtain ⟨h0,A,n,c,e,h1,h2,h3⟩:=h; exact ⟨h0,A,n,c,e,h1,h2,h3.more hs⟩
section
variable {w:World} {S:Nat→Prop} {A:Option Addr} {n k:Nat}
theorem Sl.look {l:List Look} (h:Sl w S A n l) (hk:k < n) :
 ∃ b o x,A=some ⟨b,o,none⟩∧S b∧l[k]?=some x∧x.path.size≤maxLen∧x.digest.size≤maxLen ∧
  w.cell? ⟨b,o + k * 3,none⟩=some (.string x.path)∧w.cell? ⟨b,o + k * 3 + 1,none⟩=some (.string x.digest)∧w.cell? ⟨b,o + k * 3 + 2,none⟩=some (.bool x.run):=by
 have hk':k < l.length:=by rw [h.1]; exact hk
 obtain ⟨b,o,vs,e,hb,⟨rfl,h1,h2⟩,ha⟩:=h.at hk'
 exact ⟨b,o,_,e,hb,List.getElem?_eq_getElem hk',h1,h2,ha 0 _ rfl,ha 1 _ rfl,ha 2 _ rfl⟩
theorem Sl.file {l:List FileV} (h:Sl w S A n l) (hk:k < n) :
 ∃ b o x A' n' c',A=some ⟨b,o,none⟩∧S b∧l[k]?=some x∧x.path.size≤maxLen∧n'≤c'∧c'≤maxLen∧Sl w S A' n' x.bytes ∧
  w.cell? ⟨b,o + k * 3,none⟩=some (.string x.path)∧w.cell? ⟨b,o + k * 3 + 1,none⟩=some (.bool x.run)∧w.cell? ⟨b,o + k * 3 + 2,none⟩=some (.slice A' n' c'):=by
 have hk':k < l.length:=by rw [h.1]; exact hk
 obtain ⟨b,o,vs,e,hb,⟨h1,A',n',c',rfl,h2,h3,h4⟩,ha⟩:=h.at hk'
 exact ⟨b,o,_,A',n',c',e,hb,List.getElem?_eq_getElem hk',h1,h2,h3,h4,ha 0 _ rfl,ha 1 _ rfl,ha 2 _ rfl⟩
end
def leS (a b:ByteArray):Bool:=Op.bytesLess a.toList b.toList || a.toList == b.toList
def ltS (a b:ByteArray):Bool:=Op.bytesLess a.toList b.toList
theorem leS_false {a b:ByteArray} (h:leS a b=false):(Op.bytesLess a.toList b.toList || a.toList == b.toList)=false:=h
theorem leS_true {a b:ByteArray} (h:leS a b=true):(Op.bytesLess a.toList b.toList || a.toList == b.toList)=true:=h
def notAfter (prev:Option ByteArray) (p:ByteArray):Bool:=match prev with | none=>false | some q=>leS p q
def lookErr (prev:Option ByteArray) (x:Look):Int :=
 if isPathS x.path=false then 3 else if x.digest.toList.isEmpty=false && isDigestS x.digest=false then 3 else if x.digest.toList.isEmpty && x.run then 3 else if notAfter prev x.path then 8 else 0
def looksErr:Option ByteArray→List Look→Int
 | _,[]=>0
 | prev,x :: r=>if lookErr prev x=0 then looksErr (some x.path) r else lookErr prev x
def checkLooksS (l:List Look):Int:=if 4000 < (l.length:Int) then 2 else looksErr none l
def ahead {α:Type} (f:α→ByteArray) (l:List α) (k:Nat):Option ByteArray:=if k=0 then none else (l[k - 1]?).map f
theorem ahead_succ {α:Type} {f:α→ByteArray} {l:List α} {k:Nat} {x:α} (hx:l[k]?=some x):ahead f l (k + 1)=some (f x):=by simp [ahead,hx]
theorem drop_at {α:Type} {l:List α} {k:Nat} {x:α} (hx:l[k]?=some x):l.drop k=x :: l.drop (k + 1):=by
 obtain ⟨h,e⟩:=List.getElem?_eq_some_iff.1 hx
 rw [List.drop_eq_getElem_cons h,e]
theorem looks_round {l:List Look} {k:Nat} {x:Look} (hx:l[k]?=some x) (h:lookErr (ahead Look.path l k) x=0) :
 looksErr (ahead Look.path l k) (l.drop k)=looksErr (ahead Look.path l (k + 1)) (l.drop (k + 1)):=by
 rw [drop_at hx,looksErr,if_pos h,ahead_succ hx]
theorem looks_stop {l:List Look} {k:Nat} {x:Look} {e:Int} (hx:l[k]?=some x) (h:lookErr (ahead Look.path l k) x=e) (he:e≠0) :
 looksErr (ahead Look.path l k) (l.drop k)=e:=by
 rw [drop_at hx,looksErr,if_neg (by rw [h]; exact he),h]
def lookEq (x y:Look):Bool:=x.path.toList == y.path.toList && x.digest.toList == y.digest.toList && x.run == y.run
theorem toList_inj {a b:ByteArray} (h:a.toList=b.toList):a=b:=by
 rw [ByteArray.toList_eq,ByteArray.toList_eq] at h
 obtain ⟨⟨x⟩⟩:=a
 obtain ⟨⟨y⟩⟩:=b
 simp at h
 rw [h]
theorem lookEq_iff {x y:Look}:lookEq x y=true↔x=y:=by
 obtain ⟨p,d,r⟩:=x
 obtain ⟨p',d',r'⟩:=y
 simp only [lookEq,Bool.and_eq_true,beq_iff_eq,Look.mk.injEq]
 constructor
 ·rintro ⟨⟨h1,h2⟩,h3⟩
  exact ⟨toList_inj h1,toList_inj h2,h3⟩
 ·rintro ⟨rfl,rfl,rfl⟩
  exact ⟨⟨rfl,rfl⟩,rfl⟩
def sameLooksS:List Look→List Look→Bool
 | [],[]=>true
 | x :: l,y :: r=>lookEq x y && sameLooksS l r
 | _,_=>false
theorem sameLooksS_iff {l r:List Look}:sameLooksS l r=true↔l=r:=by
 induction l generalizing r with
 | nil=>cases r <;> simp [sameLooksS]
 | cons x l ih=>cases r <;> simp [sameLooksS,lookEq_iff,ih]
theorem sameLooks_length {l r:List Look} (h:l.length≠r.length):sameLooksS l r=false:=by
 cases hs:sameLooksS l r
 ·rfl
 ·exact absurd (by rw [sameLooksS_iff.1 hs]) h
theorem sameLooks_round {l r:List Look} {k:Nat} {x y:Look} (hx:l[k]?=some x) (hy:r[k]?=some y) (h:lookEq x y=true) :
 sameLooksS (l.drop k) (r.drop k)=sameLooksS (l.drop (k + 1)) (r.drop (k + 1)):=by rw [drop_at hx,drop_at hy,sameLooksS,h,Bool.true_and]
theorem sameLooks_stop {l r:List Look} {k:Nat} {x y:Look} (hx:l[k]?=some x) (hy:r[k]?=some y) (h:lookEq x y=false) :
 sameLooksS (l.drop k) (r.drop k)=false:=by rw [drop_at hx,drop_at hy,sameLooksS,h,Bool.false_and]
theorem sameLooks_end {l r:List Look} {k:Nat} (hl:l.length≤k) (hr:r.length≤k):sameLooksS (l.drop k) (r.drop k)=true:=by
 rw [List.drop_eq_nil_of_le hl,List.drop_eq_nil_of_le hr]; rfl
section
variable {prev:Option ByteArray} {x:Look}
theorem lookErr_path (hp:isPathS x.path=false):lookErr prev x=3:=by simp [lookErr,hp]
theorem lookErr_digest (hp:isPathS x.path=true) (he:x.digest.toList.isEmpty=false) (hd:isDigestS x.digest=false):lookErr prev x=3:=by simp [lookErr,hp,he,hd]
theorem lookErr_run (hp:isPathS x.path=true) (he:x.digest.toList.isEmpty=true) (hr:x.run=true):lookErr prev x=3:=by simp [lookErr,hp,he,hr]
theorem lookErr_rest (hp:isPathS x.path=true) (h:(x.digest.toList.isEmpty=false∧isDigestS x.digest=true)∨(x.digest.toList.isEmpty=true∧x.run=false)) :
 lookErr prev x=if notAfter prev x.path then 8 else 0:=by
 rcases h with ⟨h1,h2⟩ | ⟨h1,h2⟩ <;> simp [lookErr,hp,h1,h2]
end
theorem ahead_pos {α:Type} {f:α→ByteArray} {l:List α} {k:Nat} {y:α} (hk:0 < k) (hy:l[k - 1]?=some y):ahead f l k=some (f y):=by
 simp [ahead,hy]; omega
end Go.Proofs.Sm
namespace Go.Proofs.Sm
open Go.RowKit
set_option maxRecDepth 100000 in
theorem act_CheckLooks (A:Option Addr) (n c:Nat) (l:List Look) (w:World) (hE:Env w) (hsl:Sl w (Lt w.heap.size) A n l):Calls Tryz.prog 75 #[.slice A n c] w fun e w'=>e=.returned (.int .i64 (checkLooksS l))∧Below w.heap.size w w':=by
 have hm:n≤9223372036854775807:=hsl.2.1
 have HL:=Lib.hid hsl.1
 by_cases hbig:(4000:Int) < n
 ·go_enter Tryz.func75,Tryz.ntmps75
  go_wp2
  go_ret; exact ⟨ret_int (by rw [checkLooksS,HL.out,if_pos hbig]),Below.refl _ _⟩
 have Hd:=Lib.hid (show checkLooksS l=looksErr (ahead Look.path l 0) (l.drop 0) by rw [checkLooksS,HL.out,if_neg hbig]; rfl)
 go_enter Tryz.func75,Tryz.ntmps75
 go_wp2
 go_loopw [10] (fun i wr=>∃ k:Nat,k≤n∧i=.int .i64 k∧checkLooksS l=looksErr (ahead Look.path l k) (l.drop k)∧Below w.heap.size w wr) (fun i _=>n - (intOf i).toNat)
 case atStart=>exact ⟨0,Nat.zero_le _,rfl,Hd.out,Below.refl _ _⟩
 case round =>
  obtain ⟨k,hk,rfl,hd,hbel⟩:=hrel
  have Hr:=Lib.hid hd; clear hd
  by_cases hlt:k < n
  ·obtain ⟨b,o,x,rfl,hb,hx,hs1,hs2,c0,c1,c2⟩:=(hsl.keep (keep_lt hbel)).look hlt
   have hbw:b < wr.heap.size:=Nat.lt_of_lt_of_le hb hbel.size
   have HX:=Lib.hid hx; clear hx
   have hEr:=hE.then_ hbel
   cases hp:isPathS x.path
   ·have HV:=Lib.hid (lookErr_path (prev:=ahead Look.path l k) hp)
    go_wp2_with (first
    | (go_at_call 44; refine (blob_IsPath _ _ (hEr.alloc _)).mono ?_; rintro e w1 ⟨rfl,hb1⟩; obtain ⟨hc1,hf1⟩:=bcell hb1; have hz1:=grew hb1)
    | (go_at_call 77; refine (blob_IsDigest _ _ hs2).mono ?_; rintro e w2 ⟨rfl,hb2⟩; obtain ⟨hc2,hf2⟩:=bcell hb2))
    go_ret
    exact ⟨ret_int (by rw [Hr.out]; exact (looks_stop HX.out HV.out (by decide)).symm),fr_box hbel hb1⟩
   cases he:x.digest.toList.isEmpty
   ·have he':x.digest.toList≠[]:=by simpa using he
    cases hdg:isDigestS x.digest
    ·have HV:=Lib.hid (lookErr_digest (prev:=ahead Look.path l k) hp he hdg)
     go_wp2_with (first
     | (go_at_call 44; refine (blob_IsPath _ _ (hEr.alloc _)).mono ?_; rintro e w1 ⟨rfl,hb1⟩; obtain ⟨hc1,hf1⟩:=bcell hb1; have hz1:=grew hb1)
     | (go_at_call 77; refine (blob_IsDigest _ _ hs2).mono ?_; rintro e w2 ⟨rfl,hb2⟩; obtain ⟨hc2,hf2⟩:=bcell hb2))
     go_ret
     exact ⟨ret_int (by rw [Hr.out]; exact (looks_stop HX.out HV.out (by decide)).symm),fr_call (fr_box hbel hb1) hb2⟩
    ·have HO:=Lib.hid (lookErr_rest (prev:=ahead Look.path l k) hp (.inl ⟨he,hdg⟩))
     by_cases hk0:0 < k
     ·have hg:decide ((0:Int) < (k:Int))=true:=by simpa using hk0
      obtain ⟨_,_,y,e0,_,hy,_,_,d0,_,_⟩:=(hsl.keep (keep_lt hbel)).look (k:=k - 1) (by omega)
      cases e0
      have HA:=Lib.hid (ahead_pos (f:=Look.path) hk0 hy); clear hy
      cases hle:leS x.path y.path
      ·have HV:=Lib.hid (show lookErr (ahead Look.path l k) x=0 by rw [HO.out,HA.out]; simp [notAfter,hle])
       have hle':=leS_false hle
       go_wp2_with (first
       | (go_at_call 44; refine (blob_IsPath _ _ (hEr.alloc _)).mono ?_; rintro e w1 ⟨rfl,hb1⟩; obtain ⟨hc1,hf1⟩:=bcell hb1; have hz1:=grew hb1)
       | (go_at_call 77; refine (blob_IsDigest _ _ hs2).mono ?_; rintro e w2 ⟨rfl,hb2⟩; obtain ⟨hc2,hf2⟩:=bcell hb2))
       have d1:w2.cell? ⟨b,o + (k - 1) * 3,none⟩=some (.string y.path):=by rw [hb2.cell (by show b < _; omega),hb1.cell (by show b < _; simp; omega),World.cell?_alloc_lt _ _ _ (by exact hbw)]; exact d0
       have g1:=IntWalk.i64_in ((k:Int) - 1) ⟨by omega,by omega⟩; have g2:((k:Int) - 1).toNat=k - 1:=(by omega); have g3:(0:Int)≤(k:Int) - 1:=(by omega); have g4:(k:Int) - 1 < n:=(by omega)
       go_quiet (fail)
       clear g1 g2 g3 g4
       go_wp2
       (go_round; (case rel=>exact ⟨k + 1,by omega,by go_num,by rw [Hr.out]; exact looks_round HX.out HV.out,below_drewN (by first | exact fr_box hbel hb1 | exact fr_call (fr_box hbel hb1) hb2) _⟩); (case measure=>simp [intOf]; omega))
      ·have HV:=Lib.hid (show lookErr (ahead Look.path l k) x=8 by rw [HO.out,HA.out]; simp [notAfter,hle])
       have hle':=leS_true hle
       go_wp2_with (first
       | (go_at_call 44; refine (blob_IsPath _ _ (hEr.alloc _)).mono ?_; rintro e w1 ⟨rfl,hb1⟩; obtain ⟨hc1,hf1⟩:=bcell hb1; have hz1:=grew hb1)
       | (go_at_call 77; refine (blob_IsDigest _ _ hs2).mono ?_; rintro e w2 ⟨rfl,hb2⟩; obtain ⟨hc2,hf2⟩:=bcell hb2))
       have d1:w2.cell? ⟨b,o + (k - 1) * 3,none⟩=some (.string y.path):=by rw [hb2.cell (by show b < _; omega),hb1.cell (by show b < _; simp; omega),World.cell?_alloc_lt _ _ _ (by exact hbw)]; exact d0
       have g1:=IntWalk.i64_in ((k:Int) - 1) ⟨by omega,by omega⟩; have g2:((k:Int) - 1).toNat=k - 1:=(by omega); have g3:(0:Int)≤(k:Int) - 1:=(by omega); have g4:(k:Int) - 1 < n:=(by omega)
       go_quiet (fail)
       clear g1 g2 g3 g4
       go_wp2
       go_ret
       exact ⟨ret_int (by rw [Hr.out]; exact (looks_stop HX.out HV.out (by decide)).symm),below_drewN (fr_call (fr_box hbel hb1) hb2) _⟩
     ·have hg:decide ((0:Int) < (k:Int))=false:=by simpa using hk0
      have HV:=Lib.hid (show lookErr (ahead Look.path l k) x=0 by rw [HO.out,show ahead Look.path l k=none by simp [ahead]; omega]; rfl)
      go_wp2_with (first
      | (go_at_call 44; refine (blob_IsPath _ _ (hEr.alloc _)).mono ?_; rintro e w1 ⟨rfl,hb1⟩; obtain ⟨hc1,hf1⟩:=bcell hb1; have hz1:=grew hb1)
      | (go_at_call 77; refine (blob_IsDigest _ _ hs2).mono ?_; rintro e w2 ⟨rfl,hb2⟩; obtain ⟨hc2,hf2⟩:=bcell hb2))
      go_quiet (fail)
      go_wp2
      (go_round; (case rel=>exact ⟨k + 1,by omega,by go_num,by rw [Hr.out]; exact looks_round HX.out HV.out,below_drewN (by first | exact fr_box hbel hb1 | exact fr_call (fr_box hbel hb1) hb2) _⟩); (case measure=>simp [intOf]; omega))
   ·have he':x.digest.toList=[]:=by simpa using he
    cases hrn:x.run
    ·have HO:=Lib.hid (lookErr_rest (prev:=ahead Look.path l k) hp (.inr ⟨he,hrn⟩))
     by_cases hk0:0 < k
     ·have hg:decide ((0:Int) < (k:Int))=true:=by simpa using hk0
      obtain ⟨_,_,y,e0,_,hy,_,_,d0,_,_⟩:=(hsl.keep (keep_lt hbel)).look (k:=k - 1) (by omega)
      cases e0
      have HA:=Lib.hid (ahead_pos (f:=Look.path) hk0 hy); clear hy
      cases hle:leS x.path y.path
      ·have HV:=Lib.hid (show lookErr (ahead Look.path l k) x=0 by rw [HO.out,HA.out]; simp [notAfter,hle])
       have hle':=leS_false hle
       go_wp2_with (first
       | (go_at_call 44; refine (blob_IsPath _ _ (hEr.alloc _)).mono ?_; rintro e w1 ⟨rfl,hb1⟩; obtain ⟨hc1,hf1⟩:=bcell hb1; have hz1:=grew hb1)
       | (go_at_call 77; refine (blob_IsDigest _ _ hs2).mono ?_; rintro e w2 ⟨rfl,hb2⟩; obtain ⟨hc2,hf2⟩:=bcell hb2))
       have d1:w1.cell? ⟨b,o + (k - 1) * 3,none⟩=some (.string y.path):=by rw [hb1.cell (by show b < _; simp; omega),World.cell?_alloc_lt _ _ _ (by exact hbw)]; exact d0
       have g1:=IntWalk.i64_in ((k:Int) - 1) ⟨by omega,by omega⟩; have g2:((k:Int) - 1).toNat=k - 1:=(by omega); have g3:(0:Int)≤(k:Int) - 1:=(by omega); have g4:(k:Int) - 1 < n:=(by omega)
       go_quiet (fail)
       clear g1 g2 g3 g4
       go_wp2
       (go_round; (case rel=>exact ⟨k + 1,by omega,by go_num,by rw [Hr.out]; exact looks_round HX.out HV.out,below_drewN (by first | exact fr_box hbel hb1 | exact fr_call (fr_box hbel hb1) hb2) _⟩); (case measure=>simp [intOf]; omega))
      ·have HV:=Lib.hid (show lookErr (ahead Look.path l k) x=8 by rw [HO.out,HA.out]; simp [notAfter,hle])
       have hle':=leS_true hle
       go_wp2_with (first
       | (go_at_call 44; refine (blob_IsPath _ _ (hEr.alloc _)).mono ?_; rintro e w1 ⟨rfl,hb1⟩; obtain ⟨hc1,hf1⟩:=bcell hb1; have hz1:=grew hb1)
       | (go_at_call 77; refine (blob_IsDigest _ _ hs2).mono ?_; rintro e w2 ⟨rfl,hb2⟩; obtain ⟨hc2,hf2⟩:=bcell hb2))
       have d1:w1.cell? ⟨b,o + (k - 1) * 3,none⟩=some (.string y.path):=by rw [hb1.cell (by show b < _; simp; omega),World.cell?_alloc_lt _ _ _ (by exact hbw)]; exact d0
       have g1:=IntWalk.i64_in ((k:Int) - 1) ⟨by omega,by omega⟩; have g2:((k:Int) - 1).toNat=k - 1:=(by omega); have g3:(0:Int)≤(k:Int) - 1:=(by omega); have g4:(k:Int) - 1 < n:=(by omega)
       go_quiet (fail)
       clear g1 g2 g3 g4
       go_wp2
       go_ret
       exact ⟨ret_int (by rw [Hr.out]; exact (looks_stop HX.out HV.out (by decide)).symm),below_drewN (fr_box hbel hb1) _⟩
     ·have hg:decide ((0:Int) < (k:Int))=false:=by simpa using hk0
      have HV:=Lib.hid (show lookErr (ahead Look.path l k) x=0 by rw [HO.out,show ahead Look.path l k=none by simp [ahead]; omega]; rfl)
      go_wp2_with (first
      | (go_at_call 44; refine (blob_IsPath _ _ (hEr.alloc _)).mono ?_; rintro e w1 ⟨rfl,hb1⟩; obtain ⟨hc1,hf1⟩:=bcell hb1; have hz1:=grew hb1)
      | (go_at_call 77; refine (blob_IsDigest _ _ hs2).mono ?_; rintro e w2 ⟨rfl,hb2⟩; obtain ⟨hc2,hf2⟩:=bcell hb2))
      go_quiet (fail)
      go_wp2
      (go_round; (case rel=>exact ⟨k + 1,by omega,by go_num,by rw [Hr.out]; exact looks_round HX.out HV.out,below_drewN (by first | exact fr_box hbel hb1 | exact fr_call (fr_box hbel hb1) hb2) _⟩); (case measure=>simp [intOf]; omega))
    ·have HV:=Lib.hid (lookErr_run (prev:=ahead Look.path l k) hp he hrn)
     go_wp2_with (first
     | (go_at_call 44; refine (blob_IsPath _ _ (hEr.alloc _)).mono ?_; rintro e w1 ⟨rfl,hb1⟩; obtain ⟨hc1,hf1⟩:=bcell hb1; have hz1:=grew hb1)
     | (go_at_call 77; refine (blob_IsDigest _ _ hs2).mono ?_; rintro e w2 ⟨rfl,hb2⟩; obtain ⟨hc2,hf2⟩:=bcell hb2))
     go_ret
     exact ⟨ret_int (by rw [Hr.out]; exact (looks_stop HX.out HV.out (by decide)).symm),fr_box hbel hb1⟩
  ·go_wp2
   go_ret
   exact ⟨ret_int (by rw [Hr.out,List.drop_eq_nil_of_le (by rw [hsl.1]; omega)]; rfl),hbel⟩
end Go.Proofs.Sm
namespace Go.Proofs.Sm
open Go.RowKit
theorem stood_look:Tryz.prog.stoodInHeld 109=false:=by kernel_rfl
theorem fields_look : Tryz.prog.fieldsOf 109 = #[{ name := "Path", type := 9, offset := 0, embedded := false, tag := "", pkgPath := "", byteOffset := 0 },
 { name := "Digest", type := 9, offset := 1, embedded := false, tag := "", pkgPath := "", byteOffset := 16 },
 { name := "Run", type := 4, offset := 2, embedded := false, tag := "", pkgPath := "", byteOffset := 32 }] := by simp [Program.fieldsOf, Tryz.underlying109]
theorem neq_look (x y:Look) (w:World):(binOp .neq 109 (.agg #[.string x.path,.string x.digest,.bool x.run]) (.agg #[.string y.path,.string y.digest,.bool y.run])).run Tryz.prog w
 = .ok (.bool (!lookEq x y)) w:=by
 rw [run_neq_struct,run_equalIn_agg _ _ _ _ _ (by rw [fields_look]; exact Tryz.underlying109) stood_look,fields_look]
 simp [Op.eqFields,go_sem,Tryz.underlying9,Tryz.underlying4,lookEq]
 repeat' split
 all_goals simp_all
set_option maxRecDepth 100000 in
theorem slices_EqualLook (A A':Option Addr) (n n' c c':Nat) (l l':List Look) (w:World) (hsl:Sl w (Lt w.heap.size) A n l) (hsl':Sl w (Lt w.heap.size) A' n' l') :
 Calls Tryz.prog 79 #[.slice A n c,.slice A' n' c'] w fun e w'=>e=.returned (.bool (sameLooksS l l'))∧Below w.heap.size w w':=by
 have hm:n≤9223372036854775807:=hsl.2.1
 have hm':n'≤9223372036854775807:=hsl'.2.1
 by_cases hnn:n=n'
 ·obtain rfl:n'=n:=hnn.symm
  go_enter Tryz.func79,Tryz.ntmps79
  go_wp2
  go_loopw [5,13] (fun _ i wr=>∃ k:Nat,k≤n'∧i=.int .i64 k∧sameLooksS l l'=sameLooksS (l.drop k) (l'.drop k)∧Below w.heap.size w wr) (fun _ i _=>n' - (intOf i).toNat)
  case atStart=>exact ⟨0,Nat.zero_le _,rfl,rfl,Below.refl _ _⟩
  case round =>
   obtain ⟨k,hk,rfl,hd,hbel⟩:=hrel
   have Hr:=Lib.hid hd; clear hd
   by_cases hlt:k < n'
   ·obtain ⟨b,o,x,rfl,hb,hx,hs1,hs2,c0,c1,c2⟩:=(hsl.keep (keep_lt hbel)).look hlt
    obtain ⟨b',o',x',rfl,hb',hx',hs1',hs2',c0',c1',c2'⟩:=(hsl'.keep (keep_lt hbel)).look hlt
    have HX:=Lib.hid hx; clear hx
    have HX':=Lib.hid hx'; clear hx'
    have hne:=neq_look x x'
    cases hq:lookEq x x'
    ·rw [hq] at hne
     have HQ:=Lib.hid hq; clear hq
     go_wp2
     go_quiet (fail)
     go_wp2
     go_ret
     exact ⟨ret_bool (by rw [Hr.out,sameLooks_stop HX.out HX'.out HQ.out]),below_drewN hbel _⟩
    ·rw [hq] at hne
     have HQ:=Lib.hid hq; clear hq
     go_wp2
     go_quiet (fail)
     go_wp2
     go_round
     case rel=>exact ⟨k + 1,by omega,by go_num,by rw [Hr.out,sameLooks_round HX.out HX'.out HQ.out],below_drewN hbel _⟩
     case measure=>simp [intOf]; omega
   ·have HE:=Lib.hid (sameLooks_end (l:=l) (r:=l') (k:=k) (by rw [hsl.1]; omega) (by rw [hsl'.1]; omega))
    go_wp2
    go_ret
    exact ⟨ret_bool (by rw [Hr.out,HE.out]),hbel⟩
 ·have hb:((n:Int) == (n':Int))=false:=by simp; omega
  have hb':((n:Int) != (n':Int))=true:=by simp; omega
  go_enter Tryz.func79,Tryz.ntmps79
  go_wp2
  go_ret
  exact ⟨ret_bool (by rw [sameLooks_length (by rw [hsl.1,hsl'.1]; exact hnn)]),Below.refl _ _⟩
end Go.Proofs.Sm
