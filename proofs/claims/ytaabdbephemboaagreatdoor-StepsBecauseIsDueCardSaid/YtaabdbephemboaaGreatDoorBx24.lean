/- Words and walks that the claims share, part 24. -/
import Derived.Test.YtaabdbephemboaaGreatDoorBx2
import Derived.Test.YtaabdbephemboaaGreatDoorBx4
import Derived.Test.YtaabdbephemboaaGreatDoorBx23
import Derived.Shelf.SlSortCmp.WholeK
import Derived.Shelf.SlGeneric
import Derived.Ground.SlsfProg
import Derived.Test.YtaabdbephemboaaGreatDoorProg
import Derived.Shelf.SlSortCmp.NoneTotal
namespace Go.Proofs.Sm
open Go.RowKit
theorem mem_form {x:MemoryV} (h:(isPathS x.name && isDigestS x.action)=false):checkMemS x=3:=by rw [checkMemS,if_pos h]
theorem mem_looks {x:MemoryV} (h:(isPathS x.name && isDigestS x.action)=true) (h1:checkLooksS x.looks≠0):checkMemS x=checkLooksS x.looks:=by rw [checkMemS,if_neg (by rw [h]; decide),if_pos h1]
theorem mem_result {x:MemoryV} (h:(isPathS x.name && isDigestS x.action)=true) (h1:checkLooksS x.looks=0) (h2:checkResultS x.result≠0):checkMemS x=checkResultS x.result:=by rw [checkMemS,if_neg (by rw [h]; decide),if_neg (by rw [h1]; decide),if_pos h2]
theorem mem_rest {x:MemoryV} (h:(isPathS x.name && isDigestS x.action)=true) (h1:checkLooksS x.looks=0) (h2:checkResultS x.result=0):checkMemS x=if x.result.code≠0 then 11 else if sameLooksS x.looks x.result.looks=false then 12 else 0:=by
 rw [checkMemS,if_neg (by rw [h]; decide),if_neg (by rw [h1]; decide),if_neg (by rw [h2]; decide)]
section
variable {l:List MemoryV} {k:Nat} {x:MemoryV}
theorem mems_stop {f:Int} (hx:l[k]?=some x) (h:checkMemS x=f) (h0:f≠0):listErr memErr MemoryV.name (ahead MemoryV.name l k) (l.drop k)=f:=by
 have h1:memErr (ahead MemoryV.name l k) x=f:=by rw [memErr,if_pos (by rw [h]; exact h0),h]
 rw [list_stop (key:=MemoryV.name) hx h1 h0]
theorem mems_rest {prev:Option ByteArray} (h:checkMemS x=0):memErr prev x=if notAfter prev x.name then 8 else 0:=by rw [memErr,if_neg (by rw [h]; decide)]
theorem mems_large (h:(500:Int) < (l.length:Int)):checkMemoryS l=2:=by rw [checkMemoryS,if_pos h]
theorem mems_all (h:¬ (500:Int) < (l.length:Int)):checkMemoryS l=listErr memErr MemoryV.name none l:=by rw [checkMemoryS,if_neg h]
end
def memCells (x:MemoryV) (A1:Option Addr) (n1 c1:Nat) (A2:Option Addr) (n2 c2:Nat) (A3:Option Addr) (n3 c3:Nat):List Value :=
 [.string x.name,.string x.action,.slice A1 n1 c1,.int .i64 x.result.code,.string x.result.text,.slice A2 n2 c2,.slice A3 n3 c3,.int .i64 x.result.command]
theorem mem_box (w:World) (x:MemoryV) (A1:Option Addr) (n1 c1:Nat) (A2:Option Addr) (n2 c2:Nat) (A3:Option Addr) (n3 c3:Nat) :
 Arr (w.alloc (.cells #[.string x.name,.string x.action,.slice A1 n1 c1,.int .i64 x.result.code,.string x.result.text,.slice A2 n2 c2,.slice A3 n3 c3,.int .i64 x.result.command] 43)) w.heap.size 43 (memCells x A1 n1 c1 A2 n2 c2 A3 n3 c3):=heap_alloc_new w _
set_option maxHeartbeats 4000000 in
set_option maxRecDepth 100000 in
theorem steps_CheckMemory (A:Option Addr) (n c:Nat) (l:List MemoryV) (w:World) (hE:Env w) (hsl:Sl w (Lt w.heap.size) A n l) :
 Calls Tryz.prog 40 #[.slice A n c] w fun e w'=>e=.returned (.int .i64 (checkMemoryS l))∧Below w.heap.size w w':=by
 have hm:n≤9223372036854775807:=hsl.2.1
 have HL:=Lib.hid hsl.1
 by_cases hbig:(500:Int) < (n:Int)
 ·have HV:=Lib.hid (mems_large (l:=l) (by rw [HL.out]; exact hbig))
  go_enter Tryz.func40,Tryz.ntmps40
  go_wp2
  go_ret
  exact ⟨ret_int HV.out.symm,Below.refl _ _⟩
 have HA:=Lib.hid (mems_all (l:=l) (by rw [HL.out]; exact hbig))
 go_enter Tryz.func40,Tryz.ntmps40
 go_wp2
 go_loopw [12] (fun i wr=>∃ k:Nat,k≤n∧i=.int .i64 k∧listErr memErr MemoryV.name none l=listErr memErr MemoryV.name (ahead MemoryV.name l k) (l.drop k)∧Below w.heap.size w wr) (fun i _=>n - (intOf i).toNat)
 case atStart=>exact ⟨0,Nat.zero_le _,rfl,rfl,Below.refl _ _⟩
 case round =>
  obtain ⟨k,hk,rfl,hd,hbel⟩:=hrel
  have Hr:=Lib.hid hd; clear hd
  have hEr:=hE.then_ hbel
  have hslr:=sl_call hsl hbel (Nat.le_refl _)
  by_cases hlt:k < n
  ·have hkI:(k:Int) < (n:Int):=by omega
   obtain ⟨b,o,x,rfl,hbb,hx,A1,n1,c1,A2,n2,c2,A3,n3,c3,⟨z1,z2,z3,z4,z5⟩,_,⟨s1,s2,s3⟩,q0,q1,q2,q3,q4,q5,q6,q7⟩:=hslr.memory hlt
   have HX:=Lib.hid hx; clear hx
   have hres:ResIs wr x.result A2 n2 A3 n3:=⟨z4,z3,s2,s3,z5⟩
   go_wp2_with fail
   generalize hW0:wr.alloc (.cells #[.string x.name,.string x.action,.slice A1 n1 c1,.int .i64 x.result.code,.string x.result.text,.slice A2 n2 c2,.slice A3 n3 c3,.int .i64 x.result.command] 43)=W
   have hA0:Arr W wr.heap.size 43 (memCells x A1 n1 c1 A2 n2 c2 A3 n3 c3):=by rw [←hW0]; exact mem_box ..
   have hb0:Below wr.heap.size wr W:=by rw [←hW0]; exact fr_alloc (fr_refl wr) _
   clear hW0 q1 q2 q3 q4 q5 q6 q7
   refine (blob_IsPath x.name W (hEr.then_ hb0)).mono ?_
   rintro e w1 ⟨rfl,hb1⟩
   have hb01:=fr_call hb0 hb1
   have hA1:=hA0.call hb1
   have p1:=hA1.cell (i:=1) rfl
   clear hA0 hb0 hb1
   cases hp:isPathS x.name
   ·have HV:=Lib.hid (mems_stop HX.out (mem_form (by rw [hp]; rfl)) (by decide))
    have hbw:=fr_call hbel hb01
    clear hp
    go_wp2
    go_ret
    exact ⟨ret_int (by rw [HA.out,Hr.out,HV.out]),hbw⟩
   go_wp2_with fail
   refine (blob_IsDigest x.action w1 z2).mono ?_
   rintro e w2 ⟨rfl,hb2⟩
   have hb02:=fr_call hb01 hb2
   have hA2:=hA1.call hb2
   have p2:=hA2.cell (i:=2) rfl
   clear hA1 hb2 hb01 p1
   cases hq:isDigestS x.action
   ·have HV:=Lib.hid (mems_stop HX.out (mem_form (by rw [hp,hq]; rfl)) (by decide))
    have hbw:=fr_call hbel hb02
    clear hp hq
    go_wp2
    go_ret
    exact ⟨ret_int (by rw [HA.out,Hr.out,HV.out]),hbw⟩
   have HF:=Lib.hid (show (isPathS x.name && isDigestS x.action)=true by rw [hp,hq]; rfl)
   clear hp hq
   go_wp2_with fail
   refine (act_CheckLooks A1 n1 c1 x.looks w2 (hEr.then_ hb02) (sl_call s1 hb02 (Nat.le_refl _))).mono ?_
   rintro e w3 ⟨rfl,hb3⟩
   have hb03:=fr_call hb02 hb3
   have hA3:=hA2.call hb3
   have p3:=hA3.cell (i:=3) rfl
   have p4:=hA3.cell (i:=4) rfl
   have p5:=hA3.cell (i:=5) rfl
   have p6:=hA3.cell (i:=6) rfl
   have p7:=hA3.cell (i:=7) rfl
   have hgl3:=hA3.lt
   clear hA2 hb3 hb02 p2
   cases h0:(checkLooksS x.looks == 0)
   ·have hne:checkLooksS x.looks≠0:=by simpa using h0
    have hbn:(checkLooksS x.looks != 0)=true:=by simpa using h0
    have HV:=Lib.hid (mems_stop HX.out (mem_looks HF.out hne) hne)
    have hbw:=fr_call hbel hb03
    clear hne
    go_wp2
    go_ret
    exact ⟨ret_int (by rw [HA.out,Hr.out,HV.out]),hbw⟩
   have hz:checkLooksS x.looks=0:=by simpa using h0
   have hbn:(checkLooksS x.looks != 0)=false:=by simpa using h0
   have HZ:=Lib.hid hz; clear hz
   have HC:=Lib.hid (act_CheckResult x.result A2 n2 c2 A3 n3 c3 w3 (hEr.then_ hb03) (hres.then_ hb03))
   unfold resVal at HC
   go_wp2_with fail
   refine HC.out.mono ?_
   rintro e w4 ⟨rfl,hb4⟩
   have hb04:=fr_call hb03 hb4
   have hA4:=hA3.call hb4
   have r2:=hA4.cell (i:=2) rfl
   have r3:=hA4.cell (i:=3) rfl
   have r6:=hA4.cell (i:=6) rfl
   clear hA3 hb4 hb03 p3 p4 p5 p6 p7 HC h0 hbn
   cases h0:(checkResultS x.result == 0)
   ·have hne:checkResultS x.result≠0:=by simpa using h0
    have hbn:(checkResultS x.result != 0)=true:=by simpa using h0
    have HV:=Lib.hid (mems_stop HX.out (mem_result HF.out HZ.out hne) hne)
    have hbw:=fr_call hbel hb04
    clear hne
    go_wp2
    go_ret
    exact ⟨ret_int (by rw [HA.out,Hr.out,HV.out]),hbw⟩
   have hz:checkResultS x.result=0:=by simpa using h0
   have hbn:(checkResultS x.result != 0)=false:=by simpa using h0
   have HR:=Lib.hid (mem_rest HF.out HZ.out hz); clear hz
   cases hcode:(x.result.code == 0)
   ·have hbc:(x.result.code != 0)=true:=by simpa using hcode
    have HV:=Lib.hid (mems_stop HX.out (show checkMemS x=11 by rw [HR.out,if_pos (by simpa using hcode)]) (by decide))
    have hbw:=fr_call hbel hb04
    go_wp2
    go_ret
    exact ⟨ret_int (by rw [HA.out,Hr.out,HV.out]),hbw⟩
   have hbc:(x.result.code != 0)=false:=by simpa using hcode
   have HR2:=Lib.hid (show checkMemS x=if sameLooksS x.looks x.result.looks=false then 12 else 0 by rw [HR.out,if_neg (by simpa using hcode)])
   clear HR
   go_wp2_with fail
   refine (slices_EqualLook A1 A3 n1 n3 c1 c3 x.looks x.result.looks w4 (sl_call s1 hb04 (Nat.le_refl _)) (sl_call s3 hb04 (Nat.le_refl _))).mono ?_
   rintro e w5 ⟨rfl,hb5⟩
   have hb05:=fr_call hb04 hb5
   have hA5:=hA4.call hb5
   have hbw:=fr_call hbel hb05
   have pn:=hA5.cell (i:=0) rfl
   clear hA4 hb5 hb04 r2 r3 r6 hcode hbc h0 hbn
   cases hsame:sameLooksS x.looks x.result.looks
   ·have HV:=Lib.hid (mems_stop HX.out (show checkMemS x=12 by rw [HR2.out,if_pos hsame]) (by decide))
    clear hsame
    go_wp2
    go_ret
    exact ⟨ret_int (by rw [HA.out,Hr.out,HV.out]),hbw⟩
   have HO:=Lib.hid (mems_rest (prev:=ahead MemoryV.name l k) (show checkMemS x=0 by rw [HR2.out,if_neg (by rw [hsame]; decide)]))
   clear hsame
   by_cases hk0:0 < k
   ·have hg0:decide ((0:Int) < (k:Int))=true:=by simpa using hk0
    obtain ⟨_,_,z,e0,hbz,hy,_,_,_,_,_,_,_,_,_,_,_,_,d0,_⟩:=hslr.memory (k:=k - 1) (by omega)
    cases e0
    have HAh:=Lib.hid (ahead_pos (f:=MemoryV.name) hk0 hy); clear hy
    have hbw0:b < wr.heap.size:=hbz
    have d1:w5.cell? ⟨b,o + (k - 1) * 8,none⟩=some (.string z.name):=by rw [hb05.cell (by exact hbw0)]; exact d0
    cases hle:leS x.name z.name
    ·have HV:=Lib.hid (show memErr (ahead MemoryV.name l k) x=0 by rw [HO.out,HAh.out]; simp [notAfter,hle])
     have hle':=leS_false hle
     go_wp2
     have g1:=IntWalk.i64_in ((k:Int) - 1) ⟨by omega,by omega⟩; have g2:((k:Int) - 1).toNat=k - 1:=(by omega); have g3:(0:Int)≤(k:Int) - 1:=(by omega); have g4:(k:Int) - 1 < (n:Int):=(by omega)
     go_quiet (fail)
     clear g1 g2 g3 g4
     go_wp2
     go_roundw
     case rel=>exact ⟨k + 1,by omega,by go_num,by rw [Hr.out]; exact list_round HX.out HV.out,below_drewN hbw _⟩
     case measure=>simp [intOf]; omega
    ·have HV:=Lib.hid (list_stop (key:=MemoryV.name) HX.out (show memErr (ahead MemoryV.name l k) x=8 by rw [HO.out,HAh.out]; simp [notAfter,hle]) (by decide))
     have hle':=leS_true hle
     go_wp2
     have g1:=IntWalk.i64_in ((k:Int) - 1) ⟨by omega,by omega⟩; have g2:((k:Int) - 1).toNat=k - 1:=(by omega); have g3:(0:Int)≤(k:Int) - 1:=(by omega); have g4:(k:Int) - 1 < (n:Int):=(by omega)
     go_quiet (fail)
     clear g1 g2 g3 g4
     go_wp2
     go_ret
     exact ⟨ret_int (by rw [HA.out,Hr.out,HV.out]),below_drewN hbw _⟩
   ·have hg0:decide ((0:Int) < (k:Int))=false:=by simpa using hk0
    have HV:=Lib.hid (show memErr (ahead MemoryV.name l k) x=0 by rw [HO.out,show ahead MemoryV.name l k=none by simp [ahead]; omega]; rfl)
    go_wp2
    go_quiet (fail)
    go_wp2
    go_roundw
    case rel=>exact ⟨k + 1,by omega,by go_num,by rw [Hr.out]; exact list_round HX.out HV.out,below_drewN hbw _⟩
    case measure=>simp [intOf]; omega
  ·have HV:=Lib.hid (show listErr memErr MemoryV.name none l=0 by rw [Hr.out,list_end (by rw [HL.out]; omega)])
   go_wp2
   go_ret
   exact ⟨ret_int (by rw [HA.out,HV.out]),hbel⟩
end Go.Proofs.Sm
namespace Go.Proofs.Sm
open Go.RowKit Go.Sort
theorem heap_sortedV {w:World} {g n:Nat} {os:Array Obj} {cur:Array Value} {e:TypeId} {fr:Nat × Nat} (d:Array Value) (hb:w.heap[g]?=some (.cells cur e fr)) :
 (grow (putRow id (Sort.ahead w n) g 0 d) os).heap[g]?=some (.cells (putCells id 0 d cur) e fr):=by
 have hg:g < w.heap.size:=(Array.getElem?_eq_some_iff.1 hb).1
 rw [heap_grow_old _ _ (by simpa using hg)]
 simp [putRow,mapBlock,Sort.ahead,Array.getElem?_modify,hb,onCells]
theorem grownBy_sortedV {w:World} {g n:Nat} {os:Array Obj} (d:Array Value):w.grownBy (grow (putRow id (Sort.ahead w n) g 0 d) os) (some g):=by
 refine ⟨rfl,rfl,rfl,by simp,fun k hk hne=>?_⟩
 rw [heap_grow_old _ _ (by simpa using hk)]
 have:g≠k:=fun e=>hne (by rw [e])
 simp [putRow,mapBlock,Sort.ahead,Array.getElem?_modify,this]
theorem take_putCellsV (cur:Array Value) (ts:List Value) (h:ts.length≤cur.size):(putCells id 0 ts.toArray cur).toList.take ts.length=ts:=by
 apply List.ext_getElem?
 intro j
 by_cases hj:j < ts.length
 ·rw [List.getElem?_take_of_lt hj,Array.getElem?_toList]
  simp [putCells,hj,show j < cur.size by omega]
 ·rw [List.getElem?_take_eq_none (by omega),List.getElem?_eq_none (by omega)]
section
variable {α:Type} [Inhabited α] {enc:α→List Value} {k:Nat}
theorem flatK_list (hk:∀ x,(enc x).length=k) (d:Array α):flatK enc k d=(d.toList.flatMap enc).toArray:=by
 have hl:(d.toList.flatMap enc).length=d.size * k:=by
  have key:∀ l:List α,(l.flatMap enc).length=l.length * k:=by
   intro l
   induction l with
   | nil=>simp
   | cons x l ih=>rw [List.flatMap_cons,List.length_append,ih,hk,List.length_cons,Nat.succ_mul]; omega
  rw [key,Array.length_toList]
 refine ext_get! (by simp [hl]) fun t ht=>?_
 have ht':t < d.size * k:=by simpa using ht
 have k0:0 < k:=by
  rcases Nat.eq_zero_or_pos k with h | h
  ·subst h; simp at ht'
  ·exact h
 rw [get_flatK _ _ _ t ht']
 have hi:t / k < d.size:=Nat.div_lt_of_lt_mul (by rw [Nat.mul_comm]; exact ht')
 have hx:d.toList[t / k]?=some (d[t / k]'hi):=by rw [Array.getElem?_toList]; exact Array.getElem?_eq_getElem hi
 have hm:t % k < k:=Nat.mod_lt _ k0
 have h1:=flatMap_at hk hx hm
 rw [show t / k * k + t % k=t by rw [Nat.mul_comm]; exact Nat.div_add_mod t k] at h1
 have h2:(d.toList.flatMap enc).toArray[t]?=(enc (d[t / k]'hi))[t % k]?:=by rw [←h1]; simp
 rw [getElem!_pos d (t / k) hi,List.getElem!_eq_getElem?_getD,←h2]
 simp
theorem sorted_row (hk:∀ x,(enc x).length=k) {w:World} {B g cap n:Nat} {os:Array Obj} {e:TypeId} {d d':Array α} (hs:d'.size=d.size) (h:w.ownsRow B e k (.slice (some ⟨g,0,none⟩) d.size cap) d.size (d.toList.flatMap enc)) :
 (sortWorldK enc k w g 0 n d' os).ownsRow B e k (.slice (some ⟨g,0,none⟩) d.size cap) d.size (d'.toList.flatMap enc)∧w.grownBy (sortWorldK enc k w g 0 n d' os) (some g):=by
 have hl:(d'.toList.flatMap enc).length=d.size * k:=by
  rw [←hs,←size_flatK enc k d',flatK_list hk]; simp
 unfold sortWorldK putRowK
 rw [flatK_list hk d']
 refine ⟨⟨by rw [hl],.inr ?_⟩,grownBy_sortedV _⟩
 rcases h.2 with ⟨h0,_⟩ | ⟨g',cap',cur,hv,hg,hb,h1,h2,h3,_⟩
 ·cases h0
 ·cases hv
  refine ⟨g,cap,_,rfl,hg,heap_sortedV _ hb,h1,h2,by simpa [putCells] using h3,?_⟩
  rw [←hl]
  exact take_putCellsV cur _ (by rw [hl,h3]; exact Nat.mul_le_mul_right k h1)
theorem holdsK_own (hk:∀ x,(enc x).length=k) {w:World} {B g cap:Nat} {e:TypeId} {d:Array α} (h:w.ownsRow B e k (.slice (some ⟨g,0,none⟩) d.size cap) d.size (d.toList.flatMap enc)):HoldsK enc k w g 0 d:=by
 unfold HoldsK
 rw [flatK_list hk]
 intro j hj
 have hj':j < (d.toList.flatMap enc).length:=by simpa using hj
 refine ⟨?_,by rw [Nat.zero_add]; exact h.frozenAt j⟩
 have h1:=h.cells rfl j _ (List.getElem?_eq_getElem hj')
 rw [addr_add] at h1
 rw [h1]
 simp only [id]
 rw [getElem!_pos _ j (by simpa using hj')]
 simp
end
end Go.Proofs.Sm
namespace Go.Proofs
open Go.Shelf
def Tryz.sortf_apiMemory_ren:Go.Shelf.Ren:=⟨fun | 6=>50 | 15=>86 | 14=>85 | 28=>128 | 29=>129 | 20=>120 | 21=>121 | 22=>122 | 23=>123 | 24=>124 | 25=>125 | 26=>126 | 27=>127 | 46=>161 | 47=>162 | 48=>163 | 49=>164 | 50=>165 | 57=>208 | n=>n,fun | 22=>26 | 24=>43 | 25=>122 | 3=>3 | 39=>162 | 0=>0 | 53=>203 | 55=>123 | 4=>4 | 46=>197 | 45=>196 | 50=>128 | 5=>5 | 9=>9 | 66=>234 | 70=>238 | 76=>260 | 77=>216 | n=>n,fun | n=>n⟩
theorem Tryz.sortf_apiMemory:Go.Proofs.SlLaysF0.n6 Tryz.prog Tryz.sortf_apiMemory_ren:={
 mixed:=by kernel_rfl
 f6:=⟨Tryz.f50.name,by decide,Tryz.func50.trans (congrArg some (by kernel_rfl))⟩
 f14:=⟨Tryz.f85.name,by decide,Tryz.func85.trans (congrArg some (by kernel_rfl))⟩
 f15:=Tryz.func86.trans (congrArg some (by kernel_rfl))
 f20:=⟨Tryz.f120.name,by decide,Tryz.func120.trans (congrArg some (by kernel_rfl))⟩
 f21:=⟨Tryz.f121.name,by decide,Tryz.func121.trans (congrArg some (by kernel_rfl))⟩
 f22:=⟨Tryz.f122.name,by decide,Tryz.func122.trans (congrArg some (by kernel_rfl))⟩
 f23:=⟨Tryz.f123.name,by decide,Tryz.func123.trans (congrArg some (by kernel_rfl))⟩
 f24:=⟨Tryz.f124.name,by decide,Tryz.func124.trans (congrArg some (by kernel_rfl))⟩
 f25:=⟨Tryz.f125.name,by decide,Tryz.func125.trans (congrArg some (by kernel_rfl))⟩
 f26:=⟨Tryz.f126.name,by decide,Tryz.func126.trans (congrArg some (by kernel_rfl))⟩
 f27:=⟨Tryz.f127.name,by decide,Tryz.func127.trans (congrArg some (by kernel_rfl))⟩
 f28:=Tryz.func128.trans (congrArg some (by kernel_rfl))
 f29:=Tryz.func129.trans (congrArg some (by kernel_rfl))
 f46:=⟨Tryz.f161.name,by decide,Tryz.func161.trans (congrArg some (by kernel_rfl))⟩
 f47:=Tryz.func162.trans (congrArg some (by kernel_rfl))
 f48:=Tryz.func163.trans (congrArg some (by kernel_rfl))
 f49:=⟨Tryz.f164.name,by decide,Tryz.func164.trans (congrArg some (by kernel_rfl))⟩
 f50:=⟨Tryz.f165.name,by decide,Tryz.func165.trans (congrArg some (by kernel_rfl))⟩
 f57:=⟨Tryz.f208.name,by decide,Tryz.func208.trans (congrArg some (by kernel_rfl))⟩
 t0:=Tryz.underlying0
 a0:=Tryz.isAgg0
 z0:=Tryz.sizeOf0
 v0:=Tryz.zeroValue0
 t3:=Tryz.underlying3
 a3:=Tryz.isAgg3
 z3:=Tryz.sizeOf3
 v3:=Tryz.zeroValue3
 t4:=Tryz.underlying4
 a4:=Tryz.isAgg4
 z4:=Tryz.sizeOf4
 v4:=Tryz.zeroValue4
 t5:=Tryz.underlying5
 a5:=Tryz.isAgg5
 z5:=Tryz.sizeOf5
 v5:=Tryz.zeroValue5
 t9:=Tryz.underlying9
 a9:=Tryz.isAgg9
 z9:=Tryz.sizeOf9
 v9:=Tryz.zeroValue9
 t22:=Tryz.underlying26
 a22:=Tryz.isAgg26
 z22:=Tryz.sizeOf26
 v22:=Tryz.zeroValue26
 t25:=Tryz.underlying122
 a25:=Tryz.isAgg122
 z25:=Tryz.sizeOf122
 v25:=Tryz.zeroValue122
 t39:=Tryz.underlying162
 a39:=Tryz.isAgg162
 z39:=Tryz.sizeOf162
 v39:=Tryz.zeroValue162
 t45:=Tryz.underlying196
 a45:=Tryz.isAgg196
 z45:=Tryz.sizeOf196
 v45:=Tryz.zeroValue196
 t46:=Tryz.underlying197
 a46:=Tryz.isAgg197
 z46:=Tryz.sizeOf197
 v46:=Tryz.zeroValue197
 t50:=Tryz.underlying128
 a50:=Tryz.isAgg128
 z50:=Tryz.sizeOf128
 v50:=Tryz.zeroValue128
 t53:=Tryz.underlying203
 a53:=Tryz.isAgg203
 z53:=Tryz.sizeOf203
 v53:=Tryz.zeroValue203
 t55:=Tryz.underlying123
 a55:=Tryz.isAgg123
 z55:=Tryz.sizeOf123
 v55:=Tryz.zeroValue123
 t66:=Tryz.underlying234
 a66:=Tryz.isAgg234
 z66:=Tryz.sizeOf234
 v66:=Tryz.zeroValue234
 t70:=Tryz.underlying238
 a70:=Tryz.isAgg238
 z70:=Tryz.sizeOf238
 v70:=Tryz.zeroValue238
 t76:=Tryz.underlying260
 a76:=Tryz.isAgg260
 z76:=Tryz.sizeOf260
 v76:=Tryz.zeroValue260
 t77:=Tryz.underlying216
 a77:=Tryz.isAgg216
 z77:=Tryz.sizeOf216
 v77:=Tryz.zeroValue216 }
end Go.Proofs
namespace Go.Proofs.Sm
open Go.RowKit Go.Sort Go.Shelf Go.Lib
structure MemRow where
 name:ByteArray
 action:ByteArray
 text:ByteArray
 s1:Value
 s2:Value
 s3:Value
 code:Int
 command:Int
 one:s1.oneCell'=true∧s2.oneCell'=true∧s3.oneCell'=true
instance:Inhabited MemRow:=⟨⟨⟨#[]⟩,⟨#[]⟩,⟨#[]⟩,.bool false,.bool false,.bool false,0,0,rfl,rfl,rfl⟩⟩
def encMem (x:MemRow):List Value:=[.string x.name,.string x.action,x.s1,.int .i64 x.code,.string x.text,x.s2,x.s3,.int .i64 x.command]
instance:Inhabited MemoryV:=⟨⟨⟨#[]⟩,⟨#[]⟩,[],⟨0,⟨#[]⟩,[],[],0⟩⟩⟩
abbrev MemP:=MemoryV × MemRow
def encP (p:MemP):List Value:=encMem p.2
def cmpP (p q:MemP):Int:=Lib.compareBytes p.2.name.data.toList q.2.name.data.toList
theorem ltP (p q:MemP):ltOf cmpP p q=ltS p.2.name q.2.name:=by
 unfold ltOf cmpP ltS
 rw [Lib.toList_data,Lib.toList_data,Bool.eq_iff_iff,decide_eq_true_eq,cmp_lt]
theorem swoP:SWO (ltOf cmpP) where
 irrefl x:=by rw [ltP]; exact bl_irrefl _
 trans x y z h1 h2:=by rw [ltP] at *; exact bl_trans h1 h2
 ntrans x y z h1 h2:=by
  rw [ltP] at *
  cases h:ltS x.2.name z.2.name with
  | false=>rfl
  | true =>
    exfalso
    by_cases e:x.2.name.toList=y.2.name.toList
    ·unfold ltS at h h2
     rw [e] at h
     rw [h] at h2; cases h2
    ·have h3:ltS y.2.name x.2.name=true:=bl_total h1 e
     have h4:ltS y.2.name z.2.name=true:=bl_trans h3 h
     rw [h4] at h2; cases h2
set_option maxRecDepth 100000 in
theorem steps_Joined1 (x y:MemP) (w:World) :
 Calls Tryz.prog 51 #[.agg (encP x).toArray,.agg (encP y).toArray] w fun e w'=>e=.returned (.int .i64 (cmpP x y))∧∃ q os',w'=grow (w.drewN q) os':=by
 unfold encP encMem cmpP
 generalize hx:x.2=a
 generalize hy:y.2=b
 have a1:=a.one.1
 have a2:=a.one.2.1
 have a3:=a.one.2.2
 have b1:=b.one.1
 have b2:=b.one.2.1
 have b3:=b.one.2.2
 have HC:=Lib.hid (fun W=>Tryz.strings_Compare a.name b.name W)
 generalize Lib.compareBytes a.name.data.toList b.name.data.toList=r at HC ⊢
 clear hx hy
 go_enter Tryz.func51,Tryz.ntmps51
 go_wp2_with (go_at_call 52; refine (HC.out _).mono ?_; rintro e w1 ⟨rfl,rfl⟩)
 go_ret
 exact ⟨rfl,0,_,by rw [alloc_eq_grow,alloc_eq_grow,grow_grow]; rfl⟩
theorem agg_memory:∀ w,(isAgg 43).run Tryz.prog w=.ok true w:=fun w=>Tryz.isAgg43 w
theorem size_memory:∀ w,(Go.sizeOf 43).run Tryz.prog w=.ok 8 w:=fun w=>Tryz.sizeOf43 w
end Go.Proofs.Sm
namespace Go.Proofs.Sm
open Go.RowKit Go.Sort Go.Shelf Go.Lib
theorem encP_len (p:MemP):(encP p).length=8:=rfl
theorem encP_one (p:MemP):∀ v∈encP p,v.oneCell'=true:=by
 intro v hv
 unfold encP encMem at hv
 simp only [List.mem_cons,List.not_mem_nil,or_false] at hv
 obtain ⟨h1,h2,h3⟩:=p.2.one
 rcases hv with rfl | rfl | rfl | rfl | rfl | rfl | rfl | rfl
 all_goals first | rfl | assumption
theorem row_pairs {w:World} {B:Nat} {e:TypeId} {K:Nat→Prop} {v:Value} {l:List MemoryV} (h:RowK w B e K v l) :
 ∃ ps:List MemP,ps.map Prod.fst=l∧(∀ p∈ps,Rep.rep w K p.1 (encP p)∧p.2.name=p.1.name)∧w.ownsRow B e 8 v l.length (ps.flatMap encP):=by
 obtain ⟨_,rows,hr,hown,hrep⟩:=h
 have key:∀ (l:List MemoryV) (rows:List (List Value)),rows.length=l.length→(∀ (i:Nat) (x:MemoryV) (r:List Value),l[i]?=some x→rows[i]?=some r→Rep.rep w K x r) →
  ∃ ps:List MemP,ps.map Prod.fst=l∧(∀ p∈ps,Rep.rep w K p.1 (encP p)∧p.2.name=p.1.name)∧rows.flatten=ps.flatMap encP:=by
  intro l
  induction l with
  | nil =>
    intro rows h0 _
    obtain rfl:=List.eq_nil_of_length_eq_zero h0
    exact ⟨[],rfl,fun p hp=>by simp at hp,rfl⟩
  | cons x l ih =>
    intro rows h0 h1
    cases rows with
    | nil=>simp at h0
    | cons r rows =>
      obtain ⟨ps,h2,h3,h4⟩:=ih rows (by simpa using h0) fun i x r hx hr=>h1 (i + 1) x r (by simpa using hx) (by simpa using hr)
      have hx:=h1 0 x r rfl rfl
      obtain ⟨A,n,c,B,m,d,C,p,q,e0,_⟩:=id hx
      have hx2:=hx
      rw [e0] at hx2
      refine ⟨(x,⟨x.name,x.action,x.result.text,.slice A n c,.slice B m d,.slice C p q,x.result.code,x.result.command,rfl,rfl,rfl⟩) :: ps,by rw [List.map_cons,h2],fun y hy=>?_,?_⟩
      ·rcases List.mem_cons.1 hy with rfl | hy
       ·exact ⟨hx2,rfl⟩
       ·exact h3 y hy
      ·rw [List.flatten_cons,h4,e0,List.flatMap_cons]; rfl
 obtain ⟨ps,h1,h2,h3⟩:=key l rows hr hrep
 exact ⟨ps,h1,h2,by rw [←h3]; exact hown⟩
theorem row_of_pairs {w w':World} {B g:Nat} {e:TypeId} {K:Nat→Prop} {v:Value} {ps ps':List MemP} (hK:∀ k,K k→k < w.heap.size) (hg:¬ K g) (hrep:∀ p∈ps,Rep.rep w K p.1 (encP p)) (hp:ps'.Perm ps) (hgr:w.grownBy w' (some g)) (hown:w'.ownsRow B e 8 v ps'.length (ps'.flatMap encP)):RowK w' B e K v (ps'.map Prod.fst):=by
 refine ⟨fun k hk=>Nat.lt_of_lt_of_le (hK k hk) hgr.size,ps'.map encP,by simp,?_,fun i x r hx hr=>?_⟩
 ·rw [List.length_map,←List.flatMap_def]
  exact hown
 ·rw [List.getElem?_map,Option.map_eq_some_iff] at hx hr
  obtain ⟨p,hp1,rfl⟩:=hx
  obtain ⟨q,hq1,rfl⟩:=hr
  rw [hp1] at hq1
  obtain rfl:=Option.some.inj hq1
  exact Rep.keep (fun k hk=>hgr.block k (hK k hk) fun e=>hg (by cases e; exact hk)) (hrep p (hp.mem_iff.1 (List.mem_of_getElem? hp1)))
theorem sort_memories (v:Value) (l:List MemoryV) (B:Nat) (K:Nat→Prop) (w:World) (h:RowK w B 43 K v l) (hne:∀ g,v.ownBlock=some g→¬ K g) (hn:l.length≤1000000) :
 Calls Tryz.prog 50 #[v,.func (.func 51) #[] #[]] w fun e w'=>e=.returned (.tuple #[]) ∧
  ∃ l',l'.Perm l∧(∀ (i j:Nat) (x y:MemoryV),i < j→l'[i]?=some x→l'[j]?=some y→ltS y.name x.name=false)∧RowK w' B 43 K v l'∧w.grownBy w' v.ownBlock:=by
 rcases Nat.eq_zero_or_pos l.length with h0 | h0
 ·obtain rfl:=List.eq_nil_of_length_eq_zero h0
  obtain ⟨A,c,rfl⟩:=h.form
  have hcon:=AnyF.slices_SortFunc_none Tryz.sortf_apiMemory A c (.func (.func 51) #[] #[]) w
  change Calls Tryz.prog 50 _ _ _ at hcon
  refine hcon.mono ?_
  rintro e w' ⟨rfl,rfl⟩
  exact ⟨rfl,[],List.Perm.refl _,fun i j x y _ h=>by simp at h,h,World.grownBy.refl _ _⟩
 ·obtain ⟨ps,hps,hrep,hown⟩:=row_pairs h
  have hl:ps.length=l.length:=by rw [←hps,List.length_map]
  obtain ⟨A,c,rfl⟩:=h.form
  obtain ⟨g,rfl,hgl⟩:∃ g,A=some ⟨g,0,none⟩∧g < w.heap.size:=by
   rcases hown.2 with ⟨e0,h1⟩ | ⟨g,cap,cur,e0,h1,h2,_⟩
   ·omega
   ·cases e0; exact ⟨g,rfl,(Array.getElem?_eq_some_iff.1 h2).1⟩
  have hs:ps.toArray.size=l.length:=by rw [List.size_toArray,hl]
  have hown2:w.ownsRow B 43 8 (.slice (some ⟨g,0,none⟩) ps.toArray.size c) ps.toArray.size (ps.toArray.toList.flatMap encP):=by rw [hs]; exact hown
  have eg:∀ args w,(callFunc 51 args).run Tryz.prog w=.ok (.enter 51 args) w:=enters_of Tryz.func51 (by kernel_rfl) rfl
  have hcon:=AnyQ.slices_SortFunc Tryz.sortf_apiMemory 8 agg_memory size_memory encP encP_len encP_one cmpP swoP 51 #[] g 0 c ps.toArray w eg (fun _ _ _ _ x y=>steps_Joined1 x y _) (holdsK_own encP_len hown2) hgl (by rw [hs]; omega)
  change Calls Tryz.prog 50 _ _ _ at hcon
  rw [hs] at hcon
  refine hcon.mono ?_
  rintro e w' ⟨rfl,d',n,os,⟨hd1,_,hd2⟩,hso,rfl⟩
  rw [hs] at hd1
  have hd3:d'.toList.Perm ps:=by
   have e1:(d'.extract 0 l.length).toList=d'.toList:=by rw [←hd1,Array.extract_size]
   have e2:(ps.toArray.extract 0 l.length).toList=ps:=by rw [←hs,Array.extract_size]
   rwa [e1,e2] at hd2
  obtain ⟨hown3,hgr⟩:=sorted_row encP_len (n:=n) (os:=os) (d':=d') (by rw [hs,hd1]) hown2
  have hdl:d'.toList.length=l.length:=by rw [Array.length_toList,hd1]
  rw [hs,←hdl] at hown3
  have hrow:=row_of_pairs h.1 (hne g rfl) (fun p hp=>(hrep p hp).1) hd3 hgr hown3
  refine ⟨rfl,d'.toList.map Prod.fst,?_,fun i j x y hij hx hy=>?_,?_,hgr⟩
  ·rw [←hps]; exact hd3.map _
  ·rw [List.getElem?_map,Option.map_eq_some_iff] at hx hy
   obtain ⟨p,hp1,rfl⟩:=hx
   obtain ⟨q,hq1,rfl⟩:=hy
   have hj:j < d'.size:=by
    have:=(List.getElem?_eq_some_iff.1 hq1).1
    simpa using this
   have h1:=hso i j (Nat.zero_le _) hij (by omega)
   rw [ltP,getElem!_pos d' i (by omega),getElem!_pos d' j hj] at h1
   rw [Array.getElem?_toList,Array.getElem?_eq_getElem (by omega)] at hp1
   rw [Array.getElem?_toList,Array.getElem?_eq_getElem hj] at hq1
   obtain rfl:=Option.some.inj hp1
   obtain rfl:=Option.some.inj hq1
   rwa [(hrep _ (hd3.mem_iff.1 (by simp))).2,(hrep _ (hd3.mem_iff.1 (by simp))).2] at h1
  ·rw [hdl] at hrow; exact hrow
end Go.Proofs.Sm
