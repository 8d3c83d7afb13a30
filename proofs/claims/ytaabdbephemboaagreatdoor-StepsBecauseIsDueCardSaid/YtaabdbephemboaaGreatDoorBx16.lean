/- Words and walks that the claims share, part 16. -/
import Derived.Test.YtaabdbephemboaaGreatDoorBx1
import Derived.Test.YtaabdbephemboaaGreatDoorBx4
import Derived.Test.YtaabdbephemboaaGreatDoorBx6
import Derived.Test.YtaabdbephemboaaGreatDoorBx7
import Derived.Test.YtaabdbephemboaaGreatDoorBx9
import Derived.Test.YtaabdbephemboaaGreatDoorBx11
import Derived.Test.YtaabdbephemboaaGreatDoorBx14
import Derived.Test.YtaabdbephemboaaGreatDoorBx15
import Derived.Lib.OthersKept
import Derived.Lib.Builder
import Derived.Lib.FrozenHead
import Derived.Lib.AppendStr
import Derived.Deep.RegionHeld3
import Derived.Lib.ConvBytes
import Derived.Deep.RegionWith
namespace Go.Proofs.Sm
open Go.RowKit
theorem bld_size:(Tryz.prog.info? 176).map (·.size)=some 2:=by kernel_rfl
theorem bld_lies:liesAt Tryz.prog Tryz.prog.depth 176 (2 / Tryz.prog.cellsOf 176) 0 176 1=true:=by kernel_rfl
theorem byte_info:(Tryz.prog.info? 5).map (fun i=>(i.zero,i.size,i.bytes))=some (some (.int .u8 0),1,1):=by kernel_rfl
def Bld (w:World) (b:Nat) (l:List UInt8):Prop:=Lib.IsBuilderF 176 5 b b (Lib.byteCells l) w
def Wrote (b:Nat) (w w':World):Prop:=Below b w w'∧Lib.OthersKept 5 (some b) w w'
theorem Wrote.trans {b:Nat} {w w1 w2:World} (h:Wrote b w w1) (k:Wrote b w1 w2):Wrote b w w2:=⟨h.1.trans k.1,h.2.trans k.2⟩
theorem Bld.lt {w:World} {b:Nat} {l:List UInt8} (h:Bld w b l):b < w.heap.size:=by
 rcases h with h | h
 ·exact h.lt
 ·exact h.lt
theorem Bld.new (w:World):Bld (w.alloc (.cells #[.pointer none,.slice none 0 0] 176)) w.heap.size []:=by
 refine .inl ⟨Nat.le_refl _,.slice none 0 0,heap_alloc_new w _,?_,by simp [Value.ownBlock]⟩
 exact World.ownsRowF_of (World.ownsRow_nil _ _ _ _)
theorem Bld.alloc {w:World} {b:Nat} {l:List UInt8} (h:Bld w b l) (o:Obj):Bld (w.alloc o) b l:=by
 rcases h with h | h
 ·exact .inl (h.alloc o)
 ·exact .inr (h.alloc o)
theorem ownsRowF_call {w w':World} {base:Nat} {e:TypeId} {size:Nat} {v:Value} {n:Nat} {xs:List Value} (h:w.ownsRowF base e size v n xs) (hb:Below w.heap.size w w'):w'.ownsRowF base e size v n xs :=
 h.kept (row:=none) ⟨hb.os,hb.tape,hb.output,hb.size,fun i hi _=>hb.block i hi⟩ (by
  cases v.ownBlock with
  | none=>exact .inl rfl
  | some k=>exact .inr (by simp))
theorem Bld.call {w w':World} {b:Nat} {l:List UInt8} (h:Bld w b l) (hb:Below w.heap.size w w'):Bld w' b l:=by
 have hlt:=h.lt
 rcases h with ⟨hB,v,hbk,hown,hne⟩ | ⟨hB,v,hbk,hown,hne⟩
 ·exact .inl ⟨hB,v,(hb.block b hlt).trans hbk,ownsRowF_call hown hb,hne⟩
 ·exact .inr ⟨hB,v,(hb.block b hlt).trans hbk,ownsRowF_call hown hb,hne⟩
theorem Wrote.of_below {b:Nat} {w w':World} (hb:Below w.heap.size w w') (hlt:b≤w.heap.size):Wrote b w w' :=
 ⟨hb.mono hlt,fun k _ hk _ _=>(hb.block k (Array.getElem?_eq_some_iff.1 hk).1).trans hk⟩
set_option maxHeartbeats 1000000 in
set_option maxRecDepth 100000 in
theorem bld_check_used (b:Nat) (w:World) (h0:w.cell? ⟨b,0,none⟩=some (.pointer (some ⟨b,0,none⟩))) :
 Calls Tryz.prog 145 #[.pointer (some ⟨b,0,none⟩)] w fun e w'=>e=.returned (.tuple #[])∧w'=w:=by
 obtain ⟨j,hj,_⟩:=Option.map_eq_some_iff.1 bld_size
 go_enter Tryz.func145,Tryz.ntmps145
 go_wp2
 rw [Lib.run_neq_ptr_same w _ Tryz.underlying174 hj]
 go_wp2
 go_end0
 exact ⟨rfl,rfl⟩
set_option maxHeartbeats 1000000 in
set_option maxRecDepth 100000 in
theorem bld_check_fresh (b:Nat) (w:World) (h0:w.cell? ⟨b,0,none⟩=some (.pointer none)) (hsh:w.shape? b=some (176,2)) (hfz:w.frozen? ⟨b,0,none⟩=false) :
 Calls Tryz.prog 145 #[.pointer (some ⟨b,0,none⟩)] w fun e w'=>e=.returned (.tuple #[])∧w'=w.setCell ⟨b,0,none⟩ (.pointer (some ⟨b,0,none⟩)):=by
 obtain ⟨j,hj,hjs⟩:=Option.map_eq_some_iff.1 bld_size
 go_enter Tryz.func145,Tryz.ntmps145
 go_wp2
 rw [Lib.run_to_unsafe w ⟨b,0,none⟩ Tryz.underlying174 Tryz.underlying253 hj (by rw [hjs]; decide) hsh (Nat.zero_lt_succ 1)]
 simp only [Result.andThen]
 rw [Oper.upon_value]
 go_wp2
 rw [run_callFunc_extern Tryz.func196 (by kernel_rfl) (by kernel_rfl) (by kernel_rfl) (e:=Extern.AbiNoEscape.same) (by kernel_rfl)]
 rw [Lib.run_noEscape]
 simp only [Result.andThen]
 rw [Oper.upon_value]
 go_wp2
 rw [Lib.run_from_unsafe w ⟨b,0,none⟩ Tryz.underlying253 Tryz.underlying174 hj hsh bld_lies]
 simp only [Result.andThen]
 rw [Oper.upon_value]
 go_wp2
 go_end0
 exact ⟨rfl,rfl⟩
theorem bld_check (b:Nat) (bs:List Value) (w:World) (h:Lib.IsBuilderF 176 5 b b bs w) :
 Calls Tryz.prog 145 #[.pointer (some ⟨b,0,none⟩)] w fun e w'=>e=.returned (.tuple #[])∧Lib.BuilderAtF 176 5 b b (.pointer (some ⟨b,0,none⟩)) bs w'∧Below b w w'∧Lib.OthersKept 5 (some b) w w':=by
 rcases h with h | h
 ·refine (bld_check_fresh b w h.cell0 h.shape h.frozen0).mono ?_
  rintro e w' ⟨rfl,rfl⟩
  exact ⟨rfl,h.used _,(Below.refl b w).setCell (p:=⟨b,0,none⟩) h.1 _,(Lib.OthersKept.refl _ _ w).setCell ⟨b,0,none⟩ rfl _⟩
 ·refine (bld_check_used b w h.cell0).mono ?_
  rintro e w' ⟨rfl,rfl⟩
  exact ⟨rfl,h,Below.refl b _,Lib.OthersKept.refl _ _ _⟩
set_option maxHeartbeats 2000000 in
set_option maxRecDepth 100000 in
theorem bld_WriteString (b:Nat) (l:List UInt8) (s:ByteArray) (w:World) (h:Bld w b l) (hlen:l.length + s.size≤140737488355328) :
 Calls Tryz.prog 108 #[.pointer (some ⟨b,0,none⟩),.string s] w fun e w'=>e=.returned (.tuple #[.int .i64 s.size,.nilIface])∧Bld w' b (l ++ s.data.toList)∧Wrote b w w':=by
 obtain ⟨i0,hi,hz0,hz1,hz2⟩:=info_parts byte_info
 have hbl:=h.lt
 have hbl':=Lib.byteCells_length l
 go_enter Tryz.func108,Tryz.ntmps108
 go_wp2_with (go_at_call 145; refine (bld_check b _ _ h).mono ?_)
 rintro e w1 ⟨rfl,h1,hb1,hk1⟩
 obtain ⟨hB,v,hbk,hown,hne⟩:=h1
 have c0:w1.cell? ⟨b,0,none⟩=some (.pointer (some ⟨b,0,none⟩)):=by rw [Lib.cell_of_heap hbk]; rfl
 have c1:w1.cell? ⟨b,1,none⟩=some v:=by rw [Lib.cell_of_heap hbk]; rfl
 have HL:=Lib.hid hbl'; clear hbl'
 go_wp2_with (at_builtin; refine Lib.wpList_append_own_stringF _ rfl _ _ 75 9 rfl b 5 i0 Tryz.underlying75 Tryz.underlying9 hi hz0 hz1 hz2 _ _ _ rfl hown s rfl ?c3 ?c4 ?c5 ?_)
 case c3=>unfold maxLen; rw [HL.out]; omega
 case c4=>rw [HL.out]; omega
 case c5=>have:=hb1.size; omega
 intro v' w2 hown' hgrow _
 have hlt:b < w1.heap.size:=by
  rcases Nat.lt_or_ge b w1.heap.size with h' | h'
  ·exact h'
  ·simp [Array.getElem?_eq_none h'] at hbk
 have hb2:w2.heap[b]?=some (.cells #[.pointer (some ⟨b,0,none⟩),v] 176 (0,0)):=by
  rw [hgrow.block b hlt (fun e=>hne e.symm)]
  exact hbk
 have d0:w2.cell? ⟨b,0,none⟩=some (.pointer (some ⟨b,0,none⟩)):=by rw [Lib.cell_of_heap hb2]; rfl
 have d1:w2.cell? ⟨b,1,none⟩=some v:=by rw [Lib.cell_of_heap hb2]; rfl
 have f1:w2.frozen? ⟨b,1,none⟩=false:=Lib.frozen_of_heap hb2 1
 obtain ⟨ao,n',cap,rfl⟩:∃ ao n' cap,v'=.slice ao n' cap:=by
  rcases hown'.2 with ⟨hv,_⟩ | ⟨g,cap,cur,fz,hv,_⟩
  ·exact ⟨_,_,_,hv⟩
  ·exact ⟨_,_,_,hv⟩
 go_wp2
 go_ret2
 refine ⟨rfl,?_,?_,(hk1.grown hgrow (Lib.ownsRowF_kind hown)).setCell ⟨b,1,none⟩ rfl _⟩
 ·rw [Bld,Lib.byteCells_append,←Lib.strCells_eq]
  exact .inr (Lib.BuilderAtF.put (T:=176) (e:=5) hB hb2 (bs':=Lib.byteCells l ++ Lib.strCells s) (by simpa [Lib.strCells_length] using hown') (by decide))
 ·exact (hb1.grown hgrow (by have:=hb1.size; omega) (fun k hk=>(hown.lt k hk).1)).setCell (p:=⟨b,1,none⟩) hB _
theorem bld_String (b:Nat) (l:List UInt8) (w:World) (h:Bld w b l) :
 Calls Tryz.prog 111 #[.pointer (some ⟨b,0,none⟩)] w fun e w'=>e=.returned (.string ⟨l.toArray⟩)∧Bld w' b l∧Wrote b w w' :=
 (Tryz.Builder_String_any_k b b _ w h (Nat.le_of_lt h.lt)).mono fun _ _ h=>⟨h.1,h.2.1,h.2.2.1,h.2.2.2⟩
end Go.Proofs.Sm
namespace Go.Proofs.Sm
open Go.RowKit
theorem below_wrote {b:Nat} {a w w1:World} (h:Below b a w) (hw:Wrote b w w1):Below b a w1:=h.trans hw.1
theorem below_call {b:Nat} {a w w1:World} (hlt:b≤a.heap.size) (h:Below b a w) (hb:Below w.heap.size w w1):Below b a w1:=h.trans (hb.mono (Nat.le_trans hlt h.size))
end Go.Proofs.Sm
namespace Go.Proofs.Sm
open Go.RowKit
theorem join_any (A:Option Addr) (n c:Nat) (ws:List ByteArray) (w:World) (hsl:Sl w (Lt w.heap.size) A n ws) (hnc:n≤c) (hn:n≤140737488355328) (hlen:(joinS ws).length≤140737488355328) :
 Calls Tryz.prog 109 #[.slice A n c,.string ⟨#[32]⟩] w fun e w'=>e=.returned (.string ⟨(joinS ws).toArray⟩)∧Below w.heap.size w w':=by
 have h1:=hsl.1
 by_cases h0:n=0
 ·subst h0
  cases ws with
  | cons a l=>simp at h1
  | nil=>exact (Tryz.strings_Join_none A c ⟨#[32]⟩ w).mono fun _ _ h=>⟨h.1,below_eq h.2.symm⟩
 ·obtain ⟨b,o,x,rfl,hb,_⟩:=hsl.str (k:=0) (by omega)
  subst h1
  exact (Tryz.strings_Join b o c ws ⟨#[32]⟩ w (fun j x hx=>by
   have hj:j < ws.length:=by
    rcases Nat.lt_or_ge j ws.length with h | h
    ·exact h
    ·rw [List.getElem?_eq_none h] at hx; cases hx
   obtain ⟨b',o',y,e,_,hy,_,c0⟩:=hsl.str hj
   cases e
   rw [hx] at hy; cases hy
   exact c0) hb hn hnc hlen).mono fun _ _ h=>h
set_option maxHeartbeats 1000000 in
set_option maxRecDepth 100000 in
theorem act_text1 (g:Nat) (L:List UInt8) (A:Option Addr) (n c:Nat) (ws:List ByteArray) (w:World) (hB:Bld w g L) (hsl:Sl w (Lt w.heap.size) A n ws) (hnc:n≤c) (hn:n≤140737488355328) (hlen:L.length + (joinS ws).length≤10000000) :
 Calls Tryz.prog 107 #[.slice A n c,.pointer (some ⟨g,0,none⟩)] w fun e w'=>e=.returned (.tuple #[])∧Bld w' g (L ++ lineW ws)∧Wrote g w w':=by
 have hgl:=hB.lt
 obtain ⟨j,hj⟩:∃ j:ByteArray,j=⟨(joinS ws).toArray⟩:=⟨_,rfl⟩
 have hjs:j.size=(joinS ws).length:=by rw [hj]; simp [ByteArray.size]
 have hjl:j.data.toList=joinS ws:=by rw [hj]
 have HJ:=Lib.hid (hj ▸ join_any A n c ws w hsl hnc hn (by omega):Calls Tryz.prog 109 #[.slice A n c,.string ⟨#[32]⟩] w fun e w'=>e=.returned (.string j)∧Below w.heap.size w w')
 clear hj
 have HL:=Lib.hid hjl; clear hjl
 have q4:(⟨#[10]⟩:ByteArray).size=1:=rfl
 obtain ⟨p,z,P,a⟩:=cat_op j ⟨#[10]⟩ (by omega)
 go_enter Tryz.func107,Tryz.ntmps107
 go_wp2_with fail
 refine HJ.out.mono ?_
 rintro e w1 ⟨rfl,hb1⟩
 have hB1:=hB.call hb1
 go_wp2_with (go_at_call 108; refine (bld_WriteString g L p _ hB1 (by omega)).mono ?_; rintro e w2 ⟨rfl,hB2,hw2⟩)
 first | go_end0 | refine bodyPost_ret (results_none rfl _ _ _) rfl ?_
 exact ⟨rfl,by rw [lineW,←HL.out,←show p.data.toList=j.data.toList ++ [10] from P.out]; exact hB2,(Wrote.of_below hb1 (Nat.le_of_lt hgl)).trans hw2⟩
end Go.Proofs.Sm
namespace Go.Proofs.Sm
open Go.RowKit
section
variable {w w':World} {S:Nat→Prop} {B g mi mw ml:Nat} {q:ActP} {a:ActionV} {F:List FileV} {M:Nat} {s:ExSt} {p:ByteArray}
theorem read_none (h:(findE p F s).1=none):readE p F s=(([],2),(findE p F s).2):=by unfold readE Ex.bind; rw [h]; rfl
theorem read_some {x:FileV} (h:(findE p F s).1=some x):readE p F s=((x.bytes,0),(findE p F s).2):=by unfold readE Ex.bind; rw [h]; rfl
def ReadPost (S:Nat→Prop) (B g mi mw ml:Nat) (q:ActP) (a:ActionV) (F:List FileV) (M:Nat) (s:ExSt) (p:ByteArray) (w:World) (e:Ending) (w':World):Prop :=
 Kp (fun k=>k=ml) w w'∧Wk w' S B g mi mw ml q a F (M + codeN (readE p F s).1.2) (readE p F s).2∧∃ A n c,e=.returned (.tuple #[.slice A n c,.int .i64 (readE p F s).1.2])∧n≤c∧c≤maxLen∧Sl w' S A n (readE p F s).1.1
theorem ReadPost.none_ {w1:World} (hk:Kp (fun k=>k=ml) w w1) (hW:Wk w1 S B g mi mw ml q a F (M + noneN (findE p F s).1) (findE p F s).2) (h:(findE p F s).1=none) (hb:Below w1.heap.size w1 w'):ReadPost S B g mi mw ml q a F M s p w (.returned (.tuple #[.slice none 0 0,.int .i64 2])) w':=by
 unfold ReadPost
 rw [h] at hW
 rw [read_none h]
 exact ⟨hk.call hb,hW.call hb,none,0,0,rfl,Nat.le_refl _,Nat.zero_le _,Sl.nil⟩
theorem ReadPost.some_ {w1:World} {x:FileV} {A:Option Addr} {n c:Nat} (hk:Kp (fun k=>k=ml) w w1) (hW:Wk w1 S B g mi mw ml q a F (M + noneN (findE p F s).1) (findE p F s).2) (h:(findE p F s).1=some x) (h1:n≤c) (h2:c≤maxLen) (h3:Sl w1 S A n x.bytes) (hb:Below w1.heap.size w1 w'):ReadPost S B g mi mw ml q a F M s p w (.returned (.tuple #[.slice A n c,.int .i64 0])) w':=by
 unfold ReadPost
 rw [h] at hW
 rw [read_some h]
 exact ⟨hk.call hb,hW.call hb,A,n,c,rfl,h1,h2,h3.keep fun k hk=>hb.block k (hW.sep k hk).1⟩
end
set_option maxHeartbeats 2000000 in
set_option maxRecDepth 100000 in
theorem act_read (S:Nat→Prop) (B g mi mw ml:Nat) (q:ActP) (a:ActionV) (F:List FileV) (M:Nat) (s:ExSt) (p:ByteArray) (w:World) (hp:p.size≤maxLen) (hM:M≤1000000) (h:Wk w S B g mi mw ml q a F M s) :
 Calls Tryz.prog 220 #[.pointer (some ⟨g,0,none⟩),.string p] w (ReadPost S B g mi mw ml q a F M s p w):=by
 have HF:=Lib.hid (act_find S B g mi mw ml q a F M s p w hp hM h)
 clear h
 go_enter Tryz.func220,Tryz.ntmps220
 go_wp2_with fail
 refine HF.out.mono ?_
 rintro e w1 ⟨hk,hW,hr⟩
 cases hf:(findE p F s).1 with
 | none =>
   rw [hf] at hr
   obtain rfl:=hr
   have HE:=Lib.hid (fun (w':World) (hb:Below w1.heap.size w1 w')=>ReadPost.none_ hk hW hf hb)
   unfold noFile
   clear hk hW hf HF
   go_wp2
   go_ret2
   exact HE.out _ (by repeat (first | exact fr_refl _ | refine fr_call ?_ (by assumption) | refine fr_alloc ?_ _ | refine fr_set ?_ (by simp) _ | refine Below.drew ?_ | refine below_drewN ?_ _))
 | some x =>
   rw [hf] at hr
   obtain ⟨v,⟨h0,A,n,c,rfl,h1,h2,h3⟩,rfl⟩:=hr
   have HE:=Lib.hid (fun (w':World) (hb:Below w1.heap.size w1 w')=>ReadPost.some_ hk hW hf h1 h2 h3 hb)
   clear hk hW hf h3 HF
   go_wp2
   go_ret2
   exact HE.out _ (by repeat (first | exact fr_refl _ | refine fr_call ?_ (by assumption) | refine fr_alloc ?_ _ | refine fr_set ?_ (by simp) _ | refine Below.drew ?_ | refine below_drewN ?_ _))
theorem to_bytesN (t:ByteArray) (ht:t.size≤maxLen) (w:World):∃ w2 c,(convert 9 75 (.string t)).run Tryz.prog w=.ok (.slice (some ⟨w.heap.size,0,none⟩) t.size c) w2∧t.size≤c∧c≤maxLen∧Below w.heap.size w w2 ∧
 Sl w2 (fun k=>w.heap.size≤k∧k < w2.heap.size) (some ⟨w.heap.size,0,none⟩) t.size t.data.toList:=by
 refine ⟨Lib.bytesWorld w 5 t,_,Lib.run_convert_string_bytes (P:=Tryz.prog) w 9 75 5 t Tryz.underlying9 Tryz.underlying75 Tryz.underlying5,grownCap_ge _ _ _ _,grownCap_le_maxLen _ _ _ _ ht,Lib.bytesWorld_below _ _ _,by simp,ht,fun _=>⟨_,_,rfl,⟨Nat.le_refl _,by rw [Lib.bytesWorld_size]; omega⟩,fun i x hx=>⟨[.int .u8 x.toNat],rfl,fun j v hv=>?_⟩⟩⟩
 have hj:j=0∧v=.int .u8 x.toNat:=by
  cases j with
  | zero=>simp at hv; exact ⟨rfl,hv.symm⟩
  | succ j=>simp at hv
 obtain ⟨rfl,rfl⟩:=hj
 have hi:i < t.data.toList.length:=(List.getElem?_eq_some_iff.1 hx).1
 have h:=Lib.bytesWorld_cell w 5 t i (by simpa using hi)
 simp only [Rep.sz,Nat.mul_one,Nat.add_zero,Nat.zero_add]
 rw [h,List.getD_eq_getElem?_getD,hx]; rfl
def OffW (g mi mw ml:Nat) (w:World):Nat→Prop:=fun k=>k < w.heap.size∧k≠g∧k≠mi∧k≠mw∧k≠ml
section
variable {w w':World} {S S':Nat→Prop} {B g mi mw ml:Nat} {q:ActP} {a:ActionV} {F:List FileV} {M:Nat} {s:ExSt} {p:ByteArray}
theorem Wk.moreS (h:Wk w S B g mi mw ml q a F M s) (hS:∀ k,S k→S' k) (hsep:∀ k,S' k→k < w.heap.size∧k≠g∧k≠mi∧k≠mw∧k≠ml):Wk w S' B g mi mw ml q a F M s :=
 { h with new:=h.new.more fun k hk=>⟨hk.1,hS k hk.2⟩,lowS:=fun k hk=>hS k (h.lowS k hk),sep:=hsep }
theorem Wk.off (h:Wk w S B g mi mw ml q a F M s):Wk w (OffW g mi mw ml w) B g mi mw ml q a F M s:=h.moreS h.sep fun _ h=>h
theorem Wk.keepB (h:Wk w S B g mi mw ml q a F M s) (hk:Kp (fun k=>k=ml) w w'):∀ k,Lt B k→w'.heap[k]?=w.heap[k]?:=fun k hh=>hk.block k (h.sep k (h.lowS k hh)).1 (h.sep k (h.lowS k hh)).2.2.2.2
theorem Wk.ltB (h:Wk w S B g mi mw ml q a F M s):∀ k,Lt B k→Lt w.heap.size k:=fun k hh=>(h.sep k (h.lowS k hh)).1
theorem Wk.bound (h:Wk w S B g mi mw ml q a F M s):B≤w.heap.size:=Nat.le_trans h.low.1 (Nat.le_of_lt h.blk.lt)
def MadePost (B g mi mw ml:Nat) (q:ActP) (a:ActionV) (F:List FileV) (M:Nat) (r:(List UInt8 × Int) × ExSt) (w:World) (e:Ending) (w':World):Prop :=
 Kp (fun k=>k=ml) w w'∧Wk w' (OffW g mi mw ml w') B g mi mw ml q a F M r.2∧∃ A n c,e=.returned (.tuple #[.slice A n c,.int .i64 r.1.2])∧n≤c∧c≤maxLen∧(r.1.2=0→n≤1000000000000000)∧Sl w' (OffW g mi mw ml w') A n r.1.1
theorem MadePost.mk_ {r:(List UInt8 × Int) × ExSt} {w1:World} {A:Option Addr} {n c:Nat} {b:List UInt8} {z:Int} {s':ExSt} (hr:r=((b,z),s')) (hk:Kp (fun k=>k=ml) w w1) (hW:Wk w1 S B g mi mw ml q a F M s') (h1:n≤c) (h2:c≤maxLen) (hn:z=0→n≤1000000000000000) (hs:Sl w1 (OffW g mi mw ml w1) A n b) (hb:Below w1.heap.size w1 w') :
 MadePost B g mi mw ml q a F M r w (.returned (.tuple #[.slice A n c,.int .i64 z])) w':=by
 subst hr
 exact ⟨hk.call hb,(hW.call hb).off,A,n,c,rfl,h1,h2,hn,(hs.keep fun k hk=>hb.block k hk.1).more fun k hk=>⟨Nat.lt_of_lt_of_le hk.1 hb.size,hk.2⟩⟩
theorem pick_nil (F:List FileV) (s:ExSt):pickE [] F s=(([],2),s):=rfl
theorem pick_next {x:ByteArray} {l:List ByteArray} (h:(findE x F s).1=none):pickE (x :: l) F s=pickE l F (findE x F s).2:=by rw [pickE,Ex.bind]; simp only [h]
theorem pick_this {x:ByteArray} {l:List ByteArray} {y:FileV} (h:(findE x F s).1=some y):pickE (x :: l) F s=((y.bytes,0),(findE x F s).2):=by rw [pickE,Ex.bind]; simp only [h]; rfl
end
set_option maxHeartbeats 2000000 in
set_option maxRecDepth 100000 in
theorem act_pick (S:Nat→Prop) (B g mi mw ml:Nat) (q:ActP) (a:ActionV) (F:List FileV) (M:Nat) (s:ExSt) (A:Option Addr) (n c:Nat) (l:List ByteArray) (w:World) (hM:M + n≤1000000) (h:Wk w S B g mi mw ml q a F M s) (hsl:Sl w (Lt B) A n l) :
 Calls Tryz.prog 249 #[.pointer (some ⟨g,0,none⟩),.slice A n c] w (MadePost B g mi mw ml q a F (M + n) (pickE l F s) w):=by
 have hm:n≤9223372036854775807:=by omega
 have HL:=Lib.hid hsl.1
 have HB:=Lib.hid (fun w' (hk:Kp (fun k=>k=ml) w w')=>h.keepB hk)
 go_enter Tryz.func249,Tryz.ntmps249
 go_wp2
 go_loopw [12] (fun i wr=>∃ (k:Nat) (s':ExSt),k≤n∧i=.int .i64 k∧Kp (fun k=>k=ml) w wr∧Wk wr S B g mi mw ml q a F (M + k) s'∧pickE l F s=pickE (l.drop k) F s') (fun i _=>n - (intOf i).toNat)
 case atStart=>exact ⟨0,s,Nat.zero_le _,rfl,Kp.refl _ _,h,rfl⟩
 case round =>
  clear h
  obtain ⟨k,s',hk,rfl,hkp,hW,he⟩:=hrel
  have HE:=Lib.hid he
  clear he
  by_cases hlt:k < n
  ·obtain ⟨b,o,x,rfl,hb,hx,hxs,c0⟩:=(hsl.keep (HB.out _ hkp)).str hlt
   have hd:=drop_at hx
   have HF:=Lib.hid (act_find S B g mi mw ml q a F (M + k) s' x wr hxs (by omega) hW)
   have hsm:=fun y (hy:(findE x F s').1=some y)=>find_short hW.ok hW.small hy
   clear hx hW
   go_wp2_with fail
   refine HF.out.mono ?_
   rintro e w1 ⟨hk1,hW1,hr⟩
   have hk2:=hkp.trans hk1
   cases hf:(findE x F s').1 with
   | none =>
     rw [hf] at hr hW1
     obtain rfl:=hr
     have HE2:=Lib.hid (HE.out.trans (by rw [hd,pick_next hf]))
     unfold noFile
     clear hf hd hkp hk1 HF HE
     go_wp2
     go_roundw
     case rel=>exact ⟨k + 1,_,by omega,by go_num,hk2.alloc _,hW1.call (fr_alloc (fr_refl _) _),HE2.out⟩
     case measure=>simp [intOf]; omega
   | some y =>
     rw [hf] at hr hW1
     obtain ⟨v,⟨h0,A,n,c,rfl,h1,h2,h3⟩,rfl⟩:=hr
     have HE2:=Lib.hid (fun (w':World) (hb:Below w1.heap.size w1 w')=>MadePost.mk_ (HE.out.trans (by rw [hd,pick_this hf])) hk2 (hW1.up (M':=M + l.length) (by have:=HL.out; simp only [noneN]; omega)) h1 h2 (fun _=>by have:=hsm y hf; rw [h3.1] at this; omega) (h3.more hW1.sep) hb)
     rw [HL.out] at HE2
     clear hf hd hkp hk1 HF HE hW1 h3 hk2
     go_wp2
     go_ret2
     exact HE2.out _ (by repeat (first | exact fr_refl _ | refine fr_call ?_ (by assumption) | refine fr_alloc ?_ _ | refine fr_set ?_ (by simp) _ | refine Below.drew ?_ | refine below_drewN ?_ _))
  ·have HE2:=Lib.hid (fun (w':World) (hb:Below wr.heap.size wr w')=>MadePost.mk_ (M:=M + n) (HE.out.trans (by rw [List.drop_eq_nil_of_le (by have:=HL.out; omega)]; exact pick_nil F s')) hkp (hW.up (by omega)) (Nat.le_refl 0) (Nat.zero_le _) (fun _=>Nat.zero_le _) Sl.nil hb)
   clear hW hkp HE
   go_wp2
   go_ret2
   exact HE2.out _ (by repeat (first | exact fr_refl _ | refine fr_call ?_ (by assumption) | refine fr_alloc ?_ _ | refine fr_set ?_ (by simp) _ | refine Below.drew ?_ | refine below_drewN ?_ _))
end Go.Proofs.Sm
namespace Go.Proofs.Sm
open Go.RowKit
section
variable {w w':World} {S S':Nat→Prop} {B g mi mw ml:Nat} {q:ActP} {a:ActionV} {F:List FileV} {M:Nat} {s:ExSt} {p:ByteArray}
theorem joined_nil (o:List UInt8) (F:List FileV) (s:ExSt):joinedE [] o F s=((o,0),s):=rfl
theorem joined_next {x:ByteArray} {l:List ByteArray} {o:List UInt8} (h:(readE x F s).1.2=0):joinedE (x :: l) o F s=joinedE l (o ++ (readE x F s).1.1) F (readE x F s).2:=by rw [joinedE,Ex.bind]; simp only [h,if_true]
theorem joined_bad {x:ByteArray} {l:List ByteArray} {o:List UInt8} (h:(readE x F s).1.2≠0):joinedE (x :: l) o F s=(([],(readE x F s).1.2),(readE x F s).2):=by rw [joinedE,Ex.bind]; simp only [h,if_false]; rfl
theorem code_zero (h:(readE p F s).1.2=0):codeN (readE p F s).1.2=0:=by rw [codeN,if_pos h]
end
set_option maxHeartbeats 2000000 in
set_option maxRecDepth 100000 in
theorem act_joined (S:Nat→Prop) (B g mi mw ml:Nat) (q:ActP) (a:ActionV) (F:List FileV) (M:Nat) (s:ExSt) (A:Option Addr) (n c:Nat) (l:List ByteArray) (w:World) (hM:M + 1≤1000000) (hn:n≤1000) (h:Wk w S B g mi mw ml q a F M s) (hsl:Sl w (Lt B) A n l) :
 Calls Tryz.prog 247 #[.pointer (some ⟨g,0,none⟩),.slice A n c] w (MadePost B g mi mw ml q a F (M + 1) (joinedE l [] F s) w):=by
 obtain ⟨i0,hi0,hz0,hz1,hz2⟩:=info_parts cl_byte_info
 have hm:n≤9223372036854775807:=by omega
 have HL:=Lib.hid hsl.1
 have HB:=Lib.hid (fun w' (hk:Kp (fun k=>k=ml) w w')=>h.keepB hk)
 have hlow:B≤w.heap.size∧g < w.heap.size∧mi < w.heap.size∧mw < w.heap.size∧ml < w.heap.size:=⟨h.bound,h.blk.lt,h.inp.lt,h.wri.lt,MapIs.lt h.lok⟩
 have HSl:=Lib.hid (fun k (hk:S k)=>(h.sep k hk).1)
 have HS:=Lib.hid (show ∀ (w':World) (k:Nat),w.heap.size≤k∧k < w'.heap.size→OffW g mi mw ml w' k from fun w' k hk=>⟨hk.2,by omega,by omega,by omega,by omega⟩)
 go_enter Tryz.func247,Tryz.ntmps247
 go_wp2
 go_loopw [6,13] (fun v i wr=>∃ (k:Nat) (s':ExSt) (o:List UInt8),k≤n∧i=.int .i64 k∧Kp (fun k=>k=ml) w wr∧Wk wr S B g mi mw ml q a F M s'∧OwnB wr w.heap.size 5 v o∧o.length≤k * 100000∧joinedE l [] F s=joinedE (l.drop k) o F s') (fun _ i _=>n - (intOf i).toNat)
 case atStart=>exact ⟨0,s,[],Nat.zero_le _,rfl,Kp.refl _ _,h,OwnB.nil _ _ _,by simp,rfl⟩
 case round =>
  clear h
  obtain ⟨k,s',o,hk,rfl,hkp,hW,hown,hol,he⟩:=hrel
  have HE:=Lib.hid he
  clear he
  by_cases hlt:k < n
  ·obtain ⟨b,o',x,rfl,hb,hx,hxs,c0⟩:=(hsl.keep (HB.out _ hkp)).str hlt
   have hd:=drop_at hx
   have hsm:=read_short (p:=x) hW.ok hW.small
   have HF:=Lib.hid (act_read S B g mi mw ml q a F M s' x wr hxs (by omega) hW)
   clear hx hW
   go_wp2_with fail
   refine HF.out.mono ?_
   rintro e w1 ⟨hk1,hW1,A1,n1,c1,rfl,h11,h12,h13⟩
   have hk2:=hkp.trans hk1
   have hown1:=hown.kp hk1 (fun b hb e=>by omega)
   by_cases hz:(readE x F s').1.2=0
   ·have HE2:=Lib.hid (HE.out.trans (by rw [hd,joined_next hz]))
    rw [code_zero hz,Nat.add_zero] at hW1
    rw [hz]
    have hn1:n1≤100000:=by rw [←h13.1]; exact hsm
    have hn1':=h13.1
    generalize (readE x F s').1.1=bs at hsm h13 HE2 hn1'
    generalize (readE x F s').2=s2 at hW1 HE2
    obtain ⟨A0,c0',rfl,_,_,_⟩:=hown1.sl
    have hnews:=fun h0=>sl_byteCells h13 h0
    have HN:=Lib.hid hnews
    have HO:=Lib.hid hown1
    have H1:=Lib.hid hn1'
    have hk3:=hk2.size
    have HG:=Lib.hid (fun g hg=>(hown1.lt g hg).1)
    clear hz hd hkp hk1 HF HE h13 hown hown1 hn1' hnews
    go_wp2_with (
     at_builtin
     refine wpList_append_src rfl _ _ 75 rfl w.heap.size 5 i0 _ 1 1 Tryz.underlying75 hi0 hz0 hz1 hz2 rfl (by decide) _ o.length _ rfl HO.out A1 n1 c1 (Lib.byteCells bs) rfl (by rw [byteCells_length,H1.out,Nat.mul_one]) HN.out byteCells_one (by unfold maxLen; omega) (by omega) hk3 ?_
     intro v' w2 hown2 hg2
     have hk4:=hk2.grown hg2 (fun g hg=>.inr (HG.out g hg))
     have hW2:=hW1.keep (X:=fun k=>w.heap.size≤k) (by exact Kp.grown (Kp.refl _ _) hg2 (fun g hg=>.inl (HG.out g hg))) (by omega) (by omega) (by omega) (by omega) (fun k hk=>by have:=HSl.out k hk; omega)
     have hown3:OwnB w2 w.heap.size 5 v' (o ++ bs):=by unfold OwnB; rw [byteCells_append,List.length_append,H1.out]; exact hown2
     clear hown2 hg2 hW1 HO HN HG)
    go_roundw
    case rel=>exact ⟨k + 1,_,_,by omega,by go_num,hk4,hW2,hown3,by rw [List.length_append,H1.out,Nat.succ_mul]; omega,HE2.out⟩
    case measure=>simp [intOf]; omega
   ·have hne:((readE x F s').1.2 != 0)=true:=by simpa using hz
    have HE2:=Lib.hid (fun (w':World) (hb:Below w1.heap.size w1 w')=>MadePost.mk_ (M:=M + 1) (HE.out.trans (by rw [hd,joined_bad hz])) hk2 (hW1.up (by have:=codeN_le (readE x F s').1.2; omega)) (Nat.le_refl 0) (Nat.zero_le _) (fun _=>Nat.zero_le _) Sl.nil hb)
    generalize (readE x F s').1.2=z at hne HE2
    clear hz hd hkp hk1 HF HE h13 hown hown1 hW1 hk2
    go_wp2
    go_ret2
    exact HE2.out _ (by repeat (first | exact fr_refl _ | refine fr_call ?_ (by assumption) | refine fr_alloc ?_ _ | refine fr_set ?_ (by simp) _ | refine Below.drew ?_ | refine below_drewN ?_ _))
  ·obtain ⟨A',c',rfl,h1,h2,h3⟩:=hown.sl
   have HE2:=Lib.hid (fun (w':World) (hb:Below wr.heap.size wr w')=>MadePost.mk_ (M:=M + 1) (HE.out.trans (by rw [List.drop_eq_nil_of_le (by have:=HL.out; omega)]; exact joined_nil o F s')) hkp (hW.up (by omega)) h1 h2 (fun _=>by omega) (h3.more (HS.out _)) hb)
   clear hW hkp HE hown h3
   go_wp2
   go_ret2
   exact HE2.out _ (by repeat (first | exact fr_refl _ | refine fr_call ?_ (by assumption) | refine fr_alloc ?_ _ | refine fr_set ?_ (by simp) _ | refine Below.drew ?_ | refine below_drewN ?_ _))
section
variable {w w':World} {S S':Nat→Prop} {B g mi mw ml:Nat} {q:ActP} {a:ActionV} {F:List FileV} {M:Nat} {s:ExSt} {p:ByteArray}
def DoPost (B g mi mw ml:Nat) (q:ActP) (a:ActionV) (F:List FileV) (M:Nat) (r:Int × ExSt) (w:World) (e:Ending) (w':World):Prop :=
 Kp (fun k=>k=g∨k=mw∨k=ml) w w'∧Wk w' (OffW g mi mw ml w') B g mi mw ml q a F M r.2∧e=.returned (.int .i64 r.1)
theorem DoPost.mk_ {r:Int × ExSt} {w1:World} {z:Int} {s':ExSt} (hr:r=(z,s')) (hk:Kp (fun k=>k=g∨k=mw∨k=ml) w w1) (hW:Wk w1 S B g mi mw ml q a F M s') (hb:Below w1.heap.size w1 w') :
 DoPost B g mi mw ml q a F M r w (.returned (.int .i64 z)) w':=by
 subst hr
 exact ⟨hk.call hb,(hW.call hb).off,rfl⟩
theorem tell_large {ws:List ByteArray} (h:100000 < (s.told ++ lineW ws).length):tellE ws F s=(5,s):=if_pos h
theorem tell_fits {ws:List ByteArray} (h:¬ 100000 < (s.told ++ lineW ws).length):tellE ws F s=(0,{ s with told:=s.told ++ lineW ws }):=if_neg h
theorem Wk.setTold (h:Wk w S B g mi mw ml q a F M s) {t:List UInt8} (hok:ExOk a F M { s with told:=t }):Wk (w.setCell ⟨g,9,none⟩ (.string ⟨t.toArray⟩)) S B g mi mw ml q a F M { s with told:=t }:=by
 have hk:Kp (fun k=>k=g) w (w.setCell ⟨g,9,none⟩ (.string ⟨t.toArray⟩)):=(Kp.refl (fun k=>k=g) w).set (p:=⟨g,9,none⟩) rfl _
 have hb:=hk.block
 have hSk:∀ k,S k→(w.setCell ⟨g,9,none⟩ (.string ⟨t.toArray⟩)).heap[k]?=w.heap[k]?:=fun k hh=>hb k (h.sep k hh).1 (h.sep k hh).2.1
 have hB:∀ k,Lt B k→(w.setCell ⟨g,9,none⟩ (.string ⟨t.toArray⟩)).heap[k]?=w.heap[k]?:=fun k hh=>hSk k (h.lowS k hh)
 exact ⟨h.env.of_heap hk.size fun k hh=>hB k (Nat.lt_of_lt_of_le hh h.envB),h.envB,h.blk.set 9 _,h.act.keep hB,h.inp.keep (hb mi h.inp.lt (Ne.symm h.dif.2.2.2.1)) hB,h.new.keep (hb mw h.new.lt (Ne.symm h.dif.2.2.2.2.1)) (fun k hk=>hSk k hk.2),MapIs.keep h.lok (hb ml (MapIs.lt h.lok) (Ne.symm h.dif.2.2.2.2.2)),
  hok,h.low,h.dif,h.lowS,fun k hh=>⟨Nat.lt_of_lt_of_le (h.sep k hh).1 hk.size,(h.sep k hh).2⟩,h.many,h.small⟩
theorem ExOk.tell (h:ExOk a F M s) {ws:List ByteArray} (hw:∀ x∈ws,isWordS x=true):ExOk a F M (tellE ws F s).2 :=
 (h.step (M':=M) (c:=0) (f:=fun _=>0) (asks_tell ws) (miss_tell ws 0) (keepsW_tell a hw) (Nat.le_refl _))
theorem told_bytes (l:List UInt8) (t:ByteArray) (h:t.data.toList=l):(⟨l.toArray⟩:ByteArray)=t:=by
 subst h
 cases t
 simp
end
set_option maxHeartbeats 2000000 in
set_option maxRecDepth 100000 in
theorem act_tell (S:Nat→Prop) (B g mi mw ml:Nat) (q:ActP) (a:ActionV) (F:List FileV) (M:Nat) (s:ExSt) (A:Option Addr) (n c:Nat) (l:List ByteArray) (w:World) (hn:n≤1000) (hnc:n≤c) (h:Wk w S B g mi mw ml q a F M s) (hsl:Sl w (Lt B) A n l) (hw:∀ x∈l,isWordS x=true) (hlen:(joinS l).length≤1000000) :
 Calls Tryz.prog 219 #[.pointer (some ⟨g,0,none⟩),.slice A n c] w (DoPost B g mi mw ml q a F M (tellE l F s) w):=by
 have hgw:=h.blk.lt
 have c9:=h.blk.cell (i:=9) rfl
 have htold:s.told.length≤100000:=h.ok.wrote.told.2.2
 obtain ⟨t0,ht0⟩:∃ t0:ByteArray,(⟨s.told.toArray⟩:ByteArray)=t0:=⟨_,rfl⟩
 have ht0l:t0.data.toList=s.told:=by rw [←ht0]
 have ht0s:t0.size≤100000:=by have:t0.size=t0.data.toList.length:=(Array.length_toList).symm; rw [this,ht0l]; exact htold
 obtain ⟨j0,hj0⟩:∃ j0:ByteArray,(⟨(joinS l).toArray⟩:ByteArray)=j0:=⟨_,rfl⟩
 have hj0l:j0.data.toList=joinS l:=by rw [←hj0]
 have hj0s:j0.size≤1000000:=by have:j0.size=j0.data.toList.length:=(Array.length_toList).symm; rw [this,hj0l]; exact hlen
 obtain ⟨s1,hs1,hs1l,hcat1⟩:=cat_op t0 j0 (by omega)
 obtain ⟨s2,hs2,hs2l,hcat2⟩:=cat_op s1 ⟨#[10]⟩ (by have:(⟨#[10]⟩:ByteArray).size=1:=rfl; omega)
 have hs2s:s2.data.toList=s.told ++ lineW l:=by rw [hs2l.out,hs1l.out,ht0l,hj0l,lineW,List.append_assoc]
 have hsz:s2.size=(s.told ++ lineW l).length:=by rw [←hs2s]; exact (Array.length_toList).symm
 have hs2m:s2.size≤9223372036854775807:=by have:(⟨#[10]⟩:ByteArray).size=1:=rfl; omega
 have HJ:=Lib.hid (fun W (hb:Below w.heap.size w W)=>join_any A n c l W ((hsl.more h.ltB).keep (keep_lt hb) |>.more (lt_mono hb.size)) hnc (by omega) (by omega))
 rw [hj0] at HJ
 rw [ht0] at c9
 have hf9:=fun w' (hb:Below w.heap.size w w')=>(h.blk.call hb).frozen 9
 have HF9:=Lib.hid hf9
 have HK:=Lib.hid (show ∀ w',Below w.heap.size w w'→(Below w.heap.size w w'∧w'.cell? ⟨g,9,none⟩=some (.string t0)) from fun w' hb=>⟨hb,(hb.cell (p:=⟨g,9,none⟩) hgw).trans c9⟩)
 have hbelw:=Below.refl w.heap.size w
 clear hf9
 by_cases hbig:100000 < s2.size
 ·have hbI:(100000:Int) < (s2.size:Int):=by omega
  have HE:=Lib.hid (fun (w':World) (hb:Below w.heap.size w w')=>DoPost.mk_ (tell_large (F:=F) (s:=s) (ws:=l) (by rw [←hsz]; exact hbig)) (Kp.refl (fun k=>k=g∨k=mw∨k=ml) w) h hb)
  clear h hsl ht0l hj0l hs1l hs2l hs2s hsz ht0 hj0
  go_enter Tryz.func219,Tryz.ntmps219
  go_wp2
  go_region_held3 (fun w'=>Below w.heap.size w w'∧w'.cell? ⟨g,9,none⟩=some (.string t0))
   (first | assumption | exact HK.out _ (Below.refl _ w).drew | exact HK.out _ (fr_call (And.left (by assumption)) hbc))
   (first | (go_at_call 109; refine (HJ.out _ (And.left (by assumption))).mono ?_; rintro e wc ⟨rfl,hbc⟩))
  have hb9:Below w.heap.size w wc:=And.left (by assumption)
  go_wp2
  go_ret
  exact HE.out _ (by repeat (first | exact fr_refl _ | refine fr_call ?_ (by assumption) | refine fr_alloc ?_ _ | refine fr_set ?_ (by simp) _ | refine Below.drew ?_ | refine below_drewN ?_ _))
 ·have hbI:¬ (100000:Int) < (s2.size:Int):=by omega
  have ht:=tell_fits (F:=F) (s:=s) (ws:=l) (by rw [←hsz]; exact hbig)
  have hok:=h.ok.tell (ws:=l) hw
  rw [ht] at hok
  have hs2e:=told_bytes _ _ hs2s
  have HE:=Lib.hid (fun (w':World) (hb:Below w.heap.size w w')=>DoPost.mk_ ht (((Kp.of hb).set (X:=fun k=>k=g∨k=mw∨k=ml) (p:=⟨g,9,none⟩) (.inl rfl) (.string s2))) (by have:=(h.call hb).setTold hok; rw [hs2e] at this; exact this) (Below.refl _ _))
  clear h hsl ht0l hj0l hs1l hs2l hs2s hsz ht0 hj0 ht hok hs2e
  go_enter Tryz.func219,Tryz.ntmps219
  go_wp2
  go_region_held3 (fun w'=>Below w.heap.size w w'∧w'.cell? ⟨g,9,none⟩=some (.string t0))
   (first | assumption | exact HK.out _ (Below.refl _ w).drew | exact HK.out _ (fr_call (And.left (by assumption)) hbc))
   (first | (go_at_call 109; refine (HJ.out _ (And.left (by assumption))).mono ?_; rintro e wc ⟨rfl,hbc⟩))
  have hb9:Below w.heap.size w wc:=And.left (by assumption)
  have d9:=(HK.out _ hb9).2
  have f9:=HF9.out _ hb9
  go_wp2
  go_ret
  exact HE.out _ hb9
end Go.Proofs.Sm
