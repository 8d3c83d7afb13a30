/- Words and walks that the claims share, part 15. -/
import Derived.Test.YtaabdbephemboaaGreatDoorBx2
import Derived.Test.YtaabdbephemboaaGreatDoorBx6
import Derived.Test.YtaabdbephemboaaGreatDoorBx10
import Derived.Test.YtaabdbephemboaaGreatDoorBx13
import Derived.Test.YtaabdbephemboaaGreatDoorBx14
import Derived.Deep.RegionLaw
import Derived.Deep.AppendLies
import Derived.IntWalk
import Derived.Lib.IndexMore
import Derived.Laws.CopyOwn
import Derived.Lib.SlFresh
import Derived.Lib.SplitLaws
namespace Go.Proofs.Sm
open Go.RowKit
theorem sl_cells {α:Type} [Rep α] {w:World} {S:Nat→Prop} {A:Option Addr} {n:Nat} {l:List α} (h:Sl w S A n l) (hpos:0 < Rep.sz α) :
 ∃ rows:List (List Value),rows.length=n∧(∀ (i:Nat) (x:α) (r:List Value),l[i]?=some x→rows[i]?=some r→Rep.rep w S x r)∧rows.flatten.length=n * Rep.sz α ∧
  (0 < n→∃ ad,A=some ad∧∀ j u,rows.flatten[j]?=some u→w.cell? (ad.add j)=some u)∧∀ r∈rows,∃ x∈l,Rep.rep w S x r:=by
 rcases Nat.eq_zero_or_pos n with h0 | h0
 ·subst h0
  exact ⟨[],rfl,fun i x r _ hr=>by simp at hr,by simp,fun h=>absurd h (by omega),fun r hr=>by simp at hr⟩
 ·obtain ⟨b,o,rfl,hb,hc⟩:=h.2.2 h0
  have hl:=h.1
  obtain ⟨rows,hlen,hp⟩:=list_of (p:=fun i vs=>∃ x,l[i]?=some x∧Rep.rep w S x vs∧At w b (o + i * Rep.sz α) vs) (len:=n) fun i hi=>by
   obtain ⟨x,hx⟩:=at_lt (l:=l) (k:=i) (by omega)
   obtain ⟨vs,h1,h2⟩:=hc i x hx
   exact ⟨vs,x,hx,h1,h2⟩
  have hsz:∀ r∈rows,r.length=Rep.sz α:=fun r hr=>by
   obtain ⟨i,hi⟩:=List.getElem?_of_mem hr
   obtain ⟨x,_,h1,_⟩:=hp i r hi
   exact Rep.len h1
  have hfl:rows.flatten.length=n * Rep.sz α:=by
   rw [←hlen]
   clear hp hlen
   induction rows with
   | nil=>simp
   | cons r rows ih=>rw [List.flatten_cons,List.length_append,ih fun r hr=>hsz r (by simp [hr]),hsz r (by simp),List.length_cons,Nat.succ_mul]; omega
  refine ⟨rows,hlen,fun i x r hx hr=>?_,hfl,fun _=>⟨_,rfl,fun j u hu=>?_⟩,fun r hr=>?_⟩
  ·obtain ⟨y,hy,h1,_⟩:=hp i r hr
   rw [hx] at hy
   obtain rfl:=Option.some.inj hy
   exact h1
  ·have hj:j < n * Rep.sz α:=by rw [←hfl]; exact (List.getElem?_eq_some_iff.1 hu).1
   have hi:j / Rep.sz α < n:=Nat.div_lt_of_lt_mul (by rw [Nat.mul_comm]; exact hj)
   have hr:rows[j / Rep.sz α]?=some (rows[j / Rep.sz α]'(by omega)):=List.getElem?_eq_getElem (by omega)
   obtain ⟨y,_,_,h2⟩:=hp _ _ hr
   have hjm:j % Rep.sz α < Rep.sz α:=Nat.mod_lt _ hpos
   have hdm:j / Rep.sz α * Rep.sz α + j % Rep.sz α=j:=by rw [Nat.mul_comm]; exact Nat.div_add_mod j _
   have hf:=flatten_at (j:=j % Rep.sz α) hsz hr hjm
   rw [hdm] at hf
   rw [hf] at hu
   have h3:=h2 _ _ hu
   rw [addr_add,←h3]
   congr 2
   omega
  ·obtain ⟨i,hi⟩:=List.getElem?_of_mem hr
   obtain ⟨x,hx,h1,_⟩:=hp i r hi
   exact ⟨x,List.mem_of_getElem? hx,h1⟩
theorem rowK_of {α:Type} [Rep α] {w w':World} {B:Nat} {e:TypeId} {v:Value} {l:List α} {rows:List (List Value)} {S:Nat→Prop} (hS:∀ k,S k→k < w.heap.size) (hb:Below w.heap.size w w') (hl:rows.length=l.length)
 (hrep:∀ (i:Nat) (x:α) (r:List Value),l[i]?=some x→rows[i]?=some r→Rep.rep w S x r) (hown:w'.ownsRow B e (Rep.sz α) v l.length rows.flatten):RowK w' B e S v l :=
 ⟨fun k hk=>Nat.lt_of_lt_of_le (hS k hk) hb.size,rows,hl,hown,fun i x r hx hr=>Rep.keep (fun k hk=>hb.block k (hS k hk)) (hrep i x r hx hr)⟩
theorem cl_look_info:(Tryz.prog.info? 109).map (fun i=>(i.zero,i.size,i.bytes))=some (some (.agg #[.string ⟨#[]⟩,.string ⟨#[]⟩,.bool false]),3,40):=by kernel_rfl
theorem look_one {w:World} {S:Nat→Prop} {x:Look} {r:List Value} (h:Rep.rep w S x r):∀ u∈r,u.oneCell'=true:=by
 obtain ⟨rfl,_⟩:=h
 intro u hu
 simp only [List.mem_cons,List.not_mem_nil,or_false] at hu
 rcases hu with rfl | rfl | rfl <;> rfl
set_option maxRecDepth 100000 in
theorem clone_look (A:Option Addr) (n c:Nat) (l:List Look) (w:World) (S:Nat→Prop) (hS:∀ k,S k→k < w.heap.size) (hsl:Sl w S A n l) (hn:n≤100000000) :
 Calls Tryz.prog 64 #[.slice A n c] w fun e w'=>∃ v,e=.returned v∧RowK w' w.heap.size 109 S v l∧Below w.heap.size w w':=by
 obtain ⟨i0,hi0,hz0,hz1,hz2⟩:=info_parts cl_look_info
 have hm:n≤9223372036854775807:=by omega
 have HL:=Lib.hid hsl.1
 have nil1:∀ (w:World) (a:Option Addr) (n c n' c':Nat),(binOp .eql 39 (.slice a n c) (.slice none n' c')).run Tryz.prog w=.ok (.bool a.isNone) w:=fun w a n c n' c'=>Lib.run_eql_slice_nil w _ _ a n c n' c' Tryz.underlying39
 rcases A with _ | ad
 ·have h0:l=[]:=by
   rcases Nat.eq_zero_or_pos n with h0 | h0
   ·subst h0; exact List.eq_nil_of_length_eq_zero hsl.1
   ·obtain ⟨_,_,h1,_⟩:=hsl.2.2 h0; cases h1
  subst h0
  go_enter Tryz.func64,Tryz.ntmps64
  go_wp2
  go_ret
  exact ⟨_,rfl,RowK.nil.more (fun _ h=>h.elim) hS,Below.refl _ _⟩
 ·obtain ⟨rows,hr1,hr2,hr3,hr4,hr5⟩:=sl_cells hsl (by show 0 < 3; decide)
  have HR2:=Lib.hid hr2
  have h1:∀ u∈rows.flatten,u.oneCell'=true:=fun u hu=>by
   obtain ⟨r,hr,hur⟩:=List.mem_flatten.1 hu
   obtain ⟨x,_,hx⟩:=hr5 r hr
   exact look_one hx u hur
  have H1:=Lib.hid h1
  have HX:=Lib.hid (fun o=>show 0 < n→∃ a,some ad=some a∧∀ j u,rows.flatten[j]?=some u→(w.alloc o).cell? (a.add j)=some u from fun h=>by
   obtain ⟨a,ha,hc⟩:=hr4 h
   refine ⟨a,ha,fun j u hu=>?_⟩
   have h2:=hc j u hu
   have h3:=World.block_lt_of_cell? w _ h2
   exact (World.cell?_of_block ((fr_alloc (fr_refl w) o).block _ h3)).trans h2)
  have hown:(w.alloc (.cells #[] 109)).ownsRow w.heap.size 109 3 (.slice (some ⟨w.heap.size,0,none⟩) 0 0) 0 []:=World.ownsRow_lit w #[] 0 (Nat.le_refl _) (Nat.zero_le _) (by simp)
  have H3:=Lib.hid hr3
  have HR1:=Lib.hid hr1
  clear hr1 hr2 hr3 hr4 hr5 h1
  go_enter Tryz.func64,Tryz.ntmps64
  go_wp2_with (at_builtin; refine wpList_append_src rfl _ _ 39 rfl w.heap.size 109 i0 _ 3 40 Tryz.underlying39 hi0 hz0 hz1 hz2 rfl (by decide) _ 0 _ rfl hown (some ad) n c rows.flatten rfl H3.out (HX.out _) H1.out ?c3 ?c4 ?c5 ?_)
  case c3=>unfold maxLen; omega
  case c4=>omega
  case c5=>exact (fr_alloc (fr_refl w) _).size
  intro v' w5 hown5 hg5
  have hb5:=(fr_alloc (fr_refl w) (.cells #[] 109)).grown hg5 (fr_alloc (fr_refl w) _).size (fun k hk=>by
   have:w.heap.size=k:=by simpa [Value.ownBlock] using hk
   omega)
  have HV:=Lib.hid (rowK_of hS hb5 (by rw [HR1.out,HL.out]) HR2.out (by rw [HL.out]; exact hown5))
  clear hown5 hg5
  go_wp2
  go_ret
  exact ⟨_,rfl,HV.out,hb5⟩
theorem cl_byte_info:(Tryz.prog.info? 5).map (fun i=>(i.zero,i.size,i.bytes))=some (some (.int .u8 0),1,1):=by kernel_rfl
theorem byte_one {w:World} {S:Nat→Prop} {x:UInt8} {r:List Value} (h:Rep.rep w S x r):∀ u∈r,u.oneCell'=true:=by
 obtain rfl:=h
 intro u hu
 simp only [List.mem_cons,List.not_mem_nil,or_false] at hu
 subst hu; rfl
set_option maxRecDepth 100000 in
theorem clone_byte (A:Option Addr) (n c:Nat) (l:List UInt8) (w:World) (S:Nat→Prop) (hS:∀ k,S k→k < w.heap.size) (hsl:Sl w S A n l) (hn:n≤100000000) :
 Calls Tryz.prog 105 #[.slice A n c] w fun e w'=>∃ v,e=.returned v∧RowK w' w.heap.size 5 S v l∧Below w.heap.size w w':=by
 obtain ⟨i0,hi0,hz0,hz1,hz2⟩:=info_parts cl_byte_info
 have hm:n≤9223372036854775807:=by omega
 have HL:=Lib.hid hsl.1
 have nil1:∀ (w:World) (a:Option Addr) (n c n' c':Nat),(binOp .eql 75 (.slice a n c) (.slice none n' c')).run Tryz.prog w=.ok (.bool a.isNone) w:=fun w a n c n' c'=>Lib.run_eql_slice_nil w _ _ a n c n' c' Tryz.underlying75
 rcases A with _ | ad
 ·have h0:l=[]:=by
   rcases Nat.eq_zero_or_pos n with h0 | h0
   ·subst h0; exact List.eq_nil_of_length_eq_zero hsl.1
   ·obtain ⟨_,_,h1,_⟩:=hsl.2.2 h0; cases h1
  subst h0
  go_enter Tryz.func105,Tryz.ntmps105
  go_wp2
  go_ret
  exact ⟨_,rfl,RowK.nil.more (fun _ h=>h.elim) hS,Below.refl _ _⟩
 ·obtain ⟨rows,hr1,hr2,hr3,hr4,hr5⟩:=sl_cells hsl (by show 0 < 1; decide)
  have HR2:=Lib.hid hr2
  have h1:∀ u∈rows.flatten,u.oneCell'=true:=fun u hu=>by
   obtain ⟨r,hr,hur⟩:=List.mem_flatten.1 hu
   obtain ⟨x,_,hx⟩:=hr5 r hr
   exact byte_one hx u hur
  have H1:=Lib.hid h1
  have HX:=Lib.hid (fun o=>show 0 < n→∃ a,some ad=some a∧∀ j u,rows.flatten[j]?=some u→(w.alloc o).cell? (a.add j)=some u from fun h=>by
   obtain ⟨a,ha,hc⟩:=hr4 h
   refine ⟨a,ha,fun j u hu=>?_⟩
   have h2:=hc j u hu
   have h3:=World.block_lt_of_cell? w _ h2
   exact (World.cell?_of_block ((fr_alloc (fr_refl w) o).block _ h3)).trans h2)
  have hown:(w.alloc (.cells #[] 5)).ownsRow w.heap.size 5 1 (.slice (some ⟨w.heap.size,0,none⟩) 0 0) 0 []:=World.ownsRow_lit w #[] 0 (Nat.le_refl _) (Nat.zero_le _) (by simp)
  have H3:=Lib.hid hr3
  have HR1:=Lib.hid hr1
  clear hr1 hr2 hr3 hr4 hr5 h1
  go_enter Tryz.func105,Tryz.ntmps105
  go_wp2_with (at_builtin; refine wpList_append_src rfl _ _ 75 rfl w.heap.size 5 i0 _ 1 1 Tryz.underlying75 hi0 hz0 hz1 hz2 rfl (by decide) _ 0 _ rfl hown (some ad) n c rows.flatten rfl H3.out (HX.out _) H1.out ?c3 ?c4 ?c5 ?_)
  case c3=>unfold maxLen; omega
  case c4=>omega
  case c5=>exact (fr_alloc (fr_refl w) _).size
  intro v' w5 hown5 hg5
  have hb5:=(fr_alloc (fr_refl w) (.cells #[] 5)).grown hg5 (fr_alloc (fr_refl w) _).size (fun k hk=>by
   have:w.heap.size=k:=by simpa [Value.ownBlock] using hk
   omega)
  have HV:=Lib.hid (rowK_of hS hb5 (by rw [HR1.out,HL.out]) HR2.out (by rw [HL.out]; exact hown5))
  clear hown5 hg5
  go_wp2
  go_ret
  exact ⟨_,rfl,HV.out,hb5⟩
theorem cl_file_info:(Tryz.prog.info? 78).map (fun i=>(i.zero,i.size,i.bytes))=some (some (.agg #[.string ⟨#[]⟩,.bool false,.slice none 0 0]),3,48):=by kernel_rfl
theorem file_one {w:World} {S:Nat→Prop} {x:FileV} {r:List Value} (h:Rep.rep w S x r):∀ u∈r,u.oneCell'=true:=by
 obtain ⟨_,A,n,c,rfl,_⟩:=h
 intro u hu
 simp only [List.mem_cons,List.not_mem_nil,or_false] at hu
 rcases hu with rfl | rfl | rfl <;> rfl
set_option maxRecDepth 100000 in
theorem clone_file (A:Option Addr) (n c:Nat) (l:List FileV) (w:World) (S:Nat→Prop) (hS:∀ k,S k→k < w.heap.size) (hsl:Sl w S A n l) (hn:n≤100000000) :
 Calls Tryz.prog 104 #[.slice A n c] w fun e w'=>∃ v,e=.returned v∧RowK w' w.heap.size 78 S v l∧Below w.heap.size w w':=by
 obtain ⟨i0,hi0,hz0,hz1,hz2⟩:=info_parts cl_file_info
 have hm:n≤9223372036854775807:=by omega
 have HL:=Lib.hid hsl.1
 have nil1:∀ (w:World) (a:Option Addr) (n c n' c':Nat),(binOp .eql 23 (.slice a n c) (.slice none n' c')).run Tryz.prog w=.ok (.bool a.isNone) w:=fun w a n c n' c'=>Lib.run_eql_slice_nil w _ _ a n c n' c' Tryz.underlying23
 rcases A with _ | ad
 ·have h0:l=[]:=by
   rcases Nat.eq_zero_or_pos n with h0 | h0
   ·subst h0; exact List.eq_nil_of_length_eq_zero hsl.1
   ·obtain ⟨_,_,h1,_⟩:=hsl.2.2 h0; cases h1
  subst h0
  go_enter Tryz.func104,Tryz.ntmps104
  go_wp2
  go_ret
  exact ⟨_,rfl,RowK.nil.more (fun _ h=>h.elim) hS,Below.refl _ _⟩
 ·obtain ⟨rows,hr1,hr2,hr3,hr4,hr5⟩:=sl_cells hsl (by show 0 < 3; decide)
  have HR2:=Lib.hid hr2
  have h1:∀ u∈rows.flatten,u.oneCell'=true:=fun u hu=>by
   obtain ⟨r,hr,hur⟩:=List.mem_flatten.1 hu
   obtain ⟨x,_,hx⟩:=hr5 r hr
   exact file_one hx u hur
  have H1:=Lib.hid h1
  have HX:=Lib.hid (fun o=>show 0 < n→∃ a,some ad=some a∧∀ j u,rows.flatten[j]?=some u→(w.alloc o).cell? (a.add j)=some u from fun h=>by
   obtain ⟨a,ha,hc⟩:=hr4 h
   refine ⟨a,ha,fun j u hu=>?_⟩
   have h2:=hc j u hu
   have h3:=World.block_lt_of_cell? w _ h2
   exact (World.cell?_of_block ((fr_alloc (fr_refl w) o).block _ h3)).trans h2)
  have hown:(w.alloc (.cells #[] 78)).ownsRow w.heap.size 78 3 (.slice (some ⟨w.heap.size,0,none⟩) 0 0) 0 []:=World.ownsRow_lit w #[] 0 (Nat.le_refl _) (Nat.zero_le _) (by simp)
  have H3:=Lib.hid hr3
  have HR1:=Lib.hid hr1
  clear hr1 hr2 hr3 hr4 hr5 h1
  go_enter Tryz.func104,Tryz.ntmps104
  go_wp2_with (at_builtin; refine wpList_append_src rfl _ _ 23 rfl w.heap.size 78 i0 _ 3 48 Tryz.underlying23 hi0 hz0 hz1 hz2 rfl (by decide) _ 0 _ rfl hown (some ad) n c rows.flatten rfl H3.out (HX.out _) H1.out ?c3 ?c4 ?c5 ?_)
  case c3=>unfold maxLen; omega
  case c4=>omega
  case c5=>exact (fr_alloc (fr_refl w) _).size
  intro v' w5 hown5 hg5
  have hb5:=(fr_alloc (fr_refl w) (.cells #[] 78)).grown hg5 (fr_alloc (fr_refl w) _).size (fun k hk=>by
   have:w.heap.size=k:=by simpa [Value.ownBlock] using hk
   omega)
  have HV:=Lib.hid (rowK_of hS hb5 (by rw [HR1.out,HL.out]) HR2.out (by rw [HL.out]; exact hown5))
  clear hown5 hg5
  go_wp2
  go_ret
  exact ⟨_,rfl,HV.out,hb5⟩
theorem cl_memory_info:(Tryz.prog.info? 43).map (fun i=>(i.zero,i.size,i.bytes))=some (some (.agg #[.string ⟨#[]⟩,.string ⟨#[]⟩,.slice none 0 0,.int .i64 0,.string ⟨#[]⟩,.slice none 0 0,.slice none 0 0,.int .i64 0]),8,136):=by kernel_rfl
theorem memory_one {w:World} {S:Nat→Prop} {x:MemoryV} {r:List Value} (h:Rep.rep w S x r):∀ u∈r,u.oneCell'=true:=by
 obtain ⟨A,n,c,B,m,d,C,p,q,rfl,_⟩:=h
 intro u hu
 simp only [List.mem_cons,List.not_mem_nil,or_false] at hu
 rcases hu with rfl | rfl | rfl | rfl | rfl | rfl | rfl | rfl <;> rfl
set_option maxRecDepth 100000 in
theorem clone_memory (A:Option Addr) (n c:Nat) (l:List MemoryV) (w:World) (S:Nat→Prop) (hS:∀ k,S k→k < w.heap.size) (hsl:Sl w S A n l) (hn:n≤100000000) :
 Calls Tryz.prog 15 #[.slice A n c] w fun e w'=>∃ v,e=.returned v∧RowK w' w.heap.size 43 S v l∧Below w.heap.size w w':=by
 obtain ⟨i0,hi0,hz0,hz1,hz2⟩:=info_parts cl_memory_info
 have hm:n≤9223372036854775807:=by omega
 have HL:=Lib.hid hsl.1
 have nil1:∀ (w:World) (a:Option Addr) (n c n' c':Nat),(binOp .eql 26 (.slice a n c) (.slice none n' c')).run Tryz.prog w=.ok (.bool a.isNone) w:=fun w a n c n' c'=>Lib.run_eql_slice_nil w _ _ a n c n' c' Tryz.underlying26
 rcases A with _ | ad
 ·have h0:l=[]:=by
   rcases Nat.eq_zero_or_pos n with h0 | h0
   ·subst h0; exact List.eq_nil_of_length_eq_zero hsl.1
   ·obtain ⟨_,_,h1,_⟩:=hsl.2.2 h0; cases h1
  subst h0
  go_enter Tryz.func15,Tryz.ntmps15
  go_wp2
  go_ret
  exact ⟨_,rfl,RowK.nil.more (fun _ h=>h.elim) hS,Below.refl _ _⟩
 ·obtain ⟨rows,hr1,hr2,hr3,hr4,hr5⟩:=sl_cells hsl (by show 0 < 8; decide)
  have HR2:=Lib.hid hr2
  have h1:∀ u∈rows.flatten,u.oneCell'=true:=fun u hu=>by
   obtain ⟨r,hr,hur⟩:=List.mem_flatten.1 hu
   obtain ⟨x,_,hx⟩:=hr5 r hr
   exact memory_one hx u hur
  have H1:=Lib.hid h1
  have HX:=Lib.hid (fun o=>show 0 < n→∃ a,some ad=some a∧∀ j u,rows.flatten[j]?=some u→(w.alloc o).cell? (a.add j)=some u from fun h=>by
   obtain ⟨a,ha,hc⟩:=hr4 h
   refine ⟨a,ha,fun j u hu=>?_⟩
   have h2:=hc j u hu
   have h3:=World.block_lt_of_cell? w _ h2
   exact (World.cell?_of_block ((fr_alloc (fr_refl w) o).block _ h3)).trans h2)
  have hown:(w.alloc (.cells #[] 43)).ownsRow w.heap.size 43 8 (.slice (some ⟨w.heap.size,0,none⟩) 0 0) 0 []:=World.ownsRow_lit w #[] 0 (Nat.le_refl _) (Nat.zero_le _) (by simp)
  have H3:=Lib.hid hr3
  have HR1:=Lib.hid hr1
  clear hr1 hr2 hr3 hr4 hr5 h1
  go_enter Tryz.func15,Tryz.ntmps15
  go_wp2_with (at_builtin; refine wpList_append_src rfl _ _ 26 rfl w.heap.size 43 i0 _ 8 136 Tryz.underlying26 hi0 hz0 hz1 hz2 rfl (by decide) _ 0 _ rfl hown (some ad) n c rows.flatten rfl H3.out (HX.out _) H1.out ?c3 ?c4 ?c5 ?_)
  case c3=>unfold maxLen; omega
  case c4=>omega
  case c5=>exact (fr_alloc (fr_refl w) _).size
  intro v' w5 hown5 hg5
  have hb5:=(fr_alloc (fr_refl w) (.cells #[] 43)).grown hg5 (fr_alloc (fr_refl w) _).size (fun k hk=>by
   have:w.heap.size=k:=by simpa [Value.ownBlock] using hk
   omega)
  have HV:=Lib.hid (rowK_of hS hb5 (by rw [HR1.out,HL.out]) HR2.out (by rw [HL.out]; exact hown5))
  clear hown5 hg5
  go_wp2
  go_ret
  exact ⟨_,rfl,HV.out,hb5⟩
end Go.Proofs.Sm
namespace Go.Proofs.Sm
open Go.RowKit
theorem RowK.lt2 {α:Type} [Rep α] {w:World} {B:Nat} {e:TypeId} {K:Nat→Prop} {v:Value} {l:List α} (h:RowK w B e K v l):∀ g,v.ownBlock=some g→g < w.heap.size:=fun g hg=>(h.kind g hg).2.lt
def NewS (S:Nat→Prop) (w w':World) (b:Nat):Prop:=(S b∨w.heap.size≤b)∧b < w'.heap.size
def CopyPost {α:Type} [Rep α] (S:Nat→Prop) (n:Nat) (l:List α) (w:World) (e:Ending) (w':World):Prop:=∃ A' c',e=.returned (.slice A' n c')∧n≤c'∧c'≤maxLen∧Sl w' (NewS S w w') A' n l∧Below w.heap.size w w'
theorem CopyPost.mk {α:Type} [Rep α] {S:Nat→Prop} {n c:Nat} {A:Option Addr} {l:List α} {w w':World} (h1:n≤c) (h2:c≤maxLen) (h3:Sl w' (NewS S w w') A n l) (h4:Below w.heap.size w w'):CopyPost S n l w (.returned (.slice A n c)) w':=⟨A,c,rfl,h1,h2,h3,h4⟩
theorem RowK.slNew {α:Type} [Rep α] {w w':World} {e:TypeId} {K S:Nat→Prop} {v:Value} {l:List α} (h:RowK w' w.heap.size e K v l) (hK:∀ k,K k→S k∨w.heap.size≤k):∃ A c,v=.slice A l.length c∧l.length≤c∧c≤maxLen∧Sl w' (NewS S w w') A l.length l:=by
 obtain ⟨A,c,rfl,h1,h2,h3⟩:=h.sl
 refine ⟨A,c,rfl,h1,h2,h3.1,h3.2.1,fun hn=>?_⟩
 obtain ⟨b,o,rfl,hb,hc⟩:=h3.2.2 hn
 have hkb:=(h.kind b rfl).1
 obtain ⟨hk,rows,hr,hown,hrep⟩:=h
 have hown':=hown.2
 rcases hown' with ⟨h4,_⟩ | ⟨g,cap,cur,h4,hbg,hh,_⟩
 ·cases h4
 ·cases h4
  refine ⟨_,0,rfl,⟨.inr hkb,hb⟩,fun i x hx=>?_⟩
  have hi:i < l.length:=(List.getElem?_eq_some_iff.1 hx).1
  have hri:rows[i]?=some (rows[i]'(by omega)):=List.getElem?_eq_getElem (by omega)
  refine ⟨rows[i]'(by omega),Rep.more (fun k hh=>⟨hK k hh,hk k hh⟩) (hrep i x _ hx hri),fun j u hu=>?_⟩
  have hlens:∀ r∈rows,r.length=Rep.sz α:=by
   intro r hr2
   obtain ⟨i,hi⟩:=List.getElem?_of_mem hr2
   have hi2:=(List.getElem?_eq_some_iff.1 hi).1
   exact Rep.len (hrep i l[i] r (List.getElem?_eq_getElem (by omega)) hi)
  have hj:j < Rep.sz α:=by
   have:=(List.getElem?_eq_some_iff.1 hu).1
   rw [hlens _ (List.mem_of_getElem? hri)] at this
   exact this
  have h5:=hown.cells (g:=_) rfl (i * Rep.sz α + j) u (by rw [flatten_at hlens hri hj]; exact hu)
  rw [addr_add] at h5
  rw [←h5]
  congr 2
  omega
set_option maxHeartbeats 1000000 in
set_option maxRecDepth 100000 in
theorem blob_Own (A:Option Addr) (n c:Nat) (l:List FileV) (w:World) (S:Nat→Prop) (hS:∀ k,S k→k < w.heap.size) (hsl:Sl w S A n l) (hn:n≤1000000) (hbs:∀ x∈l,x.bytes.length≤100000000) :
 Calls Tryz.prog 69 #[.slice A n c] w (CopyPost S n l w):=by
 have hm:n≤9223372036854775807:=by omega
 have HL:=Lib.hid hsl.1
 go_enter Tryz.func69,Tryz.ntmps69
 go_wp2_with fail
 refine (clone_file A n c l w S hS hsl (by omega)).mono ?_
 rintro e w1 ⟨v,rfl,hrow,hb1⟩
 obtain ⟨A1,c1,rfl,hc1,hc2,hs1⟩:=hrow.slNew (S:=S) fun k hk=>.inl hk
 rw [HL.out] at hc1 hs1
 rw [HL.out] at hrow ⊢
 rcases Nat.eq_zero_or_pos n with h0 | h0
 ·subst h0
  have HV:=Lib.hid hs1
  clear hrow hs1
  go_wp2
  go_loop [9] (fun i=>i=.int .i64 0) (fun _=>0)
  case atStart=>rfl
  case round =>
   obtain rfl:=hrel
   go_wp2
   go_ret
   exact CopyPost.mk hc1 hc2 HV.out hb1
 ·obtain ⟨g,o,rfl,_,_⟩:=hs1.2.2 h0
  obtain ⟨_,rows,_,hown,_⟩:=id hrow
  obtain rfl:o=0:=by
   rcases hown.2 with ⟨h,_⟩ | ⟨g',cap',cur,h,_⟩
   ·cases h
   ·cases h; rfl
  have hgb:=(hown.lt g rfl).1
  have hgl:=(hown.lt g rfl).2
  have hrow0:RowK w1 w.heap.size 78 (fun b=>b≠g∧NewS S w w1 b) (.slice (some ⟨g,0,none⟩) n c1) l:=hrow.more (fun k hk=>⟨by have:=hS k hk; omega,.inl hk,Nat.lt_of_lt_of_le (hS k hk) hb1.size⟩) fun k hk=>hk.2.2
  clear hrow hs1 hown
  go_wp2
  go_loopw [9] (fun i wx=>∃ k:Nat,k≤n∧i=.int .i64 k∧RowK wx w.heap.size 78 (fun b=>b≠g∧NewS S w wx b) (.slice (some ⟨g,0,none⟩) n c1) l∧g < wx.heap.size∧Below w.heap.size w wx) (fun i _=>n - (intOf i).toNat)
  case atStart=>exact ⟨0,Nat.zero_le _,rfl,hrow0,hgl,hb1⟩
  case round =>
   clear hrow0 hgl hb1
   obtain ⟨k,hk,rfl,hrow,hgl,hbel⟩:=hrel
   by_cases hlt:k < n
   ·obtain ⟨x,hx⟩:=at_lt (l:=l) (k:=k) (by rw [HL.out]; exact hlt)
    obtain ⟨r,hr,hc⟩:=hrow.elem hx
    obtain ⟨hxp,A2,n2,c2,rfl,h21,h22,hs2⟩:=hr
    have c0:=hc 2 _ rfl
    have hc0:wr.cell? ⟨g,k * 3 + 2,none⟩=some (.slice A2 n2 c2):=c0
    have hkI:(k:Int) < (n:Int):=by omega
    have hn2:n2≤100000000:=by have:=hbs x (List.mem_of_getElem? hx); rw [hs2.1] at this; exact this
    have hs2':Sl wr (Lt wr.heap.size) A2 n2 x.bytes:=hs2.more fun k hk=>hk.2.2
    have HX:=Lib.hid hx
    clear hx hc c0
    go_wp2_with fail
    refine (clone_byte A2 n2 c2 x.bytes wr (Lt wr.heap.size) (fun _ h=>h) hs2' hn2).mono ?_
    rintro e w2 ⟨v2,rfl,hrow2,hb2⟩
    obtain ⟨A3,c3,rfl,h31,h32,hs3⟩:=(hrow2.flat flat_byte).slFrom
    have hrow3:RowK w2 w.heap.size 78 (fun b=>b≠g∧NewS S w w2 b) (.slice (some ⟨g,0,none⟩) n c1) l:=(hrow.call hb2).more (fun b hb=>⟨hb.1,hb.2.1,Nat.lt_of_lt_of_le hb.2.2 hb2.size⟩) fun b hb=>hb.2.2
    have hs3':Sl w2 (fun b=>b≠g∧NewS S w w2 b) A3 x.bytes.length x.bytes:=hs3.more fun b hb=>⟨by omega,.inr (Nat.le_trans hbel.size hb.1),hb.2⟩
    have hnew:=hrow3.setElem (j:=2) (u:=.slice A3 x.bytes.length c3) (fun h=>h.1 rfl) HX.out (by decide) fun r hr=>by
     obtain ⟨h0,A4,n4,c4,rfl,h1,h2,h3⟩:=hr
     exact ⟨h0,A3,_,c3,rfl,h31,h32,hs3'⟩
    have hf:=hrow3.frozenAt (k * 3 + 2)
    have hgl2:g < w2.heap.size:=Nat.lt_of_lt_of_le hgl hb2.size
    have hc3:w2.cell? ⟨g,k * 3 + 2,none⟩=some (.slice A2 n2 c2):=(hb2.cell hgl).trans hc0
    have hnew2:RowK (w2.setCell ⟨g,k * 3 + 2,none⟩ (.slice A3 x.bytes.length c3)) w.heap.size 78 (fun b=>b≠g∧NewS S w (w2.setCell ⟨g,k * 3 + 2,none⟩ (.slice A3 x.bytes.length c3)) b) (.slice (some ⟨g,0,none⟩) n c1) l:=hnew.more (fun b hb=>⟨hb.1,hb.2.1,by rw [size_setCell']; exact hb.2.2⟩) fun b hb=>hb.2.2
    have HN:=Lib.hid hnew2
    have hbel2:=(fr_call hbel hb2).setCell (p:=⟨g,k * 3 + 2,none⟩) hgb (.slice A3 x.bytes.length c3)
    clear hrow hrow2 hrow3 hs3 hs3' hnew hnew2 hs2 hs2' hc0 hb2
    go_wp2
    go_roundw
    case rel=>exact ⟨k + 1,by omega,by go_num,HN.out,by rw [size_setCell']; exact hgl2,hbel2⟩
    case measure=>simp [intOf]; omega
   ·have HS:=Lib.hid (show Sl wr (NewS S w wr) (some ⟨g,0,none⟩) n l by
     obtain ⟨A',c',h1,_,_,h4⟩:=hrow.slNew (S:=S) fun k hk=>hk.2.1
     rw [HL.out] at h1 h4
     cases h1
     exact h4)
    clear hrow
    go_wp2
    go_ret
    exact CopyPost.mk hc1 hc2 HS.out hbel
set_option maxHeartbeats 1000000 in
set_option maxRecDepth 100000 in
theorem clone_looks (A:Option Addr) (n c:Nat) (l:List Look) (w:World) (S:Nat→Prop) (hS:∀ k,S k→k < w.heap.size) (hsl:Sl w S A n l) (hn:n≤100000000) :
 Calls Tryz.prog 64 #[.slice A n c] w (CopyPost S n l w):=by
 have hl:=hsl.1
 refine (clone_look A n c l w S hS hsl hn).mono ?_
 rintro e w1 ⟨v,rfl,hrow,hb⟩
 obtain ⟨A1,c1,rfl,h1,h2,h3⟩:=hrow.slNew (S:=S) fun k hk=>.inl hk
 rw [hl] at h1 h3 ⊢
 exact CopyPost.mk h1 h2 h3 hb
structure ResS (w:World) (S:Nat→Prop) (r:ResultV) (A:Option Addr) (n:Nat) (B:Option Addr) (m:Nat):Prop where
 code:InInt r.code
 text:r.text.size≤maxLen
 files:Sl w S A n r.files
 looks:Sl w S B m r.looks
 command:InInt r.command
def ResPost (S:Nat→Prop) (r:ResultV) (w:World) (e:Ending) (w':World):Prop:=∃ A n c B m d,e=.returned (resVal r A n c B m d)∧(n≤c∧c≤maxLen∧m≤d∧d≤maxLen)∧ResS w' (NewS S w w') r A n B m∧Below w.heap.size w w'
end Go.Proofs.Sm
namespace Go.Proofs.Sm
open Go.RowKit
section
variable {w:World} {S:Nat→Prop} {A:Option Addr} {n c k:Nat}
theorem from_byte {l:List UInt8} (h:Sl w S A n l) (h0:0 < n) (hnc:n≤c) (hcm:c≤maxLen) (hk:k≤n):∃ A2 c2,(∀ W,(Instr.slice 75 (.slice A n c) (some (.int .i64 (k:Int))) none none).run Tryz.prog W=.ok (.slice A2 (n - k) c2) W)∧n - k≤c2∧c2≤maxLen∧Sl w S A2 (n - k) (l.drop k):=by
 obtain ⟨b,o,rfl,_,_⟩:=h.2.2 h0
 have hkn:(k:Int)≤(n:Int):=by omega
 have hm:n≤9223372036854775807:=h.2.1
 by_cases hc:c=k
 ·obtain rfl:n=c:=by omega
  subst hc
  refine ⟨some ⟨b,o,none⟩,0,fun W=>?_,by omega,Nat.zero_le _,?_⟩
  ·simp [go_sem,Tryz.underlying75]
  ·rw [List.drop_eq_nil_of_le (by rw [h.1]; exact Nat.le_refl _),Nat.sub_self]
   exact ⟨rfl,Nat.zero_le _,fun h=>absurd h (by omega)⟩
 ·refine ⟨some ⟨b,o + k,none⟩,c - k,fun W=>?_,by omega,by omega,h.drop1 rfl hk⟩
  simp [go_sem,Tryz.underlying75,hkn,hc]
theorem from_str {l:List ByteArray} (h:Sl w S A n l) (h0:0 < n) (hnc:n≤c) (hcm:c≤maxLen) (hk:k≤n):∃ A2 c2,(∀ W,(Instr.slice 24 (.slice A n c) (some (.int .i64 (k:Int))) none none).run Tryz.prog W=.ok (.slice A2 (n - k) c2) W)∧n - k≤c2∧c2≤maxLen∧Sl w S A2 (n - k) (l.drop k):=by
 obtain ⟨b,o,rfl,_,_⟩:=h.2.2 h0
 have hkn:(k:Int)≤(n:Int):=by omega
 have hm:n≤9223372036854775807:=h.2.1
 by_cases hc:c=k
 ·obtain rfl:n=c:=by omega
  subst hc
  refine ⟨some ⟨b,o,none⟩,0,fun W=>?_,by omega,Nat.zero_le _,?_⟩
  ·simp [go_sem,Tryz.underlying24]
  ·rw [List.drop_eq_nil_of_le (by rw [h.1]; exact Nat.le_refl _),Nat.sub_self]
   exact ⟨rfl,Nat.zero_le _,fun h=>absurd h (by omega)⟩
 ·refine ⟨some ⟨b,o + k,none⟩,c - k,fun W=>?_,by omega,by omega,h.drop1 rfl hk⟩
  simp [go_sem,Tryz.underlying24,hkn,hc]
theorem upto_byte {l:List UInt8} (h:Sl w S A n l) (h0:0 < n) (hnc:n≤c) (hcm:c≤maxLen) (hk:k≤n):(∀ W,(Instr.slice 75 (.slice A n c) none (some (.int .i64 (k:Int))) none).run Tryz.prog W=.ok (.slice A k c) W)∧Sl w S A k (l.take k):=by
 obtain ⟨b,o,rfl,_,_⟩:=h.2.2 h0
 have hkc:(k:Int)≤(c:Int):=by omega
 have hm:c≤9223372036854775807:=hcm
 refine ⟨fun W=>?_,h.take hk⟩
 simp [go_sem,Tryz.underlying75,hkc]
end
theorem sl_bytes {w:World} {S:Nat→Prop} {b o n:Nat} {l:List UInt8} (h:Sl w S (some ⟨b,o,none⟩) n l):Lib.Bytes w b o ⟨l.toArray⟩:=fun i hi=>by
 have hn:=h.1
 have hi':i < l.length:=by simpa [ByteArray.size] using hi
 obtain ⟨b',o',e,hb,hc⟩:=h.2.2 (by omega)
 cases e
 obtain ⟨vs,rfl,ha⟩:=hc i l[i] (List.getElem?_eq_getElem hi')
 have h0:=ha 0 _ rfl
 simp only [Rep.sz,Nat.mul_one,Nat.add_zero] at h0
 rw [h0]
 rfl
theorem indexByte_sl (A:Option Addr) (n c:Nat) (l:List UInt8) (w:World) (S:Nat→Prop) (h:Sl w S A n l) (h0:0 < n):Calls Tryz.prog 273 #[.slice A n c,.int .u8 10] w fun e w'=>e=.returned (.int .i64 (Lib.indexByte l 10))∧w=w':=by
 obtain ⟨b,o,rfl,_,_⟩:=h.2.2 h0
 have:=Tryz.bytes_IndexByte_bytes b o c ⟨l.toArray⟩ 10 w (sl_bytes h)
 have e:(⟨l.toArray⟩:ByteArray).size=n:=by have:=h.1; simpa [ByteArray.size] using this
 rw [e] at this
 exact this.mono fun _ _ h=>⟨h.1,h.2.symm⟩
def LinesPost (b:List UInt8) (w:World) (e:Ending) (w':World):Prop:=∃ v,e=.returned v∧RowK w' w.heap.size 9 (fun _=>False) v ((linesS b).map strOf)∧Below w.heap.size w w'
theorem str_info:(Tryz.prog.info? 9).map (fun i=>(i.zero,i.size,i.bytes))=some (some (.string ⟨#[]⟩),1,16):=by kernel_rfl
theorem lineLen_idx {b:List UInt8} (h:Lib.indexByte b 10≠-1):(lineLen b:Int)=Lib.indexByte b 10 + 1:=by
 have:=Lib.indexByte_ge b 10
 rw [lineLen,if_neg h]
 omega
theorem lineLen_all {b:List UInt8} (h:Lib.indexByte b 10=-1):lineLen b=b.length:=by rw [lineLen,if_pos h]
theorem new_cells_drew (w:World) (cs:Array Value) (t:TypeId):∀ (j:Nat) u,cs.toList[j]?=some u→(w.alloc (.cells cs t)).drew.cell? ((⟨w.heap.size,0,none⟩:Addr).add j)=some u:=new_cells w cs t
theorem row_joined {w wr w1:World} {o:Obj} {v v':Value} {rows:List (List Value)} {done:List (List UInt8)} {x:List UInt8} (hb:Below w.heap.size w wr) (hrow:RowK wr w.heap.size 9 (fun _=>False) v (done.map strOf)) (hr:rows.length=(done.map strOf).length)
 (hrep:∀ (i:Nat) (x:ByteArray) (r:List Value),(done.map strOf)[i]?=some x→rows[i]?=some r→Rep.rep wr (fun _=>False) x r) (hx:x.length≤maxLen) (hg:(wr.alloc o).drew.grownBy w1 v.ownBlock) (hown:w1.ownsRow w.heap.size 9 1 v' (done.length + 1) (rows.flatten ++ [.string (strOf x)])) :
 RowK w1 w.heap.size 9 (fun _=>False) v' ((done ++ [x]).map strOf)∧Below w.heap.size w w1:=by
 have hb1:Below wr.heap.size wr (wr.alloc o).drew:=(fr_alloc (fr_refl wr) o).drew
 have h1:=RowK.append (x:=strOf x) (r:=[.string (strOf x)]) (l:=done.map strOf) (rows:=rows) (w:=(wr.alloc o).drew) (K:=fun _=>False) (B:=w.heap.size) (e:=9) (v:=v) (v':=v') (w':=w1) (fun k hh=>hh.elim) hr (fun i y r hy hr'=>hrep i y r hy hr') ⟨rfl,by simpa [strOf,ByteArray.size] using hx⟩ (fun _ _ hh=>hh) hg (by rw [List.length_map]; exact hown)
 refine ⟨by simpa using h1,((fr_call hb hb1)).grown hg (Nat.le_trans hb.size hb1.size) fun g hgg=>(hrow.kind g hgg).1⟩
set_option maxHeartbeats 2000000 in
set_option maxRecDepth 100000 in
theorem act_lines (A:Option Addr) (n c:Nat) (b:List UInt8) (w:World) (hsl:Sl w (Lt w.heap.size) A n b) (hnc:n≤c) (hc:c≤maxLen) (hn:n≤100000000) :
 Calls Tryz.prog 253 #[.slice A n c] w (LinesPost b w):=by
 obtain ⟨i0,hi0,hz0,hz1,hz2⟩:=info_parts str_info
 have hm:n≤9223372036854775807:=by omega
 go_enter Tryz.func253,Tryz.ntmps253
 go_wp2
 go_loopw [0,3,4] (fun bv v _ wr=>∃ (A':Option Addr) (n' c':Nat) (rest:List UInt8) (done:List (List UInt8)),bv=.slice A' n' c'∧n'≤c'∧c'≤maxLen∧n'≤n∧done.length + n'≤n∧Sl w (Lt w.heap.size) A' n' rest∧linesS b=done ++ linesS rest∧RowK wr w.heap.size 9 (fun _=>False) v (done.map strOf)∧Below w.heap.size w wr) (fun bv _ _ _=>slLen bv)
 case atStart=>exact ⟨A,n,c,b,[],rfl,hnc,hc,Nat.le_refl _,by simp,hsl,rfl,RowK.nil,Below.refl _ _⟩
 case round =>
  obtain ⟨A',n',c',rest,done,rfl,h1,h2,h3,h4,hs,he,hrow,hb⟩:=hrel
  have HE:=Lib.hid he
  clear he
  have hnI:((n':Nat):Int)≤100000000:=by omega
  rcases Nat.eq_zero_or_pos n' with h0 | h0
  ·subst h0
   have hr:rest=[]:=List.eq_nil_of_length_eq_zero hs.1
   have HP:=Lib.hid (show LinesPost b w (.returned u3) wr from ⟨_,rfl,by rw [HE.out,hr,linesS_nil,List.append_nil]; exact hrow,hb⟩)
   clear hr hs hrow
   go_wp2
   go_ret
   exact HP.out
  ·have hne:rest≠[]:=fun e=>by rw [e] at hs; have:=hs.1; simp at this; omega
   have hk0:=lineLen_pos hne
   have hk1:lineLen rest≤n':=by have:=lineLen_le rest; rw [hs.1] at this; exact this
   have HE2:=Lib.hid (show linesS b=(done ++ [rest.take (lineLen rest)]) ++ linesS (rest.drop (lineLen rest)) by rw [HE.out,lines_step hne]; simp)
   have HI:=Lib.hid (fun (W:World) (hb:Below w.heap.size w W)=>indexByte_sl A' n' c' rest W (Lt w.heap.size) (hs.keep (keep_lt hb)) h0)
   have hidx1:=fun (h:Lib.indexByte rest 10=-1)=>(lineLen_all h).trans hs.1
   have hidx2:=fun (h:Lib.indexByte rest 10≠-1)=>lineLen_idx h
   obtain ⟨A2,c2,hfrom,hc21,hc22,hs2⟩:=from_byte hs h0 h1 h2 hk1
   obtain ⟨hto,hs1⟩:=upto_byte hs h0 h1 h2 hk1
   have hcv:=run_bytes_string (P:=Tryz.prog) (hs1.keep (keep_lt hb.drew)) 75 9 5 c' Tryz.underlying75 Tryz.underlying5 Tryz.underlying9
   have hxl:(rest.take (lineLen rest)).length≤maxLen:=by have:=hs1.1; have:=hs1.2.1; omega
   obtain ⟨_,rows,hrows,hown,hrep⟩:=id hrow
   rw [List.length_map] at hrows hown
   have HJ:=Lib.hid (fun o w1 v' hg hown'=>row_joined (o:=o) (w1:=w1) (v':=v') hb hrow (by simpa using hrows) hrep hxl hg hown')
   have H9:=Lib.hid (fun o=>show ((wr.alloc o).drew).ownsRow w.heap.size 9 1 u3 done.length rows.flatten from hown.alloc o)
   have H63:=Lib.hid (show done.length + 1≤maxLen by unfold maxLen; omega)
   have H48:=Lib.hid (show (done.length + 1) * 16≤140737488355328 by omega)
   have HB9:=Lib.hid (fun o=>show w.heap.size≤(wr.alloc o).drew.heap.size from by have:=hb.size; simp; omega)
   have HS2:=Lib.hid hs2
   change (convert 75 9 (.slice A' (lineLen rest) c')).run Tryz.prog wr.drew=.ok (.string (strOf (rest.take (lineLen rest)))) wr.drew at hcv
   generalize lineLen rest=k at *
   have hkI:(0:Int) < (k:Int):=by omega
   have hkn:(k:Int)≤(n':Int):=by omega
   clear hs hs1 hs2 hrow hrows hown hrep HE hne hxl
   by_cases hidx:Lib.indexByte rest 10=-1
   ·have hk:=hidx1 hidx
    rw [hidx] at HI
    subst hk
    rw [Nat.sub_self] at HS2 hc21 hfrom
    clear hidx1 hidx2 hidx
    go_wp2_with fail
    refine (HI.out _ hb).mono ?_
    rintro e w1 ⟨rfl,rfl⟩
    go_wp2
    go_region_law (first
     | (refine step_append_lies _ rfl _ _ 24 rfl w.heap.size 9 i0 _ 1 16 Tryz.underlying24 hi0 hz0 hz1 hz2 rfl (by decide) _ done.length _ rfl (H9.out _) ⟨wr.heap.size,0,none⟩ 1 1 [.string (strOf (rest.take k))] rfl rfl (new_cells_drew wr #[_] _) (fun u hu=>(by simp only [List.mem_cons,List.mem_nil_iff,or_false] at hu; subst hu; rfl)) (by decide) H63.out H48.out (HB9.out _) _ rfl ?_
        intro g' cap w9 hown' hgrow hat hlt'))
    all_goals
     obtain ⟨hrow9,hb9⟩:=HJ.out _ _ _ hgrow hown'
     clear hown' hgrow
     dsimp
     try go_frame
     go_roundw
     case rel =>
      repeat apply Exists.intro
      exact ⟨⟨A2,_,c2,rest.drop k,done ++ [rest.take k],rfl,hc21,hc22,by omega,by rw [List.length_append,List.length_singleton]; omega,HS2.out,HE2.out,hrow9,hb9⟩,rfl⟩
     case measure=>simp [slLen]; omega
   ·have hk:=hidx2 hidx
    rw [show Lib.indexByte rest 10=(k:Int) - 1 by omega] at HI
    clear hidx1 hidx2 hidx hk
    go_wp2_with fail
    refine (HI.out _ hb).mono ?_
    rintro e w1 ⟨rfl,rfl⟩
    go_wp2
    go_region_law (first
     | (refine step_append_lies _ rfl _ _ 24 rfl w.heap.size 9 i0 _ 1 16 Tryz.underlying24 hi0 hz0 hz1 hz2 rfl (by decide) _ done.length _ rfl (H9.out _) ⟨wr.heap.size,0,none⟩ 1 1 [.string (strOf (rest.take k))] rfl rfl (new_cells_drew wr #[_] _) (fun u hu=>(by simp only [List.mem_cons,List.mem_nil_iff,or_false] at hu; subst hu; rfl)) (by decide) H63.out H48.out (HB9.out _) _ rfl ?_
        intro g' cap w9 hown' hgrow hat hlt'))
    all_goals
     obtain ⟨hrow9,hb9⟩:=HJ.out _ _ _ hgrow hown'
     clear hown' hgrow
     dsimp
     try go_frame
     go_roundw
     case rel =>
      repeat apply Exists.intro
      exact ⟨⟨A2,_,c2,rest.drop k,done ++ [rest.take k],rfl,hc21,hc22,by omega,by rw [List.length_append,List.length_singleton]; omega,HS2.out,HE2.out,hrow9,hb9⟩,rfl⟩
     case measure=>simp [slLen]; omega
end Go.Proofs.Sm
namespace Go.Proofs.Sm
open Go.RowKit
def Small (o:List UInt8) (r:Nat):Prop:=o.length≤100000∧r≤10000
section
variable {F:List FileV}
theorem each_nil (f:ByteArray→List UInt8→Nat→Ex (List UInt8 × Nat × Int)) (o:List UInt8) (r:Nat) (s:ExSt):eachE f [] o r F s=((o,r,0),s):=rfl
theorem each_inc {f:ByteArray→List UInt8→Nat→Ex (List UInt8 × Nat × Int)} {x:List UInt8} {l:List (List UInt8)} {o:List UInt8} {r:Nat} {s:ExSt} {p:ByteArray} (h:incS x=some p) (h0:(f p o r F s).1.2.2=0) :
 eachE f (x :: l) o r F s=eachE f l (f p o r F s).1.1 (f p o r F s).1.2.1 F (f p o r F s).2:=by
 rw [eachE,h]
 simp only [Ex.bind,h0,if_true]
theorem each_bad {f:ByteArray→List UInt8→Nat→Ex (List UInt8 × Nat × Int)} {x:List UInt8} {l:List (List UInt8)} {o:List UInt8} {r:Nat} {s:ExSt} {p:ByteArray} (h:incS x=some p) (h0:(f p o r F s).1.2.2≠0) :
 eachE f (x :: l) o r F s=f p o r F s:=by
 rw [eachE,h]
 simp only [Ex.bind,h0,if_false]
 rfl
theorem each_large {f:ByteArray→List UInt8→Nat→Ex (List UInt8 × Nat × Int)} {x:List UInt8} {l:List (List UInt8)} {o:List UInt8} {r:Nat} {s:ExSt} (h:incS x=none) (h0:100000 < (o ++ endedS x).length) :
 eachE f (x :: l) o r F s=((o ++ endedS x,r,5),s):=by
 rw [eachE,h]
 simp only [h0,if_true]
 rfl
theorem each_line {f:ByteArray→List UInt8→Nat→Ex (List UInt8 × Nat × Int)} {x:List UInt8} {l:List (List UInt8)} {o:List UInt8} {r:Nat} {s:ExSt} (h:incS x=none) (h0:¬ 100000 < (o ++ endedS x).length) :
 eachE f (x :: l) o r F s=eachE f l (o ++ endedS x) r F s:=by
 rw [eachE,h]
 simp only [h0,if_false]
theorem each_small {f:ByteArray→List UInt8→Nat→Ex (List UInt8 × Nat × Int)} (hf:∀ p o r s,Small o r→(f p o r F s).1.2.2=0→Small (f p o r F s).1.1 (f p o r F s).1.2.1):∀ l o r s,Small o r→(eachE f l o r F s).1.2.2=0→Small (eachE f l o r F s).1.1 (eachE f l o r F s).1.2.1
 | [],o,r,s,h,_=>h
 | x :: l,o,r,s,h,h0=>by
   cases hi:incS x with
   | some p =>
     by_cases hz:(f p o r F s).1.2.2=0
     ·rw [each_inc hi hz] at h0 ⊢
      exact each_small hf l _ _ _ (hf p o r s h hz) h0
     ·rw [each_bad hi hz] at h0
      exact absurd h0 hz
   | none =>
     by_cases hz:100000 < (o ++ endedS x).length
     ·rw [each_large hi hz] at h0
      cases h0
     ·rw [each_line hi hz] at h0 ⊢
      exact each_small hf l _ _ _ ⟨by omega,h.2⟩ h0
theorem file_deep {fuel:Nat} {inn:List ByteArray} {p:ByteArray} {o:List UInt8} {r:Nat} {s:ExSt} (h:inn.any (fun q=>q.toList == p.toList)=true∨30 < inn.length):fileE (fuel + 1) inn p o r F s=((o,r,4),s):=by
 rw [fileE,if_pos h]; rfl
theorem file_bad {fuel:Nat} {inn:List ByteArray} {p:ByteArray} {o:List UInt8} {r:Nat} {s:ExSt} (h:¬ (inn.any (fun q=>q.toList == p.toList)=true∨30 < inn.length)) (hz:(readE p F s).1.2≠0):fileE (fuel + 1) inn p o r F s=((o,r,(readE p F s).1.2),(readE p F s).2):=by
 rw [fileE,if_neg h]
 simp only [Ex.bind,hz,if_false]
 rfl
theorem file_many {fuel:Nat} {inn:List ByteArray} {p:ByteArray} {o:List UInt8} {r:Nat} {s:ExSt} (h:¬ (inn.any (fun q=>q.toList == p.toList)=true∨30 < inn.length)) (hz:(readE p F s).1.2=0) (hr:10000 < r + 1):fileE (fuel + 1) inn p o r F s=((o,r + 1,4),(readE p F s).2):=by
 rw [fileE,if_neg h]
 simp only [Ex.bind,hz,if_true,hr]
 rfl
theorem file_each {fuel:Nat} {inn:List ByteArray} {p:ByteArray} {o:List UInt8} {r:Nat} {s:ExSt} (h:¬ (inn.any (fun q=>q.toList == p.toList)=true∨30 < inn.length)) (hz:(readE p F s).1.2=0) (hr:¬ 10000 < r + 1) :
 fileE (fuel + 1) inn p o r F s=eachE (fileE fuel (inn ++ [p])) (linesS (readE p F s).1.1) o (r + 1) F (readE p F s).2:=by
 rw [fileE,if_neg h]
 simp only [Ex.bind,hz,if_true,hr,if_false]
theorem file_small:∀ fuel inn p o r s,Small o r→(fileE fuel inn p o r F s).1.2.2=0→Small (fileE fuel inn p o r F s).1.1 (fileE fuel inn p o r F s).1.2.1
 | 0,inn,p,o,r,s,h,h0=>h
 | fuel + 1,inn,p,o,r,s,h,h0=>by
   by_cases h1:inn.any (fun q=>q.toList == p.toList)=true∨30 < inn.length
   ·rw [file_deep h1] at h0; cases h0
   ·by_cases hz:(readE p F s).1.2=0
    ·by_cases hr:10000 < r + 1
     ·rw [file_many h1 hz hr] at h0; cases h0
     ·rw [file_each h1 hz hr] at h0 ⊢
      exact each_small (fun p o r s hs hz=>file_small fuel _ p o r s hs hz) _ _ _ _ ⟨h.1,by omega⟩ h0
    ·rw [file_bad h1 hz] at h0
     exact absurd h0 hz
end
end Go.Proofs.Sm
namespace Go.Proofs.Sm
open Go.RowKit Go.Lib
theorem occ_split {s old:List UInt8} {i:Nat} (h:occAt s old i=true):s=s.take i ++ old ++ s.drop (i + old.length):=by
 have h1:(s.drop i).take old.length=old:=(List.prefix_iff_eq_take.1 (List.isPrefixOf_iff_prefix.1 h)).symm
 rw [List.append_assoc,←List.drop_drop]
 conv=>lhs; rw [←List.take_append_drop i s]
 conv=>lhs; rw [←List.take_append_drop old.length (s.drop i)]
 rw [h1]
theorem replace_same (old:List UInt8):∀ (k:Nat) (s:List UInt8),replaceK old old k s=s
 | 0,s=>rfl
 | k + 1,s=>by
   rcases index_spec s old with ⟨h,_⟩ | ⟨i,h,_,ho,_⟩
   ·rw [replaceK,if_pos (by rw [h]; rfl)]
   ·rw [replaceK_hit old old k s i h,replace_same old k]
    exact (occ_split ho).symm
theorem replace_len {old new:List UInt8} (ho:old≠[]):∀ (k:Nat) (s:List UInt8),k≤count s old→(replaceK old new k s).length + k * old.length=s.length + k * new.length
 | 0,s,_=>by simp [replaceK]
 | k + 1,s,hk=>by
   obtain ⟨i,hi⟩:=index_of_count (s:=s) (old:=old) (by omega)
   have hroom:=index_room s old (by omega)
   have hc:=count_hit ho hi
   have ih:=replace_len (new:=new) ho k (s.drop (i + old.length)) (by omega)
   rw [replaceK_hit old new k s i hi]
   simp only [List.length_append,List.length_take,List.length_drop,Nat.succ_mul] at *
   omega
end Go.Proofs.Sm
namespace Go.Proofs.Sm
open Go.RowKit
theorem nums_in (l:List UInt8):∀ x∈Lib.numsL l,0≤x∧x < 256:=fun x hx=>by
 obtain ⟨y,_,rfl⟩:=List.mem_map.1 hx
 have:=y.toNat_lt
 exact ⟨Int.natCast_nonneg _,by omega⟩
theorem sl_nums {w:World} {S:Nat→Prop} {b o n:Nat} {l:List UInt8} (h:Sl w S (some ⟨b,o,none⟩) n l):∀ i,i < n→w.cell? ((⟨b,o,none⟩:Addr).add i)=some (.int .u8 ((Lib.numsL l).getD i 0)):=fun i hi=>by
 obtain ⟨b',o',e,hb,hc⟩:=h.2.2 (by omega)
 cases e
 have hi':i < l.length:=by rw [h.1]; exact hi
 obtain ⟨vs,rfl,ha⟩:=hc i l[i] (List.getElem?_eq_getElem hi')
 have h0:=ha 0 _ rfl
 simp only [Rep.sz,Nat.mul_one,Nat.add_zero] at h0
 rw [addr_add,h0]
 simp [Lib.numsL,List.getD,hi']
theorem nums_len {w:World} {S:Nat→Prop} {A:Option Addr} {n:Nat} {l:List UInt8} (h:Sl w S A n l):(Lib.numsL l).length=n:=by rw [Lib.numsL_length]; exact h.1
theorem index_bytes (A A2:Option Addr) (n c n2 c2:Nat) (s old:List UInt8) (w:World) (hE:Env w) (hs:Sl w (Lt w.heap.size) A n s) (hs2:Sl w (Lt w.heap.size) A2 n2 old) (h0:0 < n) (h2:0 < n2) (hnc:n≤c) (hn:n≤1000000) (hn2:n2≤1000000) :
 Calls Tryz.prog 285 #[.slice A n c,.slice A2 n2 c2] w fun e w'=>e=.returned (.int .i64 (Lib.index s old))∧Below w.heap.size w w':=by
 obtain ⟨b,o,rfl,_,_⟩:=hs.2.2 h0
 obtain ⟨b2,o2,rfl,_,_⟩:=hs2.2.2 h2
 obtain ⟨m,hm⟩:=hE.most
 have:=Tryz.bytes_Index_at ⟨b,o,none⟩ ⟨b2,o2,none⟩ n c n2 c2 (Lib.numsL s) (Lib.numsL old) m w (nums_len hs) (nums_len hs2) (nums_in s) (nums_in old) (sl_nums hs) (sl_nums hs2) hnc (by omega) (by omega) hm
 rw [Lib.bytesOf_numsL,Lib.bytesOf_numsL] at this
 exact this.mono fun _ _ h=>⟨h.1,below_drewn h.2⟩
set_option maxRecDepth 100000 in
theorem count_none (c n2 c2:Nat) (A2:Option Addr) (old:List UInt8) (w:World) (hs2:Sl w (Lt w.heap.size) A2 n2 old) (h2:0 < n2) (hn2:n2≤1000000) :
 Calls Tryz.prog 284 #[.slice none 0 c,.slice A2 n2 c2] w fun e w'=>e=.returned (.int .i64 0)∧w=w':=by
 obtain ⟨b2,o2,rfl,_,_⟩:=hs2.2.2 h2
 by_cases h1:n2=1
 ·subst h1
  obtain ⟨_,_,x,e,_,_,cx⟩:=hs2.byte (k:=0) (by omega)
  cases e
  rw [Nat.add_zero] at cx
  go_enter Tryz.func284,Tryz.ntmps284
  go_wp2
  rw [run_callFunc_extern Tryz.func290 (by kernel_rfl) (by kernel_rfl) (by kernel_rfl) (e:=Extern.BytealgCount.count) (by kernel_rfl),Lib.run_countNil w 0 c x.toNat]
  simp only [Result.andThen]
  rw [Oper.upon_value]
  go_wp2
  go_ret
  exact ⟨rfl,rfl⟩
 ·have hI:=Lib.hid ((Tryz.bytes_Index_longer none (some ⟨b2,o2,none⟩) 0 c n2 c2 w (by omega) (by omega) (by omega)).mono fun e w' h=>(⟨h.1,h.2.symm⟩:e=.returned (.int .i64 (-1))∧w=w'))
  have hz:¬ (n2:Int)=0:=by omega
  have hz1:¬ (n2:Int)=1:=by omega
  have hb0:((n2:Int) == 0)=false:=by simpa using hz
  have hb1:((n2:Int) == 1)=false:=by simpa using hz1
  clear hz hz1
  go_enter Tryz.func284,Tryz.ntmps284
  go_wp2
  refine wp_loop_rounds 1 ?_
  rw [rounds_succ]
  go_wp2_with fail
  refine hI.out.mono ?_
  rintro e w1 ⟨rfl,rfl⟩
  go_wp2
  go_ret
  exact ⟨rfl,rfl⟩
theorem count_bytes (A A2:Option Addr) (n c n2 c2:Nat) (s old:List UInt8) (w:World) (hE:Env w) (hs:Sl w (Lt w.heap.size) A n s) (hs2:Sl w (Lt w.heap.size) A2 n2 old) (h2:0 < n2) (hnc:n≤c) (hn:n≤1000000) (hn2:n2≤1000000) :
 Calls Tryz.prog 284 #[.slice A n c,.slice A2 n2 c2] w fun e w'=>e=.returned (.int .i64 (Lib.count s old:Nat))∧Below w.heap.size w w':=by
 have hcell:∀ a,A=some a→∀ i,i < n→w.cell? (a.add i)=some (.int .u8 ((Lib.numsL s).getD i 0)):=fun a ha i hi=>by
  obtain ⟨b,o,e,_,_⟩:=hs.2.2 (by omega)
  subst e
  cases ha
  exact sl_nums hs i hi
 rcases A with _ | a
 ·have h0:n=0:=by
   rcases Nat.eq_zero_or_pos n with h | h
   ·exact h
   ·obtain ⟨_,_,e,_⟩:=hs.2.2 h; cases e
  subst h0
  have hs0:s=[]:=List.eq_nil_of_length_eq_zero hs.1
  subst hs0
  have hc0:Lib.count [] old=0:=by
   have hne:old≠[]:=fun e=>by rw [e] at hs2; have:=hs2.1; simp at this; omega
   refine Lib.count_miss (Lib.index_none fun j hj=>?_)
   cases old with
   | nil=>exact absurd rfl hne
   | cons y l=>simp [Lib.occAt]
  exact (count_none c n2 c2 A2 old w hs2 h2 hn2).mono fun _ _ h=>⟨by rw [hc0]; exact h.1,below_eq h.2⟩
 ·by_cases h1:n2=1
  ·subst h1
   obtain ⟨b2,o2,x,rfl,_,hx,cx⟩:=hs2.byte (k:=0) (by omega)
   rw [Nat.add_zero] at cx
   have ho:old=[x]:=by
    have hl:=hs2.1
    match old,hl,hx with
    | [y],_,hx=>cases hx; rfl
   have:=Tryz.bytes_Count_one_at a n c b2 o2 c2 (Lib.numsL s) x.toNat w (nums_len hs) (hcell a rfl) cx
   rw [Lib.bytesOf_numsL] at this
   refine this.mono fun _ _ h=>⟨h.1.trans ?_,below_eq h.2.symm⟩
   rw [ho,Lib.count_one]
   simp [Lib.countByte]
  ·obtain ⟨b2,o2,rfl,_,_⟩:=hs2.2.2 h2
   obtain ⟨m,hm⟩:=hE.most
   have:=Tryz.bytes_Count_at a ⟨b2,o2,none⟩ n c n2 c2 (Lib.numsL s) (Lib.numsL old) m w (nums_len hs) (nums_len hs2) (nums_in s) (nums_in old) (hcell a rfl) (sl_nums hs2) hnc (by omega) (by omega) (by omega) hm
   rw [Lib.bytesOf_numsL,Lib.bytesOf_numsL] at this
   exact this.mono fun _ _ h=>⟨h.1,below_drewn h.2⟩
end Go.Proofs.Sm
