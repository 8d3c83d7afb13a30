/- Words and walks that the claims share, part 17. -/
import Derived.Test.YtaabdbephemboaaGreatDoorBx12
import Derived.Test.YtaabdbephemboaaGreatDoorBx15
import Derived.Test.YtaabdbephemboaaGreatDoorBx16
import Derived.Laws.MakeOwn
import Derived.Deep.RegionLaw
import Derived.IntWalk
import Derived.Maps.RangeWalk
namespace Go.Proofs.Sm
open Go.RowKit
theorem cut_from (b o n c k:Nat) (hk:k≤n) (hnc:n≤c) (hc:c≤maxLen):∃ A2 c2,(∀ W,(Instr.slice 75 (.slice (some ⟨b,o,none⟩) n c) (some (.int .i64 (k:Int))) none none).run Tryz.prog W=.ok (.slice A2 (n - k) c2) W)∧n - k≤c2∧c2≤maxLen∧(0 < n - k→A2=some ⟨b,o + k,none⟩):=by
 have hkn:(k:Int)≤(n:Int):=by omega
 have hm:c≤9223372036854775807:=hc
 by_cases hck:c=k
 ·obtain rfl:n=c:=by omega
  subst hck
  refine ⟨some ⟨b,o,none⟩,0,fun W=>?_,by omega,Nat.zero_le _,fun h=>absurd h (by omega)⟩
  simp [go_sem,Tryz.underlying75]
 ·refine ⟨some ⟨b,o + k,none⟩,c - k,fun W=>?_,by omega,by omega,fun _=>rfl⟩
  simp [go_sem,Tryz.underlying75,hkn,hck]
theorem cut_mid (b o n c k m:Nat) (hk:k≤m) (hm:m≤n) (hnc:n≤c) (hc:c≤maxLen):∃ A2 c2,(∀ W,(Instr.slice 75 (.slice (some ⟨b,o,none⟩) n c) (some (.int .i64 (k:Int))) (some (.int .i64 (m:Int))) none).run Tryz.prog W=.ok (.slice A2 (m - k) c2) W)∧(0 < m - k→A2=some ⟨b,o + k,none⟩):=by
 have hkm:(k:Int)≤(m:Int):=by omega
 have hmc:(m:Int)≤(c:Int):=by omega
 have hmx:c≤9223372036854775807:=hc
 by_cases hck:c=k
 ·obtain rfl:m=k:=by omega
  subst hck
  refine ⟨some ⟨b,o,none⟩,0,fun W=>?_,fun h=>absurd h (by omega)⟩
  simp [go_sem,Tryz.underlying75]
 ·refine ⟨some ⟨b,o + k,none⟩,c - k,fun W=>?_,fun _=>rfl⟩
  simp [go_sem,Tryz.underlying75,hkm,hmc,hck]
theorem make_bytes (L:Nat) (hL:L≤100000000) (W:World):∃ cs:List Value,cs.length=L∧(Instr.makeSlice 75 (.int .i64 (L:Int)) (.int .i64 (L:Int))).run Tryz.prog W=.ok (.slice (some ⟨W.heap.size,0,none⟩) L L) (W.alloc (.cells cs.toArray 5)):=by
 obtain ⟨i0,hi0,hz0,hz1,hz2⟩:=info_parts cl_byte_info
 have h:=run_make (P:=Tryz.prog) W 75 5 i0 _ Tryz.underlying75 hi0 hz0 .i64 .i64 (L:Int) (L:Int) (by omega) (by omega) (by rw [hz2]; omega) (by omega)
 rw [hz1] at h
 refine ⟨(madeCells (Value.cells (.int .u8 0)) (L * 1)).toList,by rw [Array.length_toList,size_madeCells,Nat.mul_one],?_⟩
 rw [h]
 simp
theorem splice_bytes (o t:List UInt8) (rest:List Value):splice (Lib.byteCells o ++ rest) o.length (Lib.byteCells t)=Lib.byteCells (o ++ t) ++ rest.drop t.length:=by
 unfold splice
 rw [List.take_left' (by simp [Lib.byteCells]),byteCells_length,Lib.byteCells_append]
 rw [List.drop_append,List.drop_eq_nil_of_le (by simp [Lib.byteCells])]
 simp [Lib.byteCells]
theorem part_cells {w:World} {S:Nat→Prop} {b o n k m:Nat} {l:List UInt8} (h:Sl w S (some ⟨b,o,none⟩) n l):∀ j u,(Lib.byteCells ((l.drop k).take m))[j]?=some u→w.cell? ((⟨b,o + k,none⟩:Addr).add j)=some u:=by
 intro j u hu
 simp only [Lib.byteCells,List.getElem?_map,Option.map_eq_some_iff] at hu
 obtain ⟨x,hx,rfl⟩:=hu
 have hx2:l[k + j]?=some x:=by
  rw [List.getElem?_take] at hx
  split at hx
  ·rwa [List.getElem?_drop] at hx
  ·cases hx
 have hlt:=(List.getElem?_eq_some_iff.1 hx2).1
 obtain ⟨b',o',e,hb,hc⟩:=h.2.2 (by have:=h.1; omega)
 cases e
 obtain ⟨vs,rfl,ha⟩:=hc _ x hx2
 have h0:=ha 0 _ rfl
 simp only [Rep.sz,Nat.mul_one,Nat.add_zero] at h0
 rw [addr_add,Nat.add_assoc]
 exact h0
theorem rep_next {s old new:List UInt8} {K k st:Nat} {o R:List UInt8} (hne:old≠[]) (hk:k < K) (hst:st≤s.length) (hall:o ++ Lib.replaceK old new (K - k) (s.drop st)=R) (hc:K - k≤Lib.count (s.drop st) old) :
 ∃ j:Nat,Lib.index (s.drop st) old=j∧st + j + old.length≤s.length∧(o ++ (s.drop st).take j ++ new) ++ Lib.replaceK old new (K - (k + 1)) (s.drop (st + j + old.length))=R∧K - (k + 1)≤Lib.count (s.drop (st + j + old.length)) old:=by
 obtain ⟨j,hj⟩:=Lib.index_of_count (s:=s.drop st) (old:=old) (by omega)
 have hroom:=Lib.index_room (s.drop st) old (by omega)
 have hh:=Lib.count_hit hne hj
 have e:K - k=(K - (k + 1)) + 1:=by omega
 rw [e,Lib.replaceK_hit old new _ _ j hj,List.drop_drop] at hall
 rw [hj,List.length_drop] at hroom
 rw [List.drop_drop] at hh
 rw [←Nat.add_assoc] at hall hh
 refine ⟨j,hj,by omega,?_,by omega⟩
 rw [←hall]
 simp [List.append_assoc]
theorem rep_last {s old new:List UInt8} {K k st:Nat} {o R:List UInt8} (hk:¬ k < K) (hall:o ++ Lib.replaceK old new (K - k) (s.drop st)=R):o ++ s.drop st=R:=by
 rw [show K - k=0 by omega] at hall
 exact hall
theorem cut_all (b L:Nat) (x:Int) (hx:x=L) (hL:L≤maxLen):∀ W,(Instr.slice 75 (.slice (some ⟨b,0,none⟩) L L) (some (.int .i64 0)) (some (.int .i64 x)) none).run Tryz.prog W=.ok (.slice (some ⟨b,0,none⟩) L L) W:=by
 intro W
 subst hx
 have hm:L≤9223372036854775807:=hL
 rcases Nat.eq_zero_or_pos L with h0 | h0
 ·subst h0
  simp [go_sem,Tryz.underlying75]
 ·have h1:L≠0:=by omega
  simp [go_sem,Tryz.underlying75,h1]
theorem byte_sz:(Tryz.prog.info? 5).map (·.size)=some 1:=by kernel_rfl
def RepPost (r:List UInt8) (w:World) (e:Ending) (w':World):Prop:=∃ A n c,e=.returned (.slice A n c)∧n≤c∧c≤maxLen∧Sl w' (fun k=>w.heap.size≤k∧k < w'.heap.size) A n r∧Below w.heap.size w w'
theorem replaceAll_is (s old new:List UInt8):Lib.replaceAll s old new=Lib.replaceK old new (Lib.count s old) s:=by
 rw [Lib.replaceAll,Lib.replace]
 split
 ·rename_i h
  have e:old=new:=by simpa using h
  rw [←e,replace_same]
 ·rw [Lib.replaceNum,if_pos (.inl (by decide))]
structure RepAt (w wr:World) (g L K n:Nat) (s old new:List UInt8) (i st:Nat) (o:List UInt8) (rest:List Value):Prop where
 blk:wr.heap[g]?=some (.cells (Lib.byteCells o ++ rest).toArray 5 (0,0))
 len:o.length + rest.length=L
 stn:st≤n
 iK:i≤K
 all:o ++ Lib.replaceK old new (K - i) (s.drop st)=Lib.replaceK old new K s
 cnt:K - i≤Lib.count (s.drop st) old
 bel:Below w.heap.size w wr
set_option maxHeartbeats 1000000 in
set_option maxRecDepth 100000 in
theorem bytes_Replace (A A2 A3:Option Addr) (n c n2 c2 n3 c3:Nat) (s old new:List UInt8) (w:World) (hE:Env w) (hs:Sl w (Lt w.heap.size) A n s) (hs2:Sl w (Lt w.heap.size) A2 n2 old) (hs3:Sl w (Lt w.heap.size) A3 n3 new) (h2:0 < n2) (hnc:n≤c) (hc:c≤maxLen) (hn:n≤100000) (hn2:n2≤300) (hn3:n3≤300) :
 Calls Tryz.prog 274 #[.slice A n c,.slice A2 n2 c2,.slice A3 n3 c3,.int .i64 (-1)] w (RepPost (Lib.replaceAll s old new) w):=by
 have HRA:=Lib.hid (replaceAll_is s old new)
 have HCt:=Lib.hid (count_bytes A A2 n c n2 c2 s old w hE hs hs2 h2 hnc (by omega) (by omega))
 have hne:old≠[]:=fun e=>by rw [e] at hs2; have:=hs2.1; simp at this; omega
 obtain ⟨K,hK⟩:∃ K,Lib.count s old=K:=⟨_,rfl⟩
 have hlen:=replace_len (new:=new) hne K s (by omega)
 rw [hs.1,hs2.1,hs3.1] at hlen
 rw [hK] at HRA HCt
 have hm:n≤9223372036854775807:=by omega
 rcases Nat.eq_zero_or_pos K with h0 | h0
 ·subst h0
  obtain ⟨i0,hi0,hz0,hz1,hz2⟩:=info_parts cl_byte_info
  go_enter Tryz.func274,Tryz.ntmps274
  go_wp2_with fail
  refine HCt.out.mono ?_
  rintro e w1 ⟨rfl,hb1⟩
  have hs1:=hs.keep (keep_lt hb1)
  have HN:=Lib.hid (fun h0=>sl_byteCells hs1 h0)
  have HL:=Lib.hid hs.1
  have hz:=hb1.size
  clear hK hs hs1 hs2 hs3 hlen
  go_wp2_with (
   at_builtin
   refine wpList_append_src rfl _ _ 75 rfl w1.heap.size 5 i0 _ 1 1 Tryz.underlying75 hi0 hz0 hz1 hz2 rfl (by decide) _ 0 _ rfl (World.ownsRow_nil _ _ _ _) A n c (Lib.byteCells s) rfl (by rw [byteCells_length,HL.out,Nat.mul_one]) HN.out byteCells_one (by unfold maxLen; omega) (by omega) (Nat.le_refl _) ?_
   intro v' w2 hown2 hg2
   have hb2:=hb1.grown hg2 hz (fun g hg=>by cases hg)
   obtain ⟨A',c',rfl,h1,h2,h3⟩:=OwnB.sl (o:=s) (B:=w1.heap.size) (w:=w2) (v:=v') (e:=5) (by unfold OwnB; rw [HL.out]; rw [List.nil_append,Nat.zero_add] at hown2; exact hown2)
   have HE:=Lib.hid (show RepPost (Lib.replaceAll s old new) w (.returned (.slice A' s.length c')) w2 from ⟨A',_,c',rfl,h1,h2,by rw [HRA.out]; exact h3.more fun k hk=>⟨Nat.le_trans hz hk.1,hk.2⟩,hb2⟩)
   clear hown2 hg2 h3 HN)
  go_ret
  exact HE.out
 ·have hn0:0 < n:=by
   rcases Nat.eq_zero_or_pos n with h | h
   ·exfalso
    subst h
    have:s=[]:=List.eq_nil_of_length_eq_zero hs.1
    subst this
    have hc0:Lib.count [] old=0:=by
     refine Lib.count_miss (Lib.index_none fun j hj=>?_)
     cases old with
     | nil=>exact absurd rfl hne
     | cons y l=>simp [Lib.occAt]
    omega
   ·exact h
  obtain ⟨R,hR⟩:∃ R,Lib.replaceK old new K s=R:=⟨_,rfl⟩
  obtain ⟨L,hL⟩:∃ L,R.length=L:=⟨_,rfl⟩
  rw [hR,hL] at hlen
  have hk2:K * n2≤n:=by
   have:=replace_len (new:=[]) hne K s (by omega)
   rw [hs.1,hs2.1] at this
   simp at this
   omega
  have hKn:K≤n:=Nat.le_trans (Nat.le_mul_of_pos_right K h2) hk2
  have hk3:K * n3≤100000 * 300:=Nat.mul_le_mul (by omega) hn3
  have hLs:L≤100000000:=by omega
  have hLI:(n:Int) + (K:Int) * ((n3:Int) - (n2:Int))=(L:Int):=by
   rw [Int.mul_sub]
   have e1:((K * n3:Nat):Int)=(K:Int) * (n3:Int):=Int.natCast_mul ..
   have e2:((K * n2:Nat):Int)=(K:Int) * (n2:Int):=Int.natCast_mul ..
   omega
  have hw2:IntKind.i64.wrap ((K:Int) * ((n3:Int) - (n2:Int)))=(K:Int) * ((n3:Int) - (n2:Int)):=IntWalk.i64_in _ (by omega)
  have hn2I:(n2:Int)≤300:=by omega
  have hn3I:(n3:Int)≤300:=by omega
  have hn2p:(0:Int) < (n2:Int):=by omega
  have hLp:(L:Int)≤100000000:=by omega
  have hKz:((K:Int) == 0)=false:=by have:¬ (K:Int)=0:=by omega
                                    simpa using this
  have HRR:=Lib.hid hR
  have HLL:=Lib.hid hL
  have HLn:=Lib.hid hlen
  clear hR hL hlen
  go_enter Tryz.func274,Tryz.ntmps274
  go_wp2_with fail
  refine HCt.out.mono ?_
  rintro e w1 ⟨rfl,hb1⟩
  obtain ⟨cs,hcs,hmk⟩:=make_bytes L hLs w1
  have HCs:=Lib.hid hcs
  have HK:=Lib.hid hK
  clear hK
  clear hcs
  go_wp2
  clear hmk
  go_loopw [11,12,49] (fun vw vs i wr=>∃ (k st:Nat) (o:List UInt8) (rest:List Value),vw=.int .i64 o.length∧vs=.int .i64 st∧i=.int .i64 k∧RepAt w wr w1.heap.size L K n s old new k st o rest) (fun _ _ i _=>K - (intOf i).toNat)
  case atStart=>exact ⟨0,0,[],cs,rfl,rfl,rfl,⟨by show (w1.heap.push _)[w1.heap.size]?=_; simp [Lib.byteCells],by simp [HCs.out],Nat.zero_le _,Nat.zero_le _,rfl,by rw [List.drop_zero]; exact Nat.le_of_eq HK.out.symm,fr_alloc hb1 _⟩⟩
  case round =>
   obtain ⟨k,st,o,rest,rfl,rfl,rfl,hR⟩:=hrel
   have HR:=Lib.hid hR
   have hst:=hR.stn
   have hor:=hR.len
   by_cases hlt:k < K
   ·have hn:=rep_next hne hlt (by rw [hs.1]; exact hst) (hR.all.trans HRR.out) hR.cnt
    clear hR
    obtain ⟨j,hj,hfit,hall,hcnt⟩:=hn
    rw [hs.1,hs2.1] at hfit
    have HO2:=Lib.hid hs2.1
    have hgL:=congrArg List.length hall
    rw [HLL.out] at hgL
    have hdl:((s.drop st).take j).length=j:=by rw [List.length_take,List.length_drop,hs.1]; omega
    simp only [List.length_append,hdl,hs3.1] at hgL
    have hb:=HR.out.bel
    have hz1:=hb1.size
    have hz:=hb.size
    obtain ⟨b,of,rfl,_,_⟩:=hs.2.2 hn0
    have hlt2:∀ x,Lt w.heap.size x→Lt wr.heap.size x:=fun x hx=>Nat.lt_of_lt_of_le hx hz
    have hsr:=hs.keep (keep_lt hb)
    obtain ⟨A4,c4,hcut1,hc41,hc42,hA4⟩:=cut_from b of n c st hst hnc hc
    obtain rfl:=hA4 (by omega)
    have HIx:=Lib.hid (index_bytes (some ⟨b,of + st,none⟩) A2 (n - st) c4 n2 c2 (s.drop st) old wr (hE.then_ hb) ((Sl.drop1 rfl hsr hst).more hlt2) ((hs2.keep (keep_lt hb)).more hlt2) (by omega) h2 hc41 (by omega) (by omega))
    rw [hj] at HIx
    obtain ⟨A5,c5,hcut2,hA5⟩:=cut_from w1.heap.size 0 L L o.length (by omega) (Nat.le_refl _) (by unfold maxLen; omega)
    obtain ⟨A6,c6,hcut3,hA6⟩:=cut_mid b of n c st (st + j) (by omega) (by omega) hnc hc
    rw [Int.natCast_add,Nat.add_sub_cancel_left] at hcut3
    rw [Nat.add_sub_cancel_left] at hA6
    obtain ⟨A7,c7,hcut4,hc71,_,hA7⟩:=cut_from w1.heap.size 0 L L (o.length + j) (by omega) (Nat.le_refl _) (by unfold maxLen; omega)
    rw [Int.natCast_add] at hcut4
    have HP1:=Lib.hid (fun (W:World) (hb5:Below w.heap.size w W)=>part_cells (k:=st) (m:=j) (hs.keep (keep_lt hb5)))
    have hstI:(st:Int)≤100000:=by omega
    have hjI:(j:Int)≤100000:=by omega
    have hoI:(o.length:Int)≤100000000:=by omega
    have hojI:(o.length:Int) + (j:Int)≤100000000:=by omega
    have hkI:(k:Int) < (K:Int):=by omega
    have HS3:=Lib.hid hs3
    have HD:=Lib.hid hdl
    clear hs hs2 hs3 hsr hdl
    go_wp2_with fail
    refine HIx.out.mono ?_
    rintro e w5 ⟨rfl,hb5⟩
    have hb5':=hb.trans (hb5.mono hz)
    have hg5:w5.heap[w1.heap.size]?=some (.cells (Lib.byteCells o ++ rest).toArray 5 (0,0)):=(keep_lt hb5 _ (by obtain ⟨h,_⟩:=Array.getElem?_eq_some_iff.1 HR.out.blk; exact h)).trans HR.out.blk
    have HG5:=Lib.hid hg5
    have HB5:=Lib.hid hb5'
    have HBd:=Lib.hid (hb5'.drew)
    have HP2:=HP1.out _ hb5'
    have HZ1:=Lib.hid hz1
    clear hg5 hb5'
    have HN1:=Lib.hid (show (Lib.byteCells ((s.drop st).take j)).length=Nat.min j (L - o.length) by rw [byteCells_length,HD.out]; exact (Nat.min_eq_left (by omega)).symm)
    have HL1:=Lib.hid (show (Lib.byteCells ((s.drop st).take j)).length=j by rw [byteCells_length,HD.out])
    have HQ1:=Lib.hid (show 0 < (Lib.byteCells ((s.drop st).take j)).length→A5=some ⟨w1.heap.size,o.length,none⟩∧∃ ad,A6=some ad∧∀ i v,(Lib.byteCells ((s.drop st).take j))[i]?=some v→w5.drew.cell? (ad.add i)=some v from fun h=>by
     rw [HL1.out] at h
     exact ⟨by rw [hA5.2.2 (by omega),Nat.zero_add],_,hA6 h,HP2⟩)
    have HF1:=Lib.hid (show o.length + (Lib.byteCells ((s.drop st).take j)).length≤(Lib.byteCells o ++ rest).length by rw [HL1.out,List.length_append,byteCells_length]; omega)
    clear hA5 hA6 HP2
    go_wp2
    go_region_law (first
     | (refine step_copy_splice rfl (.tmp 61) (.tmp 65) 75 75 rfl 5 Tryz.underlying75 byte_sz A5 A6 (L - o.length) c5 j c6 (by kernel_rfl) (by kernel_rfl) w1.heap.size o.length (Lib.byteCells o ++ rest) 5 HG5.out (Lib.byteCells ((s.drop st).take j)) HN1.out HQ1.out HF1.out byteCells_one w.heap.size w HBd.out HZ1.out ?_
        intro w6 hg6 hb6
        rw [HL1.out]))
    all_goals
     have h6:w6.heap[w1.heap.size]?=some (.cells (splice (Lib.byteCells o ++ rest) o.length (Lib.byteCells ((s.drop st).take j))).toArray 5 (0,0)):=hg6
     have hb6':Below w.heap.size w w6:=hb6
     rw [splice_bytes,HD.out] at h6
     have HG6:=Lib.hid h6
     have HB6:=Lib.hid hb6'
     have hs3r:=HS3.out.keep (keep_lt hb6')
     have HN2:=Lib.hid (show (Lib.byteCells new).length=Nat.min n3 (L - (o.length + j)) by rw [byteCells_length,hs3r.1]; exact (Nat.min_eq_left (by omega)).symm)
     have HL2:=Lib.hid (show (Lib.byteCells new).length=n3 by rw [byteCells_length,hs3r.1])
     have HQ2:=Lib.hid (show 0 < (Lib.byteCells new).length→A7=some ⟨w1.heap.size,o.length + j,none⟩∧∃ ad,A3=some ad∧∀ i v,(Lib.byteCells new)[i]?=some v→w6.cell? (ad.add i)=some v from fun h=>by
      rw [HL2.out] at h
      obtain ⟨b3,o3,rfl,_⟩:=hs3r.2.2 h
      have:=part_cells (k:=0) (m:=n3) hs3r
      rw [List.drop_zero,List.take_of_length_le (by rw [hs3r.1]; exact Nat.le_refl _)] at this
      exact ⟨by rw [hA7 (by omega),Nat.zero_add],_,rfl,this⟩)
     have HF2:=Lib.hid (show (o.length + j) + (Lib.byteCells new).length≤(Lib.byteCells (o ++ (s.drop st).take j) ++ rest.drop j).length by rw [HL2.out,List.length_append,byteCells_length,List.length_append,HD.out,List.length_drop]; omega)
     clear hA7 hs3r h6 hb6' hg6 hb6
     go_wp2_with (
      with_reducible refine wpList_copy_splice rfl (.tmp 71) (.tmp 72) 75 75 rfl 5 Tryz.underlying75 byte_sz A7 A3 (L - (o.length + j)) c7 n3 c3 (by kernel_rfl) (by kernel_rfl) w1.heap.size (o.length + j) (Lib.byteCells (o ++ (s.drop st).take j) ++ rest.drop j) 5 HG6.out (Lib.byteCells new) HN2.out HQ2.out HF2.out byteCells_one w.heap.size w HB6.out HZ1.out ?_
      intro w7 hg7 hb7
      rw [HL2.out]
      have h7:w7.heap[w1.heap.size]?=some (.cells (splice (Lib.byteCells (o ++ (s.drop st).take j) ++ rest.drop j) (o.length + j) (Lib.byteCells new)).toArray 5 (0,0)):=hg7
      have hb7':Below w.heap.size w w7:=hb7
      have e7:=splice_bytes (o ++ (s.drop st).take j) new (rest.drop j)
      rw [List.length_append,HD.out,HS3.out.1] at e7
      rw [e7,List.drop_drop] at h7
      have HG7:=Lib.hid h7
      have HB7:=Lib.hid hb7'
      clear h7 hb7' hg7 hb7 e7)
     have HLen:=Lib.hid (show (o ++ (s.drop st).take j ++ new).length=o.length + j + n3 by rw [List.length_append,List.length_append,HD.out,HS3.out.1])
     have HAt:=Lib.hid (show RepAt w w7 w1.heap.size L K n s old new (k + 1) (st + j + n2) (o ++ (s.drop st).take j ++ new) (rest.drop (j + n3)) from ⟨HG7.out,by rw [HLen.out,List.length_drop]; omega,by omega,by omega,by rw [HRR.out,←HO2.out]; exact hall,by rw [←HO2.out]; exact hcnt,HB7.out⟩)
     go_roundw
     case rel=>exact ⟨k + 1,st + j + n2,_,_,by rw [HLen.out]; go_num,by go_num,by go_num,HAt.out⟩
     case measure=>simp [intOf]; omega
   ·have he:=rep_last hlt (hR.all.trans HRR.out)
    have hb:=hR.bel
    clear hR
    have hgL:=congrArg List.length he
    rw [HLL.out,List.length_append,List.length_drop,hs.1] at hgL
    have hz1:=hb1.size
    obtain ⟨b,of,rfl,_,_⟩:=hs.2.2 hn0
    obtain ⟨A5,c5,hcut2,hA5⟩:=cut_from w1.heap.size 0 L L o.length (by omega) (Nat.le_refl _) (by unfold maxLen; omega)
    obtain ⟨A6,c6,hcut3,_,_,hA6⟩:=cut_from b of n c st hst hnc hc
    have hcut4:=cut_all w1.heap.size L ((o.length:Int) + ((n - st:Nat):Int)) (by omega) (by unfold maxLen; omega)
    have hsr:=hs.keep (keep_lt hb)
    have hdl:(s.drop st).length=n - st:=by rw [List.length_drop,hs.1]
    have HP2:=part_cells (k:=st) (m:=n - st) hsr
    rw [List.take_of_length_le (Nat.le_of_eq hdl)] at HP2
    have HG5:=Lib.hid HR.out.blk
    have HBd:=Lib.hid hb.drew
    have HZ1:=Lib.hid hz1
    have HL1:=Lib.hid (show (Lib.byteCells (s.drop st)).length=n - st by rw [byteCells_length,hdl])
    have HN1:=Lib.hid (show (Lib.byteCells (s.drop st)).length=Nat.min (n - st) (L - o.length) by rw [HL1.out]; exact (Nat.min_eq_left (by omega)).symm)
    have HQ1:=Lib.hid (show 0 < (Lib.byteCells (s.drop st)).length→A5=some ⟨w1.heap.size,o.length,none⟩∧∃ ad,A6=some ad∧∀ i v,(Lib.byteCells (s.drop st))[i]?=some v→wr.drew.cell? (ad.add i)=some v from fun h=>by
     rw [HL1.out] at h
     exact ⟨by rw [hA5.2.2 (by omega),Nat.zero_add],_,hA6 h,HP2⟩)
    have HF1:=Lib.hid (show o.length + (Lib.byteCells (s.drop st)).length≤(Lib.byteCells o ++ rest).length by rw [HL1.out,List.length_append,byteCells_length]; omega)
    have HD:=Lib.hid hdl
    have HEq:=Lib.hid he
    have hLsum:(o.length:Int) + ((n - st:Nat):Int)=(L:Int):=by omega
    clear hA5 hA6 HP2 hs hs2 hs3 hsr hdl he hb
    go_wp2
    go_region_law (first
     | (refine step_copy_splice rfl (.tmp 123) (.tmp 126) 75 75 rfl 5 Tryz.underlying75 byte_sz A5 A6 (L - o.length) c5 (n - st) c6 (by kernel_rfl) (by kernel_rfl) w1.heap.size o.length (Lib.byteCells o ++ rest) 5 HG5.out (Lib.byteCells (s.drop st)) HN1.out HQ1.out HF1.out byteCells_one w.heap.size w HBd.out HZ1.out ?_
        intro w6 hg6 hb6
        rw [HL1.out]))
    all_goals
     have h6:w6.heap[w1.heap.size]?=some (.cells (splice (Lib.byteCells o ++ rest) o.length (Lib.byteCells (s.drop st))).toArray 5 (0,0)):=hg6
     have hb6':Below w.heap.size w w6:=hb6
     rw [splice_bytes,HD.out,HEq.out,List.drop_eq_nil_of_le (by omega),List.append_nil] at h6
     obtain ⟨A9,c9,hv9,h91,h92,h93⟩:=OwnB.sl (w:=w6) (B:=w.heap.size) (e:=5) (v:=.slice (some ⟨w1.heap.size,0,none⟩) L L) (o:=R) ⟨by rw [byteCells_length,Nat.mul_one],.inr ⟨_,L,_,by rw [HLL.out],HZ1.out,h6,by rw [HLL.out]; exact Nat.le_refl _,by unfold maxLen; omega,by rw [List.size_toArray,byteCells_length,HLL.out,Nat.mul_one],by rw [Nat.mul_one,List.take_of_length_le (by rw [byteCells_length]; exact Nat.le_refl _)]⟩⟩
     rw [HLL.out] at hv9 h91 h93
     cases hv9
     have HE:=Lib.hid (show RepPost (Lib.replaceAll s old new) w (.returned (.slice (some ⟨w1.heap.size,0,none⟩) L L)) w6 from ⟨_,_,_,rfl,h91,h92,by rw [HRA.out,HRR.out]; exact h93,hb6'⟩)
     clear h6 hb6' hg6 hb6 h93
     go_wp2
     go_ret
     exact HE.out
theorem bytes_ReplaceAll (A A2 A3:Option Addr) (n c n2 c2 n3 c3:Nat) (s old new:List UInt8) (w:World) (hE:Env w) (hs:Sl w (Lt w.heap.size) A n s) (hs2:Sl w (Lt w.heap.size) A2 n2 old) (hs3:Sl w (Lt w.heap.size) A3 n3 new) (h2:0 < n2) (hnc:n≤c) (hc:c≤maxLen) (hn:n≤100000) (hn2:n2≤300) (hn3:n3≤300) :
 Calls Tryz.prog 254 #[.slice A n c,.slice A2 n2 c2,.slice A3 n3 c3] w (RepPost (Lib.replaceAll s old new) w):=by
 have H:=Lib.hid (bytes_Replace A A2 A3 n c n2 c2 n3 c3 s old new w hE hs hs2 hs3 h2 hnc hc hn hn2 hn3)
 clear hs hs2 hs3
 go_enter Tryz.func254,Tryz.ntmps254
 go_wp2_with fail
 refine H.out.mono ?_
 rintro e w' ⟨A',n',c',rfl,h⟩
 have HE:=Lib.hid (show RepPost (Lib.replaceAll s old new) w (.returned (.slice A' n' c')) w' from ⟨A',n',c',rfl,h⟩)
 clear h
 go_wp2
 go_ret
 exact HE.out
end Go.Proofs.Sm
namespace Go.Proofs.Sm
open Go.RowKit Go.Maps Go.WideMaps
theorem put_keep {l:List ByteArray} {x y:ByteArray} (h:y∈l):y∈putStrS l x:=by
 unfold putStrS
 rcases ltS_total y x with h1 | h1 | h1
 ·exact List.mem_append.2 (.inl (List.mem_append.2 (.inl (List.mem_filter.2 ⟨h,h1⟩))))
 ·have e:y=x:=bytes_eq (by rw [←Lib.toList_data,←Lib.toList_data]; exact h1)
  subst e
  simp
 ·exact List.mem_append.2 (.inr (List.mem_filter.2 ⟨h,h1⟩))
theorem put_new (l:List ByteArray) (x:ByteArray):x∈putStrS l x:=by simp [putStrS]
theorem puts_keep:∀ {l acc:List ByteArray} {x:ByteArray},x∈acc→x∈l.foldl putStrS acc
 | [],_,_,h=>h
 | _ :: l,_,_,h=>puts_keep (l:=l) (put_keep h)
theorem puts_has:∀ {l acc:List ByteArray} {x:ByteArray},x∈l→x∈l.foldl putStrS acc
 | y :: l,acc,x,h=>by
   rcases List.mem_cons.1 h with rfl | h
   ·exact puts_keep (l:=l) (put_new acc x)
   ·exact puts_has (l:=l) (acc:=putStrS acc y) h
theorem puts_sorted:∀ {l acc:List ByteArray},ByPath id acc→ByPath id (l.foldl putStrS acc)
 | [],_,h=>h
 | x :: l,_,h=>puts_sorted (l:=l) (byPath_put (key:=id) h x)
theorem paths_mem {F:List FileV} {s:ExSt} {p:ByteArray}:p∈pathsS F s↔(∃ x∈F,x.path=p)∨∃ x∈s.written,x.path=p:=by
 unfold pathsS
 constructor
 ·intro h
  rcases puts_mem h with h | h
  ·cases h
  ·rcases List.mem_append.1 h with h | h
   ·obtain ⟨x,hx,rfl⟩:=List.mem_map.1 h; exact .inl ⟨x,hx,rfl⟩
   ·obtain ⟨x,hx,rfl⟩:=List.mem_map.1 h; exact .inr ⟨x,hx,rfl⟩
 ·rintro (⟨x,hx,rfl⟩ | ⟨x,hx,rfl⟩)
  ·exact puts_has (List.mem_append.2 (.inl (List.mem_map.2 ⟨x,hx,rfl⟩)))
  ·exact puts_has (List.mem_append.2 (.inr (List.mem_map.2 ⟨x,hx,rfl⟩)))
theorem paths_keys {F:List FileV} {s:ExSt} {g:List UInt8→Option Value} {ks:List ByteArray} (h:KeysAre g ks) (hg:∀ key,(g key).isSome=((keyF F key).isSome || (keyF s.written key).isSome)) (hF:∀ x∈F,x.path.size≤maxLen) (hw:∀ x∈s.written,x.path.size≤maxLen):ks=pathsS F s:=by
 refine h.unique (g:=g) ⟨(puts_sorted (acc:=[]) List.Pairwise.nil).imp fun h=>lt_bytes.1 h,fun key=>?_,fun p hp=>?_⟩ fun _=>rfl
 ·rw [hg,Bool.or_eq_true,keyF_by,keyF_by,findBy_some,findBy_some,List.mem_map]
  simp only [List.map_map,List.mem_map,Function.comp_def]
  constructor
  ·rintro ⟨p,hp,rfl⟩
   rcases paths_mem.1 hp with ⟨x,hx,rfl⟩ | ⟨x,hx,rfl⟩
   ·exact .inl ⟨x,hx,rfl⟩
   ·exact .inr ⟨x,hx,rfl⟩
  ·rintro (⟨x,hx,rfl⟩ | ⟨x,hx,rfl⟩)
   ·exact ⟨_,paths_mem.2 (.inl ⟨x,hx,rfl⟩),rfl⟩
   ·exact ⟨_,paths_mem.2 (.inr ⟨x,hx,rfl⟩),rfl⟩
 ·rcases paths_mem.1 hp with ⟨x,hx,rfl⟩ | ⟨x,hx,rfl⟩
  ·exact hF x hx
  ·exact hw x hx
theorem paths_few (F:List FileV) (s:ExSt):(pathsS F s).length≤F.length + s.written.length:=by
 have:=many_paths (pathsS F s) (F.map (·.path) ++ s.written.map (·.path)) ((puts_sorted (acc:=[]) List.Pairwise.nil).imp fun {x y} hxy he=>by
  have h1:ltS x y=true:=hxy
  rw [ltS_eq_l he,ltS_irrefl] at h1
  cases h1) fun p hp=>by
   rcases paths_mem.1 hp with ⟨x,hx,rfl⟩ | ⟨x,hx,rfl⟩
   ·exact ⟨x.path,List.mem_append.2 (.inl (List.mem_map.2 ⟨x,hx,rfl⟩)),rfl⟩
   ·exact ⟨x.path,List.mem_append.2 (.inr (List.mem_map.2 ⟨x,hx,rfl⟩)),rfl⟩
 simpa using this
theorem sl_not_map {P:Program} {k:TypeId} {w:World} {S:Nat→Prop} {A:Option Addr} {n m nn:Nat} {l:List ByteArray} {f:List UInt8→Option Value} (h:Sl w S A n l) (hm:MapIs P k w m nn f):Sl w (fun j=>S j∧j≠m) A n l:=by
 refine ⟨h.1,h.2.1,fun hn=>?_⟩
 obtain ⟨b,o,e,hb,hc⟩:=h.2.2 hn
 refine ⟨b,o,e,⟨hb,?_⟩,fun i x hx=>?_⟩
 ·rintro rfl
  obtain ⟨_,⟨es,clock,hh,_⟩,_⟩:=hm
  have hl0:0 < l.length:=by have:=h.1; omega
  obtain ⟨vs,⟨rfl,_⟩,ha⟩:=hc 0 l[0] (List.getElem?_eq_getElem hl0)
  have:=ha 0 _ rfl
  rw [World.cell?,hh] at this
  simp at this
 ·obtain ⟨vs,hr,ha⟩:=hc i x hx
  exact ⟨vs,hr,ha⟩
end Go.Proofs.Sm
namespace Go.Proofs.Sm
open Go.RowKit
theorem value_this {v:VarV} {l:List VarV} {x:ByteArray} (h:(v.name.toList == x.toList)=true):valueS (v :: l) x=(v.value.data.toList ++ [10],0):=by rw [valueS,List.find?_cons,h]
theorem value_next {v:VarV} {l:List VarV} {x:ByteArray} (h:(v.name.toList == x.toList)=false):valueS (v :: l) x=valueS l x:=by rw [valueS,List.find?_cons,h]; rfl
set_option maxHeartbeats 2000000 in
set_option maxRecDepth 100000 in
theorem act_value (S:Nat→Prop) (B g mi mw ml:Nat) (q:ActP) (a:ActionV) (F:List FileV) (M:Nat) (s:ExSt) (x:ByteArray) (w:World) (h:Wk w S B g mi mw ml q a F M s) (hv:∀ v∈a.vars,v.value.size≤1000) :
 Calls Tryz.prog 251 #[.pointer (some ⟨g,0,none⟩),.string x] w (MadePost B g mi mw ml q a F M (valueS a.vars x,s) w):=by
 obtain ⟨A1,n1,c1,A2,n2,c2,A3,n3,c3,A4,n4,c4⟩:=q
 have hgw:=h.blk.lt
 have k2:w.cell? ⟨g,2,none⟩=some (.slice A2 n2 c2):=h.blk.cell (i:=2) rfl
 have hsl:Sl w (Lt w.heap.size) A2 n2 a.vars:=h.act.vars.more h.ltB
 have hm:n2≤9223372036854775807:=hsl.2.1
 have HL:=Lib.hid hsl.1
 have hlow:B≤w.heap.size∧g < w.heap.size∧mi < w.heap.size∧mw < w.heap.size∧ml < w.heap.size:=⟨h.bound,h.blk.lt,h.inp.lt,h.wri.lt,MapIs.lt h.lok⟩
 have HS:=Lib.hid (show ∀ (w':World) (k:Nat),w.heap.size≤k∧k < w'.heap.size→OffW g mi mw ml w' k from fun w' k hk=>⟨hk.2,by omega,by omega,by omega,by omega⟩)
 have HW:=Lib.hid h
 clear h
 go_enter Tryz.func251,Tryz.ntmps251
 go_wp2
 go_loopw [14] (fun i wr=>∃ k:Nat,k≤n2∧i=.int .i64 k∧Below w.heap.size w wr∧valueS a.vars x=valueS (a.vars.drop k) x) (fun i _=>n2 - (intOf i).toNat)
 case atStart=>exact ⟨0,Nat.zero_le _,rfl,Below.refl _ _,rfl⟩
 case round =>
  obtain ⟨k,hk,rfl,hb,he⟩:=hrel
  have HE:=Lib.hid he
  clear he
  by_cases hlt:k < n2
  ·obtain ⟨b,o,v,rfl,hbl,hx,hv1,hv2,c0,c1⟩:=(hsl.keep (keep_lt hb)).var hlt
   have hd:=drop_at hx
   have hvs:=hv v (List.mem_of_getElem? hx)
   cases hq:(v.name.toList == x.toList)
   ·have HE2:=Lib.hid (HE.out.trans (by rw [hd,value_next hq]))
    clear hx hd HE
    go_wp2
    go_roundw
    case rel=>exact ⟨k + 1,by omega,by go_num,fr_alloc hb _,HE2.out⟩
    case measure=>simp [intOf]; omega
   ·have HE2:=HE.out.trans (by rw [hd,value_this hq])
    obtain ⟨t,ht,htl,hcat⟩:=cat_op v.value ⟨#[10]⟩ (by have:(⟨#[10]⟩:ByteArray).size=1:=rfl; omega)
    have htm:t.size≤maxLen:=by have:(⟨#[10]⟩:ByteArray).size=1:=rfl; unfold maxLen; omega
    obtain ⟨w2,c5,hcv,h51,h52,hb5,hs5⟩:=to_bytesN t htm (wr.alloc (.cells #[.string v.name,.string v.value] 184))
    have hb7:Below w.heap.size w w2:=fr_call (fr_alloc hb _) hb5
    rw [World.size_alloc] at hs5 hcv
    have e5:t.data.toList=v.value.data.toList ++ [10]:=htl.out
    rw [e5] at hs5
    have HE3:=Lib.hid (fun (w':World) (hb':Below w2.heap.size w2 w')=>MadePost.mk_ (M:=M) (s':=s) (r:=(valueS a.vars x,s)) (by rw [HE2]) (.of hb7) (HW.out.call hb7) h51 h52 (fun _=>by have:(⟨#[10]⟩:ByteArray).size=1:=rfl; omega) (hs5.more fun k hk=>HS.out _ _ ⟨by have:=hk.1; have:=hb.size; omega,hk.2⟩) hb')
    have hg2:g < wr.heap.size:=Nat.lt_of_lt_of_le hgw hb.size
    clear hx hd HE HE2 hs5 hb7 e5 htl
    go_wp2
    go_ret2
    exact HE3.out _ (by repeat (first | exact fr_refl _ | refine fr_call ?_ (by assumption) | refine fr_alloc ?_ _ | refine fr_set ?_ (by simp) _ | refine Below.drew ?_ | refine below_drewN ?_ _))
  ·have HE2:=Lib.hid (fun (w':World) (hb':Below wr.heap.size wr w')=>MadePost.mk_ (M:=M) (s':=s) (r:=(valueS a.vars x,s)) (b:=[]) (z:=4) (by rw [HE.out,List.drop_eq_nil_of_le (by have:=HL.out; omega)]; rfl) (.of hb) (HW.out.call hb) (Nat.le_refl 0) (Nat.zero_le _) (fun _=>Nat.zero_le _) Sl.nil hb')
   go_wp2
   go_ret2
   exact HE2.out _ (by repeat (first | exact fr_refl _ | refine fr_call ?_ (by assumption) | refine fr_alloc ?_ _ | refine fr_set ?_ (by simp) _ | refine Below.drew ?_ | refine below_drewN ?_ _))
end Go.Proofs.Sm
namespace Go.Proofs.Sm
open Go.RowKit
theorem clone_bytesN (A:Option Addr) (n c:Nat) (l:List UInt8) (w:World) (S:Nat→Prop) (hS:∀ k,S k→k < w.heap.size) (hsl:Sl w S A n l) (hn:n≤100000000) :
 Calls Tryz.prog 105 #[.slice A n c] w (CopyPost (fun _=>False) n l w):=by
 have hl:=hsl.1
 refine (clone_byte A n c l w S hS hsl hn).mono ?_
 rintro e w1 ⟨v,rfl,hrow,hb⟩
 obtain ⟨A1,c1,rfl,h1,h2,h3⟩:=(hrow.flat flat_byte).slNew (S:=fun _=>False) fun k hk=>.inl hk
 rw [hl] at h1 h3 ⊢
 exact CopyPost.mk h1 h2 h3 hb
theorem field_bytes (x:ByteArray) (r:Bool) (A:Option Addr) (n c:Nat) (W:World):(Instr.field 78 (.agg #[.string x,.bool r,.slice A n c]) 2).run Tryz.prog W=.ok (.slice A n c) W:=by kernel_rfl
theorem oldLen_none {l:List FileV} {p:ByteArray} (h:l.find? (eqp p)=none):oldLen l p=0:=by rw [oldLen,h]
theorem oldLen_some {l:List FileV} {p:ByteArray} {x:FileV} (h:l.find? (eqp p)=some x):oldLen l p=x.bytes.length:=by rw [oldLen,h]
theorem files_old {w:World} {S:Nat→Prop} {m n:Nat} {l:List FileV} {p:ByteArray} (h:FilesIn Tryz.prog 9 w S m n l) (hp:p.size≤maxLen):∃ fp fr A c,∀ w',Below w.heap.size w w' →
 (Instr.lookup 97 (.map (some m)) (.string p) false).run Tryz.prog w'=.ok (.agg #[.string fp,.bool fr,.slice A (oldLen l p) c]) w':=by
 obtain ⟨f,h1,h2⟩:=h
 have h3:=fun (w':World) (hb:Below w.heap.size w w')=>(h1.call hb).look Tryz.underlying9 map_file_under (file_zero w') hp
 have h4:=h2 p.data.toList
 rw [keyF_eqp] at h4
 cases hf:l.find? (eqp p) with
 | none =>
   rw [hf] at h4
   simp only at h4
   refine ⟨⟨#[]⟩,false,none,0,fun w' hb=>?_⟩
   rw [h3 w' hb,h4,oldLen_none hf]; rfl
 | some x =>
   rw [hf] at h4
   obtain ⟨v,h5,h0,A,n,c,rfl,_,_,h6⟩:=h4
   refine ⟨x.path,x.run,A,c,fun w' hb=>?_⟩
   rw [h3 w' hb,h5,oldLen_some hf,h6.1]; rfl
section
variable {w w':World} {S S':Nat→Prop} {B g mi mw ml:Nat} {q:ActP} {a:ActionV} {F:List FileV} {M:Nat} {s:ExSt} {p:ByteArray} {b:List UInt8} {run:Bool}
theorem old_le (h:WroteOk a s) (p:ByteArray):oldLen s.written p≤s.total:=by
 have:=put_total p h.sorted
 have:=h.total
 omega
theorem written_few (h:WroteOk a s):s.written.length≤a.outputs.length:=by
 have:=many_paths (s.written.map FileV.path) a.outputs (by
  rw [List.pairwise_map]
  refine h.sorted.imp fun {x y} hxy he=>?_
  rw [ltS_eq_l he,ltS_irrefl] at hxy
  cases hxy) fun p hp=>by
   obtain ⟨x,hx,rfl⟩:=List.mem_map.1 hp
   exact (h.own x hx).1
 simpa using this
theorem old_small (h:WroteOk a s) (p:ByteArray):oldLen s.written p≤100000:=by
 unfold oldLen
 split
 ·omega
 ·rename_i x hx
  exact (h.own x (List.mem_of_find?_eq_some hx)).2.1
theorem write_denied (h:a.outputs.any (eqS p)=false):writeE a.outputs p b run F s=(3,s):=if_pos h
theorem write_large (h:a.outputs.any (eqS p)=true) (hb:100000 < b.length∨2000000 < (s.total:Int) - (oldLen s.written p:Int) + (b.length:Int)):writeE a.outputs p b run F s=(5,s):=by
 have h':¬ a.outputs.any (fun o=>o.toList == p.toList)=false:=by rw [show a.outputs.any (fun o=>o.toList == p.toList)=true from h]; decide
 rw [writeE,if_neg h',if_pos hb]
theorem write_fits (h:a.outputs.any (eqS p)=true) (hb:¬ (100000 < b.length∨2000000 < (s.total:Int) - (oldLen s.written p:Int) + (b.length:Int))):writeE a.outputs p b run F s=(0,{ s with total:=s.total - oldLen s.written p + b.length,written:=putFileS s.written ⟨p,run,b⟩ }):=by
 have h':¬ a.outputs.any (fun o=>o.toList == p.toList)=false:=by rw [show a.outputs.any (fun o=>o.toList == p.toList)=true from h]; decide
 rw [writeE,if_neg h',if_neg hb]
theorem ExOk.write (h:ExOk a F M s) (ho:∀ o∈a.outputs,IsP o) (b:List UInt8) (run:Bool):ExOk a F M (writeE a.outputs p b run F s).2 :=
 h.step (M':=M) (c:=0) (f:=fun _=>0) (asks_write _ _ _ _) (miss_write _ _ _ _ 0) (keepsW_write a (fun o ho' he=>by rw [←show o=p from bytes_eq (by rw [←Lib.toList_data,←Lib.toList_data]; exact he)]; exact ho o ho') b run) (Nat.le_refl _)
theorem Wk.wrote {w2 w3:World} {A:Option Addr} {n c:Nat} {f:List UInt8→Option Value} {T:Int} (h:Wk w S B g mi mw ml q a F M s) (hb:Below w.heap.size (w.setCell ⟨g,10,none⟩ (.int .i64 T)) w2) {s3:ExSt} (hs3:s3={ s with total:=s.total - oldLen s.written p + b.length,written:=putFileS s.written ⟨p,run,b⟩ })
 (hT:T=(s3.total:Nat)) (hok:ExOk a F M s3) (hp:p.size≤maxLen) (h1:n≤c) (h2:c≤maxLen) (hsl:Sl w2 (fun k=>B≤k∧OffW g mi mw ml w2 k) A n b)
 (hf:∀ key,match keyF s.written key with
   | none=>f key=none
   | some x=>∃ v,f key=some v∧FileVal w (fun k=>B≤k∧S k) x v)
 (hm:MapIs Tryz.prog 9 w3 mw (s.written.length + 1) (fun key=>if key=p.data.toList then some (.agg #[.string p,.bool run,.slice A n c]) else f key)) (hg:w2.grownBy w3 (some mw)) :
 Kp (fun k=>k=g∨k=mw∨k=ml) w w3∧Wk w3 (OffW g mi mw ml w3) B g mi mw ml q a F M s3:=by
 have hsz:w.heap.size≤w2.heap.size:=by have:=hb.size; rwa [size_setCell'] at this
 have hk2:∀ k,k < w.heap.size→k≠g→w2.heap[k]?=w.heap[k]?:=fun k hk hne=>(hb.block k hk).trans (heap_setCell_other w ⟨g,10,none⟩ k _ hne)
 have hk3:∀ k,k < w.heap.size→k≠g→k≠mw→w3.heap[k]?=w.heap[k]?:=fun k hk hne hn2=>(hg.block k (Nat.lt_of_lt_of_le hk hsz) fun e=>hn2 (by cases e; rfl)).trans (hk2 k hk hne)
 have hS2:∀ k,S k→w2.heap[k]?=w.heap[k]?:=fun k hh=>hk2 k (h.sep k hh).1 (h.sep k hh).2.1
 have hS3:∀ k,S k→w3.heap[k]?=w.heap[k]?:=fun k hh=>hk3 k (h.sep k hh).1 (h.sep k hh).2.1 (h.sep k hh).2.2.2.1
 have hB3:∀ k,Lt B k→w3.heap[k]?=w.heap[k]?:=fun k hh=>hS3 k (h.lowS k hh)
 have hSO:∀ k,S k→OffW g mi mw ml w2 k:=fun k hh=>⟨Nat.lt_of_lt_of_le (h.sep k hh).1 hsz,(h.sep k hh).2⟩
 have hOO:∀ k,OffW g mi mw ml w2 k→OffW g mi mw ml w3 k:=fun k hh=>⟨Nat.lt_of_lt_of_le hh.1 hg.size,hh.2⟩
 have hsz3:w.heap.size≤w3.heap.size:=Nat.le_trans hsz hg.size
 refine ⟨⟨hg.os.trans hb.os,hg.tape.trans hb.tape,hg.output.trans hb.output,hsz3,fun k hk hx=>hk3 k hk (fun e=>hx (.inl e)) fun e=>hx (.inr (.inl e))⟩,?_⟩
 have hput:=FilesIn.put (P:=Tryz.prog) (k:=9) (w:=w2) (w':=w3) (S:=fun k=>B≤k∧OffW g mi mw ml w2 k) (l:=s.written) (x:=⟨p,run,b⟩) (f:=f) (fun key=>by
  have:=hf key
  cases hq:keyF s.written key with
  | none=>rw [hq] at this; exact this
  | some x =>
    rw [hq] at this
    obtain ⟨v,h3,h4⟩:=this
    exact ⟨v,h3,(h4.keep fun k hk=>hS2 k hk.2).more fun k hk=>⟨hk.1,hSO k hk.2⟩⟩) ⟨hp,A,n,c,rfl,h1,h2,hsl⟩ hm (fun k hh=>hg.block k hh.2.1 fun e=>hh.2.2.2.2.1 (by cases e; rfl))
 have hsorted:ByPath FileV.path (putFileS s.written ⟨p,run,b⟩):=by
  have:=hok.wrote.sorted
  rw [hs3] at this; exact this
 have htight:=(hput.tight Tryz.underlying9 hsorted).more (S':=fun k=>B≤k∧OffW g mi mw ml w3 k) fun k hk=>⟨hk.1,hOO k hk.2⟩
 have hblk:Arr w3 g 215 (wkCells a q mi mw ml ⟨s.told.toArray⟩ T):=by
  have e1:=h.blk.set 10 (.int .i64 T)
  have e2:Arr w2 g 215 (wkCells a q mi mw ml ⟨s.told.toArray⟩ T):=e1.keep (hb.block g h.blk.lt)
  exact e2.keep (hg.block g e2.lt fun e=>h.dif.2.2.2.2.1 (by cases e; rfl))
 rw [hT,hs3] at hblk
 subst hs3
 exact ⟨h.env.of_heap hsz3 fun k hh=>hB3 k (Nat.lt_of_lt_of_le hh h.envB),h.envB,hblk,h.act.keep hB3,h.inp.keep (hk3 mi h.inp.lt (Ne.symm h.dif.2.2.2.1) h.dif.1) hB3,htight,MapIs.keep h.lok (hk3 ml (MapIs.lt h.lok) (Ne.symm h.dif.2.2.2.2.2) (Ne.symm h.dif.2.2.1)),
  hok,h.low,h.dif,fun k hk=>⟨Nat.lt_of_lt_of_le (h.sep k (h.lowS k hk)).1 hsz3,(h.sep k (h.lowS k hk)).2⟩,fun k hh=>hh,h.many,h.small⟩
end
set_option maxHeartbeats 2000000 in
set_option maxRecDepth 100000 in
theorem act_write (S:Nat→Prop) (B g mi mw ml:Nat) (q:ActP) (a:ActionV) (F:List FileV) (M:Nat) (s:ExSt) (p:ByteArray) (A:Option Addr) (n c:Nat) (b:List UInt8) (run:Bool) (w:World) (h:Wk w S B g mi mw ml q a F M s) (hp:p.size≤maxLen) (hn:n≤1000000000000000) (hsl:Sl w (OffW g mi mw ml w) A n b) (ho:∀ o∈a.outputs,IsP o) (hout:a.outputs.length≤100000) :
 Calls Tryz.prog 224 #[.pointer (some ⟨g,0,none⟩),.string p,.slice A n c,.bool run] w (DoPost B g mi mw ml q a F M (writeE a.outputs p b run F s) w):=by
 obtain ⟨A1,n1,c1,A2,n2,c2,A3,n3,c3,A4,n4,c4⟩:=q
 have hgw:=h.blk.lt
 have k3:w.cell? ⟨g,3,none⟩=some (.slice A3 n3 c3):=h.blk.cell (i:=3) rfl
 have k7:w.cell? ⟨g,7,none⟩=some (.map (some mw)):=h.blk.cell (i:=7) rfl
 have k10:w.cell? ⟨g,10,none⟩=some (.int .i64 (s.total:Nat)):=h.blk.cell (i:=10) rfl
 have hso:Sl w (Lt w.heap.size) A3 n3 a.outputs:=h.act.outputs.more h.ltB
 have HC:=Lib.hid (slices_ContainsStr A3 n3 c3 a.outputs p w hso)
 have HL:=Lib.hid hsl.1
 clear hso
 cases hc:a.outputs.any (eqS p) with
 | false =>
   rw [hc] at HC
   have HE:=Lib.hid (fun (w':World) (hb:Below w.heap.size w w')=>DoPost.mk_ (write_denied (b:=b) (run:=run) (F:=F) (s:=s) hc) (Kp.refl _ w) h hb)
   clear h hsl hc
   go_enter Tryz.func224,Tryz.ntmps224
   go_wp2_with fail
   refine HC.out.mono ?_
   rintro e w1 ⟨rfl,rfl⟩
   go_wp2
   go_ret
   exact HE.out _ (by repeat (first | exact fr_refl _ | refine fr_call ?_ (by assumption) | refine fr_alloc ?_ _ | refine fr_set ?_ (by simp) _ | refine Below.drew ?_ | refine below_drewN ?_ _))
 | true =>
   rw [hc] at HC
   have hold1:=old_le h.ok.wrote p
   have hold2:=old_small h.ok.wrote p
   have htot:=h.ok.wrote.small
   obtain ⟨fp,fr,A',c',hlk⟩:=files_old h.wri hp
   have hlk2:=fun k=>hlk (w.drewN k) (below_drewN (fr_refl w) k)
   clear hlk
   have HW:=Lib.hid h
   have hfd:=field_bytes fp fr A' (oldLen s.written p) c'
   have ho1:((oldLen s.written p:Nat):Int)≤100000:=by omega
   have ho2:((oldLen s.written p:Nat):Int)≤((s.total:Nat):Int):=by omega
   have ht1:((s.total:Nat):Int)≤2000000:=by omega
   have hnI:((n:Nat):Int)≤1000000000000000:=by omega
   have hO:=Lib.hid (rfl:oldLen s.written p=oldLen s.written p)
   have w1':=IntWalk.i64_in ((s.total:Int) - (oldLen s.written p:Int)) (by omega)
   have w2':=IntWalk.i64_in ((s.total:Int) - (oldLen s.written p:Int) + (n:Int)) (by omega)
   by_cases hbig:100000 < n∨2000000 < (s.total:Int) - (oldLen s.written p:Int) + (n:Int)
   ·have HE:=Lib.hid (fun (w':World) (hb:Below w.heap.size w w')=>DoPost.mk_ (write_large (b:=b) (run:=run) (F:=F) (s:=s) hc (by rw [HL.out]; exact hbig)) (Kp.refl _ w) HW.out hb)
    clear h hsl hc hO
    generalize oldLen s.written p=ol at *
    generalize s.total=tt at *
    by_cases hn1:100000 < n
    ·have hn2:(100000:Int) < (n:Int):=by omega
     clear hbig
     go_enter Tryz.func224,Tryz.ntmps224
     go_wp2_with fail
     refine HC.out.mono ?_
     rintro e w1 ⟨rfl,rfl⟩
     go_wp2
     go_quiet (fail)
     go_wp2
     go_ret
     exact HE.out _ (below_drewN (fr_refl w) _)
    ·have hn2:¬ (100000:Int) < (n:Int):=by omega
     have hT:(2000000:Int) < (tt:Int) - (ol:Int) + (n:Int):=by omega
     clear hbig hn1
     go_enter Tryz.func224,Tryz.ntmps224
     go_wp2_with fail
     refine HC.out.mono ?_
     rintro e w1 ⟨rfl,rfl⟩
     go_wp2
     go_quiet (fail)
     go_wp2
     go_ret
     exact HE.out _ (below_drewN (fr_refl w) _)
   ·have hok:=h.ok.write (p:=p) ho b run
    have hwf:=write_fits (p:=p) (b:=b) (run:=run) (F:=F) (s:=s) hc (by rw [HL.out]; exact hbig)
    rw [hwf] at hok
    obtain ⟨f,hf1,hf2⟩:=id h.new
    have HD:=Lib.hid (fun (w2 w3 w':World) (A9:Option Addr) (c9:Nat) (T:Int) (hT:T=(s.total:Int) - (oldLen s.written p:Int) + (n:Int)) (hb:Below w.heap.size (w.setCell ⟨g,10,none⟩ (.int .i64 T)) w2) h1 h2 hs9 hm hg (hb':Below w3.heap.size w3 w') =>
     have hx:=h.wrote (p:=p) (b:=b) (run:=run) (A:=A9) (n:=n) (c:=c9) (f:=f) (w2:=w2) (w3:=w3) hb rfl (by rw [hT]; simp only [HL.out]; omega) hok hp h1 h2 hs9 hf2 hm hg
     DoPost.mk_ (w':=w') hwf hx.1 hx.2 hb')
    clear hok hwf
    generalize hol:oldLen s.written p=ol at *
    generalize htt:s.total=tt at *
    have hn2:¬ (100000:Int) < (n:Int):=by omega
    have hT:¬ (2000000:Int) < (tt:Int) - (ol:Int) + (n:Int):=by omega
    have kf:=h.blk.frozen 10
    clear hbig
    go_enter Tryz.func224,Tryz.ntmps224
    go_wp2_with fail
    refine HC.out.mono ?_
    rintro e w1 ⟨rfl,rfl⟩
    go_wp2
    go_quiet (fail)
    go_wp2
    generalize hV:World.setCell (w.drewN nq) _ _=V
    have hbT:Below w.heap.size (w.setCell ⟨g,10,none⟩ (.int .i64 ((tt:Int) - (ol:Int) + (n:Int)))) V:=by rw [←hV]; exact ⟨rfl,rfl,rfl,Nat.le_of_eq (by simp),fun _ _=>rfl⟩
    have hVs:V.heap.size=w.heap.size:=by rw [←hV]; simp
    have hVk:∀ k,k≠g→V.heap[k]?=w.heap[k]?:=fun k hk=>by rw [←hV]; exact heap_setCell_other (w.drewN nq) ⟨g,10,none⟩ k _ hk
    have kV7:V.cell? ⟨g,7,none⟩=some (.map (some mw)):=by rw [←hV]; exact (h.blk.set 10 (.int .i64 ((tt:Int) - (ol:Int) + (n:Int)))).cell (i:=7) rfl
    have hgV:g < V.heap.size:=by rw [hVs]; exact hgw
    have hgm:mw≠g:=Ne.symm h.dif.2.2.2.2.1
    have hmw:mw < w.heap.size:=h.wri.lt
    have HCl:=Lib.hid (fun (W:World) (hW:W.heap=V.heap)=>clone_bytesN A n c b W (OffW g mi mw ml w) (fun k hk=>by rw [hW,hVs]; exact hk.1) (hsl.keep fun k hk=>by rw [hW]; exact hVk k hk.2.1) (by omega))
    have HM:=Lib.hid (fun (W:World) (hW:Below V.heap.size V W)=>(hf1.keep ((hW.block mw (by rw [hVs]; exact hmw)).trans (hVk mw hgm)):MapIs Tryz.prog 9 W mw s.written.length f))
    have hlen:s.written.length≤1000000000:=by have:=written_few h.ok.wrote; omega
    have hnew:∀ (W:World) (k:Nat),NewS (fun _=>False) V W k→B≤k∧OffW g mi mw ml W k:=fun W k hk=>by
     rcases hk.1 with h1 | h1
     ·exact h1.elim
     ·have:=h.blk.lt; have:=h.inp.lt; have:=h.wri.lt; have:=MapIs.lt h.lok; have:=h.low.1; rw [hVs] at h1
      exact ⟨by omega,hk.2,by omega,by omega,by omega,by omega⟩
    have HNw:=Lib.hid hnew
    have HVs:=Lib.hid hVs
    clear hV hVk h hsl hnew hVs
    go_region_with (go_at_call 105; refine (HCl.out _ (by rfl)).mono ?_; rintro e w2 ⟨A9,c9,rfl,h91,h92,hs9,hb9⟩; have hb9':=of_drew hb9; have hk7:=(hb9'.cell (p:=⟨g,7,none⟩) hgV).trans kV7; obtain ⟨w3,hrun,hm3,hg3⟩:=(HM.out w2 hb9').store Tryz.underlying9 map_file_under (by unfold maxLen; omega) hp (.agg #[.string p,.bool run,.slice A9 n c9]))
    all_goals
     have HE:=Lib.hid (HD.out w2 w3 w3 A9 c9 _ rfl (hbT.trans (hb9'.mono (Nat.le_of_eq HVs.out.symm))) h91 h92 (hs9.more (HNw.out w2)) hm3 hg3 (Below.refl _ _))
     clear hm3 hg3 hs9 hrun
     go_wp2
     go_ret
     exact HE.out
end Go.Proofs.Sm
